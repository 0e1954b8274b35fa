/- Texts of ours, part 7: our library and contracts of functions. -/
import Derived.Test.YtgdfnfffibhkjaaGreatDoorB06
set_option linter.unusedSimpArgs false
set_option linter.unusedVariables false
set_option maxRecDepth 100000
set_option maxHeartbeats 40000000
section
open Go Go.Proofs
namespace Go.Av
theorem zG0 (f:zab):(zbt f).length=2:=by rw [zhD];rfl
theorem zDJ (f:zab):(zbt f).take 2=zbt f:=by rw [zhD];rfl
theorem zum (n:Nat) (l:List zab):(∀r ∈ l.map zbt,∀c ∈ r,Bel n c)=True:=eq_true (by rw [<- zqG];exact znY n l)
theorem zGl (n:Nat) (f:zab):(∀c ∈ zbt f,Bel n c)=True:=eq_true (zrB n f)
attribute [go_sem] zG0 zDJ
attribute [go_sem ↓] zum zGl
open zab
variable {i:Nat}
theorem ziF {l:List zab} (h:i<l.length):zaw (l.take (i+1))=zaw (l.take i)+(nth l i).size:=by
 induction l generalizing i with
 |nil=>simp at h
 |cons x l ih=>
  cases i<;>grind [zaw,zce,za6]
theorem zeO (l:List zab) (i:Nat):zaw (l.take i)<=zaw l:=by
 induction l generalizing i with
 |nil=>grind
 |cons x l ih=>
  cases i<;>grind [zaw]
theorem zit (l:List zab):l.length<=zaw l:=by
 induction l<;>grind [zaw,za1]
theorem zhv (f:zab):f.size=1+zaw f.L+zaw f.R:=by
 cases f<;>grind [size,zab.L,zab.R]
theorem zbS {f:zab} (h:i<f.L.length):(nth f.L i).size<f.size:=zb3 (zah h)
theorem zb5 {f:zab} (h:i<f.R.length):(nth f.R i).size<f.size:=zb4 (zah h)
theorem zjs (f:zab):f.L.length<f.size:=by
 grind [zhv,zit]
theorem zjt (f:zab):f.R.length<f.size:=by
 grind [zhv,zit]
theorem zzQ:∀ (n:Nat) (f:zab),f.size<=n->n<=1099511627776->zav Tryz.prog 53 [zbQ f] (.int f.size):=by
 intro n;induction n with
 |zero=>intro f hf;have:=za1 f;omega
 |succ n ih=>
  intro f hf hn;have e1:=zhv f;have e2:=zjs f;have e3:=zjt f;rw [zbQ,zhD];refine pF Tryz.func53 ?_;refine J0 ?_;refine zNW (zNY (α:=Nat) (λ i=>⟨[(1, .ref 0 0 2 0 0),(3, .int (1+zaw (f.L.take i):Nat)),(4, .int i)], [(0, .rows true 0 2 [[.lst 2 (f.L.map zbt), .lst 2 (f.R.map zbt)]])],1⟩)
   (λ d i=>i+d=f.L.length) ?_ f.L.length 0 ?_) ?_ ?_
  ·intro d i hi hrec;have t1:=zeO f.L i;refine J0 ?_;refine zNX (λ hl=> ?_) (λ hl=> ?_)<;>simp at hl
   ·have hl':i<f.L.length:=by omega
    have t2:=ziF hl';have t3:=zeO f.L (i+1);repeat first|refine wV λ _=>?_|simp [go_sem,hl',zau zbt f.L i hl']
    refine zN0 (ih _ aa aa) dv ?_;refine J0 ?_;refine zNW (hrec (d - 1) aa (i+1) aa) ?_ ac;have t5:(1+(zaw (f.L.take (i+1)):Int))=1+zaw (f.L.take i)+(nth f.L i).size:=aa;simp [go_sem,zaf,t5]
   ·obtain rfl:i=f.L.length:=by omega
    rw [List.take_length] at t1;refine J0 ?_;refine zNW (zNY (α:=Nat) (λ i=>⟨[(1, .ref 0 0 2 0 0),(3, .int (1+(zaw f.L+zaw (f.R.take i)):Nat)),(5, .int i)], [(0, .rows true 0 2 [[.lst 2 (f.L.map zbt), .lst 2 (f.R.map zbt)]])],1⟩)
     (λ d i=>i+d=f.R.length) ?_ f.R.length 0 ?_) ?_ ?_
    ·intro d i hi hrec;have t1:=zeO f.R i;refine J0 ?_;refine zNX (λ hl2=> ?_) (λ hl2=> ?_)<;>simp at hl2
     ·have hl':i<f.R.length:=by omega
      have t2:=ziF hl';have t3:=zeO f.R (i+1);repeat first|refine wV λ _=>?_|simp [go_sem,hl',zau zbt f.R i hl']
      refine zN0 (ih _ aa aa) dv ?_;refine J0 ?_;refine zNW (hrec (d - 1) aa (i+1) aa) ?_ ac;have t5:(1+((zaw f.L:Int)+(zaw (f.R.take (i+1)):Int)))=1+((zaw f.L:Int)+zaw (f.R.take i))+(nth f.R i).size:=aa;simp [go_sem,zaf,t5]
     ·obtain rfl:i=f.R.length:=by omega
      rw [List.take_length] at t1;refine J0 ?_;simp [go_sem,e1]
    ·omega
    ·simp [go_sem,zaf,zaw]
    ·simp
  ·omega
  ·simp [go_sem,zaf,zaw]
  ·simp
variable {a b:zab}
theorem zEg  (h:i<a.L.length) (hl:leq b (nth a.L i)=true):leq a b=false:=by
 grind [zlV,nth]
theorem zEh  (h:i<b.R.length) (hl:leq (nth b.R i) a=true):leq a b=false:=by
 grind [zlV,nth]
theorem zKI  (h1:∀i,i<a.L.length->leq b (nth a.L i)=false) (h2:∀i,i<b.R.length->leq (nth b.R i) a=false):leq a b=true:=by
 grind [zlV,memF]
theorem zt9:∀ (n:Nat) (a b:zab),a.size+b.size<=n->n<=1099511627776->zav Tryz.prog 62 [zbQ a,zbQ b] (.bool (leq a b)):=by
 intro n;induction n with
 |zero=>intro a b hf;have:=za1 a;omega
 |succ n ih=>
  intro a b hf hn;have e2:=zjs a;have e3:=zjt b;have ihL:∀i,i<a.L.length->zav Tryz.prog 62 [zbQ b,zbQ (nth a.L i)] (.bool (leq b (nth a.L i))):=λ i hi=>ih _ _ aB aa;have ihR:∀i,i<b.R.length->zav Tryz.prog 62 [zbQ (nth b.R i),zbQ a] (.bool (leq (nth b.R i) a)):=λ i hi=>ih _ _ aC aa;obtain ⟨r,hr⟩:∃r,r=leq a b:=⟨_,rfl⟩
  rw [<- hr];have fL:∀i,i<a.L.length->leq b (nth a.L i)=true->r=false:=λ i hi h=>hr.trans (zEg hi h);have fR:∀i,i<b.R.length->leq (nth b.R i) a=true->r=false:=λ i hi h=>hr.trans (zEh hi h);have fT:(∀i,i<a.L.length->leq b (nth a.L i)=false)->(∀i,i<b.R.length->leq (nth b.R i) a=false)->r=true:=λ h1 h2=>hr.trans (zKI h1 h2);clear hr;rw [zbQ,zbQ] at *;obtain ⟨ra,hra⟩:∃ra,ra=zbt a:=⟨_,rfl⟩
  obtain ⟨rb,hrb⟩:∃rb,rb=zbt b:=⟨_,rfl⟩
  have hla:ra= [.lst 2 (a.L.map zbt), .lst 2 (a.R.map zbt)]:=by rw [hra,zhD]
  have hlb:rb= [.lst 2 (b.L.map zbt), .lst 2 (b.R.map zbt)]:=by rw [hrb,zhD]
  rw [<- hrb] at ihL;rw [<- hra] at ihR;rw [<- hra,<- hrb];clear hra hrb;have bra:∀n,(∀c ∈ ra,Bel n c)=True:=λ n=>by rw [hla];simp [go_sem]
  have brb:∀n,(∀c ∈ rb,Bel n c)=True:=λ n=>by rw [hlb];simp [go_sem]
  have lra:ra.length=2:=af;have lrb:rb.length=2:=af;have ta:ra.take 2=ra:=af;have tb:rb.take 2=rb:=af;have ca:cel ra 0= .lst 2 (a.L.map zbt):=by rw [hla];rfl
  have cb:cel rb 1= .lst 2 (b.R.map zbt):=by rw [hlb];rfl
  refine pF Tryz.func62 ?_;refine J2 lra lrb ?_;refine zNW (zNY (α:=Nat) (λ i=>⟨[(2, .ref 0 0 2 0 0),(3, .ref 1 0 2 0 0),(5, .int i)], [(0, .rows true 0 2 [ra]),(1, .rows true 0 2 [rb])],2⟩)
   (λ d i=>i+d=a.L.length∧∀j,j<i->leq b (nth a.L j)=false) ?_ a.L.length 0 ?_) ?_ ?_
  ·rintro d i ⟨hi,hj⟩ hrec;refine J3 lra lrb ca ?_;refine zNX (λ hl=> ?_) (λ hl=> ?_)<;>simp at hl
   ·have hl':i<a.L.length:=by omega
    repeat first|refine wV λ _=>?_|simp [go_sem,lra,lrb,ca,hl',zau zbt a.L i hl']
    refine zN5 (ihL i hl') (by simp [go_sem,bra,brb]) ?_;repeat first|refine wV λ _=>?_|simp [go_sem,lra,lrb,ca,hl',zau zbt a.L i hl']
    refine zNX (λ hq=> ?_) (λ hq=> ?_)
    ·repeat first|refine wV λ _=>?_|simp [go_sem,fL i hl' hq]
    ·refine J0 ?_;refine zNW (hrec (d - 1) aa (i+1) ⟨aa,λ j hj2=> ?_⟩) ?_ ac
     ·grind
     ·simp [go_sem,zaf,bra,brb]
   ·obtain rfl:i=a.L.length:=by omega
    refine J0 ?_;refine zNW (zNY (α:=Nat) (λ i=>⟨[(2, .ref 0 0 2 0 0),(3, .ref 1 0 2 0 0),(6, .int i)], [(0, .rows true 0 2 [ra]),(1, .rows true 0 2 [rb])],2⟩)
     (λ d i=>i+d=b.R.length∧∀j,j<i->leq (nth b.R j) a=false) ?_ b.R.length 0 ?_) ?_ ?_
    ·rintro d i ⟨hi,hk⟩ hrec;refine J3 lra lrb cb ?_;refine zNX (λ hl=> ?_) (λ hl=> ?_)<;>simp at hl
     ·have hl':i<b.R.length:=by omega
      repeat first|refine wV λ _=>?_|simp [go_sem,lra,lrb,cb,hl',zau zbt b.R i hl']
      refine zN5 (ihR i hl') (by simp [go_sem,bra,brb]) ?_;repeat first|refine wV λ _=>?_|simp [go_sem,lra,lrb,cb,hl',zau zbt b.R i hl']
      refine zNX (λ hq=> ?_) (λ hq=> ?_)
      ·repeat first|refine wV λ _=>?_|simp [go_sem,fR i hl' hq]
      ·refine J0 ?_;refine zNW (hrec (d - 1) aa (i+1) ⟨aa,λ j hj2=> ?_⟩) ?_ ac
       ·grind
       ·simp [go_sem,zaf,bra,brb]
     ·obtain rfl:i=b.R.length:=by omega
      repeat first|refine wV λ _=>?_|simp [go_sem,fT hj hk]
    ·grind
    ·simp [go_sem,zaf,bra,brb]
    ·simp
  ·grind
  ·simp [go_sem,zaf,bra,brb]
  ·simp
end Go.Av
end
section
open Go Go.Proofs
namespace Go.Av
theorem zzK (a b:StD) (ha:zbc a.p) (hb:zbc b.p):zav Tryz.prog 268 [.agg (zaO a), .agg (zaO b)] (.v (.bool (decide (a=b)))):=by
 refine pF Tryz.func268 ?_;have hC:=zcm _ _ ha hb;have he:=zh3 (p:=a.p) (q:=b.p);obtain ⟨pa,ka,ca,ta⟩:=a;obtain ⟨pb,kb,cb,tb⟩:=b;simp only at hC he;refine J0 ?_;refine zN4 _ (λ _=>hC) ae ?_;refine J0 ?_;grind [zN9]
theorem zzI (s:StD) (b:Bool):zav Tryz.prog 269 [.agg (zaO s), .v (.bool b)] (zdJ (zcy s b)):=by
 refine pF Tryz.func269 ?_;cases b
 ·repeat first|refine wV λ _=>?_|simp [go_sem,zcy]
  exact frX
 ·repeat first|refine wV λ _=>?_|simp [go_sem,zcy]
  exact frX
theorem zxe (g:zaa) (hg:GOk g) (s:StD) (hs:zjk g s) (n:Int):zav Tryz.prog 270 [.agg (zad g), .agg (zaO s), .int n] (zdJ (zmf g.board s n)):=by
 refine pF Tryz.func270 ?_;have hL:=zzD g.board hg.board s.p.side n s.cursor;have hlm:=zj3 hg.board (side:=s.p.side) (d:=n) (c:=s.cursor);have hll:=zso (b:=g.board) (side:=s.p.side) (d:=n) (c:=s.cursor);have c9:=hg.c9;have c1:=hg.c1;have hal:=hs.p.al;rw [show g.board.cells=g.cells from rfl] at hlm hll;unfold zmf;generalize zor g.board s.p.side n s.cursor=line at *;generalize hR:zb9 s line=R;refine J0 ?_;refine aP hL ?_;refine J0 ?_;refine zNW (zNY (α:=Nat×List StD) (λ a=>⟨[(4, .ref 1 0 8 0 0),(7, .sl 2 a.2.length 8 0 a.2.length),(8,zaG line),(9, .int a.1)], [(1, .rows true 0 8 [zaO s]),(2, .rows true a.2.length 8 (a.2.map zaO))],3⟩)
  (λ d a=>a.1+d=line.length∧a.2.length=a.1∧R=a.2++zb9 s (line.drop a.1)) ?_ line.length (0, []) ?_) ?_ ?_
 ·rintro d ⟨i,out⟩ ⟨i1,i2,i3⟩ hrec;simp only at i1 i2 i3;refine J0 ?_;refine zNX (λ hi=> ?_) (λ hi=> ?_)<;>simp at hi
  ·have hli:=hlm _ (zah hi);have hlt:(nth line i).toNat<s.p.at_.length:=aa;rw [zaV hi,zb9] at i3;refine J2 hi hlt ?_;refine zNX (λ hz=> ?_) (λ hz=> ?_)<;>simp at hz
   ·rw [if_neg af] at i3;refine J0 ?_;rw [i3];exact frX
   ·rw [if_pos af] at i3;refine J0 ?_;refine zNW (hrec (d - 1) aa (i+1,out++ [{ s with cursor:=nth line i}]) ⟨aa,af,af⟩) ?_ ac;simp [go_sem,zaf]
  ·rw [List.drop_eq_nil_of_le hi,zb9] at i3;refine J0 ?_;rw [i3];exact frX
 ·simp [hR]
 ·simp [go_sem,zaf]
 ·simp
theorem zzL (g:zaa) (hg:GOk g) (s:StD) (hs:zjk g s):zav Tryz.prog 271 [.agg (zad g), .agg (zaO s)] (zdJ (zpK g s)):=by
 refine pF Tryz.func271 ?_;have hal:=hs.p.al;have hc0:=hs.c0;have hc1:=hs.c1;have hcur:s.cursor.toNat<s.p.at_.length:=aa;have hO:=zll (nth s.p.at_ s.cursor.toNat);have hat:=hs.p.at (i:=s.cursor.toNat) aa;have hman:=zbn hat.1 hat.2 hg.k6;have hcp:=zgo s.p (hs.p.fits hg);unfold zpK;generalize hm:zat (nth s.p.at_ s.cursor.toNat)=m at *;obtain ⟨mk,ms⟩:=m;simp only [Prod.mk.injEq] at hman;refine J1 hcur ?_;refine aP hO ?_;refine J0 ?_;refine zNX (λ hc=> ?_) (λ hc=> ?_)<;>simp at hc
 ·rw [if_pos hc];refine J0 ?_;exact frX
 ·rw [if_neg aa];refine J0 ?_;refine zN1 hcp ae ?_;have hmk:mk.toNat<g.kinds.length:=aa;refine J2 hcur hmk ?_;refine zNX (λ hk=> ?_) (λ hk=> ?_)
  ·rw [if_pos hk];have hl0:=hs.p.h0.len;have hl1:=hs.p.h1.len;rcases hs.p.s with hsd|hsd
   ·have hmk0:mk.toNat<s.p.h0.length:=by omega
    have hmk':0<=mk:=aa;have hv:=hs.p.h0.v _ hmk0;refine J3 hsd hmk0 hcur ?_;refine zNX (λ h8=> ?_) (λ h8=> ?_)<;>simp at h8
    ·rw [if_pos dE];refine J0 ?_;exact frX
    ·rw [if_neg dE];repeat first|refine wV λ _=>?_|simp [go_sem,hsd,zae.withHand,zae.hand,clr]
     (first|done|exact dpX)
   ·have hmk0:mk.toNat<s.p.h1.length:=by omega
    have hmk':0<=mk:=aa;have hv:=hs.p.h1.v _ hmk0;refine J3 hsd hmk0 hcur ?_;refine zNX (λ h8=> ?_) (λ h8=> ?_)<;>simp at h8
    ·rw [if_pos dE];refine J0 ?_;exact frX
    ·rw [if_neg dE];repeat first|refine wV λ _=>?_|simp [go_sem,hsd,zae.withHand,zae.hand,clr]
     (first|done|exact dpX)
  ·rw [if_neg af];repeat first|refine wV λ _=>?_|simp [go_sem,clr]
   (first|done|exact dpX)
theorem zzJ (g:zaa) (hg:GOk g) (s:StD) (hs:zjk g s) (n:Int):zav Tryz.prog 272 [.agg (zad g), .agg (zaO s), .int n] (zdJ (zpB g s n)):=by
 refine pF Tryz.func272 ?_;have hT:=zrd g.board hg.board s.p.side n s.cursor;refine J0 ?_;refine aP hT ?_;have hal:=hs.p.al;have hc0:=hs.c0;have hc1:=hs.c1;have hcur:s.cursor.toNat<s.p.at_.length:=aa;have hcp:=zgo s.p (hs.p.fits hg);have hto:=ziJ hg.board s.p.side n s.cursor;rw [show g.board.cells=g.cells from rfl] at hto;unfold zpB;generalize toB g.board s.p.side n s.cursor=to at *;by_cases ht:to<0
 ·rw [if_pos (.inr (.inl ht))];have ht0:to.toNat=0:=aa;have h0l:0<s.p.at_.length:=aa;refine J4 hcur ht ht0 h0l ?_;exact frX
 ·have htl:to.toNat<s.p.at_.length:=by omega
  have ht':0<=to:=aa;refine J3 hcur ht htl ?_;refine zNX (λ hc=> ?_) (λ hc=> ?_)<;>simp at hc
  ·rw [if_pos aa];refine J0 ?_;exact frX
  ·rw [if_neg aa];refine J1 hcur ?_;refine zN1 hcp ae ?_;refine J2 hcur htl ?_;(first|done|exact dpX)
theorem zBI (l:List StD):zhw l []=l:=rfl
variable {c i j k n:Nat}
theorem zxl (l more:List StD) (h:i<more.length):zhw l (more.take (i+1))=if nth more i ∈ zhw l (more.take i) then zhw l (more.take i) else zhw l (more.take i)++ [nth more i]:=by
 grind [List.take_add_one,zhw,nth]
theorem znR:∀ (more l:List StD),l.length<=(zhw l more).length∧(zhw l more).length<=l.length+more.length
 | [],l=>di
 |s::more,l=>by
  have e:zhw l (s::more)=zhw (if s ∈ l then l else l++ [s]) more:=rfl;rw [e];by_cases h:s ∈ l
  ·have:=znR more l;rw [if_pos h];simp;omega
  ·have:=znR more (l++ [s]);rw [if_neg h];simp at this ⊢;omega
theorem zqu {P:StD->Prop}:∀ {more l:List StD},(∀s ∈ l,P s)->(∀s ∈ more,P s)->∀s ∈ zhw l more,P s
 | [],l,h, _=>h
 |s::more,l,h,h'=>by
  have e:zhw l (s::more)=zhw (if s ∈ l then l else l++ [s]) more:=rfl;rw [e];refine zqu (λ t ht=> ?_) (λ t ht=>h' t (List.mem_cons_of_mem _ ht));grind
theorem zDc (l more:List StD) (hl:l.length+more.length<=17179869184) (h1:∀s ∈ l,zbc s.p) (h2:∀s ∈ more,zbc s.p):
  zcj Tryz.prog 224 [.sl 0 l.length 8 0 l.length,zdJ more] [(0, .rows true l.length 8 (l.map zaO))] 1 (.sl 0 (zhw l more).length 8 0 (zhw l more).length) [(0, .rows true (zhw l more).length 8 ((zhw l more).map zaO))] 1:=by
 unfold zcj;refine aF Tryz.func224 ?_;refine J0 ?_;refine zNW (zNY (α:=Nat×List StD) (λ a=>⟨[(0, .sl 0 a.2.length 8 0 a.2.length),(1,zdJ more),(5, .int a.1)], [(0, .rows true a.2.length 8 (a.2.map zaO))],1⟩)
  (λ d a=>a.1+d=more.length∧a.2=zhw l (more.take a.1)) ?_ more.length (0,l) ?_) ?_ ?_
 ·rintro d ⟨i,out⟩ ⟨i1,i2⟩ hrec;simp only at i1 i2;have hol:=znR (more.take i) l;rw [<- i2] at hol;have hof:∀s ∈ out,zbc s.p:=by rw [i2];exact zqu h1 (λ s hs=>h2 s (List.mem_of_mem_take hs))
  refine J0 ?_;refine zNX (λ hi=> ?_) (λ hi=> ?_)<;>simp at hi
  ·have htl:(more.take i).length=i:=by grind
   have hfi:=h2 _ (zah hi);have hsu:=zxl l more hi;rw [<- i2] at hsu;refine J0 ?_;refine zNW (zNY (α:=Nat) (λ k=>⟨[(0, .sl 0 out.length 8 0 out.length),(1,zdJ more),(5, .int i),(6, .v (.bool (decide (nth more i ∈ out.take k)))),(7, .int k)], [(0, .rows true out.length 8 (out.map zaO))],1⟩)
    (λ d k=>k+d=out.length) ?_ out.length 0 ?_) ?_ ?_
   ·rintro d2 k k1 hrec2;refine J0 ?_;refine zNX (λ hk=> ?_) (λ hk=> ?_)<;>simp at hk
    ·have hfk:=hof _ (zah hk);have htk:out.take (k+1)=out.take k++ [nth out k]:=c8;refine J2 hi hk ?_;refine zN2 _ (λ _=>zzK _ _ hfk hfi) ae ?_;refine J2 hi hk ?_;refine zNW (hrec2 (d2 - 1) aa (k+1) aa) ?_ ac;simp [go_sem,zaf,htk,eq_comm (a:=nth more i) (b:=nth out k)]
    ·have hkl:k=out.length:=by omega
     subst hkl;refine J0 ?_;by_cases hm:nth more i ∈ out
     ·rw [if_pos hm] at hsu;refine J1 hm ?_;refine zNW (hrec (d - 1) aa (i+1,out) ⟨aa,hsu.symm⟩) ?_ ac;simp [go_sem,zaf]
     ·rw [if_neg hm] at hsu;refine J2 hm hi ?_;refine zNW (hrec (d - 1) aa (i+1,out++ [nth more i]) ⟨aa,hsu.symm⟩) ?_ ac;simp [go_sem,zaf]
   ·omega
   ·simp [go_sem,zaf]
   ·simp
  ·have hil:i=more.length:=by omega
   subst hil;rw [List.take_length] at i2;rw [<- i2];refine J0 ?_;simp [go_sem,zaf]
 ·simp [zBI]
 ·simp [go_sem,zaf]
 ·simp
theorem zzH (g:zaa) (hg:GOk g) (s:StD) (hs:zjk g s) (x:Int×Int) (hx:zfn g.next.length g.kinds.length g.rights x):
  zav Tryz.prog 225 [.agg (zad g), .agg (zaO s), .agg (zbT x)] (zdJ (zck g s x)):=by
 refine pF Tryz.func225 ?_;have hal:=hs.p.al;have hc0:=hs.c0;have hc1:=hs.c1;have hcur:s.cursor.toNat<s.p.at_.length:=aa;have hat:=hs.p.at (i:=s.cursor.toNat) aa;have hO:=zll (nth s.p.at_ s.cursor.toNat);have hTo:=λ n=>zrd g.board hg.board s.p.side n s.cursor;have hOn:=λ u b=>zzI u b;have hSl:=λ n=>zxe g hg s hs n;have hTk:=zzL g hg s hs;have hPu:=λ n=>zzJ g hg s hs n;have r0:=hg.r0;have r4:=hg.r4;obtain ⟨op,n⟩:=x;obtain ⟨xo,xd,xz,xk,xr⟩:=hx;simp only at xo xd xz xk xr;unfold zck;generalize hm:zat (nth s.p.at_ s.cursor.toNat)=m at *;obtain ⟨mk,ms⟩:=m;refine J1 hcur ?_;refine aP hO ?_;rcases (show op=1∨op=2∨op=3∨op=4∨op=5∨op=6∨op=7∨op=8∨op=9∨op=10 by omega) with rfl|rfl|rfl|rfl|rfl|rfl|rfl|rfl|rfl|rfl
 ·refine J0 ?_;refine aP (hTo n) ?_;refine J0 ?_;refine aP (hOn { s with cursor:=toB g.board s.p.side n s.cursor} _) ?_;exact K0
 ·refine J0 ?_;refine aP (hSl n) ?_;exact K0
 ·refine J0 ?_;refine aP (hOn s _) ?_;exact K0
 ·refine J0 ?_;refine aP (hOn s _) ?_;exact K0
 ·refine J0 ?_;refine aP (hOn s _) ?_;exact K0
 ·refine J0 ?_;refine aP hTk ?_;exact K0
 ·refine J0 ?_;refine aP (hPu n) ?_;exact K0
 ·refine J0 ?_;exact frX
 ·have hn:=xr aa;refine J0 ?_;refine dP (hOn s _) ?_;exact K0
 ·have hn:=xr aa;have hpn:=zq1 hn.1 (show n<=4 by omega);refine J0 ?_;exact frX
def zdp (g:zaa) (p:zae) (cell:Int) (prog:List (Int×Int)) (n:Nat):List StD:=(prog.take n).foldl (zhH g) [zf9 p cell]
theorem znB (g:zaa) (p:zae) (cell:Int) (prog:List (Int×Int)):zdp g p cell prog 0= [zf9 p cell]:=rfl
theorem znA (g:zaa) (p:zae) (cell:Int) (prog:List (Int×Int)) (h:n<prog.length):zdp g p cell prog (n+1)=zhH g (zdp g p cell prog n) (nth prog n):=by
 grind [zdp,List.take_add_one,nth]
theorem znz (g:zaa) (p:zae) (cell:Int) (prog:List (Int×Int)):zdp g p cell prog prog.length=zhr g p cell prog:=by
 grind [zdp,zhr]
def zgf (g:zaa) (now:List StD) (x:Int×Int) (n:Nat):List StD:=(now.take n).foldl (λ next s=>zhw next (zck g s x)) []
theorem zu3 (g:zaa) (now:List StD) (x:Int×Int):zgf g now x 0= []:=rfl
theorem zpA (g:zaa) (now:List StD) (x:Int×Int) (h:n<now.length):zgf g now x (n+1)=zhw (zgf g now x n) (zck g (nth now n) x):=by
 grind [zgf,List.take_add_one,nth]
theorem zsS (g:zaa) (now:List StD) (x:Int×Int):zgf g now x now.length=zhH g now x:=by
 grind [zgf,zhH]
variable {cell side:Int} {x:Int×Int} {now:List StD} {g:zaa}
theorem zwD  (hg:GOk g) (hx:zfn g.next.length g.kinds.length g.rights x) (hn:∀s ∈ now,zjk g s∧s.p.side=side):
  ∀n,n<=now.length->(∀s ∈ zgf g now x n,zjk g s∧s.p.side=side)∧(zgf g now x n).length<=10 * n:=by
 intro n;induction n with
 |zero=>grind [zgf]
 |succ n ih=>
  intro h;obtain ⟨h1,h2⟩:=ih aa;have hs:=hn _ (zah (show n<now.length by omega));rw [zpA g now x aa];refine ⟨zqu h1 (λ s hs'=> ?_), ?_⟩;all_goals grind [zjf,znR,ztd]
variable {p:zae}
theorem zkl  (hg:GOk g) (hp:POk g p) (h0:0<=cell) (h1:cell<g.cells) (hm:0<=(zat (nth p.at_ cell.toNat)).1):zjk g (zf9 p cell)∧(zf9 p cell).p.side=p.side:=by
 have hat:=hp.at (i:=cell.toNat) aa;have hk:=zbn hat.1 hat.2 hg.k6;refine ⟨⟨hp.clr _,h0,h1, ?_⟩,rfl⟩;grind [zf9]
variable {prog:List (Int×Int)}
theorem zoN  (hg:GOk g) (hp:POk g p) (h0:0<=cell) (h1:cell<g.cells) (hm:0<=(zat (nth p.at_ cell.toNat)).1)
   (hpr:∀x ∈ prog,zfn g.next.length g.kinds.length g.rights x):
  ∀n,n<=prog.length->(∀s ∈ zdp g p cell prog n,zjk g s∧s.p.side=p.side)∧(zdp g p cell prog n).length<=10 ^ n:=by
 intro n;induction n with
 |zero=>intro _;rw [znB];exact ⟨λ s hs=>by grind [zkl],ac⟩
 |succ n ih=>
  intro h;obtain ⟨k1,k2⟩:=ih aa;rw [znA g p cell prog aa,<- zsS];obtain ⟨j1,j2⟩:=zwD hg (hpr _ (zah (show n<prog.length by omega))) k1 _ (Nat.le_refl _);grind
theorem zq0  (h:n<=8):10 ^ n<=100000000:=by
 have:=Nat.pow_le_pow_right (n:=10) aa h;exact this
def stR (g:zaa) (p:zae) (cell:Int) (prog:List (Int×Int)) (n:Nat):List (List AV):=(List.range n).map λ j=> [zdJ (zdp g p cell prog j)]
theorem zLd (g:zaa) (p:zae) (cell:Int) (prog:List (Int×Int)) (n:Nat):stR g p cell prog (n+1)=stR g p cell prog n++ [[zdJ (zdp g p cell prog n)]]:=by simp [stR,List.range_succ]
@[go_sem] theorem zIL (g:zaa) (p:zae) (cell:Int) (prog:List (Int×Int)) (n:Nat):(stR g p cell prog n).length=n:=by simp [stR]
@[go_sem ↓] theorem bel_stR {m:Nat}:(∀r ∈ stR g p cell prog n,∀c ∈ r,Bel m c)=True:=by
 refine eq_true λ r hr c hc=> ?_;obtain ⟨j, _,rfl⟩:=List.mem_map.1 hr;grind [zz7,zdJ]
theorem zNi (g:zaa) (p:zae) (cell:Int) (prog:List (Int×Int)) (h:j<n):nth (stR g p cell prog n) j= [zdJ (zdp g p cell prog j)]:=by
 grind [stR,nth]
theorem zGk  (l:List StD):Bel n (zdJ l):=of_eq_true zz7
structure zd8 (g:zaa) (p:zae) (cell i:Int):Prop where
 c0:0<=cell
 c1:cell<g.cells
 man:0<=(zat (nth p.at_ cell.toNat)).1
 side:(zat (nth p.at_ cell.toNat)).2=p.side
 i0:0<=i
 i1:i<(nth g.kinds (zat (nth p.at_ cell.toNat)).1.toNat).progs.length
structure TkD where
 p:zae
 kind:Int
 took:Bool
 deriving DecidableEq
instance:Inhabited TkD:=⟨⟨default,0,false⟩⟩
def zas (p:zae) (s:Int):zae:={ p with side:=s}
def TkD.sd (t:TkD) (s:Int):TkD:={ t with p:=zas t.p s}
theorem zDb (g:zaa) (hg:GOk g) (p:zae) (hp:POk g p) (cell i:Int) (hc:zd8 g p cell i):
  zav Tryz.prog 178 [.agg (zad g), .agg (zag p), .int cell, .int i]
   (.agg [.lst 1 (stR g p cell (zb2 g p cell i) ((zb2 g p cell i).length+1)), .int 0]):=by
 refine pF Tryz.func178 ?_;have hal:=hp.al;obtain ⟨c0,c1,cm,cs,i0,i1⟩:=hc;have hcur:cell.toNat<p.at_.length:=aa;have hat:=hp.at (i:=cell.toNat) aa;have hO:=zll (nth p.at_ cell.toNat);have hman:=zbn hat.1 hat.2 hg.k6;have hcp:=zgo p (hp.fits hg);have hV:=zkx g bi ⟨hg.r0,bZ⟩ p (hp.fits hg);rw [zpz.2 hp] at hV;have hkl:(zat (nth p.at_ cell.toNat)).1.toNat<g.kinds.length:=by
  grind
 have hil:i.toNat<(nth g.kinds (zat (nth p.at_ cell.toNat)).1.toNat).progs.length:=aa;have hpg:=hg.pr _ (zah hkl) _ (zah hil);have hst:=λ n hn=>zoN hg hp c0 c1 cm (prog:=zb2 g p cell i) hpg.st n hn;have hz:=znB g p cell (zb2 g p cell i);have hsu:=λ n hn=>znA g p cell (zb2 g p cell i) (n:=n) hn;have hR:=λ n=>zLd g p cell (zb2 g p cell i) n;have hp8:=hpg.len;have hpst:=hpg.st;have hpe:zb2 g p cell i=nth (nth g.kinds (zat (nth p.at_ cell.toNat)).1.toNat).progs i.toNat:=rfl;rw [<- hpe] at hp8 hpst;obtain ⟨prog,hprog⟩:∃q,q=zb2 g p cell i:=⟨_,rfl⟩
 rw [<- hprog] at hst hz hsu hR hp8 hpst hpe ⊢;generalize hm:zat (nth p.at_ cell.toNat)=m at *;obtain ⟨mk,ms⟩:=m;simp only at cm cs i1 hkl hil hpe;refine J0 ?_;refine aP hV ?_;refine J0 ?_;refine FxF ?_;refine J1 hcur ?_;refine aP hO ?_;refine J2 hkl hil ?_;refine zNX (λ hF=>by simp at hF;omega) (λ hF=> ?_);clear hF;refine J0 ?_;refine zOp 28 (by rfl) (hcp) ai ae ae (λ _=>zaL.refl _ _ _ _) ae ae ?_;((repeat (first|with_reducible (first|refine wL λ _=>?_|refine wD λ _=>?_|refine wZ ?_)|simp [go_sem]));refine zOA ah ?_)
 refine J3 hcur hkl hil ?_;rw [<- hpe];have hsz:∀n,n<=prog.length->(zdp g p cell prog n).length<=100000000:=λ n hn=>Nat.le_trans (hst n hn).2 (zq0 aa);have hst0:zdJ (zdp g p cell prog 0)= .lst 8 [[.lst 1 ((p.at_.map zd2).set cell.toNat [.int 0]),zaG p.h0,zaG p.h1, .int p.rights, .int p.side, .int mk, .int cell, .v (.bool false)]]:=by
  grind [zdJ,zf9,zaO,clr,zaG,zd2,List.map_set]
 have hR0:stR g p cell prog 1= [[zdJ (zdp g p cell prog 0)]]:=rfl;refine zNW (zNY (α:=Nat) (λ k=>⟨[(4, .ref 0 0 9 0 0),(8, .ref 2 0 2 0 0),(11, .ref 146 0 2 0 0),(12,zdJ (zdp g p cell prog k)),(13,zaT prog),(14, .int k)],
   [(0, .rows true 0 9 [zad g]),(2, .rows true 0 2 [[AV.nils, .int 0]]),(142, .rows true k 1 (stR g p cell prog (k+1))),(146, .rows true 0 2 [[.sl 142 k 1 0 (k+1), .int 0]])],148⟩)
  (λ d k=>k+d=prog.length) ?_ prog.length 0 ?_) ?_ ?_
 ·rintro d k k1 hrec;refine J0 ?_;refine zNX (λ hk=> ?_) (λ hk=> ?_)<;>simp at hk
  ·have hkk:=hst k aa;have hks:=hsz k aa;have hks':=hsz (k+1) aa;have hsk:=hsu k hk;have hxs:=hpst _ (zah hk);have hpo:=λ n hn=>zwD hg hxs hkk.1 n hn;have hpa:=zsS g (zdp g p cell prog k) (nth prog k);have hpz:=zu3 g (zdp g p cell prog k) (nth prog k);have hps:=λ n hn=>zpA g (zdp g p cell prog k) (nth prog k) (n:=n) hn;rw [<- hsk] at hpa;obtain ⟨now,hnow⟩:∃now,now=zdp g p cell prog k:=⟨_,rfl⟩
   rw [<- hnow] at hkk hks hpo hpa hpz hps ⊢;obtain ⟨x,hx⟩:∃x,x=nth prog k:=⟨_,rfl⟩
   rw [<- hx] at hxs hpo hpa hpz hps;refine J0 ?_;refine zNW (zNY (α:=Nat) (λ n=>⟨[(4, .ref 0 0 9 0 0),(8, .ref 2 0 2 0 0),(11, .ref 146 0 2 0 0),(12,zdJ now),(13,zaT prog),(14, .int k),(15, .sl 148 (zgf g now x n).length 8 0 (zgf g now x n).length),(16, .int n)],
     [(0, .rows true 0 9 [zad g]),(2, .rows true 0 2 [[AV.nils, .int 0]]),(142, .rows true k 1 (stR g p cell prog (k+1))),(146, .rows true 0 2 [[.sl 142 k 1 0 (k+1), .int 0]]),(148, .rows true (zgf g now x n).length 8 ((zgf g now x n).map zaO))],149⟩)
    (λ d n=>n+d=now.length) ?_ now.length 0 ?_) ?_ ?_
   ·rintro d2 n n1 hrec2;refine J0 ?_;refine zNX (λ hn=> ?_) (λ hn=> ?_)<;>simp at hn
    ·have hsn:=hkk.1 _ (zah hn);have hpn:=hps n hn;have hpoN:=hpo n aa;have hpoS:=hpo (n+1) aa;have hSt:=zzH g hg (nth now n) hsn.1 x hxs;have hsl:=ztd hg (nth now n) x;have hso:=zjf hg hsn.1 hxs;have hAd:=zDc (zgf g now x n) (zck g (nth now n) x) aa (λ s hs=>(hpoN.1 s hs).1.p.fits hg) (λ s hs=>(hso s hs).1.p.fits hg);rw [<- hpn] at hAd;repeat first|refine wV λ _=>?_|simp [go_sem,hn,hk,<- hx]
     refine dP hSt ?_;refine J0 ?_;refine zOC (o:=148) hAd rfl (of_eq_true zBS) (of_eq_true zBS) (λ _=> .cons (.sl rfl) (.cons (.same (zGk _)) .nil)) ae (λ n₁ hn₁=>by simp [go_sem,hn₁]) (λ _=> .sl rfl) (.inr ⟨_, _, _, _,rfl⟩) ?_;refine J0 ?_;refine zNW (hrec2 (d2 - 1) aa (n+1) aa) ?_ ac;simp [go_sem,zaf]
    ·have hnl:n=now.length:=by omega
     subst hnl;rw [hpa];refine J0 ?_;have hRk:=hR (k+1);refine zNW (hrec (d - 1) aa (k+1) aa) ?_ ac;simp [go_sem,zaf,hRk];refine ⟨?_,zaJ (.refl _) (.cons (.cons ?_ .nil) .nil)⟩<;>exact frX
   ·omega
   ·simp [go_sem,zaf,hpz]
   ·simp
  ·have hkl':k=prog.length:=by omega
   subst hkl';refine J0 ?_;exact zaq rfl (by grind [stR]) ap (by grind [zIL])
 ·omega
 ·simp [go_sem,zaf,hR0];rw [show AV.lst 8 (List.map zaO (zdp g p cell prog 0))= _ from hst0];refine ⟨?_, ?_⟩
  ·(first|done|exact dpX)
  ·(first|done|exact dpX)
 ·simp
theorem zrh (a b:zca) (ha:zbc a.pos) (hb:zbc b.pos):zav Tryz.prog 226 [.agg (zbm a), .agg (zbm b)] (.v (.bool (zyw a b))):=by
 refine pF Tryz.func226 ?_;have hC:=zcm _ _ ha hb;unfold zyw;obtain ⟨pa,ta⟩:=a;obtain ⟨pb,tb⟩:=b;simp only at hC ⊢;generalize zbp pa pb=c at *;refine J0 ?_;refine aP hC ?_;by_cases c1:c<0
 ·exact K1 c1
 ·by_cases c2:c=0
  ·subst c2;cases ta<;>cases tb<;>(repeat (first|refine wV λ _=>?_|simp [go_sem]))
  ·cases ta<;>cases tb<;>(repeat (first|refine wV λ _=>?_|simp [go_sem,c1,c2]))
def ztO (x:zca) (l:List zca) (dn:Bool):List zca:=if dn then l else zdl x l
theorem zvD (l:List zca) (x:zca) (hl:l.length<=17179869184) (h1:∀o ∈ l,zbc o.pos) (h2:zbc x.pos):zav Tryz.prog 179 [zjT l, .agg (zbm x)] (zjT (zdl x l)):=by
 refine pF Tryz.func179 ?_;obtain ⟨R,hR⟩:∃R,R=zdl x l:=⟨_,rfl⟩
 rw [<- hR];refine J0 ?_;refine zNW (zNY (α:=Nat×List zca×Bool) (λ a=>⟨[(0,zjT l),(3, .ref 0 0 6 0 0),(5, .sl 1 a.2.1.length 6 0 a.2.1.length),(6, .v (.bool a.2.2)),(7, .int a.1)], [(0, .rows true 0 6 [zbm x]),(1, .rows true a.2.1.length 6 (a.2.1.map zbm))],2⟩)
  (λ d a=>a.1+d=l.length∧a.2.1.length<=a.1+a.2.2.toNat∧R=a.2.1++ztO x (l.drop a.1) a.2.2) ?_ l.length (0, [],false) ?_) ?_ ?_
 ·rintro d ⟨i,out,dn⟩ ⟨i1,i2,i3⟩ hrec;simp only at i1 i2 i3;refine J0 ?_;refine zNX (λ hi=> ?_) (λ hi=> ?_)<;>simp at hi
  ·have f1:=h1 _ (zah hi);have hL1:=zrh (nth l i) x f1 h2;have hL2:=zrh x (nth l i) h2 f1;rw [zaV hi] at i3;cases dn
   ·simp only [ztO,zdl] at i3;simp only [Bool.toNat_false] at i2;refine J1 hi ?_;refine zN2 _ (λ _=>hL1) ae ?_;refine J1 hi ?_;by_cases l1:zyw (nth l i) x=true
    ·rw [if_pos l1] at i3;refine J2 hi l1 ?_;refine zNW (hrec (d - 1) aa (i+1,out++ [nth l i],false) ⟨aa,af,by grind [ztO]⟩) ?_ ac;simp [go_sem,zaf]
    ·rw [if_neg l1] at i3;refine J2 hi l1 ?_;refine dP hL2 ?_;refine J1 hi ?_;by_cases l2:zyw x (nth l i)=true
     ·rw [if_pos l2] at i3;refine J2 hi l2 ?_;refine zNW (hrec (d - 1) aa (i+1,out++ [x]++ [nth l i],true) ⟨aa,af,by grind [ztO]⟩) ?_ ac;simp [go_sem,zaf]
     ·rw [if_neg l2] at i3;refine J2 hi l2 ?_;refine zNW (hrec (d - 1) aa (i+1,out++ [nth l i],true) ⟨aa,af,by grind [ztO]⟩) ?_ ac;simp [go_sem,zaf]
   ·simp only [ztO,if_true] at i3;simp only [Bool.toNat_true] at i2;refine J1 hi ?_;refine dGC.skip (.v (.bool true)) ?_;refine J1 hi ?_;refine zNW (hrec (d - 1) aa (i+1,out++ [nth l i],true) ⟨aa,af,by grind [ztO]⟩) ?_ ac;simp [go_sem,zaf]
  ·rw [List.drop_eq_nil_of_le hi] at i3;cases dn
   ·simp [ztO,zdl] at i3;simp only [Bool.toNat_false] at i2;refine J0 ?_;rw [i3];exact frX
   ·simp [ztO] at i3;simp only [Bool.toNat_true] at i2;refine J0 ?_;rw [i3];exact frX
 ·simp [ztO,hR]
 ·simp [go_sem,zaf]
 ·simp
theorem zzF (a b:zae) (ha:zbc a) (hb:zbc b):zav Tryz.prog 128 [.agg (zag a), .agg (zag b)] (.v (.bool (decide (zbp a b=0)))):=by
 refine pF Tryz.func128 ?_;refine J0 ?_;refine aP (zcm a b ha hb) ?_;exact K0
attribute [go_sem ↓] zDq zJU List.forall_mem_append
theorem zxv {x:AV} (h:Bel 0 x):∀c ∈ [x],Bel 0 c:=af
theorem zcb  (l:List zae):Bel n (zaC l):=of_eq_true zGf
theorem zHn:∀ (f:Nat) (l:List zae),l.length<=f+1->l.length<=68719476736->(∀p ∈ l,zbc p)->zav Tryz.prog 127 [zaC l] (zaC (zfi zbp l)):=by
 intro f;induction f with
 |zero=>
  intro l h1 h2 h3;rw [ztb aa];refine pF Tryz.func127 ?_;refine J0 ?_;refine FxT ?_;exact K0
 |succ f ih=>
  intro l h1 h2 h3;by_cases hs:l.length<2
  ·rw [ztb hs];refine pF Tryz.func127 ?_;refine J0 ?_;refine FxT ?_;exact K0
  ·have hm:=zBr zaK (l.take (l.length / 2)) (l.drop (l.length / 2));rw [List.take_append_drop] at hm;have hA:=ih (l.take (l.length / 2)) af af (λ p hp=>h3 p (List.mem_of_mem_take hp));have hB:=ih (l.drop (l.length / 2)) af af (λ p hp=>h3 p (List.mem_of_mem_drop hp));have fA:∀p ∈ zfi zbp (l.take (l.length / 2)),zbc p:=λ p hp=>h3 p (List.mem_of_mem_take (zkj.1 hp));have fB:∀p ∈ zfi zbp (l.drop (l.length / 2)),zbc p:=λ p hp=>h3 p (List.mem_of_mem_drop (zkj.1 hp));have lA:(zfi zbp (l.take (l.length / 2))).length=l.length / 2:=by grind [zki]
   have lB:(zfi zbp (l.drop (l.length / 2))).length=l.length - l.length / 2:=by rw [zki];simp
   rw [<- hm];generalize zfi zbp (l.take (l.length / 2))=xs at *;generalize zfi zbp (l.drop (l.length / 2))=ys at *;have hq:((l.length:Int) / 2).toNat=l.length / 2:=aa;have eA:AV.lst 5 (List.take (l.length / 2) (l.map zag))=zaC (l.take (l.length / 2)):=by simp_all [zaC]
   have eB:AV.lst 5 (List.take (l.length - l.length / 2) (List.drop (l.length / 2) (l.map zag)))=zaC (l.drop (l.length / 2)):=by grind [List.take_of_length_le,zaC,List.map_drop]
   generalize hR:List.merge xs ys (leC zbp)=R;refine pF Tryz.func127 ?_;refine J0 ?_;refine FxF ?_;refine J1 hq ?_;rw [eA];refine zN0 hA (zxv (zcb _)) ?_;refine J1 hq ?_;rw [eB];refine zN0 hB (zxv (zcb _)) ?_;refine J1 hq ?_;refine zNW (zNY (α:=Nat×Nat×List zae) (λ a=>⟨[(3,zaC xs),(4,zaC ys),(5, .sl 0 a.2.2.length 5 0 a.2.2.length),(6, .int a.1),(7, .int a.2.1)], [(0, .rows true a.2.2.length 5 (a.2.2.map zag))],1⟩)
    (λ d a=>a.1+a.2.1+d=xs.length+ys.length∧a.1<=xs.length∧a.2.1<=ys.length∧a.2.2.length=a.1+a.2.1∧R=a.2.2++List.merge (xs.drop a.1) (ys.drop a.2.1) (leC zbp)) ?_ (xs.length+ys.length) (0,0, []) ?_) ?_ ?_
   ·rintro d ⟨i,k,out⟩ ⟨i1,i2,i3,i4,i5⟩ hrec;simp only at i1 i2 i3 i4 i5;refine J0 ?_;refine zNX (λ hj=> ?_) (λ hj=> ?_)<;>simp at hj
    ·by_cases hk:k<ys.length
     ·by_cases hi:i<xs.length
      ·have fa:=fA _ (zah hi);have fb:=fB _ (zah hk);rw [zaV hi,zaV hk,List.cons_merge_cons,<- zaV hi,<- zaV hk] at i5;have hk':=Nat.not_le.2 hk;refine J3 hk hk' hi ?_;refine zN2 _ (λ _=>zcm _ _ fa fb) ae ?_;refine J3 hk hk' hi ?_;refine zNX (λ hc=> ?_) (λ hc=> ?_)<;>simp at hc
       ·rw [if_pos (by grind [leC])] at i5;refine J2 hk hi ?_;refine zNW (hrec (d - 1) aa (i+1,k,out++ [nth xs i]) ⟨af,aa,i3,af,af⟩) ?_ ac;simp [go_sem,zaf]
       ·rw [if_neg (by grind [leC])] at i5;refine J2 hk hi ?_;refine zNW (hrec (d - 1) aa (i,k+1,out++ [nth ys k]) ⟨af,i2,af,af,af⟩) ?_ ac;simp [go_sem,zaf]
      ·rw [List.drop_eq_nil_of_le (show xs.length<=i by omega),List.nil_merge,zaV hk] at i5;have hk':=Nat.not_le.2 hk;refine J3 hk hk' hi ?_;refine dGC.skip (.int 0) ?_;refine J3 hk hk' hi ?_;refine zNW (hrec (d - 1) aa (i,k+1,out++ [nth ys k]) ⟨af,i2,af,af,by simp [List.drop_eq_nil_of_le (show xs.length<=i by omega),i5]⟩) ?_ ac;simp [go_sem,zaf]
     ·have hi:i<xs.length:=by omega
      rw [List.drop_eq_nil_of_le (show ys.length<=k by omega),List.merge_right,zaV hi] at i5;have hk':=Nat.not_lt.1 hk;refine J3 hk hk' hi ?_;refine dGC.skip (.int 0) ?_;refine J3 hk hk' hi ?_;refine zNW (hrec (d - 1) aa (i+1,k,out++ [nth xs i]) ⟨af,aa,i3,af,by simp [List.drop_eq_nil_of_le (show ys.length<=k by omega),i5]⟩) ?_ ac;simp [go_sem,zaf]
    ·rw [List.drop_eq_nil_of_le (show xs.length<=i by omega),List.drop_eq_nil_of_le (show ys.length<=k by omega)] at i5;refine J0 ?_;rw [i5];exact frX
   ·simp [hR]
   ·simp [go_sem,zaf]
   ·simp
def zJd (all:List zae) (i:Nat):List zae:=if i=0 then zcT all else zco (nth all (i - 1)) (all.drop i)
variable {all l:List zae}
theorem zKb  (h:all.length<=i):zJd all i= []:=by
 unfold zJd;split;all_goals simp_all [List.drop_eq_nil_of_le,zcT,zco]
theorem zxK  (h:i<all.length) (hk:i=0∨nth all i≠nth all (i - 1)):zJd all i=nth all i::zJd all (i+1):=by
 unfold zJd;rw [if_neg (show ¬i+1=0 by omega),Nat.add_sub_cancel];split
 ·rename_i h0;subst h0;cases all with
  |nil=>simp at h
  |cons a l=>rfl
 grind [zaV,zco]
theorem zGT  (h:i<all.length) (hi:i≠0) (hk:nth all i=nth all (i - 1)):zJd all i=zJd all (i+1):=by
 grind [zJd,zaV,zco]
theorem zen (l:List zae) (hl:l.length<=68719476736) (hf:∀p ∈ l,zbc p):zav Tryz.prog 75 [zaC l] (zaC (zaS zbp l)):=by
 have hH:=zHn l.length l aa hl hf;unfold zaS;have fA:∀p ∈ zfi zbp l,zbc p:=λ p hp=>hf p (zkj.1 hp);have lA:(zfi zbp l).length=l.length:=zki l;generalize zfi zbp l=all at *;generalize hR:zcT all=R;refine pF Tryz.func75 ?_;refine J0 ?_;refine zN0 hH (zxv (zcb _)) ?_;refine J0 ?_;refine zNW (zNY (α:=Nat×List zae) (λ a=>⟨[(3,zaC all),(4, .sl 0 a.2.length 5 0 a.2.length),(5, .int a.1)], [(0, .rows true a.2.length 5 (a.2.map zag))],1⟩)
  (λ d a=>a.1+d=all.length∧a.2.length<=a.1∧R=a.2++zJd all a.1) ?_ all.length (0, []) ?_) ?_ ?_
 ·rintro d ⟨i,out⟩ ⟨i1,i2,i3⟩ hrec;simp only at i1 i2 i3;refine J0 ?_;refine zNX (λ hi=> ?_) (λ hi=> ?_)<;>simp at hi
  ·by_cases h0:i=0
   ·rw [zxK hi (.inl h0)] at i3;subst h0;refine J1 hi ?_;refine dGC.skip (.v (.bool true)) ?_;refine J1 hi ?_;refine zNW (hrec (d - 1) aa (0+1,out++ [nth all 0]) ⟨aa,af,af⟩) ?_ ac;simp [go_sem,zaf]
   ·have fa:=fA _ (zah hi);have hi':i - 1<all.length:=aa;have e1:((i:Int) - 1).toNat=i - 1:=aa;have fb:=fA _ (zah hi');refine J4 hi h0 e1 hi' ?_;refine zN2 _ (λ _=>zzF _ _ fa fb) ae ?_;refine J2 hi h0 ?_;refine zNX (λ hc=> ?_) (λ hc=> ?_)<;>simp at hc
    ·rw [zh3] at hc;rw [zxK hi (.inr hc)] at i3;refine J1 hi ?_;refine zNW (hrec (d - 1) aa (i+1,out++ [nth all i]) ⟨aa,af,af⟩) ?_ ac;simp [go_sem,zaf]
    ·rw [zh3] at hc;rw [zGT hi h0 hc] at i3;refine J1 hi ?_;refine zNW (hrec (d - 1) aa (i+1,out) ⟨aa,af,i3⟩) ?_ ac;simp [go_sem,zaf]
  ·rw [zKb hi] at i3;refine J0 ?_;rw [i3];exact frX
 ·grind [zJd]
 ·simp [go_sem,zaf]
 ·simp
def zpx (side:Int) (l:List StD) (n:Nat):List zca:=((l.take n).filterMap (zhP side)).foldl (λ a x=>zdl x a) []
@[go_sem] theorem zNV (side:Int) (l:List StD):zpx side l 0= []:=rfl
theorem zpy (side:Int) (l:List StD) (h:n<l.length):zpx side l (n+1)=match zhP side (nth l n) with|some o=>zdl o (zpx side l n)|none=>zpx side l n:=by
 grind [zpx,zHh]
theorem zuH (x:zca):∀l:List zca,(zdl x l).length<=l.length+1
 | []=>by simp [zdl]
 |y::l=>by
  rw [zdl];split
  ·have:=zuH x l;simp;omega
  ·split<;>simp
theorem zH6 (side:Int) (l:List StD):∀n,n<=l.length->(zpx side l n).length<=n:=by
 intro n;induction n<;>grind [zpx,zpy,zuH]
variable {o:zca} {s:StD}
theorem zy1  (hg:GOk g) (hs:zjk g s) (h:zhP side s=some o):zbc o.pos:=by
 have hf:=hs.p.fits hg;grind [zhP,zkq,zbc]
theorem zEF  (hg:GOk g){l:List StD} (hl:∀s ∈ l,zjk g s):∀n,n<=l.length->∀o ∈ zpx side l n,zbc o.pos:=by
 intro n;induction n<;>grind [zpx,zpy,zkE,zy1,zah]
theorem zH5 (g:zaa) (p:zae) (cell i:Int):zpx p.side (zhr g p cell (zb2 g p cell i)) (zhr g p cell (zb2 g p cell i)).length=zej g p cell i:=by
 grind [zpx,zej,zAF]
theorem zzG (g:zaa) (hg:GOk g) (p:zae) (hp:POk g p) (cell i:Int) (hc:zd8 g p cell i):
  zav Tryz.prog 125 [.agg (zad g), .agg (zag p), .int cell, .int i] (.tup [zjT (zej g p cell i), .int 0]):=by
 refine pF Tryz.func125 ?_;have hRun:=zDb g hg p hp cell i hc;have hal:=hp.al;have hat:=hp.at (i:=cell.toNat) (by have:=hc.c0;have:=hc.c1;omega);have hkl:(zat (nth p.at_ cell.toNat)).1.toNat<g.kinds.length:=by
  have cm:=hc.man;grind [zat]
 have hil:i.toNat<(nth g.kinds (zat (nth p.at_ cell.toNat)).1.toNat).progs.length:=by have:=hc.i0;have:=hc.i1;omega
 have hpg:=hg.pr _ (zah hkl) _ (zah hil);have hpe:zb2 g p cell i=nth (nth g.kinds (zat (nth p.at_ cell.toNat)).1.toNat).progs i.toNat:=rfl;rw [<- hpe] at hpg;have hst:=zoN hg hp hc.c0 hc.c1 hc.man hpg.st _ (Nat.le_refl _);have hlen:=Nat.le_trans hst.2 (zq0 hpg.len);have hstR:=zIL g p cell (zb2 g p cell i) ((zb2 g p cell i).length+1);have hnS:=zNi g p cell (zb2 g p cell i) (n:=(zb2 g p cell i).length+1) (j:=(zb2 g p cell i).length) aa;have hal':=zH5 g p cell i;rw [znz] at hnS hlen hst;have hps:=hp.s;obtain ⟨m,hm⟩:∃m,m=(zb2 g p cell i).length:=⟨_,rfl⟩
 have hm8:=hpg.len;rw [<- hm] at hRun hstR hnS hm8;generalize stR g p cell (zb2 g p cell i) (m+1)=sr at *;generalize zhr g p cell (zb2 g p cell i)=last at *;obtain ⟨R,hR⟩:∃R,R=zej g p cell i:=⟨_,rfl⟩
 rw [<- hR] at hal' ⊢;refine J0 ?_;refine aP hRun ?_;refine J2 hstR hnS ?_;refine zNW (zNY (α:=Nat) (λ k=>⟨[(5, .ref 1 0 5 0 0),(11,zjT (zpx p.side last k)),(12,zdJ last),(13, .int k)], [(1, .rows true 0 5 [zag p])],2⟩)
  (λ d k=>k+d=last.length) ?_ last.length 0 ?_) ?_ ?_
 ·rintro d k k1 hrec;refine J0 ?_;refine zNX (λ hk=> ?_) (λ hk=> ?_)<;>simp at hk
  ·have hsk:=hst.1 _ (zah hk);have hsu:=zpy p.side last hk;have hol:=zH6 p.side last k aa;have hof:=zEF hg (λ s hs=>(hst.1 s hs).1) (side:=p.side) k aa;have hpf:=λ o=>zy1 hg hsk.1 (side:=p.side) (o:=o);have hps':zhP p.side (nth last k)=if nth (nth last k).p.at_ (nth last k).cursor.toNat=0 then some ⟨{(nth last k).p with at_:=(nth last k).p.at_.set (nth last k).cursor.toNat (zdF (nth last k).kind p.side),side:=1 - p.side},(nth last k).took⟩ else none:=rfl
   have hcp:=zgo (nth last k).p (hsk.1.p.fits hg);have hal2:=hsk.1.p.al;have hc0:=hsk.1.c0;have hc1:=hsk.1.c1;have hcc:=zkw (nth last k).kind p.side;have hcur:(nth last k).cursor.toNat<(nth last k).p.at_.length:=aa;by_cases hz:nth (nth last k).p.at_ (nth last k).cursor.toNat=0
   ·rw [if_pos hz] at hps';simp only [hps'] at hsu;have hfo:=hpf _ hps';have hIns:=zvD (zpx p.side last k) _ aa hof hfo;refine J3 hk hcur hz ?_;refine zN1 hcp ae ?_;refine J1 hcur ?_;refine dP hcc ?_;refine J1 hcur ?_;refine zN3 [5,6,11] hIns ?_ ae ?_
    ·(first|done|exact agX)
    ·rw [<- hsu];refine J0 ?_;refine zNW (hrec (d - 1) aa (k+1) aa) ?_ ac;simp [go_sem,zaf,zhF,zkt,upd]
   ·rw [if_neg hz] at hps';simp only [hps'] at hsu;refine J3 hk hcur hz ?_;refine zNW (hrec (d - 1) aa (k+1) aa) ?_ ac;simp [go_sem,zaf,hsu]
  ·have hkl:k=last.length:=by omega
   subst hkl;rw [hal'];exact K0
 ·omega
 ·simp [go_sem,zaf];exact frX
 ·simp
def zc1 (g:zaa) (p:zae) (k:Nat):List zae:=(List.range k).flatMap λ k=>(List.range p.at_.length).filterMap λ c=>zly g p k c
def zeY (g:zaa) (p:zae) (k c:Nat):List zae:=zc1 g p k++(List.range c).filterMap λ c=>zly g p k c
theorem zpb (g:zaa) (p:zae) (k:Nat):zeY g p k p.at_.length=zc1 g p (k+1):=by grind [zeY,zc1,List.range_succ]
theorem znf (g:zaa) (p:zae) (k:Nat):zeY g p k 0=zc1 g p k:=by simp [zeY]
theorem zeq (g:zaa) (p:zae) (k c:Nat):zeY g p k (c+1)=zeY g p k c++(zly g p k c).toList:=by
 grind [zeY,List.range_succ]
theorem zmw (g:zaa) (p:zae):zc1 g p g.kinds.length=zpW g p:=rfl
theorem zjW {α:Type} (f:Nat->List α) (m:Nat) (hf:∀k,(f k).length<=m):∀n,((List.range n).flatMap f).length<=n * m
 |0=>ac
 |n+1=>by
  have:=zjW f m hf n;grind [List.range_succ]
theorem zjR (g:zaa) (p:zae) (k:Nat):(zc1 g p k).length<=k * p.at_.length:=
 zjW _ _ (λ k=>Nat.le_trans (List.length_filterMap_le _ _) ac) k
theorem zmv (g:zaa) (p:zae) (k c:Nat):(zeY g p k c).length<=k * p.at_.length+c:=by
 grind [zjR,zeY]
theorem zqE  (hg:GOk g) (hp:POk g p) (hk:k<g.kinds.length){q:zae} (h:zly g p k c=some q):POk g q∧q.side=1 - p.side:=by
 unfold zly at h;split at h
 ·cases h
 ·rename_i hc;simp only [Option.some.injEq] at h;subst h;have k6:=hg.k6;have hcode:zdF k p.side=1+2 * k+p.side:=zxH (K:=g.kinds.length) ⟨aa,aa⟩ k6 hp.s;have hs:=hp.s;have hh:=hp.hand p.side;have hl:=hh.len;have hv:=hh.v k aa;refine ⟨POk.side (POk.withHand (hp.setAt c aa) _ (hh.set k ?_ ?_)) aa,rfl⟩;all_goals grind
theorem zxd (g:zaa) (hg:GOk g) (p:zae) (hp:POk g p):zav Tryz.prog 74 [.agg (zad g), .agg (zag p)] (zaC (zc8 g p)):=by
 refine pF Tryz.func74 ?_;have hal:=hp.al;have c9:=hg.c9;have k6:=hg.k6;have hcp:=zgo p (hp.fits hg);obtain ⟨gk,hgk⟩:∃gk,gk=g.kinds.length:=⟨_,rfl⟩
 have hl0:=hp.h0.len;have hl1:=hp.h1.len;refine J0 ?_;refine zNW (zNY (α:=Nat) (λ k=>⟨[(2, .ref 0 0 9 0 0),(3, .ref 1 0 5 0 0),(5, .sl 2 (zc1 g p k).length 5 0 (zc1 g p k).length),(6, .int k)], [(0, .rows true 0 9 [zad g]),(1, .rows true 0 5 [zag p]),(2, .rows true (zc1 g p k).length 5 ((zc1 g p k).map zag))],3⟩)
  (λ d k=>k+d=g.kinds.length) ?_ g.kinds.length 0 ?_) ?_ ?_
 ·rintro d k k1 hrec;refine J0 ?_;refine zNX (λ hk=> ?_) (λ hk=> ?_)<;>simp at hk
  ·have hz:=znf g p k;have ha:=zpb g p k;refine J0 ?_;refine zNW (zNY (α:=Nat) (λ c=>⟨[(2, .ref 0 0 9 0 0),(3, .ref 1 0 5 0 0),(5, .sl 2 (zeY g p k c).length 5 0 (zeY g p k c).length),(6, .int k),(7, .int c)], [(0, .rows true 0 9 [zad g]),(1, .rows true 0 5 [zag p]),(2, .rows true (zeY g p k c).length 5 ((zeY g p k c).map zag))],3⟩)
    (λ d c=>c+d=p.at_.length) ?_ p.at_.length 0 ?_) ?_ ?_
   ·rintro d2 c c1 hrec2;refine J0 ?_;refine zNX (λ hci=> ?_) (λ hci=> ?_)<;>simp at hci
    ·have hD:zly g p k c=if nth (p.hand p.side) k=0∨nth p.at_ c≠0 then none
      else some {({ p with at_:=p.at_.set c (zdF k p.side)}.withHand p.side ((p.hand p.side).set k (nth (p.hand p.side) k - 1))) with side:=1 - p.side}:=rfl
     rcases hp.s with hsd|hsd
     ·have hsn:p.side.toNat=0:=by omega
      have hkh:k<p.h0.length:=aa;have hhv:=hp.h0.v k hkh;have hD':zly g p k c=if nth p.h0 k=0∨nth p.at_ c≠0 then none else some { p with at_:=p.at_.set c (zdF k p.side),h0:=p.h0.set k (nth p.h0 k - 1),side:=1 - p.side}:=by
       grind [zae.hand,zae.withHand]
      refine J3 hsn hkh hci ?_;refine zNX (λ hcc=> ?_) (λ hcc=> ?_)<;>simp at hcc
      ·rw [if_pos aa] at hD';have hsu:=zeq g p k c;rw [hD'] at hsu;simp only [Option.toList_none,List.append_nil] at hsu;refine J0 ?_;refine zNW (hrec2 (d2 - 1) aa (c+1) aa) ?_ ac;simp [go_sem,zaf,hsu]
      ·rw [if_neg aa] at hD';have hsu:=zeq g p k c;rw [hD'] at hsu;simp only [Option.toList_some] at hsu;have hcl:=zmv g p k c;have hkm:k * p.at_.length<=6 * 9:=Nat.mul_le_mul aa aa;refine J1 hci ?_;refine zN1 hcp ae ?_;refine J1 hci ?_;refine dP (zkw (k:Int) p.side) ?_;refine J3 hsn hci hkh ?_;refine zNW (hrec2 (d2 - 1) aa (c+1) aa) ?_ ac;simp [go_sem,zaf,hsu];(first|done|exact rwX)
     ·have hsn:p.side.toNat=1:=by omega
      have hkh:k<p.h1.length:=aa;have hhv:=hp.h1.v k hkh;have hD':zly g p k c=if nth p.h1 k=0∨nth p.at_ c≠0 then none else some { p with at_:=p.at_.set c (zdF k p.side),h1:=p.h1.set k (nth p.h1 k - 1),side:=1 - p.side}:=by
       grind [zae.hand,zae.withHand]
      refine J3 hsn hkh hci ?_;refine zNX (λ hcc=> ?_) (λ hcc=> ?_)<;>simp at hcc
      ·rw [if_pos aa] at hD';have hsu:=zeq g p k c;rw [hD'] at hsu;simp only [Option.toList_none,List.append_nil] at hsu;refine J0 ?_;refine zNW (hrec2 (d2 - 1) aa (c+1) aa) ?_ ac;simp [go_sem,zaf,hsu]
      ·rw [if_neg aa] at hD';have hsu:=zeq g p k c;rw [hD'] at hsu;simp only [Option.toList_some] at hsu;have hcl:=zmv g p k c;have hkm:k * p.at_.length<=6 * 9:=Nat.mul_le_mul aa aa;refine J1 hci ?_;refine zN1 hcp ae ?_;refine J1 hci ?_;refine dP (zkw (k:Int) p.side) ?_;refine J3 hsn hci hkh ?_;refine zNW (hrec2 (d2 - 1) aa (c+1) aa) ?_ ac;simp [go_sem,zaf,hsu];(first|done|exact rwX)
    ·have hcl:c=p.at_.length:=by omega
     subst hcl;rw [ha];refine J0 ?_;refine zNW (hrec (d - 1) aa (k+1) aa) ?_ ac;simp [go_sem,zaf]
   ·omega
   ·simp [go_sem,zaf,hz]
   ·simp
  ·have hkl:k=g.kinds.length:=by omega
   subst hkl;have hdl:=zjR g p g.kinds.length;have hkm:g.kinds.length * p.at_.length<=6 * 9:=Nat.mul_le_mul k6 aa;have hS:=zen (zc1 g p g.kinds.length) aa (λ q hq=>by
    rw [zmw] at hq;obtain ⟨k,hk,hq⟩:=List.mem_flatMap.1 hq;obtain ⟨c,hc,hq⟩:=List.mem_filterMap.1 hq;exact (zqE hg hp af hq).1.fits hg)
   rw [show zaS zbp (zc1 g p g.kinds.length)=zc8 g p from rfl] at hS;generalize zc1 g p g.kinds.length=l at *;generalize zc8 g p=r at *;refine J0 ?_;refine zN3 [2] hS ?_ (zxv (zcb _)) ?_
   ·(first|done|exact agX)
   ·exact K0
 ·omega
 ·simp [go_sem,zaf,show zc1 g p 0= [] from rfl]
 ·simp
theorem zwp  (hg:GOk g) (hp:POk g p) (h0:0<=cell) (h1:cell<g.cells) (hm:0<=(zat (nth p.at_ cell.toNat)).1):
  (zat (nth p.at_ cell.toNat)).1.toNat<g.kinds.length:=by
 have hat:=hp.at (i:=cell.toNat) aa;grind [zat]
theorem zIh  (hg:GOk g) (hp:POk g p){i:Int} (hc:zd8 g p cell i):zmT g.next.length g.kinds.length g.rights (zb2 g p cell i):=
 hg.pr _ (zah (zwp hg hp hc.c0 hc.c1 hc.man)) _ (zah (by have:=hc.i0;have:=hc.i1;omega))
theorem zqU  (hg:GOk g) (hp:POk g p){i:Int} (hc:zd8 g p cell i):
  (∀s ∈ zhr g p cell (zb2 g p cell i),zjk g s∧s.p.side=p.side)∧(zhr g p cell (zb2 g p cell i)).length<=100000000:=by
 have hpg:=zIh hg hp hc;have h:=zoN hg hp hc.c0 hc.c1 hc.man hpg.st _ (Nat.le_refl _);rw [znz] at h;exact ⟨h.1,Nat.le_trans h.2 (zq0 hpg.len)⟩
theorem zIl  (hg:GOk g) (hs:zjk g s) (hsd:side=0∨side=1) (h:zhP side s=some o):POk g o.pos∧o.pos.side=1 - side:=by
 unfold zhP at h;split at h
 ·simp only [Option.some.injEq] at h;subst h;have hc:zdF s.kind side=1+2 * s.kind+side:=zxH (K:=g.kinds.length) hs.k hg.k6 hsd;have hk:=hs.k;exact ⟨POk.side (hs.p.setAt _ af) aa,rfl⟩
 ·cases h
theorem zK8  (hg:GOk g) (hp:POk g p){i:Int} (hc:zd8 g p cell i):∀o ∈ zej g p cell i,POk g o.pos∧o.pos.side=1 - p.side:=by
 intro o ho;unfold zej at ho;rw [zal] at ho;obtain ⟨s,hs,h⟩:=List.mem_filterMap.1 ho;exact zIl hg ((zqU hg hp hc).1 s hs).1 hp.s h
theorem zs6  (hg:GOk g) (hp:POk g p){i:Int} (hc:zd8 g p cell i):(zej g p cell i).length<=100000000:=by
 grind [zej,zgE,zqU]
theorem zls  (hp:POk g p) (hc:c<p.at_.length) (hm:0<=(zat (nth p.at_ c)).1∧(zat (nth p.at_ c)).2=p.side)
  (hi:i<(nth g.kinds (zat (nth p.at_ c)).1.toNat).progs.length):zd8 g p c i:=by
 have:=hp.al;exact ⟨aa,aa,hm.1,hm.2,aa,af⟩
theorem zlY  (hp:POk g p):o ∈ zgt g p↔∃c i:Nat,zd8 g p c i∧o ∈ zej g p c i:=by
 have hal:=hp.al;unfold zgt;rw [List.mem_flatMap];constructor
 ·grind [zgj,zls]
 ·rintro ⟨c,i,hc,ho⟩;refine ⟨c, ?_, ?_⟩
  ·have:=hc.c1;grind
  ·have h1:=hc.man;have h2:=hc.side;have h3:=hc.i1;grind [Int.toNat_natCast,zgj]
theorem zCw  (hg:GOk g) (hp:POk g p):∀o ∈ zgt g p,POk g o.pos∧o.pos.side=1 - p.side:=by
 grind [zlY,zK8]
theorem zc4 {α:Type} (f:Nat->List α) (m:Nat):∀n,(∀k,k<n->(f k).length<=m)->((List.range n).flatMap f).length<=n * m
 |0, _=>ac
 |n+1,hf=>by
  have:=zc4 f m n (λ k hk=>hf k aa);grind [List.range_succ]
theorem zEE  (hg:GOk g) (hp:POk g p) (hc:c<p.at_.length):(zgj g p c).length<=800000000:=by
 unfold zgj;split
 ·rename_i hm;have hal:=hp.al;have hk:=zwp hg hp (cell:=c) aa aa af;simp only [Int.toNat_natCast] at hk;have h8:=hg.pn _ (zah hk);have h1:=zc4 (λ (i:Nat)=>zej g p c i) 100000000 (nth g.kinds (zat (nth p.at_ c)).1.toNat).progs.length (λ i hi=>zs6 hg hp (zls hp hc hm hi));omega
 ·simp
theorem zyT  (hg:GOk g) (hp:POk g p) (hk:k<=p.at_.length):((List.range k).flatMap (zgj g p)).length<=7200000000:=by
 have hal:=hp.al;have c9:=hg.c9;have h1:=zc4 (zgj g p) 800000000 k (λ c hc=>zEE hg hp aa);omega
theorem zyU  (hg:GOk g) (hp:POk g p):(zgt g p).length<=7200000000:=zyT hg hp (Nat.le_refl _)
theorem zxP  (hg:GOk g) (hp:POk g p):∀q ∈ zc8 g p,POk g q∧q.side=1 - p.side:=by
 intro q hq;unfold zc8 at hq;grind [zal,zqE,zpW]
theorem zpc  (hg:GOk g) (hp:POk g p):(zc8 g p).length<=54:=by
 have h1:=zgE zbp (zpW g p);have h2:=zjR g p g.kinds.length;rw [zmw] at h2;have hal:=hp.al;have c9:=hg.c9;have h3:g.kinds.length * p.at_.length<=6 * 9:=Nat.mul_le_mul hg.k6 aa;grind [zc8]
theorem zyG  (hg:GOk g) (hp:POk g p):∀q ∈ zfY g p,POk g q∧q.side=1 - p.side:=by
 grind [zfY,zCw,zxP]
theorem zaE  (hg:GOk g) (hp:POk g p):∀q ∈ zai g p,POk g q∧q.side=1 - p.side:=by
 grind [zai,zyG,zal]
def ofG (g:zaa):List Int:=zcX (zez (zo7 g)) g.cells.toNat
theorem zf0 (g:zaa):(ofG g).length=g.cells.toNat:=by simp [ofG,zcX]
theorem zb8 {α:Type} [DecidableEq α]:∀ {l r:List α},l.Nodup->(∀x ∈ l,x ∈ r)->l.length<=r.length
 | [],r, _, _=>ac
 |x::l,r,hn,hs=>by
  rw [List.nodup_cons] at hn;have hx:=hs x ac;have:=zb8 (l:=l) (r:=r.erase x) hn.2 (λ y hy=>by
   grind)
  grind
theorem zxk:∀ {more l:List StD}{s:StD},s ∈ zhw l more↔s ∈ l∨s ∈ more
 | [],l,s=>di
 |x::more,l,s=>by
  show s ∈ zhw (if x ∈ l then l else l++ [x]) more↔ _;rw [zxk];split
  ·rename_i h;simp only [List.mem_cons];exact ⟨λ h=>bt,λ h'=>by rcases h' with h'|rfl|h'<;>simp [*]⟩
  ·simp [or_assoc]
theorem zo1:∀ {more l:List StD},l.Nodup->(zhw l more).Nodup
 | [],l,h=>h
 |x::more,l,h=>by
  show (zhw (if x ∈ l then l else l++ [x]) more).Nodup;split
  ·exact zo1 h
  ·rename_i hx;refine zo1 (List.nodup_append.2 ⟨h,ac, ?_⟩);intro a ha b hb e;simp only [List.mem_singleton] at hb;subst hb;subst e;exact hx ha
theorem zsD (g:zaa) (x:Int×Int):∀ (now acc:List StD) (s:StD),s ∈ now.foldl (λ next s=>zhw next (zck g s x)) acc↔s ∈ acc∨∃r ∈ now,s ∈ zck g r x
 | [],acc,s=>ac
 |r::now,acc,s=>by
  simp_all [zsD,zxk,or_assoc]
theorem zpv :s ∈ zhH g now x↔∃r ∈ now,s ∈ zck g r x:=by
 simp_all [zhH,zsD]
theorem zp6 (g:zaa) (x:Int×Int):∀ (now acc:List StD),acc.Nodup->(now.foldl (λ next s=>zhw next (zck g s x)) acc).Nodup
 | [],acc,h=>h
 |r::now,acc,h=>zp6 g x now _ (zo1 h)
theorem zAX (g:zaa) (now:List StD) (x:Int×Int):(zhH g now x).Nodup:=zp6 g x now [] ac
theorem zuA (g:zaa):∀ (prog:List (Int×Int)) (now:List StD),now.Nodup->(prog.foldl (zhH g) now).Nodup
 | [],now,h=>h
 |x::prog,now, _=>zuA g prog _ (zAX g now x)
def zDH (s:StD) (c:Int):StD:={ s with cursor:=c}
def FewS (n:Nat) (l:List StD):Prop:=∃B:List StD,B.length<=n∧∀s ∈ l,∃t ∈ B,s=zDH t s.cursor
theorem zs9 {s:StD}:∀ {l:List Int},∀t ∈ zb9 s l,t=zDH s t.cursor
 | [],t,h=>by simp [zb9] at h
 |c::l,t,h=>by
  rw [zb9,List.mem_cons] at h;rcases h with rfl|h
  ·rfl
  ·split at h
   ·exact zs9 t h
   ·simp at h
def zhz (x:Int×Int):Bool:=x.1==6||x.1==7
theorem zFg (g:zaa) (x:Int×Int) (hx:zhz x=false):∃f:StD->StD,∀t c,∀u ∈ zck g (zDH t c) x,u=zDH (f t) u.cursor:=by
 simp only [zhz,Bool.or_eq_false_iff,beq_eq_false_iff_ne] at hx;by_cases h8:x.1=8
 ·refine ⟨λ t=>{ t with kind:=x.2},λ t c u hu=> ?_⟩;grind [zck,zDH]
 by_cases h10:x.1=10
 ·refine ⟨λ t=>{ t with p:={ t.p with rights:=zgl .i64 t.p.rights (2 ^ x.2.toNat)}},λ t c u hu=> ?_⟩;grind [zck,zDH]
 refine ⟨id,λ t c u hu=> ?_⟩;unfold zck at hu;simp only [h8,h10,hx.1,hx.2,if_false] at hu;repeat' split at hu
 ·grind [zDH,zcy]
 ·have:=zs9 u hu;rw [this];rfl
 all_goals grind [zDH,zcy]
theorem zIN (g:zaa) (s:StD) (x:Int×Int) (hx:zhz x=true):(zck g s x).length<=1:=by
 grind [zhz,zck,zpK,zpB]
theorem zkD {α β:Type} (f:α->List β) (m:Nat):∀ (l:List α),(∀x ∈ l,(f x).length<=m)->(l.flatMap f).length<=l.length * m
 | [], _=>ac
 |x::l,h=>by
  have:=zkD f m l (λ y hy=>h y aS);grind [Nat.succ_mul]
theorem zHa  (hc:∀s ∈ now,0<=s.cursor∧s.cursor<9) (h:FewS n now):FewS (n * (if zhz x then 9 else 1)) (zhH g now x):=by
 obtain ⟨B,hB,hs⟩:=h;by_cases hx:zhz x=true
 ·refine ⟨B.flatMap λ t=>(List.range 9).flatMap λ (c:Nat)=>zck g (zDH t c) x, ?_,λ u hu=> ?_⟩
  ·have h1:=zkD (λ t:StD=>(List.range 9).flatMap λ (c:Nat)=>zck g (zDH t c) x) 9 B (λ t _=>by
    have:=zkD (λ (c:Nat)=>zck g (zDH t c) x) 1 (List.range 9) (λ c _=>zIN g _ x hx);grind)
   grind
  ·obtain ⟨r,hr,hu⟩:=zpv.1 hu;obtain ⟨t,ht,e⟩:=hs r hr;have:=hc r hr;refine ⟨u,List.mem_flatMap.2 ⟨t,ht,List.mem_flatMap.2 ⟨r.cursor.toNat,af, ?_⟩⟩,rfl⟩;grind
 ·simp only [Bool.not_eq_true] at hx;obtain ⟨f,hf⟩:=zFg g x hx;refine ⟨B.map f,af,λ u hu=> ?_⟩;grind [zpv]
theorem zNh  (hg:GOk g) (hx:zfn g.next.length g.kinds.length g.rights x) (hn:∀s ∈ now,zjk g s):∀s ∈ zhH g now x,zjk g s:=by
 intro s hs;obtain ⟨r,hr,hs⟩:=zpv.1 hs;grind [zjf,zck]
theorem zx0 {g:zaa} (hg:GOk g):∀ (prog:List (Int×Int)) (now:List StD) (n:Nat),(∀x ∈ prog,zfn g.next.length g.kinds.length g.rights x)->(∀s ∈ now,zjk g s)->FewS n now->
  FewS (n * 9 ^ prog.countP zhz) (prog.foldl (zhH g) now)
 | [],now,n, _, _,h=>af
 |x::prog,now,n,hp,hn,h=>by
  have h9:=hg.c9;have h1:=zHa (g:=g) (x:=x) (λ s hs=>⟨(hn s hs).c0,by have:=(hn s hs).c1;omega⟩) h;have h2:=zx0 hg prog _ _ (λ y hy=>hp y aS) (zNh hg (hp x ac) hn) h1;rw [List.foldl_cons,List.countP_cons];have e:n * (if zhz x=true then 9 else 1) * 9 ^ prog.countP zhz=n * 9 ^ (prog.countP zhz+if zhz x=true then 1 else 0):=by
   by_cases hx:zhz x=true
   ·rw [if_pos hx,if_pos hx,Nat.pow_succ,Nat.mul_assoc,Nat.mul_comm 9]
   ·rw [if_neg hx,if_neg hx,Nat.mul_one,Nat.add_zero]
  rw [<- e];exact h2
theorem zKi {l:List StD} (hn:l.Nodup) (hc:∀s ∈ l,0<=s.cursor∧s.cursor<9) (h:FewS n l):l.length<=n * 9:=by
 obtain ⟨B,hB,hs⟩:=h;have h1:=zb8 (r:=B.flatMap λ t=>(List.range 9).map λ (c:Nat)=>zDH t c) hn (λ s h=>by
  obtain ⟨t,ht,e⟩:=hs s h;have:=hc s h;refine List.mem_flatMap.2 ⟨t,ht,List.mem_map.2 ⟨s.cursor.toNat,af, ?_⟩⟩;grind)
 have h2:=zkD (λ t:StD=>(List.range 9).map λ (c:Nat)=>zDH t c) 9 B (λ t _=>by simp);omega
theorem zAl (prog:List (Int×Int)):prog.countP zhz<=za7 prog 6+za7 prog 7:=by
 unfold za7;induction prog<;>grind [zhz]
theorem zHD  (hg:GOk g) (hp:POk g p){i:Int} (hc:zd8 g p cell i):(zhr g p cell (zb2 g p cell i)).length<=6561:=by
 have hpg:=zIh hg hp hc;have hst:=(zkl hg hp hc.c0 hc.c1 hc.man).1;have h1:=zx0 hg (zb2 g p cell i) [zf9 p cell] 1 hpg.st (λ s hs=>by grind) ⟨[zf9 p cell],ac,λ s hs=>⟨s,hs,rfl⟩⟩;have h9:=hg.c9;have h2:=zKi (zuA g (zb2 g p cell i) [zf9 p cell] ac) (λ s hs=>by
  have:=((zqU hg hp hc).1 s hs).1;exact ⟨this.c0,by have:=this.c1;omega⟩) h1
 have h3:(zb2 g p cell i).countP zhz<=3:=by
  have:=zAl (zb2 g p cell i);have:=hpg.take;have:=hpg.push;omega
 have h4:9 ^ (zb2 g p cell i).countP zhz<=9 ^ 3:=Nat.pow_le_pow_right aa h3;grind [zhr]
theorem zE3  (hg:GOk g) (hp:POk g p){i:Int} (hc:zd8 g p cell i):(zej g p cell i).length<=6561:=by
 grind [zej,zgE,zHD]
theorem zA2  (hg:GOk g) (hp:POk g p) (hc:c<p.at_.length):(zgj g p c).length<=52488:=by
 unfold zgj;split
 ·rename_i hm;have hal:=hp.al;have hk:=zwp hg hp (cell:=c) aa aa af;have hpn:=hg.pn _ (zah bS);have:=zc4 (λ (i:Nat)=>zej g p c i) 6561 (nth g.kinds (zat (nth p.at_ c)).1.toNat).progs.length (λ i hi=>zE3 hg hp (zls hp hc hm hi));omega
 ·simp
theorem zEI  (hg:GOk g) (hp:POk g p) (hk:k<=p.at_.length):((List.range k).flatMap (zgj g p)).length<=472392:=by
 have:=zc4 (zgj g p) 52488 k (λ c hc=>zA2 hg hp aa);have h9:=hg.c9;have hal:=hp.al;omega
theorem zEL  (hg:GOk g) (hp:POk g p):(zgt g p).length<=472392:=zEI hg hp (Nat.le_refl _)
theorem zAR  (hg:GOk g) (hp:POk g p):(zfY g p).length<=472446:=by
 grind [zfY,zEL,zpc]
theorem zbf  (hg:GOk g) (hp:POk g p):(zai g p).length<=472446:=by
 grind [zai,zgE,zAR]
abbrev Inc (l:List zae):Prop:=l.Pairwise (λ a b=>zbp a b<0)
theorem Inc.lt  (h:Inc l) (hij:i<j) (hj:j<l.length):zbp (nth l i) (nth l j)<0:=by
 grind [List.pairwise_iff_getElem,nth]
theorem Inc.sign  (h:Inc l) (hi:i<l.length) (hj:j<l.length):(zbp (nth l i) (nth l j)=0↔i=j)∧(zbp (nth l i) (nth l j)<0↔i<j):=by
 have hs:=zaK.swap (nth l i) (nth l j);rcases Nat.lt_trichotomy i j with h'|h'|h'
 ·have:=h.lt h' hj;omega
 ·grind
 ·have:=h.lt h' hi;omega
theorem Inc.inj  (h:Inc l) (hi:i<l.length) (hj:j<l.length) (e:nth l i=nth l j):i=j:=
 (h.sign hi hj).1.1 ((zaK.eq _ _).2 e)
def zqL (l:List zae) (p:zae):Int:=match l.findIdx? (λ q=>decide (q=p)) with|some i=>(i:Int)|none=> -1
theorem zih  (h:Inc l) (hj:j<l.length):zqL l (nth l j)=j:=by
 have:l.findIdx? (λ q=>decide (q=nth l j))=some j:=by
  rw [List.findIdx?_eq_some_iff_getElem];refine ⟨hj,ax,λ i hi=> ?_⟩;rw [<- zcp _ _ aa];simp only [decide_eq_true_eq];intro e;have:=h.inj aa hj e;omega
 grind [zqL]
theorem zbO {α:Type} [Inhabited α] {l:List α}{x:α} (h:x ∈ l):∃j,j<l.length∧nth l j=x:=by
 obtain ⟨j,hj,rfl⟩:=List.getElem_of_mem h;exact ⟨j,hj,zcp _ _ hj⟩
def zwZ:List zae->zae->Nat
 | [], _=>0
 |q::l,p=>if zbp q p<0 then zwZ l p+1 else 0
theorem zHM:∀ (l:List zae) (p:zae),zwZ l p<=l.length
 | [],p=>by simp [zwZ]
 |q::l,p=>by
  have:=zHM l p;rw [zwZ,List.length_cons];split<;>omega
theorem zAO {p:zae}:∀ {l:List zae}{h:Nat},h<zwZ l p->zbp (nth l h) p<0
 | [],h,hl=>by simp [zwZ] at hl
 |q::l,h,hl=>by
  rw [zwZ] at hl;split at hl
  ·cases h<;>simp_all [zce,za6,zAO]
  ·omega
theorem zHL {p:zae}:∀ {l:List zae},Inc l->∀ {h:Nat},zwZ l p<=h->h<l.length->¬zbp (nth l h) p<0
 | [], _,h, _,hl=>by simp at hl
 |q::l,hi,h,hl,hn=>by
  have hi:=List.pairwise_cons.1 hi;rw [zwZ] at hl;split at hl
  ·cases h<;>simp_all [za6,zHL]
  ·rename_i hq;cases h with
   |zero=>grind [nth]
   |succ h=>
    rw [za6];intro hr;have hm:nth l h ∈ l:=zah af;have h1:=hi.1 _ hm;have h2:=zaK.tr q (nth l h) p aa aa;have e:=(zaK.eq q p).1 aa;subst e;have:=zaK.swap q (nth l h);omega
theorem zCo  (hi:Inc l) (p:zae){h:Nat} (hn:h<l.length):zbp (nth l h) p<0↔h<zwZ l p:=by
 constructor
 ·intro hc;rcases Nat.lt_or_ge h (zwZ l p) with h'|h';all_goals simp_all [zHL]
 ·exact zAO
theorem zCp  (hi:Inc l) (p:zae):p ∈ l↔zwZ l p<l.length∧nth l (zwZ l p)=p:=by
 constructor
 ·intro hp;obtain ⟨j,hj,rfl⟩:=zbO hp;have h0:=(zaK.eq (nth l j) (nth l j)).2 rfl;have h1:¬j<zwZ l (nth l j):=λ h=>by
   have:=zAO h;omega
  rcases Nat.lt_or_ge (zwZ l (nth l j)) j with h'|h'
  ·have h2:=hi.lt h' hj;grind [zCo]
  grind
 grind [nth]
theorem zKm  (hi:Inc l) (p:zae):zqL l p=if p ∈ l then (zwZ l p:Int) else -1:=by
 grind [zCp,zih,zqL]
theorem zhO (g:zaa) (p:zae):Inc (zai g p):=by
 unfold zai;split;all_goals simp_all [zbw,zaK]
end Go.Av
end
section
/- Plain: what a man does depends on its region alone; the moves of a normal game are those of its parts. -/
open Go Go.Proofs
namespace Go.Av
section
variable {s:Nat->Bool} {a:List Int}
end
structure zci (g:zaa):Prop where
 nh:zhT g
 cl:g.clauses= []
 must:g.must=false
structure zk8 (g:zaa):Prop where
 ok:GOk g
 s0:zgH g.cells.toNat (zo7 g).1
 s1:zgH g.cells.toNat (zo7 g).2
theorem zk8.of {g:zaa} (h:zk8 g):zvy (ofG g):=zsJ c7 h.s0 h.s1
end Go.Av
end
section
open Go Go.Proofs
namespace Go.Av
end Go.Av
end
section
/- Plain: chapter 23: the form of a position is the sum of those of its parts. -/
open Go Go.Proofs
namespace Go.Av
open zab
def sdP (p:zae) (s:Int):zae:={ p with side:=s}
def zbP (g:zaa) (p:zae) (s:Int):List zae:=(zai g (sdP p s)).map λ q=>sdP q 0
theorem zbb {g:zaa}{p:zae} (hp:POk g p){s:Int} (hs:s=0∨s=1):POk g (sdP p s):=⟨hp.al,hp.av,hp.h0,hp.h1,hp.r0,hp.r1,hs⟩
section
variable {g:zaa} (h:zk8 g) (hn:zci g)
include h hn
end
end Go.Av
end
section
open Go Go.Proofs
namespace Go.Av
open zab
theorem zero_add (x:zab):Eqv (add zero x) x:=(add_comm zero x).trans (add_zero x)
def zwQ (f:zab) (first:Int):Int:=if (first=0∧leq f zero=false)∨(first≠0∧leq zero f=true) then 0 else 1
end Go.Av
end
section
open Go Go.Proofs
namespace Go.Av
open zab
theorem zgn (l:List Nat):(zfp l).size=l.length:=by simp [zfp,ByteArray.size]
theorem zhB (a b:List Nat):zfp a++zfp b=zfp (a++b):=by
 refine ByteArray.ext ?_;grind [ByteArray.data_append,zfp]
theorem bc44:(⟨#[44]⟩:ByteArray)=zfp [44]:=rfl
theorem bc123:(⟨#[123]⟩:ByteArray)=zfp [123]:=rfl
theorem bc124:(⟨#[124]⟩:ByteArray)=zfp [124]:=rfl
theorem bc125:(⟨#[125]⟩:ByteArray)=zfp [125]:=rfl
mutual
theorem zwN:∀ (f:zab),f.text.length+1<=4 * f.size
 | .mk l r=>by
  have h1:=zkn l;have h2:=zkn r;rw [text,size];simp only [List.length_cons,List.length_append,List.length_nil];omega
theorem zkn:∀ (l:List zab),(textL l).length<=4 * zaw l
 | []=>dz
 | [x]=>by
  have:=zwN x;grind [textL,zaw]
 |x::y::l=>by
  have h1:=zwN x;have h2:=zkn (y::l);rw [textL,zaw];simp only [List.length_cons,List.length_append];omega
end
theorem zvn (x:zab):∀l:List zab,textL (l++ [x])=if l= [] then x.text else textL l++44::x.text
 | []=>dz
 | [y]=>dz
 |y::z::l=>by
  have ih:=zvn x (z::l);rw [if_neg ac] at ih ⊢;rw [List.cons_append,List.cons_append,textL,textL,<- List.cons_append,ih];simp
variable {l:List zab}
theorem zml {i:Nat} (h:i<l.length):l.take (i+1)=l.take i++ [nth l i]:=by
 grind [List.take_add_one,nth]
theorem zvo  (hs:zaw l<=1099511627776) (hP:∀i,i<l.length->zav Tryz.prog 43 [zbQ (nth l i)] (.v (.string (ze2 (nth l i))))):
  zav Tryz.prog 80 [.lst 2 (l.map zbt)] (.v (.string (zfp (textL l)))):=by
 have hl:=zit l;refine pF Tryz.func80 ?_;refine J0 ?_;refine zNW (zNY (α:=Nat) (λ i=>⟨[(0, .lst 2 (l.map zbt)),(3, .v (.string (zfp (textL (l.take i))))),(4, .int i)], [],0⟩)
  (λ d i=>i+d=l.length) ?_ l.length 0 ?_) ?_ ?_
 ·intro d i hi hrec;refine J0 ?_;refine zNX (λ hlt=> ?_) (λ hlt=> ?_)<;>simp at hlt
  ·have hl':i<l.length:=by omega
   have e:=zvn (nth l i) (l.take i);rw [<- zml hl'] at e;have t1:=zkn (l.take i);have t2:=zeO l i;have t3:=zwN (nth l i);have t4:=zeP (zah hl');refine J0 ?_;refine zNX (λ h0=> ?_) (λ h0=> ?_)<;>simp at h0
   ·have hne:l.take i≠ []:=λ h=>by grind [List.take_eq_nil_iff]
    rw [if_neg hne] at e;repeat first|refine wV λ _=>?_|simp [go_sem,hl',zau zbt l i hl',zgn,bc44]
    refine zN0 (hP i hl') dv ?_;repeat first|refine wV λ _=>?_|simp [go_sem,ze2,zgn,zhB]
    refine zNW (hrec (d - 1) aa (i+1) aa) ?_ ac;simp [go_sem,zaf,e]
   ·obtain rfl:i=0:=by omega
    rw [if_pos ac] at e;have z:(textL ([]:List zab)).length=0:=dz;repeat first|refine wV λ _=>?_|simp [go_sem,hl',zau zbt l 0 hl',zgn]
    refine zN0 (hP 0 hl') dv ?_;repeat first|refine wV λ _=>?_|simp [go_sem,ze2,zgn,zhB,z]
    refine zNW (hrec (d - 1) aa (0+1) aa) ?_ ac;rw [e];simp [go_sem,zaf,textL]
  ·obtain rfl:i=l.length:=by omega
   exact K0
 ·omega
 ·rw [List.take_zero,show zfp (textL [])=⟨#[]⟩ by simp [textL,zfp]];simp [go_sem,zaf]
 ·simp
theorem zfm:∀ (n:Nat) (f:zab),f.size<=n->n<=1099511627776->zav Tryz.prog 43 [zbQ f] (.v (.string (ze2 f))):=by
 intro n;induction n with
 |zero=>intro f hf;have:=za1 f;omega
 |succ n ih=>
  intro f hf hn;have e1:=zhv f;have h1:=zvo (l:=f.L) aa λ i hi=>ih _ aB aa;have h2:=zvo (l:=f.R) aa λ i hi=>ih _ aC aa;have t1:=zkn f.L;have t2:=zkn f.R;have et:f.text=123::(textL f.L++124::(textL f.R++ [125])):=by cases f with|mk l r=>rw [text];rfl
  rw [zbQ,zhD,ze2,et];refine pF Tryz.func43 ?_;refine J0 ?_;refine dP h1 ?_;repeat first|refine wV λ _=>?_|simp [go_sem,bc123,bc124,bc125,zgn,zhB]
  refine dP h2 ?_;repeat first|refine wV λ _=>?_|simp [go_sem,bc123,bc124,bc125,zgn,zhB]
end Go.Av
end
section
open Go Go.Proofs
namespace Go.Av
open zab
def zar (l:List zab):List (List AV):=l.map zbt
theorem zIr:zar []= []:=rfl
theorem zdB (l:List zab):(zar l).length=l.length:=by simp [zar]
theorem zdC (l:List zab) (x:zab):zar (l++ [x])=zar l++ [zbt x]:=by simp [zar]
theorem zaF {l:List zab}{i:Nat} (h:i<l.length):nth (zar l) i=zbt (nth l i):=zau _ _ _ h
theorem zhY (n:Nat) (l:List zab):(∀r ∈ zar l,∀c ∈ r,Bel n c)=True:=zum n l
attribute [go_sem] zIr zdB
attribute [go_sem ↓] zhY
theorem zao (f:zab):zbt f= [.lst 2 (zar f.L), .lst 2 (zar f.R)]:=zhD f
theorem zg1 {α:Type} (g:zab->α) (l:List zab):∃Ls:Nat->List α,Ls 0= []∧(∀i,i<l.length->Ls (i+1)=Ls i++ [g (nth l i)])∧(∀i,i<=l.length->(Ls i).length=i)∧Ls l.length=l.map g:=
 ⟨λ i=>(l.take i).map g,rfl,λ i hi=>(by grind [zml]),λ i hi=>af,af⟩
theorem zC0:∀ (n:Nat) (f:zab),f.size<=n->n<=68719476736->zav Tryz.prog 83 [zbQ f] (zbQ f.neg):=by
 intro n;induction n with
 |zero=>intro f hf;have:=za1 f;omega
 |succ n ih=>
  intro f hf hn;have e2:=zjs f;have e3:=zjt f;have iL:∀i,i<f.L.length->zav Tryz.prog 83 [.agg (zbt (nth f.L i))] (.agg (zbt (nth f.L i).neg)):=λ i hi=>ih _ aB aa;have iR:∀i,i<f.R.length->zav Tryz.prog 83 [.agg (zbt (nth f.R i))] (.agg (zbt (nth f.R i).neg)):=λ i hi=>ih _ aC aa;have er:zbQ f.neg= .agg [.lst 2 (zar (f.R.map neg)), .lst 2 (zar (f.L.map neg))]:=by rw [zbQ,zao,ztT,ztU]
  obtain ⟨A,a0,a1,a2,a3⟩:=zg1 neg f.R;obtain ⟨B,b0,b1,b2,b3⟩:=zg1 neg f.L;rw [er,zbQ,zao,<- a3,<- b3];clear er a3 b3;refine pF Tryz.func83 ?_;refine J0 ?_;refine zNW (zNY (α:=Nat) (λ i=>⟨[(1, .ref 0 0 2 0 0),(2, .ref 1 0 2 0 0),(3, .ref 2 0 2 0 0),(4, .int i)],
   [(0, .rows true 0 2 [[.lst 2 (zar f.L), .lst 2 (zar f.R)]]),(1, .rows true 0 2 [[AV.nils,AV.nils]]),(2, .rows true 0 2 [[.sl 3 i 2 0 i,AV.nils]]),(3, .rows true i 2 (zar (A i)))],4⟩)
   (λ d i=>i+d=f.R.length) ?_ f.R.length 0 ?_) ?_ ?_
  ·intro d i hi hrec;have hlen:=a2 i aa;refine J0 ?_;refine zNX (λ hl=> ?_) (λ hl=> ?_)<;>simp at hl
   ·have hl':i<f.R.length:=by omega
    repeat first|refine wV λ _=>?_|simp [go_sem,hl',zaF hl',hlen]
    refine dP (iR i hl') ?_;refine J1 hlen ?_;refine zNW (hrec (d - 1) aa (i+1) aa) ?_ ac;simp [go_sem,zaf,a1 i hl',zdC]
   ·obtain rfl:i=f.R.length:=by omega
    refine J0 ?_;refine zNW (zNY (α:=Nat) (λ i=>⟨[(1, .ref 0 0 2 0 0),(2, .ref 1 0 2 0 0),(3, .ref 2 0 2 0 0),(5, .int i)],
     [(0, .rows true 0 2 [[.lst 2 (zar f.L), .lst 2 (zar f.R)]]),(1, .rows true 0 2 [[AV.nils,AV.nils]]),(2, .rows true 0 2 [[.sl 3 f.R.length 2 0 f.R.length, .sl 4 i 2 0 i]]),(3, .rows true f.R.length 2 (zar (A f.R.length))),(4, .rows true i 2 (zar (B i)))],5⟩)
     (λ d i=>i+d=f.L.length) ?_ f.L.length 0 ?_) ?_ ?_
    ·intro d i hi hrec;have hlen2:=b2 i aa;refine J0 ?_;refine zNX (λ hl=> ?_) (λ hl=> ?_)<;>simp at hl
     ·have hl':i<f.L.length:=by omega
      repeat first|refine wV λ _=>?_|simp [go_sem,hl',zaF hl',hlen2]
      refine dP (iL i hl') ?_;refine J1 hlen2 ?_;refine zNW (hrec (d - 1) aa (i+1) aa) ?_ ac;simp [go_sem,zaf,b1 i hl',zdC]
     ·obtain rfl:i=f.L.length:=by omega
      have hA:=a2 _ (Nat.le_refl _);have hB:=b2 _ (Nat.le_refl _);refine J0 ?_;refine ⟨zaq rfl cz ap ?_,zaq rfl cz ap ?_⟩;all_goals grind [zdB]
    ·omega
    ·simp [go_sem,zaf,b0]
    ·simp
  ·omega
  ·simp [go_sem,zaf,a0]
  ·simp
theorem zyi {α:Type} (p:List α) (g:zab->α) (l:List zab):∃Ls:Nat->List α,Ls 0=p∧(∀i,i<l.length->Ls (i+1)=Ls i++ [g (nth l i)])∧(∀i,i<=l.length->(Ls i).length=p.length+i)∧Ls l.length=p++l.map g:=by
 obtain ⟨A,a0,a1,a2,a3⟩:=zg1 g l;exact ⟨λ i=>p++A i,by simp [a0],λ i hi=>af,λ i hi=>af,by simp [a3]⟩
end Go.Av
end
section
open Go Go.Proofs
namespace Go.Av
namespace zab
theorem zHI (x y:zab):leq x.neg y.neg=leq y x:=by
 rw [Bool.eq_iff_iff];exact neg_le x y
theorem neg_mk (l r:List zab):(zab.mk l r).neg= .mk (r.map neg) (l.map neg):=by grind [neg,zwz]
theorem zB0 (x:zab):∀l:List zab,zmt x.neg (l.map neg)=(zmU x l).map (List.map neg)
 | []=>rfl
 |a::l=>by
  rw [List.map_cons,zmt,zmU,ztU,List.find?_map];have e:((λ b=>leq b x.neg)∘neg:zab->Bool)=λ b=>leq x b:=funext λ b=>zHI b x;rw [e,zB0 x l];cases hf:a.L.find? λ b=>leq x b with
  |some b=>
   simp only [Option.map_some,ztT,List.map_append]
  |none=>
   simp only [Option.map_none];cases zmU x l with
   |none=>rfl
   |some m=>rfl
theorem zCs {l:List zab}{i:Nat} (hi:i<l.length):nth (l.map neg) i=(nth l i).neg:=zau _ _ _ hi
theorem zxy (r:List zab):zbI leq (r.map neg)=(zbI (λ a b=>leq b a) r).map neg:=by
 have hb:∀i k,i<r.length->k<r.length->zdi leq (r.map neg) i k=zdi (λ a b=>leq b a) r i k:=λ i k hi hk=>by
  grind [zdi,zCs,zHI]
 have hk:∀i,i<r.length->zfd leq (r.map neg) i=zfd (λ a b=>leq b a) r i:=λ i hi=>by
  grind [zfd]
 grind [zbI,List.filter_congr,List.map_congr_left,zCs]
theorem zNg {x y:zab} (h:x.neg=y.neg):x=y:=by grind [zwA]
theorem zLa (r:List zab):zb6 ((zb6 (zbI leq (r.map neg))).map neg)=zb6 (zbI (λ a b=>leq b a) r):=by
 obtain ⟨_,n1⟩:=zh0 zkL (l:=r);have n2:(zbI leq (r.map neg)).Nodup:=(zh0 zkM).2;have n3:((zb6 (zbI leq (r.map neg))).map neg).Nodup:=by
  have h:=zpo (ziG n2);grind [zNg]
 refine zqR (ziG n3) (ziG n1) λ z=> ?_;rw [zba,zba,List.mem_map];constructor
 ·grind [zba,zxy,zwA]
 ·intro hz;exact ⟨z.neg,by grind [zba,zxy],zwA z⟩
def zms (x:zab):zab×Bool:=match zmt x x.L with
 |some l=>(.mk l x.R,true)
 |none=>(x,false)
def znC (x:zab):zab×Bool:=if (zms x).2=true then zms x else ((zms (zms x).1.neg).1.neg,(zms (zms x).1.neg).2)
theorem zLe (l r:List zab):znC (.mk l r)=match zmt (.mk l r) l with
  |some l'=>(.mk l' r,true)
  |none=>match zmU (.mk l r) r with
   |some r'=>(.mk l r',true)
   |none=>(.mk l r,false):=by
 have e1:zms (.mk l r)=match zmt (.mk l r) l with
  |some l'=>(.mk l' r,true)
  |none=>(.mk l r,false):=rfl
 unfold znC;rw [e1];cases h:zmt (.mk l r) l with
 |some l'=>rfl
 |none=>
  simp only [Bool.false_eq_true,if_false];have e2:(zab.mk l r).neg.L=r.map neg:=ztT _;have e3:(zab.mk l r).neg.R=l.map neg:=ztU _;unfold zms;rw [e2,zB0];cases zmU (.mk l r) r<;>grind [neg_mk,zwA]
def zyC:Nat->zab->zab
 |0,x=>x
 |n+1,x=>if (znC x).2=true then zyC n (znC x).1 else (znC x).1
theorem zwt:∀ (n:Nat) (l r:List zab),zyC n (.mk l r)= .mk (zkO n l r).1 (zkO n l r).2
 |0,l,r=>rfl
 |n+1,l,r=>by
  rw [zyC,zkO,zLe];cases zmt (.mk l r) l with
  |some l'=>
   simp only [if_true];exact zwt n l' r
  |none=>
   simp only;cases zmU (.mk l r) r with
   |some r'=>
    simp only [if_true];exact zwt n l r'
   |none=>rfl
end zab
end Go.Av
end
section
open Go Go.Proofs
namespace Go.Av
open zab
theorem znw (l:List zab) (i:Nat):(zar l).take i=zar (l.take i):=by simp_all [zar]
theorem ziD (l:List zab) (i:Nat):(zar l).drop i=zar (l.drop i):=by simp_all [zar]
theorem zAv {p:zab->Bool}:∀ {l:List zab}{k:Nat},k<l.length->(∀j,j<k->p (nth l j)=false)->p (nth l k)=true->l.find? p=some (nth l k)
 | [],k,h, _, _=>bm
 |x::l,0, _, _,h=>ax
 |x::l,k+1,hk,hj,h=>by
  have h0:=hj 0 aa;rw [zce] at h0;rw [za6] at h ⊢;rw [List.find?_cons_of_neg (by simp [h0])];exact zAv bS (λ j hj'=>by have:=hj (j+1) aa;rwa [za6] at this) h
theorem zwa {p:zab->Bool}{l:List zab} (h:∀j,j<l.length->p (nth l j)=false):l.find? p=none:=by
 grind [memF]
theorem zAe {x:zab}:∀ {l:List zab}{i k:Nat},i<l.length->(∀j,j<i->∀k,k<(nth l j).R.length->leq (nth (nth l j).R k) x=false)->k<(nth l i).R.length->
  (∀j,j<k->leq (nth (nth l i).R j) x=false)->leq (nth (nth l i).R k) x=true->zmt x l=some (l.take i++((nth (nth l i).R k).L++l.drop (i+1)))
 | [],i,k,hi, _, _, _, _=>by simp at hi
 |a::l,0,k, _, _,hk,hj,h=>by
  grind [nth,zmt,zAv]
 |a::l,i+1,k,hi,h0,hk,hj,h=>by
  rw [za6] at hk h;have hj':∀j,j<k->leq (nth (nth l i).R j) x=false:=λ j hj2=>by have:=hj j hj2;rwa [za6] at this
  have ha:a.R.find? (λ b=>leq b x)=none:=zwa λ j hj=>by have:=h0 0 aa j dw;rwa [zce] at this
  rw [zmt,ha];simp only;rw [zAe au (λ j hj2 k hk2=>by have:=h0 (j+1) aa k (by rw [za6];exact hk2);rwa [za6] at this) hk hj' h];simp [za6]
theorem zo3 {x:zab}:∀ {l:List zab},(∀j,j<l.length->∀k,k<(nth l j).R.length->leq (nth (nth l j).R k) x=false)->zmt x l=none
 | [], _=>rfl
 |a::l,h=>by
  have ha:a.R.find? (λ b=>leq b x)=none:=zwa λ j hj=>by have:=h 0 ac j dw;rwa [zce] at this
  rw [zmt,ha];simp only;rw [zo3 (λ j hj k hk=>by have:=h (j+1) (by simpa using hj) k (by rw [za6];exact hk);rwa [za6] at this)];rfl
theorem zt5 (l more:List zab) (i:Nat) (hi:i<l.length) (hl:l.length+more.length<=68719476736):
  zav Tryz.prog 133 [.lst 2 (zar l), .int i, .lst 2 (zar more)] (.lst 2 (zar (l.take i++(more++l.drop (i+1))))):=by
 have e:(i:Int)+1=((i+1:Nat):Int):=rfl;refine pF Tryz.func133 ?_;have t:((zar l).drop (i+1)).take (l.length - (i+1))=zar (l.drop (i+1)):=by grind [ziD,zdB]
 repeat first|refine wV λ _=>?_|simp [go_sem,znw]
 grind [zaq,noH,upd,zar]
theorem zvO (f:zab) (hf:f.size<=34359738368):
  zav Tryz.prog 82 [zbQ f] (.agg [.lst 2 (zar (zms f).1.L), .lst 2 (zar (zms f).1.R), .bool (zms f).2]):=by
 have e1:=zjs f;have e2:=zjt f;have hq:∀i k,i<f.L.length->k<(nth f.L i).R.length->zav Tryz.prog 62 [.agg (zbt (nth (nth f.L i).R k)), .agg (zbt f)] (.bool (leq (nth (nth f.L i).R k) f)):=λ i k hi hk=>
  zt9 1099511627776 _ _ (by have:=zbS hi;have:=zb5 hk;omega) (Nat.le_refl _)
 have hw:∀i k,i<f.L.length->k<(nth f.L i).R.length->zav Tryz.prog 133 [.lst 2 (zar f.L), .int i, .lst 2 (zar (nth (nth f.L i).R k).L)] (.lst 2 (zar (f.L.take i++((nth (nth f.L i).R k).L++f.L.drop (i+1))))):=λ i k hi hk=>
  zt5 _ _ i hi (by have:=zbS hi;have:=zb5 hk;grind [zjs])
 have hlr:∀i,i<f.L.length->(nth f.L i).R.length<34359738368:=λ i hi=>by have:=zbS hi;grind [zjt]
 obtain ⟨R,hR⟩:∃R,R=zms f:=⟨_,rfl⟩
 rw [<- hR];have r1:∀i k,i<f.L.length->(∀j,j<i->∀k,k<(nth f.L j).R.length->leq (nth (nth f.L j).R k) f=false)->k<(nth f.L i).R.length->(∀j,j<k->leq (nth (nth f.L i).R j) f=false)->leq (nth (nth f.L i).R k) f=true->
   R=(.mk (f.L.take i++((nth (nth f.L i).R k).L++f.L.drop (i+1))) f.R,true):=λ i k a b c d e=>by grind [zms,zAe]
 have r2:(∀j,j<f.L.length->∀k,k<(nth f.L j).R.length->leq (nth (nth f.L j).R k) f=false)->R=(f,false):=λ a=>by rw [hR,zms,zo3 a]
 clear hR;have ef:=zao f;have eg:∀i,i<f.L.length->zbt (nth f.L i)= [.lst 2 (zar (nth f.L i).L), .lst 2 (zar (nth f.L i).R)]:=λ i _=>zao _;have eh:∀i k,i<f.L.length->k<(nth f.L i).R.length->zbt (nth (nth f.L i).R k)= [.lst 2 (zar (nth (nth f.L i).R k).L), .lst 2 (zar (nth (nth f.L i).R k).R)]:=λ i k _ _=>zao _;unfold zbQ;rw [ef] at hq ⊢;refine pF Tryz.func82 ?_;refine J0 ?_;refine zNW (zNY (α:=Nat) (λ i=>⟨[(1, .ref 0 0 2 0 0),(2, .ref 1 0 3 0 0),(3, .int i)], [(0, .rows true 0 2 [[.lst 2 (zar f.L), .lst 2 (zar f.R)]]),(1, .rows true 0 3 [[AV.nils,AV.nils, .bool false]])],2⟩)
  (λ d i=>i+d=f.L.length∧∀j,j<i->∀k,k<(nth f.L j).R.length->leq (nth (nth f.L j).R k) f=false) ?_ f.L.length 0 ?_) ?_ ?_
 ·rintro d i ⟨hi,hj⟩ hrec;refine J0 ?_;refine zNX (λ hl=> ?_) (λ hl=> ?_)<;>simp at hl
  ·have hl':i<f.L.length:=by omega
   have h3:=hlr i hl';refine J0 ?_;refine zNW (zNY (α:=Nat) (λ k=>⟨[(1, .ref 0 0 2 0 0),(2, .ref 1 0 3 0 0),(3, .int i),(4, .int k)], [(0, .rows true 0 2 [[.lst 2 (zar f.L), .lst 2 (zar f.R)]]),(1, .rows true 0 3 [[AV.nils,AV.nils, .bool false]])],2⟩)
    (λ d k=>k+d=(nth f.L i).R.length∧∀j,j<k->leq (nth (nth f.L i).R j) f=false) ?_ (nth f.L i).R.length 0 ?_) ?_ ?_
   ·rintro d2 k ⟨hk,hm⟩ hrec2;repeat first|refine wV λ _=>?_|simp [go_sem,zaF hl',eg i hl',hl']
    refine zNX (λ hk1=> ?_) (λ hk1=> ?_)<;>simp at hk1
    ·have hk':k<(nth f.L i).R.length:=by omega
     repeat first|refine wV λ _=>?_|simp [go_sem,zaF hl',eg i hl',zaF hk',hl',hk']
     refine dP (hq i k hl' hk') ?_;repeat first|refine wV λ _=>?_|simp [go_sem,zaF hl',eg i hl',zaF hk',hl',hk']
     refine zNX (λ hz=> ?_) (λ hz=> ?_)
     ·have hr:=r1 i k hl' hj hk' hm hz;repeat first|refine wV λ _=>?_|simp [go_sem,zaF hl',eg i hl',zaF hk',eh i k hl' hk',hl',hk']
      refine dP (hw i k hl' hk') ?_;repeat first|refine wV λ _=>?_|simp [go_sem,zaF hl',eg i hl',zaF hk',eh i k hl' hk',hl',hk']
      rw [hr];exact ⟨.refl _, .refl _, .refl _⟩
     ·refine J0 ?_;refine zNW (hrec2 (d2 - 1) aa (k+1) ⟨aa,λ j hj2=> ?_⟩) ?_ ac
      ·grind
      ·simp [go_sem,zaf]
    ·obtain rfl:k=(nth f.L i).R.length:=by omega
     refine J0 ?_;refine zNW (hrec (d - 1) aa (i+1) ⟨aa,λ j hj2=> ?_⟩) ?_ ac
     ·grind
     ·simp [go_sem,zaf]
   ·grind
   ·simp [go_sem,zaf]
   ·simp
  ·obtain rfl:i=f.L.length:=by omega
   have hr:=r2 hj;refine J0 ?_;rw [hr];exact ⟨.refl _, .refl _, .refl _⟩
 ·grind
 ·simp [go_sem,zaf]
 ·simp
end Go.Av
end
section
open Go Go.Proofs
namespace Go.Av
open zab
theorem zCm:∀ {s t:List Nat},(∀c ∈ s,c<256)->(∀c ∈ t,c<256)->Op.bytesLess (s.map UInt8.ofNat) (t.map UInt8.ofNat)=ltT s t
 | [], [], _, _=>rfl
 | _:: _, [], _, _=>by simp [Op.bytesLess,ltT]
 | [], _:: _, _, _=>rfl
 |a::s,b::t,hs,ht=>by
  have h1:=hs a ac;have h2:=ht b ac;have ih:=zCm (s:=s) (t:=t) (λ c hc=>hs c ay) (λ c hc=>ht c ay);have e1:(UInt8.ofNat a).toNat=a:=by rw [UInt8.toNat_ofNat'];exact Nat.mod_eq_of_lt h1
  have e2:(UInt8.ofNat b).toNat=b:=by rw [UInt8.toNat_ofNat'];exact Nat.mod_eq_of_lt h2
  rw [List.map_cons,List.map_cons,Op.bytesLess,ltT,ih];congr 1
  ·rw [decide_eq_decide,UInt8.lt_iff_toNat_lt,e1,e2]
  ·congr 1;by_cases h:a=b
   ·subst h;simp
   ·have:UInt8.ofNat a≠UInt8.ofNat b:=λ e=>h (by rw [<- e1,<- e2,e]);simp [h,this]
theorem zvP (l:List Nat):(zfp l).toList=l.map UInt8.ofNat:=by simp_all [zfp]
theorem zyx (a b:zab):Op.bytesLess (ze2 a).toList (ze2 b).toList=ltT a.text b.text:=by
 grind [ze2,zvP,zCm,text_lt]
theorem zAE {x:zab}:∀ {l:List zab}{k:Nat},k<=l.length->(∀j,j<k->ltT (nth l j).text x.text=true)->(k<l.length->ltT (nth l k).text x.text=false)->ztn x l=l.take k++(x::l.drop k)
 | [],k,hk, _, _=>by
  grind [ztn]
 |y::l,0, _, _,h=>by
  grind [ztn,nth]
 |y::l,k+1,hk,hj,h=>by
  have h0:=hj 0 aa;rw [zce] at h0;rw [ztn,if_pos h0,zAE (k:=k) bS (λ j hj2=>by have:=hj (j+1) aa;rwa [za6] at this) (λ h2=>by have:=h (by simpa using h2);rwa [za6] at this)];rfl
theorem zCj (x:zab):∀l:List zab,(ztn x l).length=l.length+1
 | []=>rfl
 |y::l=>by
  rw [ztn];split
  ·rw [List.length_cons,zCj x l];rfl
  ·rfl
theorem zy9 (l:List zab):∃Ls:Nat->List zab,Ls 0= []∧(∀i,i<l.length->Ls (i+1)=ztn (nth l i) (Ls i))∧(∀i,i<=l.length->(Ls i).length=i)∧(∀i,i<=l.length->∀z ∈ Ls i,z ∈ l)∧Ls l.length=zb6 l:=by
 have hs:∀i,i<l.length->zb6 (l.take (i+1))=ztn (nth l i) (zb6 (l.take i)):=λ i hi=>by grind [zb6,zml]
 refine ⟨λ i=>zb6 (l.take i),rfl,hs,λ i=> ?_,λ i hi z hz=>List.mem_of_mem_take (zba.1 hz),af⟩;induction i<;>grind [zb6,zCj]
theorem zwH (l:List zab) (hl:l.length<=34359738368) (hP:∀z ∈ l,zav Tryz.prog 43 [.agg (zbt z)] (.v (.string (ze2 z)))):
  zav Tryz.prog 85 [.lst 2 (zar l)] (.lst 2 (zar (zb6 l))):=by
 obtain ⟨O,o0,o1,o2,o3,o4⟩:=zy9 l;rw [<- o4];refine pF Tryz.func85 ?_;refine J0 ?_;refine zNW (zNY (α:=Nat) (λ i=>⟨[(0, .lst 2 (zar l)),(3, .lst 2 (zar (O i))),(4, .int i)], [],0⟩)
  (λ d i=>i+d=l.length) ?_ l.length 0 ?_) ?_ ?_
 ·intro d i hi hrec;have hol:=o2 i aa;refine J0 ?_;refine zNX (λ hlt=> ?_) (λ hlt=> ?_)<;>simp at hlt
  ·have hl':i<l.length:=by omega
   have hx:=hP _ (zah hl');refine J0 ?_;refine zNW (zNY (α:=Nat) (λ k=>⟨[(0, .lst 2 (zar l)),(3, .lst 2 (zar (O i))),(4, .int i),(5, .int k)], [],0⟩)
    (λ d k=>k+d=i∧∀j,j<k->ltT (nth (O i) j).text (nth l i).text=true) ?_ i 0 ?_) ?_ ?_
   ·rintro d2 k ⟨hk,hj⟩ hrec2;have stop:(k<i->ltT (nth (O i) k).text (nth l i).text=false)->zar (O (i+1))=zar ((O i).take k)++(zbt (nth l i)::zar ((O i).drop k)):=λ h=>by
     rw [o1 i hl',zAE aa hj af];simp [zar]
    have ht:((O i).take k).length=k:=af;have hd:((O i).drop k).length=i - k:=af;have hd2:(zar ((O i).drop k)).take (i - k)=zar ((O i).drop k):=List.take_of_length_le cz;by_cases hki:k<i
    ·have hko:k<(O i).length:=by omega
     have hy:=hP _ (o3 i aa _ (zah hko));repeat first|refine wV λ _=>?_|simp [go_sem,hol,hki,zaF hko,zaF hl',hl']
     refine zN2 _ (λ _=>hy) ae ?_;repeat first|refine wV λ _=>?_|simp [go_sem,hol,hki,zaF hko,zaF hl',hl']
     refine zN2 _ (λ _=>hx) ae ?_;repeat first|refine wV λ _=>?_|simp [go_sem,hol,hki,zaF hko,zaF hl',hl',zyx]
     refine zNX (λ hz=> ?_) (λ hz=> ?_)
     ·refine J0 ?_;refine zNW (hrec2 (d2 - 1) aa (k+1) ⟨aa,λ j hj2=> ?_⟩) ?_ ac
      ·grind
      ·simp [go_sem,zaf]
     ·have hs:=stop (λ _=>hz);repeat first|refine wV λ _=>?_|simp [go_sem,hol,zaF hl',hl',znw,ziD,ht,hd,hd2]
      refine zNW (hrec (d - 1) aa (i+1) aa) ?_ ac;simp [go_sem,zaf,hs];exact zaq rfl cz af (by grind [List.take_of_length_le,zar])
    ·obtain rfl:k=i:=by omega
     have hs:=stop (λ h=>absurd h aa);refine J1 hol ?_;refine dGC.skip .top ?_;refine J1 hol ?_;refine dGC.skip .top ?_;have ht2:zar ((O k).take k)=zar (O k):=af;have hd3:zar ((O k).drop k)= []:=af;have ht3:(zar (O k)).take k=zar (O k):=List.take_of_length_le cz;repeat first|refine wV λ _=>?_|simp [go_sem,hol,zaF hl',hl',ht3,ziD,hd3]
     refine zNW (hrec (d - 1) aa (k+1) aa) ?_ ac;simp [go_sem,zaf,hs,ht2,hd3];grind [zaq,upd,zar]
   ·grind
   ·simp [go_sem,zaf]
   ·simp
  ·obtain rfl:i=l.length:=by omega
   exact K0
 ·simp
 ·simp [go_sem,zaf,o0];grind [zaq,upd]
 ·simp
end Go.Av
end
section
open Go Go.Proofs
namespace Go.Av
open zab
def ztQ (le:zab->zab->Bool) (l:List zab) (i:Nat):List zab:=((List.range i).filter (zfd le l)).map (nth l)
theorem zEc (le:zab->zab->Bool) (l:List zab) (i:Nat):ztQ le l (i+1)=if zfd le l i=true then ztQ le l i++ [nth l i] else ztQ le l i:=by
 grind [ztQ,List.range_succ]
theorem zHz (le:zab->zab->Bool) (l:List zab):ztQ le l l.length=zbI le l:=rfl
theorem zHA (le:zab->zab->Bool) (l:List zab) (i:Nat):(ztQ le l i).length<=i:=by
 grind [ztQ]
theorem zHB (le:zab->zab->Bool) (l:List zab){i:Nat} (hi:i<=l.length):∀z ∈ ztQ le l i,z ∈ l:=by
 grind [zah,ztQ]
theorem zII (l:List zab):(zb6 l).length=l.length:=by
 obtain ⟨O, _, _,h, _,e⟩:=zy9 l;grind
theorem zGr (le:zab->zab->Bool) (l:List zab):∃Ls:Nat->List zab,Ls 0= []∧(∀i,i<l.length->Ls (i+1)=if zfd le l i=true then ztn (nth l i) (Ls i) else Ls i)∧(∀i,i<=l.length->(Ls i).length<=i)∧
  (∀i,i<=l.length->∀z ∈ Ls i,z ∈ l)∧Ls l.length=zb6 (zbI le l):=by
 refine ⟨λ i=>zb6 (ztQ le l i),rfl,λ i hi=> ?_,λ i hi=> ?_,λ i hi z hz=>zHB le l hi z (zba.1 hz),by grind [zHz]⟩;all_goals grind [zb6,zEc,zII,zHA]
def zuP (le:zab->zab->Bool) (l:List zab) (i k:Nat):Bool:= !(List.range k).any (zdi le l i)
theorem zAI (le:zab->zab->Bool) (l:List zab) (i:Nat):zuP le l i 0=true:=rfl
theorem zAH (le:zab->zab->Bool) (l:List zab) (i k:Nat):zuP le l i (k+1)=(zuP le l i k && !zdi le l i k):=by
 grind [zuP]
theorem zEa (le:zab->zab->Bool) (l:List zab) (i:Nat):zuP le l i l.length=zfd le l i:=rfl
theorem zAb (l:List zab) (hl:l.length<=34359738368) (hP:∀z ∈ l,zav Tryz.prog 43 [.agg (zbt z)] (.v (.string (ze2 z))))
  (hL:∀x ∈ l,∀y ∈ l,zav Tryz.prog 62 [.agg (zbt x), .agg (zbt y)] (.bool (leq x y))):
  zav Tryz.prog 84 [.lst 2 (zar l)] (.lst 2 (zar (zb6 (zbI leq l)))):=by
 obtain ⟨O,o0,o1,o2,o3,o4⟩:=zGr leq l;rw [<- o4];refine pF Tryz.func84 ?_;refine J0 ?_;refine zNW (zNY (α:=Nat) (λ i=>⟨[(0, .lst 2 (zar l)),(3, .lst 2 (zar (O i))),(4, .int i)], [],0⟩)
  (λ d i=>i+d=l.length) ?_ l.length 0 ?_) ?_ ?_
 ·intro d i hi hrec;have hol:=o2 i aa;refine J0 ?_;refine zNX (λ hlt=> ?_) (λ hlt=> ?_)<;>simp at hlt
  ·have hl':i<l.length:=by omega
   have hx:=hP _ (zah hl');refine J0 ?_;refine zNW (zNY (α:=Nat) (λ k=>⟨[(0, .lst 2 (zar l)),(3, .lst 2 (zar (O i))),(4, .int i),(5, .bool (zuP leq l i k)),(6, .int k)], [],0⟩)
    (λ d k=>k+d=l.length) ?_ l.length 0 ?_) ?_ ?_
   ·intro d2 k hk hrec2;refine J0 ?_;refine zNX (λ hkl=> ?_) (λ hkl=> ?_)<;>simp at hkl
    ·have hk':k<l.length:=by omega
     have hs:=zAH leq l i k;by_cases hki:k=i
     ·have hb:zdi leq l i k=false:=by simp [zdi,hki]
      rw [hb,Bool.not_false,Bool.and_true] at hs;repeat first|refine wV λ _=>?_|simp [go_sem,hki,zaF hk',zaF hl',hl',hk']
      refine dGC.skip (.v (.bool false)) ?_;repeat first|refine wV λ _=>?_|simp [go_sem,hki,zaF hk',zaF hl',hl',hk']
      refine dGC.skip (.v (.bool false)) ?_;repeat first|refine wV λ _=>?_|simp [go_sem,hki,zaF hk',zaF hl',hl',hk']
      refine zNW (hrec2 (d2 - 1) aa (k+1) aa) ?_ ac;rw [hki] at hs;simp [go_sem,zaf,hs,hki]
     ·have hki2:¬(k:Int)=i:=by omega
      obtain ⟨q1,hq1⟩:∃q,q=leq (nth l i) (nth l k):=⟨_,rfl⟩
      obtain ⟨q2,hq2⟩:∃q,q=leq (nth l k) (nth l i):=⟨_,rfl⟩
      have c1:=hL _ (zah hl') _ (zah hk');have c2:=hL _ (zah hk') _ (zah hl');have hb:zdi leq l i k=(q1 && (decide (k<i)|| !q2)):=by simp_all [zdi,Ne.symm]
      rw [hb] at hs;rw [<- hq1] at c1;rw [<- hq2] at c2;clear hb hq1 hq2;repeat first|refine wV λ _=>?_|simp [go_sem,hki2,zaF hk',zaF hl',hl',hk']
      refine zN2 _ (λ _=>c1) ae ?_;repeat first|refine wV λ _=>?_|simp [go_sem,hki2,zaF hk',zaF hl',hl',hk']
      refine zN2 _ (λ _=>c2) ae ?_;(repeat (first|refine wV λ _=>?_|simp [go_sem,hki2,zaF hk',zaF hl',hl',hk']|(refine zOl cA λ _=> ?_)|(refine zOg cA λ _=> ?_)))
      refine zNX (λ hz=> ?_) (λ hz=> ?_)
      ·rw [hz,Bool.not_true,Bool.and_false] at hs;refine J0 ?_;refine zNW (hrec2 (d2 - 1) aa (k+1) aa) ?_ ac;simp [go_sem,zaf,hs]
      ·rw [hz,Bool.not_false,Bool.and_true] at hs;refine J0 ?_;refine zNW (hrec2 (d2 - 1) aa (k+1) aa) ?_ ac;simp [go_sem,zaf,hs]
    ·obtain rfl:k=l.length:=by omega
     have ho:=o1 i hl';obtain ⟨kp,hkp⟩:∃kp,kp=zfd leq l i:=⟨_,rfl⟩
     rw [<- hkp] at ho;repeat first|refine wV λ _=>?_|simp [go_sem,zEa]
     rw [<- hkp];clear hkp hrec2;refine zNX (λ hz=> ?_) (λ hz=> ?_)
     ·rw [Bool.not_eq_true'] at hz;rw [hz,if_neg ac] at ho;refine J0 ?_;refine zNW (hrec (d - 1) aa (i+1) aa) ?_ ac;simp [go_sem,zaf,ho]
     rw [Bool.not_eq_false'] at hz;rw [if_pos hz] at ho;obtain ⟨m,hm⟩:∃m,m=(O i).length:=⟨_,rfl⟩
     rw [<- hm] at hol;refine J0 ?_;refine zNW (zNY (α:=Nat) (λ k=>⟨[(0, .lst 2 (zar l)),(3, .lst 2 (zar (O i))),(4, .int i),(7, .int k)], [],0⟩)
      (λ d k=>k+d=m∧∀j,j<k->ltT (nth (O i) j).text (nth l i).text=true) ?_ m 0 ?_) ?_ ?_
     ·rintro d2 k ⟨hk,hj⟩ hrec2;have stop:(k<m->ltT (nth (O i) k).text (nth l i).text=false)->zar (O (i+1))=zar ((O i).take k)++(zbt (nth l i)::zar ((O i).drop k)):=λ h=>by
       rw [ho,zAE aa hj af];simp [zar]
      have ht:((O i).take k).length=k:=by rw [List.length_take];omega
      have hd:((O i).drop k).length=m - k:=by rw [List.length_drop];omega
      have hd2:(zar ((O i).drop k)).take (m - k)=zar ((O i).drop k):=List.take_of_length_le (by rw [zdB,hd];omega);by_cases hki:k<m
      ·have hko:k<(O i).length:=by omega
       have hy:=hP _ (o3 i aa _ (zah hko));repeat first|refine wV λ _=>?_|simp [go_sem,<- hm,hki,zaF hko,zaF hl',hl']
       refine zN2 _ (λ _=>hy) ae ?_;repeat first|refine wV λ _=>?_|simp [go_sem,<- hm,hki,zaF hko,zaF hl',hl']
       refine zN2 _ (λ _=>hx) ae ?_;repeat first|refine wV λ _=>?_|simp [go_sem,<- hm,hki,zaF hko,zaF hl',hl',zyx]
       refine zNX (λ hz=> ?_) (λ hz=> ?_)
       ·refine J0 ?_;refine zNW (hrec2 (d2 - 1) aa (k+1) ⟨aa,λ j hj2=> ?_⟩) ?_ ac
        ·by_cases e:j<k
         ·exact hj j e
         grind
        ·simp [go_sem,zaf]
       ·have hs:=stop (λ _=>hz);repeat first|refine wV λ _=>?_|simp [go_sem,<- hm,zaF hl',hl',znw,ziD,ht,hd,hd2]
        refine zNW (hrec (d - 1) aa (i+1) aa) ?_ ac;simp [go_sem,zaf,hs];exact zaq rfl (by simp [zdB,ht,hd];omega) af (by rw [List.drop_zero];exact List.take_of_length_le (by simp [zdB,ht,hd];omega))
      ·obtain rfl:k=m:=by omega
       have hs:=stop (λ h=>absurd h aa);repeat first|refine wV λ _=>?_|simp [go_sem,<- hm]
       refine dGC.skip .top ?_;repeat first|refine wV λ _=>?_|simp [go_sem,<- hm]
       refine dGC.skip .top ?_;have ht2:zar ((O i).take k)=zar (O i):=af;have hd3:zar ((O i).drop k)= []:=af;have ht3:(zar (O i)).take k=zar (O i):=List.take_of_length_le (by rw [zdB];omega);repeat first|refine wV λ _=>?_|simp [go_sem,<- hm,zaF hl',hl',ht3,ziD,hd3]
       refine zNW (hrec (d - 1) aa (i+1) aa) ?_ ac;simp [go_sem,zaf,hs,ht2,hd3];exact zaq rfl (by simp [zdB,<- hm]) af (by rw [List.drop_zero];exact List.take_of_length_le (by simp [zdB,<- hm]))
     ·grind
     ·simp [go_sem,zaf]
     ·simp
   ·omega
   ·simp [go_sem,zaf,zAI]
   ·simp
  ·obtain rfl:i=l.length:=by omega
   exact K0
 ·simp
 ·simp [go_sem,zaf,o0];grind [zaq,upd]
 ·simp
end Go.Av
end
section
open Go Go.Proofs
namespace Go.Av
open zab
theorem zkz:∀ (n m:Nat) (x:zab),x.size<=n->x.size<=m->za5 n x=za5 m x
 |0, _,x,h, _=>aX
 | _,0,x, _,h=>aX
 |n+1,m+1,x,h1,h2=>by
  have e1:x.L.map (za5 n)=x.L.map (za5 m):=List.map_congr_left λ z hz=>zkz n m z dl dl;have e2:x.R.map (za5 n)=x.R.map (za5 m):=List.map_congr_left λ z hz=>zkz n m z dm dm;simp only [za5,e1,e2]
theorem zAh (x:zab){n:Nat} (h:x.size<=n+1):x.L.map (za5 n)=x.L.map canon:=List.map_congr_left λ z hz=>zkz _ _ z dl (Nat.le_refl _)
theorem zAi (x:zab){n:Nat} (h:x.size<=n+1):x.R.map (za5 n)=x.R.map canon:=List.map_congr_left λ z hz=>zkz _ _ z dm (Nat.le_refl _)
def zCC (x:zab):List zab×List zab:=zkO (zaw (x.L.map canon)+zaw (x.R.map canon)+1) (x.L.map canon) (x.R.map canon)
theorem zvR (x:zab):x.canon= .mk (zb6 (zbI leq (zCC x).1)) (zb6 (zbI (λ a b=>leq b a) (zCC x).2)):=by
 have hp:=za1 x;obtain ⟨n,hn⟩:∃n,x.size=n+1:=⟨x.size - 1,aa⟩
 grind [canon,za5,zAh,zAi,zCC]
theorem zje (a b:List zab):zaw (a++b)=zaw a+zaw b:=by
 induction a<;>grind [zaw]
theorem zme (l:List zab) (p:Nat->Bool):∀n,n<=l.length->zaw (((List.range n).filter p).map (nth l))<=zaw (l.take n)
 |0, _=>af
 |n+1,h=>by
  have ih:=zme l p n aa;rw [List.range_succ,List.filter_append,List.map_append,zje,ziF aa];by_cases hp:p n=true
  ·simp [hp,zaw];omega
  ·simp [hp,zaw];omega
theorem zpF (le:zab->zab->Bool) (l:List zab):zaw (zbI le l)<=zaw l:=by
 grind [zme,zbI]
theorem zvf (x:zab):∀l:List zab,zaw (ztn x l)=x.size+zaw l
 | []=>by simp [ztn,zaw]
 |y::l=>by
  rw [ztn];split
  ·rw [zaw,zaw,zvf x l];omega
  ·rw [zaw,zaw]
theorem zpG (l:List zab):zaw (zb6 l)=zaw l:=by
 have h:∀ (l o:List zab),zaw (l.foldl (λ o x=>ztn x o) o)=zaw o+zaw l:=by
  intro l;induction l<;>grind [zaw,zvf]
 grind [zb6,zaw]
theorem zoJ:∀ (n:Nat) (l r:List zab),zaw (zkO n l r).1<=zaw l∧zaw (zkO n l r).2<=zaw r
 |0,l,r=>⟨Nat.le_refl _,Nat.le_refl _⟩
 |n+1,l,r=>by
  rw [zkO];cases h:zmt (.mk l r) l with
  |some l'=>
   obtain ⟨_, _, _, _, _, _, _, _,hs⟩:=zfO h;have:=zoJ n l' r;exact ⟨aA,this.2⟩
  |none=>
   cases h2:zmU (.mk l r) r with
   |some r'=>
    obtain ⟨_, _, _, _, _, _, _, _,hs⟩:=zgP h2;have:=zoJ n l r';exact ⟨this.1,aA⟩
   |none=>exact ⟨Nat.le_refl _,Nat.le_refl _⟩
theorem zeI {g:zab->zab}:∀ {l:List zab},(∀z ∈ l,(g z).size<=z.size)->zaw (l.map g)<=zaw l
 | [], _=>af
 |x::l,h=>by
  have h1:=h x ac;have h2:=zeI (l:=l) λ z hz=>h z (by simp [hz]);rw [List.map_cons,zaw,zaw];omega
theorem zdt:∀ (n:Nat) (x:zab),x.size<=n->x.canon.size<=x.size
 |0,x,h=>aX
 |n+1,x,h=>by
  have h1:=zeI (l:=x.L) (g:=canon) λ z hz=>zdt n z dl;have h2:=zeI (l:=x.R) (g:=canon) λ z hz=>zdt n z dm;have h3:zaw (zCC x).1<= _∧zaw (zCC x).2<= _:=zoJ _ (x.L.map canon) (x.R.map canon);have h4:=zpF leq (zCC x).1;have h5:=zpF (λ a b=>leq b a) (zCC x).2;have e:=zhv x;rw [zvR,size,zpG,zpG];omega
theorem zs8 (l:List zab):zaw (l.map neg)=zaw l:=by
 have h:∀x:zab,x.neg.size=x.size:=by
  intro x;suffices hn:∀ (n:Nat) (x:zab),x.size<=n->x.neg.size=x.size from hn _ x (Nat.le_refl _)
  intro n;induction n with
  |zero=>grind [za1]
  |succ n ih=>
   intro x hx;have aux:∀l:List zab,(∀z ∈ l,z.size<=n)->zaw (l.map neg)=zaw l:=by
    intro l;induction l<;>grind [zaw]
   rw [zhv x.neg,zhv x,ztT,ztU,aux x.R (λ z hz=>by have:=zb4 hz;omega),aux x.L (λ z hz=>by have:=zb3 hz;omega)];omega
 induction l<;>grind [zaw]
theorem zqW (x:zab):x.neg.size=x.size:=by
 grind [zs8,zhv,ztT,ztU]
theorem zrF (x:zab):(zms x).1.size<=x.size∧((zms x).2=true->(zms x).1.size<x.size):=by
 grind [zhv,zms,zfO,size]
theorem zvj (x:zab):(znC x).1.size<=x.size∧((znC x).2=true->(znC x).1.size<x.size):=by
 grind [zrF,znC,zqW]
theorem zuU:∀ (n:Nat) (x:zab),(zyC n x).size<=x.size
 |0,x=>Nat.le_refl _
 |n+1,x=>by
  rw [zyC];have h1:=zvj x;split
  ·exact Nat.le_trans (zuU n _) h1.1
  ·exact h1.1
end Go.Av
end
section
open Go Go.Proofs
namespace Go.Av
open zab
theorem zBM {l:List zab} (hl:l.length<=34359738368) (hC:∀i,i<l.length->zav Tryz.prog 44 [.agg (zbt (nth l i))] (.agg (zbt (nth l i).canon))):
  zav Tryz.prog 81 [.lst 2 (zar l)] (.lst 2 (zar (l.map canon))):=by
 obtain ⟨A,a0,a1,a2,a3⟩:=zg1 canon l;rw [<- a3];clear a3;refine pF Tryz.func81 ?_;refine J0 ?_;refine zNW (zNY (α:=Nat) (λ i=>⟨[(0, .lst 2 (zar l)),(3, .sl 0 i 2 0 i),(4, .int i)], [(0, .rows true i 2 (zar (A i)))],1⟩)
  (λ d i=>i+d=l.length) ?_ l.length 0 ?_) ?_ ?_
 ·intro d i hi hrec;have hlen:=a2 i aa;refine J0 ?_;refine zNX (λ hlt=> ?_) (λ hlt=> ?_)<;>simp at hlt
  ·have hl':i<l.length:=by omega
   repeat first|refine wV λ _=>?_|simp [go_sem,hl',zaF hl',hlen]
   refine aP (hC i hl') ?_;refine J1 hlen ?_;refine zNW (hrec (d - 1) aa (i+1) aa) ?_ ac;simp [go_sem,zaf,a1 i hl',zdC]
  ·obtain rfl:i=l.length:=by omega
   have hA:=a2 _ (Nat.le_refl _);refine J0 ?_;grind [zaq,noH,upd,zar]
 ·omega
 ·simp [go_sem,zaf,a0]
 ·simp
theorem zw4:∀ (n:Nat) (f:zab),f.size<=n->n<=17179869184->zav Tryz.prog 44 [zbQ f] (zbQ f.canon):=by
 intro n;induction n with
 |zero=>intro f hf;have:=za1 f;omega
 |succ n ih=>
  intro f hf hn;have e1:=zjs f;have e2:=zjt f;have es:=zhv f;have c1:=zBM (l:=f.L) aa λ i hi=>ih (nth f.L i) aB aa;have c2:=zBM (l:=f.R) aa λ i hi=>ih (nth f.R i) aC aa;have s1:=zeI (l:=f.L) (g:=canon) λ z _=>zdt _ z (Nat.le_refl _);have s2:=zeI (l:=f.R) (g:=canon) λ z _=>zdt _ z (Nat.le_refl _);have hb:∀x:zab,x.size<=17179869184->zav Tryz.prog 82 [.agg [.lst 2 (zar x.L), .lst 2 (zar x.R)]] (.agg [.lst 2 (zar (zms x).1.L), .lst 2 (zar (zms x).1.R), .bool (zms x).2]):=λ x hx=>by
   have:=zvO x aa;rwa [zbQ,zao] at this
  have hg:∀x:zab,x.size<=17179869184->zav Tryz.prog 83 [.agg [.lst 2 (zar x.L), .lst 2 (zar x.R)]] (.agg [.lst 2 (zar x.neg.L), .lst 2 (zar x.neg.R)]):=λ x hx=>by
   have:=zC0 17179869184 x hx aa;rwa [zbQ,zbQ,zao,zao] at this
  have hP:∀l:List zab,zaw l<=17179869184->∀z ∈ l,zav Tryz.prog 43 [.agg (zbt z)] (.v (.string (ze2 z))):=λ l hl z hz=>
   zfm 17179869184 z (by have:=zeP hz;omega) aa
  have hbe:∀l:List zab,zaw l<=17179869184->zav Tryz.prog 84 [.lst 2 (zar l)] (.lst 2 (zar (zb6 (zbI leq l)))):=λ l hl=>
   zAb l (by grind [zit]) (hP l hl) λ x hx y hy=>zt9 68719476736 x y (by have:=zeP hx;have:=zeP hy;omega) aa
  have hso:∀l:List zab,zaw l<=17179869184->zav Tryz.prog 85 [.lst 2 (zar l)] (.lst 2 (zar (zb6 l))):=λ l hl=>
   zwH l (by grind [zit]) (hP l hl)
  have hce:=zvR f;obtain ⟨x0,hx0⟩:∃x0:zab,x0= .mk (f.L.map canon) (f.R.map canon):=⟨_,rfl⟩
  have hx0s:x0.size<=17179869184:=by grind [size]
  have hloop:zyC (zaw (f.L.map canon)+zaw (f.R.map canon)+1) x0= .mk (zCC f).1 (zCC f).2:=by rw [hx0,zwt];rfl
  have hd:zaw (f.L.map canon)+zaw (f.R.map canon)+1=x0.size:=by grind [size]
  rw [hd] at hloop;have l0:f.L.map canon=x0.L:=by rw [hx0];rfl
  have l1:f.R.map canon=x0.R:=by rw [hx0];rfl
  rw [l0] at c1;rw [l1] at c2;obtain ⟨R,hR⟩:∃R,R=zab.mk (zCC f).1 (zCC f).2:=⟨_,rfl⟩
  rw [<- hR] at hloop;have hRs:R.size<=17179869184:=by grind [zuU]
  have r1:(zCC f).1=R.L:=by rw [hR];rfl
  have r2:(zCC f).2=R.R:=by rw [hR];rfl
  rw [r1,r2,<- zLa] at hce;rw [hce,zbQ,zbQ,zao f,zao];show zav _ _ _ (.agg [.lst 2 (zar (zb6 (zbI leq R.L))), .lst 2 (zar (zb6 ((zb6 (zbI leq (R.R.map neg))).map neg)))]);clear hce hx0 l0 l1 hR r1 r2 hd s1 s2 es ih;refine pF Tryz.func44 ?_;refine J0 ?_;refine dP c1 ?_;refine J0 ?_;refine dP c2 ?_;refine J0 ?_;refine zNW (zNY (α:=zab×Bool) (λ a=>⟨[(2, .ref 1 0 2 0 0),(3, .ref 10 0 3 0 0)], [(1, .rows true 0 2 [[AV.nils,AV.nils]]),(10, .rows true 0 3 [[.lst 2 (zar a.1.L), .lst 2 (zar a.1.R), .bool a.2]])],11⟩)
   (λ d a=>a.1.size<=17179869184∧(a.2=true->a.1.size<=d∧zyC d a.1=R)∧(a.2=false->a.1=R)) ?_ x0.size (x0,true) ?_) ?_ ?_
  rotate_left
  ·grind
  ·simp [go_sem,zaf]
  ·simp
  rintro d ⟨x,b⟩ ⟨i1,i2,i3⟩ hrec;simp only at i1 i2 i3;have z1:=zrF x;have z2:=zrF (zms x).1.neg;have z3:=zqW (zms x).1;have z4:=zqW (zms (zms x).1.neg).1;have z5:=zvj x;refine J0 ?_;refine zNX (λ hb1=> ?_) (λ hb1=> ?_)
  ·obtain ⟨j1,j2⟩:=i2 hb1;obtain ⟨d,rfl⟩:∃d',d=d'+1:=⟨d - 1,aX⟩
   rw [zyC] at j2;refine J0 ?_;refine aP (hb x i1) ?_;refine J0 ?_;refine zNX (λ hb2=> ?_) (λ hb2=> ?_)
   ·rw [Bool.not_eq_true'] at hb2;have es:znC x=((zms (zms x).1.neg).1.neg,(zms (zms x).1.neg).2):=by grind [znC]
    refine J0 ?_;refine aP (hg (zms x).1 aa) ?_;refine J0 ?_;refine aP (hb (zms x).1.neg aa) ?_;refine J0 ?_;refine aP (hg (zms (zms x).1.neg).1 aa) ?_;refine J0 ?_;refine zNW (hrec d aa (znC x) ⟨aa,λ h=> ?_,λ h=> ?_⟩) ?_ ac
    ·grind
    ·grind
    ·rw [es];simp [go_sem,zaf]
   ·rw [Bool.not_eq_false'] at hb2;have es:znC x=zms x:=by grind [znC]
    refine J0 ?_;refine zNW (hrec d aa (znC x) ⟨aa,λ h=> ?_,λ h=> ?_⟩) ?_ ac
    ·grind
    ·grind
    ·rw [es];simp [go_sem,zaf,hb2]
  ·obtain rfl:=i3 hb1;have t1:=zhv x;have t2:=zhv x.neg;have t3:=ztU x;have t4:=zqW x;have t5:=zs8 x.R;have sL:=zpF leq x.neg.L;have sB:=zpG (zbI leq x.neg.L);have e0:=ztT x;have m:zav Tryz.prog 83 [.agg [.lst 2 (zar (zb6 (zbI leq x.neg.L))), .lst 2 []]] (.agg [.lst 2 (zar []), .lst 2 (zar ((zb6 (zbI leq x.neg.L)).map neg))]):=by
    have:=hg (.mk (zb6 (zbI leq x.neg.L)) []) (by rw [size,zaw];omega);have f1:(zab.mk (zb6 (zbI leq x.neg.L)) []).neg.L= []:=ztT _;have f2:(zab.mk (zb6 (zbI leq x.neg.L)) []).neg.R=(zb6 (zbI leq x.neg.L)).map neg:=ztU _;rw [f1,f2] at this;exact this
   have sN:=zs8 (zb6 (zbI leq x.neg.L));rw [<- e0];refine J0 ?_;refine aP (hg x i1) ?_;refine J0 ?_;refine aP (hbe x.neg.L aa) ?_;refine J0 ?_;refine aP (hbe x.L aa) ?_;refine J0 ?_;refine zN3 [] m ?_ ae ?_
   ·(first|done|exact leX)
   refine J0 ?_;refine aP (hso ((zb6 (zbI leq x.neg.L)).map neg) aa) ?_;exact K0
end Go.Av
end
