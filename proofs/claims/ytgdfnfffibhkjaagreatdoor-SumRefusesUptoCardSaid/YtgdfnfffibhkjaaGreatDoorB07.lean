/- Texts of ours, part 7: our library and contracts of functions. -/
import Derived.Test.YtgdfnfffibhkjaaGreatDoorB06
set_option linter.unusedSimpArgs false
set_option linter.unusedVariables false
set_option maxRecDepth 100000
set_option maxHeartbeats 40000000
set_option linter.unusedSectionVars false
section
open Go Go.Proofs
namespace Go.Av
theorem M7 (a b:dM) (ha:bH a.p) (hb:bH b.p):aq Tryz.prog 268 [.agg (bC a), .agg (bC b)] (.v (.bool (decide (a=b)))):=by
 refine pF Tryz.func268 ?_;have hC:=fj _ _ ha hb;have he:=oW (p:=a.p) (q:=b.p);obtain ⟨pa,ka,ca,ta⟩:=a;obtain ⟨pb,kb,cb,tb⟩:=b;simp only at hC he;refine J0 ?_;refine zhb _ (λ _=>hC) no ?_;refine J0 ?_;grind [zhg]
theorem MZ (s:dM) (b:Bool):aq Tryz.prog 269 [.agg (bC s), .v (.bool b)] (fK (dF s b)):=by
 refine pF Tryz.func269 ?_;cases b
 ·repeat first|refine wV λ _=>?_|simp [go_sem,dF]
  exact BY
 ·repeat first|refine wV λ _=>?_|simp [go_sem,dF]
  exact BY
theorem Ld (g:ae) (hg:bN g) (s:dM) (hs:jx g s) (n:Int):aq Tryz.prog 270 [.agg (ai g), .agg (bC s), .int n] (fK (tQ g.board s n)):=by
 refine pF Tryz.func270 ?_;have hL:=MU g.board hg.board s.p.side n s.cursor;have hlm:=sC hg.board (side:=s.p.side) (d:=n) (c:=s.cursor);have hll:=Dt (b:=g.board) (side:=s.p.side) (d:=n) (c:=s.cursor);have c9:=hg.c9;have c1:=hg.c1;have hal:=hs.p.al;rw [show g.board.cells=g.cells from rfl] at hlm hll;unfold tQ;generalize uy g.board s.p.side n s.cursor=line at *;generalize hR:dQ s line=R;refine J0 ?_;refine aP hL ?_;refine J0 ?_;refine zg3 (zg5 (α:=Nat×List dM) (λ a=>⟨[(4, .ref 1 0 8 0 0),(7, .sl 2 a.2.length 8 0 a.2.length),(8,aS line),(9, .int a.1)], [(1, .rows true 0 8 [bC s]),(2, .rows true a.2.length 8 (a.2.map bC))],3⟩)
  (λ d a=>a.1+d=line.length∧a.2.length=a.1∧R=a.2++dQ s (line.drop a.1)) ?_ line.length (0, []) ?_) ?_ ?_
 ·rintro d ⟨i,out⟩ ⟨i1,i2,i3⟩ hrec;simp only at i1 i2 i3;refine J0 ?_;refine zg4 (λ hi=> ?_) (λ hi=> ?_)<;>simp at hi
  ·have hli:=hlm _ (am hi);have hlt:(ac line i).toNat<s.p.at_.length:=ge;rw [bQ hi,dQ] at i3;refine J2 hi hlt ?_;refine zg4 (λ hz=> ?_) (λ hz=> ?_)<;>simp at hz
   ·rw [if_neg pi] at i3;refine J0 ?_;rw [i3];exact BY
   ·rw [if_pos pi] at i3;refine J0 ?_;refine zg3 (hrec (d - 1) ge (i+1,out++ [{ s with cursor:=ac line i}]) ⟨ge,pi,pi⟩) ?_ gt;simp [go_sem,aj]
  ·rw [List.drop_eq_nil_of_le hi,dQ] at i3;refine J0 ?_;rw [i3];exact BY
 ·simp [hR]
 ·simp [go_sem,aj]
 ·simp
theorem M8 (g:ae) (hg:bN g) (s:dM) (hs:jx g s):aq Tryz.prog 271 [.agg (ai g), .agg (bC s)] (fK (wi g s)):=by
 refine pF Tryz.func271 ?_;have hal:=hs.p.al;have hc0:=hs.c0;have hc1:=hs.c1;have hcur:s.cursor.toNat<s.p.at_.length:=ge;have hO:=vf (ac s.p.at_ s.cursor.toNat);have hat:=hs.p.at (i:=s.cursor.toNat) ge;have hman:=cT hat.1 hat.2 hg.k6;have hcp:=oh s.p (hs.p.fits hg);unfold wi;generalize hm:aA (ac s.p.at_ s.cursor.toNat)=m at *;obtain ⟨mk,ms⟩:=m;simp only [Prod.mk.injEq] at hman;refine J1 hcur ?_;refine aP hO ?_;refine J0 ?_;refine zg4 (λ hc=> ?_) (λ hc=> ?_)<;>simp at hc
 ·rw [if_pos hc];refine J0 ?_;exact BY
 ·rw [if_neg ge];refine J0 ?_;refine zg8 hcp no ?_;have hmk:mk.toNat<g.kinds.length:=ge;refine J2 hcur hmk ?_;refine zg4 (λ hk=> ?_) (λ hk=> ?_)
  ·rw [if_pos hk];have hl0:=hs.p.h0.len;have hl1:=hs.p.h1.len;rcases hs.p.s with hsd|hsd
   ·have hmk0:mk.toNat<s.p.h0.length:=by omega
    have hmk':0<=mk:=ge;have hv:=hs.p.h0.v _ hmk0;refine J3 hsd hmk0 hcur ?_;refine zg4 (λ h8=> ?_) (λ h8=> ?_)<;>simp at h8
    ·rw [if_pos YA];refine J0 ?_;exact BY
    ·rw [if_neg YA];repeat first|refine wV λ _=>?_|simp [go_sem,hsd,aa.withHand,aa.hand,clr]
     (first|done|exact zd1)
   ·have hmk0:mk.toNat<s.p.h1.length:=by omega
    have hmk':0<=mk:=ge;have hv:=hs.p.h1.v _ hmk0;refine J3 hsd hmk0 hcur ?_;refine zg4 (λ h8=> ?_) (λ h8=> ?_)<;>simp at h8
    ·rw [if_pos YA];refine J0 ?_;exact BY
    ·rw [if_neg YA];repeat first|refine wV λ _=>?_|simp [go_sem,hsd,aa.withHand,aa.hand,clr]
     (first|done|exact zd1)
  ·rw [if_neg pi];repeat first|refine wV λ _=>?_|simp [go_sem,clr]
   (first|done|exact zd1)
theorem M6 (g:ae) (hg:bN g) (s:dM) (hs:jx g s) (n:Int):aq Tryz.prog 272 [.agg (ai g), .agg (bC s), .int n] (fK (v7 g s n)):=by
 refine pF Tryz.func272 ?_;have hT:=C6 g.board hg.board s.p.side n s.cursor;refine J0 ?_;refine aP hT ?_;have hal:=hs.p.al;have hc0:=hs.c0;have hc1:=hs.c1;have hcur:s.cursor.toNat<s.p.at_.length:=ge;have hcp:=oh s.p (hs.p.fits hg);have hto:=tU hg.board s.p.side n s.cursor;rw [show g.board.cells=g.cells from rfl] at hto;unfold v7;generalize sb g.board s.p.side n s.cursor=to at *;by_cases ht:to<0
 ·rw [if_pos (.inr (.inl ht))];have ht0:to.toNat=0:=ge;have h0l:0<s.p.at_.length:=ge;refine J4 hcur ht ht0 h0l ?_;exact BY
 ·have htl:to.toNat<s.p.at_.length:=by omega
  have ht':0<=to:=ge;refine J3 hcur ht htl ?_;refine zg4 (λ hc=> ?_) (λ hc=> ?_)<;>simp at hc
  ·rw [if_pos ge];refine J0 ?_;exact BY
  ·rw [if_neg ge];refine J1 hcur ?_;refine zg8 hcp no ?_;refine J2 hcur htl ?_;(first|done|exact zd1)
theorem No (l:List dM):ii l []=l:=rfl
variable {c i j k n:Nat}
theorem Jl (l more:List dM) (h:i<more.length):ii l (more.take (i+1))=if ac more i ∈ ii l (more.take i) then ii l (more.take i) else ii l (more.take i)++ [ac more i]:=by
 grind [List.take_add_one,ii,ac]
theorem xE:∀ (more l:List dM),l.length<=(ii l more).length∧(ii l more).length<=l.length+more.length
 | [],l=>Ys
 |s::more,l=>by
  have e:ii l (s::more)=ii (if s ∈ l then l else l++ [s]) more:=rfl;rw [e];by_cases h:s ∈ l
  ·have:=xE more l;rw [if_pos h];simp;omega
  ·have:=xE more (l++ [s]);rw [if_neg h];simp at this ⊢;omega
theorem Bp {P:dM->Prop}:∀ {more l:List dM},(∀s ∈ l,P s)->(∀s ∈ more,P s)->∀s ∈ ii l more,P s
 | [],l,h, _=>h
 |s::more,l,h,h'=>by
  have e:ii l (s::more)=ii (if s ∈ l then l else l++ [s]) more:=rfl;rw [e];refine Bp (λ t ht=> ?_) (λ t ht=>h' t (List.mem_cons_of_mem _ ht));grind
theorem Qi (l more:List dM) (hl:l.length+more.length<=17179869184) (h1:∀s ∈ l,bH s.p) (h2:∀s ∈ more,bH s.p):
  dD Tryz.prog 224 [.sl 0 l.length 8 0 l.length,fK more] [(0, .rows true l.length 8 (l.map bC))] 1 (.sl 0 (ii l more).length 8 0 (ii l more).length) [(0, .rows true (ii l more).length 8 ((ii l more).map bC))] 1:=by
 unfold dD;refine aF Tryz.func224 ?_;refine J0 ?_;refine zg3 (zg5 (α:=Nat×List dM) (λ a=>⟨[(0, .sl 0 a.2.length 8 0 a.2.length),(1,fK more),(5, .int a.1)], [(0, .rows true a.2.length 8 (a.2.map bC))],1⟩)
  (λ d a=>a.1+d=more.length∧a.2=ii l (more.take a.1)) ?_ more.length (0,l) ?_) ?_ ?_
 ·rintro d ⟨i,out⟩ ⟨i1,i2⟩ hrec;simp only at i1 i2;have hol:=xE (more.take i) l;rw [<- i2] at hol;have hof:∀s ∈ out,bH s.p:=by rw [i2];exact Bp h1 (λ s hs=>h2 s (List.mem_of_mem_take hs))
  refine J0 ?_;refine zg4 (λ hi=> ?_) (λ hi=> ?_)<;>simp at hi
  ·have htl:(more.take i).length=i:=by grind
   have hfi:=h2 _ (am hi);have hsu:=Jl l more hi;rw [<- i2] at hsu;refine J0 ?_;refine zg3 (zg5 (α:=Nat) (λ k=>⟨[(0, .sl 0 out.length 8 0 out.length),(1,fK more),(5, .int i),(6, .v (.bool (decide (ac more i ∈ out.take k)))),(7, .int k)], [(0, .rows true out.length 8 (out.map bC))],1⟩)
    (λ d k=>k+d=out.length) ?_ out.length 0 ?_) ?_ ?_
   ·rintro d2 k k1 hrec2;refine J0 ?_;refine zg4 (λ hk=> ?_) (λ hk=> ?_)<;>simp at hk
    ·have hfk:=hof _ (am hk);have htk:out.take (k+1)=out.take k++ [ac out k]:=X9;refine J2 hi hk ?_;refine zg9 _ (λ _=>M7 _ _ hfk hfi) no ?_;refine J2 hi hk ?_;refine zg3 (hrec2 (d2 - 1) ge (k+1) ge) ?_ gt;simp [go_sem,aj,htk,eq_comm (a:=ac more i) (b:=ac out k)]
    ·have hkl:k=out.length:=by omega
     subst hkl;refine J0 ?_;by_cases hm:ac more i ∈ out
     ·rw [if_pos hm] at hsu;refine J1 hm ?_;refine zg3 (hrec (d - 1) ge (i+1,out) ⟨ge,hsu.symm⟩) ?_ gt;simp [go_sem,aj]
     ·rw [if_neg hm] at hsu;refine J2 hm hi ?_;refine zg3 (hrec (d - 1) ge (i+1,out++ [ac more i]) ⟨ge,hsu.symm⟩) ?_ gt;simp [go_sem,aj]
   ·omega
   ·simp [go_sem,aj]
   ·simp
  ·have hil:i=more.length:=by omega
   subst hil;rw [List.take_length] at i2;rw [<- i2];refine J0 ?_;simp [go_sem,aj]
 ·simp [No]
 ·simp [go_sem,aj]
 ·simp
theorem MY (g:ae) (hg:bN g) (s:dM) (hs:jx g s) (x:Int×Int) (hx:jN g.next.length g.kinds.length g.rights x):
  aq Tryz.prog 225 [.agg (ai g), .agg (bC s), .agg (dC x)] (fK (di g s x)):=by
 refine pF Tryz.func225 ?_;have hal:=hs.p.al;have hc0:=hs.c0;have hc1:=hs.c1;have hcur:s.cursor.toNat<s.p.at_.length:=ge;have hat:=hs.p.at (i:=s.cursor.toNat) ge;have hO:=vf (ac s.p.at_ s.cursor.toNat);have hTo:=λ n=>C6 g.board hg.board s.p.side n s.cursor;have hOn:=λ u b=>MZ u b;have hSl:=λ n=>Ld g hg s hs n;have hTk:=M8 g hg s hs;have hPu:=λ n=>M6 g hg s hs n;have r0:=hg.r0;have r4:=hg.r4;obtain ⟨op,n⟩:=x;obtain ⟨xo,xd,xz,xk,xr⟩:=hx;simp only at xo xd xz xk xr;unfold di;generalize hm:aA (ac s.p.at_ s.cursor.toNat)=m at *;obtain ⟨mk,ms⟩:=m;refine J1 hcur ?_;refine aP hO ?_;rcases (show op=1∨op=2∨op=3∨op=4∨op=5∨op=6∨op=7∨op=8∨op=9∨op=10 by omega) with rfl|rfl|rfl|rfl|rfl|rfl|rfl|rfl|rfl|rfl
 ·refine J0 ?_;refine aP (hTo n) ?_;refine J0 ?_;refine aP (hOn { s with cursor:=sb g.board s.p.side n s.cursor} _) ?_;exact K0
 ·refine J0 ?_;refine aP (hSl n) ?_;exact K0
 ·refine J0 ?_;refine aP (hOn s _) ?_;exact K0
 ·refine J0 ?_;refine aP (hOn s _) ?_;exact K0
 ·refine J0 ?_;refine aP (hOn s _) ?_;exact K0
 ·refine J0 ?_;refine aP hTk ?_;exact K0
 ·refine J0 ?_;refine aP (hPu n) ?_;exact K0
 ·refine J0 ?_;exact BY
 ·have hn:=xr ge;refine J0 ?_;refine dP (hOn s _) ?_;exact K0
 ·have hn:=xr ge;have hpn:=CE hn.1 (show n<=4 by omega);refine J0 ?_;exact BY
def gj (g:ae) (p:aa) (cell:Int) (prog:List (Int×Int)) (n:Nat):List dM:=(prog.take n).foldl (lJ g) [kS p cell]
theorem yU (g:ae) (p:aa) (cell:Int) (prog:List (Int×Int)):gj g p cell prog 0= [kS p cell]:=rfl
theorem yT (g:ae) (p:aa) (cell:Int) (prog:List (Int×Int)) (h:n<prog.length):gj g p cell prog (n+1)=lJ g (gj g p cell prog n) (ac prog n):=by
 grind [gj,List.take_add_one,ac]
theorem yS (g:ae) (p:aa) (cell:Int) (prog:List (Int×Int)):gj g p cell prog prog.length=lg g p cell prog:=by
 grind [gj,lg]
def jI (g:ae) (now:List dM) (x:Int×Int) (n:Nat):List dM:=(now.take n).foldl (λ next s=>ii next (di g s x)) []
theorem HQ (g:ae) (now:List dM) (x:Int×Int):jI g now x 0= []:=rfl
theorem A8 (g:ae) (now:List dM) (x:Int×Int) (h:n<now.length):jI g now x (n+1)=ii (jI g now x n) (di g (ac now n) x):=by
 grind [jI,List.take_add_one,ac]
theorem DF (g:ae) (now:List dM) (x:Int×Int):jI g now x now.length=lJ g now x:=by
 grind [jI,lJ]
variable {cell side:Int} {x:Int×Int}
theorem HP {g:ae} (hg:bN g){now:List dM} (hx:jN g.next.length g.kinds.length g.rights x) (hn:∀s ∈ now,jx g s∧s.p.side=side):
  ∀n,n<=now.length->(∀s ∈ jI g now x n,jx g s∧s.p.side=side)∧(jI g now x n).length<=10 * n:=by
 intro n;induction n with
 |zero=>grind [jI]
 |succ n ih=>
  intro h;obtain ⟨h1,h2⟩:=ih ge;have hs:=hn _ (am (show n<now.length by omega));rw [A8 g now x ge];refine ⟨Bp h1 (λ s hs'=> ?_), ?_⟩;all_goals grind [rG,xE,DQ]
theorem sI {g:ae} (hg:bN g){p:aa} (hp:bw g p) (h0:0<=cell) (h1:cell<g.cells) (hm:0<=(aA (ac p.at_ cell.toNat)).1):jx g (kS p cell)∧(kS p cell).p.side=p.side:=by
 have hat:=hp.at (i:=cell.toNat) ge;have hk:=cT hat.1 hat.2 hg.k6;refine ⟨⟨hp.clr _,h0,h1, ?_⟩,rfl⟩;grind [kS]
variable {prog:List (Int×Int)}
theorem zx {g:ae} (hg:bN g){p:aa} (hp:bw g p) (h0:0<=cell) (h1:cell<g.cells) (hm:0<=(aA (ac p.at_ cell.toNat)).1)
   (hpr:∀x ∈ prog,jN g.next.length g.kinds.length g.rights x):
  ∀n,n<=prog.length->(∀s ∈ gj g p cell prog n,jx g s∧s.p.side=p.side)∧(gj g p cell prog n).length<=10 ^ n:=by
 intro n;induction n with
 |zero=>intro _;rw [yU];exact ⟨λ s hs=>by grind [sI],gt⟩
 |succ n ih=>
  intro h;obtain ⟨k1,k2⟩:=ih ge;rw [yT g p cell prog ge,<- DF];obtain ⟨j1,j2⟩:=HP hg (hpr _ (am (show n<prog.length by omega))) k1 _ (Nat.le_refl _);grind
theorem CD  (h:n<=8):10 ^ n<=100000000:=by
 have:=Nat.pow_le_pow_right (n:=10) ge h;exact this
def TZ (g:ae) (p:aa) (cell:Int) (prog:List (Int×Int)) (n:Nat):List (List AV):=(List.range n).map λ j=> [fK (gj g p cell prog j)]
theorem zcV (g:ae) (p:aa) (cell:Int) (prog:List (Int×Int)) (n:Nat):TZ g p cell prog (n+1)=TZ g p cell prog n++ [[fK (gj g p cell prog n)]]:=by simp [TZ,List.range_succ]
@[go_sem] theorem T3 (g:ae) (p:aa) (cell:Int) (prog:List (Int×Int)) (n:Nat):(TZ g p cell prog n).length=n:=by simp [TZ]
@[go_sem ↓] theorem bel_stR {m:Nat}{g:ae}{p:aa}:(∀r ∈ TZ g p cell prog n,∀c ∈ r,aN m c)=True:=by
 refine eq_true λ r hr c hc=> ?_;obtain ⟨j, _,rfl⟩:=List.mem_map.1 hr;grind [Ly,fK]
theorem zem (g:ae) (p:aa) (cell:Int) (prog:List (Int×Int)) (h:j<n):ac (TZ g p cell prog n) j= [fK (gj g p cell prog j)]:=by
 grind [TZ,ac]
theorem UJ  (l:List dM):aN n (fK l):=of_eq_true Ly
structure je (g:ae) (p:aa) (cell i:Int):Prop where
 c0:0<=cell
 c1:cell<g.cells
 man:0<=(aA (ac p.at_ cell.toNat)).1
 side:(aA (ac p.at_ cell.toNat)).2=p.side
 i0:0<=i
 i1:i<(ac g.kinds (aA (ac p.at_ cell.toNat)).1.toNat).progs.length
structure eN where
 p:aa
 kind:Int
 took:Bool
 deriving DecidableEq
instance:Inhabited eN:=⟨⟨default,0,false⟩⟩
def aK (p:aa) (s:Int):aa:={ p with side:=s}
def eN.sd (t:eN) (s:Int):eN:={ t with p:=aK t.p s}
theorem Qh (g:ae) (hg:bN g) (p:aa) (hp:bw g p) (cell i:Int) (hc:je g p cell i):
  aq Tryz.prog 178 [.agg (ai g), .agg (ak p), .int cell, .int i]
   (.agg [.lst 1 (TZ g p cell (dz g p cell i) ((dz g p cell i).length+1)), .int 0]):=by
 refine pF Tryz.func178 ?_;have hal:=hp.al;obtain ⟨c0,c1,cm,cs,i0,i1⟩:=hc;have hcur:cell.toNat<p.at_.length:=ge;have hat:=hp.at (i:=cell.toNat) ge;have hO:=vf (ac p.at_ cell.toNat);have hman:=cT hat.1 hat.2 hg.k6;have hcp:=oh p (hp.fits hg);have hV:=ug g W2 ⟨hg.r0,Xn⟩ p (hp.fits hg);rw [zq.2 hp] at hV;have hkl:(aA (ac p.at_ cell.toNat)).1.toNat<g.kinds.length:=by
  grind
 have hil:i.toNat<(ac g.kinds (aA (ac p.at_ cell.toNat)).1.toNat).progs.length:=ge;have hpg:=hg.pr _ (am hkl) _ (am hil);have hst:=λ n hn=>zx hg hp c0 c1 cm (prog:=dz g p cell i) hpg.st n hn;have hz:=yU g p cell (dz g p cell i);have hsu:=λ n hn=>yT g p cell (dz g p cell i) (n:=n) hn;have hR:=λ n=>zcV g p cell (dz g p cell i) n;have hp8:=hpg.len;have hpst:=hpg.st;have hpe:dz g p cell i=ac (ac g.kinds (aA (ac p.at_ cell.toNat)).1.toNat).progs i.toNat:=rfl;rw [<- hpe] at hp8 hpst;obtain ⟨prog,hprog⟩:∃q,q=dz g p cell i:=⟨_,rfl⟩
 rw [<- hprog] at hst hz hsu hR hp8 hpst hpe ⊢;generalize hm:aA (ac p.at_ cell.toNat)=m at *;obtain ⟨mk,ms⟩:=m;simp only at cm cs i1 hkl hil hpe;refine J0 ?_;refine aP hV ?_;refine J0 ?_;refine DX ?_;refine J1 hcur ?_;refine aP hO ?_;refine J2 hkl hil ?_;refine zg4 (λ hF=>by simp at hF;omega) (λ hF=> ?_);clear hF;refine J0 ?_;refine zhw 28 X7 (hcp) Wm no no (λ _=>aY.refl _ _ _ _) no no ?_;((repeat (first|with_reducible (first|refine wL λ _=>?_|refine wD λ _=>?_|refine wZ ?_)|simp [go_sem]));refine zhH Pi ?_)
 refine J3 hcur hkl hil ?_;rw [<- hpe];have hsz:∀n,n<=prog.length->(gj g p cell prog n).length<=100000000:=λ n hn=>Nat.le_trans (hst n hn).2 (CD ge);have hst0:fK (gj g p cell prog 0)= .lst 8 [[.lst 1 ((p.at_.map dR).set cell.toNat [.int 0]),aS p.h0,aS p.h1, .int p.rights, .int p.side, .int mk, .int cell, .v (.bool false)]]:=by
  grind [fK,kS,bC,clr,aS,dR,List.map_set]
 have hR0:TZ g p cell prog 1= [[fK (gj g p cell prog 0)]]:=rfl;refine zg3 (zg5 (α:=Nat) (λ k=>⟨[(4, .ref 0 0 9 0 0),(8, .ref 2 0 2 0 0),(11, .ref 146 0 2 0 0),(12,fK (gj g p cell prog k)),(13,bE prog),(14, .int k)],
   [(0, .rows true 0 9 [ai g]),(2, .rows true 0 2 [[AV.nils, .int 0]]),(142, .rows true k 1 (TZ g p cell prog (k+1))),(146, .rows true 0 2 [[.sl 142 k 1 0 (k+1), .int 0]])],148⟩)
  (λ d k=>k+d=prog.length) ?_ prog.length 0 ?_) ?_ ?_
 ·rintro d k k1 hrec;refine J0 ?_;refine zg4 (λ hk=> ?_) (λ hk=> ?_)<;>simp at hk
  ·have hkk:=hst k ge;have hks:=hsz k ge;have hks':=hsz (k+1) ge;have hsk:=hsu k hk;have hxs:=hpst _ (am hk);have hpo:=λ n hn=>HP hg hxs hkk.1 n hn;have hpa:=DF g (gj g p cell prog k) (ac prog k);have hpz:=HQ g (gj g p cell prog k) (ac prog k);have hps:=λ n hn=>A8 g (gj g p cell prog k) (ac prog k) (n:=n) hn;rw [<- hsk] at hpa;obtain ⟨now,hnow⟩:∃now,now=gj g p cell prog k:=⟨_,rfl⟩
   rw [<- hnow] at hkk hks hpo hpa hpz hps ⊢;obtain ⟨x,hx⟩:∃x,x=ac prog k:=⟨_,rfl⟩
   rw [<- hx] at hxs hpo hpa hpz hps;refine J0 ?_;refine zg3 (zg5 (α:=Nat) (λ n=>⟨[(4, .ref 0 0 9 0 0),(8, .ref 2 0 2 0 0),(11, .ref 146 0 2 0 0),(12,fK now),(13,bE prog),(14, .int k),(15, .sl 148 (jI g now x n).length 8 0 (jI g now x n).length),(16, .int n)],
     [(0, .rows true 0 9 [ai g]),(2, .rows true 0 2 [[AV.nils, .int 0]]),(142, .rows true k 1 (TZ g p cell prog (k+1))),(146, .rows true 0 2 [[.sl 142 k 1 0 (k+1), .int 0]]),(148, .rows true (jI g now x n).length 8 ((jI g now x n).map bC))],149⟩)
    (λ d n=>n+d=now.length) ?_ now.length 0 ?_) ?_ ?_
   ·rintro d2 n n1 hrec2;refine J0 ?_;refine zg4 (λ hn=> ?_) (λ hn=> ?_)<;>simp at hn
    ·have hsn:=hkk.1 _ (am hn);have hpn:=hps n hn;have hpoN:=hpo n ge;have hpoS:=hpo (n+1) ge;have hSt:=MY g hg (ac now n) hsn.1 x hxs;have hsl:=DQ hg (ac now n) x;have hso:=rG hg hsn.1 hxs;have hAd:=Qi (jI g now x n) (di g (ac now n) x) ge (λ s hs=>(hpoN.1 s hs).1.p.fits hg) (λ s hs=>(hso s hs).1.p.fits hg);rw [<- hpn] at hAd;repeat first|refine wV λ _=>?_|simp [go_sem,hn,hk,<- hx]
     refine dP hSt ?_;refine J0 ?_;refine zhJ (o:=148) hAd rfl (of_eq_true Lx) (of_eq_true Lx) (λ _=> .cons (.sl rfl) (.cons (.same (UJ _)) .nil)) no (λ n₁ hn₁=>by simp [go_sem,hn₁]) (λ _=> .sl rfl) (.inr ⟨_, _, _, _,rfl⟩) ?_;refine J0 ?_;refine zg3 (hrec2 (d2 - 1) ge (n+1) ge) ?_ gt;simp [go_sem,aj]
    ·have hnl:n=now.length:=by omega
     subst hnl;rw [hpa];refine J0 ?_;have hRk:=hR (k+1);refine zg3 (hrec (d - 1) ge (k+1) ge) ?_ gt;simp [go_sem,aj,hRk];refine ⟨?_,bJ (.refl _) (.cons (.cons ?_ .nil) .nil)⟩<;>exact BY
   ·omega
   ·simp [go_sem,aj,hpz]
   ·simp
  ·have hkl':k=prog.length:=by omega
   subst hkl';refine J0 ?_;exact aI rfl (by grind [TZ]) Ws (by grind [T3])
 ·omega
 ·simp [go_sem,aj,hR0];rw [show AV.lst 8 (List.map bC (gj g p cell prog 0))= _ from hst0];refine ⟨?_, ?_⟩
  ·(first|done|exact zd1)
  ·(first|done|exact zd1)
 ·simp
theorem D1 (a b:ck) (ha:bH a.pos) (hb:bH b.pos):aq Tryz.prog 226 [.agg (cu a), .agg (cu b)] (.v (.bool (Ep a b))):=by
 refine pF Tryz.func226 ?_;have hC:=fj _ _ ha hb;unfold Ep;obtain ⟨pa,ta⟩:=a;obtain ⟨pb,tb⟩:=b;simp only at hC ⊢;generalize bi pa pb=c at *;refine J0 ?_;refine aP hC ?_;by_cases c1:c<0
 ·exact K1 c1
 ·by_cases c2:c=0
  ·subst c2;cases ta<;>cases tb<;>(repeat (first|refine wV λ _=>?_|simp [go_sem]))
  ·cases ta<;>cases tb<;>(repeat (first|refine wV λ _=>?_|simp [go_sem,c1,c2]))
def zU (x:ck) (l:List ck) (dn:Bool):List ck:=if dn then l else gJ x l
theorem IG (l:List ck) (x:ck) (hl:l.length<=17179869184) (h1:∀o ∈ l,bH o.pos) (h2:bH x.pos):aq Tryz.prog 179 [oj l, .agg (cu x)] (oj (gJ x l)):=by
 refine pF Tryz.func179 ?_;obtain ⟨R,hR⟩:∃R,R=gJ x l:=⟨_,rfl⟩
 rw [<- hR];refine J0 ?_;refine zg3 (zg5 (α:=Nat×List ck×Bool) (λ a=>⟨[(0,oj l),(3, .ref 0 0 6 0 0),(5, .sl 1 a.2.1.length 6 0 a.2.1.length),(6, .v (.bool a.2.2)),(7, .int a.1)], [(0, .rows true 0 6 [cu x]),(1, .rows true a.2.1.length 6 (a.2.1.map cu))],2⟩)
  (λ d a=>a.1+d=l.length∧a.2.1.length<=a.1+a.2.2.toNat∧R=a.2.1++zU x (l.drop a.1) a.2.2) ?_ l.length (0, [],false) ?_) ?_ ?_
 ·rintro d ⟨i,out,dn⟩ ⟨i1,i2,i3⟩ hrec;simp only at i1 i2 i3;refine J0 ?_;refine zg4 (λ hi=> ?_) (λ hi=> ?_)<;>simp at hi
  ·have f1:=h1 _ (am hi);have hL1:=D1 (ac l i) x f1 h2;have hL2:=D1 x (ac l i) h2 f1;rw [bQ hi] at i3;cases dn
   ·simp only [zU,gJ] at i3;simp only [Bool.toNat_false] at i2;refine J1 hi ?_;refine zg9 _ (λ _=>hL1) no ?_;refine J1 hi ?_;by_cases l1:Ep (ac l i) x=true
    ·rw [if_pos l1] at i3;refine J2 hi l1 ?_;refine zg3 (hrec (d - 1) ge (i+1,out++ [ac l i],false) ⟨ge,pi,by grind [zU]⟩) ?_ gt;simp [go_sem,aj]
    ·rw [if_neg l1] at i3;refine J2 hi l1 ?_;refine dP hL2 ?_;refine J1 hi ?_;by_cases l2:Ep x (ac l i)=true
     ·rw [if_pos l2] at i3;refine J2 hi l2 ?_;refine zg3 (hrec (d - 1) ge (i+1,out++ [x]++ [ac l i],true) ⟨ge,pi,by grind [zU]⟩) ?_ gt;simp [go_sem,aj]
     ·rw [if_neg l2] at i3;refine J2 hi l2 ?_;refine zg3 (hrec (d - 1) ge (i+1,out++ [ac l i],true) ⟨ge,pi,by grind [zU]⟩) ?_ gt;simp [go_sem,aj]
   ·simp only [zU,if_true] at i3;simp only [Bool.toNat_true] at i2;refine J1 hi ?_;refine oK.skip (.v (.bool true)) ?_;refine J1 hi ?_;refine zg3 (hrec (d - 1) ge (i+1,out++ [ac l i],true) ⟨ge,pi,by grind [zU]⟩) ?_ gt;simp [go_sem,aj]
  ·rw [List.drop_eq_nil_of_le hi] at i3;cases dn
   ·simp [zU,gJ] at i3;simp only [Bool.toNat_false] at i2;refine J0 ?_;rw [i3];exact BY
   ·simp [zU] at i3;simp only [Bool.toNat_true] at i2;refine J0 ?_;rw [i3];exact BY
 ·simp [zU,hR]
 ·simp [go_sem,aj]
 ·simp
theorem MW (a b:aa) (ha:bH a) (hb:bH b):aq Tryz.prog 128 [.agg (ak a), .agg (ak b)] (.v (.bool (decide (bi a b=0)))):=by
 refine pF Tryz.func128 ?_;refine J0 ?_;refine aP (fj a b ha hb) ?_;exact K0
attribute [go_sem ↓] Jn S5 List.forall_mem_append
theorem xN {x:AV} (h:aN 0 x):∀c ∈ [x],aN 0 c:=pi
theorem eK  (l:List aa):aN n (aO l):=of_eq_true Qz
theorem Vp:∀ (f:Nat) (l:List aa),l.length<=f+1->l.length<=68719476736->(∀p ∈ l,bH p)->aq Tryz.prog 127 [aO l] (aO (iW bi l)):=by
 intro f;induction f with
 |zero=>
  intro l h1 h2 h3;rw [EM ge];refine pF Tryz.func127 ?_;refine J0 ?_;refine zeM ?_;exact K0
 |succ f ih=>
  intro l h1 h2 h3;by_cases hs:l.length<2
  ·rw [EM hs];refine pF Tryz.func127 ?_;refine J0 ?_;refine zeM ?_;exact K0
  ·have hm:=PN bp (l.take (l.length / 2)) (l.drop (l.length / 2));rw [List.take_append_drop] at hm;have hA:=ih (l.take (l.length / 2)) pi pi (λ p hp=>h3 p (List.mem_of_mem_take hp));have hB:=ih (l.drop (l.length / 2)) pi pi (λ p hp=>h3 p (List.mem_of_mem_drop hp));have fA:∀p ∈ iW bi (l.take (l.length / 2)),bH p:=λ p hp=>h3 p (List.mem_of_mem_take (sH.1 hp));have fB:∀p ∈ iW bi (l.drop (l.length / 2)),bH p:=λ p hp=>h3 p (List.mem_of_mem_drop (sH.1 hp));have lA:(iW bi (l.take (l.length / 2))).length=l.length / 2:=by grind [sG]
   have lB:(iW bi (l.drop (l.length / 2))).length=l.length - l.length / 2:=by rw [sG];simp
   rw [<- hm];generalize iW bi (l.take (l.length / 2))=xs at *;generalize iW bi (l.drop (l.length / 2))=ys at *;have hq:((l.length:Int) / 2).toNat=l.length / 2:=ge;have eA:AV.lst 5 (List.take (l.length / 2) (l.map ak))=aO (l.take (l.length / 2)):=by simp_all [aO]
   have eB:AV.lst 5 (List.take (l.length - l.length / 2) (List.drop (l.length / 2) (l.map ak)))=aO (l.drop (l.length / 2)):=by grind [List.take_of_length_le,aO,List.map_drop]
   generalize hR:List.merge xs ys (E9 bi)=R;refine pF Tryz.func127 ?_;refine J0 ?_;refine DX ?_;refine J1 hq ?_;rw [eA];refine zg7 hA (xN (eK _)) ?_;refine J1 hq ?_;rw [eB];refine zg7 hB (xN (eK _)) ?_;refine J1 hq ?_;refine zg3 (zg5 (α:=Nat×Nat×List aa) (λ a=>⟨[(3,aO xs),(4,aO ys),(5, .sl 0 a.2.2.length 5 0 a.2.2.length),(6, .int a.1),(7, .int a.2.1)], [(0, .rows true a.2.2.length 5 (a.2.2.map ak))],1⟩)
    (λ d a=>a.1+a.2.1+d=xs.length+ys.length∧a.1<=xs.length∧a.2.1<=ys.length∧a.2.2.length=a.1+a.2.1∧R=a.2.2++List.merge (xs.drop a.1) (ys.drop a.2.1) (E9 bi)) ?_ (xs.length+ys.length) (0,0, []) ?_) ?_ ?_
   ·rintro d ⟨i,k,out⟩ ⟨i1,i2,i3,i4,i5⟩ hrec;simp only at i1 i2 i3 i4 i5;refine J0 ?_;refine zg4 (λ hj=> ?_) (λ hj=> ?_)<;>simp at hj
    ·by_cases hk:k<ys.length
     ·by_cases hi:i<xs.length
      ·have fa:=fA _ (am hi);have fb:=fB _ (am hk);rw [bQ hi,bQ hk,List.cons_merge_cons,<- bQ hi,<- bQ hk] at i5;have hk':=Nat.not_le.2 hk;refine J3 hk hk' hi ?_;refine zg9 _ (λ _=>fj _ _ fa fb) no ?_;refine J3 hk hk' hi ?_;refine zg4 (λ hc=> ?_) (λ hc=> ?_)<;>simp at hc
       ·rw [if_pos (by grind [E9])] at i5;refine J2 hk hi ?_;refine zg3 (hrec (d - 1) ge (i+1,k,out++ [ac xs i]) ⟨pi,ge,i3,pi,pi⟩) ?_ gt;simp [go_sem,aj]
       ·rw [if_neg (by grind [E9])] at i5;refine J2 hk hi ?_;refine zg3 (hrec (d - 1) ge (i,k+1,out++ [ac ys k]) ⟨pi,i2,pi,pi,pi⟩) ?_ gt;simp [go_sem,aj]
      ·rw [List.drop_eq_nil_of_le (show xs.length<=i by omega),List.nil_merge,bQ hk] at i5;have hk':=Nat.not_le.2 hk;refine J3 hk hk' hi ?_;refine oK.skip (.int 0) ?_;refine J3 hk hk' hi ?_;refine zg3 (hrec (d - 1) ge (i,k+1,out++ [ac ys k]) ⟨pi,i2,pi,pi,by simp [List.drop_eq_nil_of_le (show xs.length<=i by omega),i5]⟩) ?_ gt;simp [go_sem,aj]
     ·have hi:i<xs.length:=by omega
      rw [List.drop_eq_nil_of_le (show ys.length<=k by omega),List.merge_right,bQ hi] at i5;have hk':=Nat.not_lt.1 hk;refine J3 hk hk' hi ?_;refine oK.skip (.int 0) ?_;refine J3 hk hk' hi ?_;refine zg3 (hrec (d - 1) ge (i+1,k,out++ [ac xs i]) ⟨pi,ge,i3,pi,by simp [List.drop_eq_nil_of_le (show ys.length<=k by omega),i5]⟩) ?_ gt;simp [go_sem,aj]
    ·rw [List.drop_eq_nil_of_le (show xs.length<=i by omega),List.drop_eq_nil_of_le (show ys.length<=k by omega)] at i5;refine J0 ?_;rw [i5];exact BY
   ·simp [hR]
   ·simp [go_sem,aj]
   ·simp
def IU (all:List aa) (i:Nat):List aa:=if i=0 then eC all else ei (ac all (i - 1)) (all.drop i)
theorem zbC {all:List aa} (h:all.length<=i):IU all i= []:=by
 unfold IU;split;all_goals simp_all [List.drop_eq_nil_of_le,eC,ei]
theorem JB {all:List aa} (h:i<all.length) (hk:i=0∨ac all i≠ac all (i - 1)):IU all i=ac all i::IU all (i+1):=by
 unfold IU;split
 ·rename_i h0;subst h0;cases all with
  |nil=>simp at h
  |cons a l=>rfl
 grind [bQ,ei]
theorem U5 {all:List aa} (h:i<all.length) (hi:i≠0) (hk:ac all i=ac all (i - 1)):IU all i=IU all (i+1):=by
 grind [IU,bQ,ei]
theorem kw (l:List aa) (hl:l.length<=68719476736) (hf:∀p ∈ l,bH p):aq Tryz.prog 75 [aO l] (aO (bd bi l)):=by
 have hH:=Vp l.length l ge hl hf;unfold bd;have fA:∀p ∈ iW bi l,bH p:=λ p hp=>hf p (sH.1 hp);have lA:(iW bi l).length=l.length:=sG l;generalize iW bi l=all at *;generalize hR:eC all=R;refine pF Tryz.func75 ?_;refine J0 ?_;refine zg7 hH (xN (eK _)) ?_;refine J0 ?_;refine zg3 (zg5 (α:=Nat×List aa) (λ a=>⟨[(3,aO all),(4, .sl 0 a.2.length 5 0 a.2.length),(5, .int a.1)], [(0, .rows true a.2.length 5 (a.2.map ak))],1⟩)
  (λ d a=>a.1+d=all.length∧a.2.length<=a.1∧R=a.2++IU all a.1) ?_ all.length (0, []) ?_) ?_ ?_
 ·rintro d ⟨i,out⟩ ⟨i1,i2,i3⟩ hrec;simp only at i1 i2 i3;refine J0 ?_;refine zg4 (λ hi=> ?_) (λ hi=> ?_)<;>simp at hi
  ·by_cases h0:i=0
   ·rw [JB hi (.inl h0)] at i3;subst h0;refine J1 hi ?_;refine oK.skip (.v (.bool true)) ?_;refine J1 hi ?_;refine zg3 (hrec (d - 1) ge (0+1,out++ [ac all 0]) ⟨ge,pi,pi⟩) ?_ gt;simp [go_sem,aj]
   ·have fa:=fA _ (am hi);have hi':i - 1<all.length:=ge;have e1:((i:Int) - 1).toNat=i - 1:=ge;have fb:=fA _ (am hi');refine J4 hi h0 e1 hi' ?_;refine zg9 _ (λ _=>MW _ _ fa fb) no ?_;refine J2 hi h0 ?_;refine zg4 (λ hc=> ?_) (λ hc=> ?_)<;>simp at hc
    ·rw [oW] at hc;rw [JB hi (.inr hc)] at i3;refine J1 hi ?_;refine zg3 (hrec (d - 1) ge (i+1,out++ [ac all i]) ⟨ge,pi,pi⟩) ?_ gt;simp [go_sem,aj]
    ·rw [oW] at hc;rw [U5 hi h0 hc] at i3;refine J1 hi ?_;refine zg3 (hrec (d - 1) ge (i+1,out) ⟨ge,pi,i3⟩) ?_ gt;simp [go_sem,aj]
  ·rw [zbC hi] at i3;refine J0 ?_;rw [i3];exact BY
 ·grind [IU]
 ·simp [go_sem,aj]
 ·simp
def v6 (side:Int) (l:List dM) (n:Nat):List ck:=((l.take n).filterMap (iC side)).foldl (λ a x=>gJ x a) []
@[go_sem] theorem zgc (side:Int) (l:List dM):v6 side l 0= []:=rfl
theorem A6 (side:Int) (l:List dM) (h:n<l.length):v6 side l (n+1)=match iC side (ac l n) with|some o=>gJ o (v6 side l n)|none=>v6 side l n:=by
 grind [v6,Tq]
theorem Hd (x:ck):∀l:List ck,(gJ x l).length<=l.length+1
 | []=>by simp [gJ]
 |y::l=>by
  rw [gJ];split
  ·have:=Hd x l;simp;omega
  ·split<;>simp
theorem VV (side:Int) (l:List dM):∀n,n<=l.length->(v6 side l n).length<=n:=by
 intro n;induction n<;>grind [v6,A6,Hd]
theorem KF {g:ae} (hg:bN g){s:dM} (hs:jx g s){o:ck} (h:iC side s=some o):bH o.pos:=by
 have hf:=hs.p.fits hg;grind [iC,kn,bH]
theorem R1 {g:ae} (hg:bN g){l:List dM} (hl:∀s ∈ l,jx g s):∀n,n<=l.length->∀o ∈ v6 side l n,bH o.pos:=by
 intro n;induction n<;>grind [v6,A6,ut,KF,am]
theorem VU (g:ae) (p:aa) (cell i:Int):v6 p.side (lg g p cell (dz g p cell i)) (lg g p cell (dz g p cell i)).length=gG g p cell i:=by
 grind [v6,gG,OI]
theorem MX (g:ae) (hg:bN g) (p:aa) (hp:bw g p) (cell i:Int) (hc:je g p cell i):
  aq Tryz.prog 125 [.agg (ai g), .agg (ak p), .int cell, .int i] (.tup [oj (gG g p cell i), .int 0]):=by
 refine pF Tryz.func125 ?_;have hRun:=Qh g hg p hp cell i hc;have hal:=hp.al;have hat:=hp.at (i:=cell.toNat) (by have:=hc.c0;have:=hc.c1;omega);have hkl:(aA (ac p.at_ cell.toNat)).1.toNat<g.kinds.length:=by
  have cm:=hc.man;grind [aA]
 have hil:i.toNat<(ac g.kinds (aA (ac p.at_ cell.toNat)).1.toNat).progs.length:=by have:=hc.i0;have:=hc.i1;omega
 have hpg:=hg.pr _ (am hkl) _ (am hil);have hpe:dz g p cell i=ac (ac g.kinds (aA (ac p.at_ cell.toNat)).1.toNat).progs i.toNat:=rfl;rw [<- hpe] at hpg;have hst:=zx hg hp hc.c0 hc.c1 hc.man hpg.st _ (Nat.le_refl _);have hlen:=Nat.le_trans hst.2 (CD hpg.len);have hstR:=T3 g p cell (dz g p cell i) ((dz g p cell i).length+1);have hnS:=zem g p cell (dz g p cell i) (n:=(dz g p cell i).length+1) (j:=(dz g p cell i).length) ge;have hal':=VU g p cell i;rw [yS] at hnS hlen hst;have hps:=hp.s;obtain ⟨m,hm⟩:∃m,m=(dz g p cell i).length:=⟨_,rfl⟩
 have hm8:=hpg.len;rw [<- hm] at hRun hstR hnS hm8;generalize TZ g p cell (dz g p cell i) (m+1)=sr at *;generalize lg g p cell (dz g p cell i)=last at *;obtain ⟨R,hR⟩:∃R,R=gG g p cell i:=⟨_,rfl⟩
 rw [<- hR] at hal' ⊢;refine J0 ?_;refine aP hRun ?_;refine J2 hstR hnS ?_;refine zg3 (zg5 (α:=Nat) (λ k=>⟨[(5, .ref 1 0 5 0 0),(11,oj (v6 p.side last k)),(12,fK last),(13, .int k)], [(1, .rows true 0 5 [ak p])],2⟩)
  (λ d k=>k+d=last.length) ?_ last.length 0 ?_) ?_ ?_
 ·rintro d k k1 hrec;refine J0 ?_;refine zg4 (λ hk=> ?_) (λ hk=> ?_)<;>simp at hk
  ·have hsk:=hst.1 _ (am hk);have hsu:=A6 p.side last hk;have hol:=VV p.side last k ge;have hof:=R1 hg (λ s hs=>(hst.1 s hs).1) (side:=p.side) k ge;have hpf:=λ o=>KF hg hsk.1 (side:=p.side) (o:=o);have hps':iC p.side (ac last k)=if ac (ac last k).p.at_ (ac last k).cursor.toNat=0 then some ⟨{(ac last k).p with at_:=(ac last k).p.at_.set (ac last k).cursor.toNat (gQ (ac last k).kind p.side),side:=1 - p.side},(ac last k).took⟩ else none:=rfl
   have hcp:=oh (ac last k).p (hsk.1.p.fits hg);have hal2:=hsk.1.p.al;have hc0:=hsk.1.c0;have hc1:=hsk.1.c1;have hcc:=uf (ac last k).kind p.side;have hcur:(ac last k).cursor.toNat<(ac last k).p.at_.length:=ge;by_cases hz:ac (ac last k).p.at_ (ac last k).cursor.toNat=0
   ·rw [if_pos hz] at hps';simp only [hps'] at hsu;have hfo:=hpf _ hps';have hIns:=IG (v6 p.side last k) _ ge hof hfo;refine J3 hk hcur hz ?_;refine zg8 hcp no ?_;refine J1 hcur ?_;refine dP hcc ?_;refine J1 hcur ?_;refine zha [5,6,11] hIns ?_ no ?_
    ·(first|done|exact S2)
    ·rw [<- hsu];refine J0 ?_;refine zg3 (hrec (d - 1) ge (k+1) ge) ?_ gt;simp [go_sem,aj,io,kq,aC]
   ·rw [if_neg hz] at hps';simp only [hps'] at hsu;refine J3 hk hcur hz ?_;refine zg3 (hrec (d - 1) ge (k+1) ge) ?_ gt;simp [go_sem,aj,hsu]
  ·have hkl:k=last.length:=by omega
   subst hkl;rw [hal'];exact K0
 ·omega
 ·simp [go_sem,aj];exact BY
 ·simp
def fG (g:ae) (p:aa) (k:Nat):List aa:=(List.range k).flatMap λ k=>(List.range p.at_.length).filterMap λ c=>qW g p k c
def jy (g:ae) (p:aa) (k c:Nat):List aa:=fG g p k++(List.range c).filterMap λ c=>qW g p k c
theorem AC (g:ae) (p:aa) (k:Nat):jy g p k p.at_.length=fG g p (k+1):=by grind [jy,fG,List.range_succ]
theorem x6 (g:ae) (p:aa) (k:Nat):jy g p k 0=fG g p k:=by simp [jy]
theorem kz (g:ae) (p:aa) (k c:Nat):jy g p k (c+1)=jy g p k c++(qW g p k c).toList:=by
 grind [jy,List.range_succ]
theorem QR (g:ae) (p:aa):fG g p g.kinds.length=x7 g p:=rfl
theorem uo {α:Type} (f:Nat->List α) (m:Nat) (hf:∀k,(f k).length<=m):∀n,((List.range n).flatMap f).length<=n * m
 |0=>gt
 |n+1=>by
  have:=uo f m hf n;grind [List.range_succ]
theorem s7 (g:ae) (p:aa) (k:Nat):(fG g p k).length<=k * p.at_.length:=
 uo _ _ (λ k=>Nat.le_trans (List.length_filterMap_le _ _) gt) k
theorem wv (g:ae) (p:aa) (k c:Nat):(jy g p k c).length<=k * p.at_.length+c:=by
 grind [s7,jy]
theorem BI {g:ae} (hg:bN g){p:aa} (hp:bw g p) (hk:k<g.kinds.length){q:aa} (h:qW g p k c=some q):bw g q∧q.side=1 - p.side:=by
 unfold qW at h;split at h
 ·cases h
 ·simp only [Option.some.injEq] at h;subst h;have k6:=hg.k6;have hcode:gQ k p.side=1+2 * k+p.side:=JA (K:=g.kinds.length) ⟨ge,ge⟩ k6 hp.s;have hs:=hp.s;have hh:=hp.hand p.side;have hl:=hh.len;have hv:=hh.v k ge;refine ⟨bw.side (bw.withHand (hp.setAt c ge) _ (hh.set k ?_ ?_)) ge,rfl⟩;all_goals grind
theorem Lc (g:ae) (hg:bN g) (p:aa) (hp:bw g p):aq Tryz.prog 74 [.agg (ai g), .agg (ak p)] (aO (fJ g p)):=by
 refine pF Tryz.func74 ?_;have hal:=hp.al;have c9:=hg.c9;have k6:=hg.k6;have hcp:=oh p (hp.fits hg);obtain ⟨gk,hgk⟩:∃gk,gk=g.kinds.length:=⟨_,rfl⟩
 have hl0:=hp.h0.len;have hl1:=hp.h1.len;refine J0 ?_;refine zg3 (zg5 (α:=Nat) (λ k=>⟨[(2, .ref 0 0 9 0 0),(3, .ref 1 0 5 0 0),(5, .sl 2 (fG g p k).length 5 0 (fG g p k).length),(6, .int k)], [(0, .rows true 0 9 [ai g]),(1, .rows true 0 5 [ak p]),(2, .rows true (fG g p k).length 5 ((fG g p k).map ak))],3⟩)
  (λ d k=>k+d=g.kinds.length) ?_ g.kinds.length 0 ?_) ?_ ?_
 ·rintro d k k1 hrec;refine J0 ?_;refine zg4 (λ hk=> ?_) (λ hk=> ?_)<;>simp at hk
  ·have hz:=x6 g p k;have ha:=AC g p k;refine J0 ?_;refine zg3 (zg5 (α:=Nat) (λ c=>⟨[(2, .ref 0 0 9 0 0),(3, .ref 1 0 5 0 0),(5, .sl 2 (jy g p k c).length 5 0 (jy g p k c).length),(6, .int k),(7, .int c)], [(0, .rows true 0 9 [ai g]),(1, .rows true 0 5 [ak p]),(2, .rows true (jy g p k c).length 5 ((jy g p k c).map ak))],3⟩)
    (λ d c=>c+d=p.at_.length) ?_ p.at_.length 0 ?_) ?_ ?_
   ·rintro d2 c c1 hrec2;refine J0 ?_;refine zg4 (λ hci=> ?_) (λ hci=> ?_)<;>simp at hci
    ·have hD:qW g p k c=if ac (p.hand p.side) k=0∨ac p.at_ c≠0 then none
      else some {({ p with at_:=p.at_.set c (gQ k p.side)}.withHand p.side ((p.hand p.side).set k (ac (p.hand p.side) k - 1))) with side:=1 - p.side}:=rfl
     rcases hp.s with hsd|hsd
     ·have hsn:p.side.toNat=0:=by omega
      have hkh:k<p.h0.length:=ge;have hhv:=hp.h0.v k hkh;have hD':qW g p k c=if ac p.h0 k=0∨ac p.at_ c≠0 then none else some { p with at_:=p.at_.set c (gQ k p.side),h0:=p.h0.set k (ac p.h0 k - 1),side:=1 - p.side}:=by
       grind [aa.hand,aa.withHand]
      refine J3 hsn hkh hci ?_;refine zg4 (λ hcc=> ?_) (λ hcc=> ?_)<;>simp at hcc
      ·rw [if_pos ge] at hD';have hsu:=kz g p k c;rw [hD'] at hsu;simp only [Option.toList_none,List.append_nil] at hsu;refine J0 ?_;refine zg3 (hrec2 (d2 - 1) ge (c+1) ge) ?_ gt;simp [go_sem,aj,hsu]
      ·rw [if_neg ge] at hD';have hsu:=kz g p k c;rw [hD'] at hsu;simp only [Option.toList_some] at hsu;have hcl:=wv g p k c;have hkm:k * p.at_.length<=6 * 9:=Nat.mul_le_mul ge ge;refine J1 hci ?_;refine zg8 hcp no ?_;refine J1 hci ?_;refine dP (uf (k:Int) p.side) ?_;refine J3 hsn hci hkh ?_;refine zg3 (hrec2 (d2 - 1) ge (c+1) ge) ?_ gt;simp [go_sem,aj,hsu];(first|done|exact zgu)
     ·have hsn:p.side.toNat=1:=by omega
      have hkh:k<p.h1.length:=ge;have hhv:=hp.h1.v k hkh;have hD':qW g p k c=if ac p.h1 k=0∨ac p.at_ c≠0 then none else some { p with at_:=p.at_.set c (gQ k p.side),h1:=p.h1.set k (ac p.h1 k - 1),side:=1 - p.side}:=by
       grind [aa.hand,aa.withHand]
      refine J3 hsn hkh hci ?_;refine zg4 (λ hcc=> ?_) (λ hcc=> ?_)<;>simp at hcc
      ·rw [if_pos ge] at hD';have hsu:=kz g p k c;rw [hD'] at hsu;simp only [Option.toList_none,List.append_nil] at hsu;refine J0 ?_;refine zg3 (hrec2 (d2 - 1) ge (c+1) ge) ?_ gt;simp [go_sem,aj,hsu]
      ·rw [if_neg ge] at hD';have hsu:=kz g p k c;rw [hD'] at hsu;simp only [Option.toList_some] at hsu;have hcl:=wv g p k c;have hkm:k * p.at_.length<=6 * 9:=Nat.mul_le_mul ge ge;refine J1 hci ?_;refine zg8 hcp no ?_;refine J1 hci ?_;refine dP (uf (k:Int) p.side) ?_;refine J3 hsn hci hkh ?_;refine zg3 (hrec2 (d2 - 1) ge (c+1) ge) ?_ gt;simp [go_sem,aj,hsu];(first|done|exact zgu)
    ·have hcl:c=p.at_.length:=by omega
     subst hcl;rw [ha];refine J0 ?_;refine zg3 (hrec (d - 1) ge (k+1) ge) ?_ gt;simp [go_sem,aj]
   ·omega
   ·simp [go_sem,aj,hz]
   ·simp
  ·have hkl:k=g.kinds.length:=by omega
   subst hkl;have hdl:=s7 g p g.kinds.length;have hkm:g.kinds.length * p.at_.length<=6 * 9:=Nat.mul_le_mul k6 ge;have hS:=kw (fG g p g.kinds.length) ge (λ q hq=>by
    obtain ⟨k,hk,hq⟩:=List.mem_flatMap.1 hq;obtain ⟨c,hc,hq⟩:=List.mem_filterMap.1 hq;exact (BI hg hp pi hq).1.fits hg)
   rw [show bd bi (fG g p g.kinds.length)=fJ g p from rfl] at hS;generalize fG g p g.kinds.length=l at *;generalize fJ g p=r at *;refine J0 ?_;refine zha [2] hS ?_ (xN (eK _)) ?_
   ·(first|done|exact S2)
   ·exact K0
 ·omega
 ·simp [go_sem,aj,show fG g p 0= [] from rfl]
 ·simp
theorem Fy {g:ae} (hg:bN g){p:aa} (hp:bw g p) (h0:0<=cell) (h1:cell<g.cells) (hm:0<=(aA (ac p.at_ cell.toNat)).1):
  (aA (ac p.at_ cell.toNat)).1.toNat<g.kinds.length:=by
 have hat:=hp.at (i:=cell.toNat) ge;grind [aA]
theorem TR {g:ae} (hg:bN g){p:aa} (hp:bw g p){i:Int} (hc:je g p cell i):uS g.next.length g.kinds.length g.rights (dz g p cell i):=
 hg.pr _ (am (Fy hg hp hc.c0 hc.c1 hc.man)) _ (am (by have:=hc.i0;have:=hc.i1;omega))
theorem Ch {g:ae} (hg:bN g){p:aa} (hp:bw g p){i:Int} (hc:je g p cell i):
  (∀s ∈ lg g p cell (dz g p cell i),jx g s∧s.p.side=p.side)∧(lg g p cell (dz g p cell i)).length<=100000000:=by
 have hpg:=TR hg hp hc;have h:=zx hg hp hc.c0 hc.c1 hc.man hpg.st _ (Nat.le_refl _);rw [yS] at h;exact ⟨h.1,Nat.le_trans h.2 (CD hpg.len)⟩
theorem TS {g:ae} (hg:bN g){s:dM} (hs:jx g s) (hsd:side=0∨side=1){o:ck} (h:iC side s=some o):bw g o.pos∧o.pos.side=1 - side:=by
 unfold iC at h;split at h
 ·simp only [Option.some.injEq] at h;subst h;have hc:gQ s.kind side=1+2 * s.kind+side:=JA (K:=g.kinds.length) hs.k hg.k6 hsd;have hk:=hs.k;exact ⟨bw.side (hs.p.setAt _ pi) ge,rfl⟩
 ·cases h
theorem zcR {g:ae} (hg:bN g){p:aa} (hp:bw g p){i:Int} (hc:je g p cell i):∀o ∈ gG g p cell i,bw g o.pos∧o.pos.side=1 - p.side:=by
 intro o ho;unfold gG at ho;rw [ax] at ho;obtain ⟨s,hs,h⟩:=List.mem_filterMap.1 ho;exact TS hg ((Ch hg hp hc).1 s hs).1 hp.s h
theorem DN {g:ae} (hg:bN g){p:aa} (hp:bw g p){i:Int} (hc:je g p cell i):(gG g p cell i).length<=100000000:=by
 grind [gG,nK,Ch]
theorem vn {g:ae}{p:aa} (hp:bw g p) (hc:c<p.at_.length) (hm:0<=(aA (ac p.at_ c)).1∧(aA (ac p.at_ c)).2=p.side)
  (hi:i<(ac g.kinds (aA (ac p.at_ c)).1.toNat).progs.length):je g p c i:=by
 have:=hp.al;exact ⟨ge,ge,hm.1,hm.2,ge,pi⟩
theorem vV {g:ae}{p:aa} (hp:bw g p){o:ck}:o ∈ kf g p↔∃c i:Nat,je g p c i∧o ∈ gG g p c i:=by
 have hal:=hp.al;unfold kf;rw [List.mem_flatMap];constructor
 ·grind [lF,vn]
 ·rintro ⟨c,i,hc,ho⟩;refine ⟨c, ?_, ?_⟩
  ·have:=hc.c1;grind
  ·have h1:=hc.man;have h2:=hc.side;have h3:=hc.i1;grind [Int.toNat_natCast,lF]
theorem Pd {g:ae} (hg:bN g){p:aa} (hp:bw g p):∀o ∈ kf g p,bw g o.pos∧o.pos.side=1 - p.side:=by
 grind [vV,zcR]
theorem iB {α:Type} (f:Nat->List α) (m:Nat):∀n,(∀k,k<n->(f k).length<=m)->((List.range n).flatMap f).length<=n * m
 |0, _=>gt
 |n+1,hf=>by
  have:=iB f m n (λ k hk=>hf k ge);grind [List.range_succ]
theorem RZ {g:ae} (hg:bN g){p:aa} (hp:bw g p) (hc:c<p.at_.length):(lF g p c).length<=800000000:=by
 unfold lF;split
 ·rename_i hm;have hal:=hp.al;have hk:=Fy hg hp (cell:=c) ge ge pi;simp only [Int.toNat_natCast] at hk;have h8:=hg.pn _ (am hk);have h1:=iB (λ (i:Nat)=>gG g p c i) 100000000 (ac g.kinds (aA (ac p.at_ c)).1.toNat).progs.length (λ i hi=>DN hg hp (vn hp hc hm hi));omega
 ·simp
theorem Kz {g:ae} (hg:bN g){p:aa} (hp:bw g p) (hk:k<=p.at_.length):((List.range k).flatMap (lF g p)).length<=7200000000:=by
 have hal:=hp.al;have c9:=hg.c9;have h1:=iB (lF g p) 800000000 k (λ c hc=>RZ hg hp ge);omega
theorem KA {g:ae} (hg:bN g){p:aa} (hp:bw g p):(kf g p).length<=7200000000:=Kz hg hp (Nat.le_refl _)
theorem JE {g:ae} (hg:bN g){p:aa} (hp:bw g p):∀q ∈ fJ g p,bw g q∧q.side=1 - p.side:=by
 intro q hq;unfold fJ at hq;grind [ax,BI,x7]
theorem AD {g:ae} (hg:bN g){p:aa} (hp:bw g p):(fJ g p).length<=54:=by
 have h1:=nK bi (x7 g p);have h2:=s7 g p g.kinds.length;rw [QR] at h2;have hal:=hp.al;have c9:=hg.c9;have h3:g.kinds.length * p.at_.length<=6 * 9:=Nat.mul_le_mul hg.k6 ge;grind [fJ]
theorem Ko {g:ae} (hg:bN g){p:aa} (hp:bw g p):∀q ∈ kM g p,bw g q∧q.side=1 - p.side:=by
 grind [kM,Pd,JE]
theorem bD {g:ae} (hg:bN g){p:aa} (hp:bw g p):∀q ∈ an g p,bw g q∧q.side=1 - p.side:=by
 grind [an,Ko,ax]
def aW (g:ae):List Int:=fx (iP (vp g)) g.cells.toNat
theorem px (g:ae):(aW g).length=g.cells.toNat:=by simp [aW,fx]
theorem dN {α:Type} [DecidableEq α]:∀ {l r:List α},l.Nodup->(∀x ∈ l,x ∈ r)->l.length<=r.length
 | [],r, _, _=>gt
 |x::l,r,hn,hs=>by
  rw [List.nodup_cons] at hn;have:=dN (l:=l) (r:=r.erase x) hn.2 (λ y hy=>by
   grind)
  grind
theorem Jk:∀ {more l:List dM}{s:dM},s ∈ ii l more↔s ∈ l∨s ∈ more
 | [],l,s=>Ys
 |x::more,l,s=>by
  show s ∈ ii (if x ∈ l then l else l++ [x]) more↔ _;rw [Jk];split
  ·simp only [List.mem_cons];exact ⟨λ h=>W3,λ h'=>by rcases h' with h'|rfl|h'<;>simp [*]⟩
  ·simp [or_assoc]
theorem Aq:∀ {more l:List dM},l.Nodup->(ii l more).Nodup
 | [],l,h=>h
 |x::more,l,h=>by
  show (ii (if x ∈ l then l else l++ [x]) more).Nodup;split
  ·exact Aq h
  ·rename_i hx;refine Aq (List.nodup_append.2 ⟨h,gt, ?_⟩);intro a ha b hb e;simp only [List.mem_singleton] at hb;subst hb;subst e;exact hx ha
theorem EA (g:ae) (x:Int×Int):∀ (now acc:List dM) (s:dM),s ∈ now.foldl (λ next s=>ii next (di g s x)) acc↔s ∈ acc∨∃r ∈ now,s ∈ di g r x
 | [],acc,s=>gt
 |r::now,acc,s=>by
  simp_all [EA,Jk,or_assoc]
theorem AZ {g:ae}{now:List dM}{s:dM}:s ∈ lJ g now x↔∃r ∈ now,s ∈ di g r x:=by
 simp_all [lJ,EA]
theorem Cp (g:ae) (x:Int×Int):∀ (now acc:List dM),acc.Nodup->(now.foldl (λ next s=>ii next (di g s x)) acc).Nodup
 | [],acc,h=>h
 |r::now,acc,h=>Cp g x now _ (Aq h)
theorem O7 (g:ae) (now:List dM) (x:Int×Int):(lJ g now x).Nodup:=Cp g x now [] gt
theorem GW (g:ae):∀ (prog:List (Int×Int)) (now:List dM),now.Nodup->(prog.foldl (lJ g) now).Nodup
 | [],now,h=>h
 |x::prog,now, _=>GW g prog _ (O7 g now x)
def Di (s:dM) (c:Int):dM:={ s with cursor:=c}
def zaD (n:Nat) (l:List dM):Prop:=∃B:List dM,B.length<=n∧∀s ∈ l,∃t ∈ B,s=Di t s.cursor
theorem EK {s:dM}:∀ {l:List Int},∀t ∈ dQ s l,t=Di s t.cursor
 | [],t,h=>by simp [dQ] at h
 |c::l,t,h=>by
  rw [dQ,List.mem_cons] at h;rcases h with rfl|h
  ·rfl
  ·split at h
   ·exact EK t h
   ·simp at h
def nb (x:Int×Int):Bool:=x.1==6||x.1==7
theorem SK (g:ae) (x:Int×Int) (hx:nb x=false):∃f:dM->dM,∀t c,∀u ∈ di g (Di t c) x,u=Di (f t) u.cursor:=by
 simp only [nb,Bool.or_eq_false_iff,beq_eq_false_iff_ne] at hx;by_cases h8:x.1=8
 ·refine ⟨λ t=>{ t with kind:=x.2},λ t c u hu=> ?_⟩;grind [di,Di]
 by_cases h10:x.1=10
 ·refine ⟨λ t=>{ t with p:={ t.p with rights:=mO .i64 t.p.rights (2 ^ x.2.toNat)}},λ t c u hu=> ?_⟩;grind [di,Di]
 refine ⟨id,λ t c u hu=> ?_⟩;unfold di at hu;simp only [h8,h10,hx.1,hx.2,if_false] at hu;repeat' split at hu
 ·grind [Di,dF]
 ·have:=EK u hu;rw [this];rfl
 all_goals grind [Di,dF]
theorem zad (g:ae) (s:dM) (x:Int×Int) (hx:nb x=true):(di g s x).length<=1:=by
 grind [nb,di,wi,v7]
theorem un {α β:Type} (f:α->List β) (m:Nat):∀ (l:List α),(∀x ∈ l,(f x).length<=m)->(l.flatMap f).length<=l.length * m
 | [], _=>gt
 |x::l,h=>by
  have:=un f m l (λ y hy=>h y WR);grind [Nat.succ_mul]
theorem Vg {g:ae}{now:List dM} (hc:∀s ∈ now,0<=s.cursor∧s.cursor<9) (h:zaD n now):zaD (n * (if nb x then 9 else 1)) (lJ g now x):=by
 obtain ⟨B,hB,hs⟩:=h;by_cases hx:nb x=true
 ·refine ⟨B.flatMap λ t=>(List.range 9).flatMap λ (c:Nat)=>di g (Di t c) x, ?_,λ u hu=> ?_⟩
  ·have h1:=un (λ t:dM=>(List.range 9).flatMap λ (c:Nat)=>di g (Di t c) x) 9 B (λ t _=>by
    have:=un (λ (c:Nat)=>di g (Di t c) x) 1 (List.range 9) (λ c _=>zad g _ x hx);grind)
   grind
  ·obtain ⟨r,hr,hu⟩:=AZ.1 hu;obtain ⟨t,ht,e⟩:=hs r hr;refine ⟨u,List.mem_flatMap.2 ⟨t,ht,List.mem_flatMap.2 ⟨r.cursor.toNat,pi, ?_⟩⟩,rfl⟩;grind
 ·simp only [Bool.not_eq_true] at hx;obtain ⟨f,hf⟩:=SK g x hx;refine ⟨B.map f,pi,λ u hu=> ?_⟩;grind [AZ]
theorem zek {g:ae} (hg:bN g){now:List dM} (hx:jN g.next.length g.kinds.length g.rights x) (hn:∀s ∈ now,jx g s):∀s ∈ lJ g now x,jx g s:=by
 intro s hs;obtain ⟨r,hr,hs⟩:=AZ.1 hs;grind [rG,di]
theorem JJ {g:ae} (hg:bN g):∀ (prog:List (Int×Int)) (now:List dM) (n:Nat),(∀x ∈ prog,jN g.next.length g.kinds.length g.rights x)->(∀s ∈ now,jx g s)->zaD n now->
  zaD (n * 9 ^ prog.countP nb) (prog.foldl (lJ g) now)
 | [],now,n, _, _,h=>pi
 |x::prog,now,n,hp,hn,h=>by
  have h9:=hg.c9;have h1:=Vg (g:=g) (x:=x) (λ s hs=>⟨(hn s hs).c0,by have:=(hn s hs).c1;omega⟩) h;have h2:=JJ hg prog _ _ (λ y hy=>hp y WR) (zek hg (hp x gt) hn) h1;rw [List.foldl_cons,List.countP_cons];have e:n * (if nb x=true then 9 else 1) * 9 ^ prog.countP nb=n * 9 ^ (prog.countP nb+if nb x=true then 1 else 0):=by
   by_cases hx:nb x=true
   ·rw [if_pos hx,if_pos hx,Nat.pow_succ,Nat.mul_assoc,Nat.mul_comm 9]
   ·rw [if_neg hx,if_neg hx,Nat.mul_one,Nat.add_zero]
  rw [<- e];exact h2
theorem zbP {l:List dM} (hn:l.Nodup) (hc:∀s ∈ l,0<=s.cursor∧s.cursor<9) (h:zaD n l):l.length<=n * 9:=by
 obtain ⟨B,hB,hs⟩:=h;have h1:=dN (r:=B.flatMap λ t=>(List.range 9).map λ (c:Nat)=>Di t c) hn (λ s h=>by
  obtain ⟨t,ht,e⟩:=hs s h;refine List.mem_flatMap.2 ⟨t,ht,List.mem_map.2 ⟨s.cursor.toNat,pi, ?_⟩⟩;grind)
 have h2:=un (λ t:dM=>(List.range 9).map λ (c:Nat)=>Di t c) 9 B (λ t _=>by simp);omega
theorem N2 (prog:List (Int×Int)):prog.countP nb<=cc prog 6+cc prog 7:=by
 unfold cc;induction prog<;>grind [nb]
theorem VF {g:ae} (hg:bN g){p:aa} (hp:bw g p){i:Int} (hc:je g p cell i):(lg g p cell (dz g p cell i)).length<=6561:=by
 have hpg:=TR hg hp hc;have hst:=(sI hg hp hc.c0 hc.c1 hc.man).1;have h1:=JJ hg (dz g p cell i) [kS p cell] 1 hpg.st (λ s hs=>by grind) ⟨[kS p cell],gt,λ s hs=>⟨s,hs,rfl⟩⟩;have h9:=hg.c9;have h2:=zbP (GW g (dz g p cell i) [kS p cell] gt) (λ s hs=>by
  have:=((Ch hg hp hc).1 s hs).1;exact ⟨this.c0,by have:=this.c1;omega⟩) h1
 have h3:(dz g p cell i).countP nb<=3:=by
  have:=N2 (dz g p cell i);have:=hpg.take;have:=hpg.push;omega
 have h4:9 ^ (dz g p cell i).countP nb<=9 ^ 3:=Nat.pow_le_pow_right ge h3;grind [lg]
theorem Sx {g:ae} (hg:bN g){p:aa} (hp:bw g p){i:Int} (hc:je g p cell i):(gG g p cell i).length<=6561:=by
 grind [gG,nK,VF]
theorem Pb {g:ae} (hg:bN g){p:aa} (hp:bw g p) (hc:c<p.at_.length):(lF g p c).length<=52488:=by
 unfold lF;split
 ·rename_i hm;have hal:=hp.al;have hk:=Fy hg hp (cell:=c) ge ge pi;have hpn:=hg.pn _ (am Xj);have:=iB (λ (i:Nat)=>gG g p c i) 6561 (ac g.kinds (aA (ac p.at_ c)).1.toNat).progs.length (λ i hi=>Sx hg hp (vn hp hc hm hi));omega
 ·simp
theorem R8 {g:ae} (hg:bN g){p:aa} (hp:bw g p) (hk:k<=p.at_.length):((List.range k).flatMap (lF g p)).length<=472392:=by
 have:=iB (lF g p) 52488 k (λ c hc=>Pb hg hp ge);have h9:=hg.c9;have hal:=hp.al;omega
theorem Sb {g:ae} (hg:bN g){p:aa} (hp:bw g p):(kf g p).length<=472392:=R8 hg hp (Nat.le_refl _)
theorem O1 {g:ae} (hg:bN g){p:aa} (hp:bw g p):(kM g p).length<=472446:=by
 grind [kM,Sb,AD]
theorem cG {g:ae} (hg:bN g){p:aa} (hp:bw g p):(an g p).length<=472446:=by
 grind [an,nK,O1]
abbrev lm (l:List aa):Prop:=l.Pairwise (λ a b=>bi a b<0)
theorem lm.lt {l:List aa} (h:lm l) (hij:i<j) (hj:j<l.length):bi (ac l i) (ac l j)<0:=by
 grind [List.pairwise_iff_getElem,ac]
theorem lm.sign {l:List aa} (h:lm l) (hi:i<l.length) (hj:j<l.length):(bi (ac l i) (ac l j)=0↔i=j)∧(bi (ac l i) (ac l j)<0↔i<j):=by
 have hs:=bp.swap (ac l i) (ac l j);rcases Nat.lt_trichotomy i j with h'|h'|h'
 ·have:=h.lt h' hj;omega
 ·grind
 ·have:=h.lt h' hi;omega
theorem lm.inj {l:List aa} (h:lm l) (hi:i<l.length) (hj:j<l.length) (e:ac l i=ac l j):i=j:=
 (h.sign hi hj).1.1 ((bp.eq _ _).2 e)
def sn (l:List aa) (p:aa):Int:=match l.findIdx? (λ q=>decide (q=p)) with|some i=>(i:Int)|none=> -1
theorem o7 {l:List aa} (h:lm l) (hj:j<l.length):sn l (ac l j)=j:=by
 have:l.findIdx? (λ q=>decide (q=ac l j))=some j:=by
  rw [List.findIdx?_eq_some_iff_getElem];refine ⟨hj,Wx,λ i hi=> ?_⟩;rw [<- dT _ _ ge];simp only [decide_eq_true_eq];intro e;have:=h.inj ge hj e;omega
 grind [sn]
theorem dw {α:Type} [Inhabited α] {l:List α}{x:α} (h:x ∈ l):∃j,j<l.length∧ac l j=x:=by
 obtain ⟨j,hj,rfl⟩:=List.getElem_of_mem h;exact ⟨j,hj,dT _ _ hj⟩
def xp:List aa->aa->Nat
 | [], _=>0
 |q::l,p=>if bi q p<0 then xp l p+1 else 0
theorem TH:∀ (l:List aa) (p:aa),xp l p<=l.length
 | [],p=>by simp [xp]
 |q::l,p=>by
  have:=TH l p;rw [xp,List.length_cons];split<;>omega
theorem LX {p:aa}:∀ {l:List aa}{h:Nat},h<xp l p->bi (ac l h) p<0
 | [],h,hl=>by simp [xp] at hl
 |q::l,h,hl=>by
  rw [xp] at hl;split at hl
  ·cases h<;>simp_all [fW,dv,LX]
  ·omega
theorem TG {p:aa}:∀ {l:List aa},lm l->∀ {h:Nat},xp l p<=h->h<l.length->¬bi (ac l h) p<0
 | [], _,h, _,hl=>by simp at hl
 |q::l,hi,h,hl,hn=>by
  have hi:=List.pairwise_cons.1 hi;rw [xp] at hl;split at hl
  ·cases h<;>simp_all [dv,TG]
  ·cases h with
   |zero=>grind [ac]
   |succ h=>
    rw [dv];intro hr;have hm:ac l h ∈ l:=am pi;have h1:=hi.1 _ hm;have h2:=bp.tr q (ac l h) p ge ge;have e:=(bp.eq q p).1 ge;subst e;have:=bp.swap q (ac l h);omega
theorem OX {l:List aa} (hi:lm l) (p:aa){h:Nat} (hn:h<l.length):bi (ac l h) p<0↔h<xp l p:=by
 constructor
 ·rcases Nat.lt_or_ge h (xp l p) with h'|h';all_goals simp_all [TG]
 ·exact LX
theorem OY {l:List aa} (hi:lm l) (p:aa):p ∈ l↔xp l p<l.length∧ac l (xp l p)=p:=by
 constructor
 ·intro hp;obtain ⟨j,hj,rfl⟩:=dw hp;have h0:=(bp.eq (ac l j) (ac l j)).2 rfl;have h1:¬j<xp l (ac l j):=λ h=>by
   have:=LX h;omega
  rcases Nat.lt_or_ge (xp l (ac l j)) j with h'|h'
  ·have h2:=hi.lt h' hj;grind [OX]
  grind
 grind [ac]
theorem zbX {l:List aa} (hi:lm l) (p:aa):sn l p=if p ∈ l then (xp l p:Int) else -1:=by
 grind [OY,o7,sn]
theorem qo (g:ae) (p:aa):lm (an g p):=by
 unfold an;split;all_goals simp_all [cU,bp]
end Go.Av
end
section
/- Plain: what a man does depends on its region alone; the moves of a normal game are those of its parts. -/
open Go Go.Proofs
namespace Go.Av
section
variable {s:Nat->Bool} {a:List Int}
end
structure dh (g:ae):Prop where
 nh:nQ g
 cl:g.clauses= []
 must:g.must=false
structure lz (g:ae):Prop where
 ok:bN g
 s0:kx g.cells.toNat (vp g).1
 s1:kx g.cells.toNat (vp g).2
theorem lz.of {g:ae} (h:lz g):wm (aW g):=ED X1 h.s0 h.s1
end Go.Av
end
section
open Go Go.Proofs
namespace Go.Av
end Go.Av
end
section
/- Plain: chapter 23: the form of a position is the sum of those of its parts. -/
open Go Go.Proofs
namespace Go.Av
open af
def bv (p:aa) (s:Int):aa:={ p with side:=s}
def bV (g:ae) (p:aa) (s:Int):List aa:=(an g (bv p s)).map λ q=>bv q 0
theorem bX {g:ae}{p:aa} (hp:bw g p){s:Int} (hs:s=0∨s=1):bw g (bv p s):=⟨hp.al,hp.av,hp.h0,hp.h1,hp.r0,hp.r1,hs⟩
section
variable {g:ae} (h:lz g) (hn:dh g)
include h hn
end
end Go.Av
end
section
open Go Go.Proofs
namespace Go.Av
open af
theorem zero_add (x:af):iF (add zero x) x:=(add_comm zero x).trans (add_zero x)
def wU (f:af) (first:Int):Int:=if (first=0∧leq f zero=false)∨(first≠0∧leq zero f=true) then 0 else 1
end Go.Av
end
section
open Go Go.Proofs
namespace Go.Av
open af
theorem od (l:List Nat):(jP l).size=l.length:=by simp [jP,ByteArray.size]
theorem qE (a b:List Nat):jP a++jP b=jP (a++b):=by
 refine ByteArray.ext ?_;grind [ByteArray.data_append,jP]
theorem bc44:(⟨#[44]⟩:ByteArray)=jP [44]:=rfl
theorem zeV:(⟨#[123]⟩:ByteArray)=jP [123]:=rfl
theorem zeW:(⟨#[124]⟩:ByteArray)=jP [124]:=rfl
theorem zeX:(⟨#[125]⟩:ByteArray)=jP [125]:=rfl
mutual
theorem Ik:∀ (f:af),f.text.length+1<=4 * f.size
 | .mk l r=>by
  have h1:=sJ l;have h2:=sJ r;rw [text,size];simp only [List.length_cons,List.length_append,List.length_nil];omega
theorem sJ:∀ (l:List af),(textL l).length<=4 * aD l
 | []=>Yl
 | [x]=>by
  have:=Ik x;grind [textL,aD]
 |x::y::l=>by
  have h1:=Ik x;have h2:=sJ (y::l);rw [textL,aD];simp only [List.length_cons,List.length_append];omega
end
theorem Ii (x:af):∀l:List af,textL (l++ [x])=if l= [] then x.text else textL l++44::x.text
 | []=>Yl
 | [y]=>Yl
 |y::z::l=>by
  have ih:=Ii x (z::l);rw [List.cons_append,List.cons_append,textL,textL,<- List.cons_append,ih];simp
theorem wj {l:List af}{i:Nat} (h:i<l.length):l.take (i+1)=l.take i++ [ac l i]:=by
 grind [List.take_add_one,ac]
theorem Il {l:List af} (hs:aD l<=1099511627776) (hP:∀i,i<l.length->aq Tryz.prog 43 [bS (ac l i)] (.v (.string (iA (ac l i))))):
  aq Tryz.prog 80 [.lst 2 (l.map ce)] (.v (.string (jP (textL l)))):=by
 have hl:=qk l;refine pF Tryz.func80 ?_;refine J0 ?_;refine zg3 (zg5 (α:=Nat) (λ i=>⟨[(0, .lst 2 (l.map ce)),(3, .v (.string (jP (textL (l.take i))))),(4, .int i)], [],0⟩)
  (λ d i=>i+d=l.length) ?_ l.length 0 ?_) ?_ ?_
 ·intro d i hi hrec;refine J0 ?_;refine zg4 (λ hlt=> ?_) (λ hlt=> ?_)<;>simp at hlt
  ·have hl':i<l.length:=by omega
   have e:=Ii (ac l i) (l.take i);rw [<- wj hl'] at e;have t1:=sJ (l.take i);have t2:=ly l i;have t3:=Ik (ac l i);have t4:=ki (am hl');refine J0 ?_;refine zg4 (λ h0=> ?_) (λ h0=> ?_)<;>simp at h0
   ·have hne:l.take i≠ []:=λ h=>by grind [List.take_eq_nil_iff]
    rw [if_neg hne] at e;repeat first|refine wV λ _=>?_|simp [go_sem,hl',aJ ce l i hl',od,bc44]
    refine zg7 (hP i hl') Yu ?_;repeat first|refine wV λ _=>?_|simp [go_sem,iA,od,qE]
    refine zg3 (hrec (d - 1) ge (i+1) ge) ?_ gt;simp [go_sem,aj,e]
   ·obtain rfl:i=0:=by omega
    rw [if_pos gt] at e;have z:(textL ([]:List af)).length=0:=Yl;repeat first|refine wV λ _=>?_|simp [go_sem,hl',aJ ce l 0 hl',od]
    refine zg7 (hP 0 hl') Yu ?_;repeat first|refine wV λ _=>?_|simp [go_sem,iA,od,qE,z]
    refine zg3 (hrec (d - 1) ge (0+1) ge) ?_ gt;rw [e];simp [go_sem,aj,textL]
  ·obtain rfl:i=l.length:=by omega
   exact K0
 ·omega
 ·rw [List.take_zero,show jP (textL [])=⟨#[]⟩ by simp [textL,jP]];simp [go_sem,aj]
 ·simp
theorem mN:∀ (n:Nat) (f:af),f.size<=n->n<=1099511627776->aq Tryz.prog 43 [bS f] (.v (.string (iA f))):=by
 intro n;induction n with
 |zero=>intro f hf;have:=bZ f;omega
 |succ n ih=>
  intro f hf hn;have e1:=nP f;have h1:=Il (l:=f.L) ge λ i hi=>ih _ WC ge;have h2:=Il (l:=f.R) ge λ i hi=>ih _ WD ge;have t1:=sJ f.L;have t2:=sJ f.R;have et:f.text=123::(textL f.L++124::(textL f.R++ [125])):=by cases f with|mk l r=>rfl
  rw [bS,oY,iA,et];refine pF Tryz.func43 ?_;refine J0 ?_;refine dP h1 ?_;repeat first|refine wV λ _=>?_|simp [go_sem,zeV,zeW,zeX,od,qE]
  refine dP h2 ?_;repeat first|refine wV λ _=>?_|simp [go_sem,zeV,zeW,zeX,od,qE]
end Go.Av
end
section
open Go Go.Proofs
namespace Go.Av
open af
def az (l:List af):List (List AV):=l.map ce
theorem V7:az []= []:=rfl
theorem iD (l:List af):(az l).length=l.length:=by simp [az]
theorem iU (l:List af) (x:af):az (l++ [x])=az l++ [ce x]:=by simp [az]
theorem bh {l:List af}{i:Nat} (h:i<l.length):ac (az l) i=ce (ac l i):=aJ _ _ _ h
theorem pW (n:Nat) (l:List af):(∀r ∈ az l,∀c ∈ r,aN n c)=True:=Gi n l
attribute [go_sem] V7 iD
attribute [go_sem ↓] pW
theorem aH (f:af):ce f= [.lst 2 (az f.L), .lst 2 (az f.R)]:=oY f
theorem oq {α:Type} (g:af->α) (l:List af):∃Ls:Nat->List α,Ls 0= []∧(∀i,i<l.length->Ls (i+1)=Ls i++ [g (ac l i)])∧(∀i,i<=l.length->(Ls i).length=i)∧Ls l.length=l.map g:=
 ⟨λ i=>(l.take i).map g,rfl,λ i hi=>(by grind [wj]),λ i hi=>pi,pi⟩
theorem P8:∀ (n:Nat) (f:af),f.size<=n->n<=68719476736->aq Tryz.prog 83 [bS f] (bS f.neg):=by
 intro n;induction n with
 |zero=>intro f hf;have:=bZ f;omega
 |succ n ih=>
  intro f hf hn;have e2:=nA f;have e3:=nB f;have iL:∀i,i<f.L.length->aq Tryz.prog 83 [.agg (ce (ac f.L i))] (.agg (ce (ac f.L i).neg)):=λ i hi=>ih _ WC ge;have iR:∀i,i<f.R.length->aq Tryz.prog 83 [.agg (ce (ac f.R i))] (.agg (ce (ac f.R i).neg)):=λ i hi=>ih _ WD ge;have er:bS f.neg= .agg [.lst 2 (az (f.R.map neg)), .lst 2 (az (f.L.map neg))]:=by rw [bS,aH,zY,zZ]
  obtain ⟨A,a0,a1,a2,a3⟩:=oq neg f.R;obtain ⟨B,b0,b1,b2,b3⟩:=oq neg f.L;rw [er,bS,aH,<- a3,<- b3];clear er a3 b3;refine pF Tryz.func83 ?_;refine J0 ?_;refine zg3 (zg5 (α:=Nat) (λ i=>⟨[(1, .ref 0 0 2 0 0),(2, .ref 1 0 2 0 0),(3, .ref 2 0 2 0 0),(4, .int i)],
   [(0, .rows true 0 2 [[.lst 2 (az f.L), .lst 2 (az f.R)]]),(1, .rows true 0 2 [[AV.nils,AV.nils]]),(2, .rows true 0 2 [[.sl 3 i 2 0 i,AV.nils]]),(3, .rows true i 2 (az (A i)))],4⟩)
   (λ d i=>i+d=f.R.length) ?_ f.R.length 0 ?_) ?_ ?_
  ·intro d i hi hrec;have hlen:=a2 i ge;refine J0 ?_;refine zg4 (λ hl=> ?_) (λ hl=> ?_)<;>simp at hl
   ·have hl':i<f.R.length:=by omega
    repeat first|refine wV λ _=>?_|simp [go_sem,hl',bh hl',hlen]
    refine dP (iR i hl') ?_;refine J1 hlen ?_;refine zg3 (hrec (d - 1) ge (i+1) ge) ?_ gt;simp [go_sem,aj,a1 i hl',iU]
   ·obtain rfl:i=f.R.length:=by omega
    refine J0 ?_;refine zg3 (zg5 (α:=Nat) (λ i=>⟨[(1, .ref 0 0 2 0 0),(2, .ref 1 0 2 0 0),(3, .ref 2 0 2 0 0),(5, .int i)],
     [(0, .rows true 0 2 [[.lst 2 (az f.L), .lst 2 (az f.R)]]),(1, .rows true 0 2 [[AV.nils,AV.nils]]),(2, .rows true 0 2 [[.sl 3 f.R.length 2 0 f.R.length, .sl 4 i 2 0 i]]),(3, .rows true f.R.length 2 (az (A f.R.length))),(4, .rows true i 2 (az (B i)))],5⟩)
     (λ d i=>i+d=f.L.length) ?_ f.L.length 0 ?_) ?_ ?_
    ·intro d i hi hrec;have hlen2:=b2 i ge;refine J0 ?_;refine zg4 (λ hl=> ?_) (λ hl=> ?_)<;>simp at hl
     ·have hl':i<f.L.length:=by omega
      repeat first|refine wV λ _=>?_|simp [go_sem,hl',bh hl',hlen2]
      refine dP (iL i hl') ?_;refine J1 hlen2 ?_;refine zg3 (hrec (d - 1) ge (i+1) ge) ?_ gt;simp [go_sem,aj,b1 i hl',iU]
     ·obtain rfl:i=f.L.length:=by omega
      have hA:=a2 _ (Nat.le_refl _);have hB:=b2 _ (Nat.le_refl _);refine J0 ?_;refine ⟨aI rfl XN Ws ?_,aI rfl XN Ws ?_⟩;all_goals grind [iD]
    ·omega
    ·simp [go_sem,aj,b0]
    ·simp
  ·omega
  ·simp [go_sem,aj,a0]
  ·simp
theorem Ka {α:Type} (p:List α) (g:af->α) (l:List af):∃Ls:Nat->List α,Ls 0=p∧(∀i,i<l.length->Ls (i+1)=Ls i++ [g (ac l i)])∧(∀i,i<=l.length->(Ls i).length=p.length+i)∧Ls l.length=p++l.map g:=by
 obtain ⟨A,a0,a1,a2,a3⟩:=oq g l;exact ⟨λ i=>p++A i,by simp [a0],λ i hi=>pi,λ i hi=>pi,by simp [a3]⟩
end Go.Av
end
section
open Go Go.Proofs
namespace Go.Av
namespace af
theorem TC (x y:af):leq x.neg y.neg=leq y x:=by
 rw [Bool.eq_iff_iff];exact zfX x y
theorem zfY (l r:List af):(af.mk l r).neg= .mk (r.map neg) (l.map neg):=by grind [neg,Fz]
theorem NP (x:af):∀l:List af,mQ x.neg (l.map neg)=(nj x l).map (List.map neg)
 | []=>rfl
 |a::l=>by
  rw [List.map_cons,mQ,nj,zZ,List.find?_map];have e:((λ b=>leq b x.neg)∘neg:af->Bool)=λ b=>leq x b:=funext λ b=>TC b x;rw [e,NP x l];cases hf:a.L.find? λ b=>leq x b with
  |some b=>
   simp only [Option.map_some,zY,List.map_append]
  |none=>
   cases nj x l with
   |none=>rfl
   |some m=>rfl
theorem O9 {l:List af}{i:Nat} (hi:i<l.length):ac (l.map neg) i=(ac l i).neg:=aJ _ _ _ hi
theorem Jq (r:List af):cJ leq (r.map neg)=(cJ (λ a b=>leq b a) r).map neg:=by
 have hb:∀i k,i<r.length->k<r.length->eZ leq (r.map neg) i k=eZ (λ a b=>leq b a) r i k:=λ i k hi hk=>by
  grind [eZ,O9,TC]
 have hk:∀i,i<r.length->iO leq (r.map neg) i=iO (λ a b=>leq b a) r i:=λ i hi=>by
  grind [iO]
 grind [cJ,List.filter_congr,List.map_congr_left,O9]
theorem zej {x y:af} (h:x.neg=y.neg):x=y:=by grind [FA]
theorem zcS (r:List af):cY ((cY (cJ leq (r.map neg))).map neg)=cY (cJ (λ a b=>leq b a) r):=by
 obtain ⟨_,n1⟩:=qT tH (l:=r);have n2:(cJ leq (r.map neg)).Nodup:=(qT tJ).2;have n3:((cY (cJ leq (r.map neg))).map neg).Nodup:=by
  have h:=AQ (qz n2);grind [zej]
 refine Cb (qz n3) (qz n1) λ z=> ?_;rw [cx,cx,List.mem_map];constructor
 ·grind [cx,Jq,FA]
 ·intro hz;exact ⟨z.neg,by grind [cx,Jq],FA z⟩
def mP (x:af):af×Bool:=match mQ x x.L with
 |some l=>(.mk l x.R,true)
 |none=>(x,false)
def tS (x:af):af×Bool:=if (mP x).2=true then mP x else ((mP (mP x).1.neg).1.neg,(mP (mP x).1.neg).2)
theorem zcW (l r:List af):tS (.mk l r)=match mQ (.mk l r) l with
  |some l'=>(.mk l' r,true)
  |none=>match nj (.mk l r) r with
   |some r'=>(.mk l r',true)
   |none=>(.mk l r,false):=by
 have e1:mP (.mk l r)=match mQ (.mk l r) l with
  |some l'=>(.mk l' r,true)
  |none=>(.mk l r,false):=rfl
 unfold tS;rw [e1];cases h:mQ (.mk l r) l with
 |some l'=>rfl
 |none=>
  have e2:(af.mk l r).neg.L=r.map neg:=zY _;have e3:(af.mk l r).neg.R=l.map neg:=zZ _;unfold mP;rw [e2,NP];cases nj (.mk l r) r<;>grind [zfY,FA]
def Er:Nat->af->af
 |0,x=>x
 |n+1,x=>if (tS x).2=true then Er n (tS x).1 else (tS x).1
theorem Hv:∀ (n:Nat) (l r:List af),Er n (.mk l r)= .mk (kQ n l r).1 (kQ n l r).2
 |0,l,r=>rfl
 |n+1,l,r=>by
  rw [Er,kQ,zcW];cases mQ (.mk l r) l with
  |some l'=>
   exact Hv n l' r
  |none=>
   cases nj (.mk l r) r with
   |some r'=>
    exact Hv n l r'
   |none=>rfl
end af
end Go.Av
end
section
open Go Go.Proofs
namespace Go.Av
open af
theorem yN (l:List af) (i:Nat):(az l).take i=az (l.take i):=by simp_all [az]
theorem rD (l:List af) (i:Nat):(az l).drop i=az (l.drop i):=by simp_all [az]
theorem LL {p:af->Bool}:∀ {l:List af}{k:Nat},k<l.length->(∀j,j<k->p (ac l j)=false)->p (ac l k)=true->l.find? p=some (ac l k)
 | [],k,h, _, _=>WZ
 |x::l,0, _, _,h=>Wx
 |x::l,k+1,hk,hj,h=>by
  have h0:=hj 0 ge;rw [fW] at h0;rw [List.find?_cons_of_neg (by simp [h0])];exact LL Xj (λ j hj'=>by have:=hj (j+1) ge;rwa [dv] at this) h
theorem Ft {p:af->Bool}{l:List af} (h:∀j,j<l.length->p (ac l j)=false):l.find? p=none:=by
 grind [zcr]
theorem LB {x:af}:∀ {l:List af}{i k:Nat},i<l.length->(∀j,j<i->∀k,k<(ac l j).R.length->leq (ac (ac l j).R k) x=false)->k<(ac l i).R.length->
  (∀j,j<k->leq (ac (ac l i).R j) x=false)->leq (ac (ac l i).R k) x=true->mQ x l=some (l.take i++((ac (ac l i).R k).L++l.drop (i+1)))
 | [],i,k,hi, _, _, _, _=>by simp at hi
 |a::l,0,k, _, _,hk,hj,h=>by
  grind [ac,mQ,LL]
 |a::l,i+1,k,hi,h0,hk,hj,h=>by
  rw [dv] at hk h;have hj':∀j,j<k->leq (ac (ac l i).R j) x=false:=λ j hj2=>by have:=hj j hj2;rwa [dv] at this
  have ha:a.R.find? (λ b=>leq b x)=none:=Ft λ j hj=>by have:=h0 0 ge j (by exact hj);rwa [fW] at this
  rw [mQ,ha];rw [LB Wv (λ j hj2 k hk2=>by have:=h0 (j+1) ge k (by exact hk2);rwa [dv] at this) hk hj' h];simp [dv]
theorem At {x:af}:∀ {l:List af},(∀j,j<l.length->∀k,k<(ac l j).R.length->leq (ac (ac l j).R k) x=false)->mQ x l=none
 | [], _=>rfl
 |a::l,h=>by
  have ha:a.R.find? (λ b=>leq b x)=none:=Ft λ j hj=>by have:=h 0 gt j (by exact hj);rwa [fW] at this
  rw [mQ,ha];rw [At (λ j hj k hk=>by have:=h (j+1) (by simpa using hj) k (by exact hk);rwa [dv] at this)];rfl
theorem Iq (l more:List af) (i:Nat) (hi:i<l.length) (hl:l.length+more.length<=68719476736):
  aq Tryz.prog 133 [.lst 2 (az l), .int i, .lst 2 (az more)] (.lst 2 (az (l.take i++(more++l.drop (i+1))))):=by
 have e:(i:Int)+1=((i+1:Nat):Int):=rfl;refine pF Tryz.func133 ?_;have t:((az l).drop (i+1)).take (l.length - (i+1))=az (l.drop (i+1)):=by grind [rD,iD]
 repeat first|refine wV λ _=>?_|simp [go_sem,yN]
 grind [aI,dO,aC,az]
theorem IM (f:af) (hf:f.size<=34359738368):
  aq Tryz.prog 82 [bS f] (.agg [.lst 2 (az (mP f).1.L), .lst 2 (az (mP f).1.R), .bool (mP f).2]):=by
 have e1:=nA f;have e2:=nB f;have hq:∀i k,i<f.L.length->k<(ac f.L i).R.length->aq Tryz.prog 62 [.agg (ce (ac (ac f.L i).R k)), .agg (ce f)] (.bool (leq (ac (ac f.L i).R k) f)):=λ i k hi hk=>
  FK 1099511627776 _ _ (by have:=dU hi;have:=eH hk;omega) (Nat.le_refl _)
 have hw:∀i k,i<f.L.length->k<(ac f.L i).R.length->aq Tryz.prog 133 [.lst 2 (az f.L), .int i, .lst 2 (az (ac (ac f.L i).R k).L)] (.lst 2 (az (f.L.take i++((ac (ac f.L i).R k).L++f.L.drop (i+1))))):=λ i k hi hk=>
  Iq _ _ i hi (by have:=dU hi;have:=eH hk;grind [nA])
 have hlr:∀i,i<f.L.length->(ac f.L i).R.length<34359738368:=λ i hi=>by have:=dU hi;grind [nB]
 obtain ⟨R,hR⟩:∃R,R=mP f:=⟨_,rfl⟩
 rw [<- hR];have r1:∀i k,i<f.L.length->(∀j,j<i->∀k,k<(ac f.L j).R.length->leq (ac (ac f.L j).R k) f=false)->k<(ac f.L i).R.length->(∀j,j<k->leq (ac (ac f.L i).R j) f=false)->leq (ac (ac f.L i).R k) f=true->
   R=(.mk (f.L.take i++((ac (ac f.L i).R k).L++f.L.drop (i+1))) f.R,true):=λ i k a b c d e=>by grind [mP,LB]
 have r2:(∀j,j<f.L.length->∀k,k<(ac f.L j).R.length->leq (ac (ac f.L j).R k) f=false)->R=(f,false):=λ a=>by rw [hR,mP,At a]
 clear hR;have ef:=aH f;have eg:∀i,i<f.L.length->ce (ac f.L i)= [.lst 2 (az (ac f.L i).L), .lst 2 (az (ac f.L i).R)]:=λ i _=>aH _;have eh:∀i k,i<f.L.length->k<(ac f.L i).R.length->ce (ac (ac f.L i).R k)= [.lst 2 (az (ac (ac f.L i).R k).L), .lst 2 (az (ac (ac f.L i).R k).R)]:=λ i k _ _=>aH _;unfold bS;rw [ef] at hq ⊢;refine pF Tryz.func82 ?_;refine J0 ?_;refine zg3 (zg5 (α:=Nat) (λ i=>⟨[(1, .ref 0 0 2 0 0),(2, .ref 1 0 3 0 0),(3, .int i)], [(0, .rows true 0 2 [[.lst 2 (az f.L), .lst 2 (az f.R)]]),(1, .rows true 0 3 [[AV.nils,AV.nils, .bool false]])],2⟩)
  (λ d i=>i+d=f.L.length∧∀j,j<i->∀k,k<(ac f.L j).R.length->leq (ac (ac f.L j).R k) f=false) ?_ f.L.length 0 ?_) ?_ ?_
 ·rintro d i ⟨hi,hj⟩ hrec;refine J0 ?_;refine zg4 (λ hl=> ?_) (λ hl=> ?_)<;>simp at hl
  ·have hl':i<f.L.length:=by omega
   have h3:=hlr i hl';refine J0 ?_;refine zg3 (zg5 (α:=Nat) (λ k=>⟨[(1, .ref 0 0 2 0 0),(2, .ref 1 0 3 0 0),(3, .int i),(4, .int k)], [(0, .rows true 0 2 [[.lst 2 (az f.L), .lst 2 (az f.R)]]),(1, .rows true 0 3 [[AV.nils,AV.nils, .bool false]])],2⟩)
    (λ d k=>k+d=(ac f.L i).R.length∧∀j,j<k->leq (ac (ac f.L i).R j) f=false) ?_ (ac f.L i).R.length 0 ?_) ?_ ?_
   ·rintro d2 k ⟨hk,hm⟩ hrec2;repeat first|refine wV λ _=>?_|simp [go_sem,bh hl',eg i hl',hl']
    refine zg4 (λ hk1=> ?_) (λ hk1=> ?_)<;>simp at hk1
    ·have hk':k<(ac f.L i).R.length:=by omega
     repeat first|refine wV λ _=>?_|simp [go_sem,bh hl',eg i hl',bh hk',hl',hk']
     refine dP (hq i k hl' hk') ?_;repeat first|refine wV λ _=>?_|simp [go_sem,bh hl',eg i hl',bh hk',hl',hk']
     refine zg4 (λ hz=> ?_) (λ hz=> ?_)
     ·have hr:=r1 i k hl' hj hk' hm hz;repeat first|refine wV λ _=>?_|simp [go_sem,bh hl',eg i hl',bh hk',eh i k hl' hk',hl',hk']
      refine dP (hw i k hl' hk') ?_;repeat first|refine wV λ _=>?_|simp [go_sem,bh hl',eg i hl',bh hk',eh i k hl' hk',hl',hk']
      rw [hr];exact ⟨.refl _, .refl _, .refl _⟩
     ·refine J0 ?_;refine zg3 (hrec2 (d2 - 1) ge (k+1) ⟨ge,λ j hj2=> ?_⟩) ?_ gt
      ·grind
      ·simp [go_sem,aj]
    ·obtain rfl:k=(ac f.L i).R.length:=by omega
     refine J0 ?_;refine zg3 (hrec (d - 1) ge (i+1) ⟨ge,λ j hj2=> ?_⟩) ?_ gt
     ·grind
     ·simp [go_sem,aj]
   ·grind
   ·simp [go_sem,aj]
   ·simp
  ·obtain rfl:i=f.L.length:=by omega
   have hr:=r2 hj;refine J0 ?_;rw [hr];exact ⟨.refl _, .refl _, .refl _⟩
 ·grind
 ·simp [go_sem,aj]
 ·simp
end Go.Av
end
section
open Go Go.Proofs
namespace Go.Av
open af
theorem OV:∀ {s t:List Nat},(∀c ∈ s,c<256)->(∀c ∈ t,c<256)->Op.bytesLess (s.map UInt8.ofNat) (t.map UInt8.ofNat)=AU s t
 | [], [], _, _=>rfl
 | _:: _, [], _, _=>by simp [Op.bytesLess,AU]
 | [], _:: _, _, _=>rfl
 |a::s,b::t,hs,ht=>by
  have h1:=hs a gt;have h2:=ht b gt;have ih:=OV (s:=s) (t:=t) (λ c hc=>hs c Wy) (λ c hc=>ht c Wy);have e1:(UInt8.ofNat a).toNat=a:=by exact Nat.mod_eq_of_lt h1
  have e2:(UInt8.ofNat b).toNat=b:=by exact Nat.mod_eq_of_lt h2
  rw [List.map_cons,List.map_cons,Op.bytesLess,AU,ih];congr 1
  ·rw [decide_eq_decide,UInt8.lt_iff_toNat_lt,e1,e2]
  ·by_cases h:a=b
   ·subst h;simp
   ·have:UInt8.ofNat a≠UInt8.ofNat b:=λ e=>h (by rw [<- e1,<- e2,e]);simp [h,this]
theorem IN (l:List Nat):(jP l).toList=l.map UInt8.ofNat:=by simp_all [jP]
theorem Kj (a b:af):Op.bytesLess (iA a).toList (iA b).toList=AU a.text b.text:=by
 grind [iA,IN,OV,text_lt]
theorem LP {x:af}:∀ {l:List af}{k:Nat},k<=l.length->(∀j,j<k->AU (ac l j).text x.text=true)->(k<l.length->AU (ac l k).text x.text=false)->ub x l=l.take k++(x::l.drop k)
 | [],k,hk, _, _=>by
  grind [ub]
 |y::l,0, _, _,h=>by
  grind [ub,ac]
 |y::l,k+1,hk,hj,h=>by
  have h0:=hj 0 ge;rw [fW] at h0;rw [ub,if_pos h0,LP (k:=k) Xj (λ j hj2=>by have:=hj (j+1) ge;rwa [dv] at this) (λ h2=>by have:=h XZ;rwa [dv] at this)];rfl
theorem OH (x:af):∀l:List af,(ub x l).length=l.length+1
 | []=>rfl
 |y::l=>by
  rw [ub];split
  ·rw [List.length_cons,OH x l];rfl
  ·rfl
theorem KK (l:List af):∃Ls:Nat->List af,Ls 0= []∧(∀i,i<l.length->Ls (i+1)=ub (ac l i) (Ls i))∧(∀i,i<=l.length->(Ls i).length=i)∧(∀i,i<=l.length->∀z ∈ Ls i,z ∈ l)∧Ls l.length=cY l:=by
 have hs:∀i,i<l.length->cY (l.take (i+1))=ub (ac l i) (cY (l.take i)):=λ i hi=>by grind [cY,wj]
 refine ⟨λ i=>cY (l.take i),rfl,hs,λ i=> ?_,λ i hi z hz=>List.mem_of_mem_take (cx.1 hz),pi⟩;induction i<;>grind [cY,OH]
theorem Ja (l:List af) (hl:l.length<=34359738368) (hP:∀z ∈ l,aq Tryz.prog 43 [.agg (ce z)] (.v (.string (iA z)))):
  aq Tryz.prog 85 [.lst 2 (az l)] (.lst 2 (az (cY l))):=by
 obtain ⟨O,o0,o1,o2,o3,o4⟩:=KK l;rw [<- o4];refine pF Tryz.func85 ?_;refine J0 ?_;refine zg3 (zg5 (α:=Nat) (λ i=>⟨[(0, .lst 2 (az l)),(3, .lst 2 (az (O i))),(4, .int i)], [],0⟩)
  (λ d i=>i+d=l.length) ?_ l.length 0 ?_) ?_ ?_
 ·intro d i hi hrec;have hol:=o2 i ge;refine J0 ?_;refine zg4 (λ hlt=> ?_) (λ hlt=> ?_)<;>simp at hlt
  ·have hl':i<l.length:=by omega
   have hx:=hP _ (am hl');refine J0 ?_;refine zg3 (zg5 (α:=Nat) (λ k=>⟨[(0, .lst 2 (az l)),(3, .lst 2 (az (O i))),(4, .int i),(5, .int k)], [],0⟩)
    (λ d k=>k+d=i∧∀j,j<k->AU (ac (O i) j).text (ac l i).text=true) ?_ i 0 ?_) ?_ ?_
   ·rintro d2 k ⟨hk,hj⟩ hrec2;have stop:(k<i->AU (ac (O i) k).text (ac l i).text=false)->az (O (i+1))=az ((O i).take k)++(ce (ac l i)::az ((O i).drop k)):=λ h=>by
     rw [o1 i hl',LP ge hj pi];simp [az]
    have ht:((O i).take k).length=k:=pi;have hd:((O i).drop k).length=i - k:=pi;have hd2:(az ((O i).drop k)).take (i - k)=az ((O i).drop k):=List.take_of_length_le XN;by_cases hki:k<i
    ·have hko:k<(O i).length:=by omega
     have hy:=hP _ (o3 i ge _ (am hko));repeat first|refine wV λ _=>?_|simp [go_sem,hol,hki,bh hko,bh hl',hl']
     refine zg9 _ (λ _=>hy) no ?_;repeat first|refine wV λ _=>?_|simp [go_sem,hol,hki,bh hko,bh hl',hl']
     refine zg9 _ (λ _=>hx) no ?_;repeat first|refine wV λ _=>?_|simp [go_sem,hol,hki,bh hko,bh hl',hl',Kj]
     refine zg4 (λ hz=> ?_) (λ hz=> ?_)
     ·refine J0 ?_;refine zg3 (hrec2 (d2 - 1) ge (k+1) ⟨ge,λ j hj2=> ?_⟩) ?_ gt
      ·grind
      ·simp [go_sem,aj]
     ·have hs:=stop (λ _=>hz);repeat first|refine wV λ _=>?_|simp [go_sem,hol,bh hl',hl',yN,rD,ht,hd,hd2]
      refine zg3 (hrec (d - 1) ge (i+1) ge) ?_ gt;simp [go_sem,aj,hs];exact aI rfl XN pi (by grind [List.take_of_length_le,az])
    ·obtain rfl:k=i:=by omega
     have hs:=stop (λ h=>absurd h ge);refine J1 hol ?_;refine oK.skip .top ?_;refine J1 hol ?_;refine oK.skip .top ?_;have ht2:az ((O k).take k)=az (O k):=pi;have hd3:az ((O k).drop k)= []:=pi;have ht3:(az (O k)).take k=az (O k):=List.take_of_length_le XN;repeat first|refine wV λ _=>?_|simp [go_sem,hol,bh hl',hl',ht3,rD,hd3]
     refine zg3 (hrec (d - 1) ge (k+1) ge) ?_ gt;simp [go_sem,aj,hs,ht2,hd3];grind [aI,aC,az]
   ·grind
   ·simp [go_sem,aj]
   ·simp
  ·obtain rfl:i=l.length:=by omega
   exact K0
 ·simp
 ·simp [go_sem,aj,o0];grind [aI,aC]
 ·simp
end Go.Av
end
section
open Go Go.Proofs
namespace Go.Av
open af
def zW (le:af->af->Bool) (l:List af) (i:Nat):List af:=((List.range i).filter (iO le l)).map (ac l)
theorem Rw (le:af->af->Bool) (l:List af) (i:Nat):zW le l (i+1)=if iO le l i=true then zW le l i++ [ac l i] else zW le l i:=by
 grind [zW,List.range_succ]
theorem VA (le:af->af->Bool) (l:List af):zW le l l.length=cJ le l:=rfl
theorem VB (le:af->af->Bool) (l:List af) (i:Nat):(zW le l i).length<=i:=by
 grind [zW]
theorem VD (le:af->af->Bool) (l:List af){i:Nat} (hi:i<=l.length):∀z ∈ zW le l i,z ∈ l:=by
 grind [am,zW]
theorem zaa (l:List af):(cY l).length=l.length:=by
 obtain ⟨O, _, _,h, _,e⟩:=KK l;grind
theorem UN (le:af->af->Bool) (l:List af):∃Ls:Nat->List af,Ls 0= []∧(∀i,i<l.length->Ls (i+1)=if iO le l i=true then ub (ac l i) (Ls i) else Ls i)∧(∀i,i<=l.length->(Ls i).length<=i)∧
  (∀i,i<=l.length->∀z ∈ Ls i,z ∈ l)∧Ls l.length=cY (cJ le l):=by
 refine ⟨λ i=>cY (zW le l i),rfl,λ i hi=> ?_,λ i hi=> ?_,λ i hi z hz=>VD le l hi z (cx.1 hz),by grind [VA]⟩;all_goals grind [cY,Rw,zaa,VB]
def Dr (le:af->af->Bool) (l:List af) (i k:Nat):Bool:= !(List.range k).any (eZ le l i)
theorem OP (le:af->af->Bool) (l:List af) (i:Nat):Dr le l i 0=true:=rfl
theorem OO (le:af->af->Bool) (l:List af) (i k:Nat):Dr le l i (k+1)=(Dr le l i k && !eZ le l i k):=by
 grind [Dr]
theorem Ru (le:af->af->Bool) (l:List af) (i:Nat):Dr le l i l.length=iO le l i:=rfl
theorem NI (l:List af) (hl:l.length<=34359738368) (hP:∀z ∈ l,aq Tryz.prog 43 [.agg (ce z)] (.v (.string (iA z))))
  (hL:∀x ∈ l,∀y ∈ l,aq Tryz.prog 62 [.agg (ce x), .agg (ce y)] (.bool (leq x y))):
  aq Tryz.prog 84 [.lst 2 (az l)] (.lst 2 (az (cY (cJ leq l)))):=by
 obtain ⟨O,o0,o1,o2,o3,o4⟩:=UN leq l;rw [<- o4];refine pF Tryz.func84 ?_;refine J0 ?_;refine zg3 (zg5 (α:=Nat) (λ i=>⟨[(0, .lst 2 (az l)),(3, .lst 2 (az (O i))),(4, .int i)], [],0⟩)
  (λ d i=>i+d=l.length) ?_ l.length 0 ?_) ?_ ?_
 ·intro d i hi hrec;have hol:=o2 i ge;refine J0 ?_;refine zg4 (λ hlt=> ?_) (λ hlt=> ?_)<;>simp at hlt
  ·have hl':i<l.length:=by omega
   have hx:=hP _ (am hl');refine J0 ?_;refine zg3 (zg5 (α:=Nat) (λ k=>⟨[(0, .lst 2 (az l)),(3, .lst 2 (az (O i))),(4, .int i),(5, .bool (Dr leq l i k)),(6, .int k)], [],0⟩)
    (λ d k=>k+d=l.length) ?_ l.length 0 ?_) ?_ ?_
   ·intro d2 k hk hrec2;refine J0 ?_;refine zg4 (λ hkl=> ?_) (λ hkl=> ?_)<;>simp at hkl
    ·have hk':k<l.length:=by omega
     have hs:=OO leq l i k;by_cases hki:k=i
     ·have hb:eZ leq l i k=false:=by simp [eZ,hki]
      rw [hb,Bool.not_false,Bool.and_true] at hs;repeat first|refine wV λ _=>?_|simp [go_sem,hki,bh hk',bh hl',hl',hk']
      refine oK.skip (.v (.bool false)) ?_;repeat first|refine wV λ _=>?_|simp [go_sem,hki,bh hk',bh hl',hl',hk']
      refine oK.skip (.v (.bool false)) ?_;repeat first|refine wV λ _=>?_|simp [go_sem,hki,bh hk',bh hl',hl',hk']
      refine zg3 (hrec2 (d2 - 1) ge (k+1) ge) ?_ gt;rw [hki] at hs;simp [go_sem,aj,hs,hki]
     ·have hki2:¬(k:Int)=i:=by omega
      obtain ⟨q1,hq1⟩:∃q,q=leq (ac l i) (ac l k):=⟨_,rfl⟩
      obtain ⟨q2,hq2⟩:∃q,q=leq (ac l k) (ac l i):=⟨_,rfl⟩
      have c1:=hL _ (am hl') _ (am hk');have c2:=hL _ (am hk') _ (am hl');have hb:eZ leq l i k=(q1 && (decide (k<i)|| !q2)):=by simp_all [eZ,Ne.symm]
      rw [hb] at hs;rw [<- hq1] at c1;rw [<- hq2] at c2;clear hb hq1 hq2;repeat first|refine wV λ _=>?_|simp [go_sem,hki2,bh hk',bh hl',hl',hk']
      refine zg9 _ (λ _=>c1) no ?_;repeat first|refine wV λ _=>?_|simp [go_sem,hki2,bh hk',bh hl',hl',hk']
      refine zg9 _ (λ _=>c2) no ?_;(repeat (first|refine wV λ _=>?_|simp [go_sem,hki2,bh hk',bh hl',hl',hk']|(refine zhq XF λ _=> ?_)|(refine zhl XF λ _=> ?_)))
      refine zg4 (λ hz=> ?_) (λ hz=> ?_)
      ·rw [hz,Bool.not_true,Bool.and_false] at hs;refine J0 ?_;refine zg3 (hrec2 (d2 - 1) ge (k+1) ge) ?_ gt;simp [go_sem,aj,hs]
      ·rw [hz,Bool.not_false,Bool.and_true] at hs;refine J0 ?_;refine zg3 (hrec2 (d2 - 1) ge (k+1) ge) ?_ gt;simp [go_sem,aj,hs]
    ·obtain rfl:k=l.length:=by omega
     have ho:=o1 i hl';obtain ⟨kp,hkp⟩:∃kp,kp=iO leq l i:=⟨_,rfl⟩
     rw [<- hkp] at ho;repeat first|refine wV λ _=>?_|simp [go_sem,Ru]
     rw [<- hkp];clear hkp hrec2;refine zg4 (λ hz=> ?_) (λ hz=> ?_)
     ·rw [Bool.not_eq_true'] at hz;rw [hz,if_neg gt] at ho;refine J0 ?_;refine zg3 (hrec (d - 1) ge (i+1) ge) ?_ gt;simp [go_sem,aj,ho]
     rw [Bool.not_eq_false'] at hz;rw [if_pos hz] at ho;obtain ⟨m,hm⟩:∃m,m=(O i).length:=⟨_,rfl⟩
     rw [<- hm] at hol;refine J0 ?_;refine zg3 (zg5 (α:=Nat) (λ k=>⟨[(0, .lst 2 (az l)),(3, .lst 2 (az (O i))),(4, .int i),(7, .int k)], [],0⟩)
      (λ d k=>k+d=m∧∀j,j<k->AU (ac (O i) j).text (ac l i).text=true) ?_ m 0 ?_) ?_ ?_
     ·rintro d2 k ⟨hk,hj⟩ hrec2;have stop:(k<m->AU (ac (O i) k).text (ac l i).text=false)->az (O (i+1))=az ((O i).take k)++(ce (ac l i)::az ((O i).drop k)):=λ h=>by
       rw [ho,LP ge hj pi];simp [az]
      have ht:((O i).take k).length=k:=by rw [List.length_take];omega
      have hd:((O i).drop k).length=m - k:=by rw [List.length_drop];omega
      have hd2:(az ((O i).drop k)).take (m - k)=az ((O i).drop k):=List.take_of_length_le (by rw [iD,hd];omega);by_cases hki:k<m
      ·have hko:k<(O i).length:=by omega
       have hy:=hP _ (o3 i ge _ (am hko));repeat first|refine wV λ _=>?_|simp [go_sem,<- hm,hki,bh hko,bh hl',hl']
       refine zg9 _ (λ _=>hy) no ?_;repeat first|refine wV λ _=>?_|simp [go_sem,<- hm,hki,bh hko,bh hl',hl']
       refine zg9 _ (λ _=>hx) no ?_;repeat first|refine wV λ _=>?_|simp [go_sem,<- hm,hki,bh hko,bh hl',hl',Kj]
       refine zg4 (λ hz=> ?_) (λ hz=> ?_)
       ·refine J0 ?_;refine zg3 (hrec2 (d2 - 1) ge (k+1) ⟨ge,λ j hj2=> ?_⟩) ?_ gt
        ·by_cases e:j<k
         ·exact hj j e
         grind
        ·simp [go_sem,aj]
       ·have hs:=stop (λ _=>hz);repeat first|refine wV λ _=>?_|simp [go_sem,<- hm,bh hl',hl',yN,rD,ht,hd,hd2]
        refine zg3 (hrec (d - 1) ge (i+1) ge) ?_ gt;simp [go_sem,aj,hs];exact aI rfl (by simp [iD,ht,hd];omega) pi (by exact List.take_of_length_le (by simp [iD,ht,hd];omega))
      ·obtain rfl:k=m:=by omega
       have hs:=stop (λ h=>absurd h ge);repeat first|refine wV λ _=>?_|simp [go_sem,<- hm]
       refine oK.skip .top ?_;repeat first|refine wV λ _=>?_|simp [go_sem,<- hm]
       refine oK.skip .top ?_;have ht2:az ((O i).take k)=az (O i):=pi;have hd3:az ((O i).drop k)= []:=pi;have ht3:(az (O i)).take k=az (O i):=List.take_of_length_le (by rw [iD];omega);repeat first|refine wV λ _=>?_|simp [go_sem,<- hm,bh hl',hl',ht3,rD,hd3]
       refine zg3 (hrec (d - 1) ge (i+1) ge) ?_ gt;simp [go_sem,aj,hs,ht2,hd3];exact aI rfl (by simp [iD,<- hm]) pi (by exact List.take_of_length_le (by simp [iD,<- hm]))
     ·grind
     ·simp [go_sem,aj]
     ·simp
   ·omega
   ·simp [go_sem,aj,OP]
   ·simp
  ·obtain rfl:i=l.length:=by omega
   exact K0
 ·simp
 ·simp [go_sem,aj,o0];grind [aI,aC]
 ·simp
end Go.Av
end
section
open Go Go.Proofs
namespace Go.Av
open af
theorem ui:∀ (n m:Nat) (x:af),x.size<=n->x.size<=m->bM n x=bM m x
 |0, _,x,h, _=>WV
 | _,0,x, _,h=>WV
 |n+1,m+1,x,h1,h2=>by
  have e1:x.L.map (bM n)=x.L.map (bM m):=List.map_congr_left λ z hz=>ui n m z Yh Yh;have e2:x.R.map (bM n)=x.R.map (bM m):=List.map_congr_left λ z hz=>ui n m z Yi Yi;simp only [bM,e1,e2]
theorem NV (x:af){n:Nat} (h:x.size<=n+1):x.L.map (bM n)=x.L.map canon:=List.map_congr_left λ z hz=>ui _ _ z Yh (Nat.le_refl _)
theorem NW (x:af){n:Nat} (h:x.size<=n+1):x.R.map (bM n)=x.R.map canon:=List.map_congr_left λ z hz=>ui _ _ z Yi (Nat.le_refl _)
def CG (x:af):List af×List af:=kQ (aD (x.L.map canon)+aD (x.R.map canon)+1) (x.L.map canon) (x.R.map canon)
theorem Gs (x:af):x.canon= .mk (cY (cJ leq (CG x).1)) (cY (cJ (λ a b=>leq b a) (CG x).2)):=by
 have hp:=bZ x;obtain ⟨n,hn⟩:∃n,x.size=n+1:=⟨x.size - 1,ge⟩
 grind [canon,bM,NV,NW,CG]
theorem su (a b:List af):aD (a++b)=aD a+aD b:=by
 induction a<;>grind [aD]
theorem xf (l:List af) (p:Nat->Bool):∀n,n<=l.length->aD (((List.range n).filter p).map (ac l))<=aD (l.take n)
 |0, _=>pi
 |n+1,h=>by
  have ih:=xf l p n ge;rw [List.range_succ,List.filter_append,List.map_append,su,rX ge];by_cases hp:p n=true
  ·simp [hp,aD];omega
  ·simp [hp,aD];omega
theorem Bb (le:af->af->Bool) (l:List af):aD (cJ le l)<=aD l:=by
 grind [xf,cJ]
theorem H6 (x:af):∀l:List af,aD (ub x l)=x.size+aD l
 | []=>by simp [ub,aD]
 |y::l=>by
  rw [ub];split
  ·rw [aD,aD,H6 x l];omega
  ·rw [aD,aD]
theorem Bc (l:List af):aD (cY l)=aD l:=by
 have h:∀ (l o:List af),aD (l.foldl (λ o x=>ub x o) o)=aD o+aD l:=by
  intro l;induction l<;>grind [aD,H6]
 grind [cY,aD]
theorem zu:∀ (n:Nat) (l r:List af),aD (kQ n l r).1<=aD l∧aD (kQ n l r).2<=aD r
 |0,l,r=>⟨Nat.le_refl _,Nat.le_refl _⟩
 |n+1,l,r=>by
  rw [kQ];cases h:mQ (.mk l r) l with
  |some l'=>
   obtain ⟨_, _, _, _, _, _, _, _,hs⟩:=mR h;have:=zu n l' r;exact ⟨WA,this.2⟩
  |none=>
   cases h2:nj (.mk l r) r with
   |some r'=>
    obtain ⟨_, _, _, _, _, _, _, _,hs⟩:=oc h2;have:=zu n l r';exact ⟨this.1,WA⟩
   |none=>exact ⟨Nat.le_refl _,Nat.le_refl _⟩
theorem kR {g:af->af}:∀ {l:List af},(∀z ∈ l,(g z).size<=z.size)->aD (l.map g)<=aD l
 | [], _=>pi
 |x::l,h=>by
  have h1:=h x gt;have h2:=kR (l:=l) λ z hz=>h z (by simp [hz]);rw [List.map_cons,aD,aD];omega
theorem iK:∀ (n:Nat) (x:af),x.size<=n->x.canon.size<=x.size
 |0,x,h=>WV
 |n+1,x,h=>by
  have h1:=kR (l:=x.L) (g:=canon) λ z hz=>iK n z Yh;have h2:=kR (l:=x.R) (g:=canon) λ z hz=>iK n z Yi;have h3:aD (CG x).1<= _∧aD (CG x).2<= _:=zu _ (x.L.map canon) (x.R.map canon);have h4:=Bb leq (CG x).1;have h5:=Bb (λ a b=>leq b a) (CG x).2;have e:=nP x;rw [Gs,size,Bc,Bc];omega
theorem DP (l:List af):aD (l.map neg)=aD l:=by
 have h:∀x:af,x.neg.size=x.size:=by
  intro x;suffices hn:∀ (n:Nat) (x:af),x.size<=n->x.neg.size=x.size from hn _ x (Nat.le_refl _)
  intro n;induction n with
  |zero=>grind [bZ]
  |succ n ih=>
   intro x hx;have aux:∀l:List af,(∀z ∈ l,z.size<=n)->aD (l.map neg)=aD l:=by
    intro l;induction l<;>grind [aD]
   rw [nP x.neg,nP x,zY,zZ,aux x.R (λ z hz=>by have:=dB hz;omega),aux x.L (λ z hz=>by have:=dA hz;omega)];omega
 induction l<;>grind [aD]
theorem Co (x:af):x.neg.size=x.size:=by
 grind [DP,nP,zY,zZ]
theorem Df (x:af):(mP x).1.size<=x.size∧((mP x).2=true->(mP x).1.size<x.size):=by
 grind [nP,mP,mR,size]
theorem Ia (x:af):(tS x).1.size<=x.size∧((tS x).2=true->(tS x).1.size<x.size):=by
 grind [Df,tS,Co]
theorem Hw:∀ (n:Nat) (x:af),(Er n x).size<=x.size
 |0,x=>Nat.le_refl _
 |n+1,x=>by
  rw [Er];have h1:=Ia x;split
  ·exact Nat.le_trans (Hw n _) h1.1
  ·exact h1.1
end Go.Av
end
section
open Go Go.Proofs
namespace Go.Av
open af
theorem Ns {l:List af} (hl:l.length<=34359738368) (hC:∀i,i<l.length->aq Tryz.prog 44 [.agg (ce (ac l i))] (.agg (ce (ac l i).canon))):
  aq Tryz.prog 81 [.lst 2 (az l)] (.lst 2 (az (l.map canon))):=by
 obtain ⟨A,a0,a1,a2,a3⟩:=oq canon l;rw [<- a3];clear a3;refine pF Tryz.func81 ?_;refine J0 ?_;refine zg3 (zg5 (α:=Nat) (λ i=>⟨[(0, .lst 2 (az l)),(3, .sl 0 i 2 0 i),(4, .int i)], [(0, .rows true i 2 (az (A i)))],1⟩)
  (λ d i=>i+d=l.length) ?_ l.length 0 ?_) ?_ ?_
 ·intro d i hi hrec;have hlen:=a2 i ge;refine J0 ?_;refine zg4 (λ hlt=> ?_) (λ hlt=> ?_)<;>simp at hlt
  ·have hl':i<l.length:=by omega
   repeat first|refine wV λ _=>?_|simp [go_sem,hl',bh hl',hlen]
   refine aP (hC i hl') ?_;refine J1 hlen ?_;refine zg3 (hrec (d - 1) ge (i+1) ge) ?_ gt;simp [go_sem,aj,a1 i hl',iU]
  ·obtain rfl:i=l.length:=by omega
   have hA:=a2 _ (Nat.le_refl _);refine J0 ?_;grind [aI,dO,aC,az]
 ·omega
 ·simp [go_sem,aj,a0]
 ·simp
theorem KV:∀ (n:Nat) (f:af),f.size<=n->n<=17179869184->aq Tryz.prog 44 [bS f] (bS f.canon):=by
 intro n;induction n with
 |zero=>intro f hf;have:=bZ f;omega
 |succ n ih=>
  intro f hf hn;have e1:=nA f;have e2:=nB f;have es:=nP f;have c1:=Ns (l:=f.L) ge λ i hi=>ih (ac f.L i) WC ge;have c2:=Ns (l:=f.R) ge λ i hi=>ih (ac f.R i) WD ge;have s1:=kR (l:=f.L) (g:=canon) λ z _=>iK _ z (Nat.le_refl _);have s2:=kR (l:=f.R) (g:=canon) λ z _=>iK _ z (Nat.le_refl _);have hb:∀x:af,x.size<=17179869184->aq Tryz.prog 82 [.agg [.lst 2 (az x.L), .lst 2 (az x.R)]] (.agg [.lst 2 (az (mP x).1.L), .lst 2 (az (mP x).1.R), .bool (mP x).2]):=λ x hx=>by
   have:=IM x ge;rwa [bS,aH] at this
  have hg:∀x:af,x.size<=17179869184->aq Tryz.prog 83 [.agg [.lst 2 (az x.L), .lst 2 (az x.R)]] (.agg [.lst 2 (az x.neg.L), .lst 2 (az x.neg.R)]):=λ x hx=>by
   have:=P8 17179869184 x hx ge;rwa [bS,bS,aH,aH] at this
  have hP:∀l:List af,aD l<=17179869184->∀z ∈ l,aq Tryz.prog 43 [.agg (ce z)] (.v (.string (iA z))):=λ l hl z hz=>
   mN 17179869184 z (by have:=ki hz;omega) ge
  have hbe:∀l:List af,aD l<=17179869184->aq Tryz.prog 84 [.lst 2 (az l)] (.lst 2 (az (cY (cJ leq l)))):=λ l hl=>
   NI l (by grind [qk]) (hP l hl) λ x hx y hy=>FK 68719476736 x y (by have:=ki hx;have:=ki hy;omega) ge
  have hso:∀l:List af,aD l<=17179869184->aq Tryz.prog 85 [.lst 2 (az l)] (.lst 2 (az (cY l))):=λ l hl=>
   Ja l (by grind [qk]) (hP l hl)
  have hce:=Gs f;obtain ⟨x0,hx0⟩:∃x0:af,x0= .mk (f.L.map canon) (f.R.map canon):=⟨_,rfl⟩
  have hx0s:x0.size<=17179869184:=by grind [size]
  have hloop:Er (aD (f.L.map canon)+aD (f.R.map canon)+1) x0= .mk (CG f).1 (CG f).2:=by rw [hx0,Hv];rfl
  have hd:aD (f.L.map canon)+aD (f.R.map canon)+1=x0.size:=by grind [size]
  rw [hd] at hloop;have l0:f.L.map canon=x0.L:=by rw [hx0];rfl
  have l1:f.R.map canon=x0.R:=by rw [hx0];rfl
  rw [l0] at c1;rw [l1] at c2;obtain ⟨R,hR⟩:∃R,R=af.mk (CG f).1 (CG f).2:=⟨_,rfl⟩
  rw [<- hR] at hloop;have hRs:R.size<=17179869184:=by grind [Hw]
  have r1:(CG f).1=R.L:=by rw [hR];rfl
  have r2:(CG f).2=R.R:=by rw [hR];rfl
  rw [r1,r2,<- zcS] at hce;rw [hce,bS,bS,aH f,aH];show aq _ _ _ (.agg [.lst 2 (az (cY (cJ leq R.L))), .lst 2 (az (cY ((cY (cJ leq (R.R.map neg))).map neg)))]);clear hce hx0 l0 l1 hR r1 r2 hd s1 s2 es ih;refine pF Tryz.func44 ?_;refine J0 ?_;refine dP c1 ?_;refine J0 ?_;refine dP c2 ?_;refine J0 ?_;refine zg3 (zg5 (α:=af×Bool) (λ a=>⟨[(2, .ref 1 0 2 0 0),(3, .ref 10 0 3 0 0)], [(1, .rows true 0 2 [[AV.nils,AV.nils]]),(10, .rows true 0 3 [[.lst 2 (az a.1.L), .lst 2 (az a.1.R), .bool a.2]])],11⟩)
   (λ d a=>a.1.size<=17179869184∧(a.2=true->a.1.size<=d∧Er d a.1=R)∧(a.2=false->a.1=R)) ?_ x0.size (x0,true) ?_) ?_ ?_
  rotate_left
  ·grind
  ·simp [go_sem,aj]
  ·simp
  rintro d ⟨x,b⟩ ⟨i1,i2,i3⟩ hrec;simp only at i1 i2 i3;have z1:=Df x;have z2:=Df (mP x).1.neg;have z3:=Co (mP x).1;have z4:=Co (mP (mP x).1.neg).1;have z5:=Ia x;refine J0 ?_;refine zg4 (λ hb1=> ?_) (λ hb1=> ?_)
  ·obtain ⟨j1,j2⟩:=i2 hb1;obtain ⟨d,rfl⟩:∃d',d=d'+1:=⟨d - 1,WV⟩
   rw [Er] at j2;refine J0 ?_;refine aP (hb x i1) ?_;refine J0 ?_;refine zg4 (λ hb2=> ?_) (λ hb2=> ?_)
   ·rw [Bool.not_eq_true'] at hb2;have es:tS x=((mP (mP x).1.neg).1.neg,(mP (mP x).1.neg).2):=by grind [tS]
    refine J0 ?_;refine aP (hg (mP x).1 ge) ?_;refine J0 ?_;refine aP (hb (mP x).1.neg ge) ?_;refine J0 ?_;refine aP (hg (mP (mP x).1.neg).1 ge) ?_;refine J0 ?_;refine zg3 (hrec d ge (tS x) ⟨ge,λ h=> ?_,λ h=> ?_⟩) ?_ gt
    ·grind
    ·grind
    ·rw [es];simp [go_sem,aj]
   ·rw [Bool.not_eq_false'] at hb2;have es:tS x=mP x:=by grind [tS]
    refine J0 ?_;refine zg3 (hrec d ge (tS x) ⟨ge,λ h=> ?_,λ h=> ?_⟩) ?_ gt
    ·grind
    ·grind
    ·rw [es];simp [go_sem,aj,hb2]
  ·obtain rfl:=i3 hb1;have t1:=nP x;have t2:=nP x.neg;have t3:=zZ x;have t4:=Co x;have t5:=DP x.R;have sL:=Bb leq x.neg.L;have sB:=Bc (cJ leq x.neg.L);have e0:=zY x;have m:aq Tryz.prog 83 [.agg [.lst 2 (az (cY (cJ leq x.neg.L))), .lst 2 []]] (.agg [.lst 2 (az []), .lst 2 (az ((cY (cJ leq x.neg.L)).map neg))]):=by
    have:=hg (.mk (cY (cJ leq x.neg.L)) []) (by rw [size,aD];omega);have f1:(af.mk (cY (cJ leq x.neg.L)) []).neg.L= []:=zY _;have f2:(af.mk (cY (cJ leq x.neg.L)) []).neg.R=(cY (cJ leq x.neg.L)).map neg:=zZ _;rw [f1,f2] at this;exact this
   have sN:=DP (cY (cJ leq x.neg.L));rw [<- e0];refine J0 ?_;refine aP (hg x i1) ?_;refine J0 ?_;refine aP (hbe x.neg.L ge) ?_;refine J0 ?_;refine aP (hbe x.L ge) ?_;refine J0 ?_;refine zha [] m ?_ no ?_
   ·(first|done|exact zJ)
   refine J0 ?_;refine aP (hso ((cY (cJ leq x.neg.L)).map neg) ge) ?_;exact K0
end Go.Av
end
section
open Go Go.Proofs
namespace Go.Av
open af
theorem T6:∀ (n:Nat) (a b:af),a.size+b.size<=n->n<=68719476736->aq Tryz.prog 93 [bS a,bS b] (bS (add a b)):=by
 intro n;induction n with
 |zero=>intro a b hf;have:=bZ a;omega
 |succ n ih=>
  intro a b hf hn;have e1:=nA a;have e2:=nB a;have e3:=nA b;have e4:=nB b;have iaL:∀i,i<a.L.length->aq Tryz.prog 93 [.agg (ce (ac a.L i)),bS b] (.agg (ce (add (ac a.L i) b))):=λ i hi=>ih _ _ WC ge;have ibL:∀i,i<b.L.length->aq Tryz.prog 93 [bS a, .agg (ce (ac b.L i))] (.agg (ce (add a (ac b.L i)))):=λ i hi=>ih _ _ WC ge;have iaR:∀i,i<a.R.length->aq Tryz.prog 93 [.agg (ce (ac a.R i)),bS b] (.agg (ce (add (ac a.R i) b))):=λ i hi=>ih _ _ WD ge;have ibR:∀i,i<b.R.length->aq Tryz.prog 93 [bS a, .agg (ce (ac b.R i))] (.agg (ce (add a (ac b.R i)))):=λ i hi=>ih _ _ WD ge;have er:bS (add a b)= .agg [.lst 2 (az (a.L.map (λ z=>add z b)++b.L.map λ z=>add a z)), .lst 2 (az (a.R.map (λ z=>add z b)++b.R.map λ z=>add a z))]:=by rw [bS,aH,Lk];rfl
  obtain ⟨A,a0,a1,a2,a3⟩:=oq (λ z=>add z b) a.L;obtain ⟨B,b0,b1,b2,b3⟩:=Ka (A a.L.length) (λ z=>add a z) b.L;obtain ⟨C,c0,c1,c2,c3⟩:=oq (λ z=>add z b) a.R;obtain ⟨D,d0,d1,d2,d3⟩:=Ka (C a.R.length) (λ z=>add a z) b.R;rw [a2 _ (Nat.le_refl _)] at b2;rw [c2 _ (Nat.le_refl _)] at d2;rw [er,<- a3,<- b3,<- c3,<- d3];clear er a3 b3 c3 d3;rw [bS,aH a] at *;rw [bS,aH b] at *;refine pF Tryz.func93 ?_;refine J0 ?_;refine zg3 (zg5 (α:=Nat) (λ i=>⟨[(2, .ref 0 0 2 0 0),(3, .ref 1 0 2 0 0),(4, .ref 2 0 2 0 0),(5, .ref 3 0 2 0 0),(15, .lst 2 (az a.L)),(16, .int a.L.length),(17, .int i)], [(0, .rows true 0 2 [[.lst 2 (az a.L), .lst 2 (az a.R)]]),(1, .rows true 0 2 [[.lst 2 (az b.L), .lst 2 (az b.R)]]),(2, .rows true 0 2 [[AV.nils,AV.nils]]),(3, .rows true 0 2 [[.sl 4 i 2 0 i,AV.nils]]),(4, .rows true i 2 (az (A i)))],5⟩)
   (λ d i=>i+d=a.L.length) ?_ a.L.length 0 ?_) ?_ ?_
  ·intro d i hi hrec;have hlen:=a2 i ge;refine J0 ?_;refine zg4 (λ hl=> ?_) (λ hl=> ?_)<;>simp at hl
   ·have hl':i<a.L.length:=by omega
    repeat first|refine wV λ _=>?_|simp [go_sem,hl',bh hl',hlen]
    refine dP (iaL i hl') ?_;refine J1 hlen ?_;refine zg3 (hrec (d - 1) ge (i+1) ge) ?_ gt;simp [go_sem,aj,a1 i hl',iU,Nat.add_assoc]
   ·obtain rfl:i=a.L.length:=by omega
    refine J0 ?_;refine zg3 (zg5 (α:=Nat) (λ i=>⟨[(2, .ref 0 0 2 0 0),(3, .ref 1 0 2 0 0),(4, .ref 2 0 2 0 0),(5, .ref 3 0 2 0 0),(31, .lst 2 (az b.L)),(32, .int b.L.length),(33, .int i)], [(0, .rows true 0 2 [[.lst 2 (az a.L), .lst 2 (az a.R)]]),(1, .rows true 0 2 [[.lst 2 (az b.L), .lst 2 (az b.R)]]),(2, .rows true 0 2 [[AV.nils,AV.nils]]),(3, .rows true 0 2 [[.sl 4 (a.L.length+i) 2 0 (a.L.length+i),AV.nils]]),(4, .rows true (a.L.length+i) 2 (az (B i)))],5⟩)
     (λ d i=>i+d=b.L.length) ?_ b.L.length 0 ?_) ?_ ?_
    ·intro d i hi hrec;have hlen:=b2 i ge;refine J0 ?_;refine zg4 (λ hl=> ?_) (λ hl=> ?_)<;>simp at hl
     ·have hl':i<b.L.length:=by omega
      repeat first|refine wV λ _=>?_|simp [go_sem,hl',bh hl',hlen]
      refine dP (ibL i hl') ?_;refine J1 hlen ?_;refine zg3 (hrec (d - 1) ge (i+1) ge) ?_ gt;simp [go_sem,aj,b1 i hl',iU,Nat.add_assoc]
     ·obtain rfl:i=b.L.length:=by omega
      refine J0 ?_;refine zg3 (zg5 (α:=Nat) (λ i=>⟨[(2, .ref 0 0 2 0 0),(3, .ref 1 0 2 0 0),(4, .ref 2 0 2 0 0),(5, .ref 3 0 2 0 0),(47, .lst 2 (az a.R)),(48, .int a.R.length),(49, .int i)], [(0, .rows true 0 2 [[.lst 2 (az a.L), .lst 2 (az a.R)]]),(1, .rows true 0 2 [[.lst 2 (az b.L), .lst 2 (az b.R)]]),(2, .rows true 0 2 [[AV.nils,AV.nils]]),(3, .rows true 0 2 [[.sl 4 (a.L.length+b.L.length) 2 0 (a.L.length+b.L.length), .sl 5 i 2 0 i]]),(4, .rows true (a.L.length+b.L.length) 2 (az (B b.L.length))),(5, .rows true i 2 (az (C i)))],6⟩)
       (λ d i=>i+d=a.R.length) ?_ a.R.length 0 ?_) ?_ ?_
      ·intro d i hi hrec;have hlen:=c2 i ge;refine J0 ?_;refine zg4 (λ hl=> ?_) (λ hl=> ?_)<;>simp at hl
       ·have hl':i<a.R.length:=by omega
        repeat first|refine wV λ _=>?_|simp [go_sem,hl',bh hl',hlen]
        refine dP (iaR i hl') ?_;refine J1 hlen ?_;refine zg3 (hrec (d - 1) ge (i+1) ge) ?_ gt;simp [go_sem,aj,c1 i hl',iU,Nat.add_assoc]
       ·obtain rfl:i=a.R.length:=by omega
        refine J0 ?_;refine zg3 (zg5 (α:=Nat) (λ i=>⟨[(2, .ref 0 0 2 0 0),(4, .ref 2 0 2 0 0),(5, .ref 3 0 2 0 0),(63, .lst 2 (az b.R)),(64, .int b.R.length),(65, .int i)], [(0, .rows true 0 2 [[.lst 2 (az a.L), .lst 2 (az a.R)]]),(2, .rows true 0 2 [[AV.nils,AV.nils]]),(3, .rows true 0 2 [[.sl 4 (a.L.length+b.L.length) 2 0 (a.L.length+b.L.length), .sl 5 (a.R.length+i) 2 0 (a.R.length+i)]]),(4, .rows true (a.L.length+b.L.length) 2 (az (B b.L.length))),(5, .rows true (a.R.length+i) 2 (az (D i)))],6⟩)
         (λ d i=>i+d=b.R.length) ?_ b.R.length 0 ?_) ?_ ?_
        ·intro d i hi hrec;have hlen:=d2 i ge;refine J0 ?_;refine zg4 (λ hl=> ?_) (λ hl=> ?_)<;>simp at hl
         ·have hl':i<b.R.length:=by omega
          repeat first|refine wV λ _=>?_|simp [go_sem,hl',bh hl',hlen]
          refine dP (ibR i hl') ?_;refine J1 hlen ?_;refine zg3 (hrec (d - 1) ge (i+1) ge) ?_ gt;simp [go_sem,aj,d1 i hl',iU,Nat.add_assoc]
         ·obtain rfl:i=b.R.length:=by omega
          have hB:=b2 _ (Nat.le_refl _);have hD:=d2 _ (Nat.le_refl _);refine J0 ?_;refine ⟨aI rfl (by simp [iD,hB]) Ws ?_,aI rfl (by simp [iD,hD]) Ws ?_⟩;all_goals simp_all [List.take_of_length_le,iD]
        ·omega
        ·simp [go_sem,aj,d0]
        ·simp
      ·omega
      ·simp [go_sem,aj,c0]
      ·simp
    ·omega
    ·simp [go_sem,aj,b0]
    ·simp
  ·omega
  ·simp [go_sem,aj,a0]
  ·simp
end Go.Av
end
