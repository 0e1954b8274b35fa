/- Texts of ours, part 6: our library and contracts of functions. -/
import Derived.Test.YtgdfnfffibhkjaaGreatDoorB05
set_option linter.unusedSimpArgs false
set_option linter.unusedVariables false
set_option maxRecDepth 100000
set_option maxHeartbeats 40000000
set_option linter.unusedSectionVars false
section
open Go Go.Proofs
namespace Go.Av
theorem zgP {α:Type} [Inhabited α] (x:α) (l:List α):ac (x::l) 0=x:=rfl
theorem Cs {α:Type} [Inhabited α] (l:List α) (i j:Nat) (v:α):ac (l.set i v) j=if i=j∧j<l.length then v else ac l j:=by
 grind [ac]
structure oO (g:ae) (l:List Int):Prop where
 len:l.length=g.kinds.length
 v:∀i,i<l.length->0<=ac l i∧ac l i<=8∧(0<ac l i->(ac g.kinds i).keep=true)
theorem AO:∀ (l:List Int) (ks:List kT),l.length=ks.length->(ip l ks=true↔∀i,i<l.length->0<=ac l i∧ac l i<=8∧(0<ac l i->(ac ks i).keep=true))
 | [], [], _=>by simp [ip]
 |x::l,k::ks,h=>by
  have ih:=AO l ks Xf;rw [ip];simp only [Bool.and_eq_true,decide_eq_true_eq,Bool.or_eq_true,Bool.not_eq_true'];rw [ih];constructor
  ·rintro ⟨⟨⟨h1,h2⟩,h3⟩,h4⟩ i hi;cases i with
   |zero=>
    refine ⟨h1,h2,λ h=> ?_⟩;rcases h3 with h3|h3
    ·rw [zgP] at h;simp at h3;omega
    ·exact h3
   |succ i=>exact h4 i Wv
  ·intro h;have h0:=h 0 gt;refine ⟨⟨⟨h0.1,h0.2.1⟩, ?_⟩,λ i hi=>h (i+1) Wv⟩;by_cases hx:0<x
   ·exact .inr (h0.2.2 hx)
   ·exact .inl (by simpa using hx)
variable {l names of:List Int}
theorem G8 {g:ae}:nV g l=true↔oO g l:=by
 unfold nV;rw [Bool.and_eq_true,decide_eq_true_eq];exact ⟨λ ⟨a,b⟩=>⟨a,(AO _ _ a).1 b⟩,λ ⟨a,b⟩=>⟨a,(AO _ _ a).2 b⟩⟩
structure bw (g:ae) (p:aa):Prop where
 al:(p.at_.length:Int)=g.cells
 av:∀c ∈ p.at_,0<=c∧c<=2 * g.kinds.length
 h0:oO g p.h0
 h1:oO g p.h1
 r0:0<=p.rights
 r1:p.rights<2 ^ g.rights.toNat
 s:p.side=0∨p.side=1
theorem zq {g:ae}{p:aa}:CC g p=true↔bw g p:=by
 rw [zs,G8,G8];exact ⟨λ ⟨a,b,c,d,e,f,g⟩=>⟨a,b,c,d,e,f,g⟩,λ ⟨a,b,c,d,e,f,g⟩=>⟨a,b,c,d,e,f,g⟩⟩
theorem bw.fits {g:ae} (hg:bN g){p:aa} (h:bw g p):bH p:=by
 have:=hg.c9;have:=hg.k6;have a:=h.al;have b:=h.h0.len;have c:=h.h1.len;grind [bH,kn]
structure jx (g:ae) (s:dM):Prop where
 p:bw g s.p
 c0:0<=s.cursor
 c1:s.cursor<g.cells
 k:0<=s.kind∧s.kind<g.kinds.length
variable {c cell d dirs kinds r rights:Int}
theorem cT {K:Nat} (h0:0<=c) (h1:c<=2 * K) (hK:K<=6):
  (c=0∧aA c=(-1, -1))∨(c≠0∧0<=(aA c).1∧(aA c).1<K∧((aA c).2=0∨(aA c).2=1)∧c=1+2 * (aA c).1+(aA c).2):=by
 grind [aA]
theorem JA {k s:Int}{K:Nat} (hk:0<=k∧k<K) (hK:K<=6) (hs:s=0∨s=1):gQ k s=1+2 * k+s:=by
 grind [gQ]
theorem Ln:∀ (r:Fin 16) (m:Fin 4),0<=mO .i64 (r.val:Int) (2 ^ m.val)∧mO .i64 (r.val:Int) (2 ^ m.val)<=(r.val:Int):=Wm
theorem Uv {m:Nat} (h0:0<=r) (h1:r<16) (hm:m<4):0<=mO .i64 r (2 ^ m)∧mO .i64 r (2 ^ m)<=r:=by
 have:=Ln ⟨r.toNat,ge⟩ ⟨m,hm⟩;grind
theorem CE  (h0:0<=r) (h4:r<=4):(1:Int)<=2 ^ r.toNat∧(2:Int) ^ r.toNat<=16:=by
 rcases (show r.toNat=0∨r.toNat=1∨r.toNat=2∨r.toNat=3∨r.toNat=4 by omega) with h|h|h|h|h<;>rw [h]<;>decide
theorem Hr {b:cg} (hb:c8 b){side d c:Int}:∀ (f:Nat) (x:Int) (seen:List Int),x<b.cells->(∀y ∈ seen,0<=y∧y<b.cells)->∀y ∈ nW b side d c f x seen,0<=y∧y<b.cells
 |0,x,seen, _,h,y,hy=>h y hy
 |f+1,x,seen,hx,h,y,hy=>by
  rw [nW] at hy;split at hy
  ·refine Hr hb f _ _ (tU hb _ _ _) (λ z hz=> ?_) y hy;grind
  grind
theorem sC {b:cg} (hb:c8 b){side:Int}:∀y ∈ uy b side d c,0<=y∧y<b.cells:=
 Hr hb _ _ _ (tU hb _ _ _) gt
theorem Hq {b:cg}{side d c:Int}:∀ (f:Nat) (x:Int) (seen:List Int),(nW b side d c f x seen).length<=seen.length+f
 |0,x,seen=>by simp [nW]
 |f+1,x,seen=>by
  rw [nW];split
  ·have:=Hq (b:=b) (side:=side) (d:=d) (c:=c) f (sb b side d x) (seen++ [x]);simp at this;omega
  ·omega
theorem Dt {b:cg}{side:Int}:(uy b side d c).length<=b.cells.toNat+1:=by
 grind [Hq,uy]
theorem bw.setAt {g:ae}{p:aa} (h:bw g p) (i:Nat){v:Int} (hv:0<=v∧v<=2 * g.kinds.length):bw g { p with at_:=p.at_.set i v}:=
 ⟨by simpa using h.al,λ c hc=>by rcases List.mem_or_eq_of_mem_set hc with hc|rfl;exact h.av c hc;exact hv,h.h0,h.h1,h.r0,h.r1,h.s⟩
theorem bw.hand {g:ae}{p:aa} (h:bw g p) (side:Int):oO g (p.hand side):=by unfold aa.hand;split;exact h.h0;exact h.h1
theorem bw.withHand {g:ae}{p:aa} (h:bw g p) (side:Int){l:List Int} (hl:oO g l):bw g (p.withHand side l):=by
 unfold aa.withHand;split
 ·exact ⟨h.al,h.av,hl,h.h1,h.r0,h.r1,h.s⟩
 ·exact ⟨h.al,h.av,h.h0,hl,h.r0,h.r1,h.s⟩
theorem oO.set {g:ae}{l:List Int} (h:oO g l) (i:Nat){v:Int} (hv:0<=v∧v<=8) (hk:0<v->(ac g.kinds i).keep=true):oO g (l.set i v):=by
 refine ⟨by simpa using h.len,λ j hj=> ?_⟩;have hj':j<l.length:=pi;rw [Cs];split
 ·grind
 ·exact h.v j hj'
variable {i n:Nat}
theorem bw.at {g:ae}{p:aa} (h:bw g p) (hi:(i:Int)<g.cells):0<=ac p.at_ i∧ac p.at_ i<=2 * g.kinds.length:=
 h.av _ (am (by have:=h.al;omega))
theorem bw.side {g:ae}{p:aa} (h:bw g p){s:Int} (hs:s=0∨s=1):bw g { p with side:=s}:=⟨h.al,h.av,h.h0,h.h1,h.r0,h.r1,hs⟩
theorem Je (p:aa) (s:Int) (l:List Int):(p.withHand s l).side=p.side:=by grind [aa.withHand]
theorem bw.clr {g:ae}{p:aa} (h:bw g p) (c:Int):bw g (clr p c):=h.setAt _ ge
theorem H8 {g:ae}{s:dM} (h:jx g s):∀ {l:List Int},(∀y ∈ l,0<=y∧y<g.cells)->∀t ∈ dQ s l,jx g t∧t.p.side=s.p.side
 | [], _,t,ht=>by simp [dQ] at ht
 |c::l,hl,t,ht=>by
  rw [dQ,List.mem_cons] at ht;rcases ht with rfl|ht
  ·have:=hl c gt;exact ⟨⟨h.p,this.1,this.2,h.k⟩,rfl⟩
  ·split at ht
   ·exact H8 h (λ y hy=>hl y (List.mem_cons_of_mem _ hy)) t ht
   ·simp at ht
theorem EL {s:dM}:∀ (l:List Int),(dQ s l).length<=l.length
 | []=>by simp [dQ]
 |c::l=>by
  rw [dQ];have:=EL (s:=s) l;split<;>simp<;>omega
variable {x:Int×Int}
theorem rG {g:ae} (hg:bN g){s:dM} (h:jx g s) (hx:jN g.next.length g.kinds.length g.rights x):∀t ∈ di g s x,jx g t∧t.p.side=s.p.side:=by
 intro t ht;have hb:=hg.board;have hcur:(s.cursor.toNat:Int)<g.cells:=by have:=h.c0;have:=h.c1;omega
 have hat:=h.p.at hcur;have only:∀ {u:dM} {b:Bool},t ∈ dF u b->b=true∧t=u:=λ {u b} hu=>by
  grind [dF]
 have hbc:g.board.cells=g.cells:=rfl;unfold di at ht;simp only at ht;split at ht
 ·obtain ⟨h1,rfl⟩:=only ht;have:=tU hb s.p.side x.2 s.cursor;exact ⟨⟨h.p,pi,pi,h.k⟩,rfl⟩
 split at ht
 ·exact H8 h (λ y hy=>sC hb y hy) t ht
 split at ht
 ·grind
 split at ht
 ·grind
 split at ht
 ·grind
 split at ht
 ·unfold wi at ht;simp only at ht;split at ht
  ·simp at ht
  ·split at ht
   ·rename_i hkeep;split at ht
    ·simp at ht
    ·simp only [List.mem_singleton] at ht;subst ht;refine ⟨⟨(h.p.clr _).withHand _ ((h.p.hand _).set _ ?_ (λ _=>hkeep)),h.c0,h.c1,h.k⟩,Je _ _ _⟩;have hh:=h.p.hand s.p.side;rcases cT hat.1 hat.2 hg.k6 with ⟨e,e2⟩|⟨e,e2,e3, _⟩
     ·grind
     ·have:=hh.v (aA (ac s.p.at_ s.cursor.toNat)).1.toNat (by rw [hh.len];omega);omega
   ·simp only [List.mem_singleton] at ht;subst ht;exact ⟨⟨h.p.clr _,h.c0,h.c1,h.k⟩,rfl⟩
 split at ht
 ·unfold v7 at ht;simp only at ht;split at ht
  ·simp at ht
  ·simp only [List.mem_singleton] at ht;subst ht;exact ⟨⟨(h.p.setAt _ hat).setAt _ ge,h.c0,h.c1,h.k⟩,rfl⟩
 split at ht
 ·rename_i e;simp only [List.mem_singleton] at ht;subst ht;exact ⟨⟨h.p,h.c0,h.c1,hx.kind e⟩,rfl⟩
 split at ht
 ·grind
 split at ht
 ·rename_i e;simp only [List.mem_singleton] at ht;subst ht;have hr:=hx.right (.inr e);have hp:=CE hg.r0 hg.r4;have a:=h.p.r0;have b:=h.p.r1;have c:=hg.r4;obtain ⟨k1,k2⟩:=Uv (r:=s.p.rights) (m:=x.2.toNat) a ge ge;exact ⟨⟨⟨h.p.al,h.p.av,h.p.h0,h.p.h1,k1,pi,h.p.s⟩,h.c0,h.c1,h.k⟩,rfl⟩
 grind
theorem DQ {g:ae} (hg:bN g) (s:dM) (x:Int×Int):(di g s x).length<=10:=by
 have c9:=hg.c9;have on:∀ (u:dM) (b:Bool),(dF u b).length<=10:=λ u b=>by grind [dF]
 unfold di;simp only;split;all_goals grind [EL,Dt,tQ,wi,v7,ae.board]
structure zaF (p:List (Int×Int)):Prop where
 len:p.length<=6
 st:∀x ∈ p,1<=x.1∧x.1<=10∧0<=x.2∧(x.1=3∨x.1=4∨x.1=5∨x.1=6->x.2=0)
 take:cc p 6<=2
 push:cc p 7<=1
 become:cc p 8<=1
theorem zeg {e k:Int} (hd:0<=d) (he:0<=e) (hk:0<=k) (hr:0<=r) (i:Nat):zaF (ac (Fa d e k r) i):=by
 have h4:=Int.tmod_nonneg 8 (show 0<=d+4 by omega);rcases Nat.lt_or_ge i 16 with h|h
 ·have:∀p ∈ Fa d e k r,zaF p:=by
   intro p hp;simp only [Fa,List.mem_cons,List.not_mem_nil,or_false] at hp;rcases hp with rfl|rfl|rfl|rfl|rfl|rfl|rfl|rfl|rfl|rfl|rfl|rfl|rfl|rfl|rfl|rfl<;>
    exact ⟨gt,by simp<;>omega,Xh,Xh,Xh⟩
  exact this _ (am h)
 ·have e:ac (Fa d e k r) i= []:=by
   unfold ac;rw [List.getD_eq_getElem?_getD,List.getElem?_eq_none (by exact h)];rfl
  rw [e];exact ⟨gt,gt,Xh,Xh,Xh⟩
theorem Q4 {y:Int×Int} (h:gp dirs kinds rights x=some y):y.1=x.1:=by
 grind [gp]
theorem zh {dirs kinds rights:Int} (op:Int):∀p:List (Int×Int),cc (p.filterMap (gp dirs kinds rights)) op<=cc p op
 | []=>pi
 |x::p=>by
  have ih:=zh (dirs:=dirs) (kinds:=kinds) (rights:=rights) op p;unfold cc at *;rw [List.filterMap_cons];cases hf:gp dirs kinds rights x with
  |none=>simp only [List.countP_cons];omega
  |some y=>
   have:=Q4 hf;simp only [List.countP_cons,this];omega
variable {p:List (Int×Int)}
theorem zd5  (hd:1<=dirs) (hk:1<=kinds) (hr:0<=rights) (hp:zaF p):uS dirs kinds rights (Vi dirs kinds rights p):=by
 have h0:uS dirs kinds rights [(3,0)]:=by
  refine ⟨gt,gt,λ x hx=> ?_,Xh,Xh,Xh⟩;simp only [List.mem_singleton] at hx;subst hx;exact ⟨gt,gt,gt,gt,gt⟩
 unfold Vi;split
 ·exact h0
 ·rename_i hne;have hl:(p.filterMap (gp dirs kinds rights)).length<=p.length:=List.length_filterMap_le _ _;have hpos:=List.length_pos_iff.2 hne;refine ⟨ge,by have:=hp.len;omega,λ y hy=> ?_,Nat.le_trans (zh 6 p) hp.take,Nat.le_trans (zh 7 p) hp.push,Nat.le_trans (zh 8 p) hp.become⟩;obtain ⟨x,hx,hf⟩:=List.mem_filterMap.1 hy;obtain ⟨a,b,c,d⟩:=hp.st x hx;have m1:=Int.tmod_nonneg dirs c;have m2:=Int.tmod_lt_of_pos x.2 (show 0<dirs by omega);have m3:=Int.tmod_nonneg kinds c;have m4:=Int.tmod_lt_of_pos x.2 (show 0<kinds by omega);have m5:=Int.tmod_nonneg rights c;unfold gp at hf;split at hf
  ·simp only [Option.some.injEq] at hf;subst hf;exact ⟨ge,ge,ge,ge,ge⟩
  ·split at hf
   ·simp only [Option.some.injEq] at hf;subst hf;exact ⟨ge,ge,ge,ge,ge⟩
   ·split at hf
    ·split at hf
     ·cases hf
     ·have m6:=Int.tmod_lt_of_pos x.2 (show 0<rights by omega);simp only [Option.some.injEq] at hf;subst hf;exact ⟨ge,ge,ge,ge,ge⟩
    ·simp only [Option.some.injEq] at hf;subst hf;exact ⟨ge,ge,ge,ge,ge⟩
theorem zcp {n:Int} (hn:U8 n) (hd:1<=dirs) (hk:1<=kinds) (hr:0<=rights):uS dirs kinds rights (yu n dirs kinds rights):=by
 grind [zd5,zeg,yu,U8]
theorem RI (w h cut:Int) (d:Nat) (hd:d<(pO w h cut).turn.length):ac (pO w h cut).turn (ac (pO w h cut).turn d).toNat=d:=by
 have ht:(pO w h cut).turn=jo 8:=by unfold pO;split<;>rfl
 grind [jo,ac]
theorem Hz {x:rM} (hx:Jj x):bN (jZ x):=by
 have hb:c8 x.board:=BD hx.w.1 hx.h.1 x.cut;have hc:=Et hx.w.1 hx.h.1 x.cut;have hd:x.board.next.length=8:=Hy x.w x.h x.cut;have hK:mj x=1∨mj x=2:=by grind [mj]
 have hkl:(jZ x).kinds.length=mj x:=by simp [jZ]
 have r0:0<=x.rights:=Int.tmod_nonneg 3 hx.f0.1;have r1:x.rights<3:=Int.tmod_lt_of_pos x.f0 (show (0:Int)<3 by decide);have t:∀n:Int,U8 n->0<=(n.tdiv 4).tmod 3∧(n.tdiv 4).tmod 3<3:=λ n hn=>by
  grind [U8]
 have t3:=t _ hx.f3;have t4:=t _ hx.f4;have hcl:x.board.cells=(jZ x).cells:=rfl;have hc':1<=x.board.cells∧x.board.cells<=9:=hc;refine ⟨hb,hc'.1,hc'.2,by grind [jZ],by grind [jZ],RI x.w x.h x.cut,ge,ge,λ k hk=> ?_,λ k hk p hp=> ?_,r0, ?_,λ c hcm=> ?_, ?_, ?_, ?_⟩
 ·obtain ⟨i, _,rfl⟩:=List.mem_map.1 hk;simp only [rR,List.length_map,List.length_take];omega
 ·obtain ⟨i, _,rfl⟩:=List.mem_map.1 hk;obtain ⟨n,hn,rfl⟩:=List.mem_map.1 hp;have hn':=List.mem_of_mem_take hn;have hu:U8 n:=by
   unfold rM.ks at hn';split at hn'
   ·exact hx.k0 n hn'
   ·exact hx.k1 n hn'
  grind [zcp,jZ]
 ·grind [jZ]
 ·obtain ⟨c0,h0,rfl⟩:=List.mem_map.1 hcm;obtain ⟨u0,u1,u2⟩:=hx.c _ (List.mem_of_mem_take h0);have a0:=Int.tmod_nonneg 3 u0.1;have a1:=Int.tmod_lt_of_pos c0.1 (show (0:Int)<3 by decide);have b0:=Int.tmod_nonneg (mj x:Int) u1.1;have b1:=Int.tmod_lt_of_pos c0.2.1 (show (0:Int)<mj x by omega);have d0:=Int.tmod_nonneg x.board.cells u2.1;have d1:=Int.tmod_lt_of_pos c0.2.2 (show (0:Int)<x.board.cells by omega);have e0:=Int.tmod_nonneg 3 u2.1;have e1:=Int.tmod_lt_of_pos c0.2.2 (show (0:Int)<3 by decide);have t0:=t _ u0;refine ⟨?_, ?_, ?_, ?_, ?_⟩<;>simp only [fC];all_goals omega
 ·show ((x.c.take 3).map _).length<=6;simp;omega
 ·show 1<=(if x.f3.tmod 4=3 then 1+(x.f3.tdiv 4).tmod 3 else 3)∧(if x.f3.tmod 4=3 then 1+(x.f3.tdiv 4).tmod 3 else 3)<=3;split<;>omega
 ·show 1<=(if x.f4.tmod 4=3 then 1+(x.f4.tdiv 4).tmod 3 else 2)∧(if x.f4.tmod 4=3 then 1+(x.f4.tdiv 4).tmod 3 else 2)<=3;split<;>omega
theorem HB {g:ae} (hg:bN g){x:uT} (hx:Ap x):bw g (qJ g x):=by
 have c1:=hg.c1;have k1:=hg.k1;have hat:∀n,n<=6->∀c ∈ pm g x n,0<=c∧c<=2 * g.kinds.length:=by
  intro n;induction n with
  |zero=>grind [pm]
  |succ n ih=>
   intro hn c hc;rw [yt] at hc;unfold Dd at hc;split at hc
   ·rcases List.mem_or_eq_of_mem_set hc with hc|rfl
    ·grind
    ·have hkv:U8 (ac x.kind n):=hx.kv _ (am (by rw [hx.k6];omega));have a:=Int.tmod_nonneg (g.kinds.length:Int) hkv.1;have b:=Int.tmod_lt_of_pos (ac x.kind n) (show (0:Int)<g.kinds.length by omega);grind
   grind
 have hh:∀s,s<2->oO g (ow g x s (min g.kinds.length 2)):=by
  intro s hs;refine ⟨qh _ _ _ _,λ i hi=> ?_⟩;have e:ac (ow g x s (min g.kinds.length 2)) i=if i<min g.kinds.length 2 then G9 g x s i else 0:=by
   grind [ow,ac]
  rw [e];split
  ·have hv:U8 (ac x.hand (2 * s+i)):=hx.hv _ (am (by rw [hx.h4];omega));grind [G9,U8]
  omega
 have hp:=CE hg.r0 hg.r4;refine ⟨?_,hat 6 (Nat.le_refl _),hh 0 ge,hh 1 ge,Int.tmod_nonneg _ hx.r.1,Int.tmod_lt_of_pos _ ge, ?_⟩
 ·grind [AW,qJ]
 ·have a:=Int.tmod_nonneg 2 hx.s.1;grind [qJ]
abbrev eu:=Int×Int×Int
structure aT where
 acts:List eu
 to:Int
 deriving DecidableEq
instance:Inhabited aT:=⟨⟨[],0⟩⟩
def lX (a:eu):List AV:= [.int a.1, .int a.2.1, .int a.2.2]
def r7 (l:List eu):AV:= .lst 3 (l.map lX)
def dt (p:aT):List AV:= [r7 p.acts, .int p.to]
def kW (l:List aT):AV:= .lst 2 (l.map dt)
def nq (l:List (List aT)):AV:= .lst 1 (l.map λ x=> [kW x])
def dd (l:List (List (List aT))):AV:= .lst 1 (l.map λ x=> [nq x])
abbrev mY:=List (List (List aT))×List (List (List aT))
def wy (c:mY):List AV:= [dd c.1,dd c.2]
attribute [go_sem] lX r7 dt kW nq dd wy
theorem zeY {l:List eu}:(∀r ∈ l.map lX,∀c ∈ r,aN n c)=True:=by
 refine eq_true ?_;intro r hr c hc;obtain ⟨x, _,rfl⟩:=List.mem_map.1 hr;revert c;simp [go_sem]
theorem zbd {l:List eu}:aN n (.lst 3 (l.map lX))=True:=by rw [jd,zeY]
theorem zbh {l:List aT}:(∀r ∈ l.map dt,∀c ∈ r,aN n c)=True:=by
 refine eq_true ?_;intro r hr c hc;obtain ⟨x, _,rfl⟩:=List.mem_map.1 hr;simp only [dt,r7,List.mem_cons,List.not_mem_nil,or_false] at hc;rcases hc with rfl|rfl
 ·grind [zbd]
 ·exact .v _
theorem zb {l:List aT}:aN n (.lst 2 (l.map dt))=True:=by rw [jd,zbh]
theorem zbf {l:List (List aT)}:(∀r ∈ l.map (λ x=> [AV.lst 2 (x.map dt)]),∀c ∈ r,aN n c)=True:=by
 grind [zb]
theorem S4 {l:List (List aT)}:aN n (.lst 1 (l.map (λ x=> [AV.lst 2 (x.map dt)])))=True:=by rw [jd,zbf]
theorem zbi {l:List (List (List aT))}:(∀r ∈ l.map (λ x=> [AV.lst 1 (x.map (λ x=> [AV.lst 2 (x.map dt)]))]),∀c ∈ r,aN n c)=True:=by
 grind [S4]
theorem zdM {l:List (List (List aT))}:aN n (.lst 1 (l.map (λ x=> [AV.lst 1 (x.map (λ x=> [AV.lst 2 (x.map dt)]))])))=True:=by rw [jd,zbi]
attribute [go_sem high] zbd zb S4 zdM
attribute [go_sem ↓] zeY zbh zbf zbi
def sD (p:aT) (to:Int) (more:List eu):aT:=⟨p.acts++more,to⟩
def eQ (p:aT):List Int->List eu->List aT
 | [], _=> []
 |c::l,passed=>sD p c passed::eQ p l (passed++ [(3,c,0)])
def oL (b:cg) (side:Int) (p:aT) (x:Int×Int):List aT:=
 if x.1=1∨x.1=7 then
  if sb b side x.2 p.to<0 then [] else if x.1=1 then [sD p (sb b side x.2 p.to) []] else [sD p p.to [(7,p.to,sb b side x.2 p.to)]]
 else if x.1=2 then eQ p (uy b side x.2 p.to) []
 else if x.1=8∨x.1=9∨x.1=10 then [sD p p.to [(x.1,x.2,0)]]
 else [sD p p.to [(x.1,p.to,0)]]
def rE (b:cg) (side:Int) (now:List aT) (x:Int×Int):List aT:=now.flatMap λ w=>oL b side w x
def gF (b:cg) (side:Int) (prog:List (Int×Int)) (cell:Int):List aT:=prog.foldl (rE b side) [⟨[],cell⟩]
def nz (b:cg) (side:Int) (progs:List (List (Int×Int))) (cell:Int):List aT:=progs.flatMap λ p=>gF b side p cell
def lD (b:cg) (side:Int) (progs:List (List (Int×Int))):List (List aT):=(List.range b.cells.toNat).map λ (c:Nat)=>nz b side progs c
def nJ (g:ae) (side:Int):List (List (List aT)):=g.kinds.map λ k=>lD g.board side k.progs
def vp (g:ae):mY:=(nJ g 0,nJ g 1)
theorem Ci {b:cg}{side d c:Int}:∀ (f:Nat) (x:Int) (seen:List Int),seen.Nodup->(nW b side d c f x seen).Nodup
 |0,x,seen,h=>by grind [nW]
 |f+1,x,seen,h=>by
  rw [nW];split
  ·rename_i hc;refine Ci f _ _ (List.nodup_append.2 ⟨h,gt, ?_⟩);intro y hy z hz;simp at hz;subst hz;rintro rfl;exact hc.2.2 hy
  ·exact h
theorem Hp {b:cg} (hb:c8 b){side:Int}:(uy b side d c).length<=b.cells.toNat:=
 vY _ _ (Ci _ _ _ gt) (λ y hy=>by have:=sC hb y hy;omega)
theorem Bd (p:aT):∀ (l:List Int) (passed:List eu),(eQ p l passed).length=l.length
 | [], _=>rfl
 |c::l,passed=>by simp [eQ,Bd p l]
theorem Be {p w:aT}:∀ {l:List Int}{passed:List eu},w ∈ eQ p l passed->∃more,w.acts=p.acts++passed++more∧more.length<=l.length∧w.to ∈ l∧∀a ∈ more,∃c ∈ l,a=(3,c,0)
 | [], _,h=>by simp [eQ] at h
 |c::l,passed,h=>by
  simp only [eQ,List.mem_cons] at h;rcases h with rfl|h
  ·exact ⟨[],by simp [sD],gt,by simp [sD],gt⟩
  ·obtain ⟨more,h1,h2,h3,h4⟩:=Be h;refine ⟨(3,c,0)::more,by rw [h1];simp,WJ,List.mem_cons_of_mem _ h3,λ a ha=> ?_⟩;rcases List.mem_cons.1 ha with rfl|ha
   ·exact ⟨c,gt,rfl⟩
   ·obtain ⟨c',hc,e⟩:=h4 a ha;exact ⟨c',List.mem_cons_of_mem _ hc,e⟩
theorem zbO {b:cg} (hb:c8 b) (h1:1<=b.cells) (side:Int) (p:aT) (x:Int×Int):(oL b side p x).length<=if x.1=2 then b.cells.toNat else 1:=by
 grind [oL,Bd,Hp]
theorem AJ {α β:Type} (f:α->List β) (m:Nat):∀ (l:List α),(∀x ∈ l,(f x).length<=m)->(l.flatMap f).length<=l.length * m
 | [], _=>gt
 |x::l,h=>by
  have b:=AJ f m l (λ y hy=>h y WR);grind [Nat.add_mul]
theorem zac {b:cg} (hb:c8 b) (h1:1<=b.cells) (side:Int) (now:List aT) (x:Int×Int):(rE b side now x).length<=now.length * if x.1=2 then b.cells.toNat else 1:=
 AJ _ _ _ (λ w _=>zbO hb h1 side w x)
theorem JR {b:cg} (hb:c8 b) (h1:1<=b.cells) (side:Int):∀ (prog:List (Int×Int)) (now:List aT),(prog.foldl (rE b side) now).length<=now.length * b.cells.toNat ^ cc prog 2
 | [],now=>Xh
 |x::prog,now=>by
  have h:=JR hb h1 side prog (rE b side now x);have k:=zac hb h1 side now x;refine Nat.le_trans h ?_;refine Nat.le_trans (Nat.mul_le_mul_right _ k) ?_;unfold cc at *;rw [List.countP_cons,Nat.mul_assoc];by_cases h2:x.1=2
  ·simp [h2,Nat.pow_succ,Nat.mul_comm]
  ·simp [h2]
theorem Sf {b:cg} (hb:c8 b) (h1:1<=b.cells) (side:Int) (prog:List (Int×Int)) (cell:Int):(gF b side prog cell).length<=b.cells.toNat ^ cc prog 2:=by
 grind [JR,gF]
def uP (n:Nat) (l:List aT):Prop:=∀w ∈ l,w.acts.length<=n
theorem Ve {b:cg} (hb:c8 b) (h9:b.cells<=9) (side:Int) (p:aT) (x:Int×Int):uP (p.acts.length+10) (oL b side p x):=by
 grind [oL,sD,Be,Hp,uP]
theorem SJ {b:cg} (hb:c8 b) (h9:b.cells<=9) (side:Int){now:List aT} (hn:uP n now) (x:Int×Int):uP (n+10) (rE b side now x):=by
 grind [Ve,uP,rE]
def FE (cells kinds rights:Int) (a:eu):Prop:=
 (3<=a.1∧a.1<=6∧(0<=a.2.1∧a.2.1<cells)∧a.2.2=0)∨(a.1=7∧(0<=a.2.1∧a.2.1<cells)∧(0<=a.2.2∧a.2.2<cells))∨
 (a.1=8∧(0<=a.2.1∧a.2.1<kinds)∧a.2.2=0)∨((a.1=9∨a.1=10)∧(0<=a.2.1∧a.2.1<rights)∧a.2.2=0)
def nU (l:List eu) (op:Int):Nat:=l.countP (λ a=>a.1==op)
structure CY (cells kinds rights:Int) (w:aT) (t p b:Nat):Prop where
 to:0<=w.to∧w.to<cells
 acts:∀a ∈ w.acts,FE cells kinds rights a
 take:nU w.acts 6<=t
 push:nU w.acts 7<=p
 become:nU w.acts 8<=b
theorem IS (l m:List eu) (op:Int):nU (l++m) op=nU l op+nU m op:=by simp [nU]
theorem LE {m:List eu} (h:∀a ∈ m,∃c ∈ l,a=(3,c,0)){op:Int} (ho:op≠3):nU m op=0:=by
 grind [nU]
def LR (x:Int×Int) (op:Int):Nat:=if x.1=op then 1 else 0
theorem zd4 {b:cg} (hb:c8 b){side:Int}{w:aT}{t p be:Nat} (hw:CY b.cells kinds rights w t p be) (hx:jN b.next.length kinds rights x):
  ∀v ∈ oL b side w x,CY b.cells kinds rights v (t+LR x 6) (p+LR x 7) (be+LR x 8):=by
 intro v hv;obtain ⟨w1,w2,w3,w4,w5⟩:=hw;obtain ⟨x1,x2,x3,x4,x5⟩:=hx;have ht:=tU hb side x.2 w.to;unfold oL at hv;unfold LR;split at hv
 ·split at hv
  ·simp at hv
  ·split at hv
   ·simp only [List.mem_singleton] at hv;subst hv;refine ⟨by grind [sD],by grind [sD], ?_, ?_, ?_⟩<;>simp only [sD,List.append_nil]<;>omega
   ·simp only [List.mem_singleton] at hv;subst hv;refine ⟨w1,λ a ha=> ?_, ?_, ?_, ?_⟩;all_goals grind [sD,FE,nU]
 ·split at hv
  ·obtain ⟨more,e1,e2,e3,e4⟩:=Be hv;rw [List.append_nil] at e1;refine ⟨sC hb _ e3,λ a ha=> ?_, ?_, ?_, ?_⟩
   ·rw [e1,List.mem_append] at ha;rcases ha with ha|ha
    ·grind
    ·obtain ⟨c,hc,rfl⟩:=e4 a ha;grind [sC,FE]
   all_goals rw [e1,IS,LE e4 ge];omega
  ·split at hv
   ·simp only [List.mem_singleton] at hv;subst hv;refine ⟨w1,λ a ha=> ?_, ?_, ?_, ?_⟩;all_goals grind [sD,FE,nU]
   ·simp only [List.mem_singleton] at hv;subst hv;refine ⟨w1,λ a ha=> ?_, ?_, ?_, ?_⟩;all_goals grind [sD,FE,nU]
theorem Ou {b:cg} (hb:c8 b){kinds rights:Int}{side:Int}:∀ {prog:List (Int×Int)}{now:List aT}{t p be:Nat},(∀w ∈ now,CY b.cells kinds rights w t p be)->(∀x ∈ prog,jN b.next.length kinds rights x)->
  ∀w ∈ prog.foldl (rE b side) now,CY b.cells kinds rights w (t+cc prog 6) (p+cc prog 7) (be+cc prog 8)
 | [],now,t,p,be,h, _,w,hw=>by grind [cc]
 |x::prog,now,t,p,be,h,hx,w,hw=>by
  have:=Ou hb (side:=side) (prog:=prog) (now:=rE b side now x) (t:=t+LR x 6) (p:=p+LR x 7) (be:=be+LR x 8) (λ v hv=>by
   obtain ⟨u,hu,hv⟩:=List.mem_flatMap.1 hv;exact zd4 hb (h u hu) (hx x gt) v hv) (λ y hy=>hx y WR) w hw
  have e:∀op,cc (x::prog) op=cc prog op+LR x op:=λ op=>by simp [cc,List.countP_cons,LR]
  rw [e,e,e];simpa [Nat.add_assoc,Nat.add_comm,Nat.add_left_comm] using this
theorem V1 {b:cg} (hb:c8 b){side:Int}{prog:List (Int×Int)} (hp:∀x ∈ prog,jN b.next.length kinds rights x) (hc:0<=cell∧cell<b.cells):
  ∀w ∈ gF b side prog cell,CY b.cells kinds rights w (cc prog 6) (cc prog 7) (cc prog 8):=by
 intro w hw;have:=Ou hb (side:=side) (kinds:=kinds) (rights:=rights) (prog:=prog) (now:= [⟨[],cell⟩]) (t:=0) (p:=0) (be:=0) (λ v hv=>by
  simp only [List.mem_singleton] at hv;subst hv;exact ⟨hc,gt,by simp [nU],by simp [nU],by simp [nU]⟩) hp w hw
 grind
theorem zcc {g:ae} (hg:bN g){side:Int}{k:kT} (hk:k ∈ g.kinds) (hc:0<=cell∧cell<g.cells):∀w ∈ nz g.board side k.progs cell,CY g.cells g.kinds.length g.rights w 2 1 1:=by
 intro w hw;obtain ⟨p,hp,hw⟩:=List.mem_flatMap.1 hw;have ok:=hg.pr k hk p hp;obtain ⟨a,b,c,d,e⟩:=V1 hg.board (side:=side) ok.st hc w hw;exact ⟨a,b,Nat.le_trans c ok.take,Nat.le_trans d ok.push,Nat.le_trans e ok.become⟩
theorem zf1 {l:List eu}:(∀r ∈ l.map lX,∀c ∈ r,lO c)=True:=by
 refine eq_true ?_;intro r hr c hc;obtain ⟨x, _,rfl⟩:=List.mem_map.1 hr;revert c;simp [go_sem]
attribute [go_sem ↓] zf1
theorem T8 (m:Int) (h0:0<=m) (h1:m<=17179869184):uR Tryz.prog 324 [AV.nils, .int m] (λ n=> .sl n 0 3 0 0) (λ n=> [(n, .rows true 0 3 [])]) 1:=by
 refine ⟨?_,λ n=>⟨no,no⟩⟩;by_cases hm:m=0
 ·subst hm;refine aF Tryz.func324 ?_;refine J0 ?_;simp [go_sem,aj]
 ·refine ap.clear ?_;refine aF Tryz.func324 ?_;refine J0 ?_;refine DX ?_;refine J0 ?_;refine zeM ?_;refine J0 ?_;refine ⟨0,0,3,Wm,⟨rfl,rfl,rfl⟩, ?_⟩;simp [go_sem,aj]
theorem ME (a b:List eu) (ha:a.length<=1048576) (hb:b.length<=1048576):uR Tryz.prog 297 [.lst 1 [[r7 a], [r7 b]]]
  (λ n=> .sl n 2 3 0 (a.length+b.length)) (λ n=> [(n, .rows true 2 3 ((a++b).map lX))]) 1:=by
 refine ⟨?_,λ n=>⟨no,no⟩⟩;refine aF Tryz.func297 ?_;refine J0 ?_;refine zg6 ?_;refine J0 ?_;refine DX ?_;refine J0 ?_;refine zg6 ?_;refine J0 ?_;refine DX ?_;refine J0 ?_;refine zg6 ?_;refine J0 ?_;refine zg8 (T8 _ ge ge) no ?_;refine J0 ?_;refine zg6 ?_;refine J0 ?_;refine zg6 ?_;refine J0 ?_;refine zg6 ?_;refine J0 ?_;simp [go_sem,aj]
theorem Vd (p:aT) (to:Int) (more:List eu) (ha:p.acts.length<=1048576) (hb:more.length<=1048576):uR Tryz.prog 296 [.int to,r7 more, .fp (dt p)]
  (λ n=> .agg [.sl (n+2) 2 3 0 (p.acts.length+more.length), .int to]) (λ n=> [(n+2, .rows true 2 3 ((p.acts++more).map lX))]) 3:=by
 refine ⟨?_,λ n=>⟨no,no⟩⟩;refine aF Tryz.func296 ?_;refine J0 ?_;refine zhh (ME p.acts more ha hb) no no ?_ no ?_
 ·simp only [r7];refine aY.cons ?_ aY.nil;grind [aI,dO,aC]
 ·refine J0 ?_;simp [go_sem,aj]
theorem Ae (p:aT):∀ (l:List Int) (passed:List eu) (c:Int),eQ p (l++ [c]) passed=eQ p l passed++ [sD p c (passed++l.map λ c=>(3,c,0))]
 | [],passed,c=>by simp [eQ,sD]
 |d::l,passed,c=>by simp [eQ,Ae p l]
def Ac (l:List Int):List eu:=l.map λ c=>(3,c,0)
theorem VZ (l:List Int):(Ac l).length=l.length:=by simp [Ac]
theorem PL (p:aT) (l:List Int) (h:i<l.length):eQ p (l.take (i+1)) []=eQ p (l.take i) []++ [sD p (ac l i) (Ac (l.take i))]∧Ac (l.take (i+1))=Ac (l.take i)++ [(3,ac l i,0)]:=by
 grind [List.take_add_one,Ae,Ac,ac]
theorem Om (b:cg) (hb:c8 b) (h9:b.cells<=9) (side:Int) (p:aT) (hp:p.acts.length<=1000000) (x:Int×Int):
  aq Tryz.prog 278 [.agg (gR b), .int side, .agg (dt p), .agg [.int x.1, .int x.2]] (kW (oL b side p x)):=by
 refine pF Tryz.func278 ?_;obtain ⟨op,N⟩:=x;have hT:=Bx b hb side N p.to;have hL:=Gg b hb side N p.to;have hll:=Hp hb (side:=side) (d:=N) (c:=p.to);have hO:=λ to more (h:more.length<=1048576)=>Vd p to more ge h;have hE:oL b side p (op,N)=if op=1∨op=7 then
  if sb b side N p.to<0 then [] else if op=1 then [sD p (sb b side N p.to) []] else [sD p p.to [(7,p.to,sb b side N p.to)]]
  else if op=2 then eQ p (uy b side N p.to) []
  else if op=8∨op=9∨op=10 then [sD p p.to [(op,N,0)]]
  else [sD p p.to [(op,p.to,0)]]:=rfl
 generalize sb b side N p.to=to at *;generalize uy b side N p.to=line at *;generalize oL b side p (op,N)=R at *;have hbl:∀n,(∀c' ∈ gR b,aN n c')=True:=λ n=>no;have hel:(gR b).length=3:=rfl;have hte:(gR b).take 3=gR b:=rfl;obtain ⟨eb,heb⟩:∃eb,eb=gR b:=⟨_,rfl⟩
 rw [<- heb] at hbl hel hT hL hte ⊢;refine J2 hel hte ?_;refine zg4 (λ h1=> ?_) (λ h1=> ?_)<;>simp at h1
 ·subst h1;refine J2 hel hte ?_;refine zg7 hT WB ?_;refine J2 hel hte ?_;refine zg4 (λ ht=> ?_) (λ ht=> ?_)<;>simp at ht
  ·rw [if_pos ge,if_pos ht] at hE;rw [hE];exact K2 hel hte
  ·rw [if_pos ge,if_neg ge,if_pos rfl] at hE;rw [hE];refine J2 hel hte ?_;refine zhh (hO to [] gt) no no ?_ no ?_
   ·(first|done|exact zJ)
   ·repeat first|refine wV λ _=>?_|simp [go_sem,hel,hte,sD]
    (first|done|exact zJ)
 ·refine J2 hel hte ?_;refine zg4 (λ h7=> ?_) (λ h7=> ?_)<;>simp at h7
  ·subst h7;refine J2 hel hte ?_;refine zg7 hT WB ?_;refine J2 hel hte ?_;refine zg4 (λ ht=> ?_) (λ ht=> ?_)<;>simp at ht
   ·rw [if_pos ge,if_pos ht] at hE;rw [hE];exact K2 hel hte
   ·rw [if_pos ge,if_neg ge,if_neg ge] at hE;rw [hE];refine J2 hel hte ?_;refine zhh (hO p.to [(7,p.to,to)] gt) no no ?_ no ?_
    ·(first|done|exact zJ)
    ·repeat first|refine wV λ _=>?_|simp [go_sem,hel,hte,sD]
     (first|done|exact zJ)
  ·rw [if_neg ge] at hE;refine J2 hel hte ?_;refine zg4 (λ h2=> ?_) (λ h2=> ?_)<;>simp at h2
   ·subst h2;rw [if_pos rfl] at hE;refine J2 hel hte ?_;refine zg7 hL WB ?_;refine J2 hel hte ?_;refine zg3 (zg5 (α:=Nat) (λ i=>⟨[(9, .fn (.func 296) [] [.ref 1 0 2 0 0]),(11, .sl 3 i 2 0 i),(12, .sl 4 i 3 0 i),(55,aS line),(56, .int line.length),(57, .int i)],
      [(1, .rows true 0 2 [dt p]),(3, .rows true i 2 ((eQ p (line.take i) []).map dt)),(4, .rows true i 3 ((Ac (line.take i)).map lX))],5⟩)
     (λ d i=>i+d=line.length) ?_ line.length 0 ?_) ?_ ?_
    ·rintro d i i1 hrec;have hsl:(eQ p (line.take i) []).length=i:=by grind [Bd]
     have hpl:(Ac (line.take i)).length=i:=by grind [VZ]
     refine J2 hel hte ?_;refine zg4 (λ hi=> ?_) (λ hi=> ?_)<;>simp at hi
     ·obtain ⟨s1,s2⟩:=PL p line hi;refine J1 hi ?_;refine zhh (hO (ac line i) (Ac (line.take i)) ge) no no ?_ no ?_
      ·(first|done|exact zfe hpl)
      ·refine J3 hi hsl hpl ?_;refine zg3 (hrec (d - 1) ge (i+1) ge) ?_ gt;simp [go_sem,aj,s1,s2,sD,hpl];(first|done|exact zfe hpl)
     ·have hil:i=line.length:=by omega
      subst hil;rw [List.take_length] at hsl ⊢;rw [hE];refine J1 hsl ?_;(first|done|exact zfe hsl)
    ·simp
    ·simp [go_sem,aj,eQ,Ac]
    ·simp
   ·rw [if_neg h2] at hE;refine J2 hel hte ?_;refine zg4 (λ h8=> ?_) (λ h8=> ?_)<;>simp at h8
    ·subst h8;rw [if_pos ge] at hE;rw [hE];refine J2 hel hte ?_;refine zhh (hO p.to [(8,N,0)] gt) no no ?_ no ?_
     ·(first|done|exact zJ)
     ·repeat first|refine wV λ _=>?_|simp [go_sem,hel,hte,sD]
      (first|done|exact zJ)
    ·refine J2 hel hte ?_;refine zg4 (λ h99=> ?_) (λ h99=> ?_)<;>simp at h99
     ·subst h99;rw [if_pos ge] at hE;rw [hE];refine J2 hel hte ?_;refine zhh (hO p.to [(9,N,0)] gt) no no ?_ no ?_
      ·(first|done|exact zJ)
      ·repeat first|refine wV λ _=>?_|simp [go_sem,hel,hte,sD]
       (first|done|exact zJ)
     ·refine J2 hel hte ?_;refine zg4 (λ h10=> ?_) (λ h10=> ?_)<;>simp at h10
      ·subst h10;rw [if_pos ge] at hE;rw [hE];refine J2 hel hte ?_;refine zhh (hO p.to [(10,N,0)] gt) no no ?_ no ?_
       ·(first|done|exact zJ)
       ·repeat first|refine wV λ _=>?_|simp [go_sem,hel,hte,sD]
        (first|done|exact zJ)
      ·rw [if_neg ge] at hE;rw [hE];refine J2 hel hte ?_;refine zhh (hO p.to [(op,p.to,0)] gt) no no ?_ no ?_
       ·(first|done|exact zJ)
       ·repeat first|refine wV λ _=>?_|simp [go_sem,hel,hte,sD]
        (first|done|exact zJ)
def AI {α β:Type} (F:α->List β) (l:List α) (i:Nat):List β:=(l.take i).flatMap F
theorem JO {α β:Type} [Inhabited α] (F:α->List β) (l:List α) (h:i<l.length):AI F l (i+1)=AI F l i++F (ac l i):=by
 grind [AI,List.take_add_one,ac]
theorem JP {α β:Type} (F:α->List β) (l:List α):AI F l 0= []:=by simp [AI]
theorem BV {α β:Type} (F:α->List β) (l:List α):AI F l l.length=l.flatMap F:=by simp [AI]
theorem Fu {α β:Type} (F:α->List β) (l:List α) (i:Nat):(AI F l i).length<=(l.flatMap F).length:=by
 grind [AI,List.take_append_drop]
theorem Q6 (l:List (List (Int×Int))) (hl:l.length<=1048576) (f:FuncId) (caps:List AV) (F:List (Int×Int)->List aT) (hF:∀x ∈ l,aq Tryz.prog f (bE x::caps) (kW (F x))) (hb:∀c ∈ caps,aN 0 c)
  (hn:(l.flatMap F).length<=8589934592):aq Tryz.prog 238 [.lst 1 (l.map λ p=> [bE p]), .fn (.func f) [] caps] (kW (l.flatMap F)):=by
 refine pF Tryz.func238 ?_;rw [<- BV F l] at hn ⊢;refine J0 ?_;refine zg3 (zg5 (α:=Nat) (λ i=>⟨[(1, .fn (.func f) [] caps),(5, .sl 0 i 2 0 (AI F l i).length),(8, .lst 1 (l.map λ p=> [bE p])),(9, .int l.length),(10, .int i)], [(0, .rows true i 2 ((AI F l i).map dt))],1⟩)
  (λ d i=>i+d=l.length) ?_ l.length 0 ?_) ?_ ?_
 ·rintro d i i1 hrec;have hni:=Fu F l i;refine J0 ?_;refine zg4 (λ hi=> ?_) (λ hi=> ?_)<;>simp at hi
  ·have hs:=JO F l hi;have hns:=Fu F l (i+1);rw [hs,List.length_append] at hns;rw [BV] at hn;refine J1 hi ?_;refine zg7 (hF _ (am hi)) (by simp [go_sem];exact hb) ?_;refine J1 hi ?_;refine zg3 (hrec (d - 1) ge (i+1) ge) ?_ gt;simp [go_sem,aj,hs];exact λ c hc=>(hb c hc).mono (Nat.zero_le _)
  ·have hil:i=l.length:=by omega
   subst hil;generalize AI F l l.length=R at *;refine J0 ?_;(first|done|exact zJ)
 ·simp
 ·simp [go_sem,aj,JP];exact λ c hc=>(hb c hc).mono (Nat.zero_le _)
 ·simp
theorem Q5 (l:List aT) (hl:l.length<=1073741824) (f:FuncId) (caps:List AV) (F:aT->List aT) (hF:∀x ∈ l,aq Tryz.prog f (.agg (dt x)::caps) (kW (F x))) (hb:∀c ∈ caps,aN 0 c)
  (hn:(l.flatMap F).length<=8589934592):aq Tryz.prog 276 [kW l, .fn (.func f) [] caps] (kW (l.flatMap F)):=by
 refine pF Tryz.func276 ?_;rw [<- BV F l] at hn ⊢;refine J0 ?_;refine zg3 (zg5 (α:=Nat) (λ i=>⟨[(1, .fn (.func f) [] caps),(5, .sl 0 i 2 0 (AI F l i).length),(8,kW l),(9, .int l.length),(10, .int i)], [(0, .rows true i 2 ((AI F l i).map dt))],1⟩)
  (λ d i=>i+d=l.length) ?_ l.length 0 ?_) ?_ ?_
 ·rintro d i i1 hrec;have hni:=Fu F l i;refine J0 ?_;refine zg4 (λ hi=> ?_) (λ hi=> ?_)<;>simp at hi
  ·have hs:=JO F l hi;have hns:=Fu F l (i+1);rw [hs,List.length_append] at hns;rw [BV] at hn;refine J1 hi ?_;refine zg7 (hF _ (am hi)) (by simp [go_sem];exact hb) ?_;refine J1 hi ?_;refine zg3 (hrec (d - 1) ge (i+1) ge) ?_ gt;simp [go_sem,aj,hs];exact λ c hc=>(hb c hc).mono (Nat.zero_le _)
  ·have hil:i=l.length:=by omega
   subst hil;generalize AI F l l.length=R at *;refine J0 ?_;(first|done|exact zJ)
 ·simp
 ·simp [go_sem,aj,JP];exact λ c hc=>(hb c hc).mono (Nat.zero_le _)
 ·simp
theorem Pm (b:cg) (hb:c8 b) (h9:b.cells<=9) (side:Int) (p:aT) (hp:p.acts.length<=1000000) (x:Int×Int):
  aq Tryz.prog 277 [.agg (dt p), .fp (gR b), .fp [.int side], .fp [.int x.1, .int x.2]] (kW (oL b side p x)):=by
 refine pF Tryz.func277 ?_;have hE:=Om b hb h9 side p hp x;generalize oL b side p x=R at *;refine J0 ?_;refine aP hE ?_;exact K0
def qp (b:cg) (side:Int) (prog:List (Int×Int)) (cell:Int) (i:Nat):List aT:=gF b side (prog.take i) cell
theorem EG (b:cg) (side:Int) (prog:List (Int×Int)) (cell:Int) (h:i<prog.length):qp b side prog cell (i+1)=(qp b side prog cell i).flatMap λ w=>oL b side w (ac prog i):=by
 unfold qp gF;grind [List.take_add_one,dT,rE]
theorem yG {b:cg} (hb:c8 b) (h9:b.cells<=9) (side:Int) (prog:List (Int×Int)) (cell:Int):∀i,i<=prog.length->uP (10 * i) (qp b side prog cell i)
 |0, _=>by
  simp_all [qp,gF,uP]
 |i+1,h=>by
  rw [EG b side prog cell ge];exact SJ hb h9 side (yG hb h9 side prog cell i ge) _
theorem HS {b:cg} (hb:c8 b) (h1:1<=b.cells) (h9:b.cells<=9) (side:Int) (prog:List (Int×Int)) (hp:prog.length<=8) (cell:Int) (i:Nat):(qp b side prog cell i).length<=43046721:=by
 have h:=Sf hb h1 side (prog.take i) cell;have hc:cc (prog.take i) 2<=8:=by
  grind [cc,List.countP_le_length]
 have h2:b.cells.toNat ^ cc (prog.take i) 2<=9 ^ cc (prog.take i) 2:=Nat.pow_le_pow_left ge _;have h3:9 ^ cc (prog.take i) 2<=9 ^ 8:=Nat.pow_le_pow_right ge hc;grind [qp]
theorem Sg (b:cg) (hb:c8 b) (h1:1<=b.cells) (h9:b.cells<=9) (side:Int) (prog:List (Int×Int)) (hp:prog.length<=8) (cell:Int):
  aq Tryz.prog 240 [.agg (gR b), .int side,bE prog, .int cell] (kW (gF b side prog cell)):=by
 refine pF Tryz.func240 ?_;have hR:gF b side prog cell=qp b side prog cell prog.length:=by grind [qp]
 have hl:=HS hb h1 h9 side prog hp cell;have ha:=yG hb h9 side prog cell;have hs:=λ (i:Nat) (h:i<prog.length)=>EG b side prog cell h;have h0:qp b side prog cell 0= [⟨[],cell⟩]:=rfl;rw [hR];have hP:=λ w hw x=>Pm b hb h9 side w hw x;generalize qp b side prog cell=K at *;generalize hXb:oL b side=E at *;have hbl:∀n,(∀c' ∈ gR b,aN n c')=True:=λ n=>no;have hel:(gR b).length=3:=rfl;have hte:(gR b).take 3=gR b:=rfl;obtain ⟨eb,heb⟩:∃eb,eb=gR b:=⟨_,rfl⟩
 rw [<- heb] at hbl hel hte ⊢;have hP':∀w:aT,w.acts.length<=1000000->∀x:Int×Int,aq Tryz.prog 277 [.agg (dt w), .fp eb, .fp [.int side], .fp [.int x.1, .int x.2]] (kW (E w x)):=λ w hw x=>by rw [heb];exact hP w hw x
 clear hP;refine J2 hel hte ?_;refine zg3 (zg5 (α:=Nat) (λ i=>⟨[(4, .ref 0 0 3 0 0),(5, .ref 1 0 1 0 0),(9,kW (K i)),(15,bE prog),(16, .int prog.length),(17, .int i)], [(0, .rows false 0 3 [eb]),(1, .rows false 0 1 [[.int side]])],2⟩)
  (λ d i=>i+d=prog.length) ?_ prog.length 0 ?_) ?_ ?_
 ·rintro d i i1 hrec;have hli:=hl i;refine J2 hel hte ?_;refine zg4 (λ hi=> ?_) (λ hi=> ?_)<;>simp at hi
  ·have hsi:=hs i hi;have hls:=hl (i+1);have hai:=ha i ge;refine J3 hel hte hi ?_;refine zha [2] (Q5 (K i) ge 277 [.fp eb, .fp [.int side], .fp [.int (ac prog i).1, .int (ac prog i).2]] (λ w=>E w (ac prog i)) (λ w hw=>hP' w (by have:=hai w hw;omega) _) WB (by rw [<- hsi];omega)) ?_ WB ?_
   ·(first|done|exact zJ)
   ·rw [<- hsi];refine J2 hel hte ?_;refine zg3 (hrec (d - 1) ge (i+1) ge) ?_ gt;simp [go_sem,aj,hbl]
  ·have hil:i=prog.length:=by omega
   subst hil;generalize K prog.length=R at *;exact K0
 ·simp
 ·simp [go_sem,aj,h0,hbl];(first|done|exact zJ)
 ·simp
theorem IR (g:ae) (hg:bN g) (side:Int) (cell:Int) (prog:List (Int×Int)) (hp:prog.length<=8):
    aq Tryz.prog 239 [bE prog, .fp (ai g), .fp [.int side], .fp [.int cell]] (kW (gF g.board side prog cell)):=by
  refine pF Tryz.func239 ?_;have hP:=Sg g.board hg.board hg.c1 hg.c9 side prog hp cell;generalize gF g.board side prog cell=R at *;rw [show gR g.board= [.int g.cells,fu g.next,aS g.turn] from rfl] at hP;refine J0 ?_;refine aP hP ?_;exact K0
def vD (f:Nat->List AV) (z:List AV) (n c:Nat):List (List AV):=(List.range n).map λ i=>if i<c then f i else z
theorem JL (f:Nat->List AV) (z:List AV) (n c:Nat):(vD f z n c).length=n:=by simp [vD]
theorem GR (f:Nat->List AV) (z:List AV) (n:Nat):List.replicate n z=vD f z n 0:=by
  unfold vD;refine List.ext_getElem gt λ i h1 h2=> ?_;simp
theorem JM (f:Nat->List AV) (z:List AV) (n c:Nat):(vD f z n c).set c (f c)=vD f z n (c+1):=by
  unfold vD;refine List.ext_getElem gt λ i h1 h2=> ?_;grind
theorem JK (f:Nat->List AV) (z:List AV) (n:Nat):vD f z n n=(List.range n).map f:=by
  grind [vD,List.map_congr_left]
theorem zg {f:Nat->List AV}{z:List AV}{c m:Nat} (hf:∀i,∀x ∈ f i,aN m x) (hz:∀x ∈ z,aN m x):∀r ∈ vD f z n c,∀x ∈ r,aN m x:=by
  grind [vD]
theorem Ox (h:au) (o:Nat) (x:Option cB):io (aC h o x) [o]=aC h o (kq x):=by
  grind [io,aC]
def Ad (g:ae) (side:Int) (j:Nat):List (List (List aT)):=(g.kinds.take j).map λ k=>lD g.board side k.progs
theorem SB (g:ae) (side:Int){j:Nat} (h:j<g.kinds.length):Ad g side (j+1)=Ad g side j++ [lD g.board side (ac g.kinds j).progs]:=by
  grind [Ad,List.take_add_one,ac]
theorem Wf (g:ae) (side:Int):Ad g side g.kinds.length=nJ g side:=by grind [Ad,nJ]
theorem SC (g:ae) (side:Int):Ad g side 0= []:=by simp [Ad]
theorem Wg (g:ae) (side:Int){j:Nat} (h:j<=g.kinds.length):(Ad g side j).length=j:=by grind [Ad]
theorem Ki {g:ae} (hg:bN g) (side:Int){k:kT} (hk:k ∈ g.kinds) (cell:Int):(nz g.board side k.progs cell).length<=8589934592:=by
  have h:=AJ (λ p=>gF g.board side p cell) 43046721 k.progs (λ p hp=>by
    have:=HS hg.board hg.c1 hg.c9 side p (hg.pr k hk p hp).len cell p.length;grind [qp])
  have:=hg.pn k hk;grind [nz]
theorem Ry {g:ae} (hg:bN g) (s:Int){k:kT} (hk:k ∈ g.kinds) (c:Int):uP 1048576 (nz g.board s k.progs c):=by
  intro w hw;obtain ⟨p,hp,hw⟩:=List.mem_flatMap.1 hw;have:=yG hg.board hg.c9 s p c p.length (Nat.le_refl _) w (by grind [qp]);have:=(hg.pr k hk p hp).len;omega
theorem KY (g:ae) (hg:bN g):aq Tryz.prog 194 [.agg (ai g)] (.agg (wy (vp g))):=by
  refine pF Tryz.func194 ?_;have hc9:=hg.c9;have hc1:=hg.c1;have hk6:=hg.k6;have hF:=λ (s:Int) (c:Int) (k:kT) (hk:k ∈ g.kinds)=>Q6 k.progs (by have:=hg.pn k hk;omega) 239 [.fp (ai g), .fp [.int s], .fp [.int c]] (λ p=>gF g.board s p c)
    (λ p hp=>IR g hg s c p (hg.pr k hk p hp).len) no (Ki hg s hk c)
  have hkb:∀ (s:Int) (k:kT) (c:Nat),c<g.cells.toNat->True:=λ _ _ _ _=>trivial;have hR:wy (vp g)= [dd (nJ g 0),dd (nJ g 1)]:=rfl;rw [hR];clear hR;have hsk:=λ (s:Int) (j:Nat) (h:j<g.kinds.length)=>SB g s h;have hsa:=λ s=>Wf g s;have hsz:=λ s=>SC g s;have hsl:=λ (s:Int) (j:Nat) (h:j<=g.kinds.length)=>Wg g s h;obtain ⟨C,hC⟩:∃C:Nat,g.cells=C:=⟨g.cells.toNat,ge⟩
  have hcells:∀ (s:Int) (j:Nat),lD g.board s (ac g.kinds j).progs=(List.range C).map λ (c:Nat)=>nz g.board s (ac g.kinds j).progs c:=λ s j=>by
    unfold lD;grind [ae.board]
  generalize Ad g=K at *;have heg:ai g= [.int (C:Int),fu g.next,aS g.turn, .lst 3 (g.kinds.map cH), .int g.rights, .v (.bool g.must), .lst 4 (g.clauses.map cd), .int g.blocked, .int g.endless]:=by rw [<- hC];rfl
  rw [heg] at hF;have hbl:∀n,(∀c' ∈ ai g,aN n c')=True:=λ n=>no;have hel:(ai g).length=9:=rfl;refine J1 hel ?_;refine zg3 (zg5 (α:=Nat) (λ s=>⟨[(1, .ref 0 0 9 0 0),(2, .ref 1 0 2 0 0),(3, .ref 2 0 2 0 0),(9, .int s)],
      [(0, .rows false 0 9 [ai g]),(1, .rows true 0 2 [[AV.v (.slice none 0 0),AV.v (.slice none 0 0)]]),(2, .rows true 0 2 [[if s=0 then AV.v (.slice none 0 0) else dd (nJ g 0),if s<2 then AV.v (.slice none 0 0) else dd (nJ g 1)]])],3⟩)
    (λ d s=>s+d=2) ?_ 2 0 ?_) ?_ ?_
  · rintro d0 s s1 hrec;rcases (show s=0∨s=1∨s=2 by omega) with rfl|rfl|rfl
    · have hFs:=hF 0;have hsk:=hsk 0;have hsa:=hsa 0;have hsz:=hsz 0;have hsl:=hsl 0;have hcells:=hcells 0;refine J2 hel hC ?_;refine zg3 (zg5 (α:=Nat) (λ j=>⟨[(1, .ref 0 0 9 0 0),(2, .ref 1 0 2 0 0),(3, .ref 2 0 2 0 0),(4, .ref 3 0 1 0 0),(9, .int 0),(13, .lst 3 (g.kinds.map cH)),(14, .int g.kinds.length),(15, .int j)],
          [(0, .rows false 0 9 [ai g]),(1, .rows true 0 2 [[AV.v (.slice none 0 0),AV.v (.slice none 0 0)]]),(2, .rows true 0 2 [[.sl 4 j 1 0 j,AV.v (.slice none 0 0)]]),(3, .rows false 0 1 [[.int 0]]),(4, .rows true j 1 ((K 0 j).map λ x=> [nq x]))],5⟩)
        (λ d j=>j+d=g.kinds.length) ?_ g.kinds.length 0 ?_) ?_ ?_
      · rintro d j j1 hrec2;have hlj:=hsl j ge;refine J3 hel hC hlj ?_;refine zg4 (λ hj=> ?_) (λ hj=> ?_)<;>simp at hj
        · have hkm:=am hj;have hpn:=hg.pn _ hkm;have hFk:=λ (c:Nat)=>hFs c _ hkm;have hsj:=hsk j hj;have hcj:=hcells j;have hlj1:=hsl (j+1) ge;have hkp:∀c:Int,(ac g.kinds j).progs.flatMap (λ p=>gF g.board 0 p c)=nz g.board 0 (ac g.kinds j).progs c:=λ c=>rfl;simp only [hkp] at hFk;generalize nz g.board 0 (ac g.kinds j).progs=KP at *;refine J3 hel hC hj ?_;rw [GR (λ (i:Nat)=> [.lst 2 ((KP i).map dt)])];refine zg3 (zg5 (α:=Nat) (λ c=>⟨[(1, .ref 0 0 9 0 0),(2, .ref 1 0 2 0 0),(3, .ref 2 0 2 0 0),(4, .ref 3 0 1 0 0),(6, .ref 5 0 3 0 0),(7, .sl 6 0 1 0 C),(9, .int 0),(13, .lst 3 (g.kinds.map cH)),(14, .int g.kinds.length),(15, .int j),(24, .int C),(25, .int c)],
              [(0, .rows false 0 9 [ai g]),(1, .rows true 0 2 [[AV.v (.slice none 0 0),AV.v (.slice none 0 0)]]),(2, .rows true 0 2 [[.sl 4 j 1 0 j,AV.v (.slice none 0 0)]]),(3, .rows false 0 1 [[.int 0]]),(4, .rows true j 1 ((K 0 j).map λ x=> [nq x])),
               (5, .rows true 0 3 [cH (ac g.kinds j)]),(6, .rows true 0 1 (vD (λ (i:Nat)=> [.lst 2 ((KP i).map dt)]) [AV.v (.slice none 0 0)] C c))],7⟩)
            (λ d c=>c+d=C) ?_ C 0 ?_) ?_ ?_
          · rintro d2 c c1' hrec3;have hfl:=JL (λ (i:Nat)=> [.lst 2 ((KP i).map dt)]) [AV.v (.slice none 0 0)] C c;have hfs:=JM (λ (i:Nat)=> [.lst 2 ((KP i).map dt)]) [AV.v (.slice none 0 0)] C c;refine J4 hel hC hlj hfl ?_;refine zg4 (λ hc=> ?_) (λ hc=> ?_)<;>simp at hc
            · (repeat (first|with_reducible (first|refine wL λ _=>?_|refine wD λ _=>?_|refine wE ?_)|simp [go_sem,hel,hC,hj,hfl]))
              refine FZ.frz (io _ [7]) (ri _ _) ?_;simp only [Ox];refine J4 hel hC hj hfl ?_;refine cX.frz [.lst 1 ((ac g.kinds j).progs.map λ p=> [bE p]), _] _ [0,3,7] [] (hFk c) gt ?_ no ?_
              · intro h₁ hS;have h0:=hS 0 gt;have h3:=hS 3 gt;have h7:=hS 7 gt;simp [aC,io,kq] at h0 h3 h7;refine .cons (.refl _) (.cons (.fn .nil (.cons (.frzP h0.symm gt gt (by simp [aB,aC,<- h0]) (.refl _ _ _ _)) (.cons (.frzP h3.symm gt gt (by simp [aB,aC,<- h3]) (.refl _ _ _ _)) (.cons (.frzP h7.symm gt gt (by simp [aB,aC,<- h7]) (.refl _ _ _ _)) .nil)))) .nil)
              · (repeat (first|refine wV λ _=>?_|simp [go_sem,hel,hC,hj,hfl]))
                refine zg3 (hrec3 (d2 - 1) ge (c+1) ge) ?_ gt;simp [go_sem,aj,hfs,hC];exact zg (λ i x hx=>by simp only [List.mem_singleton] at hx;subst hx;exact of_eq_true zb) (λ x hx=>by simp only [List.mem_singleton] at hx;subst hx;exact .v _)
            · have hcC:c=C:=by omega
              subst hcC;rw [JK];refine J3 hel hC hj ?_;refine zg3 (hrec2 (d - 1) ge (j+1) ge) ?_ gt;simp [go_sem,aj,hsj,hcj,hC];(first|done|exact zJ)
          · simp
          · simp [go_sem,aj,hC];exact zg (λ i x hx=>by grind [zb]) (λ x hx=>by simp only [List.mem_singleton] at hx;subst hx;exact .v _)
          · simp
        · have hjl:j=g.kinds.length:=by omega
          subst hjl;rw [hsa];refine J2 hel hC ?_;refine zg3 (hrec (d0 - 1) ge (1) ge) ?_ gt;have hsl':(nJ g 0).length=g.kinds.length:=pi;simp [go_sem,aj,hC];(first|done|exact zfe hsl')
      · simp
      · simp [go_sem,aj,hsz,hC]
      · simp
    · have hFs:=hF 1;have hsk:=hsk 1;have hsa:=hsa 1;have hsz:=hsz 1;have hsl:=hsl 1;have hcells:=hcells 1;refine J2 hel hC ?_;refine zg3 (zg5 (α:=Nat) (λ j=>⟨[(1, .ref 0 0 9 0 0),(2, .ref 1 0 2 0 0),(3, .ref 2 0 2 0 0),(4, .ref 3 0 1 0 0),(9, .int 1),(13, .lst 3 (g.kinds.map cH)),(14, .int g.kinds.length),(15, .int j)],
          [(0, .rows false 0 9 [ai g]),(1, .rows true 0 2 [[AV.v (.slice none 0 0),AV.v (.slice none 0 0)]]),(2, .rows true 0 2 [[dd (nJ g 0), .sl 4 j 1 0 j]]),(3, .rows false 0 1 [[.int 1]]),(4, .rows true j 1 ((K 1 j).map λ x=> [nq x]))],5⟩)
        (λ d j=>j+d=g.kinds.length) ?_ g.kinds.length 0 ?_) ?_ ?_
      · rintro d j j1 hrec2;have hlj:=hsl j ge;refine J3 hel hC hlj ?_;refine zg4 (λ hj=> ?_) (λ hj=> ?_)<;>simp at hj
        · have hkm:=am hj;have hpn:=hg.pn _ hkm;have hFk:=λ (c:Nat)=>hFs c _ hkm;have hsj:=hsk j hj;have hcj:=hcells j;have hlj1:=hsl (j+1) ge;have hkp:∀c:Int,(ac g.kinds j).progs.flatMap (λ p=>gF g.board 1 p c)=nz g.board 1 (ac g.kinds j).progs c:=λ c=>rfl;simp only [hkp] at hFk;generalize nz g.board 1 (ac g.kinds j).progs=KP at *;refine J3 hel hC hj ?_;rw [GR (λ (i:Nat)=> [.lst 2 ((KP i).map dt)])];refine zg3 (zg5 (α:=Nat) (λ c=>⟨[(1, .ref 0 0 9 0 0),(2, .ref 1 0 2 0 0),(3, .ref 2 0 2 0 0),(4, .ref 3 0 1 0 0),(6, .ref 5 0 3 0 0),(7, .sl 6 0 1 0 C),(9, .int 1),(13, .lst 3 (g.kinds.map cH)),(14, .int g.kinds.length),(15, .int j),(24, .int C),(25, .int c)],
              [(0, .rows false 0 9 [ai g]),(1, .rows true 0 2 [[AV.v (.slice none 0 0),AV.v (.slice none 0 0)]]),(2, .rows true 0 2 [[dd (nJ g 0), .sl 4 j 1 0 j]]),(3, .rows false 0 1 [[.int 1]]),(4, .rows true j 1 ((K 1 j).map λ x=> [nq x])),
               (5, .rows true 0 3 [cH (ac g.kinds j)]),(6, .rows true 0 1 (vD (λ (i:Nat)=> [.lst 2 ((KP i).map dt)]) [AV.v (.slice none 0 0)] C c))],7⟩)
            (λ d c=>c+d=C) ?_ C 0 ?_) ?_ ?_
          · rintro d2 c c1' hrec3;have hfl:=JL (λ (i:Nat)=> [.lst 2 ((KP i).map dt)]) [AV.v (.slice none 0 0)] C c;have hfs:=JM (λ (i:Nat)=> [.lst 2 ((KP i).map dt)]) [AV.v (.slice none 0 0)] C c;refine J4 hel hC hlj hfl ?_;refine zg4 (λ hc=> ?_) (λ hc=> ?_)<;>simp at hc
            · (repeat (first|with_reducible (first|refine wL λ _=>?_|refine wD λ _=>?_|refine wE ?_)|simp [go_sem,hel,hC,hj,hfl]))
              refine FZ.frz (io _ [7]) (ri _ _) ?_;simp only [Ox];refine J4 hel hC hj hfl ?_;refine cX.frz [.lst 1 ((ac g.kinds j).progs.map λ p=> [bE p]), _] _ [0,3,7] [] (hFk c) gt ?_ no ?_
              · intro h₁ hS;have h0:=hS 0 gt;have h3:=hS 3 gt;have h7:=hS 7 gt;simp [aC,io,kq] at h0 h3 h7;refine .cons (.refl _) (.cons (.fn .nil (.cons (.frzP h0.symm gt gt (by simp [aB,aC,<- h0]) (.refl _ _ _ _)) (.cons (.frzP h3.symm gt gt (by simp [aB,aC,<- h3]) (.refl _ _ _ _)) (.cons (.frzP h7.symm gt gt (by simp [aB,aC,<- h7]) (.refl _ _ _ _)) .nil)))) .nil)
              · (repeat (first|refine wV λ _=>?_|simp [go_sem,hel,hC,hj,hfl]))
                refine zg3 (hrec3 (d2 - 1) ge (c+1) ge) ?_ gt;simp [go_sem,aj,hfs,hC];exact zg (λ i x hx=>by simp only [List.mem_singleton] at hx;subst hx;exact of_eq_true zb) (λ x hx=>by simp only [List.mem_singleton] at hx;subst hx;exact .v _)
            · have hcC:c=C:=by omega
              subst hcC;rw [JK];refine J3 hel hC hj ?_;refine zg3 (hrec2 (d - 1) ge (j+1) ge) ?_ gt;simp [go_sem,aj,hsj,hcj,hC];(first|done|exact zJ)
          · simp
          · simp [go_sem,aj,hC];exact zg (λ i x hx=>by grind [zb]) (λ x hx=>by simp only [List.mem_singleton] at hx;subst hx;exact .v _)
          · simp
        · have hjl:j=g.kinds.length:=by omega
          subst hjl;rw [hsa];refine J2 hel hC ?_;refine zg3 (hrec (d0 - 1) ge (2) ge) ?_ gt;have hsl':(nJ g 1).length=g.kinds.length:=pi;simp [go_sem,aj,hC];(first|done|exact zfe hsl')
      · simp
      · simp [go_sem,aj,hsz,hC]
      · simp
    · (repeat (first|refine wV λ _=>?_|simp [go_sem]))
  · simp
  · simp [go_sem,aj]
  · simp
structure cO (l:List Int):Prop where
 len:l.length=64
 le:∀c,c<64->0<=ac l c∧ac l c<=c
def xc (l:List Int):Nat->Int->Int
 |0,c=>c
 |f+1,c=>if ac l c.toNat=c then c else xc l f (ac l c.toNat)
def bA (l:List Int) (c:Int):Int:=xc l (c.toNat+1) c
theorem HY {l:List Int} (hl:cO l):∀ (f:Nat) (c:Int),0<=c->c<64->c.toNat<f->0<=xc l f c∧xc l f c<=c∧ac l (xc l f c).toNat=xc l f c
 |0,c, _, _,h=>ge
 |f+1,c,h0,h1,h2=>by
  have h:=hl.le c.toNat ge;rw [xc];split
  ·omega
  ·obtain ⟨a,b,d⟩:=HY hl f (ac l c.toNat) h.1 ge ge;omega
theorem HX {l:List Int} (hl:cO l):∀ (f f':Nat) (c:Int),0<=c->c<64->c.toNat<f->c.toNat<f'->xc l f c=xc l f' c
 |0, _,c, _, _,h, _=>ge
 | _,0,c, _, _, _,h=>ge
 |f+1,f'+1,c,h0,h1,h2,h3=>by
  have h:=hl.le c.toNat ge;rw [xc,xc];split
  ·rfl
  ·exact HX hl f f' _ h.1 ge ge ge
theorem tM  (hl:cO l) (h0:0<=c) (h1:c<64):0<=bA l c∧bA l c<=c∧ac l (bA l c).toNat=bA l c:=HY hl _ c h0 h1 ge
theorem tN  (hl:cO l) (h0:0<=c) (h1:c<64):bA l c=if ac l c.toNat=c then c else bA l (ac l c.toNat):=by
 have h:=hl.le c.toNat ge;grind [bA,xc,HX]
def w8 (l:List Int) (a b:Int):List Int:=l.set (max a b).toNat (min a b)
theorem OW  (hl:cO l){a b:Int} (ha:0<=a) (hb:0<=b):cO (w8 l a b):=by
 refine ⟨by simpa [w8] using hl.len,λ c hc=> ?_⟩;unfold w8;rw [Cs];split
 ·omega
 ·exact hl.le c hc
theorem HZ {l:List Int} (hl:cO l){a b:Int} (ha:0<=a) (hb:0<=b) (ha':a<64) (hb':b<64) (hra:ac l a.toNat=a) (hrb:ac l b.toNat=b):
  ∀ (n:Nat) (c:Int),c.toNat<n->0<=c->c<64->bA (w8 l a b) c=if bA l c=max a b then min a b else bA l c
 |0,c,h, _, _=>ge
 |n+1,c,hn,h0,h1=>by
  have hk:=OW hl ha hb;have hle:=hl.le c.toNat ge;have hn':ac (w8 l a b) c.toNat=if c=max a b then min a b else ac l c.toNat:=by
   unfold w8;rw [Cs];have:=hl.len;omega
  rw [tN hk h0 h1,hn',tN hl h0 h1];by_cases e:c=max a b
  ·grind [tN,w8,Cs]
  ·rw [if_neg e];by_cases e2:ac l c.toNat=c
   ·omega
   ·rw [if_neg e2,if_neg e2];exact HZ hl ha hb ha' hb' hra hrb n _ ge hle.1 ge
def cF (l:List Int) (first:Int) (others:List Int):List Int:=others.foldl (λ l c=>w8 l (bA l first) (bA l c)) l
def ti (l:List Int) (first:Int) (others:List Int):Int:=others.foldl (λ m c=>min m (bA l c)) (bA l first)
theorem Eo (l:List Int) (first:Int) (others:List Int) (c:Int):ti l first (others++ [c])=min (ti l first others) (bA l c):=by
 grind [ti]
theorem OL (l:List Int) (first:Int) (others:List Int) (c:Int):cF l first (others++ [c])=w8 (cF l first others) (bA (cF l first others) first) (bA (cF l first others) c):=by
 grind [cF]
theorem PM {α:Type}{P:List α->Prop} (h0:P []) (h1:∀l a,P l->P (l++ [a])) (l:List α):P l:=by
 rw [<- List.reverse_reverse l];generalize l.reverse=r;induction r<;>grind
theorem wI (l:List Int) (first:Int):∀ (others:List Int),(∃c,(c=first∨c ∈ others)∧ti l first others=bA l c)∧∀c,(c=first∨c ∈ others)->ti l first others<=bA l c:=by
 refine PM ?_ ?_;case _=>grind [ti]
 case _=>
  intro others d ih;rw [Eo];grind
theorem rq  (hl:cO l){first:Int} (hf:0<=first∧first<64):∀ (others:List Int),(∀c ∈ others,0<=c∧c<64)->
  cO (cF l first others)∧∀x,0<=x->x<64->((∃c,(c=first∨c ∈ others)∧bA l x=bA l c)->bA (cF l first others) x=ti l first others)∧
   ((¬∃c,(c=first∨c ∈ others)∧bA l x=bA l c)->bA (cF l first others) x=bA l x):=by
 refine PM ?_ ?_;case _=>
  grind [cF,ti]
 case _=>
  intro others d ih ho;obtain ⟨h1,h2⟩:=ih (λ c hc=>ho c Wy);have hd:=ho d gt;obtain ⟨⟨c0,hc0,e0⟩,hmin⟩:=wI l first others
  have hfr:=(h2 first hf.1 hf.2).1 ⟨first, .inl rfl,rfl⟩;rw [OL,Eo,hfr];have sf:=tM h1 hf.1 hf.2;rw [hfr] at sf;have sd:=tM h1 hd.1 hd.2;refine ⟨OW h1 sf.1 sd.1,λ x x0 x1=> ?_⟩;have hr:=HZ h1 sf.1 sd.1 ge ge sf.2.2 sd.2.2 (x.toNat+1) x ge x0 x1;rw [hr];obtain ⟨g1,g2⟩:=h2 x x0 x1;obtain ⟨k1,k2⟩:=h2 d hd.1 hd.2;have hmem:∀c,(c=first∨c ∈ others++ [d])↔((c=first∨c ∈ others)∨c=d):=λ c=>by
   grind
  by_cases hds:∃c,(c=first∨c ∈ others)∧bA l d=bA l c
  ·have kd:=k1 hds;obtain ⟨c1,hc1,e1⟩:=hds;have hle:=hmin c1 hc1;refine ⟨λ ⟨c,hc,e⟩=> ?_,λ hn=> ?_⟩;all_goals grind
  ·have kd:=k2 hds;refine ⟨λ ⟨c,hc,e⟩=> ?_,λ hn=> ?_⟩
   ·grind
   ·grind
def fx (l:List Int) (n:Nat):List Int:=(List.range n).map λ (c:Nat)=>bA l c
theorem RQ (l:List Int) (h0:0<=c) (h1:c<n):ac (fx l n) c.toNat=bA l c:=by
 grind [fx,ac]
def co (a:eu):List Int:=if a.1=3∨a.1=4∨a.1=5∨a.1=6 then [a.2.1] else if a.1=7 then [a.2.1,a.2.2] else []
theorem QJ (a:eu):(co a).length<=2:=by
 grind [co]
def sO (n:Nat) (p:aT):Prop:=(0<=p.to∧p.to<n)∧p.acts.length<=1048576∧∀a ∈ p.acts,∀c ∈ co a,0<=c∧c<n
def kx (n:Nat) (s:List (List (List aT))):Prop:=s.length<=6∧∀k ∈ s,k.length=n∧∀x ∈ k,x.length<=1099511627776∧∀p ∈ x,sO n p
def FY (c:Int) (l:List Int) (acts:List eu):List Int:=acts.foldl (λ l a=>cF l c (co a)) l
def tG (c:Int) (l:List Int) (p:aT):List Int:=FY c (cF l c [p.to]) p.acts
def uY (c:Int) (l:List Int) (ps:List aT):List Int:=ps.foldl (tG c) l
def nT (l:List Int):Nat->List (List aT)->List Int
 | _, []=>l
 |c,ps::k=>nT (uY c l ps) (c+1) k
def pg (l:List Int) (s:List (List (List aT))):List Int:=s.foldl (λ l k=>nT l 0 k) l
def Tw:List Int:=(List.range 64).map λ (c:Nat)=>(c:Int)
def iP (c:mY):List Int:=pg (pg Tw c.1) c.2
theorem Hb:cO Tw:=by
 refine ⟨by simp [Tw],λ c hc=> ?_⟩;grind [Tw,dT]
theorem zk  (hl:cO l) (hn:n<=64) (hc:0<=c∧c<n){others:List Int} (ho:∀c ∈ others,0<=c∧c<n):cO (cF l c others):=
 (rq hl (first:=c) ⟨hc.1,ge⟩ others (λ d hd=>by grind)).1
theorem Nn {n:Nat} (hn:n<=64){c:Int} (hc:0<=c∧c<n):∀ (acts:List eu){l:List Int},cO l->(∀a ∈ acts,∀c ∈ co a,0<=c∧c<n)->cO (FY c l acts)
 | [], _,hl, _=>hl
 |a::acts,l,hl,h=>Nn hn hc acts (zk hl hn hc (h a gt)) (λ b hb=>h b (by simp [hb]))
theorem Pl  (hn:n<=64) (hc:0<=c∧c<n){p:aT} (hp:sO n p) (hl:cO l):cO (tG c l p):=
 Nn hn hc p.acts (zk hl hn hc (λ d hd=>by grind [sO])) hp.2.2
theorem DG {n:Nat} (hn:n<=64){c:Int} (hc:0<=c∧c<n):∀ (ps:List aT){l:List Int},cO l->(∀p ∈ ps,sO n p)->cO (uY c l ps)
 | [], _,hl, _=>hl
 |p::ps,l,hl,h=>DG hn hc ps (Pl hn hc (h p gt) hl) (λ q hq=>h q Yq)
theorem Dg {n:Nat} (hn:n<=64):∀ (k:List (List aT)) (c:Nat){l:List Int},cO l->c+k.length<=n->(∀x ∈ k,∀p ∈ x,sO n p)->cO (nT l c k)
 | [], _, _,hl, _, _=>hl
 |ps::k,c,l,hl,hc,h=>by
  simp only [List.length_cons] at hc;exact Dg hn k (c+1) (DG hn ⟨ge,ge⟩ ps hl (h ps gt)) ge (λ x hx=>h x WY)
theorem zl {n:Nat} (hn:n<=64):∀ (s:List (List (List aT))){l:List Int},cO l->(∀k ∈ s,k.length=n∧∀x ∈ k,x.length<=1099511627776∧∀p ∈ x,sO n p)->cO (pg l s)
 | [], _,hl, _=>hl
 |k::s,l,hl,h=>by
  have hk:=h k gt;exact zl hn s (Dg hn k 0 hl ge (λ x hx=>(hk.2 x hx).2)) (λ q hq=>h q Yq)
theorem Kk  (hn:n<=64){c:mY} (h1:kx n c.1) (h2:kx n c.2):cO (iP c):=zl hn c.2 (zl hn c.1 Hb h1.2) h2.2
theorem U1 {cells:Int}{a:eu} (ha:FE cells kinds rights a):∀c ∈ co a,0<=c∧c<cells:=by
 grind [FE,co]
def ay (of:List Int) (c:Nat):List Int:=((List.range c).filter λ (c:Nat)=>decide (ac of c=(c:Int))).map λ (c:Nat)=>(c:Int)
theorem O3 (of:List Int) (c:Nat):ay of (c+1)=if ac of c=(c:Int) then ay of c++ [(c:Int)] else ay of c:=by
 grind [ay,List.range_succ]
theorem RO (of:List Int) (c:Nat):(ay of c).length<=c:=by
 grind [ay]
theorem minE (a b:Int):(if b<a then b else a)=min a b:=ge
theorem maxE (a b:Int):(if a<b then b else a)=max a b:=ge
def Cx (names:List Int) (L:Int) (p:Nat->Bool):List Int:=(List.range names.length).map λ j=>if p j then L else ac names j
theorem zcE (names:List Int) (L:Int) (p:Nat->Bool):(Cx names L p).length=names.length:=by simp [Cx]
variable {q:Nat->Bool}
theorem RY {L:Int}{p:Nat->Bool} (h:∀j,j<names.length->p j=q j):Cx names L p=Cx names L q:=by
 grind [Cx,List.map_congr_left]
theorem zcF {L:Int}{p:Nat->Bool}{k:Nat} (hk:k<names.length) (h:∀j,j<names.length->q j=(p j||decide (j=k))):Cx names L q=(Cx names L p).set k L:=by
 refine List.ext_getElem (by simp [Cx]) λ j h1 h2=> ?_;grind [Cx]
theorem VT (names:List Int) (L:Int):Cx names L (λ _=>false)=names:=by
 refine List.ext_getElem (by simp [Cx]) λ j h1 h2=> ?_;grind [Cx,dT]
theorem Pu (of:List Int) (hl:of.length<=1048576):aq Tryz.prog 144 [aS of] (aS (ay of of.length)):=by
  refine pF Tryz.func144 ?_;refine J0 ?_;refine zg3 (zg5 (α:=Nat) (λ c=>⟨[(3, .sl 0 (ay of c).length 1 0 (ay of c).length),(6,aS of),(7, .int of.length),(8, .int c)], [(0, .rows true (ay of c).length 1 ((ay of c).map dR))],1⟩)
    (λ d c=>c+d=of.length) ?_ of.length 0 ?_) ?_ ?_
  · rintro d c i1 hrec;have hs:=O3 of c;have hn:=RO of c;refine J0 ?_;refine zg4 (λ hc=> ?_) (λ hc=> ?_)<;>simp at hc
    · (repeat (first|refine wV λ _=>?_|simp [go_sem,hc]))
      refine zg4 (λ he=> ?_) (λ he=> ?_)<;>simp at he
      · rw [if_pos he.symm] at hs;refine J0 ?_;refine zg3 (hrec (d - 1) ge (c+1) ge) ?_ gt;simp [go_sem,aj,hs]
      · rw [if_neg (λ h=>he h.symm)] at hs;refine J0 ?_;refine zg3 (hrec (d - 1) ge (c+1) ge) ?_ gt;simp [go_sem,aj,hs]
    · have hil:c=of.length:=by omega
      subst hil;refine J0 ?_;(first|done|exact zJ)
  · simp
  · simp [go_sem,aj,ay]
  · simp
theorem Ps (a:eu):aq Tryz.prog 196 [.agg (lX a)] (aS (co a)):=by
  refine pF Tryz.func196 ?_;obtain ⟨op,A,B⟩:=a;simp only [co];by_cases h7:op=7
  · subst h7;repeat first|refine wV λ _=>?_|simp [go_sem]
    (first|done|exact zJ)
  · by_cases h3:op=3∨op=4∨op=5∨op=6
    · rw [if_pos h3];rcases h3 with rfl|rfl|rfl|rfl<;>(repeat (first|refine wV λ _=>?_|simp [go_sem]))<;>(first|done|exact zJ)
    · rw [if_neg h3,if_neg h7];have a3:¬op=3:=λ e=>h3 (.inl e);have a4:¬op=4:=λ e=>h3 (.inr (.inl e));have a5:¬op=5:=λ e=>h3 (.inr (.inr (.inl e)));have a6:¬op=6:=λ e=>h3 (.inr (.inr (.inr e)));repeat first|refine wV λ _=>?_|simp [go_sem,h7,a3,a4,a5,a6]
      (first|done|exact zJ)
def pP (of at_:List Int) (name:Int) (k:Nat):List Int:=(List.range k).map λ c=>if ac of c=name then ac at_ c else 0
theorem VX (of at_:List Int) (name:Int) (k:Nat):(pP of at_ name k).length=k:=by simp [pP]
def B8 (of at_:List Int) (name:Int) (c:Nat):List Int:=Cx at_ 0 (λ j=>decide (j<c) && decide (ac of j≠name))
theorem Vq (of at_:List Int) (name:Int) (c:Nat):(B8 of at_ name c).length=at_.length:=zcE _ _ _
theorem Rj (of at_:List Int) (name:Int):B8 of at_ name 0=at_:=(RY λ j hj=>by simp).trans (VT at_ 0)
theorem Ri (of at_:List Int) (name:Int){c:Nat} (hc:c<at_.length):B8 of at_ name (c+1)=if ac of c=name then B8 of at_ name c else (B8 of at_ name c).set c 0:=by
  grind [zcF,B8]
theorem VY (of at_:List Int) (name:Int):B8 of at_ name at_.length=pP of at_ name at_.length:=by
  grind [B8,Cx,pP,List.map_congr_left]
def cj (of:List Int) (p:aa) (name:Int):aa:={ p with at_:=pP of p.at_ name p.at_.length}
theorem Sp (of:List Int) (p:aa) (name:Int) (hof:of.length=p.at_.length) (hp:p.at_.length<=1048576):
    aq Tryz.prog 145 [aS of, .agg (ak p), .int name] (.agg (ak (cj of p name))):=by
  refine pF Tryz.func145 ?_;unfold cj;obtain ⟨at_,h0,h1,rt,sd⟩:=p;simp only at hof hp ⊢;rw [<- VY];refine J0 ?_;refine zg8 (wl at_ (by grind [kn])) no ?_;refine J0 ?_;refine zg3 (zg5 (α:=Nat) (λ c=>⟨[(0,aS of),(2, .int name),(4, .ref 0 0 5 0 0),(6, .ref 1 0 5 0 0),(14, .int at_.length),(15, .int c)],
      [(0, .rows true 0 5 [[.sl 2 1 1 0 at_.length,aS h0,aS h1, .int rt, .int sd]]),(1, .rows true 0 5 [[.v (.slice none 0 0), .v (.slice none 0 0), .v (.slice none 0 0), .int 0, .int 0]]),
       (2, .rows true 1 1 ((B8 of at_ name c).map dR))],3⟩)
    (λ d c=>c+d=at_.length) ?_ at_.length 0 ?_) ?_ ?_
  · rintro d c i1 hrec;have hn:=Vq of at_ name c;refine J0 ?_;refine zg4 (λ hc=> ?_) (λ hc=> ?_)<;>simp at hc
    · have hc':c<of.length:=by omega
      have hs:=Ri of at_ name hc;refine J3 hc hc' hn ?_;refine zg4 (λ he=> ?_) (λ he=> ?_)<;>simp at he
      · rw [if_neg he] at hs;refine J2 hn hc ?_;refine zg3 (hrec (d - 1) ge (c+1) ge) ?_ gt;simp [go_sem,aj,hs]
      · rw [if_pos he] at hs;refine J0 ?_;refine zg3 (hrec (d - 1) ge (c+1) ge) ?_ gt;simp [go_sem,aj,hs]
    · have hil:c=at_.length:=by omega
      subst hil;refine J1 hn ?_;(first|done|exact zfe hn)
  · simp
  · simp [go_sem,aj,Rj]
  · simp
def yH (p:List (Int×Int)):Bool:=p.all λ x=>decide (x.1≠9) && decide (x.1≠10)
def rV (k:kT):kT:=⟨k.name,k.progs.filter yH,false⟩
def i9 (g:ae):ae:=⟨g.cells,g.next,g.turn,g.kinds.map rV,0,false, [],3,2⟩
theorem V2 {D K R:Int} (h:uS D K R p) (hp:yH p=true):uS D K 0 p:=by
 refine ⟨h.ne,h.len,λ x hx=> ?_,h.take,h.push,h.become⟩;have hs:=h.st x hx;have:=List.all_eq_true.1 hp x hx;simp only [Bool.and_eq_true,decide_eq_true_eq] at this;exact ⟨hs.op,hs.dir,hs.zero,hs.kind,λ h=>ge⟩
theorem KD {g:ae} (hg:bN g):bN (i9 g):=by
 have hkl:(i9 g).kinds.length=g.kinds.length:=Yr;refine ⟨hg.board,hg.c1,hg.c9,hg.d1,hg.d8,hg.turn,by have:=hg.k1;omega,by have:=hg.k6;omega,λ k hk=> ?_,λ k hk p hp=> ?_,Yr,Yr,λ c hc=> ?_,Yr,Yr,Yr⟩
 ·obtain ⟨k',hk',rfl⟩:=List.mem_map.1 hk;have:=hg.pn k' hk';grind [rV]
 ·obtain ⟨k',hk',rfl⟩:=List.mem_map.1 hk;obtain ⟨h1,h2⟩:=List.mem_filter.1 hp;rw [hkl];exact V2 (hg.pr k' hk' p h1) h2
 grind [i9]
def i8 (g:ae):Nat:=(min g.cells 4).toNat
theorem G4 {g:ae} (hg:bN g):1<=i8 g∧i8 g<=4∧(i8 g:Int)<=g.cells:=by
 have:=hg.c1;grind [i8]
def zfC (w:Int) (c:Nat):Bool:=decide (sT .u8 (w.fdiv (2 ^ ((c:Int).tmod 8).toNat)) 1=1)
def Fo (n:Nat) (w:Int) (l:List Int) (c:Nat):Int:=
 let to:=ac l (c % n)
 if (n:Int)<=to∨(zfC w c=true∧n<=c) then -1 else if 0<=to∧n<=c then to+n else to
def rO (n:Nat) (w:Int) (l:List Int) (k:Nat):List Int:=(List.range k).map (Fo n w l)
theorem Gd (n:Nat) (w:Int) (l:List Int) (k:Nat):(rO n w l k).length=k:=by simp [rO]
theorem Nv (n:Nat) (w:Int) (l:List Int) (k:Nat):rO n w l (k+1)=rO n w l k++ [Fo n w l k]:=by simp [rO,List.range_succ]
def Db (g:ae) (w:Int):cg:=⟨2 * (i8 g:Int),g.next.map λ l=>rO (i8 g) w l (2 * i8 g),g.turn⟩
def rN (g:ae) (w:Int):ae:={ i9 g with cells:=2 * (i8 g:Int),next:=g.next.map λ l=>rO (i8 g) w l (2 * i8 g)}
theorem UA {g:ae} (hg:bN g) (w:Int):c8 (Db g w):=by
 obtain ⟨n1,n4,nc⟩:=G4 hg;have hb:=hg.board;have hd8:=hg.d8;refine ⟨?_,λ t ht=> ?_,λ l hl=> ?_,λ l hl x hx=> ?_, ?_, ?_, ?_⟩
 ·have:=hb.tl;grind [Db,ae.board]
 ·have:=hb.tv t ht;grind [Db,ae.board]
 ·grind [Gd,Db]
 ·obtain ⟨l',hl',rfl⟩:=List.mem_map.1 hl;obtain ⟨c,hc,rfl⟩:=List.mem_map.1 hx;have hlen:(l'.length:Int)=g.cells:=hb.nl l' hl';have hm:c % i8 g<i8 g:=Nat.mod_lt _ ge;have hv:=hb.nv l' hl' _ (am (l:=l') (i:=c % i8 g) ge);grind [Db,Fo]
 all_goals grind [Db]
theorem UB {g:ae} (hg:bN g) (w:Int):bN (rN g w):=by
 have hp:=KD hg;obtain ⟨n1,n4,nc⟩:=G4 hg;have hnl:(rN g w).next.length=g.next.length:=by simp [rN]
 refine ⟨UA hg w,by grind [rN],by grind [rN],by rw [hnl];exact hg.d1,by rw [hnl];exact hg.d8,hg.turn,hp.k1,hp.k6,hp.pn,λ k hk p hp'=> ?_,hp.r0,hp.r4,λ c hc=> ?_,hp.cn,hp.bl,hp.en⟩
 ·rw [hnl];exact hp.pr k hk p hp'
 grind [rN,i9]
theorem O4  (hn:n<=64){c:mY} (h1:kx n c.1) (h2:kx n c.2){x:Int} (x0:0<=x) (x1:x<n):
  0<=ac (fx (iP c) n) x.toNat∧ac (fx (iP c) n) x.toNat<=x∧ac (fx (iP c) n) (ac (fx (iP c) n) x.toNat).toNat=ac (fx (iP c) n) x.toNat:=by
 grind [Kk,tM,RQ,tN]
structure wm (of:List Int):Prop where
 r:∀c,c<of.length->0<=ac of c∧ac of c<=c
 root:∀c,c<of.length->ac of (ac of c).toNat=ac of c
theorem ED  (hn:n<=64){c:mY} (h1:kx n c.1) (h2:kx n c.2):wm (fx (iP c) n):=by
 refine ⟨λ x hx=> ?_,λ x hx=> ?_⟩<;>rw [show (fx (iP c) n).length=n by simp [fx]] at hx<;>obtain ⟨a,b,d⟩:=O4 hn h1 h2 (x:=x) ge ge<;>rw [show ((x:Int)).toNat=x by omega] at *;all_goals omega
theorem RJ :c ∈ ay of n↔0<=c∧c<n∧ac of c.toNat=c:=by
 grind [ay]
theorem wm.mem  (h:wm of){c:Nat} (hc:c<of.length):ac of c ∈ ay of of.length:=by
 have a:=h.r c hc;exact RJ.2 ⟨a.1,ge,h.root c hc⟩
theorem wm.pos  (h:wm of) (hl:1<=of.length):1<=(ay of of.length).length:=by
 have:=h.mem (c:=0) ge;grind
theorem ct {α:Type} [Inhabited α] {a b:List α} (hl:a.length=b.length) (h:∀i,i<a.length->ac a i=ac b i):a=b:=by
 grind [List.ext_getElem,ac]
theorem fX {g:ae}{p:aa} (hp:bw g p) (of:List Int) (name:Int):bw g (cj of p name):=by
 refine ⟨?_,λ c hc=> ?_,hp.h0,hp.h1,hp.r0,hp.r1,hp.s⟩
 ·show ((pP of p.at_ name p.at_.length).length:Int)=g.cells;rw [VX];exact hp.al
 ·obtain ⟨i,hi,rfl⟩:=List.mem_map.1 hc;split
  ·exact hp.av _ (am (List.mem_range.1 hi))
  ·omega
def aw (of:List Int) (p:aa):List aa:=(ay of of.length).map (cj of p)
def nQ (g:ae):Prop:=(∀k ∈ g.kinds,k.keep=false)∧g.rights=0
theorem Kc {g:ae} (hn:nQ g) (h:oO g l):l=List.replicate g.kinds.length 0:=by
 refine ct (by rw [h.len,List.length_replicate]) λ i hi=> ?_;have hv:=h.v i hi;have hk:=hn.1 _ (am (show i<g.kinds.length by have:=h.len;omega));have:ac (List.replicate g.kinds.length (0:Int)) i=0:=by
  rw [dT _ _ (by rw [List.length_replicate];have:=h.len;omega),List.getElem_replicate]
 grind
theorem bw.zero {g:ae} (hn:nQ g){p:aa} (hp:bw g p):p.h0=List.replicate g.kinds.length 0∧p.h1=List.replicate g.kinds.length 0∧p.rights=0:=by
 refine ⟨Kc hn hp.h0,Kc hn hp.h1, ?_⟩;have a:=hp.r0;have b:=hp.r1;grind [nQ]
end Go.Av
end
section
open Go Go.Proofs
namespace Go.Av
inductive af where
 |mk (l r:List af):af
namespace af
def L:af->List af
 | .mk l _=>l
def R:af->List af
 | .mk _ r=>r
mutual
def size:af->Nat
 | .mk l r=>1+aD l+aD r
def aD:List af->Nat
 | []=>0
 |x::l=>x.size+aD l
end
theorem bZ (x:af):1<=x.size:=by
 cases x<;>grind [size]
theorem ki:∀ {l:List af}{z:af},z ∈ l->z.size<=aD l
 |x::l,z,h=>by
  rw [aD];rcases List.mem_cons.1 h with rfl|h
  ·omega
  ·have:=ki h;omega
theorem dA {x z:af} (h:z ∈ x.L):z.size<x.size:=by
 cases x with
 |mk l r=>
  have:=ki h;grind [size,L]
theorem dB {x z:af} (h:z ∈ x.R):z.size<x.size:=by
 cases x with
 |mk l r=>
  have:=ki h;grind [size,R]
theorem zfL (x:af):x= .mk x.L x.R:=by cases x;rfl
def LV:Nat->af->af->Bool
 |0, _, _=>true
 |n+1,x,y=>(x.L.all λ z=> !LV n y z) && y.R.all λ z=> !LV n z x
theorem Ds:∀ {n m:Nat}{x y:af},x.size+y.size<=n->x.size+y.size<=m->LV n x y=LV m x y
 |0,m,x,y,h, _=>WV
 |n+1,0,x,y, _,h=>WV
 |n+1,m+1,x,y,h1,h2=>by
  rw [LV,LV];congr 1
  ·rw [Bool.eq_iff_iff,List.all_eq_true,List.all_eq_true];refine forall_congr' λ z=>forall_congr' λ hz=> ?_;have:=dA hz;rw [Ds (n:=n) (m:=m) ge ge]
  ·rw [Bool.eq_iff_iff,List.all_eq_true,List.all_eq_true];refine forall_congr' λ z=>forall_congr' λ hz=> ?_;have:=dB hz;rw [Ds (n:=n) (m:=m) ge ge]
def leq (x y:af):Bool:=LV (x.size+y.size) x y
theorem Hn {n:Nat}{x y:af} (h:x.size+y.size<=n):LV n x y=leq x y:=Ds h (Nat.le_refl _)
theorem tn (x y:af):leq x y=((x.L.all λ z=> !leq y z) && y.R.all λ z=> !leq z x):=by
 have h:=Hn (n:=x.size+y.size+1) (x:=x) (y:=y) ge;rw [<- h,LV];congr 1
 ·rw [Bool.eq_iff_iff,List.all_eq_true,List.all_eq_true];refine forall_congr' λ z=>forall_congr' λ hz=> ?_;have:=dA hz;grind [Hn]
 ·rw [Bool.eq_iff_iff,List.all_eq_true,List.all_eq_true];refine forall_congr' λ z=>forall_congr' λ hz=> ?_;have:=dB hz;grind [Hn]
def Le (x y:af):Prop:=leq x y=true
theorem cD {x y:af}:Le x y↔(∀z ∈ x.L,¬Le y z)∧∀z ∈ y.R,¬Le z x:=by
 grind [Le,tn]
theorem le_refl (x:af):Le x x:=by
 have key:∀ (n:Nat) (x:af),x.size<=n->Le x x:=by
  intro n;induction n with
  |zero=>grind [bZ]
  |succ n ih=>
   intro x h;refine cD.2 ⟨λ z hz hle=> ?_,λ z hz hle=> ?_⟩
   ·have:=dA hz;grind [cD]
   ·have:=dB hz;grind [cD]
 exact key x.size x (Nat.le_refl _)
theorem le_trans {x y z:af} (h1:Le x y) (h2:Le y z):Le x z:=by
 have key:∀ (n:Nat) (x y z:af),x.size+y.size+z.size<=n->Le x y->Le y z->Le x z:=by
  intro n;induction n with
  |zero=>grind [bZ]
  |succ n ih=>
   intro x y z h h1 h2;refine cD.2 ⟨λ w hw hle=> ?_,λ w hw hle=> ?_⟩
   ·have:=dA hw;grind [cD]
   ·have:=dB hw;grind [cD]
 exact key _ x y z (Nat.le_refl _) h1 h2
def iF (x y:af):Prop:=Le x y∧Le y x
theorem iF.refl (x:af):iF x x:=⟨le_refl x,le_refl x⟩
theorem iF.symm {x y:af} (h:iF x y):iF y x:=⟨h.2,h.1⟩
theorem iF.trans {x y z:af} (h:iF x y) (k:iF y z):iF x z:=⟨le_trans h.1 k.1,le_trans k.2 h.2⟩
def sR:Nat->af->af->af
 |0, _, _=> .mk [] []
 |n+1,x,y=> .mk (x.L.map (λ z=>sR n z y)++y.L.map λ z=>sR n x z) (x.R.map (λ z=>sR n z y)++y.R.map λ z=>sR n x z)
theorem vg:∀ {n m:Nat}{x y:af},x.size+y.size<=n->x.size+y.size<=m->sR n x y=sR m x y
 |0,m,x,y,h, _=>WV
 |n+1,0,x,y, _,h=>WV
 |n+1,m+1,x,y,h1,h2=>by
  rw [sR,sR];have e1:x.L.map (λ z=>sR n z y)=x.L.map λ z=>sR m z y:=List.map_congr_left λ z hz=>by have:=dA hz;exact vg ge ge
  have e2:y.L.map (λ z=>sR n x z)=y.L.map λ z=>sR m x z:=List.map_congr_left λ z hz=>by have:=dA hz;exact vg ge ge
  have e3:x.R.map (λ z=>sR n z y)=x.R.map λ z=>sR m z y:=List.map_congr_left λ z hz=>by have:=dB hz;exact vg ge ge
  have e4:y.R.map (λ z=>sR n x z)=y.R.map λ z=>sR m x z:=List.map_congr_left λ z hz=>by have:=dB hz;exact vg ge ge
  rw [e1,e2,e3,e4]
def add (x y:af):af:=sR (x.size+y.size) x y
theorem xF {n:Nat}{x y:af} (h:x.size+y.size<=n):sR n x y=add x y:=vg h (Nat.le_refl _)
theorem Lk (x y:af):add x y= .mk (x.L.map (λ z=>add z y)++y.L.map λ z=>add x z) (x.R.map (λ z=>add z y)++y.R.map λ z=>add x z):=by
 have h:=xF (n:=x.size+y.size+1) (x:=x) (y:=y) ge;rw [<- h,sR];have e1:x.L.map (λ z=>sR (x.size+y.size) z y)=x.L.map λ z=>add z y:=List.map_congr_left λ z hz=>by have:=dA hz;grind [xF]
 have e2:y.L.map (λ z=>sR (x.size+y.size) x z)=y.L.map λ z=>add x z:=List.map_congr_left λ z hz=>by have:=dA hz;grind [xF]
 have e3:x.R.map (λ z=>sR (x.size+y.size) z y)=x.R.map λ z=>add z y:=List.map_congr_left λ z hz=>by have:=dB hz;grind [xF]
 have e4:y.R.map (λ z=>sR (x.size+y.size) x z)=y.R.map λ z=>add x z:=List.map_congr_left λ z hz=>by have:=dB hz;grind [xF]
 grind
theorem cV {x y z:af}:z ∈ (add x y).L↔(∃w ∈ x.L,z=add w y)∨∃w ∈ y.L,z=add x w:=by
 grind [Lk,L]
theorem cW {x y z:af}:z ∈ (add x y).R↔(∃w ∈ x.R,z=add w y)∨∃w ∈ y.R,z=add x w:=by
 grind [Lk,R]
end af
end Go.Av
end
section
open Go Go.Proofs
namespace Go.Av
namespace af
def zero:af:= .mk [] []
theorem kD {x y:af} (h1:∀z ∈ x.L,∃w ∈ y.L,Le z w) (h2:∀z ∈ y.R,∃w ∈ x.R,Le w z):Le x y:=by
 grind [cD]
theorem D3 (x y:af):Le (add x y) (add y x):=by
 have key:∀ (n:Nat) (x y:af),x.size+y.size<=n->Le (add x y) (add y x):=by
  intro n;induction n with
  |zero=>grind [bZ]
  |succ n ih=>
   intro x y h;refine kD (λ z hz=> ?_) λ z hz=> ?_
   ·rcases cV.1 hz with ⟨w,hw,rfl⟩|⟨w,hw,rfl⟩
    ·have:=dA hw;grind [cV]
    ·have:=dA hw;grind [cV]
   ·rcases cW.1 hz with ⟨w,hw,rfl⟩|⟨w,hw,rfl⟩
    ·have:=dB hw;grind [cW]
    ·have:=dB hw;grind [cW]
 exact key _ x y (Nat.le_refl _)
theorem add_comm (x y:af):iF (add x y) (add y x):=⟨D3 x y,D3 y x⟩
theorem add_assoc (x y z:af):iF (add (add x y) z) (add x (add y z)):=by
 have key:∀ (n:Nat) (x y z:af),x.size+y.size+z.size<=n->Le (add (add x y) z) (add x (add y z))∧Le (add x (add y z)) (add (add x y) z):=by
  intro n;induction n with
  |zero=>grind [bZ]
  |succ n ih=>
   intro x y z h;refine ⟨kD (λ u hu=> ?_) λ u hu=> ?_,kD (λ u hu=> ?_) λ u hu=> ?_⟩
   ·rcases cV.1 hu with ⟨w,hw,rfl⟩|⟨w,hw,rfl⟩
    ·rcases cV.1 hw with ⟨v,hv,rfl⟩|⟨v,hv,rfl⟩
     ·have:=dA hv;grind [cV]
     ·have:=dA hv;grind [cV]
    ·have:=dA hw;grind [cV]
   ·rcases cW.1 hu with ⟨w,hw,rfl⟩|⟨w,hw,rfl⟩
    ·have:=dB hw;grind [cW]
    ·rcases cW.1 hw with ⟨v,hv,rfl⟩|⟨v,hv,rfl⟩
     ·have:=dB hv;grind [cW]
     ·have:=dB hv;grind [cW]
   ·rcases cV.1 hu with ⟨w,hw,rfl⟩|⟨w,hw,rfl⟩
    ·have:=dA hw;grind [cV]
    ·rcases cV.1 hw with ⟨v,hv,rfl⟩|⟨v,hv,rfl⟩
     ·have:=dA hv;grind [cV]
     ·have:=dA hv;grind [cV]
   ·rcases cW.1 hu with ⟨w,hw,rfl⟩|⟨w,hw,rfl⟩
    ·rcases cW.1 hw with ⟨v,hv,rfl⟩|⟨v,hv,rfl⟩
     ·have:=dB hv;grind [cW]
     ·have:=dB hv;grind [cW]
    ·have:=dB hw;grind [cW]
 exact key _ x y z (Nat.le_refl _)
theorem add_zero (x:af):iF (add x zero) x:=by
 have key:∀ (n:Nat) (x:af),x.size<=n->Le (add x zero) x∧Le x (add x zero):=by
  intro n;induction n with
  |zero=>grind [bZ]
  |succ n ih=>
   intro x h;refine ⟨kD (λ u hu=> ?_) λ u hu=> ?_,kD (λ u hu=> ?_) λ u hu=> ?_⟩
   ·rcases cV.1 hu with ⟨w,hw,rfl⟩|⟨w,hw,rfl⟩
    ·have:=dA hw;grind
    ·cases hw
   ·have:=dB hu;grind [cW]
   ·have:=dA hu;grind [cV]
   ·rcases cW.1 hu with ⟨w,hw,rfl⟩|⟨w,hw,rfl⟩
    ·have:=dB hw;grind
    ·cases hw
 exact key _ x (Nat.le_refl _)
mutual
def neg:af->af
 | .mk l r=> .mk (zct r) (zct l)
def zct:List af->List af
 | []=> []
 |x::l=>x.neg::zct l
end
theorem Fz:∀l:List af,zct l=l.map neg
 | []=>X7
 |x::l=>by rw [zct,Fz l];rfl
theorem zY (x:af):x.neg.L=x.R.map neg:=by
 cases x with
 |mk l r=>rw [neg,<- Fz];rfl
theorem zZ (x:af):x.neg.R=x.L.map neg:=by
 cases x with
 |mk l r=>rw [neg,<- Fz];rfl
theorem FA (x:af):x.neg.neg=x:=by
 have key:∀ (n:Nat) (x:af),x.size<=n->x.neg.neg=x:=by
  intro n;induction n with
  |zero=>grind [bZ]
  |succ n ih=>
   intro x h;rw [zfL x.neg.neg,zY,zZ,zZ,zY,List.map_map,List.map_map];have e1:x.L.map (neg∘neg)=x.L:=by
    rw [List.map_congr_left (g:=id) λ z hz=>by have:=dA hz;grind];simp
   have e2:x.R.map (neg∘neg)=x.R:=by
    rw [List.map_congr_left (g:=id) λ z hz=>by have:=dB hz;grind];simp
   grind [zfL]
 exact key _ x (Nat.le_refl _)
theorem zfX (x y:af):Le x.neg y.neg↔Le y x:=by
 have key:∀ (n:Nat) (x y:af),x.size+y.size<=n->(Le x.neg y.neg↔Le y x):=by
  intro n;induction n with
  |zero=>grind [bZ]
  |succ n ih=>
   intro x y h;rw [cD,cD,zY,zZ];constructor
   ·rintro ⟨h1,h2⟩;refine ⟨λ z hz hle=>h2 z.neg (List.mem_map.2 ⟨z,hz,rfl⟩) ?_,λ z hz hle=>h1 z.neg (List.mem_map.2 ⟨z,hz,rfl⟩) ?_⟩
    ·have:=dA hz;grind
    ·have:=dB hz;grind
   ·rintro ⟨h1,h2⟩;refine ⟨λ z hz hle=> ?_,λ z hz hle=> ?_⟩
    ·obtain ⟨w,hw,rfl⟩:=List.mem_map.1 hz;have:=dB hw;grind
    ·obtain ⟨w,hw,rfl⟩:=List.mem_map.1 hz;have:=dA hw;grind
 exact key _ x y (Nat.le_refl _)
end af
end Go.Av
end
section
open Go Go.Proofs
namespace Go.Av
namespace af
def mQ (x:af):List af->Option (List af)
 | []=>none
 |a::l=>match a.R.find? λ b=>leq b x with
  |some b=>some (b.L++l)
  |none=>(mQ x l).map (a::·)
def nj (x:af):List af->Option (List af)
 | []=>none
 |a::l=>match a.L.find? λ b=>leq x b with
  |some b=>some (b.R++l)
  |none=>(nj x l).map (a::·)
theorem mR {x:af}:∀ {l l':List af},mQ x l=some l'->∃a b,a ∈ l∧b ∈ a.R∧Le b x∧(∀z ∈ l',z ∈ l∨z ∈ b.L)∧(∀z ∈ l,z=a∨z ∈ l')∧(∀z ∈ b.L,z ∈ l')∧aD l'<aD l
 | [],l',h=>WP
 |a::l,l',h=>by
  rw [mQ] at h;have hap:∀ (m n:List af),aD (m++n)=aD m+aD n:=by
   intro m n;induction m<;>grind [aD]
  cases hf:a.R.find? λ b=>leq b x with
  |some b=>
   rw [hf] at h;simp only [Option.some.injEq] at h;have hb:=List.mem_of_find?_eq_some hf;have h1:=dB hb;have h2:aD b.L<b.size:=by
    cases b<;>grind [size,L]
   grind [aD,Le]
  |none=>
   rw [hf] at h;obtain ⟨m,hm,rfl⟩:=Option.map_eq_some_iff.1 h;obtain ⟨a',b,h1,h2,h3,h4,h5,h6,h7⟩:=mR hm;refine ⟨a',b,List.mem_cons.2 (.inr h1),h2,h3,λ z hz=> ?_,λ z hz=> ?_,λ z hz=>List.mem_cons.2 (.inr (h6 z hz)),by rw [aD,aD];omega⟩
   ·rcases List.mem_cons.1 hz with h|h
    ·exact .inl (List.mem_cons.2 (.inl h))
    ·exact (h4 z h).imp (λ h=>List.mem_cons.2 (.inr h)) id
   ·rcases List.mem_cons.1 hz with h|h
    ·exact .inr (List.mem_cons.2 (.inl h))
    ·exact (h5 z h).imp id λ h=>List.mem_cons.2 (.inr h)
theorem oc {x:af}:∀ {l l':List af},nj x l=some l'->∃a b,a ∈ l∧b ∈ a.L∧Le x b∧(∀z ∈ l',z ∈ l∨z ∈ b.R)∧(∀z ∈ l,z=a∨z ∈ l')∧(∀z ∈ b.R,z ∈ l')∧aD l'<aD l
 | [],l',h=>WP
 |a::l,l',h=>by
  rw [nj] at h;have hap:∀ (m n:List af),aD (m++n)=aD m+aD n:=by
   intro m n;induction m<;>grind [aD]
  cases hf:a.L.find? λ b=>leq x b with
  |some b=>
   rw [hf] at h;simp only [Option.some.injEq] at h;have hb:=List.mem_of_find?_eq_some hf;have h1:=dA hb;have h2:aD b.R<b.size:=by
    cases b<;>grind [size,R]
   grind [aD,Le]
  |none=>
   rw [hf] at h;obtain ⟨m,hm,rfl⟩:=Option.map_eq_some_iff.1 h;obtain ⟨a',b,h1,h2,h3,h4,h5,h6,h7⟩:=oc hm;refine ⟨a',b,List.mem_cons.2 (.inr h1),h2,h3,λ z hz=> ?_,λ z hz=> ?_,λ z hz=>List.mem_cons.2 (.inr (h6 z hz)),by rw [aD,aD];omega⟩
   ·rcases List.mem_cons.1 hz with h|h
    ·exact .inl (List.mem_cons.2 (.inl h))
    ·exact (h4 z h).imp (λ h=>List.mem_cons.2 (.inr h)) id
   ·rcases List.mem_cons.1 hz with h|h
    ·exact .inr (List.mem_cons.2 (.inl h))
    ·exact (h5 z h).imp id λ h=>List.mem_cons.2 (.inr h)
def kQ:Nat->List af->List af->List af×List af
 |0,l,r=>(l,r)
 |n+1,l,r=>match mQ (.mk l r) l with
  |some l'=>kQ n l' r
  |none=>match nj (.mk l r) r with
   |some r'=>kQ n l r'
   |none=>(l,r)
end af
end Go.Av
end
section
open Go Go.Proofs
namespace Go.Av
namespace af
instance:Inhabited af:=⟨zero⟩
mutual
def text:af->List Nat
 | .mk l r=>123::(textL l++124::(textL r++ [125]))
def textL:List af->List Nat
 | []=> []
 | [x]=>x.text
 |x::y::l=>x.text++44::textL (y::l)
end
theorem zaj (x:af):∃s,x.text=123::s:=by
 cases x with
 |mk l r=>rw [text];grind
theorem SO (x:af) (l:List af):∃s,textL (x::l)=123::s:=by
 obtain ⟨s,hs⟩:=zaj x;cases l<;>grind [textL]
def zde (c:Nat):Prop:=c=124∨c=125
theorem KN:∀ (n:Nat),(∀ (x y:af) (s t:List Nat),x.size<=n->x.text++s=y.text++t->x=y∧s=t)∧
  ∀ (l m:List af) (c d:Nat) (s t:List Nat),aD l<=n->zde c->zde d->textL l++c::s=textL m++d::t->l=m∧c=d∧s=t
 |0=>⟨λ x y s t h=>WV,λ l m c d s t h hc hd he=>by
   cases l with
   |cons x l=>grind [aD,bZ]
   |nil=>
    cases m with
    |nil=>
     grind [textL]
    |cons y m=>
     obtain ⟨u,hu⟩:=SO y m;grind [textL,zde]⟩
 |n+1=>by
  obtain ⟨ih1,ih2⟩:=KN n;have h1:∀ (x y:af) (s t:List Nat),x.size<=n+1->x.text++s=y.text++t->x=y∧s=t:=by
   intro x y s t h he;cases x with
   |mk l r=>
    cases y with
    |mk l' r'=>
     rw [size] at h;rw [text,text] at he;simp only [List.cons_append,List.append_assoc,List.cons.injEq,true_and,List.nil_append] at he;obtain ⟨e1, _,e2⟩:=ih2 l l' 124 124 _ _ ge (.inl rfl) (.inl rfl) he;obtain ⟨e3, _,e4⟩:=ih2 r r' 125 125 _ _ ge (.inr rfl) (.inr rfl) e2;grind
  refine ⟨h1,λ l=> ?_⟩;induction l with
  |nil=>
   grind [aD]
  |cons x l ihl=>
   intro m c d s t h hc hd he;rw [aD] at h;cases m with
   |nil=>
    grind [aD]
   |cons y m=>
    cases l with
    |nil=>
     cases m with
     |nil=>
      grind [textL]
     |cons z m=>
      rw [textL,textL,List.append_assoc] at he;grind [List.cons.injEq,zde]
    |cons w l=>
     cases m with
     |nil=>
      rw [textL,textL,List.append_assoc] at he;obtain ⟨e1,e2⟩:=h1 x y _ _ ge he;rw [List.cons_append,List.cons.injEq] at e2;rcases hd with h|h<;>omega
     |cons z m=>
      rw [textL,textL,List.append_assoc,List.append_assoc] at he;grind
theorem text_inj {x y:af} (h:x.text=y.text):x=y:=((KN x.size).1 x y [] [] (Nat.le_refl _) (by rw [h])).1
def AU:List Nat->List Nat->Bool
 | _, []=>false
 | [], _:: _=>true
 |a::s,b::t=>decide (a<b)||(decide (a=b) && AU s t)
theorem ql:∀s:List Nat,AU s s=false
 | []=>rfl
 |a::s=>by rw [AU,ql s];simp
theorem zn:∀ {s t u:List Nat},AU s t=true->AU t u=true->AU s u=true
 | _, [], _,h, _=>by simp [AU] at h
 | _,b::t, [], _,h=>by simp [AU] at h
 | [],b::t,c::u, _, _=>rfl
 |a::s,b::t,c::u,h,k=>by
  simp only [AU,Bool.or_eq_true,Bool.and_eq_true,decide_eq_true_eq] at h k ⊢;rcases h with h|⟨rfl,h⟩
  ·rcases k with k|⟨rfl,k⟩
   ·exact .inl ge
   ·exact .inl h
  ·rcases k with k|⟨rfl,k⟩
   ·exact .inl k
   ·exact .inr ⟨rfl,zn h k⟩
theorem zm:∀ (s t:List Nat),AU s t=true∨s=t∨AU t s=true
 | [], []=> .inr (.inl rfl)
 | [],b::t=> .inl rfl
 |a::s, []=> .inr (.inr rfl)
 |a::s,b::t=>by
  simp only [AU,Bool.or_eq_true,Bool.and_eq_true,decide_eq_true_eq,List.cons.injEq];rcases Nat.lt_trichotomy a b with h|rfl|h
  ·exact .inl (.inl h)
  ·rcases zm s t with h|h|h
   ·exact .inl (.inr ⟨rfl,h⟩)
   ·exact .inr (.inl ⟨rfl,h⟩)
   ·exact .inr (.inr (.inr ⟨rfl,h⟩))
  ·exact .inr (.inr (.inl h))
def ub (x:af):List af->List af
 | []=> [x]
 |y::l=>if AU y.text x.text=true then y::ub x l else x::y::l
def cY (l:List af):List af:=l.foldl (λ o x=>ub x o) []
theorem Cd {x z:af}:∀ {l:List af},z ∈ ub x l↔z=x∨z ∈ l
 | []=>by simp [ub]
 |y::l=>by
  rw [ub];split
  ·rw [List.mem_cons,Cd (l:=l),List.mem_cons];constructor
   ·rintro (h|h|h)
    ·exact .inr (.inl h)
    ·exact .inl h
    ·exact .inr (.inr h)
   ·rintro (h|h|h)
    ·exact .inr (.inl h)
    ·exact .inl h
    ·exact .inr (.inr h)
  ·rw [List.mem_cons]
theorem vG {z:af}:∀ {l o:List af},z ∈ l.foldl (λ o x=>ub x o) o↔z ∈ o∨z ∈ l
 | [],o=>gt
 |x::l,o=>by
  rw [List.foldl_cons,vG (l:=l),Cd,List.mem_cons];constructor
  ·rintro ((h|h)|h)
   ·exact .inr (.inl h)
   ·exact .inl h
   ·exact .inr (.inr h)
  ·rintro (h|h|h)
   ·exact .inl (.inr h)
   ·exact .inl (.inl h)
   ·exact .inr h
theorem cx {z:af}{l:List af}:z ∈ cY l↔z ∈ l:=by
 grind [cY,vG]
def FH (l:List af):Prop:=l.Pairwise λ a b=>AU a.text b.text=true
theorem OG {x:af}:∀ {l:List af},FH l->x ∉ l->FH (ub x l)
 | [], _, _=>List.pairwise_singleton _ _
 |y::l,h,hn=>by
  rw [ub];obtain ⟨h1,h2⟩:=List.pairwise_cons.1 h;split
  ·rename_i hlt;refine List.pairwise_cons.2 ⟨λ z hz=> ?_,OG h2 λ h=>hn (List.mem_cons.2 (.inr h))⟩;rcases Cd.1 hz with rfl|hz
   ·exact hlt
   ·exact h1 z hz
  ·rename_i hlt;have hxy:AU x.text y.text=true:=by
    rcases zm y.text x.text with h|h|h
    ·exact absurd h hlt
    ·exact absurd (text_inj h).symm λ e=>hn (List.mem_cons.2 (.inl e))
    ·exact h
   refine List.pairwise_cons.2 ⟨λ z hz=> ?_,h⟩;rcases List.mem_cons.1 hz with rfl|hz
   ·exact hxy
   ·exact zn hxy (h1 z hz)
theorem JS:∀ {l o:List af},FH o->l.Nodup->(∀x ∈ l,x ∉ o)->FH (l.foldl (λ o x=>ub x o) o)
 | [],o,h, _, _=>h
 |x::l,o,h,hn,hd=>by
  rw [List.foldl_cons];obtain ⟨h1,h2⟩:=List.nodup_cons.1 hn;refine JS (OG h (hd x gt)) h2 λ z hz hzo=> ?_;rcases Cd.1 hzo with rfl|hzo
  ·exact h1 hz
  ·exact hd z (List.mem_cons.2 (.inr hz)) hzo
theorem qz {l:List af} (h:l.Nodup):FH (cY l):=JS List.Pairwise.nil h λ x _=>gt
theorem Cb:∀ {l m:List af},FH l->FH m->(∀z,z ∈ l↔z ∈ m)->l=m
 | [], [], _, _, _=>rfl
 | [],y::m, _, _,h=>by have:=(h y).2 gt;cases this
 |x::l, [], _, _,h=>by have:=(h x).1 gt;cases this
 |x::l,y::m,hl,hm,h=>by
  obtain ⟨l1,l2⟩:=List.pairwise_cons.1 hl;obtain ⟨m1,m2⟩:=List.pairwise_cons.1 hm;have hxy:x=y:=by
   rcases List.mem_cons.1 ((h x).1 gt) with e|e
   ·exact e
   ·rcases List.mem_cons.1 ((h y).2 gt) with e2|e2
    ·exact e2.symm
    ·have:=zn (m1 x e) (l1 y e2);rw [ql] at this;cases this
  subst hxy;have key:∀z,z ∈ l↔z ∈ m:=λ z=>by
   have hz:=h z;rw [List.mem_cons,List.mem_cons] at hz;constructor
   ·intro hzl;rcases hz.1 (.inr hzl) with rfl|h2
    ·have:=l1 z hzl;rw [ql] at this;cases this
    ·exact h2
   ·intro hzm;rcases hz.2 (.inr hzm) with rfl|h2
    ·have:=m1 z hzm;rw [ql] at this;cases this
    ·exact h2
  rw [Cb l2 m2 key]
theorem AQ {l:List af} (h:FH l):l.Nodup:=List.Pairwise.imp (λ {a b} hab e=>by grind [ql]) h
end af
end Go.Av
end
section
/- Plain: chapter 20: canonical forms. -/
open Go Go.Proofs
namespace Go.Av
namespace af
theorem countP_lt {α:Type}{p q:α->Bool}:∀ {m:List α},(∀a ∈ m,p a=true->q a=true)->(∃a ∈ m,q a=true∧p a=false)->m.countP p<m.countP q
 | [], _,⟨a,ha, _⟩=>by cases ha
 |b::m,h,⟨a,ha,h1,h2⟩=>by
  have hle:m.countP p<=m.countP q:=List.countP_mono_left λ a ha hpa=>h a (List.mem_cons.2 (.inr ha)) hpa;rcases List.mem_cons.1 ha with rfl|ha
  ·grind
  ·have:=countP_lt (m:=m) (λ a ha=>h a (List.mem_cons.2 (.inr ha))) ⟨a,ha,h1,h2⟩;grind
theorem zcr {l:List af}{z:af} (h:z ∈ l):∃i,i<l.length∧z=ac l i:=by
 obtain ⟨i,hi,rfl⟩:=List.getElem_of_mem h;exact ⟨i,hi,(dT _ _ hi).symm⟩
def eZ (le:af->af->Bool) (l:List af) (i k:Nat):Bool:=decide (i≠k) && (le (ac l i) (ac l k) && (decide (k<i)|| !le (ac l k) (ac l i)))
def iO (le:af->af->Bool) (l:List af) (i:Nat):Bool:= !(List.range l.length).any (eZ le l i)
def cJ (le:af->af->Bool) (l:List af):List af:=((List.range l.length).filter (iO le l)).map (ac l)
structure K9 (le:af->af->Bool):Prop where
 refl:∀x,le x x=true
 trans:∀ {x y z},le x y=true->le y z=true->le x z=true
theorem tJ:K9 leq:=⟨le_refl,λ h k=>le_trans h k⟩
theorem tH:K9 λ x y=>leq y x:=⟨le_refl,λ h k=>le_trans k h⟩
section
variable {le:af->af->Bool} (hp:K9 le) {l:List af}
theorem oa {i k:Nat}:eZ le l i k=true↔i≠k∧le (ac l i) (ac l k)=true∧(k<i∨le (ac l k) (ac l i)=false):=by
 grind [eZ]
include hp
theorem QD {i k:Nat} (hi:i<l.length) (hk:k<l.length) (h1:iO le l i=true) (h2:iO le l k=true) (hne:i≠k):le (ac l i) (ac l k)=false:=by
 rw [Bool.eq_false_iff];unfold iO at h1 h2;rw [Bool.not_eq_true',List.any_eq_false] at h1 h2;have a1:=h1 k (List.mem_range.2 hk);have a2:=h2 i (List.mem_range.2 hi);grind [eZ]
end
theorem zdO {le:af->af->Bool} (hp:K9 le){l:List af}:(cJ le l).Pairwise λ a b=>le a b=false∧le b a=false:=by
 unfold cJ;grind [List.pairwise_lt_range,List.Pairwise.imp_of_mem,QD]
def FF (le:af->af->Bool) (l:List af):Prop:=∀a ∈ l,∀b ∈ l,le a b=true->a=b
theorem qT {le:af->af->Bool} (hp:K9 le){l:List af}:FF le (cJ le l)∧(cJ le l).Nodup:=by
 have h:=zdO hp (l:=l);refine ⟨λ a ha b hb hle=> ?_,List.Pairwise.imp (λ {a b} hab e=>by rw [e,hp.refl] at hab;grind) h⟩;grind [List.pairwise_iff_getElem,cJ]
def bM:Nat->af->af
 |0,x=>x
 |n+1,x=>
  let p:=kQ (aD (x.L.map (bM n))+aD (x.R.map (bM n))+1) (x.L.map (bM n)) (x.R.map (bM n))
  .mk (cY (cJ leq p.1)) (cY (cJ (λ a b=>leq b a) p.2))
inductive zF:af->Prop
 |mk {l r:List af} (hl:∀z ∈ l,zF z) (hr:∀z ∈ r,zF z) (b1:∀a ∈ l,∀b ∈ a.R,¬Le b (.mk l r)) (b2:∀a ∈ r,∀b ∈ a.L,¬Le (.mk l r) b)
   (a1:FF leq l) (a2:FF (λ a b=>leq b a) r) (s1:FH l) (s2:FH r):zF (.mk l r)
theorem zF.parts {x:af} (h:zF x):(∀z ∈ x.L,zF z)∧∀z ∈ x.R,zF z:=by
 cases h with
 |mk hl hr=>grind [L,R]
def canon (x:af):af:=bM x.size x
end af
end Go.Av
end
section
open Go Go.Proofs
namespace Go.Av
theorem Ck {α:Type}{T:TK}{key val:α->AV} (hk:∀a b,∃r,mi T (key a) (key b)=some r∧(r=true↔a=b)) (a:α):∀l:List α,
  (a ∈ l->eM T (key a) (l.map λ x=> [key x,val x])=some (some (val a)))∧
  (a ∉ l->eM T (key a) (l.map λ x=> [key x,val x])=some none∧∀v,gz T (key a) v (l.map λ x=> [key x,val x])=some ((l.map λ x=> [key x,val x])++ [[key a,v]]))
 | []=>⟨λ h=>WZ,λ _=>⟨rfl,λ v=>rfl⟩⟩
 |b::l=>by
  obtain ⟨r,h1,h2⟩:=hk a b;obtain ⟨i1,i2⟩:=Ck hk a l;have e:∀x:α,mZ [key x,val x] 0=key x∧mZ [key x,val x] 1=val x:=λ x=>⟨rfl,rfl⟩
  cases r with
  |true=>
   obtain rfl:=h2.1 rfl;refine ⟨λ _=> ?_,λ h=>absurd gt h⟩;rw [List.map_cons,eM,(e a).1,h1];simp only [(e a).2]
  |false=>
   have hne:a≠b:=λ h=>by have:=h2.2 h;cases this
   refine ⟨λ h=> ?_,λ h=> ?_⟩
   ·rw [List.map_cons,eM,(e b).1,h1];exact i1 pi
   grind [eM,gz]
namespace af
mutual
theorem text_lt:∀ (f:af),∀c ∈ f.text,c<256
 | .mk l r=>by
  intro c hc;rw [text] at hc;simp only [List.mem_cons,List.mem_append,List.not_mem_nil,or_false] at hc;rcases hc with rfl|hc|rfl|hc|rfl
  ·omega
  ·exact Ih l c hc
  ·omega
  ·exact Ih r c hc
  ·omega
theorem Ih:∀ (l:List af),∀c ∈ textL l,c<256
 | []=>Yl
 | [x]=>by exact text_lt x
 |x::y::l=>by
  intro c hc;rw [textL] at hc;simp only [List.mem_append,List.mem_cons] at hc;rcases hc with hc|rfl|hc
  ·exact text_lt x c hc
  ·omega
  ·exact Ih (y::l) c hc
end
end af
def jP (l:List Nat):ByteArray:=⟨(l.map UInt8.ofNat).toArray⟩
def iA (f:af):ByteArray:=jP f.text
theorem Ey:∀ {a b:List Nat},(∀c ∈ a,c<256)->(∀c ∈ b,c<256)->a.map UInt8.ofNat=b.map UInt8.ofNat->a=b
 | [], [], _, _, _=>rfl
 | [], _:: _, _, _,h=>WZ
 | _:: _, [], _, _,h=>WZ
 |x::a,y::b,ha,hb,h=>by
  simp only [List.map_cons,List.cons.injEq] at h;have h1:=ha x gt;have h2:=hb y gt;have e:x=y:=by
   have:=congrArg UInt8.toNat h.1;simpa [UInt8.toNat_ofNat',Nat.mod_eq_of_lt h1,Nat.mod_eq_of_lt h2] using this
  rw [e,Ey (λ c hc=>ha c Wy) (λ c hc=>hb c Wy) h.2]
theorem QG {a b:List Nat} (ha:∀c ∈ a,c<256) (hb:∀c ∈ b,c<256) (h:jP a=jP b):a=b:=by
 grind [jP,Ey]
theorem KM {x y:af} (h:iA x=iA y):x=y:=af.text_inj (QG (af.text_lt x) (af.text_lt y) h)
instance:DecidableEq af:=λ a b=>if h:iA a=iA b then .isTrue (KM h) else .isFalse λ e=>h (by rw [e])
theorem DR (x y:af):((iA x==iA y)=true)↔x=y:=by
 grind [sx,KM]
mutual
def ce:af->List AV
 | .mk l r=> [.lst 2 (GE l), .lst 2 (GE r)]
def GE:List af->List (List AV)
 | []=> []
 |x::l=>ce x::GE l
end
theorem BK:∀l:List af,GE l=l.map ce
 | []=>rfl
 |x::l=>by rw [GE,BK l];rfl
theorem oY (f:af):ce f= [.lst 2 (f.L.map ce), .lst 2 (f.R.map ce)]:=by
 cases f with
 |mk l r=>rw [ce,BK,BK];rfl
def bS (f:af):AV:= .agg (ce f)
mutual
theorem De (n:Nat):∀ (f:af),∀c ∈ ce f,aN n c
 | .mk l r=>by
  intro c hc;rw [ce] at hc;simp only [List.mem_cons,List.not_mem_nil,or_false] at hc;rcases hc with rfl|rfl
  ·exact .lst (zc n l)
  ·exact .lst (zc n r)
theorem zc (n:Nat):∀ (l:List af),∀r ∈ GE l,∀c ∈ r,aN n c
 | []=>by simp [GE]
 |x::l=>by
  intro r hr c hc;rcases List.mem_cons.1 hr with rfl|hr
  ·exact De n x c hc
  ·exact zc n l r hr c hc
end
theorem lS (n:Nat) (f:af):aN n (bS f):= .agg (De n f)
mutual
def gI:af->AV
 | .mk l r=> .fp [.v (.string (iA (.mk l r))), .lst 1 (bB l), .lst 1 (bB r)]
def bB:List af->List (List AV)
 | []=> []
 |x::l=> [gI x]::bB l
end
theorem nt:∀l:List af,bB l=l.map λ x=> [gI x]
 | []=>rfl
 |x::l=>by rw [bB,nt l];rfl
theorem cp (f:af):gI f= .fp [.v (.string (iA f)), .lst 1 (bB f.L), .lst 1 (bB f.R)]:=by
 cases f with
 |mk l r=>rfl
mutual
theorem gv (n:Nat):∀ (f:af),aN n (gI f)
 | .mk l r=>by
  refine .fp λ c hc=> ?_;simp only [List.mem_cons,List.not_mem_nil,or_false] at hc;rcases hc with rfl|rfl|rfl
  ·exact .v _
  ·exact .lst (lu n l)
  ·exact .lst (lu n r)
theorem lu (n:Nat):∀ (l:List af),∀r ∈ bB l,∀c ∈ r,aN n c
 | []=>by simp [bB]
 |x::l=>by
  intro r hr c hc;rcases List.mem_cons.1 hr with rfl|hr
  ·simp only [List.mem_cons,List.not_mem_nil,or_false] at hc;subst hc;exact gv n x
  ·exact lu n l r hr c hc
end
structure df where
 ns:List af
 qs:List (af×af)
 cs:List af
def It (f:af):AV:= .v (.string (iA f))
def yx (f:af):List AV:= [It f,gI f]
def xb (p:af×af):AV:= .agg [It p.1,It p.2]
def v8 (p:af×af):List AV:= [xb p, .v (.bool (af.leq p.1 p.2))]
def vM (f:af):List AV:= [It f,gI f.canon]
theorem SD (a b:af):∃r,mi .string (It a) (It b)=some r∧(r=true↔a=b):=⟨_,rfl,DR a b⟩
theorem TT (a b:af×af):∃r,mi (.many [2,2]) (xb a) (xb b)=some r∧(r=true↔a=b):=by
 refine ⟨_,rfl, ?_⟩;grind [DR]
theorem zfQ (f:af) (ns:List af):(f ∈ ns->eM .string (It f) (ns.map yx)=some (some (gI f)))∧
  (f ∉ ns->eM .string (It f) (ns.map yx)=some none∧∀v,gz .string (It f) v (ns.map yx)=some (ns.map yx++ [[It f,v]])):=Ck SD f ns
theorem Q3 (p:af×af) (qs:List (af×af)):(p ∈ qs->eM (.many [2,2]) (xb p) (qs.map v8)=some (some (.v (.bool (af.leq p.1 p.2)))))∧
  (p ∉ qs->eM (.many [2,2]) (xb p) (qs.map v8)=some none∧∀v,gz (.many [2,2]) (xb p) v (qs.map v8)=some (qs.map v8++ [[xb p,v]])):=Ck TT p qs
theorem Q1 (f:af) (cs:List af):(f ∈ cs->eM .string (It f) (cs.map vM)=some (some (gI f.canon)))∧
  (f ∉ cs->eM .string (It f) (cs.map vM)=some none∧∀v,gz .string (It f) v (cs.map vM)=some (cs.map vM++ [[It f,v]])):=Ck SD f cs
end Go.Av
end
section
open Go Go.Proofs
namespace Go.Av
theorem Va (f:af):(ce f).length=2:=by rw [oY];rfl
theorem QU (f:af):(ce f).take 2=ce f:=by rw [oY];rfl
theorem Gi (n:Nat) (l:List af):(∀r ∈ l.map ce,∀c ∈ r,aN n c)=True:=eq_true (by rw [<- BK];exact zc n l)
theorem UK (n:Nat) (f:af):(∀c ∈ ce f,aN n c)=True:=eq_true (De n f)
attribute [go_sem] Va QU
attribute [go_sem ↓] Gi UK
open af
variable {i:Nat}
theorem rX {l:List af} (h:i<l.length):aD (l.take (i+1))=aD (l.take i)+(ac l i).size:=by
 induction l generalizing i with
 |nil=>simp at h
 |cons x l ih=>
  cases i<;>grind [aD,fW,dv]
theorem ly (l:List af) (i:Nat):aD (l.take i)<=aD l:=by
 induction l generalizing i with
 |nil=>grind
 |cons x l ih=>
  cases i<;>grind [aD]
theorem qk (l:List af):l.length<=aD l:=by
 induction l<;>grind [aD,bZ]
theorem nP (f:af):f.size=1+aD f.L+aD f.R:=by
 cases f<;>grind [size,af.L,af.R]
theorem dU {f:af} (h:i<f.L.length):(ac f.L i).size<f.size:=dA (am h)
theorem eH {f:af} (h:i<f.R.length):(ac f.R i).size<f.size:=dB (am h)
theorem nA (f:af):f.L.length<f.size:=by
 grind [nP,qk]
theorem nB (f:af):f.R.length<f.size:=by
 grind [nP,qk]
theorem Nf:∀ (n:Nat) (f:af),f.size<=n->n<=1099511627776->aq Tryz.prog 53 [bS f] (.int f.size):=by
 intro n;induction n with
 |zero=>intro f hf;have:=bZ f;omega
 |succ n ih=>
  intro f hf hn;have e1:=nP f;have e2:=nA f;have e3:=nB f;rw [bS,oY];refine pF Tryz.func53 ?_;refine J0 ?_;refine zg3 (zg5 (α:=Nat) (λ i=>⟨[(1, .ref 0 0 2 0 0),(3, .int (1+aD (f.L.take i):Nat)),(4, .int i)], [(0, .rows true 0 2 [[.lst 2 (f.L.map ce), .lst 2 (f.R.map ce)]])],1⟩)
   (λ d i=>i+d=f.L.length) ?_ f.L.length 0 ?_) ?_ ?_
  ·intro d i hi hrec;have t1:=ly f.L i;refine J0 ?_;refine zg4 (λ hl=> ?_) (λ hl=> ?_)<;>simp at hl
   ·have hl':i<f.L.length:=by omega
    have t2:=rX hl';have t3:=ly f.L (i+1);repeat first|refine wV λ _=>?_|simp [go_sem,hl',aJ ce f.L i hl']
    refine zg7 (ih _ ge ge) Yu ?_;refine J0 ?_;refine zg3 (hrec (d - 1) ge (i+1) ge) ?_ gt;have t5:(1+(aD (f.L.take (i+1)):Int))=1+aD (f.L.take i)+(ac f.L i).size:=ge;simp [go_sem,aj,t5]
   ·obtain rfl:i=f.L.length:=by omega
    rw [List.take_length] at t1;refine J0 ?_;refine zg3 (zg5 (α:=Nat) (λ i=>⟨[(1, .ref 0 0 2 0 0),(3, .int (1+(aD f.L+aD (f.R.take i)):Nat)),(5, .int i)], [(0, .rows true 0 2 [[.lst 2 (f.L.map ce), .lst 2 (f.R.map ce)]])],1⟩)
     (λ d i=>i+d=f.R.length) ?_ f.R.length 0 ?_) ?_ ?_
    ·intro d i hi hrec;have t1:=ly f.R i;refine J0 ?_;refine zg4 (λ hl2=> ?_) (λ hl2=> ?_)<;>simp at hl2
     ·have hl':i<f.R.length:=by omega
      have t2:=rX hl';have t3:=ly f.R (i+1);repeat first|refine wV λ _=>?_|simp [go_sem,hl',aJ ce f.R i hl']
      refine zg7 (ih _ ge ge) Yu ?_;refine J0 ?_;refine zg3 (hrec (d - 1) ge (i+1) ge) ?_ gt;have t5:(1+((aD f.L:Int)+(aD (f.R.take (i+1)):Int)))=1+((aD f.L:Int)+aD (f.R.take i))+(ac f.R i).size:=ge;simp [go_sem,aj,t5]
     ·obtain rfl:i=f.R.length:=by omega
      rw [List.take_length] at t1;refine J0 ?_;simp [go_sem,e1]
    ·omega
    ·simp [go_sem,aj,aD]
    ·simp
  ·omega
  ·simp [go_sem,aj,aD]
  ·simp
theorem RC {a b:af} (h:i<a.L.length) (hl:leq b (ac a.L i)=true):leq a b=false:=by
 grind [tn,ac]
theorem RD {a b:af} (h:i<b.R.length) (hl:leq (ac b.R i) a=true):leq a b=false:=by
 grind [tn,ac]
theorem zcm {a b:af} (h1:∀i,i<a.L.length->leq b (ac a.L i)=false) (h2:∀i,i<b.R.length->leq (ac b.R i) a=false):leq a b=true:=by
 grind [tn,zcr]
theorem FK:∀ (n:Nat) (a b:af),a.size+b.size<=n->n<=1099511627776->aq Tryz.prog 62 [bS a,bS b] (.bool (leq a b)):=by
 intro n;induction n with
 |zero=>intro a b hf;have:=bZ a;omega
 |succ n ih=>
  intro a b hf hn;have e2:=nA a;have e3:=nB b;have ihL:∀i,i<a.L.length->aq Tryz.prog 62 [bS b,bS (ac a.L i)] (.bool (leq b (ac a.L i))):=λ i hi=>ih _ _ WC ge;have ihR:∀i,i<b.R.length->aq Tryz.prog 62 [bS (ac b.R i),bS a] (.bool (leq (ac b.R i) a)):=λ i hi=>ih _ _ WD ge;obtain ⟨r,hr⟩:∃r,r=leq a b:=⟨_,rfl⟩
  rw [<- hr];have fL:∀i,i<a.L.length->leq b (ac a.L i)=true->r=false:=λ i hi h=>hr.trans (RC hi h);have fR:∀i,i<b.R.length->leq (ac b.R i) a=true->r=false:=λ i hi h=>hr.trans (RD hi h);have fT:(∀i,i<a.L.length->leq b (ac a.L i)=false)->(∀i,i<b.R.length->leq (ac b.R i) a=false)->r=true:=λ h1 h2=>hr.trans (zcm h1 h2);clear hr;rw [bS,bS] at *;obtain ⟨ra,hra⟩:∃ra,ra=ce a:=⟨_,rfl⟩
  obtain ⟨rb,hrb⟩:∃rb,rb=ce b:=⟨_,rfl⟩
  have hla:ra= [.lst 2 (a.L.map ce), .lst 2 (a.R.map ce)]:=by rw [hra,oY]
  have hlb:rb= [.lst 2 (b.L.map ce), .lst 2 (b.R.map ce)]:=by rw [hrb,oY]
  rw [<- hrb] at ihL;rw [<- hra] at ihR;rw [<- hra,<- hrb];clear hra hrb;have bra:∀n,(∀c ∈ ra,aN n c)=True:=λ n=>by rw [hla];simp [go_sem]
  have brb:∀n,(∀c ∈ rb,aN n c)=True:=λ n=>by rw [hlb];simp [go_sem]
  have lra:ra.length=2:=pi;have lrb:rb.length=2:=pi;have ta:ra.take 2=ra:=pi;have tb:rb.take 2=rb:=pi;have ca:mZ ra 0= .lst 2 (a.L.map ce):=by rw [hla];rfl
  have cb:mZ rb 1= .lst 2 (b.R.map ce):=by rw [hlb];rfl
  refine pF Tryz.func62 ?_;refine J2 lra lrb ?_;refine zg3 (zg5 (α:=Nat) (λ i=>⟨[(2, .ref 0 0 2 0 0),(3, .ref 1 0 2 0 0),(5, .int i)], [(0, .rows true 0 2 [ra]),(1, .rows true 0 2 [rb])],2⟩)
   (λ d i=>i+d=a.L.length∧∀j,j<i->leq b (ac a.L j)=false) ?_ a.L.length 0 ?_) ?_ ?_
  ·rintro d i ⟨hi,hj⟩ hrec;refine J3 lra lrb ca ?_;refine zg4 (λ hl=> ?_) (λ hl=> ?_)<;>simp at hl
   ·have hl':i<a.L.length:=by omega
    repeat first|refine wV λ _=>?_|simp [go_sem,lra,lrb,ca,hl',aJ ce a.L i hl']
    refine zhc (ihL i hl') (by simp [go_sem,bra,brb]) ?_;repeat first|refine wV λ _=>?_|simp [go_sem,lra,lrb,ca,hl',aJ ce a.L i hl']
    refine zg4 (λ hq=> ?_) (λ hq=> ?_)
    ·repeat first|refine wV λ _=>?_|simp [go_sem,fL i hl' hq]
    ·refine J0 ?_;refine zg3 (hrec (d - 1) ge (i+1) ⟨ge,λ j hj2=> ?_⟩) ?_ gt
     ·grind
     ·simp [go_sem,aj,bra,brb]
   ·obtain rfl:i=a.L.length:=by omega
    refine J0 ?_;refine zg3 (zg5 (α:=Nat) (λ i=>⟨[(2, .ref 0 0 2 0 0),(3, .ref 1 0 2 0 0),(6, .int i)], [(0, .rows true 0 2 [ra]),(1, .rows true 0 2 [rb])],2⟩)
     (λ d i=>i+d=b.R.length∧∀j,j<i->leq (ac b.R j) a=false) ?_ b.R.length 0 ?_) ?_ ?_
    ·rintro d i ⟨hi,hk⟩ hrec;refine J3 lra lrb cb ?_;refine zg4 (λ hl=> ?_) (λ hl=> ?_)<;>simp at hl
     ·have hl':i<b.R.length:=by omega
      repeat first|refine wV λ _=>?_|simp [go_sem,lra,lrb,cb,hl',aJ ce b.R i hl']
      refine zhc (ihR i hl') (by simp [go_sem,bra,brb]) ?_;repeat first|refine wV λ _=>?_|simp [go_sem,lra,lrb,cb,hl',aJ ce b.R i hl']
      refine zg4 (λ hq=> ?_) (λ hq=> ?_)
      ·repeat first|refine wV λ _=>?_|simp [go_sem,fR i hl' hq]
      ·refine J0 ?_;refine zg3 (hrec (d - 1) ge (i+1) ⟨ge,λ j hj2=> ?_⟩) ?_ gt
       ·grind
       ·simp [go_sem,aj,bra,brb]
     ·obtain rfl:i=b.R.length:=by omega
      repeat first|refine wV λ _=>?_|simp [go_sem,fT hj hk]
    ·grind
    ·simp [go_sem,aj,bra,brb]
    ·simp
  ·grind
  ·simp [go_sem,aj,bra,brb]
  ·simp
end Go.Av
end
