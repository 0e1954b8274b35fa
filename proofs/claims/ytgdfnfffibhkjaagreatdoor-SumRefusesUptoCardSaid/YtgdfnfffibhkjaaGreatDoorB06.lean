/- Texts of ours, part 6: our library and contracts of functions. -/
import Derived.Test.YtgdfnfffibhkjaaGreatDoorB05
set_option linter.unusedSimpArgs false
set_option linter.unusedVariables false
set_option maxRecDepth 100000
set_option maxHeartbeats 40000000
section
open Go Go.Proofs
namespace Go.Av
theorem nth_z {α:Type} [Inhabited α] (x:α) (l:List α):nth (x::l) 0=x:=rfl
theorem zqX {α:Type} [Inhabited α] (l:List α) (i j:Nat) (v:α):nth (l.set i v) j=if i=j∧j<l.length then v else nth l j:=by
 grind [nth]
structure ziR (g:zaa) (l:List Int):Prop where
 len:l.length=g.kinds.length
 v:∀i,i<l.length->0<=nth l i∧nth l i<=8∧(0<nth l i->(nth g.kinds i).keep=true)
theorem zpn:∀ (l:List Int) (ks:List zhn),l.length=ks.length->(zed l ks=true↔∀i,i<l.length->0<=nth l i∧nth l i<=8∧(0<nth l i->(nth ks i).keep=true))
 | [], [], _=>by simp [zed]
 |x::l,k::ks,h=>by
  have ih:=zpn l ks bJ;rw [zed];simp only [Bool.and_eq_true,decide_eq_true_eq,Bool.or_eq_true,Bool.not_eq_true'];rw [ih];constructor
  ·rintro ⟨⟨⟨h1,h2⟩,h3⟩,h4⟩ i hi;cases i with
   |zero=>
    refine ⟨h1,h2,λ h=> ?_⟩;rcases h3 with h3|h3
    ·rw [nth_z] at h;simp at h3;omega
    ·exact h3
   |succ i=>exact h4 i au
  ·intro h;have h0:=h 0 ac;refine ⟨⟨⟨h0.1,h0.2.1⟩, ?_⟩,λ i hi=>h (i+1) au⟩;by_cases hx:0<x
   ·exact .inr (h0.2.2 hx)
   ·exact .inl (by simpa using hx)
variable {l names of:List Int} {g:zaa}
theorem zuF :zil g l=true↔ziR g l:=by
 unfold zil;rw [Bool.and_eq_true,decide_eq_true_eq];exact ⟨λ ⟨a,b⟩=>⟨a,(zpn _ _ a).1 b⟩,λ ⟨a,b⟩=>⟨a,(zpn _ _ a).2 b⟩⟩
structure POk (g:zaa) (p:zae):Prop where
 al:(p.at_.length:Int)=g.cells
 av:∀c ∈ p.at_,0<=c∧c<=2 * g.kinds.length
 h0:ziR g p.h0
 h1:ziR g p.h1
 r0:0<=p.rights
 r1:p.rights<2 ^ g.rights.toNat
 s:p.side=0∨p.side=1
variable {p:zae}
theorem zpz :ztZ g p=true↔POk g p:=by
 rw [zsX,zuF,zuF];exact ⟨λ ⟨a,b,c,d,e,f,g⟩=>⟨a,b,c,d,e,f,g⟩,λ ⟨a,b,c,d,e,f,g⟩=>⟨a,b,c,d,e,f,g⟩⟩
theorem POk.fits  (hg:GOk g) (h:POk g p):zbc p:=by
 have:=hg.c9;have:=hg.k6;have a:=h.al;have b:=h.h0.len;have c:=h.h1.len;grind [zbc,zkq]
structure zjk (g:zaa) (s:StD):Prop where
 p:POk g s.p
 c0:0<=s.cursor
 c1:s.cursor<g.cells
 k:0<=s.kind∧s.kind<g.kinds.length
variable {c cell d dirs kinds r rights side:Int}
theorem zbn {K:Nat} (h0:0<=c) (h1:c<=2 * K) (hK:K<=6):
  (c=0∧zat c=(-1, -1))∨(c≠0∧0<=(zat c).1∧(zat c).1<K∧((zat c).2=0∨(zat c).2=1)∧c=1+2 * (zat c).1+(zat c).2):=by
 grind [zat]
theorem zxH {k s:Int}{K:Nat} (hk:0<=k∧k<K) (hK:K<=6) (hs:s=0∨s=1):zdF k s=1+2 * k+s:=by
 grind [zdF]
theorem zxp:∀ (r:Fin 16) (m:Fin 4),0<=zgl .i64 (r.val:Int) (2 ^ m.val)∧zgl .i64 (r.val:Int) (2 ^ m.val)<=(r.val:Int):=ai
theorem zF0 {m:Nat} (h0:0<=r) (h1:r<16) (hm:m<4):0<=zgl .i64 r (2 ^ m)∧zgl .i64 r (2 ^ m)<=r:=by
 have:=zxp ⟨r.toNat,aa⟩ ⟨m,hm⟩;grind
theorem zq1  (h0:0<=r) (h4:r<=4):(1:Int)<=2 ^ r.toNat∧(2:Int) ^ r.toNat<=16:=by
 rcases (show r.toNat=0∨r.toNat=1∨r.toNat=2∨r.toNat=3∨r.toNat=4 by omega) with h|h|h|h|h<;>rw [h]<;>decide
theorem zuR {b:zbg} (hb:zbE b){side d c:Int}:∀ (f:Nat) (x:Int) (seen:List Int),x<b.cells->(∀y ∈ seen,0<=y∧y<b.cells)->∀y ∈ ziu b side d c f x seen,0<=y∧y<b.cells
 |0,x,seen, _,h,y,hy=>h y hy
 |f+1,x,seen,hx,h,y,hy=>by
  rw [ziu] at hy;split at hy
  ·rename_i hc;refine zuR hb f _ _ (ziJ hb _ _ _) (λ z hz=> ?_) y hy;grind
  grind
variable {b:zbg}
theorem zj3  (hb:zbE b):∀y ∈ zor b side d c,0<=y∧y<b.cells:=
 zuR hb _ _ _ (ziJ hb _ _ _) ac
theorem zuQ {b:zbg}{side d c:Int}:∀ (f:Nat) (x:Int) (seen:List Int),(ziu b side d c f x seen).length<=seen.length+f
 |0,x,seen=>by simp [ziu]
 |f+1,x,seen=>by
  rw [ziu];split
  ·have:=zuQ (b:=b) (side:=side) (d:=d) (c:=c) f (toB b side d x) (seen++ [x]);simp at this;omega
  ·omega
theorem zso :(zor b side d c).length<=b.cells.toNat+1:=by
 grind [zuQ,zor]
theorem POk.setAt  (h:POk g p) (i:Nat){v:Int} (hv:0<=v∧v<=2 * g.kinds.length):POk g { p with at_:=p.at_.set i v}:=
 ⟨by simpa using h.al,λ c hc=>by rcases List.mem_or_eq_of_mem_set hc with hc|rfl;exact h.av c hc;exact hv,h.h0,h.h1,h.r0,h.r1,h.s⟩
theorem POk.hand {g:zaa}{p:zae} (h:POk g p) (side:Int):ziR g (p.hand side):=by unfold zae.hand;split;exact h.h0;exact h.h1
theorem POk.withHand {g:zaa}{p:zae} (h:POk g p) (side:Int){l:List Int} (hl:ziR g l):POk g (p.withHand side l):=by
 unfold zae.withHand;split
 ·exact ⟨h.al,h.av,hl,h.h1,h.r0,h.r1,h.s⟩
 ·exact ⟨h.al,h.av,h.h0,hl,h.r0,h.r1,h.s⟩
theorem ziR.set {g:zaa}{l:List Int} (h:ziR g l) (i:Nat){v:Int} (hv:0<=v∧v<=8) (hk:0<v->(nth g.kinds i).keep=true):ziR g (l.set i v):=by
 refine ⟨by simpa using h.len,λ j hj=> ?_⟩;have hj':j<l.length:=af;rw [zqX];split
 ·grind
 ·exact h.v j hj'
variable {i n:Nat}
theorem POk.at  (h:POk g p) (hi:(i:Int)<g.cells):0<=nth p.at_ i∧nth p.at_ i<=2 * g.kinds.length:=
 h.av _ (zah (by have:=h.al;omega))
theorem POk.side {g:zaa}{p:zae} (h:POk g p){s:Int} (hs:s=0∨s=1):POk g { p with side:=s}:=⟨h.al,h.av,h.h0,h.h1,h.r0,h.r1,hs⟩
theorem zwS (p:zae) (s:Int) (l:List Int):(p.withHand s l).side=p.side:=by grind [zae.withHand]
theorem POk.clr {g:zaa}{p:zae} (h:POk g p) (c:Int):POk g (clr p c):=h.setAt _ aa
theorem zvh {g:zaa}{s:StD} (h:zjk g s):∀ {l:List Int},(∀y ∈ l,0<=y∧y<g.cells)->∀t ∈ zb9 s l,zjk g t∧t.p.side=s.p.side
 | [], _,t,ht=>by simp [zb9] at ht
 |c::l,hl,t,ht=>by
  rw [zb9,List.mem_cons] at ht;rcases ht with rfl|ht
  ·have:=hl c ac;exact ⟨⟨h.p,this.1,this.2,h.k⟩,rfl⟩
  ·split at ht
   ·exact zvh h (λ y hy=>hl y (List.mem_cons_of_mem _ hy)) t ht
   ·simp at ht
theorem zta {s:StD}:∀ (l:List Int),(zb9 s l).length<=l.length
 | []=>by simp [zb9]
 |c::l=>by
  rw [zb9];have:=zta (s:=s) l;split<;>simp<;>omega
variable {x:Int×Int}
theorem zjf  (hg:GOk g){s:StD} (h:zjk g s) (hx:zfn g.next.length g.kinds.length g.rights x):∀t ∈ zck g s x,zjk g t∧t.p.side=s.p.side:=by
 intro t ht;have hb:=hg.board;have hcur:(s.cursor.toNat:Int)<g.cells:=by have:=h.c0;have:=h.c1;omega
 have hat:=h.p.at hcur;have only:∀ {u:StD} {b:Bool},t ∈ zcy u b->b=true∧t=u:=λ {u b} hu=>by
  grind [zcy]
 have hbc:g.board.cells=g.cells:=rfl;unfold zck at ht;simp only at ht;split at ht
 ·obtain ⟨h1,rfl⟩:=only ht;have:=ziJ hb s.p.side x.2 s.cursor;exact ⟨⟨h.p,af,af,h.k⟩,rfl⟩
 split at ht
 ·exact zvh h (λ y hy=>zj3 hb y hy) t ht
 split at ht
 ·grind
 split at ht
 ·grind
 split at ht
 ·grind
 split at ht
 ·unfold zpK at ht;simp only at ht;split at ht
  ·simp at ht
  ·rename_i hm;split at ht
   ·rename_i hkeep;split at ht
    ·simp at ht
    ·rename_i h8;simp only [List.mem_singleton] at ht;subst ht;refine ⟨⟨(h.p.clr _).withHand _ ((h.p.hand _).set _ ?_ (λ _=>hkeep)),h.c0,h.c1,h.k⟩,zwS _ _ _⟩;have hh:=h.p.hand s.p.side;rcases zbn hat.1 hat.2 hg.k6 with ⟨e,e2⟩|⟨e,e2,e3, _⟩
     ·grind
     ·have:=hh.v (zat (nth s.p.at_ s.cursor.toNat)).1.toNat (by rw [hh.len];omega);omega
   ·simp only [List.mem_singleton] at ht;subst ht;exact ⟨⟨h.p.clr _,h.c0,h.c1,h.k⟩,rfl⟩
 split at ht
 ·unfold zpB at ht;simp only at ht;split at ht
  ·simp at ht
  ·simp only [List.mem_singleton] at ht;subst ht;exact ⟨⟨(h.p.setAt _ hat).setAt _ aa,h.c0,h.c1,h.k⟩,rfl⟩
 split at ht
 ·rename_i e;simp only [List.mem_singleton] at ht;subst ht;exact ⟨⟨h.p,h.c0,h.c1,hx.kind e⟩,rfl⟩
 split at ht
 ·grind
 split at ht
 ·rename_i e;simp only [List.mem_singleton] at ht;subst ht;have hr:=hx.right (.inr e);have hp:=zq1 hg.r0 hg.r4;have a:=h.p.r0;have b:=h.p.r1;have c:=hg.r4;obtain ⟨k1,k2⟩:=zF0 (r:=s.p.rights) (m:=x.2.toNat) a aa aa;exact ⟨⟨⟨h.p.al,h.p.av,h.p.h0,h.p.h1,k1,af,h.p.s⟩,h.c0,h.c1,h.k⟩,rfl⟩
 grind
theorem ztd  (hg:GOk g) (s:StD) (x:Int×Int):(zck g s x).length<=10:=by
 have c9:=hg.c9;have on:∀ (u:StD) (b:Bool),(zcy u b).length<=10:=λ u b=>by grind [zcy]
 unfold zck;simp only;split;all_goals grind [zta,zso,zmf,zpK,zpB,zaa.board]
structure zL9 (p:List (Int×Int)):Prop where
 len:p.length<=6
 st:∀x ∈ p,1<=x.1∧x.1<=10∧0<=x.2∧(x.1=3∨x.1=4∨x.1=5∨x.1=6->x.2=0)
 take:za7 p 6<=2
 push:za7 p 7<=1
 become:za7 p 8<=1
theorem zNd {e k:Int} (hd:0<=d) (he:0<=e) (hk:0<=k) (hr:0<=r) (i:Nat):zL9 (nth (zFw d e k r) i):=by
 have h4:=Int.tmod_nonneg 8 (show 0<=d+4 by omega);rcases Nat.lt_or_ge i 16 with h|h
 ·have:∀p ∈ zFw d e k r,zL9 p:=by
   intro p hp;simp only [zFw,List.mem_cons,List.not_mem_nil,or_false] at hp;rcases hp with rfl|rfl|rfl|rfl|rfl|rfl|rfl|rfl|rfl|rfl|rfl|rfl|rfl|rfl|rfl|rfl<;>
    exact ⟨ac,by simp<;>omega,bG,bG,bG⟩
  exact this _ (zah h)
 ·have e:nth (zFw d e k r) i= []:=by
   unfold nth;rw [List.getD_eq_getElem?_getD,List.getElem?_eq_none (by exact h)];rfl
  rw [e];exact ⟨ac,ac,bG,bG,bG⟩
theorem zDR {y:Int×Int} (h:zc3 dirs kinds rights x=some y):y.1=x.1:=by
 grind [zc3]
theorem zoe {dirs kinds rights:Int} (op:Int):∀p:List (Int×Int),za7 (p.filterMap (zc3 dirs kinds rights)) op<=za7 p op
 | []=>af
 |x::p=>by
  have ih:=zoe (dirs:=dirs) (kinds:=kinds) (rights:=rights) op p;unfold za7 at *;rw [List.filterMap_cons];cases hf:zc3 dirs kinds rights x with
  |none=>simp only [List.countP_cons];omega
  |some y=>
   have:=zDR hf;simp only [List.countP_cons,this];omega
theorem zMW  (hd:1<=dirs) (hk:1<=kinds) (hr:0<=rights){p:List (Int×Int)} (hp:zL9 p):zmT dirs kinds rights (zNS dirs kinds rights p):=by
 have h0:zmT dirs kinds rights [(3,0)]:=by
  refine ⟨ac,ac,λ x hx=> ?_,bG,bG,bG⟩;simp only [List.mem_singleton] at hx;subst hx;exact ⟨ac,ac,ac,ac,ac⟩
 unfold zNS;split
 ·exact h0
 ·rename_i hne;have hl:(p.filterMap (zc3 dirs kinds rights)).length<=p.length:=List.length_filterMap_le _ _;have hpos:=List.length_pos_iff.2 hne;refine ⟨aa,by have:=hp.len;omega,λ y hy=> ?_,Nat.le_trans (zoe 6 p) hp.take,Nat.le_trans (zoe 7 p) hp.push,Nat.le_trans (zoe 8 p) hp.become⟩;obtain ⟨x,hx,hf⟩:=List.mem_filterMap.1 hy;obtain ⟨a,b,c,d⟩:=hp.st x hx;have m1:=Int.tmod_nonneg dirs c;have m2:=Int.tmod_lt_of_pos x.2 (show 0<dirs by omega);have m3:=Int.tmod_nonneg kinds c;have m4:=Int.tmod_lt_of_pos x.2 (show 0<kinds by omega);have m5:=Int.tmod_nonneg rights c;unfold zc3 at hf;split at hf
  ·simp only [Option.some.injEq] at hf;subst hf;exact ⟨aa,aa,aa,aa,aa⟩
  ·split at hf
   ·simp only [Option.some.injEq] at hf;subst hf;exact ⟨aa,aa,aa,aa,aa⟩
   ·split at hf
    ·split at hf
     ·cases hf
     ·rename_i hr0;have m6:=Int.tmod_lt_of_pos x.2 (show 0<rights by omega);simp only [Option.some.injEq] at hf;subst hf;exact ⟨aa,aa,aa,aa,aa⟩
    ·simp only [Option.some.injEq] at hf;subst hf;exact ⟨aa,aa,aa,aa,aa⟩
theorem zKO {n:Int} (hn:U8 n) (hd:1<=dirs) (hk:1<=kinds) (hr:0<=rights):zmT dirs kinds rights (zsu n dirs kinds rights):=by
 grind [zMW,zNd,zsu,U8]
theorem zEj (w h cut:Int) (d:Nat) (hd:d<(zla w h cut).turn.length):nth (zla w h cut).turn (nth (zla w h cut).turn d).toNat=d:=by
 have ht:(zla w h cut).turn=zec 8:=by unfold zla;split<;>rfl
 grind [zec,nth]
theorem zwv {x:zqi} (hx:zDe x):GOk (zgr x):=by
 have hb:zbE x.board:=zpS hx.w.1 hx.h.1 x.cut;have hc:=zss hx.w.1 hx.h.1 x.cut;have hd:x.board.next.length=8:=zuW x.w x.h x.cut;have hK:zg5 x=1∨zg5 x=2:=by grind [zg5]
 have hkl:(zgr x).kinds.length=zg5 x:=by simp [zgr]
 have r0:0<=x.rights:=Int.tmod_nonneg 3 hx.f0.1;have r1:x.rights<3:=Int.tmod_lt_of_pos x.f0 (show (0:Int)<3 by decide);have t:∀n:Int,U8 n->0<=(n.tdiv 4).tmod 3∧(n.tdiv 4).tmod 3<3:=λ n hn=>by
  grind [U8]
 have t3:=t _ hx.f3;have t4:=t _ hx.f4;have hcl:x.board.cells=(zgr x).cells:=rfl;have hc':1<=x.board.cells∧x.board.cells<=9:=hc;refine ⟨hb,hc'.1,hc'.2,by grind [zgr],by grind [zgr],zEj x.w x.h x.cut,aa,aa,λ k hk=> ?_,λ k hk p hp=> ?_,r0, ?_,λ c hcm=> ?_, ?_, ?_, ?_⟩
 ·obtain ⟨i, _,rfl⟩:=List.mem_map.1 hk;simp only [zk1,List.length_map,List.length_take];omega
 ·rw [hkl];obtain ⟨i, _,rfl⟩:=List.mem_map.1 hk;obtain ⟨n,hn,rfl⟩:=List.mem_map.1 hp;have hn':=List.mem_of_mem_take hn;have hu:U8 n:=by
   unfold zqi.ks at hn';split at hn'
   ·exact hx.k0 n hn'
   ·exact hx.k1 n hn'
  grind [zKO,zgr]
 ·grind [zgr]
 ·rw [hkl];obtain ⟨c0,h0,rfl⟩:=List.mem_map.1 hcm;obtain ⟨u0,u1,u2⟩:=hx.c _ (List.mem_of_mem_take h0);have a0:=Int.tmod_nonneg 3 u0.1;have a1:=Int.tmod_lt_of_pos c0.1 (show (0:Int)<3 by decide);have b0:=Int.tmod_nonneg (zg5 x:Int) u1.1;have b1:=Int.tmod_lt_of_pos c0.2.1 (show (0:Int)<zg5 x by omega);have d0:=Int.tmod_nonneg x.board.cells u2.1;have d1:=Int.tmod_lt_of_pos c0.2.2 (show (0:Int)<x.board.cells by omega);have e0:=Int.tmod_nonneg 3 u2.1;have e1:=Int.tmod_lt_of_pos c0.2.2 (show (0:Int)<3 by decide);have t0:=t _ u0;rw [<- hcl];refine ⟨?_, ?_, ?_, ?_, ?_⟩<;>simp only [zcC];all_goals omega
 ·show ((x.c.take 3).map _).length<=6;simp;omega
 ·show 1<=(if x.f3.tmod 4=3 then 1+(x.f3.tdiv 4).tmod 3 else 3)∧(if x.f3.tmod 4=3 then 1+(x.f3.tdiv 4).tmod 3 else 3)<=3;split<;>omega
 ·show 1<=(if x.f4.tmod 4=3 then 1+(x.f4.tdiv 4).tmod 3 else 2)∧(if x.f4.tmod 4=3 then 1+(x.f4.tdiv 4).tmod 3 else 2)<=3;split<;>omega
theorem zuX  (hg:GOk g){x:ztu} (hx:zrj x):POk g (zju g x):=by
 have c1:=hg.c1;have k1:=hg.k1;have hat:∀n,n<=6->∀c ∈ zi8 g x n,0<=c∧c<=2 * g.kinds.length:=by
  intro n;induction n with
  |zero=>grind [zi8]
  |succ n ih=>
   intro hn c hc;rw [znn] at hc;unfold zuj at hc;split at hc
   ·rcases List.mem_or_eq_of_mem_set hc with hc|rfl
    ·grind
    ·have hkv:U8 (nth x.kind n):=hx.kv _ (zah (by rw [hx.k6];omega));have a:=Int.tmod_nonneg (g.kinds.length:Int) hkv.1;have b:=Int.tmod_lt_of_pos (nth x.kind n) (show (0:Int)<g.kinds.length by omega);grind
   grind
 have hh:∀s,s<2->ziR g (zjZ g x s (min g.kinds.length 2)):=by
  intro s hs;refine ⟨zg4 _ _ _ _,λ i hi=> ?_⟩;rw [zg4] at hi;have e:nth (zjZ g x s (min g.kinds.length 2)) i=if i<min g.kinds.length 2 then zAz g x s i else 0:=by
   grind [zjZ,nth]
  rw [e];split
  ·have hv:U8 (nth x.hand (2 * s+i)):=hx.hv _ (zah (by rw [hx.h4];omega));grind [zAz,U8]
  omega
 have hp:=zq1 hg.r0 hg.r4;refine ⟨?_,hat 6 (Nat.le_refl _),hh 0 aa,hh 1 aa,Int.tmod_nonneg _ hx.r.1,Int.tmod_lt_of_pos _ aa, ?_⟩
 ·grind [zps,zju]
 ·have a:=Int.tmod_nonneg 2 hx.s.1;grind [zju]
abbrev zek:=Int×Int×Int
structure zaH where
 acts:List zek
 to:Int
 deriving DecidableEq
instance:Inhabited zaH:=⟨⟨[],0⟩⟩
def zgS (a:zek):List AV:= [.int a.1, .int a.2.1, .int a.2.2]
def zmO (l:List zek):AV:= .lst 3 (l.map zgS)
def zbJ (p:zaH):List AV:= [zmO p.acts, .int p.to]
def zhp (l:List zaH):AV:= .lst 2 (l.map zbJ)
def zgB (l:List (List zaH)):AV:= .lst 1 (l.map λ x=> [zhp x])
def zbF (l:List (List (List zaH))):AV:= .lst 1 (l.map λ x=> [zgB x])
abbrev ziN:=List (List (List zaH))×List (List (List zaH))
def zng (c:ziN):List AV:= [zbF c.1,zbF c.2]
attribute [go_sem] zgS zmO zbJ zhp zgB zbF zng
theorem bel_A {l:List zek}:(∀r ∈ l.map zgS,∀c ∈ r,Bel n c)=True:=by
 refine eq_true ?_;intro r hr c hc;obtain ⟨x, _,rfl⟩:=List.mem_map.1 hr;revert c;simp [go_sem]
theorem zLv {l:List zek}:Bel n (.lst 3 (l.map zgS))=True:=by rw [zel,bel_A]
theorem zLy {l:List zaH}:(∀r ∈ l.map zbJ,∀c ∈ r,Bel n c)=True:=by
 refine eq_true ?_;intro r hr c hc;obtain ⟨x, _,rfl⟩:=List.mem_map.1 hr;simp only [zbJ,zmO,List.mem_cons,List.not_mem_nil,or_false] at hc;rcases hc with rfl|rfl
 ·grind [zLv]
 ·exact .v _
theorem zo2 {l:List zaH}:Bel n (.lst 2 (l.map zbJ))=True:=by rw [zel,zLy]
theorem zLx {l:List (List zaH)}:(∀r ∈ l.map (λ x=> [AV.lst 2 (x.map zbJ)]),∀c ∈ r,Bel n c)=True:=by
 grind [zo2]
theorem zGc {l:List (List zaH)}:Bel n (.lst 1 (l.map (λ x=> [AV.lst 2 (x.map zbJ)])))=True:=by rw [zel,zLx]
theorem zLz {l:List (List (List zaH))}:(∀r ∈ l.map (λ x=> [AV.lst 1 (x.map (λ x=> [AV.lst 2 (x.map zbJ)]))]),∀c ∈ r,Bel n c)=True:=by
 grind [zGc]
theorem zMD {l:List (List (List zaH))}:Bel n (.lst 1 (l.map (λ x=> [AV.lst 1 (x.map (λ x=> [AV.lst 2 (x.map zbJ)]))])))=True:=by rw [zel,zLz]
attribute [go_sem high] zLv zo2 zGc zMD
attribute [go_sem ↓] bel_A zLy zLx zLz
def onP (p:zaH) (to:Int) (more:List zek):zaH:=⟨p.acts++more,to⟩
def zcL (p:zaH):List Int->List zek->List zaH
 | [], _=> []
 |c::l,passed=>onP p c passed::zcL p l (passed++ [(3,c,0)])
def znF (b:zbg) (side:Int) (p:zaH) (x:Int×Int):List zaH:=
 if x.1=1∨x.1=7 then
  if toB b side x.2 p.to<0 then [] else if x.1=1 then [onP p (toB b side x.2 p.to) []] else [onP p p.to [(7,p.to,toB b side x.2 p.to)]]
 else if x.1=2 then zcL p (zor b side x.2 p.to) []
 else if x.1=8∨x.1=9∨x.1=10 then [onP p p.to [(x.1,x.2,0)]]
 else [onP p p.to [(x.1,p.to,0)]]
def zmj (b:zbg) (side:Int) (now:List zaH) (x:Int×Int):List zaH:=now.flatMap λ w=>znF b side w x
def zdz (b:zbg) (side:Int) (prog:List (Int×Int)) (cell:Int):List zaH:=prog.foldl (zmj b side) [⟨[],cell⟩]
def zjr (b:zbg) (side:Int) (progs:List (List (Int×Int))) (cell:Int):List zaH:=progs.flatMap λ p=>zdz b side p cell
def zgg (b:zbg) (side:Int) (progs:List (List (Int×Int))):List (List zaH):=(List.range b.cells.toNat).map λ (c:Nat)=>zjr b side progs c
def zjy (g:zaa) (side:Int):List (List (List zaH)):=g.kinds.map λ k=>zgg g.board side k.progs
def zo7 (g:zaa):ziN:=(zjy g 0,zjy g 1)
theorem zp5 {b:zbg}{side d c:Int}:∀ (f:Nat) (x:Int) (seen:List Int),seen.Nodup->(ziu b side d c f x seen).Nodup
 |0,x,seen,h=>by grind [ziu]
 |f+1,x,seen,h=>by
  rw [ziu];split
  ·rename_i hc;refine zp5 f _ _ (List.nodup_append.2 ⟨h,ac, ?_⟩);intro y hy z hz;simp at hz;subst hz;rintro rfl;exact hc.2.2 hy
  ·exact h
theorem zws  (hb:zbE b):(zor b side d c).length<=b.cells.toNat:=
 zmF _ _ (zp5 _ _ _ ac) (λ y hy=>by have:=zj3 hb y hy;omega)
theorem zpH (p:zaH):∀ (l:List Int) (passed:List zek),(zcL p l passed).length=l.length
 | [], _=>rfl
 |c::l,passed=>by simp [zcL,zpH p l]
theorem zpI {p w:zaH}:∀ {l:List Int}{passed:List zek},w ∈ zcL p l passed->∃more,w.acts=p.acts++passed++more∧more.length<=l.length∧w.to ∈ l∧∀a ∈ more,∃c ∈ l,a=(3,c,0)
 | [], _,h=>by simp [zcL] at h
 |c::l,passed,h=>by
  simp only [zcL,List.mem_cons] at h;rcases h with rfl|h
  ·exact ⟨[],by simp [onP],ac,by simp [onP],ac⟩
  ·obtain ⟨more,h1,h2,h3,h4⟩:=zpI h;refine ⟨(3,c,0)::more,by rw [h1];simp,aQ,List.mem_cons_of_mem _ h3,λ a ha=> ?_⟩;rcases List.mem_cons.1 ha with rfl|ha
   ·exact ⟨c,ac,rfl⟩
   ·obtain ⟨c',hc,e⟩:=h4 a ha;exact ⟨c',List.mem_cons_of_mem _ hc,e⟩
theorem zKh  (hb:zbE b) (h1:1<=b.cells) (side:Int) (p:zaH) (x:Int×Int):(znF b side p x).length<=if x.1=2 then b.cells.toNat else 1:=by
 grind [znF,zpH,zws]
theorem zpi {α β:Type} (f:α->List β) (m:Nat):∀ (l:List α),(∀x ∈ l,(f x).length<=m)->(l.flatMap f).length<=l.length * m
 | [], _=>ac
 |x::l,h=>by
  have a:=h x ac;have b:=zpi f m l (λ y hy=>h y aS);grind [Nat.add_mul]
theorem zIM  (hb:zbE b) (h1:1<=b.cells) (side:Int) (now:List zaH) (x:Int×Int):(zmj b side now x).length<=now.length * if x.1=2 then b.cells.toNat else 1:=
 zpi _ _ _ (λ w _=>zKh hb h1 side w x)
theorem zx9 {b:zbg} (hb:zbE b) (h1:1<=b.cells) (side:Int):∀ (prog:List (Int×Int)) (now:List zaH),(prog.foldl (zmj b side) now).length<=now.length * b.cells.toNat ^ za7 prog 2
 | [],now=>bG
 |x::prog,now=>by
  have h:=zx9 hb h1 side prog (zmj b side now x);have k:=zIM hb h1 side now x;rw [List.foldl_cons];refine Nat.le_trans h ?_;refine Nat.le_trans (Nat.mul_le_mul_right _ k) ?_;unfold za7 at *;rw [List.countP_cons,Nat.mul_assoc];refine Nat.mul_le_mul_left _ ?_;by_cases h2:x.1=2
  ·simp [h2,Nat.pow_succ,Nat.mul_comm]
  ·simp [h2]
theorem zEO  (hb:zbE b) (h1:1<=b.cells) (side:Int) (prog:List (Int×Int)) (cell:Int):(zdz b side prog cell).length<=b.cells.toNat ^ za7 prog 2:=by
 grind [zx9,zdz]
def zmR (n:Nat) (l:List zaH):Prop:=∀w ∈ l,w.acts.length<=n
theorem zG9  (hb:zbE b) (h9:b.cells<=9) (side:Int) (p:zaH) (x:Int×Int):zmR (p.acts.length+10) (znF b side p x):=by
 grind [znF,onP,zpI,zws,zmR]
theorem zFf  (hb:zbE b) (h9:b.cells<=9) (side:Int){now:List zaH} (hn:zmR n now) (x:Int×Int):zmR (n+10) (zmj b side now x):=by
 grind [zG9,zmR,zmj]
def zzn (cells kinds rights:Int) (a:zek):Prop:=
 (3<=a.1∧a.1<=6∧(0<=a.2.1∧a.2.1<cells)∧a.2.2=0)∨(a.1=7∧(0<=a.2.1∧a.2.1<cells)∧(0<=a.2.2∧a.2.2<cells))∨
 (a.1=8∧(0<=a.2.1∧a.2.1<kinds)∧a.2.2=0)∨((a.1=9∨a.1=10)∧(0<=a.2.1∧a.2.1<rights)∧a.2.2=0)
def zh4 (l:List zek) (op:Int):Nat:=l.countP (λ a=>a.1==op)
structure zua (cells kinds rights:Int) (w:zaH) (t p b:Nat):Prop where
 to:0<=w.to∧w.to<cells
 acts:∀a ∈ w.acts,zzn cells kinds rights a
 take:zh4 w.acts 6<=t
 push:zh4 w.acts 7<=p
 become:zh4 w.acts 8<=b
theorem zvY (l m:List zek) (op:Int):zh4 (l++m) op=zh4 l op+zh4 m op:=by simp [zh4]
theorem zxJ {m:List zek} (h:∀a ∈ m,∃c ∈ l,a=(3,c,0)){op:Int} (ho:op≠3):zh4 m op=0:=by
 grind [zh4]
def zKu (x:Int×Int) (op:Int):Nat:=if x.1=op then 1 else 0
theorem zMV  (hb:zbE b){w:zaH}{t p be:Nat} (hw:zua b.cells kinds rights w t p be) (hx:zfn b.next.length kinds rights x):
  ∀v ∈ znF b side w x,zua b.cells kinds rights v (t+zKu x 6) (p+zKu x 7) (be+zKu x 8):=by
 intro v hv;obtain ⟨w1,w2,w3,w4,w5⟩:=hw;obtain ⟨x1,x2,x3,x4,x5⟩:=hx;have ht:=ziJ hb side x.2 w.to;unfold znF at hv;unfold zKu;split at hv
 ·rename_i h17;split at hv
  ·simp at hv
  ·split at hv
   ·simp only [List.mem_singleton] at hv;subst hv;refine ⟨by grind [onP],by grind [onP], ?_, ?_, ?_⟩<;>simp only [onP,List.append_nil]<;>omega
   ·have e7:x.1=7:=by omega
    simp only [List.mem_singleton] at hv;subst hv;refine ⟨w1,λ a ha=> ?_, ?_, ?_, ?_⟩;all_goals grind [onP,zzn,zh4]
 ·split at hv
  ·rename_i h2;obtain ⟨more,e1,e2,e3,e4⟩:=zpI hv;rw [List.append_nil] at e1;refine ⟨zj3 hb _ e3,λ a ha=> ?_, ?_, ?_, ?_⟩
   ·rw [e1,List.mem_append] at ha;rcases ha with ha|ha
    ·grind
    ·obtain ⟨c,hc,rfl⟩:=e4 a ha;grind [zj3,zzn]
   all_goals rw [e1,zvY,zxJ e4 aa];omega
  ·split at hv
   ·rename_i h17 h2 h8;simp only [List.mem_singleton] at hv;subst hv;refine ⟨w1,λ a ha=> ?_, ?_, ?_, ?_⟩;all_goals grind [onP,zzn,zh4]
   ·rename_i h17 h2 h8;simp only [List.mem_singleton] at hv;subst hv;refine ⟨w1,λ a ha=> ?_, ?_, ?_, ?_⟩;all_goals grind [onP,zzn,zh4]
theorem zCc {b:zbg} (hb:zbE b){kinds rights:Int}{side:Int}:∀ {prog:List (Int×Int)}{now:List zaH}{t p be:Nat},(∀w ∈ now,zua b.cells kinds rights w t p be)->(∀x ∈ prog,zfn b.next.length kinds rights x)->
  ∀w ∈ prog.foldl (zmj b side) now,zua b.cells kinds rights w (t+za7 prog 6) (p+za7 prog 7) (be+za7 prog 8)
 | [],now,t,p,be,h, _,w,hw=>by grind [za7]
 |x::prog,now,t,p,be,h,hx,w,hw=>by
  rw [List.foldl_cons] at hw;have:=zCc hb (side:=side) (prog:=prog) (now:=zmj b side now x) (t:=t+zKu x 6) (p:=p+zKu x 7) (be:=be+zKu x 8) (λ v hv=>by
   obtain ⟨u,hu,hv⟩:=List.mem_flatMap.1 hv;exact zMV hb (h u hu) (hx x ac) v hv) (λ y hy=>hx y aS) w hw
  have e:∀op,za7 (x::prog) op=za7 prog op+zKu x op:=λ op=>by simp [za7,List.countP_cons,zKu]
  rw [e,e,e];simpa [Nat.add_assoc,Nat.add_comm,Nat.add_left_comm] using this
theorem zIe  (hb:zbE b){prog:List (Int×Int)} (hp:∀x ∈ prog,zfn b.next.length kinds rights x) (hc:0<=cell∧cell<b.cells):
  ∀w ∈ zdz b side prog cell,zua b.cells kinds rights w (za7 prog 6) (za7 prog 7) (za7 prog 8):=by
 intro w hw;have:=zCc hb (side:=side) (kinds:=kinds) (rights:=rights) (prog:=prog) (now:= [⟨[],cell⟩]) (t:=0) (p:=0) (be:=0) (λ v hv=>by
  simp only [List.mem_singleton] at hv;subst hv;exact ⟨hc,ac,by simp [zh4],by simp [zh4],by simp [zh4]⟩) hp w hw
 grind
variable {k:zhn}
theorem zKA  (hg:GOk g) (hk:k ∈ g.kinds) (hc:0<=cell∧cell<g.cells):∀w ∈ zjr g.board side k.progs cell,zua g.cells g.kinds.length g.rights w 2 1 1:=by
 intro w hw;obtain ⟨p,hp,hw⟩:=List.mem_flatMap.1 hw;have ok:=hg.pr k hk p hp;obtain ⟨a,b,c,d,e⟩:=zIe hg.board (side:=side) ok.st hc w hw;exact ⟨a,b,Nat.le_trans c ok.take,Nat.le_trans d ok.push,Nat.le_trans e ok.become⟩
theorem nofz_A {l:List zek}:(∀r ∈ l.map zgS,∀c ∈ r,zli c)=True:=by
 refine eq_true ?_;intro r hr c hc;obtain ⟨x, _,rfl⟩:=List.mem_map.1 hr;revert c;simp [go_sem]
attribute [go_sem ↓] nofz_A
theorem zFG (m:Int) (h0:0<=m) (h1:m<=17179869184):ztr Tryz.prog 324 [AV.nils, .int m] (λ n=> .sl n 0 3 0 0) (λ n=> [(n, .rows true 0 3 [])]) 1:=by
 refine ⟨?_,λ n=>⟨ae,ae⟩⟩;by_cases hm:m=0
 ·subst hm;refine aF Tryz.func324 ?_;refine J0 ?_;simp [go_sem,zaf]
 ·refine zaj.clear ?_;refine aF Tryz.func324 ?_;refine J0 ?_;refine FxF ?_;refine J0 ?_;refine FxT ?_;refine J0 ?_;refine ⟨0,0,3,ai,⟨rfl,rfl,rfl⟩, ?_⟩;simp [go_sem,zaf]
theorem zzq (a b:List zek) (ha:a.length<=1048576) (hb:b.length<=1048576):ztr Tryz.prog 297 [.lst 1 [[zmO a], [zmO b]]]
  (λ n=> .sl n 2 3 0 (a.length+b.length)) (λ n=> [(n, .rows true 2 3 ((a++b).map zgS))]) 1:=by
 refine ⟨?_,λ n=>⟨ae,ae⟩⟩;refine aF Tryz.func297 ?_;refine J0 ?_;refine zNZ ?_;refine J0 ?_;refine FxF ?_;refine J0 ?_;refine zNZ ?_;refine J0 ?_;refine FxF ?_;refine J0 ?_;refine zNZ ?_;refine J0 ?_;refine zN1 (zFG _ aa aa) ae ?_;refine J0 ?_;refine zNZ ?_;refine J0 ?_;refine zNZ ?_;refine J0 ?_;refine zNZ ?_;refine J0 ?_;simp [go_sem,zaf]
theorem zG8 (p:zaH) (to:Int) (more:List zek) (ha:p.acts.length<=1048576) (hb:more.length<=1048576):ztr Tryz.prog 296 [.int to,zmO more, .fp (zbJ p)]
  (λ n=> .agg [.sl (n+2) 2 3 0 (p.acts.length+more.length), .int to]) (λ n=> [(n+2, .rows true 2 3 ((p.acts++more).map zgS))]) 3:=by
 refine ⟨?_,λ n=>⟨ae,ae⟩⟩;refine aF Tryz.func296 ?_;refine J0 ?_;refine zOa (zzq p.acts more ha hb) ae ae ?_ ae ?_
 ·simp only [zmO];refine zaL.cons ?_ zaL.nil;grind [zaq,noH,upd]
 ·refine J0 ?_;simp [go_sem,zaf]
theorem zoM (p:zaH):∀ (l:List Int) (passed:List zek) (c:Int),zcL p (l++ [c]) passed=zcL p l passed++ [onP p c (passed++l.map λ c=>(3,c,0))]
 | [],passed,c=>by simp [zcL,onP]
 |d::l,passed,c=>by simp [zcL,zoM p l]
def ztY (l:List Int):List zek:=l.map λ c=>(3,c,0)
theorem zId (l:List Int):(ztY l).length=l.length:=by simp [ztY]
theorem zBq (p:zaH) (l:List Int) (h:i<l.length):zcL p (l.take (i+1)) []=zcL p (l.take i) []++ [onP p (nth l i) (ztY (l.take i))]∧ztY (l.take (i+1))=ztY (l.take i)++ [(3,nth l i,0)]:=by
 grind [List.take_add_one,zoM,ztY,nth]
theorem zAs (b:zbg) (hb:zbE b) (h9:b.cells<=9) (side:Int) (p:zaH) (hp:p.acts.length<=1000000) (x:Int×Int):
  zav Tryz.prog 278 [.agg (zgT b), .int side, .agg (zbJ p), .agg [.int x.1, .int x.2]] (zhp (znF b side p x)):=by
 refine pF Tryz.func278 ?_;obtain ⟨op,N⟩:=x;have hT:=zqy b hb side N p.to;have hL:=zuk b hb side N p.to;have hll:=zws hb (side:=side) (d:=N) (c:=p.to);have hO:=λ to more (h:more.length<=1048576)=>zG8 p to more aa h;have hE:znF b side p (op,N)=if op=1∨op=7 then
  if toB b side N p.to<0 then [] else if op=1 then [onP p (toB b side N p.to) []] else [onP p p.to [(7,p.to,toB b side N p.to)]]
  else if op=2 then zcL p (zor b side N p.to) []
  else if op=8∨op=9∨op=10 then [onP p p.to [(op,N,0)]]
  else [onP p p.to [(op,p.to,0)]]:=rfl
 generalize toB b side N p.to=to at *;generalize zor b side N p.to=line at *;generalize znF b side p (op,N)=R at *;have hbl:∀n,(∀c' ∈ zgT b,Bel n c')=True:=λ n=>ae;have hel:(zgT b).length=3:=rfl;have hte:(zgT b).take 3=zgT b:=rfl;obtain ⟨eb,heb⟩:∃eb,eb=zgT b:=⟨_,rfl⟩
 rw [<- heb] at hbl hel hT hL hte ⊢;refine J2 hel hte ?_;refine zNX (λ h1=> ?_) (λ h1=> ?_)<;>simp at h1
 ·subst h1;refine J2 hel hte ?_;refine zN0 hT aG ?_;refine J2 hel hte ?_;refine zNX (λ ht=> ?_) (λ ht=> ?_)<;>simp at ht
  ·rw [if_pos aa,if_pos ht] at hE;rw [hE];exact K2 hel hte
  ·rw [if_pos aa,if_neg aa,if_pos rfl] at hE;rw [hE];refine J2 hel hte ?_;refine zOa (hO to [] ac) ae ae ?_ ae ?_
   ·(first|done|exact leX)
   ·repeat first|refine wV λ _=>?_|simp [go_sem,hel,hte,onP]
    (first|done|exact leX)
 ·refine J2 hel hte ?_;refine zNX (λ h7=> ?_) (λ h7=> ?_)<;>simp at h7
  ·subst h7;refine J2 hel hte ?_;refine zN0 hT aG ?_;refine J2 hel hte ?_;refine zNX (λ ht=> ?_) (λ ht=> ?_)<;>simp at ht
   ·rw [if_pos aa,if_pos ht] at hE;rw [hE];exact K2 hel hte
   ·rw [if_pos aa,if_neg aa,if_neg aa] at hE;rw [hE];refine J2 hel hte ?_;refine zOa (hO p.to [(7,p.to,to)] ac) ae ae ?_ ae ?_
    ·(first|done|exact leX)
    ·repeat first|refine wV λ _=>?_|simp [go_sem,hel,hte,onP]
     (first|done|exact leX)
  ·rw [if_neg aa] at hE;refine J2 hel hte ?_;refine zNX (λ h2=> ?_) (λ h2=> ?_)<;>simp at h2
   ·subst h2;rw [if_pos rfl] at hE;refine J2 hel hte ?_;refine zN0 hL aG ?_;refine J2 hel hte ?_;refine zNW (zNY (α:=Nat) (λ i=>⟨[(9, .fn (.func 296) [] [.ref 1 0 2 0 0]),(11, .sl 3 i 2 0 i),(12, .sl 4 i 3 0 i),(55,zaG line),(56, .int line.length),(57, .int i)],
      [(1, .rows true 0 2 [zbJ p]),(3, .rows true i 2 ((zcL p (line.take i) []).map zbJ)),(4, .rows true i 3 ((ztY (line.take i)).map zgS))],5⟩)
     (λ d i=>i+d=line.length) ?_ line.length 0 ?_) ?_ ?_
    ·rintro d i i1 hrec;have hsl:(zcL p (line.take i) []).length=i:=by grind [zpH]
     have hpl:(ztY (line.take i)).length=i:=by grind [zId]
     refine J2 hel hte ?_;refine zNX (λ hi=> ?_) (λ hi=> ?_)<;>simp at hi
     ·obtain ⟨s1,s2⟩:=zBq p line hi;refine J1 hi ?_;refine zOa (hO (nth line i) (ztY (line.take i)) aa) ae ae ?_ ae ?_
      ·(first|done|exact Lx1 hpl)
      ·refine J3 hi hsl hpl ?_;refine zNW (hrec (d - 1) aa (i+1) aa) ?_ ac;simp [go_sem,zaf,s1,s2,onP,hpl];(first|done|exact Lx1 hpl)
     ·have hil:i=line.length:=by omega
      subst hil;rw [List.take_length] at hsl ⊢;rw [hE];refine J1 hsl ?_;(first|done|exact Lx1 hsl)
    ·simp
    ·simp [go_sem,zaf,zcL,ztY]
    ·simp
   ·rw [if_neg h2] at hE;refine J2 hel hte ?_;refine zNX (λ h8=> ?_) (λ h8=> ?_)<;>simp at h8
    ·subst h8;rw [if_pos aa] at hE;rw [hE];refine J2 hel hte ?_;refine zOa (hO p.to [(8,N,0)] ac) ae ae ?_ ae ?_
     ·(first|done|exact leX)
     ·repeat first|refine wV λ _=>?_|simp [go_sem,hel,hte,onP]
      (first|done|exact leX)
    ·refine J2 hel hte ?_;refine zNX (λ h99=> ?_) (λ h99=> ?_)<;>simp at h99
     ·subst h99;rw [if_pos aa] at hE;rw [hE];refine J2 hel hte ?_;refine zOa (hO p.to [(9,N,0)] ac) ae ae ?_ ae ?_
      ·(first|done|exact leX)
      ·repeat first|refine wV λ _=>?_|simp [go_sem,hel,hte,onP]
       (first|done|exact leX)
     ·refine J2 hel hte ?_;refine zNX (λ h10=> ?_) (λ h10=> ?_)<;>simp at h10
      ·subst h10;rw [if_pos aa] at hE;rw [hE];refine J2 hel hte ?_;refine zOa (hO p.to [(10,N,0)] ac) ae ae ?_ ae ?_
       ·(first|done|exact leX)
       ·repeat first|refine wV λ _=>?_|simp [go_sem,hel,hte,onP]
        (first|done|exact leX)
      ·rw [if_neg aa] at hE;rw [hE];refine J2 hel hte ?_;refine zOa (hO p.to [(op,p.to,0)] ac) ae ae ?_ ae ?_
       ·(first|done|exact leX)
       ·repeat first|refine wV λ _=>?_|simp [go_sem,hel,hte,onP]
        (first|done|exact leX)
def zAw {α β:Type} (F:α->List β) (l:List α) (i:Nat):List β:=(l.take i).flatMap F
theorem zx6 {α β:Type} [Inhabited α] (F:α->List β) (l:List α) (h:i<l.length):zAw F l (i+1)=zAw F l i++F (nth l i):=by
 grind [zAw,List.take_add_one,nth]
theorem zx7 {α β:Type} (F:α->List β) (l:List α):zAw F l 0= []:=by simp [zAw]
theorem zqJ {α β:Type} (F:α->List β) (l:List α):zAw F l l.length=l.flatMap F:=by simp [zAw]
theorem zwb {α β:Type} (F:α->List β) (l:List α) (i:Nat):(zAw F l i).length<=(l.flatMap F).length:=by
 grind [zAw,List.take_append_drop]
theorem zDT (l:List (List (Int×Int))) (hl:l.length<=1048576) (f:FuncId) (caps:List AV) (F:List (Int×Int)->List zaH) (hF:∀x ∈ l,zav Tryz.prog f (zaT x::caps) (zhp (F x))) (hb:∀c ∈ caps,Bel 0 c)
  (hn:(l.flatMap F).length<=8589934592):zav Tryz.prog 238 [.lst 1 (l.map λ p=> [zaT p]), .fn (.func f) [] caps] (zhp (l.flatMap F)):=by
 refine pF Tryz.func238 ?_;rw [<- zqJ F l] at hn ⊢;refine J0 ?_;refine zNW (zNY (α:=Nat) (λ i=>⟨[(1, .fn (.func f) [] caps),(5, .sl 0 i 2 0 (zAw F l i).length),(8, .lst 1 (l.map λ p=> [zaT p])),(9, .int l.length),(10, .int i)], [(0, .rows true i 2 ((zAw F l i).map zbJ))],1⟩)
  (λ d i=>i+d=l.length) ?_ l.length 0 ?_) ?_ ?_
 ·rintro d i i1 hrec;have hni:=zwb F l i;refine J0 ?_;refine zNX (λ hi=> ?_) (λ hi=> ?_)<;>simp at hi
  ·have hs:=zx6 F l hi;have hns:=zwb F l (i+1);rw [hs,List.length_append] at hns;rw [zqJ] at hn;refine J1 hi ?_;refine zN0 (hF _ (zah hi)) (by simp [go_sem];exact hb) ?_;refine J1 hi ?_;refine zNW (hrec (d - 1) aa (i+1) aa) ?_ ac;simp [go_sem,zaf,hs];exact λ c hc=>(hb c hc).mono (Nat.zero_le _)
  ·have hil:i=l.length:=by omega
   subst hil;generalize zAw F l l.length=R at *;refine J0 ?_;(first|done|exact leX)
 ·simp
 ·simp [go_sem,zaf,zx7];exact λ c hc=>(hb c hc).mono (Nat.zero_le _)
 ·simp
theorem zDS (l:List zaH) (hl:l.length<=1073741824) (f:FuncId) (caps:List AV) (F:zaH->List zaH) (hF:∀x ∈ l,zav Tryz.prog f (.agg (zbJ x)::caps) (zhp (F x))) (hb:∀c ∈ caps,Bel 0 c)
  (hn:(l.flatMap F).length<=8589934592):zav Tryz.prog 276 [zhp l, .fn (.func f) [] caps] (zhp (l.flatMap F)):=by
 refine pF Tryz.func276 ?_;rw [<- zqJ F l] at hn ⊢;refine J0 ?_;refine zNW (zNY (α:=Nat) (λ i=>⟨[(1, .fn (.func f) [] caps),(5, .sl 0 i 2 0 (zAw F l i).length),(8,zhp l),(9, .int l.length),(10, .int i)], [(0, .rows true i 2 ((zAw F l i).map zbJ))],1⟩)
  (λ d i=>i+d=l.length) ?_ l.length 0 ?_) ?_ ?_
 ·rintro d i i1 hrec;have hni:=zwb F l i;refine J0 ?_;refine zNX (λ hi=> ?_) (λ hi=> ?_)<;>simp at hi
  ·have hs:=zx6 F l hi;have hns:=zwb F l (i+1);rw [hs,List.length_append] at hns;rw [zqJ] at hn;refine J1 hi ?_;refine zN0 (hF _ (zah hi)) (by simp [go_sem];exact hb) ?_;refine J1 hi ?_;refine zNW (hrec (d - 1) aa (i+1) aa) ?_ ac;simp [go_sem,zaf,hs];exact λ c hc=>(hb c hc).mono (Nat.zero_le _)
  ·have hil:i=l.length:=by omega
   subst hil;generalize zAw F l l.length=R at *;refine J0 ?_;(first|done|exact leX)
 ·simp
 ·simp [go_sem,zaf,zx7];exact λ c hc=>(hb c hc).mono (Nat.zero_le _)
 ·simp
theorem zA8 (b:zbg) (hb:zbE b) (h9:b.cells<=9) (side:Int) (p:zaH) (hp:p.acts.length<=1000000) (x:Int×Int):
  zav Tryz.prog 277 [.agg (zbJ p), .fp (zgT b), .fp [.int side], .fp [.int x.1, .int x.2]] (zhp (znF b side p x)):=by
 refine pF Tryz.func277 ?_;have hE:=zAs b hb h9 side p hp x;generalize znF b side p x=R at *;refine J0 ?_;refine aP hE ?_;exact K0
def zkb (b:zbg) (side:Int) (prog:List (Int×Int)) (cell:Int) (i:Nat):List zaH:=zdz b side (prog.take i) cell
theorem zsW (b:zbg) (side:Int) (prog:List (Int×Int)) (cell:Int) (h:i<prog.length):zkb b side prog cell (i+1)=(zkb b side prog cell i).flatMap λ w=>znF b side w (nth prog i):=by
 unfold zkb zdz;grind [List.take_add_one,zcp,zmj]
theorem znt {b:zbg} (hb:zbE b) (h9:b.cells<=9) (side:Int) (prog:List (Int×Int)) (cell:Int):∀i,i<=prog.length->zmR (10 * i) (zkb b side prog cell i)
 |0, _=>by
  simp_all [zkb,zdz,zmR]
 |i+1,h=>by
  rw [zsW b side prog cell aa];exact zFf hb h9 side (znt hb h9 side prog cell i aa) _
theorem zu5  (hb:zbE b) (h1:1<=b.cells) (h9:b.cells<=9) (side:Int) (prog:List (Int×Int)) (hp:prog.length<=8) (cell:Int) (i:Nat):(zkb b side prog cell i).length<=43046721:=by
 have h:=zEO hb h1 side (prog.take i) cell;have hc:za7 (prog.take i) 2<=8:=by
  grind [za7,List.countP_le_length]
 have h2:b.cells.toNat ^ za7 (prog.take i) 2<=9 ^ za7 (prog.take i) 2:=Nat.pow_le_pow_left aa _;have h3:9 ^ za7 (prog.take i) 2<=9 ^ 8:=Nat.pow_le_pow_right aa hc;grind [zkb]
theorem zEP (b:zbg) (hb:zbE b) (h1:1<=b.cells) (h9:b.cells<=9) (side:Int) (prog:List (Int×Int)) (hp:prog.length<=8) (cell:Int):
  zav Tryz.prog 240 [.agg (zgT b), .int side,zaT prog, .int cell] (zhp (zdz b side prog cell)):=by
 refine pF Tryz.func240 ?_;have hR:zdz b side prog cell=zkb b side prog cell prog.length:=by grind [zkb]
 have hl:=zu5 hb h1 h9 side prog hp cell;have ha:=znt hb h9 side prog cell;have hs:=λ (i:Nat) (h:i<prog.length)=>zsW b side prog cell h;have h0:zkb b side prog cell 0= [⟨[],cell⟩]:=rfl;rw [hR];have hP:=λ w hw x=>zA8 b hb h9 side w hw x;generalize zkb b side prog cell=K at *;generalize hXb:znF b side=E at *;have hbl:∀n,(∀c' ∈ zgT b,Bel n c')=True:=λ n=>ae;have hel:(zgT b).length=3:=rfl;have hte:(zgT b).take 3=zgT b:=rfl;obtain ⟨eb,heb⟩:∃eb,eb=zgT b:=⟨_,rfl⟩
 rw [<- heb] at hbl hel hte ⊢;have hP':∀w:zaH,w.acts.length<=1000000->∀x:Int×Int,zav Tryz.prog 277 [.agg (zbJ w), .fp eb, .fp [.int side], .fp [.int x.1, .int x.2]] (zhp (E w x)):=λ w hw x=>by rw [heb];exact hP w hw x
 clear hP;refine J2 hel hte ?_;refine zNW (zNY (α:=Nat) (λ i=>⟨[(4, .ref 0 0 3 0 0),(5, .ref 1 0 1 0 0),(9,zhp (K i)),(15,zaT prog),(16, .int prog.length),(17, .int i)], [(0, .rows false 0 3 [eb]),(1, .rows false 0 1 [[.int side]])],2⟩)
  (λ d i=>i+d=prog.length) ?_ prog.length 0 ?_) ?_ ?_
 ·rintro d i i1 hrec;have hli:=hl i;refine J2 hel hte ?_;refine zNX (λ hi=> ?_) (λ hi=> ?_)<;>simp at hi
  ·have hsi:=hs i hi;have hls:=hl (i+1);have hai:=ha i aa;refine J3 hel hte hi ?_;refine zN3 [2] (zDS (K i) aa 277 [.fp eb, .fp [.int side], .fp [.int (nth prog i).1, .int (nth prog i).2]] (λ w=>E w (nth prog i)) (λ w hw=>hP' w (by have:=hai w hw;omega) _) aG (by rw [<- hsi];omega)) ?_ aG ?_
   ·(first|done|exact leX)
   ·rw [<- hsi];refine J2 hel hte ?_;refine zNW (hrec (d - 1) aa (i+1) aa) ?_ ac;simp [go_sem,zaf,hbl]
  ·have hil:i=prog.length:=by omega
   subst hil;generalize K prog.length=R at *;exact K0
 ·simp
 ·simp [go_sem,zaf,h0,hbl];(first|done|exact leX)
 ·simp
theorem zvX (g:zaa) (hg:GOk g) (side:Int) (cell:Int) (prog:List (Int×Int)) (hp:prog.length<=8):
    zav Tryz.prog 239 [zaT prog, .fp (zad g), .fp [.int side], .fp [.int cell]] (zhp (zdz g.board side prog cell)):=by
  refine pF Tryz.func239 ?_;have hP:=zEP g.board hg.board hg.c1 hg.c9 side prog hp cell;generalize zdz g.board side prog cell=R at *;rw [show zgT g.board= [.int g.cells,zcU g.next,zaG g.turn] from rfl] at hP;refine J0 ?_;refine aP hP ?_;exact K0
def zph (f:Nat->List AV) (z:List AV) (n c:Nat):List (List AV):=(List.range n).map λ i=>if i<c then f i else z
theorem zx3 (f:Nat->List AV) (z:List AV) (n c:Nat):(zph f z n c).length=n:=by simp [zph]
theorem zuw (f:Nat->List AV) (z:List AV) (n:Nat):List.replicate n z=zph f z n 0:=by
  unfold zph;refine List.ext_getElem ac λ i h1 h2=> ?_;simp
theorem zx4 (f:Nat->List AV) (z:List AV) (n c:Nat):(zph f z n c).set c (f c)=zph f z n (c+1):=by
  unfold zph;refine List.ext_getElem ac λ i h1 h2=> ?_;grind
theorem zx2 (f:Nat->List AV) (z:List AV) (n:Nat):zph f z n n=(List.range n).map f:=by
  grind [zph,List.map_congr_left]
theorem zod {f:Nat->List AV}{z:List AV}{c m:Nat} (hf:∀i,∀x ∈ f i,Bel m x) (hz:∀x ∈ z,Bel m x):∀r ∈ zph f z n c,∀x ∈ r,Bel m x:=by
  grind [zph]
theorem zCe (h:zay) (o:Nat) (x:Option zcr):zhF (upd h o x) [o]=upd h o (zkt x):=by
  grind [zhF,upd]
def zt2 (g:zaa) (side:Int) (j:Nat):List (List (List zaH)):=(g.kinds.take j).map λ k=>zgg g.board side k.progs
theorem zE8 (g:zaa) (side:Int){j:Nat} (h:j<g.kinds.length):zt2 g side (j+1)=zt2 g side j++ [zgg g.board side (nth g.kinds j).progs]:=by
  grind [zt2,List.take_add_one,nth]
theorem zIB (g:zaa) (side:Int):zt2 g side g.kinds.length=zjy g side:=by grind [zt2,zjy]
theorem zE9 (g:zaa) (side:Int):zt2 g side 0= []:=by simp [zt2]
theorem zIC (g:zaa) (side:Int){j:Nat} (h:j<=g.kinds.length):(zt2 g side j).length=j:=by grind [zt2]
theorem zyv  (hg:GOk g) (side:Int) (hk:k ∈ g.kinds) (cell:Int):(zjr g.board side k.progs cell).length<=8589934592:=by
  have h:=zpi (λ p=>zdz g.board side p cell) 43046721 k.progs (λ p hp=>by
    have:=zu5 hg.board hg.c1 hg.c9 side p (hg.pr k hk p hp).len cell p.length;grind [zkb])
  have:=hg.pn k hk;grind [zjr]
theorem zEe  (hg:GOk g) (s:Int) (hk:k ∈ g.kinds) (c:Int):zmR 1048576 (zjr g.board s k.progs c):=by
  intro w hw;obtain ⟨p,hp,hw⟩:=List.mem_flatMap.1 hw;have:=znt hg.board hg.c9 s p c p.length (Nat.le_refl _) w (by grind [zkb]);have:=(hg.pr k hk p hp).len;omega
theorem zw5 (g:zaa) (hg:GOk g):zav Tryz.prog 194 [.agg (zad g)] (.agg (zng (zo7 g))):=by
  refine pF Tryz.func194 ?_;have hc9:=hg.c9;have hc1:=hg.c1;have hk6:=hg.k6;have hF:=λ (s:Int) (c:Int) (k:zhn) (hk:k ∈ g.kinds)=>zDT k.progs (by have:=hg.pn k hk;omega) 239 [.fp (zad g), .fp [.int s], .fp [.int c]] (λ p=>zdz g.board s p c)
    (λ p hp=>zvX g hg s c p (hg.pr k hk p hp).len) ae (zyv hg s hk c)
  have hkb:∀ (s:Int) (k:zhn) (c:Nat),c<g.cells.toNat->True:=λ _ _ _ _=>trivial;have hR:zng (zo7 g)= [zbF (zjy g 0),zbF (zjy g 1)]:=rfl;rw [hR];clear hR;have hsk:=λ (s:Int) (j:Nat) (h:j<g.kinds.length)=>zE8 g s h;have hsa:=λ s=>zIB g s;have hsz:=λ s=>zE9 g s;have hsl:=λ (s:Int) (j:Nat) (h:j<=g.kinds.length)=>zIC g s h;obtain ⟨C,hC⟩:∃C:Nat,g.cells=C:=⟨g.cells.toNat,aa⟩
  have hcells:∀ (s:Int) (j:Nat),zgg g.board s (nth g.kinds j).progs=(List.range C).map λ (c:Nat)=>zjr g.board s (nth g.kinds j).progs c:=λ s j=>by
    unfold zgg;grind [zaa.board]
  generalize zt2 g=K at *;have heg:zad g= [.int (C:Int),zcU g.next,zaG g.turn, .lst 3 (g.kinds.map zbq), .int g.rights, .v (.bool g.must), .lst 4 (g.clauses.map zaZ), .int g.blocked, .int g.endless]:=by rw [<- hC];rfl
  rw [heg] at hF;have hbl:∀n,(∀c' ∈ zad g,Bel n c')=True:=λ n=>ae;have hel:(zad g).length=9:=rfl;refine J1 hel ?_;refine zNW (zNY (α:=Nat) (λ s=>⟨[(1, .ref 0 0 9 0 0),(2, .ref 1 0 2 0 0),(3, .ref 2 0 2 0 0),(9, .int s)],
      [(0, .rows false 0 9 [zad g]),(1, .rows true 0 2 [[AV.v (.slice none 0 0),AV.v (.slice none 0 0)]]),(2, .rows true 0 2 [[if s=0 then AV.v (.slice none 0 0) else zbF (zjy g 0),if s<2 then AV.v (.slice none 0 0) else zbF (zjy g 1)]])],3⟩)
    (λ d s=>s+d=2) ?_ 2 0 ?_) ?_ ?_
  · rintro d0 s s1 hrec;rcases (show s=0∨s=1∨s=2 by omega) with rfl|rfl|rfl
    · have hFs:=hF 0;have hsk:=hsk 0;have hsa:=hsa 0;have hsz:=hsz 0;have hsl:=hsl 0;have hcells:=hcells 0;refine J2 hel hC ?_;refine zNW (zNY (α:=Nat) (λ j=>⟨[(1, .ref 0 0 9 0 0),(2, .ref 1 0 2 0 0),(3, .ref 2 0 2 0 0),(4, .ref 3 0 1 0 0),(9, .int 0),(13, .lst 3 (g.kinds.map zbq)),(14, .int g.kinds.length),(15, .int j)],
          [(0, .rows false 0 9 [zad g]),(1, .rows true 0 2 [[AV.v (.slice none 0 0),AV.v (.slice none 0 0)]]),(2, .rows true 0 2 [[.sl 4 j 1 0 j,AV.v (.slice none 0 0)]]),(3, .rows false 0 1 [[.int 0]]),(4, .rows true j 1 ((K 0 j).map λ x=> [zgB x]))],5⟩)
        (λ d j=>j+d=g.kinds.length) ?_ g.kinds.length 0 ?_) ?_ ?_
      · rintro d j j1 hrec2;have hlj:=hsl j aa;refine J3 hel hC hlj ?_;refine zNX (λ hj=> ?_) (λ hj=> ?_)<;>simp at hj
        · have hkm:=zah hj;have hpn:=hg.pn _ hkm;have hFk:=λ (c:Nat)=>hFs c _ hkm;have hsj:=hsk j hj;have hcj:=hcells j;have hlj1:=hsl (j+1) aa;have hkp:∀c:Int,(nth g.kinds j).progs.flatMap (λ p=>zdz g.board 0 p c)=zjr g.board 0 (nth g.kinds j).progs c:=λ c=>rfl;simp only [hkp] at hFk;generalize zjr g.board 0 (nth g.kinds j).progs=KP at *;refine J3 hel hC hj ?_;rw [zuw (λ (i:Nat)=> [.lst 2 ((KP i).map zbJ)])];refine zNW (zNY (α:=Nat) (λ c=>⟨[(1, .ref 0 0 9 0 0),(2, .ref 1 0 2 0 0),(3, .ref 2 0 2 0 0),(4, .ref 3 0 1 0 0),(6, .ref 5 0 3 0 0),(7, .sl 6 0 1 0 C),(9, .int 0),(13, .lst 3 (g.kinds.map zbq)),(14, .int g.kinds.length),(15, .int j),(24, .int C),(25, .int c)],
              [(0, .rows false 0 9 [zad g]),(1, .rows true 0 2 [[AV.v (.slice none 0 0),AV.v (.slice none 0 0)]]),(2, .rows true 0 2 [[.sl 4 j 1 0 j,AV.v (.slice none 0 0)]]),(3, .rows false 0 1 [[.int 0]]),(4, .rows true j 1 ((K 0 j).map λ x=> [zgB x])),
               (5, .rows true 0 3 [zbq (nth g.kinds j)]),(6, .rows true 0 1 (zph (λ (i:Nat)=> [.lst 2 ((KP i).map zbJ)]) [AV.v (.slice none 0 0)] C c))],7⟩)
            (λ d c=>c+d=C) ?_ C 0 ?_) ?_ ?_
          · rintro d2 c c1' hrec3;have hfl:=zx3 (λ (i:Nat)=> [.lst 2 ((KP i).map zbJ)]) [AV.v (.slice none 0 0)] C c;have hfs:=zx4 (λ (i:Nat)=> [.lst 2 ((KP i).map zbJ)]) [AV.v (.slice none 0 0)] C c;refine J4 hel hC hlj hfl ?_;refine zNX (λ hc=> ?_) (λ hc=> ?_)<;>simp at hc
            · (repeat (first|with_reducible (first|refine wL λ _=>?_|refine wD λ _=>?_|refine wE ?_)|simp [go_sem,hel,hC,hj,hfl]))
              refine zFY.frz (zhF _ [7]) (zi2 _ _) ?_;simp only [zCe];refine J4 hel hC hj hfl ?_;refine zbV.frz [.lst 1 ((nth g.kinds j).progs.map λ p=> [zaT p]), _] _ [0,3,7] [] (hFk c) ac ?_ ae ?_
              · intro h₁ hS;have h0:=hS 0 ac;have h3:=hS 3 ac;have h7:=hS 7 ac;simp [upd,zhF,zkt] at h0 h3 h7;refine .cons (.refl _) (.cons (.fn .nil (.cons (.frzP h0.symm ac ac (by simp [zap,upd,<- h0]) (.refl _ _ _ _)) (.cons (.frzP h3.symm ac ac (by simp [zap,upd,<- h3]) (.refl _ _ _ _)) (.cons (.frzP h7.symm ac ac (by simp [zap,upd,<- h7]) (.refl _ _ _ _)) .nil)))) .nil)
              · (repeat (first|refine wV λ _=>?_|simp [go_sem,hel,hC,hj,hfl]))
                refine zNW (hrec3 (d2 - 1) aa (c+1) aa) ?_ ac;simp [go_sem,zaf,hfs,hC];exact zod (λ i x hx=>by simp only [List.mem_singleton] at hx;subst hx;exact of_eq_true zo2) (λ x hx=>by simp only [List.mem_singleton] at hx;subst hx;exact .v _)
            · have hcC:c=C:=by omega
              subst hcC;rw [zx2];refine J3 hel hC hj ?_;refine zNW (hrec2 (d - 1) aa (j+1) aa) ?_ ac;simp [go_sem,zaf,hsj,hcj,hC];(first|done|exact leX)
          · simp
          · simp [go_sem,zaf,hC];exact zod (λ i x hx=>by simp only [List.mem_singleton] at hx;grind [zo2]) (λ x hx=>by simp only [List.mem_singleton] at hx;subst hx;exact .v _)
          · simp
        · have hjl:j=g.kinds.length:=by omega
          subst hjl;rw [hsa];refine J2 hel hC ?_;refine zNW (hrec (d0 - 1) aa (1) aa) ?_ ac;have hsl':(zjy g 0).length=g.kinds.length:=af;simp [go_sem,zaf,hC];(first|done|exact Lx1 hsl')
      · simp
      · simp [go_sem,zaf,hsz,hC]
      · simp
    · have hFs:=hF 1;have hsk:=hsk 1;have hsa:=hsa 1;have hsz:=hsz 1;have hsl:=hsl 1;have hcells:=hcells 1;refine J2 hel hC ?_;refine zNW (zNY (α:=Nat) (λ j=>⟨[(1, .ref 0 0 9 0 0),(2, .ref 1 0 2 0 0),(3, .ref 2 0 2 0 0),(4, .ref 3 0 1 0 0),(9, .int 1),(13, .lst 3 (g.kinds.map zbq)),(14, .int g.kinds.length),(15, .int j)],
          [(0, .rows false 0 9 [zad g]),(1, .rows true 0 2 [[AV.v (.slice none 0 0),AV.v (.slice none 0 0)]]),(2, .rows true 0 2 [[zbF (zjy g 0), .sl 4 j 1 0 j]]),(3, .rows false 0 1 [[.int 1]]),(4, .rows true j 1 ((K 1 j).map λ x=> [zgB x]))],5⟩)
        (λ d j=>j+d=g.kinds.length) ?_ g.kinds.length 0 ?_) ?_ ?_
      · rintro d j j1 hrec2;have hlj:=hsl j aa;refine J3 hel hC hlj ?_;refine zNX (λ hj=> ?_) (λ hj=> ?_)<;>simp at hj
        · have hkm:=zah hj;have hpn:=hg.pn _ hkm;have hFk:=λ (c:Nat)=>hFs c _ hkm;have hsj:=hsk j hj;have hcj:=hcells j;have hlj1:=hsl (j+1) aa;have hkp:∀c:Int,(nth g.kinds j).progs.flatMap (λ p=>zdz g.board 1 p c)=zjr g.board 1 (nth g.kinds j).progs c:=λ c=>rfl;simp only [hkp] at hFk;generalize zjr g.board 1 (nth g.kinds j).progs=KP at *;refine J3 hel hC hj ?_;rw [zuw (λ (i:Nat)=> [.lst 2 ((KP i).map zbJ)])];refine zNW (zNY (α:=Nat) (λ c=>⟨[(1, .ref 0 0 9 0 0),(2, .ref 1 0 2 0 0),(3, .ref 2 0 2 0 0),(4, .ref 3 0 1 0 0),(6, .ref 5 0 3 0 0),(7, .sl 6 0 1 0 C),(9, .int 1),(13, .lst 3 (g.kinds.map zbq)),(14, .int g.kinds.length),(15, .int j),(24, .int C),(25, .int c)],
              [(0, .rows false 0 9 [zad g]),(1, .rows true 0 2 [[AV.v (.slice none 0 0),AV.v (.slice none 0 0)]]),(2, .rows true 0 2 [[zbF (zjy g 0), .sl 4 j 1 0 j]]),(3, .rows false 0 1 [[.int 1]]),(4, .rows true j 1 ((K 1 j).map λ x=> [zgB x])),
               (5, .rows true 0 3 [zbq (nth g.kinds j)]),(6, .rows true 0 1 (zph (λ (i:Nat)=> [.lst 2 ((KP i).map zbJ)]) [AV.v (.slice none 0 0)] C c))],7⟩)
            (λ d c=>c+d=C) ?_ C 0 ?_) ?_ ?_
          · rintro d2 c c1' hrec3;have hfl:=zx3 (λ (i:Nat)=> [.lst 2 ((KP i).map zbJ)]) [AV.v (.slice none 0 0)] C c;have hfs:=zx4 (λ (i:Nat)=> [.lst 2 ((KP i).map zbJ)]) [AV.v (.slice none 0 0)] C c;refine J4 hel hC hlj hfl ?_;refine zNX (λ hc=> ?_) (λ hc=> ?_)<;>simp at hc
            · (repeat (first|with_reducible (first|refine wL λ _=>?_|refine wD λ _=>?_|refine wE ?_)|simp [go_sem,hel,hC,hj,hfl]))
              refine zFY.frz (zhF _ [7]) (zi2 _ _) ?_;simp only [zCe];refine J4 hel hC hj hfl ?_;refine zbV.frz [.lst 1 ((nth g.kinds j).progs.map λ p=> [zaT p]), _] _ [0,3,7] [] (hFk c) ac ?_ ae ?_
              · intro h₁ hS;have h0:=hS 0 ac;have h3:=hS 3 ac;have h7:=hS 7 ac;simp [upd,zhF,zkt] at h0 h3 h7;refine .cons (.refl _) (.cons (.fn .nil (.cons (.frzP h0.symm ac ac (by simp [zap,upd,<- h0]) (.refl _ _ _ _)) (.cons (.frzP h3.symm ac ac (by simp [zap,upd,<- h3]) (.refl _ _ _ _)) (.cons (.frzP h7.symm ac ac (by simp [zap,upd,<- h7]) (.refl _ _ _ _)) .nil)))) .nil)
              · (repeat (first|refine wV λ _=>?_|simp [go_sem,hel,hC,hj,hfl]))
                refine zNW (hrec3 (d2 - 1) aa (c+1) aa) ?_ ac;simp [go_sem,zaf,hfs,hC];exact zod (λ i x hx=>by simp only [List.mem_singleton] at hx;subst hx;exact of_eq_true zo2) (λ x hx=>by simp only [List.mem_singleton] at hx;subst hx;exact .v _)
            · have hcC:c=C:=by omega
              subst hcC;rw [zx2];refine J3 hel hC hj ?_;refine zNW (hrec2 (d - 1) aa (j+1) aa) ?_ ac;simp [go_sem,zaf,hsj,hcj,hC];(first|done|exact leX)
          · simp
          · simp [go_sem,zaf,hC];exact zod (λ i x hx=>by simp only [List.mem_singleton] at hx;grind [zo2]) (λ x hx=>by simp only [List.mem_singleton] at hx;subst hx;exact .v _)
          · simp
        · have hjl:j=g.kinds.length:=by omega
          subst hjl;rw [hsa];refine J2 hel hC ?_;refine zNW (hrec (d0 - 1) aa (2) aa) ?_ ac;have hsl':(zjy g 1).length=g.kinds.length:=af;simp [go_sem,zaf,hC];(first|done|exact Lx1 hsl')
      · simp
      · simp [go_sem,zaf,hsz,hC]
      · simp
    · (repeat (first|refine wV λ _=>?_|simp [go_sem]))
  · simp
  · simp [go_sem,zaf]
  · simp
structure zbB (l:List Int):Prop where
 len:l.length=64
 le:∀c,c<64->0<=nth l c∧nth l c<=c
def zqo (l:List Int):Nat->Int->Int
 |0,c=>c
 |f+1,c=>if nth l c.toNat=c then c else zqo l f (nth l c.toNat)
def za4 (l:List Int) (c:Int):Int:=zqo l (c.toNat+1) c
theorem zva {l:List Int} (hl:zbB l):∀ (f:Nat) (c:Int),0<=c->c<64->c.toNat<f->0<=zqo l f c∧zqo l f c<=c∧nth l (zqo l f c).toNat=zqo l f c
 |0,c, _, _,h=>aa
 |f+1,c,h0,h1,h2=>by
  have h:=hl.le c.toNat aa;rw [zqo];split
  ·omega
  ·obtain ⟨a,b,d⟩:=zva hl f (nth l c.toNat) h.1 aa aa;omega
theorem zu9 {l:List Int} (hl:zbB l):∀ (f f':Nat) (c:Int),0<=c->c<64->c.toNat<f->c.toNat<f'->zqo l f c=zqo l f' c
 |0, _,c, _, _,h, _=>aa
 | _,0,c, _, _, _,h=>aa
 |f+1,f'+1,c,h0,h1,h2,h3=>by
  have h:=hl.le c.toNat aa;rw [zqo,zqo];split
  ·rfl
  ·exact zu9 hl f f' _ h.1 aa aa aa
theorem zkd  (hl:zbB l) (h0:0<=c) (h1:c<64):0<=za4 l c∧za4 l c<=c∧nth l (za4 l c).toNat=za4 l c:=zva hl _ c h0 h1 aa
theorem zke  (hl:zbB l) (h0:0<=c) (h1:c<64):za4 l c=if nth l c.toNat=c then c else za4 l (nth l c.toNat):=by
 have h:=hl.le c.toNat aa;grind [za4,zqo,zu9]
def zqk (l:List Int) (a b:Int):List Int:=l.set (max a b).toNat (min a b)
theorem zCn  (hl:zbB l){a b:Int} (ha:0<=a) (hb:0<=b):zbB (zqk l a b):=by
 refine ⟨by simpa [zqk] using hl.len,λ c hc=> ?_⟩;unfold zqk;rw [zqX];split
 ·omega
 ·exact hl.le c hc
theorem zvb {l:List Int} (hl:zbB l){a b:Int} (ha:0<=a) (hb:0<=b) (ha':a<64) (hb':b<64) (hra:nth l a.toNat=a) (hrb:nth l b.toNat=b):
  ∀ (n:Nat) (c:Int),c.toNat<n->0<=c->c<64->za4 (zqk l a b) c=if za4 l c=max a b then min a b else za4 l c
 |0,c,h, _, _=>aa
 |n+1,c,hn,h0,h1=>by
  have hk:=zCn hl ha hb;have hle:=hl.le c.toNat aa;have hn':nth (zqk l a b) c.toNat=if c=max a b then min a b else nth l c.toNat:=by
   unfold zqk;rw [zqX];have:=hl.len;omega
  have hmM:nth l (max a b).toNat=max a b:=by
   grind
  have hmin:nth l (min a b).toNat=min a b:=by
   grind
  rw [zke hk h0 h1,hn',zke hl h0 h1];by_cases e:c=max a b
  ·grind [zke,zqk,zqX]
  ·rw [if_neg e];by_cases e2:nth l c.toNat=c
   ·omega
   ·rw [if_neg e2,if_neg e2];exact zvb hl ha hb ha' hb' hra hrb n _ aa hle.1 aa
def zbu (l:List Int) (first:Int) (others:List Int):List Int:=others.foldl (λ l c=>zqk l (za4 l first) (za4 l c)) l
def zk2 (l:List Int) (first:Int) (others:List Int):Int:=others.foldl (λ m c=>min m (za4 l c)) (za4 l first)
theorem zsm (l:List Int) (first:Int) (others:List Int) (c:Int):zk2 l first (others++ [c])=min (zk2 l first others) (za4 l c):=by
 grind [zk2]
theorem zAG (l:List Int) (first:Int) (others:List Int) (c:Int):zbu l first (others++ [c])=zqk (zbu l first others) (za4 (zbu l first others) first) (za4 (zbu l first others) c):=by
 grind [zbu]
theorem zCK {α:Type}{P:List α->Prop} (h0:P []) (h1:∀l a,P l->P (l++ [a])) (l:List α):P l:=by
 rw [<- List.reverse_reverse l];generalize l.reverse=r;induction r<;>grind
theorem zmE (l:List Int) (first:Int):∀ (others:List Int),(∃c,(c=first∨c ∈ others)∧zk2 l first others=za4 l c)∧∀c,(c=first∨c ∈ others)->zk2 l first others<=za4 l c:=by
 refine zCK ?_ ?_;case _=>grind [zk2]
 case _=>
  intro others d ih;obtain ⟨⟨c,hc,e⟩,h⟩:=ih;rw [zsm];grind
theorem zio  (hl:zbB l){first:Int} (hf:0<=first∧first<64):∀ (others:List Int),(∀c ∈ others,0<=c∧c<64)->
  zbB (zbu l first others)∧∀x,0<=x->x<64->((∃c,(c=first∨c ∈ others)∧za4 l x=za4 l c)->za4 (zbu l first others) x=zk2 l first others)∧
   ((¬∃c,(c=first∨c ∈ others)∧za4 l x=za4 l c)->za4 (zbu l first others) x=za4 l x):=by
 refine zCK ?_ ?_;case _=>
  grind [zbu,zk2]
 case _=>
  intro others d ih ho;obtain ⟨h1,h2⟩:=ih (λ c hc=>ho c ay);have hd:=ho d ac;obtain ⟨⟨c0,hc0,e0⟩,hmin⟩:=zmE l first others
  have hfr:=(h2 first hf.1 hf.2).1 ⟨first, .inl rfl,rfl⟩;rw [zAG,zsm,hfr];generalize zk2 l first others=m at *
  generalize zbu l first others=l1 at *
  have sf:=zkd h1 hf.1 hf.2;rw [hfr] at sf;have sd:=zkd h1 hd.1 hd.2;refine ⟨zCn h1 sf.1 sd.1,λ x x0 x1=> ?_⟩;have hr:=zvb h1 sf.1 sd.1 aa aa sf.2.2 sd.2.2 (x.toNat+1) x aa x0 x1;rw [hr];obtain ⟨g1,g2⟩:=h2 x x0 x1;obtain ⟨k1,k2⟩:=h2 d hd.1 hd.2;have hmem:∀c,(c=first∨c ∈ others++ [d])↔((c=first∨c ∈ others)∨c=d):=λ c=>by
   grind
  by_cases hds:∃c,(c=first∨c ∈ others)∧za4 l d=za4 l c
  ·have kd:=k1 hds;obtain ⟨c1,hc1,e1⟩:=hds;have hle:=hmin c1 hc1;rw [kd,Int.max_self,Int.min_self,Int.min_eq_left aa];refine ⟨λ ⟨c,hc,e⟩=> ?_,λ hn=> ?_⟩;all_goals grind
  ·have kd:=k2 hds;rw [kd];refine ⟨λ ⟨c,hc,e⟩=> ?_,λ hn=> ?_⟩
   ·grind
   ·have hx:=g2 (λ ⟨c,hc,e⟩=>hn ⟨c,(hmem c).2 (.inl hc),e⟩);grind
def zcX (l:List Int) (n:Nat):List Int:=(List.range n).map λ (c:Nat)=>za4 l c
theorem zEt (l:List Int) (h0:0<=c) (h1:c<n):nth (zcX l n) c.toNat=za4 l c:=by
 grind [zcX,nth]
def zbh (a:zek):List Int:=if a.1=3∨a.1=4∨a.1=5∨a.1=6 then [a.2.1] else if a.1=7 then [a.2.1,a.2.2] else []
theorem zDA (a:zek):(zbh a).length<=2:=by
 grind [zbh]
def zm7 (n:Nat) (p:zaH):Prop:=(0<=p.to∧p.to<n)∧p.acts.length<=1048576∧∀a ∈ p.acts,∀c ∈ zbh a,0<=c∧c<n
def zgH (n:Nat) (s:List (List (List zaH))):Prop:=s.length<=6∧∀k ∈ s,k.length=n∧∀x ∈ k,x.length<=1099511627776∧∀p ∈ x,zm7 n p
def zzX (c:Int) (l:List Int) (acts:List zek):List Int:=acts.foldl (λ l a=>zbu l c (zbh a)) l
def zns (c:Int) (l:List Int) (p:zaH):List Int:=zzX c (zbu l c [p.to]) p.acts
def zm2 (c:Int) (l:List Int) (ps:List zaH):List Int:=ps.foldl (zns c) l
def zhx (l:List Int):Nat->List (List zaH)->List Int
 | _, []=>l
 |c,ps::k=>zhx (zm2 c l ps) (c+1) k
def zi6 (l:List Int) (s:List (List (List zaH))):List Int:=s.foldl (λ l k=>zhx l 0 k) l
def idL:List Int:=(List.range 64).map λ (c:Nat)=>(c:Int)
def zez (c:ziN):List Int:=zi6 (zi6 idL c.1) c.2
theorem zym:zbB idL:=by
 refine ⟨by simp [idL],λ c hc=> ?_⟩;grind [idL,zcp]
theorem zok  (hl:zbB l) (hn:n<=64) (hc:0<=c∧c<n){others:List Int} (ho:∀c ∈ others,0<=c∧c<n):zbB (zbu l c others):=
 (zio hl (first:=c) ⟨hc.1,aa⟩ others (λ d hd=>by grind)).1
theorem zBH {n:Nat} (hn:n<=64){c:Int} (hc:0<=c∧c<n):∀ (acts:List zek){l:List Int},zbB l->(∀a ∈ acts,∀c ∈ zbh a,0<=c∧c<n)->zbB (zzX c l acts)
 | [], _,hl, _=>hl
 |a::acts,l,hl,h=>zBH hn hc acts (zok hl hn hc (h a ac)) (λ b hb=>h b (by simp [hb]))
theorem zCy  (hn:n<=64) (hc:0<=c∧c<n){p:zaH} (hp:zm7 n p) (hl:zbB l):zbB (zns c l p):=
 zBH hn hc p.acts (zok hl hn hc (λ d hd=>by grind [zm7])) hp.2.2
theorem zsV {n:Nat} (hn:n<=64){c:Int} (hc:0<=c∧c<n):∀ (ps:List zaH){l:List Int},zbB l->(∀p ∈ ps,zm7 n p)->zbB (zm2 c l ps)
 | [], _,hl, _=>hl
 |p::ps,l,hl,h=>zsV hn hc ps (zCy hn hc (h p ac) hl) (λ q hq=>h q dD)
theorem zrI {n:Nat} (hn:n<=64):∀ (k:List (List zaH)) (c:Nat){l:List Int},zbB l->c+k.length<=n->(∀x ∈ k,∀p ∈ x,zm7 n p)->zbB (zhx l c k)
 | [], _, _,hl, _, _=>hl
 |ps::k,c,l,hl,hc,h=>by
  rw [zhx];simp only [List.length_cons] at hc;exact zrI hn k (c+1) (zsV hn ⟨aa,aa⟩ ps hl (h ps ac)) aa (λ x hx=>h x aZ)
theorem zoo {n:Nat} (hn:n<=64):∀ (s:List (List (List zaH))){l:List Int},zbB l->(∀k ∈ s,k.length=n∧∀x ∈ k,x.length<=1099511627776∧∀p ∈ x,zm7 n p)->zbB (zi6 l s)
 | [], _,hl, _=>hl
 |k::s,l,hl,h=>by
  have hk:=h k ac;exact zoo hn s (zrI hn k 0 hl aa (λ x hx=>(hk.2 x hx).2)) (λ q hq=>h q dD)
theorem zyy  (hn:n<=64){c:ziN} (h1:zgH n c.1) (h2:zgH n c.2):zbB (zez c):=zoo hn c.2 (zoo hn c.1 zym h1.2) h2.2
theorem zGN {cells:Int}{a:zek} (ha:zzn cells kinds rights a):∀c ∈ zbh a,0<=c∧c<cells:=by
 grind [zzn,zbh]
def zan (of:List Int) (c:Nat):List Int:=((List.range c).filter λ (c:Nat)=>decide (nth of c=(c:Int))).map λ (c:Nat)=>(c:Int)
theorem zAT (of:List Int) (c:Nat):zan of (c+1)=if nth of c=(c:Int) then zan of c++ [(c:Int)] else zan of c:=by
 grind [zan,List.range_succ]
theorem zEq (of:List Int) (c:Nat):(zan of c).length<=c:=by
 grind [zan]
theorem minE (a b:Int):(if b<a then b else a)=min a b:=aa
theorem maxE (a b:Int):(if a<b then b else a)=max a b:=aa
def zCv (names:List Int) (L:Int) (p:Nat->Bool):List Int:=(List.range names.length).map λ j=>if p j then L else nth names j
theorem zKY (names:List Int) (L:Int) (p:Nat->Bool):(zCv names L p).length=names.length:=by simp [zCv]
variable {q:Nat->Bool}
theorem zEA {L:Int}{p:Nat->Bool} (h:∀j,j<names.length->p j=q j):zCv names L p=zCv names L q:=by
 grind [zCv,List.map_congr_left]
theorem zKZ {L:Int}{p:Nat->Bool}{k:Nat} (hk:k<names.length) (h:∀j,j<names.length->q j=(p j||decide (j=k))):zCv names L q=(zCv names L p).set k L:=by
 refine List.ext_getElem (by simp [zCv]) λ j h1 h2=> ?_;grind [zCv]
theorem zH4 (names:List Int) (L:Int):zCv names L (λ _=>false)=names:=by
 refine List.ext_getElem (by simp [zCv]) λ j h1 h2=> ?_;grind [zCv,zcp]
theorem zBe (of:List Int) (hl:of.length<=1048576):zav Tryz.prog 144 [zaG of] (zaG (zan of of.length)):=by
  refine pF Tryz.func144 ?_;refine J0 ?_;refine zNW (zNY (α:=Nat) (λ c=>⟨[(3, .sl 0 (zan of c).length 1 0 (zan of c).length),(6,zaG of),(7, .int of.length),(8, .int c)], [(0, .rows true (zan of c).length 1 ((zan of c).map zd2))],1⟩)
    (λ d c=>c+d=of.length) ?_ of.length 0 ?_) ?_ ?_
  · rintro d c i1 hrec;have hs:=zAT of c;have hn:=zEq of c;refine J0 ?_;refine zNX (λ hc=> ?_) (λ hc=> ?_)<;>simp at hc
    · (repeat (first|refine wV λ _=>?_|simp [go_sem,hc]))
      refine zNX (λ he=> ?_) (λ he=> ?_)<;>simp at he
      · rw [if_pos he.symm] at hs;refine J0 ?_;refine zNW (hrec (d - 1) aa (c+1) aa) ?_ ac;simp [go_sem,zaf,hs]
      · rw [if_neg (λ h=>he h.symm)] at hs;refine J0 ?_;refine zNW (hrec (d - 1) aa (c+1) aa) ?_ ac;simp [go_sem,zaf,hs]
    · have hil:c=of.length:=by omega
      subst hil;refine J0 ?_;(first|done|exact leX)
  · simp
  · simp [go_sem,zaf,zan]
  · simp
theorem zBc (a:zek):zav Tryz.prog 196 [.agg (zgS a)] (zaG (zbh a)):=by
  refine pF Tryz.func196 ?_;obtain ⟨op,A,B⟩:=a;simp only [zbh];by_cases h7:op=7
  · subst h7;refine J0 ?_;(first|done|exact leX)
  · by_cases h3:op=3∨op=4∨op=5∨op=6
    · rw [if_pos h3];rcases h3 with rfl|rfl|rfl|rfl<;>(repeat (first|refine wV λ _=>?_|simp [go_sem]))<;>(first|done|exact leX)
    · rw [if_neg h3,if_neg h7];have a3:¬op=3:=λ e=>h3 (.inl e);have a4:¬op=4:=λ e=>h3 (.inr (.inl e));have a5:¬op=5:=λ e=>h3 (.inr (.inr (.inl e)));have a6:¬op=6:=λ e=>h3 (.inr (.inr (.inr e)));refine J5 h7 a3 a4 a5 a6 ?_;(first|done|exact leX)
def zlb (of at_:List Int) (name:Int) (k:Nat):List Int:=(List.range k).map λ c=>if nth of c=name then nth at_ c else 0
theorem zIb (of at_:List Int) (name:Int) (k:Nat):(zlb of at_ name k).length=k:=by simp [zlb]
def zwk (of at_:List Int) (name:Int) (c:Nat):List Int:=zCv at_ 0 (λ j=>decide (j<c) && decide (nth of j≠name))
theorem zHo (of at_:List Int) (name:Int) (c:Nat):(zwk of at_ name c).length=at_.length:=zKY _ _ _
theorem zD3 (of at_:List Int) (name:Int):zwk of at_ name 0=at_:=(zEA λ j hj=>by simp).trans (zH4 at_ 0)
theorem zD2 (of at_:List Int) (name:Int){c:Nat} (hc:c<at_.length):zwk of at_ name (c+1)=if nth of c=name then zwk of at_ name c else (zwk of at_ name c).set c 0:=by
  grind [zKZ,zwk]
theorem zIc (of at_:List Int) (name:Int):zwk of at_ name at_.length=zlb of at_ name at_.length:=by
  grind [zwk,zCv,zlb,List.map_congr_left]
def zbx (of:List Int) (p:zae) (name:Int):zae:={ p with at_:=zlb of p.at_ name p.at_.length}
theorem zEV (of:List Int) (p:zae) (name:Int) (hof:of.length=p.at_.length) (hp:p.at_.length<=1048576):
    zav Tryz.prog 145 [zaG of, .agg (zag p), .int name] (.agg (zag (zbx of p name))):=by
  refine pF Tryz.func145 ?_;unfold zbx;obtain ⟨at_,h0,h1,rt,sd⟩:=p;simp only at hof hp ⊢;rw [<- zIc];refine J0 ?_;refine zN1 (zmr at_ (by grind [zkq])) ae ?_;refine J0 ?_;refine zNW (zNY (α:=Nat) (λ c=>⟨[(0,zaG of),(2, .int name),(4, .ref 0 0 5 0 0),(6, .ref 1 0 5 0 0),(14, .int at_.length),(15, .int c)],
      [(0, .rows true 0 5 [[.sl 2 1 1 0 at_.length,zaG h0,zaG h1, .int rt, .int sd]]),(1, .rows true 0 5 [[.v (.slice none 0 0), .v (.slice none 0 0), .v (.slice none 0 0), .int 0, .int 0]]),
       (2, .rows true 1 1 ((zwk of at_ name c).map zd2))],3⟩)
    (λ d c=>c+d=at_.length) ?_ at_.length 0 ?_) ?_ ?_
  · rintro d c i1 hrec;have hn:=zHo of at_ name c;refine J0 ?_;refine zNX (λ hc=> ?_) (λ hc=> ?_)<;>simp at hc
    · have hc':c<of.length:=by omega
      have hs:=zD2 of at_ name hc;refine J3 hc hc' hn ?_;refine zNX (λ he=> ?_) (λ he=> ?_)<;>simp at he
      · rw [if_neg he] at hs;refine J2 hn hc ?_;refine zNW (hrec (d - 1) aa (c+1) aa) ?_ ac;simp [go_sem,zaf,hs]
      · rw [if_pos he] at hs;refine J0 ?_;refine zNW (hrec (d - 1) aa (c+1) aa) ?_ ac;simp [go_sem,zaf,hs]
    · have hil:c=at_.length:=by omega
      subst hil;refine J1 hn ?_;(first|done|exact Lx1 hn)
  · simp
  · simp [go_sem,zaf,zD3]
  · simp
def zqb (p:List (Int×Int)):Bool:=p.all λ x=>decide (x.1≠9) && decide (x.1≠10)
def zk5 (k:zhn):zhn:=⟨k.name,k.progs.filter zqb,false⟩
def zeS (g:zaa):zaa:=⟨g.cells,g.next,g.turn,g.kinds.map zk5,0,false, [],3,2⟩
theorem zIf {D K R:Int}{p:List (Int×Int)} (h:zmT D K R p) (hp:zqb p=true):zmT D K 0 p:=by
 refine ⟨h.ne,h.len,λ x hx=> ?_,h.take,h.push,h.become⟩;have hs:=h.st x hx;have:=List.all_eq_true.1 hp x hx;simp only [Bool.and_eq_true,decide_eq_true_eq] at this;exact ⟨hs.op,hs.dir,hs.zero,hs.kind,λ h=>aa⟩
theorem zyX  (hg:GOk g):GOk (zeS g):=by
 have hkl:(zeS g).kinds.length=g.kinds.length:=dh;refine ⟨hg.board,hg.c1,hg.c9,hg.d1,hg.d8,hg.turn,by have:=hg.k1;omega,by have:=hg.k6;omega,λ k hk=> ?_,λ k hk p hp=> ?_,dh,dh,λ c hc=> ?_,dh,dh,dh⟩
 ·obtain ⟨k',hk',rfl⟩:=List.mem_map.1 hk;have:=hg.pn k' hk';grind [zk5]
 ·obtain ⟨k',hk',rfl⟩:=List.mem_map.1 hk;obtain ⟨h1,h2⟩:=List.mem_filter.1 hp;rw [hkl];exact zIf (hg.pr k' hk' p h1) h2
 grind [zeS]
def zfI (g:zaa):Nat:=(min g.cells 4).toNat
theorem zwj  (hg:GOk g):1<=zfI g∧zfI g<=4∧(zfI g:Int)<=g.cells:=by
 have:=hg.c1;grind [zfI]
def bitW (w:Int) (c:Nat):Bool:=decide (zru .u8 (w.fdiv (2 ^ ((c:Int).tmod 8).toNat)) 1=1)
def zvH (n:Nat) (w:Int) (l:List Int) (c:Nat):Int:=
 let to:=nth l (c % n)
 if (n:Int)<=to∨(bitW w c=true∧n<=c) then -1 else if 0<=to∧n<=c then to+n else to
def zkY (n:Nat) (w:Int) (l:List Int) (k:Nat):List Int:=(List.range k).map (zvH n w l)
theorem zuh (n:Nat) (w:Int) (l:List Int) (k:Nat):(zkY n w l k).length=k:=by simp [zkY]
theorem zz0 (n:Nat) (w:Int) (l:List Int) (k:Nat):zkY n w l (k+1)=zkY n w l k++ [zvH n w l k]:=by simp [zkY,List.range_succ]
def zug (g:zaa) (w:Int):zbg:=⟨2 * (zfI g:Int),g.next.map λ l=>zkY (zfI g) w l (2 * zfI g),g.turn⟩
def zkX (g:zaa) (w:Int):zaa:={ zeS g with cells:=2 * (zfI g:Int),next:=g.next.map λ l=>zkY (zfI g) w l (2 * zfI g)}
theorem zF6  (hg:GOk g) (w:Int):zbE (zug g w):=by
 obtain ⟨n1,n4,nc⟩:=zwj hg;have hb:=hg.board;have hd8:=hg.d8;refine ⟨?_,λ t ht=> ?_,λ l hl=> ?_,λ l hl x hx=> ?_, ?_, ?_, ?_⟩
 ·have:=hb.tl;grind [zug,zaa.board]
 ·have:=hb.tv t ht;grind [zug,zaa.board]
 ·grind [zuh,zug]
 ·obtain ⟨l',hl',rfl⟩:=List.mem_map.1 hl;obtain ⟨c,hc,rfl⟩:=List.mem_map.1 hx;have hc':=List.mem_range.1 hc;have hlen:(l'.length:Int)=g.cells:=hb.nl l' hl';have hm:c % zfI g<zfI g:=Nat.mod_lt _ aa;have hv:=hb.nv l' hl' _ (zah (l:=l') (i:=c % zfI g) aa);grind [zug,zvH]
 all_goals grind [zug]
theorem zF7  (hg:GOk g) (w:Int):GOk (zkX g w):=by
 have hp:=zyX hg;obtain ⟨n1,n4,nc⟩:=zwj hg;have hnl:(zkX g w).next.length=g.next.length:=by simp [zkX]
 refine ⟨zF6 hg w,by grind [zkX],by grind [zkX],by rw [hnl];exact hg.d1,by rw [hnl];exact hg.d8,hg.turn,hp.k1,hp.k6,hp.pn,λ k hk p hp'=> ?_,hp.r0,hp.r4,λ c hc=> ?_,hp.cn,hp.bl,hp.en⟩
 ·rw [hnl];exact hp.pr k hk p hp'
 grind [zkX,zeS]
theorem zAU  (hn:n<=64){c:ziN} (h1:zgH n c.1) (h2:zgH n c.2){x:Int} (x0:0<=x) (x1:x<n):
  0<=nth (zcX (zez c) n) x.toNat∧nth (zcX (zez c) n) x.toNat<=x∧nth (zcX (zez c) n) (nth (zcX (zez c) n) x.toNat).toNat=nth (zcX (zez c) n) x.toNat:=by
 grind [zyy,zkd,zEt,zke]
structure zvy (of:List Int):Prop where
 r:∀c,c<of.length->0<=nth of c∧nth of c<=c
 root:∀c,c<of.length->nth of (nth of c).toNat=nth of c
theorem zsJ  (hn:n<=64){c:ziN} (h1:zgH n c.1) (h2:zgH n c.2):zvy (zcX (zez c) n):=by
 refine ⟨λ x hx=> ?_,λ x hx=> ?_⟩<;>rw [show (zcX (zez c) n).length=n by simp [zcX]] at hx<;>obtain ⟨a,b,d⟩:=zAU hn h1 h2 (x:=x) aa aa<;>rw [show ((x:Int)).toNat=x by omega] at *;all_goals omega
theorem zEl :c ∈ zan of n↔0<=c∧c<n∧nth of c.toNat=c:=by
 grind [zan]
theorem zvy.mem  (h:zvy of){c:Nat} (hc:c<of.length):nth of c ∈ zan of of.length:=by
 have a:=h.r c hc;exact zEl.2 ⟨a.1,aa,h.root c hc⟩
theorem zvy.pos  (h:zvy of) (hl:1<=of.length):1<=(zan of of.length).length:=by
 have:=h.mem (c:=0) aa;grind
theorem za0 {α:Type} [Inhabited α] {a b:List α} (hl:a.length=b.length) (h:∀i,i<a.length->nth a i=nth b i):a=b:=by
 grind [List.ext_getElem,nth]
theorem zcO  (hp:POk g p) (of:List Int) (name:Int):POk g (zbx of p name):=by
 refine ⟨?_,λ c hc=> ?_,hp.h0,hp.h1,hp.r0,hp.r1,hp.s⟩
 ·show ((zlb of p.at_ name p.at_.length).length:Int)=g.cells;rw [zIb];exact hp.al
 ·obtain ⟨i,hi,rfl⟩:=List.mem_map.1 hc;split
  ·exact hp.av _ (zah (List.mem_range.1 hi))
  ·omega
def zam (of:List Int) (p:zae):List zae:=(zan of of.length).map (zbx of p)
def zhT (g:zaa):Prop:=(∀k ∈ g.kinds,k.keep=false)∧g.rights=0
theorem zyl  (hn:zhT g) (h:ziR g l):l=List.replicate g.kinds.length 0:=by
 refine za0 (by rw [h.len,List.length_replicate]) λ i hi=> ?_;have hv:=h.v i hi;have hk:=hn.1 _ (zah (show i<g.kinds.length by have:=h.len;omega));have:nth (List.replicate g.kinds.length (0:Int)) i=0:=by
  rw [zcp _ _ (by rw [List.length_replicate];have:=h.len;omega),List.getElem_replicate]
 grind
theorem POk.zero  (hn:zhT g) (hp:POk g p):p.h0=List.replicate g.kinds.length 0∧p.h1=List.replicate g.kinds.length 0∧p.rights=0:=by
 refine ⟨zyl hn hp.h0,zyl hn hp.h1, ?_⟩;have a:=hp.r0;have b:=hp.r1;grind [zhT]
end Go.Av
end
section
open Go Go.Proofs
namespace Go.Av
inductive zab where
 |mk (l r:List zab):zab
namespace zab
def L:zab->List zab
 | .mk l _=>l
def R:zab->List zab
 | .mk _ r=>r
mutual
def size:zab->Nat
 | .mk l r=>1+zaw l+zaw r
def zaw:List zab->Nat
 | []=>0
 |x::l=>x.size+zaw l
end
theorem za1 (x:zab):1<=x.size:=by
 cases x<;>grind [size]
theorem zeP:∀ {l:List zab}{z:zab},z ∈ l->z.size<=zaw l
 |x::l,z,h=>by
  rw [zaw];rcases List.mem_cons.1 h with rfl|h
  ·omega
  ·have:=zeP h;omega
variable {x y z:zab}
theorem zb3  (h:z ∈ x.L):z.size<x.size:=by
 cases x with
 |mk l r=>
  have:=zeP h;grind [size,L]
theorem zb4  (h:z ∈ x.R):z.size<x.size:=by
 cases x with
 |mk l r=>
  have:=zeP h;grind [size,R]
theorem eta (x:zab):x= .mk x.L x.R:=by cases x;rfl
def zKH:Nat->zab->zab->Bool
 |0, _, _=>true
 |n+1,x,y=>(x.L.all λ z=> !zKH n y z) && y.R.all λ z=> !zKH n z x
theorem zsn:∀ {n m:Nat}{x y:zab},x.size+y.size<=n->x.size+y.size<=m->zKH n x y=zKH m x y
 |0,m,x,y,h, _=>aX
 |n+1,0,x,y, _,h=>aX
 |n+1,m+1,x,y,h1,h2=>by
  rw [zKH,zKH];congr 1
  ·rw [Bool.eq_iff_iff,List.all_eq_true,List.all_eq_true];refine forall_congr' λ z=>forall_congr' λ hz=> ?_;have:=zb3 hz;rw [zsn (n:=n) (m:=m) aa aa]
  ·rw [Bool.eq_iff_iff,List.all_eq_true,List.all_eq_true];refine forall_congr' λ z=>forall_congr' λ hz=> ?_;have:=zb4 hz;rw [zsn (n:=n) (m:=m) aa aa]
def leq (x y:zab):Bool:=zKH (x.size+y.size) x y
theorem zwq {n:Nat} (h:x.size+y.size<=n):zKH n x y=leq x y:=zsn h (Nat.le_refl _)
theorem zlV (x y:zab):leq x y=((x.L.all λ z=> !leq y z) && y.R.all λ z=> !leq z x):=by
 have h:=zwq (n:=x.size+y.size+1) (x:=x) (y:=y) aa;rw [<- h,zKH];congr 1
 ·rw [Bool.eq_iff_iff,List.all_eq_true,List.all_eq_true];refine forall_congr' λ z=>forall_congr' λ hz=> ?_;have:=zb3 hz;grind [zwq]
 ·rw [Bool.eq_iff_iff,List.all_eq_true,List.all_eq_true];refine forall_congr' λ z=>forall_congr' λ hz=> ?_;have:=zb4 hz;grind [zwq]
def Le (x y:zab):Prop:=leq x y=true
theorem zbv :Le x y↔(∀z ∈ x.L,¬Le y z)∧∀z ∈ y.R,¬Le z x:=by
 grind [Le,zlV]
theorem le_refl (x:zab):Le x x:=by
 have key:∀ (n:Nat) (x:zab),x.size<=n->Le x x:=by
  intro n;induction n with
  |zero=>grind [za1]
  |succ n ih=>
   intro x h;refine zbv.2 ⟨λ z hz hle=> ?_,λ z hz hle=> ?_⟩
   ·have:=zb3 hz;grind [zbv]
   ·have:=zb4 hz;grind [zbv]
 exact key x.size x (Nat.le_refl _)
theorem le_trans  (h1:Le x y) (h2:Le y z):Le x z:=by
 have key:∀ (n:Nat) (x y z:zab),x.size+y.size+z.size<=n->Le x y->Le y z->Le x z:=by
  intro n;induction n with
  |zero=>grind [za1]
  |succ n ih=>
   intro x y z h h1 h2;refine zbv.2 ⟨λ w hw hle=> ?_,λ w hw hle=> ?_⟩
   ·have:=zb3 hw;grind [zbv]
   ·have:=zb4 hw;grind [zbv]
 exact key _ x y z (Nat.le_refl _) h1 h2
def Eqv (x y:zab):Prop:=Le x y∧Le y x
theorem Eqv.refl (x:zab):Eqv x x:=⟨le_refl x,le_refl x⟩
theorem Eqv.symm  (h:Eqv x y):Eqv y x:=⟨h.2,h.1⟩
theorem Eqv.trans  (h:Eqv x y) (k:Eqv y z):Eqv x z:=⟨le_trans h.1 k.1,le_trans k.2 h.2⟩
def zrn:Nat->zab->zab->zab
 |0, _, _=> .mk [] []
 |n+1,x,y=> .mk (x.L.map (λ z=>zrn n z y)++y.L.map λ z=>zrn n x z) (x.R.map (λ z=>zrn n z y)++y.R.map λ z=>zrn n x z)
theorem zln:∀ {n m:Nat}{x y:zab},x.size+y.size<=n->x.size+y.size<=m->zrn n x y=zrn m x y
 |0,m,x,y,h, _=>aX
 |n+1,0,x,y, _,h=>aX
 |n+1,m+1,x,y,h1,h2=>by
  rw [zrn,zrn];have e1:x.L.map (λ z=>zrn n z y)=x.L.map λ z=>zrn m z y:=List.map_congr_left λ z hz=>by have:=zb3 hz;exact zln aa aa
  have e2:y.L.map (λ z=>zrn n x z)=y.L.map λ z=>zrn m x z:=List.map_congr_left λ z hz=>by have:=zb3 hz;exact zln aa aa
  have e3:x.R.map (λ z=>zrn n z y)=x.R.map λ z=>zrn m z y:=List.map_congr_left λ z hz=>by have:=zb4 hz;exact zln aa aa
  have e4:y.R.map (λ z=>zrn n x z)=y.R.map λ z=>zrn m x z:=List.map_congr_left λ z hz=>by have:=zb4 hz;exact zln aa aa
  rw [e1,e2,e3,e4]
def add (x y:zab):zab:=zrn (x.size+y.size) x y
theorem znT {n:Nat} (h:x.size+y.size<=n):zrn n x y=add x y:=zln h (Nat.le_refl _)
theorem zBJ (x y:zab):add x y= .mk (x.L.map (λ z=>add z y)++y.L.map λ z=>add x z) (x.R.map (λ z=>add z y)++y.R.map λ z=>add x z):=by
 have h:=znT (n:=x.size+y.size+1) (x:=x) (y:=y) aa;rw [<- h,zrn];have e1:x.L.map (λ z=>zrn (x.size+y.size) z y)=x.L.map λ z=>add z y:=List.map_congr_left λ z hz=>by have:=zb3 hz;grind [znT]
 have e2:y.L.map (λ z=>zrn (x.size+y.size) x z)=y.L.map λ z=>add x z:=List.map_congr_left λ z hz=>by have:=zb3 hz;grind [znT]
 have e3:x.R.map (λ z=>zrn (x.size+y.size) z y)=x.R.map λ z=>add z y:=List.map_congr_left λ z hz=>by have:=zb4 hz;grind [znT]
 have e4:y.R.map (λ z=>zrn (x.size+y.size) x z)=y.R.map λ z=>add x z:=List.map_congr_left λ z hz=>by have:=zb4 hz;grind [znT]
 grind
theorem zbr :z ∈ (add x y).L↔(∃w ∈ x.L,z=add w y)∨∃w ∈ y.L,z=add x w:=by
 grind [zBJ,L]
theorem zbs :z ∈ (add x y).R↔(∃w ∈ x.R,z=add w y)∨∃w ∈ y.R,z=add x w:=by
 grind [zBJ,R]
end zab
end Go.Av
end
section
open Go Go.Proofs
namespace Go.Av
namespace zab
def zero:zab:= .mk [] []
theorem zg9 {x y:zab} (h1:∀z ∈ x.L,∃w ∈ y.L,Le z w) (h2:∀z ∈ y.R,∃w ∈ x.R,Le w z):Le x y:=by
 grind [zbv]
theorem zrp (x y:zab):Le (add x y) (add y x):=by
 have key:∀ (n:Nat) (x y:zab),x.size+y.size<=n->Le (add x y) (add y x):=by
  intro n;induction n with
  |zero=>grind [za1]
  |succ n ih=>
   intro x y h;refine zg9 (λ z hz=> ?_) λ z hz=> ?_
   ·rcases zbr.1 hz with ⟨w,hw,rfl⟩|⟨w,hw,rfl⟩
    ·have:=zb3 hw;grind [zbr]
    ·have:=zb3 hw;grind [zbr]
   ·rcases zbs.1 hz with ⟨w,hw,rfl⟩|⟨w,hw,rfl⟩
    ·have:=zb4 hw;grind [zbs]
    ·have:=zb4 hw;grind [zbs]
 exact key _ x y (Nat.le_refl _)
theorem add_comm (x y:zab):Eqv (add x y) (add y x):=⟨zrp x y,zrp y x⟩
theorem add_assoc (x y z:zab):Eqv (add (add x y) z) (add x (add y z)):=by
 have key:∀ (n:Nat) (x y z:zab),x.size+y.size+z.size<=n->Le (add (add x y) z) (add x (add y z))∧Le (add x (add y z)) (add (add x y) z):=by
  intro n;induction n with
  |zero=>grind [za1]
  |succ n ih=>
   intro x y z h;refine ⟨zg9 (λ u hu=> ?_) λ u hu=> ?_,zg9 (λ u hu=> ?_) λ u hu=> ?_⟩
   ·rcases zbr.1 hu with ⟨w,hw,rfl⟩|⟨w,hw,rfl⟩
    ·rcases zbr.1 hw with ⟨v,hv,rfl⟩|⟨v,hv,rfl⟩
     ·have:=zb3 hv;grind [zbr]
     ·have:=zb3 hv;grind [zbr]
    ·have:=zb3 hw;grind [zbr]
   ·rcases zbs.1 hu with ⟨w,hw,rfl⟩|⟨w,hw,rfl⟩
    ·have:=zb4 hw;grind [zbs]
    ·rcases zbs.1 hw with ⟨v,hv,rfl⟩|⟨v,hv,rfl⟩
     ·have:=zb4 hv;grind [zbs]
     ·have:=zb4 hv;grind [zbs]
   ·rcases zbr.1 hu with ⟨w,hw,rfl⟩|⟨w,hw,rfl⟩
    ·have:=zb3 hw;grind [zbr]
    ·rcases zbr.1 hw with ⟨v,hv,rfl⟩|⟨v,hv,rfl⟩
     ·have:=zb3 hv;grind [zbr]
     ·have:=zb3 hv;grind [zbr]
   ·rcases zbs.1 hu with ⟨w,hw,rfl⟩|⟨w,hw,rfl⟩
    ·rcases zbs.1 hw with ⟨v,hv,rfl⟩|⟨v,hv,rfl⟩
     ·have:=zb4 hv;grind [zbs]
     ·have:=zb4 hv;grind [zbs]
    ·have:=zb4 hw;grind [zbs]
 exact key _ x y z (Nat.le_refl _)
theorem add_zero (x:zab):Eqv (add x zero) x:=by
 have key:∀ (n:Nat) (x:zab),x.size<=n->Le (add x zero) x∧Le x (add x zero):=by
  intro n;induction n with
  |zero=>grind [za1]
  |succ n ih=>
   intro x h;refine ⟨zg9 (λ u hu=> ?_) λ u hu=> ?_,zg9 (λ u hu=> ?_) λ u hu=> ?_⟩
   ·rcases zbr.1 hu with ⟨w,hw,rfl⟩|⟨w,hw,rfl⟩
    ·have:=zb3 hw;grind
    ·cases hw
   ·have:=zb4 hu;grind [zbs]
   ·have:=zb3 hu;grind [zbr]
   ·rcases zbs.1 hu with ⟨w,hw,rfl⟩|⟨w,hw,rfl⟩
    ·have:=zb4 hw;grind
    ·cases hw
 exact key _ x (Nat.le_refl _)
mutual
def neg:zab->zab
 | .mk l r=> .mk (zNU r) (zNU l)
def zNU:List zab->List zab
 | []=> []
 |x::l=>x.neg::zNU l
end
theorem zwz:∀l:List zab,zNU l=l.map neg
 | []=>by rw [zNU];rfl
 |x::l=>by rw [zNU,zwz l];rfl
theorem ztT (x:zab):x.neg.L=x.R.map neg:=by
 cases x with
 |mk l r=>rw [neg,<- zwz];rfl
theorem ztU (x:zab):x.neg.R=x.L.map neg:=by
 cases x with
 |mk l r=>rw [neg,<- zwz];rfl
theorem zwA (x:zab):x.neg.neg=x:=by
 have key:∀ (n:Nat) (x:zab),x.size<=n->x.neg.neg=x:=by
  intro n;induction n with
  |zero=>grind [za1]
  |succ n ih=>
   intro x h;rw [eta x.neg.neg,ztT,ztU,ztU,ztT,List.map_map,List.map_map];have e1:x.L.map (neg∘neg)=x.L:=by
    rw [List.map_congr_left (g:=id) λ z hz=>by have:=zb3 hz;grind];simp
   have e2:x.R.map (neg∘neg)=x.R:=by
    rw [List.map_congr_left (g:=id) λ z hz=>by have:=zb4 hz;grind];simp
   grind [eta]
 exact key _ x (Nat.le_refl _)
theorem neg_le (x y:zab):Le x.neg y.neg↔Le y x:=by
 have key:∀ (n:Nat) (x y:zab),x.size+y.size<=n->(Le x.neg y.neg↔Le y x):=by
  intro n;induction n with
  |zero=>grind [za1]
  |succ n ih=>
   intro x y h;rw [zbv,zbv,ztT,ztU];constructor
   ·rintro ⟨h1,h2⟩;refine ⟨λ z hz hle=>h2 z.neg (List.mem_map.2 ⟨z,hz,rfl⟩) ?_,λ z hz hle=>h1 z.neg (List.mem_map.2 ⟨z,hz,rfl⟩) ?_⟩
    ·have:=zb3 hz;grind
    ·have:=zb4 hz;grind
   ·rintro ⟨h1,h2⟩;refine ⟨λ z hz hle=> ?_,λ z hz hle=> ?_⟩
    ·obtain ⟨w,hw,rfl⟩:=List.mem_map.1 hz;have:=zb4 hw;grind
    ·obtain ⟨w,hw,rfl⟩:=List.mem_map.1 hz;have:=zb3 hw;grind
 exact key _ x y (Nat.le_refl _)
end zab
end Go.Av
end
section
open Go Go.Proofs
namespace Go.Av
namespace zab
def zmt (x:zab):List zab->Option (List zab)
 | []=>none
 |a::l=>match a.R.find? λ b=>leq b x with
  |some b=>some (b.L++l)
  |none=>(zmt x l).map (a::·)
def zmU (x:zab):List zab->Option (List zab)
 | []=>none
 |a::l=>match a.L.find? λ b=>leq x b with
  |some b=>some (b.R++l)
  |none=>(zmU x l).map (a::·)
theorem zfO {x:zab}:∀ {l l':List zab},zmt x l=some l'->∃a b,a ∈ l∧b ∈ a.R∧Le b x∧(∀z ∈ l',z ∈ l∨z ∈ b.L)∧(∀z ∈ l,z=a∨z ∈ l')∧(∀z ∈ b.L,z ∈ l')∧zaw l'<zaw l
 | [],l',h=>aV
 |a::l,l',h=>by
  rw [zmt] at h;have hap:∀ (m n:List zab),zaw (m++n)=zaw m+zaw n:=by
   intro m n;induction m<;>grind [zaw]
  cases hf:a.R.find? λ b=>leq b x with
  |some b=>
   rw [hf] at h;simp only [Option.some.injEq] at h;subst h;have hb:=List.mem_of_find?_eq_some hf;have hle:=List.find?_some hf;have h1:=zb4 hb;have h2:zaw b.L<b.size:=by
    cases b<;>grind [size,L]
   grind [zaw,Le]
  |none=>
   rw [hf] at h;obtain ⟨m,hm,rfl⟩:=Option.map_eq_some_iff.1 h;obtain ⟨a',b,h1,h2,h3,h4,h5,h6,h7⟩:=zfO hm;refine ⟨a',b,List.mem_cons.2 (.inr h1),h2,h3,λ z hz=> ?_,λ z hz=> ?_,λ z hz=>List.mem_cons.2 (.inr (h6 z hz)),by rw [zaw,zaw];omega⟩
   ·rcases List.mem_cons.1 hz with h|h
    ·exact .inl (List.mem_cons.2 (.inl h))
    ·exact (h4 z h).imp (λ h=>List.mem_cons.2 (.inr h)) id
   ·rcases List.mem_cons.1 hz with h|h
    ·exact .inr (List.mem_cons.2 (.inl h))
    ·exact (h5 z h).imp id λ h=>List.mem_cons.2 (.inr h)
theorem zgP {x:zab}:∀ {l l':List zab},zmU x l=some l'->∃a b,a ∈ l∧b ∈ a.L∧Le x b∧(∀z ∈ l',z ∈ l∨z ∈ b.R)∧(∀z ∈ l,z=a∨z ∈ l')∧(∀z ∈ b.R,z ∈ l')∧zaw l'<zaw l
 | [],l',h=>aV
 |a::l,l',h=>by
  rw [zmU] at h;have hap:∀ (m n:List zab),zaw (m++n)=zaw m+zaw n:=by
   intro m n;induction m<;>grind [zaw]
  cases hf:a.L.find? λ b=>leq x b with
  |some b=>
   rw [hf] at h;simp only [Option.some.injEq] at h;subst h;have hb:=List.mem_of_find?_eq_some hf;have hle:=List.find?_some hf;have h1:=zb3 hb;have h2:zaw b.R<b.size:=by
    cases b<;>grind [size,R]
   grind [zaw,Le]
  |none=>
   rw [hf] at h;obtain ⟨m,hm,rfl⟩:=Option.map_eq_some_iff.1 h;obtain ⟨a',b,h1,h2,h3,h4,h5,h6,h7⟩:=zgP hm;refine ⟨a',b,List.mem_cons.2 (.inr h1),h2,h3,λ z hz=> ?_,λ z hz=> ?_,λ z hz=>List.mem_cons.2 (.inr (h6 z hz)),by rw [zaw,zaw];omega⟩
   ·rcases List.mem_cons.1 hz with h|h
    ·exact .inl (List.mem_cons.2 (.inl h))
    ·exact (h4 z h).imp (λ h=>List.mem_cons.2 (.inr h)) id
   ·rcases List.mem_cons.1 hz with h|h
    ·exact .inr (List.mem_cons.2 (.inl h))
    ·exact (h5 z h).imp id λ h=>List.mem_cons.2 (.inr h)
def zkO:Nat->List zab->List zab->List zab×List zab
 |0,l,r=>(l,r)
 |n+1,l,r=>match zmt (.mk l r) l with
  |some l'=>zkO n l' r
  |none=>match zmU (.mk l r) r with
   |some r'=>zkO n l r'
   |none=>(l,r)
end zab
end Go.Av
end
section
open Go Go.Proofs
namespace Go.Av
namespace zab
instance:Inhabited zab:=⟨zero⟩
mutual
def text:zab->List Nat
 | .mk l r=>123::(textL l++124::(textL r++ [125]))
def textL:List zab->List Nat
 | []=> []
 | [x]=>x.text
 |x::y::l=>x.text++44::textL (y::l)
end
theorem zIU (x:zab):∃s,x.text=123::s:=by
 cases x with
 |mk l r=>rw [text];grind
theorem zFk (x:zab) (l:List zab):∃s,textL (x::l)=123::s:=by
 obtain ⟨s,hs⟩:=zIU x;cases l<;>grind [textL]
def EndC (c:Nat):Prop:=c=124∨c=125
theorem zze:∀ (n:Nat),(∀ (x y:zab) (s t:List Nat),x.size<=n->x.text++s=y.text++t->x=y∧s=t)∧
  ∀ (l m:List zab) (c d:Nat) (s t:List Nat),zaw l<=n->EndC c->EndC d->textL l++c::s=textL m++d::t->l=m∧c=d∧s=t
 |0=>⟨λ x y s t h=>aX,λ l m c d s t h hc hd he=>by
   cases l with
   |cons x l=>grind [zaw,za1]
   |nil=>
    cases m with
    |nil=>
     grind [textL]
    |cons y m=>
     obtain ⟨u,hu⟩:=zFk y m;grind [textL,EndC]⟩
 |n+1=>by
  obtain ⟨ih1,ih2⟩:=zze n;have h1:∀ (x y:zab) (s t:List Nat),x.size<=n+1->x.text++s=y.text++t->x=y∧s=t:=by
   intro x y s t h he;cases x with
   |mk l r=>
    cases y with
    |mk l' r'=>
     rw [size] at h;rw [text,text] at he;simp only [List.cons_append,List.append_assoc,List.cons.injEq,true_and,List.nil_append] at he;obtain ⟨e1, _,e2⟩:=ih2 l l' 124 124 _ _ aa (.inl rfl) (.inl rfl) he;obtain ⟨e3, _,e4⟩:=ih2 r r' 125 125 _ _ aa (.inr rfl) (.inr rfl) e2;grind
  refine ⟨h1,λ l=> ?_⟩;induction l with
  |nil=>
   grind [zaw]
  |cons x l ihl=>
   intro m c d s t h hc hd he;rw [zaw] at h;cases m with
   |nil=>
    grind [zaw]
   |cons y m=>
    cases l with
    |nil=>
     cases m with
     |nil=>
      grind [textL]
     |cons z m=>
      rw [textL,textL,List.append_assoc] at he;grind [List.cons.injEq,EndC]
    |cons w l=>
     cases m with
     |nil=>
      rw [textL,textL,List.append_assoc] at he;obtain ⟨e1,e2⟩:=h1 x y _ _ aa he;rw [List.cons_append,List.cons.injEq] at e2;rcases hd with h|h<;>omega
     |cons z m=>
      rw [textL,textL,List.append_assoc,List.append_assoc] at he;grind
theorem text_inj {x y:zab} (h:x.text=y.text):x=y:=((zze x.size).1 x y [] [] (Nat.le_refl _) (by rw [h])).1
def ltT:List Nat->List Nat->Bool
 | _, []=>false
 | [], _:: _=>true
 |a::s,b::t=>decide (a<b)||(decide (a=b) && ltT s t)
theorem zhN:∀s:List Nat,ltT s s=false
 | []=>rfl
 |a::s=>by rw [ltT,zhN s];simp
theorem zou:∀ {s t u:List Nat},ltT s t=true->ltT t u=true->ltT s u=true
 | _, [], _,h, _=>by simp [ltT] at h
 | _,b::t, [], _,h=>by simp [ltT] at h
 | [],b::t,c::u, _, _=>rfl
 |a::s,b::t,c::u,h,k=>by
  simp only [ltT,Bool.or_eq_true,Bool.and_eq_true,decide_eq_true_eq] at h k ⊢;rcases h with h|⟨rfl,h⟩
  ·rcases k with k|⟨rfl,k⟩
   ·exact .inl aa
   ·exact .inl h
  ·rcases k with k|⟨rfl,k⟩
   ·exact .inl k
   ·exact .inr ⟨rfl,zou h k⟩
theorem zot:∀ (s t:List Nat),ltT s t=true∨s=t∨ltT t s=true
 | [], []=> .inr (.inl rfl)
 | [],b::t=> .inl rfl
 |a::s, []=> .inr (.inr rfl)
 |a::s,b::t=>by
  simp only [ltT,Bool.or_eq_true,Bool.and_eq_true,decide_eq_true_eq,List.cons.injEq];rcases Nat.lt_trichotomy a b with h|rfl|h
  ·exact .inl (.inl h)
  ·rcases zot s t with h|h|h
   ·exact .inl (.inr ⟨rfl,h⟩)
   ·exact .inr (.inl ⟨rfl,h⟩)
   ·exact .inr (.inr (.inr ⟨rfl,h⟩))
  ·exact .inr (.inr (.inl h))
def ztn (x:zab):List zab->List zab
 | []=> [x]
 |y::l=>if ltT y.text x.text=true then y::ztn x l else x::y::l
def zb6 (l:List zab):List zab:=l.foldl (λ o x=>ztn x o) []
theorem zqS {x z:zab}:∀ {l:List zab},z ∈ ztn x l↔z=x∨z ∈ l
 | []=>by simp [ztn]
 |y::l=>by
  rw [ztn];split
  ·rw [List.mem_cons,zqS (l:=l),List.mem_cons];constructor
   ·rintro (h|h|h)
    ·exact .inr (.inl h)
    ·exact .inl h
    ·exact .inr (.inr h)
   ·rintro (h|h|h)
    ·exact .inr (.inl h)
    ·exact .inl h
    ·exact .inr (.inr h)
  ·rw [List.mem_cons]
theorem zlK {z:zab}:∀ {l o:List zab},z ∈ l.foldl (λ o x=>ztn x o) o↔z ∈ o∨z ∈ l
 | [],o=>ac
 |x::l,o=>by
  rw [List.foldl_cons,zlK (l:=l),zqS,List.mem_cons];constructor
  ·rintro ((h|h)|h)
   ·exact .inr (.inl h)
   ·exact .inl h
   ·exact .inr (.inr h)
  ·rintro (h|h|h)
   ·exact .inl (.inr h)
   ·exact .inl (.inl h)
   ·exact .inr h
variable {l:List zab}
theorem zba {z:zab}:z ∈ zb6 l↔z ∈ l:=by
 grind [zb6,zlK]
def zFJ (l:List zab):Prop:=l.Pairwise λ a b=>ltT a.text b.text=true
theorem zCi {x:zab}:∀ {l:List zab},zFJ l->x ∉ l->zFJ (ztn x l)
 | [], _, _=>List.pairwise_singleton _ _
 |y::l,h,hn=>by
  rw [ztn];obtain ⟨h1,h2⟩:=List.pairwise_cons.1 h;split
  ·rename_i hlt;refine List.pairwise_cons.2 ⟨λ z hz=> ?_,zCi h2 λ h=>hn (List.mem_cons.2 (.inr h))⟩;rcases zqS.1 hz with rfl|hz
   ·exact hlt
   ·exact h1 z hz
  ·rename_i hlt;have hxy:ltT x.text y.text=true:=by
    rcases zot y.text x.text with h|h|h
    ·exact absurd h hlt
    ·exact absurd (text_inj h).symm λ e=>hn (List.mem_cons.2 (.inl e))
    ·exact h
   refine List.pairwise_cons.2 ⟨λ z hz=> ?_,h⟩;rcases List.mem_cons.1 hz with rfl|hz
   ·exact hxy
   ·exact zou hxy (h1 z hz)
theorem zya:∀ {l o:List zab},zFJ o->l.Nodup->(∀x ∈ l,x ∉ o)->zFJ (l.foldl (λ o x=>ztn x o) o)
 | [],o,h, _, _=>h
 |x::l,o,h,hn,hd=>by
  rw [List.foldl_cons];obtain ⟨h1,h2⟩:=List.nodup_cons.1 hn;refine zya (zCi h (hd x ac)) h2 λ z hz hzo=> ?_;rcases zqS.1 hzo with rfl|hzo
  ·exact h1 hz
  ·exact hd z (List.mem_cons.2 (.inr hz)) hzo
theorem ziG  (h:l.Nodup):zFJ (zb6 l):=zya List.Pairwise.nil h λ x _=>ac
theorem zqR:∀ {l m:List zab},zFJ l->zFJ m->(∀z,z ∈ l↔z ∈ m)->l=m
 | [], [], _, _, _=>rfl
 | [],y::m, _, _,h=>by have:=(h y).2 ac;cases this
 |x::l, [], _, _,h=>by have:=(h x).1 ac;cases this
 |x::l,y::m,hl,hm,h=>by
  obtain ⟨l1,l2⟩:=List.pairwise_cons.1 hl;obtain ⟨m1,m2⟩:=List.pairwise_cons.1 hm;have hxy:x=y:=by
   rcases List.mem_cons.1 ((h x).1 ac) with e|e
   ·exact e
   ·rcases List.mem_cons.1 ((h y).2 ac) with e2|e2
    ·exact e2.symm
    ·have:=zou (m1 x e) (l1 y e2);rw [zhN] at this;cases this
  subst hxy;have key:∀z,z ∈ l↔z ∈ m:=λ z=>by
   have hz:=h z;rw [List.mem_cons,List.mem_cons] at hz;constructor
   ·intro hzl;rcases hz.1 (.inr hzl) with rfl|h2
    ·have:=l1 z hzl;rw [zhN] at this;cases this
    ·exact h2
   ·intro hzm;rcases hz.2 (.inr hzm) with rfl|h2
    ·have:=m1 z hzm;rw [zhN] at this;cases this
    ·exact h2
  rw [zqR l2 m2 key]
theorem zpo  (h:zFJ l):l.Nodup:=List.Pairwise.imp (λ {a b} hab e=>by grind [zhN]) h
end zab
end Go.Av
end
section
/- Plain: chapter 20: canonical forms. -/
open Go Go.Proofs
namespace Go.Av
namespace zab
theorem countP_lt {α:Type}{p q:α->Bool}:∀ {m:List α},(∀a ∈ m,p a=true->q a=true)->(∃a ∈ m,q a=true∧p a=false)->m.countP p<m.countP q
 | [], _,⟨a,ha, _⟩=>by cases ha
 |b::m,h,⟨a,ha,h1,h2⟩=>by
  rw [List.countP_cons,List.countP_cons];have hle:m.countP p<=m.countP q:=List.countP_mono_left λ a ha hpa=>h a (List.mem_cons.2 (.inr ha)) hpa;rcases List.mem_cons.1 ha with rfl|ha
  ·grind
  ·have:=countP_lt (m:=m) (λ a ha=>h a (List.mem_cons.2 (.inr ha))) ⟨a,ha,h1,h2⟩;grind
theorem memF {l:List zab}{z:zab} (h:z ∈ l):∃i,i<l.length∧z=nth l i:=by
 obtain ⟨i,hi,rfl⟩:=List.getElem_of_mem h;exact ⟨i,hi,(zcp _ _ hi).symm⟩
def zdi (le:zab->zab->Bool) (l:List zab) (i k:Nat):Bool:=decide (i≠k) && (le (nth l i) (nth l k) && (decide (k<i)|| !le (nth l k) (nth l i)))
def zfd (le:zab->zab->Bool) (l:List zab) (i:Nat):Bool:= !(List.range l.length).any (zdi le l i)
def zbI (le:zab->zab->Bool) (l:List zab):List zab:=((List.range l.length).filter (zfd le l)).map (nth l)
structure zJt (le:zab->zab->Bool):Prop where
 refl:∀x,le x x=true
 trans:∀ {x y z},le x y=true->le y z=true->le x z=true
theorem zkM:zJt leq:=⟨le_refl,λ h k=>le_trans h k⟩
theorem zkL:zJt λ x y=>leq y x:=⟨le_refl,λ h k=>le_trans k h⟩
section
variable {le:zab->zab->Bool} (hp:zJt le) {l:List zab}
theorem zgM {i k:Nat}:zdi le l i k=true↔i≠k∧le (nth l i) (nth l k)=true∧(k<i∨le (nth l k) (nth l i)=false):=by
 grind [zdi]
include hp
theorem zDu {i k:Nat} (hi:i<l.length) (hk:k<l.length) (h1:zfd le l i=true) (h2:zfd le l k=true) (hne:i≠k):le (nth l i) (nth l k)=false:=by
 rw [Bool.eq_false_iff];intro hle;unfold zfd at h1 h2;rw [Bool.not_eq_true',List.any_eq_false] at h1 h2;have a1:=h1 k (List.mem_range.2 hk);have a2:=h2 i (List.mem_range.2 hi);grind [zdi]
end
theorem zMG {le:zab->zab->Bool} (hp:zJt le){l:List zab}:(zbI le l).Pairwise λ a b=>le a b=false∧le b a=false:=by
 unfold zbI;rw [List.pairwise_map];grind [List.pairwise_lt_range,List.Pairwise.imp_of_mem,zDu]
def zw2 (le:zab->zab->Bool) (l:List zab):Prop:=∀a ∈ l,∀b ∈ l,le a b=true->a=b
theorem zh0 {le:zab->zab->Bool} (hp:zJt le){l:List zab}:zw2 le (zbI le l)∧(zbI le l).Nodup:=by
 have h:=zMG hp (l:=l);refine ⟨λ a ha b hb hle=> ?_,List.Pairwise.imp (λ {a b} hab e=>by rw [e,hp.refl] at hab;grind) h⟩;grind [List.pairwise_iff_getElem,zbI]
def za5:Nat->zab->zab
 |0,x=>x
 |n+1,x=>
  let p:=zkO (zaw (x.L.map (za5 n))+zaw (x.R.map (za5 n))+1) (x.L.map (za5 n)) (x.R.map (za5 n))
  .mk (zb6 (zbI leq p.1)) (zb6 (zbI (λ a b=>leq b a) p.2))
inductive zzl:zab->Prop
 |mk {l r:List zab} (hl:∀z ∈ l,zzl z) (hr:∀z ∈ r,zzl z) (b1:∀a ∈ l,∀b ∈ a.R,¬Le b (.mk l r)) (b2:∀a ∈ r,∀b ∈ a.L,¬Le (.mk l r) b)
   (a1:zw2 leq l) (a2:zw2 (λ a b=>leq b a) r) (s1:zFJ l) (s2:zFJ r):zzl (.mk l r)
theorem zzl.parts {x:zab} (h:zzl x):(∀z ∈ x.L,zzl z)∧∀z ∈ x.R,zzl z:=by
 cases h with
 |mk hl hr=>grind [L,R]
def canon (x:zab):zab:=za5 x.size x
end zab
end Go.Av
end
section
open Go Go.Proofs
namespace Go.Av
theorem zqV {α:Type}{T:TK}{key val:α->AV} (hk:∀a b,∃r,zir T (key a) (key b)=some r∧(r=true↔a=b)) (a:α):∀l:List α,
  (a ∈ l->zct T (key a) (l.map λ x=> [key x,val x])=some (some (val a)))∧
  (a ∉ l->zct T (key a) (l.map λ x=> [key x,val x])=some none∧∀v,zdv T (key a) v (l.map λ x=> [key x,val x])=some ((l.map λ x=> [key x,val x])++ [[key a,v]]))
 | []=>⟨λ h=>bm,λ _=>⟨rfl,λ v=>rfl⟩⟩
 |b::l=>by
  obtain ⟨r,h1,h2⟩:=hk a b;obtain ⟨i1,i2⟩:=zqV hk a l;have e:∀x:α,cel [key x,val x] 0=key x∧cel [key x,val x] 1=val x:=λ x=>⟨rfl,rfl⟩
  cases r with
  |true=>
   obtain rfl:=h2.1 rfl;refine ⟨λ _=> ?_,λ h=>absurd ac h⟩;rw [List.map_cons,zct,(e a).1,h1];simp only [(e a).2]
  |false=>
   have hne:a≠b:=λ h=>by have:=h2.2 h;cases this
   refine ⟨λ h=> ?_,λ h=> ?_⟩
   ·rw [List.map_cons,zct,(e b).1,h1];exact i1 af
   grind [zct,zdv]
namespace zab
mutual
theorem text_lt:∀ (f:zab),∀c ∈ f.text,c<256
 | .mk l r=>by
  intro c hc;rw [text] at hc;simp only [List.mem_cons,List.mem_append,List.not_mem_nil,or_false] at hc;rcases hc with rfl|hc|rfl|hc|rfl
  ·omega
  ·exact zwL l c hc
  ·omega
  ·exact zwL r c hc
  ·omega
theorem zwL:∀ (l:List zab),∀c ∈ textL l,c<256
 | []=>dz
 | [x]=>by rw [textL];exact text_lt x
 |x::y::l=>by
  intro c hc;rw [textL] at hc;simp only [List.mem_append,List.mem_cons] at hc;rcases hc with hc|rfl|hc
  ·exact text_lt x c hc
  ·omega
  ·exact zwL (y::l) c hc
end
end zab
def zfp (l:List Nat):ByteArray:=⟨(l.map UInt8.ofNat).toArray⟩
def ze2 (f:zab):ByteArray:=zfp f.text
theorem zsz:∀ {a b:List Nat},(∀c ∈ a,c<256)->(∀c ∈ b,c<256)->a.map UInt8.ofNat=b.map UInt8.ofNat->a=b
 | [], [], _, _, _=>rfl
 | [], _:: _, _, _,h=>bm
 | _:: _, [], _, _,h=>bm
 |x::a,y::b,ha,hb,h=>by
  simp only [List.map_cons,List.cons.injEq] at h;have h1:=ha x ac;have h2:=hb y ac;have e:x=y:=by
   have:=congrArg UInt8.toNat h.1;simpa [UInt8.toNat_ofNat',Nat.mod_eq_of_lt h1,Nat.mod_eq_of_lt h2] using this
  rw [e,zsz (λ c hc=>ha c ay) (λ c hc=>hb c ay) h.2]
theorem zDx {a b:List Nat} (ha:∀c ∈ a,c<256) (hb:∀c ∈ b,c<256) (h:zfp a=zfp b):a=b:=by
 grind [zfp,zsz]
theorem zzd {x y:zab} (h:ze2 x=ze2 y):x=y:=zab.text_inj (zDx (zab.text_lt x) (zab.text_lt y) h)
instance:DecidableEq zab:=λ a b=>if h:ze2 a=ze2 b then .isTrue (zzd h) else .isFalse λ e=>h (by rw [e])
theorem zte (x y:zab):((ze2 x==ze2 y)=true)↔x=y:=by
 grind [zjP,zzd]
mutual
def zbt:zab->List AV
 | .mk l r=> [.lst 2 (zxQ l), .lst 2 (zxQ r)]
def zxQ:List zab->List (List AV)
 | []=> []
 |x::l=>zbt x::zxQ l
end
theorem zqG:∀l:List zab,zxQ l=l.map zbt
 | []=>rfl
 |x::l=>by rw [zxQ,zqG l];rfl
theorem zhD (f:zab):zbt f= [.lst 2 (f.L.map zbt), .lst 2 (f.R.map zbt)]:=by
 cases f with
 |mk l r=>rw [zbt,zqG,zqG];rfl
def zbQ (f:zab):AV:= .agg (zbt f)
mutual
theorem zrB (n:Nat):∀ (f:zab),∀c ∈ zbt f,Bel n c
 | .mk l r=>by
  intro c hc;rw [zbt] at hc;simp only [List.mem_cons,List.not_mem_nil,or_false] at hc;rcases hc with rfl|rfl
  ·exact .lst (znY n l)
  ·exact .lst (znY n r)
theorem znY (n:Nat):∀ (l:List zab),∀r ∈ zxQ l,∀c ∈ r,Bel n c
 | []=>by simp [zxQ]
 |x::l=>by
  intro r hr c hc;rw [zxQ] at hr;rcases List.mem_cons.1 hr with rfl|hr
  ·exact zrB n x c hc
  ·exact znY n l r hr c hc
end
theorem zfM (n:Nat) (f:zab):Bel n (zbQ f):= .agg (zrB n f)
mutual
def zgh:zab->AV
 | .mk l r=> .fp [.v (.string (ze2 (.mk l r))), .lst 1 (za3 l), .lst 1 (za3 r)]
def za3:List zab->List (List AV)
 | []=> []
 |x::l=> [zgh x]::za3 l
end
theorem zgC:∀l:List zab,za3 l=l.map λ x=> [zgh x]
 | []=>rfl
 |x::l=>by rw [za3,zgC l];rfl
theorem zbd (f:zab):zgh f= .fp [.v (.string (ze2 f)), .lst 1 (za3 f.L), .lst 1 (za3 f.R)]:=by
 cases f with
 |mk l r=>rw [zgh];rfl
mutual
theorem zc0 (n:Nat):∀ (f:zab),Bel n (zgh f)
 | .mk l r=>by
  rw [zgh];refine .fp λ c hc=> ?_;simp only [List.mem_cons,List.not_mem_nil,or_false] at hc;rcases hc with rfl|rfl|rfl
  ·exact .v _
  ·exact .lst (zeX n l)
  ·exact .lst (zeX n r)
theorem zeX (n:Nat):∀ (l:List zab),∀r ∈ za3 l,∀c ∈ r,Bel n c
 | []=>by simp [za3]
 |x::l=>by
  intro r hr c hc;rw [za3] at hr;rcases List.mem_cons.1 hr with rfl|hr
  ·simp only [List.mem_cons,List.not_mem_nil,or_false] at hc;subst hc;exact zc0 n x
  ·exact zeX n l r hr c hc
end
structure zch where
 ns:List zab
 qs:List (zab×zab)
 cs:List zab
def skF (f:zab):AV:= .v (.string (ze2 f))
def zsC (f:zab):List AV:= [skF f,zgh f]
def zqn (p:zab×zab):AV:= .agg [skF p.1,skF p.2]
def zpC (p:zab×zab):List AV:= [zqn p, .v (.bool (zab.leq p.1 p.2))]
def zpq (f:zab):List AV:= [skF f,zgh f.canon]
theorem zIF (a b:zab):∃r,zir .string (skF a) (skF b)=some r∧(r=true↔a=b):=⟨_,rfl,zte a b⟩
theorem zIm (a b:zab×zab):∃r,zir (.many [2,2]) (zqn a) (zqn b)=some r∧(r=true↔a=b):=by
 refine ⟨_,rfl, ?_⟩;grind [zte]
theorem find_n (f:zab) (ns:List zab):(f ∈ ns->zct .string (skF f) (ns.map zsC)=some (some (zgh f)))∧
  (f ∉ ns->zct .string (skF f) (ns.map zsC)=some none∧∀v,zdv .string (skF f) v (ns.map zsC)=some (ns.map zsC++ [[skF f,v]])):=zqV zIF f ns
theorem zHd (p:zab×zab) (qs:List (zab×zab)):(p ∈ qs->zct (.many [2,2]) (zqn p) (qs.map zpC)=some (some (.v (.bool (zab.leq p.1 p.2)))))∧
  (p ∉ qs->zct (.many [2,2]) (zqn p) (qs.map zpC)=some none∧∀v,zdv (.many [2,2]) (zqn p) v (qs.map zpC)=some (qs.map zpC++ [[zqn p,v]])):=zqV zIm p qs
theorem zHb (f:zab) (cs:List zab):(f ∈ cs->zct .string (skF f) (cs.map zpq)=some (some (zgh f.canon)))∧
  (f ∉ cs->zct .string (skF f) (cs.map zpq)=some none∧∀v,zdv .string (skF f) v (cs.map zpq)=some (cs.map zpq++ [[skF f,v]])):=zqV zIF f cs
end Go.Av
end
