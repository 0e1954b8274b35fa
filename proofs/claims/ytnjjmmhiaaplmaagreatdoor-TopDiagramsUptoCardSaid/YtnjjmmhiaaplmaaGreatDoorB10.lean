/- Texts of ours, part 10: our library and contracts of functions. -/
import Derived.Test.YtnjjmmhiaaplmaaGreatDoorB09
set_option linter.unusedSimpArgs false
set_option linter.unusedVariables false
set_option maxRecDepth 100000
set_option maxHeartbeats 40000000
section
open Go Go.Proofs
namespace Go.Av
structure zbh where
 mod:Int
 men:List (List Int)
 h0:List Int
 h1:List Int
 rights:List Int
 side:Int
def zbh.hand (x:zbh) (s:Int):List Int:=if s=0 then x.h0 else x.h1
structure zAg (g:zab) (x:zbh):Prop where
 mod:0<x.mod
 men:x.men.length=2 * g.kinds.length+1
 rights:x.rights.length=g.rights.toNat
def zd6 (f:Nat→Int):Nat→Int
 |0=>0
 |n+1=>zd6 f n+f n
theorem zoi {f h:Nat→Int}:∀ {n:Nat},(∀i,i<n→f i=h i)→zd6 f n=zd6 h n
 |0, _=>rfl
 |n+1,e=>by rw [zd6,zd6,zoi fun i hi=>e i aa,e n aa]
theorem zkC {f h:Nat→Int}{i:Nat}:∀ {n:Nat},i<n→(∀j,j<n→j≠i→f j=h j)→zd6 f n=zd6 h n+(f i - h i)
 |0,hi, _=>aa
 |n+1,hi,e=>by
  rw [zd6,zd6]
  by_cases hin:i=n
  ·subst hin
   rw [zoi (f:=f) (h:=h) fun j hj=>e j aa aa]
   omega
  ·rw [zkC (f:=f) (h:=h) (i:=i) aa fun j hj hne=>e j aa hne,e n aa (fun h=>hin h.symm)]
   omega
theorem zeo {f:Nat→Int}:∀ {n:Nat},(∀i,i<n→0≤f i)→0≤zd6 f n
 |0, _=>Int.le_refl _
 |n+1,e=>by
  rw [zd6]
  have:=zeo (f:=f) (n:=n) fun i hi=>e i aa
  have:=e n aa
  omega
def wgt (x:zbh) (n:Int) (c:Nat):Int:=nth (nth x.men n.toNat) c
def atI (x:zbh) (l:List Int):Int:=zd6 (fun c=>wgt x (nth l c) c) l.length
def hdI (w l:List Int):Int:=zd6 (fun k=>nth w k * nth l k) l.length
def zmF (a:Int) (r:Nat):Int:=ziI .i64 (a.fdiv (2 ^ r)) 1
def rtI (w:List Int) (a:Int):Int:=zd6 (fun r=>nth w r * zmF a r) w.length
def zex (x:zbh) (p:zaf):Int:=x.side * p.side+atI x p.at_+(hdI x.h0 p.h0+hdI x.h1 p.h1)+rtI x.rights p.rights
def zrA (x:zbh) (p:zaf):Int:=(zex x p).tmod x.mod
theorem ziJ {x:zbh}{l:List Int}{i:Nat} (v:Int) (h:i<l.length):atI x (l.set i v)=atI x l+(wgt x v i - wgt x (nth l i) i):=by
 unfold atI
 rw [List.length_set]
 have e:=zkC (f:=fun c=>wgt x (nth (l.set i v) c) c) (h:=fun c=>wgt x (nth l c) c) h fun j hj hne=>by
  rw [zbo,if_neg (fun h=>hne h.1.symm)]
 rw [e]
 rw [zbo,if_pos ⟨rfl,h⟩]
theorem zyA {w l:List Int}{i:Nat} (v:Int) (h:i<l.length):hdI w (l.set i v)=hdI w l+nth w i * (v - nth l i):=by
 unfold hdI
 rw [List.length_set]
 have e:=zkC (f:=fun c=>nth w c * nth (l.set i v) c) (h:=fun c=>nth w c * nth l c) h fun j hj hne=>by
  rw [zbo,if_neg (fun h=>hne h.1.symm)]
 rw [e]
 rw [zbo,if_pos ⟨rfl,h⟩,Int.mul_sub]
theorem zmc (x:zbh) (p:zaf) (l:List Int):zex x { p with at_:=l}=zex x p+(atI x l - atI x p.at_):=by
 unfold zex
 simp only
 omega
theorem zrg (x:zbh) (p:zaf) (s:Int) (l:List Int):zex x (p.withHand s l)=zex x p+(hdI (x.hand s) l - hdI (x.hand s) (p.hand s)):=by
 unfold zex zaf.withHand zaf.hand zbh.hand
 split<;>simp only<;>omega
theorem zrh (x:zbh) (p:zaf) (s:Int):zex x { p with side:=s}=zex x p+x.side * (s - p.side):=by
 unfold zex
 simp only [Int.mul_sub]
 omega
theorem ztk (x:zbh) (p:zaf) (r:Int):zex x { p with rights:=r}=zex x p+(rtI x.rights r - rtI x.rights p.rights):=by
 unfold zex
 simp only
 omega
def zxP:Bool:=(List.range 16).all fun (a:Nat)=>(List.range 4).all fun (n:Nat)=>(List.range 4).all fun (r:Nat)=>decide (zmF (zbg .i64 (a:Int) (2 ^ n)) r=if r=n then 0 else zmF (a:Int) r) && decide (zmF (a:Int) r=0∨zmF (a:Int) r=1)
theorem zpX:zxP=true:=ai
theorem ziL {a:Int} (h0:0≤a) (h1:a<16){n r:Nat} (hn:n<4) (hr:r<4):zmF (zbg .i64 a (2 ^ n)) r=(if r=n then 0 else zmF a r)∧(zmF a r=0∨zmF a r=1):=by
 have key:=zpX
 unfold zxP at key
 have k1:=List.all_eq_true.1 key a.toNat (List.mem_range.2 aa)
 have k2:=List.all_eq_true.1 k1 n (List.mem_range.2 hn)
 have k3:=List.all_eq_true.1 k2 r (List.mem_range.2 hr)
 rw [Bool.and_eq_true,decide_eq_true_eq,decide_eq_true_eq,show ((a.toNat:Nat):Int)=a by omega] at k3
 exact k3
theorem zD9 {w:List Int} (hw:w.length≤4){a:Int} (h0:0≤a) (h1:a<16){n:Nat} (hn:n<w.length):rtI w (zbg .i64 a (2 ^ n))=rtI w a - nth w n * zmF a n:=by
 unfold rtI
 rw [zkC (f:=fun r=>nth w r * zmF (zbg .i64 a (2 ^ n)) r) (h:=fun r=>nth w r * zmF a r) hn fun j hj hne=>by
  rw [(ziL h0 h1 aa aa).1,if_neg hne]]
 rw [(ziL h0 h1 aa aa).1,if_pos rfl,Int.mul_zero]
 omega
def zbQ (x:zbh) (n:Int) (c:Nat):Int:=wgt x 0 c - wgt x n c
def zjS (x:zbh) (n:Int) (c:Nat):Int:= - zbQ x n c
def zdw (x:zbh) (s:Int):Int:=x.side * (1 - 2 * s)
def zhe (g:zab) (x:zbh) (s:Int) (now:Int) (last:List Int) (a:zc7):List Int×Int×List Int:=
 if a.1=6 then ((List.range g.kinds.length).map fun (k:Nat)=>if (nth g.kinds k).keep=true then zbQ x (zal k (1 - s)) a.2.1.toNat+nth (x.hand s) k else zbQ x (zal k (1 - s)) a.2.1.toNat,now,last)
 else if a.1=7 then ((List.range (x.men.length - 1)).map fun (i:Nat)=>zbQ x ((i:Int)+1) a.2.1.toNat+zjS x ((i:Int)+1) a.2.2.toNat,now,last)
 else if a.1=10 then (if nth last a.2.1.toNat=9 then [- nth x.rights a.2.1.toNat] else if nth last a.2.1.toNat=10 then [0] else [- nth x.rights a.2.1.toNat,0],now,last.set a.2.1.toNat 10)
 else if a.1=9 then ([],now,last.set a.2.1.toNat 9)
 else if a.1=8 then ([],zal a.2.1 s,last)
 else ([],now,last)
def ze0 (g:zab) (x:zbh) (s:Int) (to:Nat):Int→List Int→Int→List zc7→Bool
 |now, _,sum, []=>decide ((sum+zjS x now to).tmod x.mod=0)
 |now,last,sum,a::l=>
  (zhe g x s now last a).1.all (fun n=>decide ((n - nth (zhe g x s now last a).1 0).tmod x.mod=0)) &&
   ze0 g x s to (zhe g x s now last a).2.1 (zhe g x s now last a).2.2 (if (zhe g x s now last a).1= [] then sum else sum+nth (zhe g x s now last a).1 0) l
def ztJ (g:zab) (last:List Int) (p:zaf):Prop:=last.length=g.rights.toNat∧∀r,r<g.rights.toNat→(nth last r=9→zmF p.rights r=1)∧(nth last r=10→zmF p.rights r=0)
theorem zvc {g:zab} (hg:GOk g){x:zbh} (hx:zAg g x){s:Int} (hs:s=0∨s=1){t:TkD} (ht:POk g t.p){a:zc7} (ha:zc3 g.cells g.kinds.length g.rights a) (h:(doA g s t a).2=true)
  {last:List Int} (hl:ztJ g last t.p):
  ((zex x (doA g s t a).1.p - zex x t.p ∈ (zhe g x s (zal t.kind s) last a).1)∨((zhe g x s (zal t.kind s) last a).1= []∧zex x (doA g s t a).1.p=zex x t.p))∧
  (zhe g x s (zal t.kind s) last a).2.1=zal (doA g s t a).1.kind s∧ztJ g (zhe g x s (zal t.kind s) last a).2.2 (doA g s t a).1.p:=by
 obtain ⟨op,a,b⟩:=a
 unfold zc3 at ha
 simp only at ha
 have hal:=ht.al
 rcases (show op=3∨op=4∨op=5∨op=6∨op=7∨op=8∨op=9∨op=10 by omega) with rfl|rfl|rfl|rfl|rfl|rfl|rfl|rfl
 ·exact ⟨.inr ⟨rfl,rfl⟩,rfl,hl⟩
 ·exact ⟨.inr ⟨rfl,rfl⟩,rfl,hl⟩
 ·exact ⟨.inr ⟨rfl,rfl⟩,rfl,hl⟩
 · -- a man is taken
  have hat:=ht.at (i:=a.toNat) aa
  have hman:=zaO hat.1 hat.2 hg.k6
  have hdo:doA g s t (6,a,b)=zjp g s t a:=rfl
  have hac:zhe g x s (zal t.kind s) last (6,a,b)=((List.range g.kinds.length).map fun (k:Nat)=>if (nth g.kinds k).keep=true then zbQ x (zal k (1 - s)) a.toNat+nth (x.hand s) k else zbQ x (zal k (1 - s)) a.toNat,zal t.kind s,last):=rfl
  rw [hac]
  rw [hdo] at h ⊢
  unfold zjp at h ⊢
  simp only at h ⊢
  split
  ·rename_i hm
   rw [if_pos hm] at h
   simp at h
  ·rename_i hm
   rcases hman with ⟨_,e⟩|⟨hne,e1,e2,e3,e4⟩
   ·rw [e] at hm
    simp at hm
    omega
   ·have hbo:=ziJ (x:=x) (l:=t.p.at_) (i:=a.toNat) 0 aa
    have hcl:=zmc x t.p (t.p.at_.set a.toNat 0)
    have hce:clr t.p a={ t.p with at_:=t.p.at_.set a.toNat 0}:=rfl
    rw [← hce] at hcl
    have hk6:=hg.k6
    have hcode:zal (zan (nth t.p.at_ a.toNat)).1.toNat (1 - s)=nth t.p.at_ a.toNat:=by
     have hm2:(zan (nth t.p.at_ a.toNat)).2=1 - s:=Classical.byContradiction hm
     unfold zal
     rw [if_pos ⟨⟨aa,aa⟩,aa,aa⟩]
     omega
    have hmem:∀d,d=(if (nth g.kinds (zan (nth t.p.at_ a.toNat)).1.toNat).keep=true then zbQ x (nth t.p.at_ a.toNat) a.toNat+nth (x.hand s) (zan (nth t.p.at_ a.toNat)).1.toNat else zbQ x (nth t.p.at_ a.toNat) a.toNat)→
      d ∈ (List.range g.kinds.length).map fun (k:Nat)=>if (nth g.kinds k).keep=true then zbQ x (zal k (1 - s)) a.toNat+nth (x.hand s) k else zbQ x (zal k (1 - s)) a.toNat:=by
     rintro d rfl
     refine List.mem_map.2 ⟨(zan (nth t.p.at_ a.toNat)).1.toNat,List.mem_range.2 aa, ?_⟩
     rw [hcode]
    have hle:zbQ x (nth t.p.at_ a.toNat) a.toNat=wgt x 0 a.toNat - wgt x (nth t.p.at_ a.toNat) a.toNat:=rfl
    have hrt:∀ (P:zaf) (L:List Int),(P.withHand s L).rights=P.rights:=fun P L=>aI
    split
    ·rename_i hkp
     have hh:=ht.hand s
     have hkh:(zan (nth t.p.at_ a.toNat)).1.toNat<(t.p.hand s).length:=by rw [hh.len];omega
     have h1:=zrg x (clr t.p a) s ((t.p.hand s).set (zan (nth t.p.at_ a.toNat)).1.toNat (nth (t.p.hand s) (zan (nth t.p.at_ a.toNat)).1.toNat+1))
     have h2:=zyA (w:=x.hand s) (l:=t.p.hand s) (nth (t.p.hand s) (zan (nth t.p.at_ a.toNat)).1.toNat+1) hkh
     have h3:(clr t.p a).hand s=t.p.hand s:=rfl
     rw [h3] at h1
     refine ⟨.inl (hmem _ ?_),rfl, ?_⟩
     ·rw [if_pos hkp]
      have h4:nth (x.hand s) (zan (nth t.p.at_ a.toNat)).1.toNat * (nth (t.p.hand s) (zan (nth t.p.at_ a.toNat)).1.toNat+1 - nth (t.p.hand s) (zan (nth t.p.at_ a.toNat)).1.toNat)=nth (x.hand s) (zan (nth t.p.at_ a.toNat)).1.toNat:=by
       rw [show nth (t.p.hand s) (zan (nth t.p.at_ a.toNat)).1.toNat+1 - nth (t.p.hand s) (zan (nth t.p.at_ a.toNat)).1.toNat=1 by omega,Int.mul_one]
      rw [h4] at h2
      dsimp only
      omega
     ·refine ⟨hl.1,fun r hr=> ?_⟩
      dsimp only
      rw [hrt]
      exact hl.2 r hr
    ·rename_i hkp
     refine ⟨.inl (hmem _ ?_),rfl,hl⟩
     rw [if_neg hkp]
     dsimp only
     omega
 · -- a man is pushed
  have hdo:doA g s t (7,a,b)=zjg t a b:=rfl
  have hac:zhe g x s (zal t.kind s) last (7,a,b)=((List.range (x.men.length - 1)).map fun (i:Nat)=>zbQ x ((i:Int)+1) a.toNat+zjS x ((i:Int)+1) b.toNat,zal t.kind s,last):=rfl
  rw [hac]
  rw [hdo] at h ⊢
  unfold zjg at h ⊢
  split
  ·rename_i hm
   rw [if_pos hm] at h
   simp at h
  ·rename_i hm
   have hm1:nth t.p.at_ a.toNat≠0:=fun e=>hm (.inl e)
   have hm2:nth t.p.at_ b.toNat=0:=Classical.byContradiction fun e=>hm (.inr e)
   have hab:b.toNat≠a.toNat:=fun e=>hm1 (by rw [← e];exact hm2)
   have hat:=ht.at (i:=a.toNat) aa
   have b1:=ziJ (x:=x) (l:=t.p.at_) (i:=b.toNat) (nth t.p.at_ a.toNat) aa
   have b2:=ziJ (x:=x) (l:=t.p.at_.set b.toNat (nth t.p.at_ a.toNat)) (i:=a.toNat) 0 (by rw [List.length_set];omega)
   have hn2:nth (t.p.at_.set b.toNat (nth t.p.at_ a.toNat)) a.toNat=nth t.p.at_ a.toNat:=by rw [zbo,if_neg (fun h=>hab h.1)]
   rw [hn2] at b2
   rw [hm2] at b1
   have b3:=zmc x t.p ((t.p.at_.set b.toNat (nth t.p.at_ a.toNat)).set a.toNat 0)
   refine ⟨.inl (List.mem_map.2 ⟨(nth t.p.at_ a.toNat).toNat - 1,List.mem_range.2 (by rw [hx.men];omega), ?_⟩),rfl,hl⟩
   have e:(((nth t.p.at_ a.toNat).toNat - 1:Nat):Int)+1=nth t.p.at_ a.toNat:=aa
   rw [e]
   unfold zjS zbQ
   dsimp only
   omega
 ·exact ⟨.inr ⟨rfl,rfl⟩,rfl,hl⟩
 · -- a right is needed
  have hn:a.toNat<g.rights.toNat:=aa
  have hb:zmF t.p.rights a.toNat=1:=of_decide_eq_true h
  refine ⟨.inr ⟨rfl,rfl⟩,rfl,by rw [← hl.1];exact List.length_set ..,fun r hr=> ?_⟩
  have e:(zhe g x s (zal t.kind s) last (9,a,b)).2.2=last.set a.toNat 9:=rfl
  rw [e,zbo]
  show ((if a.toNat=r∧r<last.length then 9 else nth last r)=9→zmF t.p.rights r=1)∧((if a.toNat=r∧r<last.length then 9 else nth last r)=10→zmF t.p.rights r=0)
  split
  ·rename_i hc
   exact ⟨fun _=>hc.1▸hb,fun h=>aa⟩
  ·exact hl.2 r hr
 · -- a right is lost
  have hn:a.toNat<g.rights.toNat:=aa
  have hr4:=hg.r4
  have hdo:doA g s t (10,a,b)=(⟨{ t.p with rights:=zbg .i64 t.p.rights (2 ^ a.toNat)},t.kind,t.took⟩,true):=rfl
  have hac:zhe g x s (zal t.kind s) last (10,a,b)=(if nth last a.toNat=9 then [- nth x.rights a.toNat] else if nth last a.toNat=10 then [0] else [- nth x.rights a.toNat,0],zal t.kind s,last.set a.toNat 10):=rfl
  rw [hac,hdo]
  have h16:=zio hg ht
  have hxr:=hx.rights
  have e1:zex x ⟨t.p.at_,t.p.h0,t.p.h1,zbg .i64 t.p.rights (2 ^ a.toNat),t.p.side⟩=zex x t.p+(rtI x.rights (zbg .i64 t.p.rights (2 ^ a.toNat)) - rtI x.rights t.p.rights):=ztk x t.p _
  have e2:=zD9 (w:=x.rights) aa ht.r0 h16 (n:=a.toNat) aa
  have e3:=(ziL ht.r0 h16 (n:=a.toNat) (r:=a.toNat) aa aa).2
  have e4:=hl.2 a.toNat hn
  refine ⟨.inl ?_,rfl,by rw [List.length_set];exact hl.1,fun r hr=> ?_⟩
  ·show zex x ⟨t.p.at_,t.p.h0,t.p.h1,zbg .i64 t.p.rights (2 ^ a.toNat),t.p.side⟩ - zex x t.p ∈ _
   have e5:zex x ⟨t.p.at_,t.p.h0,t.p.h1,zbg .i64 t.p.rights (2 ^ a.toNat),t.p.side⟩ - zex x t.p= - (nth x.rights a.toNat * zmF t.p.rights a.toNat):=aa
   rw [e5]
   by_cases h9:nth last a.toNat=9
   ·rw [if_pos h9,e4.1 h9,Int.mul_one]
    exact List.mem_singleton.2 rfl
   ·rw [if_neg h9]
    by_cases h10:nth last a.toNat=10
    ·rw [if_pos h10,e4.2 h10,Int.mul_zero]
     exact List.mem_singleton.2 rfl
    ·rw [if_neg h10]
     rcases e3 with e|e
     ·rw [e,Int.mul_zero]
      exact List.mem_cons.2 (.inr (List.mem_singleton.2 rfl))
     ·rw [e,Int.mul_one]
      exact List.mem_cons.2 (.inl rfl)
  ·dsimp only
   rw [zbo]
   have hb:=(ziL ht.r0 h16 (n:=a.toNat) (r:=r) aa aa).1
   have hlen:=hl.1
   by_cases hc:a.toNat=r
   ·rw [if_pos ⟨hc,aa⟩,hb,if_pos hc.symm]
    exact ⟨fun h=>aa,fun _=>rfl⟩
   ·rw [if_neg (fun h=>hc h.1),hb,if_neg (fun h=>hc h.symm)]
    exact hl.2 r hr
theorem znK {g:zab} (hg:GOk g){x:zbh} (hx:zAg g x){s:Int} (hs:s=0∨s=1){to:Nat}:∀ {l:List zc7}{t u:TkD}{last:List Int}{sum:Int},POk g t.p→(∀a ∈ l,zc3 g.cells g.kinds.length g.rights a)→ztJ g last t.p→
  zeq g s t l=some u→ze0 g x s to (zal t.kind s) last sum l=true→x.mod ∣ (zex x u.p - zex x t.p)+sum+zjS x (zal u.kind s) to
 | [],t,u,last,sum,ht, _, _,h,hk=>by
  simp only [zeq,Option.some.injEq] at h
  subst h
  have:=Int.dvd_of_tmod_eq_zero (of_decide_eq_true hk)
  rw [Int.sub_self,Int.zero_add]
  exact this
 |a::l,t,u,last,sum,ht,hl,hlast,h,hk=>by
  simp only [zeq] at h
  split at h
  ·rename_i hd
   have h1:=zx4 hg hs ht (hl a ad) hd
   obtain ⟨c1,c2,c3⟩:=zvc hg hx hs ht (hl a ad) hd hlast
   rw [ze0,Bool.and_eq_true] at hk
   obtain ⟨k1,k2⟩:=hk
   rw [c2] at k2
   have ih:=znK hg hx hs h1 (fun b hb=>hl b (by simp [hb])) c3 h k2
   rcases c1 with c1|⟨c1,c4⟩
   ·have hne:(zhe g x s (zal t.kind s) last a).1≠ []:=fun e=>by rw [e] at c1;cases c1
    rw [if_neg hne] at ih
    have k3:=List.all_eq_true.1 k1 _ c1
    have k4:=Int.dvd_of_tmod_eq_zero (of_decide_eq_true k3)
    have e:zex x u.p - zex x t.p+sum+zjS x (zal u.kind s) to=
      (zex x u.p - zex x (doA g s t a).1.p+(sum+nth (zhe g x s (zal t.kind s) last a).1 0)+zjS x (zal u.kind s) to)+
       (zex x (doA g s t a).1.p - zex x t.p - nth (zhe g x s (zal t.kind s) last a).1 0):=aa
    rw [e]
    exact Int.dvd_add ih k4
   ·rw [if_pos c1] at ih
    rw [c4] at ih
    exact ih
  ·cases h
def zka (g:zab) (x:zbh) (s:Int) (k c:Nat) (w:zaT):Bool:=
 ze0 g x s w.to.toNat (zal k s) (List.replicate g.rights.toNat 0) (zbQ x (zal k s) c+zdw x s) w.acts
def zt4 (g:zab) (x:zbh):Bool:=(List.range 2).all fun (s:Nat)=>(List.range g.kinds.length).all fun (k:Nat)=>(List.range g.cells.toNat).all fun (c:Nat)=>
 !(nth g.kinds k).keep||decide ((zjS x (zal k s) c - nth (x.hand s) k+zdw x s).tmod x.mod=0)
def zca (g:zab) (x:zbh):Bool:=
 ((List.range 2).all fun (s:Nat)=>(List.range g.kinds.length).all fun (k:Nat)=>(List.range g.cells.toNat).all fun (c:Nat)=>(zbH g.board s (nth g.kinds k).progs c).all (zka g x s k c)) && zt4 g x
theorem zyJ {g:zab}{x:zbh} (h:zca g x=true){s:Int} (hs:s=0∨s=1){k c:Nat} (hk:k<g.kinds.length) (hc:c<g.cells.toNat){w:zaT} (hw:w ∈ zbH g.board s (nth g.kinds k).progs c):zka g x s k c w=true:=by
 unfold zca at h
 rw [Bool.and_eq_true] at h
 have h1:=List.all_eq_true.1 h.1 s.toNat (List.mem_range.2 aa)
 have h2:=List.all_eq_true.1 h1 k (List.mem_range.2 hk)
 have h3:=List.all_eq_true.1 h2 c (List.mem_range.2 hc)
 rw [show ((s.toNat:Nat):Int)=s by omega] at h3
 exact List.all_eq_true.1 h3 w hw
theorem zyH {g:zab}{x:zbh} (h:zca g x=true){s:Int} (hs:s=0∨s=1){k c:Nat} (hk:k<g.kinds.length) (hc:c<g.cells.toNat) (hkp:(nth g.kinds k).keep=true):
  x.mod ∣ zjS x (zal k s) c - nth (x.hand s) k+zdw x s:=by
 unfold zca at h
 rw [Bool.and_eq_true] at h
 have h1:=List.all_eq_true.1 h.2 s.toNat (List.mem_range.2 aa)
 have h2:=List.all_eq_true.1 h1 k (List.mem_range.2 hk)
 have h3:=List.all_eq_true.1 h2 c (List.mem_range.2 hc)
 rw [show ((s.toNat:Nat):Int)=s by omega,hkp,Bool.not_true,Bool.false_or,decide_eq_true_eq] at h3
 exact Int.dvd_of_tmod_eq_zero h3
theorem zyI {g:zab} (hg:GOk g){x:zbh} (hx:zAg g x) (hk:zca g x=true){q p:zaf} (hq:POk g q) (hp:p ∈ zar g q):x.mod ∣ zex x p - zex x q:=by
 have hal:=hq.al
 rcases (znV.1 hp).2 with ⟨o,ho, _,rfl⟩|⟨_,hd⟩
 ·obtain ⟨c,c1,h0,hside,ho⟩:=(zq1 hg hq).1 ho
  have hat:=hq.at (i:=c) aa
  unfold runO at ho
  simp only [Int.toNat_natCast] at ho
  rw [if_neg h0,zaG] at ho
  unfold zzi at ho
  obtain ⟨w,hw,hwo⟩:=List.mem_filterMap.1 ho
  simp only [Int.toNat_natCast] at hwo
  rw [hside] at hwo
  unfold zpk at hw
  simp only [Int.toNat_natCast] at hw
  rw [hside] at hw
  rcases zaO hat.1 hat.2 hg.k6 with ⟨hz, _⟩|⟨_,e1,e2,e3,e4⟩
  ·exact absurd hz h0
  have hkl:(zan (nth q.at_ c)).1.toNat<g.kinds.length:=aa
  have hpo:=zgK hg (side:=q.side) (zag hkl) (cell:=(c:Int)) ⟨aa,c1⟩ w hw
  have hkw:=zyJ hk hq.s hkl aa hw
  have hk6:=hg.k6
  have hs2:=hq.s
  have hcode:zal (zan (nth q.at_ c)).1.toNat q.side=nth q.at_ c:=by
   unfold zal
   rw [if_pos ⟨⟨aa,aa⟩,aa,aa⟩]
   omega
  unfold zwg stW at hwo
  cases hd:zeq g q.side (zcN q c) w.acts with
  |none=>rw [hd] at hwo;simp at hwo
  |some u=>
   rw [hd] at hwo
   simp only [Option.map_some,Option.bind_some] at hwo
   have hst:POk g (zcN q c).p:=hq.clr c
   have hu:=zsD hg hq.s hst hpo.acts hd
   have hual:=hu.al
   have hto:=hpo.to
   unfold zka at hkw
   have hk2:zal (zcN q c).kind q.side=zal (zan (nth q.at_ c)).1.toNat q.side:=by
    show zal (zan (nth q.at_ (c:Int).toNat)).1 q.side= _
    rw [Int.toNat_natCast,Int.toNat_of_nonneg e1]
   rw [← hk2] at hkw
   have hlo:ztJ g (List.replicate g.rights.toNat 0) (zcN q c).p:=⟨ad,fun r hr=>by
    have e:nth (List.replicate g.rights.toNat (0:Int)) r=0:=by rw [zap _ _ (by simpa using hr)];simp
    rw [e]
    exact ⟨fun h=>aa,fun h=>aa⟩⟩
   have key:=znK hg hx hq.s hst hpo.acts hlo hd hkw
   rw [hk2,hcode] at key
   have b1:=ziJ (x:=x) (l:=q.at_) (i:=c) 0 aa
   have b2:=zmc x q (q.at_.set c 0)
   have b3:zex x (zcN q c).p=zex x { q with at_:=q.at_.set c 0}:=rfl
   have b4:=ziJ (x:=x) (l:=u.p.at_) (i:=w.to.toNat) (zal u.kind q.side) aa
   have b5:=zmc x u.p (u.p.at_.set w.to.toNat (zal u.kind q.side))
   have b6:=zrh x { u.p with at_:=u.p.at_.set w.to.toNat (zal u.kind q.side)} (1 - q.side)
   have hus:u.p.side=q.side:=zlc g q.side hd
   unfold zgX at hwo
   split at hwo
   ·rename_i hz
    simp only [stT] at hz hwo
    simp only [Option.some.injEq] at hwo
    subst hwo
    simp only
    rw [hz] at b4
    have e5:x.side * (1 - q.side - u.p.side)=zdw x q.side:=by
     unfold zdw
     rw [hus,show 1 - q.side - q.side=1 - 2 * q.side by omega]
    dsimp only at b6
    rw [e5] at b6
    have e6:zjS x (zal u.kind q.side) w.to.toNat=wgt x (zal u.kind q.side) w.to.toNat - wgt x 0 w.to.toNat:=by unfold zjS zbQ;omega
    have e7:zbQ x (nth q.at_ c) c=wgt x 0 c - wgt x (nth q.at_ c) c:=rfl
    rw [e6,e7] at key
    rw [b6,b5,b4]
    have e8:zex x u.p+(atI x u.p.at_+(wgt x (zal u.kind q.side) w.to.toNat - wgt x 0 w.to.toNat) - atI x u.p.at_)+zdw x q.side - zex x q=
      zex x u.p - zex x (zcN q c).p+(wgt x 0 c - wgt x (nth q.at_ c) c+zdw x q.side)+(wgt x (zal u.kind q.side) w.to.toNat - wgt x 0 w.to.toNat):=aa
    rw [e8]
    exact key
   ·cases hwo
 ·unfold zcI at hd
  rw [zaG] at hd
  obtain ⟨k,hkk,hd⟩:=List.mem_flatMap.1 hd
  obtain ⟨c,hc,hd⟩:=List.mem_filterMap.1 hd
  have hkk:=List.mem_range.1 hkk
  have hc:=List.mem_range.1 hc
  have hh:=hq.hand q.side
  have hkh:k<(q.hand q.side).length:=by rw [hh.len];exact hkk
  have hk6:=hg.k6
  unfold zf2 at hd
  split at hd
  ·cases hd
  rename_i hn
  have hn2:nth q.at_ c=0:=Classical.byContradiction fun h=>hn (.inr h)
  have hn1:nth (q.hand q.side) k≠0:=fun h=>hn (.inl h)
  simp only [Option.some.injEq] at hd
  have hkp:(nth g.kinds k).keep=true:=(hh.v k hkh).2.2 (by have:=(hh.v k hkh).1;omega)
  have key:=zyH hk hq.s hkk (show c<g.cells.toNat by omega) hkp
  have b1:=ziJ (x:=x) (l:=q.at_) (i:=c) (zal k q.side) hc
  rw [hn2] at b1
  have b2:=zmc x q (q.at_.set c (zal k q.side))
  have b3:=zrg x { q with at_:=q.at_.set c (zal k q.side)} q.side ((q.hand q.side).set k (nth (q.hand q.side) k - 1))
  have b4:=zyA (w:=x.hand q.side) (l:=q.hand q.side) (nth (q.hand q.side) k - 1) hkh
  have b5:({ q with at_:=q.at_.set c (zal k q.side)}:zaf).hand q.side=q.hand q.side:=rfl
  rw [b5] at b3
  have e1:nth (x.hand q.side) k * (nth (q.hand q.side) k - 1 - nth (q.hand q.side) k)= - nth (x.hand q.side) k:=by
   rw [show nth (q.hand q.side) k - 1 - nth (q.hand q.side) k= -1 by omega,Int.mul_neg,Int.mul_one]
  rw [e1] at b4
  have b6:=zrh x (({ q with at_:=q.at_.set c (zal k q.side)}:zaf).withHand q.side ((q.hand q.side).set k (nth (q.hand q.side) k - 1))) (1 - q.side)
  have b7:(({ q with at_:=q.at_.set c (zal k q.side)}:zaf).withHand q.side ((q.hand q.side).set k (nth (q.hand q.side) k - 1))).side=q.side:=aI
  rw [b7,show x.side * (1 - q.side - q.side)=zdw x q.side by unfold zdw;rw [show 1 - q.side - q.side=1 - 2 * q.side by omega]] at b6
  rw [← hd,b6,b3,b2,b1,b4]
  unfold zjS zbQ at key
  have e8:zex x q+(atI x q.at_+(wgt x (zal k q.side) c - wgt x 0 c) - atI x q.at_)+(hdI (x.hand q.side) (q.hand q.side)+ -nth (x.hand q.side) k - hdI (x.hand q.side) (q.hand q.side))+zdw x q.side - zex x q=
    -(wgt x 0 c - wgt x (zal k q.side) c) - nth (x.hand q.side) k+zdw x q.side:=aa
  rw [e8]
  exact key
def zc6:List (List zaf×Bool)→Bool
 | []=>false
 | [x]=>x.2
 | _::l=>zc6 l
theorem zh0:∀ {L:List (List zaf×Bool)},L≠ []→zc6 L=(nth L (L.length - 1)).2
 | [],h=>absurd rfl h
 | [x], _=>rfl
 |x::y::l, _=>by
  have:=zh0 (L:=y::l) ad
  rw [zc6,this]
  ·simp only [List.length_cons,Nat.add_sub_cancel]
   rw [zb1]
  ·simp
theorem znM (g:zab) (b:Int) (f:Nat) (known now:List zaf):zaL g b (f+1) known now≠ []:=by
 rw [zaL]
 split
 ·simp
 ·split<;>simp
theorem znN {g:zab} (hg:GOk g) (b:Int):∀ (f:Nat){known now:List zaf},zbu g known now→∀x ∈ zaL g b f known now,Inc x.1∧∀q ∈ x.1,POk g q
 |0,known,now,h,x,hx=>by simp [zaL] at hx
 |f+1,known,now,h,x,hx=>by
  rw [zaL] at hx
  split at hx
  ·simp only [List.mem_singleton] at hx
   subst hx
   exact ⟨h.inc,h.now_ok⟩
  ·split at hx
   ·simp only [List.mem_singleton] at hx
    subst hx
    exact ⟨h.inc,h.now_ok⟩
   ·rcases List.mem_cons.1 hx with rfl|hx
    ·exact ⟨h.inc,h.now_ok⟩
    ·exact znN hg b f (h.next hg) x hx
def zdV (L:List (List zaf×Bool)):List zaf:=L.flatMap (·.1)
theorem zlF {g:zab} (hg:GOk g){b:Int} (hb:b≤4000):∀ (f:Nat){known now:List zaf},zbu g known now→
  (zdV (zaL g b f known now)).length≤now.length+(if known.length≤b.toNat then 1889784000+(b.toNat - known.length) else 0)
 |0,known,now,h=>by simp [zaL,zdV]
 |f+1,known,now,h=>by
  rw [zaL]
  split
  ·simp [zdV]
  ·rename_i hk
   split
   ·simp [zdV]
   ·have ih:=zlF hg hb f (h.next hg)
    have e:zdV ((now,false)::zaL g b f (known++zbY g known now) (za3 zbi (zbY g known now)))=now++zdV (zaL g b f (known++zbY g known now) (za3 zbi (zbY g known now))):=rfl
    rw [e,List.length_append]
    have hs:=zms (zlW g known now)
    have hl:(known++zbY g known now).length=known.length+(zbY g known now).length:=List.length_append
    have hn:=zq5 hg (known:=known) h.now_ok
    have hnl:=h.now_len
    have h4:now.length * 472446≤1889784000:=aa
    rw [hs,hl] at ih
    rw [if_pos aa]
    split at ih<;>omega
theorem zfF {g:zab} (hg:GOk g){p:zaf} (hp:POk g p) (n:Int):(zdV (zau g p n)).length≤1889788001:=by
 have hb:=zeQ n
 have:=zlF hg hb.2 ((zgZ n).toNat+2) (zEK hp)
 unfold zau
 generalize zaL g (zgZ n) ((zgZ n).toNat+2) [p] [p]=L at *
 simp only [List.length_singleton] at this
 split at this<;>omega
theorem zjk {g:zab} (hg:GOk g){p:zaf} (hp:POk g p) (n:Int):∀x ∈ zau g p n,Inc x.1∧∀q ∈ x.1,POk g q:=znN hg _ _ (zEK hp)
theorem ze7 (g:zab) (p:zaf) (n:Int):zau g p n≠ []:=znM g _ _ _ _
theorem zoy {g:zab} (hg:GOk g){p:zaf} (hp:POk g p) (n:Int):∀q ∈ zdV (zau g p n),POk g q:=fun q hq=>by
 obtain ⟨x,hx,hq⟩:=List.mem_flatMap.1 hq
 exact (zjk hg hp n x hx).2 q hq
def zbE (g:zab) (p:zaf) (n:Int):List zaf:=za3 zbi (zdV (zau g p n))
theorem zid (g:zab) (b:Int):∀ (f:Nat) (known now:List zaf),(zaL g b f known now).length≤f
 |0,known,now=>by simp [zaL]
 |f+1,known,now=>by
  rw [zaL]
  split
  ·simp
  ·split
   ·simp
   ·have:=zid g b f (known++zbY g known now) (za3 zbi (zbY g known now))
    simp only [List.length_cons]
    omega
theorem zis (g:zab) (p:zaf) (n:Int):(zau g p n).length≤4002:=by
 have:=zid g (zgZ n) ((zgZ n).toNat+2) [p] [p]
 have:=zeQ n
 unfold zau
 omega
def zeG (g:zab) (p:zaf) (l:List zaf):Int:=zh5 (fun q=>decide (q ∈ zar g p)) l
theorem ziZ {g:zab}{p:zaf}{l:List zaf} (h:0≤zeG g p l):(zeG g p l).toNat<l.length∧nth l (zeG g p l).toNat ∈ zar g p∧∀j,j<(zeG g p l).toNat→nth l j ∉ zar g p:=by
 unfold zeG zh5 at *
 cases hf:l.findIdx? (fun q=>decide (q ∈ zar g p)) with
 |none=>rw [hf] at h;simp at h
 |some i=>
  obtain ⟨hi,h1,h2⟩:=List.findIdx?_eq_some_iff_getElem.1 hf
  simp only [Int.toNat_natCast]
  refine ⟨hi,by rw [zap _ _ hi];simpa using h1,fun j hj=> ?_⟩
  rw [zap _ _ aa]
  simpa using h2 j hj
theorem zlt {g:zab}{p:zaf}{l:List zaf}:0≤zeG g p l↔∃q ∈ l,q ∈ zar g p:=by
 have:=znD (p:=fun q=>decide (q ∈ zar g p)) (l:=l)
 unfold zeG
 constructor
 ·intro h
  rw [decide_eq_true h] at this
  obtain ⟨q,h1,h2⟩:=List.any_eq_true.1 this.symm
  exact ⟨q,h1,aZ⟩
 ·rintro ⟨q,h1,h2⟩
  have h3:(l.any fun q=>decide (q ∈ zar g p))=true:=List.any_eq_true.2 ⟨q,h1,aZ⟩
  rw [h3] at this
  simpa using this
def zeX (g:zab):List (List zaf)→zaf→List (List zaf)
 | [], _=> []
 | [_],goal=> [[goal]]
 |l::m::ls,goal=>(l.filter fun p=>decide (0≤zeG g p (nth (zeX g (m::ls) goal) 0)))::zeX g (m::ls) goal
theorem zeY (g:zab) (goal:zaf):∀past:List (List zaf),past≠ []→nth (zeX g past goal) (past.length - 1)= [goal]
 | [],h=>absurd rfl h
 | [_], _=>rfl
 |l::m::ls, _=>by
  have:=zeY g goal (m::ls) ad
  rw [zeX]
  ·rw [show (l::m::ls).length - 1=((m::ls).length - 1)+1 by simp,zb1]
   exact this
theorem zgH (g:zab) (goal:zaf):∀ (past:List (List zaf)) (i:Nat),i+1<past.length→nth (zeX g past goal) i=(nth past i).filter fun p=>decide (0≤zeG g p (nth (zeX g past goal) (i+1)))
 | [],i,h=>by simp at h
 | [_],i,h=>by simp at h
 |l::m::ls,i,h=>by
  rw [zeX]
  ·cases i with
   |zero=>rfl
   |succ i=>
    rw [zb1,zb1,zb1]
    exact zgH g goal (m::ls) i aK
structure zg9 (g:zab) (past:List (List zaf)):Prop where
 ne:past≠ []
 one:∃s,nth past 0= [s]
 back:∀i,i+1<past.length→∀q ∈ nth past (i+1),∃r ∈ nth past i,q ∈ zar g r
theorem zh1 {g:zab}{goal:zaf}{past:List (List zaf)}{i:Nat} (hi:i<past.length) (hg:goal ∈ nth past (past.length - 1)):∀q ∈ nth (zeX g past goal) i,q ∈ nth past i:=by
 intro q hq
 by_cases h:i+1<past.length
 ·rw [zgH g goal past i h] at hq
  exact (List.mem_filter.1 hq).1
 ·obtain rfl:i=past.length - 1:=by omega
  rw [zeY g goal past (by intro h;rw [h] at hi;simp at hi)] at hq
  simp only [List.mem_singleton] at hq
  subst hq
  exact hg
theorem zue {g:zab}{goal:zaf}{past:List (List zaf)} (hc:zg9 g past) (hg:goal ∈ nth past (past.length - 1)):∀d i,i+d+1=past.length→∃q,q ∈ nth (zeX g past goal) i
 |0,i,hi=>by
  obtain rfl:i=past.length - 1:=aa
  rw [zeY g goal past hc.ne]
  exact ⟨goal,ad⟩
 |d+1,i,hi=>by
  obtain ⟨q,hq⟩:=zue hc hg d (i+1) aa
  obtain ⟨r,hr,hm⟩:=hc.back i aa q (zh1 aa hg q hq)
  refine ⟨r, ?_⟩
  rw [zgH g goal past i aa]
  exact List.mem_filter.2 ⟨hr,by simpa using zlt.2 ⟨q,hq,hm⟩⟩
theorem zsQ {g:zab}{goal:zaf}{past:List (List zaf)} (hc:zg9 g past) (hg:goal ∈ nth past (past.length - 1)):nth (nth past 0) 0 ∈ nth (zeX g past goal) 0:=by
 have hl:=List.length_pos_iff.2 hc.ne
 obtain ⟨q,hq⟩:=zue hc hg (past.length - 1) 0 aa
 have:=zh1 aa hg q hq
 obtain ⟨s,hs⟩:=hc.one
 rw [hs] at this ⊢
 simp only [List.mem_singleton] at this
 subst this
 exact hq
theorem znw {g:zab}{goal:zaf}{past:List (List zaf)}{i:Nat} (hi:i+1<past.length){p:zaf} (hp:p ∈ nth (zeX g past goal) i):0≤zeG g p (nth (zeX g past goal) (i+1)):=by
 rw [zgH g goal past i hi] at hp
 simpa using (List.mem_filter.1 hp).2
def zAd (g:zab) (past:List (List zaf)) (goal:zaf):Nat→zaf
 |0=>nth (nth past 0) 0
 |i+1=>nth (nth (zeX g past goal) (i+1)) (zeG g (zAd g past goal i) (nth (zeX g past goal) (i+1))).toNat
def zgt (g:zab) (past:List (List zaf)) (goal:zaf):List zaf:=(List.range past.length).map (zAd g past goal)
theorem ziB {g:zab}{goal:zaf}{past:List (List zaf)} (hc:zg9 g past) (hg:goal ∈ nth past (past.length - 1)):∀i,i<past.length→zAd g past goal i ∈ nth (zeX g past goal) i
 |0, _=>zsQ hc hg
 |i+1,hi=>by
  have h1:=ziB hc hg i aa
  exact zag (ziZ (znw hi h1)).1
theorem zwO {g:zab}{goal:zaf}{past:List (List zaf)} (hc:zg9 g past) (hg:goal ∈ nth past (past.length - 1)){i:Nat} (hi:i+1<past.length):
  0≤zeG g (zAd g past goal i) (nth (zeX g past goal) (i+1)):=znw hi (ziB hc hg i aa)
def zcW (g:zab) (p goal:zaf) (n:Int):List zaf×Int:=
 match (zau g p n).findIdx? (fun x=>decide (goal ∈ x.1)) with
 |some d=>(zgt g (((zau g p n).take (d+1)).map (·.1)) goal,0)
 |none=>([],if zc6 (zau g p n) then 270 else 2)
theorem zic (g:zab) (b:Int):∀ (f:Nat) (known now:List zaf) (i:Nat),i+1<(zaL g b f known now).length→∀q ∈ (nth (zaL g b f known now) (i+1)).1,∃r ∈ (nth (zaL g b f known now) i).1,q ∈ zar g r
 |0,known,now,i,h=>by simp [zaL] at h
 |f+1,known,now,i,h=>by
  rw [zaL] at h ⊢
  split at h
  ·simp at h
  ·rename_i hk
   rw [if_neg hk]
   split at h
   ·simp at h
   ·rename_i hz
    rw [if_neg hz]
    cases i with
    |succ i=>
     rw [zb1,zb1]
     exact zic g b f _ _ i aK
    |zero=>
     rw [zb1,zdy]
     intro q hq
     have hq2:q ∈ za3 zbi (zbY g known now):=by
      cases f with
      |zero=>simp [zaL] at h
      |succ f=>
       rw [zaL] at hq
       split at hq
       ·exact hq
       ·split at hq
        ·exact hq
        ·exact hq
     exact (zii.1 (zaG.1 hq2)).1
theorem zqP (g:zab) (b:Int) (f:Nat) (known now:List zaf):(nth (zaL g b (f+1) known now) 0).1=now:=by
 rw [zaL]
 split
 ·rfl
 ·split<;>rfl
theorem zir (g:zab) (p:zaf) (n:Int) (d:Nat):zg9 g (((zau g p n).take (d+1)).map (·.1)):=by
 have hne:=ze7 g p n
 have hz:(nth (zau g p n) 0).1= [p]:=zqP g _ _ _ _
 have hch:∀i,i+1<(zau g p n).length→ _:=zic g (zgZ n) ((zgZ n).toNat+2) [p] [p]
 rw [show zaL g (zgZ n) ((zgZ n).toNat+2) [p] [p]=zau g p n from rfl] at hch
 generalize zau g p n=L at *
 have hl:=List.length_pos_iff.2 hne
 have hnth:∀i,i<(L.take (d+1)).length→nth ((L.take (d+1)).map (·.1)) i=(nth L i).1:=fun i hi=>by
  rw [za9 _ _ _ hi,zap _ _ hi,zap _ _ (by simp at hi;omega)]
  simp
 refine ⟨?_,⟨p, ?_⟩,fun i hi q hq=> ?_⟩
 ·intro h
  have:=congrArg List.length h
  simp at this
  exact hne this
 ·rw [hnth 0 ak,hz]
 ·rw [List.length_map] at hi
  rw [hnth (i+1) hi] at hq
  rw [hnth i aa]
  exact hch i (by simp at hi;omega) q hq
def zDK (n:Nat):AV:= .fn (.func 72) [] [.ref (n+1) 0 5 0 0, .ref (n+2) 0 1 0 0, .ref n 0 9 0 0]
def zDJ (g:zab) (p:zaf) (b:Int) (n:Nat):List (Nat×zbp):= [(n, .rows true 0 9 [zac g]),(n+1, .rows true 0 5 [zae p]),(n+2, .rows true 0 1 [[.int (zgZ b)]])]
theorem zlI (g:zab) (p:zaf) (b:Int):zhb Tryz.prog 33 [.agg (zac g), .agg (zae p), .int b] zDK (zDJ g p b) 3:=by
 refine ⟨?_,fun n=>⟨by simp [go_sem,zDK],by simp [go_sem,zDJ]⟩⟩
 have e:zgZ b=if 0<(if 4000<b then 4000 else b) then (if 4000<b then 4000 else b) else 0:=by
  unfold zgZ
  split<;>split<;>(try split)<;>omega
 refine aF Tryz.func33 ?_
 repeat first|refine wV fun _=>?_|simp [go_sem,zDK,zDJ]
 simp [go_sem,zad,e]
theorem zxc (g:zab) (hg:GOk g) (p:zaf) (hp:POk g p) (b:Int):zaD Tryz.prog 41 [.agg (zac g), .agg (zae p), .int b] (.tup [zaC (zbE g p b), .v (.bool (zc6 (zau g p b)))]):=by
 refine pF Tryz.func41 ?_
 have hS:zhb Tryz.prog 33 [.agg (zac g), .agg (zae p), .int b] (fun n=>zDK n) (fun n=>zDJ g p b n) 3:=zlI g p b
 have hQ:=zlE g hg p hp (zgZ b) (zeQ b)
 simp only [zDK,zDJ] at hS
 have hlen:=zfF hg hp b
 have hok:=zoy hg hp b
 have hne:=ze7 g p b
 rw [show zaL g (zgZ b) ((zgZ b).toNat+2) [p] [p]=zau g p b from rfl] at hQ
 unfold zbE
 have hfull:=zh0 hne
 generalize zau g p b=L at *
 refine Jg0 ?_
 refine zEu hS ae ?_
 refine Jg0 ?_
 refine zdj.mk [.fp (zae p), .fp [.int (zgZ b)], .fp (zac g)] (za6 _ [4,5,6]) hQ (zbf _ _) ?_ ae (fun xs hx=>by obtain ⟨y, _,rfl⟩:=List.mem_map.1 hx;rfl) ?_
 ·refine zav.cons (.frzP rfl ?_ ?_ ?_ ?_) (zav.cons (.frzP rfl ?_ ?_ ?_ ?_) (zav.cons (.frzP rfl ?_ ?_ ?_ ?_) .nil))<;>first|exact zav.refl _ _ _ _|simp [za6,zbr,upd]
 obtain ⟨al,hal⟩:∃al:Nat→List zaf,al=fun k=>zdV (L.take k):=⟨_,rfl⟩
 have hall:∀k,(al k).length≤1889788001:=fun k=>by
  have e:zdV L=zdV (L.take k)++zdV (L.drop k):=by
   unfold zdV
   rw [← List.flatMap_append,List.take_append_drop]
  rw [e,List.length_append] at hlen
  rw [hal]
  simp only
  omega
 have hals:∀k,k<L.length→al (k+1)=al k++(nth L k).1:=fun k hk=>by rw [hal];simp only;unfold zdV;rw [List.take_add_one,List.getElem?_eq_getElem hk,zap _ _ hk,Option.toList_some,List.flatMap_append];simp
 have hal0:al 0= []:=by rw [hal];rfl
 have halE:al L.length=zdV L:=by rw [hal];simp
 obtain ⟨fl,hfl⟩:∃fl:Nat→Bool,fl=fun k=>if k=0 then false else (nth L (k - 1)).2:=⟨_,rfl⟩
 have hfl0:fl 0=false:=by rw [hfl];rfl
 have hfls:∀k,fl (k+1)=(nth L k).2:=fun k=>by rw [hfl];rfl
 have hflE:fl L.length=zc6 L:=by
  have:=List.length_pos_iff.2 hne
  rw [hfull,hfl]
  simp only
  rw [if_neg aa]
 clear hal hfl
 refine Fgt.to (zEA (α:=Nat) (fun k=>([(8, .ref 2 0 1 0 0),(9, .ref 3 0 1 0 0)], [(2, .rows true 0 1 [[.sl 7 k 5 0 (al k).length]]),(3, .rows true 0 1 [[.v (.bool (fl k))]]),(7, .rows true k 5 ((al k).map zae))],8))
  (fun rows k=>rows=(L.drop k).map zn7∧k≤L.length) ?_ ?_ _ 0 ?_) ?_ ?_
 ·rintro k ⟨i1,i2⟩
  have hk:k=L.length:=by
   have:=congrArg List.length i1
   simp at this
   omega
  subst hk
  refine ⟨rfl, ?_⟩
  have hla:=hall L.length
  rw [halE,hflE] at *
  have hSo:=zc0 (zdV L) aa (fun q hq=>(hok q hq).fits hg)
  generalize zdV L=all at *
  generalize zc6 L=full at *
  refine Jg0 ?_
  refine zbq.frz [zaC all] _ [7] [(7,some (.rows false L.length 5 (all.map zae)))] hSo ?_ ?_ (zsr (zbk _)) ?_
  ·intro q hq
   simp only [List.mem_singleton] at hq
   subst hq
   exact ⟨ad,L.length,5, _,rfl,aR⟩
  ·intro h₁ hS
   have h6:=hS 7 ad
   simp [upd] at h6
   exact .cons (zak h6.symm ad cF dE) .nil
  ·exact Kg0
 ·rintro xs rs k ⟨i1,i2⟩ hrec
  have hk:k<L.length:=by
   have:=congrArg List.length i1
   simp at this
   omega
  rw [zas hk,List.map_cons,List.cons.injEq] at i1
  obtain ⟨rfl,rfl⟩:=i1
  have hals:=hals k hk
  have hfls:=hfls k
  have h1:=hall k
  have h2:=hall (k+1)
  have h3:(al k).length+(nth L k).1.length≤1889788001:=by rw [hals,List.length_append] at h2;exact h2
  generalize hrs:(L.drop (k+1)).map zn7=rs at *
  refine zEF (Nat.zero_le _) ?_
  repeat first|refine wV fun _=>?_|simp [go_sem,GH,zn7]
  refine Fgt.to (hrec (k+1) ⟨hrs.symm,aa⟩) ?_ ad
  simp [go_sem,zad,GH,hals,hfls]
 ·exact ⟨rfl,Nat.zero_le _⟩
 ·simp [go_sem,zad,hal0,hfl0]
 ·simp
def zpc (gm:Bool) (l:List zcq) (i:Nat):Bool:=gm && (l.take i).any (·.took)
theorem zwc (gm:Bool) (l:List zcq):zpc gm l 0=false:=by simp [zpc]
theorem zwb (gm:Bool) (l:List zcq){i:Nat} (h:i<l.length):zpc gm l (i+1)=(zpc gm l i||(gm && (nth l i).took)):=by
 unfold zpc
 rw [List.take_add_one,List.getElem?_eq_getElem h,zap _ _ h,Option.toList_some,List.any_append]
 simp only [List.any_cons,List.any_nil,Bool.or_false,Bool.and_or_distrib_left]
def zh8 (must:Bool) (l:List zcq) (i:Nat):List zaf:=((l.take i).filter fun o=> !must||o.took).map (·.pos)
theorem zvZ (must:Bool) (l:List zcq):zh8 must l 0= []:=by simp [zh8]
theorem zvY (must:Bool) (l:List zcq){i:Nat} (h:i<l.length):zh8 must l (i+1)=zh8 must l i++(if (!must||(nth l i).took)=true then [(nth l i).pos] else []):=by
 unfold zh8
 rw [List.take_add_one,List.getElem?_eq_getElem h,zap _ _ h,Option.toList_some,List.filter_append,List.map_append]
 congr 1
 by_cases hc:(!must||l[i].took)=true<;>simp [hc]
theorem zqL (must:Bool) (l:List zcq) (i:Nat):(zh8 must l i).length≤i:=by
 unfold zh8
 rw [List.length_map]
 refine Nat.le_trans (List.length_filter_le _ _) ?_
 simp;omega
theorem zjv (g:zab) (hg:GOk g) (p:zaf) (hp:POk g p):zaD Tryz.prog 48 [.agg (zac g), .agg (zae p)] (zaC (zar g p)):=by
 refine pF Tryz.func48 ?_
 have hE:=zpN g hg p hp
 have hO:=zkM g hg p hp
 have hD:=zpL g hg p hp
 have hdl:=zgE hg hp
 have hol:=zl4 hg hp
 have hS:=zfm (zdR g p) (by have:=znY hg hp;omega) (fun q hq=>(zq3 hg hp q hq).1.fits hg)
 have hml:zdR g p=zh8 (zgV g p) (zdJ g p) (zdJ g p).length++(if zgV g p then [] else zcI g p):=by unfold zdR zh8;rw [List.take_length]
 have hmu:zgV g p=zpc g.must (zdJ g p) (zdJ g p).length:=by unfold zgV zpc;rw [List.take_length]
 have hmv:zar g p=if 0≤zdl g p then [] else za3 zbi (zdR g p):=rfl
 obtain ⟨R,hR⟩:∃R,R=zar g p:=⟨_,rfl⟩
 rw [← hR] at hmv ⊢
 generalize zdJ g p=l at *
 generalize zcI g p=ds at *
 generalize zdR g p=ml at *
 generalize zdl g p=en at *
 refine J0 ?_
 refine aP hE ?_
 refine J0 ?_
 refine zEr (fun he=> ?_) (fun he=> ?_)<;>simp at he
 ·rw [if_pos he] at hmv
  rw [hmv]
  exact K0
 ·rw [if_neg aa] at hmv
  refine J0 ?_
  refine aP hO ?_
  refine J0 ?_
  refine zEp (zEs (α:=Nat) (fun i=>⟨[(2, .ref 0 0 9 0 0),(3, .ref 1 0 5 0 0),(5,zhR l),(6, .sl 2 0 5 0 0),(7, .v (.bool (zpc g.must l i))),(8, .int i)], [(0, .rows true 0 9 [zac g]),(1, .rows true 0 5 [zae p]),(2, .rows true 0 5 [])],3⟩)
   (fun d i=>i+d=l.length) ?_ l.length 0 ?_) ?_ ?_
  ·rintro d i i1 hrec
   refine J0 ?_
   refine zEr (fun hi=> ?_) (fun hi=> ?_)<;>simp at hi
   ·have hms:=zwb g.must l hi
    cases hmk:zpc g.must l i
    ·rw [hmk,Bool.false_or] at hms
     cases hgm:g.must
     ·rw [hgm,Bool.false_and] at hms
      refine J3 hmk hgm hi ?_
      refine zEp (hrec (d - 1) aa (i+1) aa) ?_ ad
      simp [go_sem,zad,hms,hgm]
     ·rw [hgm,Bool.true_and] at hms
      refine J3 hmk hgm hi ?_
      refine zEp (hrec (d - 1) aa (i+1) aa) ?_ ad
      simp [go_sem,zad,hms,hgm]
    ·rw [hmk,Bool.true_or] at hms
     refine J2 hmk hi ?_
     refine zEp (hrec (d - 1) aa (i+1) aa) ?_ ad
     simp [go_sem,zad,hms]
   ·have hil:i=l.length:=by omega
    subst hil
    rw [← hmu]
    generalize zgV g p=must at *
    refine J0 ?_
    refine zEp (zEs (α:=Nat) (fun i=>⟨[(2, .ref 0 0 9 0 0),(3, .ref 1 0 5 0 0),(5,zhR l),(6, .sl 2 (zh8 must l i).length 5 0 (zh8 must l i).length),(7, .v (.bool must)),(9, .int i)], [(0, .rows true 0 9 [zac g]),(1, .rows true 0 5 [zae p]),(2, .rows true (zh8 must l i).length 5 ((zh8 must l i).map zae))],3⟩)
     (fun d i=>i+d=l.length) ?_ l.length 0 ?_) ?_ ?_
    ·rintro d i i1 hrec2
     refine J0 ?_
     refine zEr (fun hi=> ?_) (fun hi=> ?_)<;>simp at hi
     ·have hks:=zvY must l hi
      have hkl:=zqL must l i
      cases must
      ·simp only [Bool.not_false,Bool.true_or,if_true] at hks
       refine J1 hi ?_
       refine zEp (hrec2 (d - 1) aa (i+1) aa) ?_ ad
       simp [go_sem,zad,hks]
      ·cases ht:(nth l i).took
       ·simp [ht] at hks
        refine J2 hi ht ?_
        refine zEp (hrec2 (d - 1) aa (i+1) aa) ?_ ad
        simp [go_sem,zad,hks]
       ·simp [ht] at hks
        refine J2 hi ht ?_
        refine zEp (hrec2 (d - 1) aa (i+1) aa) ?_ ad
        simp [go_sem,zad,hks]
     ·have hil:i=l.length:=by omega
      subst hil
      have hkl:=zqL must l l.length
      rw [hmv]
      generalize zh8 must l l.length=kk at *
      cases must
      ·simp only [Bool.false_eq_true,if_false] at hml
       refine J0 ?_
       refine aP hD ?_
       refine J0 ?_
       subst hml
       refine zEv [2] hS ?_ (zsr (zbk _)) ?_
       ·(first|done|exact agX)
       ·exact K0
      ·simp only [if_true,List.append_nil] at hml
       subst hml
       refine J0 ?_
       refine zEv [2] hS ?_ (zsr (zbk _)) ?_
       ·(first|done|exact agX)
       ·exact K0
    ·omega
    ·simp [go_sem,zad,zvZ]
    ·simp
  ·omega
  ·simp [go_sem,zad,zwc]
  ·simp
theorem zrY (x:zj4) (hx:zu9 x) (hl:x.c.length≤1099511627776) (hl0:x.k0.length≤1099511627776) (hl1:x.k1.length≤1099511627776):zaD Tryz.prog 46 [.agg (zdk x)] (.agg (zac (zig x))):=by
 refine pF Tryz.func46 ?_
 obtain ⟨eg,heg⟩:∃eg,eg=zac (zig x):=⟨_,rfl⟩
 rw [← heg]
 have hB:=zrX x.w x.h x.cut hx.w hx.h hx.cut
 have hok:=zjz hx.w.1 hx.h.1 x.cut
 have hb:zfQ x.w x.h x.cut=x.board:=rfl
 rw [hb] at hB hok
 have r0:=Int.tmod_nonneg 3 hx.f0.1
 have r1:=Int.tmod_lt_of_pos x.f0 (show (0:Int)<3 by decide)
 have f0:0≤x.f0∧x.f0≤255:=hx.f0
 have f1:0≤x.f1∧x.f1≤255:=hx.f1
 have f2:0≤x.f2∧x.f2≤255:=hx.f2
 have f3:0≤x.f3∧x.f3≤255:=hx.f3
 have f4:0≤x.f4∧x.f4≤255:=hx.f4
 have m1:=Int.tmod_nonneg 4 hx.f1.1
 have m3:=Int.tmod_nonneg 4 hx.f3.1
 have m4:=Int.tmod_nonneg 4 hx.f4.1
 have qq:∀n:Int,U8 n→(0≤n.tdiv 4∧n.tdiv 4≤63)∧0≤(n.tdiv 4).tmod 3∧(n.tdiv 4).tmod 3<3:=fun n hn=>by
  have h:n.tdiv 4=n / 4:=Int.tdiv_eq_ediv_of_nonneg hn.1
  have h1:=hn.1
  have h2:=hn.2
  have h3:=Int.tmod_nonneg 3 (show 0≤n.tdiv 4 by omega)
  have h4:=Int.tmod_lt_of_pos (n.tdiv 4) (show (0:Int)<3 by decide)
  omega
 obtain ⟨q3,q3'⟩:=qq _ hx.f3
 obtain ⟨q4,q4'⟩:=qq _ hx.f4
 obtain ⟨bl,hbl⟩:∃bl,bl=if x.f3.tmod 4=3 then 1+(x.f3.tdiv 4).tmod 3 else 3:=⟨_,rfl⟩
 obtain ⟨en,hen⟩:∃en,en=if x.f4.tmod 4=3 then 1+(x.f4.tdiv 4).tmod 3 else 2:=⟨_,rfl⟩
 obtain ⟨R,hR⟩:∃R,R=x.rights:=⟨_,rfl⟩
 have hR':x.f0.tmod 3=R:=de
 obtain ⟨b,hbb⟩:∃b,b=x.board:=⟨_,rfl⟩
 rw [← hbb] at hB hok
 refine J0 ?_
 refine dP hB ?_
 refine J1 hR' ?_
 have hd8:b.next.length=8:=by rw [hbb];exact znT _ _ _
 have hcell:1≤b.cells∧b.cells≤9:=by rw [hbb];exact zlN hx.w.1 hx.h.1 _
 obtain ⟨K,hK⟩:∃K:Nat,K=zdb x:=⟨_,rfl⟩
 have hKn:zdb x=if x.k1.length=0 then 1 else 2:=by unfold zdb;simp only [List.length_eq_zero_iff]
 have hKl:∀i,(x.ks i).length≤1099511627776:=fun i=>by unfold zj4.ks;split<;>assumption
 have hKv:∀i,∀n ∈ x.ks i,U8 n:=fun i=>by unfold zj4.ks;split;exact hx.k0;exact hx.k1
 refine zEr (fun hk1=> ?_) (fun hk1=> ?_)<;>simp at hk1
 ·have hK2:zdb x=2:=by rw [hKn,if_neg aa]
  rw [hK2] at hK
  refine J0 ?_
  refine zEp (zEs (α:=Nat) (fun a=>⟨[(1, .ref 0 0 12 0 0),(2, .ref 1 0 9 0 0),(3, .ref 20 0 9 0 0),(4, .int K),(5, .int a)],
   [(0, .rows true 0 12 [zdk x]),(1, .rows true 0 9 [[.int 0,AV.nils,AV.nils,AV.nils, .int 0, .v (.bool false),AV.nils, .int 0, .int 0]]),(20, .rows true 0 9 [[.int b.cells,zbe b.next,zai b.turn, .sl 22 a 3 0 a, .int R, .v (.bool (decide (x.f1.tmod 4=3))),AV.nils, .int 3, .int 2]]),(22, .rows true a 3 (ksR x a))],23⟩)
   (fun d a=>a+d=K) ?_ K 0 ?_) ?_ ?_
  ·rintro d0 i i1 hrec
   refine J0 ?_
   refine zEr (fun hi=> ?_) (fun hi=> ?_)<;>simp at hi
   ·have hi2:i=0∨i=1:=by omega
    have hkl:=hKl i
    have hkv:=hKv i
    have hks:zfK x i=⟨if i=0 then zlU else zmZ,((x.ks i).take 4).map (fun n=>zmX n b.next.length K x.rights),zxO x.f2 i⟩:=by rw [hbb,hK,← hK2];rfl
    rcases hi2 with rfl|rfl
    ·obtain ⟨kk,hkk⟩:∃kk,kk=x.ks 0:=⟨_,rfl⟩
     have hk0:x.k0=kk:=hkk.symm
     rw [← hkk] at hkl hkv hks
     have hbit:zxO x.f2 0=decide (ziI .u8 x.f2 1=1):=by simp [zxO]
     obtain ⟨f,hf⟩:∃f,f=(fun n=>zmX n b.next.length K x.rights):=⟨_,rfl⟩
     have hfp:∀n,U8 n→zaD Tryz.prog 90 [.v (.int .u8 n), .int b.next.length, .int K, .int R] (zaW (f n)):=fun n hn=>by
      rw [hf,← hR];exact zfk n _ _ _ hn aa aa aa
     rw [← hf,hbit] at hks
     refine J1 hk0 ?_
     refine zEp (zEs (α:=Nat) (fun n=>⟨[(1, .ref 0 0 12 0 0),(2, .ref 1 0 9 0 0),(3, .ref 20 0 9 0 0),(4, .int K),(5, .int 0),(6, .ref 35 0 3 0 0),(7, .int n)],
      [(0, .rows true 0 12 [zdk x]),(1, .rows true 0 9 [[.int 0,AV.nils,AV.nils,AV.nils, .int 0, .v (.bool false),AV.nils, .int 0, .int 0]]),(20, .rows true 0 9 [[.int b.cells,zbe b.next,zai b.turn, .sl 22 0 3 0 0, .int R, .v (.bool (decide (x.f1.tmod 4=3))),AV.nils, .int 3, .int 2]]),(22, .rows true 0 3 (ksR x 0)),(35, .rows true 0 3 [[.v (.string ⟨#[97]⟩), .sl 37 n 1 0 n, .v (.bool (decide (ziI .u8 x.f2 1=1)))]]),(37, .rows true n 1 (psR f kk n))],38⟩)
      (fun d n=>n+d=min kk.length 4) ?_ (min kk.length 4) 0 ?_) ?_ ?_
     ·rintro d n n1 hrec1
      refine J1 hk0 ?_
      refine zEr (fun hn=> ?_) (fun hn=> ?_)<;>simp at hn
      ·have hn1:n<kk.length:=by omega
       have hn2:=hkv _ (zag hn1)
       have hpl:=zgm f kk (n:=n) aa
       refine J2 hk0 hn1 ?_
       refine dP (hfp _ hn2) ?_
       refine J3 hk0 hn1 hpl ?_
       refine zEp (hrec1 (d - 1) aa (n+1) aa) ?_ ad
       simp [go_sem,zad,hk0,zkA f kk hn1]
      ·have hne:n=min kk.length 4:=by omega
       refine J0 ?_
       refine zEp (hrec (d0 - 1) aa (0+1) aa) ?_ ad
       have hkx:zz8 (zfK x 0)= [.v (.string ⟨#[97]⟩), .lst 1 (psR f kk n), .v (.bool (decide (ziI .u8 x.f2 1=1)))]:=aD
       have hpl:=zgm f kk (n:=n) aa
       simp [go_sem,zad,hk0,zku x 0,hkx]
       (try refine za7 (.refl _) (.cons (.cons (.refl _) (.cons ?_ (.cons (.refl _) .nil))) .nil))
       refine LeV.frz rfl ?_ ?_ (zaN.of_eq ?_)<;>simp [mkH,upd,hpl,List.take_of_length_le]
     ·omega
     ·simp [go_sem,zad,hk0]
     ·simp
    ·obtain ⟨kk,hkk⟩:∃kk,kk=x.ks 1:=⟨_,rfl⟩
     have hk0:x.k1=kk:=hkk.symm
     rw [← hkk] at hkl hkv hks
     have hbit:zxO x.f2 1=decide (ziI .u8 (x.f2.fdiv 2) 1=1):=by simp [zxO]
     obtain ⟨f,hf⟩:∃f,f=(fun n=>zmX n b.next.length K x.rights):=⟨_,rfl⟩
     have hfp:∀n,U8 n→zaD Tryz.prog 90 [.v (.int .u8 n), .int b.next.length, .int K, .int R] (zaW (f n)):=fun n hn=>by
      rw [hf,← hR];exact zfk n _ _ _ hn aa aa aa
     rw [← hf,hbit] at hks
     refine J1 hk0 ?_
     refine zEp (zEs (α:=Nat) (fun n=>⟨[(1, .ref 0 0 12 0 0),(2, .ref 1 0 9 0 0),(3, .ref 20 0 9 0 0),(4, .int K),(5, .int 1),(6, .ref 35 0 3 0 0),(7, .int n)],
      [(0, .rows true 0 12 [zdk x]),(1, .rows true 0 9 [[.int 0,AV.nils,AV.nils,AV.nils, .int 0, .v (.bool false),AV.nils, .int 0, .int 0]]),(20, .rows true 0 9 [[.int b.cells,zbe b.next,zai b.turn, .sl 22 1 3 0 1, .int R, .v (.bool (decide (x.f1.tmod 4=3))),AV.nils, .int 3, .int 2]]),(22, .rows true 1 3 (ksR x 1)),(35, .rows true 0 3 [[.v (.string ⟨#[98,101,101]⟩), .sl 37 n 1 0 n, .v (.bool (decide (ziI .u8 (x.f2.fdiv 2) 1=1)))]]),(37, .rows true n 1 (psR f kk n))],38⟩)
      (fun d n=>n+d=min kk.length 4) ?_ (min kk.length 4) 0 ?_) ?_ ?_
     ·rintro d n n1 hrec1
      refine J1 hk0 ?_
      refine zEr (fun hn=> ?_) (fun hn=> ?_)<;>simp at hn
      ·have hn1:n<kk.length:=by omega
       have hn2:=hkv _ (zag hn1)
       have hpl:=zgm f kk (n:=n) aa
       refine J2 hk0 hn1 ?_
       refine dP (hfp _ hn2) ?_
       refine J3 hk0 hn1 hpl ?_
       refine zEp (hrec1 (d - 1) aa (n+1) aa) ?_ ad
       simp [go_sem,zad,hk0,zkA f kk hn1]
      ·have hne:n=min kk.length 4:=by omega
       refine J0 ?_
       refine zEp (hrec (d0 - 1) aa (1+1) aa) ?_ ad
       have hkx:zz8 (zfK x 1)= [.v (.string ⟨#[98,101,101]⟩), .lst 1 (psR f kk n), .v (.bool (decide (ziI .u8 (x.f2.fdiv 2) 1=1)))]:=aD
       have hpl:=zgm f kk (n:=n) aa
       simp [go_sem,zad,hk0,zku x 1,hkx]
       (try refine za7 (.refl _) (.cons (.cons (.refl _) (.cons ?_ (.cons (.refl _) .nil))) .nil))
       refine LeV.frz rfl ?_ ?_ (zaN.of_eq ?_)<;>simp [mkH,upd,hpl,List.take_of_length_le]
     ·omega
     ·simp [go_sem,zad,hk0]
     ·simp
   ·have hiK:i=K:=by omega
    subst hiK
    refine J0 ?_
    refine zEr (fun hb3=> ?_) (fun hb3=> ?_)<;>simp at hb3<;>(repeat (first|refine wV fun _=>?_|simp [go_sem]))
    all_goals refine zEr (fun hb4=> ?_) (fun hb4=> ?_)<;>simp at hb4<;>(repeat (first|refine wV fun _=>?_|simp [go_sem]))
    all_goals (
     refine zEp (zEs (α:=Nat) (fun a=>⟨[(1, .ref 0 0 12 0 0),(2, .ref 1 0 9 0 0),(3, .ref 20 0 9 0 0),(4, .int i),(8, .int a)],
      [(0, .rows true 0 12 [zdk x]),(1, .rows true 0 9 [[.int 0,AV.nils,AV.nils,AV.nils, .int 0, .v (.bool false),AV.nils, .int 0, .int 0]]),(20, .rows true 0 9 [[.int b.cells,zbe b.next,zai b.turn, .sl 22 i 3 0 i, .int R, .v (.bool (decide (x.f1.tmod 4=3))), .sl 23 a 4 0 a, .int bl, .int en]]),(22, .rows true i 3 (ksR x i)),(23, .rows true a 4 (clR b.cells i x.c a))],24⟩)
      (fun d a=>a+d=min x.c.length 3) ?_ (min x.c.length 3) 0 ?_) ?_ ?_
     ·rintro d j j1 hrec2
      refine J0 ?_
      refine zEr (fun hj=> ?_) (fun hj=> ?_)<;>simp at hj
      ·have hj1:j<x.c.length:=by omega
       have hjc:=hx.c _ (zag hj1)
       have hpl:=zoC b.cells i x.c (n:=j) aa
       have hsu:=zt1 b.cells i x.c hj1
       generalize hcx:nth x.c j=c at *
       obtain ⟨c0,c1,c2⟩:=c
       obtain ⟨u0,u1,u2⟩:=hjc
       obtain ⟨w0,w0'⟩:=qq _ u0
       obtain ⟨v0,v0'⟩:=u0
       obtain ⟨v1,v1'⟩:=u1
       obtain ⟨v2,v2'⟩:=u2
       simp only at v0 v0' v1 v1' v2 v2' w0 w0'
       have t0:=Int.tmod_nonneg 3 v0
       have t1:=Int.tmod_lt_of_pos c0 (show (0:Int)<3 by decide)
       have hip:(0:Int)<i:=aa
       have k0:=Int.tmod_nonneg i v1
       have n0:=Int.tmod_nonneg b.cells v2
       have n1:=Int.tmod_nonneg 3 v2
       rcases (show c0.tmod 3=0∨c0.tmod 3=1∨c0.tmod 3=2 by omega) with ht|ht|ht
       ·have hr:zvr (zbm b.cells i (c0,c1,c2))= [.int 1, .int (c1.tmod i), .int 0, .int (1+(c0.tdiv 4).tmod 3)]:=by simp [zvr,zbm,za0,ht]
        refine J4 hj1 hcx ht hpl ?_
        refine zEp (hrec2 (d - 1) aa (j+1) aa) ?_ ad
        simp [go_sem,zad,hsu,hr]
       ·have hr:zvr (zbm b.cells i (c0,c1,c2))= [.int 2, .int (c1.tmod i), .int (c2.tmod b.cells), .int (1+(c0.tdiv 4).tmod 3)]:=by simp [zvr,zbm,za0,ht]
        refine J4 hj1 hcx ht hpl ?_
        refine zEp (hrec2 (d - 1) aa (j+1) aa) ?_ ad
        simp [go_sem,zad,hsu,hr]
       ·have hr:zvr (zbm b.cells i (c0,c1,c2))= [.int 3, .int 0, .int (c2.tmod 3), .int (1+(c0.tdiv 4).tmod 3)]:=by simp [zvr,zbm,za0,ht]
        refine J4 hj1 hcx ht hpl ?_
        refine zEp (hrec2 (d - 1) aa (j+1) aa) ?_ ad
        simp [go_sem,zad,hsu,hr]
      ·have hki:zdb x=i:=by rw [hK2,hK]
       have hjm:j=min x.c.length 3:=aa
       have htk:x.c.take (min x.c.length 3)=x.c.take 3:=by rw [List.take_eq_take_iff];omega
       have hpl:=zoC b.cells i x.c (n:=j) aa
       have hkl:(ksR x i).length=i:=zyO x i
       have hcl:clR b.cells i x.c j=((x.c.take 3).map (zbm b.cells i)).map za0:=by unfold clR;rw [hjm,htk]
       have hG:zig x={ cells:=b.cells,next:=b.next,turn:=b.turn,kinds:=(List.range i).map (zfK x),rights:=R,must:=decide (x.f1.tmod 4=3),clauses:=(x.c.take 3).map (zbm b.cells i),blocked:=bl,endless:=en}:=by
        unfold zig;rw [hki,← hbb,← hR,← hbl,← hen]
       have hEnc:eg= [.int b.cells,zbe b.next,zai b.turn, .lst 3 (ksR x i), .int R, .v (.bool (decide (x.f1.tmod 4=3))), .lst 4 (clR b.cells i x.c j), .int bl, .int en]:=by
        rw [heg,hG,hcl];rfl
       refine J0 ?_
       rw [hEnc]
       refine ⟨.cons (.refl _) (.cons (.refl _) (.cons (.refl _) (.cons (zak rfl aa aV dF) (.cons (.refl _) (.cons (.refl _) (.cons (zak rfl aa aV dF) (.cons (.refl _) (.cons (.refl _) .nil)))))))), ?_⟩
       intro c hc
       simp only [List.mem_cons,List.not_mem_nil,or_false] at hc
       rcases hc with rfl|rfl|rfl|rfl|rfl|rfl|rfl|rfl|rfl
       all_goals first|exact .v _|simp [go_sem]
     ·omega
     ·simp [go_sem,zad,hbl,hen,hb3,hb4]
     ·simp)
  ·omega
  ·simp [go_sem,zad,hK]
  ·simp
 ·have hK2:zdb x=1:=by rw [hKn,if_pos (by simp [hk1])]
  rw [hK2] at hK
  refine J0 ?_
  refine zEp (zEs (α:=Nat) (fun a=>⟨[(1, .ref 0 0 12 0 0),(2, .ref 1 0 9 0 0),(3, .ref 20 0 9 0 0),(4, .int K),(5, .int a)],
   [(0, .rows true 0 12 [zdk x]),(1, .rows true 0 9 [[.int 0,AV.nils,AV.nils,AV.nils, .int 0, .v (.bool false),AV.nils, .int 0, .int 0]]),(20, .rows true 0 9 [[.int b.cells,zbe b.next,zai b.turn, .sl 22 a 3 0 a, .int R, .v (.bool (decide (x.f1.tmod 4=3))),AV.nils, .int 3, .int 2]]),(22, .rows true a 3 (ksR x a))],23⟩)
   (fun d a=>a+d=K) ?_ K 0 ?_) ?_ ?_
  ·rintro d0 i i1 hrec
   refine J0 ?_
   refine zEr (fun hi=> ?_) (fun hi=> ?_)<;>simp at hi
   ·have hi2:i=0∨i=1:=by omega
    have hkl:=hKl i
    have hkv:=hKv i
    have hks:zfK x i=⟨if i=0 then zlU else zmZ,((x.ks i).take 4).map (fun n=>zmX n b.next.length K x.rights),zxO x.f2 i⟩:=by rw [hbb,hK,← hK2];rfl
    rcases hi2 with rfl|rfl
    ·obtain ⟨kk,hkk⟩:∃kk,kk=x.ks 0:=⟨_,rfl⟩
     have hk0:x.k0=kk:=hkk.symm
     rw [← hkk] at hkl hkv hks
     have hbit:zxO x.f2 0=decide (ziI .u8 x.f2 1=1):=by simp [zxO]
     obtain ⟨f,hf⟩:∃f,f=(fun n=>zmX n b.next.length K x.rights):=⟨_,rfl⟩
     have hfp:∀n,U8 n→zaD Tryz.prog 90 [.v (.int .u8 n), .int b.next.length, .int K, .int R] (zaW (f n)):=fun n hn=>by
      rw [hf,← hR];exact zfk n _ _ _ hn aa aa aa
     rw [← hf,hbit] at hks
     refine J1 hk0 ?_
     refine zEp (zEs (α:=Nat) (fun n=>⟨[(1, .ref 0 0 12 0 0),(2, .ref 1 0 9 0 0),(3, .ref 20 0 9 0 0),(4, .int K),(5, .int 0),(6, .ref 35 0 3 0 0),(7, .int n)],
      [(0, .rows true 0 12 [zdk x]),(1, .rows true 0 9 [[.int 0,AV.nils,AV.nils,AV.nils, .int 0, .v (.bool false),AV.nils, .int 0, .int 0]]),(20, .rows true 0 9 [[.int b.cells,zbe b.next,zai b.turn, .sl 22 0 3 0 0, .int R, .v (.bool (decide (x.f1.tmod 4=3))),AV.nils, .int 3, .int 2]]),(22, .rows true 0 3 (ksR x 0)),(35, .rows true 0 3 [[.v (.string ⟨#[97]⟩), .sl 37 n 1 0 n, .v (.bool (decide (ziI .u8 x.f2 1=1)))]]),(37, .rows true n 1 (psR f kk n))],38⟩)
      (fun d n=>n+d=min kk.length 4) ?_ (min kk.length 4) 0 ?_) ?_ ?_
     ·rintro d n n1 hrec1
      refine J1 hk0 ?_
      refine zEr (fun hn=> ?_) (fun hn=> ?_)<;>simp at hn
      ·have hn1:n<kk.length:=by omega
       have hn2:=hkv _ (zag hn1)
       have hpl:=zgm f kk (n:=n) aa
       refine J2 hk0 hn1 ?_
       refine dP (hfp _ hn2) ?_
       refine J3 hk0 hn1 hpl ?_
       refine zEp (hrec1 (d - 1) aa (n+1) aa) ?_ ad
       simp [go_sem,zad,hk0,zkA f kk hn1]
      ·have hne:n=min kk.length 4:=by omega
       refine J0 ?_
       refine zEp (hrec (d0 - 1) aa (0+1) aa) ?_ ad
       have hkx:zz8 (zfK x 0)= [.v (.string ⟨#[97]⟩), .lst 1 (psR f kk n), .v (.bool (decide (ziI .u8 x.f2 1=1)))]:=aD
       have hpl:=zgm f kk (n:=n) aa
       simp [go_sem,zad,hk0,zku x 0,hkx]
       (try refine za7 (.refl _) (.cons (.cons (.refl _) (.cons ?_ (.cons (.refl _) .nil))) .nil))
       refine LeV.frz rfl ?_ ?_ (zaN.of_eq ?_)<;>simp [mkH,upd,hpl,List.take_of_length_le]
     ·omega
     ·simp [go_sem,zad,hk0]
     ·simp
    ·obtain ⟨kk,hkk⟩:∃kk,kk=x.ks 1:=⟨_,rfl⟩
     have hk0:x.k1=kk:=hkk.symm
     rw [← hkk] at hkl hkv hks
     have hbit:zxO x.f2 1=decide (ziI .u8 (x.f2.fdiv 2) 1=1):=by simp [zxO]
     obtain ⟨f,hf⟩:∃f,f=(fun n=>zmX n b.next.length K x.rights):=⟨_,rfl⟩
     have hfp:∀n,U8 n→zaD Tryz.prog 90 [.v (.int .u8 n), .int b.next.length, .int K, .int R] (zaW (f n)):=fun n hn=>by
      rw [hf,← hR];exact zfk n _ _ _ hn aa aa aa
     rw [← hf,hbit] at hks
     refine J1 hk0 ?_
     refine zEp (zEs (α:=Nat) (fun n=>⟨[(1, .ref 0 0 12 0 0),(2, .ref 1 0 9 0 0),(3, .ref 20 0 9 0 0),(4, .int K),(5, .int 1),(6, .ref 35 0 3 0 0),(7, .int n)],
      [(0, .rows true 0 12 [zdk x]),(1, .rows true 0 9 [[.int 0,AV.nils,AV.nils,AV.nils, .int 0, .v (.bool false),AV.nils, .int 0, .int 0]]),(20, .rows true 0 9 [[.int b.cells,zbe b.next,zai b.turn, .sl 22 1 3 0 1, .int R, .v (.bool (decide (x.f1.tmod 4=3))),AV.nils, .int 3, .int 2]]),(22, .rows true 1 3 (ksR x 1)),(35, .rows true 0 3 [[.v (.string ⟨#[98,101,101]⟩), .sl 37 n 1 0 n, .v (.bool (decide (ziI .u8 (x.f2.fdiv 2) 1=1)))]]),(37, .rows true n 1 (psR f kk n))],38⟩)
      (fun d n=>n+d=min kk.length 4) ?_ (min kk.length 4) 0 ?_) ?_ ?_
     ·rintro d n n1 hrec1
      refine J1 hk0 ?_
      refine zEr (fun hn=> ?_) (fun hn=> ?_)<;>simp at hn
      ·have hn1:n<kk.length:=by omega
       have hn2:=hkv _ (zag hn1)
       have hpl:=zgm f kk (n:=n) aa
       refine J2 hk0 hn1 ?_
       refine dP (hfp _ hn2) ?_
       refine J3 hk0 hn1 hpl ?_
       refine zEp (hrec1 (d - 1) aa (n+1) aa) ?_ ad
       simp [go_sem,zad,hk0,zkA f kk hn1]
      ·have hne:n=min kk.length 4:=by omega
       refine J0 ?_
       refine zEp (hrec (d0 - 1) aa (1+1) aa) ?_ ad
       have hkx:zz8 (zfK x 1)= [.v (.string ⟨#[98,101,101]⟩), .lst 1 (psR f kk n), .v (.bool (decide (ziI .u8 (x.f2.fdiv 2) 1=1)))]:=aD
       have hpl:=zgm f kk (n:=n) aa
       simp [go_sem,zad,hk0,zku x 1,hkx]
       (try refine za7 (.refl _) (.cons (.cons (.refl _) (.cons ?_ (.cons (.refl _) .nil))) .nil))
       refine LeV.frz rfl ?_ ?_ (zaN.of_eq ?_)<;>simp [mkH,upd,hpl,List.take_of_length_le]
     ·omega
     ·simp [go_sem,zad,hk0]
     ·simp
   ·have hiK:i=K:=by omega
    subst hiK
    refine J0 ?_
    refine zEr (fun hb3=> ?_) (fun hb3=> ?_)<;>simp at hb3<;>(repeat (first|refine wV fun _=>?_|simp [go_sem]))
    all_goals refine zEr (fun hb4=> ?_) (fun hb4=> ?_)<;>simp at hb4<;>(repeat (first|refine wV fun _=>?_|simp [go_sem]))
    all_goals (
     refine zEp (zEs (α:=Nat) (fun a=>⟨[(1, .ref 0 0 12 0 0),(2, .ref 1 0 9 0 0),(3, .ref 20 0 9 0 0),(4, .int i),(8, .int a)],
      [(0, .rows true 0 12 [zdk x]),(1, .rows true 0 9 [[.int 0,AV.nils,AV.nils,AV.nils, .int 0, .v (.bool false),AV.nils, .int 0, .int 0]]),(20, .rows true 0 9 [[.int b.cells,zbe b.next,zai b.turn, .sl 22 i 3 0 i, .int R, .v (.bool (decide (x.f1.tmod 4=3))), .sl 23 a 4 0 a, .int bl, .int en]]),(22, .rows true i 3 (ksR x i)),(23, .rows true a 4 (clR b.cells i x.c a))],24⟩)
      (fun d a=>a+d=min x.c.length 3) ?_ (min x.c.length 3) 0 ?_) ?_ ?_
     ·rintro d j j1 hrec2
      refine J0 ?_
      refine zEr (fun hj=> ?_) (fun hj=> ?_)<;>simp at hj
      ·have hj1:j<x.c.length:=by omega
       have hjc:=hx.c _ (zag hj1)
       have hpl:=zoC b.cells i x.c (n:=j) aa
       have hsu:=zt1 b.cells i x.c hj1
       generalize hcx:nth x.c j=c at *
       obtain ⟨c0,c1,c2⟩:=c
       obtain ⟨u0,u1,u2⟩:=hjc
       obtain ⟨w0,w0'⟩:=qq _ u0
       obtain ⟨v0,v0'⟩:=u0
       obtain ⟨v1,v1'⟩:=u1
       obtain ⟨v2,v2'⟩:=u2
       simp only at v0 v0' v1 v1' v2 v2' w0 w0'
       have t0:=Int.tmod_nonneg 3 v0
       have t1:=Int.tmod_lt_of_pos c0 (show (0:Int)<3 by decide)
       have hip:(0:Int)<i:=aa
       have k0:=Int.tmod_nonneg i v1
       have n0:=Int.tmod_nonneg b.cells v2
       have n1:=Int.tmod_nonneg 3 v2
       rcases (show c0.tmod 3=0∨c0.tmod 3=1∨c0.tmod 3=2 by omega) with ht|ht|ht
       ·have hr:zvr (zbm b.cells i (c0,c1,c2))= [.int 1, .int (c1.tmod i), .int 0, .int (1+(c0.tdiv 4).tmod 3)]:=by simp [zvr,zbm,za0,ht]
        refine J4 hj1 hcx ht hpl ?_
        refine zEp (hrec2 (d - 1) aa (j+1) aa) ?_ ad
        simp [go_sem,zad,hsu,hr]
       ·have hr:zvr (zbm b.cells i (c0,c1,c2))= [.int 2, .int (c1.tmod i), .int (c2.tmod b.cells), .int (1+(c0.tdiv 4).tmod 3)]:=by simp [zvr,zbm,za0,ht]
        refine J4 hj1 hcx ht hpl ?_
        refine zEp (hrec2 (d - 1) aa (j+1) aa) ?_ ad
        simp [go_sem,zad,hsu,hr]
       ·have hr:zvr (zbm b.cells i (c0,c1,c2))= [.int 3, .int 0, .int (c2.tmod 3), .int (1+(c0.tdiv 4).tmod 3)]:=by simp [zvr,zbm,za0,ht]
        refine J4 hj1 hcx ht hpl ?_
        refine zEp (hrec2 (d - 1) aa (j+1) aa) ?_ ad
        simp [go_sem,zad,hsu,hr]
      ·have hki:zdb x=i:=by rw [hK2,hK]
       have hjm:j=min x.c.length 3:=aa
       have htk:x.c.take (min x.c.length 3)=x.c.take 3:=by rw [List.take_eq_take_iff];omega
       have hpl:=zoC b.cells i x.c (n:=j) aa
       have hkl:(ksR x i).length=i:=zyO x i
       have hcl:clR b.cells i x.c j=((x.c.take 3).map (zbm b.cells i)).map za0:=by unfold clR;rw [hjm,htk]
       have hG:zig x={ cells:=b.cells,next:=b.next,turn:=b.turn,kinds:=(List.range i).map (zfK x),rights:=R,must:=decide (x.f1.tmod 4=3),clauses:=(x.c.take 3).map (zbm b.cells i),blocked:=bl,endless:=en}:=by
        unfold zig;rw [hki,← hbb,← hR,← hbl,← hen]
       have hEnc:eg= [.int b.cells,zbe b.next,zai b.turn, .lst 3 (ksR x i), .int R, .v (.bool (decide (x.f1.tmod 4=3))), .lst 4 (clR b.cells i x.c j), .int bl, .int en]:=by
        rw [heg,hG,hcl];rfl
       refine J0 ?_
       rw [hEnc]
       refine ⟨.cons (.refl _) (.cons (.refl _) (.cons (.refl _) (.cons (zak rfl aa aV dF) (.cons (.refl _) (.cons (.refl _) (.cons (zak rfl aa aV dF) (.cons (.refl _) (.cons (.refl _) .nil)))))))), ?_⟩
       intro c hc
       simp only [List.mem_cons,List.not_mem_nil,or_false] at hc
       rcases hc with rfl|rfl|rfl|rfl|rfl|rfl|rfl|rfl|rfl
       all_goals first|exact .v _|simp [go_sem]
     ·omega
     ·simp [go_sem,zad,hbl,hen,hb3,hb4]
     ·simp)
  ·omega
  ·simp [go_sem,zad,hK]
  ·simp
theorem zkJ (g:zab) (hg:GOk g) (x:zmE) (hx:zjx x):zaD Tryz.prog 10 [.agg (zac g), .agg (zcV x)] (.agg (zae (zei g x))):=by
 refine pF Tryz.func10 ?_
 obtain ⟨q,hq⟩:∃q,q=zei g x:=⟨_,rfl⟩
 have hrow:=zri hx
 obtain ⟨er,her⟩:∃er,er=zcV x:=⟨_,rfl⟩
 rw [← hq,← her]
 rw [← her] at hrow
 obtain ⟨rl,rc,rk,rh,rr,rs,rb⟩:=hrow
 have c1:=hg.c1
 have c9:=hg.c9
 have k1:=hg.k1
 have k6:=hg.k6
 have hr0:=hg.r0
 have hr4:=hg.r4
 obtain ⟨gc,hgc⟩:∃gc:Nat,g.cells=gc:=⟨g.cells.toNat,aa⟩
 have hpow:(1:Int)≤2 ^ g.rights.toNat∧(2:Int) ^ g.rights.toNat≤16:=by
  rcases (show g.rights.toNat=0∨g.rights.toNat=1∨g.rights.toNat=2∨g.rights.toNat=3∨g.rights.toNat=4 by omega) with h|h|h|h|h<;>rw [h]<;>decide
 have hrt:=hx.r
 have hsd:=hx.s
 obtain ⟨rt,hrt'⟩:∃rt,x.rights=rt:=⟨_,rfl⟩
 obtain ⟨pw,hpw⟩:∃pw:Int,(2:Int) ^ g.rights.toNat=pw:=⟨_,rfl⟩
 have r1:0≤x.rights∧x.rights≤255:=hx.r
 have s1:0≤x.side∧x.side≤255:=hx.s
 have s0:=Int.tmod_nonneg 2 s1.1
 have s2:=Int.tmod_lt_of_pos x.side (show (0:Int)<2 by decide)
 rw [hpw] at hpow
 generalize heg:zac g=eg at *
 have hel:eg.length=9:=cY
 have hbl:∀n,(∀c' ∈ eg,Bel n c')=True:=fun n=>by rw [← heg];simp [go_sem]
 have e0:cel eg 0= .int g.cells:=cY
 have e3:cel eg 3= .lst 3 (g.kinds.map zaV):=cY
 have e4:cel eg 4= .int g.rights:=cY
 refine J10 hel e0 e3 e4 rl rr rs rb hbl hpw ?_
 have hcz:g.cells.toNat=gc:=aa
 have hkne:g.kinds≠ []:=by intro h;rw [h] at k1;simp at k1
 have hz:List.replicate gc [AV.v (.int .i64 0)]=(zeh g x 0).map zaB:=by simp [zeh,hcz,zaB]
 refine zEp (zEs (α:=Nat) (fun i=>⟨[(2, .ref 0 0 9 0 0),(3, .ref 1 0 18 0 0),(4, .ref 2 0 5 0 0),(5, .ref 19 0 5 0 0),(6, .int i)], [(0, .rows true 0 9 [eg]),(1, .rows true 0 18 [er]),(2, .rows true 0 5 [[AV.nils,AV.nils,AV.nils, .int 0, .int 0]]),(6, .rows true 0 1 ((zeh g x i).map zaB)),(19, .rows true 0 5 [[.sl 6 0 1 0 gc,AV.nils,AV.nils, .int (x.rights.tmod pw), .int (x.side.tmod 2)]])],21⟩)
  (fun d i=>i+d=6) ?_ 6 0 ?_) ?_ ?_
 ·rintro d i i1 hrec
  refine J0 ?_
  refine zEr (fun hi=> ?_) (fun hi=> ?_)<;>simp at hi
  ·have hci:=hx.cv _ (zag (l:=x.cell) (i:=i) (by rw [hx.c6];omega))
   have hki:=hx.kv _ (zag (l:=x.kind) (i:=i) (by rw [hx.k6];omega))
   have hci':0≤nth x.cell i∧nth x.cell i≤255:=hci
   have hki':0≤nth x.kind i∧nth x.kind i≤255:=hki
   have m0:=Int.tmod_nonneg (g.cells+1) hci'.1
   have m1:=Int.tmod_nonneg (g.kinds.length:Int) hki'.1
   have m2:=Int.tmod_lt_of_pos (nth x.kind i) (show (0:Int)<g.kinds.length by omega)
   have m3:=Int.tmod_nonneg 2 (show (0:Int)≤i by omega)
   have m4:=Int.tmod_lt_of_pos (i:Int) (show (0:Int)<2 by decide)
   have hrc:=rc i aa
   have hrk:=rk i aa
   have hsu:=zhs g x i
   have hal:=zi5 g x i
   rw [hcz] at hal
   unfold znf at hsu
   refine J6 hel e0 e3 e4 hrc hrk ?_
   refine zEr (fun hc=> ?_) (fun hc=> ?_)<;>simp at hc
   ·have hc1:=hc.1
    rw [if_pos hc1] at hsu
    refine J7 hel e0 e3 e4 hrc hrk hal ?_
    refine zEp (hrec (d - 1) aa (i+1) aa) ?_ ad
    simp [go_sem,zad,hsu,rb,hbl]
   ·have hc1:¬(nth x.cell i).tmod (g.cells+1)<g.cells:=fun h=>hkne (hc h)
    rw [if_neg hc1] at hsu
    refine J6 hel e0 e3 e4 hrc hrk ?_
    refine zEp (hrec (d - 1) aa (i+1) aa) ?_ ad
    simp [go_sem,zad,hsu,rb,hbl]
  ·obtain rfl:i=6:=by omega
   have hal:=zi5 g x 6
   rw [hcz] at hal
   have hqe:q=⟨zeh g x 6,zeH g x 0 (min g.kinds.length 2),zeH g x 1 (min g.kinds.length 2),x.rights.tmod pw,x.side.tmod 2⟩:=by rw [hq,← hpw];rfl
   clear hq
   have hq:=hqe
   refine J4 hel e0 e3 e4 ?_
   refine zEq ?_
   refine J4 hel e0 e3 e4 ?_
   have hz0:=znA g x 0
   refine zEp (zEs (α:=Nat) (fun k=>⟨[(2, .ref 0 0 9 0 0),(3, .ref 1 0 18 0 0),(4, .ref 2 0 5 0 0),(5, .ref 19 0 5 0 0),(8, .int 0),(9, .int k)], [(0, .rows true 0 9 [eg]),(1, .rows true 0 18 [er]),(2, .rows true 0 5 [[AV.nils,AV.nils,AV.nils, .int 0, .int 0]]),(6, .rows true 0 1 ((zeh g x 6).map zaB)),(19, .rows true 0 5 [[.sl 6 0 1 0 gc, .sl 21 0 1 0 g.kinds.length,AV.nils, .int (x.rights.tmod pw), .int (x.side.tmod 2)]]),(21, .rows true 0 1 ((zeH g x 0 k).map zaB))],22⟩)
    (fun d k=>k+d=min g.kinds.length 2) ?_ (min g.kinds.length 2) 0 ?_) ?_ ?_
   ·rintro d k j1 hrec0
    refine J4 hel e0 e3 e4 ?_
    refine zEr (fun hj=> ?_) (fun hj=> ?_)<;>simp at hj
    ·have hk2:k<2:=by omega
     have hkk:k<g.kinds.length:=aa
     have hhv:=hx.hv _ (zag (l:=x.hand) (i:=2 * 0+k) (by rw [hx.h4];omega))
     have hh1:0≤nth x.hand (2 * 0+k)∧nth x.hand (2 * 0+k)≤255:=hhv
     have hrh:=rh (2 * 0+k) aa
     have m0:=Int.tmod_nonneg 3 hh1.1
     have hsu:=znz g x 0 k
     have hsk:=zny g x 0 k
     have hhl:=zdG g x 0 k
     have hV:zsR g x 0 k=if (nth g.kinds k).keep=true then (if 250<nth x.hand (2 * 0+k) then 8 else (nth x.hand (2 * 0+k)).tmod 3) else 0:=rfl
     simp only [Nat.mul_zero,Nat.zero_add,Nat.mul_one] at hrh hh1 m0 hV
     refine J5 hel e0 e3 e4 hkk ?_
     refine zEr (fun hkeep=> ?_) (fun hkeep=> ?_)
     ·rw [if_pos hkeep] at hV
      have eI:((k:Int)).toNat=k:=aa
      have eI2:(k:Int)<4:=aa
      refine J9 hel e0 e3 e4 hkk hrh hhl eI eI2 ?_
      refine zEr (fun hbig=> ?_) (fun hbig=> ?_)<;>simp at hbig
      ·rw [if_pos hbig] at hV
       rw [hV] at hsu
       refine J7 hel e0 e3 e4 hkk hrh hhl ?_
       refine zEp (hrec0 (d - 1) aa (k+1) aa) ?_ ad
       simp [go_sem,zad,hsu,rb,hbl]
      ·rw [if_neg aa] at hV
       rw [hV] at hsu
       refine J7 hel e0 e3 e4 hkk hrh hhl ?_
       refine zEp (hrec0 (d - 1) aa (k+1) aa) ?_ ad
       simp [go_sem,zad,hsu,rb,hbl]
     ·rw [if_neg (by simpa using hkeep)] at hV
      have hsk':=hsk hV
      refine J4 hel e0 e3 e4 ?_
      refine zEp (hrec0 (d - 1) aa (k+1) aa) ?_ ad
      simp [go_sem,zad,hsk',rb,hbl]
    ·have hkm:k=min g.kinds.length 2:=by omega
     subst hkm
     refine J4 hel e0 e3 e4 ?_
     refine zEq ?_
     refine J4 hel e0 e3 e4 ?_
     have hz1:=znA g x 1
     refine zEp (zEs (α:=Nat) (fun k=>⟨[(2, .ref 0 0 9 0 0),(3, .ref 1 0 18 0 0),(4, .ref 2 0 5 0 0),(5, .ref 19 0 5 0 0),(8, .int 1),(9, .int k)], [(0, .rows true 0 9 [eg]),(1, .rows true 0 18 [er]),(2, .rows true 0 5 [[AV.nils,AV.nils,AV.nils, .int 0, .int 0]]),(6, .rows true 0 1 ((zeh g x 6).map zaB)),(19, .rows true 0 5 [[.sl 6 0 1 0 gc, .sl 21 0 1 0 g.kinds.length, .sl 22 0 1 0 g.kinds.length, .int (x.rights.tmod pw), .int (x.side.tmod 2)]]),(21, .rows true 0 1 ((zeH g x 0 (min g.kinds.length 2)).map zaB)),(22, .rows true 0 1 ((zeH g x 1 k).map zaB))],23⟩)
      (fun d k=>k+d=min g.kinds.length 2) ?_ (min g.kinds.length 2) 0 ?_) ?_ ?_
     ·rintro d k j1 hrec1
      refine J4 hel e0 e3 e4 ?_
      refine zEr (fun hj=> ?_) (fun hj=> ?_)<;>simp at hj
      ·have hk2:k<2:=by omega
       have hkk:k<g.kinds.length:=aa
       have hhv:=hx.hv _ (zag (l:=x.hand) (i:=2 * 1+k) (by rw [hx.h4];omega))
       have hh1:0≤nth x.hand (2 * 1+k)∧nth x.hand (2 * 1+k)≤255:=hhv
       have hrh:=rh (2 * 1+k) aa
       have m0:=Int.tmod_nonneg 3 hh1.1
       have hsu:=znz g x 1 k
       have hsk:=zny g x 1 k
       have hhl:=zdG g x 1 k
       have hV:zsR g x 1 k=if (nth g.kinds k).keep=true then (if 250<nth x.hand (2 * 1+k) then 8 else (nth x.hand (2 * 1+k)).tmod 3) else 0:=rfl
       simp only [Nat.mul_zero,Nat.zero_add,Nat.mul_one] at hrh hh1 m0 hV
       refine J5 hel e0 e3 e4 hkk ?_
       refine zEr (fun hkeep=> ?_) (fun hkeep=> ?_)
       ·rw [if_pos hkeep] at hV
        have eI:(2+(k:Int)).toNat=2+k:=aa
        have eI2:2+(k:Int)<4:=aa
        refine J9 hel e0 e3 e4 hkk hrh hhl eI eI2 ?_
        refine zEr (fun hbig=> ?_) (fun hbig=> ?_)<;>simp at hbig
        ·rw [if_pos hbig] at hV
         rw [hV] at hsu
         refine J7 hel e0 e3 e4 hkk hrh hhl ?_
         refine zEp (hrec1 (d - 1) aa (k+1) aa) ?_ ad
         simp [go_sem,zad,hsu,rb,hbl]
        ·rw [if_neg aa] at hV
         rw [hV] at hsu
         refine J7 hel e0 e3 e4 hkk hrh hhl ?_
         refine zEp (hrec1 (d - 1) aa (k+1) aa) ?_ ad
         simp [go_sem,zad,hsu,rb,hbl]
       ·rw [if_neg (by simpa using hkeep)] at hV
        have hsk':=hsk hV
        refine J4 hel e0 e3 e4 ?_
        refine zEp (hrec1 (d - 1) aa (k+1) aa) ?_ ad
        simp [go_sem,zad,hsk',rb,hbl]
      ·have hkm:k=min g.kinds.length 2:=by omega
       subst hkm
       refine J4 hel e0 e3 e4 ?_
       refine J4 hel e0 e3 e4 ?_
       refine zEq ?_
       refine J4 hel e0 e3 e4 ?_
       rw [hq]
       exact ⟨zak rfl (by simp [hal]) aV (by simp [List.take_of_length_le,hal]),zak rfl (by simp [zdG]) aV (by simp [List.take_of_length_le,zdG]),zak rfl (by simp [zdG]) aV (by simp [List.take_of_length_le,zdG]), .refl _, .refl _⟩
     ·omega
     ·simp [go_sem,zad,rb,hbl,hz1]
     ·simp
   ·omega
   ·simp [go_sem,zad,rb,hbl,hz0]
   ·simp
 ·rfl
 ·simp [go_sem,zad,rb,hbl,hz,hcz]
 ·simp
theorem zr6 (g:zab) (hg:GOk g) (p:zaf) (hp:POk g p) (picks:List Int) (hl:picks.length≤4294967296) (hk:∀k ∈ picks,0≤k∧k≤9223372036854775807):
    zaD Tryz.prog 47 [.agg (zac g), .agg (zae p),zai picks] (zaC (zgv g p picks)):=by
  refine pF Tryz.func47 ?_
  generalize hR:zgv g p picks=R
  refine J0 ?_
  refine zEp (zEs (α:=Nat×List zaf×zaf) (fun a=>⟨[(2,zai picks),(3, .ref 0 0 9 0 0),(4, .ref 1 0 5 0 0),(7, .sl 2 a.2.1.length 5 0 (a.2.1.length+1)),(8, .int a.1)], [(0, .rows true 0 9 [zac g]),(1, .rows true 0 5 [zae a.2.2]),(2, .rows true a.2.1.length 5 ((a.2.1++ [a.2.2]).map zae))],3⟩)
    (fun d a=>a.1+d=picks.length∧a.2.1.length=a.1∧POk g a.2.2∧R=a.2.1++zgv g a.2.2 (picks.drop a.1)) ?_ picks.length (0, [],p) ?_) ?_ ?_
  · rintro d ⟨i,pre,cur⟩ ⟨i1,i2,i3,i4⟩ hrec
    simp only at i1 i2 i3 i4
    refine J0 ?_
    refine zEr (fun hi=> ?_) (fun hi=> ?_)<;>simp at hi
    · have hM:=zjv g hg cur i3
      have hki:=hk _ (zag hi)
      have hml:=znZ hg i3
      have hmo:=zcu hg i3
      rw [zas hi,zgv] at i4
      generalize zar g cur=l at *
      refine J0 ?_
      refine aP hM ?_
      refine J0 ?_
      by_cases hz:l= []
      · rw [if_pos hz] at i4
        subst hz
        refine J0 ?_
        rw [i4]
        exact frX
      · rw [if_neg hz] at i4
        have hlp:0<l.length:=List.length_pos_iff.2 hz
        have e1:(nth picks i).tmod l.length=(nth picks i).emod l.length:=Int.tmod_eq_emod_of_nonneg hki.1
        have e2:0≤(nth picks i).emod l.length:=Int.emod_nonneg _ aa
        have e3:(nth picks i).emod l.length<l.length:=Int.emod_lt_of_pos _ aa
        generalize (nth picks i).emod l.length=j at *
        have hjl:j.toNat<l.length:=aa
        refine J4 hi hz e1 hjl ?_
        refine FxF ?_
        refine J1 hjl ?_
        refine zEp (hrec (d - 1) aa (i+1,pre++ [cur],nth l j.toNat) ⟨ah,ak,(hmo _ (zag hjl)).1,by simpa using i4⟩) ?_ ad
        simp [go_sem,zad]
    · rw [List.drop_eq_nil_of_le hi,zgv] at i4
      refine J0 ?_
      rw [i4]
      exact frX
  · exact ⟨ad,rfl,hp,by simp [hR]⟩
  · simp [go_sem,zad]
  · simp
structure zwW where
  g:zj4
  p:zmE
  picks:List Int
structure zjw (x:zwW):Prop where
  g:zu9 x.g
  p:zjx x.p
  k:∀n ∈ x.picks,U8 n
  lk:x.picks.length≤1099511627776
  l0:x.g.k0.length≤1099511627776
  l1:x.g.k1.length≤1099511627776
  lc:x.g.c.length≤1099511627776
def zd9 (x:zwW):List AV:=zdk x.g++(zcV x.p++ [zvE x.picks])
def zcp (x:zwW):zab:=zig x.g
def ztB (x:zwW):List zaf:=zgv (zcp x) (zei (zcp x) x.p) (x.picks.take 6)
def zAb (x:zwW):zaf:=nth (ztB x) ((ztB x).length - 1)
theorem zks {x:zwW} (hx:zjw x):GOk (zcp x):=zBH hx.g
theorem zD5 {x:zwW} (hx:zjw x):POk (zcp x) (zAb x):=by
  have hne:=List.length_pos_iff.2 (zuN (zcp x) (zei (zcp x) x.p) (x.picks.take 6))
  exact zuO (zks hx) _ (zi6 (zks hx) hx.p) _ (zag (by unfold ztB;omega))
theorem zr5 (x:zwW) (hx:zjw x):zaD Tryz.prog 21 [.agg (zd9 x)] (.tup [.agg (zac (zcp x)), .agg (zae (zAb x))]):=by
  refine pF Tryz.func21 ?_
  have hg:=zks hx
  have hG:=zrY x.g hx.g hx.lc hx.l0 hx.l1
  have hP:=zkJ (zcp x) hg x.p hx.p
  have hlk:=hx.lk
  have hW:=zr6 (zcp x) hg (zei (zcp x) x.p) (zi6 hg hx.p) (x.picks.take 6) ak (fun k hk=>by have:=hx.k k (List.mem_of_mem_take hk);have h0:=this.1;have h1:=this.2;omega)
  have hwl:=zrC (zcp x) (x.picks.take 6) (zei (zcp x) x.p)
  have hwp:=List.length_pos_iff.2 (zuN (zcp x) (zei (zcp x) x.p) (x.picks.take 6))
  rw [show zgv (zcp x) (zei (zcp x) x.p) (x.picks.take 6)=ztB x from rfl] at hW hwl hwp
  have hq:zAb x=nth (ztB x) ((ztB x).length - 1):=rfl
  rw [show zig x.g=zcp x from rfl] at hG
  obtain ⟨eg,heg⟩:∃eg,eg=zac (zcp x):=⟨_,rfl⟩
  have hegl:eg.length=9:=by rw [heg];rfl
  have hegb:∀n,(∀c ∈ eg,Bel n c)=True:=fun n=>by rw [heg];simp [go_sem]
  rw [← heg] at hG hP hW ⊢
  generalize ztB x=w at *
  generalize zAb x=q at *
  unfold zd9
  have hrow:=zri hx.p
  obtain ⟨er,her⟩:∃er,er=zcV x.p:=⟨_,rfl⟩
  rw [← her] at hrow hP ⊢
  obtain ⟨rl, _, _, _, _, _,rb⟩:=hrow
  obtain ⟨er1,her1⟩:∃er1,er1=zdk x.g:=⟨_,rfl⟩
  have er1l:er1.length=12:=by rw [her1];rfl
  have er1b:∀n,(∀c ∈ er1,Bel n c)=True:=fun n=>by rw [her1];simp [go_sem]
  rw [← her1] at hG ⊢
  have hc30:cel (er1++(er++ [AV.lst 1 (x.picks.map zqd)])) 30= .lst 1 (x.picks.map zqd):=by
    unfold cel
    rw [List.getD_eq_getElem?_getD,List.getElem?_append_right aa,List.getElem?_append_right aa]
    simp [er1l,rl]
  have hd12:List.take 18 (List.drop 12 (er1++(er++ [AV.lst 1 (x.picks.map zqd)])))=er:=by
    rw [← er1l,List.drop_left,← rl,List.take_left]
  refine J6 rl rb er1l er1b hegl hegb ?_
  refine zEt hG (by simp [go_sem,er1b]) ?_
  refine J7 rl rb er1l er1b hegl hegb hc30 ?_
  obtain ⟨pk,hpk⟩:∃pk:Nat→List Int,∀i,pk i=x.picks.take i:=⟨_,fun _=>rfl⟩
  have htl:∀i,i≤x.picks.length→(pk i).length=i:=fun i hi=>by rw [hpk];simp;omega
  have hts:∀i,i<x.picks.length→pk (i+1)=pk i++ [nth x.picks i]:=fun i hi=>by rw [hpk,hpk,List.take_add_one,List.getElem?_eq_getElem hi,zap _ _ hi];rfl
  have hp0:pk 0= []:=by rw [hpk];rfl
  rw [← hpk] at hW
  refine zEp (zEs (α:=Nat) (fun i=>⟨[(1, .ref 0 0 31 0 0),(2, .ref 1 0 9 0 0),(3, .ref 2 0 5 0 0),(4, .ref 3 0 9 0 0),(5, .sl 4 i 1 0 i),(6, .int i)],
      [(0, .rows true 0 31 [er1++(er++ [AV.lst 1 (x.picks.map zqd)])]),(1, .rows true 0 9 [[.int 0,AV.nils,AV.nils,AV.nils, .int 0, .v (.bool false),AV.nils, .int 0, .int 0]]),
       (2, .rows true 0 5 [[AV.nils,AV.nils,AV.nils, .int 0, .int 0]]),(3, .rows true 0 9 [eg]),(4, .rows true i 1 ((pk i).map zaB))],5⟩)
    (fun d i=>i+d=min x.picks.length 6) ?_ (min x.picks.length 6) 0 ?_) ?_ ?_
  · rintro d i i1 hrec
    refine J7 rl rb er1l er1b hegl hegb hc30 ?_
    refine zEr (fun hi=> ?_) (fun hi=> ?_)<;>simp at hi
    · have hil:i<x.picks.length:=by omega
      have hki:=hx.k _ (zag hil)
      have hk0:=hki.1
      have hk1:=hki.2
      have e1:=htl i aa
      have e2:=hts i hil
      refine J5 rl er1l hc30 hil e1 ?_
      refine zEp (hrec (d - 1) aa (i+1) aa) ?_ ad
      simp [go_sem,zad,e2,rb,er1b,hegb]
    · have hil:i=min x.picks.length 6:=by omega
      have e1:=htl i aa
      have e2:pk i=pk 6:=by rw [hpk,hpk,hil,List.take_eq_take_iff];omega
      rw [← e2] at hW
      refine J7 rl rb er1l er1b hegl hegb hd12 ?_
      refine zEB hP (by simp [go_sem,hegb,rb]) ?_
      refine J6 rl rb er1l er1b hegl hegb ?_
      refine zbq.frz [.agg eg, .agg (zae (zei (zcp x) x.p)),zai (pk i)] _ [4] [(4,some (.rows false i 1 ((pk i).map zaB)))] hW ?_ ?_ aX ?_
      · intro p hp
        simp only [List.mem_singleton] at hp
        subst hp
        exact ⟨ad,i,1, _,rfl,aR⟩
      · intro h₁ hS
        have h7:=hS 4 ad
        simp [upd] at h7
        exact .cons (.refl _) (.cons (.refl _) (.cons (zak h7.symm (by simp [e1]) cF (by rw [List.drop_zero,List.take_of_length_le (by simp [e1])])) .nil))
      · have h6:(x.picks.take 6).length≤6:=by simp;omega
        have hw7:w.length≤7:=aa
        have hwi:((w.length:Int) - 1).toNat=w.length - 1:=aa
        have hwn:w.length - 1<w.length:=aa
        rw [hq]
        exact K8 rl rb er1l er1b hegl hegb hwi hwn
  · omega
  · simp [go_sem,zad,rb,er1b,hegb,hp0]
  · simp
theorem zuD {x:zwW} (hx:zjw x):(zd9 x).length=31:=by
  obtain ⟨rl, _, _, _, _, _,rb⟩:=zri hx.p
  simp [zd9,zdk,rl]
theorem zuC {x:zwW} (hx:zjw x) (n:Nat):(∀c ∈ zd9 x,Bel n c)=True:=by
  obtain ⟨rl, _, _, _, _, _,rb⟩:=zri hx.p
  refine eq_true ?_
  intro c hc
  unfold zd9 at hc
  rcases List.mem_append.1 hc with h|h
  · have:(∀c ∈ zdk x.g,Bel n c)=True:=by simp [go_sem]
    exact of_eq_true this c h
  · rcases List.mem_append.1 h with h|h
    · exact of_eq_true (rb n) c h
    · simp only [List.mem_singleton] at h
      subst h
      simp [go_sem]
def zqc (D:List (List zaf)):List (List AV):=D.map fun l=> [zaC l]
theorem zAN {n:Nat}{D:List (List zaf)}:(∀r ∈ zqc D,∀c ∈ r,Bel n c)=True:=by
 refine eq_true ?_
 intro r hr c hc
 obtain ⟨x, _,rfl⟩:=List.mem_map.1 hr
 simp only [List.mem_cons,List.not_mem_nil,or_false] at hc
 subst hc
 exact zbk _
attribute [go_sem ↓] zAN
@[go_sem] theorem encD_len (D:List (List zaf)):(zqc D).length=D.length:=by simp [zqc]
theorem zsE (D E:List (List zaf)):zqc (D++E)=zqc D++zqc E:=by simp [zqc]
theorem zBP {D:List (List zaf)}{i:Nat} (h:i<D.length):nth (zqc D) i= [zaC (nth D i)]:=za9 _ _ _ h
theorem zrw (q:zaf) (hq:zaQ q) (mv:List zaf) (hi:Inc mv) (hl:mv.length≤17179869184) (hf:∀r ∈ mv,zaQ r):
  zaD Tryz.prog 75 [.agg (zae q), .fp [zaC mv]] (.v (.bool (decide (q ∈ mv)))):=by
 refine pF Tryz.func75 ?_
 have hF:=zn3 mv hi hl hf q hq
 have e:decide (q ∈ mv)=decide (0≤zrH mv q):=by rw [decide_eq_decide];exact (zfu hi).symm
 rw [e]
 generalize zrH mv q=fi at *
 refine J0 ?_
 refine aP hF ?_
 exact K0
theorem ztv (g:zab) (hg:GOk g) (p:zaf) (hp:POk g p) (l:List zaf) (hl:l.length≤17179869184) (hf:∀q ∈ l,zaQ q):
  zaD Tryz.prog 73 [.agg (zae p),zaC l, .fp (zac g)] (.int (zeG g p l)):=by
 refine pF Tryz.func73 ?_
 have hM:=zgz g hg p hp
 have hml:=zej hg hp
 have hmf:=fun m hm=>((zcu hg hp) m hm).1.fits hg
 have hinc:=zwa g p
 unfold zeG
 generalize zar g p=mv at *
 have hC:=zfT l hl 75 [] [.fp [zaC mv]] (fun q=>decide (q ∈ mv)) (fun q hq=>zrw q (hf q hq) mv hinc aa hmf) ad ae
 refine J0 ?_
 refine aP hM ?_
 refine J0 ?_
 refine zEv [1] hC ?_ ae ?_
 ·(first|done|exact leX)
 ·exact K0
theorem zfw {h h':zaq}{n:Nat}{x y:List AV} (hx:zav h h' n x y):∀ (l:List (List AV)) (k:Nat),zaN h h' n (l.set k x) (l.set k y)
 | [], _=> .nil
 | _::l,0=> .cons hx (.refl _)
 |z::l,k+1=> .cons (.refl _ _ _ _) (zfw hx l k)
theorem zoB {n:Nat}{l:List (List AV)}{k:Nat}{x:List AV} (h1:∀r ∈ l,∀c ∈ r,Bel n c) (h2:∀c ∈ x,Bel n c):∀r ∈ l.set k x,∀c ∈ r,Bel n c:=by
 intro r hr
 rcases List.mem_or_eq_of_mem_set hr with hr|rfl
 ·exact h1 r hr
 ·exact h2
theorem zrm {α:Type} [Inhabited α] {l:List α}{k:Nat} (h:k<l.length):l.set k (nth l k)=l:=by
 rw [zap _ _ h]
 exact List.set_getElem_self h
theorem zs2 {h h':zaq}{n o:Nat}{l:List (List AV)}{k:Nat} (hk:k<l.length) (e:nth l k= [AV.nils]) (hn:n≤o) (ho:h' o=some (.rows true 0 5 [])):zaN h h' n l (l.set k [.sl o 0 5 0 0]):=by
 have h1:zav h h' n [AV.nils] [.sl o 0 5 0 0]:= .cons (.own hn ho) .nil
 have:=zfw h1 l k
 rwa [← e,zrm hk] at this
def zfO (N:Nat) (G:List (List zaf)) (m:Nat):List (List AV):=(List.range N).map fun j=>if m≤j then [zaC (nth G j)] else [AV.nils]
@[go_sem] theorem zkT (N:Nat) (G:List (List zaf)) (m:Nat):(zfO N G m).length=N:=by simp [zfO]
theorem zlZ (N:Nat) (G:List (List zaf)) (m:Nat){j:Nat} (hj:j<N):nth (zfO N G m) j=if m≤j then [zaC (nth G j)] else [AV.nils]:=by
 rw [zap _ _ (by rw [zkT];exact hj)]
 simp [zfO]
theorem zhK {n N:Nat}{G:List (List zaf)}{m:Nat}:(∀r ∈ zfO N G m,∀c ∈ r,Bel n c)=True:=by
 refine eq_true ?_
 intro r hr c hc
 obtain ⟨j, _,rfl⟩:=List.mem_map.1 hr
 split at hc
 ·simp only [List.mem_cons,List.not_mem_nil,or_false] at hc
  subst hc
  exact zbk _
 ·simp only [List.mem_cons,List.not_mem_nil,or_false] at hc
  subst hc
  exact .v _
attribute [go_sem ↓] zhK
theorem zxy {N:Nat}{G:List (List zaf)}{m:Nat} (hm:m<N):(zfO N G (m+1)).set m [zaC (nth G m)]=zfO N G m:=by
 refine List.ext_getElem (by simp [zfO]) fun j h1 h2=> ?_
 rw [List.getElem_set]
 simp only [zfO,List.getElem_map,List.getElem_range]
 by_cases h:m=j
 ·subst h
  simp
 ·rw [if_neg h]
  by_cases h':m≤j
  ·rw [if_pos h',if_pos aa]
  ·rw [if_neg h',if_neg aa]
theorem zvk {N:Nat}{G:List (List zaf)}{goal:zaf} (hN:1≤N) (hG:nth G (N - 1)= [goal]):(List.replicate N [AV.nils]).set (N - 1) [zaC [goal]]=zfO N G (N - 1):=by
 refine List.ext_getElem (by simp [zfO]) fun j h1 h2=> ?_
 rw [List.getElem_set]
 simp only [zfO,List.getElem_map,List.getElem_range,List.getElem_replicate]
 simp only [zkT] at h2
 by_cases h:N - 1=j
 ·subst h
  rw [if_pos rfl,if_pos aa,hG]
 ·rw [if_neg h,if_neg aa]
theorem zwM (g:zab) (hg:GOk g) (past:List (List zaf)) (goal:zaf) (hN4:past.length≤4002) (hc:zg9 g past) (hgo:goal ∈ nth past (past.length - 1)) (hok:∀l ∈ past,∀q ∈ l,POk g q) (hll:∀l ∈ past,l.length≤1889788001):
  zaD Tryz.prog 35 [.agg (zac g), .lst 1 (zqc past), .agg (zae goal)] (zaC (zgt g past goal)):=by
 refine pF Tryz.func35 ?_
 have hN1:=List.length_pos_iff.2 hc.ne
 have hlast:=zeY g goal past hc.ne
 have hsub:=fun i (hi:i<past.length)=>zh1 (g:=g) (goal:=goal) hi hgo
 have hat:=zgH g goal past
 have hway:=fun i (hi:i<past.length)=>ziB hc hgo i hi
 have hfst:=fun i (hi:i+1<past.length)=>zwO hc hgo hi
 have hw0:zAd g past goal 0=nth (nth past 0) 0:=rfl
 have hws:∀i,zAd g past goal (i+1)=nth (nth (zeX g past goal) (i+1)) (zeG g (zAd g past goal i) (nth (zeX g past goal) (i+1))).toNat:=fun i=>rfl
 unfold zgt
 generalize zeX g past goal=G at *
 generalize zAd g past goal=way at *
 have hnth:∀j,j<past.length→nth (zqc past) j= [zaC (nth past j)]:=fun j hj=>zBP hj
 have hNn:((past.length:Int) - 1).toNat=past.length - 1:=aa
 have hbl:=zvk (G:=G) (goal:=goal) hN1 hlast
 have hGo:∀i,i<past.length→∀q ∈ nth G i,POk g q:=fun i hi q hq=>hok _ (zag hi) q (hsub i hi q hq)
 have hGf:∀i,i<past.length→∀q ∈ nth G i,zaQ q:=fun i hi q hq=>(hGo i hi q hq).fits hg
 have hGl:∀i,i<past.length→(nth G i).length≤1889788001:=fun i hi=>by
  by_cases h:i+1<past.length
  ·rw [hat i h]
   exact Nat.le_trans (List.length_filter_le _ _) (hll _ (zag hi))
  ·obtain rfl:i=past.length - 1:=by omega
   rw [hlast];simp
 obtain ⟨out,hout⟩:∃out:Nat→List zaf,∀i,out i=(List.range i).map way:=⟨_,fun _=>rfl⟩
 have houtl:∀i,(out i).length=i:=fun i=>by rw [hout];simp
 have houts:∀i,out (i+1)=out i++ [way i]:=fun i=>by rw [hout,hout,List.range_succ,List.map_append];rfl
 have houtn:∀i j,j<i→nth (out i) j=way j:=fun i j hj=>by rw [hout,za9 _ _ _ bz,zap _ _ bz];simp
 have hout0:out 0= []:=by rw [hout];rfl
 rw [← hout]
 clear hout
 have hegl:(zac g).length=9:=rfl
 have hegb:∀n,(∀c ∈ zac g,Bel n c)=True:=fun n=>ae
 have hFi:=fun p (hp:POk g p) i (hi:i<past.length)=>ztv g hg p hp (nth G i) (by have:=hGl i hi;omega) (hGf i hi)
 generalize zac g=eg at *
 refine J2 hNn hegl ?_
 refine zEp (zEs (α:=Nat) (fun m=>⟨[(1, .lst 1 (zqc past)),(7, .int ((past.length:Int) - 1)),(8, .sl 2 0 1 0 past.length),(9, .fn (.func 73) [] [.ref 0 0 9 0 0]),(10, .int ((m:Int) - 1))], [(0, .rows false 0 9 [eg]),(2, .rows true 0 1 (zfO past.length G m))],4⟩)
  (fun d m=>d=m∧m≤past.length - 1) ?_ (past.length - 1) (past.length - 1) ?_) ?_ ?_
 ·rintro d m ⟨rfl,i1⟩ hrec
  refine J0 ?_
  refine zEr (fun hm=> ?_) (fun hm=> ?_)<;>simp at hm
  ·have e1:((d:Int) - 1).toNat=d - 1:=by omega
   have e2:((d:Int) - 1+1).toNat=d:=aa
   have hn:=hnth (d - 1) aa
   have hat:=hat (d - 1) aa
   rw [show d - 1+1=d by omega] at hat
   have hly:=hok _ (zag (show d - 1<past.length by omega))
   have hlyl:=hll _ (zag (show d - 1<past.length by omega))
   generalize nth past (d - 1)=ly at *
   have hFd:=fun p hp=>hFi p hp d aa
   obtain ⟨fl,hfl⟩:∃fl:Nat→List zaf,∀k,fl k=(ly.take k).filter (fun p=>decide (0≤zeG g p (nth G d))):=⟨_,fun _=>rfl⟩
   have hfll:∀k,(fl k).length≤1889788001:=fun k=>by
    have h1:(fl k).length≤(ly.take k).length:=by rw [hfl];exact List.length_filter_le _ _
    have h2:(ly.take k).length≤ly.length:=ak
    omega
   have hfl0:fl 0= []:=by rw [hfl];rfl
   have hfls:∀k,k<ly.length→fl (k+1)=if 0≤zeG g (nth ly k) (nth G d) then fl k++ [nth ly k] else fl k:=fun k hk=>by
    rw [hfl,hfl,List.take_add_one,List.getElem?_eq_getElem hk,zap _ _ hk,Option.toList_some,List.filter_append]
    by_cases h:0≤zeG g ly[k] (nth G d)<;>simp [h]
   have hflE:fl ly.length=nth G (d - 1):=by rw [hfl,List.take_length,hat]
   have hb1:nth (zfO past.length G d) d= [zaC (nth G d)]:=by rw [zlZ _ _ _ aa,if_pos (Nat.le_refl _)]
   have hb2:nth (zfO past.length G d) (d - 1)= [AV.nils]:=by rw [zlZ _ _ _ aa,if_neg aa]
   have hb3:∀r:List AV,nth ((zfO past.length G d).set (d - 1) r) d= [zaC (nth G d)]:=fun r=>by
    rw [zbo,if_neg aa,hb1]
   have hdl:d - 1<past.length:=aa
   have hdl2:d<past.length:=aa
   clear hfl hat
   refine J2 hn e1 ?_
   refine zEp (zEs (α:=Nat) (fun j=>⟨[(1, .lst 1 (zqc past)),(7, .int ((past.length:Int) - 1)),(8, .sl 2 0 1 0 past.length),(9, .fn (.func 73) [] [.ref 0 0 9 0 0]),(10, .int ((d:Int) - 1)),(36,zaC ly),(37, .int ly.length),(38, .int j)],
     [(0, .rows false 0 9 [eg]),(2, .rows true 0 1 ((zfO past.length G d).set (d - 1) [.sl 4 (fl j).length 5 0 (fl j).length])),(4, .rows true (fl j).length 5 ((fl j).map zae))],5⟩)
    (fun d j=>j+d=ly.length) ?_ ly.length 0 ?_) ?_ ?_
   ·rintro d2 j j1 hrec2
    refine J0 ?_
    refine zEr (fun hj=> ?_) (fun hj=> ?_)<;>simp at hj
    ·have hpo:=hly _ (zag hj)
     have hF:=hFd _ hpo
     have hfls:=hfls j hj
     have h1:=hfll j
     have h2:=hfll (j+1)
     generalize hq:nth ly j=q at *
     generalize zeG g q (nth G d)=fi at *
     refine J5 hj hq e2 hb3 hdl2 ?_
     refine zbq.frz [.agg (zae q),zaC (nth G d), .fp eg] _ [0] [] hF ad ?_ aX ?_
     ·intro h₁ hS
      have h0:=hS 0 ad
      simp [upd] at h0
      exact .cons (.refl _) (.cons (.refl _) (.cons (.frzP h0.symm ad ad cx (.refl _ _ _ _)) .nil))
     ·refine J0 ?_
      refine zEr (fun hz=> ?_) (fun hz=> ?_)<;>simp at hz
      ·rw [if_pos hz] at hfls
       refine J2 hdl e1 ?_
       refine zEp (hrec2 (d2 - 1) aa (j+1) aa) ?_ ad
       simp [go_sem,zad,hfls,hegb]
       exact zoB (of_eq_true zhK) ae
      ·rw [if_neg aa] at hfls
       refine J0 ?_
       refine zEp (hrec2 (d2 - 1) aa (j+1) aa) ?_ ad
       simp [go_sem,zad,hfls,hegb]
       exact zoB (of_eq_true zhK) ae
    ·obtain rfl:j=ly.length:=by omega
     rw [hflE]
     have hbs:=zxy (G:=G) (N:=past.length) (m:=d - 1) aa
     rw [show d - 1+1=d by omega] at hbs
     have ec:((d - 1:Nat):Int)=(d:Int) - 1:=aa
     refine J0 ?_
     refine zEp (hrec (d - 1) aa (d - 1) ⟨rfl,aa⟩) ?_ ad
     simp [go_sem,zad,hegb,ec]
     rw [← hbs]
     exact zfw (.cons (zak rfl ad (by simp [upd,noH]) dE) .nil) _ _
   ·simp
   ·simp [go_sem,zad,hfl0,hegb]
    refine ⟨?_,zoB (of_eq_true zhK) ae⟩
    exact zs2 (by rw [zkT];omega) hb2 ad (by simp [mkH,upd])
   ·simp
  ·obtain rfl:d=0:=by omega
   have hn0:=hnth 0 aa
   obtain ⟨st,hst⟩:=hc.one
   have hz1:nth (nth past 0) 0=st:=by rw [hst];rfl
   rw [hst] at hn0
   rw [hz1] at hw0
   have hg0:=fun j (hj:j<past.length)=>zlZ past.length G 0 hj
   simp only [Nat.zero_le,if_true] at hg0
   have hout1:out 1= [st]:=by rw [houts 0,hout0,hw0];rfl
   refine J1 hn0 ?_
   refine zEp (zEs (α:=Nat) (fun i=>⟨[(7, .int ((past.length:Int) - 1)),(8, .sl 2 0 1 0 past.length),(9, .fn (.func 73) [] [.ref 0 0 9 0 0]),(13, .sl 4 i 5 0 (i+1)),(14, .int ((i:Int)+1))], [(0, .rows false 0 9 [eg]),(2, .rows true 0 1 (zfO past.length G 0)),(4, .rows true i 5 ((out (i+1)).map zae))],5⟩)
    (fun d i=>i+1+d=past.length) ?_ (past.length - 1) 0 ?_) ?_ ?_
   ·rintro d2 i i2 hrec2
    have hol:=houtl (i+1)
    refine J1 hol ?_
    refine zEr (fun hi=> ?_) (fun hi=> ?_)<;>simp at hi
    ·have e5:((i:Int)+1).toNat=i+1:=by omega
     have e6:((i:Int)+1 - 1).toNat=i:=aa
     have hgi:=hg0 (i+1) aa
     have hoi:=houtn (i+1) i aa
     have hwi:=hGo i aa _ (hway i aa)
     have hF:=hFi (way i) hwi (i+1) aa
     have hf1:=hfst i aa
     have hf2:=(ziZ hf1).1
     have hos:=houts (i+1)
     rw [hws i] at hos
     have hil:i+1<past.length:=aa
     generalize zeG g (way i) (nth G (i+1))=fi at *
     refine J6 hol e5 e6 hgi hoi hil ?_
     refine zbq.frz [.agg (zae (way i)),zaC (nth G (i+1)), .fp eg] _ [0] [] hF ad ?_ aX ?_
     ·intro h₁ hS
      have h0:=hS 0 ad
      simp [upd] at h0
      exact .cons (.refl _) (.cons (.refl _) (.cons (.frzP h0.symm ad ad cx (.refl _ _ _ _)) .nil))
     ·refine J2 hol hf2 ?_
      refine zEp (hrec2 (d2 - 1) aa (i+1) aa) ?_ ad
      simp [go_sem,zad,hos,hegb]
    ·have e:out past.length=out (i+1):=by rw [show past.length=i+1 by omega]
     refine J0 ?_
     rw [e]
     exact zak rfl (by simp [hol]) (by simp [upd,noH]) (by simp;exact List.take_of_length_le (by simp [hol]))
   ·simp;omega
   ·simp [go_sem,zad,hegb,hout1]
   ·simp
 ·exact ⟨rfl,Nat.le_refl _⟩
 ·simp [go_sem,zad,hegb]
  refine ⟨?_, ?_⟩
  ·rw [show ((past.length - 1:Nat):Int)=(past.length:Int) - 1 by omega]
   exact .refl _
  ·rw [← hbl]
   exact zfw (.cons (zak rfl ad (by simp [upd,noH]) ae) .nil) _ _
 ·simp
theorem zuc {g:zab}{p goal:zaf}{n:Int}{d:Nat} (hd:d<(zau g p n).length) (h:goal ∈ (nth (zau g p n) d).1) (hb:∀j,j<d→goal ∉ (nth (zau g p n) j).1):
  zcW g p goal n=(zgt g (((zau g p n).take (d+1)).map (·.1)) goal,0):=by
 have:(zau g p n).findIdx? (fun x=>decide (goal ∈ x.1))=some d:=by
  rw [List.findIdx?_eq_some_iff_getElem]
  refine ⟨hd,by rw [← zap _ _ hd];simpa using h,fun j hj=> ?_⟩
  have:=hb j hj
  rw [zap _ _ aa] at this
  simpa using this
 unfold zcW
 rw [this]
theorem zud {g:zab}{p goal:zaf}{n:Int} (hb:∀j,j<(zau g p n).length→goal ∉ (nth (zau g p n) j).1):
  zcW g p goal n=([],if zc6 (zau g p n) then 270 else 2):=by
 have:(zau g p n).findIdx? (fun x=>decide (goal ∈ x.1))=none:=by
  rw [List.findIdx?_eq_none_iff]
  intro x hx
  obtain ⟨j,hj,rfl⟩:=List.getElem_of_mem hx
  have:=hb j hj
  rw [zap _ _ hj] at this
  simpa using this
 unfold zcW
 rw [this]
theorem zjO (g:zab) (b:Int):∀ (f:Nat) (known now:List zaf) (i:Nat),(nth (zaL g b f known now) i).2=true→i<(zaL g b f known now).length→i+1=(zaL g b f known now).length
 |0,known,now,i,h,hl=>by simp [zaL] at hl
 |f+1,known,now,i,h,hl=>by
  rw [zaL] at h hl ⊢
  split at h
  ·rename_i hk
   rw [if_pos hk] at hl ⊢
   simp at hl ⊢
   omega
  ·rename_i hk
   rw [if_neg hk] at hl ⊢
   split at h
   ·rename_i hz
    rw [if_pos hz] at hl ⊢
    simp at hl ⊢
    omega
   ·rename_i hz
    rw [if_neg hz] at hl ⊢
    cases i with
    |zero=>simp [zdy] at h
    |succ i=>
     rw [zb1] at h
     have:=zjO g b f _ _ i h cC
     simp only [List.length_cons]
     omega
theorem zjW {g:zab} (hg:GOk g){p:zaf} (hp:POk g p) (n:Int) (d:Nat):
  (((zau g p n).take (d+1)).map (·.1)).length≤4002∧(∀l ∈ ((zau g p n).take (d+1)).map (·.1),∀q ∈ l,POk g q)∧∀l ∈ ((zau g p n).take (d+1)).map (·.1),l.length≤1889788001:=by
 have hcnt:=zis g p n
 have hok:=zjk hg hp n
 have hlen:=zfF hg hp n
 generalize zau g p n=L at *
 refine ⟨ak,fun l hl=> ?_,fun l hl=> ?_⟩
 ·obtain ⟨x,hx,rfl⟩:=List.mem_map.1 hl
  exact (hok x (List.mem_of_mem_take hx)).2
 ·obtain ⟨x,hx,rfl⟩:=List.mem_map.1 hl
  have hx:=List.mem_of_mem_take hx
  obtain ⟨i,hi,rfl⟩:=List.getElem_of_mem hx
  have e:zdV L=zdV (L.take i)++(L[i].1++zdV (L.drop (i+1))):=by
   unfold zdV
   rw [← List.flatMap_cons,← List.drop_eq_getElem_cons hi,← List.flatMap_append,List.take_append_drop]
  have:=congrArg List.length e
  simp only [List.length_append] at this
  omega
theorem zpB (g:zab) (hg:GOk g) (p:zaf) (hp:POk g p) (goal:zaf) (hq:zaQ goal) (n:Int):
  zaD Tryz.prog 12 [.agg (zac g), .agg (zae p), .agg (zae goal), .int n] (.tup [zaC (zcW g p goal n).1, .int (zcW g p goal n).2]):=by
 refine pF Tryz.func12 ?_
 have hS:zhb Tryz.prog 33 [.agg (zac g), .agg (zae p), .int n] (fun k=>zDK k) (fun k=>zDJ g p n k) 3:=zlI g p n
 have hQ:=zlE g hg p hp (zgZ n) (zeQ n)
 simp only [zDK,zDJ] at hS
 rw [show zaL g (zgZ n) ((zgZ n).toNat+2) [p] [p]=zau g p n from rfl] at hQ
 have hA:=fun d=>zuc (g:=g) (p:=p) (goal:=goal) (n:=n) (d:=d)
 have hN:=zud (g:=g) (p:=p) (goal:=goal) (n:=n)
 have hpast:=zjW hg hp n
 have hchain:=zir g p n
 have hok:=zjk hg hp n
 have hne:=ze7 g p n
 have hfull:=zh0 hne
 have hcnt:=zis g p n
 have hlst:∀i,(nth (zau g p n) i).2=true→i<(zau g p n).length→i+1=(zau g p n).length:=zjO g (zgZ n) ((zgZ n).toNat+2) [p] [p]
 have hlen:=zfF hg hp n
 generalize zcW g p goal n=gm at *
 generalize zau g p n=L at *
 refine Jg0 ?_
 refine zEu hS ae ?_
 refine Jg0 ?_
 refine zdj.mk [.fp (zae p), .fp [.int (zgZ n)], .fp (zac g)] (za6 _ [6,7,8]) hQ (zbf _ _) ?_ ae (fun xs hx=>by obtain ⟨y, _,rfl⟩:=List.mem_map.1 hx;rfl) ?_
 ·refine zav.cons (.frzP rfl ?_ ?_ ?_ ?_) (zav.cons (.frzP rfl ?_ ?_ ?_ ?_) (zav.cons (.frzP rfl ?_ ?_ ?_ ?_) .nil))<;>first|exact zav.refl _ _ _ _|simp [za6,zbr,upd]
 obtain ⟨D,hD⟩:∃D:Nat→List (List zaf),∀k,D k=(L.take k).map (·.1):=⟨_,fun _=>rfl⟩
 have hDl:∀k,k≤L.length→(D k).length=k:=fun k hk=>by rw [hD];simp;omega
 have hDs:∀k,k<L.length→D (k+1)=D k++ [(nth L k).1]:=fun k hk=>by rw [hD,hD,List.take_add_one,List.getElem?_eq_getElem hk,zap _ _ hk,Option.toList_some,List.map_append];rfl
 have hD0:D 0= []:=by rw [hD];rfl
 simp only [← hD] at hA hpast hchain
 refine Fgt.to (zEA (α:=Nat) (fun k=>([(4, .ref 0 0 9 0 0),(6, .ref 2 0 5 0 0),(8, .ref 3 0 1 0 0),(9, .ref 4 0 1 0 0),(10, .ref 5 0 1 0 0)], [(0, .rows true 0 9 [zac g]),(2, .rows true 0 5 [zae goal]),(3, .rows true 0 1 [[AV.nils]]),(4, .rows true 0 1 [[.int 0]]),(5, .rows true 0 1 [[.sl 9 k 1 0 k]]),(9, .rows true k 1 (zqc (D k)))],10))
  (fun rows k=>rows=(L.drop k).map zn7∧k≤L.length∧(∀j,j<k→goal ∉ (nth L j).1∧(nth L j).2=false)) ?_ ?_ _ 0 ?_) ?_ ?_
 ·rintro k ⟨i1,i2,i3⟩
  have hk:k=L.length:=by
   have:=congrArg List.length i1
   simp at this
   omega
  subst hk
  refine ⟨rfl, ?_⟩
  have hl:=List.length_pos_iff.2 hne
  have hff:zc6 L=false:=by rw [hfull];exact (i3 _ aa).2
  have hgm:=hN (fun j hj=>(i3 j hj).1)
  rw [hff] at hgm
  subst hgm
  exact Kg0
 ·rintro xs rs k ⟨i1,i2,i3⟩ hrec
  have hk:k<L.length:=by
   have:=congrArg List.length i1
   simp at this
   omega
  rw [zas hk,List.map_cons,List.cons.injEq] at i1
  obtain ⟨rfl,rfl⟩:=i1
  generalize hrs:(L.drop (k+1)).map zn7=rs at *
  have hDk:=hDl k i2
  have hDs:=hDs k hk
  have hokk:=hok _ (zag hk)
  have hF:=zn3 (nth L k).1 hokk.1 (by
   have:=(hpast k).2.2 (nth L k).1 (by rw [hDs];simp)
   omega) (fun q h=>(hokk.2 q h).fits hg) goal hq
  have hFm:=zfu hokk.1 (p:=goal)
  refine zEF (Nat.zero_le _) ?_
  generalize zrH (nth L k).1 goal=fi at *
  generalize hnx:nth L k=x at *
  obtain ⟨now,full⟩:=x
  simp only at hF hFm hDs
  repeat first|refine wV fun _=>?_|simp [go_sem,GH,zn7,hDk]
  refine aP hF ?_
  refine Jg0 ?_
  refine zEr (fun hz=> ?_) (fun hz=> ?_)<;>simp at hz
  ·have hin:=hFm.1 hz
   have hgm:=hA k hk (by rw [hnx];exact hin) (fun j hj=>(i3 j hj).1)
   have hp1:=hpast k
   have hDl1:=hDl (k+1) aa
   have hT:=zwM g hg (D (k+1)) goal hp1.1 (hchain k) (by rw [hDl1,hDs,zap _ _ ak];simp [hDk,hin]) hp1.2.1 hp1.2.2
   rw [hgm]
   generalize zgt g (D (k+1)) goal=tr at *
   refine Jg0 ?_
   refine zEv [9] hT ?_ ae ?_
   ·refine .cons (.refl _) (.cons (zak rfl (by simp [hDk,zqc]) ba ?_) (.cons (.refl _) .nil))
    rw [hDs,zsE]
    simp only [List.drop_zero]
    exact List.take_of_length_le (by simp [hDk,zqc])
   ·exact Kg0
  ·have hnin:goal ∉ now:=fun h=>by have:=hFm.2 h;omega
   cases full
   ·refine Jg0 ?_
    refine Fgt.to (hrec (k+1) ⟨hrs.symm,aa,fun j hj=> ?_⟩) ?_ ad
    ·rcases Nat.lt_or_ge j k with h|h
     ·exact i3 j h
     ·obtain rfl:j=k:=by omega
      rw [hnx]
      exact ⟨hnin,rfl⟩
    ·simp [go_sem,zad,GH,hDs,zqc]
   ·have hkl:=hlst k (by rw [hnx]) hk
    have hff:zc6 L=true:=by rw [hfull,show L.length - 1=k by omega,hnx]
    have hgm:=hN (fun j hj=>by
     rcases Nat.lt_or_ge j k with h|h
     ·exact (i3 j h).1
     ·obtain rfl:j=k:=by omega
      rw [hnx];exact hnin)
    rw [hff] at hgm
    subst hgm
    exact Kg0
 ·exact ⟨rfl,Nat.zero_le _,fun j hj=>aa⟩
 ·simp [go_sem,zad,hD0,zqc]
 ·simp
def zk2 (g:zab) (s q:zaf) (l:List zaf):Bool:=decide (l≠ []∧nth l 0=s∧nth l (l.length - 1)=q∧∀j,j<l.length - 1→nth l (j+1) ∈ zar g (nth l j))
theorem zjB {g:zab}{s q:zaf}{l:List zaf} (h:¬(l≠ []∧nth l 0=s∧nth l (l.length - 1)=q∧∀j,j<l.length - 1→nth l (j+1) ∈ zar g (nth l j))):zk2 g s q l=false:=decide_eq_false h
theorem zuS (g:zab) (hg:GOk g) (s q:zaf) (hs:zaQ s) (hq:zaQ q) (l:List zaf) (hl:l.length≤17179869184) (hp:∀x ∈ l,POk g x):
  zaD Tryz.prog 15 [.agg (zac g), .agg (zae s), .agg (zae q),zaC l] (.v (.bool (zk2 g s q l))):=by
 refine pF Tryz.func15 ?_
 have hC:=fun x (hx:x ∈ l) y (hy:zaQ y)=>zbL x y ((hp x hx).fits hg) hy
 have hL:=fun x (hx:x ∈ l) y (hy:y ∈ l)=>ziG g hg x (hp x hx) y ((hp y hy).fits hg)
 by_cases hl0:l= []
 ·have hc:zk2 g s q l=false:=zjB (by simp [hl0])
  rw [hc]
  subst hl0
  refine J0 ?_
  refine dGC.skip (.int 0) ?_
  refine J0 ?_
  refine dGC.skip (.int 0) ?_
  exact K0
 ·have hlp:=List.length_pos_iff.2 hl0
  have hm1:=zag (l:=l) (i:=0) hlp
  have hm2:=zag (l:=l) (i:=l.length - 1) aa
  have h1:=hC _ hm1 s hs
  have h2:=hC _ hm2 q hq
  have hnm:nth (l.map zae) (l.length - 1)=zae (nth l (l.length - 1)):=za9 _ _ _ aa
  have e1:zbi (nth l 0) s=0↔nth l 0=s:=zhi
  have e2:zbi (nth l (l.length - 1)) q=0↔nth l (l.length - 1)=q:=zhi
  obtain ⟨c,hc⟩:∃c,c=zk2 g s q l:=⟨_,rfl⟩
  have hcf:¬(l≠ []∧nth l 0=s∧nth l (l.length - 1)=q∧∀j,j<l.length - 1→nth l (j+1) ∈ zar g (nth l j))→c=false:=fun h=>hc.trans (zjB h)
  have hct:(l≠ []∧nth l 0=s∧nth l (l.length - 1)=q∧∀j,j<l.length - 1→nth l (j+1) ∈ zar g (nth l j))→c=true:=fun h=>hc.trans (decide_eq_true h)
  rw [← hc]
  clear hc
  have hegl:(zac g).length=9:=rfl
  have hegb:∀n,(∀c ∈ zac g,Bel n c)=True:=fun n=>ae
  generalize zac g=eg at *
  refine J3 hegl hl0 hlp ?_
  refine zEx _ (fun _=>h1) ae ?_
  generalize zbi (nth l 0) s=a at *
  by_cases ha:a=0
  ·refine J5 hegl hl0 hlp ha hnm ?_
   refine zEx _ (fun _=>h2) ae ?_
   generalize zbi (nth l (l.length - 1)) q=b at *
   by_cases hb:b=0
   ·refine J6 hegl hl0 hlp ha hnm hb ?_
    have hct':=fun h=>hct ⟨hl0,e1.1 ha,e2.1 hb,h⟩
    have hcf':=fun (h:¬∀j,j<l.length - 1→nth l (j+1) ∈ zar g (nth l j))=>hcf (fun h'=>h h'.2.2.2)
    clear hcf hct hC
    refine zEp (zEs (α:=Nat) (fun i=>⟨[(3,zaC l),(4, .ref 0 0 9 0 0),(34, .int ((l.length - 1:Nat):Int)),(35, .int i)], [(0, .rows true 0 9 [eg])],3⟩)
     (fun d i=>i+d=l.length - 1∧∀j,j<i→nth l (j+1) ∈ zar g (nth l j)) ?_ (l.length - 1) 0 ?_) ?_ ?_
    ·rintro d i ⟨i1,i2⟩ hrec
     refine J1 hegl ?_
     refine zEr (fun hi=> ?_) (fun hi=> ?_)<;>simp at hi
     ·have hi1:i<l.length:=by omega
      have hi2:i+1<l.length:=aa
      have h:=hL _ (zag hi1) _ (zag hi2)
      have hdb:decide (nth l (i+1) ∈ zar g (nth l i))=true↔nth l (i+1) ∈ zar g (nth l i):=decide_eq_true_iff
      generalize decide (nth l (i+1) ∈ zar g (nth l i))=m at *
      refine J3 hegl hi1 hi2 ?_
      refine zEB h aX ?_
      cases m
      ·have:c=false:=hcf' (fun h=>by have:=hdb.2 (h i aa);simp at this)
       subst this
       exact K1 hegl
      ·refine J1 hegl ?_
       refine zEp (hrec (d - 1) aa (i+1) ⟨aa,fun j hj=> ?_⟩) ?_ ad
       ·rcases Nat.lt_or_ge j i with h|h
        ·exact i2 j h
        ·obtain rfl:j=i:=by omega
         exact hdb.1 rfl
       ·simp [go_sem,zad,hegb]
     ·have:c=true:=hct' (fun j hj=>i2 j aa)
      subst this
      exact K1 hegl
    ·exact ⟨aa,fun j hj=>aa⟩
    ·simp [go_sem,zad,hegb]
    ·simp
   ·have:c=false:=hcf (fun h=>hb (e2.2 h.2.2.1))
    subst this
    exact K6 hegl hl0 hlp ha hnm hb
  ·have:c=false:=hcf (fun h=>ha (e1.2 h.2.1))
   subst this
   refine J4 hegl hl0 hlp ha ?_
   refine dGC.skip (.int 0) ?_
   exact K4 hegl hl0 hlp ha
end Go.Av
end
