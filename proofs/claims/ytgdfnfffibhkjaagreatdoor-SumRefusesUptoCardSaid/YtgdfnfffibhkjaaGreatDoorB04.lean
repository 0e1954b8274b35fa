/- Texts of ours, part 4: our library and contracts of functions. -/
import Derived.Test.YtgdfnfffibhkjaaGreatDoorB03
import Derived.RangeFuncLeaves
import Derived.RangeFuncRecord
set_option linter.unusedSimpArgs false
set_option linter.unusedVariables false
set_option maxRecDepth 100000
set_option maxHeartbeats 40000000
section
/- Our library, part 12: functions' contracts; calls of functions that only compute. -/
namespace Go.Av
open Go

variable {c:Code} {fn:Func} {f:FuncId}
theorem qe {P:Program} (hf:P.funcs[f]? =some fn) (hb:fn.body=some c) (hname:(fn.name== "runtime.NumGoroutine")=false):kH P f:=by
 simp_all [callFunc,kH]

variable {k k2 more n:Nat} {args args' caps xs:List AV} {M:Nat->Prop} {w:World}
section
variable {P:Program}
theorem RG {t:TypeId}{v u:Value}{w':World} (h:(Instr.loadAt t v).run P w= .ok u w'):(do loadVar t (<- asAddr v):Sem Value).run P w= .ok u w':=by
 unfold Instr.loadAt at h;cases v with
 |pointer a=>
  cases a<;>simp_all [Instr.sureAddr,asAddr]
 | _=>simp [Instr.sureAddr] at h
def zeA (tmps:Array Value):ResultVar->Sem Value
 | .tmp t=>pure (tmps.getD t undef)
 | .cell a t=>do loadVar t (<- asAddr (tmps.getD a undef))
theorem wQ (fn:Func) (tmps:Array Value):results fn tmps=(do let vs <- fn.results.mapM (zeA tmps);pure (if h:vs.size=1 then vs[0] else .tuple vs)):=by
 congr 1
theorem qu {φ:aQ}{n:Nat}{w:World}{M0:Nat->Prop}{h:au} (hH:m8 φ n w M0 h){e:dg}{tmps:Array Value} (he:∀t,bY φ w (Or M0 (bc φ h)) (e t) (tmps.getD t undef)):
  ∀ (rs:List ResultVar),(wc P e h rs).1->∃vs,(rs.mapM (zeA tmps)).run P w= .ok vs w∧aU φ w (Or M0 (bc φ h)) (wc P e h rs).2 vs
 | [], _=>⟨[],gt, .nil⟩
 | .tmp t::rs,hc=>by
  obtain ⟨vs,h1,h2⟩:=qu hH he rs hc;refine ⟨tmps.getD t undef::vs, ?_, .cons (he t) h2⟩;grind [zeA,Sem.run_bind,Sem.run_pure,Result.andThen_ok]
 | .cell a t::rs,hc=>by
  obtain ⟨hc1,hc2⟩:=hc;obtain ⟨vs,h1,h2⟩:=qu hH he rs hc2;obtain ⟨u,h3,h4, _, _⟩:=Hs (P:=P) (t:=t) hH (he a) hc1;refine ⟨u::vs, ?_, .cons h4 h2⟩;grind [RG,Sem.run_bind,zeA,Result.andThen_ok,Sem.run_pure]
theorem HW {φ:aQ}{vs:List Value} (h:aU φ w M xs vs):
  bY φ w M (Mk xs) (if h:(⟨vs⟩:Array Value).size=1 then (⟨vs⟩:Array Value)[0] else .tuple ⟨vs⟩):=by
 cases h with
 |nil=>exact .tup .nil
 |cons h t=>
  cases t with
  |nil=>grind [Mk]
  |cons h' t'=>simpa [Mk] using bY.tup (.cons h (.cons h' t'))

theorem Bt {φ:aQ}{w:World}{M:Nat->Prop}:∀ {xs:List AV}{vs:List Value} (_:aU φ w M xs vs) (i t:Nat),Ar i xs t= .top∨∃k,t=i+k∧∃ (hk:k<xs.length) (hk':k<vs.length),Ar i xs t=xs[k]∧bY φ w M xs[k] vs[k]
 | [], _, _,i,t=> .inl rfl
 |x::xs, _, .cons h ht,i,t=>by
  simp only [Ar,aC];by_cases e:t=i
  ·subst e;grind
  ·rcases Bt ht (i+1) t with h1|⟨k,rfl,hk,hk',h1,h2⟩;all_goals grind

theorem Ny:∀ {xs:List AV}{i t:Nat},i+xs.length<=t->Ar i xs t= .top
 | [], _, _, _=>rfl
 |x::xs,i,t,h=>by
  simp only [List.length_cons] at h;simp only [Ar,aC];rw [if_neg ge];exact Ny ge
theorem pl {P:Program}{F:Fence}{n:Nat}{fn:Func}{tmps:Array Value}{R:Ending->World->Prop}{lo:Nat}{M:Nat->Prop}:∀ {ds:List Deferred}{w:World},pI lo M ds w->
  (∀w',NC lo w w'->∃v,(results fn tmps).run P w'= .ok v w'∧R (.returned v) w')->LeavesInM F n P fn tmps R ds .returning w
 | [],w, _,h=>h w (.refl lo w)
 |d::ds,w,hm,h=>by
  obtain ⟨hp,hd⟩:=hm;rw [List.pairwise_cons] at hp;obtain ⟨D,e1,e0,e2,e3⟩:=hd d gt;have hnc:NC lo w (w.putObj D (.deferred none)):= .putObj _ e0 e3 gt gt;refine ⟨gt, .inl ⟨D, _,by rw [e1],run_takeDeferred e3,pl (M:=M) ⟨hp.2,λ d' hd'=> ?_⟩ λ w' hn=>h w' (hnc.trans hn)⟩⟩;obtain ⟨D',k1,k0,k2,k3⟩:=hd d' (by simp [hd']);refine ⟨D',k1,k0,k2,(World.putObj_heap_other ?_).trans k3⟩;rintro rfl;exact hp.1 d' hd' (e1.trans k1.symm)
def zbW (P:Program) (φ:aQ) (w:World) (M0:Nat->Prop) (h:au) (n0:Nat) (fresh:∀o,n0<=o->φ o=none):jM P where
 n0:=n0
 lo:=w.heap.size
 round:=none
 ok0 g M O φ' w' h':=g= .top∧M=M0∧(∀k,O k->bc φ h k∨w.heap.size<=k)∧fm φ w M0 h φ' w' h'
 isG0 hk:= .inl hk.1
 step0 hk st:=by
  obtain ⟨h1,rfl,h2,h3⟩:=hk;exact ⟨h1,rfl,h2,h3.trans st⟩
 forget0:=by
  rintro g g' M O φ1 w1 h1 φ2 h2 n' ⟨e1,rfl,hO,st⟩ hg h3 h4 hn;refine ⟨pi,rfl,hO, ?_,λ k hk=> ?_,st.fr,λ k hk=>st.mutd k (h3 k hk)⟩
  ·intro o x hx;obtain ⟨x',hx',l1,l2⟩:=st.le o x hx;grind
  ·rcases hk with hk|hk
   ·grind [Or]
   ·exact st.or k (.inr (h3 k hk))
 yld0 hk:=by cases hk.1
 exh0 hk:=by cases hk.1
 oth0:=by
  rintro g M O O' φ' w1 w2 h1 ⟨e1,rfl,hO,st⟩ hfr hO';have hs:=st.fr.size;exact ⟨e1,rfl,λ k hk=>(hO' k hk).elim (hO k) (λ h=> .inr ge),st.le,st.or,
   ⟨hfr.os.trans st.fr.os,hfr.tape.trans st.fr.tape,hfr.output.trans st.fr.output,Nat.le_trans st.fr.drawn hfr.drawn,Nat.le_trans hs hfr.size,λ k hk hu=>(hfr.block k ge (λ h=>(hO k h).elim hu (λ h=>by omega))).trans (st.fr.block k hk hu)⟩,st.mutd⟩
 give0:=by
  rintro g M O O' φ' w1 h1 h2 ⟨e1,rfl,hO,st⟩ hO' hm;refine ⟨e1,rfl,λ k hk=>(hO' k hk).elim (hO k) (st.mutd k),st.le,λ k hk=>hk.elim (λ h=> .inl (.inl h)) (λ h=>st.or k (.inr (hm k h))),st.fr,λ k hk=>st.mutd k (hm k hk)⟩
 nc0:=by
  rintro g M O φ' w1 w2 h1 ⟨e1,rfl,hO,st⟩ hn;exact ⟨e1,rfl,hO,st.nc hn⟩
 lo0 hk:=hk.2.2.2.fr.size
 rec0 _ h:=WP
theorem zhu (hmix:P.follows .mixedOrders=true){h:au}{K:cI} (hf:P.funcs[f]? =some fn) (hb:fn.body=some c) (hname:(fn.name== "runtime.NumGoroutine")=false)
  (hN:args.length<=fn.ntmps) (hd:vv fn.ntmps c=true) (hh:iG P n c (Na P fn.results.toList K) (Ar 0 args) h n) (hG:fn.ntmps<=GH:=by exact Nat.le_of_ble_eq_true rfl):ap P f args h n K:=by
 refine ⟨qe hf hb hname,λ M0 φ w vs hH hargs=> ?_⟩;have hlen:=hargs.length;let B:jM P:=zbW P φ w M0 h n hH.fresh
 have hsr:SR B fn.ntmps M0 φ (Ar 0 args) h n { tmps:=⟨vs⟩++Array.replicate (fn.ntmps - (⟨vs⟩:Array Value).size) undef,defers:= []} w:=by
  refine ⟨λ t=> ?_,pi,pI.nil,hH,⟨M0,λ _=>False,(oC M0).symm,Ny ge,rfl,λ _ h=>h.elim, .refl _ _ _ _⟩,hG⟩;rcases Bt hargs 0 t with h1|⟨k,rfl,hk,hk',h1,h2⟩
  ·rw [h1];exact .top _
  ·have:((⟨vs⟩:Array Value)++Array.replicate (fn.ntmps - (⟨vs⟩:Array Value).size) undef).getD (0+k) undef=vs[k]:=by
    simp_all [Array.getElem?_append]
   grind
 have hw:=za (P:=P) hmix (B:=B) (N:=fn.ntmps) (m:=0) hd hsr hh;refine callsIn_wide.1 (callsIn_of_wp_marks (F:=WF none) (n:=0) hf hb trivial (wpIn_mono hw ?_) rfl);rintro ex a' w' ⟨M,φ',e',h',n',hs',hq⟩;have fin:(wc P e' h' fn.results.toList).1∧K (Mk (wc P e' h' fn.results.toList).2) h' n'->LeavesInM (WF none) 0 P fn a'.tmps (λ e w'=>∃v_1 φ'_1 r h'_1 n'_1,e=Ending.returned v_1∧K r h'_1 n'_1∧m8 φ'_1 n'_1 w' M0 h'_1∧bY φ'_1 w' (Or M0 (bc φ'_1 h'_1)) r v_1∧fm φ w M0 h φ'_1 w' h'_1) a'.defers .returning w':=by
  rintro ⟨q1,q2⟩;obtain ⟨M1,O,rfl, _,rfl, _,hst⟩:=hs'.ok;refine pl hs'.defs λ w'' hn=> ?_;have hsub:∀k,Or M1 (bc φ' h') k->Or (Or M1 O) (bc φ' h') k:=λ k hk=>hk.imp .inl id;have hHm:m8 φ' n' w' M1 h':=hs'.heap.lessM λ k hk=> .inl hk;obtain ⟨us,h1,h2⟩:=qu (P:=P) (hHm.nc hn) (λ t=>((hs'.env t).lessM hsub).nc hn) fn.results.toList q1;refine ⟨_, ?_, _,φ', _,h',n',rfl,q2,hHm.nc hn,HW h2,hst.nc hn⟩;grind [wQ,Array.mapM_eq_mapM_toList,Sem.run_bind,Sem.run_map,Sem.run_pure,Result.andThen_ok]
 cases ex with
 |normal=>exact fin hq
 |ret=>exact fin hq
 | _=>exact hq.elim
end

theorem yi  (hM:∀k,M k->k<w.heap.size) (hg:u9 w M):m8 rT 0 w M dO:=
 ⟨hM,λ _ _=>rfl,(λ o mt g sz rs ho=>by cases ho),(λ o o' mt g sz rs mt' g' sz' rs' a a' b b' ho=>by cases ho),
  hg.keep (λ _ _ _=>rfl) (λ k hk=> .inl (hk.elim id λ h=>(cA h).elim))⟩

def zdq (P:Program) (rs:List ResultVar) (l more:Nat):c7
 | .normal,e,h,n| .ret,e,h,n=>(wc P e h rs).1∧((more=0∧e GH=dY l 0 [])∨e GH=dY l 2 [])
 | _, _, _, _=>False
theorem vJ {l l' m m':Nat}{r r':List (List AV)} (h:dY l m r=dY l' m' r'):l=l'∧m=m'∧r=r':=by
 grind [dY]
def zb8 (P:Program) (w:World) (l more:Nat) (J:List (List AV)->fF->fF->World->Prop) (Jx:fF->fF->World->Prop)
  (hJ:∀rs M O O' w1 w2,J rs M O w1->Fr w1 O w2->(∀k,O' k->O k∨w1.heap.size<=k)->J rs M O' w2)
  (hJx:∀M O O' w1 w2,Jx M O w1->Fr w1 O w2->(∀k,O' k->O k∨w1.heap.size<=k)->Jx M O' w2)
  (hn:∀rs M O w1 w2,J rs M O w1->NC w.heap.size w1 w2->J rs M O w2) (hnx:∀M O w1 w2,Jx M O w1->NC w.heap.size w1 w2->Jx M O w2)
  (hr:∀ (r:Option Nat) (m:Nat) xs rest M O w1 vs,J (xs::rest) M O w1->(∀k,O k->k<w1.heap.size)->aU rT w1 (Or M O) xs vs->
   ∃fn tmps assign body,(Instr.yield l ⟨vs⟩).run P w1= .ok (.round l fn tmps assign body) w1∧RoundIn (WF r) m P l fn tmps assign body w1 λ e w'=>
    ∃b M',e= .returned (.bool b)∧rL M w1 M' w'∧if b then J rest M' O w' else Jx M' O w')
  (hm:more=1->∀M O w1,¬J [] M O w1):jM P where
 n0:=0
 lo:=w.heap.size
 round:=none
 ok0 g M O φ w1 h:=w.heap.size<=w1.heap.size∧w1.os=w1.os∧((∃rs,g=dY l more rs∧J rs M (Or O (bc φ h)) w1)∨(g=dY l 2 []∧Jx M (Or O (bc φ h)) w1)∨g= .top)
 isG0:=by
  grind [dY,IsG]
 step0:=by
  rintro g M O φ w1 h φ' w2 h' ⟨h1, _,h2⟩ st;have hfr:Fr w1 (Or O (bc φ h)) w2:=st.fr.more λ k hk=> .inr hk;have hO:∀k,Or O (bc φ' h') k->Or O (bc φ h) k∨w1.heap.size<=k:=λ k hk=>hk.elim (λ h=> .inl (.inl h)) λ h=>(st.mutd k h).imp .inr id;exact ⟨Nat.le_trans h1 st.fr.size,rfl,h2.imp (λ ⟨rs,e,h⟩=>⟨rs,e,hJ _ _ _ _ _ _ h hfr hO⟩) (λ h=>h.imp (λ h=>⟨h.1,hJx _ _ _ _ _ h.2 hfr hO⟩) id)⟩
 forget0:=by
  rintro g g' M O φ w1 h φ' h' n' ⟨h1, _,h2⟩ hg h3 h4 _;have hO:∀k,Or O (bc φ' h') k->Or O (bc φ h) k∨w1.heap.size<=k:=λ k hk=> .inl (hk.imp id (h3 k));rcases hg with rfl|rfl
  ·exact ⟨h1,rfl,h2.imp (λ ⟨rs,e,h⟩=>⟨rs,e,hJ _ _ _ _ _ _ h (Fr.refl _ _) hO⟩) (λ h=>h.imp (λ h=>⟨h.1,hJx _ _ _ _ _ h.2 (Fr.refl _ _) hO⟩) id)⟩
  grind
 yld0:=by
  rintro r m l' more' xs rest M O φ w1 h n vs ⟨h1, _,⟨rs,e,h2⟩|⟨e, _⟩|e⟩ hH hv
  ·obtain ⟨rfl,rfl,rfl⟩:=vJ e;obtain ⟨fn,tm,asg,body,k1,k2⟩:=hr r m xs rest M _ w1 vs h2 (λ k hk=>hk.elim (λ h=>hH.m0 k (.inr h)) λ h=>hH.blk (.inr h)) (by grind [DB]);refine ⟨fn,tm,asg,body,k1,k2.mono ?_⟩;rintro en w2 ⟨b,M',e1,g,hk⟩;refine ⟨b,M',e1,g,Nat.le_trans h1 g.size,rfl, ?_⟩;grind
  all_goals grind [dY]
 exh0:=by
  grind [dY]
 oth0:=by
  rintro g M O O' φ w1 w2 h ⟨h1, _,h2⟩ hfr hO;have hfr':Fr w1 (Or O (bc φ h)) w2:=hfr.more λ k hk=> .inl hk;have hO':∀k,Or O' (bc φ h) k->Or O (bc φ h) k∨w1.heap.size<=k:=λ k hk=>hk.elim (λ h=>(hO k h).imp .inl id) λ h=> .inl (.inr h);exact ⟨Nat.le_trans h1 hfr.size,rfl,h2.imp (λ ⟨rs,e,h⟩=>⟨rs,e,hJ _ _ _ _ _ _ h hfr' hO'⟩) (λ h=>h.imp (λ h=>⟨h.1,hJx _ _ _ _ _ h.2 hfr' hO'⟩) id)⟩
 nc0:=by
  rintro g M O φ w1 w2 h ⟨h1, _,h2⟩ hnc;exact ⟨by rw [hnc.size];exact h1,rfl,h2.imp (λ ⟨rs,e,h⟩=>⟨rs,e,hn _ _ _ _ _ h hnc⟩) (λ h=>h.imp (λ h=>⟨h.1,hnx _ _ _ _ h.2 hnc⟩) id)⟩
 give0:=by
  rintro g M O O' φ w1 h h' ⟨h1, _,h2⟩ hO' hm;have hO:∀k,Or O' (bc φ h') k->Or O (bc φ h) k∨w1.heap.size<=k:=λ k hk=> .inl (hk.elim (hO' k) λ h=> .inr (hm k h));exact ⟨h1,rfl,h2.imp (λ ⟨rs,e,h⟩=>⟨rs,e,hJ _ _ _ _ _ _ h (Fr.refl _ _) hO⟩) (λ h=>h.imp (λ h=>⟨h.1,hJx _ _ _ _ _ h.2 (Fr.refl _ _) hO⟩) id)⟩
 lo0 h:=h.1
 rec0 _ h:=WP
variable {rows:List (List AV)}
theorem zhy {P:Program} (hmix:P.follows .mixedOrders=true) (hf:P.funcs[f]? =some fn) (hb:fn.body=some c) (hname:(fn.name== "runtime.NumGoroutine")=false)
  (hN:caps.length+1<=fn.ntmps) (hd:vv fn.ntmps c=true)
  (hh:∀l,iG P 0 c (zdq P fn.results.toList l more) (aC (Ar 0 (.fn (.yield l) [] []::caps)) GH (dY l more rows)) dO 0) (hG:fn.ntmps<=GH:=by exact Nat.le_of_ble_eq_true rfl) (hm2:more≠2:=by decide):K8 P f caps more rows:=by
 refine ⟨qe hf hb hname,λ w M0 cvs l J Jx hM0 hgl hcaps hJ hJx hn hnx hr hm h0=> ?_⟩;have hlen:=hcaps.length;let B:jM P:=zb8 P w l more J Jx hJ hJx hn hnx hr hm
 have hargs:aU rT w (Or M0 (bc rT dO)) (.fn (.yield l) [] []::caps) (.func (.yield l) #[] #[]::cvs):=
  .cons (.fn .nil .nil) (hcaps.keep rT.le_refl (λ _ _ _=>rfl) λ k hk=> .inl (hk.elim id λ h=>(cA h).elim))
 have hsr:SR B fn.ntmps M0 rT (aC (Ar 0 (.fn (.yield l) [] []::caps)) GH (dY l more rows)) dO 0
   { tmps:=⟨.func (.yield l) #[] #[]::cvs⟩++Array.replicate (fn.ntmps - (⟨.func (.yield l) #[] #[]::cvs⟩:Array Value).size) undef,defers:= []} w:=by
  refine ⟨λ t=> ?_,pi,pI.nil,yi hM0 hgl,⟨M0,λ _=>False,(oC M0).symm,Nat.le_refl _,rfl, .inl ⟨rows,by rw [cZ],hJ _ _ _ _ _ _ h0 (Fr.refl _ _) λ k hk=> .inl (hk.elim id λ h=>(cA h).elim)⟩⟩,hG⟩;by_cases ht:t=GH
  ·subst ht;rw [cZ,Array.getD_eq_getD_getElem?,Array.getElem?_eq_none pi];exact .gd (λ h=>by cases h) (λ _=>rfl)
  rw [ja _ _ ht];rcases Bt hargs 0 t with h1|⟨k,rfl,hk,hk',h1,h2⟩
  ·rw [h1];exact .top _
  ·have:((⟨.func (.yield l) #[] #[]::cvs⟩:Array Value)++Array.replicate (fn.ntmps - (⟨.func (.yield l) #[] #[]::cvs⟩:Array Value).size) undef).getD (0+k) undef=(Value.func (.yield l) #[] #[]::cvs)[k]:=by
    simp only [List.length_cons] at hk';simp_all [Array.getElem?_append]
   grind
 have hw:=za (P:=P) hmix (B:=B) (N:=fn.ntmps) (m:=0) hd hsr (hh l);refine callsIn_wide.1 (callsIn_of_wp_marks (F:=WF none) (n:=0) hf hb trivial (wpIn_mono hw ?_) rfl);rintro ex a' w' ⟨M,φ',e',h',n',hs',hq⟩;have fin:(wc P e' h' fn.results.toList).1∧((more=0∧e' GH=dY l 0 [])∨e' GH=dY l 2 [])->
   LeavesInM (WF none) 0 P fn a'.tmps (λ e w'=>(∃v,e= .returned v)∧∃M' O',(∀k,O' k->k<w'.heap.size)∧((more=0∧J [] M' O' w')∨Jx M' O' w')) a'.defers .returning w':=by
  rintro ⟨q1,q2⟩;obtain ⟨Mc,O,rfl, _, _,hst⟩:=hs'.ok;refine pl hs'.defs λ w'' hnc=> ?_;obtain ⟨us,h1,h2⟩:=qu (P:=P) (hs'.heap.nc hnc) (λ t=>(hs'.env t).nc hnc) fn.results.toList q1;refine ⟨if h:(⟨us⟩:Array Value).size=1 then (⟨us⟩:Array Value)[0] else .tuple ⟨us⟩, ?_,⟨_,rfl⟩,Mc,Or O (bc φ' h'),λ k hk=> ?_, ?_⟩
  ·grind [wQ,Array.mapM_eq_mapM_toList,Sem.run_bind,Sem.run_map,Sem.run_pure,Result.andThen_ok]
  ·rw [hnc.size];exact hk.elim (λ h=>hs'.heap.m0 k (.inr h)) λ h=>hs'.heap.blk (.inr h)
  ·rcases hst with ⟨rs,e1,h⟩|⟨e1,h⟩|e1
   ·rw [e1] at q2;rcases q2 with ⟨e2,q2⟩|q2
    ·obtain ⟨_, _,rfl⟩:=vJ q2;exact .inl ⟨e2,hn _ _ _ _ _ h hnc⟩
    grind [vJ]
   ·exact .inr (hnx _ _ _ _ h hnc)
   ·rw [e1] at q2;rcases q2 with ⟨_,q2⟩|q2<;>cases q2
 cases ex with
 |normal=>exact fin hq
 |ret=>exact fin hq
 | _=>exact hq.elim

theorem zhO {P:Program} (hmix:P.follows .mixedOrders=true){HO:List (Nat×cB)}{k0:Nat} (hf:P.funcs[f]? =some fn) (hb:fn.body=some c) (hname:(fn.name== "runtime.NumGoroutine")=false)
  (hN:caps.length+1<=fn.ntmps) (hd:vv fn.ntmps c=true)
  (hh:∀l,iG P 0 c (zdq P fn.results.toList l more) (aC (Ar 0 (.fn (.yield l) [] []::caps)) GH (dY l more rows)) (fh HO) k0) (hG:fn.ntmps<=GH:=by exact Nat.le_of_ble_eq_true rfl) (hm2:more≠2:=by decide):ML P f caps HO k0 more rows:=by
 refine ⟨qe hf hb hname,λ φ w M0 cvs l J Jx hH0 hcaps hJ hJx hn hnx hr hm h0=> ?_⟩;have hlen:=hcaps.length;let B:jM P:=zb8 P w l more J Jx hJ hJx hn hnx hr hm
 have hargs:aU φ w (Or M0 (bc φ (fh HO))) (.fn (.yield l) [] []::caps) (.func (.yield l) #[] #[]::cvs):= .cons (.fn .nil .nil) hcaps;have hsr:SR B fn.ntmps M0 φ (aC (Ar 0 (.fn (.yield l) [] []::caps)) GH (dY l more rows)) (fh HO) k0
   { tmps:=⟨.func (.yield l) #[] #[]::cvs⟩++Array.replicate (fn.ntmps - (⟨.func (.yield l) #[] #[]::cvs⟩:Array Value).size) undef,defers:= []} w:=by
  refine ⟨λ t=> ?_,pi,pI.nil,hH0,⟨M0,λ _=>False,(oC M0).symm,Nat.le_refl _,rfl, .inl ⟨rows,by rw [cZ],hJ _ _ _ _ _ _ h0 (Fr.refl _ _) λ k hk=> .inl (hk.elim False.elim id)⟩⟩,hG⟩;by_cases ht:t=GH
  ·subst ht;rw [cZ,Array.getD_eq_getD_getElem?,Array.getElem?_eq_none pi];exact .gd (λ h=>by cases h) (λ _=>rfl)
  rw [ja _ _ ht];rcases Bt hargs 0 t with h1|⟨k,rfl,hk,hk',h1,h2⟩
  ·rw [h1];exact .top _
  ·have:((⟨.func (.yield l) #[] #[]::cvs⟩:Array Value)++Array.replicate (fn.ntmps - (⟨.func (.yield l) #[] #[]::cvs⟩:Array Value).size) undef).getD (0+k) undef=(Value.func (.yield l) #[] #[]::cvs)[k]:=by
    simp only [List.length_cons] at hk';simp_all [Array.getElem?_append]
   grind
 have hw:=za (P:=P) hmix (B:=B) (N:=fn.ntmps) (m:=0) hd hsr (hh l);refine callsIn_wide.1 (callsIn_of_wp_marks (F:=WF none) (n:=0) hf hb trivial (wpIn_mono hw ?_) rfl);rintro ex a' w' ⟨M,φ',e',h',n',hs',hq⟩;have fin:(wc P e' h' fn.results.toList).1∧((more=0∧e' GH=dY l 0 [])∨e' GH=dY l 2 [])->
   LeavesInM (WF none) 0 P fn a'.tmps (λ e w'=>(∃v,e= .returned v)∧∃M' O',(∀k,O' k->k<w'.heap.size)∧((more=0∧J [] M' O' w')∨Jx M' O' w')) a'.defers .returning w':=by
  rintro ⟨q1,q2⟩;obtain ⟨Mc,O,rfl, _, _,hst⟩:=hs'.ok;refine pl hs'.defs λ w'' hnc=> ?_;obtain ⟨us,h1,h2⟩:=qu (P:=P) (hs'.heap.nc hnc) (λ t=>(hs'.env t).nc hnc) fn.results.toList q1;refine ⟨if h:(⟨us⟩:Array Value).size=1 then (⟨us⟩:Array Value)[0] else .tuple ⟨us⟩, ?_,⟨_,rfl⟩,Mc,Or O (bc φ' h'),λ k hk=> ?_, ?_⟩
  ·grind [wQ,Array.mapM_eq_mapM_toList,Sem.run_bind,Sem.run_map,Sem.run_pure,Result.andThen_ok]
  ·rw [hnc.size];exact hk.elim (λ h=>hs'.heap.m0 k (.inr h)) λ h=>hs'.heap.blk (.inr h)
  ·rcases hst with ⟨rs,e1,h⟩|⟨e1,h⟩|e1
   ·rw [e1] at q2;rcases q2 with ⟨e2,q2⟩|q2
    ·obtain ⟨_, _,rfl⟩:=vJ q2;exact .inl ⟨e2,hn _ _ _ _ _ h hnc⟩
    grind [vJ]
   ·exact .inr (hnx _ _ _ _ h hnc)
   ·rw [e1] at q2;rcases q2 with ⟨_,q2⟩|q2<;>cases q2
 cases ex with
 |normal=>exact fin hq
 |ret=>exact fin hq
 | _=>exact hq.elim

theorem br.up {φ:aQ}{M0:Nat->Prop}{h:au} (hH:m8 φ 0 w M0 h):m8 φ n w M0 h:=⟨hH.m0,λ o _=>hH.fresh o (Nat.zero_le _),hH.obj,hH.inj,hH.glob⟩
variable {r:AV}
theorem zhN {P:Program} (hc:ap P f args dO n λ r' h' n'=>eY h' dO n' r' r∧aN 0 r):aq P f args r:=by
 refine ⟨hc.1,λ M w vs hM hgl hargs=>(hc.2 M rT w vs (yi hM hgl).up (hargs.keep rT.le_refl (λ _ _ _=>rfl) (λ k hk=>hk.elim .inl λ h=>(cA h).elim))).mono ?_⟩;rintro e w' ⟨v,φ',r',h',n',rfl,⟨hle,hb⟩,hH,hx,st⟩;have hk:Wk (λ _=>r') h' n' [(0,r)] [] 0:=⟨λ p hp=>by simp at hp;subst hp;exact ⟨hle,hb⟩,λ p hp=>by cases hp⟩
 obtain ⟨φ'',h1,h2,h3, _⟩:=hk.sound hH (tmps:=λ _=>v) (λ _=>hx);refine ⟨v,rfl, ?_, ?_⟩
 ·have:=h2 0;refine this.keep (λ o x ho=> ?_) (λ _ _ _=>rfl) (λ k hk=> .inl (.inl hk));rw [h1.fresh o (Nat.zero_le _)] at ho;cases ho
 ·exact ⟨st.fr.os,st.fr.tape,st.fr.output,st.fr.drawn,st.fr.size,λ k hk _=>st.fr.block k hk cA⟩
theorem aq.of {P:Program} (hc:ap P f args dO 0 λ r' h' n'=>eY h' dO n' r' r∧aN 0 r):aq P f args r:=zhN hc

theorem zhi {P:Program}{h:au}{K:cI} (hp:aq P f args' r) (hfl:Bi r) (hle:aY h dO n args args') (hb:∀c ∈ args',aN 0 c)
  (hk:K r h n):ap P f args h n K:=by
 refine ⟨hp.1,λ M0 φ w vs hH hargs=> ?_⟩;have h1:=jc (h':=dO) hH (λ o g sz rs ho=>by cases ho) hle hb hargs;refine (hp.2 _ w vs (λ k hk=>hk.elim (hH.m0 k) λ h=>(cA h).elim) (hH.glob.keep (λ _ _ _=>rfl) (λ k hk=> .inl (hk.imp id λ h=>(cA h).elim))) h1).mono ?_;rintro e w' ⟨v,rfl,hr,hfr⟩;have st:fm φ w M0 h φ w' h:=⟨φ.le_refl,λ k hk=> .inl hk,⟨hfr.os,hfr.tape,hfr.output,hfr.drawn,hfr.size,λ k hk _=>hfr.block k hk (λ h=>h)⟩,λ k hk=> .inl hk⟩
 exact ⟨v,φ,r,h,n,rfl,hk,hH.keepw st (λ k hk=>hfr.block k hk λ h=>h),hfl.rel hr,st⟩

theorem ap.pure {P:Program}{h:au}{K:cI} (h':au) (hp:aq P f args' r) (hfz:zH h h') (hle:aY h h' n args args') (hb:∀c ∈ args',aN 0 c)
  (hk:K r h' n):ap P f args h n K:=by
 refine ⟨hp.1,λ M0 φ w vs hH hargs=> ?_⟩;obtain ⟨hH',st0⟩:=hH.freeze hfz;have hmt:∀o g sz rs,h' o=some (.rows true g sz rs)->h o=some (.rows true g sz rs):=by
  grind [zH]
 have h1:=jc (h':=h') hH hmt hle hb hargs;refine (hp.2 _ w vs (λ k hk=>hH'.blk hk) hH'.glob h1).mono ?_;rintro e w' ⟨v,rfl,hr,hfr⟩;have st:fm φ w M0 h' φ w' h':=⟨φ.le_refl,λ k hk=> .inl hk,⟨hfr.os,hfr.tape,hfr.output,hfr.drawn,hfr.size,λ k hk _=>hfr.block k hk (λ h=>h)⟩,λ k hk=> .inl hk⟩
 refine ⟨v,φ,r,h',n,rfl,hk,hH'.keepw st (λ k hk=>hfr.block k hk λ h=>h), ?_,st0.trans st⟩;exact hr.keep (λ o x ho=>by cases ho) (λ _ _ _=>rfl) (λ k hk=> .inl hk)
theorem zg7 {P:Program}{h:au}{K:cI} (hp:aq P f args r) (hb:∀c ∈ args,aN 0 c) (hk:K r h n):ap P f args h n K:=
 ap.pure h hp (.refl h) (.refl _ _ _ _) hb hk

theorem zhD {P:Program}{h:au}{K K':cI}{R0 R:AV}{H0 HH:List (Nat×cB)} (h':au) (hp:ap P f args' dO 0 K')
  (hk':∀r h1 n',K' r h1 n'->Wk (λ _=>r) h1 n' [(0,R0)] H0 k2) (hR:Sh n R0 R) (hHH:Qk n H0 HH) (hfz:zH h h') (hle:aY h h' n args args') (hb:∀c ∈ args',aN 0 c)
  (hk:K R (dL HH h') (n+k2)):ap P f args h n K:=by
 refine ⟨hp.1,λ M0 φ w vs hH hargs=> ?_⟩;obtain ⟨hH',st0⟩:=hH.freeze hfz;have hmt:∀o g sz rs,h' o=some (.rows true g sz rs)->h o=some (.rows true g sz rs):=by
  grind [zH]
 have hv:=jc (h':=h') hH hmt hle hb hargs;have hM1:∀k,Or (Or M0 (bc φ h')) (bc rT dO) k->Or M0 (bc φ h') k:=λ k hk=>hk.elim id λ h=>(cA h).elim;have hH1:m8 rT 0 w (Or M0 (bc φ h')) dO:=yi (λ k hk=>hH'.blk hk) hH'.glob;refine (hp.2 _ rT w vs hH1 (hv.keep rT.le_refl (λ _ _ _=>rfl) (λ k hk=> .inl (hM1 k hk)))).mono ?_;rintro e w' ⟨v,φ1,r,h1,n',rfl,hK,hH2,hx,st⟩;obtain ⟨φ2,hH3,hx3,hm3, _⟩:=(hk' _ _ _ hK).sound hH2 (tmps:=λ _=>v) (λ _=>hx);have hx3:=hx3 0;simp only [Fb,cZ] at hx3;have hheap:∀k,k<w.heap.size->w'.heap[k]? =w.heap[k]? :=λ k hk=>st.fr.block k hk cA;let φ3:aQ:=λ o=>if o<n then φ o else φ2 (o - n)
 have e3:∀o,φ3 (n+o)=φ2 o:=λ o=>pi;have e3':∀o,o<n->φ3 o=φ o:=λ o ho=>if_pos ho;have hlt:∀o x,φ o=some x->o<n:=λ o x ho=>Nat.lt_of_not_le λ hle=>XM;have hle3:φ.le φ3:=λ o x ho=>⟨x,pi,Nat.le_refl _,λ _=>rfl⟩
 have hsrc:∀o y,dL HH h' o=some y->(∃o0 x,o=n+o0∧fh H0 o0=some x∧zdt n x y)∨(o<n∧h' o=some y):=by
  intro o x ho;rw [wO] at ho;split at ho
  ·rename_i y hy;cases ho;exact .inl (hHH.at hy)
  ·cases x with
   |rows mt g sz rs=>
    obtain ⟨A,hA, _⟩:=hH'.obj _ _ _ _ _ ho;grind
 have hmut:∀k,bc φ3 (dL HH h') k->bc φ2 (fh H0) k∨bc φ h' k:=by
  rintro k ⟨o,g,sz,rs,g',a,bs,ho,hp,rfl⟩;rcases hsrc o _ ho with ⟨o0,x,rfl,h1,h2⟩|⟨h1,h2⟩
  ·cases h2 with
   |rows h2=>grind [bc]
  grind [bc]
 have hnew:∀k,bc φ2 (fh H0) k->w.heap.size<=k:=λ k hk=>(st.mutd k (hm3 k hk)).elim (λ h=>(cA h).elim) id;have hsub:∀k,Or M0 (bc φ3 (dL HH h')) k->Or (Or M0 (bc φ h')) (bc φ2 (fh H0)) k:=λ k hk=>hk.elim (λ h=> .inl (.inl h)) λ h=>(hmut k h).elim .inr λ h=> .inl (.inr h);have hsub':∀k,Or M0 (bc φ3 (dL HH h')) k->Or M0 (bc φ h') k∨w.heap.size<=k:=λ k hk=>hk.elim (λ h=> .inl (.inl h)) λ h=>(hmut k h).elim (λ h=> .inr (hnew k h)) λ h=> .inl (.inr h);have hblk:∀o x g' a bs,h' o=some x->φ o=some (g',some (a,bs))->a.block<w.heap.size:=by
  intro o x g' a bs ho hp;cases x with
  |rows mt g sz rs=>
   obtain ⟨A,hA,hc⟩:=hH'.obj _ _ _ _ _ ho;rw [hp] at hA;obtain ⟨rfl,rfl⟩:=hA;rcases hc with ⟨h, _⟩|⟨a',bs',h, _,h2⟩
   ·cases h
   ·obtain ⟨rfl,rfl⟩:=h;exact h2.blk
 have hfar:∀o0 mt g sz rs g' a bs o' y g1 a' b',fh H0 o0=some (.rows mt g sz rs)->φ2 o0=some (g',some (a,bs))->h' o'=some y->φ o'=some (g1,some (a',b'))->
   (mt=true∨∃g sz rs,y= .rows true g sz rs)->a.block≠a'.block:=by
  intro o0 mt g sz rs g' a bs o' y g1 a' b' q1 q2 q3 q4 hm;have hb':=hblk _ _ _ _ _ q3 q4;rcases hm with rfl|⟨g2,sz2,rs2,rfl⟩
  ·have:=hnew a.block ⟨o0,g,sz,rs, _,a,bs,q1,q2,rfl⟩;omega
  ·obtain ⟨A,hA,hc⟩:=hH3.obj _ _ _ _ _ q1;grind [Or,bc]
 refine ⟨v,φ3,R,dL HH h',n+k2,rfl,hk,⟨λ k hk=>Nat.lt_of_lt_of_le (hH.m0 k hk) st.fr.size,λ o ho=> ?_,λ o mt g sz rs ho=> ?_,λ o o' mt g sz rs mt' g' sz' rs' a a' b b' ho ho' hne hm hp hp'=> ?_,hH'.glob.keep (λ k _ hk=>hheap k hk) hsub'⟩,
  hR.rel (λ o x h=>(e3 o).trans h) hsub hx3,st0.trans ⟨hle3,hsub',⟨st.fr.os,st.fr.tape,st.fr.output,st.fr.drawn,st.fr.size,λ k hk _=>hheap k hk⟩,λ k hk=>(hmut k hk).elim (λ h=> .inr (hnew k h)) .inl⟩⟩
 ·obtain ⟨d,rfl⟩:=Nat.exists_eq_add_of_le (show n<=o by omega);rw [e3];exact hH3.fresh d ge
 ·rcases hsrc o _ ho with ⟨o0,x,rfl,h1,h2⟩|⟨h1,h2⟩
  ·cases h2 with
   |rows hs=>
    obtain ⟨A,hA,hc⟩:=hH3.obj _ _ _ _ _ h1;refine ⟨A,pi,hc.imp (λ h=>⟨h.1, ?_⟩) ?_⟩
    ·obtain ⟨_,rfl⟩:=h;exact List.eq_nil_of_length_eq_zero hs.shape.1
    ·rintro ⟨a,bs,c1,c3,hd⟩;exact ⟨a,bs,c1,λ hk=>c3 (.inl hk),hd.turn rfl hs.shape.1 (hs.shape.2 sz) (λ c9=>hs.rel (λ o x h=>(e3 o).trans h) hsub c9)⟩
  ·obtain ⟨A,hA,hc⟩:=hH'.obj _ _ _ _ _ h2;refine ⟨A,pi,hc.imp id ?_⟩;rintro ⟨a,bs,c1,c3,hd⟩;exact ⟨a,bs,c1,c3,hd.keep (hheap _ hd.blk) (λ c9=>c9.keep hle3 (λ k _ hk=>hheap k hk) hsub')⟩
 ·rcases hsrc o _ ho with ⟨o0,x,rfl,q1,q2⟩|⟨q1,q2⟩<;>rcases hsrc o' _ ho' with ⟨o0',x',rfl,q1',q2'⟩|⟨q1',q2'⟩
  ·cases q2;cases q2';rw [e3] at hp hp';exact hH3.inj _ _ _ _ _ _ _ _ _ _ _ _ _ _ q1 q1' ge hm hp hp'
  ·cases q2;grind
  ·cases q2';grind
  ·rw [e3' o q1] at hp;rw [e3' o' q1'] at hp';exact hH'.inj _ _ _ _ _ _ _ _ _ _ _ _ _ _ q2 q2' hne hm hp hp'

theorem zhC {P:Program}{h:au}{K K':cI}{R0 R:AV}{H0 HH:List (Nat×cB)} (hp:ap P f args' dO 0 K')
  (hk':∀r h1 n',K' r h1 n'->Wk (λ _=>r) h1 n' [(0,R0)] H0 k2) (hR:Sh n R0 R) (hHH:Qk n H0 HH) (hnR:lO R0) (hnH:∀p ∈ H0,FN p.2) (hle:aY h dO n args args') (hb:∀c ∈ args',aN 0 c)
  (hk:K R (dL HH h) (n+k2)):ap P f args h n K:=by
 refine ⟨hp.1,λ M0 φ w vs hH hargs=> ?_⟩;have hv:=jc (h':=dO) hH (λ o g sz rs ho=>by cases ho) hle hb hargs;have hM1:∀k,Or M0 (bc rT dO) k->M0 k:=λ k hk=>hk.elim id λ h=>(cA h).elim;have hM2:∀k,Or M0 (bc φ dO) k->M0 k:=λ k hk=>hk.elim id λ h=>(cA h).elim;have hH1:m8 rT 0 w M0 dO:=yi (λ k hk=>hH.m0 k hk) (hH.glob.keep (λ _ _ _=>rfl) (λ k hk=> .inl (.inl hk)));refine (hp.2 _ rT w vs hH1 (hv.keep rT.le_refl (λ _ _ _=>rfl) (λ k hk=> .inl (.inl (hM1 k hk))))).mono ?_;rintro e w' ⟨v,φ1,r,h1,n',rfl,hK,hH2,hx,st⟩;obtain ⟨φ2,hH3,hx3,hm3, _⟩:=(hk' _ _ _ hK).sound hH2 (tmps:=λ _=>v) (λ _=>hx);have hnw:∀k,bc φ2 (fh H0) k->w.heap.size<=k:=λ k hk=>(st.mutd k (hm3 k hk)).elim (λ h=>(cA h).elim) id;have hold:∀k,bc φ h k->k<w.heap.size:=λ k hk=>hH.blk (.inr hk);replace hH3:m8 φ2 k2 w' (Or M0 (bc φ h)) (fh H0):=hH3.widen (N:=w.heap.size) (λ o x ho=>hnH _ (uz ho)) hnw hold st.fr.size
  (hH.glob.keep (λ k _ hk=>st.fr.block k hk cA) (λ k hk=>hk.imp id (hnw k)))
 have hmt:∀o g sz rs,h o=some (.rows true g sz rs)->h o=some (.rows true g sz rs):=λ _ _ _ _ h=>h;have hH':=hH;have st0:fm φ w M0 h φ w h:=⟨φ.le_refl,λ k hk=> .inl hk,Fr.refl _ _,λ k hk=> .inl hk⟩
 replace hx3:∀i,bY φ2 w' (Or (Or M0 (bc φ h)) (bc φ2 (fh H0))) (Fb [(0,R0)] i) v:=λ i=>by
  have:=hx3 i;simp only [Fb,aC] at this ⊢;split
  ·rename_i hi;rw [if_pos hi] at this;exact hnR.rel this
  ·exact .top _
 have hx3:=hx3 0;simp only [Fb,cZ] at hx3;have hheap:∀k,k<w.heap.size->w'.heap[k]? =w.heap[k]? :=λ k hk=>st.fr.block k hk cA;let φ3:aQ:=λ o=>if o<n then φ o else φ2 (o - n)
 have e3:∀o,φ3 (n+o)=φ2 o:=λ o=>pi;have e3':∀o,o<n->φ3 o=φ o:=λ o ho=>if_pos ho;have hlt:∀o x,φ o=some x->o<n:=λ o x ho=>Nat.lt_of_not_le λ hle=>XM;have hle3:φ.le φ3:=λ o x ho=>⟨x,pi,Nat.le_refl _,λ _=>rfl⟩
 have hsrc:∀o y,dL HH h o=some y->(∃o0 x,o=n+o0∧fh H0 o0=some x∧zdt n x y)∨(o<n∧h o=some y):=by
  intro o x ho;rw [wO] at ho;split at ho
  ·rename_i y hy;cases ho;exact .inl (hHH.at hy)
  ·cases x with
   |rows mt g sz rs=>
    obtain ⟨A,hA, _⟩:=hH'.obj _ _ _ _ _ ho;grind
 have hmut:∀k,bc φ3 (dL HH h) k->bc φ2 (fh H0) k∨bc φ h k:=by
  rintro k ⟨o,g,sz,rs,g',a,bs,ho,hp,rfl⟩;rcases hsrc o _ ho with ⟨o0,x,rfl,h1,h2⟩|⟨h1,h2⟩
  ·cases h2 with
   |rows h2=>grind [bc]
  grind [bc]
 have hnew:∀k,bc φ2 (fh H0) k->w.heap.size<=k:=λ k hk=>(st.mutd k (hm3 k hk)).elim (λ h=>(cA h).elim) id;have hsub:∀k,Or M0 (bc φ3 (dL HH h)) k->Or (Or M0 (bc φ h)) (bc φ2 (fh H0)) k:=λ k hk=>hk.elim (λ h=> .inl (.inl h)) λ h=>(hmut k h).elim .inr λ h=> .inl (.inr h);have hsub':∀k,Or M0 (bc φ3 (dL HH h)) k->Or M0 (bc φ h) k∨w.heap.size<=k:=λ k hk=>hk.elim (λ h=> .inl (.inl h)) λ h=>(hmut k h).elim (λ h=> .inr (hnew k h)) λ h=> .inl (.inr h);have hblk:∀o x g' a bs,h o=some x->φ o=some (g',some (a,bs))->a.block<w.heap.size:=by
  intro o x g' a bs ho hp;cases x with
  |rows mt g sz rs=>
   obtain ⟨A,hA,hc⟩:=hH'.obj _ _ _ _ _ ho;rw [hp] at hA;obtain ⟨rfl,rfl⟩:=hA;rcases hc with ⟨h, _⟩|⟨a',bs',h, _,h2⟩
   ·cases h
   ·obtain ⟨rfl,rfl⟩:=h;exact h2.blk
 have hfar:∀o0 mt g sz rs g' a bs o' y g1 a' b',fh H0 o0=some (.rows mt g sz rs)->φ2 o0=some (g',some (a,bs))->h o'=some y->φ o'=some (g1,some (a',b'))->
   (mt=true∨∃g sz rs,y= .rows true g sz rs)->a.block≠a'.block:=by
  intro o0 mt g sz rs g' a bs o' y g1 a' b' q1 q2 q3 q4 hm;rcases hm with rfl|⟨g2,sz2,rs2,rfl⟩
  ·grind [bc]
  ·obtain ⟨A,hA,hc⟩:=hH3.obj _ _ _ _ _ q1;grind [Or,bc]
 refine ⟨v,φ3,R,dL HH h,n+k2,rfl,hk,⟨λ k hk=>Nat.lt_of_lt_of_le (hH.m0 k hk) st.fr.size,λ o ho=> ?_,λ o mt g sz rs ho=> ?_,λ o o' mt g sz rs mt' g' sz' rs' a a' b b' ho ho' hne hm hp hp'=> ?_,hH'.glob.keep (λ k _ hk=>hheap k hk) hsub'⟩,
  hR.rel (λ o x h=>(e3 o).trans h) hsub hx3,st0.trans ⟨hle3,hsub',⟨st.fr.os,st.fr.tape,st.fr.output,st.fr.drawn,st.fr.size,λ k hk _=>hheap k hk⟩,λ k hk=>(hmut k hk).elim (λ h=> .inr (hnew k h)) .inl⟩⟩
 ·obtain ⟨d,rfl⟩:=Nat.exists_eq_add_of_le (show n<=o by omega);rw [e3];exact hH3.fresh d ge
 ·rcases hsrc o _ ho with ⟨o0,x,rfl,h1,h2⟩|⟨h1,h2⟩
  ·cases h2 with
   |rows hs=>
    obtain ⟨A,hA,hc⟩:=hH3.obj _ _ _ _ _ h1;refine ⟨A,pi,hc.imp (λ h=>⟨h.1, ?_⟩) ?_⟩
    ·obtain ⟨_,rfl⟩:=h;exact List.eq_nil_of_length_eq_zero hs.shape.1
    ·rintro ⟨a,bs,c1,c3,hd⟩;exact ⟨a,bs,c1,λ hk=>c3 (.inl hk),hd.turn rfl hs.shape.1 (hs.shape.2 sz) (λ c9=>hs.rel (λ o x h=>(e3 o).trans h) hsub c9)⟩
  ·obtain ⟨A,hA,hc⟩:=hH'.obj _ _ _ _ _ h2;refine ⟨A,pi,hc.imp id ?_⟩;rintro ⟨a,bs,c1,c3,hd⟩;exact ⟨a,bs,c1,c3,hd.keep (hheap _ hd.blk) (λ c9=>c9.keep hle3 (λ k _ hk=>hheap k hk) hsub')⟩
 ·rcases hsrc o _ ho with ⟨o0,x,rfl,q1,q2⟩|⟨q1,q2⟩<;>rcases hsrc o' _ ho' with ⟨o0',x',rfl,q1',q2'⟩|⟨q1',q2'⟩
  ·cases q2;cases q2';rw [e3] at hp hp';exact hH3.inj _ _ _ _ _ _ _ _ _ _ _ _ _ _ q1 q1' ge hm hp hp'
  ·cases q2;grind
  ·cases q2';grind
  ·rw [e3' o q1] at hp;rw [e3' o' q1'] at hp';exact hH'.inj _ _ _ _ _ _ _ _ _ _ _ _ _ _ q2 q2' hne hm hp hp'

def uR (P:Program) (f:FuncId) (args:List AV) (R:Nat->AV) (HH:Nat->List (Nat×cB)) (k:Nat):Prop:=
 ap P f args dO 0 (λ r h n'=>Wk (λ _=>r) h n' [(0,R 0)] (HH 0) k)∧∀n,Sh n (R 0) (R n)∧Qk n (HH 0) (HH n)
variable {R:Nat->AV}
theorem zhG {P:Program}{h:au}{K:cI}{HH:Nat->List (Nat×cB)} (h':au) (hp:uR P f args' R HH k)
  (hfz:zH h h') (hle:aY h h' n args args') (hb:∀c ∈ args',aN 0 c) (hk:K (R n) (dL (HH n) h') (n+k)):ap P f args h n K:=
 zhD h' hp.1 (λ _ _ _ h=>h) (hp.2 n).1 (hp.2 n).2 hfz hle hb hk
theorem uR.pure {P:Program}{HH:Nat->List (Nat×cB)} (hp:uR P f args R HH k) (hle:eY (fh (HH 0)) dO k (R 0) r) (hb:aN 0 r):aq P f args r:=by
 refine ⟨hp.1.1,λ M w vs hM hgl hargs=>(hp.1.2 M rT w vs (yi hM hgl) (hargs.keep rT.le_refl (λ _ _ _=>rfl) (λ k hk=>hk.elim .inl λ h=>(cA h).elim))).mono ?_⟩;rintro e w' ⟨v,φ',r',h',n',rfl,hk,hH,hx,st⟩;obtain ⟨φ1,g1,g2, _, _⟩:=hk.sound hH (tmps:=λ _=>v) (λ _=>hx);have g2:=g2 0;have hk2:Wk (λ _=>R 0) (fh (HH 0)) k [(0,r)] [] 0:=⟨λ p hp=>by simp at hp;subst hp;exact ⟨hle,hb⟩,λ p hp=>by cases hp⟩
 obtain ⟨φ'',h1,h2,h3, _⟩:=hk2.sound g1 (tmps:=λ _=>v) (λ _=>g2);refine ⟨v,rfl, ?_, ?_⟩
 ·have:=h2 0;refine this.keep (λ o x ho=> ?_) (λ _ _ _=>rfl) (λ k hk=> .inl (.inl hk));rw [h1.fresh o (Nat.zero_le _)] at ho;cases ho
 ·exact ⟨st.fr.os,st.fr.tape,st.fr.output,st.fr.drawn,st.fr.size,λ k hk _=>st.fr.block k hk cA⟩
theorem zg8 {P:Program}{h:au}{K:cI}{HH:Nat->List (Nat×cB)} (hp:uR P f args R HH k)
  (hb:∀c ∈ args,aN 0 c) (hk:K (R n) (dL (HH n) h) (n+k)):ap P f args h n K:=
 zhG h hp (.refl h) (.refl _ _ _ _) hb hk
theorem zhA {P:Program}{sz:Nat}{h:au}{K:cI} (h1:rows≠ []->ap P f (.lst sz rows::xs) h n K)
  (h2:rows= []->∀A c,ap P f (.v (.slice A 0 c)::xs) h n K):ap P f (.lst sz rows::xs) h n K:=by
 by_cases hr:rows= []
 ·refine ⟨(h2 hr none 0).1,λ M0 φ w vs hH hargs=> ?_⟩;cases hargs with
  |cons hx ht=>
   cases hx with
   |nil _ A c=>exact (h2 hr A c).2 M0 φ w _ hH (.cons (.v _) ht)
   | @lst _ _ a len cap C T fz hs hM hb hrr hl hc hcap hv h=>
    have:len=0:=pi;subst this;exact (h2 hr (some a) cap).2 M0 φ w _ hH (.cons (.v _) ht)
 ·exact h1 hr
theorem pF {P:Program} (hf:P.funcs[f]? =some fn) (hh:iG P 0 c (Na P fn.results.toList λ r' h' n'=>eY h' dO n' r' r∧aN 0 r) (Ar 0 args) dO 0) (hmix:P.follows .mixedOrders=true:=by kernel_rfl) (hb:fn.body=some c:=by rfl) (hname:(fn.name== "runtime.NumGoroutine")=false:=by rfl) (hN:args.length<=fn.ntmps:=by exact Nat.le_of_ble_eq_true rfl) (hd:vv fn.ntmps c=true:=by kernel_rfl) (hG:fn.ntmps<=GH:=by exact Nat.le_of_ble_eq_true rfl):aq P f args r:=aq.of (zhu hmix hf hb hname hN hd hh hG)
end Go.Av
end
section
/- Our library, part 13: equations by which code is evaluated. -/
namespace Go.Av
open Go

variable {fv fv' r x:AV} {d:Tmp} {ats:Array TypeId} {op:Op} {f:FuncId} {args args' caps cs first xs y ys:List AV} {al k len o off sz:Nat} {F0 F1 F10 F2 F3 F4 F5 F6 F7 F8 F9 G X a c p:Prop} {b g mt t:Bool}
section
variable {P:Program} {n0:Nat} {Q:c7} {e:dg} {h:au} {n:Nat} {ops rest:List Oper}
def VC (a b:Prop):Prop:=a∧b
theorem zaS {b:Prop}:VC False b=False:=by simp [VC]
def VQ (a b:Prop):Prop:=a∧b
theorem zdw {b:Prop}:VQ True b=b:=by simp [VQ]
theorem VQ.mk {a b:Prop} (h1:a) (h2:a->b):VQ a b:=⟨h1,h2 h1⟩
@[congr] theorem zgG {b:Prop} (h1:a=c):VQ a b=VQ c b:=pi
theorem VC.mk {a b:Prop} (h1:a) (h2:a->b):VC a b:=⟨h1,h2 h1⟩
@[congr] theorem zgF {b:Prop} (h1:a=c):VC a b=VC c b:=by subst h1;rfl
def bm (t:Bool) (a b:Prop):Prop:=(t=true->a)∧(t=false->b)
theorem bm.mk {t:Bool}{a b:Prop} (h1:t=true->a) (h2:t=false->b):bm t a b:=⟨h1,h2⟩
theorem IW (vs:List AV) (i:Nat):vA (.tup vs) i=pJ.if (i<vs.length) (mZ vs i):=rfl
@[congr] theorem zgp {t':Bool}{b:Prop} (h:t=t'):bm t a b=bm t' a b:=by subst h;rfl
@[congr] theorem zgv {α:Type}{f:Nat->α}{x:α}{j j':Nat} (h:j=j'):aC f k x j=aC f k x j':=pi
theorem fW {α:Type} [Inhabited α] (x:α) (l:List α):ac (x::l) 0=x:=rfl
theorem dv {α:Type} [Inhabited α] (x:α) (l:List α) (k:Nat):ac (x::l) (k+1)=ac l k:=by simp [ac]
theorem zbu (x:AV) (l:List AV):mZ (x::l) 0=x:=rfl
theorem zbt (x:AV) (l:List AV) (k:Nat):mZ (x::l) (k+1)=mZ l k:=by simp [mZ]
theorem aJ {α β:Type} [Inhabited α] [Inhabited β] (f:α->β) (l:List α) (i:Nat) (h:i<l.length):ac (l.map f) i=f (ac l i):=by simp [ac,h]
theorem zdT {α:Type} [Inhabited α] (f:α->AV) (l:List α) (i:Nat) (h:i<l.length):mZ (l.map f) i=f (ac l i):=by simp [ac,mZ,h]
theorem dT {α:Type} [Inhabited α] (l:List α) (i:Nat) (h:i<l.length):ac l i=l[i]:=by simp [ac,h]
theorem am {α:Type} [Inhabited α] {l:List α}{i:Nat} (h:i<l.length):ac l i ∈ l:=Wx
def sU (P:Program) (ops:List Oper) (Q:c7) (rest:List Oper) (e:dg) (h:au) (n:Nat):Prop:=gP P ops Q rest e h n
def EY (P:Program) (n0:Nat) (c:Code) (Q:c7) (e:dg) (h:au) (n:Nat):Prop:=iG P n0 c Q e h n
theorem zdv:VC True (sU P ops Q rest e h n)=gP P ops Q rest e h n:=by simp [VC,sU]
theorem zhl  (h1:a) (h2:a->gP P ops Q rest e h n):VC a (sU P ops Q rest e h n):=⟨h1,h2 h1⟩
theorem Uq {a:Code}{y:Prop}:bm true (EY P n0 a Q e h n) y=iG P n0 a Q e h n:=by simp [bm,EY]
theorem Qo {b:Code}{y:Prop}:bm false y (EY P n0 b Q e h n)=iG P n0 b Q e h n:=by simp [bm,EY]
theorem zg4 {a b:Code} (h1:t=true->iG P n0 a Q e h n) (h2:t=false->iG P n0 b Q e h n):bm t (EY P n0 a Q e h n) (EY P n0 b Q e h n):=⟨h1,h2⟩
def Nm (P:Program) (ops:List Oper) (Q:c7) (rest:List Oper) (dst:Option Tmp) (r:pJ) (e:dg) (h:au) (n:Nat):Prop:=
  VC r.cond (gP P ops Q rest (put e dst r.val) (aB r.wr h) (n+r.al))
def sQ (P:Program) (ops:List Oper) (Q:c7) (rest:List Oper) (dst:Option Tmp) (g:Bool) (r:pJ) (e:dg) (h:au) (n:Nat):Prop:=
  VC (g=true->r.cond) (gP P ops Q rest (put e dst (.gd g r.val)) (aB (gW g r.wr) h) (n+gN g r.al))
def FX (P:Program) (ops:List Oper) (Q:c7) (rest:List Oper) (dst:Option Tmp) (fv:AV) (args:List AV) (e:dg) (h:au) (n:Nat):Prop:=
  rZ P fv args h n (λ r h' n'=>gP P ops Q rest (put e dst r) h' n')∨uO e fv args h n (λ e' r h'=>gP P ops Q rest (put e' dst r) h' n)
def Qp (P:Program) (ops:List Oper) (Q:c7) (rest:List Oper) (dst:Option Tmp) (l:Nat) (args:List AV) (e:dg) (h:au) (n:Nat):Prop:=
  uO e (.fn (.yield l) [] []) args h n (λ e' r h'=>gP P ops Q rest (put e' dst r) h' n)
theorem SV {e:dg}{a b:List AV}{h:au}{n:Nat}{K:dg->AV->au->Prop}:¬uO e (.fn (.func f) a b) args h n K:=by
  grind [uO]
def zaU (P:Program) (ops:List Oper) (Q:c7) (rest:List Oper) (dst:Option Tmp) (op:Op) (g:Option Bool) (e:dg) (h:au) (n:Nat):Prop:=
  match g with
  |none=>False
  |some g=>VQ (∀t ∈ gT op,EE g (e t)) (sQ P ops Q rest dst g (lK P n op (gE op e) h) e h n)

theorem zba:iG P n0 .skip Q e h n=Q .normal e h n:=rfl
theorem UD (l:Nat):iG P n0 (.label l) Q e h n=Q .normal e h n:=rfl
theorem Qv (id:Nat) (ops:List Oper):iG P n0 (.region id ops.toArray false) Q e h n=gP P ops Q ops e h n:=rfl
theorem zdF (a b:Code):iG P n0 (.seq a b) Q e h n=iG P n0 a (CZ (iG P n0 b Q) Q) e h n:=rfl
def SZ (P:Program) (n0:Nat) (a b:Code) (Q:c7) (x:AV) (e:dg) (h:au) (n:Nat):Prop:=match x with
  | .v (.bool t)=>(t=true->iG P n0 a Q e h n)∧(t=false->iG P n0 b Q e h n)
  | _=>False
theorem za5 (c:Operand) (a b:Code):iG P n0 (.cond c a b) Q e h n=SZ P n0 a b Q (ev e c) e h n:=rfl
theorem Qn (a b:Code) (t:Bool):SZ P n0 a b Q (.v (.bool t)) e h n=bm t (EY P n0 a Q e h n) (EY P n0 b Q e h n):=rfl
theorem UE (b:Code):iG P n0 (.scope b) Q e h n=iG P n0 b (wn Q) e h n:=rfl
theorem UC (id:Nat) (b:Code):iG P n0 (.block id b) Q e h n=iG P n0 b (sP id Q) e h n:=rfl
theorem za8 (b:Code):iG P n0 (.loop b) Q e h n=ah n0 (iG P n0 b) Q e h n:=rfl
theorem za7 (id:Nat):iG P n0 (.exit id) Q e h n=Q (.exit id) e h n:=rfl
theorem zdE:iG P n0 .ret Q e h n=Q .ret e h n:=rfl
theorem MS (K:dg->au->Nat->Prop):CZ K Q .normal e h n=K e h n:=rfl
theorem Uh (K:dg->au->Nat->Prop) (id:Nat):CZ K Q (.exit id) e h n=Q (.exit id) e h n:=rfl
theorem zaK (K:dg->au->Nat->Prop):CZ K Q .ret e h n=Q .ret e h n:=rfl
theorem IE:wn Q .normal e h n=Q .normal e h n:=rfl
theorem MQ (id:Nat):wn Q (.exit id) e h n=Q (.exit id) e h n:=rfl
theorem Qd:wn Q .ret e h n=Q .ret e h n:=rfl
theorem IC (id:Nat):sP id Q .normal e h n=Q .normal e h n:=rfl
theorem MM (id id':Nat):sP id Q (.exit id') e h n=if id'=id then Q .normal e h n else Q (.exit id') e h n:=rfl
theorem Qa (id:Nat):sP id Q .ret e h n=Q .ret e h n:=rfl
theorem zaM (rs:List ResultVar) (K:cI):Na P rs K .ret e h n=VQ (wc P e h rs).1 (K (Mk (wc P e h rs).2) h n):=rfl
theorem Nb (rs:List ResultVar) (K:cI):Na P rs K .normal e h n=VQ (wc P e h rs).1 (K (Mk (wc P e h rs).2) h n):=rfl
theorem za3:gP P ops Q [] e h n=Q .normal e h n:=rfl
class iv (op:Op):Prop where h:Hf op=false
instance {a}:iv (.move a):=⟨rfl⟩
instance {a}:iv (.assign a):=⟨rfl⟩
instance {a b c}:iv (.pick a b c):=⟨rfl⟩
instance {a}:iv (.alloc a):=⟨rfl⟩
instance {a b}:iv (.box a b):=⟨rfl⟩
instance {a b}:iv (.build a b):=⟨rfl⟩
instance {a b c}:iv (.buildSlice a b c):=⟨rfl⟩
instance {a b}:iv (.load a b):=⟨rfl⟩
instance {a b c}:iv (.store a b c):=⟨rfl⟩
instance {a b c d f}:iv (.binOp a b c d f):=⟨rfl⟩
instance {a b c}:iv (.unOp a b c):=⟨rfl⟩
instance {a}:iv (.nilCheck a):=⟨rfl⟩
instance {a b c}:iv (.convert a b c):=⟨rfl⟩
instance {a b c}:iv (.makeFunc a b c):=⟨rfl⟩
instance {a b c}:iv (.makeSlice a b c):=⟨rfl⟩
instance {a b c d f}:iv (.slice a b c d f):=⟨rfl⟩
instance {a b c}:iv (.fieldAddr a b c):=⟨rfl⟩
instance {a b c}:iv (.field a b c):=⟨rfl⟩
instance {a b c}:iv (.indexAddr a b c):=⟨rfl⟩
instance {a b c}:iv (.index a b c):=⟨rfl⟩
instance {a b}:iv (.extract a b):=⟨rfl⟩
instance {a b}:iv (.makeMap a b):=⟨rfl⟩
instance {a b c d}:iv (.mapUpdate a b c d):=⟨rfl⟩
instance {a b c d}:iv (.insert a b c d):=⟨rfl⟩
instance {a b c d}:iv (.lookup a b c d):=⟨rfl⟩
instance {a b}:iv (.makeInterface a b):=⟨rfl⟩
instance {a}:iv (.panic a):=⟨rfl⟩
instance {a b c}:iv (.call ⟨.builtin a,b,c⟩):=⟨rfl⟩
theorem Uy {dst:Option Tmp}{ty:TypeId}{pos:String}{after:Array Edge} [nc:iv op]:
    gP P ops Q (⟨dst,op,ty,pos,after,none⟩::rest) e h n=Nm P ops Q rest dst (lK P n op e h) e h n:=by
  have hc:=nc.h;unfold gP Nm;cases op with
  |call c=>
    obtain ⟨callee,args,ats⟩:=c;cases callee with
    |value f=>simp [Hf] at hc
    | _=>rfl
  | _=>rfl
theorem Ux {dst:Option Tmp}{f:Operand}{args:Array Operand}{ty:TypeId}{pos:String}{after:Array Edge}:
    gP P ops Q (⟨dst, .call ⟨.value f,args,ats⟩,ty,pos,after,none⟩::rest) e h n=FX P ops Q rest dst (ev e f) (args.toList.map (ev e)) e h n:=rfl
theorem Uz {dst:Option Tmp}{ty:TypeId}{pos:String}{after:Array Edge}{j:Nat}{want:Bool} [nc:iv op]:
    gP P ops Q (⟨dst,op,ty,pos,after,some (j,want)⟩::rest) e h n=zaU P ops Q rest dst op ((qy ops j).bind λ t=>te (e t) want) e h n:=by
  have hc:=nc.h;unfold gP zaU sQ;cases op with
  |call c=>
    obtain ⟨callee,args,ats⟩:=c;cases callee with
    |value f=>simp [Hf] at hc
    | _=>rfl
  | _=>rfl
theorem zft :Nm P ops Q rest (some d) ⟨c,x, [],0⟩ e h n=VC c (sU P ops Q rest (aC e d x) h n):=rfl
theorem zdB :Nm P ops Q rest none ⟨c,x, [],0⟩ e h n=VC c (sU P ops Q rest e h n):=rfl
theorem zfu {y:Option cB}:Nm P ops Q rest (some d) ⟨c,x, [(o,y)],al⟩ e h n=VC c (sU P ops Q rest (aC e d x) (aC h o y) (n+al)):=rfl
theorem zdC {y:Option cB}:Nm P ops Q rest none ⟨c,x, [(o,y)],al⟩ e h n=VC c (sU P ops Q rest e (aC h o y) (n+al)):=rfl
theorem zdy :sQ P ops Q rest (some d) g ⟨c,x, [],0⟩ e h n=VC (g=true->c) (sU P ops Q rest (aC e d (.gd g x)) h n):=by
  cases g<;>simp [sQ,put,VC,sU,gW,gN,aB]
theorem zdA {y:Option cB}:sQ P ops Q rest (some d) true ⟨c,x, [(o,y)],al⟩ e h n=VC c (sU P ops Q rest (aC e d (.gd true x)) (aC h o y) (n+al)):=by
  simp [sQ,put,VC,sU,gW,gN,aB]
theorem zaX {y:Option cB}:sQ P ops Q rest none true ⟨c,x, [(o,y)],al⟩ e h n=VC c (sU P ops Q rest e (aC h o y) (n+al)):=by
  simp [sQ,put,VC,sU,gW,gN,aB]
theorem zdz {r:pJ}:sQ P ops Q rest (some d) false r e h n=gP P ops Q rest (aC e d (.gd false r.val)) h n:=by
  simp [sQ,put,VC,gW,gN,aB]
theorem zaW {r:pJ}:sQ P ops Q rest none false r e h n=gP P ops Q rest e h n:=by
  simp [sQ,put,VC,gW,gN,aB]
theorem Up {dst:Option Tmp}:zaU P ops Q rest dst op (some g) e h n=(VQ (∀t ∈ gT op,EE g (e t)) (sQ P ops Q rest dst g (lK P n op (gE op e) h) e h n)):=rfl
theorem zaT {dst:Option Tmp}:
    FX P ops Q rest dst (.fn (.func f) first caps) args e h n=ap P f (first++args++caps) h n λ r h' n'=>gP P ops Q rest (put e dst r) h' n':=by
  unfold FX;simp only [rZ];exact propext ⟨λ h=>h.elim id (λ h=>(SV h).elim), .inl⟩
theorem Nk {dst:Option Tmp}{l:Nat}:FX P ops Q rest dst (.fn (.yield l) [] []) args e h n=Qp P ops Q rest dst l args e h n:=by
  grind [FX,Qp,rZ]
end
theorem zcJ (e:dg) (d:Nat) (x:AV):put e (some d) x=aC e d x:=rfl
theorem zcI (e:dg) (x:AV):put e none x=e:=rfl

variable {g':Option Bool}
section congr
variable {P:Program} {n0:Nat} {Q:c7} {e e':dg} {h h':au} {n n':Nat} {ops rest:List Oper}
@[congr] theorem zgr {c:Code} (h3:n=n'):iG P n0 c Q e h n=iG P n0 c Q e h n':=by subst h3;rfl
@[congr] theorem zeT {a b:Code}{x':AV} (h0:x=x'):SZ P n0 a b Q x e h n=SZ P n0 a b Q x' e h n:=pi
@[congr] theorem zfy (h3:n=n'):gP P ops Q rest e h n=gP P ops Q rest e h n':=by subst h3;rfl
@[congr] theorem zfv {dst:Option Tmp}{r r':pJ} (h0:r=r'):Nm P ops Q rest dst r e h n=Nm P ops Q rest dst r' e h n:=pi
@[congr] theorem zeU {dst:Option Tmp}{g':Bool}{r r':pJ} (hg:g=g') (h0:r=r'):sQ P ops Q rest dst g r e h n=sQ P ops Q rest dst g' r' e h n:=pi
@[congr] theorem zeS {dst:Option Tmp} (h0:fv=fv') (h1:args=args'):FX P ops Q rest dst fv args e h n=FX P ops Q rest dst fv' args' e h n:=pi
@[congr] theorem zfs {dst:Option Tmp}{g:Option Bool} (h0:g=g'):zaU P ops Q rest dst op g e h n=zaU P ops Q rest dst op g' e h n:=pi
@[congr] theorem zda {K:cI} (h1:args=args'):ap P f args h n K=ap P f args' h n K:=by subst h1;rfl
@[congr] theorem zeK {B:c7->dg->au->Nat->Prop} (h3:n=n'):ah n0 B Q e h n=ah n0 B Q e h n':=by subst h3;rfl
@[congr] theorem zfg {K:dg->au->Nat->Prop}{x:Exit} (h3:n=n'):CZ K Q x e h n=CZ K Q x e h n':=pi
@[congr] theorem zdp {x:Exit} (h3:n=n'):wn Q x e h n=wn Q x e h n':=pi
@[congr] theorem zdo {id:Nat}{x:Exit} (h3:n=n'):sP id Q x e h n=sP id Q x e h n':=pi
end congr

theorem zdd {n:Nat}:aN n .top=True:=eq_true .top
theorem zaz {n:Nat}{x:Value}:aN n (.v x)=True:=eq_true (.v x)
theorem zdb {n:Nat}:aN n (.agg cs)=∀c ∈ cs,aN n c:=propext ⟨λ h=>WH, .agg⟩
theorem KU {n:Nat}:aN n (.tup cs)=∀c ∈ cs,aN n c:=propext ⟨λ h=>WH, .tup⟩
variable {rows rs rs':List (List AV)}
theorem jd {n:Nat}:aN n (.lst sz rows)=∀r ∈ rows,∀c ∈ r,aN n c:=propext ⟨λ h=>WH, .lst⟩
theorem ze9 {n:Nat}:aN n (.fp cs)=∀c ∈ cs,aN n c:=propext ⟨λ h=>WH, .fp⟩
theorem zdc {n g i:Nat}:aN n (.ref o g sz i off)=(o<n):=propext ⟨λ h=>WH, .ref⟩
theorem zfb {n g i:Nat}:aN n (.sl o g sz i len)=(o<n):=propext ⟨λ h=>WH, .sl⟩
theorem ze8 {n:Nat}{f:Fn}{a b:List AV}:aN n (.fn f a b)=((∀c ∈ a,aN n c)∧∀c ∈ b,aN n c):=propext ⟨λ h=>by cases h;grind,λ h=> .fn h.1 h.2⟩
theorem zfa {n:Nat}:aN n (.mp o)=(o<n):=propext ⟨λ h=>WH, .mp⟩
theorem P0 {n:Nat}:aN n (.gd g x)=aN n x:=propext ⟨λ h=>WH, .gd⟩

theorem zcB :EE g (.gd g x)=True:=eq_true (λ h=>h)
theorem zf8 {g':Bool}:EE g (.gd g' x)=(g=true->g'=true):=rfl
theorem zgQ {x:Value}:EE g (.v x)=True:=rfl
theorem zer {g i:Nat}:EE b (.ref o g sz i off)=True:=rfl
theorem zf9 {g i:Nat}:EE b (.sl o g sz i len)=True:=rfl
theorem zeq :EE b (.lst sz rows)=True:=rfl
theorem zf7 :EE b (.fp cs)=True:=rfl
theorem zep :EE b (.agg cs)=True:=rfl
theorem zet :EE b (.tup cs)=True:=rfl
theorem zf6 {f:Fn}{x:List AV}:EE b (.fn f x y)=True:=rfl
theorem zes :EE b .top=True:=rfl
attribute [go_sem high] zcB
attribute [go_sem] zdv Uq Qo zdw zaS fW dv aJ zbu zbt zdT zba UD Qv zdF za5 Qn UC za8 za7 zdE MS Uh zaK IC MM Qa UE IE MQ Qd zaM Nb
 vB kX qY I5 mi uw ze3 AT Vz OM eM gz
  za3 Ux Uy Uz zft zdB zfu zdC zdy zdA zaX zdz zaW Up zaT zcJ zcI lK ev ofV zaq GM pB zfM GK Ok Oj x9 yb ul eqS zgL nC gE gT Of zbM x8 wB jL jl BN jm BP Ed zce
  aB CX zf8 zgQ zer zf9 zeq zf7 zep zet zf6 zes iq Op.operands Call.operands te qy AV.cells AV.okCells AV.isCell fI bt JG qF BM OJ sA Og Tz mS oZ qZ um zf mT kZ mU sm setMany tw wc Mk Ar
  zdd zaz zdb KU jd ze9 zdc zfb ze8 zfa P0

variable {rd rd':List Nat}
section draw
variable {P:Program} {n0:Nat} {Q:c7} {e e':dg} {h h':au} {n i i':Nat} {ops rest:List Oper} {acc:List jf} {K:dg->au->List jf->Prop}
def uU (Q:c7) (ops:List Oper) (n:Nat) (e:dg) (h:au) (recs:List jf):Prop:=A5 ops recs=true∧((Kp recs=true∧Q .normal e h n)∨Q .normal e h (n+16 * ops.length))
def tY (P:Program) (n:Nat) (ops:List Oper) (Q:c7) (m:Nat) (i:Nat) (rest:List Oper) (e:dg) (h:au) (acc:List jf):Prop:=kI P n ops (uU Q ops m) i rest e h acc
def xG (P:Program) (n:Nat) (ops:List Oper) (Q:c7) (m:Nat) (i:Nat) (rest:List Oper) (e:dg) (h:au) (acc:List jf):Prop:=kI P n ops (uU Q ops m) i rest e h acc
variable {m:Nat}
def FZ (P:Program) (n:Nat) (ops:List Oper) (Q:c7) (e:dg) (h:au):Prop:=∃h',zH h h'∧Jm P ops Q e h' n
theorem Np (hk:tY P n ops Q (n+ops.length) 0 ops e h []):Jm P ops Q e h n:=by
  refine ⟨ops.length, ?_⟩;rw [List.take_length,List.drop_length];exact hk
theorem wZ (hk:tY P n ops Q (n+ops.length) 0 ops e h []):FZ P n ops Q e h:=⟨h, .refl h,Np hk⟩
theorem FZ.frz (h':au) (hf:zH h h') (hk:tY P n ops Q (n+ops.length) 0 ops e h' []):FZ P n ops Q e h:=⟨h',hf,Np hk⟩
def zeQ (P:Program) (ops:List Oper) (Q:c7) (k:Nat):c7
  | .normal,e,h,n=>gP P ops Q (ops.drop k) e h n
  | _, _, _, _=>False
theorem Lb :zeQ P ops Q k .normal e h n=gP P ops Q (ops.drop k) e h n:=rfl
theorem FZ.split (k:Nat) (hk:tY P n ops (zeQ P ops Q k) (n+ops.length) 0 (ops.take k) e h []):FZ P n ops Q e h:=⟨h, .refl h,k,hk⟩
attribute [go_sem] Lb
theorem za6 (id:Nat) (ops:List Oper):iG P n0 (.region id ops.toArray true) Q e h n=FZ P n ops Q e h:=rfl
def N3 (P:Program) (n:Nat) (ops:List Oper) (Q:c7) (m:Nat) (i:Nat) (rest:List Oper) (dst:Option Tmp) (rd:List Nat) (r:pJ) (e:dg) (h:au) (acc:List jf):Prop:=
  VC r.cond (tY P n ops Q m (i+1) rest (put e dst r.val) (aB r.wr h) (acc++ [(rd,r.wr.map (·.1))]))
def s6 (P:Program) (n:Nat) (ops:List Oper) (Q:c7) (m:Nat) (i:Nat) (rest:List Oper) (dst:Option Tmp) (g:Bool) (rd:List Nat) (r:pJ) (e:dg) (h:au) (acc:List jf):Prop:=
  VC (g=true->r.cond) (tY P n ops Q m (i+1) rest (put e dst (.gd g r.val)) (aB (gW g r.wr) h) (acc++ [(rd,(gW g r.wr).map (·.1))]))
def zby (P:Program) (n:Nat) (ops:List Oper) (Q:c7) (m:Nat) (i:Nat) (rest:List Oper) (dst:Option Tmp) (op:Op) (g:Option Bool) (e:dg) (h:au) (acc:List jf):Prop:=
  match g with
  |none=>False
  |some g=>VQ (∀t ∈ gT op,EE g (e t)) (s6 P n ops Q m i rest dst g ((op.operands.toList.map (ev (gE op e))).flatMap AV.ids) (lK P (n+i) op (gE op e) h) e h acc)
def cX (P:Program) (n:Nat) (ops:List Oper) (Q:c7) (m:Nat) (i:Nat) (rest:List Oper) (dst:Option Tmp) (fv:AV) (args:List AV) (e:dg) (h:au) (acc:List jf):Prop:=
  ∃r S wr,pR P (n+ops.length+16 * i) fv args h r S wr∧tY P n ops Q m (i+1) rest (put e dst r) (aB wr h) (acc++ [(S,wr.map (·.1))])
theorem zdD:tY P n ops Q m i [] e h acc=uU Q ops m e h acc:=rfl
theorem za0 {dst:Option Tmp}{ty:TypeId}{pos:String}{after:Array Edge} [nc:iv op]:
    tY P n ops Q m i (⟨dst,op,ty,pos,after,none⟩::rest) e h acc=N3 P n ops Q m i rest dst ((op.operands.toList.map (ev e)).flatMap AV.ids) (lK P (n+i) op e h) e h acc:=by
  have hc:=nc.h;unfold tY N3;cases op with
  |call c=>
    obtain ⟨callee,args,ats⟩:=c;cases callee with
    |value f=>simp [Hf] at hc
    | _=>rfl
  | _=>rfl
theorem zaZ {dst:Option Tmp}{f:Operand}{args:Array Operand}{ty:TypeId}{pos:String}{after:Array Edge}:
    tY P n ops Q m i (⟨dst, .call ⟨.value f,args,ats⟩,ty,pos,after,none⟩::rest) e h acc=cX P n ops Q m i rest dst (ev e f) (args.toList.map (ev e)) e h acc:=rfl
theorem za1 {dst:Option Tmp}{ty:TypeId}{pos:String}{after:Array Edge}{j:Nat}{want:Bool} [nc:iv op]:
    tY P n ops Q m i (⟨dst,op,ty,pos,after,some (j,want)⟩::rest) e h acc=zby P n ops Q m i rest dst op ((qy ops j).bind λ t=>te (e t) want) e h acc:=by
  have hc:=nc.h;unfold tY zby s6;cases op with
  |call c=>
    obtain ⟨callee,args,ats⟩:=c;cases callee with
    |value f=>simp [Hf] at hc
    | _=>rfl
  | _=>rfl
theorem zfp:VC True (xG P n ops Q m i rest e h acc)=tY P n ops Q m i rest e h acc:=by simp [VC,xG,tY]
theorem zhq  (h1:a) (h2:a->tY P n ops Q m i rest e h acc):VC a (xG P n ops Q m i rest e h acc):=⟨h1,h2 h1⟩
theorem uU.mk {recs:List jf} (h1:(A5 ops recs && Kp recs)=true) (h2:Q .normal e h n):uU Q ops n e h recs:=by
  rw [Bool.and_eq_true] at h1;exact ⟨h1.1, .inl ⟨h1.2,h2⟩⟩
theorem zhH {recs:List jf} (h1:A5 ops recs=true) (h2:Q .normal e h (n+16 * ops.length)):uU Q ops n e h recs:=⟨h1, .inr h2⟩
theorem wL  (h2:a->gP P ops Q rest e h n) (h1:a:=by first|omega|exact True.intro|rfl):VC a (sU P ops Q rest e h n):=⟨h1,h2 h1⟩
theorem wD  (h2:a->tY P n ops Q m i rest e h acc) (h1:a:=by first|omega|exact True.intro|(intros;omega)):VC a (xG P n ops Q m i rest e h acc):=⟨h1,h2 h1⟩
theorem wE {recs:List jf} (h2:Q .normal e h n) (h1:(A5 ops recs && Kp recs)=true:=by kernel_rfl):uU Q ops n e h recs:=uU.mk h1 h2
theorem zfI :N3 P n ops Q m i rest (some d) rd ⟨c,x, [],0⟩ e h acc=VC c (xG P n ops Q m (i+1) rest (aC e d x) h (acc++ [(rd, [])])):=rfl
theorem zdZ :N3 P n ops Q m i rest none rd ⟨c,x, [],0⟩ e h acc=VC c (xG P n ops Q m (i+1) rest e h (acc++ [(rd, [])])):=rfl
theorem zfJ {y:Option cB}:N3 P n ops Q m i rest (some d) rd ⟨c,x, [(o,y)],al⟩ e h acc=VC c (xG P n ops Q m (i+1) rest (aC e d x) (aC h o y) (acc++ [(rd, [o])])):=rfl
theorem zd0 {y:Option cB}:N3 P n ops Q m i rest none rd ⟨c,x, [(o,y)],al⟩ e h acc=VC c (xG P n ops Q m (i+1) rest e (aC h o y) (acc++ [(rd, [o])])):=rfl
theorem zdW :s6 P n ops Q m i rest (some d) g rd ⟨c,x, [],0⟩ e h acc=VC (g=true->c) (xG P n ops Q m (i+1) rest (aC e d (.gd g x)) h (acc++ [(rd, [])])):=by
  cases g<;>simp [s6,put,VC,tY,xG,gW,aB]
theorem zdY {y:Option cB}:s6 P n ops Q m i rest (some d) true rd ⟨c,x, [(o,y)],al⟩ e h acc=VC c (xG P n ops Q m (i+1) rest (aC e d (.gd true x)) (aC h o y) (acc++ [(rd, [o])])):=by
  simp [s6,put,VC,tY,xG,gW,aB]
theorem zbB {y:Option cB}:s6 P n ops Q m i rest none true rd ⟨c,x, [(o,y)],al⟩ e h acc=VC c (xG P n ops Q m (i+1) rest e (aC h o y) (acc++ [(rd, [o])])):=by
  simp [s6,put,VC,tY,xG,gW,aB]
theorem zdX {r:pJ}:s6 P n ops Q m i rest (some d) false rd r e h acc=tY P n ops Q m (i+1) rest (aC e d (.gd false r.val)) h (acc++ [(rd, [])]):=by
  simp [s6,put,VC,tY,gW,aB]
theorem zbA {r:pJ}:s6 P n ops Q m i rest none false rd r e h acc=tY P n ops Q m (i+1) rest e h (acc++ [(rd, [])]):=by
  simp [s6,put,VC,tY,gW,aB]
theorem U4 {dst:Option Tmp}:zby P n ops Q m i rest dst op (some g) e h acc=VQ (∀t ∈ gT op,EE g (e t)) (s6 P n ops Q m i rest dst g ((op.operands.toList.map (ev (gE op e))).flatMap AV.ids) (lK P (n+i) op (gE op e) h) e h acc):=rfl
theorem zhQ {dst:Option Tmp} (args':List AV) (r:AV) (S:List Nat) (hp:aq P f args' r) (hfl:Bi r) (hle:∀h₁:au,(∀o ∈ S,h o=h₁ o)->aY h₁ dO 0 (first++args++caps) args') (hb:∀c ∈ args',aN 0 c)
    (hk:tY P n ops Q m (i+1) rest (put e dst r) h (acc++ [(S, [])])):cX P n ops Q m i rest dst (.fn (.func f) first caps) args e h acc:=⟨r,S, [], .inl ⟨rfl,f,first,caps,args',rfl,hb,hp, .inl ⟨hle,hfl⟩⟩,hk⟩
theorem zhc {dst:Option Tmp} (hp:aq P f (first++args++caps) r) (hb:∀c ∈ first++args++caps,aN 0 c)
    (hk:tY P n ops Q m (i+1) rest (put e dst r) h (acc++ [([], [])])):cX P n ops Q m i rest dst (.fn (.func f) first caps) args e h acc:=⟨r, [], [], .inl ⟨rfl,f,first,caps, _,rfl,hb,hp, .inr rfl⟩,hk⟩
theorem cX.frz {dst:Option Tmp} (args':List AV) (r:AV) (S:List Nat) (wr:List (Nat×Option cB)) (hp:aq P f args' r)
    (hw:∀p ∈ wr,p.1 ∈ S∧∃g sz rs,p.2=some (.rows false g sz rs)∧h p.1=some (.rows true g sz rs)) (hle:∀h₁:au,(∀o ∈ S,h o=h₁ o)->aY h₁ (aB wr h₁) 0 (first++args++caps) args') (hb:∀c ∈ args',aN 0 c)
    (hk:tY P n ops Q m (i+1) rest (put e dst r) (aB wr h) (acc++ [(S,wr.map (·.1))])):cX P n ops Q m i rest dst (.fn (.func f) first caps) args e h acc:=⟨r,S,wr, .inr (.inl ⟨f,first,caps,args',rfl,hb,hp,hw,hle⟩),hk⟩
@[congr] theorem zgq (h1:i=i'):tY P n ops Q m i rest e h acc=tY P n ops Q m i' rest e h acc:=by subst h1;rfl
@[congr] theorem zfw (h1:i=i'):xG P n ops Q m i rest e h acc=xG P n ops Q m i' rest e h acc:=by subst h1;rfl
@[congr] theorem zfK {dst:Option Tmp}{r r':pJ} (h1:i=i') (h2:rd=rd') (h0:r=r'):N3 P n ops Q m i rest dst rd r e h acc=N3 P n ops Q m i' rest dst rd' r' e h acc:=pi
@[congr] theorem ze1 {dst:Option Tmp}{g':Bool}{r r':pJ} (h1:i=i') (hg:g=g') (h2:rd=rd') (h0:r=r'):s6 P n ops Q m i rest dst g rd r e h acc=s6 P n ops Q m i' rest dst g' rd' r' e h acc:=pi
@[congr] theorem zfH {dst:Option Tmp}{g:Option Bool} (h1:i=i') (h0:g=g'):zby P n ops Q m i rest dst op g e h acc=zby P n ops Q m i' rest dst op g' e h acc:=pi
@[congr] theorem ze0 {dst:Option Tmp} (h1:i=i') (h0:fv=fv') (h2:args=args'):cX P n ops Q m i rest dst fv args e h acc=cX P n ops Q m i' rest dst fv' args' e h acc:=by subst h0 h1 h2;rfl
@[congr] theorem zfG {acc acc':List jf}{n':Nat} (h1:n=n') (h0:acc=acc'):uU Q ops n e h acc=uU Q ops n' e h acc':=by subst h0 h1;rfl
end draw
section drawEq
variable {P:Program} {Q:c7} {e:dg} {h:au} {n m i:Nat} {ops rest:List Oper} {acc:List jf} {dst:Option Tmp} {ty:TypeId} {pos:String} {after:Array Edge} {j:Nat} {want:Bool}
end drawEq
attribute [go_sem] za6 zdD zaZ za0 za1 zfp zfI zdZ zfJ zd0 zdW zdY zbB zdX zbA U4 AV.ids List.flatMap_cons List.flatMap_nil
section gcall
variable {P:Program} {Q:c7} {e:dg} {h:au} {n m i:Nat} {ops rest:List Oper} {acc:List jf}
def lC (P:Program) (ops:List Oper) (Q:c7) (rest:List Oper) (dst:Option Tmp) (g:Bool) (fv:AV) (args:List AV) (e:dg) (h:au) (n:Nat):Prop:=
  (∃x,(g=true->rZ P fv args h n λ r h' n'=>r=x∧h'=h∧n'=n)∧gP P ops Q rest (put e dst (.gd g x)) h n)∨
  (g=true∧rZ P fv args h n λ r h' n'=>gP P ops Q rest (put e dst (.gd true r)) h' n')∨
  (g=true∧uO e fv args h n λ e' r h'=>gP P ops Q rest (put e' dst (.gd true r)) h' n)
def Bo (P:Program) (ops:List Oper) (Q:c7) (rest:List Oper) (dst:Option Tmp) (f:Operand) (args:List Operand) (op:Op) (g:Option Bool) (e:dg) (h:au) (n:Nat):Prop:=
  match g with
  |none=>False
  |some g=>VQ (∀t ∈ iq op,EE g (e t)) (lC P ops Q rest dst g (ev (λ t=>CX (e t)) f) (args.map (ev λ t=>CX (e t))) e h n)
theorem Qt {dst:Option Tmp}{f:Operand}{args:Array Operand}{ty:TypeId}{pos:String}{after:Array Edge}{j:Nat}{want:Bool}:
    gP P ops Q (⟨dst, .call ⟨.value f,args,ats⟩,ty,pos,after,some (j,want)⟩::rest) e h n=Bo P ops Q rest dst f args.toList (.call ⟨.value f,args,ats⟩) ((qy ops j).bind λ t=>te (e t) want) e h n:=rfl
theorem IJ {dst:Option Tmp}{f:Operand}{args:List Operand}:Bo P ops Q rest dst f args op (some g) e h n=VQ (∀t ∈ iq op,EE g (e t)) (lC P ops Q rest dst g (ev (λ t=>CX (e t)) f) (args.map (ev λ t=>CX (e t))) e h n):=rfl
theorem zhm {dst:Option Tmp} (args':List AV) (r:AV) (hp:g=true->aq P f args' r) (hfl:Bi r) (hle:aY h dO n (first++args++caps) args') (hb:∀c ∈ args',aN 0 c)
    (hk:gP P ops Q rest (put e dst (.gd g r)) h n):lC P ops Q rest dst g (.fn (.func f) first caps) args e h n:=
  .inl ⟨r,λ hg=>zhi (hp hg) hfl hle hb ⟨rfl,rfl,rfl⟩,hk⟩
theorem zhb {dst:Option Tmp} (r:AV) (hp:g=true->aq P f (first++args++caps) r) (hb:∀c ∈ first++args++caps,aN 0 c)
    (hk:gP P ops Q rest (put e dst (.gd g r)) h n):lC P ops Q rest dst g (.fn (.func f) first caps) args e h n:=
  .inl ⟨r,λ hg=>zg7 (hp hg) hb ⟨rfl,rfl,rfl⟩,hk⟩
theorem lC.skip (x:AV){dst:Option Tmp} (hk:gP P ops Q rest (put e dst (.gd false x)) h n):lC P ops Q rest dst false fv args e h n:= .inl ⟨x,(λ hg=>nomatch hg),hk⟩
theorem lC.go {dst:Option Tmp} (hk:ap P f (first++args++caps) h n λ r h' n'=>gP P ops Q rest (put e dst (.gd true r)) h' n'):lC P ops Q rest dst true (.fn (.func f) first caps) args e h n:= .inr (.inl ⟨rfl,hk⟩)
def oK (P:Program) (n:Nat) (ops:List Oper) (Q:c7) (m:Nat) (i:Nat) (rest:List Oper) (dst:Option Tmp) (g:Bool) (fv:AV) (args:List AV) (e:dg) (h:au) (acc:List jf):Prop:=
  ∃r S wr,(g=true->pR P (n+ops.length+16 * i) fv args h r S wr)∧(g=false->wr= [])∧tY P n ops Q m (i+1) rest (put e dst (.gd g r)) (aB wr h) (acc++ [(S,wr.map (·.1))])
def BG (P:Program) (n:Nat) (ops:List Oper) (Q:c7) (m:Nat) (i:Nat) (rest:List Oper) (dst:Option Tmp) (f:Operand) (args:List Operand) (op:Op) (g:Option Bool) (e:dg) (h:au) (acc:List jf):Prop:=
  match g with
  |none=>False
  |some g=>VQ (∀t ∈ iq op,EE g (e t)) (oK P n ops Q m i rest dst g (ev (λ t=>CX (e t)) f) (args.map (ev λ t=>CX (e t))) e h acc)
theorem Ut {dst:Option Tmp}{f:Operand}{args:Array Operand}{ty:TypeId}{pos:String}{after:Array Edge}{j:Nat}{want:Bool}:
    tY P n ops Q m i (⟨dst, .call ⟨.value f,args,ats⟩,ty,pos,after,some (j,want)⟩::rest) e h acc=BG P n ops Q m i rest dst f args.toList (.call ⟨.value f,args,ats⟩) ((qy ops j).bind λ t=>te (e t) want) e h acc:=rfl
theorem IT {dst:Option Tmp}{f:Operand}{args:List Operand}:BG P n ops Q m i rest dst f args op (some g) e h acc=VQ (∀t ∈ iq op,EE g (e t)) (oK P n ops Q m i rest dst g (ev (λ t=>CX (e t)) f) (args.map (ev λ t=>CX (e t))) e h acc):=rfl
theorem zhI {dst:Option Tmp} (args':List AV) (r:AV) (S:List Nat) (hp:g=true->aq P f args' r) (hfl:Bi r) (hle:∀h₁:au,(∀o ∈ S,h o=h₁ o)->aY h₁ dO 0 (first++args++caps) args')
    (hb:∀c ∈ args',aN 0 c) (hk:tY P n ops Q m (i+1) rest (put e dst (.gd g r)) h (acc++ [(S, [])])):oK P n ops Q m i rest dst g (.fn (.func f) first caps) args e h acc:=
  ⟨r,S, [],λ hg=> .inl ⟨rfl,f,first,caps,args',rfl,hb,hp hg, .inl ⟨hle,hfl⟩⟩,λ _=>rfl,hk⟩
theorem zg9 {dst:Option Tmp} (r:AV) (hp:g=true->aq P f (first++args++caps) r) (hb:∀c ∈ first++args++caps,aN 0 c)
    (hk:tY P n ops Q m (i+1) rest (put e dst (.gd g r)) h (acc++ [([], [])])):oK P n ops Q m i rest dst g (.fn (.func f) first caps) args e h acc:=
  ⟨r, [], [],λ hg=> .inl ⟨rfl,f,first,caps, _,rfl,hb,hp hg, .inr rfl⟩,λ _=>rfl,hk⟩
theorem oK.skip (x:AV){dst:Option Tmp} (hk:tY P n ops Q m (i+1) rest (put e dst (.gd false x)) h (acc++ [([], [])])):oK P n ops Q m i rest dst false fv args e h acc:=
  ⟨x, [], [],(λ hg=>nomatch hg),λ _=>rfl,hk⟩
theorem oK.frz {dst:Option Tmp} (args':List AV) (r:AV) (S:List Nat) (wr:List (Nat×Option cB)) (hp:aq P f args' r)
    (hw:∀p ∈ wr,p.1 ∈ S∧∃g sz rs,p.2=some (.rows false g sz rs)∧h p.1=some (.rows true g sz rs)) (hle:∀h₁:au,(∀o ∈ S,h o=h₁ o)->aY h₁ (aB wr h₁) 0 (first++args++caps) args') (hb:∀c ∈ args',aN 0 c)
    (hk:tY P n ops Q m (i+1) rest (put e dst (.gd true r)) (aB wr h) (acc++ [(S,wr.map (·.1))])):oK P n ops Q m i rest dst true (.fn (.func f) first caps) args e h acc:=
  ⟨r,S,wr,λ _=> .inr (.inl ⟨f,first,caps,args',rfl,hb,hp,hw,hle⟩),(λ h=>nomatch h),hk⟩
@[congr] theorem zgo {dst:Option Tmp}{g':Bool} (hg:g=g') (h0:fv=fv') (h1:args=args'):lC P ops Q rest dst g fv args e h n=lC P ops Q rest dst g' fv' args' e h n:=by subst h0 h1 hg;rfl
@[congr] theorem zaV {dst:Option Tmp}{f:Operand}{args:List Operand}{g:Option Bool} (h0:g=g'):Bo P ops Q rest dst f args op g e h n=Bo P ops Q rest dst f args op g' e h n:=pi
@[congr] theorem zgt {dst:Option Tmp}{g':Bool}{i':Nat} (hi:i=i') (hg:g=g') (h0:fv=fv') (h1:args=args'):oK P n ops Q m i rest dst g fv args e h acc=oK P n ops Q m i' rest dst g' fv' args' e h acc:=by subst h0 h1 hg hi;rfl
@[congr] theorem zbz {dst:Option Tmp}{f:Operand}{args:List Operand}{g:Option Bool}{i':Nat} (hi:i=i') (h0:g=g'):BG P n ops Q m i rest dst f args op g e h acc=BG P n ops Q m i' rest dst f args op g' e h acc:=pi
end gcall
attribute [go_sem] Qt IJ Ut IT

theorem FR {n:Nat}:∀ {xs:List AV},(∀c ∈ xs,aN 0 c)->IH n xs xs
  | [], _=> .nil
  |x::xs,h=> .cons (.same (h x gt)) (FR λ c hc=>h c Wy)
theorem zfj {n:Nat}:Sh n (.agg xs) (.agg ys)=IH n xs ys:=propext ⟨λ h=>by
  cases h with
  |same h=>cases h<;>grind [FR]
  |agg h=>exact h, .agg⟩
theorem zfo {n:Nat}:Sh n (.tup xs) (.tup ys)=IH n xs ys:=propext ⟨λ h=>by
  cases h with
  |same h=>cases h<;>grind [FR]
  |tup h=>exact h, .tup⟩
theorem zgB {n:Nat}{f:Fn}{a b a' b':List AV} (h:IH n a a') (h':IH n b b'):Sh n (.fn f a b) (.fn f a' b')=True:=eq_true (.fn h h')
theorem zfm {n g i:Nat}:Sh n (.ref o g sz i off) (.ref (n+o) g sz i off)=True:=eq_true .ref
theorem zgD {n g i:Nat}:Sh n (.sl o g sz i len) (.sl (n+o) g sz i len)=True:=eq_true .sl
theorem zgC {n:Nat}:Sh n (.mp o) (.mp (n+o))=True:=eq_true .mp
theorem zfl {n:Nat}:Sh n (.mp 0) (.mp n)=True:=eq_true (.mp (o:=0))
theorem zdu {n g i:Nat}:Sh n (.ref 0 g sz i off) (.ref n g sz i off)=True:=eq_true (.ref (o:=0))
theorem zfn {n g i:Nat}:Sh n (.sl 0 g sz i len) (.sl n g sz i len)=True:=eq_true (.sl (o:=0))
theorem Sh_v {n:Nat}{x:Value}:Sh n (.v x) (.v x)=True:=eq_true (.same (.v x))
theorem zfk {n:Nat} (h:∀r ∈ rows,∀c ∈ r,aN 0 c):Sh n (.lst sz rows) (.lst sz rows)=True:=eq_true (.same (.lst h))
theorem zds {n:Nat}:IH n [] []=True:=eq_true .nil
theorem zaO {n:Nat}{y:AV}:IH n (x::xs) (y::ys)=(Sh n x y∧IH n xs ys):=propext ⟨λ h=>by cases h<;>grind,λ h=> .cons h.1 h.2⟩
theorem Ul {n:Nat} (h:∀r ∈ rs,∀c ∈ r,aN 0 c):Bm n rs rs=True:=eq_true (.same h)
theorem zaN {n:Nat}:Bm n [] []=True:=eq_true .nil
theorem Uk {n:Nat}{x:List AV}{xs ys:List (List AV)} (h:IH n x y∧Bm n xs ys):Bm n (x::xs) (y::ys)=True:=eq_true (.cons h.1 h.2)
theorem zaP {n:Nat}{g:Nat}:zdt n (.rows mt g sz rs) (.rows mt g sz rs')=Bm n rs rs':=propext ⟨λ h=>WH, .rows⟩
theorem zdr {n:Nat}:Qk n [] []=True:=eq_true .nil
theorem Nd {n:Nat}{x y:cB}{l l':List (Nat×cB)}:Qk n ((o,x)::l) ((n+o,y)::l')=(zdt n x y∧Qk n l l'):=
  propext ⟨λ h=>by cases h<;>grind,λ h=> .cons h.1 h.2⟩
theorem Uj {n:Nat}{x y:cB}{l l':List (Nat×cB)}:Qk n ((0,x)::l) ((n,y)::l')=(zdt n x y∧Qk n l l'):=Nd (o:=0)
attribute [go_sem] zgC zfl zfj zfo zgB zfm zgD zdu zfn Sh_v zfk zds zaO Ul zaN Uk zaP zdr Nd Uj dL
theorem zck {h h':au}{n:Nat}:eY h h' n x x:= .refl x
attribute [go_sem] zck
theorem zdh {n:Int}:MI .i64 n=(-9223372036854775808<=n∧n<=9223372036854775807):=by
  simp [MI,IntKind.min,IntKind.max,IntKind.signed,IntKind.bits]
theorem zfd {n:Int}:MI .u8 n=(0<=n∧n<=255):=by
  simp [MI,IntKind.min,IntKind.max,IntKind.signed,IntKind.bits]
theorem zdj {n:Int}:MI .u64 n=(0<=n∧n<=18446744073709551615):=by
  simp [MI,IntKind.min,IntKind.max,IntKind.signed,IntKind.bits]
theorem zdi {n:Int}:MI .u32 n=(0<=n∧n<=4294967295):=by
  simp [MI,IntKind.min,IntKind.max,IntKind.signed,IntKind.bits]
attribute [go_sem] zdh zfd zdj zdi
theorem zf2 {k:IntKind}{n:Int}:(Value.int k n).oneCell'=true:=rfl
theorem zen :(Value.bool b).oneCell'=true:=rfl
theorem zcy {a:Option Addr}{l c:Nat}:(Value.slice a l c).oneCell'=true:=rfl
theorem RU {a:Option Addr}:(Value.pointer a).oneCell'=true:=rfl
attribute [go_sem] zf2 zen zcy RU
structure LS where
  E:List (Nat×AV)
  H:List (Nat×cB)
  n:Nat
def PZ (n0:Nat) (B:c7->dg->au->Nat->Prop) (Q:c7) (s:LS):Prop:=ah n0 B Q (Fb s.E) (fh s.H) s.n
theorem zg5 {P:Program}{n0:Nat}{b:Code}{Q:c7}{α:Type} (S:α->LS) (I:Nat->α->Prop)
    (step:∀d a,I d a->(∀d',d'<d->∀a',I d' a'->PZ n0 (iG P n0 b) Q (S a'))->iG P n0 b (CZ (ah n0 (iG P n0 b) Q) Q) (Fb (S a).E) (fh (S a).H) (S a).n):
    ∀d a,I d a->PZ n0 (iG P n0 b) Q (S a):=by
  intro d;induction d using Nat.strongRecOn with
  |ind d ih=>intro a ha;exact zg6 (step d a ha λ d' hd a' ha'=>ih d' hd a' ha')
theorem zg3 {P:Program}{n0:Nat}{b:Code}{Q:c7}{e:dg}{h:au}{n:Nat}{s:LS} (hh:PZ n0 (iG P n0 b) Q s) (hk:Wk e h n s.E s.H s.n) (hn:n0<=s.n):ah n0 (iG P n0 b) Q e h n:=
  ah.forget s.E s.H s.n hk hn hh
theorem aj {e:dg}{h:au}{n:Nat}{E:List (Nat×AV)}{HH:List (Nat×cB)}{n':Nat}:
    Wk e h n E HH n'=((∀p ∈ E,eY h (fh HH) n (e p.1) p.2∧aN n' p.2)∧∀p ∈ HH,p.1<n'∧zc7 h (fh HH) n p.1 (h p.1) p.2∧se n' p.2):=
  propext ⟨λ h=>⟨h.1,h.2⟩,λ h=>⟨h.1,h.2⟩⟩
theorem zci {h h':au}{n:Nat}{g:Nat}:zc7 h h' n o (some (.rows mt g sz rs)) (.rows mt g sz rs)=True:=eq_true (.same (λ h=>h) (.refl _))
theorem zec {h h':au}{n g:Nat} (hn:n<=o):zc7 h h' n o none (.rows true g sz [])=True:=eq_true (.own hn)
theorem VG {h h':au}{n:Nat}:aY h h' n [] []=True:=eq_true .nil
theorem Rz {h h':au}{n:Nat}{y:AV}:aY h h' n (x::xs) (y::ys)=(eY h h' n x y∧aY h h' n xs ys):=
  propext ⟨λ h=>by cases h with|cons a b=>exact ⟨a,b⟩,λ h=> .cons h.1 h.2⟩
theorem zed {h h':au}{n c:Nat}{A:Option Addr}:eY h h' n (.v (.slice A 0 c)) (.lst sz [])=True:=eq_true (.nil sz)
theorem zef {h h':au}{n:Nat}:eY h h' n x .top=True:=eq_true (.top x)
theorem zee {h h':au}{n g:Nat} (hn:n<=o) (ho:h' o=some (.rows true g sz [])):eY h h' n (.v (.slice none 0 0)) (.sl o g sz 0 0)=True:=eq_true (.own hn ho)
theorem zfZ (o:Nat):dO o=none:=rfl
theorem aI {h h':au}{n g i:Nat} (ho:h o=some (.rows mt g sz rs)) (hl:i+len<=rs.length) (ho':∀g sz rs,h' o≠some (.rows true g sz rs)) (hr:(rs.drop i).take len=rows):
    eY h h' n (.sl o g sz i len) (.lst sz rows):= .frz ho hl ho' (hr▸ .refl _)
theorem zht {h h':au}{n:Nat} (e:xs=ys):aY h h' n xs ys:=e▸ .refl _ _ _ _
theorem zch {h h':au}{n:Nat}{mt':Bool}{g g' sz':Nat}:zc7 h h' n o (some (.rows mt g sz rs)) (.rows mt' g' sz' rs')=(g=g'∧sz=sz'∧(mt'=true->mt=true)∧bg h h' n rs rs'):=
  propext ⟨λ h=>by cases h<;>grind,λ ⟨h1,h2,h3,h4⟩=>by subst h1 h2;exact .same h3 h4⟩
theorem OU {h h':au}{n:Nat}:bg h h' n rs rs=True:=eq_true (.refl _)
theorem OT {h h':au}{n:Nat}{x:List AV}{xs ys:List (List AV)}:bg h h' n (x::xs) (y::ys)=(aY h h' n x y∧bg h h' n xs ys):=
  propext ⟨λ h=>by cases h with
    |refl=>exact ⟨.refl _ _ _ _, .refl _⟩
    |cons h t=>exact ⟨h,t⟩,λ h=> .cons h.1 h.2⟩
theorem zcj {h h':au}{n:Nat}:eY h h' n (.agg xs) (.agg ys)=aY h h' n xs ys:=
  propext ⟨λ h=>by cases h with
    |refl=>exact .refl _ _ _ _
    |agg h=>exact h, .agg⟩
theorem zcl {h h':au}{n:Nat}:eY h h' n (.tup xs) (.tup ys)=aY h h' n xs ys:=
  propext ⟨λ h=>by cases h with
    |refl=>exact .refl _ _ _ _
    |tup h=>exact h, .tup⟩
theorem zff {x:Value}:lO (.v x)=True:=eq_true (.v x)
theorem zaI {g i:Nat}:lO (.ref o g sz i off)=True:=eq_true (.ref ..)
theorem zdl {g i:Nat}:lO (.sl o g sz i len)=True:=eq_true (.sl ..)
theorem zaH :lO (.agg xs)=∀x ∈ xs,lO x:=propext ⟨λ h=>WH, .agg⟩
theorem zaJ :lO (.tup xs)=∀x ∈ xs,lO x:=propext ⟨λ h=>WH, .tup⟩
theorem zdk {f:Fn}{a b:List AV}:lO (.fn f a b)=((∀x ∈ a,lO x)∧∀x ∈ b,lO x):=propext ⟨λ h=>by cases h;grind,λ h=> .fn h.1 h.2⟩
theorem zhh {P:Program}{h:au}{n:Nat}{K:cI}{R:Nat->AV}{HH:Nat->List (Nat×cB)} (hp:uR P f args' R HH k)
    (hnR:lO (R 0)) (hnH:∀p ∈ HH 0,FN p.2) (hle:aY h dO n args args') (hb:∀c ∈ args',aN 0 c) (hk:K (R n) (dL (HH n) h) (n+k)):ap P f args h n K:=
  zhC hp.1 (λ _ _ _ h=>h) (hp.2 n).1 (hp.2 n).2 hnR hnH hle hb hk
attribute [go_sem] zch OU OT zcj zcl zff zaI zdl zaH zaJ zdk FN IW
attribute [go_sem] zfZ zee zec Fb fh se zci VG Rz zed zef List.forall_mem_cons
theorem zhg {h h':au}{n:Nat}{y:AV} (e:x=y):eY h h' n x y:=e▸ .refl x
theorem nadd (a b c:Nat):a+b+c=a+(b+c):=Nat.add_assoc a b c
attribute [go_sem] nadd
class WS (G:Prop) (a X:outParam Prop):Prop where out:a->(a->X)->G
instance {P:Program}{ops:List Oper}{Q:c7}{rest:List Oper}{e:dg}{h:au}{n:Nat}{a:Prop}:WS (VC a (sU P ops Q rest e h n)) a (gP P ops Q rest e h n):=⟨λ h1 h2=>wL h2 h1⟩
instance {P:Program}{ops:List Oper}{Q:c7}{rest:List Oper}{e:dg}{h:au}{n m i:Nat}{a:Prop}{acc:List jf}:WS (VC a (xG P n ops Q m i rest e h acc)) a (tY P n ops Q m i rest e h acc):=⟨λ h1 h2=>wD h2 h1⟩
instance {P:Program}{ops:List Oper}{Q:c7}{e:dg}{h:au}{n:Nat}:WS (FZ P n ops Q e h) True (tY P n ops Q (n+ops.length) 0 ops e h []):=⟨λ _ h2=>wZ (h2 trivial)⟩
def KR (p:Prop):Prop:=p
theorem kr  (h:p):KR p:=h
instance {ops:List Oper}{Q:c7}{n:Nat}{e:dg}{h:au}{recs:List jf}:WS (uU Q ops n e h recs) (KR ((A5 ops recs && Kp recs)=true)) (Q .normal e h n):=⟨λ h1 h2=>uU.mk h1 (h2 h1)⟩
theorem wV  [i:WS G a X] (h2:a->X) (h1:a:=by with_reducible first|omega|exact True.intro|rfl|(refine kr ?_;kernel_rfl)|(intros;omega)):G:=i.out h1 h2
theorem zJ  (h:p:=by ((try simp only [bE,dC,lX,r7,dt,kW,cu,bC,ak,oj,fK,aO,aS,ai,List.map_cons,List.map_nil,List.nil_append,List.append_nil,List.cons_append]);(repeat (first|(with_reducible exact aY.nil)|(with_reducible exact bg.nil)|(with_reducible exact eY.refl _)|(with_reducible exact aY.refl _ _ _ _)|(with_reducible exact bg.refl _)|(with_reducible refine aY.cons ?_ ?_)|(with_reducible refine bg.cons ?_ ?_)|(with_reducible refine eY.agg ?_)|(with_reducible refine eY.tup ?_)|(with_reducible refine eY.fn ?_ ?_)|(with_reducible exact eY.nil _)|(with_reducible refine bJ (bg.refl _) ?_)|((refine aI rfl gt Wu ?_);(first|(simp [go_sem];done)|(simp [go_sem];exact List.take_of_length_le gt)))|((refine eY.frz rfl gt Wu ?_);(simp only [List.drop_zero,List.take_succ_cons,List.take_zero,List.map_cons,List.map_nil]))|((refine eY.frzP rfl gt gt Wu ?_);(simp only [fW,List.drop_zero])))))):p:=h
theorem zfD  (h:p:=by (intro r hr c hc;(first|(rcases hr with ⟨_, _,rfl⟩|rfl)|(rcases hr with rfl|⟨_, _,rfl⟩)|(rcases hr with rfl|rfl)|((rcases List.mem_or_eq_of_mem_set hr with hr|rfl)<;>first|(obtain ⟨_, _,rfl⟩:=List.mem_map.1 hr;simp only [dR] at hc)|skip)|(rcases hr with ⟨_,rfl⟩|⟨_,rfl⟩)|(rcases hr with ⟨_, _,rfl⟩|⟨_,rfl⟩)|(rcases hr with ⟨_,rfl⟩|⟨_, _,rfl⟩)|(rcases hr with ⟨_, _,rfl⟩|⟨_, _,rfl⟩)|(obtain ⟨_,rfl⟩:=hr)|(obtain ⟨_, _,rfl⟩:=hr))<;>simp at hc<;>(try subst hc)<;>first|exact .v _|(rcases hc with rfl|rfl<;>exact .v _))):p:=h
theorem zd1  (h:p:=by ((refine eY.frz rfl gt Ws ?_);(try simp only [List.drop_zero,List.take_succ_cons,List.take_zero,List.map_cons,List.map_nil]);(repeat (first|(with_reducible exact bg.nil)|(with_reducible refine bg.cons ?_ ?_)|(with_reducible exact aY.nil)|(with_reducible refine aY.cons ?_ ?_)|(with_reducible exact eY.refl _)|(refine aI rfl gt Ws ?_;first|(simp [go_sem];done)|(simp [go_sem];exact List.take_of_length_le gt)))))):p:=h
theorem S2  (h:p:=by ((try simp only [cu,bC,ak,oj,fK,aO,aS,List.nil_append,List.append_nil,List.cons_append]);(repeat (first|(with_reducible exact aY.nil)|(with_reducible refine aY.cons ?_ ?_)|(with_reducible exact eY.refl _)|(with_reducible refine eY.agg ?_)|((refine aI rfl gt Wu ?_);(first|(simp [go_sem];done)|(simp [go_sem];exact List.take_of_length_le gt))))))):p:=h
theorem zgu  (h:p:=by ((refine bJ (.refl _) ?_);(repeat (first|(with_reducible exact bg.nil)|(with_reducible refine bg.cons ?_ ?_)|(with_reducible exact aY.nil)|(with_reducible refine aY.cons ?_ ?_)|(with_reducible exact eY.refl _)|(refine aI rfl gt Ws ?_;first|(simp [go_sem];done)|(simp [go_sem];exact List.take_of_length_le gt)))))):p:=h
theorem BY  (h:p:=by (refine aI rfl gt Ws ?_;first|(simp [go_sem];done)|(simp [go_sem];exact List.take_of_length_le gt))):p:=h
structure KX (p:Prop):Prop where out:p
theorem J0  (h:X) (q:KX X->G:=by intro h;(repeat first|refine wV λ _=>?_|simp [go_sem]);exact h.out):G:=q ⟨h⟩
theorem J1  (f0:F0) (h:X) (q:F0->KX X->G:=by intro f0 h;(repeat first|refine wV λ _=>?_|simp [go_sem,f0]);exact h.out):G:=q f0 ⟨h⟩
theorem y7  (f0:F0) (f1:F1) (f2:F2) (f3:F3) (f4:F4) (f5:F5) (f6:F6) (f7:F7) (f8:F8) (f9:F9) (h:X) (q:F0->F1->F2->F3->F4->F5->F6->F7->F8->F9->KX X->G:=by intro f0 f1 f2 f3 f4 f5 f6 f7 f8 f9 h;(repeat first|refine wV λ _=>?_|simp [go_sem,f0,f1,f2,f3,f4,f5,f6,f7,f8,f9]);exact h.out):G:=q f0 f1 f2 f3 f4 f5 f6 f7 f8 f9 ⟨h⟩
theorem J11  (f0:F0) (f1:F1) (f2:F2) (f3:F3) (f4:F4) (f5:F5) (f6:F6) (f7:F7) (f8:F8) (f9:F9) (f10:F10) (h:X) (q:F0->F1->F2->F3->F4->F5->F6->F7->F8->F9->F10->KX X->G:=by intro f0 f1 f2 f3 f4 f5 f6 f7 f8 f9 f10 h;(repeat first|refine wV λ _=>?_|simp [go_sem,f0,f1,f2,f3,f4,f5,f6,f7,f8,f9,f10]);exact h.out):G:=q f0 f1 f2 f3 f4 f5 f6 f7 f8 f9 f10 ⟨h⟩
theorem J12 {F11:Prop} (f0:F0) (f1:F1) (f2:F2) (f3:F3) (f4:F4) (f5:F5) (f6:F6) (f7:F7) (f8:F8) (f9:F9) (f10:F10) (f11:F11) (h:X) (q:F0->F1->F2->F3->F4->F5->F6->F7->F8->F9->F10->F11->KX X->G:=by intro f0 f1 f2 f3 f4 f5 f6 f7 f8 f9 f10 f11 h;(repeat first|refine wV λ _=>?_|simp [go_sem,f0,f1,f2,f3,f4,f5,f6,f7,f8,f9,f10,f11]);exact h.out):G:=q f0 f1 f2 f3 f4 f5 f6 f7 f8 f9 f10 f11 ⟨h⟩
theorem J2  (f0:F0) (f1:F1) (h:X) (q:F0->F1->KX X->G:=by intro f0 f1 h;(repeat first|refine wV λ _=>?_|simp [go_sem,f0,f1]);exact h.out):G:=q f0 f1 ⟨h⟩
theorem J3  (f0:F0) (f1:F1) (f2:F2) (h:X) (q:F0->F1->F2->KX X->G:=by intro f0 f1 f2 h;(repeat first|refine wV λ _=>?_|simp [go_sem,f0,f1,f2]);exact h.out):G:=q f0 f1 f2 ⟨h⟩
theorem J4  (f0:F0) (f1:F1) (f2:F2) (f3:F3) (h:X) (q:F0->F1->F2->F3->KX X->G:=by intro f0 f1 f2 f3 h;(repeat first|refine wV λ _=>?_|simp [go_sem,f0,f1,f2,f3]);exact h.out):G:=q f0 f1 f2 f3 ⟨h⟩
theorem J5  (f0:F0) (f1:F1) (f2:F2) (f3:F3) (f4:F4) (h:X) (q:F0->F1->F2->F3->F4->KX X->G:=by intro f0 f1 f2 f3 f4 h;(repeat first|refine wV λ _=>?_|simp [go_sem,f0,f1,f2,f3,f4]);exact h.out):G:=q f0 f1 f2 f3 f4 ⟨h⟩
theorem J6  (f0:F0) (f1:F1) (f2:F2) (f3:F3) (f4:F4) (f5:F5) (h:X) (q:F0->F1->F2->F3->F4->F5->KX X->G:=by intro f0 f1 f2 f3 f4 f5 h;(repeat first|refine wV λ _=>?_|simp [go_sem,f0,f1,f2,f3,f4,f5]);exact h.out):G:=q f0 f1 f2 f3 f4 f5 ⟨h⟩
theorem J7  (f0:F0) (f1:F1) (f2:F2) (f3:F3) (f4:F4) (f5:F5) (f6:F6) (h:X) (q:F0->F1->F2->F3->F4->F5->F6->KX X->G:=by intro f0 f1 f2 f3 f4 f5 f6 h;(repeat first|refine wV λ _=>?_|simp [go_sem,f0,f1,f2,f3,f4,f5,f6]);exact h.out):G:=q f0 f1 f2 f3 f4 f5 f6 ⟨h⟩
theorem J8  (f0:F0) (f1:F1) (f2:F2) (f3:F3) (f4:F4) (f5:F5) (f6:F6) (f7:F7) (h:X) (q:F0->F1->F2->F3->F4->F5->F6->F7->KX X->G:=by intro f0 f1 f2 f3 f4 f5 f6 f7 h;(repeat first|refine wV λ _=>?_|simp [go_sem,f0,f1,f2,f3,f4,f5,f6,f7]);exact h.out):G:=q f0 f1 f2 f3 f4 f5 f6 f7 ⟨h⟩
theorem J9  (f0:F0) (f1:F1) (f2:F2) (f3:F3) (f4:F4) (f5:F5) (f6:F6) (f7:F7) (f8:F8) (h:X) (q:F0->F1->F2->F3->F4->F5->F6->F7->F8->KX X->G:=by intro f0 f1 f2 f3 f4 f5 f6 f7 f8 h;(repeat first|refine wV λ _=>?_|simp [go_sem,f0,f1,f2,f3,f4,f5,f6,f7,f8]);exact h.out):G:=q f0 f1 f2 f3 f4 f5 f6 f7 f8 ⟨h⟩
theorem PX  (h:X) (q:KX X->G:=by intro h;(repeat first|refine wV λ _=>?_|simp [go_sem,GH]);exact h.out):G:=q ⟨h⟩
theorem zgz  (f0:F0) (h:X) (q:F0->KX X->G:=by intro f0 h;(repeat first|refine wV λ _=>?_|simp [go_sem,GH,f0]);exact h.out):G:=q f0 ⟨h⟩
theorem zeO  (f0:F0) (f1:F1) (h:X) (q:F0->F1->KX X->G:=by intro f0 f1 h;(repeat first|refine wV λ _=>?_|simp [go_sem,GH,f0,f1]);exact h.out):G:=q f0 f1 ⟨h⟩
theorem K0  (q:G:=by (repeat first|refine wV λ _=>?_|simp [go_sem])):G:=q
theorem K1  (f0:F0) (q:F0->G:=by intro f0;(repeat first|refine wV λ _=>?_|simp [go_sem,f0])):G:=q f0
theorem K10  (f0:F0) (f1:F1) (f2:F2) (f3:F3) (f4:F4) (f5:F5) (f6:F6) (f7:F7) (f8:F8) (f9:F9) (q:F0->F1->F2->F3->F4->F5->F6->F7->F8->F9->G:=by intro f0 f1 f2 f3 f4 f5 f6 f7 f8 f9;(repeat first|refine wV λ _=>?_|simp [go_sem,f0,f1,f2,f3,f4,f5,f6,f7,f8,f9])):G:=q f0 f1 f2 f3 f4 f5 f6 f7 f8 f9
theorem K2  (f0:F0) (f1:F1) (q:F0->F1->G:=by intro f0 f1;(repeat first|refine wV λ _=>?_|simp [go_sem,f0,f1])):G:=q f0 f1
theorem K3  (f0:F0) (f1:F1) (f2:F2) (q:F0->F1->F2->G:=by intro f0 f1 f2;(repeat first|refine wV λ _=>?_|simp [go_sem,f0,f1,f2])):G:=q f0 f1 f2
theorem K4  (f0:F0) (f1:F1) (f2:F2) (f3:F3) (q:F0->F1->F2->F3->G:=by intro f0 f1 f2 f3;(repeat first|refine wV λ _=>?_|simp [go_sem,f0,f1,f2,f3])):G:=q f0 f1 f2 f3
theorem K5  (f0:F0) (f1:F1) (f2:F2) (f3:F3) (f4:F4) (q:F0->F1->F2->F3->F4->G:=by intro f0 f1 f2 f3 f4;(repeat first|refine wV λ _=>?_|simp [go_sem,f0,f1,f2,f3,f4])):G:=q f0 f1 f2 f3 f4
theorem Kg0  (q:G:=by (repeat first|refine wV λ _=>?_|simp [go_sem,GH])):G:=q
theorem Kg2  (f0:F0) (f1:F1) (q:F0->F1->G:=by intro f0 f1;(repeat first|refine wV λ _=>?_|simp [go_sem,GH,f0,f1])):G:=q f0 f1
theorem aF {P:Program}{fn:Func}{c:Code}{h:au}{n:Nat}{K:cI} (hf:P.funcs[f]? =some fn) (hh:iG P n c (Na P fn.results.toList K) (Ar 0 args) h n) (hmix:P.follows .mixedOrders=true:=by kernel_rfl) (hb:fn.body=some c:=by rfl) (hname:(fn.name== "runtime.NumGoroutine")=false:=by rfl) (hN:args.length<=fn.ntmps:=by exact Nat.le_of_ble_eq_true rfl) (hd:vv fn.ntmps c=true:=by kernel_rfl) (hG:fn.ntmps<=GH:=by exact Nat.le_of_ble_eq_true rfl):ap P f args h n K:=zhu hmix hf hb hname hN hd hh hG
theorem aP {P:Program}{h:au}{n:Nat}{K:cI} (hp:aq P f args r) (hk:K r h n) (hb:∀c ∈ args,aN 0 c:=by simp [go_sem]):ap P f args h n K:=zg7 hp hb hk
theorem dP {P:Program}{n:Nat}{ops:List Oper}{Q:c7}{m i:Nat}{rest:List Oper}{e:dg}{h:au}{acc:List jf}{dst:Option Tmp} (hp:aq P f (first++args++caps) r) (hk:tY P n ops Q m (i+1) rest (put e dst r) h (acc++ [([], [])])) (hb:∀c ∈ first++args++caps,aN 0 c:=by simp [go_sem]):cX P n ops Q m i rest dst (.fn (.func f) first caps) args e h acc:=zhc hp hb hk
theorem DX {P:Program}{n0:Nat}{Q:c7}{e:dg}{h:au}{n:Nat}{a b:Code} (h2:iG P n0 b Q e h n) (h1:t=true->iG P n0 a Q e h n:=by intro hF;first|omega|(simp at hF;omega)):bm t (EY P n0 a Q e h n) (EY P n0 b Q e h n):=zg4 h1 λ _=>h2
theorem zeM {P:Program}{n0:Nat}{Q:c7}{e:dg}{h:au}{n:Nat}{a b:Code} (h1:iG P n0 a Q e h n) (h2:t=false->iG P n0 b Q e h n:=by intro hF;first|omega|(simp at hF;omega)):bm t (EY P n0 a Q e h n) (EY P n0 b Q e h n):=zg4 (λ _=>h1) h2
theorem zfe  (f0:F0) (q:F0->G:=by intro f0;(((try simp only [bE,dC,lX,r7,dt,kW,cu,bC,ak,oj,fK,aO,aS,ai,List.map_cons,List.map_nil,List.nil_append,List.append_nil,List.cons_append]);(repeat (first|(with_reducible exact aY.nil)|(with_reducible exact bg.nil)|(with_reducible exact eY.refl _)|(with_reducible exact aY.refl _ _ _ _)|(with_reducible exact bg.refl _)|(with_reducible refine aY.cons ?_ ?_)|(with_reducible refine bg.cons ?_ ?_)|(with_reducible refine eY.agg ?_)|(with_reducible refine eY.tup ?_)|(with_reducible refine eY.fn ?_ ?_)|(with_reducible exact eY.nil _)|(with_reducible refine bJ (bg.refl _) ?_)|((refine aI rfl (by simp [f0]) Wu ?_);(first|(simp [go_sem,f0];done)|(simp [go_sem,f0];exact List.take_of_length_le (by simp [f0]))))|((refine eY.frz rfl (by simp [f0]) Wu ?_);(simp only [List.drop_zero,List.take_succ_cons,List.take_zero,List.map_cons,List.map_nil]))|((refine eY.frzP rfl (by simp [f0]) gt Wu ?_);(simp only [fW,List.drop_zero]))))))):G:=q f0
theorem Qx8  (f0:F0) (f1:F1) (f2:F2) (f3:F3) (f4:F4) (f5:F5) (f6:F6) (f7:F7) (q:F0->F1->F2->F3->F4->F5->F6->F7->G:=by intro f0 f1 f2 f3 f4 f5 f6 f7;(((try simp only [bE,dC,lX,r7,dt,kW,cu,bC,ak,oj,fK,aO,aS,ai,List.map_cons,List.map_nil,List.nil_append,List.append_nil,List.cons_append]);(repeat (first|(with_reducible exact aY.nil)|(with_reducible exact bg.nil)|(with_reducible exact eY.refl _)|(with_reducible exact aY.refl _ _ _ _)|(with_reducible exact bg.refl _)|(with_reducible refine aY.cons ?_ ?_)|(with_reducible refine bg.cons ?_ ?_)|(with_reducible refine eY.agg ?_)|(with_reducible refine eY.tup ?_)|(with_reducible refine eY.fn ?_ ?_)|(with_reducible exact eY.nil _)|(with_reducible refine bJ (bg.refl _) ?_)|((refine aI (by first|rfl|assumption) Xl Xo ?_);(first|(simp [go_sem,f0,f1,f2,f3,f4,f5,f6,f7];done)|(simp [go_sem,f0,f1,f2,f3,f4,f5,f6,f7];exact List.take_of_length_le Xl)))|((refine eY.frz (by first|rfl|assumption) Xl Xo ?_);(simp only [List.drop_zero,List.take_succ_cons,List.take_zero,List.map_cons,List.map_nil]))|((refine eY.frzP (by first|rfl|assumption) Xl gt Xo ?_);(simp only [fW,List.drop_zero]))))))):G:=q f0 f1 f2 f3 f4 f5 f6 f7
end Go.Av
end
section
/- Our library, part 17: calls of functions that are given objects of ours and turn them. -/
namespace Go.Av
open Go

mutual
inductive Rn (σ:Nat->Nat):AV->AV->Prop
 |same {x:AV} (h:aN 0 x):Rn σ x x
 |ref {o o' g sz i off:Nat} (h:o'=σ o):Rn σ (.ref o g sz i off) (.ref o' g sz i off)
 |sl {o o' g sz i len:Nat} (h:o'=σ o):Rn σ (.sl o g sz i len) (.sl o' g sz i len)
 |mp {o o':Nat} (h:o'=σ o):Rn σ (.mp o) (.mp o')
 |agg {xs ys:List AV} (h:Fm σ xs ys):Rn σ (.agg xs) (.agg ys)
 |tup {xs ys:List AV} (h:Fm σ xs ys):Rn σ (.tup xs) (.tup ys)
 |fn {f:Fn} {a b a' b':List AV} (h:Fm σ a a') (h':Fm σ b b'):Rn σ (.fn f a b) (.fn f a' b')
inductive Fm (σ:Nat->Nat):List AV->List AV->Prop
 |nil:Fm σ [] []
 |cons {x y:AV} {xs ys:List AV} (h:Rn σ x y) (t:Fm σ xs ys):Fm σ (x::xs) (y::ys)
end
inductive EU (σ:Nat->Nat):List (List AV)->List (List AV)->Prop
 |same {rs:List (List AV)} (h:∀r ∈ rs,∀c ∈ r,aN 0 c):EU σ rs rs
 |nil:EU σ [] []
 |cons {x y:List AV} {xs ys:List (List AV)} (h:Fm σ x y) (t:EU σ xs ys):EU σ (x::xs) (y::ys)
inductive PY (σ:Nat->Nat):cB->cB->Prop
 |rows {mt:Bool} {g sz:Nat} {rs rs':List (List AV)} (h:EU σ rs rs'):PY σ (.rows mt g sz rs) (.rows mt g sz rs')
inductive zfi (σ:Nat->Nat):List (Nat×cB)->List (Nat×cB)->Prop
 |nil:zfi σ [] []
 |cons {o o':Nat} {x y:cB} {l l':List (Nat×cB)} (e:o'=σ o) (h:PY σ x y) (t:zfi σ l l'):zfi σ ((o,x)::l) ((o',y)::l')
variable {k2 m n:Nat} {x:AV}
section
variable {σ:Nat->Nat} {φ φ':aQ} {w:World} {M M':Nat->Prop}
theorem Rn.rel (hφ:∀o,φ' (σ o)=φ o) (hM:∀k,M' k->M k){y:AV} (hs:Rn σ x y):∀ {v:Value},bY φ w M x v->bY φ' w M' y v:=by
 refine Rn.rec (σ:=σ) (motive_1:=λ x y _=>∀ {v:Value},bY φ w M x v->bY φ' w M' y v) (motive_2:=λ xs ys _=>∀ {vs:List Value},aU φ w M xs vs->aU φ' w M' ys vs)
  ?_ ?_ ?_ ?_ ?_ ?_ ?_ ?_ ?_ hs
 ·intro x hb v hx;exact hx.closed hM hb
 ·intro o o' g sz i off e v hx;cases hx with|ref ho hg h=>exact .ref pi hg h
 ·intro o o' g sz i len e v hx;cases hx with|sl ho hg h=>exact .sl pi hg h
 ·intro o o' e v hx;cases hx with|mp ho h=>exact .mp pi h
 ·intro xs ys _ ih v hx;cases hx with|agg hv h=>exact .agg hv (ih h)
 ·intro xs ys _ ih v hx;cases hx with|tup h=>exact .tup (ih h)
 ·intro f a b a' b' _ _ ih1 ih2 v hx;cases hx with|fn h1 h2=>exact .fn (ih1 h1) (ih2 h2)
 ·intro vs hx;cases hx;exact .nil
 ·intro x y xs ys _ _ ih1 ih2 vs hx;cases hx with|cons h t=>exact .cons (ih1 h) (ih2 t)
theorem Rn.back  (hφ:∀o,o<m->φ o=φ' (σ o)) (hM:∀k,M k->M' k){y:AV} (hs:Rn σ x y):aN m x->∀ {v:Value},bY φ' w M' y v->bY φ w M x v:=by
 refine Rn.rec (σ:=σ) (motive_1:=λ x y _=>aN m x->∀ {v:Value},bY φ' w M' y v->bY φ w M x v) (motive_2:=λ xs ys _=>(∀c ∈ xs,aN m c)->∀ {vs:List Value},aU φ' w M' ys vs->aU φ w M xs vs)
  ?_ ?_ ?_ ?_ ?_ ?_ ?_ ?_ ?_ hs
 ·intro x hb _ v hx;exact hx.closed hM hb
 ·intro o o' g sz i off e hb v hx;cases hb with|ref hb=>cases hx with|ref ho hg h=>exact .ref pi hg h
 ·intro o o' g sz i len e hb v hx;cases hb with|sl hb=>cases hx with|sl ho hg h=>exact .sl pi hg h
 ·intro o o' e hb v hx;cases hb with|mp hb=>cases hx with|mp ho h=>exact .mp pi h
 ·intro xs ys _ ih hb v hx;cases hb with|agg hb=>cases hx with|agg hv h=>exact .agg hv (ih hb h)
 ·intro xs ys _ ih hb v hx;cases hb with|tup hb=>cases hx with|tup h=>exact .tup (ih hb h)
 ·intro f a b a' b' _ _ ih1 ih2 hb v hx;cases hb with|fn hb hb'=>cases hx with|fn h1 h2=>exact .fn (ih1 hb h1) (ih2 hb' h2)
 ·intro _ vs hx;cases hx;exact .nil
 ·intro x y xs ys _ _ ih1 ih2 hb vs hx;cases hx with|cons h t=>exact .cons (ih1 (hb _ gt) h) (ih2 (λ c hc=>hb c Wy) t)
theorem Fm.rel (hφ:∀o,φ' (σ o)=φ o) (hM:∀k,M' k->M k):∀ {xs ys:List AV}{vs:List Value},Fm σ xs ys->aU φ w M xs vs->aU φ' w M' ys vs
 | [], _, _, .nil, .nil=> .nil
 | _:: _, _, _, .cons h t, .cons h' t'=> .cons (h.rel hφ hM h') (t.rel hφ hM t')
theorem Fm.back {m:Nat} (hφ:∀o,o<m->φ o=φ' (σ o)) (hM:∀k,M k->M' k):∀ {xs ys:List AV}{vs:List Value},Fm σ xs ys->(∀c ∈ xs,aN m c)->aU φ' w M' ys vs->aU φ w M xs vs
 | [], _, _, .nil, _, .nil=> .nil
 | _:: _, _, _, .cons h t,hb, .cons h' t'=> .cons (h.back hφ hM (hb _ gt) h') (t.back hφ hM (λ c hc=>hb c Wy) t')
theorem Fm.length:∀ {xs ys:List AV},Fm σ xs ys->ys.length=xs.length
 | [], _, .nil=>rfl
 | _:: _, _, .cons _ t=>by simp [t.length]
theorem EU.rel (hφ:∀o,φ' (σ o)=φ o) (hM:∀k,M' k->M k){xs ys:List (List AV)} (hs:EU σ xs ys):
  ∀ {vs:List Value},aU φ w M xs.flatten vs->aU φ' w M' ys.flatten vs:=by
 induction hs with
 |same h=>
  intro vs hx;refine zhk hx.length λ k hk hk'=>(hx.get k hk hk').closed hM ?_;grind [List.mem_flatten,List.getElem_mem]
 |nil=>intro vs hx;cases hx;exact .nil
 |cons h _ ih=>
  intro vs hx;obtain ⟨us,ts,rfl,h1,h2⟩:=hx.split;exact (h.rel hφ hM h1).append (ih h2)
theorem EU.back {m:Nat} (hφ:∀o,o<m->φ o=φ' (σ o)) (hM:∀k,M k->M' k){xs ys:List (List AV)} (hs:EU σ xs ys):
  (∀r ∈ xs,∀c ∈ r,aN m c)->∀ {vs:List Value},aU φ' w M' ys.flatten vs->aU φ w M xs.flatten vs:=by
 induction hs with
 |same h=>
  intro _ vs hx;refine zhk hx.length λ k hk hk'=>(hx.get k hk hk').closed hM ?_;grind [List.mem_flatten,List.getElem_mem]
 |nil=>intro _ vs hx;cases hx;exact .nil
 |cons h _ ih=>
  intro hb vs hx;obtain ⟨us,ts,rfl,h1,h2⟩:=hx.split;exact (h.back hφ hM (hb _ gt) h1).append (ih (λ r hr=>hb r XV) h2)
theorem EU.shape {xs ys:List (List AV)} (hs:EU σ xs ys):ys.length=xs.length∧(∀sz,(∀r ∈ xs,r.length=sz)->∀r ∈ ys,r.length=sz)∧∀sz,(∀r ∈ ys,r.length=sz)->∀r ∈ xs,r.length=sz:=by
 induction hs with
 |same h=>grind
 |nil=>grind
 |cons h _ ih=>
  refine ⟨pi,λ sz hr r hm=> ?_,λ sz hr r hm=> ?_⟩
  ·rcases List.mem_cons.1 hm with rfl|hm
   ·rw [h.length];grind
   simp_all
  ·rcases List.mem_cons.1 hm with rfl|hm
   ·rw [<- h.length];grind
   simp_all
theorem zfi.at {l l':List (Nat×cB)} (hinj:∀a b,σ a=σ b->a=b) (hs:zfi σ l l'){o:Nat}{y:cB} (ho:fh l' o=some y):∃o0 x,o=σ o0∧fh l o0=some x∧PY σ x y:=by
 induction hs with
 |nil=>cases ho
 | @cons o1 o1' x1 y1 l l' e1 h _ ih=>
  simp only [fh,aC] at ho ⊢;grind
end
def kF (rs:List Nat) (n:Nat) (j:Nat):Nat:=if j<rs.length then rs.getD j 0 else n+(j - rs.length)
def iZ:List Nat->au->au
 | [],h=>h
 |o::l,h=>aC (iZ l h) o none
theorem TU (h:au):∀ (l:List Nat) (o:Nat),iZ l h o=if o ∈ l then none else h o
 | [],o=>by simp [iZ]
 |a::l,o=>by
  simp only [iZ,aC,List.mem_cons];by_cases e:o=a
  ·simp [e]
  ·simp [e,TU h l o]
variable {rs:List Nat}
theorem Mj {j:Nat} (h:j<rs.length):kF rs n j ∈ rs:=by
 grind [kF]
theorem zez  (hd:rs.Nodup) (hlt:∀o ∈ rs,o<n):∀a b,kF rs n a=kF rs n b->a=b:=by
 grind [kF,List.getElem_inj,Mj]
def dD (P:Program) (f:FuncId) (args:List AV) (HA:List (Nat×cB)) (m:Nat) (R0:AV) (H0:List (Nat×cB)) (k2:Nat):Prop:=
 ap P f args (fh HA) m (λ r h n'=>Wk (λ _=>r) h n' [(0,R0)] H0 k2)
def zgA (P:Program) (f:FuncId) (args:List AV) (HA:List (Nat×cB)) (m:Nat){σ:Type} (Q:σ->Prop) (R0:σ->AV) (H0:σ->List (Nat×cB)) (k2:σ->Nat):Prop:=
 ap P f args (fh HA) m (λ r h n'=>∃s,Q s∧Wk (λ _=>r) h n' [(0,R0 s)] (H0 s) (k2 s))
variable {args args' args0 caps first:List AV} {f:FuncId} {P:Program}
theorem zhE {h:au}{K:cI}{σ:Type}{Q:σ->Prop}{R0f Rf:σ->AV}{H0f HHf:σ->List (Nat×cB)}{k2f:σ->Nat}{HA:List (Nat×cB)} (rs:List Nat) (h':au)
  (hp:zgA P f args0 HA m Q R0f H0f k2f) (hd:rs.Nodup) (hlt:∀o ∈ rs,o<n) (hm:rs.length=m) (hmk:∀s,Q s->m<=k2f s) (hfz:zH h h')
  (hA:∀j,j<m->∃x y,fh HA j=some x∧h' (kF rs n j)=some y∧PY (kF rs n) x y) (hAb:∀p ∈ HA,p.1<m∧se m p.2)
  (hle:aY h h' n args args') (hb':∀c ∈ args',aN n c) (hargs0:Fm (kF rs n) args0 args') (hb0:∀c ∈ args0,aN m c)
  (hR:∀s,Q s->Rn (kF rs n) (R0f s) (Rf s)) (hHH:∀s,Q s->zfi (kF rs n) (H0f s) (HHf s)) (hk:∀s,Q s->K (Rf s) (dL (HHf s) (iZ rs h')) (n+(k2f s - m))):ap P f args h n K:=by
 refine ⟨hp.1,λ M0 φ w vs hH hargs=> ?_⟩;obtain ⟨hH',st0⟩:=hH.freeze hfz;have hσ:=zez hd hlt;have hmt:∀o g sz rs,h' o=some (.rows true g sz rs)->h o=some (.rows true g sz rs):=by
  grind [zH]
 have hmut0:∀k,bc φ h' k->bc φ h k:=by
  grind [bc]
 have hv:aU φ w (Or M0 (bc φ h')) args' vs:=by
  refine aY.rel (φ':=φ) (n':=n) hH (λ {x v} _ hx=>hx.keep φ.le_refl (λ _ _ _=>rfl) (λ k hk=> .inl (hk.imp id (hmut0 k)))) ?_ (λ o g sz h1 _ h2=>by omega) hle hb' hargs;rintro o mt g sz rs a bs ho hp ho' h0 (hk|⟨o',g',sz',rs',g'',a',bs',ho1,hp1,he⟩)
  ·grind
  ·have hne:o'≠o:=λ e=>by grind
   have ho0:=hmt _ _ _ _ ho1;have hg:g''=g':=by
    obtain ⟨A2,hA2, _⟩:=hH.obj _ _ _ _ _ ho0;grind
   subst hg;exact hH.inj _ _ _ _ _ _ _ _ _ _ _ _ _ _ ho0 ho hne (.inl rfl) hp1 hp he
 let hr:au:=λ o=>if o ∈ rs then none else h' o
 have hrmut:∀k,bc φ hr k->bc φ h' k:=by
  grind [bc]
 let M1:Nat->Prop:=Or M0 (bc φ hr)
 let φ0:aQ:=λ j=>if j<m then φ (kF rs n j) else none
 have hφ0:∀j,j<m->φ0 j=φ (kF rs n j):=λ j hj=>if_pos hj;have hgiv:∀j mt g sz rws,fh HA j=some (.rows mt g sz rws)->j<m∧∃rws',h' (kF rs n j)=some (.rows mt g sz rws')∧EU (kF rs n) rws rws'∧∀r ∈ rws,∀c ∈ r,aN m c:=by
  intro j mt g sz rws hj;have hjm:=hAb _ (uz hj);obtain ⟨x,y,h1,h2,h3⟩:=hA j hjm.1;rw [hj] at h1;cases h3 with
  |rows h3=>grind [se]
 have hgmut:∀k,bc φ0 (fh HA) k->∃j,j<m∧∃g sz rws g' a bs,h' (kF rs n j)=some (.rows true g sz rws)∧φ (kF rs n j)=some (g',some (a,bs))∧a.block=k:=by
  grind [bc]
 have hgmut':∀k,bc φ0 (fh HA) k->bc φ h' k:=λ k hk=>by
  grind [bc]
 have hgen:∀ {o mt g sz rws g' A},h' o=some (.rows mt g sz rws)->φ o=some (g',A)->g'=g:=by
  intro o mt g sz rws g' A ho hp;obtain ⟨A2,hA2, _⟩:=hH'.obj _ _ _ _ _ ho;grind
 have hM1:∀k,Or M1 (bc φ0 (fh HA)) k->Or M0 (bc φ h') k:=by
  grind [Or]
 have hH1:m8 φ0 m w M1 (fh HA):=by
  refine ⟨λ k hk=>hH'.blk (hk.imp id (hrmut k)),λ o ho=>if_neg ge,λ j mt g sz rws hj=> ?_,λ o o' mt g sz rws mt' g' sz' rws' a a' b b' ho ho' hne hmm hp hp'=> ?_,hH'.glob.keep (λ _ _ _=>rfl) (λ k hk=> .inl (hM1 k hk))⟩
  ·obtain ⟨hjm,rws',h1,h2,h3⟩:=hgiv _ _ _ _ _ hj;obtain ⟨A,hA1,hc⟩:=hH'.obj _ _ _ _ _ h1;refine ⟨A,pi,hc.imp (λ h=>⟨h.1, ?_⟩) ?_⟩
   ·obtain ⟨_,rfl⟩:=h;exact List.eq_nil_of_length_eq_zero h2.shape.1.symm
   ·rintro ⟨a,bs,c1,c3,hd⟩;refine ⟨a,bs,c1, ?_,hd.turn rfl h2.shape.1.symm (h2.shape.2.2 sz) (λ c9=>h2.back hφ0 hM1 h3 c9)⟩
    ·rintro (hk|⟨o',g1,sz1,rs1,g1',a',bs',ho1,hp1,he⟩)
     ·grind
     ·simp only [hr] at ho1;split at ho1
      ·cases ho1
      ·rename_i hni;obtain rfl:=hgen ho1 hp1;subst c1;exact hH'.inj _ _ _ _ _ _ _ _ _ _ _ _ _ _ ho1 h1 (λ e=>hni (e▸Mj ge)) (.inl rfl) hp1 hA1 he
  ·obtain ⟨hj,r1,h1, _⟩:=hgiv _ _ _ _ _ ho;obtain ⟨hj',r1',h1', _⟩:=hgiv _ _ _ _ _ ho';rw [hφ0 o hj] at hp;rw [hφ0 o' hj'] at hp';exact hH'.inj _ _ _ _ _ _ _ _ _ _ _ _ _ _ h1 h1' (λ e=>hne (hσ _ _ e)) hmm hp hp'
 have hargs1:aU φ0 w (Or M1 (bc φ0 (fh HA))) args0 vs:=hargs0.back hφ0 hM1 hb0 hv;refine (hp.2 _ φ0 w vs hH1 hargs1).mono ?_;rintro e w' ⟨v,φ1,r,h1,n',rfl,⟨s,hQ,hK⟩,hH2,hx,st⟩;replace hR:=hR s hQ;replace hHH:=hHH s hQ;replace hk:=hk s hQ;replace hmk:=hmk s hQ;clear hp;generalize R0f s=R0 at hK hR;generalize Rf s=R at hR hk;generalize H0f s=H0 at hK hHH;generalize HHf s=HH at hHH hk;generalize k2f s=k2 at hK hk hmk;obtain ⟨φ2,hH3,hx3,hm3,hst⟩:=hK.sound hH2 (tmps:=λ _=>v) (λ _=>hx);have hx3:=hx3 0;simp only [Fb,cZ] at hx3;have hlater:∀j x,j<m->φ (kF rs n j)=some x->∃x',φ2 j=some x'∧x.1<=x'.1∧(x'.1=x.1->x'=x):=by
  intro j x hj hx;obtain ⟨x',h1,h2,h3⟩:=st.le j x pi;grind
 let φ3:aQ:=λ o=>if o ∈ rs then φ2 (rs.idxOf o) else if o<n then φ o else φ2 (o - n+m)
 have hidx:∀j,j<m->rs.idxOf (kF rs n j)=j:=by
  grind [kF]
 have e3:∀o,φ3 (kF rs n o)=φ2 o:=by
  grind [kF]
 have e3':∀o,o<n->o ∉ rs->φ3 o=φ o:=λ o ho hni=>pi;have hltn:∀o x,φ o=some x->o<n:=λ o x ho=>Nat.lt_of_not_le λ hle=>XM;have hren:∀o,o ∈ rs->∃j,j<m∧o=kF rs n j:=by
  grind [kF]
 have hle3:φ.le φ3:=by
  grind [aQ.le]
 have hheap:∀k,k<w.heap.size->¬bc φ0 (fh HA) k->w'.heap[k]? =w.heap[k]? :=λ k hk hn=>st.fr.block k hk hn;have hsrc:∀o y,dL HH (iZ rs h') o=some y->(∃o0 x,o=kF rs n o0∧fh H0 o0=some x∧PY (kF rs n) x y)∨(o<n∧o ∉ rs∧h' o=some y):=by
  intro o x ho;rw [wO] at ho;split at ho
  ·rename_i y hy;cases ho;exact .inl (hHH.at hσ hy)
  ·rw [TU] at ho;split at ho
   ·cases ho
   ·cases x with
    |rows mt g sz rws=>
     obtain ⟨A,hA, _⟩:=hH'.obj _ _ _ _ _ ho;grind
 have hmut:∀k,bc φ3 (dL HH (iZ rs h')) k->bc φ2 (fh H0) k∨bc φ hr k:=by
  rintro k ⟨o,g,sz,rws,g',a,bs,ho,hp,rfl⟩;rcases hsrc o _ ho with ⟨o0,x,rfl,h1,h2⟩|⟨h1,hni,h2⟩
  ·cases h2 with
   |rows h2=>grind [bc]
  grind [bc]
 have hmnew:∀k,bc φ2 (fh H0) k->bc φ0 (fh HA) k∨w.heap.size<=k:=λ k hk=>st.mutd k (hm3 k hk);have hsub:∀k,Or M0 (bc φ3 (dL HH (iZ rs h'))) k->Or M1 (bc φ2 (fh H0)) k:=λ k hk=>hk.elim (λ h=> .inl (.inl h)) λ h=>(hmut k h).elim .inr λ h=> .inl (.inr h);have hmutd:∀k,bc φ3 (dL HH (iZ rs h')) k->bc φ h' k∨w.heap.size<=k:=λ k hk=>
  (hmut k hk).elim (λ h=>(hmnew k h).imp (hgmut' k) id) λ h=> .inl (hrmut k h)
 have hsub':∀k,Or M0 (bc φ3 (dL HH (iZ rs h'))) k->Or M0 (bc φ h') k∨w.heap.size<=k:=λ k hk=>hk.elim (λ h=> .inl (.inl h)) λ h=>(hmutd k h).imp .inr id;have hblk:∀o x g' a bs,h' o=some x->φ o=some (g',some (a,bs))->a.block<w.heap.size:=by
  intro o x g' a bs ho hp;cases x with
  |rows mt g sz rws=>
   obtain ⟨A,hA,hc⟩:=hH'.obj _ _ _ _ _ ho;rw [hp] at hA;obtain ⟨rfl,rfl⟩:=hA;rcases hc with ⟨h, _⟩|⟨a',bs',h, _,h2⟩
   ·cases h
   ·obtain ⟨rfl,rfl⟩:=h;exact h2.blk
 have hkeep:∀o mt g sz rws g' a bs,o ∉ rs->h' o=some (.rows mt g sz rws)->φ o=some (g',some (a,bs))->¬bc φ0 (fh HA) a.block:=by
  intro o mt g sz rws g' a bs hni ho hp hk;obtain ⟨j,hj,g1,sz1,rws1,g1',a1,bs1,q1,q2,q3⟩:=hgmut _ hk;obtain rfl:=hgen ho hp;obtain rfl:=hgen q1 q2;exact hH'.inj _ _ _ _ _ _ _ _ _ _ _ _ _ _ q1 ho (λ e=>hni (e▸Mj ge)) (.inl rfl) q2 hp q3
 have hfar:∀o0 mt g sz rws g' a bs o' y g1 a' b',fh H0 o0=some (.rows mt g sz rws)->φ2 o0=some (g',some (a,bs))->o' ∉ rs->h' o'=some y->φ o'=some (g1,some (a',b'))->
   (mt=true∨∃g sz rs,y= .rows true g sz rs)->a.block≠a'.block:=by
  intro o0 mt g sz rws g' a bs o' y g1 a' b' q1 q2 hni q3 q4 hmm;have hb1:=hblk _ _ _ _ _ q3 q4;rcases hmm with rfl|⟨g2,sz2,rs2,rfl⟩
  ·rcases hmnew a.block ⟨o0,g,sz,rws, _,a,bs,q1,q2,rfl⟩ with hk|hk
   ·cases y<;>grind
   ·omega
  ·obtain ⟨A,hA,hc⟩:=hH3.obj _ _ _ _ _ q1;grind [Or,bc]
 refine ⟨v,φ3,R,dL HH (iZ rs h'),n+(k2 - m),rfl,hk,⟨λ k hk=>Nat.lt_of_lt_of_le (hH.m0 k hk) st.fr.size,λ o ho=> ?_,λ o mt g sz rws ho=> ?_,λ o o' mt g sz rws mt' g' sz' rws' a a' b b' ho ho' hne hmm hp hp'=> ?_,
   hH'.glob.keep (λ k hn hk=>hheap k hk (λ hg=>hn (.inr (hgmut' k hg)))) hsub'⟩,
  hR.rel e3 hsub hx3,st0.trans ⟨hle3,hsub',⟨st.fr.os,st.fr.tape,st.fr.output,st.fr.drawn,st.fr.size,λ k hk hn=>hheap k hk (λ hg=>hn (hgmut' k hg))⟩,hmutd⟩⟩
 ·have h1:kF rs n (o - n+m)=o:=by unfold kF;grind
  rw [<- h1,e3];exact hH3.fresh _ ge
 ·rcases hsrc o _ ho with ⟨o0,x,rfl,h1,h2⟩|⟨h1,hni,h2⟩
  ·cases h2 with
   |rows hs=>
    obtain ⟨A,hA,hc⟩:=hH3.obj _ _ _ _ _ h1;refine ⟨A,pi,hc.imp (λ h=>⟨h.1, ?_⟩) ?_⟩
    ·obtain ⟨_,rfl⟩:=h;exact List.eq_nil_of_length_eq_zero hs.shape.1
    ·rintro ⟨a,bs,c1,c3,hd⟩;exact ⟨a,bs,c1,λ hk=>c3 (.inl hk),hd.turn rfl hs.shape.1 (hs.shape.2.1 sz) (λ c9=>hs.rel e3 hsub c9)⟩
  ·obtain ⟨A,hA,hc⟩:=hH'.obj _ _ _ _ _ h2;refine ⟨A,pi,hc.imp id ?_⟩;rintro ⟨a,bs,c1,c3,hd⟩;exact ⟨a,bs,c1,c3,hd.keep (hheap _ hd.blk (hkeep _ _ _ _ _ _ _ _ hni h2 (by rw [hA,c1]))) (λ c9=>c9.keep hle3 (λ k hn hk=>hheap k hk (λ hg=>hn (.inr (hgmut' k hg)))) hsub')⟩
 ·rcases hsrc o _ ho with ⟨o0,x,rfl,q1,q2⟩|⟨q1,qn,q2⟩<;>rcases hsrc o' _ ho' with ⟨o0',x',rfl,q1',q2'⟩|⟨q1',qn',q2'⟩
  ·cases q2;cases q2';rw [e3] at hp hp';exact hH3.inj _ _ _ _ _ _ _ _ _ _ _ _ _ _ q1 q1' (λ e=>hne (by rw [e])) hmm hp hp'
  ·cases q2;rw [e3] at hp;rw [e3' o' q1' qn'] at hp';exact hfar _ _ _ _ _ _ _ _ _ _ _ _ _ q1 hp qn' q2' hp' (hmm.imp id λ h=>by grind)
  ·cases q2';rw [e3' o q1 qn] at hp;rw [e3] at hp';exact Ne.symm (hfar _ _ _ _ _ _ _ _ _ _ _ _ _ q1' hp' qn q2 hp (hmm.symm.imp id λ h=>by grind))
  ·rw [e3' o q1 qn] at hp;rw [e3' o' q1' qn'] at hp';exact hH'.inj _ _ _ _ _ _ _ _ _ _ _ _ _ _ q2 q2' hne hmm hp hp'
theorem zhf {h:au}{K:cI}{R0 R:AV}{HA H0 HH:List (Nat×cB)} (rs:List Nat) (h':au)
  (hp:dD P f args0 HA m R0 H0 k2) (hd:rs.Nodup) (hlt:∀o ∈ rs,o<n) (hm:rs.length=m) (hmk:m<=k2) (hfz:zH h h')
  (hA:∀j,j<m->∃x y,fh HA j=some x∧h' (kF rs n j)=some y∧PY (kF rs n) x y) (hAb:∀p ∈ HA,p.1<m∧se m p.2)
  (hle:aY h h' n args args') (hb':∀c ∈ args',aN n c) (hargs0:Fm (kF rs n) args0 args') (hb0:∀c ∈ args0,aN m c)
  (hR:Rn (kF rs n) R0 R) (hHH:zfi (kF rs n) H0 HH) (hk:K R (dL HH (iZ rs h')) (n+(k2 - m))):ap P f args h n K:=
 zhE (σ:=Unit) (Q:=λ _=>True) (R0f:=λ _=>R0) (Rf:=λ _=>R) (H0f:=λ _=>H0) (HHf:=λ _=>HH) (k2f:=λ _=>k2) rs h'
  ⟨hp.1,λ M0 φ w vs h1 h2=>(hp.2 M0 φ w vs h1 h2).mono λ e w' ⟨v,φ',r,h',n',a,b,c⟩=>⟨v,φ',r,h',n',a,⟨(),trivial,b⟩,c⟩⟩
  hd hlt hm (λ _ _=>hmk) hfz hA hAb hle hb' hargs0 hb0 (λ _ _=>hR) (λ _ _=>hHH) λ _ _=>hk
theorem aN.mono  (hnm:n<=m) (h:aN n x):aN m x:=by
 induction h with
 |top=>exact .top
 |v x=>exact .v x
 |agg _ ih=>exact .agg ih
 |tup _ ih=>exact .tup ih
 |lst _ ih=>exact .lst ih
 |fp _ ih=>exact .fp ih
 |ref h=>exact .ref ge
 |sl h=>exact .sl ge
 |mp h=>exact .mp ge
 |fn _ _ ih1 ih2=>exact .fn ih1 ih2
 |gd _ ih=>exact .gd ih
variable {dst:Option Tmp} {ops rest:List Oper}
theorem zhJ {Q:c7}{i:Nat}{e:dg}{h:au}{acc:List jf}{R0 R:AV}{o:Nat}{mt:Bool}{g g' sz:Nat}{rws rws':List (List AV)}
  (hp:dD P f args0 [(0, .rows mt g sz rws)] 1 R0 [(0, .rows true g' sz rws')] 1) (ho:h o=some (.rows mt g sz rws)) (hcl:∀r ∈ rws,∀c ∈ r,aN 0 c) (hcl':∀r ∈ rws',∀c ∈ r,aN 0 c)
  (hargs:∀n₁,Fm (kF [o] n₁) args0 (first++args++caps)) (hb0:∀c ∈ args0,aN 1 c) (hb:∀n₁,o<n₁->∀c ∈ first++args++caps,aN n₁ c)
  (hR:∀n₁,Rn (kF [o] n₁) R0 R) (hfl:Bi R∨∃g sz i len,R= .sl o g sz i len)
  (hk:tY P n ops Q m (i+1) rest (put e dst R) (aC h o (some (.rows true g' sz rws'))) (acc++ [([o], [o])])):cX P n ops Q m i rest dst (.fn (.func f) first caps) args e h acc:=by
 refine ⟨R, [o], [(o,some (.rows true g' sz rws'))], .inr (.inr (.inl ⟨f,first,caps,rfl, ?_, ?_, ?_,λ h₁ n₁ hx hn=> ?_⟩)),hk⟩
 ·grind
 ·grind
 ·grind
 ·have hon:=hn o gt;have r0:kF [o] n₁ 0=o:=rfl;refine zhf (args':=first++args++caps) (HH:= [(o, .rows true g' sz rws')]) [o] h₁ hp gt pi rfl (Nat.le_refl _) (.refl _) ?_ ?_ (.refl _ _ _ _) (hb n₁ hon) (hargs n₁) hb0 (hR n₁)
   (.cons r0.symm (.rows (.same hcl')) .nil) ⟨rfl, ?_,rfl⟩
  ·intro j hj;obtain rfl:j=0:=ge;exact ⟨.rows mt g sz rws, .rows mt g sz rws,by simp [fh,cZ],pi, .rows (.same hcl)⟩
  ·intro p hp;simp only [List.mem_singleton] at hp;subst hp;refine ⟨gt,λ r hr c hc=> ?_⟩;exact aN.mono (Nat.zero_le _) (hcl r hr c hc)
  ·funext a;simp_all [dL,iZ,aB,aC]
theorem zhw {Q:c7}{i:Nat}{e:dg}{h:au}{acc:List jf}{R:Nat->AV}{HH:Nat->List (Nat×cB)}
  (b:Nat) (hbb:b=n+ops.length+16 * i) (hp:uR P f args' R HH k2) (hk16:k2<=16) (hnR:lO (R 0)) (hnH:∀p ∈ HH 0,FN p.2) (hle:∀h₁:au,aY h₁ dO 0 (first++args++caps) args') (hb:∀c ∈ args',aN 0 c)
  (hnd:((HH b).map (·.1)).Nodup) (hk:tY P n ops Q m (i+1) rest (put e dst (R b)) (dL (HH b) h) (acc++ [([pq],(HH b).map (·.1))])):cX P n ops Q m i rest dst (.fn (.func f) first caps) args e h acc:=by
 subst hbb;refine ⟨R _, [pq],(HH (n+ops.length+16 * i)).map (λ p=>(p.1,some p.2)), .inr (.inr (.inr ⟨f,first,caps,args',R 0,HH 0,HH (n+ops.length+16 * i),k2,rfl,gt,hk16,hb,hp.1,hnR,hnH,(hp.2 _).1,(hp.2 _).2,hnd,rfl,λ h₁ _=>hle h₁⟩)), ?_⟩;rw [xK hnd,List.map_map];exact hk
end Go.Av
end
section
/- Our library: ranges dL functions, and iterators: equations and steps. -/
namespace Go.Av
open Go
variable {dst:Option Tmp} {args xs ys:List AV} {rs:List (List AV)} {l more o sz:Nat} {a b:Code} {ps:List Tmp}
section
variable {P:Program} {n0:Nat} {Q:c7} {e:dg} {h:au} {n:Nat} {ops rest:List Oper}
def wo (P:Program) (n0:Nat) (ps:List Tmp) (a b:Code) (Q:c7) (v:AV) (e:dg) (h:au) (n:Nat):Prop:=
 (∃f caps caps' more rows h',v= .fn (.func f) [] caps∧zH h h'∧aY h h' n caps caps'∧(∀c ∈ caps',aN 0 c)∧K8 P f caps' more rows∧
  (∀xs ∈ rows,xs.length=ps.length)∧EO n0 (ic n0 more ps (λ n1=>iG P n1 a) (λ n1=>iG P n1 b) Q rows) e h' n)∨
 (∃f caps caps' o gn sz rs rs' more rows h',v= .fn (.func f) [] caps∧zH h h'∧h' o=some (.rows true gn sz rs)∧bg h h' n rs rs'∧(∀r ∈ rs',∀c ∈ r,aN 0 c)∧
  sK h h' n o caps caps'∧ML P f caps' [(0, .rows true gn sz rs')] 1 more rows∧
  (∀xs ∈ rows,xs.length=ps.length)∧EO n0 (ic n0 more ps (λ n1=>iG P n1 a) (λ n1=>iG P n1 b) Q rows) e (aC h' o none) n)
theorem IL (g:Operand) (ps:List Tmp) (a b:Code):iG P n0 (.rangeFunc g ps.toArray a b) Q e h n=wo P n0 ps a b Q (ev e g) e h n:=rfl
@[congr] theorem zdx {v v':AV} (hv:v=v'):wo P n0 ps a b Q v e h n=wo P n0 ps a b Q v' e h n:=by subst hv;rfl
theorem wo.mk {ps:List Tmp}{a b:Code}{f:FuncId}{caps:List AV} (caps':List AV) (h':au){more:Nat}{rows:List (List AV)} (C:K8 P f caps' more rows) (hfz:zH h h') (hle:aY h h' n caps caps') (hb:∀c ∈ caps',aN 0 c)
  (hlen:∀xs ∈ rows,xs.length=ps.length) (hk:EO n0 (ic n0 more ps (λ n1=>iG P n1 a) (λ n1=>iG P n1 b) Q rows) e h' n):wo P n0 ps a b Q (.fn (.func f) [] caps) e h n:=
 .inl ⟨f,caps,caps',more,rows,h',rfl,hfz,hle,hb,C,hlen,hk⟩
theorem wo.give {f:FuncId}{caps:List AV} (caps':List AV) (h':au) (o:Nat){gn:Nat} (rs':List (List AV)){rows:List (List AV)}
  (C:ML P f caps' [(0, .rows true gn sz rs')] 1 more rows) (hfz:zH h h') (ho:h' o=some (.rows true gn sz rs)) (hr:bg h h' n rs rs') (hbr:∀r ∈ rs',∀c ∈ r,aN 0 c) (hg:sK h h' n o caps caps')
  (hlen:∀xs ∈ rows,xs.length=ps.length) (hk:EO n0 (ic n0 more ps (λ n1=>iG P n1 a) (λ n1=>iG P n1 b) Q rows) e (aC h' o none) n):wo P n0 ps a b Q (.fn (.func f) [] caps) e h n:=
 .inr ⟨f,caps,caps',o,gn,sz,rs,rs',more,rows,h',rfl,hfz,ho,hr,hbr,hg,C,hlen,hk⟩
theorem ic.go  (hn:n0<=n)
  (hk:iG P n a (Jh (iG P n b (Ao (EO n0 (ic n0 more ps (λ n1=>iG P n1 a) (λ n1=>iG P n1 b) Q rs)) Q e))) (rC ps xs e) h n):
  ic n0 more ps (λ n1=>iG P n1 a) (λ n1=>iG P n1 b) Q (xs::rs) e h n:=⟨hn,hk⟩
theorem ic.stop {A B:Nat->c7->dg->au->Nat->Prop} (hm:more=0) (hk:Q .normal e h n):ic n0 more ps A B Q [] e h n:=⟨hm,hk⟩
theorem EO.to {K:dg->au->Nat->Prop}{E:List (Nat×AV)}{HH:List (Nat×cB)}{n':Nat} (hk:K (Fb E) (fh HH) n') (hw:Wk e h n E HH n') (hn:n0<=n'):EO n0 K e h n:= .inr ⟨E,HH,n',hw,hn,hk⟩
theorem zhv {α:Type} (S:α->List (Nat×AV)×List (Nat×cB)×Nat) (inv:List (List AV)->α->Prop){ps:List Tmp}{A B:Nat->c7->dg->au->Nat->Prop}{more:Nat}
  (h0:∀d,inv [] d->more=0∧Q .normal (Fb (S d).1) (fh (S d).2.1) (S d).2.2)
  (h1:∀xs rs d,inv (xs::rs) d->(∀d',inv rs d'->ic n0 more ps A B Q rs (Fb (S d').1) (fh (S d').2.1) (S d').2.2)->ic n0 more ps A B Q (xs::rs) (Fb (S d).1) (fh (S d).2.1) (S d).2.2):
  ∀rows d,inv rows d->ic n0 more ps A B Q rows (Fb (S d).1) (fh (S d).2.1) (S d).2.2
 | [],d,hi=>h0 d hi
 |xs::rs,d,hi=>h1 xs rs d hi λ d' hi'=>zhv S inv h0 h1 rs d' hi'
theorem La {K:dg->au->Nat->Prop}:Jh K .normal e h n=K e h n:=rfl
theorem ID {K:dg->au->Nat->Prop}{e0:dg}:Ao K Q e0 .normal e h n=K (aC e0 GH (e GH)) h n:=rfl
theorem Qc {K:dg->au->Nat->Prop}{e0:dg}:Ao K Q e0 .ret e h n=Q .ret (aC e0 GH (e GH)) h n:=rfl
theorem MO {K:dg->au->Nat->Prop}{e0:dg}{id:Nat}:Ao K Q e0 (.exit id) e h n=Q (.exit id) (aC e0 GH (e GH)) h n:=rfl
theorem V4 :rC [] xs e=e:=by simp [rC]
theorem Sm {t:Tmp}{x:AV}:rC (t::ps) (x::xs) e=rC ps xs (aC e t x):=rfl
theorem M9 {rs:List ResultVar}:zdq P rs l more .normal e h n=((wc P e h rs).1∧((more=0∧e GH=dY l 0 [])∨e GH=dY l 2 [])):=rfl
theorem zaL {rs:List ResultVar}:zdq P rs l more .ret e h n=((wc P e h rs).1∧((more=0∧e GH=dY l 0 [])∨e GH=dY l 2 [])):=rfl
theorem Qp.mk {dst:Option Tmp}{l more:Nat}{args xs:List AV}{rs:List (List AV)} (h':au) (hg:e GH=dY l more (xs::rs)) (hfz:zH h h') (hle:aY h h' n args xs) (hb:∀c ∈ xs,aN 0 c)
  (hT:gP P ops Q rest (put (aC e GH (dY l more rs)) dst (.v (.bool true))) h' n) (hF:gP P ops Q rest (put (aC e GH (dY l 2 [])) dst (.v (.bool false))) h' n):Qp P ops Q rest dst l args e h n:=
 ⟨l,more,xs::rs,rfl,hg,h',hfz,hle,hb,hT,hF⟩
theorem Qp.exh  (hg:e GH=dY l 1 []):Qp P ops Q rest dst l args e h n:=⟨l,1, [],rfl,hg,rfl⟩
theorem lC.yld  (h':au) (hg:e GH=dY l more (xs::rs)) (hfz:zH h h') (hle:aY h h' n args xs) (hb:∀c ∈ xs,aN 0 c)
  (hT:gP P ops Q rest (put (aC e GH (dY l more rs)) dst (.gd true (.v (.bool true)))) h' n) (hF:gP P ops Q rest (put (aC e GH (dY l 2 [])) dst (.gd true (.v (.bool false)))) h' n):
  lC P ops Q rest dst true (.fn (.yield l) [] []) args e h n:= .inr (.inr ⟨rfl,l,more,xs::rs,rfl,hg,h',hfz,hle,hb,hT,hF⟩)
theorem lC.exh  (hg:e GH=dY l 1 []):lC P ops Q rest dst true (.fn (.yield l) [] []) args e h n:= .inr (.inr ⟨rfl,l,1, [],rfl,hg,rfl⟩)
theorem T9 {h h':au}:sK h h' n o [] []=True:=eq_true .nil
theorem Ua {h h':au}{g i off:Nat}:sK h h' n o (.ref o g sz i off::xs) (.ref 0 g sz i off::ys)=sK h h' n o xs ys:=by
 refine propext ⟨λ hg=> ?_, .ref⟩;cases hg<;>grind
theorem zaE {h h':au}{x:AV}{cells:List AV}:sK h h' n o (x::xs) (.fp cells::ys)=(eY h h' n x (.fp cells)∧(∀c ∈ cells,aN 0 c)∧sK h h' n o xs ys):=by
 refine propext ⟨λ hg=> ?_,λ ⟨h1,h2,h3⟩=> .le h1 (.fp h2) h3⟩;cases hg with
 |le hx hb t=>cases hb<;>grind
attribute [go_sem] T9 Ua zaE
attribute [go_sem] IL La ID Qc MO V4 Sm M9 zaL Nk
end
end Go.Av
end
section
namespace Go.Av
open Go
theorem ap.clear {P:Program}{f:FuncId}{args:List AV}{h:au}{n:Nat}{K:cI}
  (hc:ap P f args h n (λ r h' n'=>∃o mt g sz rs,sz≠2∧h' o=some (.rows mt g sz rs)∧K r (aC h' o (some (.rows mt g sz []))) n')):ap P f args h n K:=by
 refine ⟨hc.1,λ M0 φ w vs hH hargs=>(hc.2 M0 φ w vs hH hargs).mono ?_⟩;rintro e w' ⟨v,φ',r,h',n',rfl,⟨o,mt,g,sz,rs,hsz,ho,hK⟩,hH',hx,st⟩;have hmut:bc φ' (aC h' o (some (.rows mt g sz [])))=bc φ' h':=by
  grind [bc,aC]
 have hold:∀o1 mt1 g1 sz1 rs1,aC h' o (some (.rows mt g sz [])) o1=some (.rows mt1 g1 sz1 rs1)->∃rs2,h' o1=some (.rows mt1 g1 sz1 rs2)∧(rs1=rs2∨rs1= []):=by
  grind [aC]
 refine ⟨v,φ',r, _,n',rfl,hK,⟨hH'.m0,hH'.fresh,λ o1 mt1 g1 sz1 rs1 h1=> ?_,λ o1 o2 mt1 g1 sz1 rs1 mt2 g2 sz2 rs2 a a' b b' h1 h2=> ?_,by rw [hmut];exact hH'.glob⟩,pi,st.le,by rw [hmut];exact st.or,st.fr,by rw [hmut];exact st.mutd⟩
 ·obtain ⟨rs2,h2,h3⟩:=hold _ _ _ _ _ h1;obtain ⟨A,hA,hobj⟩:=hH'.obj _ _ _ _ _ h2;rcases h3 with rfl|rfl
  ·grind
  ·by_cases he:o1=o
   ·subst he;rw [ho] at h2;simp only [Option.some.injEq,cB.rows.injEq] at h2;obtain ⟨rfl,rfl,rfl,rfl⟩:=h2;refine ⟨A,hA,hobj.imp (λ h=>⟨h.1,rfl⟩) ?_⟩;rintro ⟨a,bs,e1,e3,⟨C,T,e2,e4,e5,e6,e7,e8,e9⟩|⟨es,clk,e2,e4,e5,e6,e9⟩⟩
    ·exact ⟨a,bs,e1,e3, .inl ⟨C,T,e2,e4,e5,gt,pi,gt,by simpa using aU.nil⟩⟩
    omega
   grind [aC]
 ·obtain ⟨rs3,h3, _⟩:=hold _ _ _ _ _ h1;obtain ⟨rs4,h4, _⟩:=hold _ _ _ _ _ h2;exact hH'.inj _ _ _ _ _ _ _ _ _ _ _ _ _ _ h3 h4
end Go.Av
end
