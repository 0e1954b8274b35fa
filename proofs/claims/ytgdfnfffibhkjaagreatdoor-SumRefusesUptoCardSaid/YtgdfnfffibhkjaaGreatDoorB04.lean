/- Texts of ours, part 4: our library and contracts of functions. -/
import Derived.Test.YtgdfnfffibhkjaaGreatDoorB03
import Derived.RangeFuncLeaves
import Derived.RangeFuncRecord
set_option linter.unusedSimpArgs false
set_option linter.unusedVariables false
set_option maxRecDepth 100000
set_option maxHeartbeats 40000000
section
/- Our library, part 12: functions' contracts; calls of functions that only compute. -/
namespace Go.Av
open Go

variable {c:Code} {fn:Func} {f:FuncId}
theorem zic {P:Program} (hf:P.funcs[f]? =some fn) (hb:fn.body=some c) (hname:(fn.name== "runtime.NumGoroutine")=false):zfJ P f:=by
 simp_all [callFunc,zfJ]

variable {K K':zbH} {k k2 more n:Nat} {h:zay} {args args' caps xs:List AV} {M:Nat->Prop} {φ:zaD} {w:World}
section
variable {P:Program}
theorem zEi {t:TypeId}{v u:Value}{w':World} (h:(Instr.loadAt t v).run P w= .ok u w'):(do loadVar t (<- asAddr v):Sem Value).run P w= .ok u w':=by
 unfold Instr.loadAt at h;cases v with
 |pointer a=>
  cases a<;>simp_all [Instr.sureAddr,asAddr]
 | _=>simp [Instr.sureAddr] at h
def resF (tmps:Array Value):ResultVar->Sem Value
 | .tmp t=>pure (tmps.getD t undef)
 | .cell a t=>do loadVar t (<- asAddr (tmps.getD a undef))
theorem zmH (fn:Func) (tmps:Array Value):results fn tmps=(do let vs <- fn.results.mapM (resF tmps);pure (if h:vs.size=1 then vs[0] else .tuple vs)):=by
 unfold results;congr 1
theorem zhQ {φ:zaD}{n:Nat}{w:World}{M0:Nat->Prop}{h:zay} (hH:zmK φ n w M0 h){e:Env}{tmps:Array Value} (he:∀t,Rel φ w (Or M0 (Mut φ h)) (e t) (tmps.getD t undef)):
  ∀ (rs:List ResultVar),(zu7 P e h rs).1->∃vs,(rs.mapM (resF tmps)).run P w= .ok vs w∧za2 φ w (Or M0 (Mut φ h)) (zu7 P e h rs).2 vs
 | [], _=>⟨[],ac, .nil⟩
 | .tmp t::rs,hc=>by
  obtain ⟨vs,h1,h2⟩:=zhQ hH he rs hc;refine ⟨tmps.getD t undef::vs, ?_, .cons (he t) h2⟩;grind [resF,Sem.run_bind,Sem.run_pure,Result.andThen_ok]
 | .cell a t::rs,hc=>by
  obtain ⟨hc1,hc2⟩:=hc;obtain ⟨vs,h1,h2⟩:=zhQ hH he rs hc2;obtain ⟨u,h3,h4, _, _⟩:=zuS (P:=P) (t:=t) hH (he a) hc1;refine ⟨u::vs, ?_, .cons h4 h2⟩;grind [zEi,Sem.run_bind,resF,Result.andThen_ok,Sem.run_pure]
theorem zu8 {vs:List Value} (h:za2 φ w M xs vs):
  Rel φ w M (zK6 xs) (if h:(⟨vs⟩:Array Value).size=1 then (⟨vs⟩:Array Value)[0] else .tuple ⟨vs⟩):=by
 cases h with
 |nil=>exact .tup .nil
 |cons h t=>
  cases t with
  |nil=>grind [zK6]
  |cons h' t'=>simpa [zK6] using Rel.tup (.cons h (.cons h' t'))

theorem zqw {φ:zaD}{w:World}{M:Nat->Prop}:∀ {xs:List AV}{vs:List Value} (_:za2 φ w M xs vs) (i t:Nat),zz3 i xs t= .top∨∃k,t=i+k∧∃ (hk:k<xs.length) (hk':k<vs.length),zz3 i xs t=xs[k]∧Rel φ w M xs[k] vs[k]
 | [], _, _,i,t=> .inl rfl
 |x::xs, _, .cons h ht,i,t=>by
  simp only [zz3,upd];by_cases e:t=i
  ·subst e;grind
  ·rw [if_neg e];rcases zqw ht (i+1) t with h1|⟨k,rfl,hk,hk',h1,h2⟩;all_goals grind

theorem zBP:∀ {xs:List AV}{i t:Nat},i+xs.length<=t->zz3 i xs t= .top
 | [], _, _, _=>rfl
 |x::xs,i,t,h=>by
  simp only [List.length_cons] at h;simp only [zz3,upd];rw [if_neg aa];exact zBP aa
theorem zha {P:Program}{F:Fence}{n:Nat}{fn:Func}{tmps:Array Value}{R:Ending->World->Prop}{lo:Nat}{M:Nat->Prop}:∀ {ds:List Deferred}{w:World},zk7 lo M ds w->
  (∀w',NC lo w w'->∃v,(results fn tmps).run P w'= .ok v w'∧R (.returned v) w')->LeavesInM F n P fn tmps R ds .returning w
 | [],w, _,h=>h w (.refl lo w)
 |d::ds,w,hm,h=>by
  obtain ⟨hp,hd⟩:=hm;rw [List.pairwise_cons] at hp;obtain ⟨D,e1,e0,e2,e3⟩:=hd d ac;have hnc:NC lo w (w.putObj D (.deferred none)):= .putObj _ e0 e3 ac ac;refine ⟨ac, .inl ⟨D, _,by rw [e1],run_takeDeferred e3,zha (M:=M) ⟨hp.2,λ d' hd'=> ?_⟩ λ w' hn=>h w' (hnc.trans hn)⟩⟩;obtain ⟨D',k1,k0,k2,k3⟩:=hd d' (by simp [hd']);refine ⟨D',k1,k0,k2,(World.putObj_heap_other ?_).trans k3⟩;rintro rfl;exact hp.1 d' hd' (e1.trans k1.symm)
def zLK (P:Program) (φ:zaD) (w:World) (M0:Nat->Prop) (h:zay) (n0:Nat) (fresh:∀o,n0<=o->φ o=none):zjD P where
 n0:=n0
 lo:=w.heap.size
 round:=none
 ok0 g M O φ' w' h':=g= .top∧M=M0∧(∀k,O k->Mut φ h k∨w.heap.size<=k)∧ze3 φ w M0 h φ' w' h'
 isG0 hk:= .inl hk.1
 step0 hk st:=by
  obtain ⟨h1,rfl,h2,h3⟩:=hk;exact ⟨h1,rfl,h2,h3.trans st⟩
 forget0:=by
  rintro g g' M O φ1 w1 h1 φ2 h2 n' ⟨e1,rfl,hO,st⟩ hg h3 h4 hn;refine ⟨af,rfl,hO, ?_,λ k hk=> ?_,st.fr,λ k hk=>st.mutd k (h3 k hk)⟩
  ·intro o x hx;obtain ⟨x',hx',l1,l2⟩:=st.le o x hx;grind
  ·rcases hk with hk|hk
   ·grind [Or]
   ·exact st.or k (.inr (h3 k hk))
 yld0 hk:=by cases hk.1
 exh0 hk:=by cases hk.1
 oth0:=by
  rintro g M O O' φ' w1 w2 h1 ⟨e1,rfl,hO,st⟩ hfr hO';have hs:=st.fr.size;exact ⟨e1,rfl,λ k hk=>(hO' k hk).elim (hO k) (λ h=> .inr aa),st.le,st.or,
   ⟨hfr.os.trans st.fr.os,hfr.tape.trans st.fr.tape,hfr.output.trans st.fr.output,Nat.le_trans st.fr.drawn hfr.drawn,Nat.le_trans hs hfr.size,λ k hk hu=>(hfr.block k aa (λ h=>(hO k h).elim hu (λ h=>by omega))).trans (st.fr.block k hk hu)⟩,st.mutd⟩
 give0:=by
  rintro g M O O' φ' w1 h1 h2 ⟨e1,rfl,hO,st⟩ hO' hm;refine ⟨e1,rfl,λ k hk=>(hO' k hk).elim (hO k) (st.mutd k),st.le,λ k hk=>hk.elim (λ h=> .inl (.inl h)) (λ h=>st.or k (.inr (hm k h))),st.fr,λ k hk=>st.mutd k (hm k hk)⟩
 nc0:=by
  rintro g M O φ' w1 w2 h1 ⟨e1,rfl,hO,st⟩ hn;exact ⟨e1,rfl,hO,st.nc hn⟩
 lo0 hk:=hk.2.2.2.fr.size
 rec0 _ h:=aV
theorem zOn (hmix:P.follows .mixedOrders=true) (hf:P.funcs[f]? =some fn) (hb:fn.body=some c) (hname:(fn.name== "runtime.NumGoroutine")=false)
  (hN:args.length<=fn.ntmps) (hd:zur fn.ntmps c=true) (hh:awp P n c (zLs P fn.results.toList K) (zz3 0 args) h n) (hG:fn.ntmps<=GH:=by exact Nat.le_of_ble_eq_true rfl):zaj P f args h n K:=by
 refine ⟨zic hf hb hname,λ M0 φ w vs hH hargs=> ?_⟩;have hlen:=hargs.length;let B:zjD P:=zLK P φ w M0 h n hH.fresh
 have hsr:SR B fn.ntmps M0 φ (zz3 0 args) h n { tmps:=⟨vs⟩++Array.replicate (fn.ntmps - (⟨vs⟩:Array Value).size) undef,defers:= []} w:=by
  refine ⟨λ t=> ?_,af,zk7.nil,hH,⟨M0,λ _=>False,(zhd M0).symm,zBP aa,rfl,λ _ h=>h.elim, .refl _ _ _ _⟩,hG⟩;rcases zqw hargs 0 t with h1|⟨k,rfl,hk,hk',h1,h2⟩
  ·rw [h1];exact .top _
  ·rw [h1];have:((⟨vs⟩:Array Value)++Array.replicate (fn.ntmps - (⟨vs⟩:Array Value).size) undef).getD (0+k) undef=vs[k]:=by
    simp_all [Array.getElem?_append]
   grind
 have hw:=znX (P:=P) hmix (B:=B) (N:=fn.ntmps) (m:=0) hd hsr hh;refine callsIn_wide.1 (callsIn_of_wp_marks (F:=WF none) (n:=0) hf hb trivial (wpIn_mono hw ?_) rfl);rintro ex a' w' ⟨M,φ',e',h',n',hs',hq⟩;have fin:(zu7 P e' h' fn.results.toList).1∧K (zK6 (zu7 P e' h' fn.results.toList).2) h' n'->LeavesInM (WF none) 0 P fn a'.tmps (λ e w'=>∃v_1 φ'_1 r h'_1 n'_1,e=Ending.returned v_1∧K r h'_1 n'_1∧zmK φ'_1 n'_1 w' M0 h'_1∧Rel φ'_1 w' (Or M0 (Mut φ'_1 h'_1)) r v_1∧ze3 φ w M0 h φ'_1 w' h'_1) a'.defers .returning w':=by
  rintro ⟨q1,q2⟩;obtain ⟨M1,O,rfl, _,rfl, _,hst⟩:=hs'.ok;refine zha hs'.defs λ w'' hn=> ?_;have hsub:∀k,Or M1 (Mut φ' h') k->Or (Or M1 O) (Mut φ' h') k:=λ k hk=>hk.imp .inl id;have hHm:zmK φ' n' w' M1 h':=hs'.heap.lessM λ k hk=> .inl hk;obtain ⟨us,h1,h2⟩:=zhQ (P:=P) (hHm.nc hn) (λ t=>((hs'.env t).lessM hsub).nc hn) fn.results.toList q1;refine ⟨_, ?_, _,φ', _,h',n',rfl,q2,hHm.nc hn,zu8 h2,hst.nc hn⟩;grind [zmH,Array.mapM_eq_mapM_toList,Sem.run_bind,Sem.run_map,Sem.run_pure,Result.andThen_ok]
 cases ex with
 |normal=>exact fin hq
 |ret=>exact fin hq
 | _=>exact hq.elim
end

theorem zoh  (hM:∀k,M k->k<w.heap.size) (hg:zoY w M):zmK noP 0 w M noH:=
 ⟨hM,λ _ _=>rfl,(λ o mt g sz rs ho=>by cases ho),(λ o o' mt g sz rs mt' g' sz' rs' a a' b b' ho=>by cases ho),
  hg.keep (λ _ _ _=>rfl) (λ k hk=> .inl (hk.elim id λ h=>(za9 h).elim))⟩

def RetI (P:Program) (rs:List ResultVar) (l more:Nat):zc2
 | .normal,e,h,n| .ret,e,h,n=>(zu7 P e h rs).1∧((more=0∧e GH=zcN l 0 [])∨e GH=zcN l 2 [])
 | _, _, _, _=>False
theorem zlM {l l' m m':Nat}{r r':List (List AV)} (h:zcN l m r=zcN l' m' r'):l=l'∧m=m'∧r=r':=by
 grind [zcN]
def zLQ (P:Program) (w:World) (l more:Nat) (J:List (List AV)->zfH->zfH->World->Prop) (Jx:zfH->zfH->World->Prop)
  (hJ:∀rs M O O' w1 w2,J rs M O w1->Fr w1 O w2->(∀k,O' k->O k∨w1.heap.size<=k)->J rs M O' w2)
  (hJx:∀M O O' w1 w2,Jx M O w1->Fr w1 O w2->(∀k,O' k->O k∨w1.heap.size<=k)->Jx M O' w2)
  (hn:∀rs M O w1 w2,J rs M O w1->NC w.heap.size w1 w2->J rs M O w2) (hnx:∀M O w1 w2,Jx M O w1->NC w.heap.size w1 w2->Jx M O w2)
  (hr:∀ (r:Option Nat) (m:Nat) xs rest M O w1 vs,J (xs::rest) M O w1->(∀k,O k->k<w1.heap.size)->za2 noP w1 (Or M O) xs vs->
   ∃fn tmps assign body,(Instr.yield l ⟨vs⟩).run P w1= .ok (.round l fn tmps assign body) w1∧RoundIn (WF r) m P l fn tmps assign body w1 λ e w'=>
    ∃b M',e= .returned (.bool b)∧zqg M w1 M' w'∧if b then J rest M' O w' else Jx M' O w')
  (hm:more=1->∀M O w1,¬J [] M O w1):zjD P where
 n0:=0
 lo:=w.heap.size
 round:=none
 ok0 g M O φ w1 h:=w.heap.size<=w1.heap.size∧w1.os=w1.os∧((∃rs,g=zcN l more rs∧J rs M (Or O (Mut φ h)) w1)∨(g=zcN l 2 []∧Jx M (Or O (Mut φ h)) w1)∨g= .top)
 isG0:=by
  grind [zcN,IsG]
 step0:=by
  rintro g M O φ w1 h φ' w2 h' ⟨h1, _,h2⟩ st;have hfr:Fr w1 (Or O (Mut φ h)) w2:=st.fr.more λ k hk=> .inr hk;have hO:∀k,Or O (Mut φ' h') k->Or O (Mut φ h) k∨w1.heap.size<=k:=λ k hk=>hk.elim (λ h=> .inl (.inl h)) λ h=>(st.mutd k h).imp .inr id;exact ⟨Nat.le_trans h1 st.fr.size,rfl,h2.imp (λ ⟨rs,e,h⟩=>⟨rs,e,hJ _ _ _ _ _ _ h hfr hO⟩) (λ h=>h.imp (λ h=>⟨h.1,hJx _ _ _ _ _ h.2 hfr hO⟩) id)⟩
 forget0:=by
  rintro g g' M O φ w1 h φ' h' n' ⟨h1, _,h2⟩ hg h3 h4 _;have hO:∀k,Or O (Mut φ' h') k->Or O (Mut φ h) k∨w1.heap.size<=k:=λ k hk=> .inl (hk.imp id (h3 k));rcases hg with rfl|rfl
  ·exact ⟨h1,rfl,h2.imp (λ ⟨rs,e,h⟩=>⟨rs,e,hJ _ _ _ _ _ _ h (Fr.refl _ _) hO⟩) (λ h=>h.imp (λ h=>⟨h.1,hJx _ _ _ _ _ h.2 (Fr.refl _ _) hO⟩) id)⟩
  grind
 yld0:=by
  rintro r m l' more' xs rest M O φ w1 h n vs ⟨h1, _,⟨rs,e,h2⟩|⟨e, _⟩|e⟩ hH hv
  ·obtain ⟨rfl,rfl,rfl⟩:=zlM e;obtain ⟨fn,tm,asg,body,k1,k2⟩:=hr r m xs rest M _ w1 vs h2 (λ k hk=>hk.elim (λ h=>hH.m0 k (.inr h)) λ h=>hH.blk (.inr h)) (by grind [zsM]);refine ⟨fn,tm,asg,body,k1,k2.mono ?_⟩;rintro en w2 ⟨b,M',e1,g,hk⟩;refine ⟨b,M',e1,g,Nat.le_trans h1 g.size,rfl, ?_⟩;grind
  all_goals grind [zcN]
 exh0:=by
  grind [zcN]
 oth0:=by
  rintro g M O O' φ w1 w2 h ⟨h1, _,h2⟩ hfr hO;have hfr':Fr w1 (Or O (Mut φ h)) w2:=hfr.more λ k hk=> .inl hk;have hO':∀k,Or O' (Mut φ h) k->Or O (Mut φ h) k∨w1.heap.size<=k:=λ k hk=>hk.elim (λ h=>(hO k h).imp .inl id) λ h=> .inl (.inr h);exact ⟨Nat.le_trans h1 hfr.size,rfl,h2.imp (λ ⟨rs,e,h⟩=>⟨rs,e,hJ _ _ _ _ _ _ h hfr' hO'⟩) (λ h=>h.imp (λ h=>⟨h.1,hJx _ _ _ _ _ h.2 hfr' hO'⟩) id)⟩
 nc0:=by
  rintro g M O φ w1 w2 h ⟨h1, _,h2⟩ hnc;exact ⟨by rw [hnc.size];exact h1,rfl,h2.imp (λ ⟨rs,e,h⟩=>⟨rs,e,hn _ _ _ _ _ h hnc⟩) (λ h=>h.imp (λ h=>⟨h.1,hnx _ _ _ _ h.2 hnc⟩) id)⟩
 give0:=by
  rintro g M O O' φ w1 h h' ⟨h1, _,h2⟩ hO' hm;have hO:∀k,Or O' (Mut φ h') k->Or O (Mut φ h) k∨w1.heap.size<=k:=λ k hk=> .inl (hk.elim (hO' k) λ h=> .inr (hm k h));exact ⟨h1,rfl,h2.imp (λ ⟨rs,e,h⟩=>⟨rs,e,hJ _ _ _ _ _ _ h (Fr.refl _ _) hO⟩) (λ h=>h.imp (λ h=>⟨h.1,hJx _ _ _ _ _ h.2 (Fr.refl _ _) hO⟩) id)⟩
 lo0 h:=h.1
 rec0 _ h:=aV
variable {rows:List (List AV)}
theorem zOr {P:Program} (hmix:P.follows .mixedOrders=true) (hf:P.funcs[f]? =some fn) (hb:fn.body=some c) (hname:(fn.name== "runtime.NumGoroutine")=false)
  (hN:caps.length+1<=fn.ntmps) (hd:zur fn.ntmps c=true)
  (hh:∀l,awp P 0 c (RetI P fn.results.toList l more) (upd (zz3 0 (.fn (.yield l) [] []::caps)) GH (zcN l more rows)) noH 0) (hG:fn.ntmps<=GH:=by exact Nat.le_of_ble_eq_true rfl) (hm2:more≠2:=by decide):zJs P f caps more rows:=by
 refine ⟨zic hf hb hname,λ w M0 cvs l J Jx hM0 hgl hcaps hJ hJx hn hnx hr hm h0=> ?_⟩;have hlen:=hcaps.length;let B:zjD P:=zLQ P w l more J Jx hJ hJx hn hnx hr hm
 have hargs:za2 noP w (Or M0 (Mut noP noH)) (.fn (.yield l) [] []::caps) (.func (.yield l) #[] #[]::cvs):=
  .cons (.fn .nil .nil) (hcaps.keep noP.le_refl (λ _ _ _=>rfl) λ k hk=> .inl (hk.elim id λ h=>(za9 h).elim))
 have hsr:SR B fn.ntmps M0 noP (upd (zz3 0 (.fn (.yield l) [] []::caps)) GH (zcN l more rows)) noH 0
   { tmps:=⟨.func (.yield l) #[] #[]::cvs⟩++Array.replicate (fn.ntmps - (⟨.func (.yield l) #[] #[]::cvs⟩:Array Value).size) undef,defers:= []} w:=by
  refine ⟨λ t=> ?_,af,zk7.nil,zoh hM0 hgl,⟨M0,λ _=>False,(zhd M0).symm,Nat.le_refl _,rfl, .inl ⟨rows,by rw [zbk],hJ _ _ _ _ _ _ h0 (Fr.refl _ _) λ k hk=> .inl (hk.elim id λ h=>(za9 h).elim)⟩⟩,hG⟩;by_cases ht:t=GH
  ·subst ht;rw [zbk,Array.getD_eq_getD_getElem?,Array.getElem?_eq_none af];exact .gd (λ h=>by cases h) (λ _=>rfl)
  rw [zeU _ _ ht];rcases zqw hargs 0 t with h1|⟨k,rfl,hk,hk',h1,h2⟩
  ·rw [h1];exact .top _
  ·rw [h1];have:((⟨.func (.yield l) #[] #[]::cvs⟩:Array Value)++Array.replicate (fn.ntmps - (⟨.func (.yield l) #[] #[]::cvs⟩:Array Value).size) undef).getD (0+k) undef=(Value.func (.yield l) #[] #[]::cvs)[k]:=by
    simp only [List.length_cons] at hk';simp_all [Array.getElem?_append]
   grind
 have hw:=znX (P:=P) hmix (B:=B) (N:=fn.ntmps) (m:=0) hd hsr (hh l);refine callsIn_wide.1 (callsIn_of_wp_marks (F:=WF none) (n:=0) hf hb trivial (wpIn_mono hw ?_) rfl);rintro ex a' w' ⟨M,φ',e',h',n',hs',hq⟩;have fin:(zu7 P e' h' fn.results.toList).1∧((more=0∧e' GH=zcN l 0 [])∨e' GH=zcN l 2 [])->
   LeavesInM (WF none) 0 P fn a'.tmps (λ e w'=>(∃v,e= .returned v)∧∃M' O',(∀k,O' k->k<w'.heap.size)∧((more=0∧J [] M' O' w')∨Jx M' O' w')) a'.defers .returning w':=by
  rintro ⟨q1,q2⟩;obtain ⟨Mc,O,rfl, _, _,hst⟩:=hs'.ok;refine zha hs'.defs λ w'' hnc=> ?_;obtain ⟨us,h1,h2⟩:=zhQ (P:=P) (hs'.heap.nc hnc) (λ t=>(hs'.env t).nc hnc) fn.results.toList q1;refine ⟨if h:(⟨us⟩:Array Value).size=1 then (⟨us⟩:Array Value)[0] else .tuple ⟨us⟩, ?_,⟨_,rfl⟩,Mc,Or O (Mut φ' h'),λ k hk=> ?_, ?_⟩
  ·grind [zmH,Array.mapM_eq_mapM_toList,Sem.run_bind,Sem.run_map,Sem.run_pure,Result.andThen_ok]
  ·rw [hnc.size];exact hk.elim (λ h=>hs'.heap.m0 k (.inr h)) λ h=>hs'.heap.blk (.inr h)
  ·rcases hst with ⟨rs,e1,h⟩|⟨e1,h⟩|e1
   ·rw [e1] at q2;rcases q2 with ⟨e2,q2⟩|q2
    ·obtain ⟨_, _,rfl⟩:=zlM q2;exact .inl ⟨e2,hn _ _ _ _ _ h hnc⟩
    grind [zlM]
   ·exact .inr (hnx _ _ _ _ h hnc)
   ·rw [e1] at q2;rcases q2 with ⟨_,q2⟩|q2<;>cases q2
 cases ex with
 |normal=>exact fin hq
 |ret=>exact fin hq
 | _=>exact hq.elim

theorem zOH {P:Program} (hmix:P.follows .mixedOrders=true){HO:List (Nat×zcr)}{k0:Nat} (hf:P.funcs[f]? =some fn) (hb:fn.body=some c) (hname:(fn.name== "runtime.NumGoroutine")=false)
  (hN:caps.length+1<=fn.ntmps) (hd:zur fn.ntmps c=true)
  (hh:∀l,awp P 0 c (RetI P fn.results.toList l more) (upd (zz3 0 (.fn (.yield l) [] []::caps)) GH (zcN l more rows)) (mkH HO) k0) (hG:fn.ntmps<=GH:=by exact Nat.le_of_ble_eq_true rfl) (hm2:more≠2:=by decide):zFM P f caps HO k0 more rows:=by
 refine ⟨zic hf hb hname,λ φ w M0 cvs l J Jx hH0 hcaps hJ hJx hn hnx hr hm h0=> ?_⟩;have hlen:=hcaps.length;let B:zjD P:=zLQ P w l more J Jx hJ hJx hn hnx hr hm
 have hargs:za2 φ w (Or M0 (Mut φ (mkH HO))) (.fn (.yield l) [] []::caps) (.func (.yield l) #[] #[]::cvs):= .cons (.fn .nil .nil) hcaps;have hsr:SR B fn.ntmps M0 φ (upd (zz3 0 (.fn (.yield l) [] []::caps)) GH (zcN l more rows)) (mkH HO) k0
   { tmps:=⟨.func (.yield l) #[] #[]::cvs⟩++Array.replicate (fn.ntmps - (⟨.func (.yield l) #[] #[]::cvs⟩:Array Value).size) undef,defers:= []} w:=by
  refine ⟨λ t=> ?_,af,zk7.nil,hH0,⟨M0,λ _=>False,(zhd M0).symm,Nat.le_refl _,rfl, .inl ⟨rows,by rw [zbk],hJ _ _ _ _ _ _ h0 (Fr.refl _ _) λ k hk=> .inl (hk.elim False.elim id)⟩⟩,hG⟩;by_cases ht:t=GH
  ·subst ht;rw [zbk,Array.getD_eq_getD_getElem?,Array.getElem?_eq_none af];exact .gd (λ h=>by cases h) (λ _=>rfl)
  rw [zeU _ _ ht];rcases zqw hargs 0 t with h1|⟨k,rfl,hk,hk',h1,h2⟩
  ·rw [h1];exact .top _
  ·rw [h1];have:((⟨.func (.yield l) #[] #[]::cvs⟩:Array Value)++Array.replicate (fn.ntmps - (⟨.func (.yield l) #[] #[]::cvs⟩:Array Value).size) undef).getD (0+k) undef=(Value.func (.yield l) #[] #[]::cvs)[k]:=by
    simp only [List.length_cons] at hk';simp_all [Array.getElem?_append]
   grind
 have hw:=znX (P:=P) hmix (B:=B) (N:=fn.ntmps) (m:=0) hd hsr (hh l);refine callsIn_wide.1 (callsIn_of_wp_marks (F:=WF none) (n:=0) hf hb trivial (wpIn_mono hw ?_) rfl);rintro ex a' w' ⟨M,φ',e',h',n',hs',hq⟩;have fin:(zu7 P e' h' fn.results.toList).1∧((more=0∧e' GH=zcN l 0 [])∨e' GH=zcN l 2 [])->
   LeavesInM (WF none) 0 P fn a'.tmps (λ e w'=>(∃v,e= .returned v)∧∃M' O',(∀k,O' k->k<w'.heap.size)∧((more=0∧J [] M' O' w')∨Jx M' O' w')) a'.defers .returning w':=by
  rintro ⟨q1,q2⟩;obtain ⟨Mc,O,rfl, _, _,hst⟩:=hs'.ok;refine zha hs'.defs λ w'' hnc=> ?_;obtain ⟨us,h1,h2⟩:=zhQ (P:=P) (hs'.heap.nc hnc) (λ t=>(hs'.env t).nc hnc) fn.results.toList q1;refine ⟨if h:(⟨us⟩:Array Value).size=1 then (⟨us⟩:Array Value)[0] else .tuple ⟨us⟩, ?_,⟨_,rfl⟩,Mc,Or O (Mut φ' h'),λ k hk=> ?_, ?_⟩
  ·grind [zmH,Array.mapM_eq_mapM_toList,Sem.run_bind,Sem.run_map,Sem.run_pure,Result.andThen_ok]
  ·rw [hnc.size];exact hk.elim (λ h=>hs'.heap.m0 k (.inr h)) λ h=>hs'.heap.blk (.inr h)
  ·rcases hst with ⟨rs,e1,h⟩|⟨e1,h⟩|e1
   ·rw [e1] at q2;rcases q2 with ⟨e2,q2⟩|q2
    ·obtain ⟨_, _,rfl⟩:=zlM q2;exact .inl ⟨e2,hn _ _ _ _ _ h hnc⟩
    grind [zlM]
   ·exact .inr (hnx _ _ _ _ h hnc)
   ·rw [e1] at q2;rcases q2 with ⟨_,q2⟩|q2<;>cases q2
 cases ex with
 |normal=>exact fin hq
 |ret=>exact fin hq
 | _=>exact hq.elim

theorem zaW.up {M0:Nat->Prop} (hH:zmK φ 0 w M0 h):zmK φ n w M0 h:=⟨hH.m0,λ o _=>hH.fresh o (Nat.zero_le _),hH.obj,hH.inj,hH.glob⟩
variable {r:AV}
theorem zOG {P:Program} (hc:zaj P f args noH n λ r' h' n'=>LeV h' noH n' r' r∧Bel 0 r):zav P f args r:=by
 refine ⟨hc.1,λ M w vs hM hgl hargs=>(hc.2 M noP w vs (zoh hM hgl).up (hargs.keep noP.le_refl (λ _ _ _=>rfl) (λ k hk=>hk.elim .inl λ h=>(za9 h).elim))).mono ?_⟩;rintro e w' ⟨v,φ',r',h',n',rfl,⟨hle,hb⟩,hH,hx,st⟩;have hk:Wk (λ _=>r') h' n' [(0,r)] [] 0:=⟨λ p hp=>by simp at hp;subst hp;exact ⟨hle,hb⟩,λ p hp=>by cases hp⟩
 obtain ⟨φ'',h1,h2,h3, _⟩:=hk.sound hH (tmps:=λ _=>v) (λ _=>hx);refine ⟨v,rfl, ?_, ?_⟩
 ·have:=h2 0;simp only [mkE,zbk] at this;refine this.keep (λ o x ho=> ?_) (λ _ _ _=>rfl) (λ k hk=> .inl (.inl hk));rw [h1.fresh o (Nat.zero_le _)] at ho;cases ho
 ·exact ⟨st.fr.os,st.fr.tape,st.fr.output,st.fr.drawn,st.fr.size,λ k hk _=>st.fr.block k hk za9⟩
theorem zav.of {P:Program} (hc:zaj P f args noH 0 λ r' h' n'=>LeV h' noH n' r' r∧Bel 0 r):zav P f args r:=zOG hc

theorem zOb {P:Program} (hp:zav P f args' r) (hfl:zBB r) (hle:zaL h noH n args args') (hb:∀c ∈ args',Bel 0 c)
  (hk:K r h n):zaj P f args h n K:=by
 refine ⟨hp.1,λ M0 φ w vs hH hargs=> ?_⟩;have h1:=zd0 (h':=noH) hH (λ o g sz rs ho=>by cases ho) hle hb hargs;refine (hp.2 _ w vs (λ k hk=>hk.elim (hH.m0 k) λ h=>(za9 h).elim) (hH.glob.keep (λ _ _ _=>rfl) (λ k hk=> .inl (hk.imp id λ h=>(za9 h).elim))) h1).mono ?_;rintro e w' ⟨v,rfl,hr,hfr⟩;have st:ze3 φ w M0 h φ w' h:=⟨φ.le_refl,λ k hk=> .inl hk,⟨hfr.os,hfr.tape,hfr.output,hfr.drawn,hfr.size,λ k hk _=>hfr.block k hk (λ h=>h)⟩,λ k hk=> .inl hk⟩
 exact ⟨v,φ,r,h,n,rfl,hk,hH.keepw st (λ k hk=>hfr.block k hk λ h=>h),hfl.rel hr,st⟩

theorem zaj.pure {P:Program} (h':zay) (hp:zav P f args' r) (hfz:Frz h h') (hle:zaL h h' n args args') (hb:∀c ∈ args',Bel 0 c)
  (hk:K r h' n):zaj P f args h n K:=by
 refine ⟨hp.1,λ M0 φ w vs hH hargs=> ?_⟩;obtain ⟨hH',st0⟩:=hH.freeze hfz;have hmt:∀o g sz rs,h' o=some (.rows true g sz rs)->h o=some (.rows true g sz rs):=by
  grind [Frz]
 have h1:=zd0 (h':=h') hH hmt hle hb hargs;refine (hp.2 _ w vs (λ k hk=>hH'.blk hk) hH'.glob h1).mono ?_;rintro e w' ⟨v,rfl,hr,hfr⟩;have st:ze3 φ w M0 h' φ w' h':=⟨φ.le_refl,λ k hk=> .inl hk,⟨hfr.os,hfr.tape,hfr.output,hfr.drawn,hfr.size,λ k hk _=>hfr.block k hk (λ h=>h)⟩,λ k hk=> .inl hk⟩
 refine ⟨v,φ,r,h',n,rfl,hk,hH'.keepw st (λ k hk=>hfr.block k hk λ h=>h), ?_,st0.trans st⟩;exact hr.keep (λ o x ho=>by cases ho) (λ _ _ _=>rfl) (λ k hk=> .inl hk)
theorem zN0 {P:Program} (hp:zav P f args r) (hb:∀c ∈ args,Bel 0 c) (hk:K r h n):zaj P f args h n K:=
 zaj.pure h hp (.refl h) (.refl _ _ _ _) hb hk

variable {H0:List (Nat×zcr)}
theorem zOw {P:Program}{R0 R:AV}{HH:List (Nat×zcr)} (h':zay) (hp:zaj P f args' noH 0 K')
  (hk':∀r h1 n',K' r h1 n'->Wk (λ _=>r) h1 n' [(0,R0)] H0 k2) (hR:Sh n R0 R) (hHH:ShH n H0 HH) (hfz:Frz h h') (hle:zaL h h' n args args') (hb:∀c ∈ args',Bel 0 c)
  (hk:K R (zdU HH h') (n+k2)):zaj P f args h n K:=by
 refine ⟨hp.1,λ M0 φ w vs hH hargs=> ?_⟩;obtain ⟨hH',st0⟩:=hH.freeze hfz;have hmt:∀o g sz rs,h' o=some (.rows true g sz rs)->h o=some (.rows true g sz rs):=by
  grind [Frz]
 have hv:=zd0 (h':=h') hH hmt hle hb hargs;have hM1:∀k,Or (Or M0 (Mut φ h')) (Mut noP noH) k->Or M0 (Mut φ h') k:=λ k hk=>hk.elim id λ h=>(za9 h).elim;have hH1:zmK noP 0 w (Or M0 (Mut φ h')) noH:=zoh (λ k hk=>hH'.blk hk) hH'.glob;refine (hp.2 _ noP w vs hH1 (hv.keep noP.le_refl (λ _ _ _=>rfl) (λ k hk=> .inl (hM1 k hk)))).mono ?_;rintro e w' ⟨v,φ1,r,h1,n',rfl,hK,hH2,hx,st⟩;obtain ⟨φ2,hH3,hx3,hm3, _⟩:=(hk' _ _ _ hK).sound hH2 (tmps:=λ _=>v) (λ _=>hx);have hx3:=hx3 0;simp only [mkE,zbk] at hx3;have hheap:∀k,k<w.heap.size->w'.heap[k]? =w.heap[k]? :=λ k hk=>st.fr.block k hk za9;let φ3:zaD:=λ o=>if o<n then φ o else φ2 (o - n)
 have e3:∀o,φ3 (n+o)=φ2 o:=λ o=>af;have e3':∀o,o<n->φ3 o=φ o:=λ o ho=>if_pos ho;have hlt:∀o x,φ o=some x->o<n:=λ o x ho=>Nat.lt_of_not_le λ hle=>cF;have hle3:φ.le φ3:=λ o x ho=>⟨x,af,Nat.le_refl _,λ _=>rfl⟩
 have hsrc:∀o y,zdU HH h' o=some y->(∃o0 x,o=n+o0∧mkH H0 o0=some x∧ShO n x y)∨(o<n∧h' o=some y):=by
  intro o x ho;rw [znr] at ho;split at ho
  ·rename_i y hy;cases ho;exact .inl (hHH.at hy)
  ·cases x with
   |rows mt g sz rs=>
    obtain ⟨A,hA, _⟩:=hH'.obj _ _ _ _ _ ho;grind
 have hmut:∀k,Mut φ3 (zdU HH h') k->Mut φ2 (mkH H0) k∨Mut φ h' k:=by
  rintro k ⟨o,g,sz,rs,g',a,bs,ho,hp,rfl⟩;rcases hsrc o _ ho with ⟨o0,x,rfl,h1,h2⟩|⟨h1,h2⟩
  ·cases h2 with
   |rows h2=>grind [Mut]
  grind [Mut]
 have hnew:∀k,Mut φ2 (mkH H0) k->w.heap.size<=k:=λ k hk=>(st.mutd k (hm3 k hk)).elim (λ h=>(za9 h).elim) id;have hsub:∀k,Or M0 (Mut φ3 (zdU HH h')) k->Or (Or M0 (Mut φ h')) (Mut φ2 (mkH H0)) k:=λ k hk=>hk.elim (λ h=> .inl (.inl h)) λ h=>(hmut k h).elim .inr λ h=> .inl (.inr h);have hsub':∀k,Or M0 (Mut φ3 (zdU HH h')) k->Or M0 (Mut φ h') k∨w.heap.size<=k:=λ k hk=>hk.elim (λ h=> .inl (.inl h)) λ h=>(hmut k h).elim (λ h=> .inr (hnew k h)) λ h=> .inl (.inr h);have hblk:∀o x g' a bs,h' o=some x->φ o=some (g',some (a,bs))->a.block<w.heap.size:=by
  intro o x g' a bs ho hp;cases x with
  |rows mt g sz rs=>
   obtain ⟨A,hA,hc⟩:=hH'.obj _ _ _ _ _ ho;rw [hp] at hA;simp only [Option.some.injEq,Prod.mk.injEq] at hA;obtain ⟨rfl,rfl⟩:=hA;rcases hc with ⟨h, _⟩|⟨a',bs',h, _,h2⟩
   ·cases h
   ·simp only [Option.some.injEq,Prod.mk.injEq] at h;obtain ⟨rfl,rfl⟩:=h;exact h2.blk
 have hfar:∀o0 mt g sz rs g' a bs o' y g1 a' b',mkH H0 o0=some (.rows mt g sz rs)->φ2 o0=some (g',some (a,bs))->h' o'=some y->φ o'=some (g1,some (a',b'))->
   (mt=true∨∃g sz rs,y= .rows true g sz rs)->a.block≠a'.block:=by
  intro o0 mt g sz rs g' a bs o' y g1 a' b' q1 q2 q3 q4 hm;have hb':=hblk _ _ _ _ _ q3 q4;rcases hm with rfl|⟨g2,sz2,rs2,rfl⟩
  ·have:=hnew a.block ⟨o0,g,sz,rs, _,a,bs,q1,q2,rfl⟩;omega
  ·intro he;obtain ⟨A,hA,hc⟩:=hH3.obj _ _ _ _ _ q1;grind [Or,Mut]
 refine ⟨v,φ3,R,zdU HH h',n+k2,rfl,hk,⟨λ k hk=>Nat.lt_of_lt_of_le (hH.m0 k hk) st.fr.size,λ o ho=> ?_,λ o mt g sz rs ho=> ?_,λ o o' mt g sz rs mt' g' sz' rs' a a' b b' ho ho' hne hm hp hp'=> ?_,hH'.glob.keep (λ k _ hk=>hheap k hk) hsub'⟩,
  hR.rel (λ o x h=>(e3 o).trans h) hsub hx3,st0.trans ⟨hle3,hsub',⟨st.fr.os,st.fr.tape,st.fr.output,st.fr.drawn,st.fr.size,λ k hk _=>hheap k hk⟩,λ k hk=>(hmut k hk).elim (λ h=> .inr (hnew k h)) .inl⟩⟩
 ·obtain ⟨d,rfl⟩:=Nat.exists_eq_add_of_le (show n<=o by omega);rw [e3];exact hH3.fresh d aa
 ·rcases hsrc o _ ho with ⟨o0,x,rfl,h1,h2⟩|⟨h1,h2⟩
  ·cases h2 with
   |rows hs=>
    obtain ⟨A,hA,hc⟩:=hH3.obj _ _ _ _ _ h1;refine ⟨A,af,hc.imp (λ h=>⟨h.1, ?_⟩) ?_⟩
    ·obtain ⟨_,rfl⟩:=h;exact List.eq_nil_of_length_eq_zero hs.shape.1
    ·rintro ⟨a,bs,c1,c3,hd⟩;exact ⟨a,bs,c1,λ hk=>c3 (.inl hk),hd.turn rfl hs.shape.1 (hs.shape.2 sz) (λ c9=>hs.rel (λ o x h=>(e3 o).trans h) hsub c9)⟩
  ·obtain ⟨A,hA,hc⟩:=hH'.obj _ _ _ _ _ h2;refine ⟨A,af,hc.imp id ?_⟩;rintro ⟨a,bs,c1,c3,hd⟩;exact ⟨a,bs,c1,c3,hd.keep (hheap _ hd.blk) (λ c9=>c9.keep hle3 (λ k _ hk=>hheap k hk) hsub')⟩
 ·rcases hsrc o _ ho with ⟨o0,x,rfl,q1,q2⟩|⟨q1,q2⟩<;>rcases hsrc o' _ ho' with ⟨o0',x',rfl,q1',q2'⟩|⟨q1',q2'⟩
  ·cases q2;cases q2';rw [e3] at hp hp';exact hH3.inj _ _ _ _ _ _ _ _ _ _ _ _ _ _ q1 q1' aa hm hp hp'
  ·cases q2;rw [e3] at hp;grind
  ·cases q2';rw [e3' o q1] at hp;rw [e3] at hp';grind
  ·rw [e3' o q1] at hp;rw [e3' o' q1'] at hp';exact hH'.inj _ _ _ _ _ _ _ _ _ _ _ _ _ _ q2 q2' hne hm hp hp'

theorem zOv {P:Program}{R0 R:AV}{HH:List (Nat×zcr)} (hp:zaj P f args' noH 0 K')
  (hk':∀r h1 n',K' r h1 n'->Wk (λ _=>r) h1 n' [(0,R0)] H0 k2) (hR:Sh n R0 R) (hHH:ShH n H0 HH) (hnR:zli R0) (hnH:∀p ∈ H0,zzt p.2) (hle:zaL h noH n args args') (hb:∀c ∈ args',Bel 0 c)
  (hk:K R (zdU HH h) (n+k2)):zaj P f args h n K:=by
 refine ⟨hp.1,λ M0 φ w vs hH hargs=> ?_⟩;have hv:=zd0 (h':=noH) hH (λ o g sz rs ho=>by cases ho) hle hb hargs;have hM1:∀k,Or M0 (Mut noP noH) k->M0 k:=λ k hk=>hk.elim id λ h=>(za9 h).elim;have hM2:∀k,Or M0 (Mut φ noH) k->M0 k:=λ k hk=>hk.elim id λ h=>(za9 h).elim;have hH1:zmK noP 0 w M0 noH:=zoh (λ k hk=>hH.m0 k hk) (hH.glob.keep (λ _ _ _=>rfl) (λ k hk=> .inl (.inl hk)));refine (hp.2 _ noP w vs hH1 (hv.keep noP.le_refl (λ _ _ _=>rfl) (λ k hk=> .inl (.inl (hM1 k hk))))).mono ?_;rintro e w' ⟨v,φ1,r,h1,n',rfl,hK,hH2,hx,st⟩;obtain ⟨φ2,hH3,hx3,hm3, _⟩:=(hk' _ _ _ hK).sound hH2 (tmps:=λ _=>v) (λ _=>hx);have hnw:∀k,Mut φ2 (mkH H0) k->w.heap.size<=k:=λ k hk=>(st.mutd k (hm3 k hk)).elim (λ h=>(za9 h).elim) id;have hold:∀k,Mut φ h k->k<w.heap.size:=λ k hk=>hH.blk (.inr hk);replace hH3:zmK φ2 k2 w' (Or M0 (Mut φ h)) (mkH H0):=hH3.widen (N:=w.heap.size) (λ o x ho=>hnH _ (zlZ ho)) hnw hold st.fr.size
  (hH.glob.keep (λ k _ hk=>st.fr.block k hk za9) (λ k hk=>hk.imp id (hnw k)))
 have hmt:∀o g sz rs,h o=some (.rows true g sz rs)->h o=some (.rows true g sz rs):=λ _ _ _ _ h=>h;have hH':=hH;have st0:ze3 φ w M0 h φ w h:=⟨φ.le_refl,λ k hk=> .inl hk,Fr.refl _ _,λ k hk=> .inl hk⟩
 replace hx3:∀i,Rel φ2 w' (Or (Or M0 (Mut φ h)) (Mut φ2 (mkH H0))) (mkE [(0,R0)] i) v:=λ i=>by
  have:=hx3 i;simp only [mkE,upd] at this ⊢;split
  ·rename_i hi;rw [if_pos hi] at this;exact hnR.rel this
  ·exact .top _
 have hx3:=hx3 0;simp only [mkE,zbk] at hx3;have hheap:∀k,k<w.heap.size->w'.heap[k]? =w.heap[k]? :=λ k hk=>st.fr.block k hk za9;let φ3:zaD:=λ o=>if o<n then φ o else φ2 (o - n)
 have e3:∀o,φ3 (n+o)=φ2 o:=λ o=>af;have e3':∀o,o<n->φ3 o=φ o:=λ o ho=>if_pos ho;have hlt:∀o x,φ o=some x->o<n:=λ o x ho=>Nat.lt_of_not_le λ hle=>cF;have hle3:φ.le φ3:=λ o x ho=>⟨x,af,Nat.le_refl _,λ _=>rfl⟩
 have hsrc:∀o y,zdU HH h o=some y->(∃o0 x,o=n+o0∧mkH H0 o0=some x∧ShO n x y)∨(o<n∧h o=some y):=by
  intro o x ho;rw [znr] at ho;split at ho
  ·rename_i y hy;cases ho;exact .inl (hHH.at hy)
  ·cases x with
   |rows mt g sz rs=>
    obtain ⟨A,hA, _⟩:=hH'.obj _ _ _ _ _ ho;grind
 have hmut:∀k,Mut φ3 (zdU HH h) k->Mut φ2 (mkH H0) k∨Mut φ h k:=by
  rintro k ⟨o,g,sz,rs,g',a,bs,ho,hp,rfl⟩;rcases hsrc o _ ho with ⟨o0,x,rfl,h1,h2⟩|⟨h1,h2⟩
  ·cases h2 with
   |rows h2=>grind [Mut]
  grind [Mut]
 have hnew:∀k,Mut φ2 (mkH H0) k->w.heap.size<=k:=λ k hk=>(st.mutd k (hm3 k hk)).elim (λ h=>(za9 h).elim) id;have hsub:∀k,Or M0 (Mut φ3 (zdU HH h)) k->Or (Or M0 (Mut φ h)) (Mut φ2 (mkH H0)) k:=λ k hk=>hk.elim (λ h=> .inl (.inl h)) λ h=>(hmut k h).elim .inr λ h=> .inl (.inr h);have hsub':∀k,Or M0 (Mut φ3 (zdU HH h)) k->Or M0 (Mut φ h) k∨w.heap.size<=k:=λ k hk=>hk.elim (λ h=> .inl (.inl h)) λ h=>(hmut k h).elim (λ h=> .inr (hnew k h)) λ h=> .inl (.inr h);have hblk:∀o x g' a bs,h o=some x->φ o=some (g',some (a,bs))->a.block<w.heap.size:=by
  intro o x g' a bs ho hp;cases x with
  |rows mt g sz rs=>
   obtain ⟨A,hA,hc⟩:=hH'.obj _ _ _ _ _ ho;rw [hp] at hA;simp only [Option.some.injEq,Prod.mk.injEq] at hA;obtain ⟨rfl,rfl⟩:=hA;rcases hc with ⟨h, _⟩|⟨a',bs',h, _,h2⟩
   ·cases h
   ·simp only [Option.some.injEq,Prod.mk.injEq] at h;obtain ⟨rfl,rfl⟩:=h;exact h2.blk
 have hfar:∀o0 mt g sz rs g' a bs o' y g1 a' b',mkH H0 o0=some (.rows mt g sz rs)->φ2 o0=some (g',some (a,bs))->h o'=some y->φ o'=some (g1,some (a',b'))->
   (mt=true∨∃g sz rs,y= .rows true g sz rs)->a.block≠a'.block:=by
  intro o0 mt g sz rs g' a bs o' y g1 a' b' q1 q2 q3 q4 hm;have hb':=hblk _ _ _ _ _ q3 q4;rcases hm with rfl|⟨g2,sz2,rs2,rfl⟩
  ·grind [Mut]
  ·intro he;obtain ⟨A,hA,hc⟩:=hH3.obj _ _ _ _ _ q1;grind [Or,Mut]
 refine ⟨v,φ3,R,zdU HH h,n+k2,rfl,hk,⟨λ k hk=>Nat.lt_of_lt_of_le (hH.m0 k hk) st.fr.size,λ o ho=> ?_,λ o mt g sz rs ho=> ?_,λ o o' mt g sz rs mt' g' sz' rs' a a' b b' ho ho' hne hm hp hp'=> ?_,hH'.glob.keep (λ k _ hk=>hheap k hk) hsub'⟩,
  hR.rel (λ o x h=>(e3 o).trans h) hsub hx3,st0.trans ⟨hle3,hsub',⟨st.fr.os,st.fr.tape,st.fr.output,st.fr.drawn,st.fr.size,λ k hk _=>hheap k hk⟩,λ k hk=>(hmut k hk).elim (λ h=> .inr (hnew k h)) .inl⟩⟩
 ·obtain ⟨d,rfl⟩:=Nat.exists_eq_add_of_le (show n<=o by omega);rw [e3];exact hH3.fresh d aa
 ·rcases hsrc o _ ho with ⟨o0,x,rfl,h1,h2⟩|⟨h1,h2⟩
  ·cases h2 with
   |rows hs=>
    obtain ⟨A,hA,hc⟩:=hH3.obj _ _ _ _ _ h1;refine ⟨A,af,hc.imp (λ h=>⟨h.1, ?_⟩) ?_⟩
    ·obtain ⟨_,rfl⟩:=h;exact List.eq_nil_of_length_eq_zero hs.shape.1
    ·rintro ⟨a,bs,c1,c3,hd⟩;exact ⟨a,bs,c1,λ hk=>c3 (.inl hk),hd.turn rfl hs.shape.1 (hs.shape.2 sz) (λ c9=>hs.rel (λ o x h=>(e3 o).trans h) hsub c9)⟩
  ·obtain ⟨A,hA,hc⟩:=hH'.obj _ _ _ _ _ h2;refine ⟨A,af,hc.imp id ?_⟩;rintro ⟨a,bs,c1,c3,hd⟩;exact ⟨a,bs,c1,c3,hd.keep (hheap _ hd.blk) (λ c9=>c9.keep hle3 (λ k _ hk=>hheap k hk) hsub')⟩
 ·rcases hsrc o _ ho with ⟨o0,x,rfl,q1,q2⟩|⟨q1,q2⟩<;>rcases hsrc o' _ ho' with ⟨o0',x',rfl,q1',q2'⟩|⟨q1',q2'⟩
  ·cases q2;cases q2';rw [e3] at hp hp';exact hH3.inj _ _ _ _ _ _ _ _ _ _ _ _ _ _ q1 q1' aa hm hp hp'
  ·cases q2;rw [e3] at hp;grind
  ·cases q2';rw [e3' o q1] at hp;rw [e3] at hp';grind
  ·rw [e3' o q1] at hp;rw [e3' o' q1'] at hp';exact hH'.inj _ _ _ _ _ _ _ _ _ _ _ _ _ _ q2 q2' hne hm hp hp'

def ztr (P:Program) (f:FuncId) (args:List AV) (R:Nat->AV) (HH:Nat->List (Nat×zcr)) (k:Nat):Prop:=
 zaj P f args noH 0 (λ r h n'=>Wk (λ _=>r) h n' [(0,R 0)] (HH 0) k)∧∀n,Sh n (R 0) (R n)∧ShH n (HH 0) (HH n)
variable {HH:Nat->List (Nat×zcr)} {R:Nat->AV}
theorem zOz {P:Program} (h':zay) (hp:ztr P f args' R HH k)
  (hfz:Frz h h') (hle:zaL h h' n args args') (hb:∀c ∈ args',Bel 0 c) (hk:K (R n) (zdU (HH n) h') (n+k)):zaj P f args h n K:=
 zOw h' hp.1 (λ _ _ _ h=>h) (hp.2 n).1 (hp.2 n).2 hfz hle hb hk
theorem ztr.pure {P:Program} (hp:ztr P f args R HH k) (hle:LeV (mkH (HH 0)) noH k (R 0) r) (hb:Bel 0 r):zav P f args r:=by
 refine ⟨hp.1.1,λ M w vs hM hgl hargs=>(hp.1.2 M noP w vs (zoh hM hgl) (hargs.keep noP.le_refl (λ _ _ _=>rfl) (λ k hk=>hk.elim .inl λ h=>(za9 h).elim))).mono ?_⟩;rintro e w' ⟨v,φ',r',h',n',rfl,hk,hH,hx,st⟩;obtain ⟨φ1,g1,g2, _, _⟩:=hk.sound hH (tmps:=λ _=>v) (λ _=>hx);have g2:=g2 0;simp only [mkE,zbk] at g2;have hk2:Wk (λ _=>R 0) (mkH (HH 0)) k [(0,r)] [] 0:=⟨λ p hp=>by simp at hp;subst hp;exact ⟨hle,hb⟩,λ p hp=>by cases hp⟩
 obtain ⟨φ'',h1,h2,h3, _⟩:=hk2.sound g1 (tmps:=λ _=>v) (λ _=>g2);refine ⟨v,rfl, ?_, ?_⟩
 ·have:=h2 0;simp only [mkE,zbk] at this;refine this.keep (λ o x ho=> ?_) (λ _ _ _=>rfl) (λ k hk=> .inl (.inl hk));rw [h1.fresh o (Nat.zero_le _)] at ho;cases ho
 ·exact ⟨st.fr.os,st.fr.tape,st.fr.output,st.fr.drawn,st.fr.size,λ k hk _=>st.fr.block k hk za9⟩
theorem zN1 {P:Program} (hp:ztr P f args R HH k)
  (hb:∀c ∈ args,Bel 0 c) (hk:K (R n) (zdU (HH n) h) (n+k)):zaj P f args h n K:=
 zOz h hp (.refl h) (.refl _ _ _ _) hb hk
theorem zOu {P:Program}{sz:Nat} (h1:rows≠ []->zaj P f (.lst sz rows::xs) h n K)
  (h2:rows= []->∀A c,zaj P f (.v (.slice A 0 c)::xs) h n K):zaj P f (.lst sz rows::xs) h n K:=by
 by_cases hr:rows= []
 ·refine ⟨(h2 hr none 0).1,λ M0 φ w vs hH hargs=> ?_⟩;cases hargs with
  |cons hx ht=>
   cases hx with
   |nil _ A c=>exact (h2 hr A c).2 M0 φ w _ hH (.cons (.v _) ht)
   | @lst _ _ a len cap C T fz hs hM hb hrr hl hc hcap hv h=>
    have:len=0:=af;subst this;exact (h2 hr (some a) cap).2 M0 φ w _ hH (.cons (.v _) ht)
 ·exact h1 hr
theorem pF {P:Program} (hf:P.funcs[f]? =some fn) (hh:awp P 0 c (zLs P fn.results.toList λ r' h' n'=>LeV h' noH n' r' r∧Bel 0 r) (zz3 0 args) noH 0) (hmix:P.follows .mixedOrders=true:=by kernel_rfl) (hb:fn.body=some c:=by rfl) (hname:(fn.name== "runtime.NumGoroutine")=false:=by rfl) (hN:args.length<=fn.ntmps:=by exact Nat.le_of_ble_eq_true rfl) (hd:zur fn.ntmps c=true:=by kernel_rfl) (hG:fn.ntmps<=GH:=by exact Nat.le_of_ble_eq_true rfl):zav P f args r:=zav.of (zOn hmix hf hb hname hN hd hh hG)
end Go.Av
end
section
/- Our library, part 13: equations by which code is evaluated. -/
namespace Go.Av
open Go

variable {r r':Res} {fv fv' x:AV} {d:Tmp} {ats:Array TypeId} {op:Op} {args args' caps cs first xs ys:List AV} {f:FuncId} {y:Option zcr} {al k len o off sz:Nat} {F0 F1 F10 F2 F3 F4 F5 F6 F7 F8 F9 G X a c p:Prop} {b g mt t:Bool}
section
variable {P:Program} {n0:Nat} {Q:zc2} {e:Env} {h:zay} {n:Nat} {ops rest:List Oper}
def VC (a b:Prop):Prop:=a∧b
theorem zJC {b:Prop}:VC False b=False:=by simp [VC]
def VQ (a b:Prop):Prop:=a∧b
theorem zMh {b:Prop}:VQ True b=b:=by simp [VQ]
theorem VQ.mk {a b:Prop} (h1:a) (h2:a->b):VQ a b:=⟨h1,h2 h1⟩
@[congr] theorem VQ_congr {b:Prop} (h1:a=c):VQ a b=VQ c b:=af
theorem VC.mk {a b:Prop} (h1:a) (h2:a->b):VC a b:=⟨h1,h2 h1⟩
@[congr] theorem VC_congr {b:Prop} (h1:a=c):VC a b=VC c b:=by subst h1;rfl
def aIf (t:Bool) (a b:Prop):Prop:=(t=true->a)∧(t=false->b)
theorem aIf.mk {t:Bool}{a b:Prop} (h1:t=true->a) (h2:t=false->b):aIf t a b:=⟨h1,h2⟩
theorem zv4 (vs:List AV) (i:Nat):zlE (.tup vs) i=Res.if (i<vs.length) (cel vs i):=rfl
@[congr] theorem aIf_congr {t':Bool}{b:Prop} (h:t=t'):aIf t a b=aIf t' a b:=by subst h;rfl
@[congr] theorem upd_congr {α:Type}{f:Nat->α}{x:α}{j j':Nat} (h:j=j'):upd f k x j=upd f k x j':=af
theorem zce {α:Type} [Inhabited α] (x:α) (l:List α):nth (x::l) 0=x:=rfl
theorem za6 {α:Type} [Inhabited α] (x:α) (l:List α) (k:Nat):nth (x::l) (k+1)=nth l k:=by simp [nth]
theorem zJ5 (x:AV) (l:List AV):cel (x::l) 0=x:=rfl
theorem zJ4 (x:AV) (l:List AV) (k:Nat):cel (x::l) (k+1)=cel l k:=by simp [cel]
theorem zau {α β:Type} [Inhabited α] [Inhabited β] (f:α->β) (l:List α) (i:Nat) (h:i<l.length):nth (l.map f) i=f (nth l i):=by simp [nth,h]
theorem zMK {α:Type} [Inhabited α] (f:α->AV) (l:List α) (i:Nat) (h:i<l.length):cel (l.map f) i=f (nth l i):=by simp [nth,cel,h]
theorem zcp {α:Type} [Inhabited α] (l:List α) (i:Nat) (h:i<l.length):nth l i=l[i]:=by simp [nth,h]
theorem zah {α:Type} [Inhabited α] {l:List α}{i:Nat} (h:i<l.length):nth l i ∈ l:=ax
def znb (P:Program) (ops:List Oper) (Q:zc2) (rest:List Oper) (e:Env) (h:zay) (n:Nat):Prop:=zgK P ops Q rest e h n
def zFt (P:Program) (n0:Nat) (c:Code) (Q:zc2) (e:Env) (h:zay) (n:Nat):Prop:=awp P n0 c Q e h n
theorem zMg:VC True (znb P ops Q rest e h n)=zgK P ops Q rest e h n:=by simp [VC,znb]
theorem zOg  (h1:a) (h2:a->zgK P ops Q rest e h n):VC a (znb P ops Q rest e h n):=⟨h1,h2 h1⟩
theorem zFU {a:Code}{y:Prop}:aIf true (zFt P n0 a Q e h n) y=awp P n0 a Q e h n:=by simp [aIf,zFt]
theorem zDh {b:Code}{y:Prop}:aIf false y (zFt P n0 b Q e h n)=awp P n0 b Q e h n:=by simp [aIf,zFt]
theorem zNX {a b:Code} (h1:t=true->awp P n0 a Q e h n) (h2:t=false->awp P n0 b Q e h n):aIf t (zFt P n0 a Q e h n) (zFt P n0 b Q e h n):=⟨h1,h2⟩
def zLu (P:Program) (ops:List Oper) (Q:zc2) (rest:List Oper) (dst:Option Tmp) (r:Res) (e:Env) (h:zay) (n:Nat):Prop:=
  VC r.cond (zgK P ops Q rest (put e dst r.val) (zap r.wr h) (n+r.al))
def zm9 (P:Program) (ops:List Oper) (Q:zc2) (rest:List Oper) (dst:Option Tmp) (g:Bool) (r:Res) (e:Env) (h:zay) (n:Nat):Prop:=
  VC (g=true->r.cond) (zgK P ops Q rest (put e dst (.gd g r.val)) (zap (gW g r.wr) h) (n+gN g r.al))
def zzV (P:Program) (ops:List Oper) (Q:zc2) (rest:List Oper) (dst:Option Tmp) (fv:AV) (args:List AV) (e:Env) (h:zay) (n:Nat):Prop:=
  zmM P fv args h n (λ r h' n'=>zgK P ops Q rest (put e dst r) h' n')∨zoU e fv args h n (λ e' r h'=>zgK P ops Q rest (put e' dst r) h' n)
def zMr (P:Program) (ops:List Oper) (Q:zc2) (rest:List Oper) (dst:Option Tmp) (l:Nat) (args:List AV) (e:Env) (h:zay) (n:Nat):Prop:=
  zoU e (.fn (.yield l) [] []) args h n (λ e' r h'=>zgK P ops Q rest (put e' dst r) h' n)
theorem zFp {e:Env}{a b:List AV}{h:zay}{n:Nat}{K:Env->AV->zay->Prop}:¬zoU e (.fn (.func f) a b) args h n K:=by
  grind [zoU]
def aGrd (P:Program) (ops:List Oper) (Q:zc2) (rest:List Oper) (dst:Option Tmp) (op:Op) (g:Option Bool) (e:Env) (h:zay) (n:Nat):Prop:=
  match g with
  |none=>False
  |some g=>VQ (∀t ∈ gT op,okG g (e t)) (zm9 P ops Q rest dst g (aev P n op (gE op e) h) e h n)

theorem zJS:awp P n0 .skip Q e h n=Q .normal e h n:=rfl
theorem zF9 (l:Nat):awp P n0 (.label l) Q e h n=Q .normal e h n:=rfl
theorem zDo (id:Nat) (ops:List Oper):awp P n0 (.region id ops.toArray false) Q e h n=zgK P ops Q ops e h n:=rfl
theorem zMu (a b:Code):awp P n0 (.seq a b) Q e h n=awp P n0 a (zC7 (awp P n0 b Q) Q) e h n:=rfl
def zJE (P:Program) (n0:Nat) (a b:Code) (Q:zc2) (x:AV) (e:Env) (h:zay) (n:Nat):Prop:=match x with
  | .v (.bool t)=>(t=true->awp P n0 a Q e h n)∧(t=false->awp P n0 b Q e h n)
  | _=>False
theorem zJN (c:Operand) (a b:Code):awp P n0 (.cond c a b) Q e h n=zJE P n0 a b Q (ev e c) e h n:=rfl
theorem zDg (a b:Code) (t:Bool):zJE P n0 a b Q (.v (.bool t)) e h n=aIf t (zFt P n0 a Q e h n) (zFt P n0 b Q e h n):=rfl
theorem zGa (b:Code):awp P n0 (.scope b) Q e h n=awp P n0 b (znM Q) e h n:=rfl
theorem zF8 (id:Nat) (b:Code):awp P n0 (.block id b) Q e h n=awp P n0 b (zlk id Q) e h n:=rfl
theorem zJQ (b:Code):awp P n0 (.loop b) Q e h n=zac n0 (awp P n0 b) Q e h n:=rfl
theorem zJP (id:Nat):awp P n0 (.exit id) Q e h n=Q (.exit id) e h n:=rfl
theorem zMt:awp P n0 .ret Q e h n=Q .ret e h n:=rfl
theorem zzB (K:Env->zay->Nat->Prop):zC7 K Q .normal e h n=K e h n:=rfl
theorem zFN (K:Env->zay->Nat->Prop) (id:Nat):zC7 K Q (.exit id) e h n=Q (.exit id) e h n:=rfl
theorem zJu (K:Env->zay->Nat->Prop):zC7 K Q .ret e h n=Q .ret e h n:=rfl
theorem zvB:znM Q .normal e h n=Q .normal e h n:=rfl
theorem zzz (id:Nat):znM Q (.exit id) e h n=Q (.exit id) e h n:=rfl
theorem zC6:znM Q .ret e h n=Q .ret e h n:=rfl
theorem zvz (id:Nat):zlk id Q .normal e h n=Q .normal e h n:=rfl
theorem zzv (id id':Nat):zlk id Q (.exit id') e h n=if id'=id then Q .normal e h n else Q (.exit id') e h n:=rfl
theorem zC2 (id:Nat):zlk id Q .ret e h n=Q .ret e h n:=rfl
theorem zJx (rs:List ResultVar) (K:zbH):zLs P rs K .ret e h n=VQ (zu7 P e h rs).1 (K (zK6 (zu7 P e h rs).2) h n):=rfl
theorem zzN (rs:List ResultVar) (K:zbH):zLs P rs K .normal e h n=VQ (zu7 P e h rs).1 (K (zK6 (zu7 P e h rs).2) h n):=rfl
theorem zJL:zgK P ops Q [] e h n=Q .normal e h n:=rfl
class zeW (op:Op):Prop where h:zyp op=false
instance {a}:zeW (.move a):=⟨rfl⟩
instance {a}:zeW (.assign a):=⟨rfl⟩
instance {a b c}:zeW (.pick a b c):=⟨rfl⟩
instance {a}:zeW (.alloc a):=⟨rfl⟩
instance {a b}:zeW (.box a b):=⟨rfl⟩
instance {a b}:zeW (.build a b):=⟨rfl⟩
instance {a b c}:zeW (.buildSlice a b c):=⟨rfl⟩
instance {a b}:zeW (.load a b):=⟨rfl⟩
instance {a b c}:zeW (.store a b c):=⟨rfl⟩
instance {a b c d f}:zeW (.binOp a b c d f):=⟨rfl⟩
instance {a b c}:zeW (.unOp a b c):=⟨rfl⟩
instance {a}:zeW (.nilCheck a):=⟨rfl⟩
instance {a b c}:zeW (.convert a b c):=⟨rfl⟩
instance {a b c}:zeW (.makeFunc a b c):=⟨rfl⟩
instance {a b c}:zeW (.makeSlice a b c):=⟨rfl⟩
instance {a b c d f}:zeW (.slice a b c d f):=⟨rfl⟩
instance {a b c}:zeW (.fieldAddr a b c):=⟨rfl⟩
instance {a b c}:zeW (.field a b c):=⟨rfl⟩
instance {a b c}:zeW (.indexAddr a b c):=⟨rfl⟩
instance {a b c}:zeW (.index a b c):=⟨rfl⟩
instance {a b}:zeW (.extract a b):=⟨rfl⟩
instance {a b}:zeW (.makeMap a b):=⟨rfl⟩
instance {a b c d}:zeW (.mapUpdate a b c d):=⟨rfl⟩
instance {a b c d}:zeW (.insert a b c d):=⟨rfl⟩
instance {a b c d}:zeW (.lookup a b c d):=⟨rfl⟩
instance {a b}:zeW (.makeInterface a b):=⟨rfl⟩
instance {a}:zeW (.panic a):=⟨rfl⟩
instance {a b c}:zeW (.call ⟨.builtin a,b,c⟩):=⟨rfl⟩
theorem zF4 {dst:Option Tmp}{ty:TypeId}{pos:String}{after:Array Edge} [nc:zeW op]:
    zgK P ops Q (⟨dst,op,ty,pos,after,none⟩::rest) e h n=zLu P ops Q rest dst (aev P n op e h) e h n:=by
  have hc:=nc.h;unfold zgK zLu;cases op with
  |call c=>
    obtain ⟨callee,args,ats⟩:=c;cases callee with
    |value f=>simp [zyp] at hc
    | _=>rfl
  | _=>rfl
theorem zF3 {dst:Option Tmp}{f:Operand}{args:Array Operand}{ty:TypeId}{pos:String}{after:Array Edge}:
    zgK P ops Q (⟨dst, .call ⟨.value f,args,ats⟩,ty,pos,after,none⟩::rest) e h n=zzV P ops Q rest dst (ev e f) (args.toList.map (ev e)) e h n:=rfl
theorem zF5 {dst:Option Tmp}{ty:TypeId}{pos:String}{after:Array Edge}{j:Nat}{want:Bool} [nc:zeW op]:
    zgK P ops Q (⟨dst,op,ty,pos,after,some (j,want)⟩::rest) e h n=aGrd P ops Q rest dst op ((zkh ops j).bind λ t=>zlN (e t) want) e h n:=by
  have hc:=nc.h;unfold zgK aGrd zm9;cases op with
  |call c=>
    obtain ⟨callee,args,ats⟩:=c;cases callee with
    |value f=>simp [zyp] at hc
    | _=>rfl
  | _=>rfl
theorem aRes_0 :zLu P ops Q rest (some d) ⟨c,x, [],0⟩ e h n=VC c (znb P ops Q rest (upd e d x) h n):=rfl
theorem zMp :zLu P ops Q rest none ⟨c,x, [],0⟩ e h n=VC c (znb P ops Q rest e h n):=rfl
theorem aRes_1 :zLu P ops Q rest (some d) ⟨c,x, [(o,y)],al⟩ e h n=VC c (znb P ops Q rest (upd e d x) (upd h o y) (n+al)):=rfl
theorem zMq :zLu P ops Q rest none ⟨c,x, [(o,y)],al⟩ e h n=VC c (znb P ops Q rest e (upd h o y) (n+al)):=rfl
theorem zMl :zm9 P ops Q rest (some d) g ⟨c,x, [],0⟩ e h n=VC (g=true->c) (znb P ops Q rest (upd e d (.gd g x)) h n):=by
  cases g<;>simp [zm9,put,VC,znb,gW,gN,zap]
theorem zMn :zm9 P ops Q rest (some d) true ⟨c,x, [(o,y)],al⟩ e h n=VC c (znb P ops Q rest (upd e d (.gd true x)) (upd h o y) (n+al)):=by
  simp [zm9,put,VC,znb,gW,gN,zap]
theorem zJG :zm9 P ops Q rest none true ⟨c,x, [(o,y)],al⟩ e h n=VC c (znb P ops Q rest e (upd h o y) (n+al)):=by
  simp [zm9,put,VC,znb,gW,gN,zap]
theorem zMm :zm9 P ops Q rest (some d) false r e h n=zgK P ops Q rest (upd e d (.gd false r.val)) h n:=by
  simp [zm9,put,VC,gW,gN,zap]
theorem zJF :zm9 P ops Q rest none false r e h n=zgK P ops Q rest e h n:=by
  simp [zm9,put,VC,gW,gN,zap]
theorem zFT {dst:Option Tmp}:aGrd P ops Q rest dst op (some g) e h n=(VQ (∀t ∈ gT op,okG g (e t)) (zm9 P ops Q rest dst g (aev P n op (gE op e) h) e h n)):=rfl
theorem zJD {dst:Option Tmp}:
    zzV P ops Q rest dst (.fn (.func f) first caps) args e h n=zaj P f (first++args++caps) h n λ r h' n'=>zgK P ops Q rest (put e dst r) h' n':=by
  unfold zzV;simp only [zmM];exact propext ⟨λ h=>h.elim id (λ h=>(zFp h).elim), .inl⟩
theorem zzW {dst:Option Tmp}{l:Nat}:zzV P ops Q rest dst (.fn (.yield l) [] []) args e h n=zMr P ops Q rest dst l args e h n:=by
  grind [zzV,zMr,zmM]
end
theorem zK2 (e:Env) (d:Nat) (x:AV):put e (some d) x=upd e d x:=rfl
theorem zK1 (e:Env) (x:AV):put e none x=e:=rfl

variable {g':Option Bool}
section congr
variable {P:Program} {n0:Nat} {Q:zc2} {e e':Env} {h h':zay} {n n':Nat} {ops rest:List Oper}
@[congr] theorem awp_congr {c:Code} (h3:n=n'):awp P n0 c Q e h n=awp P n0 c Q e h n':=by subst h3;rfl
@[congr] theorem zMk {a b:Code}{x':AV} (h0:x=x'):zJE P n0 a b Q x e h n=zJE P n0 a b Q x' e h n:=af
@[congr] theorem zNN (h3:n=n'):zgK P ops Q rest e h n=zgK P ops Q rest e h n':=by subst h3;rfl
@[congr] theorem zNL {dst:Option Tmp} (h0:r=r'):zLu P ops Q rest dst r e h n=zLu P ops Q rest dst r' e h n:=af
@[congr] theorem zMo {dst:Option Tmp}{g':Bool} (hg:g=g') (h0:r=r'):zm9 P ops Q rest dst g r e h n=zm9 P ops Q rest dst g' r' e h n:=af
@[congr] theorem zMj {dst:Option Tmp} (h0:fv=fv') (h1:args=args'):zzV P ops Q rest dst fv args e h n=zzV P ops Q rest dst fv' args' e h n:=af
@[congr] theorem zNK {dst:Option Tmp}{g:Option Bool} (h0:g=g'):aGrd P ops Q rest dst op g e h n=aGrd P ops Q rest dst op g' e h n:=af
@[congr] theorem zLm {K:zbH} (h1:args=args'):zaj P f args h n K=zaj P f args' h n K:=by subst h1;rfl
@[congr] theorem zL1 {B:zc2->Env->zay->Nat->Prop} (h3:n=n'):zac n0 B Q e h n=zac n0 B Q e h n':=by subst h3;rfl
@[congr] theorem zNI {K:Env->zay->Nat->Prop}{x:Exit} (h3:n=n'):zC7 K Q x e h n=zC7 K Q x e h n':=af
@[congr] theorem zLr {x:Exit} (h3:n=n'):znM Q x e h n=znM Q x e h n':=af
@[congr] theorem zLq {id:Nat}{x:Exit} (h3:n=n'):zlk id Q x e h n=zlk id Q x e h n':=af
end congr

theorem zL4 {n:Nat}:Bel n .top=True:=eq_true .top
theorem zL5 {n:Nat}{x:Value}:Bel n (.v x)=True:=eq_true (.v x)
theorem zL2 {n:Nat}:Bel n (.agg cs)=∀c ∈ cs,Bel n c:=propext ⟨λ h=>aJ, .agg⟩
theorem zzo {n:Nat}:Bel n (.tup cs)=∀c ∈ cs,Bel n c:=propext ⟨λ h=>aJ, .tup⟩
variable {rows rs rs':List (List AV)}
theorem zel {n:Nat}:Bel n (.lst sz rows)=∀r ∈ rows,∀c ∈ r,Bel n c:=propext ⟨λ h=>aJ, .lst⟩
theorem Bel_fp {n:Nat}:Bel n (.fp cs)=∀c ∈ cs,Bel n c:=propext ⟨λ h=>aJ, .fp⟩
theorem zL3 {n g i:Nat}:Bel n (.ref o g sz i off)=(o<n):=propext ⟨λ h=>aJ, .ref⟩
theorem Bel_sl {n g i:Nat}:Bel n (.sl o g sz i len)=(o<n):=propext ⟨λ h=>aJ, .sl⟩
theorem Bel_fn {n:Nat}{f:Fn}{a b:List AV}:Bel n (.fn f a b)=((∀c ∈ a,Bel n c)∧∀c ∈ b,Bel n c):=propext ⟨λ h=>by cases h;grind,λ h=> .fn h.1 h.2⟩
theorem Bel_mp {n:Nat}:Bel n (.mp o)=(o<n):=propext ⟨λ h=>aJ, .mp⟩
theorem zFC {n:Nat}:Bel n (.gd g x)=Bel n x:=propext ⟨λ h=>aJ, .gd⟩

theorem zKX :okG g (.gd g x)=True:=eq_true (λ h=>h)
theorem okG_gd {g':Bool}:okG g (.gd g' x)=(g=true->g'=true):=rfl
theorem okG_v {x:Value}:okG g (.v x)=True:=rfl
theorem zNp {g i:Nat}:okG b (.ref o g sz i off)=True:=rfl
theorem okG_sl {g i:Nat}:okG b (.sl o g sz i len)=True:=rfl
theorem zNo :okG b (.lst sz rows)=True:=rfl
theorem okG_fp :okG b (.fp cs)=True:=rfl
theorem zNn :okG b (.agg cs)=True:=rfl
theorem zNr :okG b (.tup cs)=True:=rfl
theorem okG_fn {f:Fn}{x y:List AV}:okG b (.fn f x y)=True:=rfl
theorem zNq :okG b .top=True:=rfl
attribute [go_sem high] zKX
attribute [go_sem] zMg zFU zDh zMh zJC zce za6 zau zJ5 zJ4 zMK zJS zF9 zDo zMu zJN zDg zF8 zJQ zJP zMt zzB zFN zJu zvz zzv zC2 zGa zvB zzz zC6 zJx zzN
 zlF ze5 ziZ zJg zir zon kCell zsj zNT zLR zct zdv
  zJL zF3 zF4 zF5 aRes_0 zMp aRes_1 zMq zMl zMn zJG zMm zJF zFT zJD zK2 zK1 aev ev ofV zI1 zxX pB evEq zxS zG7 zG6 zpY zrZ zlD eqS eqD zgD gE gT zG4 evUn zpX zob zeV zdK zrW zdL zrX zxV zM6
  zap unG okG_gd okG_v zNp okG_sl zNo okG_fp zNn zNr okG_fn zNq zef Op.operands Call.operands zlN zkh AV.cells AV.okCells AV.isCell zdI zaN zDO zjn zv2 zHv zjU zG5 zKx zfQ zhE zid zlG zpe zft zeL zfR zkC setMany zl2 zu7 zK6 zz3
  zL4 zL5 zL2 zzo zel Bel_fp zL3 Bel_sl Bel_fn Bel_mp zFC

variable {rd rd':List Nat} {recs:List ziQ}
section draw
variable {P:Program} {n0:Nat} {Q:zc2} {e e':Env} {h h':zay} {n i i':Nat} {ops rest:List Oper} {acc:List ziQ} {K:Env->zay->List ziQ->Prop}
def ztI (Q:zc2) (ops:List Oper) (n:Nat) (e:Env) (h:zay) (recs:List ziQ):Prop:=zsK ops recs=true∧((zEs recs=true∧Q .normal e h n)∨Q .normal e h (n+16 * ops.length))
def adr (P:Program) (n:Nat) (ops:List Oper) (Q:zc2) (m:Nat) (i:Nat) (rest:List Oper) (e:Env) (h:zay) (acc:List ziQ):Prop:=ze9 P n ops (ztI Q ops m) i rest e h acc
def zxm (P:Program) (n:Nat) (ops:List Oper) (Q:zc2) (m:Nat) (i:Nat) (rest:List Oper) (e:Env) (h:zay) (acc:List ziQ):Prop:=ze9 P n ops (ztI Q ops m) i rest e h acc
variable {m:Nat}
def zFY (P:Program) (n:Nat) (ops:List Oper) (Q:zc2) (e:Env) (h:zay):Prop:=∃h',Frz h h'∧zDi P ops Q e h' n
theorem zBK (hk:adr P n ops Q (n+ops.length) 0 ops e h []):zDi P ops Q e h n:=by
  refine ⟨ops.length, ?_⟩;rw [List.take_length,List.drop_length];exact hk
theorem wZ (hk:adr P n ops Q (n+ops.length) 0 ops e h []):zFY P n ops Q e h:=⟨h, .refl h,zBK hk⟩
theorem zFY.frz (h':zay) (hf:Frz h h') (hk:adr P n ops Q (n+ops.length) 0 ops e h' []):zFY P n ops Q e h:=⟨h',hf,zBK hk⟩
def QTail (P:Program) (ops:List Oper) (Q:zc2) (k:Nat):zc2
  | .normal,e,h,n=>zgK P ops Q (ops.drop k) e h n
  | _, _, _, _=>False
theorem zxc :QTail P ops Q k .normal e h n=zgK P ops Q (ops.drop k) e h n:=rfl
theorem zFY.split (k:Nat) (hk:adr P n ops (QTail P ops Q k) (n+ops.length) 0 (ops.take k) e h []):zFY P n ops Q e h:=⟨h, .refl h,k,hk⟩
attribute [go_sem] zxc
theorem zJO (id:Nat) (ops:List Oper):awp P n0 (.region id ops.toArray true) Q e h n=zFY P n ops Q e h:=rfl
def zLB (P:Program) (n:Nat) (ops:List Oper) (Q:zc2) (m:Nat) (i:Nat) (rest:List Oper) (dst:Option Tmp) (rd:List Nat) (r:Res) (e:Env) (h:zay) (acc:List ziQ):Prop:=
  VC r.cond (adr P n ops Q m (i+1) rest (put e dst r.val) (zap r.wr h) (acc++ [(rd,r.wr.map (·.1))]))
def zne (P:Program) (n:Nat) (ops:List Oper) (Q:zc2) (m:Nat) (i:Nat) (rest:List Oper) (dst:Option Tmp) (g:Bool) (rd:List Nat) (r:Res) (e:Env) (h:zay) (acc:List ziQ):Prop:=
  VC (g=true->r.cond) (adr P n ops Q m (i+1) rest (put e dst (.gd g r.val)) (zap (gW g r.wr) h) (acc++ [(rd,(gW g r.wr).map (·.1))]))
def dGrd (P:Program) (n:Nat) (ops:List Oper) (Q:zc2) (m:Nat) (i:Nat) (rest:List Oper) (dst:Option Tmp) (op:Op) (g:Option Bool) (e:Env) (h:zay) (acc:List ziQ):Prop:=
  match g with
  |none=>False
  |some g=>VQ (∀t ∈ gT op,okG g (e t)) (zne P n ops Q m i rest dst g ((op.operands.toList.map (ev (gE op e))).flatMap AV.ids) (aev P (n+i) op (gE op e) h) e h acc)
def zbV (P:Program) (n:Nat) (ops:List Oper) (Q:zc2) (m:Nat) (i:Nat) (rest:List Oper) (dst:Option Tmp) (fv:AV) (args:List AV) (e:Env) (h:zay) (acc:List ziQ):Prop:=
  ∃r S wr,zjG P (n+ops.length+16 * i) fv args h r S wr∧adr P n ops Q m (i+1) rest (put e dst r) (zap wr h) (acc++ [(S,wr.map (·.1))])
theorem zMs:adr P n ops Q m i [] e h acc=ztI Q ops m e h acc:=rfl
theorem zJI {dst:Option Tmp}{ty:TypeId}{pos:String}{after:Array Edge} [nc:zeW op]:
    adr P n ops Q m i (⟨dst,op,ty,pos,after,none⟩::rest) e h acc=zLB P n ops Q m i rest dst ((op.operands.toList.map (ev e)).flatMap AV.ids) (aev P (n+i) op e h) e h acc:=by
  have hc:=nc.h;unfold adr zLB;cases op with
  |call c=>
    obtain ⟨callee,args,ats⟩:=c;cases callee with
    |value f=>simp [zyp] at hc
    | _=>rfl
  | _=>rfl
theorem zJH {dst:Option Tmp}{f:Operand}{args:Array Operand}{ty:TypeId}{pos:String}{after:Array Edge}:
    adr P n ops Q m i (⟨dst, .call ⟨.value f,args,ats⟩,ty,pos,after,none⟩::rest) e h acc=zbV P n ops Q m i rest dst (ev e f) (args.toList.map (ev e)) e h acc:=rfl
theorem zJJ {dst:Option Tmp}{ty:TypeId}{pos:String}{after:Array Edge}{j:Nat}{want:Bool} [nc:zeW op]:
    adr P n ops Q m i (⟨dst,op,ty,pos,after,some (j,want)⟩::rest) e h acc=dGrd P n ops Q m i rest dst op ((zkh ops j).bind λ t=>zlN (e t) want) e h acc:=by
  have hc:=nc.h;unfold adr dGrd zne;cases op with
  |call c=>
    obtain ⟨callee,args,ats⟩:=c;cases callee with
    |value f=>simp [zyp] at hc
    | _=>rfl
  | _=>rfl
theorem VC_adr:VC True (zxm P n ops Q m i rest e h acc)=adr P n ops Q m i rest e h acc:=by simp [VC,zxm,adr]
theorem zOl  (h1:a) (h2:a->adr P n ops Q m i rest e h acc):VC a (zxm P n ops Q m i rest e h acc):=⟨h1,h2 h1⟩
theorem ztI.mk {recs:List ziQ} (h1:(zsK ops recs && zEs recs)=true) (h2:Q .normal e h n):ztI Q ops n e h recs:=by
  rw [Bool.and_eq_true] at h1;exact ⟨h1.1, .inl ⟨h1.2,h2⟩⟩
theorem zOA  (h1:zsK ops recs=true) (h2:Q .normal e h (n+16 * ops.length)):ztI Q ops n e h recs:=⟨h1, .inr h2⟩
theorem wL  (h2:a->zgK P ops Q rest e h n) (h1:a:=by first|omega|exact True.intro|rfl):VC a (znb P ops Q rest e h n):=⟨h1,h2 h1⟩
theorem wD  (h2:a->adr P n ops Q m i rest e h acc) (h1:a:=by first|omega|exact True.intro|(intros;omega)):VC a (zxm P n ops Q m i rest e h acc):=⟨h1,h2 h1⟩
theorem wE  (h2:Q .normal e h n) (h1:(zsK ops recs && zEs recs)=true:=by kernel_rfl):ztI Q ops n e h recs:=ztI.mk h1 h2
theorem dRes_0 :zLB P n ops Q m i rest (some d) rd ⟨c,x, [],0⟩ e h acc=VC c (zxm P n ops Q m (i+1) rest (upd e d x) h (acc++ [(rd, [])])):=rfl
theorem zMS :zLB P n ops Q m i rest none rd ⟨c,x, [],0⟩ e h acc=VC c (zxm P n ops Q m (i+1) rest e h (acc++ [(rd, [])])):=rfl
theorem dRes_1 :zLB P n ops Q m i rest (some d) rd ⟨c,x, [(o,y)],al⟩ e h acc=VC c (zxm P n ops Q m (i+1) rest (upd e d x) (upd h o y) (acc++ [(rd, [o])])):=rfl
theorem zMT :zLB P n ops Q m i rest none rd ⟨c,x, [(o,y)],al⟩ e h acc=VC c (zxm P n ops Q m (i+1) rest e (upd h o y) (acc++ [(rd, [o])])):=rfl
theorem zMO :zne P n ops Q m i rest (some d) g rd ⟨c,x, [],0⟩ e h acc=VC (g=true->c) (zxm P n ops Q m (i+1) rest (upd e d (.gd g x)) h (acc++ [(rd, [])])):=by
  cases g<;>simp [zne,put,VC,adr,zxm,gW,zap]
theorem zMQ :zne P n ops Q m i rest (some d) true rd ⟨c,x, [(o,y)],al⟩ e h acc=VC c (zxm P n ops Q m (i+1) rest (upd e d (.gd true x)) (upd h o y) (acc++ [(rd, [o])])):=by
  simp [zne,put,VC,adr,zxm,gW,zap]
theorem zKa :zne P n ops Q m i rest none true rd ⟨c,x, [(o,y)],al⟩ e h acc=VC c (zxm P n ops Q m (i+1) rest e (upd h o y) (acc++ [(rd, [o])])):=by
  simp [zne,put,VC,adr,zxm,gW,zap]
theorem zMP :zne P n ops Q m i rest (some d) false rd r e h acc=adr P n ops Q m (i+1) rest (upd e d (.gd false r.val)) h (acc++ [(rd, [])]):=by
  simp [zne,put,VC,adr,gW,zap]
theorem zJ9 :zne P n ops Q m i rest none false rd r e h acc=adr P n ops Q m (i+1) rest e h (acc++ [(rd, [])]):=by
  simp [zne,put,VC,adr,gW,zap]
theorem zGS {dst:Option Tmp}:dGrd P n ops Q m i rest dst op (some g) e h acc=VQ (∀t ∈ gT op,okG g (e t)) (zne P n ops Q m i rest dst g ((op.operands.toList.map (ev (gE op e))).flatMap AV.ids) (aev P (n+i) op (gE op e) h) e h acc):=rfl
theorem zOJ {dst:Option Tmp} (args':List AV) (r:AV) (S:List Nat) (hp:zav P f args' r) (hfl:zBB r) (hle:∀h₁:zay,(∀o ∈ S,h o=h₁ o)->zaL h₁ noH 0 (first++args++caps) args') (hb:∀c ∈ args',Bel 0 c)
    (hk:adr P n ops Q m (i+1) rest (put e dst r) h (acc++ [(S, [])])):zbV P n ops Q m i rest dst (.fn (.func f) first caps) args e h acc:=⟨r,S, [], .inl ⟨rfl,f,first,caps,args',rfl,hb,hp, .inl ⟨hle,hfl⟩⟩,hk⟩
theorem zN5 {dst:Option Tmp}{r:AV} (hp:zav P f (first++args++caps) r) (hb:∀c ∈ first++args++caps,Bel 0 c)
    (hk:adr P n ops Q m (i+1) rest (put e dst r) h (acc++ [([], [])])):zbV P n ops Q m i rest dst (.fn (.func f) first caps) args e h acc:=⟨r, [], [], .inl ⟨rfl,f,first,caps, _,rfl,hb,hp, .inr rfl⟩,hk⟩
theorem zbV.frz {dst:Option Tmp} (args':List AV) (r:AV) (S:List Nat) (wr:List (Nat×Option zcr)) (hp:zav P f args' r)
    (hw:∀p ∈ wr,p.1 ∈ S∧∃g sz rs,p.2=some (.rows false g sz rs)∧h p.1=some (.rows true g sz rs)) (hle:∀h₁:zay,(∀o ∈ S,h o=h₁ o)->zaL h₁ (zap wr h₁) 0 (first++args++caps) args') (hb:∀c ∈ args',Bel 0 c)
    (hk:adr P n ops Q m (i+1) rest (put e dst r) (zap wr h) (acc++ [(S,wr.map (·.1))])):zbV P n ops Q m i rest dst (.fn (.func f) first caps) args e h acc:=⟨r,S,wr, .inr (.inl ⟨f,first,caps,args',rfl,hb,hp,hw,hle⟩),hk⟩
@[congr] theorem adr_congr (h1:i=i'):adr P n ops Q m i rest e h acc=adr P n ops Q m i' rest e h acc:=by subst h1;rfl
@[congr] theorem zNM (h1:i=i'):zxm P n ops Q m i rest e h acc=zxm P n ops Q m i' rest e h acc:=by subst h1;rfl
@[congr] theorem zNR {dst:Option Tmp} (h1:i=i') (h2:rd=rd') (h0:r=r'):zLB P n ops Q m i rest dst rd r e h acc=zLB P n ops Q m i' rest dst rd' r' e h acc:=af
@[congr] theorem zMR {dst:Option Tmp}{g':Bool} (h1:i=i') (hg:g=g') (h2:rd=rd') (h0:r=r'):zne P n ops Q m i rest dst g rd r e h acc=zne P n ops Q m i' rest dst g' rd' r' e h acc:=af
@[congr] theorem zNQ {dst:Option Tmp}{g:Option Bool} (h1:i=i') (h0:g=g'):dGrd P n ops Q m i rest dst op g e h acc=dGrd P n ops Q m i' rest dst op g' e h acc:=af
@[congr] theorem zMN {dst:Option Tmp} (h1:i=i') (h0:fv=fv') (h2:args=args'):zbV P n ops Q m i rest dst fv args e h acc=zbV P n ops Q m i' rest dst fv' args' e h acc:=by subst h0 h1 h2;rfl
@[congr] theorem zNP {acc acc':List ziQ}{n':Nat} (h1:n=n') (h0:acc=acc'):ztI Q ops n e h acc=ztI Q ops n' e h acc':=by subst h0 h1;rfl
end draw
section drawEq
variable {P:Program} {Q:zc2} {e:Env} {h:zay} {n m i:Nat} {ops rest:List Oper} {acc:List ziQ} {dst:Option Tmp} {ty:TypeId} {pos:String} {after:Array Edge} {j:Nat} {want:Bool}
end drawEq
attribute [go_sem] zJO zMs zJH zJI zJJ VC_adr dRes_0 zMS dRes_1 zMT zMO zMQ zKa zMP zJ9 zGS AV.ids List.flatMap_cons List.flatMap_nil
section gcall
variable {P:Program} {Q:zc2} {e:Env} {h:zay} {n m i:Nat} {ops rest:List Oper} {acc:List ziQ}
def aGC (P:Program) (ops:List Oper) (Q:zc2) (rest:List Oper) (dst:Option Tmp) (g:Bool) (fv:AV) (args:List AV) (e:Env) (h:zay) (n:Nat):Prop:=
  (∃x,(g=true->zmM P fv args h n λ r h' n'=>r=x∧h'=h∧n'=n)∧zgK P ops Q rest (put e dst (.gd g x)) h n)∨
  (g=true∧zmM P fv args h n λ r h' n'=>zgK P ops Q rest (put e dst (.gd true r)) h' n')∨
  (g=true∧zoU e fv args h n λ e' r h'=>zgK P ops Q rest (put e' dst (.gd true r)) h' n)
def zqt (P:Program) (ops:List Oper) (Q:zc2) (rest:List Oper) (dst:Option Tmp) (f:Operand) (args:List Operand) (op:Op) (g:Option Bool) (e:Env) (h:zay) (n:Nat):Prop:=
  match g with
  |none=>False
  |some g=>VQ (∀t ∈ zef op,okG g (e t)) (aGC P ops Q rest dst g (ev (λ t=>unG (e t)) f) (args.map (ev λ t=>unG (e t))) e h n)
theorem zDm {dst:Option Tmp}{f:Operand}{args:Array Operand}{ty:TypeId}{pos:String}{after:Array Edge}{j:Nat}{want:Bool}:
    zgK P ops Q (⟨dst, .call ⟨.value f,args,ats⟩,ty,pos,after,some (j,want)⟩::rest) e h n=zqt P ops Q rest dst f args.toList (.call ⟨.value f,args,ats⟩) ((zkh ops j).bind λ t=>zlN (e t) want) e h n:=rfl
theorem zvG {dst:Option Tmp}{f:Operand}{args:List Operand}:zqt P ops Q rest dst f args op (some g) e h n=VQ (∀t ∈ zef op,okG g (e t)) (aGC P ops Q rest dst g (ev (λ t=>unG (e t)) f) (args.map (ev λ t=>unG (e t))) e h n):=rfl
theorem zOe {dst:Option Tmp} (args':List AV) (r:AV) (hp:g=true->zav P f args' r) (hfl:zBB r) (hle:zaL h noH n (first++args++caps) args') (hb:∀c ∈ args',Bel 0 c)
    (hk:zgK P ops Q rest (put e dst (.gd g r)) h n):aGC P ops Q rest dst g (.fn (.func f) first caps) args e h n:=
  .inl ⟨r,λ hg=>zOb (hp hg) hfl hle hb ⟨rfl,rfl,rfl⟩,hk⟩
theorem zN4 {dst:Option Tmp} (r:AV) (hp:g=true->zav P f (first++args++caps) r) (hb:∀c ∈ first++args++caps,Bel 0 c)
    (hk:zgK P ops Q rest (put e dst (.gd g r)) h n):aGC P ops Q rest dst g (.fn (.func f) first caps) args e h n:=
  .inl ⟨r,λ hg=>zN0 (hp hg) hb ⟨rfl,rfl,rfl⟩,hk⟩
theorem aGC.skip (x:AV){dst:Option Tmp} (hk:zgK P ops Q rest (put e dst (.gd false x)) h n):aGC P ops Q rest dst false fv args e h n:= .inl ⟨x,(λ hg=>nomatch hg),hk⟩
theorem aGC.go {dst:Option Tmp} (hk:zaj P f (first++args++caps) h n λ r h' n'=>zgK P ops Q rest (put e dst (.gd true r)) h' n'):aGC P ops Q rest dst true (.fn (.func f) first caps) args e h n:= .inr (.inl ⟨rfl,hk⟩)
def dGC (P:Program) (n:Nat) (ops:List Oper) (Q:zc2) (m:Nat) (i:Nat) (rest:List Oper) (dst:Option Tmp) (g:Bool) (fv:AV) (args:List AV) (e:Env) (h:zay) (acc:List ziQ):Prop:=
  ∃r S wr,(g=true->zjG P (n+ops.length+16 * i) fv args h r S wr)∧(g=false->wr= [])∧adr P n ops Q m (i+1) rest (put e dst (.gd g r)) (zap wr h) (acc++ [(S,wr.map (·.1))])
def zqD (P:Program) (n:Nat) (ops:List Oper) (Q:zc2) (m:Nat) (i:Nat) (rest:List Oper) (dst:Option Tmp) (f:Operand) (args:List Operand) (op:Op) (g:Option Bool) (e:Env) (h:zay) (acc:List ziQ):Prop:=
  match g with
  |none=>False
  |some g=>VQ (∀t ∈ zef op,okG g (e t)) (dGC P n ops Q m i rest dst g (ev (λ t=>unG (e t)) f) (args.map (ev λ t=>unG (e t))) e h acc)
theorem zFX {dst:Option Tmp}{f:Operand}{args:Array Operand}{ty:TypeId}{pos:String}{after:Array Edge}{j:Nat}{want:Bool}:
    adr P n ops Q m i (⟨dst, .call ⟨.value f,args,ats⟩,ty,pos,after,some (j,want)⟩::rest) e h acc=zqD P n ops Q m i rest dst f args.toList (.call ⟨.value f,args,ats⟩) ((zkh ops j).bind λ t=>zlN (e t) want) e h acc:=rfl
theorem zvZ {dst:Option Tmp}{f:Operand}{args:List Operand}:zqD P n ops Q m i rest dst f args op (some g) e h acc=VQ (∀t ∈ zef op,okG g (e t)) (dGC P n ops Q m i rest dst g (ev (λ t=>unG (e t)) f) (args.map (ev λ t=>unG (e t))) e h acc):=rfl
theorem zOB {dst:Option Tmp} (args':List AV) (r:AV) (S:List Nat) (hp:g=true->zav P f args' r) (hfl:zBB r) (hle:∀h₁:zay,(∀o ∈ S,h o=h₁ o)->zaL h₁ noH 0 (first++args++caps) args')
    (hb:∀c ∈ args',Bel 0 c) (hk:adr P n ops Q m (i+1) rest (put e dst (.gd g r)) h (acc++ [(S, [])])):dGC P n ops Q m i rest dst g (.fn (.func f) first caps) args e h acc:=
  ⟨r,S, [],λ hg=> .inl ⟨rfl,f,first,caps,args',rfl,hb,hp hg, .inl ⟨hle,hfl⟩⟩,λ _=>rfl,hk⟩
theorem zN2 {dst:Option Tmp} (r:AV) (hp:g=true->zav P f (first++args++caps) r) (hb:∀c ∈ first++args++caps,Bel 0 c)
    (hk:adr P n ops Q m (i+1) rest (put e dst (.gd g r)) h (acc++ [([], [])])):dGC P n ops Q m i rest dst g (.fn (.func f) first caps) args e h acc:=
  ⟨r, [], [],λ hg=> .inl ⟨rfl,f,first,caps, _,rfl,hb,hp hg, .inr rfl⟩,λ _=>rfl,hk⟩
theorem dGC.skip (x:AV){dst:Option Tmp} (hk:adr P n ops Q m (i+1) rest (put e dst (.gd false x)) h (acc++ [([], [])])):dGC P n ops Q m i rest dst false fv args e h acc:=
  ⟨x, [], [],(λ hg=>nomatch hg),λ _=>rfl,hk⟩
theorem dGC.frz {dst:Option Tmp} (args':List AV) (r:AV) (S:List Nat) (wr:List (Nat×Option zcr)) (hp:zav P f args' r)
    (hw:∀p ∈ wr,p.1 ∈ S∧∃g sz rs,p.2=some (.rows false g sz rs)∧h p.1=some (.rows true g sz rs)) (hle:∀h₁:zay,(∀o ∈ S,h o=h₁ o)->zaL h₁ (zap wr h₁) 0 (first++args++caps) args') (hb:∀c ∈ args',Bel 0 c)
    (hk:adr P n ops Q m (i+1) rest (put e dst (.gd true r)) (zap wr h) (acc++ [(S,wr.map (·.1))])):dGC P n ops Q m i rest dst true (.fn (.func f) first caps) args e h acc:=
  ⟨r,S,wr,λ _=> .inr (.inl ⟨f,first,caps,args',rfl,hb,hp,hw,hle⟩),(λ h=>nomatch h),hk⟩
@[congr] theorem aGC_congr {dst:Option Tmp}{g':Bool} (hg:g=g') (h0:fv=fv') (h1:args=args'):aGC P ops Q rest dst g fv args e h n=aGC P ops Q rest dst g' fv' args' e h n:=by subst h0 h1 hg;rfl
@[congr] theorem zJb {dst:Option Tmp}{f:Operand}{args:List Operand}{g:Option Bool} (h0:g=g'):zqt P ops Q rest dst f args op g e h n=zqt P ops Q rest dst f args op g' e h n:=af
@[congr] theorem dGC_congr {dst:Option Tmp}{g':Bool}{i':Nat} (hi:i=i') (hg:g=g') (h0:fv=fv') (h1:args=args'):dGC P n ops Q m i rest dst g fv args e h acc=dGC P n ops Q m i' rest dst g' fv' args' e h acc:=by subst h0 h1 hg hi;rfl
@[congr] theorem zJc {dst:Option Tmp}{f:Operand}{args:List Operand}{g:Option Bool}{i':Nat} (hi:i=i') (h0:g=g'):zqD P n ops Q m i rest dst f args op g e h acc=zqD P n ops Q m i' rest dst f args op g' e h acc:=af
end gcall
attribute [go_sem] zDm zvG zFX zvZ

theorem zvE {n:Nat}:∀ {xs:List AV},(∀c ∈ xs,Bel 0 c)->ShL n xs xs
  | [], _=> .nil
  |x::xs,h=> .cons (.same (h x ac)) (zvE λ c hc=>h c ay)
theorem Sh_agg {n:Nat}:Sh n (.agg xs) (.agg ys)=ShL n xs ys:=propext ⟨λ h=>by
  cases h with
  |same h=>cases h<;>grind [zvE]
  |agg h=>exact h, .agg⟩
theorem Sh_tup {n:Nat}:Sh n (.tup xs) (.tup ys)=ShL n xs ys:=propext ⟨λ h=>by
  cases h with
  |same h=>cases h<;>grind [zvE]
  |tup h=>exact h, .tup⟩
theorem Sh_fn {n:Nat}{f:Fn}{a b a' b':List AV} (h:ShL n a a') (h':ShL n b b'):Sh n (.fn f a b) (.fn f a' b')=True:=eq_true (.fn h h')
theorem Sh_ref {n g i:Nat}:Sh n (.ref o g sz i off) (.ref (n+o) g sz i off)=True:=eq_true .ref
theorem Sh_sl {n g i:Nat}:Sh n (.sl o g sz i len) (.sl (n+o) g sz i len)=True:=eq_true .sl
theorem Sh_mp {n:Nat}:Sh n (.mp o) (.mp (n+o))=True:=eq_true .mp
theorem Sh_mp0 {n:Nat}:Sh n (.mp 0) (.mp n)=True:=eq_true (.mp (o:=0))
theorem zMf {n g i:Nat}:Sh n (.ref 0 g sz i off) (.ref n g sz i off)=True:=eq_true (.ref (o:=0))
theorem Sh_sl0 {n g i:Nat}:Sh n (.sl 0 g sz i len) (.sl n g sz i len)=True:=eq_true (.sl (o:=0))
theorem Sh_v {n:Nat}{x:Value}:Sh n (.v x) (.v x)=True:=eq_true (.same (.v x))
theorem Sh_lst {n:Nat} (h:∀r ∈ rows,∀c ∈ r,Bel 0 c):Sh n (.lst sz rows) (.lst sz rows)=True:=eq_true (.same (.lst h))
theorem zMe {n:Nat}:ShL n [] []=True:=eq_true .nil
theorem zJz {n:Nat}{y:AV}:ShL n (x::xs) (y::ys)=(Sh n x y∧ShL n xs ys):=propext ⟨λ h=>by cases h<;>grind,λ h=> .cons h.1 h.2⟩
theorem zFR {n:Nat} (h:∀r ∈ rs,∀c ∈ r,Bel 0 c):zBG n rs rs=True:=eq_true (.same h)
theorem zJy {n:Nat}:zBG n [] []=True:=eq_true .nil
theorem zFQ {n:Nat}{x y:List AV}{xs ys:List (List AV)} (h:ShL n x y∧zBG n xs ys):zBG n (x::xs) (y::ys)=True:=eq_true (.cons h.1 h.2)
theorem zJA {n:Nat}{g:Nat}:ShO n (.rows mt g sz rs) (.rows mt g sz rs')=zBG n rs rs':=propext ⟨λ h=>aJ, .rows⟩
theorem zMd {n:Nat}:ShH n [] []=True:=eq_true .nil
variable {l l':List (Nat×zcr)}
theorem zBF {n:Nat}{x y:zcr}:ShH n ((o,x)::l) ((n+o,y)::l')=(ShO n x y∧ShH n l l'):=
  propext ⟨λ h=>by cases h<;>grind,λ h=> .cons h.1 h.2⟩
theorem zFP {n:Nat}{x y:zcr}:ShH n ((0,x)::l) ((n,y)::l')=(ShO n x y∧ShH n l l'):=zBF (o:=0)
attribute [go_sem] Sh_mp Sh_mp0 Sh_agg Sh_tup Sh_fn Sh_ref Sh_sl zMf Sh_sl0 Sh_v Sh_lst zMe zJz zFR zJy zFQ zJA zMd zBF zFP zdU
theorem zKF {h h':zay}{n:Nat}:LeV h h' n x x:= .refl x
attribute [go_sem] zKF
theorem zL6 {n:Int}:InR .i64 n=(-9223372036854775808<=n∧n<=9223372036854775807):=by
  simp [InR,IntKind.min,IntKind.max,IntKind.signed,IntKind.bits]
theorem InR_u8 {n:Int}:InR .u8 n=(0<=n∧n<=255):=by
  simp [InR,IntKind.min,IntKind.max,IntKind.signed,IntKind.bits]
theorem zL8 {n:Int}:InR .u64 n=(0<=n∧n<=18446744073709551615):=by
  simp [InR,IntKind.min,IntKind.max,IntKind.signed,IntKind.bits]
theorem zL7 {n:Int}:InR .u32 n=(0<=n∧n<=4294967295):=by
  simp [InR,IntKind.min,IntKind.max,IntKind.signed,IntKind.bits]
attribute [go_sem] zL6 InR_u8 zL8 zL7
theorem oc_int {k:IntKind}{n:Int}:(Value.int k n).oneCell'=true:=rfl
theorem zNl :(Value.bool b).oneCell'=true:=rfl
theorem zKV {a:Option Addr}{l c:Nat}:(Value.slice a l c).oneCell'=true:=rfl
theorem zEv {a:Option Addr}:(Value.pointer a).oneCell'=true:=rfl
attribute [go_sem] oc_int zNl zKV zEv
structure LS where
  E:List (Nat×AV)
  H:List (Nat×zcr)
  n:Nat
def zFA (n0:Nat) (B:zc2->Env->zay->Nat->Prop) (Q:zc2) (s:LS):Prop:=zac n0 B Q (mkE s.E) (mkH s.H) s.n
theorem zNY {P:Program}{n0:Nat}{b:Code}{Q:zc2}{α:Type} (S:α->LS) (I:Nat->α->Prop)
    (step:∀d a,I d a->(∀d',d'<d->∀a',I d' a'->zFA n0 (awp P n0 b) Q (S a'))->awp P n0 b (zC7 (zac n0 (awp P n0 b) Q) Q) (mkE (S a).E) (mkH (S a).H) (S a).n):
    ∀d a,I d a->zFA n0 (awp P n0 b) Q (S a):=by
  intro d;induction d using Nat.strongRecOn with
  |ind d ih=>intro a ha;exact zNZ (step d a ha λ d' hd a' ha'=>ih d' hd a' ha')
theorem zNW {P:Program}{n0:Nat}{b:Code}{Q:zc2}{e:Env}{h:zay}{n:Nat}{s:LS} (hh:zFA n0 (awp P n0 b) Q s) (hk:Wk e h n s.E s.H s.n) (hn:n0<=s.n):zac n0 (awp P n0 b) Q e h n:=
  zac.forget s.E s.H s.n hk hn hh
theorem zaf {e:Env}{h:zay}{n:Nat}{E:List (Nat×AV)}{HH:List (Nat×zcr)}{n':Nat}:
    Wk e h n E HH n'=((∀p ∈ E,LeV h (mkH HH) n (e p.1) p.2∧Bel n' p.2)∧∀p ∈ HH,p.1<n'∧LeO h (mkH HH) n p.1 (h p.1) p.2∧zqr n' p.2):=
  propext ⟨λ h=>⟨h.1,h.2⟩,λ h=>⟨h.1,h.2⟩⟩
theorem zKD {h h':zay}{n:Nat}{g:Nat}:LeO h h' n o (some (.rows mt g sz rs)) (.rows mt g sz rs)=True:=eq_true (.same (λ h=>h) (.refl _))
theorem zM8 {h h':zay}{n g:Nat} (hn:n<=o):LeO h h' n o none (.rows true g sz [])=True:=eq_true (.own hn)
theorem zHF {h h':zay}{n:Nat}:zaL h h' n [] []=True:=eq_true .nil
theorem zEf {h h':zay}{n:Nat}{y:AV}:zaL h h' n (x::xs) (y::ys)=(LeV h h' n x y∧zaL h h' n xs ys):=
  propext ⟨λ h=>by cases h with|cons a b=>exact ⟨a,b⟩,λ h=> .cons h.1 h.2⟩
theorem zM9 {h h':zay}{n c:Nat}{A:Option Addr}:LeV h h' n (.v (.slice A 0 c)) (.lst sz [])=True:=eq_true (.nil sz)
theorem zNb {h h':zay}{n:Nat}:LeV h h' n x .top=True:=eq_true (.top x)
theorem zNa {h h':zay}{n g:Nat} (hn:n<=o) (ho:h' o=some (.rows true g sz [])):LeV h h' n (.v (.slice none 0 0)) (.sl o g sz 0 0)=True:=eq_true (.own hn ho)
theorem noH_eq (o:Nat):noH o=none:=rfl
theorem zaq {h h':zay}{n g i:Nat} (ho:h o=some (.rows mt g sz rs)) (hl:i+len<=rs.length) (ho':∀g sz rs,h' o≠some (.rows true g sz rs)) (hr:(rs.drop i).take len=rows):
    LeV h h' n (.sl o g sz i len) (.lst sz rows):= .frz ho hl ho' (hr▸ .refl _)
theorem zOm {h h':zay}{n:Nat} (e:xs=ys):zaL h h' n xs ys:=e▸ .refl _ _ _ _
theorem zKC {h h':zay}{n:Nat}{mt':Bool}{g g' sz':Nat}:LeO h h' n o (some (.rows mt g sz rs)) (.rows mt' g' sz' rs')=(g=g'∧sz=sz'∧(mt'=true->mt=true)∧zaM h h' n rs rs'):=
  propext ⟨λ h=>by cases h<;>grind,λ ⟨h1,h2,h3,h4⟩=>by subst h1 h2;exact .same h3 h4⟩
theorem zAN {h h':zay}{n:Nat}:zaM h h' n rs rs=True:=eq_true (.refl _)
theorem zAM {h h':zay}{n:Nat}{x y:List AV}{xs ys:List (List AV)}:zaM h h' n (x::xs) (y::ys)=(zaL h h' n x y∧zaM h h' n xs ys):=
  propext ⟨λ h=>by cases h with
    |refl=>exact ⟨.refl _ _ _ _, .refl _⟩
    |cons h t=>exact ⟨h,t⟩,λ h=> .cons h.1 h.2⟩
theorem zKE {h h':zay}{n:Nat}:LeV h h' n (.agg xs) (.agg ys)=zaL h h' n xs ys:=
  propext ⟨λ h=>by cases h with
    |refl=>exact .refl _ _ _ _
    |agg h=>exact h, .agg⟩
theorem zKG {h h':zay}{n:Nat}:LeV h h' n (.tup xs) (.tup ys)=zaL h h' n xs ys:=
  propext ⟨λ h=>by cases h with
    |refl=>exact .refl _ _ _ _
    |tup h=>exact h, .tup⟩
theorem NoFz_v {x:Value}:zli (.v x)=True:=eq_true (.v x)
theorem zJq {g i:Nat}:zli (.ref o g sz i off)=True:=eq_true (.ref ..)
theorem zMb {g i:Nat}:zli (.sl o g sz i len)=True:=eq_true (.sl ..)
theorem zJp :zli (.agg xs)=∀x ∈ xs,zli x:=propext ⟨λ h=>aJ, .agg⟩
theorem zJr :zli (.tup xs)=∀x ∈ xs,zli x:=propext ⟨λ h=>aJ, .tup⟩
theorem zMa {f:Fn}{a b:List AV}:zli (.fn f a b)=((∀x ∈ a,zli x)∧∀x ∈ b,zli x):=propext ⟨λ h=>by cases h;grind,λ h=> .fn h.1 h.2⟩
theorem zOa {P:Program}{h:zay}{n:Nat}{K:zbH}{R:Nat->AV}{HH:Nat->List (Nat×zcr)} (hp:ztr P f args' R HH k)
    (hnR:zli (R 0)) (hnH:∀p ∈ HH 0,zzt p.2) (hle:zaL h noH n args args') (hb:∀c ∈ args',Bel 0 c) (hk:K (R n) (zdU (HH n) h) (n+k)):zaj P f args h n K:=
  zOv hp.1 (λ _ _ _ h=>h) (hp.2 n).1 (hp.2 n).2 hnR hnH hle hb hk
attribute [go_sem] zKC zAN zAM zKE zKG NoFz_v zJq zMb zJp zJr zMa zzt zv4
attribute [go_sem] noH_eq zNa zM8 mkE mkH zqr zKD zHF zEf zM9 zNb List.forall_mem_cons
theorem zN9 {h h':zay}{n:Nat}{y:AV} (e:x=y):LeV h h' n x y:=e▸ .refl x
theorem nadd (a b c:Nat):a+b+c=a+(b+c):=Nat.add_assoc a b c
attribute [go_sem] nadd
class WS (G:Prop) (a X:outParam Prop):Prop where out:a->(a->X)->G
instance {P:Program}{ops:List Oper}{Q:zc2}{rest:List Oper}{e:Env}{h:zay}{n:Nat}{a:Prop}:WS (VC a (znb P ops Q rest e h n)) a (zgK P ops Q rest e h n):=⟨λ h1 h2=>wL h2 h1⟩
instance {P:Program}{ops:List Oper}{Q:zc2}{rest:List Oper}{e:Env}{h:zay}{n m i:Nat}{a:Prop}{acc:List ziQ}:WS (VC a (zxm P n ops Q m i rest e h acc)) a (adr P n ops Q m i rest e h acc):=⟨λ h1 h2=>wD h2 h1⟩
instance {P:Program}{ops:List Oper}{Q:zc2}{e:Env}{h:zay}{n:Nat}:WS (zFY P n ops Q e h) True (adr P n ops Q (n+ops.length) 0 ops e h []):=⟨λ _ h2=>wZ (h2 trivial)⟩
def KR (p:Prop):Prop:=p
theorem kr  (h:p):KR p:=h
instance {ops:List Oper}{Q:zc2}{n:Nat}{e:Env}{h:zay}{recs:List ziQ}:WS (ztI Q ops n e h recs) (KR ((zsK ops recs && zEs recs)=true)) (Q .normal e h n):=⟨λ h1 h2=>ztI.mk h1 (h2 h1)⟩
theorem wV  [i:WS G a X] (h2:a->X) (h1:a:=by with_reducible first|omega|exact True.intro|rfl|(refine kr ?_;kernel_rfl)|(intros;omega)):G:=i.out h1 h2
theorem leX  (h:p:=by ((try simp only [zaT,zbT,zgS,zmO,zbJ,zhp,zbm,zaO,zag,zjT,zdJ,zaC,zaG,zad,List.map_cons,List.map_nil,List.nil_append,List.append_nil,List.cons_append]);(repeat (first|(with_reducible exact zaL.nil)|(with_reducible exact zaM.nil)|(with_reducible exact LeV.refl _)|(with_reducible exact zaL.refl _ _ _ _)|(with_reducible exact zaM.refl _)|(with_reducible refine zaL.cons ?_ ?_)|(with_reducible refine zaM.cons ?_ ?_)|(with_reducible refine LeV.agg ?_)|(with_reducible refine LeV.tup ?_)|(with_reducible refine LeV.fn ?_ ?_)|(with_reducible exact LeV.nil _)|(with_reducible refine zaJ (zaM.refl _) ?_)|((refine zaq rfl ac aq ?_);(first|(simp [go_sem];done)|(simp [go_sem];exact List.take_of_length_le ac)))|((refine LeV.frz rfl ac aq ?_);(simp only [List.drop_zero,List.take_succ_cons,List.take_zero,List.map_cons,List.map_nil]))|((refine LeV.frzP rfl ac ac aq ?_);(simp only [zce,List.drop_zero])))))):p:=h
theorem blX  (h:p:=by (intro r hr c hc;(first|(rcases hr with ⟨_, _,rfl⟩|rfl)|(rcases hr with rfl|⟨_, _,rfl⟩)|(rcases hr with rfl|rfl)|((rcases List.mem_or_eq_of_mem_set hr with hr|rfl)<;>first|(obtain ⟨_, _,rfl⟩:=List.mem_map.1 hr;simp only [zd2] at hc)|skip)|(rcases hr with ⟨_,rfl⟩|⟨_,rfl⟩)|(rcases hr with ⟨_, _,rfl⟩|⟨_,rfl⟩)|(rcases hr with ⟨_,rfl⟩|⟨_, _,rfl⟩)|(rcases hr with ⟨_, _,rfl⟩|⟨_, _,rfl⟩)|(obtain ⟨_,rfl⟩:=hr)|(obtain ⟨_, _,rfl⟩:=hr))<;>simp at hc<;>(try subst hc)<;>first|exact .v _|(rcases hc with rfl|rfl<;>exact .v _))):p:=h
theorem dpX  (h:p:=by ((refine LeV.frz rfl ac ap ?_);(try simp only [List.drop_zero,List.take_succ_cons,List.take_zero,List.map_cons,List.map_nil]);(repeat (first|(with_reducible exact zaM.nil)|(with_reducible refine zaM.cons ?_ ?_)|(with_reducible exact zaL.nil)|(with_reducible refine zaL.cons ?_ ?_)|(with_reducible exact LeV.refl _)|(refine zaq rfl ac ap ?_;first|(simp [go_sem];done)|(simp [go_sem];exact List.take_of_length_le ac)))))):p:=h
theorem agX  (h:p:=by ((try simp only [zbm,zaO,zag,zjT,zdJ,zaC,zaG,List.nil_append,List.append_nil,List.cons_append]);(repeat (first|(with_reducible exact zaL.nil)|(with_reducible refine zaL.cons ?_ ?_)|(with_reducible exact LeV.refl _)|(with_reducible refine LeV.agg ?_)|((refine zaq rfl ac aq ?_);(first|(simp [go_sem];done)|(simp [go_sem];exact List.take_of_length_le ac))))))):p:=h
theorem rwX  (h:p:=by ((refine zaJ (.refl _) ?_);(repeat (first|(with_reducible exact zaM.nil)|(with_reducible refine zaM.cons ?_ ?_)|(with_reducible exact zaL.nil)|(with_reducible refine zaL.cons ?_ ?_)|(with_reducible exact LeV.refl _)|(refine zaq rfl ac ap ?_;first|(simp [go_sem];done)|(simp [go_sem];exact List.take_of_length_le ac)))))):p:=h
theorem frX  (h:p:=by (refine zaq rfl ac ap ?_;first|(simp [go_sem];done)|(simp [go_sem];exact List.take_of_length_le ac))):p:=h
structure KX (p:Prop):Prop where out:p
theorem J0  (h:X) (q:KX X->G:=by intro h;(repeat first|refine wV λ _=>?_|simp [go_sem]);exact h.out):G:=q ⟨h⟩
theorem J1  (f0:F0) (h:X) (q:F0->KX X->G:=by intro f0 h;(repeat first|refine wV λ _=>?_|simp [go_sem,f0]);exact h.out):G:=q f0 ⟨h⟩
theorem J10  (f0:F0) (f1:F1) (f2:F2) (f3:F3) (f4:F4) (f5:F5) (f6:F6) (f7:F7) (f8:F8) (f9:F9) (h:X) (q:F0->F1->F2->F3->F4->F5->F6->F7->F8->F9->KX X->G:=by intro f0 f1 f2 f3 f4 f5 f6 f7 f8 f9 h;(repeat first|refine wV λ _=>?_|simp [go_sem,f0,f1,f2,f3,f4,f5,f6,f7,f8,f9]);exact h.out):G:=q f0 f1 f2 f3 f4 f5 f6 f7 f8 f9 ⟨h⟩
theorem J11  (f0:F0) (f1:F1) (f2:F2) (f3:F3) (f4:F4) (f5:F5) (f6:F6) (f7:F7) (f8:F8) (f9:F9) (f10:F10) (h:X) (q:F0->F1->F2->F3->F4->F5->F6->F7->F8->F9->F10->KX X->G:=by intro f0 f1 f2 f3 f4 f5 f6 f7 f8 f9 f10 h;(repeat first|refine wV λ _=>?_|simp [go_sem,f0,f1,f2,f3,f4,f5,f6,f7,f8,f9,f10]);exact h.out):G:=q f0 f1 f2 f3 f4 f5 f6 f7 f8 f9 f10 ⟨h⟩
theorem J12 {F11:Prop} (f0:F0) (f1:F1) (f2:F2) (f3:F3) (f4:F4) (f5:F5) (f6:F6) (f7:F7) (f8:F8) (f9:F9) (f10:F10) (f11:F11) (h:X) (q:F0->F1->F2->F3->F4->F5->F6->F7->F8->F9->F10->F11->KX X->G:=by intro f0 f1 f2 f3 f4 f5 f6 f7 f8 f9 f10 f11 h;(repeat first|refine wV λ _=>?_|simp [go_sem,f0,f1,f2,f3,f4,f5,f6,f7,f8,f9,f10,f11]);exact h.out):G:=q f0 f1 f2 f3 f4 f5 f6 f7 f8 f9 f10 f11 ⟨h⟩
theorem J2  (f0:F0) (f1:F1) (h:X) (q:F0->F1->KX X->G:=by intro f0 f1 h;(repeat first|refine wV λ _=>?_|simp [go_sem,f0,f1]);exact h.out):G:=q f0 f1 ⟨h⟩
theorem J3  (f0:F0) (f1:F1) (f2:F2) (h:X) (q:F0->F1->F2->KX X->G:=by intro f0 f1 f2 h;(repeat first|refine wV λ _=>?_|simp [go_sem,f0,f1,f2]);exact h.out):G:=q f0 f1 f2 ⟨h⟩
theorem J4  (f0:F0) (f1:F1) (f2:F2) (f3:F3) (h:X) (q:F0->F1->F2->F3->KX X->G:=by intro f0 f1 f2 f3 h;(repeat first|refine wV λ _=>?_|simp [go_sem,f0,f1,f2,f3]);exact h.out):G:=q f0 f1 f2 f3 ⟨h⟩
theorem J5  (f0:F0) (f1:F1) (f2:F2) (f3:F3) (f4:F4) (h:X) (q:F0->F1->F2->F3->F4->KX X->G:=by intro f0 f1 f2 f3 f4 h;(repeat first|refine wV λ _=>?_|simp [go_sem,f0,f1,f2,f3,f4]);exact h.out):G:=q f0 f1 f2 f3 f4 ⟨h⟩
theorem J6  (f0:F0) (f1:F1) (f2:F2) (f3:F3) (f4:F4) (f5:F5) (h:X) (q:F0->F1->F2->F3->F4->F5->KX X->G:=by intro f0 f1 f2 f3 f4 f5 h;(repeat first|refine wV λ _=>?_|simp [go_sem,f0,f1,f2,f3,f4,f5]);exact h.out):G:=q f0 f1 f2 f3 f4 f5 ⟨h⟩
theorem J7  (f0:F0) (f1:F1) (f2:F2) (f3:F3) (f4:F4) (f5:F5) (f6:F6) (h:X) (q:F0->F1->F2->F3->F4->F5->F6->KX X->G:=by intro f0 f1 f2 f3 f4 f5 f6 h;(repeat first|refine wV λ _=>?_|simp [go_sem,f0,f1,f2,f3,f4,f5,f6]);exact h.out):G:=q f0 f1 f2 f3 f4 f5 f6 ⟨h⟩
theorem J8  (f0:F0) (f1:F1) (f2:F2) (f3:F3) (f4:F4) (f5:F5) (f6:F6) (f7:F7) (h:X) (q:F0->F1->F2->F3->F4->F5->F6->F7->KX X->G:=by intro f0 f1 f2 f3 f4 f5 f6 f7 h;(repeat first|refine wV λ _=>?_|simp [go_sem,f0,f1,f2,f3,f4,f5,f6,f7]);exact h.out):G:=q f0 f1 f2 f3 f4 f5 f6 f7 ⟨h⟩
theorem J9  (f0:F0) (f1:F1) (f2:F2) (f3:F3) (f4:F4) (f5:F5) (f6:F6) (f7:F7) (f8:F8) (h:X) (q:F0->F1->F2->F3->F4->F5->F6->F7->F8->KX X->G:=by intro f0 f1 f2 f3 f4 f5 f6 f7 f8 h;(repeat first|refine wV λ _=>?_|simp [go_sem,f0,f1,f2,f3,f4,f5,f6,f7,f8]);exact h.out):G:=q f0 f1 f2 f3 f4 f5 f6 f7 f8 ⟨h⟩
theorem Jg0  (h:X) (q:KX X->G:=by intro h;(repeat first|refine wV λ _=>?_|simp [go_sem,GH]);exact h.out):G:=q ⟨h⟩
theorem Jg1  (f0:F0) (h:X) (q:F0->KX X->G:=by intro f0 h;(repeat first|refine wV λ _=>?_|simp [go_sem,GH,f0]);exact h.out):G:=q f0 ⟨h⟩
theorem Jg2  (f0:F0) (f1:F1) (h:X) (q:F0->F1->KX X->G:=by intro f0 f1 h;(repeat first|refine wV λ _=>?_|simp [go_sem,GH,f0,f1]);exact h.out):G:=q f0 f1 ⟨h⟩
theorem K0  (q:G:=by (repeat first|refine wV λ _=>?_|simp [go_sem])):G:=q
theorem K1  (f0:F0) (q:F0->G:=by intro f0;(repeat first|refine wV λ _=>?_|simp [go_sem,f0])):G:=q f0
theorem K10  (f0:F0) (f1:F1) (f2:F2) (f3:F3) (f4:F4) (f5:F5) (f6:F6) (f7:F7) (f8:F8) (f9:F9) (q:F0->F1->F2->F3->F4->F5->F6->F7->F8->F9->G:=by intro f0 f1 f2 f3 f4 f5 f6 f7 f8 f9;(repeat first|refine wV λ _=>?_|simp [go_sem,f0,f1,f2,f3,f4,f5,f6,f7,f8,f9])):G:=q f0 f1 f2 f3 f4 f5 f6 f7 f8 f9
theorem K2  (f0:F0) (f1:F1) (q:F0->F1->G:=by intro f0 f1;(repeat first|refine wV λ _=>?_|simp [go_sem,f0,f1])):G:=q f0 f1
theorem K3  (f0:F0) (f1:F1) (f2:F2) (q:F0->F1->F2->G:=by intro f0 f1 f2;(repeat first|refine wV λ _=>?_|simp [go_sem,f0,f1,f2])):G:=q f0 f1 f2
theorem K4  (f0:F0) (f1:F1) (f2:F2) (f3:F3) (q:F0->F1->F2->F3->G:=by intro f0 f1 f2 f3;(repeat first|refine wV λ _=>?_|simp [go_sem,f0,f1,f2,f3])):G:=q f0 f1 f2 f3
theorem K5  (f0:F0) (f1:F1) (f2:F2) (f3:F3) (f4:F4) (q:F0->F1->F2->F3->F4->G:=by intro f0 f1 f2 f3 f4;(repeat first|refine wV λ _=>?_|simp [go_sem,f0,f1,f2,f3,f4])):G:=q f0 f1 f2 f3 f4
theorem Kg0  (q:G:=by (repeat first|refine wV λ _=>?_|simp [go_sem,GH])):G:=q
theorem Kg2  (f0:F0) (f1:F1) (q:F0->F1->G:=by intro f0 f1;(repeat first|refine wV λ _=>?_|simp [go_sem,GH,f0,f1])):G:=q f0 f1
theorem aF {P:Program}{fn:Func}{c:Code}{h:zay}{n:Nat}{K:zbH} (hf:P.funcs[f]? =some fn) (hh:awp P n c (zLs P fn.results.toList K) (zz3 0 args) h n) (hmix:P.follows .mixedOrders=true:=by kernel_rfl) (hb:fn.body=some c:=by rfl) (hname:(fn.name== "runtime.NumGoroutine")=false:=by rfl) (hN:args.length<=fn.ntmps:=by exact Nat.le_of_ble_eq_true rfl) (hd:zur fn.ntmps c=true:=by kernel_rfl) (hG:fn.ntmps<=GH:=by exact Nat.le_of_ble_eq_true rfl):zaj P f args h n K:=zOn hmix hf hb hname hN hd hh hG
theorem aP {P:Program}{r:AV}{h:zay}{n:Nat}{K:zbH} (hp:zav P f args r) (hk:K r h n) (hb:∀c ∈ args,Bel 0 c:=by simp [go_sem]):zaj P f args h n K:=zN0 hp hb hk
theorem dP {P:Program}{n:Nat}{ops:List Oper}{Q:zc2}{m i:Nat}{rest:List Oper}{e:Env}{h:zay}{acc:List ziQ}{dst:Option Tmp}{r:AV} (hp:zav P f (first++args++caps) r) (hk:adr P n ops Q m (i+1) rest (put e dst r) h (acc++ [([], [])])) (hb:∀c ∈ first++args++caps,Bel 0 c:=by simp [go_sem]):zbV P n ops Q m i rest dst (.fn (.func f) first caps) args e h acc:=zN5 hp hb hk
theorem FxF {P:Program}{n0:Nat}{Q:zc2}{e:Env}{h:zay}{n:Nat}{a b:Code} (h2:awp P n0 b Q e h n) (h1:t=true->awp P n0 a Q e h n:=by intro hF;first|omega|(simp at hF;omega)):aIf t (zFt P n0 a Q e h n) (zFt P n0 b Q e h n):=zNX h1 λ _=>h2
theorem FxT {P:Program}{n0:Nat}{Q:zc2}{e:Env}{h:zay}{n:Nat}{a b:Code} (h1:awp P n0 a Q e h n) (h2:t=false->awp P n0 b Q e h n:=by intro hF;first|omega|(simp at hF;omega)):aIf t (zFt P n0 a Q e h n) (zFt P n0 b Q e h n):=zNX (λ _=>h1) h2
theorem Lx1  (f0:F0) (q:F0->G:=by intro f0;(((try simp only [zaT,zbT,zgS,zmO,zbJ,zhp,zbm,zaO,zag,zjT,zdJ,zaC,zaG,zad,List.map_cons,List.map_nil,List.nil_append,List.append_nil,List.cons_append]);(repeat (first|(with_reducible exact zaL.nil)|(with_reducible exact zaM.nil)|(with_reducible exact LeV.refl _)|(with_reducible exact zaL.refl _ _ _ _)|(with_reducible exact zaM.refl _)|(with_reducible refine zaL.cons ?_ ?_)|(with_reducible refine zaM.cons ?_ ?_)|(with_reducible refine LeV.agg ?_)|(with_reducible refine LeV.tup ?_)|(with_reducible refine LeV.fn ?_ ?_)|(with_reducible exact LeV.nil _)|(with_reducible refine zaJ (zaM.refl _) ?_)|((refine zaq rfl (by simp [f0]) aq ?_);(first|(simp [go_sem,f0];done)|(simp [go_sem,f0];exact List.take_of_length_le (by simp [f0]))))|((refine LeV.frz rfl (by simp [f0]) aq ?_);(simp only [List.drop_zero,List.take_succ_cons,List.take_zero,List.map_cons,List.map_nil]))|((refine LeV.frzP rfl (by simp [f0]) ac aq ?_);(simp only [zce,List.drop_zero]))))))):G:=q f0
theorem Qx8  (f0:F0) (f1:F1) (f2:F2) (f3:F3) (f4:F4) (f5:F5) (f6:F6) (f7:F7) (q:F0->F1->F2->F3->F4->F5->F6->F7->G:=by intro f0 f1 f2 f3 f4 f5 f6 f7;(((try simp only [zaT,zbT,zgS,zmO,zbJ,zhp,zbm,zaO,zag,zjT,zdJ,zaC,zaG,zad,List.map_cons,List.map_nil,List.nil_append,List.append_nil,List.cons_append]);(repeat (first|(with_reducible exact zaL.nil)|(with_reducible exact zaM.nil)|(with_reducible exact LeV.refl _)|(with_reducible exact zaL.refl _ _ _ _)|(with_reducible exact zaM.refl _)|(with_reducible refine zaL.cons ?_ ?_)|(with_reducible refine zaM.cons ?_ ?_)|(with_reducible refine LeV.agg ?_)|(with_reducible refine LeV.tup ?_)|(with_reducible refine LeV.fn ?_ ?_)|(with_reducible exact LeV.nil _)|(with_reducible refine zaJ (zaM.refl _) ?_)|((refine zaq (by first|rfl|assumption) bV bK ?_);(first|(simp [go_sem,f0,f1,f2,f3,f4,f5,f6,f7];done)|(simp [go_sem,f0,f1,f2,f3,f4,f5,f6,f7];exact List.take_of_length_le bV)))|((refine LeV.frz (by first|rfl|assumption) bV bK ?_);(simp only [List.drop_zero,List.take_succ_cons,List.take_zero,List.map_cons,List.map_nil]))|((refine LeV.frzP (by first|rfl|assumption) bV ac bK ?_);(simp only [zce,List.drop_zero]))))))):G:=q f0 f1 f2 f3 f4 f5 f6 f7
end Go.Av
end
section
/- Our library, part 17: calls of functions that are given objects of ours and turn them. -/
namespace Go.Av
open Go

mutual
inductive Rn (σ:Nat->Nat):AV->AV->Prop
 |same {x:AV} (h:Bel 0 x):Rn σ x x
 |ref {o o' g sz i off:Nat} (h:o'=σ o):Rn σ (.ref o g sz i off) (.ref o' g sz i off)
 |sl {o o' g sz i len:Nat} (h:o'=σ o):Rn σ (.sl o g sz i len) (.sl o' g sz i len)
 |mp {o o':Nat} (h:o'=σ o):Rn σ (.mp o) (.mp o')
 |agg {xs ys:List AV} (h:RnL σ xs ys):Rn σ (.agg xs) (.agg ys)
 |tup {xs ys:List AV} (h:RnL σ xs ys):Rn σ (.tup xs) (.tup ys)
 |fn {f:Fn} {a b a' b':List AV} (h:RnL σ a a') (h':RnL σ b b'):Rn σ (.fn f a b) (.fn f a' b')
inductive RnL (σ:Nat->Nat):List AV->List AV->Prop
 |nil:RnL σ [] []
 |cons {x y:AV} {xs ys:List AV} (h:Rn σ x y) (t:RnL σ xs ys):RnL σ (x::xs) (y::ys)
end
inductive zFs (σ:Nat->Nat):List (List AV)->List (List AV)->Prop
 |same {rs:List (List AV)} (h:∀r ∈ rs,∀c ∈ r,Bel 0 c):zFs σ rs rs
 |nil:zFs σ [] []
 |cons {x y:List AV} {xs ys:List (List AV)} (h:RnL σ x y) (t:zFs σ xs ys):zFs σ (x::xs) (y::ys)
inductive RnO (σ:Nat->Nat):zcr->zcr->Prop
 |rows {mt:Bool} {g sz:Nat} {rs rs':List (List AV)} (h:zFs σ rs rs'):RnO σ (.rows mt g sz rs) (.rows mt g sz rs')
inductive RnH (σ:Nat->Nat):List (Nat×zcr)->List (Nat×zcr)->Prop
 |nil:RnH σ [] []
 |cons {o o':Nat} {x y:zcr} {l l':List (Nat×zcr)} (e:o'=σ o) (h:RnO σ x y) (t:RnH σ l l'):RnH σ ((o,x)::l) ((o',y)::l')
variable {k2 m n:Nat} {x:AV}
section
variable {σ:Nat->Nat} {φ φ':zaD} {w:World} {M M':Nat->Prop}
theorem Rn.rel (hφ:∀o,φ' (σ o)=φ o) (hM:∀k,M' k->M k){y:AV} (hs:Rn σ x y):∀ {v:Value},Rel φ w M x v->Rel φ' w M' y v:=by
 refine Rn.rec (σ:=σ) (motive_1:=λ x y _=>∀ {v:Value},Rel φ w M x v->Rel φ' w M' y v) (motive_2:=λ xs ys _=>∀ {vs:List Value},za2 φ w M xs vs->za2 φ' w M' ys vs)
  ?_ ?_ ?_ ?_ ?_ ?_ ?_ ?_ ?_ hs
 ·intro x hb v hx;exact hx.closed hM hb
 ·intro o o' g sz i off e v hx;subst e;cases hx with|ref ho hg h=>exact .ref af hg h
 ·intro o o' g sz i len e v hx;subst e;cases hx with|sl ho hg h=>exact .sl af hg h
 ·intro o o' e v hx;subst e;cases hx with|mp ho h=>exact .mp af h
 ·intro xs ys _ ih v hx;cases hx with|agg hv h=>exact .agg hv (ih h)
 ·intro xs ys _ ih v hx;cases hx with|tup h=>exact .tup (ih h)
 ·intro f a b a' b' _ _ ih1 ih2 v hx;cases hx with|fn h1 h2=>exact .fn (ih1 h1) (ih2 h2)
 ·intro vs hx;cases hx;exact .nil
 ·intro x y xs ys _ _ ih1 ih2 vs hx;cases hx with|cons h t=>exact .cons (ih1 h) (ih2 t)
theorem Rn.back  (hφ:∀o,o<m->φ o=φ' (σ o)) (hM:∀k,M k->M' k){y:AV} (hs:Rn σ x y):Bel m x->∀ {v:Value},Rel φ' w M' y v->Rel φ w M x v:=by
 refine Rn.rec (σ:=σ) (motive_1:=λ x y _=>Bel m x->∀ {v:Value},Rel φ' w M' y v->Rel φ w M x v) (motive_2:=λ xs ys _=>(∀c ∈ xs,Bel m c)->∀ {vs:List Value},za2 φ' w M' ys vs->za2 φ w M xs vs)
  ?_ ?_ ?_ ?_ ?_ ?_ ?_ ?_ ?_ hs
 ·intro x hb _ v hx;exact hx.closed hM hb
 ·intro o o' g sz i off e hb v hx;subst e;cases hb with|ref hb=>cases hx with|ref ho hg h=>exact .ref af hg h
 ·intro o o' g sz i len e hb v hx;subst e;cases hb with|sl hb=>cases hx with|sl ho hg h=>exact .sl af hg h
 ·intro o o' e hb v hx;subst e;cases hb with|mp hb=>cases hx with|mp ho h=>exact .mp af h
 ·intro xs ys _ ih hb v hx;cases hb with|agg hb=>cases hx with|agg hv h=>exact .agg hv (ih hb h)
 ·intro xs ys _ ih hb v hx;cases hb with|tup hb=>cases hx with|tup h=>exact .tup (ih hb h)
 ·intro f a b a' b' _ _ ih1 ih2 hb v hx;cases hb with|fn hb hb'=>cases hx with|fn h1 h2=>exact .fn (ih1 hb h1) (ih2 hb' h2)
 ·intro _ vs hx;cases hx;exact .nil
 ·intro x y xs ys _ _ ih1 ih2 hb vs hx;cases hx with|cons h t=>exact .cons (ih1 (hb _ ac) h) (ih2 (λ c hc=>hb c ay) t)
theorem RnL.rel (hφ:∀o,φ' (σ o)=φ o) (hM:∀k,M' k->M k):∀ {xs ys:List AV}{vs:List Value},RnL σ xs ys->za2 φ w M xs vs->za2 φ' w M' ys vs
 | [], _, _, .nil, .nil=> .nil
 | _:: _, _, _, .cons h t, .cons h' t'=> .cons (h.rel hφ hM h') (t.rel hφ hM t')
theorem RnL.back {m:Nat} (hφ:∀o,o<m->φ o=φ' (σ o)) (hM:∀k,M k->M' k):∀ {xs ys:List AV}{vs:List Value},RnL σ xs ys->(∀c ∈ xs,Bel m c)->za2 φ' w M' ys vs->za2 φ w M xs vs
 | [], _, _, .nil, _, .nil=> .nil
 | _:: _, _, _, .cons h t,hb, .cons h' t'=> .cons (h.back hφ hM (hb _ ac) h') (t.back hφ hM (λ c hc=>hb c ay) t')
theorem RnL.length:∀ {xs ys:List AV},RnL σ xs ys->ys.length=xs.length
 | [], _, .nil=>rfl
 | _:: _, _, .cons _ t=>by simp [t.length]
theorem zFs.rel (hφ:∀o,φ' (σ o)=φ o) (hM:∀k,M' k->M k){xs ys:List (List AV)} (hs:zFs σ xs ys):
  ∀ {vs:List Value},za2 φ w M xs.flatten vs->za2 φ' w M' ys.flatten vs:=by
 induction hs with
 |same h=>
  intro vs hx;refine zOd hx.length λ k hk hk'=>(hx.get k hk hk').closed hM ?_;grind [List.mem_flatten,List.getElem_mem]
 |nil=>intro vs hx;cases hx;exact .nil
 |cons h _ ih=>
  intro vs hx;rw [List.flatten_cons] at hx ⊢;obtain ⟨us,ts,rfl,h1,h2⟩:=hx.split;exact (h.rel hφ hM h1).append (ih h2)
theorem zFs.back {m:Nat} (hφ:∀o,o<m->φ o=φ' (σ o)) (hM:∀k,M k->M' k){xs ys:List (List AV)} (hs:zFs σ xs ys):
  (∀r ∈ xs,∀c ∈ r,Bel m c)->∀ {vs:List Value},za2 φ' w M' ys.flatten vs->za2 φ w M xs.flatten vs:=by
 induction hs with
 |same h=>
  intro _ vs hx;refine zOd hx.length λ k hk hk'=>(hx.get k hk hk').closed hM ?_;grind [List.mem_flatten,List.getElem_mem]
 |nil=>intro _ vs hx;cases hx;exact .nil
 |cons h _ ih=>
  intro hb vs hx;rw [List.flatten_cons] at hx ⊢;obtain ⟨us,ts,rfl,h1,h2⟩:=hx.split;exact (h.back hφ hM (hb _ ac) h1).append (ih (λ r hr=>hb r cN) h2)
theorem zFs.shape {xs ys:List (List AV)} (hs:zFs σ xs ys):ys.length=xs.length∧(∀sz,(∀r ∈ xs,r.length=sz)->∀r ∈ ys,r.length=sz)∧∀sz,(∀r ∈ ys,r.length=sz)->∀r ∈ xs,r.length=sz:=by
 induction hs with
 |same h=>grind
 |nil=>grind
 |cons h _ ih=>
  refine ⟨af,λ sz hr r hm=> ?_,λ sz hr r hm=> ?_⟩
  ·rcases List.mem_cons.1 hm with rfl|hm
   ·rw [h.length];grind
   simp_all
  ·rcases List.mem_cons.1 hm with rfl|hm
   ·rw [<- h.length];grind
   simp_all
theorem RnH.at {l l':List (Nat×zcr)} (hinj:∀a b,σ a=σ b->a=b) (hs:RnH σ l l'){o:Nat}{y:zcr} (ho:mkH l' o=some y):∃o0 x,o=σ o0∧mkH l o0=some x∧RnO σ x y:=by
 induction hs with
 |nil=>cases ho
 | @cons o1 o1' x1 y1 l l' e1 h _ ih=>
  simp only [mkH,upd] at ho ⊢;grind
end
def ren (rs:List Nat) (n:Nat) (j:Nat):Nat:=if j<rs.length then rs.getD j 0 else n+(j - rs.length)
def ziM:List Nat->zay->zay
 | [],h=>h
 |o::l,h=>upd (ziM l h) o none
theorem zIp (h:zay):∀ (l:List Nat) (o:Nat),ziM l h o=if o ∈ l then none else h o
 | [],o=>by simp [ziM]
 |a::l,o=>by
  simp only [ziM,upd,List.mem_cons];by_cases e:o=a
  ·simp [e]
  ·simp [e,zIp h l o]
variable {rs:List Nat}
theorem zBh {j:Nat} (h:j<rs.length):ren rs n j ∈ rs:=by
 grind [ren]
theorem zNx  (hd:rs.Nodup) (hlt:∀o ∈ rs,o<n):∀a b,ren rs n a=ren rs n b->a=b:=by
 grind [ren,List.getElem_inj,zBh]
def zcj (P:Program) (f:FuncId) (args:List AV) (HA:List (Nat×zcr)) (m:Nat) (R0:AV) (H0:List (Nat×zcr)) (k2:Nat):Prop:=
 zaj P f args (mkH HA) m (λ r h n'=>Wk (λ _=>r) h n' [(0,R0)] H0 k2)
def OwnsE (P:Program) (f:FuncId) (args:List AV) (HA:List (Nat×zcr)) (m:Nat){σ:Type} (Q:σ->Prop) (R0:σ->AV) (H0:σ->List (Nat×zcr)) (k2:σ->Nat):Prop:=
 zaj P f args (mkH HA) m (λ r h n'=>∃s,Q s∧Wk (λ _=>r) h n' [(0,R0 s)] (H0 s) (k2 s))
variable {HA:List (Nat×zcr)} {h:zay} {args args' args0 caps first:List AV} {f:FuncId} {P:Program}
theorem zOx {K:zbH}{σ:Type}{Q:σ->Prop}{R0f Rf:σ->AV}{H0f HHf:σ->List (Nat×zcr)}{k2f:σ->Nat} (rs:List Nat) (h':zay)
  (hp:OwnsE P f args0 HA m Q R0f H0f k2f) (hd:rs.Nodup) (hlt:∀o ∈ rs,o<n) (hm:rs.length=m) (hmk:∀s,Q s->m<=k2f s) (hfz:Frz h h')
  (hA:∀j,j<m->∃x y,mkH HA j=some x∧h' (ren rs n j)=some y∧RnO (ren rs n) x y) (hAb:∀p ∈ HA,p.1<m∧zqr m p.2)
  (hle:zaL h h' n args args') (hb':∀c ∈ args',Bel n c) (hargs0:RnL (ren rs n) args0 args') (hb0:∀c ∈ args0,Bel m c)
  (hR:∀s,Q s->Rn (ren rs n) (R0f s) (Rf s)) (hHH:∀s,Q s->RnH (ren rs n) (H0f s) (HHf s)) (hk:∀s,Q s->K (Rf s) (zdU (HHf s) (ziM rs h')) (n+(k2f s - m))):zaj P f args h n K:=by
 refine ⟨hp.1,λ M0 φ w vs hH hargs=> ?_⟩;obtain ⟨hH',st0⟩:=hH.freeze hfz;have hσ:=zNx hd hlt;have hmt:∀o g sz rs,h' o=some (.rows true g sz rs)->h o=some (.rows true g sz rs):=by
  grind [Frz]
 have hmut0:∀k,Mut φ h' k->Mut φ h k:=by
  grind [Mut]
 have hv:za2 φ w (Or M0 (Mut φ h')) args' vs:=by
  refine zaL.rel (φ':=φ) (n':=n) hH (λ {x v} _ hx=>hx.keep φ.le_refl (λ _ _ _=>rfl) (λ k hk=> .inl (hk.imp id (hmut0 k)))) ?_ (λ o g sz h1 _ h2=>by omega) hle hb' hargs;rintro o mt g sz rs a bs ho hp ho' h0 (hk|⟨o',g',sz',rs',g'',a',bs',ho1,hp1,he⟩)
  ·grind
  ·have hne:o'≠o:=λ e=>by grind
   have ho0:=hmt _ _ _ _ ho1;have hg:g''=g':=by
    obtain ⟨A2,hA2, _⟩:=hH.obj _ _ _ _ _ ho0;grind
   subst hg;exact hH.inj _ _ _ _ _ _ _ _ _ _ _ _ _ _ ho0 ho hne (.inl rfl) hp1 hp he
 let hr:zay:=λ o=>if o ∈ rs then none else h' o
 have hrmut:∀k,Mut φ hr k->Mut φ h' k:=by
  grind [Mut]
 let M1:Nat->Prop:=Or M0 (Mut φ hr)
 let φ0:zaD:=λ j=>if j<m then φ (ren rs n j) else none
 have hφ0:∀j,j<m->φ0 j=φ (ren rs n j):=λ j hj=>if_pos hj;have hgiv:∀j mt g sz rws,mkH HA j=some (.rows mt g sz rws)->j<m∧∃rws',h' (ren rs n j)=some (.rows mt g sz rws')∧zFs (ren rs n) rws rws'∧∀r ∈ rws,∀c ∈ r,Bel m c:=by
  intro j mt g sz rws hj;have hjm:=hAb _ (zlZ hj);obtain ⟨x,y,h1,h2,h3⟩:=hA j hjm.1;rw [hj] at h1;cases h1;cases h3 with
  |rows h3=>grind [zqr]
 have hgmut:∀k,Mut φ0 (mkH HA) k->∃j,j<m∧∃g sz rws g' a bs,h' (ren rs n j)=some (.rows true g sz rws)∧φ (ren rs n j)=some (g',some (a,bs))∧a.block=k:=by
  grind [Mut]
 have hgmut':∀k,Mut φ0 (mkH HA) k->Mut φ h' k:=λ k hk=>by
  grind [Mut]
 have hgen:∀ {o mt g sz rws g' A},h' o=some (.rows mt g sz rws)->φ o=some (g',A)->g'=g:=by
  intro o mt g sz rws g' A ho hp;obtain ⟨A2,hA2, _⟩:=hH'.obj _ _ _ _ _ ho;grind
 have hM1:∀k,Or M1 (Mut φ0 (mkH HA)) k->Or M0 (Mut φ h') k:=by
  grind [Or]
 have hH1:zmK φ0 m w M1 (mkH HA):=by
  refine ⟨λ k hk=>hH'.blk (hk.imp id (hrmut k)),λ o ho=>if_neg aa,λ j mt g sz rws hj=> ?_,λ o o' mt g sz rws mt' g' sz' rws' a a' b b' ho ho' hne hmm hp hp'=> ?_,hH'.glob.keep (λ _ _ _=>rfl) (λ k hk=> .inl (hM1 k hk))⟩
  ·obtain ⟨hjm,rws',h1,h2,h3⟩:=hgiv _ _ _ _ _ hj;obtain ⟨A,hA1,hc⟩:=hH'.obj _ _ _ _ _ h1;refine ⟨A,af,hc.imp (λ h=>⟨h.1, ?_⟩) ?_⟩
   ·obtain ⟨_,rfl⟩:=h;exact List.eq_nil_of_length_eq_zero h2.shape.1.symm
   ·rintro ⟨a,bs,c1,c3,hd⟩;refine ⟨a,bs,c1, ?_,hd.turn rfl h2.shape.1.symm (h2.shape.2.2 sz) (λ c9=>h2.back hφ0 hM1 h3 c9)⟩
    ·rintro (hk|⟨o',g1,sz1,rs1,g1',a',bs',ho1,hp1,he⟩)
     ·grind
     ·simp only [hr] at ho1;split at ho1
      ·cases ho1
      ·rename_i hni;obtain rfl:=hgen ho1 hp1;subst c1;exact hH'.inj _ _ _ _ _ _ _ _ _ _ _ _ _ _ ho1 h1 (λ e=>hni (e▸zBh aa)) (.inl rfl) hp1 hA1 he
  ·obtain ⟨hj,r1,h1, _⟩:=hgiv _ _ _ _ _ ho;obtain ⟨hj',r1',h1', _⟩:=hgiv _ _ _ _ _ ho';rw [hφ0 o hj] at hp;rw [hφ0 o' hj'] at hp';exact hH'.inj _ _ _ _ _ _ _ _ _ _ _ _ _ _ h1 h1' (λ e=>hne (hσ _ _ e)) hmm hp hp'
 have hargs1:za2 φ0 w (Or M1 (Mut φ0 (mkH HA))) args0 vs:=hargs0.back hφ0 hM1 hb0 hv;refine (hp.2 _ φ0 w vs hH1 hargs1).mono ?_;rintro e w' ⟨v,φ1,r,h1,n',rfl,⟨s,hQ,hK⟩,hH2,hx,st⟩;replace hR:=hR s hQ;replace hHH:=hHH s hQ;replace hk:=hk s hQ;replace hmk:=hmk s hQ;clear hp;generalize R0f s=R0 at hK hR;generalize Rf s=R at hR hk;generalize H0f s=H0 at hK hHH;generalize HHf s=HH at hHH hk;generalize k2f s=k2 at hK hk hmk;obtain ⟨φ2,hH3,hx3,hm3,hst⟩:=hK.sound hH2 (tmps:=λ _=>v) (λ _=>hx);have hx3:=hx3 0;simp only [mkE,zbk] at hx3;have hlater:∀j x,j<m->φ (ren rs n j)=some x->∃x',φ2 j=some x'∧x.1<=x'.1∧(x'.1=x.1->x'=x):=by
  intro j x hj hx;obtain ⟨x',h1,h2,h3⟩:=st.le j x af;grind
 let φ3:zaD:=λ o=>if o ∈ rs then φ2 (rs.idxOf o) else if o<n then φ o else φ2 (o - n+m)
 have hidx:∀j,j<m->rs.idxOf (ren rs n j)=j:=by
  grind [ren]
 have e3:∀o,φ3 (ren rs n o)=φ2 o:=by
  grind [ren]
 have e3':∀o,o<n->o ∉ rs->φ3 o=φ o:=λ o ho hni=>af;have hltn:∀o x,φ o=some x->o<n:=λ o x ho=>Nat.lt_of_not_le λ hle=>cF;have hren:∀o,o ∈ rs->∃j,j<m∧o=ren rs n j:=by
  grind [ren]
 have hle3:φ.le φ3:=by
  grind [zaD.le]
 have hheap:∀k,k<w.heap.size->¬Mut φ0 (mkH HA) k->w'.heap[k]? =w.heap[k]? :=λ k hk hn=>st.fr.block k hk hn;have hsrc:∀o y,zdU HH (ziM rs h') o=some y->(∃o0 x,o=ren rs n o0∧mkH H0 o0=some x∧RnO (ren rs n) x y)∨(o<n∧o ∉ rs∧h' o=some y):=by
  intro o x ho;rw [znr] at ho;split at ho
  ·rename_i y hy;cases ho;exact .inl (hHH.at hσ hy)
  ·rw [zIp] at ho;split at ho
   ·cases ho
   ·rename_i hni;cases x with
    |rows mt g sz rws=>
     obtain ⟨A,hA, _⟩:=hH'.obj _ _ _ _ _ ho;grind
 have hmut:∀k,Mut φ3 (zdU HH (ziM rs h')) k->Mut φ2 (mkH H0) k∨Mut φ hr k:=by
  rintro k ⟨o,g,sz,rws,g',a,bs,ho,hp,rfl⟩;rcases hsrc o _ ho with ⟨o0,x,rfl,h1,h2⟩|⟨h1,hni,h2⟩
  ·cases h2 with
   |rows h2=>grind [Mut]
  grind [Mut]
 have hmnew:∀k,Mut φ2 (mkH H0) k->Mut φ0 (mkH HA) k∨w.heap.size<=k:=λ k hk=>st.mutd k (hm3 k hk);have hsub:∀k,Or M0 (Mut φ3 (zdU HH (ziM rs h'))) k->Or M1 (Mut φ2 (mkH H0)) k:=λ k hk=>hk.elim (λ h=> .inl (.inl h)) λ h=>(hmut k h).elim .inr λ h=> .inl (.inr h);have hmutd:∀k,Mut φ3 (zdU HH (ziM rs h')) k->Mut φ h' k∨w.heap.size<=k:=λ k hk=>
  (hmut k hk).elim (λ h=>(hmnew k h).imp (hgmut' k) id) λ h=> .inl (hrmut k h)
 have hsub':∀k,Or M0 (Mut φ3 (zdU HH (ziM rs h'))) k->Or M0 (Mut φ h') k∨w.heap.size<=k:=λ k hk=>hk.elim (λ h=> .inl (.inl h)) λ h=>(hmutd k h).imp .inr id;have hblk:∀o x g' a bs,h' o=some x->φ o=some (g',some (a,bs))->a.block<w.heap.size:=by
  intro o x g' a bs ho hp;cases x with
  |rows mt g sz rws=>
   obtain ⟨A,hA,hc⟩:=hH'.obj _ _ _ _ _ ho;rw [hp] at hA;simp only [Option.some.injEq,Prod.mk.injEq] at hA;obtain ⟨rfl,rfl⟩:=hA;rcases hc with ⟨h, _⟩|⟨a',bs',h, _,h2⟩
   ·cases h
   ·simp only [Option.some.injEq,Prod.mk.injEq] at h;obtain ⟨rfl,rfl⟩:=h;exact h2.blk
 have hkeep:∀o mt g sz rws g' a bs,o ∉ rs->h' o=some (.rows mt g sz rws)->φ o=some (g',some (a,bs))->¬Mut φ0 (mkH HA) a.block:=by
  intro o mt g sz rws g' a bs hni ho hp hk;obtain ⟨j,hj,g1,sz1,rws1,g1',a1,bs1,q1,q2,q3⟩:=hgmut _ hk;obtain rfl:=hgen ho hp;obtain rfl:=hgen q1 q2;exact hH'.inj _ _ _ _ _ _ _ _ _ _ _ _ _ _ q1 ho (λ e=>hni (e▸zBh aa)) (.inl rfl) q2 hp q3
 have hfar:∀o0 mt g sz rws g' a bs o' y g1 a' b',mkH H0 o0=some (.rows mt g sz rws)->φ2 o0=some (g',some (a,bs))->o' ∉ rs->h' o'=some y->φ o'=some (g1,some (a',b'))->
   (mt=true∨∃g sz rs,y= .rows true g sz rs)->a.block≠a'.block:=by
  intro o0 mt g sz rws g' a bs o' y g1 a' b' q1 q2 hni q3 q4 hmm;have hb1:=hblk _ _ _ _ _ q3 q4;rcases hmm with rfl|⟨g2,sz2,rs2,rfl⟩
  ·rcases hmnew a.block ⟨o0,g,sz,rws, _,a,bs,q1,q2,rfl⟩ with hk|hk
   ·intro he;cases y<;>grind
   ·omega
  ·intro he;obtain ⟨A,hA,hc⟩:=hH3.obj _ _ _ _ _ q1;grind [Or,Mut]
 refine ⟨v,φ3,R,zdU HH (ziM rs h'),n+(k2 - m),rfl,hk,⟨λ k hk=>Nat.lt_of_lt_of_le (hH.m0 k hk) st.fr.size,λ o ho=> ?_,λ o mt g sz rws ho=> ?_,λ o o' mt g sz rws mt' g' sz' rws' a a' b b' ho ho' hne hmm hp hp'=> ?_,
   hH'.glob.keep (λ k hn hk=>hheap k hk (λ hg=>hn (.inr (hgmut' k hg)))) hsub'⟩,
  hR.rel e3 hsub hx3,st0.trans ⟨hle3,hsub',⟨st.fr.os,st.fr.tape,st.fr.output,st.fr.drawn,st.fr.size,λ k hk hn=>hheap k hk (λ hg=>hn (hgmut' k hg))⟩,hmutd⟩⟩
 ·have h1:ren rs n (o - n+m)=o:=by unfold ren;grind
  rw [<- h1,e3];exact hH3.fresh _ aa
 ·rcases hsrc o _ ho with ⟨o0,x,rfl,h1,h2⟩|⟨h1,hni,h2⟩
  ·cases h2 with
   |rows hs=>
    obtain ⟨A,hA,hc⟩:=hH3.obj _ _ _ _ _ h1;refine ⟨A,af,hc.imp (λ h=>⟨h.1, ?_⟩) ?_⟩
    ·obtain ⟨_,rfl⟩:=h;exact List.eq_nil_of_length_eq_zero hs.shape.1
    ·rintro ⟨a,bs,c1,c3,hd⟩;exact ⟨a,bs,c1,λ hk=>c3 (.inl hk),hd.turn rfl hs.shape.1 (hs.shape.2.1 sz) (λ c9=>hs.rel e3 hsub c9)⟩
  ·obtain ⟨A,hA,hc⟩:=hH'.obj _ _ _ _ _ h2;refine ⟨A,af,hc.imp id ?_⟩;rintro ⟨a,bs,c1,c3,hd⟩;exact ⟨a,bs,c1,c3,hd.keep (hheap _ hd.blk (hkeep _ _ _ _ _ _ _ _ hni h2 (by rw [hA,c1]))) (λ c9=>c9.keep hle3 (λ k hn hk=>hheap k hk (λ hg=>hn (.inr (hgmut' k hg)))) hsub')⟩
 ·rcases hsrc o _ ho with ⟨o0,x,rfl,q1,q2⟩|⟨q1,qn,q2⟩<;>rcases hsrc o' _ ho' with ⟨o0',x',rfl,q1',q2'⟩|⟨q1',qn',q2'⟩
  ·cases q2;cases q2';rw [e3] at hp hp';exact hH3.inj _ _ _ _ _ _ _ _ _ _ _ _ _ _ q1 q1' (λ e=>hne (by rw [e])) hmm hp hp'
  ·cases q2;rw [e3] at hp;rw [e3' o' q1' qn'] at hp';exact hfar _ _ _ _ _ _ _ _ _ _ _ _ _ q1 hp qn' q2' hp' (hmm.imp id λ h=>by grind)
  ·cases q2';rw [e3' o q1 qn] at hp;rw [e3] at hp';exact Ne.symm (hfar _ _ _ _ _ _ _ _ _ _ _ _ _ q1' hp' qn q2 hp (hmm.symm.imp id λ h=>by grind))
  ·rw [e3' o q1 qn] at hp;rw [e3' o' q1' qn'] at hp';exact hH'.inj _ _ _ _ _ _ _ _ _ _ _ _ _ _ q2 q2' hne hmm hp hp'
theorem zN8 {K:zbH}{R0 R:AV}{H0 HH:List (Nat×zcr)} (rs:List Nat) (h':zay)
  (hp:zcj P f args0 HA m R0 H0 k2) (hd:rs.Nodup) (hlt:∀o ∈ rs,o<n) (hm:rs.length=m) (hmk:m<=k2) (hfz:Frz h h')
  (hA:∀j,j<m->∃x y,mkH HA j=some x∧h' (ren rs n j)=some y∧RnO (ren rs n) x y) (hAb:∀p ∈ HA,p.1<m∧zqr m p.2)
  (hle:zaL h h' n args args') (hb':∀c ∈ args',Bel n c) (hargs0:RnL (ren rs n) args0 args') (hb0:∀c ∈ args0,Bel m c)
  (hR:Rn (ren rs n) R0 R) (hHH:RnH (ren rs n) H0 HH) (hk:K R (zdU HH (ziM rs h')) (n+(k2 - m))):zaj P f args h n K:=
 zOx (σ:=Unit) (Q:=λ _=>True) (R0f:=λ _=>R0) (Rf:=λ _=>R) (H0f:=λ _=>H0) (HHf:=λ _=>HH) (k2f:=λ _=>k2) rs h'
  ⟨hp.1,λ M0 φ w vs h1 h2=>(hp.2 M0 φ w vs h1 h2).mono λ e w' ⟨v,φ',r,h',n',a,b,c⟩=>⟨v,φ',r,h',n',a,⟨(),trivial,b⟩,c⟩⟩
  hd hlt hm (λ _ _=>hmk) hfz hA hAb hle hb' hargs0 hb0 (λ _ _=>hR) (λ _ _=>hHH) λ _ _=>hk
theorem Bel.mono  (hnm:n<=m) (h:Bel n x):Bel m x:=by
 induction h with
 |top=>exact .top
 |v x=>exact .v x
 |agg _ ih=>exact .agg ih
 |tup _ ih=>exact .tup ih
 |lst _ ih=>exact .lst ih
 |fp _ ih=>exact .fp ih
 |ref h=>exact .ref aa
 |sl h=>exact .sl aa
 |mp h=>exact .mp aa
 |fn _ _ ih1 ih2=>exact .fn ih1 ih2
 |gd _ ih=>exact .gd ih
variable {dst:Option Tmp} {acc:List ziQ} {ops rest:List Oper}
theorem zOC {Q:zc2}{i:Nat}{e:Env}{R0 R:AV}{o:Nat}{mt:Bool}{g g' sz:Nat}{rws rws':List (List AV)}
  (hp:zcj P f args0 [(0, .rows mt g sz rws)] 1 R0 [(0, .rows true g' sz rws')] 1) (ho:h o=some (.rows mt g sz rws)) (hcl:∀r ∈ rws,∀c ∈ r,Bel 0 c) (hcl':∀r ∈ rws',∀c ∈ r,Bel 0 c)
  (hargs:∀n₁,RnL (ren [o] n₁) args0 (first++args++caps)) (hb0:∀c ∈ args0,Bel 1 c) (hb:∀n₁,o<n₁->∀c ∈ first++args++caps,Bel n₁ c)
  (hR:∀n₁,Rn (ren [o] n₁) R0 R) (hfl:zBB R∨∃g sz i len,R= .sl o g sz i len)
  (hk:adr P n ops Q m (i+1) rest (put e dst R) (upd h o (some (.rows true g' sz rws'))) (acc++ [([o], [o])])):zbV P n ops Q m i rest dst (.fn (.func f) first caps) args e h acc:=by
 refine ⟨R, [o], [(o,some (.rows true g' sz rws'))], .inr (.inr (.inl ⟨f,first,caps,rfl, ?_, ?_, ?_,λ h₁ n₁ hx hn=> ?_⟩)),hk⟩
 ·grind
 ·grind
 ·grind
 ·have hon:=hn o ac;have r0:ren [o] n₁ 0=o:=rfl;refine zN8 (args':=first++args++caps) (HH:= [(o, .rows true g' sz rws')]) [o] h₁ hp ac af rfl (Nat.le_refl _) (.refl _) ?_ ?_ (.refl _ _ _ _) (hb n₁ hon) (hargs n₁) hb0 (hR n₁)
   (.cons r0.symm (.rows (.same hcl')) .nil) ⟨rfl, ?_,rfl⟩
  ·intro j hj;obtain rfl:j=0:=aa;exact ⟨.rows mt g sz rws, .rows mt g sz rws,by simp [mkH,zbk],af, .rows (.same hcl)⟩
  ·intro p hp;simp only [List.mem_singleton] at hp;subst hp;refine ⟨ac,λ r hr c hc=> ?_⟩;exact Bel.mono (Nat.zero_le _) (hcl r hr c hc)
  ·funext a;simp_all [zdU,ziM,zap,upd]
theorem zOp {Q:zc2}{i:Nat}{e:Env}{R:Nat->AV}{HH:Nat->List (Nat×zcr)}
  (b:Nat) (hbb:b=n+ops.length+16 * i) (hp:ztr P f args' R HH k2) (hk16:k2<=16) (hnR:zli (R 0)) (hnH:∀p ∈ HH 0,zzt p.2) (hle:∀h₁:zay,zaL h₁ noH 0 (first++args++caps) args') (hb:∀c ∈ args',Bel 0 c)
  (hnd:((HH b).map (·.1)).Nodup) (hk:adr P n ops Q m (i+1) rest (put e dst (R b)) (zdU (HH b) h) (acc++ [([zhs],(HH b).map (·.1))])):zbV P n ops Q m i rest dst (.fn (.func f) first caps) args e h acc:=by
 subst hbb;refine ⟨R _, [zhs],(HH (n+ops.length+16 * i)).map (λ p=>(p.1,some p.2)), .inr (.inr (.inr ⟨f,first,caps,args',R 0,HH 0,HH (n+ops.length+16 * i),k2,rfl,ac,hk16,hb,hp.1,hnR,hnH,(hp.2 _).1,(hp.2 _).2,hnd,rfl,λ h₁ _=>hle h₁⟩)), ?_⟩;rw [znc hnd,List.map_map];exact hk
end Go.Av
end
section
/- Our library: ranges zdU functions, and iterators: equations and steps. -/
namespace Go.Av
open Go
variable {h':zay} {dst:Option Tmp} {e0:Env} {K:Env->zay->Nat->Prop} {args xs ys:List AV} {rs:List (List AV)} {l more o sz:Nat} {a b:Code} {ps:List Tmp}
section
variable {P:Program} {n0:Nat} {Q:zc2} {e:Env} {h:zay} {n:Nat} {ops rest:List Oper}
def znP (P:Program) (n0:Nat) (ps:List Tmp) (a b:Code) (Q:zc2) (v:AV) (e:Env) (h:zay) (n:Nat):Prop:=
 (∃f caps caps' more rows h',v= .fn (.func f) [] caps∧Frz h h'∧zaL h h' n caps caps'∧(∀c ∈ caps',Bel 0 c)∧zJs P f caps' more rows∧
  (∀xs ∈ rows,xs.length=ps.length)∧Fgt n0 (zdV n0 more ps (λ n1=>awp P n1 a) (λ n1=>awp P n1 b) Q rows) e h' n)∨
 (∃f caps caps' o gn sz rs rs' more rows h',v= .fn (.func f) [] caps∧Frz h h'∧h' o=some (.rows true gn sz rs)∧zaM h h' n rs rs'∧(∀r ∈ rs',∀c ∈ r,Bel 0 c)∧
  zm6 h h' n o caps caps'∧zFM P f caps' [(0, .rows true gn sz rs')] 1 more rows∧
  (∀xs ∈ rows,xs.length=ps.length)∧Fgt n0 (zdV n0 more ps (λ n1=>awp P n1 a) (λ n1=>awp P n1 b) Q rows) e (upd h' o none) n)
theorem zvJ (g:Operand) (ps:List Tmp) (a b:Code):awp P n0 (.rangeFunc g ps.toArray a b) Q e h n=znP P n0 ps a b Q (ev e g) e h n:=rfl
@[congr] theorem zLt {v v':AV} (hv:v=v'):znP P n0 ps a b Q v e h n=znP P n0 ps a b Q v' e h n:=by subst hv;rfl
theorem znP.mk {ps:List Tmp}{a b:Code}{f:FuncId}{caps:List AV} (caps':List AV) (h':zay){more:Nat}{rows:List (List AV)} (C:zJs P f caps' more rows) (hfz:Frz h h') (hle:zaL h h' n caps caps') (hb:∀c ∈ caps',Bel 0 c)
  (hlen:∀xs ∈ rows,xs.length=ps.length) (hk:Fgt n0 (zdV n0 more ps (λ n1=>awp P n1 a) (λ n1=>awp P n1 b) Q rows) e h' n):znP P n0 ps a b Q (.fn (.func f) [] caps) e h n:=
 .inl ⟨f,caps,caps',more,rows,h',rfl,hfz,hle,hb,C,hlen,hk⟩
theorem znP.give {f:FuncId}{caps:List AV} (caps':List AV) (h':zay) (o:Nat){gn:Nat} (rs':List (List AV)){rows:List (List AV)}
  (C:zFM P f caps' [(0, .rows true gn sz rs')] 1 more rows) (hfz:Frz h h') (ho:h' o=some (.rows true gn sz rs)) (hr:zaM h h' n rs rs') (hbr:∀r ∈ rs',∀c ∈ r,Bel 0 c) (hg:zm6 h h' n o caps caps')
  (hlen:∀xs ∈ rows,xs.length=ps.length) (hk:Fgt n0 (zdV n0 more ps (λ n1=>awp P n1 a) (λ n1=>awp P n1 b) Q rows) e (upd h' o none) n):znP P n0 ps a b Q (.fn (.func f) [] caps) e h n:=
 .inr ⟨f,caps,caps',o,gn,sz,rs,rs',more,rows,h',rfl,hfz,ho,hr,hbr,hg,C,hlen,hk⟩
theorem zdV.go  (hn:n0<=n)
  (hk:awp P n a (zC3 (awp P n b (zrb (Fgt n0 (zdV n0 more ps (λ n1=>awp P n1 a) (λ n1=>awp P n1 b) Q rs)) Q e))) (zl6 ps xs e) h n):
  zdV n0 more ps (λ n1=>awp P n1 a) (λ n1=>awp P n1 b) Q (xs::rs) e h n:=⟨hn,hk⟩
theorem zdV.stop {A B:Nat->zc2->Env->zay->Nat->Prop} (hm:more=0) (hk:Q .normal e h n):zdV n0 more ps A B Q [] e h n:=⟨hm,hk⟩
theorem Fgt.to {E:List (Nat×AV)}{HH:List (Nat×zcr)}{n':Nat} (hk:K (mkE E) (mkH HH) n') (hw:Wk e h n E HH n') (hn:n0<=n'):Fgt n0 K e h n:= .inr ⟨E,HH,n',hw,hn,hk⟩
theorem zOo {α:Type} (S:α->List (Nat×AV)×List (Nat×zcr)×Nat) (inv:List (List AV)->α->Prop){ps:List Tmp}{A B:Nat->zc2->Env->zay->Nat->Prop}{more:Nat}
  (h0:∀d,inv [] d->more=0∧Q .normal (mkE (S d).1) (mkH (S d).2.1) (S d).2.2)
  (h1:∀xs rs d,inv (xs::rs) d->(∀d',inv rs d'->zdV n0 more ps A B Q rs (mkE (S d').1) (mkH (S d').2.1) (S d').2.2)->zdV n0 more ps A B Q (xs::rs) (mkE (S d).1) (mkH (S d).2.1) (S d).2.2):
  ∀rows d,inv rows d->zdV n0 more ps A B Q rows (mkE (S d).1) (mkH (S d).2.1) (S d).2.2
 | [],d,hi=>h0 d hi
 |xs::rs,d,hi=>h1 xs rs d hi λ d' hi'=>zOo S inv h0 h1 rs d' hi'
theorem zxb :zC3 K .normal e h n=K e h n:=rfl
theorem zvA :zrb K Q e0 .normal e h n=K (upd e0 GH (e GH)) h n:=rfl
theorem zC5 :zrb K Q e0 .ret e h n=Q .ret (upd e0 GH (e GH)) h n:=rfl
theorem zzx {id:Nat}:zrb K Q e0 (.exit id) e h n=Q (.exit id) (upd e0 GH (e GH)) h n:=rfl
theorem zIk :zl6 [] xs e=e:=by simp [zl6]
theorem zET {t:Tmp}{x:AV}:zl6 (t::ps) (x::xs) e=zl6 ps xs (upd e t x):=rfl
theorem zzM {rs:List ResultVar}:RetI P rs l more .normal e h n=((zu7 P e h rs).1∧((more=0∧e GH=zcN l 0 [])∨e GH=zcN l 2 [])):=rfl
theorem zJw {rs:List ResultVar}:RetI P rs l more .ret e h n=((zu7 P e h rs).1∧((more=0∧e GH=zcN l 0 [])∨e GH=zcN l 2 [])):=rfl
theorem zMr.mk {dst:Option Tmp}{l more:Nat}{args xs:List AV}{rs:List (List AV)} (h':zay) (hg:e GH=zcN l more (xs::rs)) (hfz:Frz h h') (hle:zaL h h' n args xs) (hb:∀c ∈ xs,Bel 0 c)
  (hT:zgK P ops Q rest (put (upd e GH (zcN l more rs)) dst (.v (.bool true))) h' n) (hF:zgK P ops Q rest (put (upd e GH (zcN l 2 [])) dst (.v (.bool false))) h' n):zMr P ops Q rest dst l args e h n:=
 ⟨l,more,xs::rs,rfl,hg,h',hfz,hle,hb,hT,hF⟩
theorem zMr.exh  (hg:e GH=zcN l 1 []):zMr P ops Q rest dst l args e h n:=⟨l,1, [],rfl,hg,rfl⟩
theorem aGC.yld  (h':zay) (hg:e GH=zcN l more (xs::rs)) (hfz:Frz h h') (hle:zaL h h' n args xs) (hb:∀c ∈ xs,Bel 0 c)
  (hT:zgK P ops Q rest (put (upd e GH (zcN l more rs)) dst (.gd true (.v (.bool true)))) h' n) (hF:zgK P ops Q rest (put (upd e GH (zcN l 2 [])) dst (.gd true (.v (.bool false)))) h' n):
  aGC P ops Q rest dst true (.fn (.yield l) [] []) args e h n:= .inr (.inr ⟨rfl,l,more,xs::rs,rfl,hg,h',hfz,hle,hb,hT,hF⟩)
theorem aGC.exh  (hg:e GH=zcN l 1 []):aGC P ops Q rest dst true (.fn (.yield l) [] []) args e h n:= .inr (.inr ⟨rfl,l,1, [],rfl,hg,rfl⟩)
theorem zFH {h:zay}:zm6 h h' n o [] []=True:=eq_true .nil
theorem zFI {h:zay}{g i off:Nat}:zm6 h h' n o (.ref o g sz i off::xs) (.ref 0 g sz i off::ys)=zm6 h h' n o xs ys:=by
 refine propext ⟨λ hg=> ?_, .ref⟩;cases hg<;>grind
theorem zJm {h:zay}{x:AV}{cells:List AV}:zm6 h h' n o (x::xs) (.fp cells::ys)=(LeV h h' n x (.fp cells)∧(∀c ∈ cells,Bel 0 c)∧zm6 h h' n o xs ys):=by
 refine propext ⟨λ hg=> ?_,λ ⟨h1,h2,h3⟩=> .le h1 (.fp h2) h3⟩;cases hg with
 |le hx hb t=>cases hb<;>grind
attribute [go_sem] zFH zFI zJm
attribute [go_sem] zvJ zxb zvA zC5 zzx zIk zET zzM zJw zzW
end
end Go.Av
end
section
namespace Go.Av
open Go
theorem zaj.clear {P:Program}{f:FuncId}{args:List AV}{h:zay}{n:Nat}{K:zbH}
  (hc:zaj P f args h n (λ r h' n'=>∃o mt g sz rs,sz≠2∧h' o=some (.rows mt g sz rs)∧K r (upd h' o (some (.rows mt g sz []))) n')):zaj P f args h n K:=by
 refine ⟨hc.1,λ M0 φ w vs hH hargs=>(hc.2 M0 φ w vs hH hargs).mono ?_⟩;rintro e w' ⟨v,φ',r,h',n',rfl,⟨o,mt,g,sz,rs,hsz,ho,hK⟩,hH',hx,st⟩;have hmut:Mut φ' (upd h' o (some (.rows mt g sz [])))=Mut φ' h':=by
  grind [Mut,upd]
 have hold:∀o1 mt1 g1 sz1 rs1,upd h' o (some (.rows mt g sz [])) o1=some (.rows mt1 g1 sz1 rs1)->∃rs2,h' o1=some (.rows mt1 g1 sz1 rs2)∧(rs1=rs2∨rs1= []):=by
  grind [upd]
 refine ⟨v,φ',r, _,n',rfl,hK,⟨hH'.m0,hH'.fresh,λ o1 mt1 g1 sz1 rs1 h1=> ?_,λ o1 o2 mt1 g1 sz1 rs1 mt2 g2 sz2 rs2 a a' b b' h1 h2=> ?_,by rw [hmut];exact hH'.glob⟩,af,st.le,by rw [hmut];exact st.or,st.fr,by rw [hmut];exact st.mutd⟩
 ·obtain ⟨rs2,h2,h3⟩:=hold _ _ _ _ _ h1;obtain ⟨A,hA,hobj⟩:=hH'.obj _ _ _ _ _ h2;rcases h3 with rfl|rfl
  ·grind
  ·by_cases he:o1=o
   ·subst he;rw [ho] at h2;simp only [Option.some.injEq,zcr.rows.injEq] at h2;obtain ⟨rfl,rfl,rfl,rfl⟩:=h2;refine ⟨A,hA,hobj.imp (λ h=>⟨h.1,rfl⟩) ?_⟩;rintro ⟨a,bs,e1,e3,⟨C,T,e2,e4,e5,e6,e7,e8,e9⟩|⟨es,clk,e2,e4,e5,e6,e9⟩⟩
    ·exact ⟨a,bs,e1,e3, .inl ⟨C,T,e2,e4,e5,ac,af,ac,by simpa using za2.nil⟩⟩
    omega
   grind [upd]
 ·obtain ⟨rs3,h3, _⟩:=hold _ _ _ _ _ h1;obtain ⟨rs4,h4, _⟩:=hold _ _ _ _ _ h2;exact hH'.inj _ _ _ _ _ _ _ _ _ _ _ _ _ _ h3 h4
end Go.Av
end
