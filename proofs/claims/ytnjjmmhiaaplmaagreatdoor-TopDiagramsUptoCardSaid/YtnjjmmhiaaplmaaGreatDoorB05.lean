/- Texts of ours, part 5: our library and contracts of functions. -/
import Derived.Test.YtnjjmmhiaaplmaaGreatDoorB04
import Derived.Scope
import Derived.RangeFuncLeaves
import Derived.RangeFuncRecord
import Derived.Test.YtnjjmmhiaaplmaaGreatDoorProg
set_option linter.unusedSimpArgs false
set_option linter.unusedVariables false
set_option maxRecDepth 100000
set_option maxHeartbeats 40000000
section
namespace Go.Av
open Go

theorem zdv {P:Program}{b:Frame}{a:Act}{k:List Item}{cs:List Frame}{w:World}{c:Code}:step P (lone (b.atR a (.code (.scope c)::k)) cs w)= .next (lone (b.atR a (.code c:: .inScope c::k)) cs w):=
 step_lone_go (by simp [stepG,stepG.exec,Frame.atR])
theorem zpn {P:Program}{b:Frame}{a:Act}{k:List Item}{cs:List Frame}{w:World}{c:Code}:step P (lone (b.atR a (.inScope c::k)) cs w)= .next (lone (b.atR a k) cs w):=
 step_lone_go (by simp [stepG,stepG.exec,Frame.atR])
theorem zwQ {F:Fence}{n:Nat}{P:Program}{c:Code}{Q:Exit→Act→World→Prop}{a:Act}{w:World} (h:c.wpIn F n P (Exit.noGoto Q) a w):(Code.scope c).wpIn F n P Q a w:=by
 intro b k cs hro hb hr
 have h0:(lone (b.atR a (.code (.scope c)::k)) cs w).fenced P F:=fenced_calm hb hr rfl
 obtain ⟨e,a₁,w₁,hq,harr⟩:=h b (.inScope c::k) cs hro hb hr
 cases e with
 |normal=>exact ⟨.normal,a₁,w₁,hq, .head h0 zdv (StepsIn.trans harr (.one (fenced_calm hb hr rfl) zpn))⟩
 |exit id=>
  have hx:exitTo id (.inScope c::k)=exitTo id k:=by simp [exitTo]
  exact ⟨.exit id,a₁,w₁,hq,fun k' hk=> .head h0 zdv (harr.1 k' (by rw [hx];exact hk)),
   fun hr' hk=>let ⟨k₁,h1,h2⟩:=harr.2 hr' (by rw [hx];exact hk);⟨k₁,h1, .head h0 zdv h2⟩⟩
 |goto l=>exact hq.elim
 |ret=>exact ⟨_,a₁,w₁,hq, .of_steps (.one h0 zdv) harr⟩
 |panic ch=>exact ⟨_,a₁,w₁,hq, .of_steps (.one h0 zdv) harr⟩
 |outgrown=>exact ⟨_,a₁,w₁,hq, .of_steps (.one h0 zdv) harr⟩
theorem zkS {P:Program} (hmix:P.follows .mixedOrders=true){N:Nat}:∀ {c:Code}{B:zfg P}{m:Nat}{Q:zbV},zpx N c=true→∀ {M:Nat→Prop}{φ:zaz}{e:Env}{h:zaq}{n:Nat}{a:Act}{w:World},
  SR B N M φ e h n a w→awp P B.n0 c Q e h n→c.wpIn (WF B.round) m P (SQ B N Q) a w:=by
 intro c
 induction c with
 |skip=>intro B m Q _ M φ e h n a w hs hh;exact wpIn_skip ⟨M,φ,e,h,n,hs,hh⟩
 |label l=>intro B m Q _ M φ e h n a w hs hh;exact wpIn_label ⟨M,φ,e,h,n,hs,hh⟩
 |region id ops draw=>
  intro B m Q hd M φ e h n a w hs hh
  cases draw with
  |false=>
   refine wpIn_region ?_
   rw [List.range_eq_range']
   refine znd (fun o ho=> ?_) ops.size 0 aa hs hh
   simp only [zpx,List.all_eq_true] at hd
   have:=hd o ho
   split at this<;>simp_all
  |true=>
   obtain ⟨h',hfz,hh⟩:=hh
   obtain ⟨hH',st0⟩:=hs.heap.freeze hfz
   refine zsl hmix (fun o ho=> ?_) (hs.put (dst:=none) trivial (.top undef) hH' st0) hh
   simp only [zpx,List.all_eq_true] at hd
   have:=hd o ho
   split at this<;>simp_all
 |seq x y ihx ihy=>
  intro B m Q hd M φ e h n a w hs hh
  simp only [zpx,Bool.and_eq_true] at hd
  refine wpIn_seq (wpIn_mono (ihx hd.1 hs hh) ?_)
  rintro ex a' w' ⟨M',φ',e',h',n',hs',hq⟩
  cases ex with
  |normal=>exact ihy hd.2 hs' hq
  | _=>exact ⟨M',φ',e',h',n',hs',hq⟩
 |cond o x y ihx ihy=>
  intro B m Q hd M φ e h n a w hs hh
  simp only [zpx,Bool.and_eq_true] at hd
  unfold awp at hh
  split at hh
  ·rename_i t ht
   have hr:=zuH hs.heap.glob hs.env o
   rw [ht] at hr
   generalize hq:a.eval o=q at hr
   cases hr
   cases t with
   |true=>exact wpIn_cond hq (ihx hd.1 hs (hh.1 rfl))
   |false=>exact wpIn_cond hq (ihy hd.2 hs (hh.2 rfl))
  ·exact hh.elim
 |block id x ih=>
  intro B m Q hd M φ e h n a w hs hh
  refine wpIn_block (wpIn_mono (ih hd hs hh) ?_)
  rintro ex a' w' ⟨M',φ',e',h',n',hs',hq⟩
  cases ex with
  |exit id'=>
   simp only [zfW] at hq
   simp only [Exit.inBlock]
   split at hq
   ·rename_i e0;rw [if_pos e0];exact ⟨M',φ',e',h',n',hs',hq⟩
   ·rename_i e0;rw [if_neg e0];exact ⟨M',φ',e',h',n',hs',hq⟩
  | _=>exact ⟨M',φ',e',h',n',hs',hq⟩
 |scope x ih=>
  intro B m Q hd M φ e h n a w hs hh
  refine zwQ (wpIn_mono (ih hd hs hh) ?_)
  rintro ex a' w' ⟨M',φ',e',h',n',hs',hq⟩
  cases ex with
  |goto l=>exact hq.elim
  | _=>exact ⟨M',φ',e',h',n',hs',hq⟩
 |loop x ih=>
  intro B m Q hd M φ e h n a w hs hh b k cs hro hb hr
  have key:=hh (fun e h n=>∀M φ a w,SR B N M φ e h n a w→
   ∃ex a' w',SQ B N Q ex a' w'∧ArrivesIn (Machine.fenced P (WF B.round)) P (lone (b.atR a (.code x:: .inLoop x::k)) cs w) b k cs ex a' w') ?_ ?_ M φ a w hs
  ·obtain ⟨ex,a',w',hq,harr⟩:=key
   exact ⟨ex,a',w',hq, .of_steps (.one (fenced_calm hb hr rfl) stepR_loop) harr⟩
  ·intro e h n hB M φ a w hs
   obtain ⟨ex,a₁,w₁,⟨M',φ',e',h',n',hs',hq⟩,harr⟩:=ih hd hs hB b (.inLoop x::k) cs hro hb hr
   cases ex with
   |normal=>
    obtain ⟨ex,a₂,w₂,hq₂,harr₂⟩:=hq M' φ' a₁ w₁ hs'
    exact ⟨ex,a₂,w₂,hq₂, .of_steps (StepsIn.trans harr (.one (fenced_calm (fr:=b.atR a₁ (.inLoop x::k)) hb hr rfl) stepR_inLoop)) harr₂⟩
   |exit id=>exact ⟨_,a₁,w₁,⟨M',φ',e',h',n',hs',hq⟩, .pass (x:= .inLoop x) rfl (fun _ _=> .inl ad) harr⟩
   |goto l=>exact ⟨_,a₁,w₁,⟨M',φ',e',h',n',hs',hq⟩, .pass (x:= .inLoop x) rfl (fun _ _=> .inl ad) harr⟩
   |ret=>exact ⟨_,a₁,w₁,⟨M',φ',e',h',n',hs',hq⟩, .pass (x:= .inLoop x) rfl (fun _ _=> .inl ad) harr⟩
   |panic ch=>exact ⟨_,a₁,w₁,⟨M',φ',e',h',n',hs',hq⟩, .pass (x:= .inLoop x) rfl (fun _ _=> .inl ad) harr⟩
   |outgrown=>exact ⟨_,a₁,w₁,⟨M',φ',e',h',n',hs',hq⟩, .pass (x:= .inLoop x) rfl (fun _ _=> .inl ad) harr⟩
  ·intro e h n E HH n' hk hn hX M φ a w hs
   obtain ⟨φ',h1,h2,h3,h4⟩:=hk.sound hs.heap hs.env
   refine hX M φ' a w ⟨h2,hs.size,hs.defs,h1,B.forget hs.ok ?_ h3 h4 hn,hs.small⟩
   rcases zs7 (E:=E) GH with h5|h5
   ·exact .inr h5
   ·have h6:=(hk.env _ h5).1
    simp only at h6
    generalize mkE E GH=y at h6
    rcases B.isG hs.ok with h7|⟨x,h7⟩
    ·rw [h7] at h6 ⊢
     cases h6<;>simp
    ·rw [h7] at h6 ⊢
     cases h6<;>simp
 |rangeFunc g ps x y ihx ihy=>
  intro B m Q hd M φ e h n a w hs hh
  simp only [zpx,Bool.and_eq_true,List.all_eq_true,decide_eq_true_eq] at hd
  exact zmb (fun hs hh=>ihx hd.2.1 hs hh) (fun hs hh=>ihy hd.2.2 hs hh) hd.1 hs hh
 |exit id=>intro B m Q _ M φ e h n a w hs hh;exact wpIn_exit ⟨M,φ,e,h,n,hs,hh⟩
 |ret=>intro B m Q _ M φ e h n a w hs hh;exact wpIn_ret ⟨M,φ,e,h,n,hs,hh⟩
 | _=>intro B m Q _ M φ e h n a w hs hh;exact hh.elim
end Go.Av
end
section
/- Our library, part 12: functions' contracts; calls of functions that only compute. -/
namespace Go.Av
open Go

theorem zle {P:Program}{f:FuncId}{fn:Func}{c:Code} (hf:P.funcs[f]? =some fn) (hb:fn.body=some c) (hname:(fn.name== "runtime.NumGoroutine")=false):zep P f:=by
 intro args w
 have:¬fn.name= "runtime.NumGoroutine" :=by simpa using hname
 simp [callFunc,hf,hb,this]

section
variable {P:Program}
theorem zv7 {t:TypeId}{v u:Value}{w w':World} (h:(Instr.loadAt t v).run P w= .ok u w'):(do loadVar t (← asAddr v):Sem Value).run P w= .ok u w':=by
 unfold Instr.loadAt at h
 cases v with
 |pointer a=>
  cases a with
  |some a=>simpa [Instr.sureAddr,asAddr] using h
  |none=>simp [Instr.sureAddr] at h
 | _=>simp [Instr.sureAddr] at h
def resF (tmps:Array Value):ResultVar→Sem Value
 | .tmp t=>pure (tmps.getD t undef)
 | .cell a t=>do loadVar t (← asAddr (tmps.getD a undef))
theorem zji (fn:Func) (tmps:Array Value):results fn tmps=(do let vs ← fn.results.mapM (resF tmps);pure (if h:vs.size=1 then vs[0] else .tuple vs)):=by
 unfold results
 congr 1
theorem ze6 {φ:zaz}{n:Nat}{w:World}{M0:Nat→Prop}{h:zaq} (hH:zhD φ n w M0 h){e:Env}{tmps:Array Value} (he:∀t,Rel φ w (Or M0 (Mut φ h)) (e t) (tmps.getD t undef)):
  ∀ (rs:List ResultVar),(zpy P e h rs).1→∃vs,(rs.mapM (resF tmps)).run P w= .ok vs w∧zaJ φ w (Or M0 (Mut φ h)) (zpy P e h rs).2 vs
 | [], _=>⟨[],ad, .nil⟩
 | .tmp t::rs,hc=>by
  obtain ⟨vs,h1,h2⟩:=ze6 hH he rs hc
  refine ⟨tmps.getD t undef::vs, ?_, .cons (he t) h2⟩
  simp only [List.mapM_cons,resF,Sem.run_bind,Sem.run_pure,Result.andThen_ok,h1]
 | .cell a t::rs,hc=>by
  obtain ⟨hc1,hc2⟩:=hc
  obtain ⟨vs,h1,h2⟩:=ze6 hH he rs hc2
  obtain ⟨u,h3,h4, _, _⟩:=znR (P:=P) (t:=t) hH (he a) hc1
  refine ⟨u::vs, ?_, .cons h4 h2⟩
  have h5:=zv7 h3
  simp only [Sem.run_bind] at h5
  simp only [List.mapM_cons,resF,Sem.run_bind,h5,Result.andThen_ok,h1,Sem.run_pure]
theorem zwu {φ:zaz}{w:World}{M:Nat→Prop}{xs:List AV}{vs:List Value} (h:zaJ φ w M xs vs):
  Rel φ w M (zCI xs) (if h:(⟨vs⟩:Array Value).size=1 then (⟨vs⟩:Array Value)[0] else .tuple ⟨vs⟩):=by
 cases h with
 |nil=>exact .tup .nil
 |cons h t=>
  cases t with
  |nil=>simpa [zCI] using h
  |cons h' t'=>simpa [zCI] using Rel.tup (.cons h (.cons h' t'))

theorem zkk {φ:zaz}{w:World}{M:Nat→Prop}:∀ {xs:List AV}{vs:List Value} (_:zaJ φ w M xs vs) (i t:Nat),zso i xs t= .top∨∃k,t=i+k∧∃ (hk:k<xs.length) (hk':k<vs.length),zso i xs t=xs[k]∧Rel φ w M xs[k] vs[k]
 | [], _, _,i,t=> .inl rfl
 |x::xs, _, .cons h ht,i,t=>by
  simp only [zso,upd]
  by_cases e:t=i
  ·subst e;rw [if_pos rfl];exact .inr ⟨0,rfl,ad,ad,rfl,h⟩
  ·rw [if_neg e]
   rcases zkk ht (i+1) t with h1|⟨k,rfl,hk,hk',h1,h2⟩
   ·exact .inl h1
   ·exact .inr ⟨k+1,aa,aC,dj,bi,aZ⟩

theorem ztS:∀ {xs:List AV}{i t:Nat},i+xs.length≤t→zso i xs t= .top
 | [], _, _, _=>rfl
 |x::xs,i,t,h=>by
  simp only [List.length_cons] at h
  simp only [zso,upd]
  rw [if_neg aa]
  exact ztS aa
theorem zet {P:Program}{F:Fence}{n:Nat}{fn:Func}{tmps:Array Value}{R:Ending→World→Prop}{lo:Nat}{M:Nat→Prop}:∀ {ds:List Deferred}{w:World},zfU lo M ds w→
  (∀w',NC lo w w'→∃v,(results fn tmps).run P w'= .ok v w'∧R (.returned v) w')→LeavesInM F n P fn tmps R ds .returning w
 | [],w, _,h=>h w (.refl lo w)
 |d::ds,w,hm,h=>by
  obtain ⟨hp,hd⟩:=hm
  rw [List.pairwise_cons] at hp
  obtain ⟨D,e1,e0,e2,e3⟩:=hd d ad
  have hnc:NC lo w (w.putObj D (.deferred none)):= .putObj _ e0 e3 ad ad
  refine ⟨ad, .inl ⟨D, _,by rw [e1],run_takeDeferred e3,zet (M:=M) ⟨hp.2,fun d' hd'=> ?_⟩ fun w' hn=>h w' (hnc.trans hn)⟩⟩
  obtain ⟨D',k1,k0,k2,k3⟩:=hd d' (by simp [hd'])
  refine ⟨D',k1,k0,k2,(World.putObj_heap_other ?_).trans k3⟩
  rintro rfl
  exact hp.1 d' hd' (e1.trans k1.symm)
def fnBase (P:Program) (φ:zaz) (w:World) (M0:Nat→Prop) (h:zaq) (n0:Nat) (fresh:∀o,n0≤o→φ o=none):zfg P where
 n0:=n0
 lo:=w.heap.size
 round:=none
 ok0 g M O φ' w' h':=g= .top∧M=M0∧(∀k,O k→Mut φ h k∨w.heap.size≤k)∧zc8 φ w M0 h φ' w' h'
 isG0 hk:= .inl hk.1
 step0 hk st:=by
  obtain ⟨h1,rfl,h2,h3⟩:=hk
  exact ⟨h1,rfl,h2,h3.trans st⟩
 forget0:=by
  rintro g g' M O φ1 w1 h1 φ2 h2 n' ⟨e1,rfl,hO,st⟩ hg h3 h4 hn
  refine ⟨by rcases hg with h|h<;>simp [h,e1],rfl,hO, ?_,fun k hk=> ?_,st.fr,fun k hk=>st.mutd k (h3 k hk)⟩
  ·intro o x hx
   obtain ⟨x',hx',l1,l2⟩:=st.le o x hx
   have:o<n0:=Nat.lt_of_not_le fun hle=>by rw [fresh o hle] at hx;cases hx
   exact ⟨x',h4 o x' aa hx',l1,l2⟩
  ·rcases hk with hk|hk
   ·exact st.or k (.inl hk)
   ·exact st.or k (.inr (h3 k hk))
 yld0 hk:=by cases hk.1
 exh0 hk:=by cases hk.1
 oth0:=by
  rintro g M O O' φ' w1 w2 h1 ⟨e1,rfl,hO,st⟩ hfr hO'
  have hs:=st.fr.size
  exact ⟨e1,rfl,fun k hk=>(hO' k hk).elim (hO k) (fun h=> .inr aa),st.le,st.or,
   ⟨hfr.os.trans st.fr.os,hfr.tape.trans st.fr.tape,hfr.output.trans st.fr.output,Nat.le_trans st.fr.drawn hfr.drawn,Nat.le_trans hs hfr.size,fun k hk hu=>(hfr.block k aa (fun h=>(hO k h).elim hu (fun h=>by omega))).trans (st.fr.block k hk hu)⟩,st.mutd⟩
 give0:=by
  rintro g M O O' φ' w1 h1 h2 ⟨e1,rfl,hO,st⟩ hO' hm
  refine ⟨e1,rfl,fun k hk=>(hO' k hk).elim (hO k) (st.mutd k),st.le,fun k hk=>hk.elim (fun h=> .inl (.inl h)) (fun h=>st.or k (.inr (hm k h))),st.fr,fun k hk=>st.mutd k (hm k hk)⟩
 nc0:=by
  rintro g M O φ' w1 w2 h1 ⟨e1,rfl,hO,st⟩ hn
  exact ⟨e1,rfl,hO,st.nc hn⟩
 lo0 hk:=hk.2.2.2.fr.size
 rec0 _ h:=cc
theorem zEQ (hmix:P.follows .mixedOrders=true){f:FuncId}{fn:Func}{c:Code}{args:List AV}{h:zaq}{n:Nat}{K:zcn} (hf:P.funcs[f]? =some fn) (hb:fn.body=some c) (hname:(fn.name== "runtime.NumGoroutine")=false)
  (hN:args.length≤fn.ntmps) (hd:zpx fn.ntmps c=true) (hh:awp P n c (RetQ P fn.results.toList K) (zso 0 args) h n) (hG:fn.ntmps≤GH:=by exact Nat.le_of_ble_eq_true rfl):zah P f args h n K:=by
 refine ⟨zle hf hb hname,fun M0 φ w vs hH hargs=> ?_⟩
 have hlen:=hargs.length
 let B:zfg P:=fnBase P φ w M0 h n hH.fresh
 have hsr:SR B fn.ntmps M0 φ (zso 0 args) h n { tmps:=⟨vs⟩++Array.replicate (fn.ntmps - (⟨vs⟩:Array Value).size) undef,defers:= []} w:=by
  refine ⟨fun t=> ?_,ak,zfU.nil,hH,⟨M0,fun _=>False,(zek M0).symm,ztS aa,rfl,fun _ h=>h.elim, .refl _ _ _ _⟩,hG⟩
  rcases zkk hargs 0 t with h1|⟨k,rfl,hk,hk',h1,h2⟩
  ·rw [h1];exact .top _
  ·rw [h1]
   have:((⟨vs⟩:Array Value)++Array.replicate (fn.ntmps - (⟨vs⟩:Array Value).size) undef).getD (0+k) undef=vs[k]:=by
    simp [Array.getD_eq_getD_getElem?,Array.getElem?_append,hk']
   rw [this];exact h2
 have hw:=zkS (P:=P) hmix (B:=B) (N:=fn.ntmps) (m:=0) hd hsr hh
 refine callsIn_wide.1 (callsIn_of_wp_marks (F:=WF none) (n:=0) hf hb trivial (wpIn_mono hw ?_) rfl)
 rintro ex a' w' ⟨M,φ',e',h',n',hs',hq⟩
 have fin:(zpy P e' h' fn.results.toList).1∧K (zCI (zpy P e' h' fn.results.toList).2) h' n'→LeavesInM (WF none) 0 P fn a'.tmps (fun e w'=>∃v_1 φ'_1 r h'_1 n'_1,e=Ending.returned v_1∧K r h'_1 n'_1∧zhD φ'_1 n'_1 w' M0 h'_1∧Rel φ'_1 w' (Or M0 (Mut φ'_1 h'_1)) r v_1∧zc8 φ w M0 h φ'_1 w' h'_1) a'.defers .returning w':=by
  rintro ⟨q1,q2⟩
  obtain ⟨M1,O,rfl, _,rfl, _,hst⟩:=hs'.ok
  refine zet hs'.defs fun w'' hn=> ?_
  have hsub:∀k,Or M1 (Mut φ' h') k→Or (Or M1 O) (Mut φ' h') k:=fun k hk=>hk.imp .inl id
  have hHm:zhD φ' n' w' M1 h':=hs'.heap.lessM fun k hk=> .inl hk
  obtain ⟨us,h1,h2⟩:=ze6 (P:=P) (hHm.nc hn) (fun t=>((hs'.env t).lessM hsub).nc hn) fn.results.toList q1
  refine ⟨_, ?_, _,φ', _,h',n',rfl,q2,hHm.nc hn,zwu h2,hst.nc hn⟩
  rw [zji,Array.mapM_eq_mapM_toList]
  simp only [Sem.run_bind,Sem.run_map,Sem.run_pure,h1,Result.andThen_ok]
 cases ex with
 |normal=>exact fin hq
 |ret=>exact fin hq
 | _=>exact hq.elim
end

theorem zh4 {w:World}{M:Nat→Prop} (hM:∀k,M k→k<w.heap.size) (hg:ziF w M):zhD noP 0 w M noH:=
 ⟨hM,fun _ _=>rfl,(fun o mt g sz rs ho=>by cases ho),(fun o o' mt g sz rs mt' g' sz' rs' a a' b b' ho=>by cases ho),
  hg.keep (fun _ _ _=>rfl) (fun k hk=> .inl (hk.elim id fun h=>(zaM h).elim))⟩

def RetI (P:Program) (rs:List ResultVar) (l more:Nat):zbV
 | .normal,e,h,n| .ret,e,h,n=>(zpy P e h rs).1∧((more=0∧e GH=zaR l 0 [])∨e GH=zaR l 2 [])
 | _, _, _, _=>False
theorem zdF {l l' m m':Nat}{r r':List (List AV)} (h:zaR l m r=zaR l' m' r'):l=l'∧m=m'∧r=r':=by
 simp only [zaR,AV.gd.injEq,AV.tup.injEq,List.cons.injEq,AV.v.injEq,Value.int.injEq,AV.lst.injEq,and_true,true_and] at h
 obtain ⟨h1,h2,h3⟩:=h
 exact ⟨aa,h2,h3⟩
def zCx (P:Program) (w:World) (l more:Nat) (J:List (List AV)→zc4→zc4→World→Prop) (Jx:zc4→zc4→World→Prop)
  (hJ:∀rs M O O' w1 w2,J rs M O w1→Fr w1 O w2→(∀k,O' k→O k∨w1.heap.size≤k)→J rs M O' w2)
  (hJx:∀M O O' w1 w2,Jx M O w1→Fr w1 O w2→(∀k,O' k→O k∨w1.heap.size≤k)→Jx M O' w2)
  (hn:∀rs M O w1 w2,J rs M O w1→NC w.heap.size w1 w2→J rs M O w2) (hnx:∀M O w1 w2,Jx M O w1→NC w.heap.size w1 w2→Jx M O w2)
  (hr:∀ (r:Option Nat) (m:Nat) xs rest M O w1 vs,J (xs::rest) M O w1→(∀k,O k→k<w1.heap.size)→zaJ noP w1 (Or M O) xs vs→
   ∃fn tmps assign body,(Instr.yield l ⟨vs⟩).run P w1= .ok (.round l fn tmps assign body) w1∧RoundIn (WF r) m P l fn tmps assign body w1 fun e w'=>
    ∃b M',e= .returned (.bool b)∧zj2 M w1 M' w'∧if b then J rest M' O w' else Jx M' O w')
  (hm:more=1→∀M O w1,¬J [] M O w1):zfg P where
 n0:=0
 lo:=w.heap.size
 round:=none
 ok0 g M O φ w1 h:=w.heap.size≤w1.heap.size∧w1.os=w1.os∧((∃rs,g=zaR l more rs∧J rs M (Or O (Mut φ h)) w1)∨(g=zaR l 2 []∧Jx M (Or O (Mut φ h)) w1)∨g= .top)
 isG0:=by
  rintro g M O φ w1 h ⟨_, _,⟨rs,rfl, _⟩|⟨rfl, _⟩|rfl⟩
  ·exact .inr ⟨_,rfl⟩
  ·exact .inr ⟨_,rfl⟩
  ·exact .inl rfl
 step0:=by
  rintro g M O φ w1 h φ' w2 h' ⟨h1, _,h2⟩ st
  have hfr:Fr w1 (Or O (Mut φ h)) w2:=st.fr.more fun k hk=> .inr hk
  have hO:∀k,Or O (Mut φ' h') k→Or O (Mut φ h) k∨w1.heap.size≤k:=fun k hk=>hk.elim (fun h=> .inl (.inl h)) fun h=>(st.mutd k h).imp .inr id
  exact ⟨Nat.le_trans h1 st.fr.size,rfl,h2.imp (fun ⟨rs,e,h⟩=>⟨rs,e,hJ _ _ _ _ _ _ h hfr hO⟩) (fun h=>h.imp (fun h=>⟨h.1,hJx _ _ _ _ _ h.2 hfr hO⟩) id)⟩
 forget0:=by
  rintro g g' M O φ w1 h φ' h' n' ⟨h1, _,h2⟩ hg h3 h4 _
  have hO:∀k,Or O (Mut φ' h') k→Or O (Mut φ h) k∨w1.heap.size≤k:=fun k hk=> .inl (hk.imp id (h3 k))
  rcases hg with rfl|rfl
  ·exact ⟨h1,rfl,h2.imp (fun ⟨rs,e,h⟩=>⟨rs,e,hJ _ _ _ _ _ _ h (Fr.refl _ _) hO⟩) (fun h=>h.imp (fun h=>⟨h.1,hJx _ _ _ _ _ h.2 (Fr.refl _ _) hO⟩) id)⟩
  ·exact ⟨h1,rfl, .inr (.inr rfl)⟩
 yld0:=by
  rintro r m l' more' xs rest M O φ w1 h n vs ⟨h1, _,⟨rs,e,h2⟩|⟨e, _⟩|e⟩ hH hv
  ·obtain ⟨rfl,rfl,rfl⟩:=zdF e
   obtain ⟨fn,tm,asg,body,k1,k2⟩:=hr r m xs rest M _ w1 vs h2 (fun k hk=>hk.elim (fun h=>hH.m0 k (.inr h)) fun h=>hH.blk (.inr h)) (by rw [← zl2];exact hv)
   refine ⟨fn,tm,asg,body,k1,k2.mono ?_⟩
   rintro en w2 ⟨b,M',e1,g,hk⟩
   refine ⟨b,M',e1,g,Nat.le_trans h1 g.size,rfl, ?_⟩
   cases b with
   |true=>exact .inl ⟨rest,rfl,hk⟩
   |false=>exact .inr (.inl ⟨rfl,hk⟩)
  ·obtain ⟨_, _,e⟩:=zdF e
   cases e
  ·cases e
 exh0:=by
  rintro l' M O φ w1 h ⟨h1, _,⟨rs,e,h2⟩|⟨e, _⟩|e⟩
  ·obtain ⟨rfl,e1,rfl⟩:=zdF e
   exact hm e1.symm _ _ _ h2
  ·obtain ⟨_,e, _⟩:=zdF e
   cases e
  ·cases e
 oth0:=by
  rintro g M O O' φ w1 w2 h ⟨h1, _,h2⟩ hfr hO
  have hfr':Fr w1 (Or O (Mut φ h)) w2:=hfr.more fun k hk=> .inl hk
  have hO':∀k,Or O' (Mut φ h) k→Or O (Mut φ h) k∨w1.heap.size≤k:=fun k hk=>hk.elim (fun h=>(hO k h).imp .inl id) fun h=> .inl (.inr h)
  exact ⟨Nat.le_trans h1 hfr.size,rfl,h2.imp (fun ⟨rs,e,h⟩=>⟨rs,e,hJ _ _ _ _ _ _ h hfr' hO'⟩) (fun h=>h.imp (fun h=>⟨h.1,hJx _ _ _ _ _ h.2 hfr' hO'⟩) id)⟩
 nc0:=by
  rintro g M O φ w1 w2 h ⟨h1, _,h2⟩ hnc
  exact ⟨by rw [hnc.size];exact h1,rfl,h2.imp (fun ⟨rs,e,h⟩=>⟨rs,e,hn _ _ _ _ _ h hnc⟩) (fun h=>h.imp (fun h=>⟨h.1,hnx _ _ _ _ h.2 hnc⟩) id)⟩
 give0:=by
  rintro g M O O' φ w1 h h' ⟨h1, _,h2⟩ hO' hm
  have hO:∀k,Or O' (Mut φ h') k→Or O (Mut φ h) k∨w1.heap.size≤k:=fun k hk=> .inl (hk.elim (hO' k) fun h=> .inr (hm k h))
  exact ⟨h1,rfl,h2.imp (fun ⟨rs,e,h⟩=>⟨rs,e,hJ _ _ _ _ _ _ h (Fr.refl _ _) hO⟩) (fun h=>h.imp (fun h=>⟨h.1,hJx _ _ _ _ _ h.2 (Fr.refl _ _) hO⟩) id)⟩
 lo0 h:=h.1
 rec0 _ h:=cc
theorem zEz {P:Program} (hmix:P.follows .mixedOrders=true){f:FuncId}{fn:Func}{c:Code}{caps:List AV}{more:Nat}{rows:List (List AV)} (hf:P.funcs[f]? =some fn) (hb:fn.body=some c) (hname:(fn.name== "runtime.NumGoroutine")=false)
  (hN:caps.length+1≤fn.ntmps) (hd:zpx fn.ntmps c=true)
  (hh:∀l,awp P 0 c (RetI P fn.results.toList l more) (upd (zso 0 (.fn (.yield l) [] []::caps)) GH (zaR l more rows)) noH 0) (hG:fn.ntmps≤GH:=by exact Nat.le_of_ble_eq_true rfl) (hm2:more≠2:=by decide):zgA P f caps more rows:=by
 refine ⟨zle hf hb hname,fun w M0 cvs l J Jx hM0 hgl hcaps hJ hJx hn hnx hr hm h0=> ?_⟩
 have hlen:=hcaps.length
 let B:zfg P:=zCx P w l more J Jx hJ hJx hn hnx hr hm
 have hargs:zaJ noP w (Or M0 (Mut noP noH)) (.fn (.yield l) [] []::caps) (.func (.yield l) #[] #[]::cvs):=
  .cons (.fn .nil .nil) (hcaps.keep noP.le_refl (fun _ _ _=>rfl) fun k hk=> .inl (hk.elim id fun h=>(zaM h).elim))
 have hsr:SR B fn.ntmps M0 noP (upd (zso 0 (.fn (.yield l) [] []::caps)) GH (zaR l more rows)) noH 0
   { tmps:=⟨.func (.yield l) #[] #[]::cvs⟩++Array.replicate (fn.ntmps - (⟨.func (.yield l) #[] #[]::cvs⟩:Array Value).size) undef,defers:= []} w:=by
  refine ⟨fun t=> ?_,ak,zfU.nil,zh4 hM0 hgl,⟨M0,fun _=>False,(zek M0).symm,Nat.le_refl _,rfl, .inl ⟨rows,by rw [zax],hJ _ _ _ _ _ _ h0 (Fr.refl _ _) fun k hk=> .inl (hk.elim id fun h=>(zaM h).elim)⟩⟩,hG⟩
  by_cases ht:t=GH
  ·subst ht
   rw [zax,Array.getD_eq_getD_getElem?,Array.getElem?_eq_none ak]
   exact .gd (fun h=>by cases h) (fun _=>rfl)
  rw [zbs _ _ ht]
  rcases zkk hargs 0 t with h1|⟨k,rfl,hk,hk',h1,h2⟩
  ·rw [h1];exact .top _
  ·rw [h1]
   have:((⟨.func (.yield l) #[] #[]::cvs⟩:Array Value)++Array.replicate (fn.ntmps - (⟨.func (.yield l) #[] #[]::cvs⟩:Array Value).size) undef).getD (0+k) undef=(Value.func (.yield l) #[] #[]::cvs)[k]:=by
    simp only [List.length_cons] at hk'
    simp [Array.getD_eq_getD_getElem?,Array.getElem?_append,hk']
   rw [this];exact h2
 have hw:=zkS (P:=P) hmix (B:=B) (N:=fn.ntmps) (m:=0) hd hsr (hh l)
 refine callsIn_wide.1 (callsIn_of_wp_marks (F:=WF none) (n:=0) hf hb trivial (wpIn_mono hw ?_) rfl)
 rintro ex a' w' ⟨M,φ',e',h',n',hs',hq⟩
 have fin:(zpy P e' h' fn.results.toList).1∧((more=0∧e' GH=zaR l 0 [])∨e' GH=zaR l 2 [])→
   LeavesInM (WF none) 0 P fn a'.tmps (fun e w'=>(∃v,e= .returned v)∧∃M' O',(∀k,O' k→k<w'.heap.size)∧((more=0∧J [] M' O' w')∨Jx M' O' w')) a'.defers .returning w':=by
  rintro ⟨q1,q2⟩
  obtain ⟨Mc,O,rfl, _, _,hst⟩:=hs'.ok
  refine zet hs'.defs fun w'' hnc=> ?_
  obtain ⟨us,h1,h2⟩:=ze6 (P:=P) (hs'.heap.nc hnc) (fun t=>(hs'.env t).nc hnc) fn.results.toList q1
  refine ⟨if h:(⟨us⟩:Array Value).size=1 then (⟨us⟩:Array Value)[0] else .tuple ⟨us⟩, ?_,⟨_,rfl⟩,Mc,Or O (Mut φ' h'),fun k hk=> ?_, ?_⟩
  ·rw [zji,Array.mapM_eq_mapM_toList]
   simp only [Sem.run_bind,Sem.run_map,Sem.run_pure,h1,Result.andThen_ok]
  ·rw [hnc.size];exact hk.elim (fun h=>hs'.heap.m0 k (.inr h)) fun h=>hs'.heap.blk (.inr h)
  ·rcases hst with ⟨rs,e1,h⟩|⟨e1,h⟩|e1
   ·rw [e1] at q2
    rcases q2 with ⟨e2,q2⟩|q2
    ·obtain ⟨_, _,rfl⟩:=zdF q2
     exact .inl ⟨e2,hn _ _ _ _ _ h hnc⟩
    ·obtain ⟨_,e3,rfl⟩:=zdF q2
     exact absurd e3 hm2
   ·exact .inr (hnx _ _ _ _ h hnc)
   ·rw [e1] at q2
    rcases q2 with ⟨_,q2⟩|q2<;>cases q2
 cases ex with
 |normal=>exact fin hq
 |ret=>exact fin hq
 | _=>exact hq.elim

theorem zEY {P:Program} (hmix:P.follows .mixedOrders=true){f:FuncId}{fn:Func}{c:Code}{caps:List AV}{HO:List (Nat×zbp)}{k0:Nat}{more:Nat}{rows:List (List AV)} (hf:P.funcs[f]? =some fn) (hb:fn.body=some c) (hname:(fn.name== "runtime.NumGoroutine")=false)
  (hN:caps.length+1≤fn.ntmps) (hd:zpx fn.ntmps c=true)
  (hh:∀l,awp P 0 c (RetI P fn.results.toList l more) (upd (zso 0 (.fn (.yield l) [] []::caps)) GH (zaR l more rows)) (mkH HO) k0) (hG:fn.ntmps≤GH:=by exact Nat.le_of_ble_eq_true rfl) (hm2:more≠2:=by decide):zrN P f caps HO k0 more rows:=by
 refine ⟨zle hf hb hname,fun φ w M0 cvs l J Jx hH0 hcaps hJ hJx hn hnx hr hm h0=> ?_⟩
 have hlen:=hcaps.length
 let B:zfg P:=zCx P w l more J Jx hJ hJx hn hnx hr hm
 have hargs:zaJ φ w (Or M0 (Mut φ (mkH HO))) (.fn (.yield l) [] []::caps) (.func (.yield l) #[] #[]::cvs):= .cons (.fn .nil .nil) hcaps
 have hsr:SR B fn.ntmps M0 φ (upd (zso 0 (.fn (.yield l) [] []::caps)) GH (zaR l more rows)) (mkH HO) k0
   { tmps:=⟨.func (.yield l) #[] #[]::cvs⟩++Array.replicate (fn.ntmps - (⟨.func (.yield l) #[] #[]::cvs⟩:Array Value).size) undef,defers:= []} w:=by
  refine ⟨fun t=> ?_,ak,zfU.nil,hH0,⟨M0,fun _=>False,(zek M0).symm,Nat.le_refl _,rfl, .inl ⟨rows,by rw [zax],hJ _ _ _ _ _ _ h0 (Fr.refl _ _) fun k hk=> .inl (hk.elim False.elim id)⟩⟩,hG⟩
  by_cases ht:t=GH
  ·subst ht
   rw [zax,Array.getD_eq_getD_getElem?,Array.getElem?_eq_none ak]
   exact .gd (fun h=>by cases h) (fun _=>rfl)
  rw [zbs _ _ ht]
  rcases zkk hargs 0 t with h1|⟨k,rfl,hk,hk',h1,h2⟩
  ·rw [h1];exact .top _
  ·rw [h1]
   have:((⟨.func (.yield l) #[] #[]::cvs⟩:Array Value)++Array.replicate (fn.ntmps - (⟨.func (.yield l) #[] #[]::cvs⟩:Array Value).size) undef).getD (0+k) undef=(Value.func (.yield l) #[] #[]::cvs)[k]:=by
    simp only [List.length_cons] at hk'
    simp [Array.getD_eq_getD_getElem?,Array.getElem?_append,hk']
   rw [this];exact h2
 have hw:=zkS (P:=P) hmix (B:=B) (N:=fn.ntmps) (m:=0) hd hsr (hh l)
 refine callsIn_wide.1 (callsIn_of_wp_marks (F:=WF none) (n:=0) hf hb trivial (wpIn_mono hw ?_) rfl)
 rintro ex a' w' ⟨M,φ',e',h',n',hs',hq⟩
 have fin:(zpy P e' h' fn.results.toList).1∧((more=0∧e' GH=zaR l 0 [])∨e' GH=zaR l 2 [])→
   LeavesInM (WF none) 0 P fn a'.tmps (fun e w'=>(∃v,e= .returned v)∧∃M' O',(∀k,O' k→k<w'.heap.size)∧((more=0∧J [] M' O' w')∨Jx M' O' w')) a'.defers .returning w':=by
  rintro ⟨q1,q2⟩
  obtain ⟨Mc,O,rfl, _, _,hst⟩:=hs'.ok
  refine zet hs'.defs fun w'' hnc=> ?_
  obtain ⟨us,h1,h2⟩:=ze6 (P:=P) (hs'.heap.nc hnc) (fun t=>(hs'.env t).nc hnc) fn.results.toList q1
  refine ⟨if h:(⟨us⟩:Array Value).size=1 then (⟨us⟩:Array Value)[0] else .tuple ⟨us⟩, ?_,⟨_,rfl⟩,Mc,Or O (Mut φ' h'),fun k hk=> ?_, ?_⟩
  ·rw [zji,Array.mapM_eq_mapM_toList]
   simp only [Sem.run_bind,Sem.run_map,Sem.run_pure,h1,Result.andThen_ok]
  ·rw [hnc.size];exact hk.elim (fun h=>hs'.heap.m0 k (.inr h)) fun h=>hs'.heap.blk (.inr h)
  ·rcases hst with ⟨rs,e1,h⟩|⟨e1,h⟩|e1
   ·rw [e1] at q2
    rcases q2 with ⟨e2,q2⟩|q2
    ·obtain ⟨_, _,rfl⟩:=zdF q2
     exact .inl ⟨e2,hn _ _ _ _ _ h hnc⟩
    ·obtain ⟨_,e3,rfl⟩:=zdF q2
     exact absurd e3 hm2
   ·exact .inr (hnx _ _ _ _ h hnc)
   ·rw [e1] at q2
    rcases q2 with ⟨_,q2⟩|q2<;>cases q2
 cases ex with
 |normal=>exact fin hq
 |ret=>exact fin hq
 | _=>exact hq.elim

theorem zaE.up {φ:zaz}{w:World}{M0:Nat→Prop}{h:zaq}{n:Nat} (hH:zhD φ 0 w M0 h):zhD φ n w M0 h:=⟨hH.m0,fun o _=>hH.fresh o (Nat.zero_le _),hH.obj,hH.inj,hH.glob⟩
theorem zE4 {P:Program}{f:FuncId}{args:List AV}{r:AV}{n:Nat} (hc:zah P f args noH n fun r' h' n'=>LeV h' noH n' r' r∧Bel 0 r):zaD P f args r:=by
 refine ⟨hc.1,fun M w vs hM hgl hargs=>(hc.2 M noP w vs (zh4 hM hgl).up (hargs.keep noP.le_refl (fun _ _ _=>rfl) (fun k hk=>hk.elim .inl fun h=>(zaM h).elim))).mono ?_⟩
 rintro e w' ⟨v,φ',r',h',n',rfl,⟨hle,hb⟩,hH,hx,st⟩
 have hk:Wk (fun _=>r') h' n' [(0,r)] [] 0:=⟨fun p hp=>by simp at hp;subst hp;exact ⟨hle,hb⟩,fun p hp=>by cases hp⟩
 obtain ⟨φ'',h1,h2,h3, _⟩:=hk.sound hH (tmps:=fun _=>v) (fun _=>hx)
 refine ⟨v,rfl, ?_, ?_⟩
 ·have:=h2 0
  simp only [mkE,zax] at this
  refine this.keep (fun o x ho=> ?_) (fun _ _ _=>rfl) (fun k hk=> .inl (.inl hk))
  rw [h1.fresh o (Nat.zero_le _)] at ho;cases ho
 ·exact ⟨st.fr.os,st.fr.tape,st.fr.output,st.fr.drawn,st.fr.size,fun k hk _=>st.fr.block k hk zaM⟩
theorem zE6 {P:Program}{f:FuncId}{args:List AV}{r:AV} (hc:zah P f args noH 0 fun r' h' n'=>LeV h' noH n' r' r∧Bel 0 r):zaD P f args r:=zE4 hc

theorem zEJ {P:Program}{f:FuncId}{args args':List AV}{r:AV}{h:zaq}{n:Nat}{K:zcn} (hp:zaD P f args' r) (hfl:ztF r) (hle:zav h noH n args args') (hb:∀c ∈ args',Bel 0 c)
  (hk:K r h n):zah P f args h n K:=by
 refine ⟨hp.1,fun M0 φ w vs hH hargs=> ?_⟩
 have h1:=zce (h':=noH) hH (fun o g sz rs ho=>by cases ho) hle hb hargs
 refine (hp.2 _ w vs (fun k hk=>hk.elim (hH.m0 k) fun h=>(zaM h).elim) (hH.glob.keep (fun _ _ _=>rfl) (fun k hk=> .inl (hk.imp id fun h=>(zaM h).elim))) h1).mono ?_
 rintro e w' ⟨v,rfl,hr,hfr⟩
 have st:zc8 φ w M0 h φ w' h:=⟨φ.le_refl,fun k hk=> .inl hk,⟨hfr.os,hfr.tape,hfr.output,hfr.drawn,hfr.size,fun k hk _=>hfr.block k hk (fun h=>h)⟩,fun k hk=> .inl hk⟩
 exact ⟨v,φ,r,h,n,rfl,hk,hH.keepw st (fun k hk=>hfr.block k hk fun h=>h),hfl.rel hr,st⟩

theorem zah.pure {P:Program}{f:FuncId}{args args':List AV}{r:AV}{h:zaq}{n:Nat}{K:zcn} (h':zaq) (hp:zaD P f args' r) (hfz:Frz h h') (hle:zav h h' n args args') (hb:∀c ∈ args',Bel 0 c)
  (hk:K r h' n):zah P f args h n K:=by
 refine ⟨hp.1,fun M0 φ w vs hH hargs=> ?_⟩
 obtain ⟨hH',st0⟩:=hH.freeze hfz
 have hmt:∀o g sz rs,h' o=some (.rows true g sz rs)→h o=some (.rows true g sz rs):=by
  intro o g sz rs ho
  rcases hfz o with h1|⟨g1,sz1,rs1, _,h2⟩
  ·rw [← h1];exact ho
  ·rw [h2] at ho;cases ho
 have h1:=zce (h':=h') hH hmt hle hb hargs
 refine (hp.2 _ w vs (fun k hk=>hH'.blk hk) hH'.glob h1).mono ?_
 rintro e w' ⟨v,rfl,hr,hfr⟩
 have st:zc8 φ w M0 h' φ w' h':=⟨φ.le_refl,fun k hk=> .inl hk,⟨hfr.os,hfr.tape,hfr.output,hfr.drawn,hfr.size,fun k hk _=>hfr.block k hk (fun h=>h)⟩,fun k hk=> .inl hk⟩
 refine ⟨v,φ,r,h',n,rfl,hk,hH'.keepw st (fun k hk=>hfr.block k hk fun h=>h), ?_,st0.trans st⟩
 exact hr.keep (fun o x ho=>by cases ho) (fun _ _ _=>rfl) (fun k hk=> .inl hk)
theorem zEt {P:Program}{f:FuncId}{args:List AV}{r:AV}{h:zaq}{n:Nat}{K:zcn} (hp:zaD P f args r) (hb:∀c ∈ args,Bel 0 c) (hk:K r h n):zah P f args h n K:=
 zah.pure h hp (.refl h) (.refl _ _ _ _) hb hk

theorem zEX {P:Program}{f:FuncId}{args args':List AV}{h:zaq}{n k2:Nat}{K K':zcn}{R0 R:AV}{H0 HH:List (Nat×zbp)} (h':zaq) (hp:zah P f args' noH 0 K')
  (hk':∀r h1 n',K' r h1 n'→Wk (fun _=>r) h1 n' [(0,R0)] H0 k2) (hR:Sh n R0 R) (hHH:ShH n H0 HH) (hfz:Frz h h') (hle:zav h h' n args args') (hb:∀c ∈ args',Bel 0 c)
  (hk:K R (zel HH h') (n+k2)):zah P f args h n K:=by
 refine ⟨hp.1,fun M0 φ w vs hH hargs=> ?_⟩
 obtain ⟨hH',st0⟩:=hH.freeze hfz
 have hmt:∀o g sz rs,h' o=some (.rows true g sz rs)→h o=some (.rows true g sz rs):=by
  intro o g sz rs ho
  rcases hfz o with h1|⟨g1,sz1,rs1,h1,h2⟩
  ·rw [← h1];exact ho
  ·rw [h2] at ho;cases ho
 have hv:=zce (h':=h') hH hmt hle hb hargs
 have hM1:∀k,Or (Or M0 (Mut φ h')) (Mut noP noH) k→Or M0 (Mut φ h') k:=fun k hk=>hk.elim id fun h=>(zaM h).elim
 have hH1:zhD noP 0 w (Or M0 (Mut φ h')) noH:=zh4 (fun k hk=>hH'.blk hk) hH'.glob
 refine (hp.2 _ noP w vs hH1 (hv.keep noP.le_refl (fun _ _ _=>rfl) (fun k hk=> .inl (hM1 k hk)))).mono ?_
 rintro e w' ⟨v,φ1,r,h1,n',rfl,hK,hH2,hx,st⟩
 obtain ⟨φ2,hH3,hx3,hm3, _⟩:=(hk' _ _ _ hK).sound hH2 (tmps:=fun _=>v) (fun _=>hx)
 have hx3:=hx3 0
 simp only [mkE,zax] at hx3
 have hheap:∀k,k<w.heap.size→w'.heap[k]? =w.heap[k]? :=fun k hk=>st.fr.block k hk zaM
 let φ3:zaz:=fun o=>if o<n then φ o else φ2 (o - n)
 have e3:∀o,φ3 (n+o)=φ2 o:=fun o=>by simp only [φ3];rw [if_neg aa];congr 1;omega
 have e3':∀o,o<n→φ3 o=φ o:=fun o ho=>if_pos ho
 have hlt:∀o x,φ o=some x→o<n:=fun o x ho=>Nat.lt_of_not_le fun hle=>cg
 have hle3:φ.le φ3:=fun o x ho=>⟨x,by rw [e3' o (hlt o x ho)];exact ho,Nat.le_refl _,fun _=>rfl⟩
 have hsrc:∀o y,zel HH h' o=some y→(∃o0 x,o=n+o0∧mkH H0 o0=some x∧ShO n x y)∨(o<n∧h' o=some y):=by
  intro o x ho
  rw [zhu] at ho
  split at ho
  ·rename_i y hy
   cases ho
   exact .inl (hHH.at hy)
  ·cases x with
   |rows mt g sz rs=>
    obtain ⟨A,hA, _⟩:=hH'.obj _ _ _ _ _ ho
    exact .inr ⟨hlt _ _ hA,ho⟩
 have hmut:∀k,Mut φ3 (zel HH h') k→Mut φ2 (mkH H0) k∨Mut φ h' k:=by
  rintro k ⟨o,g,sz,rs,g',a,bs,ho,hp,rfl⟩
  rcases hsrc o _ ho with ⟨o0,x,rfl,h1,h2⟩|⟨h1,h2⟩
  ·cases h2 with
   |rows h2=>rw [e3] at hp;exact .inl ⟨o0,g,sz, _,g',a,bs,h1,hp,rfl⟩
  ·rw [e3' o h1] at hp;exact .inr ⟨o,g,sz,rs,g',a,bs,h2,hp,rfl⟩
 have hnew:∀k,Mut φ2 (mkH H0) k→w.heap.size≤k:=fun k hk=>(st.mutd k (hm3 k hk)).elim (fun h=>(zaM h).elim) id
 have hsub:∀k,Or M0 (Mut φ3 (zel HH h')) k→Or (Or M0 (Mut φ h')) (Mut φ2 (mkH H0)) k:=fun k hk=>hk.elim (fun h=> .inl (.inl h)) fun h=>(hmut k h).elim .inr fun h=> .inl (.inr h)
 have hsub':∀k,Or M0 (Mut φ3 (zel HH h')) k→Or M0 (Mut φ h') k∨w.heap.size≤k:=fun k hk=>hk.elim (fun h=> .inl (.inl h)) fun h=>(hmut k h).elim (fun h=> .inr (hnew k h)) fun h=> .inl (.inr h)
 have hblk:∀o x g' a bs,h' o=some x→φ o=some (g',some (a,bs))→a.block<w.heap.size:=by
  intro o x g' a bs ho hp
  cases x with
  |rows mt g sz rs=>
   obtain ⟨A,hA,hc⟩:=hH'.obj _ _ _ _ _ ho
   rw [hp] at hA
   simp only [Option.some.injEq,Prod.mk.injEq] at hA
   obtain ⟨rfl,rfl⟩:=hA
   rcases hc with ⟨h, _⟩|⟨a',bs',h, _,h2⟩
   ·cases h
   ·simp only [Option.some.injEq,Prod.mk.injEq] at h
    obtain ⟨rfl,rfl⟩:=h
    exact h2.blk
 have hfar:∀o0 mt g sz rs g' a bs o' y g1 a' b',mkH H0 o0=some (.rows mt g sz rs)→φ2 o0=some (g',some (a,bs))→h' o'=some y→φ o'=some (g1,some (a',b'))→
   (mt=true∨∃g sz rs,y= .rows true g sz rs)→a.block≠a'.block:=by
  intro o0 mt g sz rs g' a bs o' y g1 a' b' q1 q2 q3 q4 hm
  have hb':=hblk _ _ _ _ _ q3 q4
  rcases hm with rfl|⟨g2,sz2,rs2,rfl⟩
  ·have:=hnew a.block ⟨o0,g,sz,rs, _,a,bs,q1,q2,rfl⟩
   omega
  ·intro he
   obtain ⟨A,hA,hc⟩:=hH3.obj _ _ _ _ _ q1
   rw [q2] at hA
   simp only [Option.some.injEq,Prod.mk.injEq] at hA
   obtain ⟨_,rfl⟩:=hA
   rcases hc with ⟨h, _⟩|⟨a1,bs1,h,hn0, _⟩
   ·cases h
   ·simp only [Option.some.injEq,Prod.mk.injEq] at h
    obtain ⟨rfl,rfl⟩:=h
    exact hn0 (.inr ⟨o',g2,sz2,rs2, _,a',b',q3,q4,he.symm⟩)
 refine ⟨v,φ3,R,zel HH h',n+k2,rfl,hk,⟨fun k hk=>Nat.lt_of_lt_of_le (hH.m0 k hk) st.fr.size,fun o ho=> ?_,fun o mt g sz rs ho=> ?_,fun o o' mt g sz rs mt' g' sz' rs' a a' b b' ho ho' hne hm hp hp'=> ?_,hH'.glob.keep (fun k _ hk=>hheap k hk) hsub'⟩,
  hR.rel (fun o x h=>(e3 o).trans h) hsub hx3,st0.trans ⟨hle3,hsub',⟨st.fr.os,st.fr.tape,st.fr.output,st.fr.drawn,st.fr.size,fun k hk _=>hheap k hk⟩,fun k hk=>(hmut k hk).elim (fun h=> .inr (hnew k h)) .inl⟩⟩
 ·obtain ⟨d,rfl⟩:=Nat.exists_eq_add_of_le (show n≤o by omega)
  rw [e3];exact hH3.fresh d aa
 ·rcases hsrc o _ ho with ⟨o0,x,rfl,h1,h2⟩|⟨h1,h2⟩
  ·cases h2 with
   |rows hs=>
    obtain ⟨A,hA,hc⟩:=hH3.obj _ _ _ _ _ h1
    refine ⟨A,by rw [e3];exact hA,hc.imp (fun h=>⟨h.1, ?_⟩) ?_⟩
    ·obtain ⟨_,rfl⟩:=h
     exact List.eq_nil_of_length_eq_zero hs.shape.1
    ·rintro ⟨a,bs,c1,c3,hd⟩
     exact ⟨a,bs,c1,fun hk=>c3 (.inl hk),hd.turn rfl hs.shape.1 (hs.shape.2 sz) (fun c9=>hs.rel (fun o x h=>(e3 o).trans h) hsub c9)⟩
  ·obtain ⟨A,hA,hc⟩:=hH'.obj _ _ _ _ _ h2
   refine ⟨A,by rw [e3' o h1];exact hA,hc.imp id ?_⟩
   rintro ⟨a,bs,c1,c3,hd⟩
   exact ⟨a,bs,c1,c3,hd.keep (hheap _ hd.blk) (fun c9=>c9.keep hle3 (fun k _ hk=>hheap k hk) hsub')⟩
 ·rcases hsrc o _ ho with ⟨o0,x,rfl,q1,q2⟩|⟨q1,q2⟩<;>rcases hsrc o' _ ho' with ⟨o0',x',rfl,q1',q2'⟩|⟨q1',q2'⟩
  ·cases q2;cases q2'
   rw [e3] at hp hp'
   exact hH3.inj _ _ _ _ _ _ _ _ _ _ _ _ _ _ q1 q1' aa hm hp hp'
  ·cases q2
   rw [e3] at hp;rw [e3' o' q1'] at hp'
   exact hfar _ _ _ _ _ _ _ _ _ _ _ _ _ q1 hp q2' hp' (hm.imp id fun h=>by subst h;exact ⟨_, _, _,rfl⟩)
  ·cases q2'
   rw [e3' o q1] at hp;rw [e3] at hp'
   exact Ne.symm (hfar _ _ _ _ _ _ _ _ _ _ _ _ _ q1' hp' q2 hp (hm.symm.imp id fun h=>by subst h;exact ⟨_, _, _,rfl⟩))
  ·rw [e3' o q1] at hp;rw [e3' o' q1'] at hp'
   exact hH'.inj _ _ _ _ _ _ _ _ _ _ _ _ _ _ q2 q2' hne hm hp hp'

theorem zEV {P:Program}{f:FuncId}{args args':List AV}{h:zaq}{n k2:Nat}{K K':zcn}{R0 R:AV}{H0 HH:List (Nat×zbp)} (hp:zah P f args' noH 0 K')
  (hk':∀r h1 n',K' r h1 n'→Wk (fun _=>r) h1 n' [(0,R0)] H0 k2) (hR:Sh n R0 R) (hHH:ShH n H0 HH) (hnR:zfV R0) (hnH:∀p ∈ H0,zpH p.2) (hle:zav h noH n args args') (hb:∀c ∈ args',Bel 0 c)
  (hk:K R (zel HH h) (n+k2)):zah P f args h n K:=by
 refine ⟨hp.1,fun M0 φ w vs hH hargs=> ?_⟩
 have hv:=zce (h':=noH) hH (fun o g sz rs ho=>by cases ho) hle hb hargs
 have hM1:∀k,Or M0 (Mut noP noH) k→M0 k:=fun k hk=>hk.elim id fun h=>(zaM h).elim
 have hM2:∀k,Or M0 (Mut φ noH) k→M0 k:=fun k hk=>hk.elim id fun h=>(zaM h).elim
 have hH1:zhD noP 0 w M0 noH:=zh4 (fun k hk=>hH.m0 k hk) (hH.glob.keep (fun _ _ _=>rfl) (fun k hk=> .inl (.inl hk)))
 refine (hp.2 _ noP w vs hH1 (hv.keep noP.le_refl (fun _ _ _=>rfl) (fun k hk=> .inl (.inl (hM1 k hk))))).mono ?_
 rintro e w' ⟨v,φ1,r,h1,n',rfl,hK,hH2,hx,st⟩
 obtain ⟨φ2,hH3,hx3,hm3, _⟩:=(hk' _ _ _ hK).sound hH2 (tmps:=fun _=>v) (fun _=>hx)
 have hnw:∀k,Mut φ2 (mkH H0) k→w.heap.size≤k:=fun k hk=>(st.mutd k (hm3 k hk)).elim (fun h=>(zaM h).elim) id
 have hold:∀k,Mut φ h k→k<w.heap.size:=fun k hk=>hH.blk (.inr hk)
 replace hH3:zhD φ2 k2 w' (Or M0 (Mut φ h)) (mkH H0):=hH3.widen (N:=w.heap.size) (fun o x ho=>hnH _ (zeK ho)) hnw hold st.fr.size
  (hH.glob.keep (fun k _ hk=>st.fr.block k hk zaM) (fun k hk=>hk.imp id (hnw k)))
 have hmt:∀o g sz rs,h o=some (.rows true g sz rs)→h o=some (.rows true g sz rs):=fun _ _ _ _ h=>h
 have hH':=hH
 have st0:zc8 φ w M0 h φ w h:=⟨φ.le_refl,fun k hk=> .inl hk,Fr.refl _ _,fun k hk=> .inl hk⟩
 replace hx3:∀i,Rel φ2 w' (Or (Or M0 (Mut φ h)) (Mut φ2 (mkH H0))) (mkE [(0,R0)] i) v:=fun i=>by
  have:=hx3 i
  simp only [mkE,upd] at this ⊢
  split
  ·rename_i hi
   rw [if_pos hi] at this
   exact hnR.rel this
  ·exact .top _
 have hx3:=hx3 0
 simp only [mkE,zax] at hx3
 have hheap:∀k,k<w.heap.size→w'.heap[k]? =w.heap[k]? :=fun k hk=>st.fr.block k hk zaM
 let φ3:zaz:=fun o=>if o<n then φ o else φ2 (o - n)
 have e3:∀o,φ3 (n+o)=φ2 o:=fun o=>by simp only [φ3];rw [if_neg aa];congr 1;omega
 have e3':∀o,o<n→φ3 o=φ o:=fun o ho=>if_pos ho
 have hlt:∀o x,φ o=some x→o<n:=fun o x ho=>Nat.lt_of_not_le fun hle=>cg
 have hle3:φ.le φ3:=fun o x ho=>⟨x,by rw [e3' o (hlt o x ho)];exact ho,Nat.le_refl _,fun _=>rfl⟩
 have hsrc:∀o y,zel HH h o=some y→(∃o0 x,o=n+o0∧mkH H0 o0=some x∧ShO n x y)∨(o<n∧h o=some y):=by
  intro o x ho
  rw [zhu] at ho
  split at ho
  ·rename_i y hy
   cases ho
   exact .inl (hHH.at hy)
  ·cases x with
   |rows mt g sz rs=>
    obtain ⟨A,hA, _⟩:=hH'.obj _ _ _ _ _ ho
    exact .inr ⟨hlt _ _ hA,ho⟩
 have hmut:∀k,Mut φ3 (zel HH h) k→Mut φ2 (mkH H0) k∨Mut φ h k:=by
  rintro k ⟨o,g,sz,rs,g',a,bs,ho,hp,rfl⟩
  rcases hsrc o _ ho with ⟨o0,x,rfl,h1,h2⟩|⟨h1,h2⟩
  ·cases h2 with
   |rows h2=>rw [e3] at hp;exact .inl ⟨o0,g,sz, _,g',a,bs,h1,hp,rfl⟩
  ·rw [e3' o h1] at hp;exact .inr ⟨o,g,sz,rs,g',a,bs,h2,hp,rfl⟩
 have hnew:∀k,Mut φ2 (mkH H0) k→w.heap.size≤k:=fun k hk=>(st.mutd k (hm3 k hk)).elim (fun h=>(zaM h).elim) id
 have hsub:∀k,Or M0 (Mut φ3 (zel HH h)) k→Or (Or M0 (Mut φ h)) (Mut φ2 (mkH H0)) k:=fun k hk=>hk.elim (fun h=> .inl (.inl h)) fun h=>(hmut k h).elim .inr fun h=> .inl (.inr h)
 have hsub':∀k,Or M0 (Mut φ3 (zel HH h)) k→Or M0 (Mut φ h) k∨w.heap.size≤k:=fun k hk=>hk.elim (fun h=> .inl (.inl h)) fun h=>(hmut k h).elim (fun h=> .inr (hnew k h)) fun h=> .inl (.inr h)
 have hblk:∀o x g' a bs,h o=some x→φ o=some (g',some (a,bs))→a.block<w.heap.size:=by
  intro o x g' a bs ho hp
  cases x with
  |rows mt g sz rs=>
   obtain ⟨A,hA,hc⟩:=hH'.obj _ _ _ _ _ ho
   rw [hp] at hA
   simp only [Option.some.injEq,Prod.mk.injEq] at hA
   obtain ⟨rfl,rfl⟩:=hA
   rcases hc with ⟨h, _⟩|⟨a',bs',h, _,h2⟩
   ·cases h
   ·simp only [Option.some.injEq,Prod.mk.injEq] at h
    obtain ⟨rfl,rfl⟩:=h
    exact h2.blk
 have hfar:∀o0 mt g sz rs g' a bs o' y g1 a' b',mkH H0 o0=some (.rows mt g sz rs)→φ2 o0=some (g',some (a,bs))→h o'=some y→φ o'=some (g1,some (a',b'))→
   (mt=true∨∃g sz rs,y= .rows true g sz rs)→a.block≠a'.block:=by
  intro o0 mt g sz rs g' a bs o' y g1 a' b' q1 q2 q3 q4 hm
  have hb':=hblk _ _ _ _ _ q3 q4
  rcases hm with rfl|⟨g2,sz2,rs2,rfl⟩
  ·have:=hnew a.block ⟨o0,g,sz,rs, _,a,bs,q1,q2,rfl⟩
   omega
  ·intro he
   obtain ⟨A,hA,hc⟩:=hH3.obj _ _ _ _ _ q1
   rw [q2] at hA
   simp only [Option.some.injEq,Prod.mk.injEq] at hA
   obtain ⟨_,rfl⟩:=hA
   rcases hc with ⟨h, _⟩|⟨a1,bs1,h,hn0, _⟩
   ·cases h
   ·simp only [Option.some.injEq,Prod.mk.injEq] at h
    obtain ⟨rfl,rfl⟩:=h
    exact hn0 (.inr ⟨o',g2,sz2,rs2, _,a',b',q3,q4,he.symm⟩)
 refine ⟨v,φ3,R,zel HH h,n+k2,rfl,hk,⟨fun k hk=>Nat.lt_of_lt_of_le (hH.m0 k hk) st.fr.size,fun o ho=> ?_,fun o mt g sz rs ho=> ?_,fun o o' mt g sz rs mt' g' sz' rs' a a' b b' ho ho' hne hm hp hp'=> ?_,hH'.glob.keep (fun k _ hk=>hheap k hk) hsub'⟩,
  hR.rel (fun o x h=>(e3 o).trans h) hsub hx3,st0.trans ⟨hle3,hsub',⟨st.fr.os,st.fr.tape,st.fr.output,st.fr.drawn,st.fr.size,fun k hk _=>hheap k hk⟩,fun k hk=>(hmut k hk).elim (fun h=> .inr (hnew k h)) .inl⟩⟩
 ·obtain ⟨d,rfl⟩:=Nat.exists_eq_add_of_le (show n≤o by omega)
  rw [e3];exact hH3.fresh d aa
 ·rcases hsrc o _ ho with ⟨o0,x,rfl,h1,h2⟩|⟨h1,h2⟩
  ·cases h2 with
   |rows hs=>
    obtain ⟨A,hA,hc⟩:=hH3.obj _ _ _ _ _ h1
    refine ⟨A,by rw [e3];exact hA,hc.imp (fun h=>⟨h.1, ?_⟩) ?_⟩
    ·obtain ⟨_,rfl⟩:=h
     exact List.eq_nil_of_length_eq_zero hs.shape.1
    ·rintro ⟨a,bs,c1,c3,hd⟩
     exact ⟨a,bs,c1,fun hk=>c3 (.inl hk),hd.turn rfl hs.shape.1 (hs.shape.2 sz) (fun c9=>hs.rel (fun o x h=>(e3 o).trans h) hsub c9)⟩
  ·obtain ⟨A,hA,hc⟩:=hH'.obj _ _ _ _ _ h2
   refine ⟨A,by rw [e3' o h1];exact hA,hc.imp id ?_⟩
   rintro ⟨a,bs,c1,c3,hd⟩
   exact ⟨a,bs,c1,c3,hd.keep (hheap _ hd.blk) (fun c9=>c9.keep hle3 (fun k _ hk=>hheap k hk) hsub')⟩
 ·rcases hsrc o _ ho with ⟨o0,x,rfl,q1,q2⟩|⟨q1,q2⟩<;>rcases hsrc o' _ ho' with ⟨o0',x',rfl,q1',q2'⟩|⟨q1',q2'⟩
  ·cases q2;cases q2'
   rw [e3] at hp hp'
   exact hH3.inj _ _ _ _ _ _ _ _ _ _ _ _ _ _ q1 q1' aa hm hp hp'
  ·cases q2
   rw [e3] at hp;rw [e3' o' q1'] at hp'
   exact hfar _ _ _ _ _ _ _ _ _ _ _ _ _ q1 hp q2' hp' (hm.imp id fun h=>by subst h;exact ⟨_, _, _,rfl⟩)
  ·cases q2'
   rw [e3' o q1] at hp;rw [e3] at hp'
   exact Ne.symm (hfar _ _ _ _ _ _ _ _ _ _ _ _ _ q1' hp' q2 hp (hm.symm.imp id fun h=>by subst h;exact ⟨_, _, _,rfl⟩))
  ·rw [e3' o q1] at hp;rw [e3' o' q1'] at hp'
   exact hH'.inj _ _ _ _ _ _ _ _ _ _ _ _ _ _ q2 q2' hne hm hp hp'

def zhb (P:Program) (f:FuncId) (args:List AV) (R:Nat→AV) (HH:Nat→List (Nat×zbp)) (k:Nat):Prop:=
 zah P f args noH 0 (fun r h n'=>Wk (fun _=>r) h n' [(0,R 0)] (HH 0) k)∧∀n,Sh n (R 0) (R n)∧ShH n (HH 0) (HH n)
theorem zEP {P:Program}{f:FuncId}{args args':List AV}{h:zaq}{n:Nat}{K:zcn}{R:Nat→AV}{HH:Nat→List (Nat×zbp)}{k:Nat} (h':zaq) (hp:zhb P f args' R HH k)
  (hfz:Frz h h') (hle:zav h h' n args args') (hb:∀c ∈ args',Bel 0 c) (hk:K (R n) (zel (HH n) h') (n+k)):zah P f args h n K:=
 zEX h' hp.1 (fun _ _ _ h=>h) (hp.2 n).1 (hp.2 n).2 hfz hle hb hk
theorem zhb.pure {P:Program}{f:FuncId}{args:List AV}{R:Nat→AV}{HH:Nat→List (Nat×zbp)}{k:Nat}{r:AV} (hp:zhb P f args R HH k) (hle:LeV (mkH (HH 0)) noH k (R 0) r) (hb:Bel 0 r):zaD P f args r:=by
 refine ⟨hp.1.1,fun M w vs hM hgl hargs=>(hp.1.2 M noP w vs (zh4 hM hgl) (hargs.keep noP.le_refl (fun _ _ _=>rfl) (fun k hk=>hk.elim .inl fun h=>(zaM h).elim))).mono ?_⟩
 rintro e w' ⟨v,φ',r',h',n',rfl,hk,hH,hx,st⟩
 obtain ⟨φ1,g1,g2, _, _⟩:=hk.sound hH (tmps:=fun _=>v) (fun _=>hx)
 have g2:=g2 0
 simp only [mkE,zax] at g2
 have hk2:Wk (fun _=>R 0) (mkH (HH 0)) k [(0,r)] [] 0:=⟨fun p hp=>by simp at hp;subst hp;exact ⟨hle,hb⟩,fun p hp=>by cases hp⟩
 obtain ⟨φ'',h1,h2,h3, _⟩:=hk2.sound g1 (tmps:=fun _=>v) (fun _=>g2)
 refine ⟨v,rfl, ?_, ?_⟩
 ·have:=h2 0
  simp only [mkE,zax] at this
  refine this.keep (fun o x ho=> ?_) (fun _ _ _=>rfl) (fun k hk=> .inl (.inl hk))
  rw [h1.fresh o (Nat.zero_le _)] at ho;cases ho
 ·exact ⟨st.fr.os,st.fr.tape,st.fr.output,st.fr.drawn,st.fr.size,fun k hk _=>st.fr.block k hk zaM⟩
theorem zEu {P:Program}{f:FuncId}{args:List AV}{h:zaq}{n:Nat}{K:zcn}{R:Nat→AV}{HH:Nat→List (Nat×zbp)}{k:Nat} (hp:zhb P f args R HH k)
  (hb:∀c ∈ args,Bel 0 c) (hk:K (R n) (zel (HH n) h) (n+k)):zah P f args h n K:=
 zEP h hp (.refl h) (.refl _ _ _ _) hb hk
theorem zEU {P:Program}{f:FuncId}{sz:Nat}{rows:List (List AV)}{xs:List AV}{h:zaq}{n:Nat}{K:zcn} (h1:rows≠ []→zah P f (.lst sz rows::xs) h n K)
  (h2:rows= []→∀A c,zah P f (.v (.slice A 0 c)::xs) h n K):zah P f (.lst sz rows::xs) h n K:=by
 by_cases hr:rows= []
 ·refine ⟨(h2 hr none 0).1,fun M0 φ w vs hH hargs=> ?_⟩
  cases hargs with
  |cons hx ht=>
   cases hx with
   |nil _ A c=>exact (h2 hr A c).2 M0 φ w _ hH (.cons (.v _) ht)
   | @lst _ _ a len cap C T fz hs hM hb hrr hl hc hcap hv h=>
    have:len=0:=by rw [hl,hr];rfl
    subst this
    exact (h2 hr (some a) cap).2 M0 φ w _ hH (.cons (.v _) ht)
 ·exact h1 hr
theorem pF {P:Program}{f:FuncId}{fn:Func}{c:Code}{args:List AV}{r:AV} (hf:P.funcs[f]? =some fn) (hh:awp P 0 c (RetQ P fn.results.toList fun r' h' n'=>LeV h' noH n' r' r∧Bel 0 r) (zso 0 args) noH 0) (hmix:P.follows .mixedOrders=true:=by kernel_rfl) (hb:fn.body=some c:=by rfl) (hname:(fn.name== "runtime.NumGoroutine")=false:=by rfl) (hN:args.length≤fn.ntmps:=by exact Nat.le_of_ble_eq_true rfl) (hd:zpx fn.ntmps c=true:=by kernel_rfl) (hG:fn.ntmps≤GH:=by exact Nat.le_of_ble_eq_true rfl):zaD P f args r:=zE6 (zEQ hmix hf hb hname hN hd hh hG)
end Go.Av
end
section
/- Our library, part 13: equations by which code is evaluated. -/
namespace Go.Av
open Go

section
variable {P:Program} {n0:Nat} {Q:zbV} {e:Env} {h:zaq} {n:Nat} {ops rest:List Oper}
def VC (a b:Prop):Prop:=a∧b
theorem zAr {b:Prop}:VC False b=False:=by simp [VC]
def VQ (a b:Prop):Prop:=a∧b
theorem zCX {b:Prop}:VQ True b=b:=by simp [VQ]
theorem VQ.mk {a b:Prop} (h1:a) (h2:a→b):VQ a b:=⟨h1,h2 h1⟩
@[congr] theorem VQ_congr {a b c:Prop} (h1:a=c):VQ a b=VQ c b:=cR
theorem VC.mk {a b:Prop} (h1:a) (h2:a→b):VC a b:=⟨h1,h2 h1⟩
@[congr] theorem VC_congr {a b c:Prop} (h1:a=c):VC a b=VC c b:=cR
def aIf (t:Bool) (a b:Prop):Prop:=(t=true→a)∧(t=false→b)
theorem aIf.mk {t:Bool}{a b:Prop} (h1:t=true→a) (h2:t=false→b):aIf t a b:=⟨h1,h2⟩
theorem zoN (vs:List AV) (i:Nat):zf4 (.tup vs) i=Res.if (i<vs.length) (cel vs i):=rfl
@[congr] theorem aIf_congr {t t':Bool}{a b:Prop} (h:t=t'):aIf t a b=aIf t' a b:=by subst h;rfl
@[congr] theorem upd_congr {α:Type}{f:Nat→α}{k:Nat}{x:α}{j j':Nat} (h:j=j'):upd f k x j=upd f k x j':=by subst h;rfl
theorem zdy {α:Type} [Inhabited α] (x:α) (l:List α):nth (x::l) 0=x:=rfl
theorem zb1 {α:Type} [Inhabited α] (x:α) (l:List α) (k:Nat):nth (x::l) (k+1)=nth l k:=by simp [nth]
theorem zAX (x:AV) (l:List AV):cel (x::l) 0=x:=rfl
theorem zAW (x:AV) (l:List AV) (k:Nat):cel (x::l) (k+1)=cel l k:=by simp [cel]
theorem za9 {α β:Type} [Inhabited α] [Inhabited β] (f:α→β) (l:List α) (i:Nat) (h:i<l.length):nth (l.map f) i=f (nth l i):=by simp [nth,h]
theorem zDo {α:Type} [Inhabited α] (f:α→AV) (l:List α) (i:Nat) (h:i<l.length):cel (l.map f) i=f (nth l i):=by simp [nth,cel,h]
theorem zap {α:Type} [Inhabited α] (l:List α) (i:Nat) (h:i<l.length):nth l i=l[i]:=by simp [nth,h]
theorem zag {α:Type} [Inhabited α] {l:List α}{i:Nat} (h:i<l.length):nth l i ∈ l:=by rw [zap l i h];exact List.getElem_mem _
def zhf (P:Program) (ops:List Oper) (Q:zbV) (rest:List Oper) (e:Env) (h:zaq) (n:Nat):Prop:=zdA P ops Q rest e h n
def zwY (P:Program) (n0:Nat) (c:Code) (Q:zbV) (e:Env) (h:zaq) (n:Nat):Prop:=awp P n0 c Q e h n
theorem zCW:VC True (zhf P ops Q rest e h n)=zdA P ops Q rest e h n:=by simp [VC,zhf]
theorem zEL {a:Prop} (h1:a) (h2:a→zdA P ops Q rest e h n):VC a (zhf P ops Q rest e h n):=⟨h1,h2 h1⟩
theorem zxh {a:Code}{y:Prop}:aIf true (zwY P n0 a Q e h n) y=awp P n0 a Q e h n:=by simp [aIf,zwY]
theorem zvb {b:Code}{y:Prop}:aIf false y (zwY P n0 b Q e h n)=awp P n0 b Q e h n:=by simp [aIf,zwY]
theorem zEr {t:Bool}{a b:Code} (h1:t=true→awp P n0 a Q e h n) (h2:t=false→awp P n0 b Q e h n):aIf t (zwY P n0 a Q e h n) (zwY P n0 b Q e h n):=⟨h1,h2⟩
def zCj (P:Program) (ops:List Oper) (Q:zbV) (rest:List Oper) (dst:Option Tmp) (r:Res) (e:Env) (h:zaq) (n:Nat):Prop:=
  VC r.cond (zdA P ops Q rest (put e dst r.val) (zam r.wr h) (n+r.al))
def zhd (P:Program) (ops:List Oper) (Q:zbV) (rest:List Oper) (dst:Option Tmp) (g:Bool) (r:Res) (e:Env) (h:zaq) (n:Nat):Prop:=
  VC (g=true→r.cond) (zdA P ops Q rest (put e dst (.gd g r.val)) (zam (gW g r.wr) h) (n+gN g r.al))
def zse (P:Program) (ops:List Oper) (Q:zbV) (rest:List Oper) (dst:Option Tmp) (fv:AV) (args:List AV) (e:Env) (h:zaq) (n:Nat):Prop:=
  zgT P fv args h n (fun r h' n'=>zdA P ops Q rest (put e dst r) h' n')∨zkg e fv args h n (fun e' r h'=>zdA P ops Q rest (put e' dst r) h' n)
def zfn (P:Program) (ops:List Oper) (Q:zbV) (rest:List Oper) (dst:Option Tmp) (l:Nat) (args:List AV) (e:Env) (h:zaq) (n:Nat):Prop:=
  zkg e (.fn (.yield l) [] []) args h n (fun e' r h'=>zdA P ops Q rest (put e' dst r) h' n)
theorem zwT {e:Env}{f:FuncId}{a b args:List AV}{h:zaq}{n:Nat}{K:Env→AV→zaq→Prop}:¬zkg e (.fn (.func f) a b) args h n K:=by
  rintro ⟨l,more,rows,h1, _⟩;cases h1
def aGrd (P:Program) (ops:List Oper) (Q:zbV) (rest:List Oper) (dst:Option Tmp) (op:Op) (g:Option Bool) (e:Env) (h:zaq) (n:Nat):Prop:=
  match g with
  |none=>False
  |some g=>VQ (∀t ∈ gT op,okG g (e t)) (zhd P ops Q rest dst g (aev P n op (gE op e) h) e h n)

theorem zAI:awp P n0 .skip Q e h n=Q .normal e h n:=rfl
theorem zxv (l:Nat):awp P n0 (.label l) Q e h n=Q .normal e h n:=rfl
theorem zvj (id:Nat) (ops:List Oper):awp P n0 (.region id ops.toArray false) Q e h n=zdA P ops Q ops e h n:=rfl
theorem zDb (a b:Code):awp P n0 (.seq a b) Q e h n=awp P n0 a (zwV (awp P n0 b Q) Q) e h n:=rfl
def zAt (P:Program) (n0:Nat) (a b:Code) (Q:zbV) (x:AV) (e:Env) (h:zaq) (n:Nat):Prop:=match x with
  | .v (.bool t)=>(t=true→awp P n0 a Q e h n)∧(t=false→awp P n0 b Q e h n)
  | _=>False
theorem zAD (c:Operand) (a b:Code):awp P n0 (.cond c a b) Q e h n=zAt P n0 a b Q (ev e c) e h n:=rfl
theorem zva (a b:Code) (t:Bool):zAt P n0 a b Q (.v (.bool t)) e h n=aIf t (zwY P n0 a Q e h n) (zwY P n0 b Q e h n):=rfl
theorem zxw (b:Code):awp P n0 (.scope b) Q e h n=awp P n0 b (zhE Q) e h n:=rfl
theorem zxu (id:Nat) (b:Code):awp P n0 (.block id b) Q e h n=awp P n0 b (zfW id Q) e h n:=rfl
theorem zAG (b:Code):awp P n0 (.loop b) Q e h n=zaa n0 (awp P n0 b) Q e h n:=rfl
theorem zAF (id:Nat):awp P n0 (.exit id) Q e h n=Q (.exit id) e h n:=rfl
theorem zDa:awp P n0 .ret Q e h n=Q .ret e h n:=rfl
theorem zrV (K:Env→zaq→Nat→Prop):zwV K Q .normal e h n=K e h n:=rfl
theorem zxa (K:Env→zaq→Nat→Prop) (id:Nat):zwV K Q (.exit id) e h n=Q (.exit id) e h n:=rfl
theorem zAl (K:Env→zaq→Nat→Prop):zwV K Q .ret e h n=Q .ret e h n:=rfl
theorem zos:zhE Q .normal e h n=Q .normal e h n:=rfl
theorem zrT (id:Nat):zhE Q (.exit id) e h n=Q (.exit id) e h n:=rfl
theorem zu2:zhE Q .ret e h n=Q .ret e h n:=rfl
theorem zoq (id:Nat):zfW id Q .normal e h n=Q .normal e h n:=rfl
theorem zrP (id id':Nat):zfW id Q (.exit id') e h n=if id'=id then Q .normal e h n else Q (.exit id') e h n:=rfl
theorem zuZ (id:Nat):zfW id Q .ret e h n=Q .ret e h n:=rfl
theorem zAn (rs:List ResultVar) (K:zcn):RetQ P rs K .ret e h n=VQ (zpy P e h rs).1 (K (zCI (zpy P e h rs).2) h n):=rfl
theorem zsb (rs:List ResultVar) (K:zcn):RetQ P rs K .normal e h n=VQ (zpy P e h rs).1 (K (zCI (zpy P e h rs).2) h n):=rfl
theorem zAB:zdA P ops Q [] e h n=Q .normal e h n:=rfl
class zcF (op:Op):Prop where h:zqJ op=false
instance {a}:zcF (.move a):=⟨rfl⟩
instance {a}:zcF (.assign a):=⟨rfl⟩
instance {a b c}:zcF (.pick a b c):=⟨rfl⟩
instance {a}:zcF (.alloc a):=⟨rfl⟩
instance {a b}:zcF (.box a b):=⟨rfl⟩
instance {a b}:zcF (.build a b):=⟨rfl⟩
instance {a b c}:zcF (.buildSlice a b c):=⟨rfl⟩
instance {a b}:zcF (.load a b):=⟨rfl⟩
instance {a b c}:zcF (.store a b c):=⟨rfl⟩
instance {a b c d f}:zcF (.binOp a b c d f):=⟨rfl⟩
instance {a b c}:zcF (.unOp a b c):=⟨rfl⟩
instance {a}:zcF (.nilCheck a):=⟨rfl⟩
instance {a b c}:zcF (.convert a b c):=⟨rfl⟩
instance {a b c}:zcF (.makeFunc a b c):=⟨rfl⟩
instance {a b c}:zcF (.makeSlice a b c):=⟨rfl⟩
instance {a b c d f}:zcF (.slice a b c d f):=⟨rfl⟩
instance {a b c}:zcF (.fieldAddr a b c):=⟨rfl⟩
instance {a b c}:zcF (.field a b c):=⟨rfl⟩
instance {a b c}:zcF (.indexAddr a b c):=⟨rfl⟩
instance {a b c}:zcF (.index a b c):=⟨rfl⟩
instance {a b}:zcF (.extract a b):=⟨rfl⟩
instance {a b}:zcF (.makeMap a b):=⟨rfl⟩
instance {a b c d}:zcF (.mapUpdate a b c d):=⟨rfl⟩
instance {a b c d}:zcF (.insert a b c d):=⟨rfl⟩
instance {a b c d}:zcF (.lookup a b c d):=⟨rfl⟩
instance {a b}:zcF (.makeInterface a b):=⟨rfl⟩
instance {a}:zcF (.panic a):=⟨rfl⟩
instance {a b c}:zcF (.call ⟨.builtin a,b,c⟩):=⟨rfl⟩
theorem zxs {dst:Option Tmp}{op:Op}{ty:TypeId}{pos:String}{after:Array Edge} [nc:zcF op]:
    zdA P ops Q (⟨dst,op,ty,pos,after,none⟩::rest) e h n=zCj P ops Q rest dst (aev P n op e h) e h n:=by
  have hc:=nc.h
  unfold zdA zCj
  cases op with
  |call c=>
    obtain ⟨callee,args,ats⟩:=c
    cases callee with
    |value f=>simp [zqJ] at hc
    | _=>rfl
  | _=>rfl
theorem zxr {dst:Option Tmp}{f:Operand}{args:Array Operand}{ats:Array TypeId}{ty:TypeId}{pos:String}{after:Array Edge}:
    zdA P ops Q (⟨dst, .call ⟨.value f,args,ats⟩,ty,pos,after,none⟩::rest) e h n=zse P ops Q rest dst (ev e f) (args.toList.map (ev e)) e h n:=rfl
theorem zxt {dst:Option Tmp}{op:Op}{ty:TypeId}{pos:String}{after:Array Edge}{j:Nat}{want:Bool} [nc:zcF op]:
    zdA P ops Q (⟨dst,op,ty,pos,after,some (j,want)⟩::rest) e h n=aGrd P ops Q rest dst op ((ze8 ops j).bind fun t=>zgb (e t) want) e h n:=by
  have hc:=nc.h
  unfold zdA aGrd zhd
  cases op with
  |call c=>
    obtain ⟨callee,args,ats⟩:=c
    cases callee with
    |value f=>simp [zqJ] at hc
    | _=>rfl
  | _=>rfl
theorem aRes_0 {d:Tmp}{c:Prop}{x:AV}:zCj P ops Q rest (some d) ⟨c,x, [],0⟩ e h n=VC c (zhf P ops Q rest (upd e d x) h n):=rfl
theorem zC4 {c:Prop}{x:AV}:zCj P ops Q rest none ⟨c,x, [],0⟩ e h n=VC c (zhf P ops Q rest e h n):=rfl
theorem aRes_1 {d:Tmp}{c:Prop}{x:AV}{o:Nat}{y:Option zbp}{al:Nat}:zCj P ops Q rest (some d) ⟨c,x, [(o,y)],al⟩ e h n=VC c (zhf P ops Q rest (upd e d x) (upd h o y) (n+al)):=rfl
theorem zC5 {c:Prop}{x:AV}{o:Nat}{y:Option zbp}{al:Nat}:zCj P ops Q rest none ⟨c,x, [(o,y)],al⟩ e h n=VC c (zhf P ops Q rest e (upd h o y) (n+al)):=rfl
theorem zC0 {d:Tmp}{g:Bool}{c:Prop}{x:AV}:zhd P ops Q rest (some d) g ⟨c,x, [],0⟩ e h n=VC (g=true→c) (zhf P ops Q rest (upd e d (.gd g x)) h n):=by
  cases g<;>simp [zhd,put,VC,zhf,gW,gN,zam]
theorem zC2 {d:Tmp}{c:Prop}{x:AV}{o:Nat}{y:Option zbp}{al:Nat}:zhd P ops Q rest (some d) true ⟨c,x, [(o,y)],al⟩ e h n=VC c (zhf P ops Q rest (upd e d (.gd true x)) (upd h o y) (n+al)):=by
  simp [zhd,put,VC,zhf,gW,gN,zam]
theorem zAv {c:Prop}{x:AV}{o:Nat}{y:Option zbp}{al:Nat}:zhd P ops Q rest none true ⟨c,x, [(o,y)],al⟩ e h n=VC c (zhf P ops Q rest e (upd h o y) (n+al)):=by
  simp [zhd,put,VC,zhf,gW,gN,zam]
theorem zC1 {d:Tmp}{r:Res}:zhd P ops Q rest (some d) false r e h n=zdA P ops Q rest (upd e d (.gd false r.val)) h n:=by
  simp [zhd,put,VC,gW,gN,zam]
theorem zAu {r:Res}:zhd P ops Q rest none false r e h n=zdA P ops Q rest e h n:=by
  simp [zhd,put,VC,gW,gN,zam]
theorem zxg {dst:Option Tmp}{op:Op}{g:Bool}:aGrd P ops Q rest dst op (some g) e h n=(VQ (∀t ∈ gT op,okG g (e t)) (zhd P ops Q rest dst g (aev P n op (gE op e) h) e h n)):=rfl
theorem zAs {dst:Option Tmp}{f:FuncId}{first caps args:List AV}:
    zse P ops Q rest dst (.fn (.func f) first caps) args e h n=zah P f (first++args++caps) h n fun r h' n'=>zdA P ops Q rest (put e dst r) h' n':=by
  unfold zse
  simp only [zgT]
  exact propext ⟨fun h=>h.elim id (fun h=>(zwT h).elim), .inl⟩
theorem zsf {dst:Option Tmp}{l:Nat}{args:List AV}:zse P ops Q rest dst (.fn (.yield l) [] []) args e h n=zfn P ops Q rest dst l args e h n:=by
  unfold zse zfn
  simp only [zgT]
  exact propext ⟨fun h=>h.elim False.elim id, .inr⟩
end
theorem zBX (e:Env) (d:Nat) (x:AV):put e (some d) x=upd e d x:=rfl
theorem zBW (e:Env) (x:AV):put e none x=e:=rfl

section congr
variable {P:Program} {n0:Nat} {Q:zbV} {e e':Env} {h h':zaq} {n n':Nat} {ops rest:List Oper}
@[congr] theorem awp_congr {c:Code} (h3:n=n'):awp P n0 c Q e h n=awp P n0 c Q e h n':=cq
@[congr] theorem zCZ {a b:Code}{x x':AV} (h0:x=x'):zAt P n0 a b Q x e h n=zAt P n0 a b Q x' e h n:=by subst h0;rfl
@[congr] theorem zEj (h3:n=n'):zdA P ops Q rest e h n=zdA P ops Q rest e h n':=cq
@[congr] theorem zEg {dst:Option Tmp}{r r':Res} (h0:r=r'):zCj P ops Q rest dst r e h n=zCj P ops Q rest dst r' e h n:=by subst h0;rfl
@[congr] theorem zC3 {dst:Option Tmp}{g g':Bool}{r r':Res} (hg:g=g') (h0:r=r'):zhd P ops Q rest dst g r e h n=zhd P ops Q rest dst g' r' e h n:=by subst h0 hg;rfl
@[congr] theorem zCY {dst:Option Tmp}{fv fv':AV}{args args':List AV} (h0:fv=fv') (h1:args=args'):zse P ops Q rest dst fv args e h n=zse P ops Q rest dst fv' args' e h n:=by subst h0 h1;rfl
@[congr] theorem zEf {dst:Option Tmp}{op:Op}{g g':Option Bool} (h0:g=g'):aGrd P ops Q rest dst op g e h n=aGrd P ops Q rest dst op g' e h n:=by subst h0;rfl
@[congr] theorem zCd {f:FuncId}{args args':List AV}{K:zcn} (h1:args=args'):zah P f args h n K=zah P f args' h n K:=cR
@[congr] theorem zCJ {B:zbV→Env→zaq→Nat→Prop} (h3:n=n'):zaa n0 B Q e h n=zaa n0 B Q e h n':=cq
@[congr] theorem zEe {K:Env→zaq→Nat→Prop}{x:Exit} (h3:n=n'):zwV K Q x e h n=zwV K Q x e h n':=cq
@[congr] theorem zCh {x:Exit} (h3:n=n'):zhE Q x e h n=zhE Q x e h n':=cq
@[congr] theorem zCg {id:Nat}{x:Exit} (h3:n=n'):zfW id Q x e h n=zfW id Q x e h n':=cq
end congr

theorem zCM {n:Nat}:Bel n .top=True:=eq_true .top
theorem zok {n:Nat}{x:Value}:Bel n (.v x)=True:=eq_true (.v x)
theorem zCK {n:Nat}{cs:List AV}:Bel n (.agg cs)=∀c ∈ cs,Bel n c:=propext ⟨fun h=>aW, .agg⟩
theorem zfi {n:Nat}{cs:List AV}:Bel n (.tup cs)=∀c ∈ cs,Bel n c:=propext ⟨fun h=>aW, .tup⟩
theorem zbt {n sz:Nat}{rows:List (List AV)}:Bel n (.lst sz rows)=∀r ∈ rows,∀c ∈ r,Bel n c:=propext ⟨fun h=>aW, .lst⟩
theorem Bel_fp {n:Nat}{cs:List AV}:Bel n (.fp cs)=∀c ∈ cs,Bel n c:=propext ⟨fun h=>aW, .fp⟩
theorem zCL {n o g sz i off:Nat}:Bel n (.ref o g sz i off)=(o<n):=propext ⟨fun h=>aW, .ref⟩
theorem Bel_sl {n o g sz i len:Nat}:Bel n (.sl o g sz i len)=(o<n):=propext ⟨fun h=>aW, .sl⟩
theorem Bel_fn {n:Nat}{f:Fn}{a b:List AV}:Bel n (.fn f a b)=((∀c ∈ a,Bel n c)∧∀c ∈ b,Bel n c):=propext ⟨fun h=>dy,fun h=> .fn h.1 h.2⟩
theorem Bel_mp {n o:Nat}:Bel n (.mp o)=(o<n):=propext ⟨fun h=>aW, .mp⟩
theorem zhB {n:Nat}{g:Bool}{x:AV}:Bel n (.gd g x)=Bel n x:=propext ⟨fun h=>aW, .gd⟩

theorem zBS {g:Bool}{x:AV}:okG g (.gd g x)=True:=eq_true (fun h=>h)
theorem okG_gd {g g':Bool}{x:AV}:okG g (.gd g' x)=(g=true→g'=true):=rfl
theorem okG_v {g:Bool}{x:Value}:okG g (.v x)=True:=rfl
theorem zD0 {o g sz i off:Nat}{b:Bool}:okG b (.ref o g sz i off)=True:=rfl
theorem okG_sl {o g sz i len:Nat}{b:Bool}:okG b (.sl o g sz i len)=True:=rfl
theorem zDZ {b:Bool}{sz:Nat}{rows:List (List AV)}:okG b (.lst sz rows)=True:=rfl
theorem okG_fp {b:Bool}{cs:List AV}:okG b (.fp cs)=True:=rfl
theorem zDY {b:Bool}{cs:List AV}:okG b (.agg cs)=True:=rfl
theorem zD2 {b:Bool}{cs:List AV}:okG b (.tup cs)=True:=rfl
theorem okG_fn {b:Bool}{f:Fn}{x y:List AV}:okG b (.fn f x y)=True:=rfl
theorem zD1 {b:Bool}:okG b .top=True:=rfl
attribute [go_sem high] zBS
attribute [go_sem] zCW zxh zvb zCX zAr zdy zb1 za9 zAX zAW zDo zAI zxv zvj zDb zAD zva zxu zAG zAF zDa zrV zxa zAl zoq zrP zuZ zxw zos zrT zu2 zAn zsb
 zf5 zcQ zer zCz zo5 zds zeu
  zAB zxr zxs zxt aRes_0 zC4 aRes_1 zC5 zC0 zC2 zAv zC1 zAu zxg zAs zBX zBW aev ev ofV zzT zql pB evEq zqg zyf zye zjH zlk zf3 eqS zev gE gT zyc evUn zjG zhU zdq zb8 zlh zb9 zli zqj zDL
  zam unG okG_gd okG_v zD0 okG_sl zDZ okG_fp zDY zD2 okG_fn zD1 zcD Op.operands Call.operands zgb ze8 AV.cells AV.okCells AV.isCell zcG zat zvI zeD zoL zyE zeU zyd zBs zc9 zdX zea zf6 ziR zcZ zcz zda zfs setMany zgk zpy zCI zso
  zCM zok zCK zfi zbt Bel_fp zCL Bel_sl Bel_fn Bel_mp zhB

section draw
variable {P:Program} {n0:Nat} {Q:zbV} {e e':Env} {h h':zaq} {n i i':Nat} {ops rest:List Oper} {acc:List zfj} {K:Env→zaq→List zfj→Prop}
def zmR (Q:zbV) (ops:List Oper) (n:Nat) (e:Env) (h:zaq) (recs:List zfj):Prop:=zl1 ops recs=true∧((zzb recs=true∧Q .normal e h n)∨Q .normal e h (n+16 * ops.length))
def adr (P:Program) (n:Nat) (ops:List Oper) (Q:zbV) (m:Nat) (i:Nat) (rest:List Oper) (e:Env) (h:zaq) (acc:List zfj):Prop:=zdn P n ops (zmR Q ops m) i rest e h acc
def zpQ (P:Program) (n:Nat) (ops:List Oper) (Q:zbV) (m:Nat) (i:Nat) (rest:List Oper) (e:Env) (h:zaq) (acc:List zfj):Prop:=zdn P n ops (zmR Q ops m) i rest e h acc
variable {m:Nat}
def zrE (P:Program) (n:Nat) (ops:List Oper) (Q:zbV) (e:Env) (h:zaq):Prop:=∃h',Frz h h'∧zvd P ops Q e h' n
theorem ztP (hk:adr P n ops Q (n+ops.length) 0 ops e h []):zvd P ops Q e h n:=by
  refine ⟨ops.length, ?_⟩
  rw [List.take_length,List.drop_length]
  exact hk
theorem wZ (hk:adr P n ops Q (n+ops.length) 0 ops e h []):zrE P n ops Q e h:=⟨h, .refl h,ztP hk⟩
theorem zrE.frz (h':zaq) (hf:Frz h h') (hk:adr P n ops Q (n+ops.length) 0 ops e h' []):zrE P n ops Q e h:=⟨h',hf,ztP hk⟩
def QTail (P:Program) (ops:List Oper) (Q:zbV) (k:Nat):zbV
  | .normal,e,h,n=>zdA P ops Q (ops.drop k) e h n
  | _, _, _, _=>False
theorem zpK {k:Nat}:QTail P ops Q k .normal e h n=zdA P ops Q (ops.drop k) e h n:=rfl
theorem zrE.split (k:Nat) (hk:adr P n ops (QTail P ops Q k) (n+ops.length) 0 (ops.take k) e h []):zrE P n ops Q e h:=⟨h, .refl h,k,hk⟩
attribute [go_sem] zpK
theorem zAE (id:Nat) (ops:List Oper):awp P n0 (.region id ops.toArray true) Q e h n=zrE P n ops Q e h:=rfl
def zCq (P:Program) (n:Nat) (ops:List Oper) (Q:zbV) (m:Nat) (i:Nat) (rest:List Oper) (dst:Option Tmp) (rd:List Nat) (r:Res) (e:Env) (h:zaq) (acc:List zfj):Prop:=
  VC r.cond (adr P n ops Q m (i+1) rest (put e dst r.val) (zam r.wr h) (acc++ [(rd,r.wr.map (·.1))]))
def zhk (P:Program) (n:Nat) (ops:List Oper) (Q:zbV) (m:Nat) (i:Nat) (rest:List Oper) (dst:Option Tmp) (g:Bool) (rd:List Nat) (r:Res) (e:Env) (h:zaq) (acc:List zfj):Prop:=
  VC (g=true→r.cond) (adr P n ops Q m (i+1) rest (put e dst (.gd g r.val)) (zam (gW g r.wr) h) (acc++ [(rd,(gW g r.wr).map (·.1))]))
def dGrd (P:Program) (n:Nat) (ops:List Oper) (Q:zbV) (m:Nat) (i:Nat) (rest:List Oper) (dst:Option Tmp) (op:Op) (g:Option Bool) (e:Env) (h:zaq) (acc:List zfj):Prop:=
  match g with
  |none=>False
  |some g=>VQ (∀t ∈ gT op,okG g (e t)) (zhk P n ops Q m i rest dst g ((op.operands.toList.map (ev (gE op e))).flatMap AV.ids) (aev P (n+i) op (gE op e) h) e h acc)
def zbq (P:Program) (n:Nat) (ops:List Oper) (Q:zbV) (m:Nat) (i:Nat) (rest:List Oper) (dst:Option Tmp) (fv:AV) (args:List AV) (e:Env) (h:zaq) (acc:List zfj):Prop:=
  ∃r S wr,zgY P (n+ops.length+16 * i) fv args h r S wr∧adr P n ops Q m (i+1) rest (put e dst r) (zam wr h) (acc++ [(S,wr.map (·.1))])
theorem zC8:adr P n ops Q m i [] e h acc=zmR Q ops m e h acc:=rfl
theorem zAy {dst:Option Tmp}{op:Op}{ty:TypeId}{pos:String}{after:Array Edge} [nc:zcF op]:
    adr P n ops Q m i (⟨dst,op,ty,pos,after,none⟩::rest) e h acc=zCq P n ops Q m i rest dst ((op.operands.toList.map (ev e)).flatMap AV.ids) (aev P (n+i) op e h) e h acc:=by
  have hc:=nc.h
  unfold adr zCq
  cases op with
  |call c=>
    obtain ⟨callee,args,ats⟩:=c
    cases callee with
    |value f=>simp [zqJ] at hc
    | _=>rfl
  | _=>rfl
theorem zAx {dst:Option Tmp}{f:Operand}{args:Array Operand}{ats:Array TypeId}{ty:TypeId}{pos:String}{after:Array Edge}:
    adr P n ops Q m i (⟨dst, .call ⟨.value f,args,ats⟩,ty,pos,after,none⟩::rest) e h acc=zbq P n ops Q m i rest dst (ev e f) (args.toList.map (ev e)) e h acc:=rfl
theorem zAz {dst:Option Tmp}{op:Op}{ty:TypeId}{pos:String}{after:Array Edge}{j:Nat}{want:Bool} [nc:zcF op]:
    adr P n ops Q m i (⟨dst,op,ty,pos,after,some (j,want)⟩::rest) e h acc=dGrd P n ops Q m i rest dst op ((ze8 ops j).bind fun t=>zgb (e t) want) e h acc:=by
  have hc:=nc.h
  unfold adr dGrd zhk
  cases op with
  |call c=>
    obtain ⟨callee,args,ats⟩:=c
    cases callee with
    |value f=>simp [zqJ] at hc
    | _=>rfl
  | _=>rfl
theorem VC_adr:VC True (zpQ P n ops Q m i rest e h acc)=adr P n ops Q m i rest e h acc:=by simp [VC,zpQ,adr]
theorem zET {a:Prop} (h1:a) (h2:a→adr P n ops Q m i rest e h acc):VC a (zpQ P n ops Q m i rest e h acc):=⟨h1,h2 h1⟩
theorem zmR.mk {recs:List zfj} (h1:(zl1 ops recs && zzb recs)=true) (h2:Q .normal e h n):zmR Q ops n e h recs:=by
  rw [Bool.and_eq_true] at h1
  exact ⟨h1.1, .inl ⟨h1.2,h2⟩⟩
theorem zEW {recs:List zfj} (h1:zl1 ops recs=true) (h2:Q .normal e h (n+16 * ops.length)):zmR Q ops n e h recs:=⟨h1, .inr h2⟩
theorem wL {a:Prop} (h2:a→zdA P ops Q rest e h n) (h1:a:=by first|omega|exact True.intro|rfl):VC a (zhf P ops Q rest e h n):=⟨h1,h2 h1⟩
theorem wD {a:Prop} (h2:a→adr P n ops Q m i rest e h acc) (h1:a:=by first|omega|exact True.intro|(intros;omega)):VC a (zpQ P n ops Q m i rest e h acc):=⟨h1,h2 h1⟩
theorem wE {recs:List zfj} (h2:Q .normal e h n) (h1:(zl1 ops recs && zzb recs)=true:=by kernel_rfl):zmR Q ops n e h recs:=zmR.mk h1 h2
theorem dRes_0 {d:Tmp}{rd:List Nat}{c:Prop}{x:AV}:zCq P n ops Q m i rest (some d) rd ⟨c,x, [],0⟩ e h acc=VC c (zpQ P n ops Q m (i+1) rest (upd e d x) h (acc++ [(rd, [])])):=rfl
theorem zDw {rd:List Nat}{c:Prop}{x:AV}:zCq P n ops Q m i rest none rd ⟨c,x, [],0⟩ e h acc=VC c (zpQ P n ops Q m (i+1) rest e h (acc++ [(rd, [])])):=rfl
theorem dRes_1 {d:Tmp}{rd:List Nat}{c:Prop}{x:AV}{o:Nat}{y:Option zbp}{al:Nat}:zCq P n ops Q m i rest (some d) rd ⟨c,x, [(o,y)],al⟩ e h acc=VC c (zpQ P n ops Q m (i+1) rest (upd e d x) (upd h o y) (acc++ [(rd, [o])])):=rfl
theorem zDx {rd:List Nat}{c:Prop}{x:AV}{o:Nat}{y:Option zbp}{al:Nat}:zCq P n ops Q m i rest none rd ⟨c,x, [(o,y)],al⟩ e h acc=VC c (zpQ P n ops Q m (i+1) rest e (upd h o y) (acc++ [(rd, [o])])):=rfl
theorem zDs {d:Tmp}{g:Bool}{rd:List Nat}{c:Prop}{x:AV}:zhk P n ops Q m i rest (some d) g rd ⟨c,x, [],0⟩ e h acc=VC (g=true→c) (zpQ P n ops Q m (i+1) rest (upd e d (.gd g x)) h (acc++ [(rd, [])])):=by
  cases g<;>simp [zhk,put,VC,adr,zpQ,gW,zam]
theorem zDu {d:Tmp}{rd:List Nat}{c:Prop}{x:AV}{o:Nat}{y:Option zbp}{al:Nat}:zhk P n ops Q m i rest (some d) true rd ⟨c,x, [(o,y)],al⟩ e h acc=VC c (zpQ P n ops Q m (i+1) rest (upd e d (.gd true x)) (upd h o y) (acc++ [(rd, [o])])):=by
  simp [zhk,put,VC,adr,zpQ,gW,zam]
theorem zA3 {rd:List Nat}{c:Prop}{x:AV}{o:Nat}{y:Option zbp}{al:Nat}:zhk P n ops Q m i rest none true rd ⟨c,x, [(o,y)],al⟩ e h acc=VC c (zpQ P n ops Q m (i+1) rest e (upd h o y) (acc++ [(rd, [o])])):=by
  simp [zhk,put,VC,adr,zpQ,gW,zam]
theorem zDt {d:Tmp}{rd:List Nat}{r:Res}:zhk P n ops Q m i rest (some d) false rd r e h acc=adr P n ops Q m (i+1) rest (upd e d (.gd false r.val)) h (acc++ [(rd, [])]):=by
  simp [zhk,put,VC,adr,gW,zam]
theorem zA2 {rd:List Nat}{r:Res}:zhk P n ops Q m i rest none false rd r e h acc=adr P n ops Q m (i+1) rest e h (acc++ [(rd, [])]):=by
  simp [zhk,put,VC,adr,gW,zam]
theorem zx0 {dst:Option Tmp}{op:Op}{g:Bool}:dGrd P n ops Q m i rest dst op (some g) e h acc=VQ (∀t ∈ gT op,okG g (e t)) (zhk P n ops Q m i rest dst g ((op.operands.toList.map (ev (gE op e))).flatMap AV.ids) (aev P (n+i) op (gE op e) h) e h acc):=rfl
theorem zEI {dst:Option Tmp}{f:FuncId}{first caps args:List AV} (args':List AV) (r:AV) (S:List Nat) (hp:zaD P f args' r) (hfl:ztF r) (hle:∀h₁:zaq,(∀o ∈ S,h o=h₁ o)→zav h₁ noH 0 (first++args++caps) args') (hb:∀c ∈ args',Bel 0 c)
    (hk:adr P n ops Q m (i+1) rest (put e dst r) h (acc++ [(S, [])])):zbq P n ops Q m i rest dst (.fn (.func f) first caps) args e h acc:=⟨r,S, [], .inl ⟨rfl,f,first,caps,args',rfl,hb,hp, .inl ⟨hle,hfl⟩⟩,hk⟩
theorem zEB {dst:Option Tmp}{f:FuncId}{first caps args:List AV}{r:AV} (hp:zaD P f (first++args++caps) r) (hb:∀c ∈ first++args++caps,Bel 0 c)
    (hk:adr P n ops Q m (i+1) rest (put e dst r) h (acc++ [([], [])])):zbq P n ops Q m i rest dst (.fn (.func f) first caps) args e h acc:=⟨r, [], [], .inl ⟨rfl,f,first,caps, _,rfl,hb,hp, .inr rfl⟩,hk⟩
theorem zbq.frz {dst:Option Tmp}{f:FuncId}{first caps args:List AV} (args':List AV) (r:AV) (S:List Nat) (wr:List (Nat×Option zbp)) (hp:zaD P f args' r)
    (hw:∀p ∈ wr,p.1 ∈ S∧∃g sz rs,p.2=some (.rows false g sz rs)∧h p.1=some (.rows true g sz rs)) (hle:∀h₁:zaq,(∀o ∈ S,h o=h₁ o)→zav h₁ (zam wr h₁) 0 (first++args++caps) args') (hb:∀c ∈ args',Bel 0 c)
    (hk:adr P n ops Q m (i+1) rest (put e dst r) (zam wr h) (acc++ [(S,wr.map (·.1))])):zbq P n ops Q m i rest dst (.fn (.func f) first caps) args e h acc:=⟨r,S,wr, .inr (.inl ⟨f,first,caps,args',rfl,hb,hp,hw,hle⟩),hk⟩
@[congr] theorem adr_congr (h1:i=i'):adr P n ops Q m i rest e h acc=adr P n ops Q m i' rest e h acc:=cR
@[congr] theorem zEi (h1:i=i'):zpQ P n ops Q m i rest e h acc=zpQ P n ops Q m i' rest e h acc:=cR
@[congr] theorem zEm {dst:Option Tmp}{rd rd':List Nat}{r r':Res} (h1:i=i') (h2:rd=rd') (h0:r=r'):zCq P n ops Q m i rest dst rd r e h acc=zCq P n ops Q m i' rest dst rd' r' e h acc:=by subst h0 h1 h2;rfl
@[congr] theorem zDv {dst:Option Tmp}{g g':Bool}{rd rd':List Nat}{r r':Res} (h1:i=i') (hg:g=g') (h2:rd=rd') (h0:r=r'):zhk P n ops Q m i rest dst g rd r e h acc=zhk P n ops Q m i' rest dst g' rd' r' e h acc:=by subst h0 h1 h2 hg;rfl
@[congr] theorem zEl {dst:Option Tmp}{op:Op}{g g':Option Bool} (h1:i=i') (h0:g=g'):dGrd P n ops Q m i rest dst op g e h acc=dGrd P n ops Q m i' rest dst op g' e h acc:=by subst h0 h1;rfl
@[congr] theorem zDr {dst:Option Tmp}{fv fv':AV}{args args':List AV} (h1:i=i') (h0:fv=fv') (h2:args=args'):zbq P n ops Q m i rest dst fv args e h acc=zbq P n ops Q m i' rest dst fv' args' e h acc:=by subst h0 h1 h2;rfl
@[congr] theorem zEk {acc acc':List zfj}{n':Nat} (h1:n=n') (h0:acc=acc'):zmR Q ops n e h acc=zmR Q ops n' e h acc':=by subst h0 h1;rfl
end draw
section drawEq
variable {P:Program} {Q:zbV} {e:Env} {h:zaq} {n m i:Nat} {ops rest:List Oper} {acc:List zfj} {dst:Option Tmp} {ty:TypeId} {pos:String} {after:Array Edge} {j:Nat} {want:Bool}
end drawEq
attribute [go_sem] zAE zC8 zAx zAy zAz VC_adr dRes_0 zDw dRes_1 zDx zDs zDu zA3 zDt zA2 zx0 AV.ids List.flatMap_cons List.flatMap_nil
section gcall
variable {P:Program} {Q:zbV} {e:Env} {h:zaq} {n m i:Nat} {ops rest:List Oper} {acc:List zfj}
def aGC (P:Program) (ops:List Oper) (Q:zbV) (rest:List Oper) (dst:Option Tmp) (g:Bool) (fv:AV) (args:List AV) (e:Env) (h:zaq) (n:Nat):Prop:=
  (∃x,(g=true→zgT P fv args h n fun r h' n'=>r=x∧h'=h∧n'=n)∧zdA P ops Q rest (put e dst (.gd g x)) h n)∨
  (g=true∧zgT P fv args h n fun r h' n'=>zdA P ops Q rest (put e dst (.gd true r)) h' n')∨
  (g=true∧zkg e fv args h n fun e' r h'=>zdA P ops Q rest (put e' dst (.gd true r)) h' n)
def zkh (P:Program) (ops:List Oper) (Q:zbV) (rest:List Oper) (dst:Option Tmp) (f:Operand) (args:List Operand) (op:Op) (g:Option Bool) (e:Env) (h:zaq) (n:Nat):Prop:=
  match g with
  |none=>False
  |some g=>VQ (∀t ∈ zcD op,okG g (e t)) (aGC P ops Q rest dst g (ev (fun t=>unG (e t)) f) (args.map (ev fun t=>unG (e t))) e h n)
theorem zvh {dst:Option Tmp}{f:Operand}{args:Array Operand}{ats:Array TypeId}{ty:TypeId}{pos:String}{after:Array Edge}{j:Nat}{want:Bool}:
    zdA P ops Q (⟨dst, .call ⟨.value f,args,ats⟩,ty,pos,after,some (j,want)⟩::rest) e h n=zkh P ops Q rest dst f args.toList (.call ⟨.value f,args,ats⟩) ((ze8 ops j).bind fun t=>zgb (e t) want) e h n:=rfl
theorem zow {dst:Option Tmp}{f:Operand}{args:List Operand}{op:Op}{g:Bool}:zkh P ops Q rest dst f args op (some g) e h n=VQ (∀t ∈ zcD op,okG g (e t)) (aGC P ops Q rest dst g (ev (fun t=>unG (e t)) f) (args.map (ev fun t=>unG (e t))) e h n):=rfl
theorem zER {dst:Option Tmp}{g:Bool}{f:FuncId}{first caps args:List AV} (args':List AV) (r:AV) (hp:g=true→zaD P f args' r) (hfl:ztF r) (hle:zav h noH n (first++args++caps) args') (hb:∀c ∈ args',Bel 0 c)
    (hk:zdA P ops Q rest (put e dst (.gd g r)) h n):aGC P ops Q rest dst g (.fn (.func f) first caps) args e h n:=
  .inl ⟨r,fun hg=>zEJ (hp hg) hfl hle hb ⟨rfl,rfl,rfl⟩,hk⟩
theorem zEy {dst:Option Tmp}{g:Bool}{f:FuncId}{first caps args:List AV} (r:AV) (hp:g=true→zaD P f (first++args++caps) r) (hb:∀c ∈ first++args++caps,Bel 0 c)
    (hk:zdA P ops Q rest (put e dst (.gd g r)) h n):aGC P ops Q rest dst g (.fn (.func f) first caps) args e h n:=
  .inl ⟨r,fun hg=>zEt (hp hg) hb ⟨rfl,rfl,rfl⟩,hk⟩
theorem aGC.skip (x:AV){dst:Option Tmp}{fv:AV}{args:List AV} (hk:zdA P ops Q rest (put e dst (.gd false x)) h n):aGC P ops Q rest dst false fv args e h n:= .inl ⟨x,(fun hg=>nomatch hg),hk⟩
theorem aGC.go {dst:Option Tmp}{f:FuncId}{first caps args:List AV} (hk:zah P f (first++args++caps) h n fun r h' n'=>zdA P ops Q rest (put e dst (.gd true r)) h' n'):aGC P ops Q rest dst true (.fn (.func f) first caps) args e h n:= .inr (.inl ⟨rfl,hk⟩)
def dGC (P:Program) (n:Nat) (ops:List Oper) (Q:zbV) (m:Nat) (i:Nat) (rest:List Oper) (dst:Option Tmp) (g:Bool) (fv:AV) (args:List AV) (e:Env) (h:zaq) (acc:List zfj):Prop:=
  ∃r S wr,(g=true→zgY P (n+ops.length+16 * i) fv args h r S wr)∧(g=false→wr= [])∧adr P n ops Q m (i+1) rest (put e dst (.gd g r)) (zam wr h) (acc++ [(S,wr.map (·.1))])
def zkl (P:Program) (n:Nat) (ops:List Oper) (Q:zbV) (m:Nat) (i:Nat) (rest:List Oper) (dst:Option Tmp) (f:Operand) (args:List Operand) (op:Op) (g:Option Bool) (e:Env) (h:zaq) (acc:List zfj):Prop:=
  match g with
  |none=>False
  |some g=>VQ (∀t ∈ zcD op,okG g (e t)) (dGC P n ops Q m i rest dst g (ev (fun t=>unG (e t)) f) (args.map (ev fun t=>unG (e t))) e h acc)
theorem zxl {dst:Option Tmp}{f:Operand}{args:Array Operand}{ats:Array TypeId}{ty:TypeId}{pos:String}{after:Array Edge}{j:Nat}{want:Bool}:
    adr P n ops Q m i (⟨dst, .call ⟨.value f,args,ats⟩,ty,pos,after,some (j,want)⟩::rest) e h acc=zkl P n ops Q m i rest dst f args.toList (.call ⟨.value f,args,ats⟩) ((ze8 ops j).bind fun t=>zgb (e t) want) e h acc:=rfl
theorem zoJ {dst:Option Tmp}{f:Operand}{args:List Operand}{op:Op}{g:Bool}:zkl P n ops Q m i rest dst f args op (some g) e h acc=VQ (∀t ∈ zcD op,okG g (e t)) (dGC P n ops Q m i rest dst g (ev (fun t=>unG (e t)) f) (args.map (ev fun t=>unG (e t))) e h acc):=rfl
theorem zE5 {dst:Option Tmp}{g:Bool}{f:FuncId}{first caps args:List AV} (args':List AV) (r:AV) (S:List Nat) (hp:g=true→zaD P f args' r) (hfl:ztF r) (hle:∀h₁:zaq,(∀o ∈ S,h o=h₁ o)→zav h₁ noH 0 (first++args++caps) args')
    (hb:∀c ∈ args',Bel 0 c) (hk:adr P n ops Q m (i+1) rest (put e dst (.gd g r)) h (acc++ [(S, [])])):dGC P n ops Q m i rest dst g (.fn (.func f) first caps) args e h acc:=
  ⟨r,S, [],fun hg=> .inl ⟨rfl,f,first,caps,args',rfl,hb,hp hg, .inl ⟨hle,hfl⟩⟩,fun _=>rfl,hk⟩
theorem zEx {dst:Option Tmp}{g:Bool}{f:FuncId}{first caps args:List AV} (r:AV) (hp:g=true→zaD P f (first++args++caps) r) (hb:∀c ∈ first++args++caps,Bel 0 c)
    (hk:adr P n ops Q m (i+1) rest (put e dst (.gd g r)) h (acc++ [([], [])])):dGC P n ops Q m i rest dst g (.fn (.func f) first caps) args e h acc:=
  ⟨r, [], [],fun hg=> .inl ⟨rfl,f,first,caps, _,rfl,hb,hp hg, .inr rfl⟩,fun _=>rfl,hk⟩
theorem dGC.skip (x:AV){dst:Option Tmp}{fv:AV}{args:List AV} (hk:adr P n ops Q m (i+1) rest (put e dst (.gd false x)) h (acc++ [([], [])])):dGC P n ops Q m i rest dst false fv args e h acc:=
  ⟨x, [], [],(fun hg=>nomatch hg),fun _=>rfl,hk⟩
theorem dGC.frz {dst:Option Tmp}{f:FuncId}{first caps args:List AV} (args':List AV) (r:AV) (S:List Nat) (wr:List (Nat×Option zbp)) (hp:zaD P f args' r)
    (hw:∀p ∈ wr,p.1 ∈ S∧∃g sz rs,p.2=some (.rows false g sz rs)∧h p.1=some (.rows true g sz rs)) (hle:∀h₁:zaq,(∀o ∈ S,h o=h₁ o)→zav h₁ (zam wr h₁) 0 (first++args++caps) args') (hb:∀c ∈ args',Bel 0 c)
    (hk:adr P n ops Q m (i+1) rest (put e dst (.gd true r)) (zam wr h) (acc++ [(S,wr.map (·.1))])):dGC P n ops Q m i rest dst true (.fn (.func f) first caps) args e h acc:=
  ⟨r,S,wr,fun _=> .inr (.inl ⟨f,first,caps,args',rfl,hb,hp,hw,hle⟩),(fun h=>nomatch h),hk⟩
@[congr] theorem aGC_congr {dst:Option Tmp}{g g':Bool}{fv fv':AV}{args args':List AV} (hg:g=g') (h0:fv=fv') (h1:args=args'):aGC P ops Q rest dst g fv args e h n=aGC P ops Q rest dst g' fv' args' e h n:=by subst h0 h1 hg;rfl
@[congr] theorem zz3 {dst:Option Tmp}{f:Operand}{args:List Operand}{op:Op}{g g':Option Bool} (h0:g=g'):zkh P ops Q rest dst f args op g e h n=zkh P ops Q rest dst f args op g' e h n:=by subst h0;rfl
@[congr] theorem dGC_congr {dst:Option Tmp}{g g':Bool}{fv fv':AV}{args args':List AV}{i':Nat} (hi:i=i') (hg:g=g') (h0:fv=fv') (h1:args=args'):dGC P n ops Q m i rest dst g fv args e h acc=dGC P n ops Q m i' rest dst g' fv' args' e h acc:=by subst h0 h1 hg hi;rfl
@[congr] theorem zz4 {dst:Option Tmp}{f:Operand}{args:List Operand}{op:Op}{g g':Option Bool}{i':Nat} (hi:i=i') (h0:g=g'):zkl P n ops Q m i rest dst f args op g e h acc=zkl P n ops Q m i' rest dst f args op g' e h acc:=by subst h0 hi;rfl
end gcall
attribute [go_sem] zvh zow zxl zoJ

theorem zou {n:Nat}:∀ {xs:List AV},(∀c ∈ xs,Bel 0 c)→ShL n xs xs
  | [], _=> .nil
  |x::xs,h=> .cons (.same (h x ad)) (zou fun c hc=>h c bc)
theorem Sh_agg {n:Nat}{xs ys:List AV}:Sh n (.agg xs) (.agg ys)=ShL n xs ys:=propext ⟨fun h=>by
  cases h with
  |same h=>cases h with|agg h=>exact zou h
  |agg h=>exact h, .agg⟩
theorem Sh_tup {n:Nat}{xs ys:List AV}:Sh n (.tup xs) (.tup ys)=ShL n xs ys:=propext ⟨fun h=>by
  cases h with
  |same h=>cases h with|tup h=>exact zou h
  |tup h=>exact h, .tup⟩
theorem Sh_fn {n:Nat}{f:Fn}{a b a' b':List AV} (h:ShL n a a') (h':ShL n b b'):Sh n (.fn f a b) (.fn f a' b')=True:=eq_true (.fn h h')
theorem Sh_ref {n o g sz i off:Nat}:Sh n (.ref o g sz i off) (.ref (n+o) g sz i off)=True:=eq_true .ref
theorem Sh_sl {n o g sz i len:Nat}:Sh n (.sl o g sz i len) (.sl (n+o) g sz i len)=True:=eq_true .sl
theorem zCV {n g sz i off:Nat}:Sh n (.ref 0 g sz i off) (.ref n g sz i off)=True:=eq_true (.ref (o:=0))
theorem Sh_sl0 {n g sz i len:Nat}:Sh n (.sl 0 g sz i len) (.sl n g sz i len)=True:=eq_true (.sl (o:=0))
theorem Sh_v {n:Nat}{x:Value}:Sh n (.v x) (.v x)=True:=eq_true (.same (.v x))
theorem Sh_lst {n sz:Nat}{rows:List (List AV)} (h:∀r ∈ rows,∀c ∈ r,Bel 0 c):Sh n (.lst sz rows) (.lst sz rows)=True:=eq_true (.same (.lst h))
theorem zCU {n:Nat}:ShL n [] []=True:=eq_true .nil
theorem zAp {n:Nat}{x y:AV}{xs ys:List AV}:ShL n (x::xs) (y::ys)=(Sh n x y∧ShL n xs ys):=propext ⟨fun h=>bW,fun h=> .cons h.1 h.2⟩
theorem zxf {n:Nat}{rs:List (List AV)} (h:∀r ∈ rs,∀c ∈ r,Bel 0 c):ztL n rs rs=True:=eq_true (.same h)
theorem zAo {n:Nat}:ztL n [] []=True:=eq_true .nil
theorem zxe {n:Nat}{x y:List AV}{xs ys:List (List AV)} (h:ShL n x y∧ztL n xs ys):ztL n (x::xs) (y::ys)=True:=eq_true (.cons h.1 h.2)
theorem zAq {n:Nat}{mt:Bool}{g sz:Nat}{rs rs':List (List AV)}:ShO n (.rows mt g sz rs) (.rows mt g sz rs')=ztL n rs rs':=propext ⟨fun h=>aW, .rows⟩
theorem zCT {n:Nat}:ShH n [] []=True:=eq_true .nil
theorem ztK {n o:Nat}{x y:zbp}{l l':List (Nat×zbp)}:ShH n ((o,x)::l) ((n+o,y)::l')=(ShO n x y∧ShH n l l'):=
  propext ⟨fun h=>bW,fun h=> .cons h.1 h.2⟩
theorem zxd {n:Nat}{x y:zbp}{l l':List (Nat×zbp)}:ShH n ((0,x)::l) ((n,y)::l')=(ShO n x y∧ShH n l l'):=ztK (o:=0)
attribute [go_sem] Sh_agg Sh_tup Sh_fn Sh_ref Sh_sl zCV Sh_sl0 Sh_v Sh_lst zCU zAp zxf zAo zxe zAq zCT ztK zxd zel
theorem zBD {h h':zaq}{n:Nat}{x:AV}:LeV h h' n x x:= .refl x
attribute [go_sem] zBD
theorem zCN {n:Int}:InR .i64 n=(-9223372036854775808≤n∧n≤9223372036854775807):=by
  simp [InR,IntKind.min,IntKind.max,IntKind.signed,IntKind.bits]
theorem InR_u8 {n:Int}:InR .u8 n=(0≤n∧n≤255):=by
  simp [InR,IntKind.min,IntKind.max,IntKind.signed,IntKind.bits]
theorem zw7 {n:Int}:InR .u64 n=(0≤n∧n≤18446744073709551615):=by
  simp [InR,IntKind.min,IntKind.max,IntKind.signed,IntKind.bits]
theorem zCO {n:Int}:InR .u32 n=(0≤n∧n≤4294967295):=by
  simp [InR,IntKind.min,IntKind.max,IntKind.signed,IntKind.bits]
attribute [go_sem] zCN InR_u8 zw7 zCO
theorem oc_int {k:IntKind}{n:Int}:(Value.int k n).oneCell'=true:=rfl
theorem zDX {b:Bool}:(Value.bool b).oneCell'=true:=rfl
theorem zBR {a:Option Addr}{l c:Nat}:(Value.slice a l c).oneCell'=true:=rfl
theorem zwe {a:Option Addr}:(Value.pointer a).oneCell'=true:=rfl
attribute [go_sem] oc_int zDX zBR zwe
structure LS where
  E:List (Nat×AV)
  H:List (Nat×zbp)
  n:Nat
def zw1 (n0:Nat) (B:zbV→Env→zaq→Nat→Prop) (Q:zbV) (s:LS):Prop:=zaa n0 B Q (mkE s.E) (mkH s.H) s.n
theorem zEs {P:Program}{n0:Nat}{b:Code}{Q:zbV}{α:Type} (S:α→LS) (I:Nat→α→Prop)
    (step:∀d a,I d a→(∀d',d'<d→∀a',I d' a'→zw1 n0 (awp P n0 b) Q (S a'))→awp P n0 b (zwV (zaa n0 (awp P n0 b) Q) Q) (mkE (S a).E) (mkH (S a).H) (S a).n):
    ∀d a,I d a→zw1 n0 (awp P n0 b) Q (S a):=by
  intro d
  induction d using Nat.strongRecOn with
  |ind d ih=>intro a ha;exact zEq (step d a ha fun d' hd a' ha'=>ih d' hd a' ha')
theorem zEp {P:Program}{n0:Nat}{b:Code}{Q:zbV}{e:Env}{h:zaq}{n:Nat}{s:LS} (hh:zw1 n0 (awp P n0 b) Q s) (hk:Wk e h n s.E s.H s.n) (hn:n0≤s.n):zaa n0 (awp P n0 b) Q e h n:=
  zaa.forget s.E s.H s.n hk hn hh
theorem zad {e:Env}{h:zaq}{n:Nat}{E:List (Nat×AV)}{HH:List (Nat×zbp)}{n':Nat}:
    Wk e h n E HH n'=((∀p ∈ E,LeV h (mkH HH) n (e p.1) p.2∧Bel n' p.2)∧∀p ∈ HH,p.1<n'∧LeO h (mkH HH) n p.1 (h p.1) p.2∧zCe n' p.2):=
  propext ⟨fun h=>⟨h.1,h.2⟩,fun h=>⟨h.1,h.2⟩⟩
theorem zBB {h h':zaq}{n o:Nat}{mt:Bool}{g sz:Nat}{rs:List (List AV)}:LeO h h' n o (some (.rows mt g sz rs)) (.rows mt g sz rs)=True:=eq_true (.same (fun h=>h) (.refl _))
theorem zDM {h h':zaq}{n o g sz:Nat} (hn:n≤o):LeO h h' n o none (.rows true g sz [])=True:=eq_true (.own hn)
theorem zyT {h h':zaq}{n:Nat}:zav h h' n [] []=True:=eq_true .nil
theorem zv5 {h h':zaq}{n:Nat}{x y:AV}{xs ys:List AV}:zav h h' n (x::xs) (y::ys)=(LeV h h' n x y∧zav h h' n xs ys):=
  propext ⟨fun h=>bW,fun h=> .cons h.1 h.2⟩
theorem zDN {h h':zaq}{n sz c:Nat}{A:Option Addr}:LeV h h' n (.v (.slice A 0 c)) (.lst sz [])=True:=eq_true (.nil sz)
theorem zDP {h h':zaq}{n:Nat}{x:AV}:LeV h h' n x .top=True:=eq_true (.top x)
theorem zDO {h h':zaq}{n o g sz:Nat} (hn:n≤o) (ho:h' o=some (.rows true g sz [])):LeV h h' n (.v (.slice none 0 0)) (.sl o g sz 0 0)=True:=eq_true (.own hn ho)
theorem noH_eq (o:Nat):noH o=none:=rfl
theorem zak {h h':zaq}{n o g sz i len:Nat}{mt:Bool}{rs rows:List (List AV)} (ho:h o=some (.rows mt g sz rs)) (hl:i+len≤rs.length) (ho':∀g sz rs,h' o≠some (.rows true g sz rs)) (hr:(rs.drop i).take len=rows):
    LeV h h' n (.sl o g sz i len) (.lst sz rows):= .frz ho hl ho' (hr▸ .refl _)
theorem zav.of_eq {h h':zaq}{n:Nat}{xs ys:List AV} (e:xs=ys):zav h h' n xs ys:=e▸ .refl _ _ _ _
theorem zBA {h h':zaq}{n o:Nat}{mt mt':Bool}{g g' sz sz':Nat}{rs rs':List (List AV)}:LeO h h' n o (some (.rows mt g sz rs)) (.rows mt' g' sz' rs')=(g=g'∧sz=sz'∧(mt'=true→mt=true)∧zaN h h' n rs rs'):=
  propext ⟨fun h=>by cases h with|same hm hr=>exact ⟨rfl,rfl,hm,hr⟩,fun ⟨h1,h2,h3,h4⟩=>by subst h1 h2;exact .same h3 h4⟩
theorem zs3 {h h':zaq}{n:Nat}{rs:List (List AV)}:zaN h h' n rs rs=True:=eq_true (.refl _)
theorem zs1 {h h':zaq}{n:Nat}{x y:List AV}{xs ys:List (List AV)}:zaN h h' n (x::xs) (y::ys)=(zav h h' n x y∧zaN h h' n xs ys):=
  propext ⟨fun h=>by cases h with
    |refl=>exact ⟨.refl _ _ _ _, .refl _⟩
    |cons h t=>exact ⟨h,t⟩,fun h=> .cons h.1 h.2⟩
theorem zBC {h h':zaq}{n:Nat}{xs ys:List AV}:LeV h h' n (.agg xs) (.agg ys)=zav h h' n xs ys:=
  propext ⟨fun h=>by cases h with
    |refl=>exact .refl _ _ _ _
    |agg h=>exact h, .agg⟩
theorem zBE {h h':zaq}{n:Nat}{xs ys:List AV}:LeV h h' n (.tup xs) (.tup ys)=zav h h' n xs ys:=
  propext ⟨fun h=>by cases h with
    |refl=>exact .refl _ _ _ _
    |tup h=>exact h, .tup⟩
theorem NoFz_v {x:Value}:zfV (.v x)=True:=eq_true (.v x)
theorem zAj {o g sz i off:Nat}:zfV (.ref o g sz i off)=True:=eq_true (.ref ..)
theorem zCS {o g sz i len:Nat}:zfV (.sl o g sz i len)=True:=eq_true (.sl ..)
theorem zAi {xs:List AV}:zfV (.agg xs)=∀x ∈ xs,zfV x:=propext ⟨fun h=>aW, .agg⟩
theorem zAk {xs:List AV}:zfV (.tup xs)=∀x ∈ xs,zfV x:=propext ⟨fun h=>aW, .tup⟩
theorem zCR {f:Fn}{a b:List AV}:zfV (.fn f a b)=((∀x ∈ a,zfV x)∧∀x ∈ b,zfV x):=propext ⟨fun h=>dy,fun h=> .fn h.1 h.2⟩
theorem zEC {P:Program}{f:FuncId}{args args':List AV}{h:zaq}{n:Nat}{K:zcn}{R:Nat→AV}{HH:Nat→List (Nat×zbp)}{k:Nat} (hp:zhb P f args' R HH k)
    (hnR:zfV (R 0)) (hnH:∀p ∈ HH 0,zpH p.2) (hle:zav h noH n args args') (hb:∀c ∈ args',Bel 0 c) (hk:K (R n) (zel (HH n) h) (n+k)):zah P f args h n K:=
  zEV hp.1 (fun _ _ _ h=>h) (hp.2 n).1 (hp.2 n).2 hnR hnH hle hb hk
attribute [go_sem] zBA zs3 zs1 zBC zBE NoFz_v zAj zCS zAi zAk zCR zpH zoN
attribute [go_sem] noH_eq zDO zDM mkE mkH zCe zBB zyT zv5 zDN zDP List.forall_mem_cons
theorem LeV.of_eq {h h':zaq}{n:Nat}{x y:AV} (e:x=y):LeV h h' n x y:=e▸ .refl x
theorem nadd (a b c:Nat):a+b+c=a+(b+c):=Nat.add_assoc a b c
attribute [go_sem] nadd
class WS (G:Prop) (a X:outParam Prop):Prop where out:a→(a→X)→G
instance {P:Program}{ops:List Oper}{Q:zbV}{rest:List Oper}{e:Env}{h:zaq}{n:Nat}{a:Prop}:WS (VC a (zhf P ops Q rest e h n)) a (zdA P ops Q rest e h n):=⟨fun h1 h2=>wL h2 h1⟩
instance {P:Program}{ops:List Oper}{Q:zbV}{rest:List Oper}{e:Env}{h:zaq}{n m i:Nat}{a:Prop}{acc:List zfj}:WS (VC a (zpQ P n ops Q m i rest e h acc)) a (adr P n ops Q m i rest e h acc):=⟨fun h1 h2=>wD h2 h1⟩
instance {P:Program}{ops:List Oper}{Q:zbV}{e:Env}{h:zaq}{n:Nat}:WS (zrE P n ops Q e h) True (adr P n ops Q (n+ops.length) 0 ops e h []):=⟨fun _ h2=>wZ (h2 trivial)⟩
def KR (p:Prop):Prop:=p
theorem kr {p:Prop} (h:p):KR p:=h
instance {ops:List Oper}{Q:zbV}{n:Nat}{e:Env}{h:zaq}{recs:List zfj}:WS (zmR Q ops n e h recs) (KR ((zl1 ops recs && zzb recs)=true)) (Q .normal e h n):=⟨fun h1 h2=>zmR.mk h1 (h2 h1)⟩
theorem wV {G a X:Prop} [i:WS G a X] (h2:a→X) (h1:a:=by with_reducible first|omega|exact True.intro|rfl|(refine kr ?_;kernel_rfl)|(intros;omega)):G:=i.out h1 h2
theorem leX {p:Prop} (h:p:=by ((try simp only [zaW,zbw,zcC,zdi,zaK,zc5,zaS,zaw,zae,zhR,zbX,zaC,zai,zac,List.map_cons,List.map_nil,List.nil_append,List.append_nil,List.cons_append]);(repeat (first|(with_reducible exact zav.nil)|(with_reducible exact zaN.nil)|(with_reducible exact LeV.refl _)|(with_reducible exact zav.refl _ _ _ _)|(with_reducible exact zaN.refl _)|(with_reducible refine zav.cons ?_ ?_)|(with_reducible refine zaN.cons ?_ ?_)|(with_reducible refine LeV.agg ?_)|(with_reducible refine LeV.tup ?_)|(with_reducible refine LeV.fn ?_ ?_)|(with_reducible exact LeV.nil _)|(with_reducible refine za7 (zaN.refl _) ?_)|((refine zak rfl ad ba ?_);(first|(simp [go_sem];done)|(simp [go_sem];exact List.take_of_length_le ad)))|((refine LeV.frz rfl ad ba ?_);(simp only [List.drop_zero,List.take_succ_cons,List.take_zero,List.map_cons,List.map_nil]))|((refine LeV.frzP rfl ad ad ba ?_);(simp only [zdy,List.drop_zero])))))):p:=h
theorem blX {p:Prop} (h:p:=by (intro r hr c hc;(first|(rcases hr with ⟨_, _,rfl⟩|rfl)|(rcases hr with rfl|⟨_, _,rfl⟩)|(rcases hr with rfl|rfl)|((rcases List.mem_or_eq_of_mem_set hr with hr|rfl)<;>first|(obtain ⟨_, _,rfl⟩:=List.mem_map.1 hr;simp only [zaB] at hc)|skip)|(rcases hr with ⟨_,rfl⟩|⟨_,rfl⟩)|(rcases hr with ⟨_, _,rfl⟩|⟨_,rfl⟩)|(rcases hr with ⟨_,rfl⟩|⟨_, _,rfl⟩)|(rcases hr with ⟨_, _,rfl⟩|⟨_, _,rfl⟩)|(obtain ⟨_,rfl⟩:=hr)|(obtain ⟨_, _,rfl⟩:=hr))<;>simp at hc<;>(try subst hc)<;>first|exact .v _|(rcases hc with rfl|rfl<;>exact .v _))):p:=h
theorem dpX {p:Prop} (h:p:=by ((refine LeV.frz rfl ad aB ?_);(try simp only [List.drop_zero,List.take_succ_cons,List.take_zero,List.map_cons,List.map_nil]);(repeat (first|(with_reducible exact zaN.nil)|(with_reducible refine zaN.cons ?_ ?_)|(with_reducible exact zav.nil)|(with_reducible refine zav.cons ?_ ?_)|(with_reducible exact LeV.refl _)|(refine zak rfl ad aB ?_;first|(simp [go_sem];done)|(simp [go_sem];exact List.take_of_length_le ad)))))):p:=h
theorem agX {p:Prop} (h:p:=by ((try simp only [zaS,zaw,zae,zhR,zbX,zaC,zai,List.nil_append,List.append_nil,List.cons_append]);(repeat (first|(with_reducible exact zav.nil)|(with_reducible refine zav.cons ?_ ?_)|(with_reducible exact LeV.refl _)|(with_reducible refine LeV.agg ?_)|((refine zak rfl ad ba ?_);(first|(simp [go_sem];done)|(simp [go_sem];exact List.take_of_length_le ad))))))):p:=h
theorem rwX {p:Prop} (h:p:=by ((refine za7 (.refl _) ?_);(repeat (first|(with_reducible exact zaN.nil)|(with_reducible refine zaN.cons ?_ ?_)|(with_reducible exact zav.nil)|(with_reducible refine zav.cons ?_ ?_)|(with_reducible exact LeV.refl _)|(refine zak rfl ad aB ?_;first|(simp [go_sem];done)|(simp [go_sem];exact List.take_of_length_le ad)))))):p:=h
theorem frX {p:Prop} (h:p:=by (refine zak rfl ad aB ?_;first|(simp [go_sem];done)|(simp [go_sem];exact List.take_of_length_le ad))):p:=h
structure KX (p:Prop):Prop where out:p
theorem J0 {X G:Prop} (h:X) (q:KX X→G:=by intro h;(repeat first|refine wV fun _=>?_|simp [go_sem]);exact h.out):G:=q ⟨h⟩
theorem J1 {F0:Prop}{X G:Prop} (f0:F0) (h:X) (q:F0→KX X→G:=by intro f0 h;(repeat first|refine wV fun _=>?_|simp [go_sem,f0]);exact h.out):G:=q f0 ⟨h⟩
theorem J10 {F0:Prop}{F1:Prop}{F2:Prop}{F3:Prop}{F4:Prop}{F5:Prop}{F6:Prop}{F7:Prop}{F8:Prop}{F9:Prop}{X G:Prop} (f0:F0) (f1:F1) (f2:F2) (f3:F3) (f4:F4) (f5:F5) (f6:F6) (f7:F7) (f8:F8) (f9:F9) (h:X) (q:F0→F1→F2→F3→F4→F5→F6→F7→F8→F9→KX X→G:=by intro f0 f1 f2 f3 f4 f5 f6 f7 f8 f9 h;(repeat first|refine wV fun _=>?_|simp [go_sem,f0,f1,f2,f3,f4,f5,f6,f7,f8,f9]);exact h.out):G:=q f0 f1 f2 f3 f4 f5 f6 f7 f8 f9 ⟨h⟩
theorem J11 {F0:Prop}{F1:Prop}{F2:Prop}{F3:Prop}{F4:Prop}{F5:Prop}{F6:Prop}{F7:Prop}{F8:Prop}{F9:Prop}{F10:Prop}{X G:Prop} (f0:F0) (f1:F1) (f2:F2) (f3:F3) (f4:F4) (f5:F5) (f6:F6) (f7:F7) (f8:F8) (f9:F9) (f10:F10) (h:X) (q:F0→F1→F2→F3→F4→F5→F6→F7→F8→F9→F10→KX X→G:=by intro f0 f1 f2 f3 f4 f5 f6 f7 f8 f9 f10 h;(repeat first|refine wV fun _=>?_|simp [go_sem,f0,f1,f2,f3,f4,f5,f6,f7,f8,f9,f10]);exact h.out):G:=q f0 f1 f2 f3 f4 f5 f6 f7 f8 f9 f10 ⟨h⟩
theorem J12 {F0:Prop}{F1:Prop}{F2:Prop}{F3:Prop}{F4:Prop}{F5:Prop}{F6:Prop}{F7:Prop}{F8:Prop}{F9:Prop}{F10:Prop}{F11:Prop}{X G:Prop} (f0:F0) (f1:F1) (f2:F2) (f3:F3) (f4:F4) (f5:F5) (f6:F6) (f7:F7) (f8:F8) (f9:F9) (f10:F10) (f11:F11) (h:X) (q:F0→F1→F2→F3→F4→F5→F6→F7→F8→F9→F10→F11→KX X→G:=by intro f0 f1 f2 f3 f4 f5 f6 f7 f8 f9 f10 f11 h;(repeat first|refine wV fun _=>?_|simp [go_sem,f0,f1,f2,f3,f4,f5,f6,f7,f8,f9,f10,f11]);exact h.out):G:=q f0 f1 f2 f3 f4 f5 f6 f7 f8 f9 f10 f11 ⟨h⟩
theorem J2 {F0:Prop}{F1:Prop}{X G:Prop} (f0:F0) (f1:F1) (h:X) (q:F0→F1→KX X→G:=by intro f0 f1 h;(repeat first|refine wV fun _=>?_|simp [go_sem,f0,f1]);exact h.out):G:=q f0 f1 ⟨h⟩
theorem J3 {F0:Prop}{F1:Prop}{F2:Prop}{X G:Prop} (f0:F0) (f1:F1) (f2:F2) (h:X) (q:F0→F1→F2→KX X→G:=by intro f0 f1 f2 h;(repeat first|refine wV fun _=>?_|simp [go_sem,f0,f1,f2]);exact h.out):G:=q f0 f1 f2 ⟨h⟩
theorem J4 {F0:Prop}{F1:Prop}{F2:Prop}{F3:Prop}{X G:Prop} (f0:F0) (f1:F1) (f2:F2) (f3:F3) (h:X) (q:F0→F1→F2→F3→KX X→G:=by intro f0 f1 f2 f3 h;(repeat first|refine wV fun _=>?_|simp [go_sem,f0,f1,f2,f3]);exact h.out):G:=q f0 f1 f2 f3 ⟨h⟩
theorem J5 {F0:Prop}{F1:Prop}{F2:Prop}{F3:Prop}{F4:Prop}{X G:Prop} (f0:F0) (f1:F1) (f2:F2) (f3:F3) (f4:F4) (h:X) (q:F0→F1→F2→F3→F4→KX X→G:=by intro f0 f1 f2 f3 f4 h;(repeat first|refine wV fun _=>?_|simp [go_sem,f0,f1,f2,f3,f4]);exact h.out):G:=q f0 f1 f2 f3 f4 ⟨h⟩
theorem J6 {F0:Prop}{F1:Prop}{F2:Prop}{F3:Prop}{F4:Prop}{F5:Prop}{X G:Prop} (f0:F0) (f1:F1) (f2:F2) (f3:F3) (f4:F4) (f5:F5) (h:X) (q:F0→F1→F2→F3→F4→F5→KX X→G:=by intro f0 f1 f2 f3 f4 f5 h;(repeat first|refine wV fun _=>?_|simp [go_sem,f0,f1,f2,f3,f4,f5]);exact h.out):G:=q f0 f1 f2 f3 f4 f5 ⟨h⟩
theorem J7 {F0:Prop}{F1:Prop}{F2:Prop}{F3:Prop}{F4:Prop}{F5:Prop}{F6:Prop}{X G:Prop} (f0:F0) (f1:F1) (f2:F2) (f3:F3) (f4:F4) (f5:F5) (f6:F6) (h:X) (q:F0→F1→F2→F3→F4→F5→F6→KX X→G:=by intro f0 f1 f2 f3 f4 f5 f6 h;(repeat first|refine wV fun _=>?_|simp [go_sem,f0,f1,f2,f3,f4,f5,f6]);exact h.out):G:=q f0 f1 f2 f3 f4 f5 f6 ⟨h⟩
theorem J8 {F0:Prop}{F1:Prop}{F2:Prop}{F3:Prop}{F4:Prop}{F5:Prop}{F6:Prop}{F7:Prop}{X G:Prop} (f0:F0) (f1:F1) (f2:F2) (f3:F3) (f4:F4) (f5:F5) (f6:F6) (f7:F7) (h:X) (q:F0→F1→F2→F3→F4→F5→F6→F7→KX X→G:=by intro f0 f1 f2 f3 f4 f5 f6 f7 h;(repeat first|refine wV fun _=>?_|simp [go_sem,f0,f1,f2,f3,f4,f5,f6,f7]);exact h.out):G:=q f0 f1 f2 f3 f4 f5 f6 f7 ⟨h⟩
theorem J9 {F0:Prop}{F1:Prop}{F2:Prop}{F3:Prop}{F4:Prop}{F5:Prop}{F6:Prop}{F7:Prop}{F8:Prop}{X G:Prop} (f0:F0) (f1:F1) (f2:F2) (f3:F3) (f4:F4) (f5:F5) (f6:F6) (f7:F7) (f8:F8) (h:X) (q:F0→F1→F2→F3→F4→F5→F6→F7→F8→KX X→G:=by intro f0 f1 f2 f3 f4 f5 f6 f7 f8 h;(repeat first|refine wV fun _=>?_|simp [go_sem,f0,f1,f2,f3,f4,f5,f6,f7,f8]);exact h.out):G:=q f0 f1 f2 f3 f4 f5 f6 f7 f8 ⟨h⟩
theorem Jg0 {X G:Prop} (h:X) (q:KX X→G:=by intro h;(repeat first|refine wV fun _=>?_|simp [go_sem,GH]);exact h.out):G:=q ⟨h⟩
theorem Jg1 {F0:Prop}{X G:Prop} (f0:F0) (h:X) (q:F0→KX X→G:=by intro f0 h;(repeat first|refine wV fun _=>?_|simp [go_sem,GH,f0]);exact h.out):G:=q f0 ⟨h⟩
theorem Jg2 {F0:Prop}{F1:Prop}{X G:Prop} (f0:F0) (f1:F1) (h:X) (q:F0→F1→KX X→G:=by intro f0 f1 h;(repeat first|refine wV fun _=>?_|simp [go_sem,GH,f0,f1]);exact h.out):G:=q f0 f1 ⟨h⟩
theorem Jg3 {F0:Prop}{F1:Prop}{F2:Prop}{X G:Prop} (f0:F0) (f1:F1) (f2:F2) (h:X) (q:F0→F1→F2→KX X→G:=by intro f0 f1 f2 h;(repeat first|refine wV fun _=>?_|simp [go_sem,GH,f0,f1,f2]);exact h.out):G:=q f0 f1 f2 ⟨h⟩
theorem Jg4 {F0:Prop}{F1:Prop}{F2:Prop}{F3:Prop}{X G:Prop} (f0:F0) (f1:F1) (f2:F2) (f3:F3) (h:X) (q:F0→F1→F2→F3→KX X→G:=by intro f0 f1 f2 f3 h;(repeat first|refine wV fun _=>?_|simp [go_sem,GH,f0,f1,f2,f3]);exact h.out):G:=q f0 f1 f2 f3 ⟨h⟩
theorem Jg5 {F0:Prop}{F1:Prop}{F2:Prop}{F3:Prop}{F4:Prop}{X G:Prop} (f0:F0) (f1:F1) (f2:F2) (f3:F3) (f4:F4) (h:X) (q:F0→F1→F2→F3→F4→KX X→G:=by intro f0 f1 f2 f3 f4 h;(repeat first|refine wV fun _=>?_|simp [go_sem,GH,f0,f1,f2,f3,f4]);exact h.out):G:=q f0 f1 f2 f3 f4 ⟨h⟩
theorem Jg6 {F0:Prop}{F1:Prop}{F2:Prop}{F3:Prop}{F4:Prop}{F5:Prop}{X G:Prop} (f0:F0) (f1:F1) (f2:F2) (f3:F3) (f4:F4) (f5:F5) (h:X) (q:F0→F1→F2→F3→F4→F5→KX X→G:=by intro f0 f1 f2 f3 f4 f5 h;(repeat first|refine wV fun _=>?_|simp [go_sem,GH,f0,f1,f2,f3,f4,f5]);exact h.out):G:=q f0 f1 f2 f3 f4 f5 ⟨h⟩
theorem Jg7 {F0:Prop}{F1:Prop}{F2:Prop}{F3:Prop}{F4:Prop}{F5:Prop}{F6:Prop}{X G:Prop} (f0:F0) (f1:F1) (f2:F2) (f3:F3) (f4:F4) (f5:F5) (f6:F6) (h:X) (q:F0→F1→F2→F3→F4→F5→F6→KX X→G:=by intro f0 f1 f2 f3 f4 f5 f6 h;(repeat first|refine wV fun _=>?_|simp [go_sem,GH,f0,f1,f2,f3,f4,f5,f6]);exact h.out):G:=q f0 f1 f2 f3 f4 f5 f6 ⟨h⟩
theorem Jg8 {F0:Prop}{F1:Prop}{F2:Prop}{F3:Prop}{F4:Prop}{F5:Prop}{F6:Prop}{F7:Prop}{X G:Prop} (f0:F0) (f1:F1) (f2:F2) (f3:F3) (f4:F4) (f5:F5) (f6:F6) (f7:F7) (h:X) (q:F0→F1→F2→F3→F4→F5→F6→F7→KX X→G:=by intro f0 f1 f2 f3 f4 f5 f6 f7 h;(repeat first|refine wV fun _=>?_|simp [go_sem,GH,f0,f1,f2,f3,f4,f5,f6,f7]);exact h.out):G:=q f0 f1 f2 f3 f4 f5 f6 f7 ⟨h⟩
theorem Jg9 {F0:Prop}{F1:Prop}{F2:Prop}{F3:Prop}{F4:Prop}{F5:Prop}{F6:Prop}{F7:Prop}{F8:Prop}{X G:Prop} (f0:F0) (f1:F1) (f2:F2) (f3:F3) (f4:F4) (f5:F5) (f6:F6) (f7:F7) (f8:F8) (h:X) (q:F0→F1→F2→F3→F4→F5→F6→F7→F8→KX X→G:=by intro f0 f1 f2 f3 f4 f5 f6 f7 f8 h;(repeat first|refine wV fun _=>?_|simp [go_sem,GH,f0,f1,f2,f3,f4,f5,f6,f7,f8]);exact h.out):G:=q f0 f1 f2 f3 f4 f5 f6 f7 f8 ⟨h⟩
theorem K0 {G:Prop} (q:G:=by (repeat first|refine wV fun _=>?_|simp [go_sem])):G:=q
theorem K1 {F0:Prop}{G:Prop} (f0:F0) (q:F0→G:=by intro f0;(repeat first|refine wV fun _=>?_|simp [go_sem,f0])):G:=q f0
theorem K2 {F0:Prop}{F1:Prop}{G:Prop} (f0:F0) (f1:F1) (q:F0→F1→G:=by intro f0 f1;(repeat first|refine wV fun _=>?_|simp [go_sem,f0,f1])):G:=q f0 f1
theorem K3 {F0:Prop}{F1:Prop}{F2:Prop}{G:Prop} (f0:F0) (f1:F1) (f2:F2) (q:F0→F1→F2→G:=by intro f0 f1 f2;(repeat first|refine wV fun _=>?_|simp [go_sem,f0,f1,f2])):G:=q f0 f1 f2
theorem K4 {F0:Prop}{F1:Prop}{F2:Prop}{F3:Prop}{G:Prop} (f0:F0) (f1:F1) (f2:F2) (f3:F3) (q:F0→F1→F2→F3→G:=by intro f0 f1 f2 f3;(repeat first|refine wV fun _=>?_|simp [go_sem,f0,f1,f2,f3])):G:=q f0 f1 f2 f3
theorem K5 {F0:Prop}{F1:Prop}{F2:Prop}{F3:Prop}{F4:Prop}{G:Prop} (f0:F0) (f1:F1) (f2:F2) (f3:F3) (f4:F4) (q:F0→F1→F2→F3→F4→G:=by intro f0 f1 f2 f3 f4;(repeat first|refine wV fun _=>?_|simp [go_sem,f0,f1,f2,f3,f4])):G:=q f0 f1 f2 f3 f4
theorem K6 {F0:Prop}{F1:Prop}{F2:Prop}{F3:Prop}{F4:Prop}{F5:Prop}{G:Prop} (f0:F0) (f1:F1) (f2:F2) (f3:F3) (f4:F4) (f5:F5) (q:F0→F1→F2→F3→F4→F5→G:=by intro f0 f1 f2 f3 f4 f5;(repeat first|refine wV fun _=>?_|simp [go_sem,f0,f1,f2,f3,f4,f5])):G:=q f0 f1 f2 f3 f4 f5
theorem K7 {F0:Prop}{F1:Prop}{F2:Prop}{F3:Prop}{F4:Prop}{F5:Prop}{F6:Prop}{G:Prop} (f0:F0) (f1:F1) (f2:F2) (f3:F3) (f4:F4) (f5:F5) (f6:F6) (q:F0→F1→F2→F3→F4→F5→F6→G:=by intro f0 f1 f2 f3 f4 f5 f6;(repeat first|refine wV fun _=>?_|simp [go_sem,f0,f1,f2,f3,f4,f5,f6])):G:=q f0 f1 f2 f3 f4 f5 f6
theorem K8 {F0:Prop}{F1:Prop}{F2:Prop}{F3:Prop}{F4:Prop}{F5:Prop}{F6:Prop}{F7:Prop}{G:Prop} (f0:F0) (f1:F1) (f2:F2) (f3:F3) (f4:F4) (f5:F5) (f6:F6) (f7:F7) (q:F0→F1→F2→F3→F4→F5→F6→F7→G:=by intro f0 f1 f2 f3 f4 f5 f6 f7;(repeat first|refine wV fun _=>?_|simp [go_sem,f0,f1,f2,f3,f4,f5,f6,f7])):G:=q f0 f1 f2 f3 f4 f5 f6 f7
theorem Kg0 {G:Prop} (q:G:=by (repeat first|refine wV fun _=>?_|simp [go_sem,GH])):G:=q
theorem Kg1 {F0:Prop}{G:Prop} (f0:F0) (q:F0→G:=by intro f0;(repeat first|refine wV fun _=>?_|simp [go_sem,GH,f0])):G:=q f0
theorem Kg2 {F0:Prop}{F1:Prop}{G:Prop} (f0:F0) (f1:F1) (q:F0→F1→G:=by intro f0 f1;(repeat first|refine wV fun _=>?_|simp [go_sem,GH,f0,f1])):G:=q f0 f1
theorem Kg4 {F0:Prop}{F1:Prop}{F2:Prop}{F3:Prop}{G:Prop} (f0:F0) (f1:F1) (f2:F2) (f3:F3) (q:F0→F1→F2→F3→G:=by intro f0 f1 f2 f3;(repeat first|refine wV fun _=>?_|simp [go_sem,GH,f0,f1,f2,f3])):G:=q f0 f1 f2 f3
theorem Kg5 {F0:Prop}{F1:Prop}{F2:Prop}{F3:Prop}{F4:Prop}{G:Prop} (f0:F0) (f1:F1) (f2:F2) (f3:F3) (f4:F4) (q:F0→F1→F2→F3→F4→G:=by intro f0 f1 f2 f3 f4;(repeat first|refine wV fun _=>?_|simp [go_sem,GH,f0,f1,f2,f3,f4])):G:=q f0 f1 f2 f3 f4
theorem aF {P:Program}{f:FuncId}{fn:Func}{c:Code}{args:List AV}{h:zaq}{n:Nat}{K:zcn} (hf:P.funcs[f]? =some fn) (hh:awp P n c (RetQ P fn.results.toList K) (zso 0 args) h n) (hmix:P.follows .mixedOrders=true:=by kernel_rfl) (hb:fn.body=some c:=by rfl) (hname:(fn.name== "runtime.NumGoroutine")=false:=by rfl) (hN:args.length≤fn.ntmps:=by exact Nat.le_of_ble_eq_true rfl) (hd:zpx fn.ntmps c=true:=by kernel_rfl) (hG:fn.ntmps≤GH:=by exact Nat.le_of_ble_eq_true rfl):zah P f args h n K:=zEQ hmix hf hb hname hN hd hh hG
theorem aP {P:Program}{f:FuncId}{args:List AV}{r:AV}{h:zaq}{n:Nat}{K:zcn} (hp:zaD P f args r) (hk:K r h n) (hb:∀c ∈ args,Bel 0 c:=by simp [go_sem]):zah P f args h n K:=zEt hp hb hk
theorem dP {P:Program}{n:Nat}{ops:List Oper}{Q:zbV}{m i:Nat}{rest:List Oper}{e:Env}{h:zaq}{acc:List zfj}{dst:Option Tmp}{f:FuncId}{first caps args:List AV}{r:AV} (hp:zaD P f (first++args++caps) r) (hk:adr P n ops Q m (i+1) rest (put e dst r) h (acc++ [([], [])])) (hb:∀c ∈ first++args++caps,Bel 0 c:=by simp [go_sem]):zbq P n ops Q m i rest dst (.fn (.func f) first caps) args e h acc:=zEB hp hb hk
theorem Cx0 {C0:Prop}{X G:Prop} (c0:C0) (h:X) (q:C0→KX X→G:=by intro c0 h;((first|refine zEt (c0) ae ?_|refine zEy _ (fun _=>c0) ae ?_|((try ((with_reducible refine wZ ?_);(try simp [go_sem])));first|refine zEB (c0) ae ?_|refine zEx _ (fun _=>c0) ae ?_)));exact h.out):G:=q c0 ⟨h⟩
theorem Cx2 {C0:Prop}{F0:Prop}{F1:Prop}{X G:Prop} (c0:C0) (f0:F0) (f1:F1) (h:X) (q:C0→F0→F1→KX X→G:=by intro c0 f0 f1 h;((first|refine zEt (c0) cH ?_|refine zEy _ (fun _=>c0) cH ?_|((try ((with_reducible refine wZ ?_);(try simp [go_sem])));first|refine zEB (c0) cH ?_|refine zEx _ (fun _=>c0) cH ?_)));exact h.out):G:=q c0 f0 f1 ⟨h⟩
theorem Cx3 {C0:Prop}{F0:Prop}{F1:Prop}{F2:Prop}{X G:Prop} (c0:C0) (f0:F0) (f1:F1) (f2:F2) (h:X) (q:C0→F0→F1→F2→KX X→G:=by intro c0 f0 f1 f2 h;((first|refine zEt (c0) co ?_|refine zEy _ (fun _=>c0) co ?_|((try ((with_reducible refine wZ ?_);(try simp [go_sem])));first|refine zEB (c0) co ?_|refine zEx _ (fun _=>c0) co ?_)));exact h.out):G:=q c0 f0 f1 f2 ⟨h⟩
theorem Cx4 {C0:Prop}{F0:Prop}{F1:Prop}{F2:Prop}{F3:Prop}{X G:Prop} (c0:C0) (f0:F0) (f1:F1) (f2:F2) (f3:F3) (h:X) (q:C0→F0→F1→F2→F3→KX X→G:=by intro c0 f0 f1 f2 f3 h;((first|refine zEt (c0) bV ?_|refine zEy _ (fun _=>c0) bV ?_|((try ((with_reducible refine wZ ?_);(try simp [go_sem])));first|refine zEB (c0) bV ?_|refine zEx _ (fun _=>c0) bV ?_)));exact h.out):G:=q c0 f0 f1 f2 f3 ⟨h⟩
theorem Cx5 {C0:Prop}{F0:Prop}{F1:Prop}{F2:Prop}{F3:Prop}{F4:Prop}{X G:Prop} (c0:C0) (f0:F0) (f1:F1) (f2:F2) (f3:F3) (f4:F4) (h:X) (q:C0→F0→F1→F2→F3→F4→KX X→G:=by intro c0 f0 f1 f2 f3 f4 h;((first|refine zEt (c0) bG ?_|refine zEy _ (fun _=>c0) bG ?_|((try ((with_reducible refine wZ ?_);(try simp [go_sem])));first|refine zEB (c0) bG ?_|refine zEx _ (fun _=>c0) bG ?_)));exact h.out):G:=q c0 f0 f1 f2 f3 f4 ⟨h⟩
theorem FxF {P:Program}{n0:Nat}{Q:zbV}{e:Env}{h:zaq}{n:Nat}{t:Bool}{a b:Code} (h2:awp P n0 b Q e h n) (h1:t=true→awp P n0 a Q e h n:=by intro hF;first|omega|(simp at hF;omega)):aIf t (zwY P n0 a Q e h n) (zwY P n0 b Q e h n):=zEr h1 fun _=>h2
theorem FxT {P:Program}{n0:Nat}{Q:zbV}{e:Env}{h:zaq}{n:Nat}{t:Bool}{a b:Code} (h1:awp P n0 a Q e h n) (h2:t=false→awp P n0 b Q e h n:=by intro hF;first|omega|(simp at hF;omega)):aIf t (zwY P n0 a Q e h n) (zwY P n0 b Q e h n):=zEr (fun _=>h1) h2
theorem Lx1 {F0:Prop}{G:Prop} (f0:F0) (q:F0→G:=by intro f0;(((try simp only [zaW,zbw,zcC,zdi,zaK,zc5,zaS,zaw,zae,zhR,zbX,zaC,zai,zac,List.map_cons,List.map_nil,List.nil_append,List.append_nil,List.cons_append]);(repeat (first|(with_reducible exact zav.nil)|(with_reducible exact zaN.nil)|(with_reducible exact LeV.refl _)|(with_reducible exact zav.refl _ _ _ _)|(with_reducible exact zaN.refl _)|(with_reducible refine zav.cons ?_ ?_)|(with_reducible refine zaN.cons ?_ ?_)|(with_reducible refine LeV.agg ?_)|(with_reducible refine LeV.tup ?_)|(with_reducible refine LeV.fn ?_ ?_)|(with_reducible exact LeV.nil _)|(with_reducible refine za7 (zaN.refl _) ?_)|((refine zak rfl (by simp [f0]) ba ?_);(first|(simp [go_sem,f0];done)|(simp [go_sem,f0];exact List.take_of_length_le (by simp [f0]))))|((refine LeV.frz rfl (by simp [f0]) ba ?_);(simp only [List.drop_zero,List.take_succ_cons,List.take_zero,List.map_cons,List.map_nil]))|((refine LeV.frzP rfl (by simp [f0]) ad ba ?_);(simp only [zdy,List.drop_zero]))))))):G:=q f0
end Go.Av
end
section
namespace Go.Av
open Go Go.Proofs Go.Proofs.Tryz
abbrev tA (t:Nat) (k:TK) (s b:Nat):Prop:=tk prog t=k∧tsz prog t=some s∧tby prog t=some b
abbrev tB (t:Nat) (k:TK) (s b:Nat) (a:Bool) (z:List AV):Prop:=tA t k s b∧zjo prog t=some a∧tz prog t=some z
abbrev tF (t f o y:Nat):Prop:=zyp prog t f=some o∧zCu prog t f=some y
abbrev tI (t:Nat):Prop:=tfi prog t=true
@[go_sem] theorem t0:tA 0 .other 1 0∧zjo prog 0=some false∧tB 1 .other 1 8 false [(.v .nilFunc)]∧tB 2 (.int .i64) 1 8 false [(.int 0)]∧tz1 prog 2=some (.int .i64 0)∧tB 3 (.int .i64) 1 8 false [(.int 0)]∧tz1 prog 3=some (.int .i64 0)∧tB 4 .bool 1 1 false [(.bool false)]∧tz1 prog 4=some (.bool false)∧tB 5 (.int .u8) 1 1 false [(.v (.int .u8 0))]∧tz1 prog 5=some (.int .u8 0)∧tB 6 (.int .u8) 1 1 false [(.v (.int .u8 0))]∧tz1 prog 6=some (.int .u8 0)∧tB 7 .str 4 24 true [(.int 0),(.int 0),(.bool false),(.v (.int .u8 0))]∧tF 7 0 0 2∧tF 7 1 1 3∧tF 7 2 2 4∧tF 7 3 3 6∧tI 7∧zru prog 7=some [false,false,true,false]:=au
@[go_sem] theorem t1:tB 8 .str 4 24 true [(.int 0),(.int 0),(.bool false),(.v (.int .u8 0))]∧tF 8 0 0 2∧tF 8 1 1 3∧tF 8 2 2 4∧tF 8 3 3 6∧tI 8∧zru prog 8=some [false,false,true,false]∧tB 9 .string 1 16 false [(.v (.string ⟨⟨[]⟩⟩))]∧tz1 prog 9=some (.string ⟨⟨[]⟩⟩)∧tB 10 .string 1 16 false [(.v (.string ⟨⟨[]⟩⟩))]∧tz1 prog 10=some (.string ⟨⟨[]⟩⟩)∧tB 11 .string 1 16 false [(.v (.string ⟨⟨[]⟩⟩))]∧tz1 prog 11=some (.string ⟨⟨[]⟩⟩)∧tB 12 (.int .u64) 1 8 false [(.v (.int .u64 0))]∧tz1 prog 12=some (.int .u64 0)∧tB 16 (.ptr 315) 1 8 false [(.v (.pointer .none))]∧tB 20 .other 1 16 false [(.v .nilIface)]∧tB 22 (.sl 5) 1 24 false [.nils]∧tB 23 (.arr 2 22) 2 48 true [.nils, .nils]∧tB 24 (.sl 160) 1 24 false [.nils]:=au
@[go_sem] theorem t2:tB 25 (.arr 6 5) 6 6 true [(.v (.int .u8 0)),(.v (.int .u8 0)),(.v (.int .u8 0)),(.v (.int .u8 0)),(.v (.int .u8 0)),(.v (.int .u8 0))]∧tB 27 .str 12 88 true [(.v (.int .u8 0)),(.v (.int .u8 0)),(.v (.int .u8 0)), .nils, .nils, .nils,(.v (.int .u8 0)),(.v (.int .u8 0)),(.v (.int .u8 0)),(.v (.int .u8 0)),(.v (.int .u8 0)),(.v (.int .u8 0))]∧tF 27 0 0 5∧tF 27 1 1 5∧tF 27 2 2 5∧tF 27 3 3 23∧tF 27 4 5 24∧tF 27 5 6 25∧tI 27∧tB 28 (.arr 4 5) 4 4 true [(.v (.int .u8 0)),(.v (.int .u8 0)),(.v (.int .u8 0)),(.v (.int .u8 0))]∧tB 30 .str 18 18 true [(.v (.int .u8 0)),(.v (.int .u8 0)),(.v (.int .u8 0)),(.v (.int .u8 0)),(.v (.int .u8 0)),(.v (.int .u8 0)),(.v (.int .u8 0)),(.v (.int .u8 0)),(.v (.int .u8 0)),(.v (.int .u8 0)),(.v (.int .u8 0)),(.v (.int .u8 0)),(.v (.int .u8 0)),(.v (.int .u8 0)),(.v (.int .u8 0)),(.v (.int .u8 0)),(.v (.int .u8 0)),(.v (.int .u8 0))]∧tF 30 0 0 25∧tF 30 1 6 25∧tF 30 2 12 28∧tF 30 3 16 5∧tF 30 4 17 5∧tI 30∧tB 32 .str 31 136 true [(.v (.int .u8 0)),(.v (.int .u8 0)),(.v (.int .u8 0)), .nils, .nils, .nils,(.v (.int .u8 0)),(.v (.int .u8 0)),(.v (.int .u8 0)),(.v (.int .u8 0)),(.v (.int .u8 0)),(.v (.int .u8 0)),(.v (.int .u8 0)),(.v (.int .u8 0)),(.v (.int .u8 0)),(.v (.int .u8 0)),(.v (.int .u8 0)),(.v (.int .u8 0)),(.v (.int .u8 0)),(.v (.int .u8 0)),(.v (.int .u8 0)),(.v (.int .u8 0)),(.v (.int .u8 0)),(.v (.int .u8 0)),(.v (.int .u8 0)),(.v (.int .u8 0)),(.v (.int .u8 0)),(.v (.int .u8 0)),(.v (.int .u8 0)),(.v (.int .u8 0)), .nils]∧tF 32 0 0 27∧tF 32 1 12 30:=au
@[go_sem] theorem t3:tF 32 2 30 22∧tI 32∧tB 33 (.int .u16) 1 2 false [(.v (.int .u16 0))]∧tz1 prog 33=some (.int .u16 0)∧tB 35 (.sl 36) 1 24 false [.nils]∧tB 36 (.sl 3) 1 24 false [.nils]∧tB 38 .str 3 56 true [(.int 0), .nils, .nils]∧tF 38 0 0 3∧tF 38 1 1 35∧tF 38 2 2 36∧tI 38∧tB 39 (.sl 82) 1 24 false [.nils]∧tB 40 (.sl 162) 1 24 false [.nils]∧tB 42 .str 9 136 true [(.int 0), .nils, .nils, .nils,(.int 0),(.bool false), .nils,(.int 0),(.int 0)]∧tF 42 0 0 38∧tF 42 1 3 39∧tF 42 2 4 3∧tF 42 3 5 4∧tF 42 4 6 40∧tF 42 5 7 3:=au
@[go_sem] theorem t4:tF 42 6 8 3∧tI 42∧tB 43 (.arr 2 36) 2 48 true [.nils, .nils]∧tB 45 .str 5 88 true [.nils, .nils, .nils,(.int 0),(.int 0)]∧tF 45 0 0 36∧tF 45 1 1 43∧tF 45 2 3 3∧tF 45 3 4 3∧tI 45∧tB 46 (.sl 45) 1 24 false [.nils]∧tB 48 .str 16 256 true [(.int 0), .nils, .nils, .nils,(.int 0),(.bool false), .nils,(.int 0),(.int 0), .nils, .nils, .nils,(.int 0),(.int 0), .nils,(.bool false)]∧tF 48 0 0 42∧tF 48 1 9 45∧tF 48 2 14 46∧tF 48 3 15 4∧tI 48∧tB 51 (.sl 78) 1 24 false [.nils]∧tB 52 (.arr 2 51) 2 48 true [.nils, .nils]∧tB 54 .str 2 48 true [.nils, .nils]∧tF 54 0 0 52:=au
@[go_sem] theorem t5:tI 54∧tB 56 (.int .i64) 1 8 false [(.int 0)]∧tz1 prog 56=some (.int .i64 0)∧tA 57 .other 1 0∧zjo prog 57=some false∧tB 61 (.arr 2 45) 10 176 true [.nils, .nils, .nils,(.int 0),(.int 0), .nils, .nils, .nils,(.int 0),(.int 0)]∧tB 62 (.sl 96) 1 24 false [.nils]∧tB 64 .other 1 8 false [(.v .nilFunc)]∧tA 66 .other 1 0∧zjo prog 66=some false∧tA 73 .other 1 0∧zjo prog 73=some false∧tB 76 .str 2 32 true [.nils,(.int 0)]∧tF 76 0 0 46∧tF 76 1 1 56∧tI 76∧tB 78 (.sl 79) 1 24 false [.nils]∧tB 79 (.sl 120) 1 24 false [.nils]∧tB 80 (.sl 85) 1 24 false [.nils]∧tB 82 .str 3 48 true [(.v (.string ⟨⟨[]⟩⟩)), .nils,(.bool false)]:=au
@[go_sem] theorem t6:tF 82 0 0 9∧tF 82 1 1 80∧tF 82 2 2 4∧tI 82∧tB 85 (.sl 115) 1 24 false [.nils]∧tB 87 (.map 9 4) 1 8 false [(.v (.map .none))]∧tB 90 .other 1 8 false [(.v .nilFunc)]∧tB 91 .other 1 8 false [(.v .nilFunc)]∧tB 92 .other 1 8 false [(.v .nilFunc)]∧tB 94 (.sl 92) 1 24 false [.nils]∧tB 96 .str 6 112 true [(.int 0), .nils, .nils, .nils, .nils,(.int 0)]∧tF 96 0 0 3∧tF 96 1 1 35∧tF 96 2 2 43∧tF 96 3 4 36∧tF 96 4 5 3∧tI 96∧tB 98 (.sl 46) 1 24 false [.nils]∧tB 99 .other 1 8 false [(.v .nilFunc)]∧tB 100 .other 1 8 false [(.v .nilFunc)]:=au
@[go_sem] theorem t7:tB 103 .other 1 8 false [(.v .nilFunc)]∧tA 107 .other 1 0∧zjo prog 107=some false∧tA 109 .other 1 0∧zjo prog 109=some false∧tB 112 .other 1 8 false [(.v .nilFunc)]∧tB 115 .str 2 16 true [(.int 0),(.int 0)]∧tF 115 0 0 3∧tF 115 1 1 3∧tI 115∧zru prog 115=some [false,false]∧tB 118 (.sl 169) 1 24 false [.nils]∧tB 120 .str 2 32 true [.nils,(.int 0)]∧tF 120 0 0 118∧tF 120 1 1 3∧tI 120∧tB 124 .other 1 8 false [(.v .nilFunc)]∧tB 125 .other 1 8 false [(.v .nilFunc)]∧tB 128 .str 6 96 true [.nils, .nils, .nils,(.int 0),(.int 0),(.bool false)]∧tF 128 0 0 45:=au
@[go_sem] theorem t8:tF 128 1 5 4∧tI 128∧tB 132 .other 1 8 false [(.v .nilFunc)]∧tB 133 .other 1 8 false [(.v .nilFunc)]∧tB 140 .str 18 288 true [(.int 0), .nils, .nils, .nils,(.int 0),(.bool false), .nils,(.int 0),(.int 0),(.int 0), .nils, .nils, .nils, .nils,(.int 0),(.int 0),(.int 0), .nils]∧tF 140 0 0 42∧tF 140 1 9 96∧tF 140 2 15 3∧tF 140 3 16 3∧tF 140 4 17 36∧tI 140∧tB 142 .other 1 8 false [(.v .nilFunc)]∧tB 144 .other 1 8 false [(.v .nilFunc)]∧tB 146 .other 1 8 false [(.v .nilFunc)]∧tB 148 .other 1 8 false [(.v .nilFunc)]∧tB 151 (.int .u64) 1 8 false [(.v (.int .u64 0))]∧tz1 prog 151=some (.int .u64 0)∧tB 153 .other 1 8 false [(.v .nilFunc)]∧tB 154 .other 1 8 false [(.v .nilFunc)]∧tB 158 (.sl 9) 1 24 false [.nils]:=au
@[go_sem] theorem t9:tB 160 (.arr 3 5) 3 3 true [(.v (.int .u8 0)),(.v (.int .u8 0)),(.v (.int .u8 0))]∧tB 162 .str 4 32 true [(.int 0),(.int 0),(.int 0),(.int 0)]∧tF 162 0 0 3∧tF 162 1 1 3∧tF 162 2 2 3∧tF 162 3 3 3∧tI 162∧zru prog 162=some [false,false,false,false]∧tB 164 (.sl 128) 1 24 false [.nils]∧tB 169 .str 3 24 true [(.int 0),(.int 0),(.int 0)]∧tF 169 0 0 3∧tF 169 1 1 3∧tF 169 2 2 3∧tI 169∧zru prog 169=some [false,false,false]∧tB 171 .other 1 8 false [(.v .nilFunc)]∧tB 172 (.arr 4 171) 4 32 true [(.v .nilFunc),(.v .nilFunc),(.v .nilFunc),(.v .nilFunc)]∧tB 173 .other 1 8 false [(.v .nilFunc)]∧tA 174 .other 1 0∧zjo prog 174=some false:=au
@[go_sem] theorem t10:tA 176 .other 1 0∧zjo prog 176=some false∧tB 179 .str 8 112 true [.nils, .nils, .nils,(.int 0),(.int 0),(.int 0),(.int 0),(.bool false)]∧tF 179 0 0 45∧tF 179 1 5 3∧tF 179 2 6 3∧tF 179 3 7 4∧tI 179∧tB 184 .other 1 8 false [(.v .nilFunc)]∧tA 185 .other 1 0∧zjo prog 185=some false∧tB 188 (.ptr 140) 1 8 false [(.v (.pointer .none))]∧tB 190 .other 1 8 false [(.v .nilFunc)]∧tB 191 (.arr 11 190) 11 88 true [(.v .nilFunc),(.v .nilFunc),(.v .nilFunc),(.v .nilFunc),(.v .nilFunc),(.v .nilFunc),(.v .nilFunc),(.v .nilFunc),(.v .nilFunc),(.v .nilFunc),(.v .nilFunc)]∧tB 199 .str 9 136 true [(.int 0), .nils, .nils, .nils,(.int 0),(.bool false), .nils,(.int 0),(.int 0)]∧tF 199 0 0 42∧tI 199∧tA 201 .other 1 0∧zjo prog 201=some false∧tB 208 .str 2 16 true [(.int 0),(.int 0)]:=au
@[go_sem] theorem t11:tF 208 0 0 3∧tF 208 1 1 3∧tI 208∧zru prog 208=some [false,false]∧tB 212 .other 1 8 false [(.v .nilFunc)]∧tB 214 .other 1 8 false [(.v .nilFunc)]∧tB 216 .other 1 8 false [(.v .nilFunc)]∧tB 219 (.int .i64) 1 8 false [(.int 0)]∧tz1 prog 219=some (.int .i64 0)∧tA 220 .other 1 0∧zjo prog 220=some false∧tB 226 (.int .u32) 1 4 false [(.v (.int .u32 0))]∧tz1 prog 226=some (.int .u32 0)∧tB 228 (.int .u64) 1 8 false [(.v (.int .u64 0))]∧tz1 prog 228=some (.int .u64 0)∧tB 230 .other 1 8 false [(.v .nilFunc)]∧tA 231 .other 1 0∧zjo prog 231=some false∧tA 233 .other 1 0∧zjo prog 233=some false:=au
@[go_sem] theorem t12:tB 240 (.sl 244) 1 24 false [.nils]∧tB 242 .str 2 32 true [.nils,(.int 0)]∧tF 242 0 0 240∧tF 242 1 1 56∧tI 242∧tB 244 (.sl 246) 1 24 false [.nils]∧tB 246 .str 8 112 true [.nils, .nils, .nils,(.int 0),(.int 0),(.int 0),(.int 0),(.bool false)]∧tF 246 0 0 45∧tF 246 1 5 3∧tF 246 2 6 3∧tF 246 3 7 4∧tI 246∧tB 248 (.sl 179) 1 24 false [.nils]∧tB 252 (.map 4 3) 1 8 false [(.v (.map .none))]∧tB 253 (.int .u64) 1 8 false [(.v (.int .u64 0))]∧tz1 prog 253=some (.int .u64 0)∧tB 257 (.ptr 3) 1 8 false [(.v (.pointer .none))]∧tB 259 (.sl 118) 1 24 false [.nils]∧tB 261 .other 1 8 false [(.v .nilFunc)]∧tB 262 .other 1 8 false [(.v .nilFunc)]:=au
@[go_sem] theorem t13:tB 267 .other 1 8 false [(.v .nilFunc)]∧tB 269 (.arr 11 267) 11 88 true [(.v .nilFunc),(.v .nilFunc),(.v .nilFunc),(.v .nilFunc),(.v .nilFunc),(.v .nilFunc),(.v .nilFunc),(.v .nilFunc),(.v .nilFunc),(.v .nilFunc),(.v .nilFunc)]∧tB 277 (.ptr 253) 1 8 false [(.v (.pointer .none))]∧tB 300 (.arr 24 5) 24 24 true [(.v (.int .u8 0)),(.v (.int .u8 0)),(.v (.int .u8 0)),(.v (.int .u8 0)),(.v (.int .u8 0)),(.v (.int .u8 0)),(.v (.int .u8 0)),(.v (.int .u8 0)),(.v (.int .u8 0)),(.v (.int .u8 0)),(.v (.int .u8 0)),(.v (.int .u8 0)),(.v (.int .u8 0)),(.v (.int .u8 0)),(.v (.int .u8 0)),(.v (.int .u8 0)),(.v (.int .u8 0)),(.v (.int .u8 0)),(.v (.int .u8 0)),(.v (.int .u8 0)),(.v (.int .u8 0)),(.v (.int .u8 0)),(.v (.int .u8 0)),(.v (.int .u8 0))]∧tA 302 .other 1 0∧zjo prog 302=some false∧tB 313 (.arr 0 16) 0 0 true []∧tB 315 .str 0 0 true []∧zCu prog 315 0=some 313∧tI 315∧zyp prog 315 0=none:=au
end Go.Av
end
section
open Go Go.Proofs
namespace Go.Av
def zaB (n:Int):List AV:= [.int n]
def zai (l:List Int):AV:= .lst 1 (l.map zaB)
def zbe (l:List (List Int)):AV:= .lst 1 (l.map fun l=> [zai l])
structure zfM where
 name:ByteArray
 progs:List (List (Int×Int))
 keep:Bool
 deriving Inhabited
structure zab where
 cells:Int
 next:List (List Int)
 turn:List Int
 kinds:List zfM
 rights:Int
 must:Bool
 clauses:List (Int×Int×Int×Int)
 blocked:Int
 endless:Int
structure zaf where
 at_:List Int
 h0:List Int
 h1:List Int
 rights:Int
 side:Int
 deriving DecidableEq
def zbw (s:Int×Int):List AV:= [.int s.1, .int s.2]
def zaV (k:zfM):List AV:= [.v (.string k.name), .lst 1 (k.progs.map fun p=> [.lst 2 (p.map zbw)]), .v (.bool k.keep)]
def za0 (c:Int×Int×Int×Int):List AV:= [.int c.1, .int c.2.1, .int c.2.2.1, .int c.2.2.2]
def zBb (cells:Int) (next:List (List Int)) (turn:List Int):List AV:= [.int cells,zbe next,zai turn]
def zac (g:zab):List AV:= [.int g.cells,zbe g.next,zai g.turn, .lst 3 (g.kinds.map zaV), .int g.rights, .v (.bool g.must), .lst 4 (g.clauses.map za0), .int g.blocked, .int g.endless]
def zae (p:zaf):List AV:= [zai p.at_,zai p.h0,zai p.h1, .int p.rights, .int p.side]
attribute [go_sem] zaB zai zbe zbw zaV za0 zBb zac zae
def zfR (l:List Int):Prop:=l.length≤1099511627776
theorem zAL {n:Nat}{l:List Int}:(∀r ∈ l.map zaB,∀c ∈ r,Bel n c)=True:=by
 refine eq_true ?_
 intro r hr c hc
 obtain ⟨x, _,rfl⟩:=List.mem_map.1 hr
 simp only [zaB,List.mem_singleton] at hc
 subst hc;exact .v _
theorem zhJ {n:Nat}{l:List Int}:Bel n (.lst 1 (l.map zaB))=True:=by rw [zbt,zAL]
attribute [go_sem high] zhJ

def za8 (a b:Int):Int:=if a<b then -1 else if b<a then 1 else 0
theorem zfy (a b:Int):zaD Tryz.prog 77 [.int a, .int b] (.int (za8 a b)):=by
 refine pF Tryz.func77 ?_
 simp [go_sem]
 refine zEr (fun h=> ?_) (fun h=> ?_)
 ·simp at h
  simp [go_sem,za8,h]
 ·simp at h
  simp [go_sem]
  refine zEr (fun h2=> ?_) (fun h2=> ?_)
  ·simp at h2
   simp [go_sem,za8,h2,show ¬a<b by omega]
  ·simp at h2
   simp [go_sem,za8,show ¬b<a by omega,show ¬a<b by omega]
def zeR:List Int→List Int→Int
 |x::a,y::b=>if x=y then zeR a b else za8 x y
 |a,b=>za8 a.length b.length
theorem zhP (b:List Int):zeR [] b=za8 0 b.length:=by cases b<;>rfl
theorem zg0 (a:List Int):zeR a []=za8 a.length 0:=by cases a<;>rfl
theorem zlM (a b:List Int) (ha:zfR a) (hb:zfR b):zaD Tryz.prog 76 [zai a,zai b] (.int (zeR a b)):=by
 refine pF Tryz.func76 ?_
 unfold zfR at ha hb
 simp [go_sem]
 refine zEp (zEs (α:=Nat) (fun j=>⟨[(0,zai a),(1,zai b),(5, .int j)], [],0⟩)
  (fun d j=>j+d=a.length∧j≤b.length∧zeR a b=zeR (a.drop j) (b.drop j)) ?_ a.length 0 ?_) ?_ ?_
 ·rintro d j ⟨i1,i2,i3⟩ hrec
  simp [go_sem]
  refine zEr (fun hj=> ?_) (fun hj=> ?_)
  ·simp at hj
   obtain ⟨hj1,hj2⟩:=hj
   have hd1:a.drop j=nth a j::a.drop (j+1):=by rw [List.drop_eq_getElem_cons hj1,zap _ _ hj1]
   have hd2:b.drop j=nth b j::b.drop (j+1):=by rw [List.drop_eq_getElem_cons hj2,zap _ _ hj2]
   rw [hd1,hd2,zeR] at i3
   simp [go_sem]
   try ((with_reducible refine wZ ?_);(try simp [go_sem]))
   refine zET hj1 fun _=> ?_
   simp [go_sem,hj1]
   try ((with_reducible refine wZ ?_);(try simp [go_sem]))
   refine zET hj2 fun _=> ?_
   simp [go_sem,hj2]
   try ((with_reducible refine wZ ?_);(try simp [go_sem]))
   refine zmR.mk ai ?_
   simp [go_sem]
   refine zEr (fun he=> ?_) (fun he=> ?_)
   ·simp at he
    rw [if_neg he] at i3
    simp [go_sem]
    try ((with_reducible refine wZ ?_);(try simp [go_sem]))
    refine zET hj1 fun _=> ?_
    simp [go_sem,hj1]
    try ((with_reducible refine wZ ?_);(try simp [go_sem]))
    refine zET hj2 fun _=> ?_
    simp [go_sem,hj2]
    try ((with_reducible refine wZ ?_);(try simp [go_sem]))
    refine dP (zfy _ _) ?_
    simp [go_sem]
    try ((with_reducible refine wZ ?_);(try simp [go_sem]))
    refine zmR.mk ai ?_
    simp [go_sem,i3]
   ·simp at he
    rw [if_pos he] at i3
    simp [go_sem]
    refine zEL aa fun _=> ?_
    simp [go_sem]
    refine zEp (hrec (d - 1) aa (j+1) ⟨aa,aa,i3⟩) ?_ ad
    simp [go_sem,zad]
  ·simp at hj
   simp [go_sem]
   refine aP (zfy _ _) ?_
   have:za8 a.length b.length=zeR a b:=by
    rw [i3]
    rcases Nat.lt_or_ge j a.length with h|h
    ·have hb':=hj h
     rw [List.drop_eq_nil_of_le hb',zg0]
     simp only [za8,List.length_drop]
     split<;>split<;>(try split)<;>(try split)<;>omega
    ·rw [List.drop_eq_nil_of_le h,zhP]
     simp only [za8,List.length_drop]
     split<;>split<;>(try split)<;>(try split)<;>omega
   simp [go_sem,this]
 ·simp
 ·simp [go_sem,zad]
 ·simp
theorem zcs {l:List Int}{j:Nat} (h:j<l.length):l.drop j=nth l j::l.drop (j+1):=bH
def zaQ (p:zaf):Prop:=zfR p.at_∧zfR p.h0∧zfR p.h1
def zbi (p q:zaf):Int:=
 if zeR p.at_ q.at_≠0 then zeR p.at_ q.at_ else if zeR p.h0 q.h0≠0 then zeR p.h0 q.h0 else if zeR p.h1 q.h1≠0 then zeR p.h1 q.h1 else if za8 p.rights q.rights≠0 then za8 p.rights q.rights else za8 p.side q.side
theorem zcY (a b:zaf) (ha:zaQ a) (hb:zaQ b):zaD Tryz.prog 36 [.agg (zae a), .agg (zae b)] (.int (zbi a b)):=by
 refine pF Tryz.func36 ?_
 obtain ⟨a1,a2,a3⟩:=ha
 obtain ⟨b1,b2,b3⟩:=hb
 simp [go_sem]
 try ((with_reducible refine wZ ?_);(try simp [go_sem]))
 refine dP (zlM _ _ a1 b1) ?_
 simp [go_sem]
 try ((with_reducible refine wZ ?_);(try simp [go_sem]))
 refine dP (zlM _ _ a2 b2) ?_
 simp [go_sem]
 try ((with_reducible refine wZ ?_);(try simp [go_sem]))
 refine dP (zlM _ _ a3 b3) ?_
 simp [go_sem]
 try ((with_reducible refine wZ ?_);(try simp [go_sem]))
 refine dP (zfy _ _) ?_
 simp [go_sem]
 try ((with_reducible refine wZ ?_);(try simp [go_sem]))
 refine dP (zfy _ _) ?_
 simp [go_sem]
 try ((with_reducible refine wZ ?_);(try simp [go_sem]))
 refine zmR.mk ai ?_
 simp [go_sem]
 generalize e1:zeR a.at_ b.at_=x1
 generalize e2:zeR a.h0 b.h0=x2
 generalize e3:zeR a.h1 b.h1=x3
 generalize e4:za8 a.rights b.rights=x4
 generalize e5:za8 a.side b.side=x5
 unfold zbi
 rw [e1,e2,e3,e4,e5]
 refine zEq ?_
 simp [go_sem]
 refine zEr (fun h1=> ?_) (fun h1=> ?_)<;>simp at h1<;>simp [go_sem,h1]
 refine zEq ?_
 simp [go_sem]
 refine zEr (fun h2=> ?_) (fun h2=> ?_)<;>simp at h2<;>simp [go_sem,h1,h2]
 refine zEq ?_
 simp [go_sem]
 refine zEr (fun h3=> ?_) (fun h3=> ?_)<;>simp at h3<;>simp [go_sem,h1,h2,h3]
 refine zEq ?_
 simp [go_sem]
 refine zEr (fun h4=> ?_) (fun h4=> ?_)<;>simp at h4<;>simp [go_sem,h1,h2,h3,h4]
 refine zEq ?_
 simp [go_sem]
 refine zEr (fun h5=> ?_) (fun h5=> ?_)<;>simp at h5<;>simp [go_sem,h1,h2,h3,h4,h5]
 refine zEq ?_
 simp [go_sem]
def zCF (n:Nat) (p:zaf):AV:= .agg [.sl (n+2) 1 1 0 p.at_.length, .sl (n+3) 1 1 0 p.h0.length, .sl (n+8) 1 1 0 p.h1.length, .int p.rights, .int p.side]
def zzk (n:Nat) (p:zaf):List (Nat×zbp):= [(n+2, .rows true 1 1 (p.at_.map zaB)),(n+3, .rows true 1 1 (p.h0.map zaB)),(n+8, .rows true 1 1 (p.h1.map zaB))]
attribute [go_sem] zCF zzk
theorem zd8 (p:zaf) (ha:zaQ p):zhb Tryz.prog 132 [.agg (zae p)] (fun n=>zCF n p) (fun n=>zzk n p) 9:=by
 refine ⟨aF Tryz.func132 ?_,fun n=>⟨?_, ?_⟩⟩
 ·obtain ⟨a1,a2,a3⟩:=ha
  unfold zfR at a1 a2 a3
  simp [go_sem]
  refine zEL aa fun _=> ?_
  simp [go_sem]
  try ((with_reducible refine wZ ?_);(try simp [go_sem]))
  refine zET aa fun _=> ?_
  simp [go_sem]
  try ((with_reducible refine wZ ?_);(try simp [go_sem]))
  refine zET aa fun _=> ?_
  simp [go_sem]
  try ((with_reducible refine wZ ?_);(try simp [go_sem]))
  refine zmR.mk ai ?_
  simp [go_sem,zad]
 ·simp [go_sem]
 ·simp [go_sem]
theorem zd1 (l:List Int) (hl:zfR l):zhb Tryz.prog 141 [zai l] (fun n=> .sl n 1 1 0 l.length) (fun n=> [(n, .rows true 1 1 (l.map zaB))]) 1:=by
 refine ⟨zEU (fun hne=>aF Tryz.func141 ?_)
  (fun he A c=>aF Tryz.func141 ?_),fun n=>⟨?_, ?_⟩⟩
 ·unfold zfR at hl
  obtain ⟨x,l,rfl⟩:=List.exists_cons_of_ne_nil (show l≠ [] by intro h;subst h;exact hne rfl)
  simp only [List.length_cons] at hl
  simp [go_sem]
  refine zEL aa fun _=> ?_
  simp [go_sem,zad]
 ·obtain rfl:l= []:=by simpa using he
  simp [go_sem]
  refine zEr (fun h=> ?_) (fun h=> ?_)
  ·simp at h
   subst h
   simp [go_sem,zad]
  ·simp [go_sem,zad]
 ·simp [go_sem]
 ·simp [go_sem]
def idxOf (p:Int→Bool) (l:List Int):Int:=match l.findIdx? p with|some i=>(i:Int)|none=> -1
theorem zBr {p:Int→Bool}{l:List Int}{j:Nat} (hj:j<l.length) (h:∀i,i<j→p (nth l i)=false) (hp:p (nth l j)=true):idxOf p l=j:=by
 have:l.findIdx? p=some j:=by
  rw [List.findIdx?_eq_some_iff_getElem]
  refine ⟨hj,cL,fun i hi=> ?_⟩
  have:=h i hi
  rw [zap _ _ aa] at this
  simp [this]
 simp [idxOf,this]
theorem zvV {p:Int→Bool}{l:List Int} (h:∀i,i<l.length→p (nth l i)=false):idxOf p l= -1:=by
 have:l.findIdx? p=none:=by
  rw [List.findIdx?_eq_none_iff]
  intro x hx
  obtain ⟨i,hi,rfl⟩:=List.getElem_of_mem hx
  have:=h i hi
  rw [zap _ _ hi] at this
  exact this
 simp [idxOf,this]
theorem zyC {p:Int→Bool}{l:List Int}:decide (0≤idxOf p l)=l.any p:=by
 unfold idxOf
 cases h:l.findIdx? p with
 |none=>
  rw [List.findIdx?_eq_none_iff] at h
  simp
  simpa using h
 |some i=>
  have:=List.findIdx?_isSome (xs:=l) (p:=p)
  rw [h] at this
  simp at this ⊢
  exact this
theorem zmK (l:List Int) (hl:zfR l) (f:FuncId) (first caps:List AV) (p:Int→Bool) (hp:∀x ∈ l,zaD Tryz.prog f (first++ .int x::caps) (.v (.bool (p x)))) (hb:∀c ∈ first,Bel 0 c) (hb':∀c ∈ caps,Bel 0 c):
  zaD Tryz.prog 115 [zai l, .fn (.func f) first caps] (.int (idxOf p l)):=by
 refine pF Tryz.func115 ?_
 unfold zfR at hl
 simp [go_sem]
 refine zEp (zEs (α:=Nat) (fun j=>⟨[(0,zai l),(1, .fn (.func f) first caps),(7, .int l.length),(8, .int j)], [],0⟩)
  (fun d j=>j+d=l.length∧(∀i<j,p (nth l i)=false)) ?_ l.length 0 ?_) ?_ ?_
 ·rintro d j ⟨i1,i2⟩ hrec
  simp [go_sem]
  refine zEr (fun hj=> ?_) (fun hj=> ?_)
  ·simp at hj
   simp [go_sem]
   refine zEL hj fun _=> ?_
   simp [go_sem,hj]
   refine zEt (hp _ (zag hj)) (fun c hc=>by
    rcases List.mem_append.1 hc with h|h
    ·exact hb c h
    ·rcases List.mem_cons.1 h with rfl|h
     ·exact .v _
     ·exact hb' c h) ?_
   simp [go_sem]
   refine zEr (fun h=> ?_) (fun h=> ?_)
   ·simp [go_sem,zBr hj i2 h]
   ·simp [go_sem]
    refine zEL aa fun _=> ?_
    simp [go_sem]
    refine zEp (hrec (d - 1) aa (j+1) ⟨aa,fun i hi=> ?_⟩) ?_ ad
    ·rcases Nat.lt_or_ge i j with h'|h'
     ·exact i2 i h'
     ·obtain rfl:i=j:=by omega
      exact h
    ·simp [go_sem,zad]
     exact ⟨hb,hb'⟩
  ·simp at hj
   simp [go_sem,zvV fun i hi=>i2 i aa]
 ·simp
 ·simp [go_sem,zad]
  exact ⟨hb,hb'⟩
 ·simp
theorem zeO (l:List Int) (hl:zfR l) (f:FuncId) (first caps:List AV) (p:Int→Bool) (hp:∀x ∈ l,zaD Tryz.prog f (first++ .int x::caps) (.v (.bool (p x)))) (hb:∀c ∈ first,Bel 0 c) (hb':∀c ∈ caps,Bel 0 c):
  zaD Tryz.prog 80 [zai l, .fn (.func f) first caps] (.v (.bool (l.any p))):=by
 refine pF Tryz.func80 ?_
 simp [go_sem]
 refine zEt (zmK l hl f first caps p hp hb hb') (by simp [go_sem];exact ⟨hb,hb'⟩) ?_
 simp [go_sem,zyC]
end Go.Av
end
