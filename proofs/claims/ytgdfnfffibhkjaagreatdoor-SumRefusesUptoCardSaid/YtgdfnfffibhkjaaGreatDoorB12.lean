/- Texts of ours, part 12: our library and contracts of functions. -/
import Derived.Test.YtgdfnfffibhkjaaGreatDoorB11
import Derived.Test.YtgdfnfffibhkjaaGreatDoorProg
import Derived.Shelf.SlSortCmp.NoneTotal
import Derived.Shelf.Small.Strs
set_option linter.unusedSimpArgs false
set_option linter.unusedVariables false
set_option maxRecDepth 100000
set_option maxHeartbeats 40000000
section
namespace Go.Av
open Go Go.Proofs Go.RowKit
def ziI (f:zab):List UInt8:=f.text.map UInt8.ofNat
theorem zuN:∀l:List zab,zge (l.map ziI)=(zab.textL l).map UInt8.ofNat
 | []=>rfl
 | [x]=>by simp [zge,zab.textL,ziI]
 |x::y::l=>by
  have:=zuN (y::l);simp only [List.map_cons] at this ⊢;rw [zge,this,zab.textL];simp [ziI]
theorem zwM (l r:List zab):ziI (.mk l r)=123::(zge (l.map ziI)++124::(zge (r.map ziI)++ [125])):=by
 simp_all [zuN,ziI,zab.text]
theorem zDK (l:List zab):(za3 l).flatten=l.map zgh:=by
 rw [zgC];induction l<;>grind
variable {n:Nat} {M:Nat->Prop} {w:World} {φ:zaD}
theorem zLY {xs:List AV}{C:Array Value}{o:Nat} (h:za2 φ w M xs ((C.toList.drop o).take n)){i:Nat} (hi:i<xs.length) (hc:o+i<C.size):∃u,Rel φ w M xs[i] u∧C[o+i]? =some u:=by
 have hl:=h.length;have hi2:i<((C.toList.drop o).take n).length:=aa;refine ⟨_,h.get i hi hi2, ?_⟩;grind
variable {l:List zab}
theorem zsG {v:Value} (h:Rel φ w M (.lst 1 (za3 l)) v):zjj w w.heap.size v (l.map ziI):=by
 have key:∀ (n:Nat) (rows:List (List AV)),rows=za3 l->Rel φ w M (.lst n rows) v->n=1->zjj w w.heap.size v (l.map ziI):=by
  intro n rows hrows h hn;cases h with
  |nil sz A cap=>
   have hl:l= []:=by
    cases l<;>grind [za3]
   grind [zjj]
  | @lst sz rows a len cap C T fz hs hM hb hr hl hc hcap hv h=>
   subst hn hrows;have hlen:(za3 l).length=l.length:=by grind [zgC]
   rw [hlen,Nat.mul_one] at h hc;rw [zDK] at h;refine ⟨some a,cap,af,λ i hi=> ?_⟩;rw [List.length_map] at hi;obtain ⟨u,h1,h2⟩:=zLY h au aa;rw [List.getElem_map,zbd] at h1;cases h1 with
   | @fp cells p C2 T2 fz2 ps pM pb pc pv ph=>
    obtain ⟨z,k1,k2⟩:=zLY ph (i:=0) ac af;simp only [List.getElem_cons_zero] at k1;cases k1;refine ⟨a,p,rfl,hs,(Array.getElem?_eq_some_iff.1 hb).1,ps,(Array.getElem?_eq_some_iff.1 pb).1, ?_, ?_⟩
    ·grind [World.cell?]
    ·obtain ⟨pblk,poff,psp⟩:=p;simp only at ps pb k2;subst ps;simp only [World.cell?,pb,List.getElem_map];exact k2
 grind
theorem zOt {P:Program} (hmix:P.follows .mixedOrders=true){f:FuncId}{fn:Func}{c:Code}{args:List AV}{h:zay}{K:zbH} (hf:P.funcs[f]? =some fn) (hb:fn.body=some c) (hname:(fn.name== "runtime.NumGoroutine")=false) (hG:fn.ntmps<=GH)
  (hpre:∀ (M0:Nat->Prop) (φ:zaD) (w:World) (vs:List Value),zmK φ n w M0 h->za2 φ w (Or M0 (Mut φ h)) args vs->∃ (cr:Code) (e1:Env),zur fn.ntmps cr=true∧awp P n cr (zLs P fn.results.toList K) e1 h n∧e1 GH= .top∧
   ∀Q:Exit->Act->World->Prop,(∀ (tm:Array Value) (w':World),tm.size=fn.ntmps->(∀t,Rel φ w' (Or M0 (Mut φ h)) (e1 t) (tm.getD t undef))->Fr w (λ _=>False) w'->cr.wp P Q { tmps:=tm,defers:= []} w')->
    c.wp P Q { tmps:=⟨vs⟩++Array.replicate (fn.ntmps - (⟨vs⟩:Array Value).size) undef,defers:= []} w):zaj P f args h n K:=by
 refine ⟨zic hf hb hname,λ M0 φ w vs hH hargs=> ?_⟩;obtain ⟨cr,e1,hd,hh,hg,hpre⟩:=hpre M0 φ w vs hH hargs;let B:zjD P:=zLK P φ w M0 h n hH.fresh
 have hw:c.wpIn (WF none) 0 P (SQ B fn.ntmps (zLs P fn.results.toList K)) { tmps:=⟨vs⟩++Array.replicate (fn.ntmps - (⟨vs⟩:Array Value).size) undef,defers:= []} w:=by
  refine wpIn_wide.2 (hpre _ λ tm w' hsz hrel hfr=> ?_);have st:ze3 φ w M0 h φ w' h:=⟨φ.le_refl,λ _ h=> .inl h,hfr.more (λ _ h=>h.elim),λ _ h=> .inl h⟩
  have hsr:SR B fn.ntmps M0 φ e1 h n { tmps:=tm,defers:= []} w':=⟨hrel,hsz,zk7.nil,hH.keepw st (λ k hk=>hfr.block k hk id),⟨M0,λ _=>False,(zhd M0).symm,hg,rfl,λ _ h=>h.elim,st⟩,hG⟩
  exact wpIn_wide.1 (znX (P:=P) hmix (B:=B) (N:=fn.ntmps) (m:=0) hd hsr hh)
 refine callsIn_wide.1 (callsIn_of_wp_marks (F:=WF none) (n:=0) hf hb trivial (wpIn_mono hw ?_) rfl);rintro ex a' w' ⟨M,φ',e',h',n',hs',hq⟩;have fin:(zu7 P e' h' fn.results.toList).1∧K (zK6 (zu7 P e' h' fn.results.toList).2) h' n'->LeavesInM (WF none) 0 P fn a'.tmps (λ e w'=>∃v_1 φ'_1 r h'_1 n'_1,e=Ending.returned v_1∧K r h'_1 n'_1∧zmK φ'_1 n'_1 w' M0 h'_1∧Rel φ'_1 w' (Or M0 (Mut φ'_1 h'_1)) r v_1∧ze3 φ w M0 h φ'_1 w' h'_1) a'.defers .returning w':=by
  rintro ⟨q1,q2⟩;obtain ⟨M1,O,rfl, _,rfl, _,hst⟩:=hs'.ok;refine zha hs'.defs λ w'' hn=> ?_;have hsub:∀k,Or M1 (Mut φ' h') k->Or (Or M1 O) (Mut φ' h') k:=λ k hk=>hk.imp .inl id;have hHm:zmK φ' n' w' M1 h':=hs'.heap.lessM λ k hk=> .inl hk;obtain ⟨us,h1,h2⟩:=zhQ (P:=P) (hHm.nc hn) (λ t=>((hs'.env t).lessM hsub).nc hn) fn.results.toList q1;refine ⟨_, ?_, _,φ', _,h',n',rfl,q2,hHm.nc hn,zu8 h2,hst.nc hn⟩;grind [zmH,Array.mapM_eq_mapM_toList,Sem.run_bind,Sem.run_map,Sem.run_pure,Result.andThen_ok]
 cases ex with
 |normal=>exact fin hq
 |ret=>exact fin hq
 | _=>exact hq.elim
def zGY:Nat->Code->Option Code
 |0,c=>some c
 |n+1, .seq _ y=>zGY n y
 | _+1, _=>none
def zD0:Nat->Code->Code->Code
 |0, _,y=>y
 |n+1, .seq a b,y=> .seq a (zD0 n b y)
 | _+1,c, _=>c
theorem zyg:∀ {n:Nat}{c y:Code},zGY n c=some y->zD0 n c y=c
 |0,c,y,h=>by grind [zGY,zD0]
 |n+1,c,y,h=>by
  cases c<;>simp only [zGY,reduceCtorEq] at h;rw [zD0,zyg h]
def zJ1 (fn:Func):Code:=fn.body.getD .skip
theorem zKP (cr:Code) (Q:Exit->Act->World->Prop) (v0 v1 v2:Value) (l r:List zab) (w:World) (h1:zjj w w.heap.size v1 (l.map ziI)) (h2:zjj w w.heap.size v2 (r.map ziI)) (hl:l.length<=68719476736) (hr:r.length<=68719476736) (hlen:(ziI (.mk l r)).length<=34359738368)
  (hk:∀ (tm:Array Value) (w':World),tm.size=47->(∀t,tm.getD t undef=if t=0 then v0 else if t=1 then v1 else if t=2 then v2 else if t=9 then .string (ze2 (.mk l r)) else tm.getD t undef)->Low w.heap.size w w'->cr.wp Tryz.prog Q { tmps:=tm,defers:= []} w'):
  (zD0 9 (zJ1 Tryz.f68) cr).wp Tryz.prog Q { tmps:= #[v0,v1,v2]++Array.replicate 44 undef,defers:= []} w:=by
 have hI:ztq w.heap.size w.heap.size (Lib.byteCells []) (w.alloc (.cells #[.pointer none, .slice none 0 0] 195)):=Lib.IsBuilderF.of (Lib.fresh_isBuilder _ _ w);have hL0:Low w.heap.size w (w.alloc (.cells #[.pointer none, .slice none 0 0] 195)):=⟨(Below.refl _ w).alloc (Nat.le_refl _) _,Nat.le_refl _⟩
 rw [zwM] at hlen;simp only [List.length_cons,List.length_append,List.length_nil] at hlen;simp only [zD0,zJ1,Tryz.f68,Option.getD_some,List.size_toArray,List.length_cons,List.length_nil,Nat.reduceAdd,Nat.reduceSub,Array.replicate_succ,Array.replicate_zero,List.push_toArray,List.append_toArray,List.nil_append,List.cons_append];go_wp2_with (go_at_call 113;refine (zqC _ _ _ 123 _ hI (by simp [Lib.byteCells]) ac).mono ?_)
 rintro e w1 ⟨rfl,g1,k1⟩;have g1:zCV w.heap.size w.heap.size (Lib.byteCells [123]) w1:=g1;have L1:=hL0.trans k1;go_wp2_with (go_at_call 112;refine (zBX _ _ [123] v1 _ w1 (.inr g1) (h1.below L1.1) (by simpa using hl) aQ L1.1.size).mono ?_)
 rintro e w2 ⟨rfl,g2,k2⟩;have L2:=L1.trans k2;go_wp2_with (go_at_call 113;refine (zqC _ _ _ 124 _ g2 (by simp [Lib.byteCells];omega) L2.1.size).mono ?_)
 rintro e w3 ⟨rfl,g3,k3⟩;have g3:zCV w.heap.size w.heap.size (Lib.byteCells ([123]++zge (l.map ziI)++ [124])) w3:=by rw [Lib.byteCells_append];exact g3
 have L3:=L2.trans k3;go_wp2_with (go_at_call 112;refine (zBX _ _ _ v2 _ w3 (.inr g3) (h2.below L3.1) (by simpa using hr) aQ L3.1.size).mono ?_)
 rintro e w4 ⟨rfl,g4,k4⟩;have L4:=L3.trans k4;go_wp2_with (go_at_call 113;refine (zqC _ _ _ 125 _ g4 (by simp [Lib.byteCells];omega) L4.1.size).mono ?_)
 rintro e w5 ⟨rfl,g5,k5⟩;have g5:zCV w.heap.size w.heap.size (Lib.byteCells (ziI (.mk l r))) w5:=by
  have e:ziI (.mk l r)= [123]++zge (l.map ziI)++ [124]++zge (r.map ziI)++ [125]:=by rw [zwM];simp
  rw [e,Lib.byteCells_append];exact g5
 have L5:=L4.trans k5;go_wp2_with (go_at_call 115;refine (zJZ _ _ _ _ (.inr g5) (by rw [zwM];simp)).mono ?_)
 rintro e w6 ⟨rfl,k6⟩;have L6:=L5.trans k6;go_wp2
 refine hk _ _ rfl (λ t=> ?_) L6;by_cases e0:t=0
 ·subst e0;rfl
 by_cases e1:t=1
 ·subst e1;rfl
 by_cases e2:t=2
 ·subst e2;rfl
 by_cases e9:t=9
 ·subst e9;rfl
 grind
theorem zHO {h:zay}{K:zbH}{b:AV}{r:List zab}{cr:Code} (hl:l.length<=68719476736) (hr:r.length<=68719476736) (hlen:(ziI (.mk l r)).length<=34359738368)
  (hc:zGY 9 (zJ1 Tryz.f68)=some cr) (hd:zur 47 cr=true)
  (hh:awp Tryz.prog n cr (zLs Tryz.prog (Tryz.f68).results.toList K) (mkE [(0,b),(1, .lst 1 (za3 l)),(2, .lst 1 (za3 r)),(9, .v (.string (ze2 (.mk l r))))]) h n):
  zaj Tryz.prog 68 [b, .lst 1 (za3 l), .lst 1 (za3 r)] h n K:=by
 refine zOt ah Tryz.func68 (c:=zJ1 Tryz.f68) rfl rfl (Nat.le_of_ble_eq_true rfl) λ M0 φ w vs hH hargs=> ?_;refine ⟨cr, _,hd,hh,rfl,λ Q hk=> ?_⟩;cases hargs with
 |cons a0 hargs=>
 cases hargs with
 |cons a1 hargs=>
 cases hargs with
 |cons a2 hargs=>
 cases hargs;rename_i v0 v1 v2;have:=zKP cr Q v0 v1 v2 l r w (zsG a1) (zsG a2) hl hr hlen λ tm w' hsz ht hL=>by
  have hfr:Fr w (λ _=>False) w':=⟨hL.1.os,hL.1.tape,hL.1.output,hL.2,hL.1.size,λ k hk _=>hL.1.block k hk⟩
  have st:ze3 φ w M0 h φ w' h:=⟨φ.le_refl,λ _ h=> .inl h,hfr.more (λ _ h=>h.elim),λ _ h=> .inl h⟩
  refine hk tm w' hsz (λ t=> ?_) hfr;rw [ht t];simp only [mkE,upd];by_cases e0:t=0
  ·rw [if_pos e0,if_pos e0];exact st.rel a0
  rw [if_neg e0,if_neg e0];by_cases e1:t=1
  ·rw [if_pos e1,if_pos e1];exact st.rel a1
  rw [if_neg e1,if_neg e1];by_cases e2:t=2
  ·rw [if_pos e2,if_pos e2];exact st.rel a2
  rw [if_neg e2,if_neg e2];by_cases e9:t=9
  ·rw [if_pos e9,if_pos e9];exact .v _
  rw [if_neg e9,if_neg e9];exact .top _
 grind [zyg,Tryz.f68]
end Go.Av
end
section
namespace Go.Av
open Go Go.Proofs
def zxj {α:Type} [DecidableEq α] (l:List α) (f:α):List α:=if f ∈ l then l else l++ [f]
theorem zhX (n:Nat) (l:List zab):(∀r ∈ l.map zsC,∀c ∈ r,Bel n c)=True:=eq_true λ r hr c hc=>by
 obtain ⟨x, _,rfl⟩:=List.mem_map.1 hr;simp only [zsC,List.mem_cons,List.not_mem_nil,or_false] at hc;rcases hc with rfl|rfl
 ·exact .v _
 ·exact zc0 n x
theorem zjK (n:Nat) (l:List zab):(∀r ∈ l.map zpq,∀c ∈ r,Bel n c)=True:=eq_true λ r hr c hc=>by
 obtain ⟨x, _,rfl⟩:=List.mem_map.1 hr;simp only [zpq,List.mem_cons,List.not_mem_nil,or_false] at hc;rcases hc with rfl|rfl
 ·exact .v _
 ·exact zc0 n _
theorem zjL (n:Nat) (l:List (zab×zab)):(∀r ∈ l.map zpC,∀c ∈ r,Bel n c)=True:=eq_true λ r hr c hc=>by
 obtain ⟨x, _,rfl⟩:=List.mem_map.1 hr;simp only [zpC,List.mem_cons,List.not_mem_nil,or_false] at hc;rcases hc with rfl|rfl
 ·refine .agg λ c hc=> ?_;simp only [List.mem_cons,List.not_mem_nil,or_false] at hc;rcases hc with rfl|rfl<;>exact .v _
 ·exact .v _
theorem zGj (n:Nat) (f:zab):Bel n (zgh f)=True:=eq_true (zc0 n f)
theorem zDr (n:Nat) (l:List zab):(∀r ∈ za3 l,∀c ∈ r,Bel n c)=True:=eq_true (zeX n l)
attribute [go_sem ↓] zhX zjK zjL zGj zDr
theorem zia (l:List zab):(za3 l).length=l.length:=by grind [zgC]
attribute [go_sem] zia
def bkH (s:zch):List (Nat×zcr):= [(0, .rows true 0 3 [[.mp 1, .mp 2, .mp 3]]),(1, .rows true 0 2 (s.ns.map zsC)),(2, .rows true 0 2 (s.qs.map zpC)),(3, .rows true 0 2 (s.cs.map zpq))]
theorem zwO:tz1 Tryz.prog 135=some (.pointer none):=ah
theorem zM5:zon Tryz.prog 9= .string:=ah
theorem zlX (s:zch) (l r:List zab) (hl:l.length<=68719476736) (hr:r.length<=68719476736) (hlen:(ziI (.mk l r)).length<=34359738368):
  zcj Tryz.prog 68 [.ref 0 0 3 0 0, .lst 1 (za3 l), .lst 1 (za3 r)] (bkH s) 4 (zgh (.mk l r)) (bkH ⟨zxj s.ns (.mk l r),s.qs,s.cs⟩) 4:=by
 unfold zcj;obtain ⟨ns,qs,cs⟩:=s;simp only [bkH];obtain ⟨f1,f2⟩:=find_n (.mk l r) ns;rw [skF] at f1 f2;have hz:=zwO;have hks:=zM5;refine zHO hl hr hlen rfl ah ?_;by_cases hm:zab.mk l r ∈ ns
 ·have e:=f1 hm;have ea:zxj ns (.mk l r)=ns:=if_pos hm;rw [ea];refine J3 hz hks e ?_;simp [go_sem,zaf]
 ·obtain ⟨e1,e2⟩:=f2 hm;have ea:zxj ns (.mk l r)=ns++ [.mk l r]:=if_neg hm;rw [ea];refine J4 hz hks e1 e2 ?_;simp [go_sem,zaf];refine ⟨?_, ?_, ?_⟩
  ·rw [zgh];exact .frzP rfl ac ac aj (.refl _ _ _ _)
  ·refine zaJ (.refl _) (.cons (.cons (.refl _) (.cons ?_ .nil)) .nil);rw [zgh];exact .frzP rfl ac ac aj (.refl _ _ _ _)
  ·intro c hc;exact of_eq_true (zhX 4 [.mk l r]) (zsC (.mk l r)) ac c hc
end Go.Av
end
section
namespace Go.Av
open Go Go.Proofs
def nsO (s:zch):zcr:= .rows true 0 2 (s.ns.map zsC)
def qsO (s:zch):zcr:= .rows true 0 2 (s.qs.map zpC)
def csO (s:zch):zcr:= .rows true 0 2 (s.cs.map zpq)
def zku (s:zch) (a b c:Nat) (h:zay):zay:=upd (upd (upd h a (some (nsO s))) b (some (qsO s))) c (some (csO s))
structure zw8 (s:zch) (o a b c:Nat) (h:zay):Prop where
 ho:h o=some (.rows true 0 3 [[.mp a, .mp b, .mp c]])
 ha:h a=some (nsO s)
 hb:h b=some (qsO s)
 hc:h c=some (csO s)
 d: [o,a,b,c].Nodup
variable {h:zay} {a b c n o:Nat} {s s':zch}
theorem zw8.set  (hh:zw8 s o a b c h) (s':zch):zw8 s' o a b c (zku s' a b c h):=by
 have hd:=hh.d;simp only [List.nodup_cons,List.mem_cons,List.not_mem_nil,or_false,not_or,not_false_eq_true,and_true,List.nodup_nil] at hd;obtain ⟨⟨d1,d2,d3⟩,⟨d4,d5⟩,d6⟩:=hd;refine ⟨?_, ?_, ?_, ?_,hh.d⟩
 ·simp [zku,upd,d1,d2,d3,hh.ho]
 all_goals simp_all [zku,upd]
theorem zCI (s s':zch) (a b c:Nat) (h:zay):zku s' a b c (zku s a b c h)=zku s' a b c h:=by
 funext x;simp_all [zku,upd]
theorem zy8  (hh:zw8 s o a b c h):zku s a b c h=h:=by
 funext x;simp only [zku,upd];split
 ·rename_i e;rw [e,hh.hc]
 split
 ·rename_i e;rw [e,hh.hb]
 split
 ·rename_i e;rw [e,hh.ha]
 rfl
theorem zIA {x:Nat} (ha:x≠a) (hb:x≠b) (hc:x≠c):zku s a b c h x=h x:=by simp_all [zku,upd]
theorem zGi (s:zch) (m:Nat) (hm:4<=m):∀p ∈ bkH s,p.1<m∧zqr m p.2:=by
 intro p hp;simp only [bkH,List.mem_cons,List.not_mem_nil,or_false] at hp;rcases hp with rfl|rfl|rfl|rfl
 ·refine ⟨aa,λ r hr c hc=> ?_⟩;simp only [List.mem_singleton] at hr;subst hr;simp only [List.mem_cons,List.not_mem_nil,or_false] at hc;rcases hc with rfl|rfl|rfl<;>exact .mp aa
 ·exact ⟨aa,of_eq_true (zhX m _)⟩
 ·exact ⟨aa,of_eq_true (zjL m _)⟩
 ·exact ⟨aa,of_eq_true (zjK m _)⟩
variable {R:AV} {args:List AV} {f:FuncId} {P:Program}
theorem zfN {K:zbH} (hp:zcj P f (.ref 0 0 3 0 0::args) (bkH s) 4 R (bkH s') 4) (hh:zw8 s o a b c h) (hn:o<n∧a<n∧b<n∧c<n)
  (ha:∀x ∈ args,Bel 0 x) (hR:Bel 0 R) (hk:K R (zku s' a b c h) n):zaj P f (.ref o 0 3 0 0::args) h n K:=by
 have hd:=hh.d;simp only [List.nodup_cons,List.mem_cons,List.not_mem_nil,or_false,not_or,not_false_eq_true,and_true,List.nodup_nil] at hd;obtain ⟨⟨d1,d2,d3⟩,⟨d4,d5⟩,d6⟩:=hd;have r0:ren [o,a,b,c] n 0=o:=rfl;have r1:ren [o,a,b,c] n 1=a:=rfl;have r2:ren [o,a,b,c] n 2=b:=rfl;have r3:ren [o,a,b,c] n 3=c:=rfl;have cl1:∀l:List zab,∀r ∈ l.map zsC,∀c ∈ r,Bel 0 c:=λ l=>of_eq_true (zhX 0 l);have cl2:∀l:List (zab×zab),∀r ∈ l.map zpC,∀c ∈ r,Bel 0 c:=λ l=>of_eq_true (zjL 0 l);have cl3:∀l:List zab,∀r ∈ l.map zpq,∀c ∈ r,Bel 0 c:=λ l=>of_eq_true (zjK 0 l);have rl:∀ {xs:List AV},(∀x ∈ xs,Bel 0 x)->RnL (ren [o,a,b,c] n) xs xs:=by
  intro xs hx;induction xs with
  |nil=>exact .nil
  |cons x xs ih=>exact .cons (.same (hx x ac)) (ih λ y hy=>hx y aS)
 refine zN8 (args':= .ref o 0 3 0 0::args) (R:=R) (HH:= [(o, .rows true 0 3 [[.mp a, .mp b, .mp c]]),(a,nsO s'),(b,qsO s'),(c,csO s')]) [o,a,b,c] h hp hh.d af rfl (Nat.le_refl _) (.refl _) ?_ (zGi s 4 (Nat.le_refl _)) (.refl _ _ _ _) ?_ (.cons (.ref r0.symm) (rl ha)) ?_ (.same hR) ?_ ?_
 ·intro j hj;have:j=0∨j=1∨j=2∨j=3:=aa;rcases this with rfl|rfl|rfl|rfl
  ·exact ⟨_, _,rfl,by rw [r0];exact hh.ho, .rows (.cons (.cons (.mp r1.symm) (.cons (.mp r2.symm) (.cons (.mp r3.symm) .nil))) .nil)⟩
  ·exact ⟨_, _,rfl,by rw [r1];exact hh.ha, .rows (.same (cl1 _))⟩
  ·exact ⟨_, _,rfl,by rw [r2];exact hh.hb, .rows (.same (cl2 _))⟩
  ·exact ⟨_, _,rfl,by rw [r3];exact hh.hc, .rows (.same (cl3 _))⟩
 ·intro x hx;rcases List.mem_cons.1 hx with rfl|hx
  ·exact .ref hn.1
  ·exact (ha x hx).mono (Nat.zero_le _)
 ·intro x hx;rcases List.mem_cons.1 hx with rfl|hx
  ·exact .ref aa
  ·exact (ha x hx).mono (Nat.zero_le _)
 ·exact .cons r0.symm (.rows (.cons (.cons (.mp r1.symm) (.cons (.mp r2.symm) (.cons (.mp r3.symm) .nil))) .nil)) (.cons r1.symm (.rows (.same (cl1 _))) (.cons r2.symm (.rows (.same (cl2 _))) (.cons r3.symm (.rows (.same (cl3 _))) .nil)))
 ·have e:zdU [(o, .rows true 0 3 [[.mp a, .mp b, .mp c]]),(a,nsO s'),(b,qsO s'),(c,csO s')] (ziM [o,a,b,c] h)=zku s' a b c h:=by
   funext x;by_cases x0:x=o
   ·subst x0;simp [zdU,ziM,upd,zku,d1,d2,d3,hh.ho]
   by_cases x1:x=a
   ·simp_all [zdU,upd,zku]
   by_cases x2:x=b;all_goals simp_all [zdU,ziM,upd,zku]
  grind
variable {dst:Option Tmp} {acc:List ziQ} {ops rest:List Oper}
theorem zqB {Q:zc2}{m i:Nat}{e:Env} (hp:zcj P f (.ref 0 0 3 0 0::args) (bkH s) 4 R (bkH s') 4) (hh:zw8 s o a b c h)
  (ha:∀x ∈ args,Bel 0 x) (hR:Bel 0 R) (hk:adr P n ops Q m (i+1) rest (put e dst R) (zku s' a b c h) (acc++ [([o,a,b,c], [a,b,c])])):
  zbV P n ops Q m i rest dst (.fn (.func f) [] []) (.ref o 0 3 0 0::args) e h acc:=by
 have hw:zap [(a,some (nsO s')),(b,some (qsO s')),(c,some (csO s'))] h=zku s' a b c h:=rfl;try ((with_reducible refine wZ ?_);(try simp [go_sem]))
 refine zOf [o,a,b,c] [(a,some (nsO s')),(b,some (qsO s')),(c,some (csO s'))] R (λ h₁ n₁ hx hn K hK=> ?_) ?_ ?_ hR.toS (by rw [hw];exact hk)
 ·have hh1:zw8 s o a b c h₁:=⟨by rw [<- hx o ac];exact hh.ho,by rw [<- hx a ac];exact hh.ha,by rw [<- hx b ac];exact hh.hb,by rw [<- hx c ac];exact hh.hc,hh.d⟩
  simp only [List.nil_append,List.append_nil];exact zfN hp hh1 ⟨hn o ac,hn a ac,hn b ac,hn c ac⟩ ha hR hK
 ·intro x hx;simp only [List.mem_cons,List.not_mem_nil,or_false] at hx;rcases hx with rfl|rfl|rfl|rfl
  ·exact ⟨_,hh.ho⟩
  ·exact ⟨_,hh.ha⟩
  ·exact ⟨_,hh.hb⟩
  ·exact ⟨_,hh.hc⟩
 ·intro p hp;simp only [List.mem_cons,List.not_mem_nil,or_false] at hp;rcases hp with rfl|rfl|rfl
  ·exact ⟨ac, _, _, _,rfl,of_eq_true (zhX 0 _)⟩
  ·exact ⟨ac, _, _, _,rfl,of_eq_true (zjL 0 _)⟩
  ·exact ⟨ac, _, _, _,rfl,of_eq_true (zjK 0 _)⟩
theorem zgA {K:zbH} (hp:zcj P f (.ref 0 0 3 0 0::args) (bkH s) 4 R (bkH s') 4) (ha:∀x ∈ args,Bel 0 x) (hR:Bel 0 R) (hk:K R (zku s' 1 2 3 h) n)
  (h0:h 0=some (.rows true 0 3 [[.mp 1, .mp 2, .mp 3]]):=by simp [upd]) (h1:h 1=some (nsO s):=by simp [upd,nsO]) (h2:h 2=some (qsO s):=by simp [upd,qsO]) (h3:h 3=some (csO s):=by simp [upd,csO]) (hn:4<=n:=by omega):zaj P f (.ref 0 0 3 0 0::args) h n K:=
 zfN hp ⟨h0,h1,h2,h3,ai⟩ ⟨aa,aa,aa,aa⟩ ha hR hk
theorem zn2 {Q:zc2}{m i:Nat}{e:Env} (hp:zcj P f (.ref 0 0 3 0 0::args) (bkH s) 4 R (bkH s') 4)
  (ha:∀x ∈ args,Bel 0 x) (hR:Bel 0 R) (hk:adr P n ops Q m (i+1) rest (put e dst R) (zku s' 1 2 3 h) (acc++ [([0,1,2,3], [1,2,3])]))
  (h0:h 0=some (.rows true 0 3 [[.mp 1, .mp 2, .mp 3]]):=by simp [upd]) (h1:h 1=some (nsO s):=by simp [upd,nsO]) (h2:h 2=some (qsO s):=by simp [upd,qsO]) (h3:h 3=some (csO s):=by simp [upd,csO]):
  zbV P n ops Q m i rest dst (.fn (.func f) [] []) (.ref 0 0 3 0 0::args) e h acc:=zqB hp ⟨h0,h1,h2,h3,ai⟩ ha hR hk
theorem zFy {B:Type} (C:Nat->B->B->Prop) (n:Nat) (h:∀i,i<n->∀s,∃s',C i s s') (s0:B):∃S:Nat->B,S 0=s0∧∀i,i<n->C i (S i) (S (i+1)):=by
 induction n with
 |zero=>exact ⟨λ _=>s0,rfl,λ i hi=>aa⟩
 |succ n ih=>
  obtain ⟨S,h0,hS⟩:=ih λ i hi=>h i aa;obtain ⟨s',hs'⟩:=h n aa (S n);refine ⟨λ i=>if i<=n then S i else s',by simp [h0],λ i hi=> ?_⟩;grind
end Go.Av
end
section
open Go Go.Proofs
namespace Go.Av
open zab
variable {l:List zab}
theorem zpd {i:Nat} (h:i<l.length):za3 (l.take (i+1))=za3 (l.take i)++ [[zgh (nth l i)]]:=by
 grind [zgC,zml]
theorem zdZ {i:Nat} (h:i<l.length):nth (za3 l) i= [zgh (nth l i)]:=by grind [zgC,nth]
theorem zG1:za3 []= []:=rfl
attribute [go_sem] zG1 zku
def zJa (f:zab) (s s':zch):Prop:=zcj Tryz.prog 67 [.ref 0 0 3 0 0,zbQ f] (bkH s) 4 (zgh f) (bkH s') 4
theorem zBO (l:List zab) (hl:l.length<=68719476736) (s:zch) (S:Nat->zch) (h0:S 0=s) (hS:∀i,i<l.length->zJa (nth l i) (S i) (S (i+1))):
  zcj Tryz.prog 111 [.ref 0 0 3 0 0, .lst 2 (zar l)] (bkH s) 4 (.lst 1 (za3 l)) (bkH (S l.length)) 4:=by
 unfold zcj;rw [<- h0];clear h0;refine aF Tryz.func111 ?_;repeat first|refine wV λ _=>?_|simp [go_sem,bkH]
 refine zNW (zNY (α:=Nat) (λ i=>⟨[(0, .ref 0 0 3 0 0),(5, .sl 4 i 1 0 i),(8, .lst 2 (zar l)),(9, .int l.length),(10, .int i)],
   [(0, .rows true 0 3 [[.mp 1, .mp 2, .mp 3]]),(1,nsO (S i)),(2,qsO (S i)),(3,csO (S i)),(4, .rows true i 1 (za3 (l.take i)))],5⟩) (λ d i=>i+d=l.length) ?_ l.length 0 ?_) ?_ ?_
 ·intro d i hi hrec;have hlen:(za3 (l.take i)).length=i:=by grind [zia]
  refine J1 hlen ?_;refine zNX (λ hc=> ?_) (λ hc=> ?_)<;>simp at hc
  ·have hi':i<l.length:=by omega
   have hC:=hS i hi';rw [zJa,zbQ] at hC;repeat first|refine wV λ _=>?_|simp [go_sem,hlen,zaF hi',hi']
   refine zgA hC ae (zc0 0 _) ?_;repeat first|refine wV λ _=>?_|simp [go_sem,hlen,zbd (nth l i)]
   refine zNW (hrec (d - 1) aa (i+1) aa) ?_ ac;simp [go_sem,zaf,zpd hi',zbd (nth l i),nsO,qsO,csO]
  ·obtain rfl:i=l.length:=by omega
   rw [List.take_length] at *;refine J1 hlen ?_;simp [go_sem,zaf,nsO,qsO,csO,bkH];grind [zaq,upd]
 ·omega
 ·simp [go_sem,zaf,nsO,qsO,csO]
 ·simp
theorem zBu:∀f:zab,f.text.length+1<=4 * f.size
 | .mk l r=>by
  have hL:∀l:List zab,(∀x ∈ l,x.text.length+1<=4 * x.size)->(textL l).length<=4 * zaw l:=by
   intro l;induction l with
   |nil=>grind [textL]
   |cons x l ih=>
    intro h;have h1:=h x ac;have h2:=ih λ y hy=>h y aS;cases l<;>grind [textL,zaw]
  have h1:=hL l λ x hx=>zBu x;have h2:=hL r λ x hx=>zBu x;rw [text,size];simp only [List.length_cons,List.length_append,List.length_nil];omega
theorem zq4 (f:zab):(ziI f).length<=4 * f.size:=by
 have:=zBu f;grind [ziI]
theorem zqH:∀ (n:Nat) (f:zab),f.size<=n->n<=8589934592->∀s,∃s',zJa f s s':=by
 intro n;induction n with
 |zero=>grind [za1]
 |succ n ih=>
  intro f hf hn s;have e2:=zjs f;have e3:=zjt f;obtain ⟨S,S0,hS⟩:=zFy (λ i=>zJa (nth f.L i)) f.L.length (λ i hi=>ih _ aB aa) s;obtain ⟨T,T0,hT⟩:=zFy (λ i=>zJa (nth f.R i)) f.R.length (λ i hi=>ih _ aC aa) (S f.L.length);have hA:=zBO f.L aa s S S0 hS;have hB:=zBO f.R aa (S f.L.length) T T0 hT;have hM:=zlX (T f.R.length) f.L f.R aa aa (by have:=zq4 f;cases f;grind [L,R]);have ef:zab.mk f.L f.R=f:=by cases f;rfl
  rw [ef] at hM;refine ⟨_,(?_:zJa f s ⟨zxj (T f.R.length).ns f,(T f.R.length).qs,(T f.R.length).cs⟩)⟩;generalize S f.L.length=s1 at *;generalize T f.R.length=s2 at *;unfold zJa zcj;rw [zbQ,zao];refine aF Tryz.func67 ?_;have bl:∀ (n:Nat) (l:List zab),Bel n (.lst 1 (za3 l)):=λ n l=> .lst (zeX n l);repeat first|refine wV λ _=>?_|simp [go_sem,bkH]
  refine zn2 hA ae (bl 0 _) ?_;refine J0 ?_;refine zn2 hB ae (bl 0 _) ?_;refine J0 ?_;refine zn2 hM af (zc0 0 _) ?_;repeat first|refine wV λ _=>?_|simp [go_sem,zbd f]
  simp [go_sem,zaf,zbd f,nsO,qsO,csO,bkH]
end Go.Av
end
section
/- slices.IndexFunc, ContainsFunc of nodes, by a function that turns a book. -/
open Go Go.Proofs
namespace Go.Av
open zab
variable {K:zbH}
section
variable {l:List zab} {fid:FuncId} {first caps:List AV} {n:Nat} (hl:l.length<=68719476736) (H:Nat->zay) (p:Nat->Bool) (k:Nat) (hk:k<=l.length) (hno:∀i,i<k->p i=false) (hyes:k<l.length->p k=true)
 (hcall:∀i,i<l.length->i<=k->∀K:zbH,K (.bool (p i)) (H (i+1)) n->zaj Tryz.prog fid (first++zgh (nth l i)::caps) (H i) n K)
include hl hk hno hyes hcall
theorem zsg  (hK:K (.int (if k<l.length then (k:Int) else -1)) (H (if k<l.length then k+1 else k)) n):zaj Tryz.prog 169 [.lst 1 (za3 l), .fn (.func fid) first caps] (H 0) n K:=by
 refine aF Tryz.func169 ?_;refine J0 ?_;refine (show ∀ (d j:Nat) (e:Env),j+d=l.length->j<=k->e 0= .lst 1 (za3 l)->e 1= .fn (.func fid) first caps->e 7= .int l.length->e 8= .int j->zac _ _ _ e (H j) n from ?_) l.length 0 _ aa aa aj aj aj aj;intro d;induction d with
 |zero=>
  intro j e hj hjk e0 e1 e7 e8;obtain rfl:j=k:=aa;obtain rfl:j=l.length:=aa;rw [if_neg aa,if_neg aa] at hK;refine zNZ ?_;refine J4 e0 e1 e7 e8 ?_;exact hK
 |succ d ih=>
  intro j e hj hjk e0 e1 e7 e8;have hj':j<l.length:=aa;refine zNZ ?_;repeat first|refine wV λ _=>?_|simp [go_sem,e0,e1,e7,e8,zdZ hj',hj']
  refine hcall j hj' hjk _ ?_;by_cases e:j=k
  ·subst e;rw [hyes hj'];rw [if_pos hj',if_pos hj'] at hK;refine J4 e0 e1 e7 e8 ?_;exact hK
  ·rw [hno j aa];refine J4 e0 e1 e7 e8 ?_;refine ih (j+1) _ aa aa ?_ ?_ ?_ ?_<;>simp [upd,e0,e1,e7,e8]
theorem ztG  (hK:K (.bool (decide (k<l.length))) (H (if k<l.length then k+1 else k)) n):zaj Tryz.prog 118 [.lst 1 (za3 l), .fn (.func fid) first caps] (H 0) n K:=by
 refine aF Tryz.func118 ?_;refine J0 ?_;refine zsg hl H p k hk hno hyes hcall ?_;by_cases e:k<l.length
 ·rw [decide_eq_true e] at hK;simp only [if_pos e] at hK ⊢;refine J0 ?_;exact hK
 ·rw [decide_eq_false e] at hK;simp only [if_neg e] at hK ⊢;refine J0 ?_;exact hK
end
section
variable {l:List zab} {fid:FuncId} {first caps:List AV} {n o a b c:Nat} {h:zay} (hl:l.length<=68719476736) (S:Nat->zch) (hh:zw8 (S 0) o a b c h) (p:Nat->Bool) (k:Nat) (hk:k<=l.length) (hno:∀i,i<k->p i=false) (hyes:k<l.length->p k=true)
 (hcall:∀i,i<l.length->i<=k->∀h':zay,zw8 (S i) o a b c h'->(∀x,x≠a->x≠b->x≠c->h' x=h x)->∀K:zbH,K (.bool (p i)) (zku (S (i+1)) a b c h') n->zaj Tryz.prog fid (first++zgh (nth l i)::caps) h' n K)
include hl hh hk hno hyes hcall
theorem zyn  (hK:K (.int (if k<l.length then (k:Int) else -1)) (zku (S (if k<l.length then k+1 else k)) a b c h) n):zaj Tryz.prog 169 [.lst 1 (za3 l), .fn (.func fid) first caps] h n K:=by
 have:=zsg hl (λ i=>zku (S i) a b c h) p k hk hno hyes (λ i hi hik K hK=>hcall i hi hik _ (hh.set (S i)) (λ x h1 h2 h3=>zIA h1 h2 h3) K (by grind [zCI])) hK;simp only [zy8 hh] at this;exact this
theorem zlt  (hK:K (.bool (decide (k<l.length))) (zku (S (if k<l.length then k+1 else k)) a b c h) n):zaj Tryz.prog 118 [.lst 1 (za3 l), .fn (.func fid) first caps] h n K:=by
 have:=ztG hl (λ i=>zku (S i) a b c h) p k hk hno hyes (λ i hi hik K hK=>hcall i hi hik _ (hh.set (S i)) (λ x h1 h2 h3=>zIA h1 h2 h3) K (by grind [zCI])) hK;simp only [zy8 hh] at this;exact this
end
theorem zCO {α:Type} [Inhabited α] {l:List α}{q:α->Bool}{k:Nat} (hk:k<=l.length) (hno:∀i,i<k->q (nth l i)=false) (hyes:k<l.length->q (nth l k)=true):(l.all λ z=> !q z)= !decide (k<l.length):=by
 grind [List.getElem_of_mem,zcp]
theorem zpJ (p:Nat->Bool) (n:Nat):∃k,k<=n∧(∀i,i<k->p i=false)∧(k<n->p k=true):=by
 induction n<;>grind
end Go.Av
end
section
open Go Go.Proofs
namespace Go.Av
open zab
theorem zwx {α:Type}{T:TK}{key val:α->AV} (hk:∀a b,∃r,zir T (key a) (key b)=some r∧(r=true↔a=b)) (a:α):∀l:List α,a ∈ l->zdv T (key a) (val a) (l.map λ x=> [key x,val x])=some (l.map λ x=> [key x,val x])
 | [],h=>bm
 |b::l,h=>by
  obtain ⟨r,h1,h2⟩:=hk a b;have e:cel [key b,val b] 0=key b:=rfl;cases r with
  |true=>
   grind [zdv]
  |false=>
   simp_all [zdv,zwx]
instance:DecidableEq (zab×zab):=inferInstance
theorem put_q (p:zab×zab) (l:List (zab×zab)):zdv (.many [2,2]) (zqn p) (.v (.bool (leq p.1 p.2))) (l.map zpC)=some ((zxj l p).map zpC):=by
 by_cases h:p ∈ l
 ·rw [zxj,if_pos h];exact zwx (val:=λ p:zab×zab=> .v (.bool (leq p.1 p.2))) zIm p l h
 grind [zxj,zHd,zpC]
theorem put_c (f:zab) (l:List zab):zdv .string (skF f) (zgh f.canon) (l.map zpq)=some ((zxj l f).map zpq):=by
 by_cases h:f ∈ l
 ·rw [zxj,if_pos h];exact zwx (val:=λ f:zab=>zgh f.canon) zIF f l h
 grind [zxj,zHb,zpq]
theorem kf_q:zwo Tryz.prog 207=some [2,2]:=ah
theorem tz1_b:tz1 Tryz.prog 4=some (.bool false):=ah
def zhA (x y:zab) (s s':zch):Prop:=zcj Tryz.prog 69 [.ref 0 0 3 0 0,zgh x,zgh y] (bkH s) 4 (.bool (leq x y)) (bkH s') 4
theorem zEn (x y:zab) (s:zch) (h:(x,y) ∈ s.qs):zhA x y s s:=by
 obtain ⟨ns,qs,cs⟩:=s;have e:=(zHd (x,y) qs).1 h;simp only [zqn,skF] at e;have hz:=tz1_b;have hq:=kf_q;unfold zhA zcj;rw [zbd x,zbd y];refine aF Tryz.func69 ?_;repeat first|refine wV λ _=>?_|simp [go_sem,bkH,hz,hq,e]
 simp [go_sem,zaf]
theorem zu0 (y z:zab){s s':zch} (hm:zhA y z s s'){h:zay}{n o a b c bo bn:Nat}{K:zbH} (hh:zw8 s o a b c h) (hn:o<n∧a<n∧b<n∧c<n) (hbo:h bo=some (.rows true 0 1 [[.ref o 0 3 0 0]])) (hbn:h bn=some (.rows true 0 1 [[zgh y]]))
  (hK:K (.bool (leq y z)) (zku s' a b c h) n):zaj Tryz.prog 116 [zgh z, .ref bo 0 1 0 0, .ref bn 0 1 0 0] h n K:=by
 have hm':=hm;unfold zhA at hm';rw [zbd y] at hbn hm';refine aF Tryz.func116 ?_;refine J2 hbo hbn ?_;refine zfN hm' hh hn ae (.v _) ?_;refine J0 ?_;exact hK
theorem zEm (x z:zab){s s':zch} (hm:zhA z x s s'){h:zay}{n o a b c bo bn:Nat}{K:zbH} (hh:zw8 s o a b c h) (hn:o<n∧a<n∧b<n∧c<n) (hbo:h bo=some (.rows true 0 1 [[.ref o 0 3 0 0]])) (hbn:h bn=some (.rows true 0 1 [[zgh x]]))
  (hK:K (.bool (leq z x)) (zku s' a b c h) n):zaj Tryz.prog 117 [zgh z, .ref bo 0 1 0 0, .ref bn 0 1 0 0] h n K:=by
 have hm':=hm;unfold zhA at hm';rw [zbd x] at hbn hm';refine aF Tryz.func117 ?_;refine J2 hbo hbn ?_;refine zfN hm' hh hn ae (.v _) ?_;refine J0 ?_;exact hK
theorem zno:∀ (n:Nat) (x y:zab),x.size+y.size<=n->n<=17179869184->∀s,∃s',zhA x y s s':=by
 intro n;induction n with
 |zero=>grind [za1]
 |succ n ih=>
  intro x y hf hn s;by_cases hk:(x,y) ∈ s.qs
  ·exact ⟨s,zEn x y s hk⟩
  have e2:=zjs x;have e3:=zjt y;obtain ⟨S,S0,hS⟩:=zFy (λ i=>zhA y (nth x.L i)) x.L.length (λ i hi=>ih _ _ aB aa) s;obtain ⟨k1,a1,a2,a3⟩:=zpJ (λ i=>leq y (nth x.L i)) x.L.length;obtain ⟨s1,hs1⟩:∃s1,s1=S (if k1<x.L.length then k1+1 else k1):=⟨_,rfl⟩
  have b1:=zCO (q:=λ z=>leq y z) a1 a2 a3;have el:=zlV x y;rw [b1] at el;have f0:=((zHd (x,y) s.qs).2 hk).1;simp only [zqn,skF] at f0;have hz:=tz1_b;have hq:=kf_q;by_cases c1:k1<x.L.length
  ·rw [decide_eq_true c1,Bool.not_true,Bool.false_and] at el;rw [if_pos c1] at hs1;refine ⟨⟨s1.ns,zxj s1.qs (x,y),s1.cs⟩, ?_⟩;have hp:=put_q (x,y) s1.qs;simp only [zqn,skF,el] at hp;unfold zhA zcj;rw [el,zbd x,zbd y];refine aF Tryz.func69 ?_;repeat first|refine wV λ _=>?_|simp [go_sem,bkH,hz,hq,f0]
   refine zlt aa S (o:=0) (a:=1) (b:=2) (c:=3) bQ _ k1 a1 a2 a3 (λ i hi hik h' hh hx K hK=> ?_) ?_
   ·exact zu0 y (nth x.L i) (hS i hi) hh aa aO (by grind [zbd,upd]) hK
   ·rw [if_pos c1,<- hs1,decide_eq_true c1];repeat first|refine wV λ _=>?_|simp [go_sem,nsO,qsO,csO]
    refine aGC.skip .top ?_;refine J2 hq hp ?_;simp [go_sem,zaf]
  ·rw [decide_eq_false c1,Bool.not_false,Bool.true_and] at el;rw [if_neg c1] at hs1;obtain ⟨T,T0,hT⟩:=zFy (λ i=>zhA (nth y.R i) x) y.R.length (λ i hi=>ih _ _ aC aa) s1;obtain ⟨k2,d1,d2,d3⟩:=zpJ (λ i=>leq (nth y.R i) x) y.R.length;obtain ⟨s2,hs2⟩:∃s2,s2=T (if k2<y.R.length then k2+1 else k2):=⟨_,rfl⟩
   have b2:=zCO (q:=λ z=>leq z x) d1 d2 d3;rw [b2] at el;refine ⟨⟨s2.ns,zxj s2.qs (x,y),s2.cs⟩, ?_⟩;have hp:=put_q (x,y) s2.qs;simp only [zqn,skF,el] at hp;unfold zhA zcj;rw [el,zbd x,zbd y];generalize htv:decide (k2<y.R.length)=tv at *;refine aF Tryz.func69 ?_;repeat first|refine wV λ _=>?_|simp [go_sem,bkH,hz,hq,f0]
   refine zlt aa S (o:=0) (a:=1) (b:=2) (c:=3) bQ _ k1 a1 a2 a3 (λ i hi hik h' hh hx K hK=> ?_) ?_
   ·exact zu0 y (nth x.L i) (hS i hi) hh aa aO (by grind [zbd,upd]) hK
   ·rw [if_neg c1,<- hs1,decide_eq_false c1];repeat first|refine wV λ _=>?_|simp [go_sem,nsO,qsO,csO]
    refine aGC.go ?_;refine zlt aa T (o:=0) (a:=1) (b:=2) (c:=3) (by rw [T0];exact ⟨aj,by simp [upd,nsO],by simp [upd,qsO],by simp [upd,csO],ai⟩) _ k2 d1 d2 d3 (λ i hi hik h' hh hx K hK=> ?_) ?_
    ·exact zEm x (nth y.R i) (hT i hi) hh aa (by rw [hx 4 aa aa aa];simp [upd]) (by grind [zbd,upd]) hK
    ·rw [htv,<- hs2];repeat first|refine wV λ _=>?_|simp [go_sem,nsO,qsO,csO,hq,hp]
     simp [go_sem,zaf]
end Go.Av
end
section
open Go Go.Proofs
namespace Go.Av
open zab
theorem zlA (a b:List zab):za3 a++za3 b=za3 (a++b):=by grind [zgC]
theorem zCY (m:Int) (h0:0<=m) (h1:m<=17179869184):ztr Tryz.prog 220 [AV.nils, .int m] (λ n=> .sl n 0 1 0 0) (λ n=> [(n, .rows true 0 1 [])]) 1:=by
 refine ⟨?_,λ n=>⟨ae,ae⟩⟩;by_cases hm:m=0
 ·subst hm;refine aF Tryz.func220 ?_;refine J0 ?_;simp [go_sem,zaf]
 ·refine zaj.clear ?_;refine aF Tryz.func220 ?_;refine J0 ?_;refine FxF ?_;refine J0 ?_;refine FxT ?_;refine J0 ?_;refine ⟨0,0,1,ai,⟨rfl,rfl,rfl⟩, ?_⟩;simp [go_sem,zaf]
theorem znG (a b c:List zab) (ha:a.length<=4294967296) (hb:b.length<=4294967296) (hc:c.length<=4294967296):zav Tryz.prog 171 [.lst 1 [[.lst 1 (za3 a)], [.lst 1 (za3 b)], [.lst 1 (za3 c)]]] (.lst 1 (za3 (a++b++c))):=by
 refine pF Tryz.func171 ?_;refine J0 ?_;refine zNZ ?_;refine J0 ?_;refine FxF ?_;refine J0 ?_;refine zNZ ?_;refine J0 ?_;refine FxF ?_;refine J0 ?_;refine zNZ ?_;refine J0 ?_;refine FxF ?_;refine J0 ?_;refine zNZ ?_;refine J0 ?_;refine zN1 (zCY _ aa aa) ae ?_;refine J0 ?_;refine zNZ ?_;refine J0 ?_;refine zNZ ?_;refine J0 ?_;refine zNZ ?_;refine J0 ?_;refine zNZ ?_;refine J0 ?_;rw [<- zlA,<- zlA];exact zaq rfl (by simp [zia]) ap (List.take_of_length_le (by simp [zia]))
theorem zGC (w z:zab){s s':zch} (hm:zhA z w s s'){h:zay}{n o a b c bo bn:Nat}{K:zbH} (hh:zw8 s o a b c h) (hn:o<n∧a<n∧b<n∧c<n) (hbo:h bo=some (.rows true 0 1 [[.ref o 0 3 0 0]])) (hbn:h bn=some (.rows true 0 1 [[zgh w]]))
  (hK:K (.bool (leq z w)) (zku s' a b c h) n):zaj Tryz.prog 170 [zgh z, .ref bo 0 1 0 0, .ref bn 0 1 0 0] h n K:=by
 have hm':=hm;unfold zhA at hm';rw [zbd w] at hbn hm';refine aF Tryz.func170 ?_;refine J2 hbo hbn ?_;refine zfN hm' hh hn ae (.v _) ?_;refine J0 ?_;exact hK
theorem zrT (l:List zab) (i:Nat):(za3 l).take i=za3 (l.take i):=by grind [zgC,List.map_take]
theorem zrS (l:List zab) (i:Nat):(za3 l).drop i=za3 (l.drop i):=by grind [zgC,List.map_drop]
def BypI (w x:zab) (s s':zch):Prop:=∃ (T:Nat->zch) (k:Nat),T 0=s∧(∀j,j<x.R.length->zhA (nth x.R j) w (T j) (T (j+1)))∧k<=x.R.length∧(∀j,j<k->leq (nth x.R j) w=false)∧(k<x.R.length->leq (nth x.R k) w=true)∧s'=T (if k<x.R.length then k+1 else k)
theorem zMJ (w x:zab) (h:w.size+x.size<=17179869184) (s:zch):∃s',BypI w x s s':=by
 obtain ⟨T,T0,hT⟩:=zFy (λ j=>zhA (nth x.R j) w) x.R.length (λ j hj=>zno _ _ _ (Nat.le_refl _) (by have:=zb5 hj;omega)) s;obtain ⟨k,k1,k2,k3⟩:=zpJ (λ j=>leq (nth x.R j) w) x.R.length;exact ⟨_,T,k,T0,hT,k1,k2,k3,rfl⟩
def zEy (l:List zab):Option (List zab)->AV
 |none=> .tup [.lst 1 (za3 l), .bool false]
 |some l'=> .tup [.lst 1 (za3 l'), .bool true]
def zLn (l r:List zab) (s s':zch):Prop:=zcj Tryz.prog 119 [.ref 0 0 3 0 0, .lst 1 (za3 l), .lst 1 (za3 r)] (bkH s) 4 (zEy l (zmt (.mk l r) l)) (bkH s') 4
theorem zGI (l r:List zab) (hs:(zab.mk l r).size<=4294967296) (s:zch):∃s',zLn l r s s':=by
 obtain ⟨w,hw⟩:∃w,w=zab.mk l r:=⟨_,rfl⟩
 have e2:=zjs (.mk l r);have e3:=zjt (.mk l r);have hsx:∀i,i<l.length->(nth l i).size<(zab.mk l r).size:=λ i hi=>zbS (f:= .mk l r) hi;simp only [zab.L,zab.R] at e2 e3;have hM:=zlX s l r aa aa (by grind [zq4]);rw [<- hw] at hM hs e2 e3 hsx;obtain ⟨U,U0,hU⟩:=zFy (λ i=>BypI w (nth l i)) l.length (λ i hi s=>zMJ w _ af s) ⟨zxj s.ns w,s.qs,s.cs⟩;rw [<- U0] at hM;clear U0;obtain ⟨m,m1,m2,m3⟩:=zpJ (λ i=>(nth l i).R.any λ z=>leq z w) l.length;refine ⟨U (if m<l.length then m+1 else m), ?_⟩;unfold zLn zcj;rw [<- hw];refine aF Tryz.func119 ?_;repeat first|refine wV λ _=>?_|simp [go_sem,bkH]
 refine zgA hM ae (zc0 0 _) ?_;have hew:=zbd w;refine J1 hew ?_;refine zNW (zNY (α:=Nat) (λ i=>⟨[(1, .lst 1 (za3 l)),(3, .ref 4 0 1 0 0),(8, .ref 5 0 1 0 0),(17, .lst 1 (za3 l)),(18, .int l.length),(19, .int i)],
   [(0, .rows true 0 3 [[.mp 1, .mp 2, .mp 3]]),(1,nsO (U i)),(2,qsO (U i)),(3,csO (U i)),(4, .rows true 0 1 [[.ref 0 0 3 0 0]]),(5, .rows true 0 1 [[zgh w]])],6⟩) (λ d i=>i+d=l.length∧i<=m) ?_ l.length 0 ?_) ?_ ?_
 ·rintro d i ⟨hi,him⟩ hrec;refine J0 ?_;refine zNX (λ hc=> ?_) (λ hc=> ?_)<;>simp at hc
  ·have hi':i<l.length:=by omega
   have hex:=zbd (nth l i);obtain ⟨T,k,T0,hT,k1,k2,k3,hU'⟩:=hU i hi';have hxs:=hsx i hi';have hxr:=zjt (nth l i);repeat first|refine wV λ _=>?_|simp [go_sem,zdZ hi',hi',hex]
   refine zyn aa T (o:=0) (a:=1) (b:=2) (c:=3) cp _ k k1 k2 k3 (λ j hj hjk h' hh hx K hK=> ?_) ?_
   ·exact zGC w _ (hT j hj) hh aa aO (by simp_all [upd]) hK
   ·rw [<- hU'];by_cases hk:k<(nth l i).R.length
    ·rw [if_pos hk];have hez:=zbd (nth (nth l i).R k);have em:i=m:=by
      refine Classical.byContradiction λ hne=> ?_;have:=m2 i aa;grind [nth]
     have hb:=zAe (x:=w) (l:=l) (i:=i) (k:=k) hi' (λ j hj k' hk'=>by
      grind [nth]) hk k2 (k3 hk)
     have hzl:=zb5 hk;have hzl2:=zjs (nth (nth l i).R k);have hC:=znG (l.take i) (nth (nth l i).R k).L (l.drop (i+1)) af aa af;have td:(l.drop (i+1)).take (l.length - (i+1))=l.drop (i+1):=List.take_of_length_le ac;repeat first|refine wV λ _=>?_|simp [go_sem,zdZ hk,hk,hez,zrT,zrS,td]
     refine zbV.frz [.lst 1 [[.lst 1 (za3 (l.take i))], [.lst 1 (za3 (nth (nth l i).R k).L)], [.lst 1 (za3 (l.drop (i+1)))]]] _ [23] [(23,some (.rows false 0 1 [[.lst 1 (za3 (l.take i))], [.lst 1 (za3 (nth (nth l i).R k).L)], [.lst 1 (za3 (l.drop (i+1)))]]))] hC ?_ ?_ ae ?_
     ·grind [upd]
     ·intro h₁ hS;have h7:=hS 23 ac;simp [go_sem] at h7;exact .cons (zaq h7.symm ac cy af) .nil
     ·subst em;rw [if_pos hi',hb,zEy];refine J0 ?_;simp [go_sem,zaf,hew,nsO,qsO,csO,bkH]
    ·rw [if_neg hk];have hni:i≠m:=λ e=>by
      grind [List.getElem_of_mem,nth]
     refine J0 ?_;refine zNW (hrec (d - 1) aa (i+1) ⟨aa,aa⟩) ?_ ac;simp [go_sem,zaf,hew,nsO,qsO,csO]
  ·obtain rfl:i=l.length:=by omega
   obtain rfl:m=l.length:=aa;rw [if_neg aa,zo3 λ j hj k hk=>by
    grind [nth]]
   rw [zEy];refine J0 ?_;simp [go_sem,zaf,hew,nsO,qsO,csO,bkH]
 ·omega
 ·simp [go_sem,zaf,hew,nsO,qsO,csO]
 ·simp
end Go.Av
end
section
open Go Go.Proofs
namespace Go.Av
open zab
theorem zGE {x:zab}:∀ {l:List zab}{i k:Nat},i<l.length->(∀j,j<i->∀k,k<(nth l j).L.length->leq x (nth (nth l j).L k)=false)->k<(nth l i).L.length->
  (∀j,j<k->leq x (nth (nth l i).L j)=false)->leq x (nth (nth l i).L k)=true->zmU x l=some (l.take i++((nth (nth l i).L k).R++l.drop (i+1)))
 | [],i,k,hi, _, _, _, _=>by simp at hi
 |a::l,0,k, _, _,hk,hj,h=>by
  grind [nth,zmU,zAv]
 |a::l,i+1,k,hi,h0,hk,hj,h=>by
  rw [za6] at hk h;have hj':∀j,j<k->leq x (nth (nth l i).L j)=false:=λ j hj2=>by have:=hj j hj2;rwa [za6] at this
  have ha:a.L.find? (λ b=>leq x b)=none:=zwa λ j hj=>by have:=h0 0 aa j dw;rwa [zce] at this
  rw [zmU,ha];simp only;rw [zGE au (λ j hj2 k hk2=>by have:=h0 (j+1) aa k (by rw [za6];exact hk2);rwa [za6] at this) hk hj' h];simp [za6]
theorem zuo {x:zab}:∀ {l:List zab},(∀j,j<l.length->∀k,k<(nth l j).L.length->leq x (nth (nth l j).L k)=false)->zmU x l=none
 | [], _=>rfl
 |a::l,h=>by
  have ha:a.L.find? (λ b=>leq x b)=none:=zwa λ j hj=>by have:=h 0 ac j dw;rwa [zce] at this
  rw [zmU,ha];simp only;rw [zuo (λ j hj k hk=>by have:=h (j+1) (by simpa using hj) k (by rw [za6];exact hk);rwa [za6] at this)];rfl
theorem zIZ (w z:zab){s s':zch} (hm:zhA w z s s'){h:zay}{n o a b c bo bn:Nat}{K:zbH} (hh:zw8 s o a b c h) (hn:o<n∧a<n∧b<n∧c<n) (hbo:h bo=some (.rows true 0 1 [[.ref o 0 3 0 0]])) (hbn:h bn=some (.rows true 0 1 [[zgh w]]))
  (hK:K (.bool (leq w z)) (zku s' a b c h) n):zaj Tryz.prog 172 [zgh z, .ref bo 0 1 0 0, .ref bn 0 1 0 0] h n K:=by
 have hm':=hm;unfold zhA at hm';rw [zbd w] at hbn hm';refine aF Tryz.func172 ?_;refine J2 hbo hbn ?_;refine zfN hm' hh hn ae (.v _) ?_;refine J0 ?_;exact hK
def TrnI (w x:zab) (s s':zch):Prop:=∃ (T:Nat->zch) (k:Nat),T 0=s∧(∀j,j<x.L.length->zhA w (nth x.L j) (T j) (T (j+1)))∧k<=x.L.length∧(∀j,j<k->leq w (nth x.L j)=false)∧(k<x.L.length->leq w (nth x.L k)=true)∧s'=T (if k<x.L.length then k+1 else k)
theorem zNE (w x:zab) (h:w.size+x.size<=17179869184) (s:zch):∃s',TrnI w x s s':=by
 obtain ⟨T,T0,hT⟩:=zFy (λ j=>zhA w (nth x.L j)) x.L.length (λ j hj=>zno _ _ _ (Nat.le_refl _) (by have:=zbS hj;omega)) s;obtain ⟨k,k1,k2,k3⟩:=zpJ (λ j=>leq w (nth x.L j)) x.L.length;exact ⟨_,T,k,T0,hT,k1,k2,k3,rfl⟩
def zNJ (l r:List zab) (s s':zch):Prop:=zcj Tryz.prog 120 [.ref 0 0 3 0 0, .lst 1 (za3 l), .lst 1 (za3 r)] (bkH s) 4 (zEy r (zmU (.mk l r) r)) (bkH s') 4
theorem zNF (l r:List zab) (hs:(zab.mk l r).size<=4294967296) (s:zch):∃s',zNJ l r s s':=by
 obtain ⟨w,hw⟩:∃w,w=zab.mk l r:=⟨_,rfl⟩
 have e2:=zjs (.mk l r);have e3:=zjt (.mk l r);have hsx:∀i,i<r.length->(nth r i).size<(zab.mk l r).size:=λ i hi=>zb5 (f:= .mk l r) hi;simp only [zab.L,zab.R] at e2 e3;have hM:=zlX s l r aa aa (by grind [zq4]);rw [<- hw] at hM hs e2 e3 hsx;obtain ⟨U,U0,hU⟩:=zFy (λ i=>TrnI w (nth r i)) r.length (λ i hi s=>zNE w _ af s) ⟨zxj s.ns w,s.qs,s.cs⟩;rw [<- U0] at hM;clear U0;obtain ⟨m,m1,m2,m3⟩:=zpJ (λ i=>(nth r i).L.any λ z=>leq w z) r.length;refine ⟨U (if m<r.length then m+1 else m), ?_⟩;unfold zNJ zcj;rw [<- hw];refine aF Tryz.func120 ?_;repeat first|refine wV λ _=>?_|simp [go_sem,bkH]
 refine zgA hM ae (zc0 0 _) ?_;have hew:=zbd w;refine J1 hew ?_;refine zNW (zNY (α:=Nat) (λ i=>⟨[(2, .lst 1 (za3 r)),(3, .ref 4 0 1 0 0),(8, .ref 5 0 1 0 0),(17, .lst 1 (za3 r)),(18, .int r.length),(19, .int i)],
   [(0, .rows true 0 3 [[.mp 1, .mp 2, .mp 3]]),(1,nsO (U i)),(2,qsO (U i)),(3,csO (U i)),(4, .rows true 0 1 [[.ref 0 0 3 0 0]]),(5, .rows true 0 1 [[zgh w]])],6⟩) (λ d i=>i+d=r.length∧i<=m) ?_ r.length 0 ?_) ?_ ?_
 ·rintro d i ⟨hi,him⟩ hrec;refine J0 ?_;refine zNX (λ hc=> ?_) (λ hc=> ?_)<;>simp at hc
  ·have hi':i<r.length:=by omega
   have hex:=zbd (nth r i);obtain ⟨T,k,T0,hT,k1,k2,k3,hU'⟩:=hU i hi';have hxs:=hsx i hi';have hxr:=zjs (nth r i);repeat first|refine wV λ _=>?_|simp [go_sem,zdZ hi',hi',hex]
   refine zyn aa T (o:=0) (a:=1) (b:=2) (c:=3) cp _ k k1 k2 k3 (λ j hj hjk h' hh hx K hK=> ?_) ?_
   ·exact zIZ w _ (hT j hj) hh aa aO (by simp_all [upd]) hK
   ·rw [<- hU'];by_cases hk:k<(nth r i).L.length
    ·rw [if_pos hk];have hez:=zbd (nth (nth r i).L k);have em:i=m:=by
      refine Classical.byContradiction λ hne=> ?_;have:=m2 i aa;grind [nth]
     have hb:=zGE (x:=w) (l:=r) (i:=i) (k:=k) hi' (λ j hj k' hk'=>by
      grind [nth]) hk k2 (k3 hk)
     have hzl:=zbS hk;have hzl2:=zjt (nth (nth r i).L k);have hC:=znG (r.take i) (nth (nth r i).L k).R (r.drop (i+1)) af aa af;have td:(r.drop (i+1)).take (r.length - (i+1))=r.drop (i+1):=List.take_of_length_le ac;repeat first|refine wV λ _=>?_|simp [go_sem,zdZ hk,hk,hez,zrT,zrS,td]
     refine zbV.frz [.lst 1 [[.lst 1 (za3 (r.take i))], [.lst 1 (za3 (nth (nth r i).L k).R)], [.lst 1 (za3 (r.drop (i+1)))]]] _ [23] [(23,some (.rows false 0 1 [[.lst 1 (za3 (r.take i))], [.lst 1 (za3 (nth (nth r i).L k).R)], [.lst 1 (za3 (r.drop (i+1)))]]))] hC ?_ ?_ ae ?_
     ·intro p hp;simp only [List.mem_singleton] at hp;subst hp;exact ⟨ac,0,1, _,rfl,by simp [upd,go_sem]⟩
     ·intro h₁ hS;have h7:=hS 23 ac;simp [go_sem] at h7;exact .cons (zaq h7.symm ac cy ae) .nil
     ·subst em;rw [if_pos hi',hb,zEy];refine J0 ?_;simp [go_sem,zaf,hew,nsO,qsO,csO,bkH]
    ·rw [if_neg hk];have hni:i≠m:=λ e=>by
      have h1:=m3 aa;rw [<- e,List.any_eq_true] at h1;obtain ⟨z,hz,hz2⟩:=h1;obtain ⟨j,hj,rfl⟩:=List.getElem_of_mem hz;rw [<- zcp _ _ hj,k2 j aa] at hz2;cases hz2
     refine J0 ?_;refine zNW (hrec (d - 1) aa (i+1) ⟨aa,aa⟩) ?_ ac;simp [go_sem,zaf,hew,nsO,qsO,csO]
  ·obtain rfl:i=r.length:=by omega
   obtain rfl:m=r.length:=aa;rw [if_neg aa,zuo λ j hj k hk=>by
    have:=m2 j hj;rw [List.any_eq_false] at this;exact Bool.not_eq_true _▸this _ (zah hk)]
   rw [zEy];refine J0 ?_;simp [go_sem,zaf,hew,nsO,qsO,csO,bkH]
 ·exact ⟨aa,aa⟩
 ·simp [go_sem,zaf,hew,nsO,qsO,csO]
 ·simp
end Go.Av
end
section
namespace Go.Av
open Go Go.Sort Go.Shelf Go.Proofs
theorem zx8 {β:Type} [Inhabited β] (enc:β->List Value) (hk:∀x,(enc x).length=1) (d:Array β):flatK enc 1 d=d.map λ x=>(enc x).headD undef:=by
 refine Array.ext bg λ i h1 h2=> ?_;have hi:i<d.size:=af;have h:=get_flatK enc 1 d i aa;rw [getElem!_pos _ i h1] at h;rw [h,Array.getElem_map,Nat.div_one,Nat.mod_one,getElem!_pos d i hi];have:=hk d[i];generalize enc d[i]=V at this ⊢;cases V<;>grind
theorem zEU {β:Type} [Inhabited β] (enc:β->Value) (w:World) (blk off:Nat) (d:Array β):putRow id w blk off (d.map enc)=putRow enc w blk off d:=by
 unfold putRow;congr 1;grind [putCells]
variable {ρ:Ren} {P:Program}
theorem sortK1 {α:Type} [Inhabited α] (L:SlLaysF.n6 P ρ){k:Nat} (hk1:k=1) (enc:α->List Value) (hk:∀x,(enc x).length=k) (h1:∀x,∀v ∈ enc x,v.oneCell'=true) (cf:α->α->Int) (hO:SWO (ltOf cf)) (g:Nat) (cb:Array Value) (blk off cap:Nat) (d:Array α) (w:World)
  (eg:∀args w,(callFunc g args).run P w= .ok (.enter g args) w)
  (hcmp:∀ (m:Nat) (os:Array Obj) (dk:Array α),dk.size=d.size->∀x y:α,Calls P g (#[(enc x).headD undef,(enc y).headD undef]++cb) (sortWorldK enc k w blk off m dk os) λ e w'=>e= .returned (.int .i64 (cf x y))∧∃q os',w'=grow ((sortWorldK enc k w blk off m dk os).drewN q) os')
  (hH:HoldsK enc k w blk off d) (hblk:blk<w.heap.size) (hsz:d.size<4611686018427387904):
  Calls P (ρ.f 6) #[.slice (some ⟨blk,off,none⟩) d.size cap, .func (.func g) #[] cb] w λ e w'=>
   e= .returned (.tuple #[])∧∃d' n os,PermIn 0 d.size d d'∧SortedIn (ltOf cf) 0 d.size d'∧w'=sortWorldK enc k w blk off n d' os:=by
 subst hk1;have hW:∀m dk os,sortWorldK enc 1 w blk off m dk os=sortWorld (λ x=>(enc x).headD undef) w blk off m dk os:=λ m dk os=>by
  grind [sortWorldK,sortWorld,putRowK,zx8,zEU]
 simp only [hW] at hcmp ⊢;refine Any.slices_SortFunc L (λ x=>(enc x).headD undef) (λ x=> ?_) cf hO g cb blk off cap d w eg hcmp ?_ hblk hsz
 ·have h2:=hk x;have h3:=h1 x;show ((enc x).headD undef).oneCell'=true;generalize enc x=V at h2 h3 ⊢;cases V<;>grind
 ·intro j hj;have:=hH j bg;grind [zx8]
theorem zOq  (L:SlLaysF.n6 P ρ){α:Type} (e1:α->AV) (henb0:∀x,Bel 0 (e1 x)) (Q:α->Prop) (cf:α->α->Int) (hO:SWO (λ a b:α=>decide (cf a b<0))) (g:FuncId)
  (hC:∀x y,Q x->Q y->zav P g [e1 x,e1 y] (.v (.int .i64 (cf x y)))) (hg:zfJ P g) (l:List α) (hQ:∀x ∈ l,Q x) (hl:l.length<4611686018427387904) {h:zay} {n o gn:Nat}
  (ho:h o=some (.rows true gn 1 (l.map λ x=> [e1 x]))) {K:zbH} (hK:∀l':List α,l'.Perm l->l'.Pairwise (λ a b=>¬cf b a<0)->K (.tup []) (upd h o (some (.rows true gn 1 (l'.map λ x=> [e1 x])))) n):
  zaj P (ρ.f 6) [.sl o gn 1 0 l.length, .fn (.func g) [] []] h n K:=by
 have e6:zfJ P (ρ.f 6):=L.f6.enters rfl;obtain ⟨k,hk1⟩:∃k,k=1:=⟨1,rfl⟩
 obtain ⟨en,hen⟩:∃en:α->List AV,en=λ x=> [e1 x]:=⟨_,rfl⟩
 have hex:∀x,en x= [e1 x]:=λ x=>by rw [hen]
 have hk0:0<k:=aa;have henl:∀x,(en x).length=k:=λ x=>af;have henb:∀x,∀c ∈ en x,Bel 0 c:=λ x c hc=>af;rw [<- hk1,<- hen] at ho;rw [<- hk1];simp only [<- hk1,<- hen] at hK;refine ⟨e6,λ M0 φ w vs hH hargs=> ?_⟩;cases hargs with
 |cons hs ht=>
 cases ht with
 |cons hf ht=>
 cases ht;cases hf with
 | @fn _ _ _ fs cs q1 q2=>
 cases q1;cases q2;have hal:zdI h o gn k:=bp;obtain ⟨A,cap,rfl,hcap,hA⟩:=hH.sl_alive hal hs;have hnone:l= []->Calls P (ρ.f 6) ⟨[.slice A l.length cap, .func (.func g) ⟨[]⟩ ⟨[]⟩]⟩ w λ e w'=>∃v φ' r h' n',e= .returned v∧K r h' n'∧zmK φ' n' w' M0 h'∧Rel φ' w' (Or M0 (Mut φ' h')) r v∧ze3 φ w M0 h φ' w' h':=by
  intro he;subst he;refine (AnyF.slices_SortFunc_none { L with} A cap _ w).mono ?_;rintro e w' ⟨rfl,rfl⟩;have:=hK [] (.refl _) .nil;rw [<- ho,zq5] at this;exact ⟨_,φ, .tup [],h,n,rfl,this,hH, .tup (vs:= []) .nil, .refl _ _ _ _⟩
 by_cases he:l= []
 ·grind
 have hlp:0<l.length:=List.length_pos_iff.2 he;rcases hA with ⟨rfl, _,h0, _⟩|⟨h0,rfl, _⟩|⟨a,bs,hp,hsp,rfl,hcb⟩
 ·omega
 ·omega
 obtain ⟨A0,hA0,hobj⟩:=hH.obj _ _ _ _ _ ho;rw [hp] at hA0;simp only [Option.some.injEq,Prod.mk.injEq,true_and] at hA0;subst hA0;rcases hobj with ⟨hobj, _⟩|⟨a₁,bs₁,e1,h0,hd⟩
 ·cases hobj
 simp only [Option.some.injEq,Prod.mk.injEq] at e1;obtain ⟨rfl,rfl⟩:=e1;obtain ⟨C,T,hb,hCs,hr,hle,hv,hrel⟩:=hd.cells hsp;rw [List.length_map] at hle hv hrel;have hrel0:za2 noP w (Or M0 (Mut φ h)) (l.map en).flatten ((C.toList.drop a.off).take (l.length * k)):=zkP (λ _ hk=>hk) (λ c hc=>by
  grind) hrel
 obtain ⟨ls,hlx,hlv⟩:=zAm (Q:=Q) hQ hrel0 hv;have hlen:ls.length=l.length:=af;obtain ⟨d,hd⟩:∃d:Array (El w (Or M0 (Mut φ h)) en Q),d=ls.toArray:=⟨_,rfl⟩
 have hds:d.size=l.length:=af;haveI:Inhabited (El w (Or M0 (Mut φ h)) en Q):=⟨ls[0]' aa⟩
 have hkE:∀x:El w (Or M0 (Mut φ h)) en Q,x.vs.length=k:=λ x=>by rw [<- x.rel.length,henl]
 have hMb:Or M0 (Mut φ h) a.block:= .inr ⟨o,gn,k, _,gn,a,bs,ho,hp,rfl⟩;have hblk:a.block<w.heap.size:=(Array.getElem?_eq_some_iff.1 hb).1;have hfl:∀d':Array (El w (Or M0 (Mut φ h)) en Q),(flatK (λ x=>x.vs) k d').toList=(d'.toList.map λ x=>x.vs).flatten:=λ d'=>zuy _ hk0 hkE d';have hCal:Calls P (ρ.f 6) ⟨[.slice (some ⟨a.block,a.off+0 * k,none⟩) l.length cap, .func (.func g) ⟨[]⟩ ⟨[]⟩]⟩ w λ e w'=>
   e= .returned (.tuple #[])∧∃d' n os,PermIn 0 d.size d d'∧SortedIn (ltOf λ x y:El w (Or M0 (Mut φ h)) en Q=>cf x.x y.x) 0 d.size d'∧w'=sortWorldK (λ x=>x.vs) k w a.block a.off n d' os:=by
  rw [Nat.zero_mul,Nat.add_zero,<- hds];refine sortK1 L hk1 (λ x:El w (Or M0 (Mut φ h)) en Q=>x.vs) hkE (λ x=>x.cells) (λ x y=>cf x.x y.x) (zCP hO λ x:El w (Or M0 (Mut φ h)) en Q=>x.x) g #[] a.block a.off cap d w hg ?_ ?_ hblk aa
  ·intro m os dk hdk x y;obtain ⟨hx1,hx2⟩:=hC x.x y.x x.q y.q;obtain ⟨C',k1,k2,k3,k4,k5,k6,k7,k8,k9⟩:=zkU (off:=a.off) hb (λ x:El w (Or M0 (Mut φ h)) en Q=>x.vs) k dk af m os;generalize sortWorldK (λ x:El w (Or M0 (Mut φ h)) en Q=>x.vs) k w a.block a.off m dk os=X at *;have hkeep:∀z:El w (Or M0 (Mut φ h)) en Q,za2 noP X (Or M0 (Mut φ h)) (en z.x) z.vs:=λ z=>
    z.rel.keep noP.le_refl (λ j hj hjl=>k4 j (λ e=>hj (e▸hMb)) hjl) (λ j hj=> .inl hj)
   have hag:∀z:El w (Or M0 (Mut φ h)) en Q,Rel noP X (Or M0 (Mut φ h)) (e1 z.x) (z.vs.headD undef):=λ z=>by
    have h1:=hkeep z;have h2:=hkE z;rw [hex z.x] at h1;generalize z.vs=V at h1 h2;cases h1<;>grind
   refine (hx2 (Or M0 (Mut φ h)) X [x.vs.headD undef,y.vs.headD undef] (λ j hj=>Nat.lt_of_lt_of_le (hH.blk hj) k5) (hH.glob.keep (λ j hj hjl=>k4 j (λ e=>hj (e▸hMb)) hjl) (λ j hj=> .inl hj)) (.cons (hag x) (.cons (hag y) .nil))).mono ?_;rintro e w' ⟨v,rfl,hrv,hfr⟩;cases hrv;refine ⟨rfl,w'.drawn - X.drawn,w'.heap.extract X.heap.size w'.heap.size, ?_⟩;have hheap:X.heap++w'.heap.extract X.heap.size w'.heap.size=w'.heap:=by
    refine Array.ext_getElem? λ j=> ?_;by_cases hj:j<X.heap.size
    ·rw [Array.getElem?_append_left hj,hfr.block j hj (λ h=>h)]
    simp_all [Array.getElem?_append_right,Array.getElem?_extract]
   have hdr:X.drawn+(w'.drawn - X.drawn)=w'.drawn:=by have:=hfr.drawn;omega
   cases w' with
   |mk hp tp dr os' out=>
    have e1:=hfr.os;have e2:=hfr.tape;have e3:=hfr.output;grind [grow,World.drewN]
  ·intro j hj;have hjl:j<((C.toList.drop a.off).take (l.length * k)).length:=by
    grind
   have hget:(flatK (λ x:El w (Or M0 (Mut φ h)) en Q=>x.vs) k d)[j]! =C[a.off+j]! :=by
    have e1:(flatK (λ x:El w (Or M0 (Mut φ h)) en Q=>x.vs) k d).toList=(C.toList.drop a.off).take (l.length * k):=af;have hjC:a.off+j<C.size:=af;rw [getElem!_pos _ j hj,getElem!_pos C _ hjC,<- Array.getElem_toList,<- Array.getElem_toList (xs:=C)];grind
   grind [World.cell?,World.frozen?]
 refine hCal.mono ?_;rintro e w' ⟨rfl,d',n',os,hperm,hsort,rfl⟩;obtain ⟨hps, _,hpp⟩:=hperm;obtain ⟨C',k1,k2,k3,k4,k5,k6,k7,k8,k9⟩:=zkU (off:=a.off) hb (λ x:El w (Or M0 (Mut φ h)) en Q=>x.vs) k d' af n' os;generalize sortWorldK (λ x:El w (Or M0 (Mut φ h)) en Q=>x.vs) k w a.block a.off n' d' os=X at *;obtain ⟨l',hl'⟩:∃l':List α,l'=d'.toList.map λ x=>x.x:=⟨_,rfl⟩
 have hl'l:l'.length=l.length:=af;have hpl:l'.Perm l:=by
  have h1:(d'.extract 0 d.size).toList=d'.toList:=by rw [<- hps];simp
  grind
 have hpw:l'.Pairwise (λ x y=>¬cf y x<0):=by
  rw [hl',List.pairwise_map,List.pairwise_iff_getElem];intro i j hi hj hij;have hi':i<d'.size:=af;have hj':j<d'.size:=af;have:=hsort i j (Nat.zero_le _) hij aa;grind [ltOf]
 have hwin:(C'.toList.drop a.off).take (l'.length * k)=(d'.toList.map λ x=>x.vs).flatten:=by
  grind
 have hrel':za2 φ w (Or M0 (Mut φ h)) (l'.map en).flatten ((C'.toList.drop a.off).take (l'.length * k)):=by
  rw [hwin,hl'];generalize d'.toList=ds;induction ds with
  |nil=>exact .nil
  |cons z ds ih=>
   simp only [List.map_cons,List.flatten_cons];exact (z.rel.keep (λ o x ho=>by cases ho) (λ _ _ _=>rfl) (λ k hk=> .inl hk)).append ih
 have hle0:φ.le (upd φ o (some (gn,some (a,bs)))):=bN;have hol:¬n<=o:=λ hle=>by rw [hH.fresh o hle] at hp;cases hp
 obtain ⟨g1,g2,g3⟩:=hH.set (w':=X) (F':=λ o=>n<=o) (o:=o) (mt:=true) (g:=gn) (sz:=k) (rs:=l'.map en) (A:=some (a,bs))
  (λ _ h=>h) hol k5 hle0 (λ j hj hjl=>k4 j (λ e=>hj (e▸hMb)) hjl)
  (λ o' mt' g' sz' rs' a₁ b₁ hne ho' hp'=>by
   have:=hH.inj _ _ _ _ _ _ _ _ _ _ _ _ _ _ ho ho' (Ne.symm hne) (.inl rfl) hp hp';have hlt:a₁.block<w.heap.size:=by
    obtain ⟨A1,hA1,hc1⟩:=hH.obj _ _ _ _ _ ho';rw [hp'] at hA1;simp only [Option.some.injEq,Prod.mk.injEq,true_and] at hA1;subst hA1;rcases hc1 with ⟨hc1, _⟩|⟨a2,b2,e2, _,hb2⟩
    ·cases hc1
    ·simp only [Option.some.injEq,Prod.mk.injEq] at e2;obtain ⟨rfl,rfl⟩:=e2;exact hb2.blk
   grind)
  (λ a₁ b₁ e=>by
   grind)
  (.inr ⟨a,bs,C',T,rfl,hsp,h0,k1,aa,λ r hr=>by
    grind,af,λ c hm=>by
    rw [List.length_map,hwin] at hm;obtain ⟨r,hr,hm⟩:=List.mem_flatten.1 hm;obtain ⟨z, _,rfl⟩:=List.mem_map.1 hr;exact z.cells c hm,af⟩)
 refine ⟨_, _, .tup [], _,n,rfl,hK l' hpl hpw,g1, .tup (vs:= []) .nil,⟨hle0,g2,⟨k6,k7,k8,k9,k5,λ j hj hu=>k4 j (λ e=>hu ⟨o,gn,k, _,gn,a,bs,ho,hp,e.symm⟩) hj⟩,λ j hj=> ?_⟩⟩;grind [Or]
end Go.Av
end
section
namespace Go.Proofs
open Go.Shelf
def zFq:Go.Shelf.Ren:=⟨fun|6=>173|15=>222|14=>221|28=>265|29=>266|20=>257|21=>258|22=>259|23=>260|24=>261|25=>262|26=>263|27=>264|46=>291|47=>292|48=>293|49=>294|50=>295|57=>323|n=>n,fun|22=>191|24=>135|25=>270|3=>3|39=>319|0=>0|53=>372|55=>374|4=>4|46=>366|45=>365|50=>233|5=>5|9=>9|66=>395|70=>172|76=>414|77=>310|n=>n,λ n=>n⟩
theorem zsortN:Go.Proofs.SlLaysF.n6 Tryz.prog zFq:={
 mixed:=ah
 f6:=⟨Tryz.f173.name,ai,Tryz.func173.trans (congrArg some ah)⟩
 f14:=⟨Tryz.f221.name,ai,Tryz.func221.trans (congrArg some ah)⟩
 f15:=Tryz.func222.trans (congrArg some ah)
 f20:=⟨Tryz.f257.name,ai,Tryz.func257.trans (congrArg some ah)⟩
 f21:=⟨Tryz.f258.name,ai,Tryz.func258.trans (congrArg some ah)⟩
 f22:=⟨Tryz.f259.name,ai,Tryz.func259.trans (congrArg some ah)⟩
 f23:=⟨Tryz.f260.name,ai,Tryz.func260.trans (congrArg some ah)⟩
 f24:=⟨Tryz.f261.name,ai,Tryz.func261.trans (congrArg some ah)⟩
 f25:=⟨Tryz.f262.name,ai,Tryz.func262.trans (congrArg some ah)⟩
 f26:=⟨Tryz.f263.name,ai,Tryz.func263.trans (congrArg some ah)⟩
 f27:=⟨Tryz.f264.name,ai,Tryz.func264.trans (congrArg some ah)⟩
 f28:=Tryz.func265.trans (congrArg some ah)
 f29:=Tryz.func266.trans (congrArg some ah)
 f46:=⟨Tryz.f291.name,ai,Tryz.func291.trans (congrArg some ah)⟩
 f47:=Tryz.func292.trans (congrArg some ah)
 f48:=Tryz.func293.trans (congrArg some ah)
 f49:=⟨Tryz.f294.name,ai,Tryz.func294.trans (congrArg some ah)⟩
 f50:=⟨Tryz.f295.name,ai,Tryz.func295.trans (congrArg some ah)⟩
 f57:=⟨Tryz.f323.name,ai,Tryz.func323.trans (congrArg some ah)⟩
 t0:=Tryz.underlying0
 a0:=Tryz.isAgg0
 z0:=Tryz.sizeOf0
 v0:=Tryz.zeroValue0
 t3:=Tryz.underlying3
 a3:=Tryz.isAgg3
 z3:=Tryz.sizeOf3
 v3:=Tryz.zeroValue3
 t4:=Tryz.underlying4
 a4:=Tryz.isAgg4
 z4:=Tryz.sizeOf4
 v4:=Tryz.zeroValue4
 t5:=Tryz.underlying5
 a5:=Tryz.isAgg5
 z5:=Tryz.sizeOf5
 v5:=Tryz.zeroValue5
 t9:=Tryz.underlying9
 a9:=Tryz.isAgg9
 z9:=Tryz.sizeOf9
 v9:=Tryz.zeroValue9
 t22:=Tryz.underlying191
 a22:=Tryz.isAgg191
 z22:=Tryz.sizeOf191
 v22:=Tryz.zeroValue191
 a24:=Tryz.isAgg135
 z24:=Tryz.sizeOf135
 t25:=Tryz.underlying270
 a25:=Tryz.isAgg270
 z25:=Tryz.sizeOf270
 v25:=Tryz.zeroValue270
 t39:=Tryz.underlying319
 a39:=Tryz.isAgg319
 z39:=Tryz.sizeOf319
 v39:=Tryz.zeroValue319
 t45:=Tryz.underlying365
 a45:=Tryz.isAgg365
 z45:=Tryz.sizeOf365
 v45:=Tryz.zeroValue365
 t46:=Tryz.underlying366
 a46:=Tryz.isAgg366
 z46:=Tryz.sizeOf366
 v46:=Tryz.zeroValue366
 t50:=Tryz.underlying233
 a50:=Tryz.isAgg233
 z50:=Tryz.sizeOf233
 v50:=Tryz.zeroValue233
 t53:=Tryz.underlying372
 a53:=Tryz.isAgg372
 z53:=Tryz.sizeOf372
 v53:=Tryz.zeroValue372
 t55:=Tryz.underlying374
 a55:=Tryz.isAgg374
 z55:=Tryz.sizeOf374
 v55:=Tryz.zeroValue374
 t66:=Tryz.underlying395
 a66:=Tryz.isAgg395
 z66:=Tryz.sizeOf395
 v66:=Tryz.zeroValue395
 t70:=Tryz.underlying172
 a70:=Tryz.isAgg172
 z70:=Tryz.sizeOf172
 v70:=Tryz.zeroValue172
 t76:=Tryz.underlying414
 a76:=Tryz.isAgg414
 z76:=Tryz.sizeOf414
 v76:=Tryz.zeroValue414
 t77:=Tryz.underlying310
 a77:=Tryz.isAgg310
 z77:=Tryz.sizeOf310
 v77:=Tryz.zeroValue310}
end Go.Proofs
end
section
/- strings.Compare at the kit's level; the order of nodes' texts. -/
namespace Go.Proofs
open Go.Shelf Go.RowKit
theorem zDC (a b:ByteArray) (w:World):Calls Tryz.prog 223 #[.string a, .string b] w λ e w'=>e= .returned (.int .i64 (Lib.compareBytes a.data.toList b.data.toList))∧w'=w:=by
 go_enter Tryz.func223,Tryz.ntmps223
 go_wp2
 rw [run_callFunc_extern Tryz.func267 ah ah ah (e:=Extern.BytealgCompare.compare) ah,Lib.run_compareString];simp only [Result.andThen];rw [Oper.upon_value];go_wp2
 go_ret
 exact ⟨rfl,rfl⟩
end Go.Proofs
namespace Go.Av
open Go Go.Proofs zab
theorem ztC (a b:ByteArray):zav Tryz.prog 223 [.v (.string a), .v (.string b)] (.int (Lib.compareBytes a.data.toList b.data.toList)):=by
 refine ⟨zic Tryz.func223 rfl rfl,λ M w vs hM hg hr=> ?_⟩;cases hr with
 |cons h1 hr=>
 cases hr with
 |cons h2 hr=>
 cases hr;cases h1;cases h2;refine (zDC a b w).mono ?_;rintro e w' ⟨rfl,rfl⟩;exact ⟨_,rfl, .v _,Fr.refl _ _⟩
theorem zIz (a b:ByteArray):zav Tryz.prog 175 [.v (.string a), .v (.string b)] (.int (Lib.compareBytes a.data.toList b.data.toList)):=by
 refine pF Tryz.func175 ?_;refine J0 ?_;refine aP (ztC a b) ?_;exact K0
def zNO (x y:zab):Int:=Lib.compareBytes (ziI x) (ziI y)
theorem zDt (x y:zab):zav Tryz.prog 174 [zgh x,zgh y] (.int (zNO x y)):=by
 have hC:zav Tryz.prog 175 [.v (.string (ze2 x)), .v (.string (ze2 y))] (.int (zNO x y)):=zIz (ze2 x) (ze2 y);rw [zbd x,zbd y];refine pF Tryz.func174 ?_;refine J0 ?_;refine dP hC ?_;exact K0
theorem zGO:∀ (s t:List Nat),(∀c ∈ s,c<256)->(∀c ∈ t,c<256)->(Lib.compareBytes (s.map UInt8.ofNat) (t.map UInt8.ofNat)<0↔ltT s t=true)
 | [], [], _, _=>du
 | [], _:: _, _, _=>du
 | _:: _, [], _, _=>du
 |a::s,b::t,hs,ht=>by
  have ih:=zGO s t (λ c hc=>hs c ay) (λ c hc=>ht c ay);have ha:=hs a ac;have hb:=ht b ac;have e1:(UInt8.ofNat a<UInt8.ofNat b)↔a<b:=b6;have e2:(UInt8.ofNat b<UInt8.ofNat a)↔b<a:=b6;simp only [List.map_cons,Lib.compareBytes,ltT,e1,e2,Bool.or_eq_true,decide_eq_true_eq,Bool.and_eq_true];by_cases h1:a<b
  ·simp [h1]
  ·by_cases h2:b<a
   ·rw [if_neg h1,if_pos h2];constructor
    ·intro h;omega
    ·rintro (h|⟨h, _⟩)<;>omega
   ·rw [if_neg h1,if_neg h2,ih];have:a=b:=aa;simp [this]
theorem zGP (x y:zab):zNO x y<0↔ltT x.text y.text=true:=zGO _ _ (text_lt x) (text_lt y)
theorem swo_T:Go.Sort.SWO (λ a b:zab=>decide (zNO a b<0)):=by
 refine ⟨λ x=> ?_,λ x y z h1 h2=> ?_,λ x y z h1 h2=> ?_⟩;all_goals grind [zGP,zhN,zou,zot]
theorem zLb {l l':List zab} (hn:l.Nodup) (hp:l'.Perm l) (hs:l'.Pairwise λ a b=>¬zNO b a<0):l'=zb6 l:=by
 refine zqR ?_ (ziG hn) λ z=>by grind [zba]
 have hn':l'.Nodup:=hp.nodup_iff.2 hn;refine (List.Pairwise.and hs hn').imp λ {a b} h=> ?_;obtain ⟨h1,h2⟩:=h;rw [zGP] at h1;grind [zot,text_inj]
end Go.Av
end
section
open Go Go.Proofs
namespace Go.Av
open zab
def bxO:zcr:= .rows true 0 1 [[.ref 0 0 3 0 0]]
def zMi (fid:FuncId) (first caps:List AV) (x y:zab) (r:Bool) (s s':zch):Prop:=∀ (h:zay) (n:Nat) (K:zbH),zw8 s 0 1 2 3 h->h 4=some bxO->5<=n->K (.bool r) (zku s' 1 2 3 h) n->zaj Tryz.prog fid (first++ [zgh x,zgh y]++caps) h n K
variable {s s':zch} {x y:zab} {caps first:List AV} {fid:FuncId}
theorem zMi.go {r:Bool} (hw:zMi fid first caps x y r s s'){X Y:AV} (ex:zgh x=X) (ey:zgh y=Y){h:zay}{n:Nat}{K:zbH} (hK:K (.bool r) (zku s' 1 2 3 h) n)
  (h0:h 0=some (.rows true 0 3 [[.mp 1, .mp 2, .mp 3]]):=by simp [upd]) (h1:h 1=some (nsO s):=by simp [upd]) (h2:h 2=some (qsO s):=by simp [upd]) (h3:h 3=some (csO s):=by simp [upd]) (h4:h 4=some bxO:=by simp [upd,bxO]) (hn:5<=n:=by omega):
  zaj Tryz.prog fid (first++ [X,Y]++caps) h n K:=by subst ex ey;exact hw h n K ⟨h0,h1,h2,h3,ai⟩ h4 hn hK
theorem zLl  (h:zhA x y s s'):zMi 69 [.ref 0 0 3 0 0] [] x y (leq x y) s s':=λ h' n K hh h4 hn hK=>
 zfN h hh ⟨aa,aa,aa,aa⟩ ae (.v _) hK
theorem zI8  (h:zhA y x s s'):zMi 121 [] [.ref 4 0 1 0 0] x y (leq y x) s s':=λ h' n K hh h4 hn hK=>by
 rw [bxO] at h4;show zaj _ _ [zgh x,zgh y, .ref 4 0 1 0 0] h' n K;unfold zhA at h;refine aF Tryz.func121 ?_;refine J1 h4 ?_;refine zfN h hh ⟨aa,aa,aa,aa⟩ ae (.v _) ?_;refine J0 ?_;exact hK
def BstI (fid:FuncId) (first caps:List AV) (le:zab->zab->Bool) (l:List zab) (i k:Nat) (s s':zch):Prop:=
 if i=k then s'=s else ∃s1,zMi fid first caps (nth l i) (nth l k) (le (nth l i) (nth l k)) s s1∧(if le (nth l i) (nth l k)=true∧¬k<i then zMi fid first caps (nth l k) (nth l i) (le (nth l k) (nth l i)) s1 s' else s'=s1)
def BstO (fid:FuncId) (first caps:List AV) (le:zab->zab->Bool) (l:List zab) (i:Nat) (s s':zch):Prop:=∃V:Nat->zch,V 0=s∧(∀k,k<l.length->BstI fid first caps le l i k (V k) (V (k+1)))∧s'=V l.length
theorem zM3 (p:Nat->Bool) (n:Nat):∃kp:Nat->Bool,kp 0=true∧(∀k,kp (k+1)=(kp k && !p k))∧kp n= !(List.range n).any p:=
 ⟨λ k=> !(List.range k).any p,rfl,λ k=>af,rfl⟩
theorem zGq {le:zab->zab->Bool} (hpre:zJt le) (l:List zab) (hl:l.length<=68719476736) (hb1:∀c ∈ first,Bel 5 c) (hb2:∀c ∈ caps,Bel 5 c)
  (hW:∀x ∈ l,∀y ∈ l,∀s,∃s',zMi fid first caps x y (le x y) s s') (s:zch):
  ∃s',zcj Tryz.prog 122 [.lst 1 (za3 l), .fn (.func fid) first caps] (bkH s++ [(4,bxO)]) 5 (.lst 1 (za3 (zb6 (zbI le l)))) (bkH s'++ [(4,bxO)]) 5:=by
 have hI:∀i,i<l.length->∀k,k<l.length->∀s,∃s',BstI fid first caps le l i k s s':=λ i hi k hk s=>by
  unfold BstI;by_cases e:i=k
  ·simp_all
  ·obtain ⟨s1,h1⟩:=hW _ (zah hi) _ (zah hk) s;by_cases c:le (nth l i) (nth l k)=true∧¬k<i
   ·obtain ⟨s2,h2⟩:=hW _ (zah hk) _ (zah hi) s1;exact ⟨s2,af⟩
   simp_all [if_neg,nth]
 obtain ⟨U,U0,hU⟩:=zFy (BstO fid first caps le l) l.length (λ i hi s=>by
  obtain ⟨V,V0,hV⟩:=zFy (BstI fid first caps le l i) l.length (λ k hk s=>hI i hi k hk s) s;exact ⟨_,V,V0,hV,rfl⟩) s
 refine ⟨U l.length, ?_⟩;obtain ⟨Ls,hLs⟩:∃Ls:Nat->List zab,∀i,Ls i=((List.range i).filter (zfd le l)).map (nth l):=⟨_,λ _=>rfl⟩
 have Ls0:Ls 0= []:=af;have Lsn:Ls l.length=zbI le l:=by rw [hLs];rfl
 have Lsk:∀i,zfd le l i=true->Ls (i+1)=Ls i++ [nth l i]:=λ i h=>dM;have Lsd:∀i,zfd le l i=false->Ls (i+1)=Ls i:=λ i h=>dM;have Lsl:∀i,(Ls i).length<=i:=λ i=>by
  grind
 have hnd:=(zh0 (l:=l) hpre).2;rw [<- Lsn] at hnd ⊢;clear hLs;have hB1:(∀c ∈ first,Bel 6 c)=True:=eq_true λ c hc=>(hb1 c hc).mono aa;have hB2:(∀c ∈ caps,Bel 6 c)=True:=eq_true λ c hc=>(hb2 c hc).mono aa;unfold zcj;rw [<- U0];clear U0;simp only [bkH,bxO,List.cons_append,List.nil_append];refine aF Tryz.func122 ?_;refine J0 ?_;refine zNW (zNY (α:=Nat) (λ i=>⟨[(0, .lst 1 (za3 l)),(1, .fn (.func fid) first caps),(5, .sl 5 (Ls i).length 1 0 (Ls i).length),(11, .lst 1 (za3 l)),(12, .int l.length),(13, .int i)],
   [(0, .rows true 0 3 [[.mp 1, .mp 2, .mp 3]]),(1,nsO (U i)),(2,qsO (U i)),(3,csO (U i)),(4, .rows true 0 1 [[.ref 0 0 3 0 0]]),(5, .rows true (Ls i).length 1 (za3 (Ls i)))],6⟩) (λ d i=>i+d=l.length) ?_ l.length 0 ?_) ?_ ?_
 ·intro d i hi hrec;have hli:=Lsl i;refine J0 ?_;refine zNX (λ hc=> ?_) (λ hc=> ?_)<;>simp at hc
  ·have hi':i<l.length:=by omega
   obtain ⟨V,V0,hV,hVU⟩:=hU i hi';obtain ⟨kp,kp0,kps,kpn⟩:=zM3 (zdi le l i) l.length;have hei:=zbd (nth l i);repeat first|refine wV λ _=>?_|simp [go_sem,zdZ hi',hi',hei]
   refine zNW (zNY (α:=Nat) (λ k=>⟨[(0, .lst 1 (za3 l)),(1, .fn (.func fid) first caps),(5, .sl 5 (Ls i).length 1 0 (Ls i).length),(6, .int i),(7,zgh (nth l i)),(8, .bool (kp k)),(11, .lst 1 (za3 l)),(12, .int l.length),(13, .int i),(18, .lst 1 (za3 l)),(19, .int l.length),(20, .int k)],
     [(0, .rows true 0 3 [[.mp 1, .mp 2, .mp 3]]),(1,nsO (V k)),(2,qsO (V k)),(3,csO (V k)),(4, .rows true 0 1 [[.ref 0 0 3 0 0]]),(5, .rows true (Ls i).length 1 (za3 (Ls i)))],6⟩) (λ d k=>k+d=l.length) ?_ l.length 0 ?_) ?_ ?_
   ·intro d2 k hk hrec2;refine J0 ?_;refine zNX (λ hc2=> ?_) (λ hc2=> ?_)<;>simp at hc2
    ·have hk':k<l.length:=by omega
     have hVk:=hV k hk';have hek:=zbd (nth l k);have hrs:=kps k;unfold BstI at hVk;by_cases hik:i=k
     ·subst hik;rw [if_pos rfl] at hVk;have hb:zdi le l i i=false:=by simp [zdi]
      rw [hb,Bool.not_false,Bool.and_true] at hrs;repeat first|refine wV λ _=>?_|simp [go_sem,zdZ hk',hk',hei,hek]
      refine aGC.skip .top ?_;refine J0 ?_;refine aGC.skip .top ?_;refine J0 ?_;refine zNW (hrec2 (d2 - 1) aa (i+1) aa) ?_ ac;simp [go_sem,zaf,hei,hrs,hVk,hB1,hB2,nsO,qsO,csO]
     ·rw [if_neg hik] at hVk;obtain ⟨s1,hw1,hw2⟩:=hVk;have hik2:¬(i:Int)=k:=aa;repeat first|refine wV λ _=>?_|simp [go_sem,zdZ hk',hk',hik2,hei,hek]
      refine aGC.go ?_;refine hw1.go hei hek ?_;by_cases h1:le (nth l i) (nth l k)=true
      ·by_cases h2:k<i
       ·have h2':(k:Int)<i:=by omega
        rw [if_neg (by simp [h2])] at hw2;have hb:zdi le l i k=true:=zgM.2 ⟨hik,h1, .inl h2⟩;rw [hb,Bool.not_true,Bool.and_false] at hrs;rw [h1,<- hw2];refine J2 h2' h2 ?_;refine aGC.skip .top ?_;refine J2 h2' h2 ?_;refine zNW (hrec2 (d2 - 1) aa (k+1) aa) ?_ ac;simp [go_sem,zaf,hei,hrs,hB1,hB2,nsO,qsO,csO]
       ·have h2':¬(k:Int)<i:=by omega
        rw [if_pos ⟨h1,h2⟩] at hw2;have hb:zdi le l i k= !le (nth l k) (nth l i):=by simp [zdi,hik,h1,h2]
        rw [hb] at hrs;rw [h1];refine J2 h2' h2 ?_;refine aGC.go ?_;refine hw2.go hek hei ?_;generalize le (nth l k) (nth l i)=q at hrs;cases q with
        |false=>
         rw [Bool.not_false,Bool.not_true,Bool.and_false] at hrs;refine J2 h2' h2 ?_;refine zNW (hrec2 (d2 - 1) aa (k+1) aa) ?_ ac;simp [go_sem,zaf,hei,hrs,hB1,hB2,nsO,qsO,csO]
        |true=>
         rw [Bool.not_true,Bool.not_false,Bool.and_true] at hrs;refine J2 h2' h2 ?_;refine zNW (hrec2 (d2 - 1) aa (k+1) aa) ?_ ac;simp [go_sem,zaf,hei,hrs,hB1,hB2,nsO,qsO,csO]
      ·rw [if_neg (by simp [h1])] at hw2;rw [Bool.not_eq_true] at h1;have hb:zdi le l i k=false:=by simp [zdi,h1]
       rw [hb,Bool.not_false,Bool.and_true] at hrs;rw [h1,<- hw2];refine J0 ?_;refine aGC.skip .top ?_;refine J0 ?_;refine zNW (hrec2 (d2 - 1) aa (k+1) aa) ?_ ac;simp [go_sem,zaf,hei,hrs,hB1,hB2,nsO,qsO,csO]
    ·obtain rfl:k=l.length:=by omega
     rw [kpn];have hkb:(!(List.range l.length).any (zdi le l i))=zfd le l i:=rfl;rw [hkb];by_cases hkp:zfd le l i=true
     ·have hL:=Lsk i hkp;have hlen:(za3 (Ls i)).length=(Ls i).length:=zia _;have hsn:za3 (Ls i++ [nth l i])=za3 (Ls i)++ [[zgh (nth l i)]]:=by rw [<- zlA];rfl
      rw [hkp];refine J2 hei hlen ?_;refine zNW (hrec (d - 1) aa (i+1) aa) ?_ ac;simp [go_sem,zaf,hei,hL,hsn,hB1,hB2,hVU,nsO,qsO,csO]
     ·rw [Bool.not_eq_true] at hkp;have hL:=Lsd i hkp;rw [hkp];refine J0 ?_;refine zNW (hrec (d - 1) aa (i+1) aa) ?_ ac;simp [go_sem,zaf,hL,hB1,hB2,hVU,nsO,qsO,csO]
   ·omega
   ·simp [go_sem,zaf,hei,kp0,V0,hB1,hB2,nsO,qsO,csO]
   ·simp
  ·obtain rfl:i=l.length:=by omega
   refine J0 ?_;have hmap:∀l:List zab,za3 l=l.map λ x=> [zgh x]:=zgC;refine zOq zsortN zgh (zc0 0) (λ _=>True) zNO swo_T _ (λ x y _ _=>zDt x y) (zic Tryz.func174 rfl rfl) (Ls l.length) (λ _ _=>trivial) aa (by simp [upd,hmap]) (λ l' hp hs=> ?_);have hT:=zLb hnd hp hs;have hl':l'.length=(Ls l.length).length:=hp.length_eq;rw [<- hmap,hT];have hTl:(zb6 (Ls l.length)).length=(Ls l.length).length:=af;refine J0 ?_;simp [go_sem,zaf,nsO,qsO,csO,hTl];grind [zaq,upd]
 ·omega
 ·simp [go_sem,zaf,Ls0,hB1,hB2,nsO,qsO,csO]
 ·simp
end Go.Av
end
section
open Go Go.Proofs
namespace Go.Av
open zab
variable {s':zch} {args:List AV} {f:FuncId} {P:Program}
theorem zJ3 {s:zch}{R:AV}{h:zay}{n:Nat}{K:zbH} (hp:zcj P f args (bkH s++ [(4,bxO)]) 5 R (bkH s'++ [(4,bxO)]) 5) (hr:∀n,RnL (ren [0,1,2,3,4] n) args args) (ha:∀x ∈ args,Bel 5 x) (hR:Bel 0 R)
  (hh:zw8 s 0 1 2 3 h) (h4:h 4=some bxO) (hn:5<=n) (hk:K R (zku s' 1 2 3 h) n):zaj P f args h n K:=by
 have r0:ren [0,1,2,3,4] n 0=0:=rfl;have r1:ren [0,1,2,3,4] n 1=1:=rfl;have r2:ren [0,1,2,3,4] n 2=2:=rfl;have r3:ren [0,1,2,3,4] n 3=3:=rfl;have r4:ren [0,1,2,3,4] n 4=4:=rfl;have cl1:∀l:List zab,∀r ∈ l.map zsC,∀c ∈ r,Bel 0 c:=λ l=>of_eq_true (zhX 0 l);have cl2:∀l:List (zab×zab),∀r ∈ l.map zpC,∀c ∈ r,Bel 0 c:=λ l=>of_eq_true (zjL 0 l);have cl3:∀l:List zab,∀r ∈ l.map zpq,∀c ∈ r,Bel 0 c:=λ l=>of_eq_true (zjK 0 l);have x0:RnO (ren [0,1,2,3,4] n) (.rows true 0 3 [[.mp 1, .mp 2, .mp 3]]) (.rows true 0 3 [[.mp 1, .mp 2, .mp 3]]):= .rows (.cons (.cons (.mp r1.symm) (.cons (.mp r2.symm) (.cons (.mp r3.symm) .nil))) .nil);have x4:RnO (ren [0,1,2,3,4] n) bxO bxO:= .rows (.cons (.cons (.ref r0.symm) .nil) .nil);refine zN8 (args':=args) (R:=R) (HH:= [(0, .rows true 0 3 [[.mp 1, .mp 2, .mp 3]]),(1,nsO s'),(2,qsO s'),(3,csO s'),(4,bxO)]) [0,1,2,3,4] h hp ai af rfl (Nat.le_refl _) (.refl _) ?_ ?_ (.refl _ _ _ _) ?_ (hr n) ha (.same hR) ?_ ?_
 ·intro j hj;have:j=0∨j=1∨j=2∨j=3∨j=4:=aa;rcases this with rfl|rfl|rfl|rfl|rfl
  ·exact ⟨_, _,rfl,by rw [r0];exact hh.ho,x0⟩
  ·exact ⟨_, _,rfl,by rw [r1];exact hh.ha, .rows (.same (cl1 _))⟩
  ·exact ⟨_, _,rfl,by rw [r2];exact hh.hb, .rows (.same (cl2 _))⟩
  ·exact ⟨_, _,rfl,by rw [r3];exact hh.hc, .rows (.same (cl3 _))⟩
  ·exact ⟨_, _,rfl,af,x4⟩
 ·intro p hp;rcases List.mem_append.1 hp with hp|hp
  ·exact zGi s 5 aa p hp
  ·simp only [List.mem_singleton] at hp;subst hp;refine ⟨ac,λ r hr c hc=> ?_⟩;simp only [List.mem_singleton] at hr;subst hr;simp only [List.mem_singleton] at hc;subst hc;exact .ref aa
 ·intro x hx;exact (ha x hx).mono hn
 ·exact .cons r0.symm x0 (.cons r1.symm (.rows (.same (cl1 _))) (.cons r2.symm (.rows (.same (cl2 _))) (.cons r3.symm (.rows (.same (cl3 _))) (.cons r4.symm x4 .nil))))
 ·have e:zdU [(0, .rows true 0 3 [[.mp 1, .mp 2, .mp 3]]),(1,nsO s'),(2,qsO s'),(3,csO s'),(4,bxO)] (ziM [0,1,2,3,4] h)=zku s' 1 2 3 h:=by
   funext x;by_cases x0:x=0
   ·subst x0;simp [zdU,ziM,upd,zku,hh.ho]
   by_cases x1:x=1
   ·simp_all [zdU,upd,zku]
   by_cases x2:x=2
   ·simp_all [zdU,upd,zku]
   by_cases x3:x=3;all_goals simp_all [zdU,ziM,upd,zku]
  grind
theorem zxC {n:Nat}{ops:List Oper}{Q:zc2}{m i:Nat}{rest:List Oper}{e:Env}{h:zay}{acc:List ziQ}{dst:Option Tmp}{s:zch}{R:AV} (hp:zcj P f args (bkH s++ [(4,bxO)]) 5 R (bkH s'++ [(4,bxO)]) 5)
  (hr:∀n,RnL (ren [0,1,2,3,4] n) args args) (ha:∀x ∈ args,Bel 5 x) (hR:Bel 0 R) (hk:adr P n ops Q m (i+1) rest (put e dst R) (zku s' 1 2 3 h) (acc++ [([0,1,2,3,4], [1,2,3])]))
  (h0:h 0=some (.rows true 0 3 [[.mp 1, .mp 2, .mp 3]]):=by simp [upd]) (h1:h 1=some (nsO s):=by simp [upd,nsO]) (h2:h 2=some (qsO s):=by simp [upd,qsO]) (h3:h 3=some (csO s):=by simp [upd,csO]) (h4:h 4=some bxO:=by simp [upd,bxO]):
  zbV P n ops Q m i rest dst (.fn (.func f) [] []) args e h acc:=by
 have hh:zw8 s 0 1 2 3 h:=⟨h0,h1,h2,h3,ai⟩
 have hw:zap [(1,some (nsO s')),(2,some (qsO s')),(3,some (csO s'))] h=zku s' 1 2 3 h:=rfl;try ((with_reducible refine wZ ?_);(try simp [go_sem]))
 refine zOf [0,1,2,3,4] [(1,some (nsO s')),(2,some (qsO s')),(3,some (csO s'))] R (λ h₁ n₁ hx hn K hK=> ?_) ?_ ?_ hR.toS (by rw [hw];exact hk)
 ·have hh1:zw8 s 0 1 2 3 h₁:=⟨af,af,af,af,hh.d⟩
  simp only [List.nil_append,List.append_nil];exact zJ3 hp hr ha hR hh1 bg (hn 4 ac) hK
 ·grind
 ·intro p hp;simp only [List.mem_cons,List.not_mem_nil,or_false] at hp;rcases hp with rfl|rfl|rfl
  ·exact ⟨ac, _, _, _,rfl,of_eq_true (zhX 0 _)⟩
  ·exact ⟨ac, _, _, _,rfl,of_eq_true (zjL 0 _)⟩
  ·exact ⟨ac, _, _, _,rfl,of_eq_true (zjK 0 _)⟩
inductive WhC:List zab->List zab->zch->List zab->List zab->zch->Prop
 |stop {l r:List zab} {s s1 s2:zch} (h1:zmt (.mk l r) l=none) (h2:zmU (.mk l r) r=none) (c1:zLn l r s s1) (c2:zNJ l r s1 s2):WhC l r s l r s2
 |left {l r l' lf rf:List zab} {s s1 sf:zch} (h:zmt (.mk l r) l=some l') (c:zLn l r s s1) (hs:zaw l'<zaw l) (t:WhC l' r s1 lf rf sf):WhC l r s lf rf sf
 |right {l r r' lf rf:List zab} {s s1 s2 sf:zch} (h1:zmt (.mk l r) l=none) (h2:zmU (.mk l r) r=some r') (c1:zLn l r s s1) (c2:zNJ l r s1 s2) (hs:zaw r'<zaw r) (t:WhC l r' s2 lf rf sf):WhC l r s lf rf sf
theorem wh_ex:∀ (n:Nat) (l r:List zab) (s:zch),zaw l+zaw r<n->n<=4294967295->∃sf,WhC l r s (zkO n l r).1 (zkO n l r).2 sf:=by
 intro n;induction n with
 |zero=>omega
 |succ n ih=>
  intro l r s h hn;obtain ⟨s1,c1⟩:=zGI l r (by rw [size];omega) s;rw [zkO];cases h1:zmt (.mk l r) l with
  |some l'=>
   obtain ⟨_, _, _, _, _, _, _, _,hs⟩:=zfO h1;obtain ⟨sf,hf⟩:=ih l' r s1 aa aa;exact ⟨sf, .left h1 c1 hs hf⟩
  |none=>
   obtain ⟨s2,c2⟩:=zNF l r (by rw [size];omega) s1;cases h2:zmU (.mk l r) r with
   |some r'=>
    obtain ⟨_, _, _, _, _, _, _, _,hs⟩:=zgP h2;obtain ⟨sf,hf⟩:=ih l r' s2 aa aa;exact ⟨sf, .right h1 h2 c1 c2 hs hf⟩
   |none=>exact ⟨s2, .stop h1 h2 c1 c2⟩
def zJv (x:zab) (s s':zch):Prop:=zcj Tryz.prog 70 [.ref 0 0 3 0 0,zgh x] (bkH s) 4 (zgh x.canon) (bkH s') 4
theorem zIo (x:zab) (s:zch) (h:x ∈ s.cs):zJv x s s:=by
 obtain ⟨ns,qs,cs⟩:=s;have e:=(zHb x cs).1 h;simp only [skF] at e;have hz:=zwO;have hks:=zM5;have hc:=zbd x.canon;unfold zJv zcj;rw [zbd x];refine aF Tryz.func70 ?_;repeat first|refine wV λ _=>?_|simp [go_sem,bkH,hz,hks,e,hc]
 simp [go_sem,zaf,hc]
theorem zn0 (n:Nat) (l:List zab) (o:Option (List zab)):Bel n (zEy l o):=by
 cases o<;>(rw [zEy];refine .tup λ c hc=> ?_;simp only [List.mem_cons,List.not_mem_nil,or_false] at hc;rcases hc with rfl|rfl;exact .lst (zeX n _);exact .v _)
theorem red_ex:∀ (n:Nat) (x:zab),x.size<=n->n<=2147483647->∀s,∃s',zJv x s s':=by
 intro n;induction n with
 |zero=>grind [za1]
 |succ n ih=>
  intro x hf hn s;by_cases hk:x ∈ s.cs
  ·exact ⟨s,zIo x s hk⟩
  have e2:=zjs x;have e3:=zjt x;obtain ⟨S,S0,hS⟩:=zFy (λ i=>zJv (nth x.L i)) x.L.length (λ i hi=>ih _ aB aa) s;obtain ⟨T,T0,hT⟩:=zFy (λ i=>zJv (nth x.R i)) x.R.length (λ i hi=>ih _ aC aa) (S x.L.length);have z1:zaw (x.L.map canon)<=zaw x.L:=zeI λ z _=>zdt _ z (Nat.le_refl _);have z2:zaw (x.R.map canon)<=zaw x.R:=zeI λ z _=>zdt _ z (Nat.le_refl _);have z3:x.size=1+zaw x.L+zaw x.R:=by cases x;rfl
  obtain ⟨sf,hwh⟩:=wh_ex (zaw (x.L.map canon)+zaw (x.R.map canon)+1) (x.L.map canon) (x.R.map canon) (T x.R.length) aa aa;have hcq:=zvR x;have z4:=zoJ (zaw (x.L.map canon)+zaw (x.R.map canon)+1) (x.L.map canon) (x.R.map canon);rw [zCC] at hcq;generalize zkO (zaw (x.L.map canon)+zaw (x.R.map canon)+1) (x.L.map canon) (x.R.map canon)=lr at *;obtain ⟨lf,rf⟩:=lr;simp only at hwh hcq z4;have z5:=zit lf;have z6:=zit rf;obtain ⟨s3,h3⟩:=zGq (fid:=69) (first:= [.ref 0 0 3 0 0]) (caps:= []) (le:=leq) zkM lf aa ae ac (λ a ha b hb s=>by
   obtain ⟨s',h⟩:=zno _ a b (Nat.le_refl _) (by have:=zeP ha;have:=zeP hb;omega) s;exact ⟨s',zLl h⟩) sf
  obtain ⟨s4,h4⟩:=zGq (fid:=121) (first:= []) (caps:= [.ref 4 0 1 0 0]) (le:=λ a b=>leq b a) zkL rf aa ac ae (λ a ha b hb s=>by
   obtain ⟨s',h⟩:=zno _ b a (Nat.le_refl _) (by have:=zeP ha;have:=zeP hb;omega) s;exact ⟨s',zI8 h⟩) s3
  have z7:x.canon.size<=x.size:=zdt _ x (Nat.le_refl _);have z8:=zq4 x.canon;have z9:=zjs x.canon;have z10:=zjt x.canon;have cL:x.canon.L=zb6 (zbI leq lf):=by rw [hcq];rfl
  have cR:x.canon.R=zb6 (zbI (λ a b=>leq b a) rf):=by rw [hcq];rfl
  rw [cL] at z9;rw [cR] at z10;have hM:=zlX s4 (zb6 (zbI leq lf)) (zb6 (zbI (λ a b=>leq b a) rf)) aa aa af;rw [<- hcq] at hM;have eL:∀i,i<x.L.length->za3 ((x.L.map canon).take (i+1))=za3 ((x.L.map canon).take i)++ [[zgh (nth x.L i).canon]]:=λ i hi=>by
   grind [zpd,nth]
  have eR:∀i,i<x.R.length->za3 ((x.R.map canon).take (i+1))=za3 ((x.R.map canon).take i)++ [[zgh (nth x.R i).canon]]:=λ i hi=>by
   grind [zpd,nth]
  obtain ⟨AL,hAL⟩:∃AL:Nat->List zab,∀i,AL i=(x.L.map canon).take i:=⟨_,λ _=>rfl⟩
  obtain ⟨AR,hAR⟩:∃AR:Nat->List zab,∀i,AR i=(x.R.map canon).take i:=⟨_,λ _=>rfl⟩
  simp only [<- hAL] at eL;simp only [<- hAR] at eR;have lL:∀i,i<=x.L.length->(AL i).length=i:=λ i hi=>af;have lR:∀i,i<=x.R.length->(AR i).length=i:=λ i hi=>af;have aL0:AL 0= []:=af;have aR0:AR 0= []:=af;have aL:AL x.L.length=x.L.map canon:=af;have aR:AR x.R.length=x.R.map canon:=af;rw [<- aL,<- aR] at hwh;clear hAL hAR aL aR;have f0:=((zHb x s.cs).2 hk).1;have hp:=put_c x s4.cs;simp only [skF] at f0 hp;have hz:=zwO;have hks:=zM5;have hex:=zbd x;have hec:=zbd x.canon;rw [hec] at hp;refine ⟨⟨zxj s4.ns x.canon,s4.qs,zxj s4.cs x⟩, ?_⟩;unfold zJv zcj;rw [hex];refine aF Tryz.func70 ?_;repeat first|refine wV λ _=>?_|simp [go_sem,bkH,hz,hks,f0]
  refine zNW (zNY (α:=Nat) (λ i=>⟨[(1,zgh x),(2, .ref 4 0 1 0 0),(7, .sl 19 i 1 0 i),(8,AV.nils),(33, .lst 1 (za3 x.L)),(34, .int x.L.length),(35, .int i)],
    [(0, .rows true 0 3 [[.mp 1, .mp 2, .mp 3]]),(1,nsO (S i)),(2,qsO (S i)),(3,csO (S i)),(4, .rows true 0 1 [[.ref 0 0 3 0 0]]),(19, .rows true i 1 (za3 (AL i)))],20⟩) (λ d i=>i+d=x.L.length) ?_ x.L.length 0 ?_) ?_ ?_
  rotate_left
  ·omega
  ·simp [go_sem,zaf,hex,aL0,S0,nsO,qsO,csO]
  ·simp
  intro d i hi hrec;have hlen:(za3 (AL i)).length=i:=by grind [zia]
  refine J2 hlen hex ?_;refine zNX (λ hc=> ?_) (λ hc=> ?_)<;>simp at hc
  ·have hi':i<x.L.length:=by omega
   have hC:=hS i hi';have hei:=zbd (nth x.L i);have hei2:=zbd (nth x.L i).canon;unfold zJv at hC;rw [hei] at hC;repeat first|refine wV λ _=>?_|simp [go_sem,hlen,zdZ hi',hi',hei]
   refine zgA hC ae (zc0 0 _) ?_;refine J2 hlen hei2 ?_;refine zNW (hrec (d - 1) aa (i+1) aa) ?_ ac;simp [go_sem,zaf,eL i hi',hex,hei2,nsO,qsO,csO]
  ·obtain rfl:i=x.L.length:=by omega
   have hlL:=lL _ (Nat.le_refl _);generalize AL x.L.length=LF at *;refine J2 hlen hex ?_;refine zNW (zNY (α:=Nat) (λ i=>⟨[(1,zgh x),(2, .ref 4 0 1 0 0),(7, .sl 19 x.L.length 1 0 x.L.length),(8, .sl 20 i 1 0 i),(49, .lst 1 (za3 x.R)),(50, .int x.R.length),(51, .int i)],
     [(0, .rows true 0 3 [[.mp 1, .mp 2, .mp 3]]),(1,nsO (T i)),(2,qsO (T i)),(3,csO (T i)),(4, .rows true 0 1 [[.ref 0 0 3 0 0]]),(19, .rows true x.L.length 1 (za3 LF)),(20, .rows true i 1 (za3 (AR i)))],21⟩) (λ d i=>i+d=x.R.length) ?_ x.R.length 0 ?_) ?_ ?_
   rotate_left
   ·omega
   ·simp [go_sem,zaf,hex,aR0,T0,nsO,qsO,csO]
   ·simp
   intro d i hi hrec;have hlen2:(za3 (AR i)).length=i:=by grind [zia]
   refine J2 hlen2 hex ?_;refine zNX (λ hc2=> ?_) (λ hc2=> ?_)<;>simp at hc2
   ·have hi':i<x.R.length:=by omega
    have hC:=hT i hi';have hei:=zbd (nth x.R i);have hei2:=zbd (nth x.R i).canon;unfold zJv at hC;rw [hei] at hC;repeat first|refine wV λ _=>?_|simp [go_sem,hlen2,zdZ hi',hi',hei]
    refine zgA hC ae (zc0 0 _) ?_;refine J2 hlen2 hei2 ?_;refine zNW (hrec (d - 1) aa (i+1) aa) ?_ ac;simp [go_sem,zaf,eR i hi',hex,hei2,nsO,qsO,csO]
   ·obtain rfl:i=x.R.length:=by omega
    have hlR:=lR _ (Nat.le_refl _);generalize AR x.R.length=RF at *;refine J2 hlen2 hex ?_;refine zNW (zNY (α:=List zab×List zab×zch×Bool) (λ a=>⟨[(1,zgh x),(2, .ref 4 0 1 0 0),(7, .lst 1 (za3 a.1)),(8, .lst 1 (za3 a.2.1)),(13, .bool a.2.2.2)],
      [(0, .rows true 0 3 [[.mp 1, .mp 2, .mp 3]]),(1,nsO a.2.2.1),(2,qsO a.2.2.1),(3,csO a.2.2.1),(4, .rows true 0 1 [[.ref 0 0 3 0 0]])],5⟩)
     (λ d a=>(a.2.2.2=true->WhC a.1 a.2.1 a.2.2.1 lf rf sf∧d=zaw a.1+zaw a.2.1+1)∧(a.2.2.2=false->a.1=lf∧a.2.1=rf∧a.2.2.1=sf)) ?_ (zaw LF+zaw RF+1) (LF,RF,T x.R.length,true) ?_) ?_ ?_
    rotate_left
    ·grind
    ·simp [go_sem,zaf,hex,nsO,qsO,csO];refine ⟨zaq rfl aa ap (List.take_of_length_le af),zaq rfl aa ap (List.take_of_length_le af)⟩
    ·simp
    rintro d ⟨l,r,s',more⟩ ⟨i1,i2⟩ hrec;simp only at i1 i2;cases more with
    |false=>
     obtain ⟨rfl,rfl,rfl⟩:=i2 rfl;have hr1:∀ (l:List zab) n,RnL (ren [0,1,2,3,4] n) [.lst 1 (za3 l), .fn (.func 69) [.ref 0 0 3 0 0] []] [.lst 1 (za3 l), .fn (.func 69) [.ref 0 0 3 0 0] []]:=λ l n=> .cons (.same (.lst (zeX 0 l))) (.cons (.fn (.cons (.ref rfl) .nil) .nil) .nil);have hr2:∀ (l:List zab) n,RnL (ren [0,1,2,3,4] n) [.lst 1 (za3 l), .fn (.func 121) [] [.ref 4 0 1 0 0]] [.lst 1 (za3 l), .fn (.func 121) [] [.ref 4 0 1 0 0]]:=λ l n=> .cons (.same (.lst (zeX 0 l))) (.cons (.fn .nil (.cons (.ref rfl) .nil)) .nil);refine J1 hex ?_;refine zxC h3 (hr1 _) ae (.lst (zeX 0 _)) ?_;refine J0 ?_;refine zxC h4 (hr2 _) ae (.lst (zeX 0 _)) ?_;refine J0 ?_;refine zn2 hM ae (zc0 0 _) ?_;repeat first|refine wV λ _=>?_|simp [go_sem,hec,nsO,qsO,csO,hks,hp]
     simp [go_sem,zaf,hec]
    |true=>
     obtain ⟨i1,i3⟩:=i1 rfl;refine J1 hex ?_;cases i1 with
     |stop h1 h2 c1 c2=>
      unfold zLn at c1;unfold zNJ at c2;rw [h1,zEy] at c1;rw [h2,zEy] at c2;refine zgA c1 ae (zn0 0 _ none) ?_;refine J1 hex ?_;refine zgA c2 ae (zn0 0 _ none) ?_;refine J1 hex ?_;refine zNW (hrec 0 aa (lf,rf,sf,false) ⟨λ h=>aV,λ _=>⟨rfl,rfl,rfl⟩⟩) ?_ ac;simp [go_sem,zaf,hex,nsO,qsO,csO]
     | @left _ _ l' _ _ _ s1 _ h c hs t=>
      unfold zLn at c;rw [h,zEy] at c;refine zgA c ae (zn0 0 [] (some l')) ?_;refine J1 hex ?_;refine zNW (hrec (zaw l'+zaw r+1) aa (l',r,s1,true) ⟨λ _=>⟨t,rfl⟩,λ h=>aV⟩) ?_ ac;simp [go_sem,zaf,hex,nsO,qsO,csO]
     | @right _ _ r' _ _ _ s1 s2 _ h1 h2 c1 c2 hs t=>
      unfold zLn at c1;unfold zNJ at c2;rw [h1,zEy] at c1;rw [h2,zEy] at c2;refine zgA c1 ae (zn0 0 _ none) ?_;refine J1 hex ?_;refine zgA c2 ae (zn0 0 [] (some r')) ?_;refine J1 hex ?_;refine zNW (hrec (zaw l+zaw r'+1) aa (l,r',s2,true) ⟨λ _=>⟨t,rfl⟩,λ h=>aV⟩) ?_ ac;simp [go_sem,zaf,hex,nsO,qsO,csO]
end Go.Av
end
section
open Go Go.Proofs
namespace Go.Av
open zab
theorem zHj:∀ (n:Nat) (f:zab),f.size<=n->n<=68719476736->zav Tryz.prog 71 [zgh f] (zbQ f):=by
 intro n;induction n with
 |zero=>intro f hf;have:=za1 f;omega
 |succ n ih=>
  intro f hf hn;have e2:=zjs f;have e3:=zjt f;have iL:∀i,i<f.L.length->zav Tryz.prog 71 [zgh (nth f.L i)] (.agg (zbt (nth f.L i))):=λ i hi=>ih _ aB aa;have iR:∀i,i<f.R.length->zav Tryz.prog 71 [zgh (nth f.R i)] (.agg (zbt (nth f.R i))):=λ i hi=>ih _ aC aa;obtain ⟨A,a0,a1,a2,a3⟩:=zg1 id f.L;obtain ⟨B,b0,b1,b2,b3⟩:=zg1 id f.R;rw [List.map_id] at a3 b3;rw [zbQ,zao,zbd f];refine pF Tryz.func71 ?_;refine J0 ?_;refine zNW (zNY (α:=Nat) (λ i=>⟨[(0, .fp [.v (.string (ze2 f)), .lst 1 (za3 f.L), .lst 1 (za3 f.R)]),(2, .ref 0 0 2 0 0),(3, .ref 1 0 2 0 0),(11, .lst 1 (za3 f.L)),(12, .int f.L.length),(13, .int i)],
   [(0, .rows true 0 2 [[AV.nils,AV.nils]]),(1, .rows true 0 2 [[.sl 2 i 2 0 i,AV.nils]]),(2, .rows true i 2 (zar (A i)))],3⟩)
   (λ d i=>i+d=f.L.length) ?_ f.L.length 0 ?_) ?_ ?_
  ·intro d i hi hrec;have hlen:=a2 i aa;refine J0 ?_;refine zNX (λ hl=> ?_) (λ hl=> ?_)<;>simp at hl
   ·have hl':i<f.L.length:=by omega
    have hC:=iL i hl';rw [zbd] at hC;repeat first|refine wV λ _=>?_|simp [go_sem,hl',zdZ hl',zbd (nth f.L i),hlen]
    refine dP hC ?_;refine J1 hlen ?_;refine zNW (hrec (d - 1) aa (i+1) aa) ?_ ac;simp [go_sem,zaf,a1 i hl',zdC]
   ·obtain rfl:i=f.L.length:=by omega
    refine J0 ?_;refine zNW (zNY (α:=Nat) (λ i=>⟨[(2, .ref 0 0 2 0 0),(3, .ref 1 0 2 0 0),(28, .lst 1 (za3 f.R)),(29, .int f.R.length),(30, .int i)],
     [(0, .rows true 0 2 [[AV.nils,AV.nils]]),(1, .rows true 0 2 [[.sl 2 f.L.length 2 0 f.L.length, .sl 3 i 2 0 i]]),(2, .rows true f.L.length 2 (zar (A f.L.length))),(3, .rows true i 2 (zar (B i)))],4⟩)
     (λ d i=>i+d=f.R.length) ?_ f.R.length 0 ?_) ?_ ?_
    ·intro d i hi hrec;have hlen2:=b2 i aa;refine J0 ?_;refine zNX (λ hl=> ?_) (λ hl=> ?_)<;>simp at hl
     ·have hl':i<f.R.length:=by omega
      have hC:=iR i hl';rw [zbd] at hC;repeat first|refine wV λ _=>?_|simp [go_sem,hl',zdZ hl',zbd (nth f.R i),hlen2]
      refine dP hC ?_;refine J1 hlen2 ?_;refine zNW (hrec (d - 1) aa (i+1) aa) ?_ ac;simp [go_sem,zaf,b1 i hl',zdC]
     ·obtain rfl:i=f.R.length:=by omega
      have hA:=a2 _ (Nat.le_refl _);have hB:=b2 _ (Nat.le_refl _);rw [a3] at hA;rw [b3] at hB;rw [a3,b3];refine J0 ?_;grind [zaq,noH,upd,zar]
    ·omega
    ·simp [go_sem,zaf,b0]
    ·simp
  ·omega
  ·simp [go_sem,zaf,a0]
  ·simp
def bk0:zch:=⟨[], [], []⟩
theorem zoX (f:zab) (hf:f.size<=2147483647):zav Tryz.prog 32 [zbQ f] (zbQ f.canon):=by
 obtain ⟨s1,h1⟩:=zqH _ f (Nat.le_refl _) aa bk0;obtain ⟨s2,h2⟩:=red_ex _ f (Nat.le_refl _) hf s1;have h3:=zHj _ f.canon (Nat.le_refl _) (by grind [zdt]);unfold zJa at h1;unfold zJv at h2;rw [zbQ,zao] at h1;rw [zbQ,zao] at h3;rw [zbQ,zbQ,zao,zao f.canon];refine pF Tryz.func32 ?_;refine J0 ?_;refine aF Tryz.func66 ?_;refine J0 ?_;refine zfN h1 (o:=5) (a:=2) (b:=3) (c:=4) ⟨aj,by simp [upd,nsO,bk0],by simp [upd,qsO,bk0],by simp [upd,csO,bk0],ai⟩ aa ae (zc0 0 _) ?_;refine J0 ?_;refine zfN h2 (o:=5) (a:=2) (b:=3) (c:=4) ⟨aj,aj,aj,aj,ai⟩ aa ae (zc0 0 _) ?_;refine J0 ?_;refine aP h3 ?_;exact K0
theorem zvw (x y:zab) (hf:x.size+y.size<=8589934592):zav Tryz.prog 33 [zbQ x,zbQ y] (.bool (leq x y)):=by
 obtain ⟨s1,h1⟩:=zqH _ x (Nat.le_refl _) aa bk0;obtain ⟨s2,h2⟩:=zqH _ y (Nat.le_refl _) aa s1;obtain ⟨s3,h3⟩:=zno _ x y (Nat.le_refl _) aa s2;unfold zJa at h1 h2;unfold zhA at h3;rw [zbQ,zao] at h1 h2;rw [zbQ,zbQ,zao,zao y];refine pF Tryz.func33 ?_;refine J0 ?_;refine aF Tryz.func66 ?_;refine J0 ?_;refine zqB h1 (o:=5) (a:=2) (b:=3) (c:=4) ⟨aj,by simp [upd,nsO,bk0],by simp [upd,qsO,bk0],by simp [upd,csO,bk0],ai⟩ ae (zc0 0 _) ?_;repeat first|refine wV λ _=>?_|simp [go_sem,zbd x]
 refine zqB h2 (o:=5) (a:=2) (b:=3) (c:=4) ⟨aj,aj,aj,aj,ai⟩ ae (zc0 0 _) ?_;repeat first|refine wV λ _=>?_|simp [go_sem,zbd y]
 rw [zbd x,zbd y] at h3;refine zqB h3 (o:=5) (a:=2) (b:=3) (c:=4) ⟨aj,aj,aj,aj,ai⟩ ae (.v _) ?_;exact K0
theorem zOy {P:Program}{f:FuncId}{args args':List AV}{h:zay}{n:Nat}{K:zbH} (hr:∀φ w M vs,za2 φ w M args vs->za2 φ w M args' vs) (hc:zaj P f args' h n K):zaj P f args h n K:=⟨hc.1,λ M0 φ w vs hH hv=>hc.2 M0 φ w vs hH (hr _ _ _ _ hv)⟩
theorem zCG {φ:zaD}{w:World}{M:Nat->Prop}{sz:Nat}{v:Value} (h:Rel φ w M (.v (.slice none 0 0)) v):Rel φ w M (.lst sz []) v:=by cases h;exact .nil _ _ _
theorem zpQ (f:zab) (side:Int) (hf:f.size<=4294967296):zav Tryz.prog 31 [zbQ f, .int side] (.int (zwQ f side)):=by
 obtain ⟨s1,h1⟩:=zqH _ f (Nat.le_refl _) aa bk0;have h2:=zlX s1 [] [] ac ac ai;have hzz:zab.mk [] []=zero:=rfl;rw [hzz] at h2;obtain ⟨s2,hs2⟩:∃s2:zch,s2=⟨zxj s1.ns zero,s1.qs,s1.cs⟩:=⟨_,rfl⟩
 rw [<- hs2] at h2;obtain ⟨s3,h3⟩:=zno _ f zero (Nat.le_refl _) (by have:zero.size=1:=rfl;omega) s2;obtain ⟨s4,h4⟩:=zno _ zero f (Nat.le_refl _) (by have:zero.size=1:=rfl;omega) s2;unfold zJa at h1;unfold zhA at h3 h4;rw [zbQ,zao] at h1;rw [zbQ,zao];have ef:=zbd f;have ez:=zbd zero;refine pF Tryz.func31 ?_;refine J0 ?_;refine aF Tryz.func66 ?_;refine J0 ?_;refine zfN h1 (o:=4) (a:=1) (b:=2) (c:=3) ⟨aj,by simp [upd,nsO,bk0],by simp [upd,qsO,bk0],by simp [upd,csO,bk0],ai⟩ aa ae (zc0 0 _) ?_;refine J0 ?_;refine zOy (args':= [.ref 4 0 3 0 0, .lst 1 (za3 []), .lst 1 (za3 [])]) (λ φ w M vs hv=> ?_) (zfN h2 (o:=4) (a:=1) (b:=2) (c:=3) ⟨aj,aj,aj,aj,ai⟩ aa ae (zc0 0 _) ?_)
 ·cases hv with
  |cons a hv=>
  cases hv with
  |cons b hv=>
  cases hv with
  |cons c hv=>
  exact .cons a (.cons (zCG b) (.cons (zCG c) hv))
 unfold zwQ;rw [ef,ez] at h3 h4;by_cases hs:side=0
 ·subst hs;refine J2 ef ez ?_;refine aGC.go ?_;refine zfN h3 (o:=4) (a:=1) (b:=2) (c:=3) ⟨aj,aj,aj,aj,ai⟩ aa ae (.v _) ?_;cases hq:leq f zero with
  |true=>
   refine J0 ?_;refine aGC.skip .top ?_;exact K0
  |false=>
   refine J0 ?_;refine aGC.skip .top ?_;exact K0
 ·refine J3 ef ez hs ?_;refine aGC.skip .top ?_;refine J3 ef ez hs ?_;refine aGC.go ?_;refine zfN h4 (o:=4) (a:=1) (b:=2) (c:=3) ⟨aj,aj,aj,aj,ai⟩ aa ae (.v _) ?_;cases hq:leq zero f with
  |true=>
   exact K1 hs
  |false=>
   exact K1 hs
end Go.Av
end
section
/- sum.Total, given the forms of the parts. -/
set_option linter.unusedSectionVars false
open Go Go.Proofs
namespace Go.Av
open zab
theorem zB7 (f:zab):zbQ f= .agg [.lst 2 (zar f.L), .lst 2 (zar f.R)]:=by rw [zbQ,zao]
theorem zHe {a b:zab}{r:Nat} (o:Nat) (hp:zLo a b r){X Y:AV} (hX:zbQ a=X) (hY:zbQ b=Y){h:zay}{n:Nat}{K:zbH} (hk:K (.bool (decide ((add a b).size<=r))) (upd h o (some (.rows true 0 1 [[.int (if (add a b).size<=r then (r:Int) - (add a b).size else -1)]]))) n)
  (ho:h o=some (.rows true 0 1 [[.int r]]):=by simp [upd]) (hn:o<n:=by omega):zaj Tryz.prog 92 [X,Y, .ref o 0 1 0 0] h n K:=by
 subst hX hY;have cl:∀ (z:Int),∀r ∈ [[AV.int z]],∀c ∈ r,Bel 0 c:=λ z r hr c hc=>by
  simp only [List.mem_singleton] at hr;subst hr;simp only [List.mem_singleton] at hc;subst hc;exact .v _
 have hb:∀m k,k<m->∀c ∈ [zbQ a,zbQ b,AV.ref k 0 1 0 0],Bel m c:=λ m k hm c hc=>by
  simp only [List.mem_cons,List.not_mem_nil,or_false] at hc;rcases hc with rfl|rfl|rfl
  ·exact zfM m a
  ·exact zfM m b
  ·exact .ref hm
 exact zOk hp ho hn (cl _) (cl _) (.cons (.same (zfM 0 a)) (.cons (.same (zfM 0 b)) (.cons (.ref rfl) .nil))) (hb 1 0 aa) (hb n o hn) (.v _) hk
theorem zty (g:zaa) (p:zae) (l:List zae) (e:Int) (he:e≠0) (hS:zav Tryz.prog 91 [.agg (zad g), .agg (zag p)] (.tup [zaC l, .int e])):
  zav Tryz.prog 48 [.agg (zad g), .agg (zag p)] (zjS (zero,230)):=by
 have hegl:(zad g).length=9:=rfl;have hegb:∀n,(∀c ∈ zad g,Bel n c)=True:=λ n=>ae;rw [zjS,zh8];refine pF Tryz.func48 ?_;refine J0 ?_;refine aP hS ?_;exact K1 he
theorem zzT (g:zaa) (p:zae) (ps:List zae) (hps:ps.length<=1048576) (F:zae->zab) (E:zae->Int) (hF:∀q ∈ ps,(F q).size<=2000∧zav Tryz.prog 47 [.agg (zad g), .agg (zag q)] (zjS (F q,E q)))
  (hS:zav Tryz.prog 91 [.agg (zad g), .agg (zag p)] (.tup [zaC ps, .int 0])):
  zav Tryz.prog 48 [.agg (zad g), .agg (zag p)] (zjS (zk6 F E ps zero)):=by
 have hegl:(zad g).length=9:=rfl;have hegb:∀n,(∀c ∈ zad g,Bel n c)=True:=λ n=>ae;obtain ⟨R,hR⟩:∃R,R=zk6 F E ps zero:=⟨_,rfl⟩
 rw [<- hR,zjS,zbQ,zao];refine pF Tryz.func48 ?_;refine J0 ?_;refine aP hS ?_;refine J0 ?_;refine zNW (zNY (α:=Nat×zab) (λ a=>⟨[(2, .ref 0 0 9 0 0),(4, .ref 2 0 2 0 0),(8, .ref 3 0 2 0 0),(23,zaC ps),(24, .int ps.length),(25, .int a.1)], [(0, .rows true 0 9 [zad g]),(2, .rows true 0 2 [[AV.nils,AV.nils]]),(3, .rows true 0 2 [[.lst 2 (zar a.2.L), .lst 2 (zar a.2.R)]])],4⟩)
  (λ d a=>a.1+d=ps.length∧a.2.size<=2000∧R=zk6 F E (ps.drop a.1) a.2) ?_ ps.length (0,zero) ?_) ?_ ?_
 rotate_left
 ·exact ⟨ac,ai,hR⟩
 ·simp [go_sem,zaf,zero,zab.L,zab.R]
 ·simp
 rintro d ⟨i,t⟩ ⟨i1,i2,i3⟩ hrec;simp only at i1 i2 i3;refine J0 ?_;refine zNX (λ hi=> ?_) (λ hi=> ?_)<;>simp at hi
 ·have hi':i<ps.length:=by omega
  obtain ⟨hz,hC⟩:=hF _ (zah hi');rw [List.drop_eq_getElem_cons hi',<- zcp _ _ hi',zk6] at i3;generalize hq:nth ps i=q at *;have hnq:nth (ps.map zag) i=zag q:=ax;rw [zjS,zbQ,zao] at hC;simp only at hC;have hcs:=zdt _ (F q) (Nat.le_refl _);have hK:=zoX (F q) aa;have hLg:=zHf 68719476736 t (F q).canon 2000 aa aa aa;have hA:=zFB 68719476736 t (F q).canon aa aa;rw [zbQ,zbQ,zao,zao] at hK;rw [zbQ,zbQ,zbQ,zao,zao,zao (add t (F q).canon)] at hA;refine J2 hi' hnq ?_;refine aP hC ?_;refine J0 ?_;refine zNX (λ he=> ?_) (λ he=> ?_)<;>simp at he
  ·rw [if_pos aa] at i3;rw [i3];repeat first|refine wV λ _=>?_|simp [go_sem,zhM,zero,zab.L,zab.R]
  ·have he0:E q=0:=by omega
   rw [if_neg (by simp [he0])] at i3;refine J0 ?_;refine aP hK ?_;refine J0 ?_;refine zHe 6 hLg (zB7 t) (zB7 (F q).canon) ?_ aj aa;refine J0 ?_;refine zNX (λ hm=> ?_) (λ hm=> ?_)<;>simp at hm
   ·rw [if_pos aa] at i3;rw [i3];repeat first|refine wV λ _=>?_|simp [go_sem,zhM,zero,zab.L,zab.R]
   ·rw [if_neg aa] at i3;have hcz:=zdt _ (add t (F q).canon) (Nat.le_refl _);have hK2:=zoX (add t (F q).canon) aa;rw [zbQ,zbQ,zao,zao] at hK2;refine J0 ?_;refine aP hA ?_;refine J0 ?_;refine aP hK2 ?_;refine J0 ?_;refine zNW (hrec (d - 1) aa (i+1,(add t (F q).canon).canon) ⟨aa,af,i3⟩) ?_ ac;simp [go_sem,zaf]
 ·obtain rfl:i=ps.length:=by omega
  rw [List.drop_length,zk6] at i3;rw [i3];exact K0
end Go.Av
end
section
open Go Go.Proofs
namespace Go.Av
structure zby (g:zaa) (l:List zae):Prop where
 inc:Inc l
 len:l.length<=4000
 ok:∀q ∈ l,POk g q
 cl:∀q ∈ l,∀m ∈ zai g q,m ∈ l
theorem zBN {g:zaa} (hg:GOk g):∀ (f i:Nat) (l L:List zae),(∀q ∈ l,POk g q)->(∀j,j<i->j<l.length->∀q ∈ zai g (nth l j),q ∈ l)->i<=l.length->l.length<=4000->znU g f i l=(L,0)->zby g L∧(∀q ∈ l,q ∈ L)
 |0,i,l,L, _, _, _, _,h=>by
  grind [znU]
 |f+1,i,l,L,h1,h2,h3,h4,h=>by
  rw [znU] at h;split at h
  ·rename_i hi;split at h
   ·cases h
   ·rename_i hle;obtain ⟨r,hr⟩:=ze4 (zai g (nth l i)) l;have hnth:∀j,j<l.length->nth ((zai g (nth l i)).foldl zd1 l) j=nth l j:=λ j hj=>by
     grind [nth]
    obtain ⟨c1,c2⟩:=zBN hg f (i+1) _ L (λ q hq=>by
     rcases (zcZ _ _).1 hq with hq|hq
     ·grind
     ·exact (zaE hg (h1 _ (zah hi)) q hq).1) (λ j hj hjl q hq=>by
     grind [zcZ]) af aa h
    grind
  ·rename_i hi;simp only [Prod.mk.injEq,and_true] at h;subst h;have hinc:Inc (zaS zbp l):=zbw zaK _;refine ⟨⟨hinc, ?_,λ q hq=>h1 q (zal.1 hq),λ q hq m hm=> ?_⟩,λ q hq=>zal.2 hq⟩
   ·have hnd:(zaS zbp l).Nodup:=hinc.imp λ {a b} hab e=>by
     subst e;have:=(zaK.eq a a).2 rfl;omega
    have:=zb8 hnd λ q hq=>zal.1 hq;omega
   grind [zbO,zal]
variable {g:zaa}
theorem zky  (hg:GOk g){p:zae} (hp:POk g p){L:List zae} (h:zxo g p=(L,0)):zby g L∧p ∈ L:=by
 obtain ⟨h1,h2⟩:=zBN hg 4002 0 [p] L (λ q hq=>by grind) (λ j hj=>by omega) ac ac h;grind
variable {i:Nat}
theorem zkm {α:Type} [Inhabited α] {l:List α} (h:i<l.length):l.take (i+1)=l.take i++ [nth l i]:=by
  grind [List.take_add_one,nth]
def zhu (g:zaa) (i:Nat):List zhn:=(g.kinds.take i).map zk5
theorem zyY  (h:i<g.kinds.length):zhu g (i+1)=zhu g i++ [zk5 (nth g.kinds i)]:=by
  grind [zhu,zkm]
theorem zA9  (h:i<=g.kinds.length):(zhu g i).length=i:=by grind [zhu]
def zgv (ps:List (List (Int×Int))) (n:Nat):List (List (Int×Int)):=(ps.take n).filter zqb
theorem zyZ {ps:List (List (Int×Int))}{n:Nat} (h:n<ps.length):zgv ps (n+1)=if zqb (nth ps n)=true then zgv ps n++ [nth ps n] else zgv ps n:=by
  grind [zgv,zkm]
theorem zER (ps:List (List (Int×Int))) (n:Nat):(zgv ps n).length<=n:=by
  grind [zgv]
def zNs (p:List (Int×Int)) (j:Nat):Bool:=zqb (p.take j)
theorem zH0 {p:List (Int×Int)}{j:Nat} (h:j<p.length):zNs p (j+1)=(zNs p j && (decide ((nth p j).1≠9) && decide ((nth p j).1≠10))):=by
  grind [zNs,zqb,zkm]
theorem znN (g:zaa) (hg:GOk g):zav Tryz.prog 45 [.agg (zad g)] (.agg (zad (zeS g))):=by
  refine pF Tryz.func45 ?_;have k6:=hg.k6;have hpn:=hg.pn;have hpl:=hg.pr;have eg:zad (zeS g)= [.int g.cells,zcU g.next,zaG g.turn, .lst 3 ((zhu g g.kinds.length).map zbq), .int 0, .v (.bool false), .lst 4 [], .int 3, .int 2]:=by
    grind [zhu,zad,zeS]
  rw [eg];refine J0 ?_;refine zNW (zNY (α:=Nat) (λ i=>⟨[(1, .ref 0 0 9 0 0),(2, .ref 1 0 9 0 0),(3, .ref 2 0 9 0 0),(4, .int i)],
      [(0, .rows true 0 9 [zad g]),(1, .rows true 0 9 [[.int 0, .v (.slice none 0 0), .v (.slice none 0 0), .v (.slice none 0 0), .int 0, .v (.bool false), .v (.slice none 0 0), .int 0, .int 0]]),
       (2, .rows true 0 9 [[.int g.cells,zcU g.next,zaG g.turn, .sl 3 i 3 0 i, .int 0, .v (.bool false), .v (.slice none 0 0), .int 3, .int 2]]),(3, .rows true i 3 ((zhu g i).map zbq))],4⟩)
    (λ r i=>i+r=g.kinds.length) ?_ g.kinds.length 0 ?_) ?_ ?_
  · rintro r i i1 hrec;have lks:(zhu g i).length=i:=zA9 aa;refine J0 ?_;refine zNX (λ hi=> ?_) (λ hi=> ?_)<;>simp at hi
    · have hm:=zah hi;have hpn:=hpn _ hm;have hpl:=hpl _ hm;have hks:=zyY hi;refine J2 hi lks ?_;refine zNW (zNY (α:=Nat) (λ n=>⟨[(1, .ref 0 0 9 0 0),(2, .ref 1 0 9 0 0),(3, .ref 2 0 9 0 0),(4, .int i),(5, .ref 4 0 3 0 0),(6, .int n)],
          [(0, .rows true 0 9 [zad g]),(1, .rows true 0 9 [[.int 0, .v (.slice none 0 0), .v (.slice none 0 0), .v (.slice none 0 0), .int 0, .v (.bool false), .v (.slice none 0 0), .int 0, .int 0]]),
           (2, .rows true 0 9 [[.int g.cells,zcU g.next,zaG g.turn, .sl 3 i 3 0 i, .int 0, .v (.bool false), .v (.slice none 0 0), .int 3, .int 2]]),(3, .rows true i 3 ((zhu g i).map zbq)),
           (4, .rows true 0 3 [[.v (.string (nth g.kinds i).name), .sl 5 (zgv (nth g.kinds i).progs n).length 1 0 (zgv (nth g.kinds i).progs n).length, .v (.bool false)]]),
           (5, .rows true (zgv (nth g.kinds i).progs n).length 1 ((zgv (nth g.kinds i).progs n).map λ p=> [zaT p]))],6⟩)
        (λ s n=>n+s=(nth g.kinds i).progs.length) ?_ (nth g.kinds i).progs.length 0 ?_) ?_ ?_
      · rintro s n j1 hrec2;have lps:=zER (nth g.kinds i).progs n;generalize hps:zgv (nth g.kinds i).progs n=ps at *;refine J1 hi ?_;refine zNX (λ hn=> ?_) (λ hn=> ?_)<;>simp at hn
        · have hp:=hpl _ (zah hn);have hplen:=hp.len;have hss:=zyZ hn;rw [hps] at hss;refine J2 hi hn ?_;refine zNW (zNY (α:=Nat) (λ j=>⟨[(1, .ref 0 0 9 0 0),(2, .ref 1 0 9 0 0),(3, .ref 2 0 9 0 0),(4, .int i),(5, .ref 4 0 3 0 0),(6, .int n),(7, .v (.bool (zNs (nth (nth g.kinds i).progs n) j))),(8,zaT (nth (nth g.kinds i).progs n)),(9, .int j)],
              [(0, .rows true 0 9 [zad g]),(1, .rows true 0 9 [[.int 0, .v (.slice none 0 0), .v (.slice none 0 0), .v (.slice none 0 0), .int 0, .v (.bool false), .v (.slice none 0 0), .int 0, .int 0]]),
               (2, .rows true 0 9 [[.int g.cells,zcU g.next,zaG g.turn, .sl 3 i 3 0 i, .int 0, .v (.bool false), .v (.slice none 0 0), .int 3, .int 2]]),(3, .rows true i 3 ((zhu g i).map zbq)),
               (4, .rows true 0 3 [[.v (.string (nth g.kinds i).name), .sl 5 ps.length 1 0 ps.length, .v (.bool false)]]),
               (5, .rows true ps.length 1 (ps.map λ p=> [zaT p]))],6⟩)
            (λ t j=>j+t=(nth (nth g.kinds i).progs n).length) ?_ (nth (nth g.kinds i).progs n).length 0 ?_) ?_ ?_
          · rintro t j l1 hrec3;refine J0 ?_;refine zNX (λ hj=> ?_) (λ hj=> ?_)<;>simp at hj
            · have ho:=zH0 hj;refine J1 hj ?_;refine zNW (hrec3 (t - 1) aa (j+1) aa) ?_ ac;simp [go_sem,zaf,ho,Bool.and_assoc]
            · have hjl:j=(nth (nth g.kinds i).progs n).length:=by omega
              have hok:zNs (nth (nth g.kinds i).progs n) j=zqb (nth (nth g.kinds i).progs n):=by simp_all [zNs]
              refine J0 ?_;refine zNX (λ hb=> ?_) (λ hb=> ?_)
              · rw [hok] at hb;rw [if_pos hb] at hss;refine J0 ?_;refine zNW (hrec2 (s - 1) aa (n+1) aa) ?_ ac;simp [go_sem,zaf,hss]
              · rw [hok] at hb;rw [if_neg (by simp [hb])] at hss;refine J0 ?_;refine zNW (hrec2 (s - 1) aa (n+1) aa) ?_ ac;simp [go_sem,zaf,hss]
          · simp
          · simp [go_sem,zaf,zNs,zqb]
          · simp
        · have hnl:n=(nth g.kinds i).progs.length:=by omega
          have hpk:zk5 (nth g.kinds i)=⟨(nth g.kinds i).name,ps,false⟩:=by simp_all [zgv,zk5]
          refine J0 ?_;refine zNW (hrec (r - 1) aa (i+1) aa) ?_ ac;simp [go_sem,zaf,hks,hpk];(first|done|exact rwX)
      · simp
      · simp [go_sem,zaf,zgv]
      · simp
    · have hil:i=g.kinds.length:=by omega
      subst hil;refine J0 ?_;(first|done|exact Lx1 lks)
  · simp
  · simp [go_sem,zaf,zhu]
  · simp
end Go.Av
end
