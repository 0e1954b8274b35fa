/- Texts of ours, part 12: our library and contracts of functions. -/
import Derived.Test.YtgdfnfffibhkjaaGreatDoorB11
import Derived.Test.YtgdfnfffibhkjaaGreatDoorProg
import Derived.Shelf.SlSortCmp.NoneTotal
import Derived.Shelf.Small.Strs
set_option linter.unusedSimpArgs false
set_option linter.unusedVariables false
set_option maxRecDepth 100000
set_option maxHeartbeats 40000000
set_option linter.unusedSectionVars false
section
namespace Go.Av
open Go Go.Proofs Go.RowKit
def mI (f:af):List UInt8:=f.text.map UInt8.ofNat
theorem Hl:∀l:List af,jH (l.map mI)=(af.textL l).map UInt8.ofNat
 | []=>rfl
 | [x]=>by simp [jH,af.textL,mI]
 |x::y::l=>by
  have:=Hl (y::l);simp only [List.map_cons] at this ⊢;rw [jH,this,af.textL];simp [mI]
theorem Ij (l r:List af):mI (.mk l r)=123::(jH (l.map mI)++124::(jH (r.map mI)++ [125])):=by
 simp_all [Hl,mI,af.text]
theorem QV (l:List af):(bB l).flatten=l.map gI:=by
 rw [nt];induction l<;>grind
variable {n:Nat} {M:Nat->Prop} {w:World}
theorem zcO {φ:aQ}{xs:List AV}{C:Array Value}{o:Nat} (h:aU φ w M xs ((C.toList.drop o).take n)){i:Nat} (hi:i<xs.length) (hc:o+i<C.size):∃u,bY φ w M xs[i] u∧C[o+i]? =some u:=by
 have hl:=h.length;have hi2:i<((C.toList.drop o).take n).length:=ge;refine ⟨_,h.get i hi hi2, ?_⟩;grind
theorem EB {φ:aQ}{l:List af}{v:Value} (h:bY φ w M (.lst 1 (bB l)) v):qB w w.heap.size v (l.map mI):=by
 have key:∀ (n:Nat) (rows:List (List AV)),rows=bB l->bY φ w M (.lst n rows) v->n=1->qB w w.heap.size v (l.map mI):=by
  intro n rows hrows h hn;cases h with
  |nil sz A cap=>
   have hl:l= []:=by
    cases l<;>grind [bB]
   grind [qB]
  | @lst sz rows a len cap C T fz hs hM hb hr hl hc hcap hv h=>
   subst hn hrows;have hlen:(bB l).length=l.length:=by grind [nt]
   rw [QV] at h;refine ⟨some a,cap,pi,λ i hi=> ?_⟩;rw [List.length_map] at hi;obtain ⟨u,h1,h2⟩:=zcO h Wv ge;rw [List.getElem_map,cp] at h1;cases h1 with
   | @fp cells p C2 T2 fz2 ps pM pb pc pv ph=>
    obtain ⟨z,k1,k2⟩:=zcO ph (i:=0) gt pi;cases k1;refine ⟨a,p,rfl,hs,(Array.getElem?_eq_some_iff.1 hb).1,ps,(Array.getElem?_eq_some_iff.1 pb).1, ?_, ?_⟩
    ·grind [World.cell?]
    ·obtain ⟨pblk,poff,psp⟩:=p;subst ps;simp only [World.cell?,pb,List.getElem_map];exact k2
 grind
theorem zhB {P:Program} (hmix:P.follows .mixedOrders=true){f:FuncId}{fn:Func}{c:Code}{args:List AV}{h:au}{K:cI} (hf:P.funcs[f]? =some fn) (hb:fn.body=some c) (hname:(fn.name== "runtime.NumGoroutine")=false) (hG:fn.ntmps<=GH)
  (hpre:∀ (M0:Nat->Prop) (φ:aQ) (w:World) (vs:List Value),m8 φ n w M0 h->aU φ w (Or M0 (bc φ h)) args vs->∃ (cr:Code) (e1:dg),vv fn.ntmps cr=true∧iG P n cr (Na P fn.results.toList K) e1 h n∧e1 GH= .top∧
   ∀Q:Exit->Act->World->Prop,(∀ (tm:Array Value) (w':World),tm.size=fn.ntmps->(∀t,bY φ w' (Or M0 (bc φ h)) (e1 t) (tm.getD t undef))->Fr w (λ _=>False) w'->cr.wp P Q { tmps:=tm,defers:= []} w')->
    c.wp P Q { tmps:=⟨vs⟩++Array.replicate (fn.ntmps - (⟨vs⟩:Array Value).size) undef,defers:= []} w):ap P f args h n K:=by
 refine ⟨qe hf hb hname,λ M0 φ w vs hH hargs=> ?_⟩;obtain ⟨cr,e1,hd,hh,hg,hpre⟩:=hpre M0 φ w vs hH hargs;let B:jM P:=zbW P φ w M0 h n hH.fresh
 have hw:c.wpIn (WF none) 0 P (SQ B fn.ntmps (Na P fn.results.toList K)) { tmps:=⟨vs⟩++Array.replicate (fn.ntmps - (⟨vs⟩:Array Value).size) undef,defers:= []} w:=by
  refine wpIn_wide.2 (hpre _ λ tm w' hsz hrel hfr=> ?_);have st:fm φ w M0 h φ w' h:=⟨φ.le_refl,λ _ h=> .inl h,hfr.more (λ _ h=>h.elim),λ _ h=> .inl h⟩
  have hsr:SR B fn.ntmps M0 φ e1 h n { tmps:=tm,defers:= []} w':=⟨hrel,hsz,pI.nil,hH.keepw st (λ k hk=>hfr.block k hk id),⟨M0,λ _=>False,(oC M0).symm,hg,rfl,λ _ h=>h.elim,st⟩,hG⟩
  exact wpIn_wide.1 (za (P:=P) hmix (B:=B) (N:=fn.ntmps) (m:=0) hd hsr hh)
 refine callsIn_wide.1 (callsIn_of_wp_marks (F:=WF none) (n:=0) hf hb trivial (wpIn_mono hw ?_) rfl);rintro ex a' w' ⟨M,φ',e',h',n',hs',hq⟩;have fin:(wc P e' h' fn.results.toList).1∧K (Mk (wc P e' h' fn.results.toList).2) h' n'->LeavesInM (WF none) 0 P fn a'.tmps (λ e w'=>∃v_1 φ'_1 r h'_1 n'_1,e=Ending.returned v_1∧K r h'_1 n'_1∧m8 φ'_1 n'_1 w' M0 h'_1∧bY φ'_1 w' (Or M0 (bc φ'_1 h'_1)) r v_1∧fm φ w M0 h φ'_1 w' h'_1) a'.defers .returning w':=by
  rintro ⟨q1,q2⟩;obtain ⟨M1,O,rfl, _,rfl, _,hst⟩:=hs'.ok;refine pl hs'.defs λ w'' hn=> ?_;have hsub:∀k,Or M1 (bc φ' h') k->Or (Or M1 O) (bc φ' h') k:=λ k hk=>hk.imp .inl id;have hHm:m8 φ' n' w' M1 h':=hs'.heap.lessM λ k hk=> .inl hk;obtain ⟨us,h1,h2⟩:=qu (P:=P) (hHm.nc hn) (λ t=>((hs'.env t).lessM hsub).nc hn) fn.results.toList q1;refine ⟨_, ?_, _,φ', _,h',n',rfl,q2,hHm.nc hn,HW h2,hst.nc hn⟩;grind [wQ,Array.mapM_eq_mapM_toList,Sem.run_bind,Sem.run_map,Sem.run_pure,Result.andThen_ok]
 cases ex with
 |normal=>exact fin hq
 |ret=>exact fin hq
 | _=>exact hq.elim
def N7:Nat->Code->Option Code
 |0,c=>some c
 |n+1, .seq _ y=>N7 n y
 | _+1, _=>none
def JX:Nat->Code->Code->Code
 |0, _,y=>y
 |n+1, .seq a b,y=> .seq a (JX n b y)
 | _+1,c, _=>c
theorem JY:∀ {n:Nat}{c y:Code},N7 n c=some y->JX n c y=c
 |0,c,y,h=>by grind [N7,JX]
 |n+1,c,y,h=>by
  cases c<;>simp only [N7,reduceCtorEq] at h;rw [JX,JY h]
def S9 (fn:Func):Code:=fn.body.getD .skip
theorem zcq (cr:Code) (Q:Exit->Act->World->Prop) (v0 v1 v2:Value) (l r:List af) (w:World) (h1:qB w w.heap.size v1 (l.map mI)) (h2:qB w w.heap.size v2 (r.map mI)) (hl:l.length<=68719476736) (hr:r.length<=68719476736) (hlen:(mI (.mk l r)).length<=34359738368)
  (hk:∀ (tm:Array Value) (w':World),tm.size=47->(∀t,tm.getD t undef=if t=0 then v0 else if t=1 then v1 else if t=2 then v2 else if t=9 then .string (iA (.mk l r)) else tm.getD t undef)->My w.heap.size w w'->cr.wp Tryz.prog Q { tmps:=tm,defers:= []} w'):
  (JX 9 (S9 Tryz.f68) cr).wp Tryz.prog Q { tmps:= #[v0,v1,v2]++Array.replicate 44 undef,defers:= []} w:=by
 have hI:zM w.heap.size w.heap.size (Lib.byteCells []) (w.alloc (.cells #[.pointer none, .slice none 0 0] 195)):=Lib.IsBuilderF.of (Lib.fresh_isBuilder _ _ w);have hL0:My w.heap.size w (w.alloc (.cells #[.pointer none, .slice none 0 0] 195)):=⟨(Below.refl _ w).alloc (Nat.le_refl _) _,Nat.le_refl _⟩
 rw [Ij] at hlen;simp only [List.length_cons,List.length_append,List.length_nil] at hlen;simp only [JX,S9,Tryz.f68,Option.getD_some,List.size_toArray,List.length_cons,List.length_nil,Nat.reduceAdd,Nat.reduceSub,Array.replicate_succ,Array.replicate_zero,List.push_toArray,List.append_toArray,List.nil_append,List.cons_append];go_wp2_with (go_at_call 113;refine (BB _ _ _ 123 _ hI (by simp [Lib.byteCells]) gt).mono ?_)
 rintro e w1 ⟨rfl,g1,k1⟩;have g1:Jf w.heap.size w.heap.size (Lib.byteCells [123]) w1:=g1;have L1:=hL0.trans k1;go_wp2_with (go_at_call 112;refine (NM _ _ [123] v1 _ w1 (.inr g1) (h1.below L1.1) (by simpa using hl) WJ L1.1.size).mono ?_)
 rintro e w2 ⟨rfl,g2,k2⟩;have L2:=L1.trans k2;go_wp2_with (go_at_call 113;refine (BB _ _ _ 124 _ g2 (by simp [Lib.byteCells];omega) L2.1.size).mono ?_)
 rintro e w3 ⟨rfl,g3,k3⟩;have g3:Jf w.heap.size w.heap.size (Lib.byteCells ([123]++jH (l.map mI)++ [124])) w3:=by rw [Lib.byteCells_append];exact g3
 have L3:=L2.trans k3;go_wp2_with (go_at_call 112;refine (NM _ _ _ v2 _ w3 (.inr g3) (h2.below L3.1) (by simpa using hr) WJ L3.1.size).mono ?_)
 rintro e w4 ⟨rfl,g4,k4⟩;have L4:=L3.trans k4;go_wp2_with (go_at_call 113;refine (BB _ _ _ 125 _ g4 (by simp [Lib.byteCells];omega) L4.1.size).mono ?_)
 rintro e w5 ⟨rfl,g5,k5⟩;have g5:Jf w.heap.size w.heap.size (Lib.byteCells (mI (.mk l r))) w5:=by
  have e:mI (.mk l r)= [123]++jH (l.map mI)++ [124]++jH (r.map mI)++ [125]:=by rw [Ij];simp
  rw [e,Lib.byteCells_append];exact g5
 have L5:=L4.trans k5;go_wp2_with (go_at_call 115;refine (zbo _ _ _ _ (.inr g5) (by rw [Ij];simp)).mono ?_)
 rintro e w6 ⟨rfl,k6⟩;have L6:=L5.trans k6;go_wp2
 refine hk _ _ rfl (λ t=> ?_) L6;by_cases e0:t=0
 ·subst e0;rfl
 by_cases e1:t=1
 ·subst e1;rfl
 by_cases e2:t=2
 ·subst e2;rfl
 by_cases e9:t=9
 ·subst e9;rfl
 grind
theorem VK {h:au}{K:cI}{b:AV}{l r:List af}{cr:Code} (hl:l.length<=68719476736) (hr:r.length<=68719476736) (hlen:(mI (.mk l r)).length<=34359738368)
  (hc:N7 9 (S9 Tryz.f68)=some cr) (hd:vv 47 cr=true)
  (hh:iG Tryz.prog n cr (Na Tryz.prog (Tryz.f68).results.toList K) (Fb [(0,b),(1, .lst 1 (bB l)),(2, .lst 1 (bB r)),(9, .v (.string (iA (.mk l r))))]) h n):
  ap Tryz.prog 68 [b, .lst 1 (bB l), .lst 1 (bB r)] h n K:=by
 refine zhB Pi Tryz.func68 (c:=S9 Tryz.f68) rfl rfl (Nat.le_of_ble_eq_true rfl) λ M0 φ w vs hH hargs=> ?_;refine ⟨cr, _,hd,hh,rfl,λ Q hk=> ?_⟩;cases hargs with
 |cons a0 hargs=>
 cases hargs with
 |cons a1 hargs=>
 cases hargs with
 |cons a2 hargs=>
 cases hargs;rename_i v0 v1 v2;have:=zcq cr Q v0 v1 v2 l r w (EB a1) (EB a2) hl hr hlen λ tm w' hsz ht hL=>by
  have hfr:Fr w (λ _=>False) w':=⟨hL.1.os,hL.1.tape,hL.1.output,hL.2,hL.1.size,λ k hk _=>hL.1.block k hk⟩
  have st:fm φ w M0 h φ w' h:=⟨φ.le_refl,λ _ h=> .inl h,hfr.more (λ _ h=>h.elim),λ _ h=> .inl h⟩
  refine hk tm w' hsz (λ t=> ?_) hfr;rw [ht t];simp only [Fb,aC];by_cases e0:t=0
  ·rw [if_pos e0,if_pos e0];exact st.rel a0
  rw [if_neg e0,if_neg e0];by_cases e1:t=1
  ·rw [if_pos e1,if_pos e1];exact st.rel a1
  rw [if_neg e1,if_neg e1];by_cases e2:t=2
  ·rw [if_pos e2,if_pos e2];exact st.rel a2
  rw [if_neg e2,if_neg e2];by_cases e9:t=9
  ·rw [if_pos e9,if_pos e9];exact .v _
  rw [if_neg e9,if_neg e9];exact .top _
 grind [JY,Tryz.f68]
end Go.Av
end
section
namespace Go.Av
open Go Go.Proofs
def xD {α:Type} [DecidableEq α] (l:List α) (f:α):List α:=if f ∈ l then l else l++ [f]
theorem pV (n:Nat) (l:List af):(∀r ∈ l.map yx,∀c ∈ r,aN n c)=True:=eq_true λ r hr c hc=>by
 obtain ⟨x, _,rfl⟩:=List.mem_map.1 hr;simp only [yx,List.mem_cons,List.not_mem_nil,or_false] at hc;rcases hc with rfl|rfl
 ·exact .v _
 ·exact gv n x
theorem sv (n:Nat) (l:List af):(∀r ∈ l.map vM,∀c ∈ r,aN n c)=True:=eq_true λ r hr c hc=>by
 obtain ⟨x, _,rfl⟩:=List.mem_map.1 hr;simp only [vM,List.mem_cons,List.not_mem_nil,or_false] at hc;rcases hc with rfl|rfl
 ·exact .v _
 ·exact gv n _
theorem sw (n:Nat) (l:List (af×af)):(∀r ∈ l.map v8,∀c ∈ r,aN n c)=True:=eq_true λ r hr c hc=>by
 obtain ⟨x, _,rfl⟩:=List.mem_map.1 hr;simp only [v8,List.mem_cons,List.not_mem_nil,or_false] at hc;rcases hc with rfl|rfl
 ·refine .agg λ c hc=> ?_;simp only [List.mem_cons,List.not_mem_nil,or_false] at hc;rcases hc with rfl|rfl<;>exact .v _
 ·exact .v _
theorem UI (n:Nat) (f:af):aN n (gI f)=True:=eq_true (gv n f)
theorem QA (n:Nat) (l:List af):(∀r ∈ bB l,∀c ∈ r,aN n c)=True:=eq_true (lu n l)
attribute [go_sem ↓] pV sv sw UI QA
theorem qd (l:List af):(bB l).length=l.length:=by grind [nt]
attribute [go_sem] qd
def sY (s:df):List (Nat×cB):= [(0, .rows true 0 3 [[.mp 1, .mp 2, .mp 3]]),(1, .rows true 0 2 (s.ns.map yx)),(2, .rows true 0 2 (s.qs.map v8)),(3, .rows true 0 2 (s.cs.map vM))]
theorem Im:Jd Tryz.prog 135=some (.pointer none):=Pi
theorem zcd:uw Tryz.prog 9= .string:=Pi
theorem vU (s:df) (l r:List af) (hl:l.length<=68719476736) (hr:r.length<=68719476736) (hlen:(mI (.mk l r)).length<=34359738368):
  dD Tryz.prog 68 [.ref 0 0 3 0 0, .lst 1 (bB l), .lst 1 (bB r)] (sY s) 4 (gI (.mk l r)) (sY ⟨xD s.ns (.mk l r),s.qs,s.cs⟩) 4:=by
 unfold dD;obtain ⟨ns,qs,cs⟩:=s;simp only [sY];obtain ⟨f1,f2⟩:=zfQ (.mk l r) ns;rw [It] at f1 f2;have hz:=Im;have hks:=zcd;refine VK hl hr hlen rfl Pi ?_;by_cases hm:af.mk l r ∈ ns
 ·have e:=f1 hm;have ea:xD ns (.mk l r)=ns:=if_pos hm;rw [ea];refine J3 hz hks e ?_;simp [go_sem,aj]
 ·obtain ⟨e1,e2⟩:=f2 hm;have ea:xD ns (.mk l r)=ns++ [.mk l r]:=if_neg hm;rw [ea];refine J4 hz hks e1 e2 ?_;simp [go_sem,aj];refine ⟨?_, ?_, ?_⟩
  ·rw [gI];exact .frzP rfl gt gt Wp (.refl _ _ _ _)
  ·refine bJ (.refl _) (.cons (.cons (.refl _) (.cons ?_ .nil)) .nil);rw [gI];exact .frzP rfl gt gt Wp (.refl _ _ _ _)
  ·intro c hc;exact of_eq_true (pV 4 [.mk l r]) (yx (.mk l r)) gt c hc
end Go.Av
end
section
namespace Go.Av
open Go Go.Proofs
def nD (s:df):cB:= .rows true 0 2 (s.ns.map yx)
def nG (s:df):cB:= .rows true 0 2 (s.qs.map v8)
def nn (s:df):cB:= .rows true 0 2 (s.cs.map vM)
def ku (s:df) (a b c:Nat) (h:au):au:=aC (aC (aC h a (some (nD s))) b (some (nG s))) c (some (nn s))
structure xx (s:df) (o a b c:Nat) (h:au):Prop where
 ho:h o=some (.rows true 0 3 [[.mp a, .mp b, .mp c]])
 ha:h a=some (nD s)
 hb:h b=some (nG s)
 hc:h c=some (nn s)
 d: [o,a,b,c].Nodup
variable {a b c n o:Nat}
theorem xx.set {s:df}{h:au} (hh:xx s o a b c h) (s':df):xx s' o a b c (ku s' a b c h):=by
 have hd:=hh.d;simp only [List.nodup_cons,List.mem_cons,List.not_mem_nil,or_false,not_or,not_false_eq_true,and_true,List.nodup_nil] at hd;obtain ⟨⟨d1,d2,d3⟩,⟨d4,d5⟩,d6⟩:=hd;refine ⟨?_, ?_, ?_, ?_,hh.d⟩
 ·simp [ku,aC,d1,d2,d3,hh.ho]
 all_goals simp_all [ku,aC]
theorem PG (s s':df) (a b c:Nat) (h:au):ku s' a b c (ku s a b c h)=ku s' a b c h:=by
 funext x;simp_all [ku,aC]
theorem KJ {s:df}{h:au} (hh:xx s o a b c h):ku s a b c h=h:=by
 funext x;simp only [ku,aC];split
 ·rename_i e;rw [e,hh.hc]
 split
 ·rename_i e;rw [e,hh.hb]
 split
 ·rename_i e;rw [e,hh.ha]
 rfl
theorem TW {s:df}{x:Nat}{h:au} (ha:x≠a) (hb:x≠b) (hc:x≠c):ku s a b c h x=h x:=by simp_all [ku,aC]
theorem S6 (s:df) (m:Nat) (hm:4<=m):∀p ∈ sY s,p.1<m∧se m p.2:=by
 intro p hp;simp only [sY,List.mem_cons,List.not_mem_nil,or_false] at hp;rcases hp with rfl|rfl|rfl|rfl
 ·refine ⟨ge,λ r hr c hc=> ?_⟩;simp only [List.mem_singleton] at hr;subst hr;simp only [List.mem_cons,List.not_mem_nil,or_false] at hc;rcases hc with rfl|rfl|rfl<;>exact .mp ge
 ·exact ⟨ge,of_eq_true (pV m _)⟩
 ·exact ⟨ge,of_eq_true (sw m _)⟩
 ·exact ⟨ge,of_eq_true (sv m _)⟩
variable {R:AV} {args:List AV} {f:FuncId} {P:Program}
theorem lI {s s':df}{h:au}{K:cI} (hp:dD P f (.ref 0 0 3 0 0::args) (sY s) 4 R (sY s') 4) (hh:xx s o a b c h) (hn:o<n∧a<n∧b<n∧c<n)
  (ha:∀x ∈ args,aN 0 x) (hR:aN 0 R) (hk:K R (ku s' a b c h) n):ap P f (.ref o 0 3 0 0::args) h n K:=by
 have hd:=hh.d;simp only [List.nodup_cons,List.mem_cons,List.not_mem_nil,or_false,not_or,not_false_eq_true,and_true,List.nodup_nil] at hd;obtain ⟨⟨d1,d2,d3⟩,⟨d4,d5⟩,d6⟩:=hd;have r0:kF [o,a,b,c] n 0=o:=rfl;have r1:kF [o,a,b,c] n 1=a:=rfl;have r2:kF [o,a,b,c] n 2=b:=rfl;have r3:kF [o,a,b,c] n 3=c:=rfl;have cl1:∀l:List af,∀r ∈ l.map yx,∀c ∈ r,aN 0 c:=λ l=>of_eq_true (pV 0 l);have cl2:∀l:List (af×af),∀r ∈ l.map v8,∀c ∈ r,aN 0 c:=λ l=>of_eq_true (sw 0 l);have cl3:∀l:List af,∀r ∈ l.map vM,∀c ∈ r,aN 0 c:=λ l=>of_eq_true (sv 0 l);have rl:∀ {xs:List AV},(∀x ∈ xs,aN 0 x)->Fm (kF [o,a,b,c] n) xs xs:=by
  intro xs hx;induction xs with
  |nil=>exact .nil
  |cons x xs ih=>exact .cons (.same (hx x gt)) (ih λ y hy=>hx y WR)
 refine zhf (args':= .ref o 0 3 0 0::args) (R:=R) (HH:= [(o, .rows true 0 3 [[.mp a, .mp b, .mp c]]),(a,nD s'),(b,nG s'),(c,nn s')]) [o,a,b,c] h hp hh.d pi rfl (Nat.le_refl _) (.refl _) ?_ (S6 s 4 (Nat.le_refl _)) (.refl _ _ _ _) ?_ (.cons (.ref r0.symm) (rl ha)) ?_ (.same hR) ?_ ?_
 ·intro j hj;have:j=0∨j=1∨j=2∨j=3:=ge
  rcases this with rfl|rfl|rfl|rfl
  ·exact ⟨_, _,rfl,by exact hh.ho, .rows (.cons (.cons (.mp r1.symm) (.cons (.mp r2.symm) (.cons (.mp r3.symm) .nil))) .nil)⟩
  ·exact ⟨_, _,rfl,by exact hh.ha, .rows (.same (cl1 _))⟩
  ·exact ⟨_, _,rfl,by exact hh.hb, .rows (.same (cl2 _))⟩
  ·exact ⟨_, _,rfl,by exact hh.hc, .rows (.same (cl3 _))⟩
 ·intro x hx;rcases List.mem_cons.1 hx with rfl|hx
  ·exact .ref hn.1
  ·exact (ha x hx).mono (Nat.zero_le _)
 ·intro x hx;rcases List.mem_cons.1 hx with rfl|hx
  ·exact .ref ge
  ·exact (ha x hx).mono (Nat.zero_le _)
 ·exact .cons r0.symm (.rows (.cons (.cons (.mp r1.symm) (.cons (.mp r2.symm) (.cons (.mp r3.symm) .nil))) .nil)) (.cons r1.symm (.rows (.same (cl1 _))) (.cons r2.symm (.rows (.same (cl2 _))) (.cons r3.symm (.rows (.same (cl3 _))) .nil)))
 ·have e:dL [(o, .rows true 0 3 [[.mp a, .mp b, .mp c]]),(a,nD s'),(b,nG s'),(c,nn s')] (iZ [o,a,b,c] h)=ku s' a b c h:=by
   funext x;by_cases x0:x=o
   ·subst x0;simp [dL,iZ,aC,ku,d1,d2,d3,hh.ho]
   by_cases x1:x=a
   ·simp_all [dL,aC,ku]
   by_cases x2:x=b;all_goals simp_all [dL,iZ,aC,ku]
  grind
variable {dst:Option Tmp} {ops rest:List Oper}
theorem BA {Q:c7}{m i:Nat}{e:dg}{h:au}{acc:List jf}{s s':df} (hp:dD P f (.ref 0 0 3 0 0::args) (sY s) 4 R (sY s') 4) (hh:xx s o a b c h)
  (ha:∀x ∈ args,aN 0 x) (hR:aN 0 R) (hk:tY P n ops Q m (i+1) rest (put e dst R) (ku s' a b c h) (acc++ [([o,a,b,c], [a,b,c])])):
  cX P n ops Q m i rest dst (.fn (.func f) [] []) (.ref o 0 3 0 0::args) e h acc:=by
 have hw:aB [(a,some (nD s')),(b,some (nG s')),(c,some (nn s'))] h=ku s' a b c h:=rfl;try ((with_reducible refine wZ ?_);(try simp [go_sem]))
 refine zho [o,a,b,c] [(a,some (nD s')),(b,some (nG s')),(c,some (nn s'))] R (λ h₁ n₁ hx hn K hK=> ?_) ?_ ?_ hR.toS (by rw [hw];exact hk)
 ·have hh1:xx s o a b c h₁:=⟨by rw [<- hx o gt];exact hh.ho,by rw [<- hx a gt];exact hh.ha,by rw [<- hx b gt];exact hh.hb,by rw [<- hx c gt];exact hh.hc,hh.d⟩
  simp only [List.nil_append,List.append_nil];exact lI hp hh1 ⟨hn o gt,hn a gt,hn b gt,hn c gt⟩ ha hR hK
 ·intro x hx;simp only [List.mem_cons,List.not_mem_nil,or_false] at hx;rcases hx with rfl|rfl|rfl|rfl
  ·exact ⟨_,hh.ho⟩
  ·exact ⟨_,hh.ha⟩
  ·exact ⟨_,hh.hb⟩
  ·exact ⟨_,hh.hc⟩
 ·intro p hp;simp only [List.mem_cons,List.not_mem_nil,or_false] at hp;rcases hp with rfl|rfl|rfl
  ·exact ⟨gt, _, _, _,rfl,of_eq_true (pV 0 _)⟩
  ·exact ⟨gt, _, _, _,rfl,of_eq_true (sw 0 _)⟩
  ·exact ⟨gt, _, _, _,rfl,of_eq_true (sv 0 _)⟩
theorem ni {s s':df}{h:au}{K:cI} (hp:dD P f (.ref 0 0 3 0 0::args) (sY s) 4 R (sY s') 4) (ha:∀x ∈ args,aN 0 x) (hR:aN 0 R) (hk:K R (ku s' 1 2 3 h) n)
  (h0:h 0=some (.rows true 0 3 [[.mp 1, .mp 2, .mp 3]]):=by simp [aC]) (h1:h 1=some (nD s):=by simp [aC,nD]) (h2:h 2=some (nG s):=by simp [aC,nG]) (h3:h 3=some (nn s):=by simp [aC,nn]) (hn:4<=n:=by omega):ap P f (.ref 0 0 3 0 0::args) h n K:=
 lI hp ⟨h0,h1,h2,h3,Wm⟩ ⟨ge,ge,ge,ge⟩ ha hR hk
theorem zd {Q:c7}{m i:Nat}{e:dg}{h:au}{acc:List jf}{s s':df} (hp:dD P f (.ref 0 0 3 0 0::args) (sY s) 4 R (sY s') 4)
  (ha:∀x ∈ args,aN 0 x) (hR:aN 0 R) (hk:tY P n ops Q m (i+1) rest (put e dst R) (ku s' 1 2 3 h) (acc++ [([0,1,2,3], [1,2,3])]))
  (h0:h 0=some (.rows true 0 3 [[.mp 1, .mp 2, .mp 3]]):=by simp [aC]) (h1:h 1=some (nD s):=by simp [aC,nD]) (h2:h 2=some (nG s):=by simp [aC,nG]) (h3:h 3=some (nn s):=by simp [aC,nn]):
  cX P n ops Q m i rest dst (.fn (.func f) [] []) (.ref 0 0 3 0 0::args) e h acc:=BA hp ⟨h0,h1,h2,h3,Wm⟩ ha hR hk
theorem Fj {B:Type} (C:Nat->B->B->Prop) (n:Nat) (h:∀i,i<n->∀s,∃s',C i s s') (s0:B):∃S:Nat->B,S 0=s0∧∀i,i<n->C i (S i) (S (i+1)):=by
 induction n with
 |zero=>exact ⟨λ _=>s0,rfl,λ i hi=>ge⟩
 |succ n ih=>
  obtain ⟨S,h0,hS⟩:=ih λ i hi=>h i ge;obtain ⟨s',hs'⟩:=h n ge (S n);refine ⟨λ i=>if i<=n then S i else s',by simp [h0],λ i hi=> ?_⟩;grind
end Go.Av
end
section
open Go Go.Proofs
namespace Go.Av
open af
theorem AF {l:List af}{i:Nat} (h:i<l.length):bB (l.take (i+1))=bB (l.take i)++ [[gI (ac l i)]]:=by
 grind [nt,wj]
theorem jb {l:List af}{i:Nat} (h:i<l.length):ac (bB l) i= [gI (ac l i)]:=by grind [nt,ac]
theorem Vc:bB []= []:=rfl
attribute [go_sem] Vc ku
def Iz (f:af) (s s':df):Prop:=dD Tryz.prog 67 [.ref 0 0 3 0 0,bS f] (sY s) 4 (gI f) (sY s') 4
theorem Nu (l:List af) (hl:l.length<=68719476736) (s:df) (S:Nat->df) (h0:S 0=s) (hS:∀i,i<l.length->Iz (ac l i) (S i) (S (i+1))):
  dD Tryz.prog 111 [.ref 0 0 3 0 0, .lst 2 (az l)] (sY s) 4 (.lst 1 (bB l)) (sY (S l.length)) 4:=by
 rw [<- h0];clear h0;refine aF Tryz.func111 ?_;repeat first|refine wV λ _=>?_|simp [go_sem,sY]
 refine zg3 (zg5 (α:=Nat) (λ i=>⟨[(0, .ref 0 0 3 0 0),(5, .sl 4 i 1 0 i),(8, .lst 2 (az l)),(9, .int l.length),(10, .int i)],
   [(0, .rows true 0 3 [[.mp 1, .mp 2, .mp 3]]),(1,nD (S i)),(2,nG (S i)),(3,nn (S i)),(4, .rows true i 1 (bB (l.take i)))],5⟩) (λ d i=>i+d=l.length) ?_ l.length 0 ?_) ?_ ?_
 ·intro d i hi hrec;have hlen:(bB (l.take i)).length=i:=by grind [qd]
  refine J1 hlen ?_;refine zg4 (λ hc=> ?_) (λ hc=> ?_)<;>simp at hc
  ·have hi':i<l.length:=by omega
   have hC:=hS i hi';rw [Iz,bS] at hC;repeat first|refine wV λ _=>?_|simp [go_sem,hlen,bh hi',hi']
   refine ni hC no (gv 0 _) ?_;repeat first|refine wV λ _=>?_|simp [go_sem,hlen,cp (ac l i)]
   refine zg3 (hrec (d - 1) ge (i+1) ge) ?_ gt;simp [go_sem,aj,AF hi',cp (ac l i),nD,nG,nn]
  ·obtain rfl:i=l.length:=by omega
   rw [List.take_length] at *;refine J1 hlen ?_;simp [go_sem,aj,nD,nG,nn,sY];grind [aI,aC]
 ·omega
 ·simp [go_sem,aj,nD,nG,nn]
 ·simp
theorem Mq:∀f:af,f.text.length+1<=4 * f.size
 | .mk l r=>by
  have hL:∀l:List af,(∀x ∈ l,x.text.length+1<=4 * x.size)->(textL l).length<=4 * aD l:=by
   intro l;induction l with
   |nil=>grind [textL]
   |cons x l ih=>
    intro h;cases l<;>grind [textL,aD]
  have h1:=hL l λ x hx=>Mq x;have h2:=hL r λ x hx=>Mq x;rw [text,size];simp only [List.length_cons,List.length_append,List.length_nil];omega
theorem CP (f:af):(mI f).length<=4 * f.size:=by
 have:=Mq f;grind [mI]
theorem BL:∀ (n:Nat) (f:af),f.size<=n->n<=8589934592->∀s,∃s',Iz f s s':=by
 intro n;induction n with
 |zero=>grind [bZ]
 |succ n ih=>
  intro f hf hn s;have e2:=nA f;have e3:=nB f;obtain ⟨S,S0,hS⟩:=Fj (λ i=>Iz (ac f.L i)) f.L.length (λ i hi=>ih _ WC ge) s;obtain ⟨T,T0,hT⟩:=Fj (λ i=>Iz (ac f.R i)) f.R.length (λ i hi=>ih _ WD ge) (S f.L.length);have hA:=Nu f.L ge s S S0 hS;have hB:=Nu f.R ge (S f.L.length) T T0 hT;have hM:=vU (T f.R.length) f.L f.R ge ge (by have:=CP f;cases f;grind [L,R]);have ef:af.mk f.L f.R=f:=by cases f;rfl
  rw [ef] at hM;refine ⟨_,(?_:Iz f s ⟨xD (T f.R.length).ns f,(T f.R.length).qs,(T f.R.length).cs⟩)⟩;unfold Iz dD;rw [bS,aH];refine aF Tryz.func67 ?_;have bl:∀ (n:Nat) (l:List af),aN n (.lst 1 (bB l)):=λ n l=> .lst (lu n l);repeat first|refine wV λ _=>?_|simp [go_sem,sY]
  refine zd hA no (bl 0 _) ?_;refine J0 ?_;refine zd hB no (bl 0 _) ?_;refine J0 ?_;refine zd hM pi (gv 0 _) ?_;repeat first|refine wV λ _=>?_|simp [go_sem,cp f]
  simp [go_sem,aj,cp f,nD,nG,nn,sY]
end Go.Av
end
section
/- slices.IndexFunc, ContainsFunc of nodes, by a function that turns a book. -/
open Go Go.Proofs
namespace Go.Av
open af
section
variable {l:List af} {fid:FuncId} {first caps:List AV} {n:Nat} (hl:l.length<=68719476736) (H:Nat->au) (p:Nat->Bool) (k:Nat) (hk:k<=l.length) (hno:∀i,i<k->p i=false) (hyes:k<l.length->p k=true)
 (hcall:∀i,i<l.length->i<=k->∀K:cI,K (.bool (p i)) (H (i+1)) n->ap Tryz.prog fid (first++gI (ac l i)::caps) (H i) n K)
include hl hk hno hyes hcall
theorem Ek {K:cI} (hK:K (.int (if k<l.length then (k:Int) else -1)) (H (if k<l.length then k+1 else k)) n):ap Tryz.prog 169 [.lst 1 (bB l), .fn (.func fid) first caps] (H 0) n K:=by
 refine aF Tryz.func169 ?_;refine J0 ?_;refine (show ∀ (d j:Nat) (e:dg),j+d=l.length->j<=k->e 0= .lst 1 (bB l)->e 1= .fn (.func fid) first caps->e 7= .int l.length->e 8= .int j->ah _ _ _ e (H j) n from ?_) l.length 0 _ ge ge Wp Wp Wp Wp;intro d;induction d with
 |zero=>
  intro j e hj hjk e0 e1 e7 e8;obtain rfl:j=k:=ge;obtain rfl:j=l.length:=ge;rw [if_neg ge,if_neg ge] at hK;refine zg6 ?_;refine J4 e0 e1 e7 e8 ?_;exact hK
 |succ d ih=>
  intro j e hj hjk e0 e1 e7 e8;have hj':j<l.length:=ge;refine zg6 ?_;repeat first|refine wV λ _=>?_|simp [go_sem,e0,e1,e7,e8,jb hj',hj']
  refine hcall j hj' hjk _ ?_;by_cases e:j=k
  ·subst e;rw [hyes hj'];rw [if_pos hj',if_pos hj'] at hK;refine J4 e0 e1 e7 e8 ?_;exact hK
  ·rw [hno j ge];refine J4 e0 e1 e7 e8 ?_;refine ih (j+1) _ ge ge ?_ ?_ ?_ ?_<;>simp [aC,e0,e1,e7,e8]
theorem Gy {K:cI} (hK:K (.bool (decide (k<l.length))) (H (if k<l.length then k+1 else k)) n):ap Tryz.prog 118 [.lst 1 (bB l), .fn (.func fid) first caps] (H 0) n K:=by
 refine aF Tryz.func118 ?_;refine J0 ?_;refine Ek hl H p k hk hno hyes hcall ?_;by_cases e:k<l.length
 ·rw [decide_eq_true e] at hK;simp only [if_pos e] at hK ⊢;refine J0 ?_;exact hK
 ·rw [decide_eq_false e] at hK;simp only [if_neg e] at hK ⊢;refine J0 ?_;exact hK
end
section
variable {l:List af} {fid:FuncId} {first caps:List AV} {n o a b c:Nat} {h:au} (hl:l.length<=68719476736) (S:Nat->df) (hh:xx (S 0) o a b c h) (p:Nat->Bool) (k:Nat) (hk:k<=l.length) (hno:∀i,i<k->p i=false) (hyes:k<l.length->p k=true)
 (hcall:∀i,i<l.length->i<=k->∀h':au,xx (S i) o a b c h'->(∀x,x≠a->x≠b->x≠c->h' x=h x)->∀K:cI,K (.bool (p i)) (ku (S (i+1)) a b c h') n->ap Tryz.prog fid (first++gI (ac l i)::caps) h' n K)
include hl hh hk hno hyes hcall
theorem Kd {K:cI} (hK:K (.int (if k<l.length then (k:Int) else -1)) (ku (S (if k<l.length then k+1 else k)) a b c h) n):ap Tryz.prog 169 [.lst 1 (bB l), .fn (.func fid) first caps] h n K:=by
 have:=Ek hl (λ i=>ku (S i) a b c h) p k hk hno hyes (λ i hi hik K hK=>hcall i hi hik _ (hh.set (S i)) (λ x h1 h2 h3=>TW h1 h2 h3) K (by grind [PG])) hK;simp only [KJ hh] at this;exact this
theorem wu {K:cI} (hK:K (.bool (decide (k<l.length))) (ku (S (if k<l.length then k+1 else k)) a b c h) n):ap Tryz.prog 118 [.lst 1 (bB l), .fn (.func fid) first caps] h n K:=by
 have:=Gy hl (λ i=>ku (S i) a b c h) p k hk hno hyes (λ i hi hik K hK=>hcall i hi hik _ (hh.set (S i)) (λ x h1 h2 h3=>TW h1 h2 h3) K (by grind [PG])) hK;simp only [KJ hh] at this;exact this
end
theorem PQ {α:Type} [Inhabited α] {l:List α}{q:α->Bool}{k:Nat} (hk:k<=l.length) (hno:∀i,i<k->q (ac l i)=false) (hyes:k<l.length->q (ac l k)=true):(l.all λ z=> !q z)= !decide (k<l.length):=by
 grind [List.getElem_of_mem,dT]
theorem zz (p:Nat->Bool) (n:Nat):∃k,k<=n∧(∀i,i<k->p i=false)∧(k<n->p k=true):=by
 induction n<;>grind
end Go.Av
end
section
open Go Go.Proofs
namespace Go.Av
open af
theorem HG {α:Type}{T:TK}{key val:α->AV} (hk:∀a b,∃r,mi T (key a) (key b)=some r∧(r=true↔a=b)) (a:α):∀l:List α,a ∈ l->gz T (key a) (val a) (l.map λ x=> [key x,val x])=some (l.map λ x=> [key x,val x])
 | [],h=>WZ
 |b::l,h=>by
  obtain ⟨r,h1,h2⟩:=hk a b;have e:mZ [key b,val b] 0=key b:=rfl;cases r with
  |true=>
   grind [gz]
  |false=>
   simp_all [gz,HG]
instance:DecidableEq (af×af):=inferInstance
theorem ze5 (p:af×af) (l:List (af×af)):gz (.many [2,2]) (xb p) (.v (.bool (leq p.1 p.2))) (l.map v8)=some ((xD l p).map v8):=by
 by_cases h:p ∈ l
 ·rw [xD,if_pos h];exact HG (val:=λ p:af×af=> .v (.bool (leq p.1 p.2))) TT p l h
 grind [xD,Q3,v8]
theorem zgS (f:af) (l:List af):gz .string (It f) (gI f.canon) (l.map vM)=some ((xD l f).map vM):=by
 by_cases h:f ∈ l
 ·rw [xD,if_pos h];exact HG (val:=λ f:af=>gI f.canon) SD f l h
 grind [xD,Q1,vM]
theorem zgM:Fx Tryz.prog 207=some [2,2]:=Pi
theorem ze6:Jd Tryz.prog 4=some (.bool false):=Pi
def lH (x y:af) (s s':df):Prop:=dD Tryz.prog 69 [.ref 0 0 3 0 0,gI x,gI y] (sY s) 4 (.bool (leq x y)) (sY s') 4
theorem RL (x y:af) (s:df) (h:(x,y) ∈ s.qs):lH x y s s:=by
 obtain ⟨ns,qs,cs⟩:=s;have e:=(Q3 (x,y) qs).1 h;simp only [xb,It] at e;have hz:=ze6;have hq:=zgM;unfold lH dD;rw [cp x,cp y];refine aF Tryz.func69 ?_;repeat first|refine wV λ _=>?_|simp [go_sem,sY,hz,hq,e]
 simp [go_sem,aj]
theorem HJ (y z:af){s s':df} (hm:lH y z s s'){h:au}{n o a b c bo bn:Nat}{K:cI} (hh:xx s o a b c h) (hn:o<n∧a<n∧b<n∧c<n) (hbo:h bo=some (.rows true 0 1 [[.ref o 0 3 0 0]])) (hbn:h bn=some (.rows true 0 1 [[gI y]]))
  (hK:K (.bool (leq y z)) (ku s' a b c h) n):ap Tryz.prog 116 [gI z, .ref bo 0 1 0 0, .ref bn 0 1 0 0] h n K:=by
 have hm':=hm;unfold lH at hm';rw [cp y] at hbn hm';refine aF Tryz.func116 ?_;refine J2 hbo hbn ?_;refine lI hm' hh hn no (.v _) ?_;refine J0 ?_;exact hK
theorem RK (x z:af){s s':df} (hm:lH z x s s'){h:au}{n o a b c bo bn:Nat}{K:cI} (hh:xx s o a b c h) (hn:o<n∧a<n∧b<n∧c<n) (hbo:h bo=some (.rows true 0 1 [[.ref o 0 3 0 0]])) (hbn:h bn=some (.rows true 0 1 [[gI x]]))
  (hK:K (.bool (leq z x)) (ku s' a b c h) n):ap Tryz.prog 117 [gI z, .ref bo 0 1 0 0, .ref bn 0 1 0 0] h n K:=by
 have hm':=hm;unfold lH at hm';rw [cp x] at hbn hm';refine aF Tryz.func117 ?_;refine J2 hbo hbn ?_;refine lI hm' hh hn no (.v _) ?_;refine J0 ?_;exact hK
theorem wJ:∀ (n:Nat) (x y:af),x.size+y.size<=n->n<=17179869184->∀s,∃s',lH x y s s':=by
 intro n;induction n with
 |zero=>grind [bZ]
 |succ n ih=>
  intro x y hf hn s;by_cases hk:(x,y) ∈ s.qs
  ·exact ⟨s,RL x y s hk⟩
  have e2:=nA x;have e3:=nB y;obtain ⟨S,S0,hS⟩:=Fj (λ i=>lH y (ac x.L i)) x.L.length (λ i hi=>ih _ _ WC ge) s;obtain ⟨k1,a1,a2,a3⟩:=zz (λ i=>leq y (ac x.L i)) x.L.length;obtain ⟨s1,hs1⟩:∃s1,s1=S (if k1<x.L.length then k1+1 else k1):=⟨_,rfl⟩
  have b1:=PQ (q:=λ z=>leq y z) a1 a2 a3;have el:=tn x y;rw [b1] at el;have f0:=((Q3 (x,y) s.qs).2 hk).1;simp only [xb,It] at f0;have hz:=ze6;have hq:=zgM;by_cases c1:k1<x.L.length
  ·rw [decide_eq_true c1,Bool.not_true,Bool.false_and] at el;rw [if_pos c1] at hs1;refine ⟨⟨s1.ns,xD s1.qs (x,y),s1.cs⟩, ?_⟩;have hp:=ze5 (x,y) s1.qs;simp only [xb,It,el] at hp;unfold lH dD;rw [el,cp x,cp y];refine aF Tryz.func69 ?_;repeat first|refine wV λ _=>?_|simp [go_sem,sY,hz,hq,f0]
   refine wu ge S (o:=0) (a:=1) (b:=2) (c:=3) Xr _ k1 a1 a2 a3 (λ i hi hik h' hh hx K hK=> ?_) ?_
   ·exact HJ y (ac x.L i) (hS i hi) hh ge WQ (by grind [cp,aC]) hK
   ·rw [if_pos c1,<- hs1,decide_eq_true c1];repeat first|refine wV λ _=>?_|simp [go_sem,nD,nG,nn]
    refine lC.skip .top ?_;refine J2 hq hp ?_;simp [go_sem,aj]
  ·rw [decide_eq_false c1,Bool.not_false,Bool.true_and] at el;rw [if_neg c1] at hs1;obtain ⟨T,T0,hT⟩:=Fj (λ i=>lH (ac y.R i) x) y.R.length (λ i hi=>ih _ _ WD ge) s1;obtain ⟨k2,d1,d2,d3⟩:=zz (λ i=>leq (ac y.R i) x) y.R.length;obtain ⟨s2,hs2⟩:∃s2,s2=T (if k2<y.R.length then k2+1 else k2):=⟨_,rfl⟩
   have b2:=PQ (q:=λ z=>leq z x) d1 d2 d3;rw [b2] at el;refine ⟨⟨s2.ns,xD s2.qs (x,y),s2.cs⟩, ?_⟩;have hp:=ze5 (x,y) s2.qs;simp only [xb,It,el] at hp;unfold lH dD;rw [el,cp x,cp y];generalize htv:decide (k2<y.R.length)=tv at *;refine aF Tryz.func69 ?_;repeat first|refine wV λ _=>?_|simp [go_sem,sY,hz,hq,f0]
   refine wu ge S (o:=0) (a:=1) (b:=2) (c:=3) Xr _ k1 a1 a2 a3 (λ i hi hik h' hh hx K hK=> ?_) ?_
   ·exact HJ y (ac x.L i) (hS i hi) hh ge WQ (by grind [cp,aC]) hK
   ·rw [if_neg c1,<- hs1,decide_eq_false c1];repeat first|refine wV λ _=>?_|simp [go_sem,nD,nG,nn]
    refine lC.go ?_;refine wu ge T (o:=0) (a:=1) (b:=2) (c:=3) (by rw [T0];exact ⟨Wp,by simp [aC,nD],by simp [aC,nG],by simp [aC,nn],Wm⟩) _ k2 d1 d2 d3 (λ i hi hik h' hh hx K hK=> ?_) ?_
    ·exact RK x (ac y.R i) (hT i hi) hh ge (by rw [hx 4 ge ge ge];simp [aC]) (by grind [cp,aC]) hK
    ·rw [htv,<- hs2];repeat first|refine wV λ _=>?_|simp [go_sem,nD,nG,nn,hq,hp]
     simp [go_sem,aj]
end Go.Av
end
section
open Go Go.Proofs
namespace Go.Av
open af
theorem wz (a b:List af):bB a++bB b=bB (a++b):=by grind [nt]
theorem P6 (m:Int) (h0:0<=m) (h1:m<=17179869184):uR Tryz.prog 220 [AV.nils, .int m] (λ n=> .sl n 0 1 0 0) (λ n=> [(n, .rows true 0 1 [])]) 1:=by
 refine ⟨?_,λ n=>⟨no,no⟩⟩;by_cases hm:m=0
 ·subst hm;refine aF Tryz.func220 ?_;refine J0 ?_;simp [go_sem,aj]
 ·refine ap.clear ?_;refine aF Tryz.func220 ?_;refine J0 ?_;refine DX ?_;refine J0 ?_;refine zeM ?_;refine J0 ?_;refine ⟨0,0,1,Wm,⟨rfl,rfl,rfl⟩, ?_⟩;simp [go_sem,aj]
theorem zL (a b c:List af) (ha:a.length<=4294967296) (hb:b.length<=4294967296) (hc:c.length<=4294967296):aq Tryz.prog 171 [.lst 1 [[.lst 1 (bB a)], [.lst 1 (bB b)], [.lst 1 (bB c)]]] (.lst 1 (bB (a++b++c))):=by
 refine pF Tryz.func171 ?_;refine J0 ?_;refine zg6 ?_;refine J0 ?_;refine DX ?_;refine J0 ?_;refine zg6 ?_;refine J0 ?_;refine DX ?_;refine J0 ?_;refine zg6 ?_;refine J0 ?_;refine DX ?_;refine J0 ?_;refine zg6 ?_;refine J0 ?_;refine zg8 (P6 _ ge ge) no ?_;refine J0 ?_;refine zg6 ?_;refine J0 ?_;refine zg6 ?_;refine J0 ?_;refine zg6 ?_;refine J0 ?_;refine zg6 ?_;refine J0 ?_;rw [<- wz,<- wz];exact aI rfl (by simp [qd]) Ws (List.take_of_length_le (by simp [qd]))
theorem UV (w z:af){s s':df} (hm:lH z w s s'){h:au}{n o a b c bo bn:Nat}{K:cI} (hh:xx s o a b c h) (hn:o<n∧a<n∧b<n∧c<n) (hbo:h bo=some (.rows true 0 1 [[.ref o 0 3 0 0]])) (hbn:h bn=some (.rows true 0 1 [[gI w]]))
  (hK:K (.bool (leq z w)) (ku s' a b c h) n):ap Tryz.prog 170 [gI z, .ref bo 0 1 0 0, .ref bn 0 1 0 0] h n K:=by
 have hm':=hm;unfold lH at hm';rw [cp w] at hbn hm';refine aF Tryz.func170 ?_;refine J2 hbo hbn ?_;refine lI hm' hh hn no (.v _) ?_;refine J0 ?_;exact hK
theorem Eb (l:List af) (i:Nat):(bB l).take i=bB (l.take i):=by grind [nt,List.map_take]
theorem Ea (l:List af) (i:Nat):(bB l).drop i=bB (l.drop i):=by grind [nt,List.map_drop]
def zgw (w x:af) (s s':df):Prop:=∃ (T:Nat->df) (k:Nat),T 0=s∧(∀j,j<x.R.length->lH (ac x.R j) w (T j) (T (j+1)))∧k<=x.R.length∧(∀j,j<k->leq (ac x.R j) w=false)∧(k<x.R.length->leq (ac x.R k) w=true)∧s'=T (if k<x.R.length then k+1 else k)
theorem zdS (w x:af) (h:w.size+x.size<=17179869184) (s:df):∃s',zgw w x s s':=by
 obtain ⟨T,T0,hT⟩:=Fj (λ j=>lH (ac x.R j) w) x.R.length (λ j hj=>wJ _ _ _ (Nat.le_refl _) (by have:=eH hj;omega)) s;obtain ⟨k,k1,k2,k3⟩:=zz (λ j=>leq (ac x.R j) w) x.R.length;exact ⟨_,T,k,T0,hT,k1,k2,k3,rfl⟩
def Ff (l:List af):Option (List af)->AV
 |none=> .tup [.lst 1 (bB l), .bool false]
 |some l'=> .tup [.lst 1 (bB l'), .bool true]
def MC (l r:List af) (s s':df):Prop:=dD Tryz.prog 119 [.ref 0 0 3 0 0, .lst 1 (bB l), .lst 1 (bB r)] (sY s) 4 (Ff l (mQ (.mk l r) l)) (sY s') 4
theorem UW (l r:List af) (hs:(af.mk l r).size<=4294967296) (s:df):∃s',MC l r s s':=by
 obtain ⟨w,hw⟩:∃w,w=af.mk l r:=⟨_,rfl⟩
 have e2:=nA (.mk l r);have e3:=nB (.mk l r);have hsx:∀i,i<l.length->(ac l i).size<(af.mk l r).size:=λ i hi=>dU (f:= .mk l r) hi;simp only [af.L,af.R] at e2 e3;have hM:=vU s l r ge ge (by grind [CP]);rw [<- hw] at hM hs e2 e3 hsx;obtain ⟨U,U0,hU⟩:=Fj (λ i=>zgw w (ac l i)) l.length (λ i hi s=>zdS w _ pi s) ⟨xD s.ns w,s.qs,s.cs⟩;rw [<- U0] at hM;clear U0;obtain ⟨m,m1,m2,m3⟩:=zz (λ i=>(ac l i).R.any λ z=>leq z w) l.length;refine ⟨U (if m<l.length then m+1 else m), ?_⟩;unfold MC dD;rw [<- hw];refine aF Tryz.func119 ?_;repeat first|refine wV λ _=>?_|simp [go_sem,sY]
 refine ni hM no (gv 0 _) ?_;have hew:=cp w;refine J1 hew ?_;refine zg3 (zg5 (α:=Nat) (λ i=>⟨[(1, .lst 1 (bB l)),(3, .ref 4 0 1 0 0),(8, .ref 5 0 1 0 0),(17, .lst 1 (bB l)),(18, .int l.length),(19, .int i)],
   [(0, .rows true 0 3 [[.mp 1, .mp 2, .mp 3]]),(1,nD (U i)),(2,nG (U i)),(3,nn (U i)),(4, .rows true 0 1 [[.ref 0 0 3 0 0]]),(5, .rows true 0 1 [[gI w]])],6⟩) (λ d i=>i+d=l.length∧i<=m) ?_ l.length 0 ?_) ?_ ?_
 ·rintro d i ⟨hi,him⟩ hrec;refine J0 ?_;refine zg4 (λ hc=> ?_) (λ hc=> ?_)<;>simp at hc
  ·have hi':i<l.length:=by omega
   have hex:=cp (ac l i);obtain ⟨T,k,T0,hT,k1,k2,k3,hU'⟩:=hU i hi';have hxs:=hsx i hi';have hxr:=nB (ac l i);repeat first|refine wV λ _=>?_|simp [go_sem,jb hi',hi',hex]
   refine Kd ge T (o:=0) (a:=1) (b:=2) (c:=3) XC _ k k1 k2 k3 (λ j hj hjk h' hh hx K hK=> ?_) ?_
   ·exact UV w _ (hT j hj) hh ge WQ (by simp_all [aC]) hK
   ·rw [<- hU'];by_cases hk:k<(ac l i).R.length
    ·rw [if_pos hk];have hez:=cp (ac (ac l i).R k);have em:i=m:=by
      refine Classical.byContradiction λ hne=> ?_;grind [ac]
     have hb:=LB (x:=w) (l:=l) (i:=i) (k:=k) hi' (λ j hj k' hk'=>by
      grind [ac]) hk k2 (k3 hk)
     have hzl:=eH hk;have hzl2:=nA (ac (ac l i).R k);have hC:=zL (l.take i) (ac (ac l i).R k).L (l.drop (i+1)) pi ge pi;have td:(l.drop (i+1)).take (l.length - (i+1))=l.drop (i+1):=List.take_of_length_le gt;repeat first|refine wV λ _=>?_|simp [go_sem,jb hk,hk,hez,Eb,Ea,td]
     refine cX.frz [.lst 1 [[.lst 1 (bB (l.take i))], [.lst 1 (bB (ac (ac l i).R k).L)], [.lst 1 (bB (l.drop (i+1)))]]] _ [23] [(23,some (.rows false 0 1 [[.lst 1 (bB (l.take i))], [.lst 1 (bB (ac (ac l i).R k).L)], [.lst 1 (bB (l.drop (i+1)))]]))] hC ?_ ?_ no ?_
     ·grind [aC]
     ·intro h₁ hS;have h7:=hS 23 gt;simp [go_sem] at h7;exact .cons (aI h7.symm gt XR pi) .nil
     ·subst em;rw [if_pos hi',hb,Ff];refine J0 ?_;simp [go_sem,aj,hew,nD,nG,nn,sY]
    ·rw [if_neg hk];have hni:i≠m:=λ e=>by
      grind [List.getElem_of_mem,ac]
     refine J0 ?_;refine zg3 (hrec (d - 1) ge (i+1) ⟨ge,ge⟩) ?_ gt;simp [go_sem,aj,hew,nD,nG,nn]
  ·obtain rfl:i=l.length:=by omega
   obtain rfl:m=l.length:=ge;rw [if_neg ge,At λ j hj k hk=>by
    grind [ac]]
   rw [Ff];refine J0 ?_;simp [go_sem,aj,hew,nD,nG,nn,sY]
 ·omega
 ·simp [go_sem,aj,hew,nD,nG,nn]
 ·simp
end Go.Av
end
section
open Go Go.Proofs
namespace Go.Av
open af
theorem Td {x:af}:∀ {l:List af}{i k:Nat},i<l.length->(∀j,j<i->∀k,k<(ac l j).L.length->leq x (ac (ac l j).L k)=false)->k<(ac l i).L.length->
  (∀j,j<k->leq x (ac (ac l i).L j)=false)->leq x (ac (ac l i).L k)=true->nj x l=some (l.take i++((ac (ac l i).L k).R++l.drop (i+1)))
 | [],i,k,hi, _, _, _, _=>by simp at hi
 |a::l,0,k, _, _,hk,hj,h=>by
  grind [ac,nj,LL]
 |a::l,i+1,k,hi,h0,hk,hj,h=>by
  rw [dv] at hk h;have hj':∀j,j<k->leq x (ac (ac l i).L j)=false:=λ j hj2=>by have:=hj j hj2;rwa [dv] at this
  have ha:a.L.find? (λ b=>leq x b)=none:=Ft λ j hj=>by have:=h0 0 ge j (by exact hj);rwa [fW] at this
  rw [nj,ha];rw [Td Wv (λ j hj2 k hk2=>by have:=h0 (j+1) ge k (by exact hk2);rwa [dv] at this) hk hj' h];simp [dv]
theorem Gq {x:af}:∀ {l:List af},(∀j,j<l.length->∀k,k<(ac l j).L.length->leq x (ac (ac l j).L k)=false)->nj x l=none
 | [], _=>rfl
 |a::l,h=>by
  have ha:a.L.find? (λ b=>leq x b)=none:=Ft λ j hj=>by have:=h 0 gt j (by exact hj);rwa [fW] at this
  rw [nj,ha];rw [Gq (λ j hj k hk=>by have:=h (j+1) (by simpa using hj) k (by exact hk);rwa [dv] at this)];rfl
theorem zao (w z:af){s s':df} (hm:lH w z s s'){h:au}{n o a b c bo bn:Nat}{K:cI} (hh:xx s o a b c h) (hn:o<n∧a<n∧b<n∧c<n) (hbo:h bo=some (.rows true 0 1 [[.ref o 0 3 0 0]])) (hbn:h bn=some (.rows true 0 1 [[gI w]]))
  (hK:K (.bool (leq w z)) (ku s' a b c h) n):ap Tryz.prog 172 [gI z, .ref bo 0 1 0 0, .ref bn 0 1 0 0] h n K:=by
 have hm':=hm;unfold lH at hm';rw [cp w] at hbn hm';refine aF Tryz.func172 ?_;refine J2 hbo hbn ?_;refine lI hm' hh hn no (.v _) ?_;refine J0 ?_;exact hK
def zgE (w x:af) (s s':df):Prop:=∃ (T:Nat->df) (k:Nat),T 0=s∧(∀j,j<x.L.length->lH w (ac x.L j) (T j) (T (j+1)))∧k<=x.L.length∧(∀j,j<k->leq w (ac x.L j)=false)∧(k<x.L.length->leq w (ac x.L k)=true)∧s'=T (if k<x.L.length then k+1 else k)
theorem zeH (w x:af) (h:w.size+x.size<=17179869184) (s:df):∃s',zgE w x s s':=by
 obtain ⟨T,T0,hT⟩:=Fj (λ j=>lH w (ac x.L j)) x.L.length (λ j hj=>wJ _ _ _ (Nat.le_refl _) (by have:=dU hj;omega)) s;obtain ⟨k,k1,k2,k3⟩:=zz (λ j=>leq w (ac x.L j)) x.L.length;exact ⟨_,T,k,T0,hT,k1,k2,k3,rfl⟩
def Un (l r:List af) (s s':df):Prop:=dD Tryz.prog 120 [.ref 0 0 3 0 0, .lst 1 (bB l), .lst 1 (bB r)] (sY s) 4 (Ff r (nj (.mk l r) r)) (sY s') 4
theorem zeI (l r:List af) (hs:(af.mk l r).size<=4294967296) (s:df):∃s',Un l r s s':=by
 obtain ⟨w,hw⟩:∃w,w=af.mk l r:=⟨_,rfl⟩
 have e2:=nA (.mk l r);have e3:=nB (.mk l r);have hsx:∀i,i<r.length->(ac r i).size<(af.mk l r).size:=λ i hi=>eH (f:= .mk l r) hi;simp only [af.L,af.R] at e2 e3;have hM:=vU s l r ge ge (by grind [CP]);rw [<- hw] at hM hs e2 e3 hsx;obtain ⟨U,U0,hU⟩:=Fj (λ i=>zgE w (ac r i)) r.length (λ i hi s=>zeH w _ pi s) ⟨xD s.ns w,s.qs,s.cs⟩;rw [<- U0] at hM;clear U0;obtain ⟨m,m1,m2,m3⟩:=zz (λ i=>(ac r i).L.any λ z=>leq w z) r.length;refine ⟨U (if m<r.length then m+1 else m), ?_⟩;unfold Un dD;rw [<- hw];refine aF Tryz.func120 ?_;repeat first|refine wV λ _=>?_|simp [go_sem,sY]
 refine ni hM no (gv 0 _) ?_;have hew:=cp w;refine J1 hew ?_;refine zg3 (zg5 (α:=Nat) (λ i=>⟨[(2, .lst 1 (bB r)),(3, .ref 4 0 1 0 0),(8, .ref 5 0 1 0 0),(17, .lst 1 (bB r)),(18, .int r.length),(19, .int i)],
   [(0, .rows true 0 3 [[.mp 1, .mp 2, .mp 3]]),(1,nD (U i)),(2,nG (U i)),(3,nn (U i)),(4, .rows true 0 1 [[.ref 0 0 3 0 0]]),(5, .rows true 0 1 [[gI w]])],6⟩) (λ d i=>i+d=r.length∧i<=m) ?_ r.length 0 ?_) ?_ ?_
 ·rintro d i ⟨hi,him⟩ hrec;refine J0 ?_;refine zg4 (λ hc=> ?_) (λ hc=> ?_)<;>simp at hc
  ·have hi':i<r.length:=by omega
   have hex:=cp (ac r i);obtain ⟨T,k,T0,hT,k1,k2,k3,hU'⟩:=hU i hi';have hxs:=hsx i hi';have hxr:=nA (ac r i);repeat first|refine wV λ _=>?_|simp [go_sem,jb hi',hi',hex]
   refine Kd ge T (o:=0) (a:=1) (b:=2) (c:=3) XC _ k k1 k2 k3 (λ j hj hjk h' hh hx K hK=> ?_) ?_
   ·exact zao w _ (hT j hj) hh ge WQ (by simp_all [aC]) hK
   ·rw [<- hU'];by_cases hk:k<(ac r i).L.length
    ·rw [if_pos hk];have hez:=cp (ac (ac r i).L k);have em:i=m:=by
      refine Classical.byContradiction λ hne=> ?_;grind [ac]
     have hb:=Td (x:=w) (l:=r) (i:=i) (k:=k) hi' (λ j hj k' hk'=>by
      grind [ac]) hk k2 (k3 hk)
     have hzl:=dU hk;have hzl2:=nB (ac (ac r i).L k);have hC:=zL (r.take i) (ac (ac r i).L k).R (r.drop (i+1)) pi ge pi;have td:(r.drop (i+1)).take (r.length - (i+1))=r.drop (i+1):=List.take_of_length_le gt;repeat first|refine wV λ _=>?_|simp [go_sem,jb hk,hk,hez,Eb,Ea,td]
     refine cX.frz [.lst 1 [[.lst 1 (bB (r.take i))], [.lst 1 (bB (ac (ac r i).L k).R)], [.lst 1 (bB (r.drop (i+1)))]]] _ [23] [(23,some (.rows false 0 1 [[.lst 1 (bB (r.take i))], [.lst 1 (bB (ac (ac r i).L k).R)], [.lst 1 (bB (r.drop (i+1)))]]))] hC ?_ ?_ no ?_
     ·intro p hp;simp only [List.mem_singleton] at hp;subst hp;exact ⟨gt,0,1, _,rfl,by simp [aC,go_sem]⟩
     ·intro h₁ hS;have h7:=hS 23 gt;simp [go_sem] at h7;exact .cons (aI h7.symm gt XR no) .nil
     ·subst em;rw [if_pos hi',hb,Ff];refine J0 ?_;simp [go_sem,aj,hew,nD,nG,nn,sY]
    ·rw [if_neg hk];have hni:i≠m:=λ e=>by
      have h1:=m3 ge;rw [<- e,List.any_eq_true] at h1;obtain ⟨z,hz,hz2⟩:=h1;obtain ⟨j,hj,rfl⟩:=List.getElem_of_mem hz;rw [<- dT _ _ hj,k2 j ge] at hz2;cases hz2
     refine J0 ?_;refine zg3 (hrec (d - 1) ge (i+1) ⟨ge,ge⟩) ?_ gt;simp [go_sem,aj,hew,nD,nG,nn]
  ·obtain rfl:i=r.length:=by omega
   obtain rfl:m=r.length:=ge;rw [if_neg ge,Gq λ j hj k hk=>by
    have:=m2 j hj;rw [List.any_eq_false] at this;exact Bool.not_eq_true _▸this _ (am hk)]
   rw [Ff];refine J0 ?_;simp [go_sem,aj,hew,nD,nG,nn,sY]
 ·exact ⟨ge,ge⟩
 ·simp [go_sem,aj,hew,nD,nG,nn]
 ·simp
end Go.Av
end
section
namespace Go.Av
open Go Go.Sort Go.Shelf Go.Proofs
theorem JQ {β:Type} [Inhabited β] (enc:β->List Value) (hk:∀x,(enc x).length=1) (d:Array β):flatK enc 1 d=d.map λ x=>(enc x).headD undef:=by
 refine Array.ext WW λ i h1 h2=> ?_;have hi:i<d.size:=pi;have h:=get_flatK enc 1 d i ge;rw [getElem!_pos _ i h1] at h;rw [h,Array.getElem_map,Nat.div_one,Nat.mod_one,getElem!_pos d i hi];have:=hk d[i];generalize enc d[i]=V at this ⊢;cases V<;>grind
theorem Sn {β:Type} [Inhabited β] (enc:β->Value) (w:World) (blk off:Nat) (d:Array β):putRow id w blk off (d.map enc)=putRow enc w blk off d:=by
 unfold putRow;congr 1;grind [putCells]
variable {ρ:Ren} {P:Program}
theorem zgf {α:Type} [Inhabited α] (L:SlLaysF.n6 P ρ){k:Nat} (hk1:k=1) (enc:α->List Value) (hk:∀x,(enc x).length=k) (h1:∀x,∀v ∈ enc x,v.oneCell'=true) (cf:α->α->Int) (hO:SWO (ltOf cf)) (g:Nat) (cb:Array Value) (blk off cap:Nat) (d:Array α) (w:World)
  (eg:∀args w,(callFunc g args).run P w= .ok (.enter g args) w)
  (hcmp:∀ (m:Nat) (os:Array Obj) (dk:Array α),dk.size=d.size->∀x y:α,Calls P g (#[(enc x).headD undef,(enc y).headD undef]++cb) (sortWorldK enc k w blk off m dk os) λ e w'=>e= .returned (.int .i64 (cf x y))∧∃q os',w'=grow ((sortWorldK enc k w blk off m dk os).drewN q) os')
  (hH:HoldsK enc k w blk off d) (hblk:blk<w.heap.size) (hsz:d.size<4611686018427387904):
  Calls P (ρ.f 6) #[.slice (some ⟨blk,off,none⟩) d.size cap, .func (.func g) #[] cb] w λ e w'=>
   e= .returned (.tuple #[])∧∃d' n os,PermIn 0 d.size d d'∧SortedIn (ltOf cf) 0 d.size d'∧w'=sortWorldK enc k w blk off n d' os:=by
 subst hk1;have hW:∀m dk os,sortWorldK enc 1 w blk off m dk os=sortWorld (λ x=>(enc x).headD undef) w blk off m dk os:=λ m dk os=>by
  grind [sortWorldK,sortWorld,putRowK,JQ,Sn]
 simp only [hW] at hcmp ⊢;refine Any.slices_SortFunc L (λ x=>(enc x).headD undef) (λ x=> ?_) cf hO g cb blk off cap d w eg hcmp ?_ hblk hsz
 ·have h2:=hk x;have h3:=h1 x;show ((enc x).headD undef).oneCell'=true;generalize enc x=V at h2 h3 ⊢;cases V<;>grind
 ·intro j hj;have:=hH j WW;grind [JQ]
theorem zhx  (L:SlLaysF.n6 P ρ){α:Type} (e1:α->AV) (henb0:∀x,aN 0 (e1 x)) (Q:α->Prop) (cf:α->α->Int) (hO:SWO (λ a b:α=>decide (cf a b<0))) (g:FuncId)
  (hC:∀x y,Q x->Q y->aq P g [e1 x,e1 y] (.v (.int .i64 (cf x y)))) (hg:kH P g) (l:List α) (hQ:∀x ∈ l,Q x) (hl:l.length<4611686018427387904) {h:au} {n o gn:Nat}
  (ho:h o=some (.rows true gn 1 (l.map λ x=> [e1 x]))) {K:cI} (hK:∀l':List α,l'.Perm l->l'.Pairwise (λ a b=>¬cf b a<0)->K (.tup []) (aC h o (some (.rows true gn 1 (l'.map λ x=> [e1 x])))) n):
  ap P (ρ.f 6) [.sl o gn 1 0 l.length, .fn (.func g) [] []] h n K:=by
 have e6:kH P (ρ.f 6):=L.f6.enters rfl;obtain ⟨k,hk1⟩:∃k,k=1:=⟨1,rfl⟩
 obtain ⟨en,hen⟩:∃en:α->List AV,en=λ x=> [e1 x]:=⟨_,rfl⟩
 have hex:∀x,en x= [e1 x]:=λ x=>by rw [hen]
 have hk0:0<k:=ge;have henl:∀x,(en x).length=k:=λ x=>pi;have henb:∀x,∀c ∈ en x,aN 0 c:=λ x c hc=>pi;rw [<- hk1,<- hen] at ho;rw [<- hk1];simp only [<- hk1,<- hen] at hK;refine ⟨e6,λ M0 φ w vs hH hargs=> ?_⟩;cases hargs with
 |cons hs ht=>
 cases ht with
 |cons hf ht=>
 cases ht;cases hf with
 | @fn _ _ _ fs cs q1 q2=>
 cases q1;cases q2;have hal:fI h o gn k:=W7;obtain ⟨A,cap,rfl,hcap,hA⟩:=hH.sl_alive hal hs;have hnone:l= []->Calls P (ρ.f 6) ⟨[.slice A l.length cap, .func (.func g) ⟨[]⟩ ⟨[]⟩]⟩ w λ e w'=>∃v φ' r h' n',e= .returned v∧K r h' n'∧m8 φ' n' w' M0 h'∧bY φ' w' (Or M0 (bc φ' h')) r v∧fm φ w M0 h φ' w' h':=by
  intro he;subst he;refine (AnyF.slices_SortFunc_none { L with} A cap _ w).mono ?_;rintro e w' ⟨rfl,rfl⟩;have:=hK [] (.refl _) .nil;rw [<- ho,CS] at this;exact ⟨_,φ, .tup [],h,n,rfl,this,hH, .tup (vs:= []) .nil, .refl _ _ _ _⟩
 by_cases he:l= []
 ·grind
 have hlp:0<l.length:=List.length_pos_iff.2 he;rcases hA with ⟨rfl, _,h0, _⟩|⟨h0,rfl, _⟩|⟨a,bs,hp,hsp,rfl,hcb⟩
 ·omega
 ·omega
 obtain ⟨A0,hA0,hobj⟩:=hH.obj _ _ _ _ _ ho;rw [hp] at hA0;simp only [Option.some.injEq,Prod.mk.injEq,true_and] at hA0;subst hA0;rcases hobj with ⟨hobj, _⟩|⟨a₁,bs₁,e1,h0,hd⟩
 ·cases hobj
 simp only [Option.some.injEq,Prod.mk.injEq] at e1;obtain ⟨rfl,rfl⟩:=e1;obtain ⟨C,T,hb,hCs,hr,hle,hv,hrel⟩:=hd.cells hsp;rw [List.length_map] at hle hv hrel;have hrel0:aU rT w (Or M0 (bc φ h)) (l.map en).flatten ((C.toList.drop a.off).take (l.length * k)):=uH (λ _ hk=>hk) (λ c hc=>by
  grind) hrel
 obtain ⟨ls,hlx,hlv⟩:=GD (Q:=Q) hQ hrel0 hv;have hlen:ls.length=l.length:=pi;obtain ⟨d,hd⟩:∃d:Array (El w (Or M0 (bc φ h)) en Q),d=ls.toArray:=⟨_,rfl⟩
 have hds:d.size=l.length:=pi;haveI:Inhabited (El w (Or M0 (bc φ h)) en Q):=⟨ls[0]' ge⟩
 have hkE:∀x:El w (Or M0 (bc φ h)) en Q,x.vs.length=k:=λ x=>by rw [<- x.rel.length,henl]
 have hMb:Or M0 (bc φ h) a.block:= .inr ⟨o,gn,k, _,gn,a,bs,ho,hp,rfl⟩;have hblk:a.block<w.heap.size:=(Array.getElem?_eq_some_iff.1 hb).1;have hfl:∀d':Array (El w (Or M0 (bc φ h)) en Q),(flatK (λ x=>x.vs) k d').toList=(d'.toList.map λ x=>x.vs).flatten:=λ d'=>GT _ hk0 hkE d';have hCal:Calls P (ρ.f 6) ⟨[.slice (some ⟨a.block,a.off+0 * k,none⟩) l.length cap, .func (.func g) ⟨[]⟩ ⟨[]⟩]⟩ w λ e w'=>
   e= .returned (.tuple #[])∧∃d' n os,PermIn 0 d.size d d'∧SortedIn (ltOf λ x y:El w (Or M0 (bc φ h)) en Q=>cf x.x y.x) 0 d.size d'∧w'=sortWorldK (λ x=>x.vs) k w a.block a.off n d' os:=by
  rw [Nat.zero_mul,Nat.add_zero,<- hds];refine zgf L hk1 (λ x:El w (Or M0 (bc φ h)) en Q=>x.vs) hkE (λ x=>x.cells) (λ x y=>cf x.x y.x) (PR hO λ x:El w (Or M0 (bc φ h)) en Q=>x.x) g #[] a.block a.off cap d w hg ?_ ?_ hblk ge
  ·intro m os dk hdk x y;obtain ⟨hx1,hx2⟩:=hC x.x y.x x.q y.q;obtain ⟨C',k1,k2,k3,k4,k5,k6,k7,k8,k9⟩:=uJ (off:=a.off) hb (λ x:El w (Or M0 (bc φ h)) en Q=>x.vs) k dk pi m os;generalize sortWorldK (λ x:El w (Or M0 (bc φ h)) en Q=>x.vs) k w a.block a.off m dk os=X at *;have hkeep:∀z:El w (Or M0 (bc φ h)) en Q,aU rT X (Or M0 (bc φ h)) (en z.x) z.vs:=λ z=>
    z.rel.keep rT.le_refl (λ j hj hjl=>k4 j (λ e=>hj (e▸hMb)) hjl) (λ j hj=> .inl hj)
   have hag:∀z:El w (Or M0 (bc φ h)) en Q,bY rT X (Or M0 (bc φ h)) (e1 z.x) (z.vs.headD undef):=λ z=>by
    have h1:=hkeep z;have h2:=hkE z;rw [hex z.x] at h1;generalize z.vs=V at h1 h2;cases h1<;>grind
   refine (hx2 (Or M0 (bc φ h)) X [x.vs.headD undef,y.vs.headD undef] (λ j hj=>Nat.lt_of_lt_of_le (hH.blk hj) k5) (hH.glob.keep (λ j hj hjl=>k4 j (λ e=>hj (e▸hMb)) hjl) (λ j hj=> .inl hj)) (.cons (hag x) (.cons (hag y) .nil))).mono ?_;rintro e w' ⟨v,rfl,hrv,hfr⟩;cases hrv;refine ⟨rfl,w'.drawn - X.drawn,w'.heap.extract X.heap.size w'.heap.size, ?_⟩;have hheap:X.heap++w'.heap.extract X.heap.size w'.heap.size=w'.heap:=by
    refine Array.ext_getElem? λ j=> ?_;by_cases hj:j<X.heap.size
    ·rw [Array.getElem?_append_left hj,hfr.block j hj (λ h=>h)]
    simp_all [Array.getElem?_append_right,Array.getElem?_extract]
   have hdr:X.drawn+(w'.drawn - X.drawn)=w'.drawn:=by have:=hfr.drawn;omega
   cases w' with
   |mk hp tp dr os' out=>
    have e1:=hfr.os;have e2:=hfr.tape;have e3:=hfr.output;grind [grow,World.drewN]
  ·intro j hj;have hjl:j<((C.toList.drop a.off).take (l.length * k)).length:=by
    grind
   have hget:(flatK (λ x:El w (Or M0 (bc φ h)) en Q=>x.vs) k d)[j]! =C[a.off+j]! :=by
    have hjC:a.off+j<C.size:=pi;rw [getElem!_pos _ j hj,getElem!_pos C _ hjC,<- Array.getElem_toList,<- Array.getElem_toList (xs:=C)];grind
   grind [World.cell?,World.frozen?]
 refine hCal.mono ?_;rintro e w' ⟨rfl,d',n',os,hperm,hsort,rfl⟩;obtain ⟨hps, _,hpp⟩:=hperm;obtain ⟨C',k1,k2,k3,k4,k5,k6,k7,k8,k9⟩:=uJ (off:=a.off) hb (λ x:El w (Or M0 (bc φ h)) en Q=>x.vs) k d' pi n' os;generalize sortWorldK (λ x:El w (Or M0 (bc φ h)) en Q=>x.vs) k w a.block a.off n' d' os=X at *;obtain ⟨l',hl'⟩:∃l':List α,l'=d'.toList.map λ x=>x.x:=⟨_,rfl⟩
 have hpl:l'.Perm l:=by
  have h1:(d'.extract 0 d.size).toList=d'.toList:=by rw [<- hps];simp
  grind
 have hpw:l'.Pairwise (λ x y=>¬cf y x<0):=by
  rw [hl',List.pairwise_map,List.pairwise_iff_getElem];intro i j hi hj hij;have hj':j<d'.size:=pi;have:=hsort i j (Nat.zero_le _) hij ge;grind [ltOf]
 have hwin:(C'.toList.drop a.off).take (l'.length * k)=(d'.toList.map λ x=>x.vs).flatten:=by
  grind
 have hrel':aU φ w (Or M0 (bc φ h)) (l'.map en).flatten ((C'.toList.drop a.off).take (l'.length * k)):=by
  rw [hwin,hl'];generalize d'.toList=ds;induction ds with
  |nil=>exact .nil
  |cons z ds ih=>
   exact (z.rel.keep (λ o x ho=>by cases ho) (λ _ _ _=>rfl) (λ k hk=> .inl hk)).append ih
 have hle0:φ.le (aC φ o (some (gn,some (a,bs)))):=Xt;have hol:¬n<=o:=λ hle=>by rw [hH.fresh o hle] at hp;cases hp
 obtain ⟨g1,g2,g3⟩:=hH.set (w':=X) (F':=λ o=>n<=o) (o:=o) (mt:=true) (g:=gn) (sz:=k) (rs:=l'.map en) (A:=some (a,bs))
  (λ _ h=>h) hol k5 hle0 (λ j hj hjl=>k4 j (λ e=>hj (e▸hMb)) hjl)
  (λ o' mt' g' sz' rs' a₁ b₁ hne ho' hp'=>by
   have:=hH.inj _ _ _ _ _ _ _ _ _ _ _ _ _ _ ho ho' (Ne.symm hne) (.inl rfl) hp hp';have hlt:a₁.block<w.heap.size:=by
    obtain ⟨A1,hA1,hc1⟩:=hH.obj _ _ _ _ _ ho';rw [hp'] at hA1;simp only [Option.some.injEq,Prod.mk.injEq,true_and] at hA1;subst hA1;rcases hc1 with ⟨hc1, _⟩|⟨a2,b2,e2, _,hb2⟩
    ·cases hc1
    ·obtain ⟨rfl,rfl⟩:=e2;exact hb2.blk
   grind)
  (λ a₁ b₁ e=>by
   grind)
  (.inr ⟨a,bs,C',T,rfl,hsp,h0,k1,ge,λ r hr=>by
    grind,pi,λ c hm=>by
    rw [List.length_map,hwin] at hm;obtain ⟨r,hr,hm⟩:=List.mem_flatten.1 hm;obtain ⟨z, _,rfl⟩:=List.mem_map.1 hr;exact z.cells c hm,pi⟩)
 refine ⟨_, _, .tup [], _,n,rfl,hK l' hpl hpw,g1, .tup (vs:= []) .nil,⟨hle0,g2,⟨k6,k7,k8,k9,k5,λ j hj hu=>k4 j (λ e=>hu ⟨o,gn,k, _,gn,a,bs,ho,hp,e.symm⟩) hj⟩,λ j hj=> ?_⟩⟩;grind [Or]
end Go.Av
end
section
namespace Go.Proofs
open Go.Shelf
def zqs:Go.Shelf.Ren:=⟨fun|6=>173|15=>222|14=>221|28=>265|29=>266|20=>257|21=>258|22=>259|23=>260|24=>261|25=>262|26=>263|27=>264|46=>291|47=>292|48=>293|49=>294|50=>295|57=>323|n=>n,fun|22=>191|24=>135|25=>270|3=>3|39=>319|0=>0|53=>372|55=>374|4=>4|46=>366|45=>365|50=>233|5=>5|9=>9|66=>395|70=>172|76=>414|77=>310|n=>n,λ n=>n⟩
theorem zgl:Go.Proofs.SlLaysF.n6 Tryz.prog zqs:={
 mixed:=Pi
 f6:=⟨Tryz.f173.name,Wm,Tryz.func173.trans (congrArg some Pi)⟩
 f14:=⟨Tryz.f221.name,Wm,Tryz.func221.trans (congrArg some Pi)⟩
 f15:=Tryz.func222.trans (congrArg some Pi)
 f20:=⟨Tryz.f257.name,Wm,Tryz.func257.trans (congrArg some Pi)⟩
 f21:=⟨Tryz.f258.name,Wm,Tryz.func258.trans (congrArg some Pi)⟩
 f22:=⟨Tryz.f259.name,Wm,Tryz.func259.trans (congrArg some Pi)⟩
 f23:=⟨Tryz.f260.name,Wm,Tryz.func260.trans (congrArg some Pi)⟩
 f24:=⟨Tryz.f261.name,Wm,Tryz.func261.trans (congrArg some Pi)⟩
 f25:=⟨Tryz.f262.name,Wm,Tryz.func262.trans (congrArg some Pi)⟩
 f26:=⟨Tryz.f263.name,Wm,Tryz.func263.trans (congrArg some Pi)⟩
 f27:=⟨Tryz.f264.name,Wm,Tryz.func264.trans (congrArg some Pi)⟩
 f28:=Tryz.func265.trans (congrArg some Pi)
 f29:=Tryz.func266.trans (congrArg some Pi)
 f46:=⟨Tryz.f291.name,Wm,Tryz.func291.trans (congrArg some Pi)⟩
 f47:=Tryz.func292.trans (congrArg some Pi)
 f48:=Tryz.func293.trans (congrArg some Pi)
 f49:=⟨Tryz.f294.name,Wm,Tryz.func294.trans (congrArg some Pi)⟩
 f50:=⟨Tryz.f295.name,Wm,Tryz.func295.trans (congrArg some Pi)⟩
 f57:=⟨Tryz.f323.name,Wm,Tryz.func323.trans (congrArg some Pi)⟩
 t0:=Tryz.underlying0
 a0:=Tryz.isAgg0
 z0:=Tryz.sizeOf0
 v0:=Tryz.zeroValue0
 t3:=Tryz.underlying3
 a3:=Tryz.isAgg3
 z3:=Tryz.sizeOf3
 v3:=Tryz.zeroValue3
 t4:=Tryz.underlying4
 a4:=Tryz.isAgg4
 z4:=Tryz.sizeOf4
 v4:=Tryz.zeroValue4
 t5:=Tryz.underlying5
 a5:=Tryz.isAgg5
 z5:=Tryz.sizeOf5
 v5:=Tryz.zeroValue5
 t9:=Tryz.underlying9
 a9:=Tryz.isAgg9
 z9:=Tryz.sizeOf9
 v9:=Tryz.zeroValue9
 t22:=Tryz.underlying191
 a22:=Tryz.isAgg191
 z22:=Tryz.sizeOf191
 v22:=Tryz.zeroValue191
 a24:=Tryz.isAgg135
 z24:=Tryz.sizeOf135
 t25:=Tryz.underlying270
 a25:=Tryz.isAgg270
 z25:=Tryz.sizeOf270
 v25:=Tryz.zeroValue270
 t39:=Tryz.underlying319
 a39:=Tryz.isAgg319
 z39:=Tryz.sizeOf319
 v39:=Tryz.zeroValue319
 t45:=Tryz.underlying365
 a45:=Tryz.isAgg365
 z45:=Tryz.sizeOf365
 v45:=Tryz.zeroValue365
 t46:=Tryz.underlying366
 a46:=Tryz.isAgg366
 z46:=Tryz.sizeOf366
 v46:=Tryz.zeroValue366
 t50:=Tryz.underlying233
 a50:=Tryz.isAgg233
 z50:=Tryz.sizeOf233
 v50:=Tryz.zeroValue233
 t53:=Tryz.underlying372
 a53:=Tryz.isAgg372
 z53:=Tryz.sizeOf372
 v53:=Tryz.zeroValue372
 t55:=Tryz.underlying374
 a55:=Tryz.isAgg374
 z55:=Tryz.sizeOf374
 v55:=Tryz.zeroValue374
 t66:=Tryz.underlying395
 a66:=Tryz.isAgg395
 z66:=Tryz.sizeOf395
 v66:=Tryz.zeroValue395
 t70:=Tryz.underlying172
 a70:=Tryz.isAgg172
 z70:=Tryz.sizeOf172
 v70:=Tryz.zeroValue172
 t76:=Tryz.underlying414
 a76:=Tryz.isAgg414
 z76:=Tryz.sizeOf414
 v76:=Tryz.zeroValue414
 t77:=Tryz.underlying310
 a77:=Tryz.isAgg310
 z77:=Tryz.sizeOf310
 v77:=Tryz.zeroValue310}
end Go.Proofs
end
section
/- strings.Compare at the kit's level; the order of nodes' texts. -/
namespace Go.Proofs
open Go.Shelf Go.RowKit
theorem QM (a b:ByteArray) (w:World):Calls Tryz.prog 223 #[.string a, .string b] w λ e w'=>e= .returned (.int .i64 (Lib.compareBytes a.data.toList b.data.toList))∧w'=w:=by
 go_enter Tryz.func223,Tryz.ntmps223
 go_wp2
 rw [run_callFunc_extern Tryz.func267 Pi Pi Pi (e:=Extern.BytealgCompare.compare) Pi,Lib.run_compareString];simp only [Result.andThen];go_wp2
 go_ret
 exact ⟨rfl,rfl⟩
end Go.Proofs
namespace Go.Av
open Go Go.Proofs af
theorem Gu (a b:ByteArray):aq Tryz.prog 223 [.v (.string a), .v (.string b)] (.int (Lib.compareBytes a.data.toList b.data.toList)):=by
 refine ⟨qe Tryz.func223 rfl rfl,λ M w vs hM hg hr=> ?_⟩;cases hr with
 |cons h1 hr=>
 cases hr with
 |cons h2 hr=>
 cases hr;cases h1;cases h2;refine (QM a b w).mono ?_;rintro e w' ⟨rfl,rfl⟩;exact ⟨_,rfl, .v _,Fr.refl _ _⟩
theorem We (a b:ByteArray):aq Tryz.prog 175 [.v (.string a), .v (.string b)] (.int (Lib.compareBytes a.data.toList b.data.toList)):=by
 refine pF Tryz.func175 ?_;refine J0 ?_;refine aP (Gu a b) ?_;exact K0
def U2 (x y:af):Int:=Lib.compareBytes (mI x) (mI y)
theorem QC (x y:af):aq Tryz.prog 174 [gI x,gI y] (.int (U2 x y)):=by
 have hC:aq Tryz.prog 175 [.v (.string (iA x)), .v (.string (iA y))] (.int (U2 x y)):=We (iA x) (iA y);rw [cp x,cp y];refine pF Tryz.func174 ?_;refine J0 ?_;refine dP hC ?_;exact K0
theorem Tj:∀ (s t:List Nat),(∀c ∈ s,c<256)->(∀c ∈ t,c<256)->(Lib.compareBytes (s.map UInt8.ofNat) (t.map UInt8.ofNat)<0↔AU s t=true)
 | [], [], _, _=>Yn
 | [], _:: _, _, _=>Yn
 | _:: _, [], _, _=>Yn
 |a::s,b::t,hs,ht=>by
  have ih:=Tj s t (λ c hc=>hs c Wy) (λ c hc=>ht c Wy);have ha:=hs a gt;have hb:=ht b gt;have e1:(UInt8.ofNat a<UInt8.ofNat b)↔a<b:=Xp;have e2:(UInt8.ofNat b<UInt8.ofNat a)↔b<a:=Xp;simp only [List.map_cons,Lib.compareBytes,AU,e1,e2,Bool.or_eq_true,decide_eq_true_eq,Bool.and_eq_true];by_cases h1:a<b
  ·simp [h1]
  ·by_cases h2:b<a
   ·constructor
    ·omega
    ·rintro (h|⟨h, _⟩)<;>omega
   ·rw [if_neg h1,if_neg h2,ih];have:a=b:=ge
    simp [this]
theorem Tk (x y:af):U2 x y<0↔AU x.text y.text=true:=Tj _ _ (text_lt x) (text_lt y)
theorem zgX:Go.Sort.SWO (λ a b:af=>decide (U2 a b<0)):=by
 refine ⟨λ x=> ?_,λ x y z h1 h2=> ?_,λ x y z h1 h2=> ?_⟩;all_goals grind [Tk,ql,zn,zm]
theorem zcT {l l':List af} (hn:l.Nodup) (hp:l'.Perm l) (hs:l'.Pairwise λ a b=>¬U2 b a<0):l'=cY l:=by
 refine Cb ?_ (qz hn) λ z=>by grind [cx]
 have hn':l'.Nodup:=hp.nodup_iff.2 hn;refine (List.Pairwise.and hs hn').imp λ {a b} h=> ?_;obtain ⟨h1,h2⟩:=h;rw [Tk] at h1;grind [zm,text_inj]
end Go.Av
end
section
open Go Go.Proofs
namespace Go.Av
open af
def MA:cB:= .rows true 0 1 [[.ref 0 0 3 0 0]]
def Qm (fid:FuncId) (first caps:List AV) (x y:af) (r:Bool) (s s':df):Prop:=∀ (h:au) (n:Nat) (K:cI),xx s 0 1 2 3 h->h 4=some MA->5<=n->K (.bool r) (ku s' 1 2 3 h) n->ap Tryz.prog fid (first++ [gI x,gI y]++caps) h n K
variable {caps first:List AV} {fid:FuncId}
theorem Qm.go {x y:af}{r:Bool}{s s':df} (hw:Qm fid first caps x y r s s'){X Y:AV} (ex:gI x=X) (ey:gI y=Y){h:au}{n:Nat}{K:cI} (hK:K (.bool r) (ku s' 1 2 3 h) n)
  (h0:h 0=some (.rows true 0 3 [[.mp 1, .mp 2, .mp 3]]):=by simp [aC]) (h1:h 1=some (nD s):=by simp [aC]) (h2:h 2=some (nG s):=by simp [aC]) (h3:h 3=some (nn s):=by simp [aC]) (h4:h 4=some MA:=by simp [aC,MA]) (hn:5<=n:=by omega):
  ap Tryz.prog fid (first++ [X,Y]++caps) h n K:=by subst ex ey;exact hw h n K ⟨h0,h1,h2,h3,Wm⟩ h4 hn hK
theorem zc6 {x y:af}{s s':df} (h:lH x y s s'):Qm 69 [.ref 0 0 3 0 0] [] x y (leq x y) s s':=λ h' n K hh h4 hn hK=>
 lI h hh ⟨ge,ge,ge,ge⟩ no (.v _) hK
theorem zav {x y:af}{s s':df} (h:lH y x s s'):Qm 121 [] [.ref 4 0 1 0 0] x y (leq y x) s s':=λ h' n K hh h4 hn hK=>by
 rw [MA] at h4;show ap _ _ [gI x,gI y, .ref 4 0 1 0 0] h' n K;unfold lH at h;refine aF Tryz.func121 ?_;refine J1 h4 ?_;refine lI h hh ⟨ge,ge,ge,ge⟩ no (.v _) ?_;refine J0 ?_;exact hK
def zaB (fid:FuncId) (first caps:List AV) (le:af->af->Bool) (l:List af) (i k:Nat) (s s':df):Prop:=
 if i=k then s'=s else ∃s1,Qm fid first caps (ac l i) (ac l k) (le (ac l i) (ac l k)) s s1∧(if le (ac l i) (ac l k)=true∧¬k<i then Qm fid first caps (ac l k) (ac l i) (le (ac l k) (ac l i)) s1 s' else s'=s1)
def BstO (fid:FuncId) (first caps:List AV) (le:af->af->Bool) (l:List af) (i:Nat) (s s':df):Prop:=∃V:Nat->df,V 0=s∧(∀k,k<l.length->zaB fid first caps le l i k (V k) (V (k+1)))∧s'=V l.length
theorem zea (p:Nat->Bool) (n:Nat):∃kp:Nat->Bool,kp 0=true∧(∀k,kp (k+1)=(kp k && !p k))∧kp n= !(List.range n).any p:=
 ⟨λ k=> !(List.range k).any p,rfl,λ k=>pi,rfl⟩
theorem S8 {le:af->af->Bool} (hpre:K9 le) (l:List af) (hl:l.length<=68719476736) (hb1:∀c ∈ first,aN 5 c) (hb2:∀c ∈ caps,aN 5 c)
  (hW:∀x ∈ l,∀y ∈ l,∀s,∃s',Qm fid first caps x y (le x y) s s') (s:df):
  ∃s',dD Tryz.prog 122 [.lst 1 (bB l), .fn (.func fid) first caps] (sY s++ [(4,MA)]) 5 (.lst 1 (bB (cY (cJ le l)))) (sY s'++ [(4,MA)]) 5:=by
 have hI:∀i,i<l.length->∀k,k<l.length->∀s,∃s',zaB fid first caps le l i k s s':=λ i hi k hk s=>by
  unfold zaB;by_cases e:i=k
  ·simp_all
  ·obtain ⟨s1,h1⟩:=hW _ (am hi) _ (am hk) s;by_cases c:le (ac l i) (ac l k)=true∧¬k<i
   ·obtain ⟨s2,h2⟩:=hW _ (am hk) _ (am hi) s1;exact ⟨s2,pi⟩
   simp_all [if_neg,ac]
 obtain ⟨U,U0,hU⟩:=Fj (BstO fid first caps le l) l.length (λ i hi s=>by
  obtain ⟨V,V0,hV⟩:=Fj (zaB fid first caps le l i) l.length (λ k hk s=>hI i hi k hk s) s;exact ⟨_,V,V0,hV,rfl⟩) s
 refine ⟨U l.length, ?_⟩;obtain ⟨Ls,hLs⟩:∃Ls:Nat->List af,∀i,Ls i=((List.range i).filter (iO le l)).map (ac l):=⟨_,λ _=>rfl⟩
 have Ls0:Ls 0= []:=pi;have Lsn:Ls l.length=cJ le l:=by rw [hLs];rfl
 have Lsk:∀i,iO le l i=true->Ls (i+1)=Ls i++ [ac l i]:=λ i h=>YB;have Lsd:∀i,iO le l i=false->Ls (i+1)=Ls i:=λ i h=>YB;have Lsl:∀i,(Ls i).length<=i:=λ i=>by
  grind
 have hnd:=(qT (l:=l) hpre).2;rw [<- Lsn] at hnd ⊢;clear hLs;have hB1:(∀c ∈ first,aN 6 c)=True:=eq_true λ c hc=>(hb1 c hc).mono ge;have hB2:(∀c ∈ caps,aN 6 c)=True:=eq_true λ c hc=>(hb2 c hc).mono ge;unfold dD;rw [<- U0];clear U0;simp only [sY,MA,List.cons_append,List.nil_append];refine aF Tryz.func122 ?_;refine J0 ?_;refine zg3 (zg5 (α:=Nat) (λ i=>⟨[(0, .lst 1 (bB l)),(1, .fn (.func fid) first caps),(5, .sl 5 (Ls i).length 1 0 (Ls i).length),(11, .lst 1 (bB l)),(12, .int l.length),(13, .int i)],
   [(0, .rows true 0 3 [[.mp 1, .mp 2, .mp 3]]),(1,nD (U i)),(2,nG (U i)),(3,nn (U i)),(4, .rows true 0 1 [[.ref 0 0 3 0 0]]),(5, .rows true (Ls i).length 1 (bB (Ls i)))],6⟩) (λ d i=>i+d=l.length) ?_ l.length 0 ?_) ?_ ?_
 ·intro d i hi hrec;have hli:=Lsl i;refine J0 ?_;refine zg4 (λ hc=> ?_) (λ hc=> ?_)<;>simp at hc
  ·have hi':i<l.length:=by omega
   obtain ⟨V,V0,hV,hVU⟩:=hU i hi';obtain ⟨kp,kp0,kps,kpn⟩:=zea (eZ le l i) l.length;have hei:=cp (ac l i);repeat first|refine wV λ _=>?_|simp [go_sem,jb hi',hi',hei]
   refine zg3 (zg5 (α:=Nat) (λ k=>⟨[(0, .lst 1 (bB l)),(1, .fn (.func fid) first caps),(5, .sl 5 (Ls i).length 1 0 (Ls i).length),(6, .int i),(7,gI (ac l i)),(8, .bool (kp k)),(11, .lst 1 (bB l)),(12, .int l.length),(13, .int i),(18, .lst 1 (bB l)),(19, .int l.length),(20, .int k)],
     [(0, .rows true 0 3 [[.mp 1, .mp 2, .mp 3]]),(1,nD (V k)),(2,nG (V k)),(3,nn (V k)),(4, .rows true 0 1 [[.ref 0 0 3 0 0]]),(5, .rows true (Ls i).length 1 (bB (Ls i)))],6⟩) (λ d k=>k+d=l.length) ?_ l.length 0 ?_) ?_ ?_
   ·intro d2 k hk hrec2;refine J0 ?_;refine zg4 (λ hc2=> ?_) (λ hc2=> ?_)<;>simp at hc2
    ·have hk':k<l.length:=by omega
     have hVk:=hV k hk';have hek:=cp (ac l k);have hrs:=kps k;unfold zaB at hVk;by_cases hik:i=k
     ·subst hik;rw [if_pos rfl] at hVk;have hb:eZ le l i i=false:=by simp [eZ]
      rw [hb,Bool.not_false,Bool.and_true] at hrs;repeat first|refine wV λ _=>?_|simp [go_sem,jb hk',hk',hei,hek]
      refine lC.skip .top ?_;refine J0 ?_;refine lC.skip .top ?_;refine J0 ?_;refine zg3 (hrec2 (d2 - 1) ge (i+1) ge) ?_ gt;simp [go_sem,aj,hei,hrs,hVk,hB1,hB2,nD,nG,nn]
     ·rw [if_neg hik] at hVk;obtain ⟨s1,hw1,hw2⟩:=hVk;have hik2:¬(i:Int)=k:=ge;repeat first|refine wV λ _=>?_|simp [go_sem,jb hk',hk',hik2,hei,hek]
      refine lC.go ?_;refine hw1.go hei hek ?_;by_cases h1:le (ac l i) (ac l k)=true
      ·by_cases h2:k<i
       ·have h2':(k:Int)<i:=by omega
        rw [if_neg (by simp [h2])] at hw2;have hb:eZ le l i k=true:=oa.2 ⟨hik,h1, .inl h2⟩;rw [hb,Bool.not_true,Bool.and_false] at hrs;rw [h1,<- hw2];refine J2 h2' h2 ?_;refine lC.skip .top ?_;refine J2 h2' h2 ?_;refine zg3 (hrec2 (d2 - 1) ge (k+1) ge) ?_ gt;simp [go_sem,aj,hei,hrs,hB1,hB2,nD,nG,nn]
       ·have h2':¬(k:Int)<i:=by omega
        rw [if_pos ⟨h1,h2⟩] at hw2;have hb:eZ le l i k= !le (ac l k) (ac l i):=by simp [eZ,hik,h1,h2]
        rw [hb] at hrs;rw [h1];refine J2 h2' h2 ?_;refine lC.go ?_;refine hw2.go hek hei ?_;generalize le (ac l k) (ac l i)=q at hrs;cases q with
        |false=>
         rw [Bool.not_false,Bool.not_true,Bool.and_false] at hrs;refine J2 h2' h2 ?_;refine zg3 (hrec2 (d2 - 1) ge (k+1) ge) ?_ gt;simp [go_sem,aj,hei,hrs,hB1,hB2,nD,nG,nn]
        |true=>
         rw [Bool.not_true,Bool.not_false,Bool.and_true] at hrs;refine J2 h2' h2 ?_;refine zg3 (hrec2 (d2 - 1) ge (k+1) ge) ?_ gt;simp [go_sem,aj,hei,hrs,hB1,hB2,nD,nG,nn]
      ·rw [if_neg (by simp [h1])] at hw2;rw [Bool.not_eq_true] at h1;have hb:eZ le l i k=false:=by simp [eZ,h1]
       rw [hb,Bool.not_false,Bool.and_true] at hrs;rw [h1,<- hw2];refine J0 ?_;refine lC.skip .top ?_;refine J0 ?_;refine zg3 (hrec2 (d2 - 1) ge (k+1) ge) ?_ gt;simp [go_sem,aj,hei,hrs,hB1,hB2,nD,nG,nn]
    ·obtain rfl:k=l.length:=by omega
     rw [kpn];have hkb:(!(List.range l.length).any (eZ le l i))=iO le l i:=rfl;rw [hkb];by_cases hkp:iO le l i=true
     ·have hL:=Lsk i hkp;have hlen:(bB (Ls i)).length=(Ls i).length:=qd _;have hsn:bB (Ls i++ [ac l i])=bB (Ls i)++ [[gI (ac l i)]]:=by rw [<- wz];rfl
      rw [hkp];refine J2 hei hlen ?_;refine zg3 (hrec (d - 1) ge (i+1) ge) ?_ gt;simp [go_sem,aj,hei,hL,hsn,hB1,hB2,hVU,nD,nG,nn]
     ·rw [Bool.not_eq_true] at hkp;have hL:=Lsd i hkp;rw [hkp];refine J0 ?_;refine zg3 (hrec (d - 1) ge (i+1) ge) ?_ gt;simp [go_sem,aj,hL,hB1,hB2,hVU,nD,nG,nn]
   ·omega
   ·simp [go_sem,aj,hei,kp0,V0,hB1,hB2,nD,nG,nn]
   ·simp
  ·obtain rfl:i=l.length:=by omega
   refine J0 ?_;have hmap:∀l:List af,bB l=l.map λ x=> [gI x]:=nt;refine zhx zgl gI (gv 0) (λ _=>True) U2 zgX _ (λ x y _ _=>QC x y) (qe Tryz.func174 rfl rfl) (Ls l.length) (λ _ _=>trivial) ge (by simp [aC,hmap]) (λ l' hp hs=> ?_);have hT:=zcT hnd hp hs;have hl':l'.length=(Ls l.length).length:=hp.length_eq;rw [<- hmap,hT];have hTl:(cY (Ls l.length)).length=(Ls l.length).length:=pi;refine J0 ?_;simp [go_sem,aj,nD,nG,nn,hTl];grind [aI,aC]
 ·omega
 ·simp [go_sem,aj,Ls0,hB1,hB2,nD,nG,nn]
 ·simp
end Go.Av
end
section
open Go Go.Proofs
namespace Go.Av
open af
variable {args:List AV} {f:FuncId} {P:Program}
theorem zbs {s s':df}{R:AV}{h:au}{n:Nat}{K:cI} (hp:dD P f args (sY s++ [(4,MA)]) 5 R (sY s'++ [(4,MA)]) 5) (hr:∀n,Fm (kF [0,1,2,3,4] n) args args) (ha:∀x ∈ args,aN 5 x) (hR:aN 0 R)
  (hh:xx s 0 1 2 3 h) (h4:h 4=some MA) (hn:5<=n) (hk:K R (ku s' 1 2 3 h) n):ap P f args h n K:=by
 have r0:kF [0,1,2,3,4] n 0=0:=rfl;have r1:kF [0,1,2,3,4] n 1=1:=rfl;have r2:kF [0,1,2,3,4] n 2=2:=rfl;have r3:kF [0,1,2,3,4] n 3=3:=rfl;have r4:kF [0,1,2,3,4] n 4=4:=rfl;have cl1:∀l:List af,∀r ∈ l.map yx,∀c ∈ r,aN 0 c:=λ l=>of_eq_true (pV 0 l);have cl2:∀l:List (af×af),∀r ∈ l.map v8,∀c ∈ r,aN 0 c:=λ l=>of_eq_true (sw 0 l);have cl3:∀l:List af,∀r ∈ l.map vM,∀c ∈ r,aN 0 c:=λ l=>of_eq_true (sv 0 l);have x0:PY (kF [0,1,2,3,4] n) (.rows true 0 3 [[.mp 1, .mp 2, .mp 3]]) (.rows true 0 3 [[.mp 1, .mp 2, .mp 3]]):= .rows (.cons (.cons (.mp r1.symm) (.cons (.mp r2.symm) (.cons (.mp r3.symm) .nil))) .nil);have x4:PY (kF [0,1,2,3,4] n) MA MA:= .rows (.cons (.cons (.ref r0.symm) .nil) .nil);refine zhf (args':=args) (R:=R) (HH:= [(0, .rows true 0 3 [[.mp 1, .mp 2, .mp 3]]),(1,nD s'),(2,nG s'),(3,nn s'),(4,MA)]) [0,1,2,3,4] h hp Wm pi rfl (Nat.le_refl _) (.refl _) ?_ ?_ (.refl _ _ _ _) ?_ (hr n) ha (.same hR) ?_ ?_
 ·intro j hj;have:j=0∨j=1∨j=2∨j=3∨j=4:=ge
  rcases this with rfl|rfl|rfl|rfl|rfl
  ·exact ⟨_, _,rfl,by exact hh.ho,x0⟩
  ·exact ⟨_, _,rfl,by exact hh.ha, .rows (.same (cl1 _))⟩
  ·exact ⟨_, _,rfl,by exact hh.hb, .rows (.same (cl2 _))⟩
  ·exact ⟨_, _,rfl,by exact hh.hc, .rows (.same (cl3 _))⟩
  ·exact ⟨_, _,rfl,pi,x4⟩
 ·intro p hp;rcases List.mem_append.1 hp with hp|hp
  ·exact S6 s 5 ge p hp
  ·simp only [List.mem_singleton] at hp;subst hp;refine ⟨gt,λ r hr c hc=> ?_⟩;simp only [List.mem_singleton] at hr;subst hr;simp only [List.mem_singleton] at hc;subst hc;exact .ref ge
 ·intro x hx;exact (ha x hx).mono hn
 ·exact .cons r0.symm x0 (.cons r1.symm (.rows (.same (cl1 _))) (.cons r2.symm (.rows (.same (cl2 _))) (.cons r3.symm (.rows (.same (cl3 _))) (.cons r4.symm x4 .nil))))
 ·have e:dL [(0, .rows true 0 3 [[.mp 1, .mp 2, .mp 3]]),(1,nD s'),(2,nG s'),(3,nn s'),(4,MA)] (iZ [0,1,2,3,4] h)=ku s' 1 2 3 h:=by
   funext x;by_cases x0:x=0
   ·subst x0;simp [dL,iZ,aC,ku,hh.ho]
   by_cases x1:x=1
   ·simp_all [dL,aC,ku]
   by_cases x2:x=2
   ·simp_all [dL,aC,ku]
   by_cases x3:x=3;all_goals simp_all [dL,iZ,aC,ku]
  grind
theorem Ju {n:Nat}{ops:List Oper}{Q:c7}{m i:Nat}{rest:List Oper}{e:dg}{h:au}{acc:List jf}{dst:Option Tmp}{s s':df}{R:AV} (hp:dD P f args (sY s++ [(4,MA)]) 5 R (sY s'++ [(4,MA)]) 5)
  (hr:∀n,Fm (kF [0,1,2,3,4] n) args args) (ha:∀x ∈ args,aN 5 x) (hR:aN 0 R) (hk:tY P n ops Q m (i+1) rest (put e dst R) (ku s' 1 2 3 h) (acc++ [([0,1,2,3,4], [1,2,3])]))
  (h0:h 0=some (.rows true 0 3 [[.mp 1, .mp 2, .mp 3]]):=by simp [aC]) (h1:h 1=some (nD s):=by simp [aC,nD]) (h2:h 2=some (nG s):=by simp [aC,nG]) (h3:h 3=some (nn s):=by simp [aC,nn]) (h4:h 4=some MA:=by simp [aC,MA]):
  cX P n ops Q m i rest dst (.fn (.func f) [] []) args e h acc:=by
 have hh:xx s 0 1 2 3 h:=⟨h0,h1,h2,h3,Wm⟩
 have hw:aB [(1,some (nD s')),(2,some (nG s')),(3,some (nn s'))] h=ku s' 1 2 3 h:=rfl;try ((with_reducible refine wZ ?_);(try simp [go_sem]))
 refine zho [0,1,2,3,4] [(1,some (nD s')),(2,some (nG s')),(3,some (nn s'))] R (λ h₁ n₁ hx hn K hK=> ?_) ?_ ?_ hR.toS (by rw [hw];exact hk)
 ·have hh1:xx s 0 1 2 3 h₁:=⟨pi,pi,pi,pi,hh.d⟩
  simp only [List.nil_append,List.append_nil];exact zbs hp hr ha hR hh1 WW (hn 4 gt) hK
 ·grind
 ·intro p hp;simp only [List.mem_cons,List.not_mem_nil,or_false] at hp;rcases hp with rfl|rfl|rfl
  ·exact ⟨gt, _, _, _,rfl,of_eq_true (pV 0 _)⟩
  ·exact ⟨gt, _, _, _,rfl,of_eq_true (sw 0 _)⟩
  ·exact ⟨gt, _, _, _,rfl,of_eq_true (sv 0 _)⟩
inductive zfr:List af->List af->df->List af->List af->df->Prop
 |stop {l r:List af} {s s1 s2:df} (h1:mQ (.mk l r) l=none) (h2:nj (.mk l r) r=none) (c1:MC l r s s1) (c2:Un l r s1 s2):zfr l r s l r s2
 |left {l r l' lf rf:List af} {s s1 sf:df} (h:mQ (.mk l r) l=some l') (c:MC l r s s1) (hs:aD l'<aD l) (t:zfr l' r s1 lf rf sf):zfr l r s lf rf sf
 |right {l r r' lf rf:List af} {s s1 s2 sf:df} (h1:mQ (.mk l r) l=none) (h2:nj (.mk l r) r=some r') (c1:MC l r s s1) (c2:Un l r s1 s2) (hs:aD r'<aD r) (t:zfr l r' s2 lf rf sf):zfr l r s lf rf sf
theorem zg1:∀ (n:Nat) (l r:List af) (s:df),aD l+aD r<n->n<=4294967295->∃sf,zfr l r s (kQ n l r).1 (kQ n l r).2 sf:=by
 intro n;induction n with
 |zero=>omega
 |succ n ih=>
  intro l r s h hn;obtain ⟨s1,c1⟩:=UW l r (by rw [size];omega) s;rw [kQ];cases h1:mQ (.mk l r) l with
  |some l'=>
   obtain ⟨_, _, _, _, _, _, _, _,hs⟩:=mR h1;obtain ⟨sf,hf⟩:=ih l' r s1 ge ge;exact ⟨sf, .left h1 c1 hs hf⟩
  |none=>
   obtain ⟨s2,c2⟩:=zeI l r (by rw [size];omega) s1;cases h2:nj (.mk l r) r with
   |some r'=>
    obtain ⟨_, _, _, _, _, _, _, _,hs⟩:=oc h2;obtain ⟨sf,hf⟩:=ih l r' s2 ge ge;exact ⟨sf, .right h1 h2 c1 c2 hs hf⟩
   |none=>exact ⟨s2, .stop h1 h2 c1 c2⟩
def Lf (x:af) (s s':df):Prop:=dD Tryz.prog 70 [.ref 0 0 3 0 0,gI x] (sY s) 4 (gI x.canon) (sY s') 4
theorem V6 (x:af) (s:df) (h:x ∈ s.cs):Lf x s s:=by
 obtain ⟨ns,qs,cs⟩:=s;have e:=(Q1 x cs).1 h;simp only [It] at e;have hz:=Im;have hks:=zcd;have hc:=cp x.canon;unfold Lf dD;rw [cp x];refine aF Tryz.func70 ?_;repeat first|refine wV λ _=>?_|simp [go_sem,sY,hz,hks,e,hc]
 simp [go_sem,aj,hc]
theorem xQ (n:Nat) (l:List af) (o:Option (List af)):aN n (Ff l o):=by
 cases o<;>(refine .tup λ c hc=> ?_;simp only [List.mem_cons,List.not_mem_nil,or_false] at hc;rcases hc with rfl|rfl;exact .lst (lu n _);exact .v _)
theorem zge:∀ (n:Nat) (x:af),x.size<=n->n<=2147483647->∀s,∃s',Lf x s s':=by
 intro n;induction n with
 |zero=>grind [bZ]
 |succ n ih=>
  intro x hf hn s;by_cases hk:x ∈ s.cs
  ·exact ⟨s,V6 x s hk⟩
  have e2:=nA x;have e3:=nB x;obtain ⟨S,S0,hS⟩:=Fj (λ i=>Lf (ac x.L i)) x.L.length (λ i hi=>ih _ WC ge) s;obtain ⟨T,T0,hT⟩:=Fj (λ i=>Lf (ac x.R i)) x.R.length (λ i hi=>ih _ WD ge) (S x.L.length);have z1:aD (x.L.map canon)<=aD x.L:=kR λ z _=>iK _ z (Nat.le_refl _);have z2:aD (x.R.map canon)<=aD x.R:=kR λ z _=>iK _ z (Nat.le_refl _);have z3:x.size=1+aD x.L+aD x.R:=by cases x;rfl
  obtain ⟨sf,hwh⟩:=zg1 (aD (x.L.map canon)+aD (x.R.map canon)+1) (x.L.map canon) (x.R.map canon) (T x.R.length) ge ge;have hcq:=Gs x;have z4:=zu (aD (x.L.map canon)+aD (x.R.map canon)+1) (x.L.map canon) (x.R.map canon);rw [CG] at hcq;generalize kQ (aD (x.L.map canon)+aD (x.R.map canon)+1) (x.L.map canon) (x.R.map canon)=lr at *;obtain ⟨lf,rf⟩:=lr;simp only at hwh hcq z4;have z5:=qk lf;have z6:=qk rf;obtain ⟨s3,h3⟩:=S8 (fid:=69) (first:= [.ref 0 0 3 0 0]) (caps:= []) (le:=leq) tJ lf ge no gt (λ a ha b hb s=>by
   obtain ⟨s',h⟩:=wJ _ a b (Nat.le_refl _) (by have:=ki ha;have:=ki hb;omega) s;exact ⟨s',zc6 h⟩) sf
  obtain ⟨s4,h4⟩:=S8 (fid:=121) (first:= []) (caps:= [.ref 4 0 1 0 0]) (le:=λ a b=>leq b a) tH rf ge gt no (λ a ha b hb s=>by
   obtain ⟨s',h⟩:=wJ _ b a (Nat.le_refl _) (by have:=ki ha;have:=ki hb;omega) s;exact ⟨s',zav h⟩) s3
  have z7:x.canon.size<=x.size:=iK _ x (Nat.le_refl _);have z8:=CP x.canon;have z9:=nA x.canon;have z10:=nB x.canon;have cL:x.canon.L=cY (cJ leq lf):=by rw [hcq];rfl
  have cR:x.canon.R=cY (cJ (λ a b=>leq b a) rf):=by rw [hcq];rfl
  rw [cL] at z9;rw [cR] at z10;have hM:=vU s4 (cY (cJ leq lf)) (cY (cJ (λ a b=>leq b a) rf)) ge ge pi;rw [<- hcq] at hM;have eL:∀i,i<x.L.length->bB ((x.L.map canon).take (i+1))=bB ((x.L.map canon).take i)++ [[gI (ac x.L i).canon]]:=λ i hi=>by
   grind [AF,ac]
  have eR:∀i,i<x.R.length->bB ((x.R.map canon).take (i+1))=bB ((x.R.map canon).take i)++ [[gI (ac x.R i).canon]]:=λ i hi=>by
   grind [AF,ac]
  obtain ⟨AL,hAL⟩:∃AL:Nat->List af,∀i,AL i=(x.L.map canon).take i:=⟨_,λ _=>rfl⟩
  obtain ⟨AR,hAR⟩:∃AR:Nat->List af,∀i,AR i=(x.R.map canon).take i:=⟨_,λ _=>rfl⟩
  simp only [<- hAL] at eL;simp only [<- hAR] at eR;have lL:∀i,i<=x.L.length->(AL i).length=i:=λ i hi=>pi;have lR:∀i,i<=x.R.length->(AR i).length=i:=λ i hi=>pi;have aL0:AL 0= []:=pi;have aR0:AR 0= []:=pi;have aL:AL x.L.length=x.L.map canon:=pi;have aR:AR x.R.length=x.R.map canon:=pi;rw [<- aL,<- aR] at hwh;clear hAL hAR aL aR;have f0:=((Q1 x s.cs).2 hk).1;have hp:=zgS x s4.cs;simp only [It] at f0 hp;have hz:=Im;have hks:=zcd;have hex:=cp x;have hec:=cp x.canon;rw [hec] at hp;refine ⟨⟨xD s4.ns x.canon,s4.qs,xD s4.cs x⟩, ?_⟩;unfold Lf dD;rw [hex];refine aF Tryz.func70 ?_;repeat first|refine wV λ _=>?_|simp [go_sem,sY,hz,hks,f0]
  refine zg3 (zg5 (α:=Nat) (λ i=>⟨[(1,gI x),(2, .ref 4 0 1 0 0),(7, .sl 19 i 1 0 i),(8,AV.nils),(33, .lst 1 (bB x.L)),(34, .int x.L.length),(35, .int i)],
    [(0, .rows true 0 3 [[.mp 1, .mp 2, .mp 3]]),(1,nD (S i)),(2,nG (S i)),(3,nn (S i)),(4, .rows true 0 1 [[.ref 0 0 3 0 0]]),(19, .rows true i 1 (bB (AL i)))],20⟩) (λ d i=>i+d=x.L.length) ?_ x.L.length 0 ?_) ?_ ?_
  rotate_left
  ·omega
  ·simp [go_sem,aj,hex,aL0,S0,nD,nG,nn]
  ·simp
  intro d i hi hrec;have hlen:(bB (AL i)).length=i:=by grind [qd]
  refine J2 hlen hex ?_;refine zg4 (λ hc=> ?_) (λ hc=> ?_)<;>simp at hc
  ·have hi':i<x.L.length:=by omega
   have hC:=hS i hi';have hei:=cp (ac x.L i);have hei2:=cp (ac x.L i).canon;unfold Lf at hC;rw [hei] at hC;repeat first|refine wV λ _=>?_|simp [go_sem,hlen,jb hi',hi',hei]
   refine ni hC no (gv 0 _) ?_;refine J2 hlen hei2 ?_;refine zg3 (hrec (d - 1) ge (i+1) ge) ?_ gt;simp [go_sem,aj,eL i hi',hex,hei2,nD,nG,nn]
  ·obtain rfl:i=x.L.length:=by omega
   have hlL:=lL _ (Nat.le_refl _);generalize AL x.L.length=LF at *;refine J2 hlen hex ?_;refine zg3 (zg5 (α:=Nat) (λ i=>⟨[(1,gI x),(2, .ref 4 0 1 0 0),(7, .sl 19 x.L.length 1 0 x.L.length),(8, .sl 20 i 1 0 i),(49, .lst 1 (bB x.R)),(50, .int x.R.length),(51, .int i)],
     [(0, .rows true 0 3 [[.mp 1, .mp 2, .mp 3]]),(1,nD (T i)),(2,nG (T i)),(3,nn (T i)),(4, .rows true 0 1 [[.ref 0 0 3 0 0]]),(19, .rows true x.L.length 1 (bB LF)),(20, .rows true i 1 (bB (AR i)))],21⟩) (λ d i=>i+d=x.R.length) ?_ x.R.length 0 ?_) ?_ ?_
   rotate_left
   ·omega
   ·simp [go_sem,aj,hex,aR0,T0,nD,nG,nn]
   ·simp
   intro d i hi hrec;have hlen2:(bB (AR i)).length=i:=by grind [qd]
   refine J2 hlen2 hex ?_;refine zg4 (λ hc2=> ?_) (λ hc2=> ?_)<;>simp at hc2
   ·have hi':i<x.R.length:=by omega
    have hC:=hT i hi';have hei:=cp (ac x.R i);have hei2:=cp (ac x.R i).canon;unfold Lf at hC;rw [hei] at hC;repeat first|refine wV λ _=>?_|simp [go_sem,hlen2,jb hi',hi',hei]
    refine ni hC no (gv 0 _) ?_;refine J2 hlen2 hei2 ?_;refine zg3 (hrec (d - 1) ge (i+1) ge) ?_ gt;simp [go_sem,aj,eR i hi',hex,hei2,nD,nG,nn]
   ·obtain rfl:i=x.R.length:=by omega
    have hlR:=lR _ (Nat.le_refl _);generalize AR x.R.length=RF at *;refine J2 hlen2 hex ?_;refine zg3 (zg5 (α:=List af×List af×df×Bool) (λ a=>⟨[(1,gI x),(2, .ref 4 0 1 0 0),(7, .lst 1 (bB a.1)),(8, .lst 1 (bB a.2.1)),(13, .bool a.2.2.2)],
      [(0, .rows true 0 3 [[.mp 1, .mp 2, .mp 3]]),(1,nD a.2.2.1),(2,nG a.2.2.1),(3,nn a.2.2.1),(4, .rows true 0 1 [[.ref 0 0 3 0 0]])],5⟩)
     (λ d a=>(a.2.2.2=true->zfr a.1 a.2.1 a.2.2.1 lf rf sf∧d=aD a.1+aD a.2.1+1)∧(a.2.2.2=false->a.1=lf∧a.2.1=rf∧a.2.2.1=sf)) ?_ (aD LF+aD RF+1) (LF,RF,T x.R.length,true) ?_) ?_ ?_
    rotate_left
    ·grind
    ·simp [go_sem,aj,hex,nD,nG,nn];refine ⟨aI rfl ge Ws (List.take_of_length_le pi),aI rfl ge Ws (List.take_of_length_le pi)⟩
    ·simp
    rintro d ⟨l,r,s',more⟩ ⟨i1,i2⟩ hrec;simp only at i1 i2;cases more with
    |false=>
     obtain ⟨rfl,rfl,rfl⟩:=i2 rfl;have hr1:∀ (l:List af) n,Fm (kF [0,1,2,3,4] n) [.lst 1 (bB l), .fn (.func 69) [.ref 0 0 3 0 0] []] [.lst 1 (bB l), .fn (.func 69) [.ref 0 0 3 0 0] []]:=λ l n=> .cons (.same (.lst (lu 0 l))) (.cons (.fn (.cons (.ref rfl) .nil) .nil) .nil);have hr2:∀ (l:List af) n,Fm (kF [0,1,2,3,4] n) [.lst 1 (bB l), .fn (.func 121) [] [.ref 4 0 1 0 0]] [.lst 1 (bB l), .fn (.func 121) [] [.ref 4 0 1 0 0]]:=λ l n=> .cons (.same (.lst (lu 0 l))) (.cons (.fn .nil (.cons (.ref rfl) .nil)) .nil);refine J1 hex ?_;refine Ju h3 (hr1 _) no (.lst (lu 0 _)) ?_;refine J0 ?_;refine Ju h4 (hr2 _) no (.lst (lu 0 _)) ?_;refine J0 ?_;refine zd hM no (gv 0 _) ?_;repeat first|refine wV λ _=>?_|simp [go_sem,hec,nD,nG,nn,hks,hp]
     simp [go_sem,aj,hec]
    |true=>
     obtain ⟨i1,i3⟩:=i1 rfl;refine J1 hex ?_;cases i1 with
     |stop h1 h2 c1 c2=>
      unfold MC at c1;unfold Un at c2;rw [h1,Ff] at c1;rw [h2,Ff] at c2;refine ni c1 no (xQ 0 _ none) ?_;refine J1 hex ?_;refine ni c2 no (xQ 0 _ none) ?_;refine J1 hex ?_;refine zg3 (hrec 0 ge (lf,rf,sf,false) ⟨λ h=>WP,λ _=>⟨rfl,rfl,rfl⟩⟩) ?_ gt;simp [go_sem,aj,hex,nD,nG,nn]
     | @left _ _ l' _ _ _ s1 _ h c hs t=>
      unfold MC at c;rw [h,Ff] at c;refine ni c no (xQ 0 [] (some l')) ?_;refine J1 hex ?_;refine zg3 (hrec (aD l'+aD r+1) ge (l',r,s1,true) ⟨λ _=>⟨t,rfl⟩,λ h=>WP⟩) ?_ gt;simp [go_sem,aj,hex,nD,nG,nn]
     | @right _ _ r' _ _ _ s1 s2 _ h1 h2 c1 c2 hs t=>
      unfold MC at c1;unfold Un at c2;rw [h1,Ff] at c1;rw [h2,Ff] at c2;refine ni c1 no (xQ 0 _ none) ?_;refine J1 hex ?_;refine ni c2 no (xQ 0 [] (some r')) ?_;refine J1 hex ?_;refine zg3 (hrec (aD l+aD r'+1) ge (l,r',s2,true) ⟨λ _=>⟨t,rfl⟩,λ h=>WP⟩) ?_ gt;simp [go_sem,aj,hex,nD,nG,nn]
end Go.Av
end
section
open Go Go.Proofs
namespace Go.Av
open af
theorem Vn:∀ (n:Nat) (f:af),f.size<=n->n<=68719476736->aq Tryz.prog 71 [gI f] (bS f):=by
 intro n;induction n with
 |zero=>intro f hf;have:=bZ f;omega
 |succ n ih=>
  intro f hf hn;have e2:=nA f;have e3:=nB f;have iL:∀i,i<f.L.length->aq Tryz.prog 71 [gI (ac f.L i)] (.agg (ce (ac f.L i))):=λ i hi=>ih _ WC ge;have iR:∀i,i<f.R.length->aq Tryz.prog 71 [gI (ac f.R i)] (.agg (ce (ac f.R i))):=λ i hi=>ih _ WD ge;obtain ⟨A,a0,a1,a2,a3⟩:=oq id f.L;obtain ⟨B,b0,b1,b2,b3⟩:=oq id f.R;rw [List.map_id] at a3 b3;rw [bS,aH,cp f];refine pF Tryz.func71 ?_;refine J0 ?_;refine zg3 (zg5 (α:=Nat) (λ i=>⟨[(0, .fp [.v (.string (iA f)), .lst 1 (bB f.L), .lst 1 (bB f.R)]),(2, .ref 0 0 2 0 0),(3, .ref 1 0 2 0 0),(11, .lst 1 (bB f.L)),(12, .int f.L.length),(13, .int i)],
   [(0, .rows true 0 2 [[AV.nils,AV.nils]]),(1, .rows true 0 2 [[.sl 2 i 2 0 i,AV.nils]]),(2, .rows true i 2 (az (A i)))],3⟩)
   (λ d i=>i+d=f.L.length) ?_ f.L.length 0 ?_) ?_ ?_
  ·intro d i hi hrec;have hlen:=a2 i ge;refine J0 ?_;refine zg4 (λ hl=> ?_) (λ hl=> ?_)<;>simp at hl
   ·have hl':i<f.L.length:=by omega
    have hC:=iL i hl';rw [cp] at hC;repeat first|refine wV λ _=>?_|simp [go_sem,hl',jb hl',cp (ac f.L i),hlen]
    refine dP hC ?_;refine J1 hlen ?_;refine zg3 (hrec (d - 1) ge (i+1) ge) ?_ gt;simp [go_sem,aj,a1 i hl',iU]
   ·obtain rfl:i=f.L.length:=by omega
    refine J0 ?_;refine zg3 (zg5 (α:=Nat) (λ i=>⟨[(2, .ref 0 0 2 0 0),(3, .ref 1 0 2 0 0),(28, .lst 1 (bB f.R)),(29, .int f.R.length),(30, .int i)],
     [(0, .rows true 0 2 [[AV.nils,AV.nils]]),(1, .rows true 0 2 [[.sl 2 f.L.length 2 0 f.L.length, .sl 3 i 2 0 i]]),(2, .rows true f.L.length 2 (az (A f.L.length))),(3, .rows true i 2 (az (B i)))],4⟩)
     (λ d i=>i+d=f.R.length) ?_ f.R.length 0 ?_) ?_ ?_
    ·intro d i hi hrec;have hlen2:=b2 i ge;refine J0 ?_;refine zg4 (λ hl=> ?_) (λ hl=> ?_)<;>simp at hl
     ·have hl':i<f.R.length:=by omega
      have hC:=iR i hl';rw [cp] at hC;repeat first|refine wV λ _=>?_|simp [go_sem,hl',jb hl',cp (ac f.R i),hlen2]
      refine dP hC ?_;refine J1 hlen2 ?_;refine zg3 (hrec (d - 1) ge (i+1) ge) ?_ gt;simp [go_sem,aj,b1 i hl',iU]
     ·obtain rfl:i=f.R.length:=by omega
      have hA:=a2 _ (Nat.le_refl _);have hB:=b2 _ (Nat.le_refl _);rw [a3] at hA;rw [b3] at hB;rw [a3,b3];refine J0 ?_;grind [aI,dO,aC,az]
    ·omega
    ·simp [go_sem,aj,b0]
    ·simp
  ·omega
  ·simp [go_sem,aj,a0]
  ·simp
def zax:df:=⟨[], [], []⟩
theorem Af (f:af) (hf:f.size<=2147483647):aq Tryz.prog 32 [bS f] (bS f.canon):=by
 obtain ⟨s1,h1⟩:=BL _ f (Nat.le_refl _) ge zax;obtain ⟨s2,h2⟩:=zge _ f (Nat.le_refl _) hf s1;have h3:=Vn _ f.canon (Nat.le_refl _) (by grind [iK]);unfold Iz at h1;unfold Lf at h2;rw [bS,aH] at h1;rw [bS,aH] at h3;rw [bS,bS,aH,aH f.canon];refine pF Tryz.func32 ?_;refine J0 ?_;refine aF Tryz.func66 ?_;refine J0 ?_;refine lI h1 (o:=5) (a:=2) (b:=3) (c:=4) ⟨Wp,by simp [aC,nD,zax],by simp [aC,nG,zax],by simp [aC,nn,zax],Wm⟩ ge no (gv 0 _) ?_;refine J0 ?_;refine lI h2 (o:=5) (a:=2) (b:=3) (c:=4) ⟨Wp,Wp,Wp,Wp,Wm⟩ ge no (gv 0 _) ?_;refine J0 ?_;refine aP h3 ?_;exact K0
theorem FL (x y:af) (hf:x.size+y.size<=8589934592):aq Tryz.prog 33 [bS x,bS y] (.bool (leq x y)):=by
 obtain ⟨s1,h1⟩:=BL _ x (Nat.le_refl _) ge zax;obtain ⟨s2,h2⟩:=BL _ y (Nat.le_refl _) ge s1;obtain ⟨s3,h3⟩:=wJ _ x y (Nat.le_refl _) ge s2;unfold Iz at h1 h2;unfold lH at h3;rw [bS,aH] at h1 h2;rw [bS,bS,aH,aH y];refine pF Tryz.func33 ?_;refine J0 ?_;refine aF Tryz.func66 ?_;refine J0 ?_;refine BA h1 (o:=5) (a:=2) (b:=3) (c:=4) ⟨Wp,by simp [aC,nD,zax],by simp [aC,nG,zax],by simp [aC,nn,zax],Wm⟩ no (gv 0 _) ?_;repeat first|refine wV λ _=>?_|simp [go_sem,cp x]
 refine BA h2 (o:=5) (a:=2) (b:=3) (c:=4) ⟨Wp,Wp,Wp,Wp,Wm⟩ no (gv 0 _) ?_;repeat first|refine wV λ _=>?_|simp [go_sem,cp y]
 rw [cp x,cp y] at h3;refine BA h3 (o:=5) (a:=2) (b:=3) (c:=4) ⟨Wp,Wp,Wp,Wp,Wm⟩ no (.v _) ?_;exact K0
theorem zhF {P:Program}{f:FuncId}{args args':List AV}{h:au}{n:Nat}{K:cI} (hr:∀φ w M vs,aU φ w M args vs->aU φ w M args' vs) (hc:ap P f args' h n K):ap P f args h n K:=⟨hc.1,λ M0 φ w vs hH hv=>hc.2 M0 φ w vs hH (hr _ _ _ _ hv)⟩
theorem PA {φ:aQ}{w:World}{M:Nat->Prop}{sz:Nat}{v:Value} (h:bY φ w M (.v (.slice none 0 0)) v):bY φ w M (.lst sz []) v:=by cases h;exact .nil _ _ _
theorem Bn (f:af) (side:Int) (hf:f.size<=4294967296):aq Tryz.prog 31 [bS f, .int side] (.int (wU f side)):=by
 obtain ⟨s1,h1⟩:=BL _ f (Nat.le_refl _) ge zax;have h2:=vU s1 [] [] gt gt Wm;have hzz:af.mk [] []=zero:=rfl;rw [hzz] at h2;obtain ⟨s2,hs2⟩:∃s2:df,s2=⟨xD s1.ns zero,s1.qs,s1.cs⟩:=⟨_,rfl⟩
 rw [<- hs2] at h2;obtain ⟨s3,h3⟩:=wJ _ f zero (Nat.le_refl _) (by have:zero.size=1:=rfl;omega) s2;obtain ⟨s4,h4⟩:=wJ _ zero f (Nat.le_refl _) (by have:zero.size=1:=rfl;omega) s2;unfold Iz at h1;unfold lH at h3 h4;rw [bS,aH] at h1;rw [bS,aH];have ef:=cp f;have ez:=cp zero;refine pF Tryz.func31 ?_;refine J0 ?_;refine aF Tryz.func66 ?_;refine J0 ?_;refine lI h1 (o:=4) (a:=1) (b:=2) (c:=3) ⟨Wp,by simp [aC,nD,zax],by simp [aC,nG,zax],by simp [aC,nn,zax],Wm⟩ ge no (gv 0 _) ?_;refine J0 ?_;refine zhF (args':= [.ref 4 0 3 0 0, .lst 1 (bB []), .lst 1 (bB [])]) (λ φ w M vs hv=> ?_) (lI h2 (o:=4) (a:=1) (b:=2) (c:=3) ⟨Wp,Wp,Wp,Wp,Wm⟩ ge no (gv 0 _) ?_)
 ·cases hv with
  |cons a hv=>
  cases hv with
  |cons b hv=>
  cases hv with
  |cons c hv=>
  exact .cons a (.cons (PA b) (.cons (PA c) hv))
 unfold wU;rw [ef,ez] at h3 h4;by_cases hs:side=0
 ·subst hs;refine J2 ef ez ?_;refine lC.go ?_;refine lI h3 (o:=4) (a:=1) (b:=2) (c:=3) ⟨Wp,Wp,Wp,Wp,Wm⟩ ge no (.v _) ?_;cases hq:leq f zero with
  |true=>
   refine J0 ?_;refine lC.skip .top ?_;exact K0
  |false=>
   refine J0 ?_;refine lC.skip .top ?_;exact K0
 ·refine J3 ef ez hs ?_;refine lC.skip .top ?_;refine J3 ef ez hs ?_;refine lC.go ?_;refine lI h4 (o:=4) (a:=1) (b:=2) (c:=3) ⟨Wp,Wp,Wp,Wp,Wm⟩ ge no (.v _) ?_;cases hq:leq zero f with
  |true=>
   exact K1 hs
  |false=>
   exact K1 hs
end Go.Av
end
section
/- sum.Total, given the forms of the parts. -/
set_option linter.unusedSectionVars false
open Go Go.Proofs
namespace Go.Av
open af
theorem N9 (f:af):bS f= .agg [.lst 2 (az f.L), .lst 2 (az f.R)]:=by rw [bS,aH]
theorem Vj {a b:af}{r:Nat} (o:Nat) (hp:MH a b r){X Y:AV} (hX:bS a=X) (hY:bS b=Y){h:au}{n:Nat}{K:cI} (hk:K (.bool (decide ((add a b).size<=r))) (aC h o (some (.rows true 0 1 [[.int (if (add a b).size<=r then (r:Int) - (add a b).size else -1)]]))) n)
  (ho:h o=some (.rows true 0 1 [[.int r]]):=by simp [aC]) (hn:o<n:=by omega):ap Tryz.prog 92 [X,Y, .ref o 0 1 0 0] h n K:=by
 subst hX hY;have cl:∀ (z:Int),∀r ∈ [[AV.int z]],∀c ∈ r,aN 0 c:=λ z r hr c hc=>by
  simp only [List.mem_singleton] at hr;subst hr;simp only [List.mem_singleton] at hc;subst hc;exact .v _
 have hb:∀m k,k<m->∀c ∈ [bS a,bS b,AV.ref k 0 1 0 0],aN m c:=λ m k hm c hc=>by
  simp only [List.mem_cons,List.not_mem_nil,or_false] at hc;rcases hc with rfl|rfl|rfl
  ·exact lS m a
  ·exact lS m b
  ·exact .ref hm
 exact zhr hp ho hn (cl _) (cl _) (.cons (.same (lS 0 a)) (.cons (.same (lS 0 b)) (.cons (.ref rfl) .nil))) (hb 1 0 ge) (hb n o hn) (.v _) hk
theorem FT (g:ae) (p:aa) (l:List aa) (e:Int) (he:e≠0) (hS:aq Tryz.prog 91 [.agg (ai g), .agg (ak p)] (.tup [aO l, .int e])):
  aq Tryz.prog 48 [.agg (ai g), .agg (ak p)] (oi (zero,230)):=by
 have hegl:(ai g).length=9:=rfl;have hegb:∀n,(∀c ∈ ai g,aN n c)=True:=λ n=>no;rw [oi,p8];refine pF Tryz.func48 ?_;refine J0 ?_;refine aP hS ?_;exact K1 he
theorem Ni (g:ae) (p:aa) (ps:List aa) (hps:ps.length<=1048576) (F:aa->af) (E:aa->Int) (hF:∀q ∈ ps,(F q).size<=2000∧aq Tryz.prog 47 [.agg (ai g), .agg (ak q)] (oi (F q,E q)))
  (hS:aq Tryz.prog 91 [.agg (ai g), .agg (ak p)] (.tup [aO ps, .int 0])):
  aq Tryz.prog 48 [.agg (ai g), .agg (ak p)] (oi (ll F E ps zero)):=by
 have hegl:(ai g).length=9:=rfl;have hegb:∀n,(∀c ∈ ai g,aN n c)=True:=λ n=>no;obtain ⟨R,hR⟩:∃R,R=ll F E ps zero:=⟨_,rfl⟩
 rw [<- hR,oi,bS,aH];refine pF Tryz.func48 ?_;refine J0 ?_;refine aP hS ?_;refine J0 ?_;refine zg3 (zg5 (α:=Nat×af) (λ a=>⟨[(2, .ref 0 0 9 0 0),(4, .ref 2 0 2 0 0),(8, .ref 3 0 2 0 0),(23,aO ps),(24, .int ps.length),(25, .int a.1)], [(0, .rows true 0 9 [ai g]),(2, .rows true 0 2 [[AV.nils,AV.nils]]),(3, .rows true 0 2 [[.lst 2 (az a.2.L), .lst 2 (az a.2.R)]])],4⟩)
  (λ d a=>a.1+d=ps.length∧a.2.size<=2000∧R=ll F E (ps.drop a.1) a.2) ?_ ps.length (0,zero) ?_) ?_ ?_
 rotate_left
 ·exact ⟨gt,Wm,hR⟩
 ·simp [go_sem,aj,zero,af.L,af.R]
 ·simp
 rintro d ⟨i,t⟩ ⟨i1,i2,i3⟩ hrec;simp only at i1 i2 i3;refine J0 ?_;refine zg4 (λ hi=> ?_) (λ hi=> ?_)<;>simp at hi
 ·have hi':i<ps.length:=by omega
  obtain ⟨hz,hC⟩:=hF _ (am hi');rw [List.drop_eq_getElem_cons hi',<- dT _ _ hi',ll] at i3;generalize hq:ac ps i=q at *;have hnq:ac (ps.map ak) i=ak q:=Wx;rw [oi,bS,aH] at hC;simp only at hC;have hcs:=iK _ (F q) (Nat.le_refl _);have hK:=Af (F q) ge;have hLg:=Vk 68719476736 t (F q).canon 2000 ge ge ge;have hA:=T6 68719476736 t (F q).canon ge ge;rw [bS,bS,aH,aH] at hK;rw [bS,bS,bS,aH,aH,aH (add t (F q).canon)] at hA;refine J2 hi' hnq ?_;refine aP hC ?_;refine J0 ?_;refine zg4 (λ he=> ?_) (λ he=> ?_)<;>simp at he
  ·rw [if_pos ge] at i3;rw [i3];repeat first|refine wV λ _=>?_|simp [go_sem,p9,zero,af.L,af.R]
  ·have he0:E q=0:=by omega
   rw [if_neg (by simp [he0])] at i3;refine J0 ?_;refine aP hK ?_;refine J0 ?_;refine Vj 6 hLg (N9 t) (N9 (F q).canon) ?_ Wp ge;refine J0 ?_;refine zg4 (λ hm=> ?_) (λ hm=> ?_)<;>simp at hm
   ·rw [if_pos ge] at i3;rw [i3];repeat first|refine wV λ _=>?_|simp [go_sem,p9,zero,af.L,af.R]
   ·rw [if_neg ge] at i3;have hcz:=iK _ (add t (F q).canon) (Nat.le_refl _);have hK2:=Af (add t (F q).canon) ge;rw [bS,bS,aH,aH] at hK2;refine J0 ?_;refine aP hA ?_;refine J0 ?_;refine aP hK2 ?_;refine J0 ?_;refine zg3 (hrec (d - 1) ge (i+1,(add t (F q).canon).canon) ⟨ge,pi,i3⟩) ?_ gt;simp [go_sem,aj]
 ·obtain rfl:i=ps.length:=by omega
  rw [List.drop_length,ll] at i3;rw [i3];exact K0
end Go.Av
end
section
open Go Go.Proofs
namespace Go.Av
structure cP (g:ae) (l:List aa):Prop where
 inc:lm l
 len:l.length<=4000
 ok:∀q ∈ l,bw g q
 cl:∀q ∈ l,∀m ∈ an g q,m ∈ l
theorem Nt {g:ae} (hg:bN g):∀ (f i:Nat) (l L:List aa),(∀q ∈ l,bw g q)->(∀j,j<i->j<l.length->∀q ∈ an g (ac l j),q ∈ l)->i<=l.length->l.length<=4000->uh g f i l=(L,0)->cP g L∧(∀q ∈ l,q ∈ L)
 |0,i,l,L, _, _, _, _,h=>by
  grind [uh]
 |f+1,i,l,L,h1,h2,h3,h4,h=>by
  rw [uh] at h;split at h
  ·rename_i hi;split at h
   ·cases h
   ·obtain ⟨r,hr⟩:=kU (an g (ac l i)) l;have hnth:∀j,j<l.length->ac ((an g (ac l i)).foldl dV l) j=ac l j:=λ j hj=>by
     grind [ac]
    obtain ⟨c1,c2⟩:=Nt hg f (i+1) _ L (λ q hq=>by
     rcases (gu _ _).1 hq with hq|hq
     ·grind
     ·exact (bD hg (h1 _ (am hi)) q hq).1) (λ j hj hjl q hq=>by
     grind [gu]) pi ge h
    grind
  ·simp only [Prod.mk.injEq,and_true] at h;subst h;have hinc:lm (bd bi l):=cU bp _;refine ⟨⟨hinc, ?_,λ q hq=>h1 q (ax.1 hq),λ q hq m hm=> ?_⟩,λ q hq=>ax.2 hq⟩
   ·have hnd:(bd bi l).Nodup:=hinc.imp λ {a b} hab e=>by
     subst e;have:=(bp.eq a a).2 rfl;omega
    have:=dN hnd λ q hq=>ax.1 hq;omega
   grind [dw,ax]
theorem sj {g:ae} (hg:bN g){p:aa} (hp:bw g p){L:List aa} (h:xJ g p=(L,0)):cP g L∧p ∈ L:=by
 obtain ⟨h1,h2⟩:=Nt hg 4002 0 [p] L (λ q hq=>by grind) (λ j hj=>by omega) gt gt h;grind
variable {i:Nat}
theorem tT {α:Type} [Inhabited α] {l:List α} (h:i<l.length):l.take (i+1)=l.take i++ [ac l i]:=by
  grind [List.take_add_one,ac]
def nO (g:ae) (i:Nat):List kT:=(g.kinds.take i).map rV
theorem Mg {g:ae} (h:i<g.kinds.length):nO g (i+1)=nO g i++ [rV (ac g.kinds i)]:=by
  grind [nO,tT]
theorem Pn {g:ae} (h:i<=g.kinds.length):(nO g i).length=i:=by grind [nO]
def mW (ps:List (List (Int×Int))) (n:Nat):List (List (Int×Int)):=(ps.take n).filter yH
theorem Mh {ps:List (List (Int×Int))}{n:Nat} (h:n<ps.length):mW ps (n+1)=if yH (ac ps n)=true then mW ps n++ [ac ps n] else mW ps n:=by
  grind [mW,tT]
theorem Sj (ps:List (List (Int×Int))) (n:Nat):(mW ps n).length<=n:=by
  grind [mW]
def RW (p:List (Int×Int)) (j:Nat):Bool:=yH (p.take j)
theorem VS {p:List (Int×Int)}{j:Nat} (h:j<p.length):RW p (j+1)=(RW p j && (decide ((ac p j).1≠9) && decide ((ac p j).1≠10))):=by
  grind [RW,yH,tT]
theorem zN (g:ae) (hg:bN g):aq Tryz.prog 45 [.agg (ai g)] (.agg (ai (i9 g))):=by
  refine pF Tryz.func45 ?_;have k6:=hg.k6;have hpn:=hg.pn;have hpl:=hg.pr;have eg:ai (i9 g)= [.int g.cells,fu g.next,aS g.turn, .lst 3 ((nO g g.kinds.length).map cH), .int 0, .v (.bool false), .lst 4 [], .int 3, .int 2]:=by
    grind [nO,ai,i9]
  rw [eg];refine J0 ?_;refine zg3 (zg5 (α:=Nat) (λ i=>⟨[(1, .ref 0 0 9 0 0),(2, .ref 1 0 9 0 0),(3, .ref 2 0 9 0 0),(4, .int i)],
      [(0, .rows true 0 9 [ai g]),(1, .rows true 0 9 [[.int 0, .v (.slice none 0 0), .v (.slice none 0 0), .v (.slice none 0 0), .int 0, .v (.bool false), .v (.slice none 0 0), .int 0, .int 0]]),
       (2, .rows true 0 9 [[.int g.cells,fu g.next,aS g.turn, .sl 3 i 3 0 i, .int 0, .v (.bool false), .v (.slice none 0 0), .int 3, .int 2]]),(3, .rows true i 3 ((nO g i).map cH))],4⟩)
    (λ r i=>i+r=g.kinds.length) ?_ g.kinds.length 0 ?_) ?_ ?_
  · rintro r i i1 hrec;have lks:(nO g i).length=i:=Pn ge;refine J0 ?_;refine zg4 (λ hi=> ?_) (λ hi=> ?_)<;>simp at hi
    · have hm:=am hi;have hpn:=hpn _ hm;have hpl:=hpl _ hm;have hks:=Mg hi;refine J2 hi lks ?_;refine zg3 (zg5 (α:=Nat) (λ n=>⟨[(1, .ref 0 0 9 0 0),(2, .ref 1 0 9 0 0),(3, .ref 2 0 9 0 0),(4, .int i),(5, .ref 4 0 3 0 0),(6, .int n)],
          [(0, .rows true 0 9 [ai g]),(1, .rows true 0 9 [[.int 0, .v (.slice none 0 0), .v (.slice none 0 0), .v (.slice none 0 0), .int 0, .v (.bool false), .v (.slice none 0 0), .int 0, .int 0]]),
           (2, .rows true 0 9 [[.int g.cells,fu g.next,aS g.turn, .sl 3 i 3 0 i, .int 0, .v (.bool false), .v (.slice none 0 0), .int 3, .int 2]]),(3, .rows true i 3 ((nO g i).map cH)),
           (4, .rows true 0 3 [[.v (.string (ac g.kinds i).name), .sl 5 (mW (ac g.kinds i).progs n).length 1 0 (mW (ac g.kinds i).progs n).length, .v (.bool false)]]),
           (5, .rows true (mW (ac g.kinds i).progs n).length 1 ((mW (ac g.kinds i).progs n).map λ p=> [bE p]))],6⟩)
        (λ s n=>n+s=(ac g.kinds i).progs.length) ?_ (ac g.kinds i).progs.length 0 ?_) ?_ ?_
      · rintro s n j1 hrec2;have lps:=Sj (ac g.kinds i).progs n;generalize hps:mW (ac g.kinds i).progs n=ps at *;refine J1 hi ?_;refine zg4 (λ hn=> ?_) (λ hn=> ?_)<;>simp at hn
        · have hp:=hpl _ (am hn);have hplen:=hp.len;have hss:=Mh hn;rw [hps] at hss;refine J2 hi hn ?_;refine zg3 (zg5 (α:=Nat) (λ j=>⟨[(1, .ref 0 0 9 0 0),(2, .ref 1 0 9 0 0),(3, .ref 2 0 9 0 0),(4, .int i),(5, .ref 4 0 3 0 0),(6, .int n),(7, .v (.bool (RW (ac (ac g.kinds i).progs n) j))),(8,bE (ac (ac g.kinds i).progs n)),(9, .int j)],
              [(0, .rows true 0 9 [ai g]),(1, .rows true 0 9 [[.int 0, .v (.slice none 0 0), .v (.slice none 0 0), .v (.slice none 0 0), .int 0, .v (.bool false), .v (.slice none 0 0), .int 0, .int 0]]),
               (2, .rows true 0 9 [[.int g.cells,fu g.next,aS g.turn, .sl 3 i 3 0 i, .int 0, .v (.bool false), .v (.slice none 0 0), .int 3, .int 2]]),(3, .rows true i 3 ((nO g i).map cH)),
               (4, .rows true 0 3 [[.v (.string (ac g.kinds i).name), .sl 5 ps.length 1 0 ps.length, .v (.bool false)]]),
               (5, .rows true ps.length 1 (ps.map λ p=> [bE p]))],6⟩)
            (λ t j=>j+t=(ac (ac g.kinds i).progs n).length) ?_ (ac (ac g.kinds i).progs n).length 0 ?_) ?_ ?_
          · rintro t j l1 hrec3;refine J0 ?_;refine zg4 (λ hj=> ?_) (λ hj=> ?_)<;>simp at hj
            · have ho:=VS hj;refine J1 hj ?_;refine zg3 (hrec3 (t - 1) ge (j+1) ge) ?_ gt;simp [go_sem,aj,ho,Bool.and_assoc]
            · have hjl:j=(ac (ac g.kinds i).progs n).length:=by omega
              have hok:RW (ac (ac g.kinds i).progs n) j=yH (ac (ac g.kinds i).progs n):=by simp_all [RW]
              refine J0 ?_;refine zg4 (λ hb=> ?_) (λ hb=> ?_)
              · rw [hok] at hb;rw [if_pos hb] at hss;refine J0 ?_;refine zg3 (hrec2 (s - 1) ge (n+1) ge) ?_ gt;simp [go_sem,aj,hss]
              · rw [hok] at hb;rw [if_neg (by simp [hb])] at hss;refine J0 ?_;refine zg3 (hrec2 (s - 1) ge (n+1) ge) ?_ gt;simp [go_sem,aj,hss]
          · simp
          · simp [go_sem,aj,RW,yH]
          · simp
        · have hnl:n=(ac g.kinds i).progs.length:=by omega
          have hpk:rV (ac g.kinds i)=⟨(ac g.kinds i).name,ps,false⟩:=by simp_all [mW,rV]
          refine J0 ?_;refine zg3 (hrec (r - 1) ge (i+1) ge) ?_ gt;simp [go_sem,aj,hks,hpk];(first|done|exact zgu)
      · simp
      · simp [go_sem,aj,mW]
      · simp
    · have hil:i=g.kinds.length:=by omega
      subst hil;refine J0 ?_;(first|done|exact zfe lks)
  · simp
  · simp [go_sem,aj,nO]
  · simp
end Go.Av
end
