/- Texts of ours, part 13: contracts and facts for this claim. -/
import Derived.Test.YtgdfnfffibhkjaaGreatDoorB13
import Derived.Test.YtgdfnfffibhkjaaGreatDoorSRx12
set_option linter.unusedSimpArgs false
set_option linter.unusedVariables false
set_option maxRecDepth 100000
set_option maxHeartbeats 40000000
set_option linter.unusedSectionVars false
section
set_option linter.unusedSectionVars false
open Go Go.Proofs
namespace Go.Av
open af
section
variable (g:ae) (hg:bN g) (hn:dI g) (p:aa) (hp:bw g p)
include hg hn hp
theorem Bg:aq Tryz.prog 14 [.agg (ai g), .agg (ak p)] (.agg (ce (eO g p).1++ [.int (eO g p).2])):=by
 have hF:=y8 g hg hn p hp;have hegl:(ai g).length=9:=rfl;have hegb:∀n,(∀c ∈ ai g,aN n c)=True:=λ n=>no;generalize eO g p=x at *;rw [oi,bS,aH] at hF;rw [aH];refine pF Tryz.func14 ?_;refine J0 ?_;refine aP hF ?_;exact K0
end
end Go.Av
end
section
/- THE LAW SumRefuses. -/
set_option linter.unusedSectionVars false
open Go Go.Proofs
namespace Go.Av
open af
theorem Pz {g:ae} (h:aZ g=false) (p:aa):bW g p=(zero,230)∧eO g p=(zero,230)∧w9 g p=(([], []),230)∧oN g p=(0,230)∧sZ g p=(⟨[], [], [],0,0⟩,230)∧CN g p=((0,0),230):=by
 grind [bW,eO,w9,oN,sZ,CN]
theorem Vm {g:ae} (hg:bN g) (hn:aZ g=true){p:aa} (hp:bw g p){P:List aa}{L R:List (List Nat)} (hX:b9 g 300 4002 0 [bv p 0] [] []=some (P,L,R)):
  decide ((bW g p).2=210)=decide (((g8 L R P.length).length:Int)<P.length):=by
 obtain ⟨hgr,h0,hfr,hpok,hlen,b⟩:=kY hg hp ge hX;have hb:=NA hgr hfr b.pos;rw [bW,if_pos hn,q6 (by omega:300<=4000) 4002 0 hX,nu];grind
theorem EV (x:zI) (hx:pS x) (w:Int) (hw:U8 w):aq Tryz.prog 8 [.agg (dX x), .v (.int .u8 w)] (.bool true):=by
 have hSan:=nI;have hmg:=Hz hx.g;have hmn:=Eu x.g;have hG:=DZ x.g hx.g hx.lc hx.l0 hx.l1;have hq:=HB hmg hx.p;have hP:=D0 (jZ x.g) hmg x.p hx.p;have hN:=FP (jZ x.g) (by have:=hmg.k6;omega);have c1:=jn _ hmg hmn _ hq;have c2:=Bg _ hmg hmn _ hq;have c3:=Es _ hmg hmn _ hq;have c4:=tX _ hmg hmn _ hq;have c5:=AY _ hmg hmn _ hq;have c6:=yR _ hmg hmn _ hq;have hrf:=λ h:aZ (jZ x.g)=false=>Pz h (qJ (jZ x.g) x.p);obtain ⟨hgg,hgn,hgo⟩:=qg hx w;have hgp:=yJ hx w;have hM:=oP x hx w hw;have hO:=vd _ hgg _ hgp 300 ge;have hF:=jn _ hgg hgn _ hgp;have hFL:=λ P L R=>Vm (P:=P) (L:=L) (R:=R) hgg hgo hgp;have hX:=λ P L R h=>kY (P:=P) (L:=L) (R:=R) hgg hgp (limit:=300) ge h;generalize pA x w=qw at *;generalize iN x w=gw at *;generalize qJ (jZ x.g) x.p=q at *;generalize jZ x.g=mg at *;clear hgg hgn hgo hgp hmg hmn hq;unfold dX at *;have hrow:=tL hx.p;obtain ⟨er,her⟩:∃er,er=kK x.p:=⟨_,rfl⟩
 rw [<- her] at hrow hP hM ⊢;obtain ⟨rl, _, _, _, _, _,rb⟩:=hrow;obtain ⟨er1,her1⟩:∃er1,er1=lY x.g:=⟨_,rfl⟩
 have er1l:er1.length=12:=by rw [her1];rfl
 have er1b:∀n,(∀c ∈ er1,aN n c)=True:=λ n=>by rw [her1];simp [go_sem]
 rw [<- her1] at hG hM ⊢;have hd12:List.take 18 (List.drop 12 (er1++(er++ [AV.lst 1 (x.picks.map AH)])))=er:=by
  grind
 have t73:r9 Tryz.prog 73=none:=Pi;have d73:Mp Tryz.prog 73=some [false,false,false]:=Pi;refine pF Tryz.func8 ?_;refine J4 rl rb er1l er1b ?_;refine zg7 hSan pi ?_;refine J4 rl rb er1l er1b ?_;refine zg7 hG (by simp [go_sem,er1b]) ?_;refine J5 rl rb er1l er1b hd12 ?_;refine zg7 hP (by simp [go_sem,rb]) ?_;refine J4 rl rb er1l er1b ?_;refine aP hN ?_;generalize hXX:b9 gw 300 4002 0 [bv qw 0] [] []=X at *;cases hb:aZ mg with
 |true=>
  refine J5 rl rb er1l er1b hb ?_;refine zg7 hM (by simp [go_sem,rb,er1b]) ?_;refine J4 rl rb er1l er1b ?_;cases X with
  |none=>
   simp only [A9] at hO;refine aP hO ?_;exact K0
  |some y=>
   obtain ⟨P,L,R⟩:=y;obtain ⟨_, _, _, _,hpl,hgb⟩:=hX P L R rfl;have hFL:=hFL P L R rfl;have hOr:=Bl P L R P.length ge rfl hgb.l hgb.r hgb.len hgb.lt;have hol:(g8 L R P.length).length<=P.length:=DC hgb.lt;have hp1:P.length<=4000:=hgb.n;have heN:aX (g8 L R P.length)= .lst 1 ((g8 L R P.length).map bu):=rfl;rw [heN] at hOr;simp only [A9] at hO;generalize g8 L R P.length=O at *;have hbL:∀n,aN n (aG L)=True:=λ n=>sW n L;have hbR:∀n,aN n (aG R)=True:=λ n=>sW n R;generalize aG L=eL at *;generalize aG R=eR at *;rw [aH] at hF;generalize bW gw qw=fr at *;refine zg7 hO XT ?_;refine J2 hbL hbR ?_;refine zhc hOr XT ?_;refine J2 hbL hbR ?_;refine aP hF ?_;by_cases h210:fr.2=210
   ·have hlt:=of_decide_eq_true (hFL.symm.trans (decide_eq_true h210));have hlt2:O.length<P.length:=ge;exact K3 h210 hlt hlt2
   ·have hlt:=of_decide_eq_false (hFL.symm.trans (decide_eq_false h210));have hlt2:¬O.length<P.length:=ge;exact K3 h210 hlt hlt2
 |false=>
  obtain ⟨f1,f2,f3,f4,f5,f6⟩:=hrf hb;rw [f1,p9] at c1;rw [f2,p9] at c2;rw [f3] at c3;rw [f4] at c4;rw [f5] at c5;rw [f6] at c6;refine J5 rl rb er1l er1b hb ?_;refine dP c1 ?_;refine J4 rl rb er1l er1b ?_;refine dP c2 ?_;refine J4 rl rb er1l er1b ?_;refine dP c3 ?_;refine J4 rl rb er1l er1b ?_;refine zhb _ (λ _=>c4) no ?_;refine J4 rl rb er1l er1b ?_;refine zhb _ (λ _=>c5) no ?_;refine J4 rl rb er1l er1b ?_;refine zhb _ (λ _=>c6) no ?_;refine J6 rl rb er1l er1b t73 d73 ?_;refine zg7 hM (by simp [go_sem,rb,er1b]) ?_;refine J4 rl rb er1l er1b ?_;cases X with
  |none=>
   simp only [A9] at hO;refine aP hO ?_;exact K0
  |some y=>
   obtain ⟨P,L,R⟩:=y;obtain ⟨_, _, _, _,hpl,hgb⟩:=hX P L R rfl;have hFL:=hFL P L R rfl;have hOr:=Bl P L R P.length ge rfl hgb.l hgb.r hgb.len hgb.lt;have hol:(g8 L R P.length).length<=P.length:=DC hgb.lt;have hp1:P.length<=4000:=hgb.n;have heN:aX (g8 L R P.length)= .lst 1 ((g8 L R P.length).map bu):=rfl;rw [heN] at hOr;simp only [A9] at hO;generalize g8 L R P.length=O at *;have hbL:∀n,aN n (aG L)=True:=λ n=>sW n L;have hbR:∀n,aN n (aG R)=True:=λ n=>sW n R;generalize aG L=eL at *;generalize aG R=eR at *;rw [aH] at hF;generalize bW gw qw=fr at *;refine zg7 hO XT ?_;refine J2 hbL hbR ?_;refine zhc hOr XT ?_;refine J2 hbL hbR ?_;refine aP hF ?_;by_cases h210:fr.2=210
   ·have hlt:=of_decide_eq_true (hFL.symm.trans (decide_eq_true h210));have hlt2:O.length<P.length:=ge;exact K3 h210 hlt hlt2
   ·have hlt:=of_decide_eq_false (hFL.symm.trans (decide_eq_false h210));have hlt2:¬O.length<P.length:=ge;exact K3 h210 hlt hlt2
end Go.Av
end
