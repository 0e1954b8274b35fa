/- Texts of ours, part 13: contracts and facts for this claim. -/
import Derived.Test.YtgdfnfffibhkjaaGreatDoorB13
import Derived.Test.YtgdfnfffibhkjaaGreatDoorSRx12
set_option linter.unusedSimpArgs false
set_option linter.unusedVariables false
set_option maxRecDepth 100000
set_option maxHeartbeats 40000000
section
set_option linter.unusedSectionVars false
open Go Go.Proofs
namespace Go.Av
open zab
section
variable (g:zaa) (hg:GOk g) (hn:zbU g) (p:zae) (hp:POk g p)
include hg hn hp
theorem zpL:zav Tryz.prog 14 [.agg (zad g), .agg (zag p)] (.agg (zbt (zeT g p).1++ [.int (zeT g p).2])):=by
 have hF:=znO g hg hn p hp;have hegl:(zad g).length=9:=rfl;have hegb:∀n,(∀c ∈ zad g,Bel n c)=True:=λ n=>ae;generalize zeT g p=x at *;rw [zjS,zbQ,zao] at hF;rw [zao];refine pF Tryz.func14 ?_;refine J0 ?_;refine aP hF ?_;exact K0
end
end Go.Av
end
section
/- THE LAW SumRefuses. -/
set_option linter.unusedSectionVars false
open Go Go.Proofs
namespace Go.Av
open zab
theorem zBg {g:zaa} (h:zaz g=false) (p:zae):zbl g p=(zero,230)∧zeT g p=(zero,230)∧zql g p=(([], []),230)∧znE g p=(0,230)∧zrD g p=(⟨[], [], [],0,0⟩,230)∧zCN g p=((0,0),230):=by
 grind [zbl,zeT,zql,znE,zrD,zCN]
theorem zHi {g:zaa} (hg:GOk g) (hn:zaz g=true){p:zae} (hp:POk g p){P:List zae}{L R:List (List Nat)} (hX:zbe g 300 4002 0 [sdP p 0] [] []=some (P,L,R)):
  decide ((zbl g p).2=210)=decide (((zdx L R P.length).length:Int)<P.length):=by
 obtain ⟨hgr,h0,hfr,hpok,hlen,b⟩:=ze6 hg hp aa hX;have hb:=zz5 hgr hfr b.pos;rw [zbl,if_pos hn,zie (by omega:300<=4000) 4002 0 hX,zjq];grind
theorem zrk (x:zzm) (hx:zjH x) (w:Int) (hw:U8 w):zav Tryz.prog 8 [.agg (zcd x), .v (.int .u8 w)] (.bool true):=by
 have hSan:=zf8;have hmg:=zwv hx.g;have hmn:=zst x.g;have hG:=zre x.g hx.g hx.lc hx.l0 hx.l1;have hq:=zuX hmg hx.p;have hP:=zrg (zgr x.g) hmg x.p hx.p;have hN:=ztt (zgr x.g) (by have:=hmg.k6;omega);have c1:=zdM _ hmg hmn _ hq;have c2:=zpL _ hmg hmn _ hq;have c3:=zsq _ hmg hmn _ hq;have c4:=zkW _ hmg hmn _ hq;have c5:=zpu _ hmg hmn _ hq;have c6:=zny _ hmg hmn _ hq;have hrf:=λ h:zaz (zgr x.g)=false=>zBg h (zju (zgr x.g) x.p);obtain ⟨hgg,hgn,hgo⟩:=zii hx w;have hgp:=zoG hx w;have hM:=zgG x hx w hw;have hO:=zlj _ hgg _ hgp 300 aa;have hF:=zdM _ hgg hgn _ hgp;have hFL:=λ P L R=>zHi (P:=P) (L:=L) (R:=R) hgg hgo hgp;have hX:=λ P L R h=>ze6 (P:=P) (L:=L) (R:=R) hgg hgp (limit:=300) aa h;generalize zkK x w=qw at *;generalize zet x w=gw at *;generalize zju (zgr x.g) x.p=q at *;generalize zgr x.g=mg at *;clear hgg hgn hgo hgp hmg hmn hq;unfold zcd at *;have hrow:=zl9 hx.p;obtain ⟨er,her⟩:∃er,er=zfc x.p:=⟨_,rfl⟩
 rw [<- her] at hrow hP hM ⊢;obtain ⟨rl, _, _, _, _, _,rb⟩:=hrow;obtain ⟨er1,her1⟩:∃er1,er1=zgU x.g:=⟨_,rfl⟩
 have er1l:er1.length=12:=by rw [her1];rfl
 have er1b:∀n,(∀c ∈ er1,Bel n c)=True:=λ n=>by rw [her1];simp [go_sem]
 rw [<- her1] at hG hM ⊢;have hd12:List.take 18 (List.drop 12 (er1++(er++ [AV.lst 1 (x.picks.map zAn)])))=er:=by
  grind
 have t73:zmQ Tryz.prog 73=none:=ah;have d73:zCQ Tryz.prog 73=some [false,false,false]:=ah;refine pF Tryz.func8 ?_;refine J4 rl rb er1l er1b ?_;refine zN0 hSan af ?_;refine J4 rl rb er1l er1b ?_;refine zN0 hG (by simp [go_sem,er1b]) ?_;refine J5 rl rb er1l er1b hd12 ?_;refine zN0 hP (by simp [go_sem,rb]) ?_;refine J4 rl rb er1l er1b ?_;refine aP hN ?_;generalize hXX:zbe gw 300 4002 0 [sdP qw 0] [] []=X at *;cases hb:zaz mg with
 |true=>
  refine J5 rl rb er1l er1b hb ?_;refine zN0 hM (by simp [go_sem,rb,er1b]) ?_;refine J4 rl rb er1l er1b ?_;cases X with
  |none=>
   simp only [zBi] at hO;refine aP hO ?_;exact K0
  |some y=>
   obtain ⟨P,L,R⟩:=y;obtain ⟨_, _, _, _,hpl,hgb⟩:=hX P L R rfl;have hFL:=hFL P L R rfl;have hOr:=zpP P L R P.length aa rfl hgb.l hgb.r hgb.len hgb.lt;have hol:(zdx L R P.length).length<=P.length:=zsN hgb.lt;have hp1:P.length<=4000:=hgb.n;have heN:zaB (zdx L R P.length)= .lst 1 ((zdx L R P.length).map zaR):=rfl;rw [heN] at hOr;simp only [zBi] at hO;generalize zdx L R P.length=O at *;have hbL:∀n,Bel n (zax L)=True:=λ n=>zjJ n L;have hbR:∀n,Bel n (zax R)=True:=λ n=>zjJ n R;generalize zax L=eL at *;generalize zax R=eR at *;rw [zao] at hF;generalize zbl gw qw=fr at *;refine zN0 hO cK ?_;refine J2 hbL hbR ?_;refine zN5 hOr cK ?_;refine J2 hbL hbR ?_;refine aP hF ?_;by_cases h210:fr.2=210
   ·have hlt:=of_decide_eq_true (hFL.symm.trans (decide_eq_true h210));have hlt2:O.length<P.length:=aa;exact K3 h210 hlt hlt2
   ·have hlt:=of_decide_eq_false (hFL.symm.trans (decide_eq_false h210));have hlt2:¬O.length<P.length:=aa;exact K3 h210 hlt hlt2
 |false=>
  obtain ⟨f1,f2,f3,f4,f5,f6⟩:=hrf hb;rw [f1,zhM] at c1;rw [f2,zhM] at c2;rw [f3] at c3;rw [f4] at c4;rw [f5] at c5;rw [f6] at c6;refine J5 rl rb er1l er1b hb ?_;refine dP c1 ?_;refine J4 rl rb er1l er1b ?_;refine dP c2 ?_;refine J4 rl rb er1l er1b ?_;refine dP c3 ?_;refine J4 rl rb er1l er1b ?_;refine zN4 _ (λ _=>c4) ae ?_;refine J4 rl rb er1l er1b ?_;refine zN4 _ (λ _=>c5) ae ?_;refine J4 rl rb er1l er1b ?_;refine zN4 _ (λ _=>c6) ae ?_;refine J6 rl rb er1l er1b t73 d73 ?_;refine zN0 hM (by simp [go_sem,rb,er1b]) ?_;refine J4 rl rb er1l er1b ?_;cases X with
  |none=>
   simp only [zBi] at hO;refine aP hO ?_;exact K0
  |some y=>
   obtain ⟨P,L,R⟩:=y;obtain ⟨_, _, _, _,hpl,hgb⟩:=hX P L R rfl;have hFL:=hFL P L R rfl;have hOr:=zpP P L R P.length aa rfl hgb.l hgb.r hgb.len hgb.lt;have hol:(zdx L R P.length).length<=P.length:=zsN hgb.lt;have hp1:P.length<=4000:=hgb.n;have heN:zaB (zdx L R P.length)= .lst 1 ((zdx L R P.length).map zaR):=rfl;rw [heN] at hOr;simp only [zBi] at hO;generalize zdx L R P.length=O at *;have hbL:∀n,Bel n (zax L)=True:=λ n=>zjJ n L;have hbR:∀n,Bel n (zax R)=True:=λ n=>zjJ n R;generalize zax L=eL at *;generalize zax R=eR at *;rw [zao] at hF;generalize zbl gw qw=fr at *;refine zN0 hO cK ?_;refine J2 hbL hbR ?_;refine zN5 hOr cK ?_;refine J2 hbL hbR ?_;refine aP hF ?_;by_cases h210:fr.2=210
   ·have hlt:=of_decide_eq_true (hFL.symm.trans (decide_eq_true h210));have hlt2:O.length<P.length:=aa;exact K3 h210 hlt hlt2
   ·have hlt:=of_decide_eq_false (hFL.symm.trans (decide_eq_false h210));have hlt2:¬O.length<P.length:=aa;exact K3 h210 hlt hlt2
end Go.Av
end
