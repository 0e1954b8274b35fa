/- Texts of ours, part 11: our library and contracts of functions. -/
import Derived.Test.YtgdfnfffibhkjaaGreatDoorB10
import Derived.Test.YtgdfnfffibhkjaaGreatDoorProg
import Derived.Shelf.Strings.BuilderK
set_option linter.unusedSimpArgs false
set_option linter.unusedVariables false
set_option maxRecDepth 100000
set_option maxHeartbeats 40000000
set_option linter.unusedSectionVars false
section
open Go Go.Proofs
namespace Go.Av
def yy (op:Int):Int:=if op=1∨op=2∨op=7 then 1 else if op=8 then 2 else if op=9∨op=10 then 3 else 0
def zc5 (op:Int):ByteArray:=if op=1 then ⟨#[103,111]⟩ else if op=2 then ⟨#[115,108,105,100,101]⟩ else if op=3 then ⟨#[101,109,112,116,121]⟩ else if op=4 then ⟨#[101,110,101,109,121]⟩
 else if op=5 then ⟨#[102,114,105,101,110,100]⟩ else if op=6 then ⟨#[116,97,107,101]⟩ else if op=7 then ⟨#[112,117,115,104]⟩ else if op=8 then ⟨#[98,101,99,111,109,101]⟩ else if op=9 then ⟨#[110,101,101,100]⟩ else ⟨#[108,111,115,101]⟩
def Fq:List AV:= [.v (.string ⟨#[]⟩), .int 0]++(([1,2,3,4,5,6,7,8,9,10]:List Int).map λ op=> [AV.v (.string (zc5 op)), .int (yy op)]).flatten
theorem NF (n:Nat):∀c ∈ Fq,aN n c:=by
 intro c hc;have hall:Fq.all (λ c=>match c with| .v _=>true| _=>false)=true:=rfl;have h:=List.all_eq_true.1 hall c hc;cases c<;>simp at h;exact .v _
theorem Wd:aq Tryz.prog 273 [] (.agg Fq):=by
 refine pF Tryz.func273 ?_;refine J0 ?_;exact ⟨zht rfl,NF 0⟩
theorem Vh (op:Int) (h:1<=op∧op<=10):aq Tryz.prog 230 [.int op] (.tup [.agg [.v (.string (zc5 op)), .int (yy op)], .v (.bool true)]):=by
 refine pF Tryz.func230 ?_;have hr:=Wd;have hl:Fq.length=22:=rfl;rcases (show op=1∨op=2∨op=3∨op=4∨op=5∨op=6∨op=7∨op=8∨op=9∨op=10 by omega) with rfl|rfl|rfl|rfl|rfl|rfl|rfl|rfl|rfl|rfl;all_goals
  refine J0 ?_;refine aP hr ?_;refine J1 hl ?_;exact zht rfl
theorem Ay (p:List (Int×Int)) (hp:p.length<=1048576) (op:Int):aq Tryz.prog 232 [bE p, .int op] (.int (cc p op)):=by
 refine pF Tryz.func232 ?_;generalize hR:cc p op=R;refine J0 ?_;refine zg3 (zg5 (α:=Nat×Nat) (λ a=>⟨[(1, .int op),(5, .int a.2),(8,bE p),(9, .int p.length),(10, .int a.1)], [],0⟩)
  (λ d a=>a.1+d=p.length∧a.2<=a.1∧a.2+cc (p.drop a.1) op=R) ?_ p.length (0,0) ?_) ?_ ?_
 ·rintro d ⟨i,n⟩ ⟨i1,i2,i3⟩ hrec;simp only at i1 i2 i3;refine J0 ?_;refine zg4 (λ hi=> ?_) (λ hi=> ?_)<;>simp at hi
  ·rw [bQ hi] at i3;unfold cc at i3;rw [List.countP_cons] at i3;refine J1 hi ?_;refine zg4 (λ he=> ?_) (λ he=> ?_)<;>simp at he
   ·simp [he] at i3;refine J0 ?_;refine zg3 (hrec (d - 1) ge (i+1,n+1) ⟨ge,ge,by grind [cc]⟩) ?_ gt;simp [go_sem,aj]
   ·simp [he] at i3;refine J0 ?_;refine zg3 (hrec (d - 1) ge (i+1,n) ⟨ge,ge,by grind [cc]⟩) ?_ gt;simp [go_sem,aj]
  ·rw [List.drop_eq_nil_of_le hi] at i3;simp [cc] at i3;subst i3;exact K0
 ·grind
 ·simp [go_sem,aj]
 ·simp
theorem VR (x:Int×Int) (D K R:Int) (hx:jN D K R x) (hK:0<=K):aq Tryz.prog 229 [.agg (dC x), .fp [.int 1, .int D, .int K, .int R]] (.v (.bool false)):=by
 refine pF Tryz.func229 ?_;obtain ⟨hop,hd,hz,hk,hr⟩:=hx;have hf:=Vh x.1 hop;obtain ⟨op,N⟩:=x;simp only at *;have hN:0<=N:=ge;have hN':¬N<0:=ge;have hops:op=1∨op=2∨op=3∨op=4∨op=5∨op=6∨op=7∨op=8∨op=9∨op=10:=ge;have hL:N<ac ([1,D,K,R]:List Int) (yy op).toNat:=by
  rcases hops with rfl|rfl|rfl|rfl|rfl|rfl|rfl|rfl|rfl|rfl<;>simp [yy,ac]<;>omega
 rcases hops with rfl|rfl|rfl|rfl|rfl|rfl|rfl|rfl|rfl|rfl;all_goals
  simp [yy,ac] at hf hL;have hL':=Int.not_le.2 hL;refine J0 ?_;refine aP hf ?_;exact K3 hN hN' hL'
theorem Pg (p:List (Int×Int)) (D K R:Int) (hp:uS D K R p) (hK:0<=K):aq Tryz.prog 184 [bE p, .int D, .int K, .int R] (.v (.bool true)):=by
 refine pF Tryz.func184 ?_;obtain ⟨h1,h2,h3,h4,h5,h6⟩:=hp;have hc:=Ak p ge 229 [.fp [.int 1, .int D, .int K, .int R]] (λ _=>false) (λ x hx=>VR x D K R (h3 x hx) hK) no;have he:(p.any λ _=>false)=false:=gt;rw [he] at hc;have hc6:=Ay p ge 6;have hc7:=Ay p ge 7;have hc8:=Ay p ge 8;have a1:0<p.length:=ge;have a2:(p.length:Int)<=8:=ge;have a3:(cc p 6:Int)<=2:=ge;have a4:(cc p 7:Int)<=1:=ge;have a5:(cc p 8:Int)<=1:=ge;refine J3 a1 a2 h2 ?_;refine zhm [bE p, .fn (.func 229) [] [.fp [.int 1, .int D, .int K, .int R]]] (.v (.bool false)) (λ _=>hc) (.v _) ?_ no ?_
 ·refine .cons (.refl _) (.cons (.fn .nil (.cons (.frzP rfl ?_ ?_ ?_ ?_) .nil)) .nil)<;>first|exact aY.refl _ _ _ _|simp [dO]
 refine J2 a1 a2 ?_;refine zhb _ (λ _=>hc6) no ?_;refine J1 a3 ?_;refine zhb _ (λ _=>hc7) no ?_;refine J1 a4 ?_;refine zhb _ (λ _=>hc8) no ?_;exact K1 a5
theorem zbb (n a b:Int):aq Tryz.prog 227 [.int n, .int a, .int b] (.v (.bool (decide (a<=n) && decide (n<=b)))):=by
 refine pF Tryz.func227 ?_;exact K0
theorem Bw {n a b:Int} (h1:a<=n) (h2:n<=b):aq Tryz.prog 227 [.int n, .int a, .int b] (.v (.bool true)):=by
 have:=zbb n a b;rwa [show (decide (a<=n) && decide (n<=b))=true by grind] at this
theorem Qw (b:cg) (hb:c8 b) (x:Int) (hx: -1<=x∧x<b.cells):aq Tryz.prog 228 [.int x, .fp [.fn (.func 227) [] []], .fp (gR b)] (.v (.bool false)):=by
 refine pF Tryz.func228 ?_;have hI:=Bw (n:=x) (a:= -1) (b:=b.cells - 1) hx.1 ge;have hc0:=hb.c0;have hc1:=hb.c1;refine J0 ?_;refine aP hI ?_;exact K0
theorem Nz (b:cg) (hb:c8 b) (h1:1<=b.cells) (h2:b.cells<=64) (h3:1<=b.next.length) (h4:b.next.length<=8) (ht:∀d,d<b.turn.length->ac b.turn (ac b.turn d).toNat=d):
  aq Tryz.prog 181 [.agg (gR b)] (.v (.bool true)):=by
 refine pF Tryz.func181 ?_;have hO:=λ x hx=>Qw b hb x hx;obtain ⟨tl,tv,nl,nv,c0,c1,n1⟩:=hb;have hI1:=Bw (n:=b.cells) (a:=1) (b:=64) h1 h2;have hI2:=Bw (n:=b.next.length) (a:=1) (b:=8) ge ge;refine J0 ?_;refine aP hI1 ?_;refine J0 ?_;refine zhb _ (λ _=>hI2) no ?_;refine J1 tl ?_;refine zg3 (zg5 (α:=Nat) (λ d=>⟨[(1, .ref 0 0 3 0 0),(3, .int b.next.length),(4, .ref 1 0 1 0 0),(29,fu b.next),(30, .int b.next.length),(31, .int d)],
   [(0, .rows true 0 3 [gR b]),(1, .rows true 0 1 [[.fn (.func 227) [] []]])],2⟩)
  (λ f d=>d+f=b.next.length) ?_ b.next.length 0 ?_) ?_ ?_
 ·rintro f d i1 hrec;refine J0 ?_;refine zg4 (λ hd=> ?_) (λ hd=> ?_)<;>simp at hd
  ·have hm:=am hd;have hlen:=nl _ hm;have hv:=nv _ hm;have hdt:d<b.turn.length:=ge;have htv:=tv _ (am hdt);have hti:(ac b.turn d).toNat<b.turn.length:=ge;have htt:=ht d hdt;have hCF:=ud (ac b.next d) (by unfold kn;omega) 228 [] [.fp [.fn (.func 227) [] []], .fp (gR b)] (λ _=>false) (λ x hx=>hO x (hv x hx)) gt no;rw [show ((ac b.next d).any λ _=>false)=false by simp] at hCF;have hI3:=Bw (n:=ac b.turn d) (a:=0) (b:=(b.next.length:Int) - 1) htv.1 ge;refine J2 hd hlen ?_;refine zhm [aS (ac b.next d), .fn (.func 228) [] [.fp [.fn (.func 227) [] []], .fp (gR b)]] (.v (.bool false)) (λ _=>hCF) (.v _) ?_ no ?_
   ·refine .cons (.refl _) (.cons (.fn .nil (.cons (.frzP rfl ?_ ?_ ?_ ?_) (.cons (.frzP rfl ?_ ?_ ?_ ?_) .nil))) .nil)<;>first|exact aY.refl _ _ _ _|simp [dO]
   refine J2 hd hdt ?_;refine dP hI3 ?_;refine J4 hd hdt hti htt ?_;refine zg3 (hrec (f - 1) ge (d+1) ge) ?_ gt;simp [go_sem,aj]
  ·exact K0
 ·simp
 ·simp [go_sem,aj]
 ·simp
def dI (g:ae):Prop:=g.kinds.map (·.name)= [xa]∨g.kinds.map (·.name)= [xa,zX]
theorem dI.name {g:ae} (h:dI g):∀k ∈ g.kinds,k.name=xa∨k.name=zX:=by
 intro k hk;have hm:k.name ∈ g.kinds.map (·.name):=List.mem_map.2 ⟨k,hk,rfl⟩;rcases h with h|h<;>rw [h] at hm<;>simp at hm
 ·exact .inl hm
 ·exact hm
theorem O2:(xa.toList==zX.toList)=false:=XK
theorem dI.find {g:ae} (h:dI g){i:Nat} (hi:i<g.kinds.length):E5 (λ k:kT=>k.name.toList==(ac g.kinds i).name.toList) g.kinds=i:=by
 refine Ca hi (λ j hj=> ?_) gt;have hn:∀j,j<g.kinds.length->(ac g.kinds j).name=ac (g.kinds.map (·.name)) j:=λ j hj=>(aJ _ _ _ hj).symm;grind [O2,ac,dI]
theorem Mv (g:ae) (hg:bN g) (p:List (Int×Int)) (hp:uS g.next.length g.kinds.length g.rights p):aq Tryz.prog 183 [bE p, .fp (ai g)] (.v (.bool false)):=by
 refine pF Tryz.func183 ?_;have hV:=Pg p _ _ _ hp ge;refine J0 ?_;refine aP hV ?_;exact K0
theorem Mu (g:ae) (hg:bN g) (c:Int×Int×Int×Int) (hc:qN g.cells g.kinds.length c):aq Tryz.prog 189 [.agg (cd c), .fp (ai g)] (.v (.bool false)):=by
 refine pF Tryz.func189 ?_;have hk6:=hg.k6;have hV:=St g c ge hc;have hbl:∀n,(∀c' ∈ ai g,aN n c')=True:=λ n=>no;have hel:(ai g).length=9:=rfl;have het:(ai g).take 9=ai g:=rfl;generalize ai g=eg at *;refine J2 hel het ?_;refine zg7 hV WB ?_;exact K0
theorem Ej (g:ae) (hg:bN g) (hn:dI g):aq Tryz.prog 135 [.agg (ai g)] (.v (.bool true)):=by
 refine pF Tryz.func135 ?_;have hB:=Nz g.board hg.board hg.c1 (by have:=hg.c9;grind [ae.board]) hg.d1 hg.d8 hg.turn;have hW:=λ p hp=>Mv g hg p hp;have hWC:=λ c hc=>Mu g hg c hc;have hRb:=uV g.blocked;rw [show (decide (1<=g.blocked) && decide (g.blocked<=3))=true by simp [hg.bl]] at hRb;have hRe:=uV g.endless;rw [show (decide (1<=g.endless) && decide (g.endless<=3))=true by simp [hg.en]] at hRe;have k1:=hg.k1;have k6:=hg.k6;have r0:=hg.r0;have r4:=hg.r4;have cn:=hg.cn;have hF:=λ (nm:ByteArray)=>Re g nm ge;have hbl:∀n,(∀c' ∈ ai g,aN n c')=True:=λ n=>no;have heB:gR g.board= [.int g.cells,fu g.next,aS g.turn]:=rfl;have heG:ai g= [.int g.cells,fu g.next,aS g.turn, .lst 3 (g.kinds.map cH), .int g.rights, .v (.bool g.must), .lst 4 (g.clauses.map cd), .int g.blocked, .int g.endless]:=rfl;have d1:¬(g.kinds.length:Int)<1:=ge;have d2:¬6<(g.kinds.length:Int):=ge;have d3:¬g.rights<0:=ge;have d4:¬4<g.rights:=ge;have d5:¬6<(g.clauses.length:Int):=ge;rw [heB] at hB;refine J0 ?_;refine aP hB ?_;refine J5 d1 d2 d3 d4 d5 ?_;refine zhb _ (λ _=>hRb) pi ?_;refine J0 ?_;refine zhb _ (λ _=>hRe) pi ?_;refine J0 ?_;refine zg3 (zg5 (α:=Nat) (λ i=>⟨[(1, .ref 0 0 9 0 0),(51, .lst 3 (g.kinds.map cH)),(52, .int g.kinds.length),(53, .int i)], [(0, .rows true 0 9 [ai g])],1⟩)
  (λ d i=>i+d=g.kinds.length) ?_ g.kinds.length 0 ?_) ?_ ?_
 ·rintro d i i1 hrec;refine J0 ?_;refine zg4 (λ hi=> ?_) (λ hi=> ?_)<;>simp at hi
  ·have hm:=am hi;have hVN:=Io _ (hn.name _ hm);have hFi:=hF (ac g.kinds i).name;rw [hn.find hi] at hFi;have hpn:=hg.pn _ hm;have d6:¬8<((ac g.kinds i).progs.length:Int):=ge;have hCP:=Aj (ac g.kinds i).progs ge 183 [.fp (ai g)] (λ _=>false) (λ p hp=>hW p (hg.pr _ hm p hp)) no;rw [show ((ac g.kinds i).progs.any λ _=>false)=false by simp] at hCP;rw [heG] at hFi;refine J1 hi ?_;refine aP hVN ?_;refine J0 ?_;refine zhb _ (λ _=>hFi) no ?_;refine J1 d6 ?_;refine zhm [.lst 1 ((ac g.kinds i).progs.map λ p=> [bE p]), .fn (.func 183) [] [.fp (ai g)]] (.v (.bool false)) (λ _=>hCP) (.v _) ?_ no ?_
   ·refine .cons (.refl _) (.cons (.fn .nil (.cons (.frzP rfl ?_ ?_ ?_ ?_) .nil)) .nil)<;>first|exact aY.refl _ _ _ _|simp [dO]
   refine J0 ?_;refine zg3 (hrec (d - 1) ge (i+1) ge) ?_ gt;simp [go_sem,aj]
  ·have hCC:=Ag g.clauses ge 189 [.fp (ai g)] (λ _=>false) (λ c hc=>hWC c (hg.cl c hc)) no;rw [show (g.clauses.any λ _=>false)=false by simp] at hCC;refine J0 ?_;refine zhi (args':= [.lst 4 (g.clauses.map cd), .fn (.func 189) [] [.fp (ai g)]]) hCC (.v _) ?_ no ?_
   ·refine .cons (.refl _) (.cons (.fn .nil (.cons (.frzP rfl ?_ ?_ ?_ ?_) .nil)) .nil)<;>first|exact aY.refl _ _ _ _|simp [dO]
   exact K0
 ·simp
 ·simp [go_sem,aj]
 ·simp
def aZ (g:ae):Bool:=decide (g.clauses.length=0) && decide (g.rights=0) && !g.must && !(g.kinds.any λ k=>k.keep) && decide (g.blocked=3) && decide (g.endless=2)
theorem Rv (k:kT):aq Tryz.prog 134 [.agg (cH k)] (.v (.bool k.keep)):=by
 refine pF Tryz.func134 ?_;exact K0
theorem sq (g:ae) (hg:bN g) (hn:dI g):aq Tryz.prog 86 [.agg (ai g)] (.v (.bool (aZ g))):=by
 refine pF Tryz.func86 ?_;have hV:=Ej g hg hn;have k6:=hg.k6;have hK:=Ah g.kinds ge 134 [] (λ k=>k.keep) (λ k _=>Rv k) gt;have heG:ai g= [.int g.cells,fu g.next,aS g.turn, .lst 3 (g.kinds.map cH), .int g.rights, .v (.bool g.must), .lst 4 (g.clauses.map cd), .int g.blocked, .int g.endless]:=rfl;rw [heG] at hV;unfold aZ;refine J0 ?_;refine aP hV ?_;refine J0 ?_;refine zhb _ (λ _=>hK) no ?_;exact K0
end Go.Av
end
section
/- solve.sorted, solve.Next. -/
set_option linter.unusedSectionVars false
open Go Go.Proofs
namespace Go.Av
theorem PP (l:List aa) (hi:lm l) (hl:l.length<=4000) (hf:∀q ∈ l,bH q):aq Tryz.prog 212 [aO l] (.bool true):=by
 refine pF Tryz.func212 ?_;refine J0 ?_;refine zg3 (zg5 (α:=Nat) (λ i=>⟨[(0,aO l),(6, .int ((l.length:Int) - 1)),(7, .int i)], [],0⟩) (λ d i=>i+d=l.length) ?_ l.length 0 ?_) ?_ ?_;rotate_left
 ·simp
 ·simp [go_sem,aj]
 ·simp
 rintro d i i1 hrec;refine J0 ?_;refine zg4 (λ hi0=> ?_) (λ hi0=> ?_)<;>simp at hi0
 ·have h0:i<l.length:=by omega
  have h1:i+1<l.length:=ge;have hC:=jD (ac l i) (ac l (i+1)) (hf _ (am h0)) (hf _ (am h1));have hlt:=hi.lt (i:=i) (j:=i+1) ge h1;have n0:ac (l.map ak) i=ak (ac l i):=aJ _ _ _ h0;have n1:ac (l.map ak) (i+1)=ak (ac l (i+1)):=aJ _ _ _ h1;generalize bi (ac l i) (ac l (i+1))=x at *;generalize ac l i=a at *;generalize ac l (i+1)=b at *;refine J4 h0 h1 n0 n1 ?_;refine dP hC ?_;refine J0 ?_;refine zg4 (λ hx=> ?_) (λ hx=> ?_)<;>simp at hx
  ·exfalso;omega
  ·refine J0 ?_;refine zg3 (hrec (d - 1) ge (i+1) ge) ?_ gt;simp [go_sem,aj]
 ·exact K0
theorem zcA (g:ae) (hg:bN g) (p:aa) (hp:bw g p):aq Tryz.prog 209 [.agg (ak p), .fp (ai g)] (.bool false):=by
 have hV:=FU g W2 ⟨hg.r0,Xn⟩ p (hp.fits hg);rw [zq.2 hp] at hV;have hegl:(ai g).length=9:=rfl;have hegb:∀n,(∀c ∈ ai g,aN n c)=True:=λ n=>no;refine pF Tryz.func209 ?_;generalize ai g=eg at *;have htk:List.take 9 eg=eg:=List.take_of_length_le ge;refine J3 hegl hegb htk ?_;refine zg7 hV (by simp [go_sem,hegb]) ?_;exact K0
def s9 (f:Nat->List AV) (z:List AV) (m j:Nat):List (List AV):=(List.range m).map λ i=>if i<j then f i else z
@[go_sem] theorem BW (f:Nat->List AV) (z:List AV) (m j:Nat):(s9 f z m j).length=m:=by simp [s9]
@[go_sem] theorem Vl (f:Nat->List AV) (z:List AV) (m:Nat):s9 f z m 0=List.replicate m z:=by
 unfold s9;refine List.ext_getElem gt λ i h1 h2=>gt
theorem zbV (f:Nat->List AV) (z:List AV) (m j:Nat):(s9 f z m j).set j (f j)=s9 f z m (j+1):=by
 refine List.ext_getElem (by simp [s9]) λ i h1 h2=> ?_;grind [s9]
theorem zbT (f:Nat->List AV) (z:List AV) (m:Nat):s9 f z m m=(List.range m).map f:=by
 simp_all [s9]
theorem zbU {f:Nat->List AV}{z:List AV}{m j n:Nat} (hf:∀i,∀c ∈ f i,aN n c) (hz:∀c ∈ z,aN n c):∀r ∈ s9 f z m j,∀c ∈ r,aN n c:=by
 grind [s9]
def Dx:List AV:= [.v (.slice none 0 0)]
theorem NG {l:List (List Nat)}{m j n:Nat}:(∀r ∈ s9 (λ i=>cC (ac l i)) Dx m j,∀c ∈ r,aN n c)=True:=by
 refine eq_true (zbU (λ i c hc=> ?_) (λ c hc=> ?_))
 ·grind [cC,nS]
 ·simp only [Dx,List.mem_singleton] at hc;subst hc;exact .v _
attribute [go_sem ↓] NG
theorem lm.nodup {l:List aa} (h:lm l):l.Nodup:=h.imp λ {a b} hab e=>by
 subst e;have:=(bp.eq a a).2 rfl;omega
theorem L8 {α:Type} [Inhabited α] {l:List α} (h:l.Nodup){i:Nat} (hi:i<l.length):ac l i ∉ l.take i:=λ hm=>by
 grind [List.mem_iff_getElem,List.getElem_inj,ac]
theorem yp {h h':au}{n:Nat}{x y:List AV} (hx:aY h h' n x y):∀ (l:List (List AV)) (k:Nat),bg h h' n (l.set k x) (l.set k y)
 | [], _=> .refl _
 |z::l,0=> .cons hx (.refl _)
 |z::l,k+1=> .cons (.refl _ _ _ _) (yp hx l k)
theorem Bz {n:Nat}{l:List (List AV)}{k:Nat}{x:List AV} (h1:∀r ∈ l,∀c ∈ r,aN n c) (h2:∀c ∈ x,aN n c):∀r ∈ l.set k x,∀c ∈ r,aN n c:=by
 grind
def DK (l:List aa) (x:aa):List AV:= [xl x, .int (dZ l x:Nat)]
theorem NH (n:Nat) (l k:List aa):(∀r ∈ k.map (DK l),∀c ∈ r,aN n c)=True:=eq_true λ r hr c hc=>by
 obtain ⟨x, _,rfl⟩:=List.mem_map.1 hr;simp only [DK,xl,List.mem_cons,List.not_mem_nil,or_false] at hc;rcases hc with rfl|rfl<;>exact .v _
def aV (g:ae) (l:List aa):List (List Nat):=l.map λ p=>(an g p).map (dZ l)
theorem P9 (g:ae) (hg:bN g) (hn:dI g) (l:List aa) (hi:lm l) (hl:l.length<=4000) (hv:∀q ∈ l,bw g q) (hc:∀q ∈ l,∀m ∈ an g q,m ∈ l):
  aq Tryz.prog 153 [.agg (ai g),aO l] (.tup [aG (aV g l), .int 0]):=by
 have hV:=Ej g hg hn;have hS:=PP l hi hl (λ q hq=>(hv q hq).fits hg);have hO:=Ai l ge 209 [] [.fp (ai g)] (λ _=>false) (λ q hq=>zcA g hg q (hv q hq)) gt no;rw [show (l.any λ _=>false)=false by simp] at hO;have hegl:(ai g).length=9:=rfl;have hegb:∀n,(∀c ∈ ai g,aN n c)=True:=λ n=>no;refine pF Tryz.func153 ?_;refine J0 ?_;refine aP hV ?_;have d1:¬4000<(l.length:Int):=ge;refine J1 d1 ?_;refine zhm [aO l, .fn (.func 209) [] [.fp (ai g)]] (.v (.bool false)) (λ _=>hO) (.v _) ?_ no ?_
 ·refine .cons (.refl _) (.cons (.fn .nil (.cons (.frzP rfl ?_ ?_ ?_ ?_) .nil)) .nil)<;>first|exact aY.refl _ _ _ _|simp [dO]
 refine J0 ?_;refine zhb _ (λ _=>hS) no ?_;refine J0 ?_;have hnd:=hi.nodup;have hd3:Int.toNat ((l.length:Nat):Int)=l.length:=rfl;refine zg3 (zg5 (α:=Nat) (λ i=>⟨[(1,aO l),(2, .ref 0 0 9 0 0),(7, .mp 1),(37,aO l),(38, .int l.length),(39, .int i)], [(0, .rows true 0 9 [ai g]),(1, .rows true 0 2 ((l.map (DK l)).take i))],2⟩) (λ d i=>i+d=l.length) ?_ l.length 0 ?_) ?_ ?_;rotate_left
 ·simp
 ·simp [go_sem,aj]
 ·simp
 rintro d i i1 hrec;refine J0 ?_;refine zg4 (λ hi0=> ?_) (λ hi0=> ?_)<;>simp at hi0
 ·have h0:i<l.length:=by omega
  have hK:=qj hg (hv _ (am h0));have n0:ac (l.map ak) i=ak (ac l i):=aJ _ _ _ h0;have hput:=(s8 (ac l i) (λ x=> .int (dZ l x:Nat)) (l.take i) λ u hu e=>ym hg (hv _ (am h0)) (hv u (List.mem_of_mem_take hu)) e).2 (L8 hnd h0) (.int i);have hix:=Tx hnd h0;have hsn:l.take (i+1)=l.take i++ [ac l i]:=X9;have hput:gz .string (.v (.string (lM (ac l i)))) (.int i) ((l.map (DK l)).take i)=some ((l.map (DK l)).take (i+1)):=by
   rw [<- List.map_take,<- List.map_take,hsn,List.map_append,List.map_singleton,DK,hix];exact hput
  clear hsn;generalize ac l i=q at *;refine J2 h0 n0 ?_;refine aP hK ?_;refine J1 hput ?_;refine zg3 (hrec (d - 1) ge (i+1) ge) ?_ gt;simp [go_sem,aj];intro r hr c hc;exact of_eq_true (NH 2 l l) r (List.mem_of_mem_take hr) c hc
 ·obtain rfl:i=l.length:=by omega
  have htl:(l.map (DK l)).take l.length=l.map (DK l):=List.take_of_length_le gt;have hnl:(aV g l).length=l.length:=W4;obtain ⟨F,hF⟩:∃F:Nat->List AV,F=λ i=>cC (ac (aV g l) i):=⟨_,rfl⟩
  have hbF:∀n j,(∀r ∈ s9 F Dx l.length j,∀c ∈ r,aN n c)=True:=λ n j=>by rw [hF];exact NG
  have hbF':∀n i,∀c ∈ F i,aN n c:=λ n i c hc=>by
   grind [cC,nS]
  have hR:(aV g l).map cC=s9 F Dx l.length l.length:=by
   rw [zbT,hF];refine List.ext_getElem pi λ i h1 h2=> ?_;grind [ac]
  have hFi:∀i,i<l.length->F i=cC ((an g (ac l i)).map (dZ l)):=λ i hi=>by
   grind [aV,ac]
  have hbJ:∀n,(∀r ∈ l.map (DK l),∀c ∈ r,aN n c)=True:=λ n=>NH n l l;have hbJ':∀n,∀a ∈ l,∀c ∈ DK l a,aN n c:=λ n a ha=>of_eq_true (hbJ n) _ (List.mem_map_of_mem ha);rw [aG,hR];clear hF hR;refine J1 htl ?_;refine zg3 (zg5 (α:=Nat) (λ i=>⟨[(2, .ref 0 0 9 0 0),(7, .mp 1),(10, .sl 2 0 1 0 l.length),(52,aO l),(53, .int l.length),(54, .int i)], [(0, .rows true 0 9 [ai g]),(1, .rows true 0 2 (l.map (DK l))),(2, .rows true 0 1 (s9 F Dx l.length i))],3⟩) (λ d i=>i+d=l.length) ?_ l.length 0 ?_) ?_ ?_;rotate_left
  ·simp
  ·simp [go_sem,aj,htl,hbJ,hbF,Vl,Dx];grind
  ·simp
  rintro d2 i j1 hrec2;refine J0 ?_;refine zg4 (λ hi1=> ?_) (λ hi1=> ?_)<;>simp at hi1
  ·have h0:i<l.length:=by omega
   have hq:=hv _ (am h0);have hM:=pQ g hg _ hq;have hml:=cG hg hq;have hmo:=λ m hm=>(bD hg hq m hm).1;have hmc:=hc _ (am h0);have hFi:=hFi i h0;have n0:ac (l.map ak) i=ak (ac l i):=aJ _ _ _ h0;generalize ac l i=q at *;generalize an g q=mv at *;refine J2 h0 n0 ?_;refine aP hM ?_;refine J0 ?_;obtain ⟨W,hW⟩:∃W,W=(mv.map (dZ l)).map bu:=⟨_,rfl⟩
   have hWl:W.length=mv.length:=pi;have hWb:∀n j,(∀r ∈ W.take j,∀c ∈ r,aN n c)=True:=λ n j=>by rw [hW,<- List.map_take];exact lU n _
   have hFi:F i= [.lst 1 W]:=by grind [cC,aX]
   have hWs:∀j,j<mv.length->W.take (j+1)=W.take j++ [[.int (dZ l (ac mv j):Nat)]]:=λ j hj=>by
    grind [List.take_add_one,bu,ac]
   clear hW;have hbS:∀n j,4<n->∀r ∈ (s9 F Dx l.length i).set i [.sl 4 j 1 0 j],∀c ∈ r,aN n c:=λ n j hn=>Bz (of_eq_true (hbF n i)) λ c hc=>by
    rw [List.mem_singleton] at hc;subst hc;exact .sl hn
   refine zg3 (zg5 (α:=Nat) (λ j=>⟨[(2, .ref 0 0 9 0 0),(7, .mp 1),(10, .sl 2 0 1 0 l.length),(11, .int i),(52,aO l),(53, .int l.length),(54, .int i),(61,aO mv),(62, .int mv.length),(63, .int j)],
    [(0, .rows true 0 9 [ai g]),(1, .rows true 0 2 (l.map (DK l))),(2, .rows true 0 1 ((s9 F Dx l.length i).set i [.sl 4 j 1 0 j])),(4, .rows true j 1 (W.take j))],5⟩) (λ d j=>j+d=mv.length) ?_ mv.length 0 ?_) ?_ ?_
   rotate_left
   ·simp
   ·simp [go_sem,aj,hbJ];refine ⟨hbJ' 5, ?_,hbS 5 0 ge⟩;rw [show s9 F Dx l.length i=(s9 F Dx l.length i).set i Dx by
     refine List.ext_getElem gt λ a h1 h2=> ?_;simp_all [List.getElem_set,s9],List.set_set]
    exact yp (.cons (.own ge Ym) .nil) _ _
   ·simp
   rintro d3 j k1 hrec3;refine J0 ?_;refine zg4 (λ hj=> ?_) (λ hj=> ?_)<;>simp at hj
   ·have hjm:=hmc _ (am hj);have hK:=qj hg (hmo _ (am hj));have n1:ac (mv.map ak) j=ak (ac mv j):=aJ _ _ _ hj;have hfind:=(s8 (ac mv j) (λ x=> .int (dZ l x:Nat)) l λ u hu e=>ym hg (hmo _ (am hj)) (hv u hu) e).1;rw [if_pos hjm] at hfind;have hfind:eM .string (.v (.string (lM (ac mv j)))) (l.map (DK l))=some (some (.int (dZ l (ac mv j):Nat))):=hfind;have hsn:=hWs j hj;have htk:(W.take j).length=j:=by rw [List.length_take,hWl];omega
    have hns:ac ((s9 F Dx l.length i).set i [.sl 4 j 1 0 j]) i= [.sl 4 j 1 0 j]:=by
     simp_all [dT,BW]
    generalize ac mv j=m at *;refine J2 hj n1 ?_;refine aP hK ?_;have a8:(j+1) * 8<=17592186044416:=ge;repeat first|refine wV λ _=>?_|simp [go_sem,hfind,h0,hns,BW,htk,a8]
    refine zg3 (hrec3 (d3 - 1) ge (j+1) ge) ?_ gt;simp [go_sem,aj,hbJ,hWb,hsn];exact ⟨hbJ' 5,hbS 5 (j+1) ge⟩
   ·obtain rfl:j=mv.length:=by omega
    have htk:W.take mv.length=W:=List.take_of_length_le ge;refine J0 ?_;refine zg3 (hrec2 (d2 - 1) ge (i+1) ge) ?_ gt;simp [go_sem,aj,hbJ,hbF,htk];refine ⟨hbJ' 3, ?_⟩;rw [<- zbV,hFi];refine yp (.cons ?_ .nil) _ _;refine aI (mt:=true) (rs:=W) Wp ge (by simp_all [aC]) ?_;grind
  ·obtain rfl:i=l.length:=by omega
   refine J0 ?_;refine eY.frz (mt:=true) (rs:=s9 F Dx l.length l.length) Wp (by simp [BW]) Xb ?_;grind [zhd,BW]
end Go.Av
end
section
/- Plain: chapter 7: values of a closed list, round by round. -/
open Go Go.Proofs
namespace Go.Av
def gU (v:Nat->Option (Int×Nat)):List Nat->Nat
 | []=>0
 |j::l=>match v j with
  |some (o,n)=>if o=1 then max n (gU v l) else gU v l
  |none=>gU v l
def Bh (v:Nat->Option (Int×Nat)) (j:Nat):Bool:=match v j with
 |some (o, _)=>decide (o=1)
 |none=>false
def xv (v:Nat->Option (Int×Nat)) (l:List Nat) (n:Nat):Option (Int×Nat):=
 if l.any (λ j=>decide (v j=some (3,n - 1)))=true then some (1,n)
 else if l.all (Bh v)=true∧gU v l=n - 1 then some (3,n) else none
section
variable (nx:Nat->List Nat) (en:Nat->Option Int)
def fO:Nat->Nat->Option (Int×Nat)
 |0,i=>(en i).map λ o=>(o,0)
 |m+1,i=>match fO m i with
  |some x=>some x
  |none=>xv (fO m) (nx i) (m+1)
def ee (i:Nat) (o:Int) (N:Nat):Prop:=fO nx en N i=some (o,N)
end
variable {o:Int} {x:Int×Nat} {N i k m:Nat}
section
variable {nx:Nat->List Nat} {en:Nat->Option Int}
theorem Km  (h:fO nx en m i=some x):fO nx en (m+1) i=some x:=by rw [fO,h]
theorem Dw  (h:fO nx en m i=none):fO nx en (m+1) i=xv (fO nx en m) (nx i) (m+1):=by rw [fO,h]
theorem vT  (h:fO nx en m i=some x):∀ {k:Nat},m<=k->fO nx en k i=some x:=by
 intro k hk;obtain ⟨d,rfl⟩:=Nat.exists_eq_add_of_le hk;induction d<;>grind [Km]
theorem jp {i:Nat}{o:Int}{N:Nat}:∀ {m:Nat},fO nx en m i=some (o,N)->N<=m∧ee nx en i o N
 |0,h=>by
  grind [fO,Option.map_eq_some_iff,ee]
 |m+1,h=>by
  cases hm:fO nx en m i with
  |some x=>
   have h2:=Km hm;rw [h] at h2;obtain ⟨h3,h4⟩:=jp hm;grind
  |none=>
   grind [xv,ee,fO]
theorem ee.at  (h:ee nx en i o N) (hm:N<=m):fO nx en m i=some (o,N):=vT h hm
theorem ee.one {o':Int}{N':Nat} (h:ee nx en i o N) (h':ee nx en i o' N'):o=o'∧N=N':=by
 have h1:=h.at (Nat.le_max_left N N');have h2:=h'.at (Nat.le_max_right N N');grind
theorem Hx  (h:∀o N,N<=m->¬ee nx en i o N):fO nx en m i=none:=by
 cases hm:fO nx en m i with
 |none=>rfl
 |some x=>
  obtain ⟨h1,h2⟩:=jp hm;grind
theorem G3 {v:Nat->Option (Int×Nat)}{f:Nat->Nat}:∀ {l:List Nat},(∀j ∈ l,v j=some (1,f j))->∀ {M:Nat},(∀j ∈ l,f j<=M)->(∃j ∈ l,f j=M)->gU v l=M
 | [], _,M, _,⟨j,hj, _⟩=>by cases hj
 |a::l,hv,M,hM,⟨j,hj,he⟩=>by
  rw [gU,hv a gt];simp only [if_true];have h1:=hM a gt;have hle:gU v l<=M:=by
   by_cases hn:l= []
   ·grind [gU]
   ·obtain ⟨r,hr,hmax⟩:=jz f hn;rw [G3 (λ j hj=>hv j (List.mem_cons.2 (.inr hj))) hmax ⟨r,hr,rfl⟩];grind
  rcases List.mem_cons.1 hj with rfl|hj
  ·omega
  ·rw [G3 (λ j hj=>hv j (List.mem_cons.2 (.inr hj))) (λ j hj=>hM j (List.mem_cons.2 (.inr hj))) ⟨j,hj,he⟩];omega
theorem T5 {j:Nat} (hk:∀o M,M<=N->¬ee nx en k o M) (hj:j ∈ nx k) (hv:ee nx en j 3 N):ee nx en k 1 (N+1):=by
 grind [ee,Dw,Hx,xv]
theorem In  (hk:∀o M,M<=N->¬ee nx en k o M){f:Nat->Nat} (hall:∀j ∈ nx k,ee nx en j 1 (f j)∧f j<=N) (hN:∃j ∈ nx k,f j=N):ee nx en k 3 (N+1):=by
 have hv:∀j ∈ nx k,fO nx en N j=some (1,f j):=λ j hj=>(hall j hj).1.at (hall j hj).2;unfold ee;rw [Dw (Hx hk)];unfold xv;rw [if_neg,if_pos ⟨List.all_eq_true.2 λ j hj=>by grind [Bh],by rw [G3 hv (λ j hj=>(hall j hj).2) hN,Nat.add_sub_cancel]⟩];grind
theorem mJ  (h:ee nx en k o (N+1)):(o=1∧∃j ∈ nx k,ee nx en j 3 N)∨(o=3∧∀j ∈ nx k,∃M,M<=N∧ee nx en j 1 M):=by
 have hn:fO nx en N k=none:=Hx λ o' M hM hv=>by
  have:=(h.one hv).2;omega
 unfold ee at h;rw [Dw hn] at h;unfold xv at h;split at h
 ·grind [ee]
 ·split at h
  ·rename_i ha;simp only [Option.some.injEq,Prod.mk.injEq] at h;refine .inr ⟨h.1.symm,λ j hj=> ?_⟩;have hw:=List.all_eq_true.1 ha.1 j hj;unfold Bh at hw;cases hv:fO nx en N j with
   |none=>grind
   |some x=>
    obtain ⟨o',M⟩:=x;rw [hv] at hw;have ho:o'=1:=of_decide_eq_true hw;obtain ⟨h1,h2⟩:=jp hv;grind
  ·cases h
theorem pE :ee nx en k o 0↔en k=some o:=by
 grind [ee,fO,Option.map_eq_some_iff]
end
end Go.Av
end
section
/- Plain: chapter 7: the queue of solve.Values finds the values of the rounds. -/
open Go Go.Proofs
namespace Go.Av
structure QS where
 S:List Nat
 out:Nat->Option (Int×Nat)
 left:Nat->Nat
def QS.settle (s:QS) (k:Nat) (o:Int) (N:Nat):QS:=⟨s.S++ [k],λ j=>if j=k then some (o,N) else s.out j,s.left⟩
def QS.dec (s:QS) (k:Nat):QS:=⟨s.S,s.out,λ j=>if j=k then s.left k - 1 else s.left j⟩
def uE (o:Int) (N:Nat) (s:QS) (k:Nat):QS:=
 if s.out k≠none then s
 else if o=3 then s.settle k 1 (N+1)
 else if o=1 then (if s.left k - 1=0 then (s.dec k).settle k 3 (N+1) else s.dec k)
 else s
section
variable {nx:Nat->List Nat} {en:Nat->Option Int} {n:Nat}
def vo (nx:Nat->List Nat) (k:Nat) (W:Nat->Bool):Nat:=((nx k).filter λ j=> !W j).length
def uc (out:Nat->Option (Int×Nat)) (j:Nat):Bool:=match out j with
 |some (o, _)=>decide (o=1)
 |none=>false
def jR (out:Nat->Option (Int×Nat)) (j:Nat):Nat:=match out j with
 |some (_,N)=>N
 |none=>0
structure zeN (nx:Nat->List Nat) (en:Nat->Option Int) (n:Nat) (D:Nat->Bool) (i:Nat) (o:Int) (N:Nat) (S0:List Nat) (out0:Nat->Option (Int×Nat)) (pre:List Nat) (s:QS):Prop where
 ex:∃T,s.S=S0++T∧(∀k ∈ T,k ∈ pre∧∃o',s.out k=some (o',N+1))
 nd:s.S.Nodup
 lt:∀k ∈ s.S,k<n
 old:∀k ∈ S0,s.out k=out0 k
 is:∀k,k<n->(k ∈ s.S↔s.out k≠none)
 val:∀k,k<n->∀o' M,s.out k=some (o',M)->ee nx en k o' M
 cnt:∀k,k<n->k ∉ s.S->s.left k=vo nx k (λ j=>(D j && uc out0 j)||(decide (j=i) && (decide (k ∈ pre) && decide (o=1))))∧1<=s.left k
 lost:∀k,k<n->k ∉ s.S->k ∈ pre->o≠3
theorem QZ {l:List Nat} (hn:l.Nodup){i:Nat} (hi:i ∈ l){p q:Nat->Bool} (hp:p i=true) (hq:q i=false) (he:∀j ∈ l,j≠i->p j=q j):(l.filter p).length=(l.filter q).length+1:=by
 induction l<;>grind [List.filter_congr]
theorem zeN.step {D:Nat->Bool}{i:Nat}{o:Int}{N:Nat}{S0:List Nat}{out0:Nat->Option (Int×Nat)}{pre:List Nat}{s:QS} (h:zeN nx en n D i o N S0 out0 pre s)
  (hnx:∀k,k<n->(nx k).Nodup) (hin:∀k,k<n->∀j ∈ nx k,j<n) (hD:D i=false) (hv:ee nx en i o N) (hcomp:∀k,k<n->∀o' M,M<=N->ee nx en k o' M->k ∈ S0)
  (hDv:∀j,j<n->D j=true->∃o' M,out0 j=some (o',M)∧ee nx en j o' M∧M<=N) {k:Nat} (hk:k<n) (hik:i ∈ nx k) (hkp:k ∉ pre):zeN nx en n D i o N S0 out0 (pre++ [k]) (uE o N s k):=by
 obtain ⟨T,hS,hT⟩:=h.ex;have hmem:∀ {j:Nat},j≠k->(j ∈ pre++ [k]↔j ∈ pre):=λ {j} hj=>by simp [hj]
 have hcong:∀j,j≠k->vo nx j (λ u=>(D u && uc out0 u)||(decide (u=i) && (decide (j ∈ pre++ [k]) && decide (o=1))))=vo nx j (λ u=>(D u && uc out0 u)||(decide (u=i) && (decide (j ∈ pre) && decide (o=1)))):=λ j hj=>by
  grind
 unfold uE;by_cases hs:s.out k≠none
 ·rw [if_pos hs];have hkS:=(h.is k hk).2 hs;refine ⟨⟨T,hS,λ j hj=>⟨List.mem_append.2 (.inl (hT j hj).1),(hT j hj).2⟩⟩,h.nd,h.lt,h.old,h.is,h.val,λ j hj hjS=> ?_,λ j hj hjS hjp=> ?_⟩
  ·have hjk:j≠k:=λ e=>hjS (e▸hkS);rw [hcong j hjk];exact h.cnt j hj hjS
  ·have hjk:j≠k:=λ e=>hjS (e▸hkS);exact h.lost j hj hjS ((hmem hjk).1 hjp)
 rw [if_neg hs];have hkS:k ∉ s.S:=λ hm=>hs ((h.is k hk).1 hm);have hk0:∀o' M,M<=N->¬ee nx en k o' M:=λ o' M hM hvk=>hkS pi;have hset:∀ (s':QS) (o':Int),s'.S=s.S->s'.out=s.out->(∀j,j≠k->s'.left j=s.left j)->ee nx en k o' (N+1)->zeN nx en n D i o N S0 out0 (pre++ [k]) (s'.settle k o' (N+1)):=by
  intro s' o' e1 e2 e3 hvk;have eS:(s'.settle k o' (N+1)).S=s.S++ [k]:=by grind [QS.settle]
  have eo:∀j,(s'.settle k o' (N+1)).out j=if j=k then some (o',N+1) else s.out j:=λ j=>by grind [QS.settle]
  refine ⟨⟨T++ [k],pi,λ j hj=> ?_⟩, ?_,λ j hj=> ?_,λ j hj=> ?_,λ j hj=> ?_,λ j hj o'' M he=> ?_,λ j hj hjS=> ?_,λ j hj hjS hjp=> ?_⟩
  ·grind
  ·rw [eS];exact List.nodup_append.2 ⟨h.nd,gt,λ a ha b hb e=>by
    grind⟩
  ·rw [eS] at hj;rcases List.mem_append.1 hj with hj|hj
   ·exact h.lt j hj
   grind
  ·have hjk:j≠k:=λ e=>hkS pi;rw [eo,if_neg hjk];exact h.old j hj
  ·rw [eS,eo,List.mem_append,List.mem_singleton];by_cases e:j=k
   ·grind
   ·rw [if_neg e,<- h.is j hj];grind
  ·rw [eo] at he;by_cases e:j=k
   ·grind
   ·rw [if_neg e] at he;exact h.val j hj o'' M he
  ·rw [eS,List.mem_append,List.mem_singleton,not_or] at hjS;have hl:(s'.settle k o' (N+1)).left j=s.left j:=e3 j hjS.2;rw [hl,hcong j hjS.2];exact h.cnt j hj hjS.1
  ·rw [eS,List.mem_append,List.mem_singleton,not_or] at hjS;exact h.lost j hj hjS.1 ((hmem hjS.2).1 hjp)
 by_cases h3:o=3
 ·grind [T5]
 rw [if_neg h3];obtain ⟨hc1,hc2⟩:=h.cnt k hk hkS;have hlost:∀j,j<n->j ∉ s.S->j ∈ pre++ [k]->o≠3:=λ j _ _ _=>h3;by_cases h1:o=1
 ·rw [if_pos h1];have hdec:vo nx k (λ u=>(D u && uc out0 u)||(decide (u=i) && (decide (k ∈ pre) && decide (o=1))))=vo nx k (λ u=>(D u && uc out0 u)||(decide (u=i) && (decide (k ∈ pre++ [k]) && decide (o=1))))+1:=by
   refine QZ (hnx k hk) hik ?_ ?_ λ j hj hji=> ?_;all_goals grind
  split
  ·have hz2:vo nx k (λ u=>(D u && uc out0 u)||(decide (u=i) && (decide (k ∈ pre++ [k]) && decide (o=1))))=0:=by omega
   have hall:∀j ∈ nx k,j=i∨(D j=true∧uc out0 j=true):=λ j hj=>by
    grind [vo]
   refine hset (s.dec k) 3 rfl rfl (λ j hj=>if_neg hj) (In hk0 (f:=λ j=>if j=i then N else jR out0 j) (λ j hj=> ?_) ⟨i,hik,if_pos rfl⟩);grind [uc,jR]
  ·refine ⟨⟨T,hS,λ j hj=>⟨List.mem_append.2 (.inl (hT j hj).1),(hT j hj).2⟩⟩,h.nd,h.lt,h.old,h.is,h.val,λ j hj hjS=> ?_,hlost⟩;show (if j=k then s.left k - 1 else s.left j)= _∧1<=(if j=k then s.left k - 1 else s.left j);by_cases e:j=k
   ·grind
   ·rw [if_neg e,hcong j e];exact h.cnt j hj hjS
 ·rw [if_neg h1];refine ⟨⟨T,hS,λ j hj=>⟨List.mem_append.2 (.inl (hT j hj).1),(hT j hj).2⟩⟩,h.nd,h.lt,h.old,h.is,h.val,λ j hj hjS=> ?_,hlost⟩;have e:vo nx j (λ u=>(D u && uc out0 u)||(decide (u=i) && (decide (j ∈ pre++ [k]) && decide (o=1))))=vo nx j (λ u=>(D u && uc out0 u)||(decide (u=i) && (decide (j ∈ pre) && decide (o=1)))):=by simp [h1]
  rw [e];exact h.cnt j hj hjS
end
end Go.Av
end
section
/- Plain: chapter 7: the queue of solve.Values, to its end. -/
open Go Go.Proofs
namespace Go.Av
def HT (bef:Nat->List Nat) (s:QS) (i:Nat):QS:=match s.out i with
 |some (o,N)=>(bef i).foldl (uE o N) s
 |none=>s
def uZ (bef:Nat->List Nat):Nat->Nat->QS->QS
 |0, _,s=>s
 |f+1,i,s=>if i<s.S.length then uZ bef f (i+1) (HT bef s (ac s.S i)) else s
section
variable {nx:Nat->List Nat} {en:Nat->Option Int} {n:Nat}
structure An (nx:Nat->List Nat) (en:Nat->Option Int) (n:Nat) (s:QS) (x:Nat):Prop where
 le:x<=s.S.length
 nd:s.S.Nodup
 lt:∀k ∈ s.S,k<n
 is:∀k,k<n->(k ∈ s.S↔s.out k≠none)
 val:∀k,k<n->∀o M,s.out k=some (o,M)->ee nx en k o M
 cnt:∀k,k<n->k ∉ s.S->s.left k=vo nx k (λ u=>decide (u ∈ s.S.take x) && uc s.out u)∧1<=s.left k
 lost:∀k,k<n->k ∉ s.S->∀j ∈ nx k,j ∈ s.S.take x->∀M,s.out j≠some (3,M)
 srt:∀a b,a<b->b<s.S.length->jR s.out (ac s.S a)<=jR s.out (ac s.S b)
 one:x<s.S.length->∀a,a<s.S.length->jR s.out (ac s.S a)<=jR s.out (ac s.S x)+1
 comp:x<s.S.length->∀k,k<n->∀o M,M<=jR s.out (ac s.S x)->ee nx en k o M->k ∈ s.S
 fin:x=s.S.length->∀k,k<n->∀o M,ee nx en k o M->k ∈ s.S
theorem LM {D:Nat->Bool}{i:Nat}{o:Int}{N:Nat}{S0:List Nat}{out0:Nat->Option (Int×Nat)} (hnx:∀k,k<n->(nx k).Nodup) (hin:∀k,k<n->∀j ∈ nx k,j<n) (hD:D i=false) (hv:ee nx en i o N)
  (hcomp:∀k,k<n->∀o' M,M<=N->ee nx en k o' M->k ∈ S0) (hDv:∀j,j<n->D j=true->∃o' M,out0 j=some (o',M)∧ee nx en j o' M∧M<=N):
  ∀ (post pre:List Nat) {s:QS},(pre++post).Nodup->(∀k ∈ post,k<n∧i ∈ nx k)->zeN nx en n D i o N S0 out0 pre s->zeN nx en n D i o N S0 out0 (pre++post) (post.foldl (uE o N) s)
 | [],pre,s, _, _,h=>pi
 |k::post,pre,s,hn,hp,h=>by
  have hkp:k ∉ pre:=λ hm=>by
   obtain ⟨_, _,h3⟩:=List.nodup_append.1 hn;exact h3 k hm k gt rfl
  obtain ⟨k1,k2⟩:=hp k gt;have h2:=h.step hnx hin hD hv hcomp hDv k1 k2 hkp;have:=LM hnx hin hD hv hcomp hDv post (pre++ [k]) (s:=uE o N s k) (by rw [List.append_assoc];exact hn) (λ j hj=>hp j (List.mem_cons.2 (.inr hj))) h2;rw [List.append_assoc] at this;exact this
theorem Jc {l:List Nat}{x j:Nat} (hx:x<l.length):j ∈ l.take (x+1)↔j ∈ l.take x∨j=ac l x:=by
 grind [List.take_add_one,ac]
theorem An.step {bef:Nat->List Nat}{s:QS}{x:Nat} (h:An nx en n s x) (hx:x<s.S.length) (hnx:∀k,k<n->(nx k).Nodup) (hin:∀k,k<n->∀j ∈ nx k,j<n)
  (hbn:∀i,i<n->(bef i).Nodup) (hb:∀i,i<n->∀k,k ∈ bef i↔k<n∧i ∈ nx k):An nx en n (HT bef s (ac s.S x)) (x+1):=by
 have him:=am hx;generalize hi:ac s.S x=i at him ⊢;have hil:=h.lt i him;obtain ⟨o,N,ho⟩:∃o N,s.out i=some (o,N):=by
  have:=(h.is i hil).1 him;cases hs:s.out i<;>grind
 have hdi:jR s.out i=N:=by grind [jR]
 have hv:=h.val i hil o N ho;have hD:decide (i ∈ s.S.take x)=false:=by
  rw [decide_eq_false_iff_not];intro hm;obtain ⟨a,ha,he⟩:=List.getElem_of_mem hm;rw [List.length_take] at ha;have:=RP h.nd (i:=a) (j:=x) ge hx Wx;omega
 have hcomp:∀k,k<n->∀o' M,M<=N->ee nx en k o' M->k ∈ s.S:=λ k hk o' M hM hv=>h.comp hx k hk o' M pi hv;have hDv:∀j,j<n->decide (j ∈ s.S.take x)=true->∃o' M,s.out j=some (o',M)∧ee nx en j o' M∧M<=N:=λ j hj hd=>by
  have hm:=of_decide_eq_true hd;obtain ⟨a,ha,he⟩:=List.getElem_of_mem hm;rw [List.length_take] at ha;have hjS:j ∈ s.S:=List.mem_of_mem_take hm;have hne:=(h.is j hj).1 hjS;cases hs:s.out j with
  |none=>grind
  |some p=>
   refine ⟨p.1,p.2,rfl,h.val j hj _ _ hs, ?_⟩;have:=h.srt a x ge hx;grind [jR,ac]
 have hW0:∀k,vo nx k (λ u=>(decide (u ∈ s.S.take x) && uc s.out u)||(decide (u=i) && (decide (k ∈ ([]:List Nat)) && decide (o=1))))=vo nx k (λ u=>decide (u ∈ s.S.take x) && uc s.out u):=λ k=>gt;have h0:zeN nx en n (λ u=>decide (u ∈ s.S.take x)) i o N s.S s.out [] s:=
  ⟨⟨[],gt,λ k hk=>(by cases hk)⟩,h.nd,h.lt,λ _ _=>rfl,h.is,h.val,λ k hk hkS=>by rw [hW0];exact h.cnt k hk hkS,λ k _ _ hk=>(by cases hk)⟩
 have hf:=LM hnx hin hD hv hcomp hDv (bef i) [] pi (λ k hk=>(hb i hil k).1 hk) h0;have hq:HT bef s i=(bef i).foldl (uE o N) s:=by grind [HT]
 rw [hq];rw [List.nil_append] at hf;generalize (bef i).foldl (uE o N) s=t at hf ⊢;obtain ⟨T,hS,hT⟩:=hf.ex;have hlen:t.S.length=s.S.length+T.length:=pi;have hnS:∀a,a<s.S.length->ac t.S a=ac s.S a:=λ a ha=>by
  grind [ac]
 have hnT:∀a,s.S.length<=a->a<t.S.length->ac t.S a ∈ T:=λ a h1 h2=>by
  grind [ac]
 have hdS:∀a,a<s.S.length->jR t.out (ac t.S a)=jR s.out (ac s.S a):=λ a ha=>by
  rw [hnS a ha];unfold jR;rw [hf.old _ (am ha)]
 have hdT:∀a,s.S.length<=a->a<t.S.length->jR t.out (ac t.S a)=N+1:=λ a h1 h2=>by
  grind [jR]
 have htake:∀j,j ∈ t.S.take (x+1)↔j ∈ s.S.take x∨j=i:=λ j=>by
  grind [Jc]
 have hold:∀j ∈ s.S,t.out j=s.out j:=hf.old;have hwin:∀j,j ∈ s.S->uc t.out j=uc s.out j:=λ j hj=>by grind [uc]
 have hcnt:∀k,k<n->k ∉ t.S->t.left k=vo nx k (λ u=>decide (u ∈ t.S.take (x+1)) && uc t.out u)∧1<=t.left k:=λ k hk hkS=>by
  obtain ⟨c1,c2⟩:=hf.cnt k hk hkS;refine ⟨c1.trans ?_,c2⟩;unfold vo;grind [List.filter_congr,uc]
 have hlost:∀k,k<n->k ∉ t.S->∀j ∈ nx k,j ∈ t.S.take (x+1)->∀M,t.out j≠some (3,M):=λ k hk hkS j hj hjt M he=>by
  have hkS0:k ∉ s.S:=λ hm=>hkS pi;rcases (htake j).1 hjt with hjt|rfl
  ·rw [hold j (List.mem_of_mem_take hjt)] at he;exact h.lost k hk hkS0 j hj hjt M he
  ·rw [hold j him,ho] at he;simp only [Option.some.injEq,Prod.mk.injEq] at he;exact hf.lost k hk hkS ((hb j hil k).2 ⟨hk,hj⟩) he.1
 have hsrt:∀a b,a<b->b<t.S.length->jR t.out (ac t.S a)<=jR t.out (ac t.S b):=λ a b hab hbl=>by
  by_cases hbs:b<s.S.length
  ·rw [hdS a ge,hdS b hbs];exact h.srt a b hab hbs
  ·by_cases has:a<s.S.length
   ·have:=h.one hx a has;grind
   grind
 have hall:∀a,a<t.S.length->jR t.out (ac t.S a)<=N+1:=λ a ha=>by
  by_cases has:a<s.S.length
  ·have:=h.one hx a has;grind
  grind
 have hN:jR t.out (ac t.S x)=N:=pi;have hnext:∀M,(∀j,j<n->∀o' M',M'<=M->ee nx en j o' M'->j ∈ t.S.take (x+1))->∀k,k<n->∀o',ee nx en k o' (M+1)->k ∈ t.S:=λ M hM k hk o' hvk=>by
  refine Classical.byContradiction λ hkS=> ?_;rcases mJ hvk with ⟨_,j,hj,hvj⟩|⟨_,hall2⟩
  ·have hjl:=hin k hk j hj;have hjt:=hM j hjl 3 M (Nat.le_refl _) hvj;have hjS:=List.mem_of_mem_take hjt;have hne:=(hf.is j hjl).1 hjS;cases hs:t.out j with
   |none=>grind
   |some p=>
    have hvp:=hf.val j hjl p.1 p.2 hs;obtain ⟨e1,e2⟩:=hvp.one hvj;grind
  ·obtain ⟨c1,c2⟩:=hcnt k hk hkS;have hz:vo nx k (λ u=>decide (u ∈ t.S.take (x+1)) && uc t.out u)=0:=by
    unfold vo;rw [List.length_eq_zero_iff,List.filter_eq_nil_iff];intro j hj;obtain ⟨M',hM',hvj⟩:=hall2 j hj;have hjl:=hin k hk j hj;have hjt:=hM j hjl 1 M' hM' hvj;have hne:=(hf.is j hjl).1 (List.mem_of_mem_take hjt);cases hs:t.out j with
    |none=>grind
    |some p=>
     have hvp:=hf.val j hjl p.1 p.2 hs;have e1:=(hvp.one hvj).1;grind [uc]
   omega
 refine ⟨ge,hf.nd,hf.lt,hf.is,hf.val,hcnt,hlost,hsrt,λ hx1 a ha=> ?_,λ hx1 k hk o' M hM hvk=> ?_,λ hx1=> ?_⟩
 ·have h1:=hall a ha;have h2:=hsrt x (x+1) ge hx1;omega
 ·have h1:=hall (x+1) hx1;have h2:=hsrt x (x+1) ge hx1;by_cases hMN:M<=N
  ·grind
  ·have hM1:M=N+1:=by omega
   subst hM1;refine hnext N (λ j hj o'' M' hM' hvj=> ?_) k hk o' hvk;have hjS:j ∈ t.S:=pi;obtain ⟨a,ha,he⟩:=List.getElem_of_mem hjS;have hda:jR t.out (ac t.S a)=M':=by
    have hne:=(hf.is j hj).1 hjS;rw [dT _ _ ha,he];cases hs:t.out j with
    |none=>grind
    |some p=>
     unfold jR;rw [hs];exact ((hf.val j hj p.1 p.2 hs).one hvj).2
   have hax:a<x+1:=by
    refine Nat.lt_of_not_le λ hle=> ?_;rcases Nat.lt_or_eq_of_le hle with h3|h3;all_goals grind
   grind [List.mem_take_iff_getElem]
 ·have key:∀M,∀k,k<n->∀o' M',M'<=M->ee nx en k o' M'->k ∈ t.S:=by
   intro M;induction M with
   |zero=>
    grind
   |succ M ih=>
    intro k hk o' M' hM' hvk;rcases Nat.lt_or_eq_of_le hM' with h3|h3
    ·grind
    ·subst h3;exact hnext M (λ j hj o'' M'' hM'' hvj=>by grind) k hk o' hvk
  exact λ k hk o' M hvk=>key M k hk o' M (Nat.le_refl _) hvk
end
end Go.Av
end
section
/- Plain: chapter 7: what solve.Values finds are the values of the rounds. -/
open Go Go.Proofs
namespace Go.Av
def ie (nx:Nat->List Nat) (en:Nat->Option Int) (n:Nat):QS:=⟨(List.range n).filter λ i=>(en i).isSome,λ i=>(en i).map λ o=>(o,0),λ i=>(nx i).length⟩
section
variable {nx:Nat->List Nat} {en:Nat->Option Int} {n:Nat}
theorem zt (hin:∀k,k<n->∀j ∈ nx k,j<n) (hne:∀k,k<n->en k=none->nx k≠ []):An nx en n (ie nx en n) 0:=by
 have hm:∀k,k<n->(k ∈ (ie nx en n).S↔(ie nx en n).out k≠none):=λ k hk=>by
  grind [ie,Option.isSome_iff_ne_none,Option.map_eq_none_iff]
 have hd:∀k,jR (ie nx en n).out k=0:=λ k=>by
  unfold jR ie;simp only;cases en k<;>rfl
 have hz:∀k,k<n->k ∉ (ie nx en n).S->en k=none:=λ k hk hkS=>by
  have h:=λ h=>hkS ((hm k hk).2 h);simp_all [ie]
 have hc0:∀k,k<n->∀o,ee nx en k o 0->k ∈ (ie nx en n).S:=λ k hk o hv=>(hm k hk).2 (by
  grind [pE])
 refine ⟨Nat.zero_le _,List.Pairwise.filter _ List.nodup_range,λ k hk=> ?_,hm,λ k hk o M he=> ?_,λ k hk hkS=> ?_,λ k hk hkS j hj hjt=> ?_,λ a b _ _=> ?_,λ _ a _=> ?_,λ _ k hk o M hM hv=> ?_,λ h0 k hk o M hv=> ?_⟩
 ·grind [ie]
 ·grind [ie,Option.map_eq_some_iff,pE]
 ·grind [vo,ie,List.filter_eq_self]
 ·grind
 ·grind
 ·grind
 ·grind [ie,jR,ee,ac]
 ·have key:∀M,∀k,k<n->∀o M',M'<=M->¬ee nx en k o M':=by
   intro M;induction M with
   |zero=>
    grind
   |succ M ih=>
    intro k hk o M' hM' hv;rcases Nat.lt_or_eq_of_le hM' with h|h;all_goals grind [mJ,List.exists_mem_of_ne_nil]
  exact absurd hv (key M k hk o M (Nat.le_refl _))
theorem An.small {s:QS}{x:Nat} (h:An nx en n s x):s.S.length<=n:=by
 have:=List.Nodup.length_le_of_subset h.nd (l₂:=List.range n) λ k hk=>List.mem_range.2 (h.lt k hk);grind
theorem KQ {bef:Nat->List Nat} (hnx:∀k,k<n->(nx k).Nodup) (hin:∀k,k<n->∀j ∈ nx k,j<n) (hne:∀k,k<n->en k=none->nx k≠ []):∀ {M:Nat}{k:Nat}{o:Int},k<n->ee nx en k o M->∃l:List Nat,l.Nodup∧l.length=M+1∧∀j ∈ l,j<n∧∃o' M',M'<=M∧ee nx en j o' M'
 |0,k,o,hk,hv=>⟨[k],gt,rfl,λ j hj=>by
   grind⟩
 |M+1,k,o,hk,hv=>by
  have hch:∃j,j<n∧∃o',ee nx en j o' M:=by
   refine Classical.byContradiction λ hno=> ?_;rcases mJ hv with ⟨_,j,hj,hvj⟩|⟨ho,hall⟩
   ·grind
   · --
    have hlt:∀j ∈ nx k,∃M',M'<M∧ee nx en j 1 M':=λ j hj=>by
     grind
    have hen:en k=none:=by
     cases he:en k with
     |none=>rfl
     |some a=>
      have:=(hv.one (pE.2 he)).2;omega
    obtain ⟨f,hf⟩:∃f:Nat->Nat,∀j ∈ nx k,f j<M∧ee nx en j 1 (f j):=⟨λ j=>if h:j ∈ nx k then Classical.choose (hlt j h) else 0,λ j hj=>by
     grind⟩
    obtain ⟨j0,hj0,hmax⟩:=jz f (hne k hk hen);have hnk:∀o' M',M'<=f j0->¬ee nx en k o' M':=λ o' M' hM' hv'=>by
     have h1:=(hv.one hv').2;grind
    have h3:=In hnk (f:=f) (λ j hj=>⟨(hf j hj).2,hmax j hj⟩) ⟨j0,hj0,rfl⟩;have h1:=(hv.one h3).2;grind
  obtain ⟨j,hj,o',hvj⟩:=hch;obtain ⟨l,l1,l2,l3⟩:=KQ (bef:=bef) hnx hin hne hj hvj;refine ⟨k::l,List.nodup_cons.2 ⟨λ hm=> ?_,l1⟩,pi,λ u hu=> ?_⟩
  ·obtain ⟨_,o2,M2,h2,hv2⟩:=l3 k hm;have:=(hv.one hv2).2;omega
  grind
end
end Go.Av
end
section
/- Plain: chapter 7: in the middle of the queue of solve.Values. -/
open Go Go.Proofs
namespace Go.Av
section
variable {nx:Nat->List Nat} {en:Nat->Option Int} {n:Nat}
structure MidQ (nx:Nat->List Nat) (en:Nat->Option Int) (n:Nat) (i:Nat) (o:Int) (N:Nat) (s t:QS):Prop where
 len:t.S.length<=n
 lt:∀k ∈ t.S,k<n
 val:∀k,k<n->∀o' M,t.out k=some (o',M)->ee nx en k o' M
 left:∀k,k<n->t.out k=none->1<=t.left k∧t.left k<=(nx k).length
 ex:∃T,t.S=s.S++T
 self:t.out i=some (o,N)
theorem An.mid {bef:Nat->List Nat}{s:QS}{x:Nat} (h:An nx en n s x) (hx:x<s.S.length) (hnx:∀k,k<n->(nx k).Nodup) (hin:∀k,k<n->∀j ∈ nx k,j<n)
  (hbn:∀i,i<n->(bef i).Nodup) (hb:∀i,i<n->∀k,k ∈ bef i↔k<n∧i ∈ nx k):∃o N,s.out (ac s.S x)=some (o,N)∧ac s.S x<n∧HT bef s (ac s.S x)=(bef (ac s.S x)).foldl (uE o N) s∧
   ∀j,MidQ nx en n (ac s.S x) o N s (((bef (ac s.S x)).take j).foldl (uE o N) s):=by
 have him:=am hx;generalize hi:ac s.S x=i at him ⊢;have hil:=h.lt i him;obtain ⟨o,N,ho⟩:∃o N,s.out i=some (o,N):=by
  have:=(h.is i hil).1 him;cases hs:s.out i<;>grind
 have hdi:jR s.out i=N:=by grind [jR]
 have hv:=h.val i hil o N ho;have hD:decide (i ∈ s.S.take x)=false:=by
  rw [decide_eq_false_iff_not];intro hm;obtain ⟨a,ha,he⟩:=List.getElem_of_mem hm;rw [List.length_take] at ha;have:=RP h.nd (i:=a) (j:=x) ge hx Wx;omega
 have hcomp:∀k,k<n->∀o' M,M<=N->ee nx en k o' M->k ∈ s.S:=λ k hk o' M hM hv=>h.comp hx k hk o' M pi hv;have hDv:∀j,j<n->decide (j ∈ s.S.take x)=true->∃o' M,s.out j=some (o',M)∧ee nx en j o' M∧M<=N:=λ j hj hd=>by
  have hm:=of_decide_eq_true hd;obtain ⟨a,ha,he⟩:=List.getElem_of_mem hm;rw [List.length_take] at ha;have hjS:j ∈ s.S:=List.mem_of_mem_take hm;have hne:=(h.is j hj).1 hjS;cases hs:s.out j with
  |none=>grind
  |some p=>
   refine ⟨p.1,p.2,rfl,h.val j hj _ _ hs, ?_⟩;have:=h.srt a x ge hx;grind [jR,ac]
 have hW0:∀k,vo nx k (λ u=>(decide (u ∈ s.S.take x) && uc s.out u)||(decide (u=i) && (decide (k ∈ ([]:List Nat)) && decide (o=1))))=vo nx k (λ u=>decide (u ∈ s.S.take x) && uc s.out u):=λ k=>gt;have h0:zeN nx en n (λ u=>decide (u ∈ s.S.take x)) i o N s.S s.out [] s:=
  ⟨⟨[],gt,λ k hk=>(by cases hk)⟩,h.nd,h.lt,λ _ _=>rfl,h.is,h.val,λ k hk hkS=>by rw [hW0];exact h.cnt k hk hkS,λ k _ _ hk=>(by cases hk)⟩
 have hq:HT bef s i=(bef i).foldl (uE o N) s:=by grind [HT]
 refine ⟨o,N,ho,hil,hq,λ j=> ?_⟩;have hf:=LM hnx hin hD hv hcomp hDv ((bef i).take j) [] pi (λ k hk=>(hb i hil k).1 (List.mem_of_mem_take hk)) h0;obtain ⟨T,hS,hT⟩:=hf.ex;refine ⟨?_,hf.lt,hf.val,λ k hk hno=> ?_,⟨T,hS⟩,by rw [hf.old _ him,ho]⟩;rotate_left
 ·obtain ⟨c1,c2⟩:=hf.cnt k hk λ hm=>(hf.is k hk).1 hm hno;grind [vo]
 have:=List.Nodup.length_le_of_subset hf.nd (l₂:=List.range n) λ k hk=>List.mem_range.2 (hf.lt k hk);grind
theorem qK (hnx:∀k,k<n->(nx k).Nodup) (hin:∀k,k<n->∀j ∈ nx k,j<n) (hne:∀k,k<n->en k=none->nx k≠ []) (hen:∀k o,en k=some o->o≠0){k:Nat} (hk:k<n){o:Int}{M:Nat} (h:ee nx en k o M):o≠0∧M+1<=n:=by
 constructor
 ·cases M<;>grind [pE,mJ]
 ·obtain ⟨l,h1,h2,h3⟩:=KQ (bef:=λ _=> []) hnx hin hne hk h;have:=List.Nodup.length_le_of_subset h1 (l₂:=List.range n) λ j hj=>List.mem_range.2 (h3 j hj).1;grind
def FD (nx:Nat->List Nat) (en:Nat->Option Int) (i:Nat):QS:=⟨(List.range i).filter λ j=>(en j).isSome,λ j=>if j<i then (en j).map λ o=>(o,0) else none,λ j=>if j<i then (nx j).length else 0⟩
def QS.setL (s:QS) (k v:Nat):QS:=⟨s.S,s.out,λ j=>if j=k then v else s.left j⟩
theorem zcL {i:Nat}{o:Int} (h:en i=some o):FD nx en (i+1)=((FD nx en i).setL i (nx i).length).settle i o 0:=by
 unfold FD QS.setL QS.settle;grind [List.range_succ]
theorem zcK {i:Nat} (h:en i=none):FD nx en (i+1)=(FD nx en i).setL i (nx i).length:=by
 unfold FD QS.setL;grind [List.range_succ]
end
end Go.Av
end
section
/- solve.Values: settling a position. -/
set_option linter.unusedSectionVars false
open Go Go.Proofs
namespace Go.Av
def DE:Option (Int×Nat)->Int×Nat
 |none=>(0,0)
 |some x=>x
def I9 (out:Nat->Option (Int×Nat)) (i:Nat):List AV:= [.int (DE (out i)).1, .int (DE (out i)).2]
def m7 (n:Nat) (out:Nat->Option (Int×Nat)):List (List AV):=(List.range n).map (I9 out)
theorem Wa (n:Nat) (out:Nat->Option (Int×Nat)):(m7 n out).length=n:=by simp [m7]
variable {out:Nat->Option (Int×Nat)} {a n:Nat}
theorem Kr {i:Nat} (hi:i<n):ac (m7 n out) i= [.int (DE (out i)).1, .int (DE (out i)).2]:=by
 grind [m7,I9,ac]
theorem Wc {k:Nat} (o:Int) (N:Nat):(m7 n out).set k [.int o, .int N]=m7 n (λ j=>if j=k then some (o,N) else out j):=by
 refine List.ext_getElem (by simp [m7]) λ j h1 h2=> ?_;grind [m7,I9,DE]
theorem Jp (k n:Nat) (out:Nat->Option (Int×Nat)):(∀r ∈ m7 n out,∀c ∈ r,aN k c)=True:=eq_true λ r hr c hc=>by
 obtain ⟨i, _,rfl⟩:=List.mem_map.1 hr;simp only [I9,List.mem_cons,List.not_mem_nil,or_false] at hc;rcases hc with rfl|rfl<;>exact .v _
attribute [go_sem ↓] Jp
attribute [go_sem] Wa
theorem Wb (n:Nat):m7 n (λ _=>none)=List.replicate n [.int 0, .int 0]:=by
 refine List.ext_getElem (by simp [m7]) λ j h1 h2=> ?_;simp [m7,I9,DE]
theorem V9 (n:Nat):fZ n (λ _=>0)=List.replicate n [.int 0]:=by
 refine List.ext_getElem (by simp [fZ]) λ j h1 h2=> ?_;simp [fZ]
def TX (m:Nat) (out:Nat->Option (Int×Nat)) (g i L:Nat) (Q:List Nat):List (Nat×cB):=
 [(0, .rows true 0 2 (m7 m out)),(1, .rows true 0 1 [[.sl 0 0 2 0 m]]),(2, .rows true 0 1 [[.sl 3 g 1 i L]]),(3, .rows true g 1 (Q.map bu))]
theorem PI (m:Nat) (hm:m<=4000) (out:Nat->Option (Int×Nat)) (g i L:Nat) (Q:List Nat) (hQ:Q.length=i+L) (hL:L<=1048576) (k:Nat) (hk:k<m) (o:Int) (N:Nat):
  dD Tryz.prog 154 [.int k, .int o, .int N, .ref 1 0 1 0 0, .ref 2 0 1 0 0] (TX m out g i L Q) 4 (.tup []) (TX m (λ j=>if j=k then some (o,N) else out j) (g+1) 0 (L+1) (Q.drop i++ [k])) 5:=by
 have hS:=Wc (n:=m) (out:=out) (k:=k) o N;have hd:(Q.drop i).length=L:=pi;unfold TX;have a8:(L+1) * 8<=17592186044416:=ge;have hdt:((Q.map bu).drop i).take L=(Q.drop i).map bu:=by grind [List.map_drop,List.length_map]
 refine aF Tryz.func154 ?_;refine J4 hk hS a8 hdt ?_;simp [go_sem,aj,bu];exact λ x hx=>of_eq_true (lU 5 Q) x (List.mem_of_mem_drop hx)
def fq:Option (Int×Nat)->Int×Nat
 |none=>(2,0)
 |some x=>x
def dJ (out:Nat->Option (Int×Nat)) (i:Nat):List AV:= [.int (fq (out i)).1, .int (fq (out i)).2]
def kg (n:Nat) (out:Nat->Option (Int×Nat)) (a:Nat):List (List AV):=(List.range n).map λ j=>if j<a then dJ out j else I9 out j
theorem Ba (n:Nat) (out:Nat->Option (Int×Nat)) (a:Nat):(kg n out a).length=n:=by simp [kg]
theorem PD (n:Nat) (out:Nat->Option (Int×Nat)):kg n out 0=m7 n out:=by simp [kg,m7]
theorem Su (n:Nat) (out:Nat->Option (Int×Nat)):kg n out n=(List.range n).map (dJ out):=by
 grind [List.map_congr_left,kg]
theorem RR  (ha:a<n):ac (kg n out a) a= [.int (DE (out a)).1, .int (DE (out a)).2]:=by
 grind [kg,I9,ac]
theorem Sv :(kg n out a).set a (dJ out a)=kg n out (a+1):=by
 refine List.ext_getElem (by simp [kg]) λ j h1 h2=> ?_;grind [kg]
theorem PC  (h:dJ out a=I9 out a):kg n out (a+1)=kg n out a:=by
 grind [kg]
theorem QB (k n:Nat) (out:Nat->Option (Int×Nat)) (a:Nat):(∀r ∈ kg n out a,∀c ∈ r,aN k c)=True:=eq_true λ r hr c hc=>by
 obtain ⟨i, _,rfl⟩:=List.mem_map.1 hr;split at hc;all_goals
  simp only [I9,dJ,List.mem_cons,List.not_mem_nil,or_false] at hc;rcases hc with rfl|rfl<;>exact .v _
attribute [go_sem ↓] QB
attribute [go_sem] Ba
theorem yQ {m:Nat}{g i L:Nat}{Q:List Nat}{k:Nat}{o:Int}{N:Nat}{z:Int}{h:au}{K:cI} (hz:z=N) (hm:m<=4000) (hQ:Q.length=i+L) (hL:L<=1048576) (hk:k<m)
  (h1:h 1=some (.rows true 0 2 (m7 m out))) (h2:h 2=some (.rows true 0 1 [[.sl 1 0 2 0 m]])) (h4:h 4=some (.rows true 0 1 [[.sl 5 g 1 i L]])) (h5:h 5=some (.rows true g 1 (Q.map bu))) (hn:6<=n)
  (hK:K (.tup []) (aC (aC (aC h 1 (some (.rows true 0 2 (m7 m (λ j=>if j=k then some (o,N) else out j))))) 4 (some (.rows true 0 1 [[.sl 5 (g+1) 1 0 (L+1)]]))) 5 (some (.rows true (g+1) 1 ((Q.drop i++ [k]).map bu)))) (n+1)):
  ap Tryz.prog 154 [.int k, .int o, .int z, .ref 2 0 1 0 0, .ref 4 0 1 0 0] h n K:=by
 subst hz;have r0:kF [1,2,4,5] n 0=1:=rfl;have r1:kF [1,2,4,5] n 1=2:=rfl;have r2:kF [1,2,4,5] n 2=4:=rfl;have r3:kF [1,2,4,5] n 3=5:=rfl;have b0:∀b out,∀r ∈ m7 m out,∀c ∈ r,aN b c:=λ b out=>of_eq_true (Jp b m out);have b3:∀b (Q:List Nat),∀r ∈ Q.map bu,∀c ∈ r,aN b c:=λ b Q=>of_eq_true (lU b Q);have bs:∀b a g i L:Nat,a<b->∀r ∈ [[AV.sl a g 1 i L]],∀c ∈ r,aN b c:=λ b a g i L hb r hr c hc=>by
  simp only [List.mem_singleton] at hr;subst hr;simp only [List.mem_singleton] at hc;subst hc;exact .sl hb
 have bo:∀b a g i L:Nat,a<b->∀r ∈ [[AV.sl a g 2 i L]],∀c ∈ r,aN b c:=λ b a g i L hb r hr c hc=>by
  simp only [List.mem_singleton] at hr;subst hr;simp only [List.mem_singleton] at hc;subst hc;exact .sl hb
 have ba:∀b x y,x<b->y<b->∀c ∈ [AV.int k, .int o, .int N, .ref x 0 1 0 0, .ref y 0 1 0 0],aN b c:=λ b x y hx hy c hc=>by
  simp only [List.mem_cons,List.not_mem_nil,or_false] at hc;rcases hc with rfl|rfl|rfl|rfl|rfl
  ·exact .v _
  ·exact .v _
  ·exact .v _
  ·exact .ref hx
  ·exact .ref hy
 have x1:PY (kF [1,2,4,5] n) (.rows true 0 1 [[.sl 0 0 2 0 m]]) (.rows true 0 1 [[.sl 1 0 2 0 m]]):= .rows (.cons (.cons (.sl r0.symm) .nil) .nil);have x2:∀g i L,PY (kF [1,2,4,5] n) (.rows true 0 1 [[.sl 3 g 1 i L]]) (.rows true 0 1 [[.sl 5 g 1 i L]]):=λ g i L=> .rows (.cons (.cons (.sl r3.symm) .nil) .nil);refine zhf (R:= .tup []) (HH:= [(1, .rows true 0 2 (m7 m (λ j=>if j=k then some (o,N) else out j))),(2, .rows true 0 1 [[.sl 1 0 2 0 m]]),(4, .rows true 0 1 [[.sl 5 (g+1) 1 0 (L+1)]]),(5, .rows true (g+1) 1 ((Q.drop i++ [k]).map bu))])
  [1,2,4,5] h (PI m hm out g i L Q hQ hL k hk o N) Wm pi rfl ge (.refl _) ?_ ?_ (.refl _ _ _ _) (ba n 2 4 ge ge) (.cons (.same (.v _)) (.cons (.same (.v _)) (.cons (.same (.v _)) (.cons (.ref r1.symm) (.cons (.ref r2.symm) .nil)))))
  (ba 4 1 2 ge ge) (.same (.tup gt)) ?_ ?_
 ·intro j hj;have:j=0∨j=1∨j=2∨j=3:=ge
  rcases this with rfl|rfl|rfl|rfl
  ·exact ⟨_, _,rfl,pi, .rows (.same (b0 _ _))⟩
  ·exact ⟨_, _,rfl,pi,x1⟩
  ·exact ⟨_, _,rfl,pi,x2 _ _ _⟩
  ·exact ⟨_, _,rfl,pi, .rows (.same (b3 _ _))⟩
 ·grind [TX,se]
 ·exact .cons r0.symm (.rows (.same (b0 _ _))) (.cons r1.symm x1 (.cons r2.symm (x2 _ _ _) (.cons r3.symm (.rows (.same (b3 _ _))) .nil)))
 ·have e:∀A C D:cB,dL [(1,A),(2, .rows true 0 1 [[.sl 1 0 2 0 m]]),(4,C),(5,D)] (iZ [1,2,4,5] h)=aC (aC (aC h 1 (some A)) 4 (some C)) 5 (some D):=λ A C D=>by
   funext x;by_cases x1:x=1
   ·simp_all [dL,aC]
   by_cases x2:x=2
   ·simp_all [dL,aC]
   by_cases x4:x=4;all_goals simp_all [dL,iZ,aC]
  grind
theorem wg (g:ae) (p:aa):(cE g p).2=decide (an g p= []):=by
 grind [cE,jS,an]
theorem zy {g:ae} (hg:bN g) (p:aa) (h:(cE g p).2=true):(cE g p).1≠0:=by
 unfold cE jS at h ⊢;by_cases he:0<=cq g p
 ·rw [if_pos he,if_pos he];have:=(hg.cl _ (am (l:=g.clauses) (i:=(cq g p).toNat) (by
   grind [cq,List.findIdx?_eq_some_iff_getElem]))).then_
  omega
 ·rw [if_neg he] at h ⊢;split at h
  ·rename_i hm;rw [if_pos hm];have:=hg.bl;omega
  grind
theorem zo {l mv:List aa} (h:∀m ∈ mv,m ∈ l) (hn:mv.Nodup):(mv.map (dZ l)).Nodup:=by
 refine List.pairwise_map.2 (List.Pairwise.imp_of_mem (λ {x y} hx hy hne e=>hne ?_) hn);rw [<- (dm (h x hx)).2,<- (dm (h y hy)).2,e]
def jK (g:ae) (l:List aa) (i:Nat):Option Int:=if i<l.length then (if (cE g (ac l i)).2=true then some (cE g (ac l i)).1 else none) else none
noncomputable def cM (g:ae) (l:List aa):Nat->Option (Int×Nat):=(uZ (ac (vk (aV g l))) (l.length+1) 0 (ie (ac (aV g l)) (jK g l) l.length)).out
theorem Li (g:ae) (hg:bN g) (hn:dI g) (l:List aa) (hi:lm l) (hl:l.length<=4000) (hv:∀q ∈ l,bw g q) (hc:∀q ∈ l,∀m ∈ an g q,m ∈ l):
  aq Tryz.prog 100 [.agg (ai g),aO l] (.tup [.lst 2 ((List.range l.length).map (dJ (cM g l))), .int 0]):=by
 have hN:=P9 g hg hn l hi hl hv hc;have hegl:(ai g).length=9:=rfl;have hegb:∀n,(∀c ∈ ai g,aN n c)=True:=λ n=>no;rw [aG] at hN;refine pF Tryz.func100 ?_;refine J0 ?_;refine aP hN ?_;refine J0 ?_;obtain ⟨nx,hnx⟩:∃nx,nx=ac (aV g l):=⟨_,rfl⟩
 obtain ⟨en,hen⟩:∃en,en=jK g l:=⟨_,rfl⟩
 obtain ⟨m,hm⟩:∃m,m=l.length:=⟨_,rfl⟩
 have hnl:(aV g l).length=m:=W4;have hnxb:∀i,i<m->(nx i).length<=472446:=λ i hi=>by
  rw [hnx,aV,aJ _ _ _ ge,List.length_map];grind [cG,ac]
 have hnr:∀i,i<m->ac ((aV g l).map cC) i= [.lst 1 ((nx i).map bu)]:=λ i hi=>by rw [aJ _ _ _ ge,hnx];rfl
 have hSt:∀i,i<m->∃a b,aq Tryz.prog 155 [.agg (ai g), .agg (ak (ac l i))] (.tup [.int a, .bool b])∧en i=if b=true then some a else none:=λ i hi=>by
  refine ⟨_, _,Nh g hg _ (hv _ (am ge)), ?_⟩;simp_all [jK]
 have hlr:∀i,i<m->ac (l.map ak) i=ak (ac l i):=λ i hi=>aJ _ _ _ ge;rw [<- hm];refine zg3 (zg5 (α:=Nat) (λ i=>⟨[(2, .ref 0 0 9 0 0),(6,aG (aV g l)),(8, .ref 2 0 1 0 0),(9, .sl 3 0 1 0 m),(10, .ref 4 0 1 0 0),(11, .fn (.func 154) [] [.ref 2 0 1 0 0, .ref 4 0 1 0 0]),(37,aO l),(38, .int m),(39, .int i)],
  [(0, .rows true 0 9 [ai g]),(1, .rows true 0 2 (m7 m (FD nx en i).out)),(2, .rows true 0 1 [[.sl 1 0 2 0 m]]),(3, .rows true 0 1 (fZ m (FD nx en i).left)),(4, .rows true 0 1 [[.sl 5 (FD nx en i).S.length 1 0 (FD nx en i).S.length]]),(5, .rows true (FD nx en i).S.length 1 ((FD nx en i).S.map bu))],6⟩) (λ d i=>i+d=m) ?_ m 0 ?_) ?_ ?_
 rotate_left
 ·simp
 ·have e1:(FD nx en 0).out=λ _=>none:=by grind [FD]
  have e2:(FD nx en 0).left=λ _=>0:=by grind [FD]
  have e3:(FD nx en 0).S= []:=rfl;simp [go_sem,aj,e1,e2,e3,Wb,V9,aG,hm]
 ·simp
 ·rintro d i i1 hrec;rw [aG];refine J0 ?_;refine zg4 (λ hi0=> ?_) (λ hi0=> ?_)<;>simp at hi0
  ·have hil:i<m:=by omega
   have hnr:=hnr i hil;have hlr:=hlr i hil;have hnxb:=hnxb i hil;obtain ⟨a,b,hSt,hei⟩:=hSt i hil;repeat first|refine wV λ _=>?_|simp [go_sem,hil,hlr,hnl,hnr,<- hm]
   have hle:(fZ m (FD nx en i).left).set i [.int (nx i).length]=fZ m (λ j=>if j=i then (nx i).length else (FD nx en i).left j):=wd;have hSl:(FD nx en i).S.length<=i:=by
    grind [FD]
   refine aP hSt ?_;have hQ:=hei;obtain ⟨s,hs⟩:∃s,s=FD nx en i:=⟨_,rfl⟩
   rw [<- hs] at hle hSl ⊢;cases b with
   |false=>
    have hq:=zcK (nx:=nx) (en:=en) (i:=i) hei;rw [<- hs] at hq;refine J0 ?_;refine zg3 (hrec (d - 1) ge (i+1) ge) ?_ gt;simp [go_sem,aj,hq,QS.setL,hle,aG]
   |true=>
    have hq:=zcL (nx:=nx) (en:=en) (i:=i) hei;rw [<- hs] at hq;refine J0 ?_;refine yQ (m:=m) (out:=s.out) (g:=s.S.length) (i:=0) (L:=s.S.length) (Q:=s.S) (N:=0) rfl ge ge ge hil Wp Wp Wp Wp ge ?_;refine J0 ?_;refine zg3 (hrec (d - 1) ge (i+1) ge) ?_ gt;simp [go_sem,aj,hq,QS.setL,QS.settle,hle,aG,bu]
  ·obtain rfl:i=m:=by omega
   have hB:=Sy (aV g l) ge λ k hk=>by
    rw [hnx] at hnxb;grind [aV,aJ,dm,am]
   rw [aG,aG] at hB;refine J0 ?_;refine aP hB ?_;have hnN:∀k,k<i->(nx k).Nodup:=λ k hk=>by
    rw [hnx,aV,aJ _ _ _ ge];exact zo (hc _ (am ge)) (qo g _).nodup
   have hnI:∀k,k<i->∀j ∈ nx k,j<i:=λ k hk x hx=>by
    rw [hnx,aV,aJ _ _ _ ge] at hx;obtain ⟨y,hy,rfl⟩:=List.mem_map.1 hx;rw [hm];exact (dm (hc _ (am ge) y hy)).1
   have hne:∀k,k<i->en k=none->nx k≠ []:=λ k hk he hx=>by
    simp_all [aV,aJ,jK,wg]
   have hen0:∀k o,en k=some o->o≠0:=λ k o he=>by
    rw [hen,jK] at he;grind [zy]
   obtain ⟨bef,hbef⟩:∃bef,bef=ac (vk (aV g l)):=⟨_,rfl⟩
   have hbm:∀k,k<i->(bef k).Nodup∧∀j,j ∈ bef k↔j<i∧k ∈ nx j:=λ k hk=>by
    have:=By (nx:=aV g l) WW (by rw [hnl,<- hnx];exact hnI) k;simp_all
   have hbr:∀k,k<i->ac ((vk (aV g l)).map cC) k= [.lst 1 ((bef k).map bu)]:=λ k hk=>by
    rw [aJ _ _ _ (by grind [vk,xS]),hbef];rfl
   have hbl:((vk (aV g l)).map cC).length=i:=by
    grind [vk,xS]
   have hqs:FD nx en i=ie nx en i:=by
    unfold FD ie;simp only [QS.mk.injEq,true_and];refine ⟨funext λ j=> ?_,funext λ j=> ?_⟩
    ·split
     ·rfl
     simp_all [jK,if_neg]
    ·split
     ·rfl
     ·rw [hnx,ac,List.getD_eq_getElem?_getD,List.getElem?_eq_none pi];rfl
   have hO0:=zt hnI hne;have hvq:cM g l=(uZ bef (i+1) 0 (ie nx en i)).out:=by
    grind [cM]
   rw [hqs];obtain ⟨FIN,hFIN⟩:∃FIN,FIN=uZ bef (i+1) 0 (ie nx en i):=⟨_,rfl⟩
   rw [hvq,<- hFIN];generalize ie nx en i=s0 at *;refine J0 ?_;refine zg3 (zg5 (α:=QS×Nat×Nat×Nat×List Nat) (λ a=>⟨[(8, .ref 2 0 1 0 0),(9, .sl 3 0 1 0 i),(10, .ref 4 0 1 0 0),(11, .fn (.func 154) [] [.ref 2 0 1 0 0, .ref 4 0 1 0 0]),(16,aG (vk (aV g l)))],
    [(1, .rows true 0 2 (m7 i a.1.out)),(2, .rows true 0 1 [[.sl 1 0 2 0 i]]),(3, .rows true 0 1 (fZ i a.1.left)),(4, .rows true 0 1 [[.sl 5 a.2.2.1 1 a.2.2.2.1 (a.1.S.length - a.2.1)]]),(5, .rows true a.2.2.1 1 (a.2.2.2.2.map bu))],6⟩)
    (λ d a=>a.2.1+d=i+1∧An nx en i a.1 a.2.1∧a.2.2.2.2.drop a.2.2.2.1=a.1.S.drop a.2.1∧a.2.2.2.2.length=a.2.2.2.1+(a.1.S.length - a.2.1)∧FIN=uZ bef d a.2.1 a.1) ?_ (i+1) (s0,0,s0.S.length,0,s0.S) ?_) ?_ ?_
   rotate_left
   ·grind
   ·simp [go_sem,aj,aG]
   ·simp
   rintro d2 ⟨s,x,gq,qi,Q⟩ ⟨j1,j2,j3,j4,j5⟩ hrec2;simp only at j1 j2 j3 j4 j5;have hsm:=j2.small;have hxl:=j2.le;obtain ⟨d2,rfl⟩:∃d',d2=d'+1:=⟨d2 - 1,ge⟩
   rw [uZ] at j5;rw [aG];refine J0 ?_;refine zg4 (λ hx=> ?_) (λ hx=> ?_)<;>simp at hx
   ·have hxs:x<s.S.length:=by omega
    rw [if_pos hxs] at j5;obtain ⟨o,N,ho,hk0,hproc,hmid⟩:=j2.mid hxs hnN hnI (λ k hk=>(hbm k hk).1) (λ k hk=>(hbm k hk).2);have hstep:=j2.step hxs hnN hnI (λ k hk=>(hbm k hk).1) (λ k hk=>(hbm k hk).2);rw [hproc] at j5 hstep;have hqn:ac (Q.map bu) qi= [.int (ac s.S x:Nat)]:=by
     rw [aJ _ _ _ ge,bu];have e1:ac Q qi=ac s.S x:=by
      have h1:=congrArg (λ l:List Nat=>ac l 0) j3;simp only [ac,List.getD_eq_getElem?_getD,List.getElem?_drop,Nat.add_zero] at h1 ⊢;exact h1
     rw [e1]
    generalize ac s.S x=k0 at *;have hbr:=hbr k0 hk0;obtain ⟨hbN,hbM⟩:=hbm k0 hk0;have hbL:(bef k0).length<=i:=by
     have:=List.Nodup.length_le_of_subset hbN (l₂:=List.range i) λ j hj=>List.mem_range.2 ((hbM j).1 hj).1;grind
    generalize bef k0=bl at *;obtain ⟨hv0,hv1⟩:=qK hnN hnI hne hen0 hk0 (j2.val _ hk0 _ _ ho);have hql:qi<Q.length:=ge;refine J5 hql hqn hk0 hbr hbl ?_;obtain ⟨T,hT⟩:∃T:Nat->QS,∀j,T j=(bl.take j).foldl (uE o N) s:=⟨_,λ _=>rfl⟩
    simp only [<- hT] at hmid;have hT0:T 0=s:=by rw [hT];rfl
    have hTs:∀j,j<bl.length->T (j+1)=uE o N (T j) (ac bl j):=λ j hj=>by
     rw [hT,hT,List.take_add_one,List.getElem?_eq_getElem hj,<- dT _ _ hj,Option.toList_some,List.foldl_append];rfl
    have hTe:T bl.length=bl.foldl (uE o N) s:=by rw [hT,List.take_length]
    rw [<- hTe] at j5 hstep;clear hT hTe;have hbml:∀j,j<bl.length->ac bl j<i:=λ j hj=>((hbM _).1 (am hj)).1;refine zg3 (zg5 (α:=Nat×Nat×Nat×List Nat) (λ a=>⟨[(8, .ref 2 0 1 0 0),(9, .sl 3 0 1 0 i),(10, .ref 4 0 1 0 0),(11, .fn (.func 154) [] [.ref 2 0 1 0 0, .ref 4 0 1 0 0]),(16,aG (vk (aV g l))),(17, .int k0),(77, .lst 1 (bl.map bu)),(78, .int bl.length),(79, .int a.1)],
     [(1, .rows true 0 2 (m7 i (T a.1).out)),(2, .rows true 0 1 [[.sl 1 0 2 0 i]]),(3, .rows true 0 1 (fZ i (T a.1).left)),(4, .rows true 0 1 [[.sl 5 a.2.1 1 a.2.2.1 ((T a.1).S.length - x)]]),(5, .rows true a.2.1 1 (a.2.2.2.map bu))],6⟩)
     (λ d a=>a.1+d=bl.length∧a.2.2.2.drop a.2.2.1=(T a.1).S.drop x∧a.2.2.2.length=a.2.2.1+((T a.1).S.length - x)) ?_ bl.length (0,gq,qi,Q) ?_) ?_ ?_
    rotate_left
    ·grind
    ·simp [go_sem,aj,aG,hT0]
    ·simp
    rintro d3 ⟨j,g2,q2,Q2⟩ ⟨k1,k2,k3⟩ hrec3;simp only at k1 k2 k3;rw [aG];have hmj:=hmid j;have hTs:=hTs j;have hbml:=hbml j;have hsl:s.S.length<=(T j).S.length:=by
     obtain ⟨T1,hT1⟩:=hmj.ex;rw [hT1,List.length_append];omega
    obtain ⟨t,ht⟩:∃t,t=T j:=⟨_,rfl⟩
    rw [<- ht] at hmj hTs hsl k2 k3 ⊢;refine J0 ?_;refine zg4 (λ hj=> ?_) (λ hj=> ?_)<;>simp at hj
    ·have hjl:j<bl.length:=by omega
     have hTs:=hTs hjl;have hkk:=hbml hjl;have hbn:ac (bl.map bu) j= [.int (ac bl j:Nat)]:=aJ _ _ _ hjl;generalize ac bl j=kk at *;have hnv:=Kr (n:=i) (out:=t.out) (i:=kk) hkk;have hnv0:=Kr (n:=i) (out:=t.out) (i:=k0) hk0;have hnm:=zp (n:=i) (m:=t.left) (i:=kk) hkk;rw [hmj.self,DE] at hnv0;have hlen:=hmj.len;rw [uE] at hTs;cases hok:t.out kk with
     |some ov=>
      obtain ⟨o',N'⟩:=ov;obtain ⟨ho0, _⟩:=qK hnN hnI hne hen0 hkk (hmj.val _ hkk _ _ hok);rw [if_pos (by rw [hok];simp)] at hTs;rw [hok,DE] at hnv;refine J5 hjl hbn hnv hkk ho0 ?_;refine zg3 (hrec3 (d3 - 1) ge (j+1,g2,q2,Q2) ⟨ge,by simp only [hTs];exact k2,by simp only [hTs];exact k3⟩) ?_ gt;simp [go_sem,aj,aG,hTs]
     |none=>
      rw [if_neg (by rw [hok];simp)] at hTs;rw [hok,DE] at hnv;have hlf:=hmj.left _ hkk hok;by_cases ho3:o=3
      ·rw [if_pos ho3] at hTs;have hlx:(t.S++ [kk]).length - x=t.S.length - x+1:=Yw;have hlx2:t.S.length+1 - x=t.S.length - x+1:=ge;have hdx:(t.S++ [kk]).drop x=t.S.drop x++ [kk]:=List.drop_append_of_le_length ge;refine J7 hjl hbn hnv hkk hnv0 hk0 ho3 ?_;refine yQ (m:=i) (out:=t.out) (g:=g2) (i:=q2) (L:=t.S.length - x) (Q:=Q2) (N:=N+1) X7 ge k3 ge hkk Wp Wp Wp Wp ge ?_;refine J0 ?_;refine zg3 (hrec3 (d3 - 1) ge (j+1,g2+1,0,Q2.drop q2++ [kk]) ⟨ge, ?_, ?_⟩) ?_ gt
       ·simp only [hTs,QS.settle];rw [hdx,List.drop_zero,k2]
       ·simp only [hTs,QS.settle];rw [hlx,List.length_append,List.length_drop,List.length_singleton];omega
       ·simp [go_sem,aj,aG,hTs,QS.settle,hlx,hlx2];exact ⟨λ x hx=>of_eq_true (lU 6 Q2) x (List.mem_of_mem_drop hx),λ c hc=>X4⟩
      ·rw [if_neg ho3] at hTs;by_cases ho1:o=1
       ·rw [if_pos ho1] at hTs;have hls:(fZ i t.left).set kk [.int ((t.left kk:Nat) - 1)]=fZ i (λ j=>if j=kk then t.left kk - 1 else t.left j):=by
         rw [show ((t.left kk:Nat):Int) - 1=((t.left kk - 1:Nat):Int) by omega];exact wd
        have hnm2:ac (fZ i (λ j=>if j=kk then t.left kk - 1 else t.left j)) kk= [.int (t.left kk - 1:Nat)]:=by
         rw [zp hkk,if_pos rfl]
        have hlu:(t.left kk:Int)<=472446:=by have:=hnxb kk hkk;omega
        have hll1:(1:Int)<=t.left kk:=ge;generalize hlk:t.left kk=lk at *;refine J11 hjl hbn hnv hkk hnv0 hk0 ho3 ho1 hnm hls hnm2 ?_;refine zg4 (λ hz=> ?_) (λ hz=> ?_)<;>simp at hz
        ·rw [if_pos ge] at hTs;have hlx:(t.S++ [kk]).length - x=t.S.length - x+1:=Yw;have hlx2:t.S.length+1 - x=t.S.length - x+1:=ge;have hdx:(t.S++ [kk]).drop x=t.S.drop x++ [kk]:=List.drop_append_of_le_length ge;refine J7 hjl hbn hnv hkk hnv0 hk0 ho3 ?_;refine yQ (m:=i) (out:=t.out) (g:=g2) (i:=q2) (L:=t.S.length - x) (Q:=Q2) (N:=N+1) X7 ge k3 ge hkk Wp Wp Wp Wp ge ?_;refine J0 ?_;refine zg3 (hrec3 (d3 - 1) ge (j+1,g2+1,0,Q2.drop q2++ [kk]) ⟨ge, ?_, ?_⟩) ?_ gt
         ·simp only [hTs,QS.settle,QS.dec];rw [hdx,List.drop_zero,k2]
         ·simp only [hTs,QS.settle,QS.dec];rw [hlx,List.length_append,List.length_drop,List.length_singleton];omega
         ·simp [go_sem,aj,aG,hTs,QS.settle,QS.dec,hlx,hlx2,hlk];exact ⟨λ x hx=>of_eq_true (lU 6 Q2) x (List.mem_of_mem_drop hx),λ c hc=>X4⟩
        ·rw [if_neg ge] at hTs;refine J0 ?_;refine zg3 (hrec3 (d3 - 1) ge (j+1,g2,q2,Q2) ⟨ge,by simp only [hTs,QS.dec];exact k2,by simp only [hTs,QS.dec];exact k3⟩) ?_ gt;simp [go_sem,aj,aG,hTs,QS.dec,hlk]
       ·rw [if_neg ho1] at hTs;refine J8 hjl hbn hnv hkk hnv0 hk0 ho3 ho1 ?_;refine zg3 (hrec3 (d3 - 1) ge (j+1,g2,q2,Q2) ⟨ge,by simp only [hTs];exact k2,by simp only [hTs];exact k3⟩) ?_ gt;simp [go_sem,aj,aG,hTs]
    ·obtain rfl:j=bl.length:=by omega
     rw [<- ht] at j5 hstep;have hpop:¬(t.S.length:Int) - x<1:=ge;refine J0 ?_;refine zg3 (hrec2 d2 ge (t,x+1,g2,q2+1,Q2) ⟨WA,hstep, ?_, ?_,j5⟩) ?_ gt
     ·have:=congrArg (List.drop 1) k2;simpa [List.drop_drop] using this
     ·simp only;omega
     ·simp [go_sem,aj,aG,Nat.sub_sub]
   ·have hxe:¬x<s.S.length:=by omega
    rw [if_neg hxe] at j5;rw [j5];refine J0 ?_;refine zg3 (zg5 (α:=Nat) (λ a=>⟨[(8, .ref 2 0 1 0 0),(135, .int i),(136, .int a)], [(1, .rows true 0 2 (kg i s.out a)),(2, .rows true 0 1 [[.sl 1 0 2 0 i]])],5⟩) (λ d a=>a+d=i) ?_ i 0 ?_) ?_ ?_;rotate_left
    ·simp
    ·simp [go_sem,aj,PD]
    ·simp
    rintro d4 a k1 hrec4;refine J0 ?_;refine zg4 (λ ha=> ?_) (λ ha=> ?_)<;>simp at ha
    ·have hai:a<i:=by omega
     have hna:=RR (n:=i) (out:=s.out) hai;cases hoa:s.out a with
     |some ov=>
      obtain ⟨o',N'⟩:=ov;obtain ⟨ho0, _⟩:=qK hnN hnI hne hen0 hai (j2.val _ hai _ _ hoa);rw [hoa,DE] at hna;have hsame:=PC (n:=i) (out:=s.out) (a:=a) (by rw [dJ,I9,hoa];rfl);refine J3 hai hna ho0 ?_;refine zg3 (hrec4 (d4 - 1) ge (a+1) ge) ?_ gt;simp [go_sem,aj,hsame]
     |none=>
      rw [hoa,DE] at hna;have hset:(kg i s.out a).set a [.int 2, .int 0]=kg i s.out (a+1):=by
       rw [<- Sv,dJ,hoa,fq];rfl
      refine J2 hai hna ?_;refine zg3 (hrec4 (d4 - 1) ge (a+1) ge) ?_ gt;simp [go_sem,aj,hset]
    ·obtain rfl:a=i:=by omega
     rw [<- Su];refine J0 ?_;refine ⟨?_,λ a_1 _ c hc=>by
      simp only [dJ,List.mem_cons,List.not_mem_nil,or_false] at hc;rcases hc with rfl|rfl<;>exact .v _⟩
     refine aI (mt:=true) (rs:=kg a s.out a) Wp (by simp [Ba]) Xb ?_;rw [List.drop_zero,List.take_of_length_le (by grind [Ba])]
end Go.Av
end
section
open Go Go.Proofs
namespace Go.Av
open af
theorem B7 (g:af->af) (l:List af) (s0:Nat):∃A:Nat->Nat,A 0=s0∧(∀i,i<l.length->A (i+1)=A i+(g (ac l i)).size)∧(∀i,i<=l.length->A i<=s0+aD (l.map g))∧A l.length=s0+aD (l.map g):=by
 refine ⟨λ i=>s0+aD ((l.take i).map g),by simp [aD],λ i hi=> ?_,λ i hi=> ?_,pi⟩;all_goals grind [wj,su,aD,List.map_take,ly]
def zcP (r:Int):cB:= .rows true 0 1 [[.int r]]
def MH (a b:af) (r:Nat):Prop:=dD Tryz.prog 92 [bS a,bS b, .ref 0 0 1 0 0] [(0,zcP r)] 1 (.bool (decide ((add a b).size<=r))) [(0,zcP (if (add a b).size<=r then (r:Int) - (add a b).size else -1))] 1
theorem BU {a b:af}{r:Nat} (hp:MH a b r){X Y:AV} (hX:bS a=X) (hY:bS b=Y){h:au}{n:Nat}{K:cI} (hk:K (.bool (decide ((add a b).size<=r))) (aC h 0 (some (.rows true 0 1 [[.int (if (add a b).size<=r then (r:Int) - (add a b).size else -1)]]))) n)
  (ho:h 0=some (.rows true 0 1 [[.int r]]):=by simp [aC]) (hn:0<n:=by omega):ap Tryz.prog 92 [X,Y, .ref 0 0 1 0 0] h n K:=by
 subst hX hY;have cl:∀ (z:Int),∀r ∈ [[AV.int z]],∀c ∈ r,aN 0 c:=λ z r hr c hc=>by
  simp only [List.mem_singleton] at hr;subst hr;simp only [List.mem_singleton] at hc;subst hc;exact .v _
 have hb:∀m,0<m->∀c ∈ [bS a,bS b,AV.ref 0 0 1 0 0],aN m c:=λ m hm c hc=>by
  simp only [List.mem_cons,List.not_mem_nil,or_false] at hc;rcases hc with rfl|rfl|rfl
  ·exact lS m a
  ·exact lS m b
  ·exact .ref hm
 exact zhr hp ho hn (cl _) (cl _) (.cons (.same (lS 0 a)) (.cons (.same (lS 0 b)) (.cons (.ref rfl) .nil))) (hb 1 ge) (hb n hn) (.v _) hk
theorem Vk:∀ (n:Nat) (a b:af) (r:Nat),a.size+b.size<=n->n<=68719476736->r<=1000000->MH a b r:=by
 intro n;induction n with
 |zero=>grind [bZ]
 |succ n ih=>
  intro a b r hf hn hr;have e1:=nA a;have e2:=nB a;have e3:=nA b;have e4:=nB b;have iaL:∀i,i<a.L.length->∀k:Nat,k<=1000000->MH (ac a.L i) b k:=λ i hi k hk=>ih _ _ k WC ge hk;have ibL:∀i,i<b.L.length->∀k:Nat,k<=1000000->MH a (ac b.L i) k:=λ i hi k hk=>ih _ _ k WC ge hk;have iaR:∀i,i<a.R.length->∀k:Nat,k<=1000000->MH (ac a.R i) b k:=λ i hi k hk=>ih _ _ k WD ge hk;have ibR:∀i,i<b.R.length->∀k:Nat,k<=1000000->MH a (ac b.R i) k:=λ i hi k hk=>ih _ _ k WD ge hk;have es:(add a b).size=1+aD (a.L.map λ z=>add z b)+aD (a.R.map λ z=>add z b)+aD (b.L.map λ z=>add a z)+aD (b.R.map λ z=>add a z):=by
   grind [Lk,size,su]
  obtain ⟨A1,p1,q1,m1,t1⟩:=B7 (λ z=>add z b) a.L 1;obtain ⟨A2,p2,q2,m2,t2⟩:=B7 (λ z=>add z b) a.R (A1 a.L.length);obtain ⟨A3,p3,q3,m3,t3⟩:=B7 (λ z=>add a z) b.L (A2 a.R.length);obtain ⟨A4,p4,q4,m4,t4⟩:=B7 (λ z=>add a z) b.R (A3 b.L.length);rw [<- t1] at m1;rw [<- t2] at m2;rw [<- t3] at m3;rw [<- t4] at m4;have es2:(add a b).size=A4 b.R.length:=ge;have o1:=m2 0 (Nat.zero_le _);have o2:=m3 0 (Nat.zero_le _);have o3:=m4 0 (Nat.zero_le _);rw [p2] at o1;rw [p3] at o2;rw [p4] at o3;clear es t1 t2 t3 t4;unfold MH dD zcP;rw [es2];have hFa:bS a= .agg [.lst 2 (az a.L), .lst 2 (az a.R)]:=by rw [bS,aH]
  have hFb:bS b= .agg [.lst 2 (az b.L), .lst 2 (az b.R)]:=by rw [bS,aH]
  rw [hFa,hFb];refine aF Tryz.func92 ?_;refine J0 ?_;refine zg4 (λ hr0=> ?_) (λ hr0=> ?_)<;>simp at hr0
  ·have hz:r=0:=by omega
   have h0:=m1 0 (Nat.zero_le _);have hbig:¬A4 b.R.length<=r:=ge;subst hz;refine J1 hbig ?_;simp [go_sem,aj,hbig]
  ·have hr1:1<=r:=by omega
   refine J0 ?_;refine zg6 ?_;refine J0 ?_;refine zg3 (zg5 (α:=Nat) (λ i=>⟨[(2, .ref 0 0 1 0 0),(3, .ref 1 0 2 0 0),(4, .ref 2 0 2 0 0),(28, .agg [.lst 2 (az a.L), .lst 2 (az a.R)]),(29, .int 0),(32, .lst 2 (az a.L)),(33, .int a.L.length),(34, .int i)], [(0, .rows true 0 1 [[.int (r - A1 i:Int)]]),(1, .rows true 0 2 [[.lst 2 (az a.L), .lst 2 (az a.R)]]),(2, .rows true 0 2 [[.lst 2 (az b.L), .lst 2 (az b.R)]])],3⟩) (λ d i=>i+d=a.L.length∧A1 i<=r) ?_ a.L.length 0 ?_) ?_ ?_;rotate_left
   ·omega
   ·simp [go_sem,aj,p1]
   ·simp
   rintro d i ⟨hi,hle⟩ hrec;have hm:=m1 i ge;refine J0 ?_;refine zg4 (λ hc=> ?_) (λ hc=> ?_)<;>simp at hc
   ·have hi':i<a.L.length:=by omega
    have hs:=q1 i hi';have hm2:=m1 (i+1) ge;have hC:=iaL i hi' (r - A1 i) ge;have hcast:((r - A1 i:Nat):Int)=r - A1 i:=ge;have hX:bS (ac a.L i)= .agg (ce (ac a.L i)):=rfl;repeat first|refine wV λ _=>?_|simp [go_sem,bh hi',hi']
    refine BU hC hX hFb ?_ WQ;by_cases hf:(add (ac a.L i) b).size<=r - A1 i
    ·rw [decide_eq_true hf,if_pos hf];refine J0 ?_;refine zg3 (hrec (d - 1) ge (i+1) ⟨ge,ge⟩) ?_ gt;have hs2:((r - A1 i:Nat):Int) - (add (ac a.L i) b).size=r - A1 (i+1):=ge;simp [go_sem,aj,hs2]
    ·have hbig:¬A4 b.R.length<=r:=by omega
     rw [decide_eq_false hf,if_neg hf];refine J0 ?_;simp [go_sem,aj,hbig]
   ·obtain rfl:i=a.L.length:=by omega
    refine J0 ?_;refine zg6 ?_;refine J0 ?_;refine zg3 (zg5 (α:=Nat) (λ i=>⟨[(2, .ref 0 0 1 0 0),(3, .ref 1 0 2 0 0),(4, .ref 2 0 2 0 0),(28, .agg [.lst 2 (az a.L), .lst 2 (az a.R)]),(29, .int 1),(32, .lst 2 (az a.R)),(33, .int a.R.length),(34, .int i)], [(0, .rows true 0 1 [[.int (r - A2 i:Int)]]),(1, .rows true 0 2 [[.lst 2 (az a.L), .lst 2 (az a.R)]]),(2, .rows true 0 2 [[.lst 2 (az b.L), .lst 2 (az b.R)]])],3⟩) (λ d i=>i+d=a.R.length∧A2 i<=r) ?_ a.R.length 0 ?_) ?_ ?_;rotate_left
    ·omega
    ·simp [go_sem,aj,p2]
    ·simp
    rintro d i ⟨hi,hle⟩ hrec;have hm:=m2 i ge;refine J0 ?_;refine zg4 (λ hc=> ?_) (λ hc=> ?_)<;>simp at hc
    ·have hi':i<a.R.length:=by omega
     have hs:=q2 i hi';have hm2:=m2 (i+1) ge;have hC:=iaR i hi' (r - A2 i) ge;have hcast:((r - A2 i:Nat):Int)=r - A2 i:=ge;have hX:bS (ac a.R i)= .agg (ce (ac a.R i)):=rfl;repeat first|refine wV λ _=>?_|simp [go_sem,bh hi',hi']
     refine BU hC hX hFb ?_ WQ;by_cases hf:(add (ac a.R i) b).size<=r - A2 i
     ·rw [decide_eq_true hf,if_pos hf];refine J0 ?_;refine zg3 (hrec (d - 1) ge (i+1) ⟨ge,ge⟩) ?_ gt;have hs2:((r - A2 i:Nat):Int) - (add (ac a.R i) b).size=r - A2 (i+1):=ge;simp [go_sem,aj,hs2]
     ·have hbig:¬A4 b.R.length<=r:=by omega
      rw [decide_eq_false hf,if_neg hf];refine J0 ?_;simp [go_sem,aj,hbig]
    ·obtain rfl:i=a.R.length:=by omega
     refine J0 ?_;refine zg6 ?_;refine J0 ?_;refine zg6 ?_;refine J0 ?_;refine zg3 (zg5 (α:=Nat) (λ i=>⟨[(2, .ref 0 0 1 0 0),(3, .ref 1 0 2 0 0),(49, .agg [.lst 2 (az b.L), .lst 2 (az b.R)]),(50, .int 0),(53, .lst 2 (az b.L)),(54, .int b.L.length),(55, .int i)], [(0, .rows true 0 1 [[.int (r - A3 i:Int)]]),(1, .rows true 0 2 [[.lst 2 (az a.L), .lst 2 (az a.R)]]),(2, .rows true 0 2 [[.lst 2 (az b.L), .lst 2 (az b.R)]])],3⟩) (λ d i=>i+d=b.L.length∧A3 i<=r) ?_ b.L.length 0 ?_) ?_ ?_;rotate_left
     ·omega
     ·simp [go_sem,aj,p3]
     ·simp
     rintro d i ⟨hi,hle⟩ hrec;have hm:=m3 i ge;refine J0 ?_;refine zg4 (λ hc=> ?_) (λ hc=> ?_)<;>simp at hc
     ·have hi':i<b.L.length:=by omega
      have hs:=q3 i hi';have hm2:=m3 (i+1) ge;have hC:=ibL i hi' (r - A3 i) ge;have hcast:((r - A3 i:Nat):Int)=r - A3 i:=ge;have hX:bS (ac b.L i)= .agg (ce (ac b.L i)):=rfl;repeat first|refine wV λ _=>?_|simp [go_sem,bh hi',hi']
      refine BU hC hFa hX ?_ (by simp [aC,hcast]);by_cases hf:(add a (ac b.L i)).size<=r - A3 i
      ·rw [decide_eq_true hf,if_pos hf];refine J0 ?_;refine zg3 (hrec (d - 1) ge (i+1) ⟨ge,ge⟩) ?_ gt;have hs2:((r - A3 i:Nat):Int) - (add a (ac b.L i)).size=r - A3 (i+1):=ge;simp [go_sem,aj,hs2]
      ·have hbig:¬A4 b.R.length<=r:=by omega
       rw [decide_eq_false hf,if_neg hf];refine J0 ?_;simp [go_sem,aj,hbig]
     ·obtain rfl:i=b.L.length:=by omega
      refine J0 ?_;refine zg6 ?_;refine J0 ?_;refine zg3 (zg5 (α:=Nat) (λ i=>⟨[(2, .ref 0 0 1 0 0),(3, .ref 1 0 2 0 0),(49, .agg [.lst 2 (az b.L), .lst 2 (az b.R)]),(50, .int 1),(53, .lst 2 (az b.R)),(54, .int b.R.length),(55, .int i)], [(0, .rows true 0 1 [[.int (r - A4 i:Int)]]),(1, .rows true 0 2 [[.lst 2 (az a.L), .lst 2 (az a.R)]]),(2, .rows true 0 2 [[.lst 2 (az b.L), .lst 2 (az b.R)]])],3⟩) (λ d i=>i+d=b.R.length∧A4 i<=r) ?_ b.R.length 0 ?_) ?_ ?_;rotate_left
      ·omega
      ·simp [go_sem,aj,p4]
      ·simp
      rintro d i ⟨hi,hle⟩ hrec;have hm:=m4 i ge;refine J0 ?_;refine zg4 (λ hc=> ?_) (λ hc=> ?_)<;>simp at hc
      ·have hi':i<b.R.length:=by omega
       have hs:=q4 i hi';have hm2:=m4 (i+1) ge;have hC:=ibR i hi' (r - A4 i) ge;have hcast:((r - A4 i:Nat):Int)=r - A4 i:=ge;have hX:bS (ac b.R i)= .agg (ce (ac b.R i)):=rfl;repeat first|refine wV λ _=>?_|simp [go_sem,bh hi',hi']
       refine BU hC hFa hX ?_ (by simp [aC,hcast]);by_cases hf:(add a (ac b.R i)).size<=r - A4 i
       ·rw [decide_eq_true hf,if_pos hf];refine J0 ?_;refine zg3 (hrec (d - 1) ge (i+1) ⟨ge,ge⟩) ?_ gt;have hs2:((r - A4 i:Nat):Int) - (add a (ac b.R i)).size=r - A4 (i+1):=ge;simp [go_sem,aj,hs2]
       ·have hbig:¬A4 b.R.length<=r:=by omega
        rw [decide_eq_false hf,if_neg hf];refine J0 ?_;simp [go_sem,aj,hbig]
      ·obtain rfl:i=b.R.length:=by omega
       refine J0 ?_;refine zg6 ?_;refine J0 ?_;simp [go_sem,aj,hle]
end Go.Av
end
section
open Go Go.Proofs
namespace Go.Av
open af
def zG (nx:Nat->List Nat):Nat->Nat->Prop
 |0, _=>False
 |d+1,i=>∀j ∈ nx i,zG nx d j
theorem zbI (nx:Nat->List Nat):Al nx (zG nx):=⟨λ _ h=>h,λ h=>h,λ h=>h⟩
theorem BX {L R:List (List Nat)}:∀ (d e i:Nat),zG (iI L R) d i->zG (iI L R) e i->jV L R d i=jV L R e i
 |0, _, _,h, _=>h.elim
 | _+1,0, _, _,h=>h.elim
 |d+1,e+1,i,h,k=>by
  rw [jV,jV];rw [List.map_congr_left λ j hj=>BX d e j (h j (List.mem_append.2 (.inl hj))) (k j (List.mem_append.2 (.inl hj))),List.map_congr_left λ j hj=>BX d e j (h j (List.mem_append.2 (.inr hj))) (k j (List.mem_append.2 (.inr hj)))]
open Classical in
noncomputable def re (L R:List (List Nat)) (i:Nat):af:=if h:∃d,zG (iI L R) d i then jV L R h.choose i else .zero
variable {L R:List (List Nat)}
theorem vH {d i:Nat} (h:zG (iI L R) d i):re L R i=jV L R d i:=by
 have h':∃d,zG (iI L R) d i:=⟨d,h⟩
 grind [re,BX]
theorem Ov {d i:Nat} (h:zG (iI L R) d i):re L R i= .mk ((ac L i).map (re L R)) ((ac R i).map (re L R)):=by
 cases d with
 |zero=>exact h.elim
 |succ d=>
  rw [vH h,jV];grind [List.map_congr_left,vH,zG,iI]
def xM (L R:List (List Nat)) (n:Nat):Bool:=(ij (iI L R) (n+1) (λ _=>0) 0).1
theorem pU {n:Nat} (hin:∀k,k<n->∀j ∈ iI L R k,j<n) (h0:0<n):xM L R n=true↔∀d,¬zG (iI L R) d 0:=zdG (zbI _) hin h0
theorem GN {g:ae}{l:Nat} (hl:1<=l):∀ (f i:Nat){P:List aa}{L R:List (List Nat)}{P':List aa}{L' R':List (List Nat)},P.length<=l->b9 g l f i P L R=some (P',L',R')->P'.length<=l
 |0, _, _, _, _, _, _, _, _,h=>WP
 |f+1,i,P,L,R,P',L',R',hp,h=>by
  rw [b9] at h;split at h
  ·split at h
   ·cases h
   ·exact GN hl f (i+1) ge h
  grind
def uQ (g:ae) (P:List aa) (k:Nat):Prop:=∀i,0<i->i<P.length->∃j,j<i∧j<k∧∃s:Int,(s=0∨s=1)∧ac P i ∈ bV g (ac P j) s
theorem Dn {g:ae}{k:Nat}{s:Int} (hs:s=0∨s=1){pk:aa}:∀ (os:List aa) (P:List aa),uQ g P (k+1)->k<P.length->ac P k=pk->(∀x ∈ os,x ∈ bV g pk s)->uQ g (os.foldl dV P) (k+1)∧k<(os.foldl dV P).length∧ac (os.foldl dV P) k=pk
 | [],P,h,hk,hn, _=>⟨h,hk,hn⟩
 |x::os,P,h,hk,hn,ho=>by
  have key:uQ g (dV P x) (k+1)∧k<(dV P x).length∧ac (dV P x) k=pk:=by
   unfold dV;split
   ·grind
   ·refine ⟨λ i hi hil=> ?_,pi,Wx⟩;by_cases e:i<P.length
    ·obtain ⟨j,h1,h2,t,h3,h4⟩:=h i hi e;exact ⟨j,h1,h2,t,h3,Wx⟩
    ·refine ⟨k,ge,ge,s,hs, ?_⟩;grind [Ct]
  exact Dn hs os _ key.1 key.2.1 key.2.2 λ y hy=>ho y WR
theorem uQ.more {g:ae}{P:List aa}{k k':Nat} (h:uQ g P k) (hk:k<=k'):uQ g P k':=λ i hi hil=>by
 obtain ⟨j,h1,h2,h3⟩:=h i hi hil;exact ⟨j,h1,ge,h3⟩
theorem Eg {g:ae}{l:Nat}:∀ (f i:Nat){P:List aa}{L R:List (List Nat)}{P':List aa}{L' R':List (List Nat)},uQ g P i->b9 g l f i P L R=some (P',L',R')->uQ g P' P'.length
 |0, _, _, _, _, _, _, _, _,h=>WP
 |f+1,i,P,L,R,P',L',R',hp,h=>by
  rw [b9] at h;split at h
  ·rename_i hi;split at h
   ·cases h
   ·obtain ⟨a1,a2,a3⟩:=Dn (g:=g) (s:=0) (.inl rfl) (bV g (ac P i) 0) P (hp.more (Nat.le_succ i)) hi rfl λ x hx=>hx;obtain ⟨b1, _, _⟩:=Dn (g:=g) (s:=1) (.inr rfl) (bV g (ac P i) 1) _ a1 a2 a3 λ x hx=>hx;exact Eg f (i+1) b1 h
  ·obtain ⟨rfl,rfl,rfl⟩:=h;intro i hi hil;obtain ⟨j,h1,h2,h3⟩:=hp i hi hil;exact ⟨j,h1,ge,h3⟩
end Go.Av
end
section
/- sum.Form, sum.Loop, given the graph; sum.Total. -/
set_option linter.unusedSectionVars false
open Go Go.Proofs
namespace Go.Av
open af
theorem Ma {g:ae} (hg:bN g){p:aa} (hp:bw g p){s:Int} (hs:s=0∨s=1):(∀x ∈ bV g p s,bw g x)∧(bV g p s).length<=472446:=by
 have hk:=bX hp hs;refine ⟨λ x hx=> ?_, ?_⟩
 ·obtain ⟨y,hy,rfl⟩:=List.mem_map.1 hx;exact bX ((bD hg hk y hy).1) (.inl rfl)
 grind [bV,cG]
theorem GO {g:ae} (hg:bN g){l:Nat}:∀ (f i:Nat){P:List aa}{L R:List (List Nat)}{P':List aa}{L' R':List (List Nat)},(∀x ∈ P,bw g x)->b9 g l f i P L R=some (P',L',R')->∀x ∈ P',bw g x
 |0, _, _, _, _, _, _, _, _,h=>WP
 |f+1,i,P,L,R,P',L',R',hp,h=>by
  rw [b9] at h;split at h
  ·rename_i hi;split at h
   ·cases h
   ·have hpi:=hp _ (am hi);refine GO hg f (i+1) (λ x hx=> ?_) h;rcases (gu _ _).1 hx with hx|hx
    ·rcases (gu _ _).1 hx with hx|hx
     ·exact hp x hx
     ·exact (Ma hg hpi (.inl rfl)).1 x hx
    ·exact (Ma hg hpi (.inr rfl)).1 x hx
  ·obtain ⟨rfl,rfl,rfl⟩:=h;exact hp
structure GrB (P:List aa) (L R:List (List Nat)):Prop where
 n:P.length<=4000
 pos:0<P.length
 l:L.length=P.length
 r:R.length=P.length
 len:∀i,i<P.length->(ac L i).length<=1048576∧(ac R i).length<=1048576
 lt:∀i,i<P.length->∀j ∈ iI L R i,j<P.length
theorem kY {g:ae} (hg:bN g){p:aa} (hp:bw g p){limit:Nat} (hl:1<=limit∧limit<=4000){P:List aa}{L R:List (List Nat)} (hX:b9 g limit 4002 0 [bv p 0] [] []=some (P,L,R)):xi g P L R P.length∧ac P 0=bv p 0∧uQ g P P.length∧(∀x ∈ P,bw g x)∧P.length<=limit∧GrB P L R:=by
 obtain ⟨hgr,h0,hne⟩:=JH 4002 0 (Rh g (bv p 0)) (Nat.zero_le _) rfl gt hX;have hlen:=GN hl.1 4002 0 (P:= [bv p 0]) pi hX;have hpos:=List.length_pos_iff.2 hne;have hpok:=GO hg 4002 0 (P:= [bv p 0]) (λ x hx=>by grind [bX]) hX;have hfr:=Eg 4002 0 (P:= [bv p 0]) (λ i hi hil=>by grind) hX;refine ⟨hgr,h0,hfr,hpok,hlen,ge,hpos,hgr.l,hgr.r,λ i hi=> ?_,zcx hgr⟩;have hpi:=hpok _ (am hi);rw [hgr.ol i hi,hgr.or i hi,List.length_map,List.length_map];grind [Ma]
noncomputable def nu:Option (List aa×List (List Nat)×List (List Nat))->af×Int
 |none=>(zero,2)
 |some (P,L,R)=>if xM L R P.length=true then (zero,210) else if 2000<(re L R 0).size then (zero,2) else (re L R 0,0)
def oi (x:af×Int):AV:= .tup [bS x.1, .int x.2]
theorem p8:bS zero= .agg [.lst 2 [], .lst 2 []]:=by rw [bS,p9]
theorem IA (g:ae) (p:aa) (hN:aq Tryz.prog 86 [.agg (ai g)] (.bool false)):aq Tryz.prog 47 [.agg (ai g), .agg (ak p)] (oi (zero,230)):=by
 have hegl:(ai g).length=9:=rfl;have hegb:∀n,(∀c ∈ ai g,aN n c)=True:=λ n=>no;rw [oi,p8];refine pF Tryz.func47 ?_;refine J0 ?_;refine aP hN ?_;exact K0
theorem P4 (g:ae) (hg:bN g) (p:aa) (hp:bw g p) (hN:aq Tryz.prog 86 [.agg (ai g)] (.bool true)):
  aq Tryz.prog 47 [.agg (ai g), .agg (ak p)] (oi (nu (b9 g 4000 4002 0 [bv p 0] [] []))):=by
 have hE:=BR g hg p hp 4000 ge;have hegl:(ai g).length=9:=rfl;have hegb:∀n,(∀c ∈ ai g,aN n c)=True:=λ n=>no;cases hX:b9 g 4000 4002 0 [bv p 0] [] [] with
 |none=>
  rw [hX,Sr] at hE;rw [nu,oi,p8];refine pF Tryz.func47 ?_;refine J0 ?_;refine aP hN ?_;refine J0 ?_;refine aP hE ?_;exact K0
 |some x=>
  obtain ⟨P,L,R⟩:=x;obtain ⟨hgr,h0,hfr,hpok,hlen,b⟩:=kY hg hp ge hX;have hB:=UF L R P.length ge b.pos b.l b.r b.len b.lt;rw [hX,Sr] at hE;rw [nu];by_cases hb:xM L R P.length=true
  ·rw [if_pos hb,oi,p8];rw [show (ij (iI L R) (P.length+1) (λ _=>0) 0).1=true from hb] at hB;refine pF Tryz.func47 ?_;refine J0 ?_;refine aP hN ?_;refine J0 ?_;refine aP hE ?_;refine J0 ?_;refine aP hB ?_;exact K0
  ·rw [if_neg hb];have hnb:=hb;rw [Bool.not_eq_true] at hb;rw [show (ij (iI L R) (P.length+1) (λ _=>0) 0).1=false from hb] at hB;have hex:∃d,zG (iI L R) d 0:=Classical.byContradiction λ hno=>hnb ((pU b.lt b.pos).2 λ d hd=>hno ⟨d,hd⟩);obtain ⟨d,hd⟩:=hex;have hS:=Wi (F:=re L R) (by omega:P.length<=1048576) b.pos b.l b.r b.len b.lt (zbI _) (λ d i _ h=>Ov h) hd;have hF:=Q9 (F:=re L R) (by omega:P.length<=1048576) b.l b.r b.len b.lt (zbI _) (λ d i _ h=>Ov h) d 0 b.pos hd;by_cases hz:2000<(re L R 0).size
   ·rw [if_pos hz,oi,p8];have hz2:((min (re L R 0).size 2001:Nat):Int)=2001:=ge;rw [hz2] at hS;refine pF Tryz.func47 ?_;refine J0 ?_;refine aP hN ?_;refine J0 ?_;refine aP hE ?_;refine J0 ?_;refine aP hB ?_;refine J0 ?_;refine aP hS ?_;exact K0
   ·rw [if_neg hz,oi];have hz2:((min (re L R 0).size 2001:Nat):Int)=(re L R 0).size:=ge;have hz3:¬(2000:Int)<(re L R 0).size:=ge;rw [hz2] at hS;generalize re L R 0=f at *;rw [bS,aH] at *;refine pF Tryz.func47 ?_;refine J0 ?_;refine aP hN ?_;refine J0 ?_;refine aP hE ?_;refine J0 ?_;refine aP hB ?_;refine J0 ?_;refine aP hS ?_;refine J2 hz3 hz ?_;refine aP hF ?_;exact K0
def TF:Option (List aa×List (List Nat)×List (List Nat))->AV
 |none=> .tup [.agg [.lst 1 [], .lst 1 []], .int 2]
 |some (_,L,R)=> .tup [.agg [aG L,aG R], .int 0]
theorem IB (g:ae) (p:aa) (hN:aq Tryz.prog 86 [.agg (ai g)] (.bool false)):aq Tryz.prog 52 [.agg (ai g), .agg (ak p)] (.tup [.agg [.lst 1 [], .lst 1 []], .int 230]):=by
 have hegl:(ai g).length=9:=rfl;have hegb:∀n,(∀c ∈ ai g,aN n c)=True:=λ n=>no;refine pF Tryz.func52 ?_;refine J0 ?_;refine aP hN ?_;exact K0
theorem P7 (g:ae) (hg:bN g) (p:aa) (hp:bw g p) (hN:aq Tryz.prog 86 [.agg (ai g)] (.bool true)):
  aq Tryz.prog 52 [.agg (ai g), .agg (ak p)] (TF (b9 g 32 4002 0 [bv p 0] [] [])):=by
 have hE:=BR g hg p hp 32 ge;have hegl:(ai g).length=9:=rfl;have hegb:∀n,(∀c ∈ ai g,aN n c)=True:=λ n=>no;cases hX:b9 g 32 4002 0 [bv p 0] [] [] with
 |none=>
  rw [hX,Sr] at hE;rw [TF];refine pF Tryz.func52 ?_;refine J0 ?_;refine aP hN ?_;refine J0 ?_;refine aP hE ?_;exact K0
 |some x=>
  obtain ⟨P,L,R⟩:=x;rw [hX,Sr] at hE;rw [TF];rw [aG,aG] at *;refine pF Tryz.func52 ?_;refine J0 ?_;refine aP hN ?_;refine J0 ?_;refine aP hE ?_;exact K0
end Go.Av
end
section
namespace Go.Proofs
open Go.Shelf Go.RowKit
theorem Fl {p:Program}{w:World}{at_:Addr}{u:TypeId}{k:Addr}{v:Value}{b:Bool}{r:World×List Addr} (h:w.viewStore p at_ u k v b= .ok r):r.1.drawn=w.drawn:=by
 unfold World.viewStore at h;simp only [bind,Except.bind,pure,Except.pure,throw,throwThe,MonadExceptOf.throw] at h;repeat' split at h
 all_goals first|(cases h;rfl)|(cases h)
theorem GP {p:Program}{w:World}{a:Addr}{v:Value}{b:Bool}{r:World×List Addr} (h:w.farStore p a v b= .ok r):r.1.drawn=w.drawn:=by
 grind [World.farStore,Fl]
theorem Dc {α:Type}:∀ (m:Ask α) (w:World),w.drawn<=(w.ask m).2.drawn
 | .done a,w=>Nat.le_refl _
 | .ask what range k,w=>by
  rw [World.ask];split
  ·exact Dc _ w
  ·exact Nat.le_trans (Nat.le_succ _) (Dc _ { w with drawn:=w.drawn+1})
theorem zaf (w:World) (c:Sys):w.drawn<=(w.sys c).2.drawn:=by
 grind [Dc,World.sys]
theorem KI {P:Program}{α:Type}:∀ (m:Sem α){w w':World}{a:α},m.run P w= .ok a w'->w.drawn<=w'.drawn:=by
 intro m;induction m with
 |pure a=>grind [Sem.run]
 |load m a k ih=>
  grind [Sem.run]
 |store m a v k ih=>
  intro w w' x h;have key:∀ (h:(match w.cell? a with|some _=>if w.frozen? a then Result.halt (.unsupported (.unsafePointer "a write to bytes that a string shares")) w else k.run P (w.setCell a v)|none=>match w.farStore P a v (m== .atomic) with| .ok (w, _)=>k.run P w| .error h=> .halt h w)=Result.ok x w'),w.drawn<=w'.drawn:=by
   intro h;split at h
   ·split at h
    ·cases h
    ·have:=ih h;exact this
   ·split at h
    ·rename_i h1;have h2:=GP h1;grind
    ·cases h
  cases v<;>simp only [Sem.run] at h<;>first|(cases h;done)|exact key h
 |new o k ih=>grind [Sem.run]
 |shape r k ih=>grind [Sem.run]
 |freeze a n k ih=>
  grind [Sem.run,World.freeze]
 |frozen a k ih=>grind [Sem.run]
 |getObj r k ih=>
  grind [Sem.run]
 |setObj r o k ih=>
  grind [Sem.run]
 |choose q k ih=>
  grind [Sem.run]
 |sys c k ih=>grind [Sem.run,zaf]
 |program k ih=>grind [Sem.run]
 |mark m k ih=>grind [Sem.run]
 |halt h=>grind [Sem.run]
theorem Lu {P:Program}{ops:Array Oper}{rest:List Oper}{o:Oper}{a:Act}{w:World}{Q:Exit->Act->World->Prop} (hgd:o.guard=none) (s x:Operand) (t:TypeId)
  (ho:o.op= .call { callee:= .builtin .append,args:= #[s,x],argTypes:= #[t,t]}) (base:Nat) (e:TypeId) (i:TypeInfo) (z:Value) (size bytes:Nat) (ht:P.underlying t=some (.slice e)) (hi:P.info? e=some i) (hz:i.zero=some z)
  (hsize:i.size=size) (hby:i.bytes=bytes) (hzs:z.cells.size=size) (hsz:0<size) (v:Value) (n:Nat) (xs:List Value) (hs:a.eval s=v) (hown:w.ownsRowF base e size v n xs)
  (ad:Addr) (m c:Nat) (news:List Value) (hx:a.eval x= .slice (some ad) m c) (hl:news.length=m * size) (hnews:∀j u,news[j]? =some u->w.cell? (ad.add j)=some u) (h1:∀u ∈ news,u.oneCell'=true)
  (h63:n+m<=maxLen) (hbytes:(n+m) * bytes<=140737488355328) (hbase:base<=w.heap.size)
  (h:∀v' w',w'.ownsRowF base e size v' (n+m) (xs++news)->w.grownBy w' v.ownBlock->w.drawn<=w'.drawn->wpList P ops Q rest (a.put o.dst v') w'):wpList P ops Q (o::rest) a w:=by
 refine wpList_plain hgd λ K hK=> ?_;obtain ⟨v',w',hr,h2,h3, _⟩:=run_append_ownF (P:=P) w base t o.type e i z size bytes ht hi hz hsize hby hzs hsz v n xs hown ad m c news hl hnews h1 h63 hbytes hbase;have hd:=KI _ hr;unfold Oper.wp execOp;simp only [ho,resolve,invoke,builtin,Sem.run_bind,Sem.run_pure,Result.andThen_ok,List.map_toArray,List.map_cons,List.map_nil,hs,hx,hr];exact hK _ _ (h v' w' h2 h3 hd)
theorem IK {P:Program}{ops:Array Oper}{rest:List Oper}{o:Oper}{a:Act}{w:World}{Q:Exit->Act->World->Prop} (hgd:o.guard=none) (sl x:Operand) (t u:TypeId)
  (ho:o.op= .call { callee:= .builtin .append,args:= #[sl,x],argTypes:= #[t,u]}) (base:Nat) (e:TypeId) (i:TypeInfo) (ht:P.underlying t=some (.slice e)) (hu:P.underlying u=some .string) (hi:P.info? e=some i) (hz:i.zero=some (.int .u8 0))
  (hsize:i.size=1) (hby:i.bytes=1) (v:Value) (n:Nat) (xs:List Value) (hs:a.eval sl=v) (hown:w.ownsRowF base e 1 v n xs) (s:ByteArray) (hx:a.eval x= .string s)
  (h63:n+s.size<=maxLen) (hbytes:n+s.size<=140737488355328) (hbase:base<=w.heap.size)
  (h:∀v' w',w'.ownsRowF base e 1 v' (n+s.size) (xs++Lib.strCells s)->w.grownBy w' v.ownBlock->w.drawn<=w'.drawn->wpList P ops Q rest (a.put o.dst v') w'):wpList P ops Q (o::rest) a w:=by
 refine wpList_plain hgd λ K hK=> ?_;obtain ⟨v',w',hr,h2,h3, _⟩:=Lib.run_append_own_stringF (P:=P) w base t u o.type e i ht hu hi hz hsize hby v n xs hown s h63 hbytes hbase;have hd:=KI _ hr;unfold Oper.wp execOp;simp only [ho,resolve,invoke,builtin,Sem.run_bind,Sem.run_pure,Result.andThen_ok,List.map_toArray,List.map_cons,List.map_nil,hs,hx,hr];exact hK _ _ (h v' w' h2 h3 hd)
def My (B:Nat) (w w':World):Prop:=Below B w w'∧w.drawn<=w'.drawn
theorem My.trans {B:Nat}{a b c:World} (h:My B a b) (k:My B b c):My B a c:=⟨h.1.trans k.1,Nat.le_trans h.2 k.2⟩
theorem My.refl (B:Nat) (w:World):My B w w:=⟨Below.refl B w,Nat.le_refl _⟩
end Go.Proofs
end
section
namespace Go.Proofs
open Go.Shelf Go.RowKit
theorem NN:(Tryz.prog.info? 195).map (·.size)=some 2:=Pi
theorem zbn:liesAt Tryz.prog Tryz.prog.depth 195 (2 / Tryz.prog.cellsOf 195) 0 195 1=true:=Pi
theorem Gn:Tryz.prog.underlying 193=some (.pointer 195):=Pi
theorem NO:Tryz.prog.underlying 328=some .unsafePointer:=Pi
theorem zbq (b:Nat) (w:World) (h0:w.cell? ⟨b,0,none⟩=some (.pointer (some ⟨b,0,none⟩))):
  Calls Tryz.prog 168 #[.pointer (some ⟨b,0,none⟩)] w λ e w'=>e= .returned (.tuple #[])∧w'=w:=by
 obtain ⟨j,hj, _⟩:=Option.map_eq_some_iff.1 NN;go_enter Tryz.func168,Tryz.ntmps168
 go_wp2
 rw [Lib.run_neq_ptr_same w _ Gn hj];go_wp2
 go_end0
 grind
theorem US (b:Nat) (w:World) (h0:w.cell? ⟨b,0,none⟩=some (.pointer none)) (hsh:w.shape? b=some (195,2)) (hfz:w.frozen? ⟨b,0,none⟩=false):
  Calls Tryz.prog 168 #[.pointer (some ⟨b,0,none⟩)] w λ e w'=>e= .returned (.tuple #[])∧w'=w.setCell ⟨b,0,none⟩ (.pointer (some ⟨b,0,none⟩)):=by
 obtain ⟨j,hj,hjs⟩:=Option.map_eq_some_iff.1 NN;go_enter Tryz.func168,Tryz.ntmps168
 go_wp2
 rw [Lib.run_to_unsafe w ⟨b,0,none⟩ Gn NO hj ge hsh (Nat.zero_lt_succ 1)];simp only [Result.andThen];go_wp2
 rw [run_callFunc_extern Tryz.func219 Pi Pi Pi (e:=Extern.AbiNoEscape.same) Pi];rw [Lib.run_noEscape];simp only [Result.andThen];go_wp2
 rw [Lib.run_from_unsafe w ⟨b,0,none⟩ NO Gn hj hsh zbn];simp only [Result.andThen];go_wp2
 go_end0
 grind
theorem NL:(Tryz.prog.info? 5).map (λ i=>(i.zero,i.size,i.bytes))=some (some (.int .u8 0),1,1):=Pi
theorem zbp:Tryz.prog.underlying 22=some (.slice 5):=Pi
theorem zfE:Tryz.prog.underlying 9=some .string:=Pi
abbrev zM (B b:Nat) (bs:List Value) (w:World):Prop:=Lib.IsBuilderF 195 5 B b bs w
abbrev Jf (B b:Nat) (bs:List Value) (w:World):Prop:=Lib.BuilderAtF 195 5 B b (.pointer (some ⟨b,0,none⟩)) bs w
theorem Jt (B b:Nat) (bs:List Value) (w:World) (h:zM B b bs w):
  Calls Tryz.prog 168 #[.pointer (some ⟨b,0,none⟩)] w λ e w'=>e= .returned (.tuple #[])∧(Jf B b bs w'∧My B w w'):=by
 rcases h with h|h
 ·refine (US b w h.cell0 h.shape h.frozen0).mono ?_;rintro e w' ⟨rfl,rfl⟩;exact ⟨rfl,h.used _,(Below.refl B w).setCell (p:=⟨b,0,none⟩) h.1 _,Nat.le_refl _⟩
 ·refine (zbq b w h.cell0).mono ?_;grind [My.refl]
theorem BB (B b:Nat) (bs:List Value) (c:Int) (w:World) (h:zM B b bs w) (hlen:bs.length+1<=140737488355328) (hBw:B<=w.heap.size):
  Calls Tryz.prog 113 #[.pointer (some ⟨b,0,none⟩), .int .u8 c] w λ e w'=>e= .returned .nilIface∧(Jf B b (bs++ [.int .u8 c]) w'∧My B w w'):=by
 obtain ⟨i0,hi,hz0,hz1,hz2⟩:=info_parts NL;go_enter Tryz.func113,Tryz.ntmps113
 go_wp2_with (go_at_call 168;refine (Jt B b bs _ h).mono ?_)
 rintro e w1 ⟨rfl,h1,hb1,hk1⟩;obtain ⟨hB,v,hbk,hown,hne⟩:=h1;have c1:w1.cell? ⟨b,1,none⟩=some v:=by rw [Lib.cell_of_heap hbk];rfl
 go_wp2_with (at_builtin;refine Lu rfl _ _ 22 rfl B 5 i0 (.int .u8 0) 1 1 zbp hi hz0 hz1 hz2 rfl Wm _ _ _ rfl (hown.alloc _) ⟨w1.heap.size,0,none⟩ 1 1 [.int .u8 c] rfl rfl ?c1 ?c2 ?c3 ?c4 ?c5 ?_)
 case c1=>
  intro j u hj;match j,hj with
  |0,hj=>simp_all [Addr.add]
 case c2=>intro u hu;simp at hu;subst hu;rfl
 case c3=>grind [maxLen]
 case c4=>omega
 case c5=>have:=hb1.size;simp;omega
 intro v' w2 hown' hgrow hdr;have hlt:b<w1.heap.size:=(Array.getElem?_eq_some_iff.1 hbk).1;have hb2:w2.heap[b]? =some (.cells #[.pointer (some ⟨b,0,none⟩),v] 195 (0,0)):=by
  rw [hgrow.block b WJ (λ e=>hne e.symm),Lib.alloc_old w1 _ b hlt];exact hbk
 have d1:w2.cell? ⟨b,1,none⟩=some v:=by rw [Lib.cell_of_heap hb2];rfl
 have f1:w2.frozen? ⟨b,1,none⟩=false:=Lib.frozen_of_heap hb2 1;obtain ⟨g,cap,rfl⟩:∃g cap,v'= .slice (some ⟨g,0,none⟩) (bs.length+1) cap:=by
  rcases hown'.2 with ⟨_,h0⟩|⟨g,cap,cur,fz,hv, _⟩;all_goals grind
 go_wp2
 go_ret
 refine ⟨rfl, ?_, ?_,Nat.le_trans hk1 hdr⟩
 ·grind [Lib.BuilderAtF.put]
 ·exact ((hb1.alloc ge _).grown hgrow WJ (λ k hk=>(hown.lt k hk).1)).setCell (p:=⟨b,1,none⟩) hB _
theorem Gm (B b:Nat) (bs:List Value) (s:ByteArray) (w:World) (h:zM B b bs w) (hlen:bs.length+s.size<=140737488355328) (hBw:B<=w.heap.size):
  Calls Tryz.prog 114 #[.pointer (some ⟨b,0,none⟩), .string s] w λ e w'=>e= .returned (.tuple #[.int .i64 s.size, .nilIface])∧(Jf B b (bs++Lib.strCells s) w'∧My B w w'):=by
 obtain ⟨i0,hi,hz0,hz1,hz2⟩:=info_parts NL;go_enter Tryz.func114,Tryz.ntmps114
 go_wp2_with (go_at_call 168;refine (Jt B b bs _ h).mono ?_)
 rintro e w1 ⟨rfl,h1,hb1,hk1⟩;obtain ⟨hB,v,hbk,hown,hne⟩:=h1;have c1:w1.cell? ⟨b,1,none⟩=some v:=by rw [Lib.cell_of_heap hbk];rfl
 go_wp2_with (at_builtin;refine IK rfl _ _ 22 9 rfl B 5 i0 zbp zfE hi hz0 hz1 hz2 _ _ _ rfl hown s rfl ?c3 ?c4 ?c5 ?_)
 case c3=>grind [maxLen]
 case c4=>omega
 case c5=>grind
 intro v' w2 hown' hgrow hdr;have hlt:b<w1.heap.size:=(Array.getElem?_eq_some_iff.1 hbk).1;have hb2:w2.heap[b]? =some (.cells #[.pointer (some ⟨b,0,none⟩),v] 195 (0,0)):=by
  rw [hgrow.block b hlt (λ e=>hne e.symm)];exact hbk
 have d1:w2.cell? ⟨b,1,none⟩=some v:=by rw [Lib.cell_of_heap hb2];rfl
 have f1:w2.frozen? ⟨b,1,none⟩=false:=Lib.frozen_of_heap hb2 1;obtain ⟨ao,n',cap,rfl⟩:∃ao n' cap,v'= .slice ao n' cap:=by
  rcases hown'.2 with ⟨hv, _⟩|⟨g,cap,cur,fz,hv, _⟩;all_goals grind
 go_wp2
 go_ret2
 refine ⟨rfl, ?_, ?_,Nat.le_trans hk1 hdr⟩
 ·grind [Lib.BuilderAtF.put,Lib.strCells_length]
 ·exact (hb1.grown hgrow ge (λ k hk=>(hown.lt k hk).1)).setCell (p:=⟨b,1,none⟩) hB _
theorem zdP:Tryz.prog.underlying 265=some (.pointer 5):=Pi
theorem UR:Tryz.prog.cellsOf 5=1:=Pi
theorem zbo (B b:Nat) (l:List UInt8) (w:World) (h:zM B b (Lib.byteCells l) w) (h0:l≠ []):
  Calls Tryz.prog 115 #[.pointer (some ⟨b,0,none⟩)] w λ e w'=>e= .returned (.string ⟨l.toArray⟩)∧My B w w':=by
 obtain ⟨p,hAt⟩:∃p,Lib.BuilderAtF 195 5 B b p (Lib.byteCells l) w:=by
  rcases h with h|h;all_goals grind
 obtain ⟨hB,v,hbk,hown,hne⟩:=hAt;have hl0:l.length≠0:=pi;rw [Lib.byteCells_length] at hown;obtain ⟨g,cap,cur,fz,rfl,hbg,hg,hnc,hcm,hcs⟩:∃g cap cur fz,v= .slice (some ⟨g,0,none⟩) l.length cap∧B<=g∧w.heap[g]? =some (.cells cur 5 fz)∧l.length<=cap∧cap<=maxLen∧cur.size=cap * 1:=by
  rcases hown.2 with ⟨_,hz⟩|⟨g,cap,cur,fz,hv,r1,r2, _,r3,r4,r5, _⟩
  ·omega
  ·exact ⟨g,cap,cur,fz,hv,r1,r2,r3,r4,r5⟩
 have c1:w.drew.cell? ⟨b,1,none⟩=some (.slice (some ⟨g,0,none⟩) l.length cap):=by
  have:w.drew.heap[b]? =some (.cells #[p, .slice (some ⟨g,0,none⟩) l.length cap] 195 (0,0)):=hbk
  rw [Lib.cell_of_heap this];rfl
 have hSD:(Builtin.unsafeSliceData_ #[22] 265 #[.slice (some ⟨g,0,none⟩) l.length cap]).run Tryz.prog w.drew= .ok (.pointer (some ⟨g,0,none⟩)) w.drew:=
  Lib.run_unsafeSliceData_row _ _ _ _ _ _ ge
 have hUS:(Builtin.unsafeString_ #[265,3] 9 #[.pointer (some ⟨g,0,none⟩), .int .i64 l.length]).run Tryz.prog w.drew= .ok (.string ⟨l.toArray⟩) (w.drew.freeze ⟨g,0,none⟩ l.length):=by
  refine Lib.run_unsafeString_row w.drew 265 3 9 5 zdP UR g cur.size (by have hg':w.drew.heap[g]? =some (.cells cur 5 fz):=hg;simp [World.shape?,hg']) l h0 ge (by unfold maxLen at hcm;omega) ?_;intro j x hx;have:=hown.cells (g:=g) rfl j (.int .u8 x.toNat) (by simp [Lib.byteCells,hx]);exact this
 have mixed:Tryz.prog.follows .mixedOrders=true:=Pi;go_enter Tryz.func115,Tryz.ntmps115
 go_wp2
 go_region_o
 all_goals (go_wp2;go_ret;exact ⟨rfl,Lib.below_freeze (Below.drew (Below.refl B w)) (p:=⟨g,0,none⟩) hbg _,by simp_all [World.freeze]⟩)
end Go.Proofs
end
section
namespace Go.Proofs
open Go.Shelf Go.RowKit
def qB (w:World) (B:Nat) (v:Value) (ts:List (List UInt8)):Prop:=∃A cap,v= .slice A ts.length cap∧∀i (h:i<ts.length),∃a p,A=some a∧a.spot=none∧a.block<B∧p.spot=none∧p.block<B∧w.cell? ⟨a.block,a.off+i,none⟩=some (.pointer (some p))∧w.cell? p=some (.string ⟨(ts[i]).toArray⟩)
theorem ws {B:Nat}{w w':World} (h:Below B w w'){a:Addr} (ha:a.block<B):w'.cell? a=w.cell? a:=h.cell ha
theorem qB.below {B:Nat}{w w':World}{v:Value}{ts:List (List UInt8)} (h:qB w B v ts) (hb:Below B w w'):qB w' B v ts:=by
 grind [ws,qB]
def jH:List (List UInt8)->List UInt8
 | []=> []
 | [x]=>x
 |x::y::l=>x++44::jH (y::l)
theorem Hk:∀ (l:List (List UInt8)) (x:List UInt8),jH (l++ [x])=if l= [] then x else jH l++44::x
 | [],x=>rfl
 | [y],x=>rfl
 |y::z::l,x=>by
  have:=Hk (z::l) x;simp only [List.cons_append,jH] at this ⊢;rw [this];simp
theorem AS {l:List (List UInt8)}{k:Nat} (h:k<l.length):jH (l.take (k+1))=if k=0 then l[k] else jH (l.take k)++44::l[k]:=by
 rw [<- List.take_append_getElem h,Hk];grind [List.length_take]
theorem OK (l:List (List UInt8)):∀k,k<=l.length->(jH (l.take k)).length<=(jH l).length:=by
 have step:∀k,k<l.length->(jH (l.take k)).length<=(jH (l.take (k+1))).length:=λ k hk=>by
  grind [AS,jH]
 intro k hk;obtain ⟨d,hd⟩:∃d,k+d=l.length:=⟨l.length - k,ge⟩
 induction d generalizing k<;>grind
theorem NM (B b:Nat) (acc:List UInt8) (v:Value) (ts:List (List UInt8)) (w:World) (h:zM B b (Lib.byteCells acc) w) (hv:qB w B v ts) (hts:ts.length<=68719476736) (hlen:acc.length+(jH ts).length<=68719476736) (hBw:B<=w.heap.size):
  Calls Tryz.prog 112 #[v, .pointer (some ⟨b,0,none⟩)] w λ e w'=>e= .returned (.tuple #[])∧(zM B b (Lib.byteCells (acc++jH ts)) w'∧My B w w'):=by
 obtain ⟨A,cap,rfl,hcs⟩:=hv;go_enter Tryz.func112,Tryz.ntmps112
 go_wp2
 go_loopw [7] (λ t wr=>∃k:Nat,k<=ts.length∧t= .int .i64 k∧zM B b (Lib.byteCells (acc++jH (ts.take k))) wr∧My B w wr) (λ t _=>ts.length - (intOf t).toNat)
 case atStart=>grind [jH,My.refl]
 case round=>
  obtain ⟨k,hk,rfl,hI,hbw⟩:=hrel;by_cases hlt:k<ts.length
  ·obtain ⟨a,p,rfl,a1,a2,p1,p2,c1,c2⟩:=hcs k hlt;have d1:=(ws hbw.1 (a:=⟨a.block,a.off+k,none⟩) a2).trans c1;have d2:=(ws hbw.1 p2).trans c2;have hle:=OK ts (k+1) ge;have hle0:=OK ts k ge;rw [AS hlt] at hle;obtain ⟨ab,ao,asp⟩:=a;obtain ⟨pb,po,ps⟩:=p;simp only at a1 a2 p1 p2 d1 d2;subst a1;subst p1;clear hcs c1 c2;have hsz:wr.heap.size ≥ B:=Nat.le_trans hBw hbw.1.size;have hl1:(Lib.byteCells (acc++jH (ts.take k))).length=acc.length+(jH (ts.take k)).length:=by grind [Lib.byteCells_length]
   have hl2:(⟨(ts[k]).toArray⟩:ByteArray).size=(ts[k]).length:=by simp [ByteArray.size]
   have hend:∀ (W:World),zM B b (Lib.byteCells (acc++jH (ts.take (k+1)))) W->My B w W->∃k':Nat,k'<=ts.length∧Value.int .i64 ((k:Int)+1)= .int .i64 k'∧zM B b (Lib.byteCells (acc++jH (ts.take k'))) W∧My B w W:=λ W h1 h2=>⟨k+1,ge,rfl,h1,h2⟩
   rw [AS hlt] at hend;by_cases h0:k=0
   ·subst h0;simp only [Nat.add_zero] at d1;rw [if_pos rfl] at hle hend;go_wp2_with (go_at_call 114;refine (Gm B b _ _ _ hI (by rw [hl1,hl2];omega) ge).mono ?_)
    rintro e w1 ⟨rfl,h1,hb1⟩;go_wp2
    go_roundw
    case rel=>exact hend _ (.inr (by grind [Lib.strCells,Lib.byteCells,jH])) (hbw.trans hb1)
    grind [intOf]
   ·rw [if_neg h0] at hle hend;rw [List.length_append,List.length_cons] at hle;go_wp2_with (go_at_call 113;refine (BB B b _ 44 _ hI (by rw [hl1];omega) ge).mono ?_)
    rintro e w1 ⟨rfl,h1,hb1⟩;have hbw1:=hbw.trans hb1;have d4:=(ws hb1.1 (a:=⟨pb,po,none⟩) p2).trans d2;have hsz1:w1.heap.size ≥ B:=Nat.le_trans hBw hbw1.1.size;go_wp2_with (go_at_call 114;refine (Gm B b _ _ _ (.inr h1) (by rw [List.length_append,hl1,hl2];simp;omega) ge).mono ?_)
    rintro e w2 ⟨rfl,h2,hb2⟩;go_wp2
    go_roundw
    case rel=>exact hend _ (.inr (by grind [Lib.strCells,Lib.byteCells])) (hbw1.trans hb2)
    grind [intOf]
  ·obtain rfl:k=ts.length:=by omega
   go_wp2
   go_end0
   grind
end Go.Proofs
end
