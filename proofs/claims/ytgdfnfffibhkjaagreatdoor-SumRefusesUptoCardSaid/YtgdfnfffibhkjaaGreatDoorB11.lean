/- Texts of ours, part 11: our library and contracts of functions. -/
import Derived.Test.YtgdfnfffibhkjaaGreatDoorB10
import Derived.Test.YtgdfnfffibhkjaaGreatDoorProg
import Derived.Shelf.Strings.BuilderK
set_option linter.unusedSimpArgs false
set_option linter.unusedVariables false
set_option maxRecDepth 100000
set_option maxHeartbeats 40000000
section
open Go Go.Proofs
namespace Go.Av
def zoy (op:Int):Int:=if op=1∨op=2∨op=7 then 1 else if op=8 then 2 else if op=9∨op=10 then 3 else 0
def zL0 (op:Int):ByteArray:=if op=1 then ⟨#[103,111]⟩ else if op=2 then ⟨#[115,108,105,100,101]⟩ else if op=3 then ⟨#[101,109,112,116,121]⟩ else if op=4 then ⟨#[101,110,101,109,121]⟩
 else if op=5 then ⟨#[102,114,105,101,110,100]⟩ else if op=6 then ⟨#[116,97,107,101]⟩ else if op=7 then ⟨#[112,117,115,104]⟩ else if op=8 then ⟨#[98,101,99,111,109,101]⟩ else if op=9 then ⟨#[110,101,101,100]⟩ else ⟨#[108,111,115,101]⟩
def zv1:List AV:= [.v (.string ⟨#[]⟩), .int 0]++(([1,2,3,4,5,6,7,8,9,10]:List Int).map λ op=> [AV.v (.string (zL0 op)), .int (zoy op)]).flatten
theorem zAa (n:Nat):∀c ∈ zv1,Bel n c:=by
 intro c hc;have hall:zv1.all (λ c=>match c with| .v _=>true| _=>false)=true:=rfl;have h:=List.all_eq_true.1 hall c hc;cases c<;>simp at h;exact .v _
theorem zIx:zav Tryz.prog 273 [] (.agg zv1):=by
 refine pF Tryz.func273 ?_;refine J0 ?_;exact ⟨zOm rfl,zAa 0⟩
theorem zHc (op:Int) (h:1<=op∧op<=10):zav Tryz.prog 230 [.int op] (.tup [.agg [.v (.string (zL0 op)), .int (zoy op)], .v (.bool true)]):=by
 refine pF Tryz.func230 ?_;have hr:=zIx;have hl:zv1.length=22:=rfl;rcases (show op=1∨op=2∨op=3∨op=4∨op=5∨op=6∨op=7∨op=8∨op=9∨op=10 by omega) with rfl|rfl|rfl|rfl|rfl|rfl|rfl|rfl|rfl|rfl;all_goals
  refine J0 ?_;refine aP hr ?_;refine J1 hl ?_;exact zOm rfl
theorem zo8 (p:List (Int×Int)) (hp:p.length<=1048576) (op:Int):zav Tryz.prog 232 [zaT p, .int op] (.int (za7 p op)):=by
 refine pF Tryz.func232 ?_;generalize hR:za7 p op=R;refine J0 ?_;refine zNW (zNY (α:=Nat×Nat) (λ a=>⟨[(1, .int op),(5, .int a.2),(8,zaT p),(9, .int p.length),(10, .int a.1)], [],0⟩)
  (λ d a=>a.1+d=p.length∧a.2<=a.1∧a.2+za7 (p.drop a.1) op=R) ?_ p.length (0,0) ?_) ?_ ?_
 ·rintro d ⟨i,n⟩ ⟨i1,i2,i3⟩ hrec;simp only at i1 i2 i3;refine J0 ?_;refine zNX (λ hi=> ?_) (λ hi=> ?_)<;>simp at hi
  ·rw [zaV hi] at i3;unfold za7 at i3;rw [List.countP_cons] at i3;refine J1 hi ?_;refine zNX (λ he=> ?_) (λ he=> ?_)<;>simp at he
   ·simp [he] at i3;refine J0 ?_;refine zNW (hrec (d - 1) aa (i+1,n+1) ⟨aa,aa,by grind [za7]⟩) ?_ ac;simp [go_sem,zaf]
   ·simp [he] at i3;refine J0 ?_;refine zNW (hrec (d - 1) aa (i+1,n) ⟨aa,aa,by grind [za7]⟩) ?_ ac;simp [go_sem,zaf]
  ·rw [List.drop_eq_nil_of_le hi] at i3;simp [za7] at i3;subst i3;exact K0
 ·grind
 ·simp [go_sem,zaf]
 ·simp
theorem zHZ (x:Int×Int) (D K R:Int) (hx:zfn D K R x) (hK:0<=K):zav Tryz.prog 229 [.agg (zbT x), .fp [.int 1, .int D, .int K, .int R]] (.v (.bool false)):=by
 refine pF Tryz.func229 ?_;obtain ⟨hop,hd,hz,hk,hr⟩:=hx;have hf:=zHc x.1 hop;obtain ⟨op,N⟩:=x;simp only at *;have hN:0<=N:=aa;have hN':¬N<0:=aa;have hops:op=1∨op=2∨op=3∨op=4∨op=5∨op=6∨op=7∨op=8∨op=9∨op=10:=aa;have hL:N<nth ([1,D,K,R]:List Int) (zoy op).toNat:=by
  rcases hops with rfl|rfl|rfl|rfl|rfl|rfl|rfl|rfl|rfl|rfl<;>simp [zoy,nth]<;>omega
 rcases hops with rfl|rfl|rfl|rfl|rfl|rfl|rfl|rfl|rfl|rfl;all_goals
  simp [zoy,nth] at hf hL;have hL':=Int.not_le.2 hL;refine J0 ?_;refine aP hf ?_;exact K3 hN hN' hL'
theorem zA4 (p:List (Int×Int)) (D K R:Int) (hp:zmT D K R p) (hK:0<=K):zav Tryz.prog 184 [zaT p, .int D, .int K, .int R] (.v (.bool true)):=by
 refine pF Tryz.func184 ?_;obtain ⟨h1,h2,h3,h4,h5,h6⟩:=hp;have hc:=znL p aa 229 [.fp [.int 1, .int D, .int K, .int R]] (λ _=>false) (λ x hx=>zHZ x D K R (h3 x hx) hK) ae;have he:(p.any λ _=>false)=false:=ac;rw [he] at hc;have hc6:=zo8 p aa 6;have hc7:=zo8 p aa 7;have hc8:=zo8 p aa 8;have a1:0<p.length:=aa;have a2:(p.length:Int)<=8:=aa;have a3:(za7 p 6:Int)<=2:=aa;have a4:(za7 p 7:Int)<=1:=aa;have a5:(za7 p 8:Int)<=1:=aa;refine J3 a1 a2 h2 ?_;refine zOe [zaT p, .fn (.func 229) [] [.fp [.int 1, .int D, .int K, .int R]]] (.v (.bool false)) (λ _=>hc) (.v _) ?_ ae ?_
 ·refine .cons (.refl _) (.cons (.fn .nil (.cons (.frzP rfl ?_ ?_ ?_ ?_) .nil)) .nil)<;>first|exact zaL.refl _ _ _ _|simp [noH]
 refine J2 a1 a2 ?_;refine zN4 _ (λ _=>hc6) ae ?_;refine J1 a3 ?_;refine zN4 _ (λ _=>hc7) ae ?_;refine J1 a4 ?_;refine zN4 _ (λ _=>hc8) ae ?_;exact K1 a5
theorem zJT (n a b:Int):zav Tryz.prog 227 [.int n, .int a, .int b] (.v (.bool (decide (a<=n) && decide (n<=b)))):=by
 refine pF Tryz.func227 ?_;exact K0
theorem zqx {n a b:Int} (h1:a<=n) (h2:n<=b):zav Tryz.prog 227 [.int n, .int a, .int b] (.v (.bool true)):=by
 have:=zJT n a b;rwa [show (decide (a<=n) && decide (n<=b))=true by grind] at this
theorem zDp (b:zbg) (hb:zbE b) (x:Int) (hx: -1<=x∧x<b.cells):zav Tryz.prog 228 [.int x, .fp [.fn (.func 227) [] []], .fp (zgT b)] (.v (.bool false)):=by
 refine pF Tryz.func228 ?_;have hI:=zqx (n:=x) (a:= -1) (b:=b.cells - 1) hx.1 aa;have hc0:=hb.c0;have hc1:=hb.c1;refine J0 ?_;refine aP hI ?_;exact K0
theorem zz4 (b:zbg) (hb:zbE b) (h1:1<=b.cells) (h2:b.cells<=64) (h3:1<=b.next.length) (h4:b.next.length<=8) (ht:∀d,d<b.turn.length->nth b.turn (nth b.turn d).toNat=d):
  zav Tryz.prog 181 [.agg (zgT b)] (.v (.bool true)):=by
 refine pF Tryz.func181 ?_;have hO:=λ x hx=>zDp b hb x hx;obtain ⟨tl,tv,nl,nv,c0,c1,n1⟩:=hb;have hI1:=zqx (n:=b.cells) (a:=1) (b:=64) h1 h2;have hI2:=zqx (n:=b.next.length) (a:=1) (b:=8) aa aa;refine J0 ?_;refine aP hI1 ?_;refine J0 ?_;refine zN4 _ (λ _=>hI2) ae ?_;refine J1 tl ?_;refine zNW (zNY (α:=Nat) (λ d=>⟨[(1, .ref 0 0 3 0 0),(3, .int b.next.length),(4, .ref 1 0 1 0 0),(29,zcU b.next),(30, .int b.next.length),(31, .int d)],
   [(0, .rows true 0 3 [zgT b]),(1, .rows true 0 1 [[.fn (.func 227) [] []]])],2⟩)
  (λ f d=>d+f=b.next.length) ?_ b.next.length 0 ?_) ?_ ?_
 ·rintro f d i1 hrec;refine J0 ?_;refine zNX (λ hd=> ?_) (λ hd=> ?_)<;>simp at hd
  ·have hm:=zah hd;have hlen:=nl _ hm;have hv:=nv _ hm;have hdt:d<b.turn.length:=aa;have htv:=tv _ (zah hdt);have hti:(nth b.turn d).toNat<b.turn.length:=aa;have htt:=ht d hdt;have hCF:=zjE (nth b.next d) (by unfold zkq;omega) 228 [] [.fp [.fn (.func 227) [] []], .fp (zgT b)] (λ _=>false) (λ x hx=>hO x (hv x hx)) ac ae;rw [show ((nth b.next d).any λ _=>false)=false by simp] at hCF;have hI3:=zqx (n:=nth b.turn d) (a:=0) (b:=(b.next.length:Int) - 1) htv.1 aa;refine J2 hd hlen ?_;refine zOe [zaG (nth b.next d), .fn (.func 228) [] [.fp [.fn (.func 227) [] []], .fp (zgT b)]] (.v (.bool false)) (λ _=>hCF) (.v _) ?_ ae ?_
   ·refine .cons (.refl _) (.cons (.fn .nil (.cons (.frzP rfl ?_ ?_ ?_ ?_) (.cons (.frzP rfl ?_ ?_ ?_ ?_) .nil))) .nil)<;>first|exact zaL.refl _ _ _ _|simp [noH]
   refine J2 hd hdt ?_;refine dP hI3 ?_;refine J4 hd hdt hti htt ?_;refine zNW (hrec (f - 1) aa (d+1) aa) ?_ ac;simp [go_sem,zaf]
  ·exact K0
 ·simp
 ·simp [go_sem,zaf]
 ·simp
def zbU (g:zaa):Prop:=g.kinds.map (·.name)= [zqm]∨g.kinds.map (·.name)= [zqm,ztS]
theorem zbU.name {g:zaa} (h:zbU g):∀k ∈ g.kinds,k.name=zqm∨k.name=ztS:=by
 intro k hk;have hm:k.name ∈ g.kinds.map (·.name):=List.mem_map.2 ⟨k,hk,rfl⟩;rcases h with h|h<;>rw [h] at hm<;>simp at hm
 ·exact .inl hm
 ·exact hm
theorem zAS:(zqm.toList==ztS.toList)=false:=cD
theorem zbU.find {g:zaa} (h:zbU g){i:Nat} (hi:i<g.kinds.length):zFu (λ k:zhn=>k.name.toList==(nth g.kinds i).name.toList) g.kinds=i:=by
 refine zsd hi (λ j hj=> ?_) ac;have hn:∀j,j<g.kinds.length->(nth g.kinds j).name=nth (g.kinds.map (·.name)) j:=λ j hj=>(zau _ _ _ hj).symm;grind [zAS,nth,zbU]
theorem zzj (g:zaa) (hg:GOk g) (p:List (Int×Int)) (hp:zmT g.next.length g.kinds.length g.rights p):zav Tryz.prog 183 [zaT p, .fp (zad g)] (.v (.bool false)):=by
 refine pF Tryz.func183 ?_;have hV:=zA4 p _ _ _ hp aa;refine J0 ?_;refine aP hV ?_;exact K0
theorem zzi (g:zaa) (hg:GOk g) (c:Int×Int×Int×Int) (hc:ziP g.cells g.kinds.length c):zav Tryz.prog 189 [.agg (zaZ c), .fp (zad g)] (.v (.bool false)):=by
 refine pF Tryz.func189 ?_;have hk6:=hg.k6;have hV:=zEX g c aa hc;have hbl:∀n,(∀c' ∈ zad g,Bel n c')=True:=λ n=>ae;have hel:(zad g).length=9:=rfl;have het:(zad g).take 9=zad g:=rfl;generalize zad g=eg at *;refine J2 hel het ?_;refine zN0 hV aG ?_;exact K0
theorem zsb (g:zaa) (hg:GOk g) (hn:zbU g):zav Tryz.prog 135 [.agg (zad g)] (.v (.bool true)):=by
 refine pF Tryz.func135 ?_;have hB:=zz4 g.board hg.board hg.c1 (by have:=hg.c9;grind [zaa.board]) hg.d1 hg.d8 hg.turn;have hW:=λ p hp=>zzj g hg p hp;have hWC:=λ c hc=>zzi g hg c hc;have hRb:=zkF g.blocked;rw [show (decide (1<=g.blocked) && decide (g.blocked<=3))=true by simp [hg.bl]] at hRb;have hRe:=zkF g.endless;rw [show (decide (1<=g.endless) && decide (g.endless<=3))=true by simp [hg.en]] at hRe;have k1:=hg.k1;have k6:=hg.k6;have r0:=hg.r0;have r4:=hg.r4;have cn:=hg.cn;have hF:=λ (nm:ByteArray)=>zDZ g nm aa;have hbl:∀n,(∀c' ∈ zad g,Bel n c')=True:=λ n=>ae;have heB:zgT g.board= [.int g.cells,zcU g.next,zaG g.turn]:=rfl;have heG:zad g= [.int g.cells,zcU g.next,zaG g.turn, .lst 3 (g.kinds.map zbq), .int g.rights, .v (.bool g.must), .lst 4 (g.clauses.map zaZ), .int g.blocked, .int g.endless]:=rfl;have d1:¬(g.kinds.length:Int)<1:=aa;have d2:¬6<(g.kinds.length:Int):=aa;have d3:¬g.rights<0:=aa;have d4:¬4<g.rights:=aa;have d5:¬6<(g.clauses.length:Int):=aa;rw [heB] at hB;refine J0 ?_;refine aP hB ?_;refine J5 d1 d2 d3 d4 d5 ?_;refine zN4 _ (λ _=>hRb) af ?_;refine J0 ?_;refine zN4 _ (λ _=>hRe) af ?_;refine J0 ?_;refine zNW (zNY (α:=Nat) (λ i=>⟨[(1, .ref 0 0 9 0 0),(51, .lst 3 (g.kinds.map zbq)),(52, .int g.kinds.length),(53, .int i)], [(0, .rows true 0 9 [zad g])],1⟩)
  (λ d i=>i+d=g.kinds.length) ?_ g.kinds.length 0 ?_) ?_ ?_
 ·rintro d i i1 hrec;refine J0 ?_;refine zNX (λ hi=> ?_) (λ hi=> ?_)<;>simp at hi
  ·have hm:=zah hi;have hVN:=zt4 _ (hn.name _ hm);have hFi:=hF (nth g.kinds i).name;rw [hn.find hi] at hFi;have hpn:=hg.pn _ hm;have d6:¬8<((nth g.kinds i).progs.length:Int):=aa;have hCP:=znK (nth g.kinds i).progs aa 183 [.fp (zad g)] (λ _=>false) (λ p hp=>hW p (hg.pr _ hm p hp)) ae;rw [show ((nth g.kinds i).progs.any λ _=>false)=false by simp] at hCP;rw [heG] at hFi;refine J1 hi ?_;refine aP hVN ?_;refine J0 ?_;refine zN4 _ (λ _=>hFi) ae ?_;refine J1 d6 ?_;refine zOe [.lst 1 ((nth g.kinds i).progs.map λ p=> [zaT p]), .fn (.func 183) [] [.fp (zad g)]] (.v (.bool false)) (λ _=>hCP) (.v _) ?_ ae ?_
   ·refine .cons (.refl _) (.cons (.fn .nil (.cons (.frzP rfl ?_ ?_ ?_ ?_) .nil)) .nil)<;>first|exact zaL.refl _ _ _ _|simp [noH]
   refine J0 ?_;refine zNW (hrec (d - 1) aa (i+1) aa) ?_ ac;simp [go_sem,zaf]
  ·have hCC:=znH g.clauses aa 189 [.fp (zad g)] (λ _=>false) (λ c hc=>hWC c (hg.cl c hc)) ae;rw [show (g.clauses.any λ _=>false)=false by simp] at hCC;refine J0 ?_;refine zOb (args':= [.lst 4 (g.clauses.map zaZ), .fn (.func 189) [] [.fp (zad g)]]) hCC (.v _) ?_ ae ?_
   ·refine .cons (.refl _) (.cons (.fn .nil (.cons (.frzP rfl ?_ ?_ ?_ ?_) .nil)) .nil)<;>first|exact zaL.refl _ _ _ _|simp [noH]
   exact K0
 ·simp
 ·simp [go_sem,zaf]
 ·simp
def zaz (g:zaa):Bool:=decide (g.clauses.length=0) && decide (g.rights=0) && !g.must && !(g.kinds.any λ k=>k.keep) && decide (g.blocked=3) && decide (g.endless=2)
theorem zEb (k:zhn):zav Tryz.prog 134 [.agg (zbq k)] (.v (.bool k.keep)):=by
 refine pF Tryz.func134 ?_;exact K0
theorem zjc (g:zaa) (hg:GOk g) (hn:zbU g):zav Tryz.prog 86 [.agg (zad g)] (.v (.bool (zaz g))):=by
 refine pF Tryz.func86 ?_;have hV:=zsb g hg hn;have k6:=hg.k6;have hK:=znI g.kinds aa 134 [] (λ k=>k.keep) (λ k _=>zEb k) ac;have heG:zad g= [.int g.cells,zcU g.next,zaG g.turn, .lst 3 (g.kinds.map zbq), .int g.rights, .v (.bool g.must), .lst 4 (g.clauses.map zaZ), .int g.blocked, .int g.endless]:=rfl;rw [heG] at hV;unfold zaz;refine J0 ?_;refine aP hV ?_;refine J0 ?_;refine zN4 _ (λ _=>hK) ae ?_;exact K0
end Go.Av
end
section
/- solve.sorted, solve.Next. -/
set_option linter.unusedSectionVars false
open Go Go.Proofs
namespace Go.Av
theorem zBs (l:List zae) (hi:Inc l) (hl:l.length<=4000) (hf:∀q ∈ l,zbc q):zav Tryz.prog 212 [zaC l] (.bool true):=by
 refine pF Tryz.func212 ?_;refine J0 ?_;refine zNW (zNY (α:=Nat) (λ i=>⟨[(0,zaC l),(6, .int ((l.length:Int) - 1)),(7, .int i)], [],0⟩) (λ d i=>i+d=l.length) ?_ l.length 0 ?_) ?_ ?_;rotate_left
 ·simp
 ·simp [go_sem,zaf]
 ·simp
 rintro d i i1 hrec;refine J0 ?_;refine zNX (λ hi0=> ?_) (λ hi0=> ?_)<;>simp at hi0
 ·have h0:i<l.length:=by omega
  have h1:i+1<l.length:=aa;have hC:=zdO (nth l i) (nth l (i+1)) (hf _ (zah h0)) (hf _ (zah h1));have hlt:=hi.lt (i:=i) (j:=i+1) aa h1;have n0:nth (l.map zag) i=zag (nth l i):=zau _ _ _ h0;have n1:nth (l.map zag) (i+1)=zag (nth l (i+1)):=zau _ _ _ h1;generalize zbp (nth l i) (nth l (i+1))=x at *;generalize nth l i=a at *;generalize nth l (i+1)=b at *;refine J4 h0 h1 n0 n1 ?_;refine dP hC ?_;refine J0 ?_;refine zNX (λ hx=> ?_) (λ hx=> ?_)<;>simp at hx
  ·exfalso;omega
  ·refine J0 ?_;refine zNW (hrec (d - 1) aa (i+1) aa) ?_ ac;simp [go_sem,zaf]
 ·exact K0
theorem zKW (g:zaa) (hg:GOk g) (p:zae) (hp:POk g p):zav Tryz.prog 209 [.agg (zag p), .fp (zad g)] (.bool false):=by
 have hV:=zub g bi ⟨hg.r0,bZ⟩ p (hp.fits hg);rw [zpz.2 hp] at hV;have hegl:(zad g).length=9:=rfl;have hegb:∀n,(∀c ∈ zad g,Bel n c)=True:=λ n=>ae;refine pF Tryz.func209 ?_;generalize zad g=eg at *;have htk:List.take 9 eg=eg:=List.take_of_length_le aa;refine J3 hegl hegb htk ?_;refine zN0 hV (by simp [go_sem,hegb]) ?_;exact K0
def zr5 (f:Nat->List AV) (z:List AV) (m j:Nat):List (List AV):=(List.range m).map λ i=>if i<j then f i else z
@[go_sem] theorem zqK (f:Nat->List AV) (z:List AV) (m j:Nat):(zr5 f z m j).length=m:=by simp [zr5]
@[go_sem] theorem zHg (f:Nat->List AV) (z:List AV) (m:Nat):zr5 f z m 0=List.replicate m z:=by
 unfold zr5;refine List.ext_getElem ac λ i h1 h2=>ac
theorem zKl (f:Nat->List AV) (z:List AV) (m j:Nat):(zr5 f z m j).set j (f j)=zr5 f z m (j+1):=by
 refine List.ext_getElem (by simp [zr5]) λ i h1 h2=> ?_;grind [zr5]
theorem zKj (f:Nat->List AV) (z:List AV) (m:Nat):zr5 f z m m=(List.range m).map f:=by
 simp_all [zr5]
theorem zKk {f:Nat->List AV}{z:List AV}{m j n:Nat} (hf:∀i,∀c ∈ f i,Bel n c) (hz:∀c ∈ z,Bel n c):∀r ∈ zr5 f z m j,∀c ∈ r,Bel n c:=by
 grind [zr5]
def zEr:List AV:= [.v (.slice none 0 0)]
theorem zBT {l:List (List Nat)}{m j n:Nat}:(∀r ∈ zr5 (λ i=>zbD (nth l i)) zEr m j,∀c ∈ r,Bel n c)=True:=by
 refine eq_true (zKk (λ i c hc=> ?_) (λ c hc=> ?_))
 ·grind [zbD,zgm]
 ·simp only [zEr,List.mem_singleton] at hc;subst hc;exact .v _
attribute [go_sem ↓] zBT
theorem Inc.nodup {l:List zae} (h:Inc l):l.Nodup:=h.imp λ {a b} hab e=>by
 subst e;have:=(zaK.eq a a).2 rfl;omega
theorem zyJ {α:Type} [Inhabited α] {l:List α} (h:l.Nodup){i:Nat} (hi:i<l.length):nth l i ∉ l.take i:=λ hm=>by
 grind [List.mem_iff_getElem,List.getElem_inj,nth]
theorem znm {h h':zay}{n:Nat}{x y:List AV} (hx:zaL h h' n x y):∀ (l:List (List AV)) (k:Nat),zaM h h' n (l.set k x) (l.set k y)
 | [], _=> .refl _
 |z::l,0=> .cons hx (.refl _)
 |z::l,k+1=> .cons (.refl _ _ _ _) (znm hx l k)
theorem zqA {n:Nat}{l:List (List AV)}{k:Nat}{x:List AV} (h1:∀r ∈ l,∀c ∈ r,Bel n c) (h2:∀c ∈ x,Bel n c):∀r ∈ l.set k x,∀c ∈ r,Bel n c:=by
 grind
def zEY (l:List zae) (x:zae):List AV:= [zwY x, .int (ixP l x:Nat)]
theorem zBU (n:Nat) (l k:List zae):(∀r ∈ k.map (zEY l),∀c ∈ r,Bel n c)=True:=eq_true λ r hr c hc=>by
 obtain ⟨x, _,rfl⟩:=List.mem_map.1 hr;simp only [zEY,zwY,List.mem_cons,List.not_mem_nil,or_false] at hc;rcases hc with rfl|rfl<;>exact .v _
def zaI (g:zaa) (l:List zae):List (List Nat):=l.map λ p=>(zai g p).map (ixP l)
theorem zC1 (g:zaa) (hg:GOk g) (hn:zbU g) (l:List zae) (hi:Inc l) (hl:l.length<=4000) (hv:∀q ∈ l,POk g q) (hc:∀q ∈ l,∀m ∈ zai g q,m ∈ l):
  zav Tryz.prog 153 [.agg (zad g),zaC l] (.tup [zax (zaI g l), .int 0]):=by
 have hV:=zsb g hg hn;have hS:=zBs l hi hl (λ q hq=>(hv q hq).fits hg);have hO:=znJ l aa 209 [] [.fp (zad g)] (λ _=>false) (λ q hq=>zKW g hg q (hv q hq)) ac ae;rw [show (l.any λ _=>false)=false by simp] at hO;have hegl:(zad g).length=9:=rfl;have hegb:∀n,(∀c ∈ zad g,Bel n c)=True:=λ n=>ae;refine pF Tryz.func153 ?_;refine J0 ?_;refine aP hV ?_;have d1:¬4000<(l.length:Int):=aa;refine J1 d1 ?_;refine zOe [zaC l, .fn (.func 209) [] [.fp (zad g)]] (.v (.bool false)) (λ _=>hO) (.v _) ?_ ae ?_
 ·refine .cons (.refl _) (.cons (.fn .nil (.cons (.frzP rfl ?_ ?_ ?_ ?_) .nil)) .nil)<;>first|exact zaL.refl _ _ _ _|simp [noH]
 refine J0 ?_;refine zN4 _ (λ _=>hS) ae ?_;refine J0 ?_;have hnd:=hi.nodup;have hd3:Int.toNat ((l.length:Nat):Int)=l.length:=rfl;refine zNW (zNY (α:=Nat) (λ i=>⟨[(1,zaC l),(2, .ref 0 0 9 0 0),(7, .mp 1),(37,zaC l),(38, .int l.length),(39, .int i)], [(0, .rows true 0 9 [zad g]),(1, .rows true 0 2 ((l.map (zEY l)).take i))],2⟩) (λ d i=>i+d=l.length) ?_ l.length 0 ?_) ?_ ?_;rotate_left
 ·simp
 ·simp [go_sem,zaf]
 ·simp
 rintro d i i1 hrec;refine J0 ?_;refine zNX (λ hi0=> ?_) (λ hi0=> ?_)<;>simp at hi0
 ·have h0:i<l.length:=by omega
  have hK:=ziq hg (hv _ (zah h0));have n0:nth (l.map zag) i=zag (nth l i):=zau _ _ _ h0;have hput:=(zjV (nth l i) (λ x=> .int (ixP l x:Nat)) (l.take i) λ u hu e=>zom hg (hv _ (zah h0)) (hv u (List.mem_of_mem_take hu)) e).2 (zyJ hnd h0) (.int i);have hix:=zHw hnd h0;have hsn:l.take (i+1)=l.take i++ [nth l i]:=c8;have hput:zdv .string (.v (.string (zld (nth l i)))) (.int i) ((l.map (zEY l)).take i)=some ((l.map (zEY l)).take (i+1)):=by
   rw [<- List.map_take,<- List.map_take,hsn,List.map_append,List.map_singleton,zEY,hix];exact hput
  clear hsn;generalize nth l i=q at *;refine J2 h0 n0 ?_;refine aP hK ?_;refine J1 hput ?_;refine zNW (hrec (d - 1) aa (i+1) aa) ?_ ac;simp [go_sem,zaf];intro r hr c hc;exact of_eq_true (zBU 2 l l) r (List.mem_of_mem_take hr) c hc
 ·obtain rfl:i=l.length:=by omega
  have htl:(l.map (zEY l)).take l.length=l.map (zEY l):=List.take_of_length_le ac;have hnl:(zaI g l).length=l.length:=bh;obtain ⟨F,hF⟩:∃F:Nat->List AV,F=λ i=>zbD (nth (zaI g l) i):=⟨_,rfl⟩
  have hbF:∀n j,(∀r ∈ zr5 F zEr l.length j,∀c ∈ r,Bel n c)=True:=λ n j=>by rw [hF];exact zBT
  have hbF':∀n i,∀c ∈ F i,Bel n c:=λ n i c hc=>by
   grind [zbD,zgm]
  have hR:(zaI g l).map zbD=zr5 F zEr l.length l.length:=by
   rw [zKj,hF];refine List.ext_getElem af λ i h1 h2=> ?_;grind [nth]
  have hFi:∀i,i<l.length->F i=zbD ((zai g (nth l i)).map (ixP l)):=λ i hi=>by
   grind [zaI,nth]
  have hbJ:∀n,(∀r ∈ l.map (zEY l),∀c ∈ r,Bel n c)=True:=λ n=>zBU n l l;have hbJ':∀n,∀a ∈ l,∀c ∈ zEY l a,Bel n c:=λ n a ha=>of_eq_true (hbJ n) _ (List.mem_map_of_mem ha);rw [zax,hR];clear hF hR;refine J1 htl ?_;refine zNW (zNY (α:=Nat) (λ i=>⟨[(2, .ref 0 0 9 0 0),(7, .mp 1),(10, .sl 2 0 1 0 l.length),(52,zaC l),(53, .int l.length),(54, .int i)], [(0, .rows true 0 9 [zad g]),(1, .rows true 0 2 (l.map (zEY l))),(2, .rows true 0 1 (zr5 F zEr l.length i))],3⟩) (λ d i=>i+d=l.length) ?_ l.length 0 ?_) ?_ ?_;rotate_left
  ·simp
  ·simp [go_sem,zaf,htl,hbJ,hbF,zHg,zEr];grind
  ·simp
  rintro d2 i j1 hrec2;refine J0 ?_;refine zNX (λ hi1=> ?_) (λ hi1=> ?_)<;>simp at hi1
  ·have h0:i<l.length:=by omega
   have hq:=hv _ (zah h0);have hM:=zhJ g hg _ hq;have hml:=zbf hg hq;have hmo:=λ m hm=>(zaE hg hq m hm).1;have hmc:=hc _ (zah h0);have hFi:=hFi i h0;have n0:nth (l.map zag) i=zag (nth l i):=zau _ _ _ h0;generalize nth l i=q at *;generalize zai g q=mv at *;refine J2 h0 n0 ?_;refine aP hM ?_;refine J0 ?_;obtain ⟨W,hW⟩:∃W,W=(mv.map (ixP l)).map zaR:=⟨_,rfl⟩
   have hWl:W.length=mv.length:=af;have hWb:∀n j,(∀r ∈ W.take j,∀c ∈ r,Bel n c)=True:=λ n j=>by rw [hW,<- List.map_take];exact zfo n _
   have hFi:F i= [.lst 1 W]:=dL;have hWs:∀j,j<mv.length->W.take (j+1)=W.take j++ [[.int (ixP l (nth mv j):Nat)]]:=λ j hj=>by
    grind [List.take_add_one,zaR,nth]
   clear hW;have hbS:∀n j,4<n->∀r ∈ (zr5 F zEr l.length i).set i [.sl 4 j 1 0 j],∀c ∈ r,Bel n c:=λ n j hn=>zqA (of_eq_true (hbF n i)) λ c hc=>by
    rw [List.mem_singleton] at hc;subst hc;exact .sl hn
   refine zNW (zNY (α:=Nat) (λ j=>⟨[(2, .ref 0 0 9 0 0),(7, .mp 1),(10, .sl 2 0 1 0 l.length),(11, .int i),(52,zaC l),(53, .int l.length),(54, .int i),(61,zaC mv),(62, .int mv.length),(63, .int j)],
    [(0, .rows true 0 9 [zad g]),(1, .rows true 0 2 (l.map (zEY l))),(2, .rows true 0 1 ((zr5 F zEr l.length i).set i [.sl 4 j 1 0 j])),(4, .rows true j 1 (W.take j))],5⟩) (λ d j=>j+d=mv.length) ?_ mv.length 0 ?_) ?_ ?_
   rotate_left
   ·simp
   ·simp [go_sem,zaf,hbJ];refine ⟨hbJ' 5, ?_,hbS 5 0 aa⟩;rw [show zr5 F zEr l.length i=(zr5 F zEr l.length i).set i zEr by
     refine List.ext_getElem ac λ a h1 h2=> ?_;simp_all [List.getElem_set,zr5],List.set_set]
    exact znm (.cons (.own aa cZ) .nil) _ _
   ·simp
   rintro d3 j k1 hrec3;refine J0 ?_;refine zNX (λ hj=> ?_) (λ hj=> ?_)<;>simp at hj
   ·have hjm:=hmc _ (zah hj);have hK:=ziq hg (hmo _ (zah hj));have n1:nth (mv.map zag) j=zag (nth mv j):=zau _ _ _ hj;have hfind:=(zjV (nth mv j) (λ x=> .int (ixP l x:Nat)) l λ u hu e=>zom hg (hmo _ (zah hj)) (hv u hu) e).1;rw [if_pos hjm] at hfind;have hfind:zct .string (.v (.string (zld (nth mv j)))) (l.map (zEY l))=some (some (.int (ixP l (nth mv j):Nat))):=hfind;have hsn:=hWs j hj;have htk:(W.take j).length=j:=by rw [List.length_take,hWl];omega
    have hns:nth ((zr5 F zEr l.length i).set i [.sl 4 j 1 0 j]) i= [.sl 4 j 1 0 j]:=by
     simp_all [zcp,zqK]
    generalize nth mv j=m at *;refine J2 hj n1 ?_;refine aP hK ?_;have a8:(j+1) * 8<=17592186044416:=aa;repeat first|refine wV λ _=>?_|simp [go_sem,hfind,h0,hns,zqK,htk,a8]
    refine zNW (hrec3 (d3 - 1) aa (j+1) aa) ?_ ac;simp [go_sem,zaf,hbJ,hWb,hsn];exact ⟨hbJ' 5,hbS 5 (j+1) aa⟩
   ·obtain rfl:j=mv.length:=by omega
    have htk:W.take mv.length=W:=List.take_of_length_le aa;refine J0 ?_;refine zNW (hrec2 (d2 - 1) aa (i+1) aa) ?_ ac;simp [go_sem,zaf,hbJ,hbF,htk];refine ⟨hbJ' 3, ?_⟩;rw [<- zKl,hFi];refine znm (.cons ?_ .nil) _ _;refine zaq (mt:=true) (rs:=W) aj aa (by simp_all [upd]) ?_;grind
  ·obtain rfl:i=l.length:=by omega
   refine J0 ?_;refine LeV.frz (mt:=true) (rs:=zr5 F zEr l.length l.length) aj (by simp [zqK]) br ?_;grind [zN6,zqK]
end Go.Av
end
section
/- Plain: chapter 7: values of a closed list, round by round. -/
open Go Go.Proofs
namespace Go.Av
def zg2 (v:Nat->Option (Int×Nat)):List Nat->Nat
 | []=>0
 |j::l=>match v j with
  |some (o,n)=>if o=1 then max n (zg2 v l) else zg2 v l
  |none=>zg2 v l
def zBy (v:Nat->Option (Int×Nat)) (j:Nat):Bool:=match v j with
 |some (o, _)=>decide (o=1)
 |none=>false
def atG (v:Nat->Option (Int×Nat)) (l:List Nat) (n:Nat):Option (Int×Nat):=
 if l.any (λ j=>decide (v j=some (3,n - 1)))=true then some (1,n)
 else if l.all (zBy v)=true∧zg2 v l=n - 1 then some (3,n) else none
section
variable (nx:Nat->List Nat) (en:Nat->Option Int)
def zfX:Nat->Nat->Option (Int×Nat)
 |0,i=>(en i).map λ o=>(o,0)
 |m+1,i=>match zfX m i with
  |some x=>some x
  |none=>atG (zfX m) (nx i) (m+1)
def zd9 (i:Nat) (o:Int) (N:Nat):Prop:=zfX nx en N i=some (o,N)
end
variable {o:Int} {x:Int×Nat} {N i k m:Nat}
section
variable {nx:Nat->List Nat} {en:Nat->Option Int}
theorem zyD  (h:zfX nx en m i=some x):zfX nx en (m+1) i=some x:=by rw [zfX,h]
theorem zsr  (h:zfX nx en m i=none):zfX nx en (m+1) i=atG (zfX nx en m) (nx i) (m+1):=by rw [zfX,h]
theorem zlW  (h:zfX nx en m i=some x):∀ {k:Nat},m<=k->zfX nx en k i=some x:=by
 intro k hk;obtain ⟨d,rfl⟩:=Nat.exists_eq_add_of_le hk;clear hk;induction d<;>grind [zyD]
theorem zee {i:Nat}{o:Int}{N:Nat}:∀ {m:Nat},zfX nx en m i=some (o,N)->N<=m∧zd9 nx en i o N
 |0,h=>by
  grind [zfX,Option.map_eq_some_iff,zd9]
 |m+1,h=>by
  cases hm:zfX nx en m i with
  |some x=>
   have h2:=zyD hm;rw [h] at h2;simp only [Option.some.injEq] at h2;rw [<- h2] at hm;obtain ⟨h3,h4⟩:=zee hm;grind
  |none=>
   grind [atG,zd9,zfX]
theorem zd9.at  (h:zd9 nx en i o N) (hm:N<=m):zfX nx en m i=some (o,N):=zlW h hm
theorem zd9.one {o':Int}{N':Nat} (h:zd9 nx en i o N) (h':zd9 nx en i o' N'):o=o'∧N=N':=by
 have h1:=h.at (Nat.le_max_left N N');have h2:=h'.at (Nat.le_max_right N N');grind
theorem zwu  (h:∀o N,N<=m->¬zd9 nx en i o N):zfX nx en m i=none:=by
 cases hm:zfX nx en m i with
 |none=>rfl
 |some x=>
  obtain ⟨o,N⟩:=x;obtain ⟨h1,h2⟩:=zee hm;grind
theorem zwi {v:Nat->Option (Int×Nat)}{f:Nat->Nat}:∀ {l:List Nat},(∀j ∈ l,v j=some (1,f j))->∀ {M:Nat},(∀j ∈ l,f j<=M)->(∃j ∈ l,f j=M)->zg2 v l=M
 | [], _,M, _,⟨j,hj, _⟩=>by cases hj
 |a::l,hv,M,hM,⟨j,hj,he⟩=>by
  rw [zg2,hv a ac];simp only [if_true];have h1:=hM a ac;have hle:zg2 v l<=M:=by
   by_cases hn:l= []
   ·grind [zg2]
   ·obtain ⟨r,hr,hmax⟩:=zd3 f hn;rw [zwi (λ j hj=>hv j (List.mem_cons.2 (.inr hj))) hmax ⟨r,hr,rfl⟩];grind
  rcases List.mem_cons.1 hj with rfl|hj
  ·omega
  ·rw [zwi (λ j hj=>hv j (List.mem_cons.2 (.inr hj))) (λ j hj=>hM j (List.mem_cons.2 (.inr hj))) ⟨j,hj,he⟩];omega
theorem zI4 {j:Nat} (hk:∀o M,M<=N->¬zd9 nx en k o M) (hj:j ∈ nx k) (hv:zd9 nx en j 3 N):zd9 nx en k 1 (N+1):=by
 grind [zd9,zsr,zwu,atG]
theorem zwP  (hk:∀o M,M<=N->¬zd9 nx en k o M){f:Nat->Nat} (hall:∀j ∈ nx k,zd9 nx en j 1 (f j)∧f j<=N) (hN:∃j ∈ nx k,f j=N):zd9 nx en k 3 (N+1):=by
 have hv:∀j ∈ nx k,zfX nx en N j=some (1,f j):=λ j hj=>(hall j hj).1.at (hall j hj).2;unfold zd9;rw [zsr (zwu hk)];unfold atG;rw [if_neg,if_pos ⟨List.all_eq_true.2 λ j hj=>by grind [zBy],by rw [zwi hv (λ j hj=>(hall j hj).2) hN,Nat.add_sub_cancel]⟩];grind
theorem zgc  (h:zd9 nx en k o (N+1)):(o=1∧∃j ∈ nx k,zd9 nx en j 3 N)∨(o=3∧∀j ∈ nx k,∃M,M<=N∧zd9 nx en j 1 M):=by
 have hn:zfX nx en N k=none:=zwu λ o' M hM hv=>by
  have:=(h.one hv).2;omega
 unfold zd9 at h;rw [zsr hn] at h;unfold atG at h;split at h
 ·grind [zd9]
 ·split at h
  ·rename_i ha;simp only [Option.some.injEq,Prod.mk.injEq] at h;refine .inr ⟨h.1.symm,λ j hj=> ?_⟩;have hw:=List.all_eq_true.1 ha.1 j hj;unfold zBy at hw;cases hv:zfX nx en N j with
   |none=>grind
   |some x=>
    obtain ⟨o',M⟩:=x;rw [hv] at hw;have ho:o'=1:=of_decide_eq_true hw;rw [ho] at hv;obtain ⟨h1,h2⟩:=zee hv;grind
  ·cases h
theorem zhI :zd9 nx en k o 0↔en k=some o:=by
 grind [zd9,zfX,Option.map_eq_some_iff]
end
end Go.Av
end
section
/- Plain: chapter 7: the queue of solve.Values finds the values of the rounds. -/
open Go Go.Proofs
namespace Go.Av
structure QS where
 S:List Nat
 out:Nat->Option (Int×Nat)
 left:Nat->Nat
def QS.settle (s:QS) (k:Nat) (o:Int) (N:Nat):QS:=⟨s.S++ [k],λ j=>if j=k then some (o,N) else s.out j,s.left⟩
def QS.dec (s:QS) (k:Nat):QS:=⟨s.S,s.out,λ j=>if j=k then s.left k - 1 else s.left j⟩
def znu (o:Int) (N:Nat) (s:QS) (k:Nat):QS:=
 if s.out k≠none then s
 else if o=3 then s.settle k 1 (N+1)
 else if o=1 then (if s.left k - 1=0 then (s.dec k).settle k 3 (N+1) else s.dec k)
 else s
section
variable {nx:Nat->List Nat} {en:Nat->Option Int} {n:Nat}
def ztD (nx:Nat->List Nat) (k:Nat) (W:Nat->Bool):Nat:=((nx k).filter λ j=> !W j).length
def zto (out:Nat->Option (Int×Nat)) (j:Nat):Bool:=match out j with
 |some (o, _)=>decide (o=1)
 |none=>false
def zgp (out:Nat->Option (Int×Nat)) (j:Nat):Nat:=match out j with
 |some (_,N)=>N
 |none=>0
structure InQ (nx:Nat->List Nat) (en:Nat->Option Int) (n:Nat) (D:Nat->Bool) (i:Nat) (o:Int) (N:Nat) (S0:List Nat) (out0:Nat->Option (Int×Nat)) (pre:List Nat) (s:QS):Prop where
 ex:∃T,s.S=S0++T∧(∀k ∈ T,k ∈ pre∧∃o',s.out k=some (o',N+1))
 nd:s.S.Nodup
 lt:∀k ∈ s.S,k<n
 old:∀k ∈ S0,s.out k=out0 k
 is:∀k,k<n->(k ∈ s.S↔s.out k≠none)
 val:∀k,k<n->∀o' M,s.out k=some (o',M)->zd9 nx en k o' M
 cnt:∀k,k<n->k ∉ s.S->s.left k=ztD nx k (λ j=>(D j && zto out0 j)||(decide (j=i) && (decide (k ∈ pre) && decide (o=1))))∧1<=s.left k
 lost:∀k,k<n->k ∉ s.S->k ∈ pre->o≠3
theorem zDP {l:List Nat} (hn:l.Nodup){i:Nat} (hi:i ∈ l){p q:Nat->Bool} (hp:p i=true) (hq:q i=false) (he:∀j ∈ l,j≠i->p j=q j):(l.filter p).length=(l.filter q).length+1:=by
 induction l<;>grind [List.filter_congr]
theorem InQ.step {D:Nat->Bool}{i:Nat}{o:Int}{N:Nat}{S0:List Nat}{out0:Nat->Option (Int×Nat)}{pre:List Nat}{s:QS} (h:InQ nx en n D i o N S0 out0 pre s)
  (hnx:∀k,k<n->(nx k).Nodup) (hin:∀k,k<n->∀j ∈ nx k,j<n) (hD:D i=false) (hv:zd9 nx en i o N) (hcomp:∀k,k<n->∀o' M,M<=N->zd9 nx en k o' M->k ∈ S0)
  (hDv:∀j,j<n->D j=true->∃o' M,out0 j=some (o',M)∧zd9 nx en j o' M∧M<=N) {k:Nat} (hk:k<n) (hik:i ∈ nx k) (hkp:k ∉ pre):InQ nx en n D i o N S0 out0 (pre++ [k]) (znu o N s k):=by
 obtain ⟨T,hS,hT⟩:=h.ex;have hmem:∀ {j:Nat},j≠k->(j ∈ pre++ [k]↔j ∈ pre):=λ {j} hj=>by simp [hj]
 have hcong:∀j,j≠k->ztD nx j (λ u=>(D u && zto out0 u)||(decide (u=i) && (decide (j ∈ pre++ [k]) && decide (o=1))))=ztD nx j (λ u=>(D u && zto out0 u)||(decide (u=i) && (decide (j ∈ pre) && decide (o=1)))):=λ j hj=>by
  grind
 unfold znu;by_cases hs:s.out k≠none
 ·rw [if_pos hs];have hkS:=(h.is k hk).2 hs;refine ⟨⟨T,hS,λ j hj=>⟨List.mem_append.2 (.inl (hT j hj).1),(hT j hj).2⟩⟩,h.nd,h.lt,h.old,h.is,h.val,λ j hj hjS=> ?_,λ j hj hjS hjp=> ?_⟩
  ·have hjk:j≠k:=λ e=>hjS (e▸hkS);rw [hcong j hjk];exact h.cnt j hj hjS
  ·have hjk:j≠k:=λ e=>hjS (e▸hkS);exact h.lost j hj hjS ((hmem hjk).1 hjp)
 rw [if_neg hs];have hkS:k ∉ s.S:=λ hm=>hs ((h.is k hk).1 hm);have hnone:s.out k=none:=af;have hk0:∀o' M,M<=N->¬zd9 nx en k o' M:=λ o' M hM hvk=>hkS af;have hset:∀ (s':QS) (o':Int),s'.S=s.S->s'.out=s.out->(∀j,j≠k->s'.left j=s.left j)->zd9 nx en k o' (N+1)->InQ nx en n D i o N S0 out0 (pre++ [k]) (s'.settle k o' (N+1)):=by
  intro s' o' e1 e2 e3 hvk;have eS:(s'.settle k o' (N+1)).S=s.S++ [k]:=by grind [QS.settle]
  have eo:∀j,(s'.settle k o' (N+1)).out j=if j=k then some (o',N+1) else s.out j:=λ j=>by grind [QS.settle]
  refine ⟨⟨T++ [k],af,λ j hj=> ?_⟩, ?_,λ j hj=> ?_,λ j hj=> ?_,λ j hj=> ?_,λ j hj o'' M he=> ?_,λ j hj hjS=> ?_,λ j hj hjS hjp=> ?_⟩
  ·grind
  ·rw [eS];exact List.nodup_append.2 ⟨h.nd,ac,λ a ha b hb e=>by
    grind⟩
  ·rw [eS] at hj;rcases List.mem_append.1 hj with hj|hj
   ·exact h.lt j hj
   grind
  ·have hjk:j≠k:=λ e=>hkS af;rw [eo,if_neg hjk];exact h.old j hj
  ·rw [eS,eo,List.mem_append,List.mem_singleton];by_cases e:j=k
   ·grind
   ·rw [if_neg e,<- h.is j hj];grind
  ·rw [eo] at he;by_cases e:j=k
   ·grind
   ·rw [if_neg e] at he;exact h.val j hj o'' M he
  ·rw [eS,List.mem_append,List.mem_singleton,not_or] at hjS;have hl:(s'.settle k o' (N+1)).left j=s.left j:=e3 j hjS.2;rw [hl,hcong j hjS.2];exact h.cnt j hj hjS.1
  ·rw [eS,List.mem_append,List.mem_singleton,not_or] at hjS;exact h.lost j hj hjS.1 ((hmem hjS.2).1 hjp)
 by_cases h3:o=3
 ·grind [zI4]
 rw [if_neg h3];obtain ⟨hc1,hc2⟩:=h.cnt k hk hkS;have hlost:∀j,j<n->j ∉ s.S->j ∈ pre++ [k]->o≠3:=λ j _ _ _=>h3;by_cases h1:o=1
 ·rw [if_pos h1];have hdec:ztD nx k (λ u=>(D u && zto out0 u)||(decide (u=i) && (decide (k ∈ pre) && decide (o=1))))=ztD nx k (λ u=>(D u && zto out0 u)||(decide (u=i) && (decide (k ∈ pre++ [k]) && decide (o=1))))+1:=by
   unfold ztD;refine zDP (hnx k hk) hik ?_ ?_ λ j hj hji=> ?_;all_goals grind
  rw [hdec] at hc1;split
  ·rename_i hz;have hz2:ztD nx k (λ u=>(D u && zto out0 u)||(decide (u=i) && (decide (k ∈ pre++ [k]) && decide (o=1))))=0:=aa;have hall:∀j ∈ nx k,j=i∨(D j=true∧zto out0 j=true):=λ j hj=>by
    grind [ztD]
   rw [h1] at hv;refine hset (s.dec k) 3 rfl rfl (λ j hj=>if_neg hj) (zwP hk0 (f:=λ j=>if j=i then N else zgp out0 j) (λ j hj=> ?_) ⟨i,hik,if_pos rfl⟩);grind [zto,zgp]
  ·rename_i hz;refine ⟨⟨T,hS,λ j hj=>⟨List.mem_append.2 (.inl (hT j hj).1),(hT j hj).2⟩⟩,h.nd,h.lt,h.old,h.is,h.val,λ j hj hjS=> ?_,hlost⟩;show (if j=k then s.left k - 1 else s.left j)= _∧1<=(if j=k then s.left k - 1 else s.left j);by_cases e:j=k
   ·grind
   ·rw [if_neg e,hcong j e];exact h.cnt j hj hjS
 ·rw [if_neg h1];refine ⟨⟨T,hS,λ j hj=>⟨List.mem_append.2 (.inl (hT j hj).1),(hT j hj).2⟩⟩,h.nd,h.lt,h.old,h.is,h.val,λ j hj hjS=> ?_,hlost⟩;have e:ztD nx j (λ u=>(D u && zto out0 u)||(decide (u=i) && (decide (j ∈ pre++ [k]) && decide (o=1))))=ztD nx j (λ u=>(D u && zto out0 u)||(decide (u=i) && (decide (j ∈ pre) && decide (o=1)))):=by simp [h1]
  rw [e];exact h.cnt j hj hjS
end
end Go.Av
end
section
/- Plain: chapter 7: the queue of solve.Values, to its end. -/
open Go Go.Proofs
namespace Go.Av
def zBb (bef:Nat->List Nat) (s:QS) (i:Nat):QS:=match s.out i with
 |some (o,N)=>(bef i).foldl (znu o N) s
 |none=>s
def zt0 (bef:Nat->List Nat):Nat->Nat->QS->QS
 |0, _,s=>s
 |f+1,i,s=>if i<s.S.length then zt0 bef f (i+1) (zBb bef s (nth s.S i)) else s
section
variable {nx:Nat->List Nat} {en:Nat->Option Int} {n:Nat}
structure zzu (nx:Nat->List Nat) (en:Nat->Option Int) (n:Nat) (s:QS) (x:Nat):Prop where
 le:x<=s.S.length
 nd:s.S.Nodup
 lt:∀k ∈ s.S,k<n
 is:∀k,k<n->(k ∈ s.S↔s.out k≠none)
 val:∀k,k<n->∀o M,s.out k=some (o,M)->zd9 nx en k o M
 cnt:∀k,k<n->k ∉ s.S->s.left k=ztD nx k (λ u=>decide (u ∈ s.S.take x) && zto s.out u)∧1<=s.left k
 lost:∀k,k<n->k ∉ s.S->∀j ∈ nx k,j ∈ s.S.take x->∀M,s.out j≠some (3,M)
 srt:∀a b,a<b->b<s.S.length->zgp s.out (nth s.S a)<=zgp s.out (nth s.S b)
 one:x<s.S.length->∀a,a<s.S.length->zgp s.out (nth s.S a)<=zgp s.out (nth s.S x)+1
 comp:x<s.S.length->∀k,k<n->∀o M,M<=zgp s.out (nth s.S x)->zd9 nx en k o M->k ∈ s.S
 fin:x=s.S.length->∀k,k<n->∀o M,zd9 nx en k o M->k ∈ s.S
theorem zAx {D:Nat->Bool}{i:Nat}{o:Int}{N:Nat}{S0:List Nat}{out0:Nat->Option (Int×Nat)} (hnx:∀k,k<n->(nx k).Nodup) (hin:∀k,k<n->∀j ∈ nx k,j<n) (hD:D i=false) (hv:zd9 nx en i o N)
  (hcomp:∀k,k<n->∀o' M,M<=N->zd9 nx en k o' M->k ∈ S0) (hDv:∀j,j<n->D j=true->∃o' M,out0 j=some (o',M)∧zd9 nx en j o' M∧M<=N):
  ∀ (post pre:List Nat) {s:QS},(pre++post).Nodup->(∀k ∈ post,k<n∧i ∈ nx k)->InQ nx en n D i o N S0 out0 pre s->InQ nx en n D i o N S0 out0 (pre++post) (post.foldl (znu o N) s)
 | [],pre,s, _, _,h=>af
 |k::post,pre,s,hn,hp,h=>by
  have hkp:k ∉ pre:=λ hm=>by
   obtain ⟨_, _,h3⟩:=List.nodup_append.1 hn;exact h3 k hm k ac rfl
  obtain ⟨k1,k2⟩:=hp k ac;have h2:=h.step hnx hin hD hv hcomp hDv k1 k2 hkp;have:=zAx hnx hin hD hv hcomp hDv post (pre++ [k]) (s:=znu o N s k) (by rw [List.append_assoc];exact hn) (λ j hj=>hp j (List.mem_cons.2 (.inr hj))) h2;rw [List.append_assoc] at this;exact this
theorem zwK {l:List Nat}{x j:Nat} (hx:x<l.length):j ∈ l.take (x+1)↔j ∈ l.take x∨j=nth l x:=by
 grind [List.take_add_one,nth]
theorem zzu.step {bef:Nat->List Nat}{s:QS}{x:Nat} (h:zzu nx en n s x) (hx:x<s.S.length) (hnx:∀k,k<n->(nx k).Nodup) (hin:∀k,k<n->∀j ∈ nx k,j<n)
  (hbn:∀i,i<n->(bef i).Nodup) (hb:∀i,i<n->∀k,k ∈ bef i↔k<n∧i ∈ nx k):zzu nx en n (zBb bef s (nth s.S x)) (x+1):=by
 have him:=zah hx;generalize hi:nth s.S x=i at him ⊢;have hil:=h.lt i him;obtain ⟨o,N,ho⟩:∃o N,s.out i=some (o,N):=by
  have:=(h.is i hil).1 him;cases hs:s.out i<;>grind
 have hdi:zgp s.out i=N:=by grind [zgp]
 have hv:=h.val i hil o N ho;have hD:decide (i ∈ s.S.take x)=false:=by
  rw [decide_eq_false_iff_not];intro hm;obtain ⟨a,ha,he⟩:=List.getElem_of_mem hm;rw [List.length_take] at ha;rw [List.getElem_take] at he;have:=zHY h.nd (i:=a) (j:=x) aa hx ax;omega
 have hcomp:∀k,k<n->∀o' M,M<=N->zd9 nx en k o' M->k ∈ s.S:=λ k hk o' M hM hv=>h.comp hx k hk o' M af hv;have hDv:∀j,j<n->decide (j ∈ s.S.take x)=true->∃o' M,s.out j=some (o',M)∧zd9 nx en j o' M∧M<=N:=λ j hj hd=>by
  have hm:=of_decide_eq_true hd;obtain ⟨a,ha,he⟩:=List.getElem_of_mem hm;rw [List.length_take] at ha;rw [List.getElem_take] at he;have hjS:j ∈ s.S:=List.mem_of_mem_take hm;have hne:=(h.is j hj).1 hjS;cases hs:s.out j with
  |none=>grind
  |some p=>
   refine ⟨p.1,p.2,rfl,h.val j hj _ _ hs, ?_⟩;have:=h.srt a x aa hx;grind [zgp,nth]
 have hW0:∀k,ztD nx k (λ u=>(decide (u ∈ s.S.take x) && zto s.out u)||(decide (u=i) && (decide (k ∈ ([]:List Nat)) && decide (o=1))))=ztD nx k (λ u=>decide (u ∈ s.S.take x) && zto s.out u):=λ k=>ac;have h0:InQ nx en n (λ u=>decide (u ∈ s.S.take x)) i o N s.S s.out [] s:=
  ⟨⟨[],ac,λ k hk=>(by cases hk)⟩,h.nd,h.lt,λ _ _=>rfl,h.is,h.val,λ k hk hkS=>by rw [hW0];exact h.cnt k hk hkS,λ k _ _ hk=>(by cases hk)⟩
 have hf:=zAx hnx hin hD hv hcomp hDv (bef i) [] af (λ k hk=>(hb i hil k).1 hk) h0;have hq:zBb bef s i=(bef i).foldl (znu o N) s:=by grind [zBb]
 rw [hq];rw [List.nil_append] at hf;generalize (bef i).foldl (znu o N) s=t at hf ⊢;obtain ⟨T,hS,hT⟩:=hf.ex;have hlen:t.S.length=s.S.length+T.length:=af;have hnS:∀a,a<s.S.length->nth t.S a=nth s.S a:=λ a ha=>by
  grind [nth]
 have hnT:∀a,s.S.length<=a->a<t.S.length->nth t.S a ∈ T:=λ a h1 h2=>by
  grind [nth]
 have hdS:∀a,a<s.S.length->zgp t.out (nth t.S a)=zgp s.out (nth s.S a):=λ a ha=>by
  rw [hnS a ha];unfold zgp;rw [hf.old _ (zah ha)]
 have hdT:∀a,s.S.length<=a->a<t.S.length->zgp t.out (nth t.S a)=N+1:=λ a h1 h2=>by
  grind [zgp]
 have htake:∀j,j ∈ t.S.take (x+1)↔j ∈ s.S.take x∨j=i:=λ j=>by
  grind [zwK]
 have hold:∀j ∈ s.S,t.out j=s.out j:=hf.old;have hwin:∀j,j ∈ s.S->zto t.out j=zto s.out j:=λ j hj=>by grind [zto]
 have hcnt:∀k,k<n->k ∉ t.S->t.left k=ztD nx k (λ u=>decide (u ∈ t.S.take (x+1)) && zto t.out u)∧1<=t.left k:=λ k hk hkS=>by
  obtain ⟨c1,c2⟩:=hf.cnt k hk hkS;refine ⟨c1.trans ?_,c2⟩;unfold ztD;grind [List.filter_congr,zto]
 have hlost:∀k,k<n->k ∉ t.S->∀j ∈ nx k,j ∈ t.S.take (x+1)->∀M,t.out j≠some (3,M):=λ k hk hkS j hj hjt M he=>by
  have hkS0:k ∉ s.S:=λ hm=>hkS af;rcases (htake j).1 hjt with hjt|rfl
  ·rw [hold j (List.mem_of_mem_take hjt)] at he;exact h.lost k hk hkS0 j hj hjt M he
  ·rw [hold j him,ho] at he;simp only [Option.some.injEq,Prod.mk.injEq] at he;exact hf.lost k hk hkS ((hb j hil k).2 ⟨hk,hj⟩) he.1
 have hsrt:∀a b,a<b->b<t.S.length->zgp t.out (nth t.S a)<=zgp t.out (nth t.S b):=λ a b hab hbl=>by
  by_cases hbs:b<s.S.length
  ·rw [hdS a aa,hdS b hbs];exact h.srt a b hab hbs
  ·rw [hdT b aa hbl];by_cases has:a<s.S.length
   ·rw [hdS a has];have:=h.one hx a has;grind
   grind
 have hall:∀a,a<t.S.length->zgp t.out (nth t.S a)<=N+1:=λ a ha=>by
  by_cases has:a<s.S.length
  ·rw [hdS a has];have:=h.one hx a has;grind
  grind
 have hN:zgp t.out (nth t.S x)=N:=af;have hnext:∀M,(∀j,j<n->∀o' M',M'<=M->zd9 nx en j o' M'->j ∈ t.S.take (x+1))->∀k,k<n->∀o',zd9 nx en k o' (M+1)->k ∈ t.S:=λ M hM k hk o' hvk=>by
  refine Classical.byContradiction λ hkS=> ?_;rcases zgc hvk with ⟨_,j,hj,hvj⟩|⟨_,hall2⟩
  ·have hjl:=hin k hk j hj;have hjt:=hM j hjl 3 M (Nat.le_refl _) hvj;have hjS:=List.mem_of_mem_take hjt;have hne:=(hf.is j hjl).1 hjS;cases hs:t.out j with
   |none=>grind
   |some p=>
    have hvp:=hf.val j hjl p.1 p.2 hs;obtain ⟨e1,e2⟩:=hvp.one hvj;grind
  ·obtain ⟨c1,c2⟩:=hcnt k hk hkS;have hz:ztD nx k (λ u=>decide (u ∈ t.S.take (x+1)) && zto t.out u)=0:=by
    unfold ztD;rw [List.length_eq_zero_iff,List.filter_eq_nil_iff];intro j hj;obtain ⟨M',hM',hvj⟩:=hall2 j hj;have hjl:=hin k hk j hj;have hjt:=hM j hjl 1 M' hM' hvj;have hne:=(hf.is j hjl).1 (List.mem_of_mem_take hjt);cases hs:t.out j with
    |none=>grind
    |some p=>
     have hvp:=hf.val j hjl p.1 p.2 hs;have e1:=(hvp.one hvj).1;grind [zto]
   omega
 refine ⟨aa,hf.nd,hf.lt,hf.is,hf.val,hcnt,hlost,hsrt,λ hx1 a ha=> ?_,λ hx1 k hk o' M hM hvk=> ?_,λ hx1=> ?_⟩
 ·have h1:=hall a ha;have h2:=hsrt x (x+1) aa hx1;omega
 ·have h1:=hall (x+1) hx1;have h2:=hsrt x (x+1) aa hx1;rw [hN] at h2;by_cases hMN:M<=N
  ·grind
  ·have hM1:M=N+1:=by omega
   subst hM1;refine hnext N (λ j hj o'' M' hM' hvj=> ?_) k hk o' hvk;have hjS:j ∈ t.S:=af;obtain ⟨a,ha,he⟩:=List.getElem_of_mem hjS;have hda:zgp t.out (nth t.S a)=M':=by
    have hne:=(hf.is j hj).1 hjS;rw [zcp _ _ ha,he];cases hs:t.out j with
    |none=>grind
    |some p=>
     unfold zgp;rw [hs];exact ((hf.val j hj p.1 p.2 hs).one hvj).2
   have hax:a<x+1:=by
    refine Nat.lt_of_not_le λ hle=> ?_;rcases Nat.lt_or_eq_of_le hle with h3|h3;all_goals grind
   grind [List.mem_take_iff_getElem]
 ·have htk:t.S.take (x+1)=t.S:=List.take_of_length_le aa;have key:∀M,∀k,k<n->∀o' M',M'<=M->zd9 nx en k o' M'->k ∈ t.S:=by
   intro M;induction M with
   |zero=>
    grind
   |succ M ih=>
    intro k hk o' M' hM' hvk;rcases Nat.lt_or_eq_of_le hM' with h3|h3
    ·grind
    ·subst h3;exact hnext M (λ j hj o'' M'' hM'' hvj=>by grind) k hk o' hvk
  exact λ k hk o' M hvk=>key M k hk o' M (Nat.le_refl _) hvk
end
end Go.Av
end
section
/- Plain: chapter 7: what solve.Values finds are the values of the rounds. -/
open Go Go.Proofs
namespace Go.Av
def zdA (nx:Nat->List Nat) (en:Nat->Option Int) (n:Nat):QS:=⟨(List.range n).filter λ i=>(en i).isSome,λ i=>(en i).map λ o=>(o,0),λ i=>(nx i).length⟩
section
variable {nx:Nat->List Nat} {en:Nat->Option Int} {n:Nat}
theorem zoI (hin:∀k,k<n->∀j ∈ nx k,j<n) (hne:∀k,k<n->en k=none->nx k≠ []):zzu nx en n (zdA nx en n) 0:=by
 have hm:∀k,k<n->(k ∈ (zdA nx en n).S↔(zdA nx en n).out k≠none):=λ k hk=>by
  grind [zdA,Option.isSome_iff_ne_none,Option.map_eq_none_iff]
 have hd:∀k,zgp (zdA nx en n).out k=0:=λ k=>by
  unfold zgp zdA;simp only;cases en k<;>rfl
 have hz:∀k,k<n->k ∉ (zdA nx en n).S->en k=none:=λ k hk hkS=>by
  have h:=λ h=>hkS ((hm k hk).2 h);have h2:(zdA nx en n).out k=none:=Classical.byContradiction h;simp_all [zdA]
 have hc0:∀k,k<n->∀o,zd9 nx en k o 0->k ∈ (zdA nx en n).S:=λ k hk o hv=>(hm k hk).2 (by
  grind [zhI])
 refine ⟨Nat.zero_le _,List.Pairwise.filter _ List.nodup_range,λ k hk=> ?_,hm,λ k hk o M he=> ?_,λ k hk hkS=> ?_,λ k hk hkS j hj hjt=> ?_,λ a b _ _=> ?_,λ _ a _=> ?_,λ _ k hk o M hM hv=> ?_,λ h0 k hk o M hv=> ?_⟩
 ·grind [zdA]
 ·grind [zdA,Option.map_eq_some_iff,zhI]
 ·grind [ztD,zdA,List.filter_eq_self]
 ·grind
 ·grind
 ·grind
 ·grind [zdA,zgp,zd9,nth]
 ·have hS:(zdA nx en n).S= []:=List.length_eq_zero_iff.1 h0.symm;have key:∀M,∀k,k<n->∀o M',M'<=M->¬zd9 nx en k o M':=by
   intro M;induction M with
   |zero=>
    grind
   |succ M ih=>
    intro k hk o M' hM' hv;rcases Nat.lt_or_eq_of_le hM' with h|h;all_goals grind [zgc,List.exists_mem_of_ne_nil]
  exact absurd hv (key M k hk o M (Nat.le_refl _))
theorem zzu.small {s:QS}{x:Nat} (h:zzu nx en n s x):s.S.length<=n:=by
 have:=List.Nodup.length_le_of_subset h.nd (l₂:=List.range n) λ k hk=>List.mem_range.2 (h.lt k hk);grind
theorem zzg {bef:Nat->List Nat} (hnx:∀k,k<n->(nx k).Nodup) (hin:∀k,k<n->∀j ∈ nx k,j<n) (hne:∀k,k<n->en k=none->nx k≠ []):∀ {M:Nat}{k:Nat}{o:Int},k<n->zd9 nx en k o M->∃l:List Nat,l.Nodup∧l.length=M+1∧∀j ∈ l,j<n∧∃o' M',M'<=M∧zd9 nx en j o' M'
 |0,k,o,hk,hv=>⟨[k],ac,rfl,λ j hj=>by
   grind⟩
 |M+1,k,o,hk,hv=>by
  have hch:∃j,j<n∧∃o',zd9 nx en j o' M:=by
   refine Classical.byContradiction λ hno=> ?_;have hno2:∀j,j<n->∀o',¬zd9 nx en j o' M:=λ j hj o' hv=>hno ⟨j,hj,o',hv⟩;rcases zgc hv with ⟨_,j,hj,hvj⟩|⟨ho,hall⟩
   ·grind
   · --
    have hlt:∀j ∈ nx k,∃M',M'<M∧zd9 nx en j 1 M':=λ j hj=>by
     grind
    have hen:en k=none:=by
     cases he:en k with
     |none=>rfl
     |some a=>
      have:=(hv.one (zhI.2 he)).2;omega
    obtain ⟨f,hf⟩:∃f:Nat->Nat,∀j ∈ nx k,f j<M∧zd9 nx en j 1 (f j):=⟨λ j=>if h:j ∈ nx k then Classical.choose (hlt j h) else 0,λ j hj=>by
     grind⟩
    obtain ⟨j0,hj0,hmax⟩:=zd3 f (hne k hk hen);have hnk:∀o' M',M'<=f j0->¬zd9 nx en k o' M':=λ o' M' hM' hv'=>by
     have h1:=(hv.one hv').2;grind
    have h3:=zwP hnk (f:=f) (λ j hj=>⟨(hf j hj).2,hmax j hj⟩) ⟨j0,hj0,rfl⟩;have h1:=(hv.one h3).2;grind
  obtain ⟨j,hj,o',hvj⟩:=hch;obtain ⟨l,l1,l2,l3⟩:=zzg (bef:=bef) hnx hin hne hj hvj;refine ⟨k::l,List.nodup_cons.2 ⟨λ hm=> ?_,l1⟩,af,λ u hu=> ?_⟩
  ·obtain ⟨_,o2,M2,h2,hv2⟩:=l3 k hm;have:=(hv.one hv2).2;omega
  grind
end
end Go.Av
end
section
/- Plain: chapter 7: in the middle of the queue of solve.Values. -/
open Go Go.Proofs
namespace Go.Av
section
variable {nx:Nat->List Nat} {en:Nat->Option Int} {n:Nat}
structure MidQ (nx:Nat->List Nat) (en:Nat->Option Int) (n:Nat) (i:Nat) (o:Int) (N:Nat) (s t:QS):Prop where
 len:t.S.length<=n
 lt:∀k ∈ t.S,k<n
 val:∀k,k<n->∀o' M,t.out k=some (o',M)->zd9 nx en k o' M
 left:∀k,k<n->t.out k=none->1<=t.left k∧t.left k<=(nx k).length;ex:∃T,t.S=s.S++T
 self:t.out i=some (o,N)
theorem zzu.mid {bef:Nat->List Nat}{s:QS}{x:Nat} (h:zzu nx en n s x) (hx:x<s.S.length) (hnx:∀k,k<n->(nx k).Nodup) (hin:∀k,k<n->∀j ∈ nx k,j<n)
  (hbn:∀i,i<n->(bef i).Nodup) (hb:∀i,i<n->∀k,k ∈ bef i↔k<n∧i ∈ nx k):∃o N,s.out (nth s.S x)=some (o,N)∧nth s.S x<n∧zBb bef s (nth s.S x)=(bef (nth s.S x)).foldl (znu o N) s∧
   ∀j,MidQ nx en n (nth s.S x) o N s (((bef (nth s.S x)).take j).foldl (znu o N) s):=by
 have him:=zah hx;generalize hi:nth s.S x=i at him ⊢;have hil:=h.lt i him;obtain ⟨o,N,ho⟩:∃o N,s.out i=some (o,N):=by
  have:=(h.is i hil).1 him;cases hs:s.out i<;>grind
 have hdi:zgp s.out i=N:=by grind [zgp]
 have hv:=h.val i hil o N ho;have hD:decide (i ∈ s.S.take x)=false:=by
  rw [decide_eq_false_iff_not];intro hm;obtain ⟨a,ha,he⟩:=List.getElem_of_mem hm;rw [List.length_take] at ha;rw [List.getElem_take] at he;have:=zHY h.nd (i:=a) (j:=x) aa hx ax;omega
 have hcomp:∀k,k<n->∀o' M,M<=N->zd9 nx en k o' M->k ∈ s.S:=λ k hk o' M hM hv=>h.comp hx k hk o' M af hv;have hDv:∀j,j<n->decide (j ∈ s.S.take x)=true->∃o' M,s.out j=some (o',M)∧zd9 nx en j o' M∧M<=N:=λ j hj hd=>by
  have hm:=of_decide_eq_true hd;obtain ⟨a,ha,he⟩:=List.getElem_of_mem hm;rw [List.length_take] at ha;rw [List.getElem_take] at he;have hjS:j ∈ s.S:=List.mem_of_mem_take hm;have hne:=(h.is j hj).1 hjS;cases hs:s.out j with
  |none=>grind
  |some p=>
   refine ⟨p.1,p.2,rfl,h.val j hj _ _ hs, ?_⟩;have:=h.srt a x aa hx;grind [zgp,nth]
 have hW0:∀k,ztD nx k (λ u=>(decide (u ∈ s.S.take x) && zto s.out u)||(decide (u=i) && (decide (k ∈ ([]:List Nat)) && decide (o=1))))=ztD nx k (λ u=>decide (u ∈ s.S.take x) && zto s.out u):=λ k=>ac;have h0:InQ nx en n (λ u=>decide (u ∈ s.S.take x)) i o N s.S s.out [] s:=
  ⟨⟨[],ac,λ k hk=>(by cases hk)⟩,h.nd,h.lt,λ _ _=>rfl,h.is,h.val,λ k hk hkS=>by rw [hW0];exact h.cnt k hk hkS,λ k _ _ hk=>(by cases hk)⟩
 have hq:zBb bef s i=(bef i).foldl (znu o N) s:=by grind [zBb]
 refine ⟨o,N,ho,hil,hq,λ j=> ?_⟩;have hf:=zAx hnx hin hD hv hcomp hDv ((bef i).take j) [] af (λ k hk=>(hb i hil k).1 (List.mem_of_mem_take hk)) h0;generalize ((bef i).take j).foldl (znu o N) s=t at hf ⊢;obtain ⟨T,hS,hT⟩:=hf.ex;refine ⟨?_,hf.lt,hf.val,λ k hk hno=> ?_,⟨T,hS⟩,by rw [hf.old _ him,ho]⟩;rotate_left
 ·obtain ⟨c1,c2⟩:=hf.cnt k hk λ hm=>(hf.is k hk).1 hm hno;grind [ztD]
 have:=List.Nodup.length_le_of_subset hf.nd (l₂:=List.range n) λ k hk=>List.mem_range.2 (hf.lt k hk);grind
theorem zjB (hnx:∀k,k<n->(nx k).Nodup) (hin:∀k,k<n->∀j ∈ nx k,j<n) (hne:∀k,k<n->en k=none->nx k≠ []) (hen:∀k o,en k=some o->o≠0){k:Nat} (hk:k<n){o:Int}{M:Nat} (h:zd9 nx en k o M):o≠0∧M+1<=n:=by
 constructor
 ·cases M<;>grind [zhI,zgc]
 ·obtain ⟨l,h1,h2,h3⟩:=zzg (bef:=λ _=> []) hnx hin hne hk h;have:=List.Nodup.length_le_of_subset h1 (l₂:=List.range n) λ j hj=>List.mem_range.2 (h3 j hj).1;grind
def qSt (nx:Nat->List Nat) (en:Nat->Option Int) (i:Nat):QS:=⟨(List.range i).filter λ j=>(en j).isSome,λ j=>if j<i then (en j).map λ o=>(o,0) else none,λ j=>if j<i then (nx j).length else 0⟩
def QS.setL (s:QS) (k v:Nat):QS:=⟨s.S,s.out,λ j=>if j=k then v else s.left j⟩
theorem zK4 {i:Nat}{o:Int} (h:en i=some o):qSt nx en (i+1)=((qSt nx en i).setL i (nx i).length).settle i o 0:=by
 unfold qSt QS.setL QS.settle;grind [List.range_succ]
theorem zK3 {i:Nat} (h:en i=none):qSt nx en (i+1)=(qSt nx en i).setL i (nx i).length:=by
 unfold qSt QS.setL;grind [List.range_succ]
end
end Go.Av
end
section
/- solve.Values: settling a position. -/
set_option linter.unusedSectionVars false
open Go Go.Proofs
namespace Go.Av
def zEB:Option (Int×Nat)->Int×Nat
 |none=>(0,0)
 |some x=>x
def zJj (out:Nat->Option (Int×Nat)) (i:Nat):List AV:= [.int (zEB (out i)).1, .int (zEB (out i)).2]
def ziO (n:Nat) (out:Nat->Option (Int×Nat)):List (List AV):=(List.range n).map (zJj out)
theorem zIu (n:Nat) (out:Nat->Option (Int×Nat)):(ziO n out).length=n:=by simp [ziO]
variable {out:Nat->Option (Int×Nat)} {a n:Nat}
theorem zyK {i:Nat} (hi:i<n):nth (ziO n out) i= [.int (zEB (out i)).1, .int (zEB (out i)).2]:=by
 grind [ziO,zJj,nth]
theorem zIw {k:Nat} (o:Int) (N:Nat):(ziO n out).set k [.int o, .int N]=ziO n (λ j=>if j=k then some (o,N) else out j):=by
 refine List.ext_getElem (by simp [ziO]) λ j h1 h2=> ?_;grind [ziO,zJj,zEB]
theorem zxx (k n:Nat) (out:Nat->Option (Int×Nat)):(∀r ∈ ziO n out,∀c ∈ r,Bel k c)=True:=eq_true λ r hr c hc=>by
 obtain ⟨i, _,rfl⟩:=List.mem_map.1 hr;simp only [zJj,List.mem_cons,List.not_mem_nil,or_false] at hc;rcases hc with rfl|rfl<;>exact .v _
attribute [go_sem ↓] zxx
attribute [go_sem] zIu
theorem zIv (n:Nat):ziO n (λ _=>none)=List.replicate n [.int 0, .int 0]:=by
 refine List.ext_getElem (by simp [ziO]) λ j h1 h2=> ?_;simp [ziO,zJj,zEB]
theorem zIt (n:Nat):zdR n (λ _=>0)=List.replicate n [.int 0]:=by
 refine List.ext_getElem (by simp [zdR]) λ j h1 h2=> ?_;simp [zdR]
def zK9 (m:Nat) (out:Nat->Option (Int×Nat)) (g i L:Nat) (Q:List Nat):List (Nat×zcr):=
 [(0, .rows true 0 2 (ziO m out)),(1, .rows true 0 1 [[.sl 0 0 2 0 m]]),(2, .rows true 0 1 [[.sl 3 g 1 i L]]),(3, .rows true g 1 (Q.map zaR))]
theorem zBo (m:Nat) (hm:m<=4000) (out:Nat->Option (Int×Nat)) (g i L:Nat) (Q:List Nat) (hQ:Q.length=i+L) (hL:L<=1048576) (k:Nat) (hk:k<m) (o:Int) (N:Nat):
  zcj Tryz.prog 154 [.int k, .int o, .int N, .ref 1 0 1 0 0, .ref 2 0 1 0 0] (zK9 m out g i L Q) 4 (.tup []) (zK9 m (λ j=>if j=k then some (o,N) else out j) (g+1) 0 (L+1) (Q.drop i++ [k])) 5:=by
 have hS:=zIw (n:=m) (out:=out) (k:=k) o N;have hd:(Q.drop i).length=L:=af;unfold zK9;have a8:(L+1) * 8<=17592186044416:=aa;have hdt:((Q.map zaR).drop i).take L=(Q.drop i).map zaR:=by grind [List.map_drop,List.length_map]
 refine aF Tryz.func154 ?_;refine J4 hk hS a8 hdt ?_;simp [go_sem,zaf,zaR];exact λ x hx=>of_eq_true (zfo 5 Q) x (List.mem_of_mem_drop hx)
def ze7:Option (Int×Nat)->Int×Nat
 |none=>(2,0)
 |some x=>x
def zdQ (out:Nat->Option (Int×Nat)) (i:Nat):List AV:= [.int (ze7 (out i)).1, .int (ze7 (out i)).2]
def zfA (n:Nat) (out:Nat->Option (Int×Nat)) (a:Nat):List (List AV):=(List.range n).map λ j=>if j<a then zdQ out j else zJj out j
theorem zpD (n:Nat) (out:Nat->Option (Int×Nat)) (a:Nat):(zfA n out a).length=n:=by simp [zfA]
theorem zBl (n:Nat) (out:Nat->Option (Int×Nat)):zfA n out 0=ziO n out:=by simp [zfA,ziO]
theorem zE0 (n:Nat) (out:Nat->Option (Int×Nat)):zfA n out n=(List.range n).map (zdQ out):=by
 grind [List.map_congr_left,zfA]
theorem zEu  (ha:a<n):nth (zfA n out a) a= [.int (zEB (out a)).1, .int (zEB (out a)).2]:=by
 grind [zfA,zJj,nth]
theorem zE1 :(zfA n out a).set a (zdQ out a)=zfA n out (a+1):=by
 refine List.ext_getElem (by simp [zfA]) λ j h1 h2=> ?_;grind [zfA]
theorem zBk  (h:zdQ out a=zJj out a):zfA n out (a+1)=zfA n out a:=by
 grind [zfA]
theorem zDs (k n:Nat) (out:Nat->Option (Int×Nat)) (a:Nat):(∀r ∈ zfA n out a,∀c ∈ r,Bel k c)=True:=eq_true λ r hr c hc=>by
 obtain ⟨i, _,rfl⟩:=List.mem_map.1 hr;split at hc;all_goals
  simp only [zJj,zdQ,List.mem_cons,List.not_mem_nil,or_false] at hc;rcases hc with rfl|rfl<;>exact .v _
attribute [go_sem ↓] zDs
attribute [go_sem] zpD
theorem znx {m:Nat}{g i L:Nat}{Q:List Nat}{k:Nat}{o:Int}{N:Nat}{z:Int}{h:zay}{K:zbH} (hz:z=N) (hm:m<=4000) (hQ:Q.length=i+L) (hL:L<=1048576) (hk:k<m)
  (h1:h 1=some (.rows true 0 2 (ziO m out))) (h2:h 2=some (.rows true 0 1 [[.sl 1 0 2 0 m]])) (h4:h 4=some (.rows true 0 1 [[.sl 5 g 1 i L]])) (h5:h 5=some (.rows true g 1 (Q.map zaR))) (hn:6<=n)
  (hK:K (.tup []) (upd (upd (upd h 1 (some (.rows true 0 2 (ziO m (λ j=>if j=k then some (o,N) else out j))))) 4 (some (.rows true 0 1 [[.sl 5 (g+1) 1 0 (L+1)]]))) 5 (some (.rows true (g+1) 1 ((Q.drop i++ [k]).map zaR)))) (n+1)):
  zaj Tryz.prog 154 [.int k, .int o, .int z, .ref 2 0 1 0 0, .ref 4 0 1 0 0] h n K:=by
 subst hz;have r0:ren [1,2,4,5] n 0=1:=rfl;have r1:ren [1,2,4,5] n 1=2:=rfl;have r2:ren [1,2,4,5] n 2=4:=rfl;have r3:ren [1,2,4,5] n 3=5:=rfl;have b0:∀b out,∀r ∈ ziO m out,∀c ∈ r,Bel b c:=λ b out=>of_eq_true (zxx b m out);have b3:∀b (Q:List Nat),∀r ∈ Q.map zaR,∀c ∈ r,Bel b c:=λ b Q=>of_eq_true (zfo b Q);have bs:∀b a g i L:Nat,a<b->∀r ∈ [[AV.sl a g 1 i L]],∀c ∈ r,Bel b c:=λ b a g i L hb r hr c hc=>by
  simp only [List.mem_singleton] at hr;subst hr;simp only [List.mem_singleton] at hc;subst hc;exact .sl hb
 have bo:∀b a g i L:Nat,a<b->∀r ∈ [[AV.sl a g 2 i L]],∀c ∈ r,Bel b c:=λ b a g i L hb r hr c hc=>by
  simp only [List.mem_singleton] at hr;subst hr;simp only [List.mem_singleton] at hc;subst hc;exact .sl hb
 have ba:∀b x y,x<b->y<b->∀c ∈ [AV.int k, .int o, .int N, .ref x 0 1 0 0, .ref y 0 1 0 0],Bel b c:=λ b x y hx hy c hc=>by
  simp only [List.mem_cons,List.not_mem_nil,or_false] at hc;rcases hc with rfl|rfl|rfl|rfl|rfl
  ·exact .v _
  ·exact .v _
  ·exact .v _
  ·exact .ref hx
  ·exact .ref hy
 have x1:RnO (ren [1,2,4,5] n) (.rows true 0 1 [[.sl 0 0 2 0 m]]) (.rows true 0 1 [[.sl 1 0 2 0 m]]):= .rows (.cons (.cons (.sl r0.symm) .nil) .nil);have x2:∀g i L,RnO (ren [1,2,4,5] n) (.rows true 0 1 [[.sl 3 g 1 i L]]) (.rows true 0 1 [[.sl 5 g 1 i L]]):=λ g i L=> .rows (.cons (.cons (.sl r3.symm) .nil) .nil);refine zN8 (R:= .tup []) (HH:= [(1, .rows true 0 2 (ziO m (λ j=>if j=k then some (o,N) else out j))),(2, .rows true 0 1 [[.sl 1 0 2 0 m]]),(4, .rows true 0 1 [[.sl 5 (g+1) 1 0 (L+1)]]),(5, .rows true (g+1) 1 ((Q.drop i++ [k]).map zaR))])
  [1,2,4,5] h (zBo m hm out g i L Q hQ hL k hk o N) ai af rfl aa (.refl _) ?_ ?_ (.refl _ _ _ _) (ba n 2 4 aa aa) (.cons (.same (.v _)) (.cons (.same (.v _)) (.cons (.same (.v _)) (.cons (.ref r1.symm) (.cons (.ref r2.symm) .nil)))))
  (ba 4 1 2 aa aa) (.same (.tup ac)) ?_ ?_
 ·intro j hj;have:j=0∨j=1∨j=2∨j=3:=aa;rcases this with rfl|rfl|rfl|rfl
  ·exact ⟨_, _,rfl,af, .rows (.same (b0 _ _))⟩
  ·exact ⟨_, _,rfl,af,x1⟩
  ·exact ⟨_, _,rfl,af,x2 _ _ _⟩
  ·exact ⟨_, _,rfl,af, .rows (.same (b3 _ _))⟩
 ·grind [zK9,zqr]
 ·exact .cons r0.symm (.rows (.same (b0 _ _))) (.cons r1.symm x1 (.cons r2.symm (x2 _ _ _) (.cons r3.symm (.rows (.same (b3 _ _))) .nil)))
 ·have e:∀A C D:zcr,zdU [(1,A),(2, .rows true 0 1 [[.sl 1 0 2 0 m]]),(4,C),(5,D)] (ziM [1,2,4,5] h)=upd (upd (upd h 1 (some A)) 4 (some C)) 5 (some D):=λ A C D=>by
   funext x;by_cases x1:x=1
   ·simp_all [zdU,upd]
   by_cases x2:x=2
   ·simp_all [zdU,upd]
   by_cases x4:x=4;all_goals simp_all [zdU,ziM,upd]
  grind
theorem zmi (g:zaa) (p:zae):(zbo g p).2=decide (zai g p= []):=by
 grind [zbo,zfs,zai]
theorem zoO {g:zaa} (hg:GOk g) (p:zae) (h:(zbo g p).2=true):(zbo g p).1≠0:=by
 unfold zbo zfs at h ⊢;by_cases he:0<=zbi g p
 ·rw [if_pos he,if_pos he];have:=(hg.cl _ (zah (l:=g.clauses) (i:=(zbi g p).toNat) (by
   grind [zbi,List.findIdx?_eq_some_iff_getElem]))).then_
  omega
 ·rw [if_neg he] at h ⊢;split at h
  ·rename_i hm;rw [if_pos hm];have:=hg.bl;omega
  grind
theorem zow {l mv:List zae} (h:∀m ∈ mv,m ∈ l) (hn:mv.Nodup):(mv.map (ixP l)).Nodup:=by
 refine List.pairwise_map.2 (List.Pairwise.imp_of_mem (λ {x y} hx hy hne e=>hne ?_) hn);rw [<- (zbM (h x hx)).2,<- (zbM (h y hy)).2,e]
def enQ (g:zaa) (l:List zae) (i:Nat):Option Int:=if i<l.length then (if (zbo g (nth l i)).2=true then some (zbo g (nth l i)).1 else none) else none
noncomputable def zcH (g:zaa) (l:List zae):Nat->Option (Int×Nat):=(zt0 (nth (zul (zaI g l))) (l.length+1) 0 (zdA (nth (zaI g l)) (enQ g l) l.length)).out
theorem zxh (g:zaa) (hg:GOk g) (hn:zbU g) (l:List zae) (hi:Inc l) (hl:l.length<=4000) (hv:∀q ∈ l,POk g q) (hc:∀q ∈ l,∀m ∈ zai g q,m ∈ l):
  zav Tryz.prog 100 [.agg (zad g),zaC l] (.tup [.lst 2 ((List.range l.length).map (zdQ (zcH g l))), .int 0]):=by
 have hN:=zC1 g hg hn l hi hl hv hc;have hegl:(zad g).length=9:=rfl;have hegb:∀n,(∀c ∈ zad g,Bel n c)=True:=λ n=>ae;rw [zax] at hN;refine pF Tryz.func100 ?_;refine J0 ?_;refine aP hN ?_;refine J0 ?_;obtain ⟨nx,hnx⟩:∃nx,nx=nth (zaI g l):=⟨_,rfl⟩
 obtain ⟨en,hen⟩:∃en,en=enQ g l:=⟨_,rfl⟩
 obtain ⟨m,hm⟩:∃m,m=l.length:=⟨_,rfl⟩
 have hnl:(zaI g l).length=m:=bh;have hnxb:∀i,i<m->(nx i).length<=472446:=λ i hi=>by
  rw [hnx,zaI,zau _ _ _ aa,List.length_map];grind [zbf,nth]
 have hnr:∀i,i<m->nth ((zaI g l).map zbD) i= [.lst 1 ((nx i).map zaR)]:=λ i hi=>by rw [zau _ _ _ aa,hnx];rfl
 have hSt:∀i,i<m->∃a b,zav Tryz.prog 155 [.agg (zad g), .agg (zag (nth l i))] (.tup [.int a, .bool b])∧en i=if b=true then some a else none:=λ i hi=>by
  refine ⟨_, _,zzS g hg _ (hv _ (zah aa)), ?_⟩;simp_all [enQ]
 have hlr:∀i,i<m->nth (l.map zag) i=zag (nth l i):=λ i hi=>zau _ _ _ aa;rw [<- hm];refine zNW (zNY (α:=Nat) (λ i=>⟨[(2, .ref 0 0 9 0 0),(6,zax (zaI g l)),(8, .ref 2 0 1 0 0),(9, .sl 3 0 1 0 m),(10, .ref 4 0 1 0 0),(11, .fn (.func 154) [] [.ref 2 0 1 0 0, .ref 4 0 1 0 0]),(37,zaC l),(38, .int m),(39, .int i)],
  [(0, .rows true 0 9 [zad g]),(1, .rows true 0 2 (ziO m (qSt nx en i).out)),(2, .rows true 0 1 [[.sl 1 0 2 0 m]]),(3, .rows true 0 1 (zdR m (qSt nx en i).left)),(4, .rows true 0 1 [[.sl 5 (qSt nx en i).S.length 1 0 (qSt nx en i).S.length]]),(5, .rows true (qSt nx en i).S.length 1 ((qSt nx en i).S.map zaR))],6⟩) (λ d i=>i+d=m) ?_ m 0 ?_) ?_ ?_
 rotate_left
 ·simp
 ·have e1:(qSt nx en 0).out=λ _=>none:=by grind [qSt]
  have e2:(qSt nx en 0).left=λ _=>0:=by grind [qSt]
  have e3:(qSt nx en 0).S= []:=rfl;simp [go_sem,zaf,e1,e2,e3,zIv,zIt,zax,hm]
 ·simp
 ·rintro d i i1 hrec;rw [zax];refine J0 ?_;refine zNX (λ hi0=> ?_) (λ hi0=> ?_)<;>simp at hi0
  ·have hil:i<m:=by omega
   have hnr:=hnr i hil;have hlr:=hlr i hil;have hnxb:=hnxb i hil;obtain ⟨a,b,hSt,hei⟩:=hSt i hil;repeat first|refine wV λ _=>?_|simp [go_sem,hil,hlr,hnl,hnr,<- hm]
   have hle:(zdR m (qSt nx en i).left).set i [.int (nx i).length]=zdR m (λ j=>if j=i then (nx i).length else (qSt nx en i).left j):=zmc;have hSl:(qSt nx en i).S.length<=i:=by
    grind [qSt]
   refine aP hSt ?_;have hQ:=hei;obtain ⟨s,hs⟩:∃s,s=qSt nx en i:=⟨_,rfl⟩
   rw [<- hs] at hle hSl ⊢;cases b with
   |false=>
    have hq:=zK3 (nx:=nx) (en:=en) (i:=i) hei;rw [<- hs] at hq;refine J0 ?_;refine zNW (hrec (d - 1) aa (i+1) aa) ?_ ac;simp [go_sem,zaf,hq,QS.setL,hle,zax]
   |true=>
    have hq:=zK4 (nx:=nx) (en:=en) (i:=i) hei;rw [<- hs] at hq;refine J0 ?_;refine znx (m:=m) (out:=s.out) (g:=s.S.length) (i:=0) (L:=s.S.length) (Q:=s.S) (N:=0) rfl aa aa aa hil aj aj aj aj aa ?_;refine J0 ?_;refine zNW (hrec (d - 1) aa (i+1) aa) ?_ ac;simp [go_sem,zaf,hq,QS.setL,QS.settle,hle,zax,zaR]
  ·obtain rfl:i=m:=by omega
   have hB:=zE5 (zaI g l) aa λ k hk=>by
    rw [hnl] at hk;rw [hnx] at hnxb;grind [zaI,zau,zbM,zah]
   rw [zax,zax] at hB;refine J0 ?_;refine aP hB ?_;have hnN:∀k,k<i->(nx k).Nodup:=λ k hk=>by
    rw [hnx,zaI,zau _ _ _ aa];exact zow (hc _ (zah aa)) (zhO g _).nodup
   have hnI:∀k,k<i->∀j ∈ nx k,j<i:=λ k hk x hx=>by
    rw [hnx,zaI,zau _ _ _ aa] at hx;obtain ⟨y,hy,rfl⟩:=List.mem_map.1 hx;rw [hm];exact (zbM (hc _ (zah aa) y hy)).1
   have hne:∀k,k<i->en k=none->nx k≠ []:=λ k hk he hx=>by
    simp_all [zaI,zau,enQ,zmi]
   have hen0:∀k o,en k=some o->o≠0:=λ k o he=>by
    rw [hen,enQ] at he;grind [zoO]
   obtain ⟨bef,hbef⟩:∃bef,bef=nth (zul (zaI g l)):=⟨_,rfl⟩
   have hbm:∀k,k<i->(bef k).Nodup∧∀j,j ∈ bef k↔j<i∧k ∈ nx j:=λ k hk=>by
    have:=zqz (nx:=zaI g l) bg (by rw [hnl,<- hnx];exact hnI) k;simp_all
   have hbr:∀k,k<i->nth ((zul (zaI g l)).map zbD) k= [.lst 1 ((bef k).map zaR)]:=λ k hk=>by
    rw [zau _ _ _ (by grind [zul,zn3]),hbef];rfl
   have hbl:((zul (zaI g l)).map zbD).length=i:=by
    grind [zul,zn3]
   have hqs:qSt nx en i=zdA nx en i:=by
    unfold qSt zdA;simp only [QS.mk.injEq,true_and];refine ⟨funext λ j=> ?_,funext λ j=> ?_⟩
    ·split
     ·rfl
     simp_all [enQ,if_neg]
    ·split
     ·rfl
     ·rw [hnx,nth,List.getD_eq_getElem?_getD,List.getElem?_eq_none af];rfl
   have hO0:=zoI hnI hne;have hvq:zcH g l=(zt0 bef (i+1) 0 (zdA nx en i)).out:=by
    grind [zcH]
   rw [hqs];obtain ⟨FIN,hFIN⟩:∃FIN,FIN=zt0 bef (i+1) 0 (zdA nx en i):=⟨_,rfl⟩
   rw [hvq,<- hFIN];generalize zdA nx en i=s0 at *;refine J0 ?_;refine zNW (zNY (α:=QS×Nat×Nat×Nat×List Nat) (λ a=>⟨[(8, .ref 2 0 1 0 0),(9, .sl 3 0 1 0 i),(10, .ref 4 0 1 0 0),(11, .fn (.func 154) [] [.ref 2 0 1 0 0, .ref 4 0 1 0 0]),(16,zax (zul (zaI g l)))],
    [(1, .rows true 0 2 (ziO i a.1.out)),(2, .rows true 0 1 [[.sl 1 0 2 0 i]]),(3, .rows true 0 1 (zdR i a.1.left)),(4, .rows true 0 1 [[.sl 5 a.2.2.1 1 a.2.2.2.1 (a.1.S.length - a.2.1)]]),(5, .rows true a.2.2.1 1 (a.2.2.2.2.map zaR))],6⟩)
    (λ d a=>a.2.1+d=i+1∧zzu nx en i a.1 a.2.1∧a.2.2.2.2.drop a.2.2.2.1=a.1.S.drop a.2.1∧a.2.2.2.2.length=a.2.2.2.1+(a.1.S.length - a.2.1)∧FIN=zt0 bef d a.2.1 a.1) ?_ (i+1) (s0,0,s0.S.length,0,s0.S) ?_) ?_ ?_
   rotate_left
   ·grind
   ·simp [go_sem,zaf,zax]
   ·simp
   rintro d2 ⟨s,x,gq,qi,Q⟩ ⟨j1,j2,j3,j4,j5⟩ hrec2;simp only at j1 j2 j3 j4 j5;have hsm:=j2.small;have hxl:=j2.le;obtain ⟨d2,rfl⟩:∃d',d2=d'+1:=⟨d2 - 1,aa⟩
   rw [zt0] at j5;rw [zax];refine J0 ?_;refine zNX (λ hx=> ?_) (λ hx=> ?_)<;>simp at hx
   ·have hxs:x<s.S.length:=by omega
    rw [if_pos hxs] at j5;obtain ⟨o,N,ho,hk0,hproc,hmid⟩:=j2.mid hxs hnN hnI (λ k hk=>(hbm k hk).1) (λ k hk=>(hbm k hk).2);have hstep:=j2.step hxs hnN hnI (λ k hk=>(hbm k hk).1) (λ k hk=>(hbm k hk).2);rw [hproc] at j5 hstep;have hqn:nth (Q.map zaR) qi= [.int (nth s.S x:Nat)]:=by
     rw [zau _ _ _ aa,zaR];have e1:nth Q qi=nth s.S x:=by
      have h1:=congrArg (λ l:List Nat=>nth l 0) j3;simp only [nth,List.getD_eq_getElem?_getD,List.getElem?_drop,Nat.add_zero] at h1 ⊢;exact h1
     rw [e1]
    generalize nth s.S x=k0 at *;have hbr:=hbr k0 hk0;obtain ⟨hbN,hbM⟩:=hbm k0 hk0;have hbL:(bef k0).length<=i:=by
     have:=List.Nodup.length_le_of_subset hbN (l₂:=List.range i) λ j hj=>List.mem_range.2 ((hbM j).1 hj).1;grind
    generalize bef k0=bl at *;obtain ⟨hv0,hv1⟩:=zjB hnN hnI hne hen0 hk0 (j2.val _ hk0 _ _ ho);have hql:qi<Q.length:=aa;refine J5 hql hqn hk0 hbr hbl ?_;obtain ⟨T,hT⟩:∃T:Nat->QS,∀j,T j=(bl.take j).foldl (znu o N) s:=⟨_,λ _=>rfl⟩
    simp only [<- hT] at hmid;have hT0:T 0=s:=by rw [hT];rfl
    have hTs:∀j,j<bl.length->T (j+1)=znu o N (T j) (nth bl j):=λ j hj=>by
     rw [hT,hT,List.take_add_one,List.getElem?_eq_getElem hj,<- zcp _ _ hj,Option.toList_some,List.foldl_append];rfl
    have hTe:T bl.length=bl.foldl (znu o N) s:=by rw [hT,List.take_length]
    rw [<- hTe] at j5 hstep;clear hT hTe;have hbml:∀j,j<bl.length->nth bl j<i:=λ j hj=>((hbM _).1 (zah hj)).1;refine zNW (zNY (α:=Nat×Nat×Nat×List Nat) (λ a=>⟨[(8, .ref 2 0 1 0 0),(9, .sl 3 0 1 0 i),(10, .ref 4 0 1 0 0),(11, .fn (.func 154) [] [.ref 2 0 1 0 0, .ref 4 0 1 0 0]),(16,zax (zul (zaI g l))),(17, .int k0),(77, .lst 1 (bl.map zaR)),(78, .int bl.length),(79, .int a.1)],
     [(1, .rows true 0 2 (ziO i (T a.1).out)),(2, .rows true 0 1 [[.sl 1 0 2 0 i]]),(3, .rows true 0 1 (zdR i (T a.1).left)),(4, .rows true 0 1 [[.sl 5 a.2.1 1 a.2.2.1 ((T a.1).S.length - x)]]),(5, .rows true a.2.1 1 (a.2.2.2.map zaR))],6⟩)
     (λ d a=>a.1+d=bl.length∧a.2.2.2.drop a.2.2.1=(T a.1).S.drop x∧a.2.2.2.length=a.2.2.1+((T a.1).S.length - x)) ?_ bl.length (0,gq,qi,Q) ?_) ?_ ?_
    rotate_left
    ·grind
    ·simp [go_sem,zaf,zax,hT0]
    ·simp
    rintro d3 ⟨j,g2,q2,Q2⟩ ⟨k1,k2,k3⟩ hrec3;simp only at k1 k2 k3;rw [zax];have hmj:=hmid j;have hTs:=hTs j;have hbml:=hbml j;have hsl:s.S.length<=(T j).S.length:=by
     obtain ⟨T1,hT1⟩:=hmj.ex;rw [hT1,List.length_append];omega
    obtain ⟨t,ht⟩:∃t,t=T j:=⟨_,rfl⟩
    rw [<- ht] at hmj hTs hsl k2 k3 ⊢;refine J0 ?_;refine zNX (λ hj=> ?_) (λ hj=> ?_)<;>simp at hj
    ·have hjl:j<bl.length:=by omega
     have hTs:=hTs hjl;have hkk:=hbml hjl;have hbn:nth (bl.map zaR) j= [.int (nth bl j:Nat)]:=zau _ _ _ hjl;generalize nth bl j=kk at *;have hnv:=zyK (n:=i) (out:=t.out) (i:=kk) hkk;have hnv0:=zyK (n:=i) (out:=t.out) (i:=k0) hk0;have hnm:=zox (n:=i) (m:=t.left) (i:=kk) hkk;rw [hmj.self,zEB] at hnv0;have hlen:=hmj.len;rw [znu] at hTs;cases hok:t.out kk with
     |some ov=>
      obtain ⟨o',N'⟩:=ov;obtain ⟨ho0, _⟩:=zjB hnN hnI hne hen0 hkk (hmj.val _ hkk _ _ hok);rw [if_pos (by rw [hok];simp)] at hTs;rw [hok,zEB] at hnv;refine J5 hjl hbn hnv hkk ho0 ?_;refine zNW (hrec3 (d3 - 1) aa (j+1,g2,q2,Q2) ⟨aa,by simp only [hTs];exact k2,by simp only [hTs];exact k3⟩) ?_ ac;simp [go_sem,zaf,zax,hTs]
     |none=>
      rw [if_neg (by rw [hok];simp)] at hTs;rw [hok,zEB] at hnv;have hlf:=hmj.left _ hkk hok;by_cases ho3:o=3
      ·rw [if_pos ho3] at hTs;have hlx:(t.S++ [kk]).length - x=t.S.length - x+1:=dG;have hlx2:t.S.length+1 - x=t.S.length - x+1:=aa;have hdx:(t.S++ [kk]).drop x=t.S.drop x++ [kk]:=List.drop_append_of_le_length aa;refine J7 hjl hbn hnv hkk hnv0 hk0 ho3 ?_;refine znx (m:=i) (out:=t.out) (g:=g2) (i:=q2) (L:=t.S.length - x) (Q:=Q2) (N:=N+1) (by push_cast;rfl) aa k3 aa hkk aj aj aj aj aa ?_;refine J0 ?_;refine zNW (hrec3 (d3 - 1) aa (j+1,g2+1,0,Q2.drop q2++ [kk]) ⟨aa, ?_, ?_⟩) ?_ ac
       ·simp only [hTs,QS.settle];rw [hdx,List.drop_zero,k2]
       ·simp only [hTs,QS.settle];rw [hlx,List.length_append,List.length_drop,List.length_singleton];omega
       ·simp [go_sem,zaf,zax,hTs,QS.settle,hlx,hlx2];exact ⟨λ x hx=>of_eq_true (zfo 6 Q2) x (List.mem_of_mem_drop hx),λ c hc=>dd⟩
      ·rw [if_neg ho3] at hTs;by_cases ho1:o=1
       ·rw [if_pos ho1] at hTs;have hls:(zdR i t.left).set kk [.int ((t.left kk:Nat) - 1)]=zdR i (λ j=>if j=kk then t.left kk - 1 else t.left j):=by
         rw [show ((t.left kk:Nat):Int) - 1=((t.left kk - 1:Nat):Int) by omega];exact zmc
        have hnm2:nth (zdR i (λ j=>if j=kk then t.left kk - 1 else t.left j)) kk= [.int (t.left kk - 1:Nat)]:=by
         rw [zox hkk,if_pos rfl]
        have hlu:(t.left kk:Int)<=472446:=by have:=hnxb kk hkk;omega
        have hll1:(1:Int)<=t.left kk:=aa;generalize hlk:t.left kk=lk at *;refine J11 hjl hbn hnv hkk hnv0 hk0 ho3 ho1 hnm hls hnm2 ?_;refine zNX (λ hz=> ?_) (λ hz=> ?_)<;>simp at hz
        ·rw [if_pos aa] at hTs;have hlx:(t.S++ [kk]).length - x=t.S.length - x+1:=dG;have hlx2:t.S.length+1 - x=t.S.length - x+1:=aa;have hdx:(t.S++ [kk]).drop x=t.S.drop x++ [kk]:=List.drop_append_of_le_length aa;refine J7 hjl hbn hnv hkk hnv0 hk0 ho3 ?_;refine znx (m:=i) (out:=t.out) (g:=g2) (i:=q2) (L:=t.S.length - x) (Q:=Q2) (N:=N+1) (by push_cast;rfl) aa k3 aa hkk aj aj aj aj aa ?_;refine J0 ?_;refine zNW (hrec3 (d3 - 1) aa (j+1,g2+1,0,Q2.drop q2++ [kk]) ⟨aa, ?_, ?_⟩) ?_ ac
         ·simp only [hTs,QS.settle,QS.dec];rw [hdx,List.drop_zero,k2]
         ·simp only [hTs,QS.settle,QS.dec];rw [hlx,List.length_append,List.length_drop,List.length_singleton];omega
         ·simp [go_sem,zaf,zax,hTs,QS.settle,QS.dec,hlx,hlx2,hlk];exact ⟨λ x hx=>of_eq_true (zfo 6 Q2) x (List.mem_of_mem_drop hx),λ c hc=>dd⟩
        ·rw [if_neg aa] at hTs;refine J0 ?_;refine zNW (hrec3 (d3 - 1) aa (j+1,g2,q2,Q2) ⟨aa,by simp only [hTs,QS.dec];exact k2,by simp only [hTs,QS.dec];exact k3⟩) ?_ ac;simp [go_sem,zaf,zax,hTs,QS.dec,hlk]
       ·rw [if_neg ho1] at hTs;refine J8 hjl hbn hnv hkk hnv0 hk0 ho3 ho1 ?_;refine zNW (hrec3 (d3 - 1) aa (j+1,g2,q2,Q2) ⟨aa,by simp only [hTs];exact k2,by simp only [hTs];exact k3⟩) ?_ ac;simp [go_sem,zaf,zax,hTs]
    ·obtain rfl:j=bl.length:=by omega
     rw [<- ht] at j5 hstep;have hpop:¬(t.S.length:Int) - x<1:=aa;refine J0 ?_;refine zNW (hrec2 d2 aa (t,x+1,g2,q2+1,Q2) ⟨aA,hstep, ?_, ?_,j5⟩) ?_ ac
     ·have:=congrArg (List.drop 1) k2;simpa [List.drop_drop] using this
     ·simp only;omega
     ·simp [go_sem,zaf,zax,Nat.sub_sub]
   ·have hxe:¬x<s.S.length:=by omega
    rw [if_neg hxe] at j5;rw [j5];refine J0 ?_;refine zNW (zNY (α:=Nat) (λ a=>⟨[(8, .ref 2 0 1 0 0),(135, .int i),(136, .int a)], [(1, .rows true 0 2 (zfA i s.out a)),(2, .rows true 0 1 [[.sl 1 0 2 0 i]])],5⟩) (λ d a=>a+d=i) ?_ i 0 ?_) ?_ ?_;rotate_left
    ·simp
    ·simp [go_sem,zaf,zBl]
    ·simp
    rintro d4 a k1 hrec4;refine J0 ?_;refine zNX (λ ha=> ?_) (λ ha=> ?_)<;>simp at ha
    ·have hai:a<i:=by omega
     have hna:=zEu (n:=i) (out:=s.out) hai;cases hoa:s.out a with
     |some ov=>
      obtain ⟨o',N'⟩:=ov;obtain ⟨ho0, _⟩:=zjB hnN hnI hne hen0 hai (j2.val _ hai _ _ hoa);rw [hoa,zEB] at hna;have hsame:=zBk (n:=i) (out:=s.out) (a:=a) (by rw [zdQ,zJj,hoa];rfl);refine J3 hai hna ho0 ?_;refine zNW (hrec4 (d4 - 1) aa (a+1) aa) ?_ ac;simp [go_sem,zaf,hsame]
     |none=>
      rw [hoa,zEB] at hna;have hset:(zfA i s.out a).set a [.int 2, .int 0]=zfA i s.out (a+1):=by
       rw [<- zE1,zdQ,hoa,ze7];rfl
      refine J2 hai hna ?_;refine zNW (hrec4 (d4 - 1) aa (a+1) aa) ?_ ac;simp [go_sem,zaf,hset]
    ·obtain rfl:a=i:=by omega
     rw [<- zE0];refine J0 ?_;refine ⟨?_,λ a_1 _ c hc=>by
      simp only [zdQ,List.mem_cons,List.not_mem_nil,or_false] at hc;rcases hc with rfl|rfl<;>exact .v _⟩
     refine zaq (mt:=true) (rs:=zfA a s.out a) aj (by simp [zpD]) br ?_;rw [List.drop_zero,List.take_of_length_le (by grind [zpD])]
end Go.Av
end
section
open Go Go.Proofs
namespace Go.Av
open zab
theorem zqP (g:zab->zab) (l:List zab) (s0:Nat):∃A:Nat->Nat,A 0=s0∧(∀i,i<l.length->A (i+1)=A i+(g (nth l i)).size)∧(∀i,i<=l.length->A i<=s0+zaw (l.map g))∧A l.length=s0+zaw (l.map g):=by
 refine ⟨λ i=>s0+zaw ((l.take i).map g),by simp [zaw],λ i hi=> ?_,λ i hi=> ?_,af⟩;all_goals grind [zml,zje,zaw,List.map_take,zeO]
def zNz (r:Int):zcr:= .rows true 0 1 [[.int r]]
def zLo (a b:zab) (r:Nat):Prop:=zcj Tryz.prog 92 [zbQ a,zbQ b, .ref 0 0 1 0 0] [(0,zNz r)] 1 (.bool (decide ((add a b).size<=r))) [(0,zNz (if (add a b).size<=r then (r:Int) - (add a b).size else -1))] 1
theorem zqI {a b:zab}{r:Nat} (hp:zLo a b r){X Y:AV} (hX:zbQ a=X) (hY:zbQ b=Y){h:zay}{n:Nat}{K:zbH} (hk:K (.bool (decide ((add a b).size<=r))) (upd h 0 (some (.rows true 0 1 [[.int (if (add a b).size<=r then (r:Int) - (add a b).size else -1)]]))) n)
  (ho:h 0=some (.rows true 0 1 [[.int r]]):=by simp [upd]) (hn:0<n:=by omega):zaj Tryz.prog 92 [X,Y, .ref 0 0 1 0 0] h n K:=by
 subst hX hY;have cl:∀ (z:Int),∀r ∈ [[AV.int z]],∀c ∈ r,Bel 0 c:=λ z r hr c hc=>by
  simp only [List.mem_singleton] at hr;subst hr;simp only [List.mem_singleton] at hc;subst hc;exact .v _
 have hb:∀m,0<m->∀c ∈ [zbQ a,zbQ b,AV.ref 0 0 1 0 0],Bel m c:=λ m hm c hc=>by
  simp only [List.mem_cons,List.not_mem_nil,or_false] at hc;rcases hc with rfl|rfl|rfl
  ·exact zfM m a
  ·exact zfM m b
  ·exact .ref hm
 exact zOk hp ho hn (cl _) (cl _) (.cons (.same (zfM 0 a)) (.cons (.same (zfM 0 b)) (.cons (.ref rfl) .nil))) (hb 1 aa) (hb n hn) (.v _) hk
theorem zHf:∀ (n:Nat) (a b:zab) (r:Nat),a.size+b.size<=n->n<=68719476736->r<=1000000->zLo a b r:=by
 intro n;induction n with
 |zero=>grind [za1]
 |succ n ih=>
  intro a b r hf hn hr;have e1:=zjs a;have e2:=zjt a;have e3:=zjs b;have e4:=zjt b;have iaL:∀i,i<a.L.length->∀k:Nat,k<=1000000->zLo (nth a.L i) b k:=λ i hi k hk=>ih _ _ k aB aa hk;have ibL:∀i,i<b.L.length->∀k:Nat,k<=1000000->zLo a (nth b.L i) k:=λ i hi k hk=>ih _ _ k aB aa hk;have iaR:∀i,i<a.R.length->∀k:Nat,k<=1000000->zLo (nth a.R i) b k:=λ i hi k hk=>ih _ _ k aC aa hk;have ibR:∀i,i<b.R.length->∀k:Nat,k<=1000000->zLo a (nth b.R i) k:=λ i hi k hk=>ih _ _ k aC aa hk;have es:(add a b).size=1+zaw (a.L.map λ z=>add z b)+zaw (a.R.map λ z=>add z b)+zaw (b.L.map λ z=>add a z)+zaw (b.R.map λ z=>add a z):=by
   grind [zBJ,size,zje]
  obtain ⟨A1,p1,q1,m1,t1⟩:=zqP (λ z=>add z b) a.L 1;obtain ⟨A2,p2,q2,m2,t2⟩:=zqP (λ z=>add z b) a.R (A1 a.L.length);obtain ⟨A3,p3,q3,m3,t3⟩:=zqP (λ z=>add a z) b.L (A2 a.R.length);obtain ⟨A4,p4,q4,m4,t4⟩:=zqP (λ z=>add a z) b.R (A3 b.L.length);rw [<- t1] at m1;rw [<- t2] at m2;rw [<- t3] at m3;rw [<- t4] at m4;have es2:(add a b).size=A4 b.R.length:=aa;have o1:=m2 0 (Nat.zero_le _);have o2:=m3 0 (Nat.zero_le _);have o3:=m4 0 (Nat.zero_le _);rw [p2] at o1;rw [p3] at o2;rw [p4] at o3;clear es t1 t2 t3 t4;unfold zLo zcj zNz;rw [es2];have hFa:zbQ a= .agg [.lst 2 (zar a.L), .lst 2 (zar a.R)]:=by rw [zbQ,zao]
  have hFb:zbQ b= .agg [.lst 2 (zar b.L), .lst 2 (zar b.R)]:=by rw [zbQ,zao]
  rw [hFa,hFb];refine aF Tryz.func92 ?_;refine J0 ?_;refine zNX (λ hr0=> ?_) (λ hr0=> ?_)<;>simp at hr0
  ·have hz:r=0:=by omega
   have h0:=m1 0 (Nat.zero_le _);have hbig:¬A4 b.R.length<=r:=aa;subst hz;refine J1 hbig ?_;simp [go_sem,zaf,hbig]
  ·have hr1:1<=r:=by omega
   refine J0 ?_;refine zNZ ?_;refine J0 ?_;refine zNW (zNY (α:=Nat) (λ i=>⟨[(2, .ref 0 0 1 0 0),(3, .ref 1 0 2 0 0),(4, .ref 2 0 2 0 0),(28, .agg [.lst 2 (zar a.L), .lst 2 (zar a.R)]),(29, .int 0),(32, .lst 2 (zar a.L)),(33, .int a.L.length),(34, .int i)], [(0, .rows true 0 1 [[.int (r - A1 i:Int)]]),(1, .rows true 0 2 [[.lst 2 (zar a.L), .lst 2 (zar a.R)]]),(2, .rows true 0 2 [[.lst 2 (zar b.L), .lst 2 (zar b.R)]])],3⟩) (λ d i=>i+d=a.L.length∧A1 i<=r) ?_ a.L.length 0 ?_) ?_ ?_;rotate_left
   ·omega
   ·simp [go_sem,zaf,p1]
   ·simp
   rintro d i ⟨hi,hle⟩ hrec;have hm:=m1 i aa;refine J0 ?_;refine zNX (λ hc=> ?_) (λ hc=> ?_)<;>simp at hc
   ·have hi':i<a.L.length:=by omega
    have hs:=q1 i hi';have hm2:=m1 (i+1) aa;have hC:=iaL i hi' (r - A1 i) aa;have hcast:((r - A1 i:Nat):Int)=r - A1 i:=aa;have hX:zbQ (nth a.L i)= .agg (zbt (nth a.L i)):=rfl;repeat first|refine wV λ _=>?_|simp [go_sem,zaF hi',hi']
    refine zqI hC hX hFb ?_ aO;by_cases hf:(add (nth a.L i) b).size<=r - A1 i
    ·rw [decide_eq_true hf,if_pos hf];refine J0 ?_;refine zNW (hrec (d - 1) aa (i+1) ⟨aa,aa⟩) ?_ ac;have hs2:((r - A1 i:Nat):Int) - (add (nth a.L i) b).size=r - A1 (i+1):=aa;simp [go_sem,zaf,hs2]
    ·have hbig:¬A4 b.R.length<=r:=by omega
     rw [decide_eq_false hf,if_neg hf];refine J0 ?_;simp [go_sem,zaf,hbig]
   ·obtain rfl:i=a.L.length:=by omega
    refine J0 ?_;refine zNZ ?_;refine J0 ?_;refine zNW (zNY (α:=Nat) (λ i=>⟨[(2, .ref 0 0 1 0 0),(3, .ref 1 0 2 0 0),(4, .ref 2 0 2 0 0),(28, .agg [.lst 2 (zar a.L), .lst 2 (zar a.R)]),(29, .int 1),(32, .lst 2 (zar a.R)),(33, .int a.R.length),(34, .int i)], [(0, .rows true 0 1 [[.int (r - A2 i:Int)]]),(1, .rows true 0 2 [[.lst 2 (zar a.L), .lst 2 (zar a.R)]]),(2, .rows true 0 2 [[.lst 2 (zar b.L), .lst 2 (zar b.R)]])],3⟩) (λ d i=>i+d=a.R.length∧A2 i<=r) ?_ a.R.length 0 ?_) ?_ ?_;rotate_left
    ·omega
    ·simp [go_sem,zaf,p2]
    ·simp
    rintro d i ⟨hi,hle⟩ hrec;have hm:=m2 i aa;refine J0 ?_;refine zNX (λ hc=> ?_) (λ hc=> ?_)<;>simp at hc
    ·have hi':i<a.R.length:=by omega
     have hs:=q2 i hi';have hm2:=m2 (i+1) aa;have hC:=iaR i hi' (r - A2 i) aa;have hcast:((r - A2 i:Nat):Int)=r - A2 i:=aa;have hX:zbQ (nth a.R i)= .agg (zbt (nth a.R i)):=rfl;repeat first|refine wV λ _=>?_|simp [go_sem,zaF hi',hi']
     refine zqI hC hX hFb ?_ aO;by_cases hf:(add (nth a.R i) b).size<=r - A2 i
     ·rw [decide_eq_true hf,if_pos hf];refine J0 ?_;refine zNW (hrec (d - 1) aa (i+1) ⟨aa,aa⟩) ?_ ac;have hs2:((r - A2 i:Nat):Int) - (add (nth a.R i) b).size=r - A2 (i+1):=aa;simp [go_sem,zaf,hs2]
     ·have hbig:¬A4 b.R.length<=r:=by omega
      rw [decide_eq_false hf,if_neg hf];refine J0 ?_;simp [go_sem,zaf,hbig]
    ·obtain rfl:i=a.R.length:=by omega
     refine J0 ?_;refine zNZ ?_;refine J0 ?_;refine zNZ ?_;refine J0 ?_;refine zNW (zNY (α:=Nat) (λ i=>⟨[(2, .ref 0 0 1 0 0),(3, .ref 1 0 2 0 0),(49, .agg [.lst 2 (zar b.L), .lst 2 (zar b.R)]),(50, .int 0),(53, .lst 2 (zar b.L)),(54, .int b.L.length),(55, .int i)], [(0, .rows true 0 1 [[.int (r - A3 i:Int)]]),(1, .rows true 0 2 [[.lst 2 (zar a.L), .lst 2 (zar a.R)]]),(2, .rows true 0 2 [[.lst 2 (zar b.L), .lst 2 (zar b.R)]])],3⟩) (λ d i=>i+d=b.L.length∧A3 i<=r) ?_ b.L.length 0 ?_) ?_ ?_;rotate_left
     ·omega
     ·simp [go_sem,zaf,p3]
     ·simp
     rintro d i ⟨hi,hle⟩ hrec;have hm:=m3 i aa;refine J0 ?_;refine zNX (λ hc=> ?_) (λ hc=> ?_)<;>simp at hc
     ·have hi':i<b.L.length:=by omega
      have hs:=q3 i hi';have hm2:=m3 (i+1) aa;have hC:=ibL i hi' (r - A3 i) aa;have hcast:((r - A3 i:Nat):Int)=r - A3 i:=aa;have hX:zbQ (nth b.L i)= .agg (zbt (nth b.L i)):=rfl;repeat first|refine wV λ _=>?_|simp [go_sem,zaF hi',hi']
      refine zqI hC hFa hX ?_ (by simp [upd,hcast]);by_cases hf:(add a (nth b.L i)).size<=r - A3 i
      ·rw [decide_eq_true hf,if_pos hf];refine J0 ?_;refine zNW (hrec (d - 1) aa (i+1) ⟨aa,aa⟩) ?_ ac;have hs2:((r - A3 i:Nat):Int) - (add a (nth b.L i)).size=r - A3 (i+1):=aa;simp [go_sem,zaf,hs2]
      ·have hbig:¬A4 b.R.length<=r:=by omega
       rw [decide_eq_false hf,if_neg hf];refine J0 ?_;simp [go_sem,zaf,hbig]
     ·obtain rfl:i=b.L.length:=by omega
      refine J0 ?_;refine zNZ ?_;refine J0 ?_;refine zNW (zNY (α:=Nat) (λ i=>⟨[(2, .ref 0 0 1 0 0),(3, .ref 1 0 2 0 0),(49, .agg [.lst 2 (zar b.L), .lst 2 (zar b.R)]),(50, .int 1),(53, .lst 2 (zar b.R)),(54, .int b.R.length),(55, .int i)], [(0, .rows true 0 1 [[.int (r - A4 i:Int)]]),(1, .rows true 0 2 [[.lst 2 (zar a.L), .lst 2 (zar a.R)]]),(2, .rows true 0 2 [[.lst 2 (zar b.L), .lst 2 (zar b.R)]])],3⟩) (λ d i=>i+d=b.R.length∧A4 i<=r) ?_ b.R.length 0 ?_) ?_ ?_;rotate_left
      ·omega
      ·simp [go_sem,zaf,p4]
      ·simp
      rintro d i ⟨hi,hle⟩ hrec;have hm:=m4 i aa;refine J0 ?_;refine zNX (λ hc=> ?_) (λ hc=> ?_)<;>simp at hc
      ·have hi':i<b.R.length:=by omega
       have hs:=q4 i hi';have hm2:=m4 (i+1) aa;have hC:=ibR i hi' (r - A4 i) aa;have hcast:((r - A4 i:Nat):Int)=r - A4 i:=aa;have hX:zbQ (nth b.R i)= .agg (zbt (nth b.R i)):=rfl;repeat first|refine wV λ _=>?_|simp [go_sem,zaF hi',hi']
       refine zqI hC hFa hX ?_ (by simp [upd,hcast]);by_cases hf:(add a (nth b.R i)).size<=r - A4 i
       ·rw [decide_eq_true hf,if_pos hf];refine J0 ?_;refine zNW (hrec (d - 1) aa (i+1) ⟨aa,aa⟩) ?_ ac;have hs2:((r - A4 i:Nat):Int) - (add a (nth b.R i)).size=r - A4 (i+1):=aa;simp [go_sem,zaf,hs2]
       ·have hbig:¬A4 b.R.length<=r:=by omega
        rw [decide_eq_false hf,if_neg hf];refine J0 ?_;simp [go_sem,zaf,hbig]
      ·obtain rfl:i=b.R.length:=by omega
       refine J0 ?_;refine zNZ ?_;refine J0 ?_;simp [go_sem,zaf,hle]
end Go.Av
end
section
open Go Go.Proofs
namespace Go.Av
open zab
def DpG (nx:Nat->List Nat):Nat->Nat->Prop
 |0, _=>False
 |d+1,i=>∀j ∈ nx i,DpG nx d j
theorem zKf (nx:Nat->List Nat):zzs nx (DpG nx):=⟨λ _ h=>h,λ h=>h,λ h=>h⟩
theorem zqM {L R:List (List Nat)}:∀ (d e i:Nat),DpG (nxG L R) d i->DpG (nxG L R) e i->zgq L R d i=zgq L R e i
 |0, _, _,h, _=>h.elim
 | _+1,0, _, _,h=>h.elim
 |d+1,e+1,i,h,k=>by
  rw [zgq,zgq];rw [List.map_congr_left λ j hj=>zqM d e j (h j (List.mem_append.2 (.inl hj))) (k j (List.mem_append.2 (.inl hj))),List.map_congr_left λ j hj=>zqM d e j (h j (List.mem_append.2 (.inr hj))) (k j (List.mem_append.2 (.inr hj)))]
open Classical in
noncomputable def zlL (L R:List (List Nat)) (i:Nat):zab:=if h:∃d,DpG (nxG L R) d i then zgq L R h.choose i else .zero
variable {L R:List (List Nat)}
theorem zmz {d i:Nat} (h:DpG (nxG L R) d i):zlL L R i=zgq L R d i:=by
 have h':∃d,DpG (nxG L R) d i:=⟨d,h⟩
 grind [zlL,zqM]
theorem zCd {d i:Nat} (h:DpG (nxG L R) d i):zlL L R i= .mk ((nth L i).map (zlL L R)) ((nth R i).map (zlL L R)):=by
 cases d with
 |zero=>exact h.elim
 |succ d=>
  rw [zmz h,zgq];grind [List.map_congr_left,zmz,DpG,nxG]
def zrA (L R:List (List Nat)) (n:Nat):Bool:=(zho (nxG L R) (n+1) (λ _=>0) 0).1
theorem zhW {n:Nat} (hin:∀k,k<n->∀j ∈ nxG L R k,j<n) (h0:0<n):zrA L R n=true↔∀d,¬DpG (nxG L R) d 0:=zMw (zKf _) hin h0
theorem zuu {g:zaa}{l:Nat} (hl:1<=l):∀ (f i:Nat){P:List zae}{L R:List (List Nat)}{P':List zae}{L' R':List (List Nat)},P.length<=l->zbe g l f i P L R=some (P',L',R')->P'.length<=l
 |0, _, _, _, _, _, _, _, _,h=>aV
 |f+1,i,P,L,R,P',L',R',hp,h=>by
  rw [zbe] at h;split at h
  ·split at h
   ·cases h
   ·rename_i hb;exact zuu hl f (i+1) aa h
  grind
def zmS (g:zaa) (P:List zae) (k:Nat):Prop:=∀i,0<i->i<P.length->∃j,j<i∧j<k∧∃s:Int,(s=0∨s=1)∧nth P i ∈ zbP g (nth P j) s
theorem zr9 {g:zaa}{k:Nat}{s:Int} (hs:s=0∨s=1){pk:zae}:∀ (os:List zae) (P:List zae),zmS g P (k+1)->k<P.length->nth P k=pk->(∀x ∈ os,x ∈ zbP g pk s)->zmS g (os.foldl zd1 P) (k+1)∧k<(os.foldl zd1 P).length∧nth (os.foldl zd1 P) k=pk
 | [],P,h,hk,hn, _=>⟨h,hk,hn⟩
 |x::os,P,h,hk,hn,ho=>by
  rw [List.foldl_cons];have key:zmS g (zd1 P x) (k+1)∧k<(zd1 P x).length∧nth (zd1 P x) k=pk:=by
   unfold zd1;split
   ·grind
   ·refine ⟨λ i hi hil=> ?_,af,ax⟩;by_cases e:i<P.length
    ·obtain ⟨j,h1,h2,t,h3,h4⟩:=h i hi e;exact ⟨j,h1,h2,t,h3,ax⟩
    ·have e2:i=P.length:=by grind
     refine ⟨k,aa,aa,s,hs, ?_⟩;grind [zqY]
  exact zr9 hs os _ key.1 key.2.1 key.2.2 λ y hy=>ho y aS
theorem zmS.more {g:zaa}{P:List zae}{k k':Nat} (h:zmS g P k) (hk:k<=k'):zmS g P k':=λ i hi hil=>by
 obtain ⟨j,h1,h2,h3⟩:=h i hi hil;exact ⟨j,h1,aa,h3⟩
theorem zr1 {g:zaa}{l:Nat}:∀ (f i:Nat){P:List zae}{L R:List (List Nat)}{P':List zae}{L' R':List (List Nat)},zmS g P i->zbe g l f i P L R=some (P',L',R')->zmS g P' P'.length
 |0, _, _, _, _, _, _, _, _,h=>aV
 |f+1,i,P,L,R,P',L',R',hp,h=>by
  rw [zbe] at h;split at h
  ·rename_i hi;split at h
   ·cases h
   ·obtain ⟨a1,a2,a3⟩:=zr9 (g:=g) (s:=0) (.inl rfl) (zbP g (nth P i) 0) P (hp.more (Nat.le_succ i)) hi rfl λ x hx=>hx;obtain ⟨b1, _, _⟩:=zr9 (g:=g) (s:=1) (.inr rfl) (zbP g (nth P i) 1) _ a1 a2 a3 λ x hx=>hx;exact zr1 f (i+1) b1 h
  ·rename_i hi;simp only [Option.some.injEq,Prod.mk.injEq] at h;obtain ⟨rfl,rfl,rfl⟩:=h;intro i hi hil;obtain ⟨j,h1,h2,h3⟩:=hp i hi hil;exact ⟨j,h1,aa,h3⟩
end Go.Av
end
section
/- sum.Form, sum.Loop, given the graph; sum.Total. -/
set_option linter.unusedSectionVars false
open Go Go.Proofs
namespace Go.Av
open zab
theorem zAZ {g:zaa} (hg:GOk g){p:zae} (hp:POk g p){s:Int} (hs:s=0∨s=1):(∀x ∈ zbP g p s,POk g x)∧(zbP g p s).length<=472446:=by
 have hk:=zbb hp hs;refine ⟨λ x hx=> ?_, ?_⟩
 ·obtain ⟨y,hy,rfl⟩:=List.mem_map.1 hx;exact zbb ((zaE hg hk y hy).1) (.inl rfl)
 grind [zbP,zbf]
theorem zuv {g:zaa} (hg:GOk g){l:Nat}:∀ (f i:Nat){P:List zae}{L R:List (List Nat)}{P':List zae}{L' R':List (List Nat)},(∀x ∈ P,POk g x)->zbe g l f i P L R=some (P',L',R')->∀x ∈ P',POk g x
 |0, _, _, _, _, _, _, _, _,h=>aV
 |f+1,i,P,L,R,P',L',R',hp,h=>by
  rw [zbe] at h;split at h
  ·rename_i hi;split at h
   ·cases h
   ·have hpi:=hp _ (zah hi);refine zuv hg f (i+1) (λ x hx=> ?_) h;rcases (zcZ _ _).1 hx with hx|hx
    ·rcases (zcZ _ _).1 hx with hx|hx
     ·exact hp x hx
     ·exact (zAZ hg hpi (.inl rfl)).1 x hx
    ·exact (zAZ hg hpi (.inr rfl)).1 x hx
  ·simp only [Option.some.injEq,Prod.mk.injEq] at h;obtain ⟨rfl,rfl,rfl⟩:=h;exact hp
structure GrB (P:List zae) (L R:List (List Nat)):Prop where
 n:P.length<=4000
 pos:0<P.length
 l:L.length=P.length
 r:R.length=P.length
 len:∀i,i<P.length->(nth L i).length<=1048576∧(nth R i).length<=1048576
 lt:∀i,i<P.length->∀j ∈ nxG L R i,j<P.length
theorem ze6 {g:zaa} (hg:GOk g){p:zae} (hp:POk g p){limit:Nat} (hl:1<=limit∧limit<=4000){P:List zae}{L R:List (List Nat)} (hX:zbe g limit 4002 0 [sdP p 0] [] []=some (P,L,R)):zwW g P L R P.length∧nth P 0=sdP p 0∧zmS g P P.length∧(∀x ∈ P,POk g x)∧P.length<=limit∧GrB P L R:=by
 obtain ⟨hgr,h0,hne⟩:=zxY 4002 0 (zD1 g (sdP p 0)) (Nat.zero_le _) rfl ac hX;have hlen:=zuu hl.1 4002 0 (P:= [sdP p 0]) af hX;have hpos:=List.length_pos_iff.2 hne;have hpok:=zuv hg 4002 0 (P:= [sdP p 0]) (λ x hx=>by grind [zbb]) hX;have hfr:=zr1 4002 0 (P:= [sdP p 0]) (λ i hi hil=>by grind) hX;refine ⟨hgr,h0,hfr,hpok,hlen,aa,hpos,hgr.l,hgr.r,λ i hi=> ?_,zLT hgr⟩;have hpi:=hpok _ (zah hi);rw [hgr.ol i hi,hgr.or i hi,List.length_map,List.length_map];grind [zAZ]
noncomputable def zjq:Option (List zae×List (List Nat)×List (List Nat))->zab×Int
 |none=>(zero,2)
 |some (P,L,R)=>if zrA L R P.length=true then (zero,210) else if 2000<(zlL L R 0).size then (zero,2) else (zlL L R 0,0)
def zjS (x:zab×Int):AV:= .tup [zbQ x.1, .int x.2]
theorem zh8:zbQ zero= .agg [.lst 2 [], .lst 2 []]:=by rw [zbQ,zhM]
theorem zvv (g:zaa) (p:zae) (hN:zav Tryz.prog 86 [.agg (zad g)] (.bool false)):zav Tryz.prog 47 [.agg (zad g), .agg (zag p)] (zjS (zero,230)):=by
 have hegl:(zad g).length=9:=rfl;have hegb:∀n,(∀c ∈ zad g,Bel n c)=True:=λ n=>ae;rw [zjS,zh8];refine pF Tryz.func47 ?_;refine J0 ?_;refine aP hN ?_;exact K0
theorem zCW (g:zaa) (hg:GOk g) (p:zae) (hp:POk g p) (hN:zav Tryz.prog 86 [.agg (zad g)] (.bool true)):
  zav Tryz.prog 47 [.agg (zad g), .agg (zag p)] (zjS (zjq (zbe g 4000 4002 0 [sdP p 0] [] []))):=by
 have hE:=zpZ g hg p hp 4000 aa;have hegl:(zad g).length=9:=rfl;have hegb:∀n,(∀c ∈ zad g,Bel n c)=True:=λ n=>ae;cases hX:zbe g 4000 4002 0 [sdP p 0] [] [] with
 |none=>
  rw [hX,zNy] at hE;rw [zjq,zjS,zh8];refine pF Tryz.func47 ?_;refine J0 ?_;refine aP hN ?_;refine J0 ?_;refine aP hE ?_;exact K0
 |some x=>
  obtain ⟨P,L,R⟩:=x;obtain ⟨hgr,h0,hfr,hpok,hlen,b⟩:=ze6 hg hp aa hX;have hB:=zGb L R P.length aa b.pos b.l b.r b.len b.lt;rw [hX,zNy] at hE;rw [zjq];by_cases hb:zrA L R P.length=true
  ·rw [if_pos hb,zjS,zh8];rw [show (zho (nxG L R) (P.length+1) (λ _=>0) 0).1=true from hb] at hB;refine pF Tryz.func47 ?_;refine J0 ?_;refine aP hN ?_;refine J0 ?_;refine aP hE ?_;refine J0 ?_;refine aP hB ?_;exact K0
  ·rw [if_neg hb];have hnb:=hb;rw [Bool.not_eq_true] at hb;rw [show (zho (nxG L R) (P.length+1) (λ _=>0) 0).1=false from hb] at hB;have hex:∃d,DpG (nxG L R) d 0:=Classical.byContradiction λ hno=>hnb ((zhW b.lt b.pos).2 λ d hd=>hno ⟨d,hd⟩);obtain ⟨d,hd⟩:=hex;have hS:=zIE (F:=zlL L R) (by omega:P.length<=1048576) b.pos b.l b.r b.len b.lt (zKf _) (λ d i _ h=>zCd h) hd;have hF:=zDV (F:=zlL L R) (by omega:P.length<=1048576) b.l b.r b.len b.lt (zKf _) (λ d i _ h=>zCd h) d 0 b.pos hd;by_cases hz:2000<(zlL L R 0).size
   ·rw [if_pos hz,zjS,zh8];have hz2:((min (zlL L R 0).size 2001:Nat):Int)=2001:=aa;rw [hz2] at hS;refine pF Tryz.func47 ?_;refine J0 ?_;refine aP hN ?_;refine J0 ?_;refine aP hE ?_;refine J0 ?_;refine aP hB ?_;refine J0 ?_;refine aP hS ?_;exact K0
   ·rw [if_neg hz,zjS];have hz2:((min (zlL L R 0).size 2001:Nat):Int)=(zlL L R 0).size:=aa;have hz3:¬(2000:Int)<(zlL L R 0).size:=aa;rw [hz2] at hS;generalize zlL L R 0=f at *;rw [zbQ,zao] at *;refine pF Tryz.func47 ?_;refine J0 ?_;refine aP hN ?_;refine J0 ?_;refine aP hE ?_;refine J0 ?_;refine aP hB ?_;refine J0 ?_;refine aP hS ?_;refine J2 hz3 hz ?_;refine aP hF ?_;exact K0
def zKN:Option (List zae×List (List Nat)×List (List Nat))->AV
 |none=> .tup [.agg [.lst 1 [], .lst 1 []], .int 2]
 |some (_,L,R)=> .tup [.agg [zax L,zax R], .int 0]
theorem zvx (g:zaa) (p:zae) (hN:zav Tryz.prog 86 [.agg (zad g)] (.bool false)):zav Tryz.prog 52 [.agg (zad g), .agg (zag p)] (.tup [.agg [.lst 1 [], .lst 1 []], .int 230]):=by
 have hegl:(zad g).length=9:=rfl;have hegb:∀n,(∀c ∈ zad g,Bel n c)=True:=λ n=>ae;refine pF Tryz.func52 ?_;refine J0 ?_;refine aP hN ?_;exact K0
theorem zCZ (g:zaa) (hg:GOk g) (p:zae) (hp:POk g p) (hN:zav Tryz.prog 86 [.agg (zad g)] (.bool true)):
  zav Tryz.prog 52 [.agg (zad g), .agg (zag p)] (zKN (zbe g 32 4002 0 [sdP p 0] [] [])):=by
 have hE:=zpZ g hg p hp 32 aa;have hegl:(zad g).length=9:=rfl;have hegb:∀n,(∀c ∈ zad g,Bel n c)=True:=λ n=>ae;cases hX:zbe g 32 4002 0 [sdP p 0] [] [] with
 |none=>
  rw [hX,zNy] at hE;rw [zKN];refine pF Tryz.func52 ?_;refine J0 ?_;refine aP hN ?_;refine J0 ?_;refine aP hE ?_;exact K0
 |some x=>
  obtain ⟨P,L,R⟩:=x;rw [hX,zNy] at hE;rw [zKN];rw [zax,zax] at *;refine pF Tryz.func52 ?_;refine J0 ?_;refine aP hN ?_;refine J0 ?_;refine aP hE ?_;exact K0
end Go.Av
end
variable {Q:Exit->Act->World->Prop} {o:Oper} {rest:List Oper} {ops:Array Oper} {a:Addr} {r:World×List Addr} {b:Bool} {v:Value} {w w':World} {P p:Program}
section
namespace Go.Proofs
open Go.Shelf Go.RowKit
theorem ztk {at_:Addr}{u:TypeId}{k:Addr} (h:w.viewStore p at_ u k v b= .ok r):r.1.drawn=w.drawn:=by
 unfold World.viewStore at h;simp only [bind,Except.bind,pure,Except.pure,throw,throwThe,MonadExceptOf.throw] at h;repeat' split at h
 all_goals first|(cases h;rfl)|(cases h)
theorem ztL  (h:w.farStore p a v b= .ok r):r.1.drawn=w.drawn:=by
 grind [World.farStore,ztk]
theorem zrx {α:Type}:∀ (m:Ask α) (w:World),w.drawn<=(w.ask m).2.drawn
 | .done a,w=>Nat.le_refl _
 | .ask what range k,w=>by
  rw [World.ask];split
  ·exact zrx _ w
  ·exact Nat.le_trans (Nat.le_succ _) (zrx _ { w with drawn:=w.drawn+1})
theorem zIQ (w:World) (c:Sys):w.drawn<=(w.sys c).2.drawn:=by
 grind [zrx,World.sys]
theorem zy7 {α:Type}:∀ (m:Sem α){w w':World}{a:α},m.run P w= .ok a w'->w.drawn<=w'.drawn:=by
 intro m;induction m with
 |pure a=>grind [Sem.run]
 |load m a k ih=>
  grind [Sem.run]
 |store m a v k ih=>
  intro w w' x h;have key:∀ (h:(match w.cell? a with|some _=>if w.frozen? a then Result.halt (.unsupported (.unsafePointer "a write to bytes that a string shares")) w else k.run P (w.setCell a v)|none=>match w.farStore P a v (m== .atomic) with| .ok (w, _)=>k.run P w| .error h=> .halt h w)=Result.ok x w'),w.drawn<=w'.drawn:=by
   intro h;split at h
   ·split at h
    ·cases h
    ·have:=ih h;exact this
   ·split at h
    ·rename_i h1;have h2:=ztL h1;grind
    ·cases h
  cases v<;>simp only [Sem.run] at h<;>first|(cases h;done)|exact key h
 |new o k ih=>grind [Sem.run]
 |shape r k ih=>grind [Sem.run]
 |freeze a n k ih=>
  grind [Sem.run,World.freeze]
 |frozen a k ih=>grind [Sem.run]
 |getObj r k ih=>
  grind [Sem.run]
 |setObj r o k ih=>
  grind [Sem.run]
 |choose q k ih=>
  grind [Sem.run]
 |sys c k ih=>grind [Sem.run,zIQ]
 |program k ih=>grind [Sem.run]
 |mark m k ih=>grind [Sem.run]
 |halt h=>grind [Sem.run]
theorem zxu {a:Act} (hgd:o.guard=none) (s x:Operand) (t:TypeId)
  (ho:o.op= .call { callee:= .builtin .append,args:= #[s,x],argTypes:= #[t,t]}) (base:Nat) (e:TypeId) (i:TypeInfo) (z:Value) (size bytes:Nat) (ht:P.underlying t=some (.slice e)) (hi:P.info? e=some i) (hz:i.zero=some z)
  (hsize:i.size=size) (hby:i.bytes=bytes) (hzs:z.cells.size=size) (hsz:0<size) (v:Value) (n:Nat) (xs:List Value) (hs:a.eval s=v) (hown:w.ownsRowF base e size v n xs)
  (ad:Addr) (m c:Nat) (news:List Value) (hx:a.eval x= .slice (some ad) m c) (hl:news.length=m * size) (hnews:∀j u,news[j]? =some u->w.cell? (ad.add j)=some u) (h1:∀u ∈ news,u.oneCell'=true)
  (h63:n+m<=maxLen) (hbytes:(n+m) * bytes<=140737488355328) (hbase:base<=w.heap.size)
  (h:∀v' w',w'.ownsRowF base e size v' (n+m) (xs++news)->w.grownBy w' v.ownBlock->w.drawn<=w'.drawn->wpList P ops Q rest (a.put o.dst v') w'):wpList P ops Q (o::rest) a w:=by
 refine wpList_plain hgd λ K hK=> ?_;obtain ⟨v',w',hr,h2,h3, _⟩:=run_append_ownF (P:=P) w base t o.type e i z size bytes ht hi hz hsize hby hzs hsz v n xs hown ad m c news hl hnews h1 h63 hbytes hbase;have hd:=zy7 _ hr;unfold Oper.wp execOp;simp only [ho,resolve,invoke,builtin,Sem.run_bind,Sem.run_pure,Result.andThen_ok,List.map_toArray,List.map_cons,List.map_nil,hs,hx,hr];exact hK _ _ (h v' w' h2 h3 hd)
theorem zvI {a:Act} (hgd:o.guard=none) (sl x:Operand) (t u:TypeId)
  (ho:o.op= .call { callee:= .builtin .append,args:= #[sl,x],argTypes:= #[t,u]}) (base:Nat) (e:TypeId) (i:TypeInfo) (ht:P.underlying t=some (.slice e)) (hu:P.underlying u=some .string) (hi:P.info? e=some i) (hz:i.zero=some (.int .u8 0))
  (hsize:i.size=1) (hby:i.bytes=1) (v:Value) (n:Nat) (xs:List Value) (hs:a.eval sl=v) (hown:w.ownsRowF base e 1 v n xs) (s:ByteArray) (hx:a.eval x= .string s)
  (h63:n+s.size<=maxLen) (hbytes:n+s.size<=140737488355328) (hbase:base<=w.heap.size)
  (h:∀v' w',w'.ownsRowF base e 1 v' (n+s.size) (xs++Lib.strCells s)->w.grownBy w' v.ownBlock->w.drawn<=w'.drawn->wpList P ops Q rest (a.put o.dst v') w'):wpList P ops Q (o::rest) a w:=by
 refine wpList_plain hgd λ K hK=> ?_;obtain ⟨v',w',hr,h2,h3, _⟩:=Lib.run_append_own_stringF (P:=P) w base t u o.type e i ht hu hi hz hsize hby v n xs hown s h63 hbytes hbase;have hd:=zy7 _ hr;unfold Oper.wp execOp;simp only [ho,resolve,invoke,builtin,Sem.run_bind,Sem.run_pure,Result.andThen_ok,List.map_toArray,List.map_cons,List.map_nil,hs,hx,hr];exact hK _ _ (h v' w' h2 h3 hd)
def Low (B:Nat) (w w':World):Prop:=Below B w w'∧w.drawn<=w'.drawn
theorem Low.trans {B:Nat}{a b c:World} (h:Low B a b) (k:Low B b c):Low B a c:=⟨h.1.trans k.1,Nat.le_trans h.2 k.2⟩
theorem Low.refl (B:Nat) (w:World):Low B w w:=⟨Below.refl B w,Nat.le_refl _⟩
end Go.Proofs
end
section
namespace Go.Proofs
open Go.Shelf Go.RowKit
theorem zBY:(Tryz.prog.info? 195).map (·.size)=some 2:=ah
theorem zJY:liesAt Tryz.prog Tryz.prog.depth 195 (2 / Tryz.prog.cellsOf 195) 0 195 1=true:=ah
theorem zvM:Tryz.prog.underlying 193=some (.pointer 195):=ah
theorem zBZ:Tryz.prog.underlying 328=some .unsafePointer:=ah
theorem zJ0 (b:Nat) (w:World) (h0:w.cell? ⟨b,0,none⟩=some (.pointer (some ⟨b,0,none⟩))):
  Calls Tryz.prog 168 #[.pointer (some ⟨b,0,none⟩)] w λ e w'=>e= .returned (.tuple #[])∧w'=w:=by
 obtain ⟨j,hj, _⟩:=Option.map_eq_some_iff.1 zBY;go_enter Tryz.func168,Tryz.ntmps168
 go_wp2
 rw [Lib.run_neq_ptr_same w _ zvM hj];go_wp2
 go_end0
 grind
theorem zGy (b:Nat) (w:World) (h0:w.cell? ⟨b,0,none⟩=some (.pointer none)) (hsh:w.shape? b=some (195,2)) (hfz:w.frozen? ⟨b,0,none⟩=false):
  Calls Tryz.prog 168 #[.pointer (some ⟨b,0,none⟩)] w λ e w'=>e= .returned (.tuple #[])∧w'=w.setCell ⟨b,0,none⟩ (.pointer (some ⟨b,0,none⟩)):=by
 obtain ⟨j,hj,hjs⟩:=Option.map_eq_some_iff.1 zBY;go_enter Tryz.func168,Tryz.ntmps168
 go_wp2
 rw [Lib.run_to_unsafe w ⟨b,0,none⟩ zvM zBZ hj aa hsh (Nat.zero_lt_succ 1)];simp only [Result.andThen];rw [Oper.upon_value];go_wp2
 rw [run_callFunc_extern Tryz.func219 ah ah ah (e:=Extern.AbiNoEscape.same) ah];rw [Lib.run_noEscape];simp only [Result.andThen];rw [Oper.upon_value];go_wp2
 rw [Lib.run_from_unsafe w ⟨b,0,none⟩ zBZ zvM hj hsh zJY];simp only [Result.andThen];rw [Oper.upon_value];go_wp2
 go_end0
 grind
theorem zBW:(Tryz.prog.info? 5).map (λ i=>(i.zero,i.size,i.bytes))=some (some (.int .u8 0),1,1):=ah
theorem zLA:Tryz.prog.underlying 22=some (.slice 5):=ah
theorem bld_us:Tryz.prog.underlying 9=some .string:=ah
abbrev ztq (B b:Nat) (bs:List Value) (w:World):Prop:=Lib.IsBuilderF 195 5 B b bs w
abbrev zCV (B b:Nat) (bs:List Value) (w:World):Prop:=Lib.BuilderAtF 195 5 B b (.pointer (some ⟨b,0,none⟩)) bs w
theorem zxB (B b:Nat) (bs:List Value) (w:World) (h:ztq B b bs w):
  Calls Tryz.prog 168 #[.pointer (some ⟨b,0,none⟩)] w λ e w'=>e= .returned (.tuple #[])∧(zCV B b bs w'∧Low B w w'):=by
 rcases h with h|h
 ·refine (zGy b w h.cell0 h.shape h.frozen0).mono ?_;rintro e w' ⟨rfl,rfl⟩;exact ⟨rfl,h.used _,(Below.refl B w).setCell (p:=⟨b,0,none⟩) h.1 _,Nat.le_refl _⟩
 ·refine (zJ0 b w h.cell0).mono ?_;grind [Low.refl]
theorem zqC (B b:Nat) (bs:List Value) (c:Int) (w:World) (h:ztq B b bs w) (hlen:bs.length+1<=140737488355328) (hBw:B<=w.heap.size):
  Calls Tryz.prog 113 #[.pointer (some ⟨b,0,none⟩), .int .u8 c] w λ e w'=>e= .returned .nilIface∧(zCV B b (bs++ [.int .u8 c]) w'∧Low B w w'):=by
 obtain ⟨i0,hi,hz0,hz1,hz2⟩:=info_parts zBW;go_enter Tryz.func113,Tryz.ntmps113
 go_wp2_with (go_at_call 168;refine (zxB B b bs _ h).mono ?_)
 rintro e w1 ⟨rfl,h1,hb1,hk1⟩;obtain ⟨hB,v,hbk,hown,hne⟩:=h1;have c0:w1.cell? ⟨b,0,none⟩=some (.pointer (some ⟨b,0,none⟩)):=b9;have c1:w1.cell? ⟨b,1,none⟩=some v:=b9;go_wp2_with (at_builtin;refine zxu rfl _ _ 22 rfl B 5 i0 (.int .u8 0) 1 1 zLA hi hz0 hz1 hz2 rfl ai _ _ _ rfl (hown.alloc _) ⟨w1.heap.size,0,none⟩ 1 1 [.int .u8 c] rfl rfl ?c1 ?c2 ?c3 ?c4 ?c5 ?_)
 case c1=>
  intro j u hj;match j,hj with
  |0,hj=>simp_all [Addr.add]
 case c2=>intro u hu;simp at hu;subst hu;rfl
 case c3=>grind [maxLen]
 case c4=>omega
 case c5=>have:=hb1.size;simp;omega
 intro v' w2 hown' hgrow hdr;have hlt:b<w1.heap.size:=(Array.getElem?_eq_some_iff.1 hbk).1;have hb2:w2.heap[b]? =some (.cells #[.pointer (some ⟨b,0,none⟩),v] 195 (0,0)):=by
  rw [hgrow.block b aQ (λ e=>hne e.symm),Lib.alloc_old w1 _ b hlt];exact hbk
 have d0:w2.cell? ⟨b,0,none⟩=some (.pointer (some ⟨b,0,none⟩)):=cc;have d1:w2.cell? ⟨b,1,none⟩=some v:=cc;have f1:w2.frozen? ⟨b,1,none⟩=false:=Lib.frozen_of_heap hb2 1;obtain ⟨g,cap,rfl⟩:∃g cap,v'= .slice (some ⟨g,0,none⟩) (bs.length+1) cap:=by
  rcases hown'.2 with ⟨_,h0⟩|⟨g,cap,cur,fz,hv, _⟩;all_goals grind
 go_wp2
 go_ret
 refine ⟨rfl, ?_, ?_,Nat.le_trans hk1 hdr⟩
 ·grind [Lib.BuilderAtF.put]
 ·exact ((hb1.alloc aa _).grown hgrow (by have:=hb1.size;simp;omega) (λ k hk=>(hown.lt k hk).1)).setCell (p:=⟨b,1,none⟩) hB _
theorem zun (B b:Nat) (bs:List Value) (s:ByteArray) (w:World) (h:ztq B b bs w) (hlen:bs.length+s.size<=140737488355328) (hBw:B<=w.heap.size):
  Calls Tryz.prog 114 #[.pointer (some ⟨b,0,none⟩), .string s] w λ e w'=>e= .returned (.tuple #[.int .i64 s.size, .nilIface])∧(zCV B b (bs++Lib.strCells s) w'∧Low B w w'):=by
 obtain ⟨i0,hi,hz0,hz1,hz2⟩:=info_parts zBW;go_enter Tryz.func114,Tryz.ntmps114
 go_wp2_with (go_at_call 168;refine (zxB B b bs _ h).mono ?_)
 rintro e w1 ⟨rfl,h1,hb1,hk1⟩;obtain ⟨hB,v,hbk,hown,hne⟩:=h1;have c0:w1.cell? ⟨b,0,none⟩=some (.pointer (some ⟨b,0,none⟩)):=b9;have c1:w1.cell? ⟨b,1,none⟩=some v:=b9;go_wp2_with (at_builtin;refine zvI rfl _ _ 22 9 rfl B 5 i0 zLA bld_us hi hz0 hz1 hz2 _ _ _ rfl hown s rfl ?c3 ?c4 ?c5 ?_)
 case c3=>grind [maxLen]
 case c4=>omega
 case c5=>grind
 intro v' w2 hown' hgrow hdr;have hlt:b<w1.heap.size:=(Array.getElem?_eq_some_iff.1 hbk).1;have hb2:w2.heap[b]? =some (.cells #[.pointer (some ⟨b,0,none⟩),v] 195 (0,0)):=by
  rw [hgrow.block b hlt (λ e=>hne e.symm)];exact hbk
 have d0:w2.cell? ⟨b,0,none⟩=some (.pointer (some ⟨b,0,none⟩)):=cc;have d1:w2.cell? ⟨b,1,none⟩=some v:=cc;have f1:w2.frozen? ⟨b,1,none⟩=false:=Lib.frozen_of_heap hb2 1;obtain ⟨ao,n',cap,rfl⟩:∃ao n' cap,v'= .slice ao n' cap:=by
  rcases hown'.2 with ⟨hv, _⟩|⟨g,cap,cur,fz,hv, _⟩;all_goals grind
 go_wp2
 go_ret2
 refine ⟨rfl, ?_, ?_,Nat.le_trans hk1 hdr⟩
 ·grind [Lib.BuilderAtF.put,Lib.strCells_length]
 ·exact (hb1.grown hgrow aa (λ k hk=>(hown.lt k hk).1)).setCell (p:=⟨b,1,none⟩) hB _
theorem zMH:Tryz.prog.underlying 265=some (.pointer 5):=ah
theorem zGx:Tryz.prog.cellsOf 5=1:=ah
theorem zJZ (B b:Nat) (l:List UInt8) (w:World) (h:ztq B b (Lib.byteCells l) w) (h0:l≠ []):
  Calls Tryz.prog 115 #[.pointer (some ⟨b,0,none⟩)] w λ e w'=>e= .returned (.string ⟨l.toArray⟩)∧Low B w w':=by
 obtain ⟨p,hAt⟩:∃p,Lib.BuilderAtF 195 5 B b p (Lib.byteCells l) w:=by
  rcases h with h|h;all_goals grind
 obtain ⟨hB,v,hbk,hown,hne⟩:=hAt;have hl0:l.length≠0:=af;rw [Lib.byteCells_length] at hown;obtain ⟨g,cap,cur,fz,rfl,hbg,hg,hnc,hcm,hcs⟩:∃g cap cur fz,v= .slice (some ⟨g,0,none⟩) l.length cap∧B<=g∧w.heap[g]? =some (.cells cur 5 fz)∧l.length<=cap∧cap<=maxLen∧cur.size=cap * 1:=by
  rcases hown.2 with ⟨_,hz⟩|⟨g,cap,cur,fz,hv,r1,r2, _,r3,r4,r5, _⟩
  ·omega
  ·exact ⟨g,cap,cur,fz,hv,r1,r2,r3,r4,r5⟩
 have c1:w.drew.cell? ⟨b,1,none⟩=some (.slice (some ⟨g,0,none⟩) l.length cap):=by
  have:w.drew.heap[b]? =some (.cells #[p, .slice (some ⟨g,0,none⟩) l.length cap] 195 (0,0)):=hbk;rw [Lib.cell_of_heap this];rfl
 have hSD:(Builtin.unsafeSliceData_ #[22] 265 #[.slice (some ⟨g,0,none⟩) l.length cap]).run Tryz.prog w.drew= .ok (.pointer (some ⟨g,0,none⟩)) w.drew:=
  Lib.run_unsafeSliceData_row _ _ _ _ _ _ aa
 have hUS:(Builtin.unsafeString_ #[265,3] 9 #[.pointer (some ⟨g,0,none⟩), .int .i64 l.length]).run Tryz.prog w.drew= .ok (.string ⟨l.toArray⟩) (w.drew.freeze ⟨g,0,none⟩ l.length):=by
  refine Lib.run_unsafeString_row w.drew 265 3 9 5 zMH zGx g cur.size (by have hg':w.drew.heap[g]? =some (.cells cur 5 fz):=hg;simp [World.shape?,hg']) l h0 aa (by unfold maxLen at hcm;omega) ?_;intro j x hx;have:=hown.cells (g:=g) rfl j (.int .u8 x.toNat) (by simp [Lib.byteCells,hx]);exact this
 have mixed:Tryz.prog.follows .mixedOrders=true:=ah;go_enter Tryz.func115,Tryz.ntmps115
 go_wp2
 go_region_o
 all_goals (go_wp2;go_ret;exact ⟨rfl,Lib.below_freeze (Below.drew (Below.refl B w)) (p:=⟨g,0,none⟩) hbg _,by simp_all [World.freeze]⟩)
end Go.Proofs
end
section
namespace Go.Proofs
open Go.Shelf Go.RowKit
def zjj (w:World) (B:Nat) (v:Value) (ts:List (List UInt8)):Prop:=∃A cap,v= .slice A ts.length cap∧∀i (h:i<ts.length),∃a p,A=some a∧a.spot=none∧a.block<B∧p.spot=none∧p.block<B∧w.cell? ⟨a.block,a.off+i,none⟩=some (.pointer (some p))∧w.cell? p=some (.string ⟨(ts[i]).toArray⟩)
theorem zjM {B:Nat} (h:Below B w w') (ha:a.block<B):w'.cell? a=w.cell? a:=h.cell ha
theorem zjj.below {B:Nat}{ts:List (List UInt8)} (h:zjj w B v ts) (hb:Below B w w'):zjj w' B v ts:=by
 grind [zjM,zjj]
def zge:List (List UInt8)->List UInt8
 | []=> []
 | [x]=>x
 |x::y::l=>x++44::zge (y::l)
theorem zuM:∀ (l:List (List UInt8)) (x:List UInt8),zge (l++ [x])=if l= [] then x else zge l++44::x
 | [],x=>rfl
 | [y],x=>rfl
 |y::z::l,x=>by
  have:=zuM (z::l) x;simp only [List.cons_append,zge] at this ⊢;rw [this];simp
theorem zpp {l:List (List UInt8)}{k:Nat} (h:k<l.length):zge (l.take (k+1))=if k=0 then l[k] else zge (l.take k)++44::l[k]:=by
 rw [<- List.take_append_getElem h,zuM];grind [List.length_take]
theorem zCk (l:List (List UInt8)):∀k,k<=l.length->(zge (l.take k)).length<=(zge l).length:=by
 have step:∀k,k<l.length->(zge (l.take k)).length<=(zge (l.take (k+1))).length:=λ k hk=>by
  grind [zpp,zge]
 intro k hk;obtain ⟨d,hd⟩:∃d,k+d=l.length:=⟨l.length - k,aa⟩
 induction d generalizing k<;>grind
theorem zBX (B b:Nat) (acc:List UInt8) (v:Value) (ts:List (List UInt8)) (w:World) (h:ztq B b (Lib.byteCells acc) w) (hv:zjj w B v ts) (hts:ts.length<=68719476736) (hlen:acc.length+(zge ts).length<=68719476736) (hBw:B<=w.heap.size):
  Calls Tryz.prog 112 #[v, .pointer (some ⟨b,0,none⟩)] w λ e w'=>e= .returned (.tuple #[])∧(ztq B b (Lib.byteCells (acc++zge ts)) w'∧Low B w w'):=by
 obtain ⟨A,cap,rfl,hcs⟩:=hv;go_enter Tryz.func112,Tryz.ntmps112
 go_wp2
 go_loopw [7] (λ t wr=>∃k:Nat,k<=ts.length∧t= .int .i64 k∧ztq B b (Lib.byteCells (acc++zge (ts.take k))) wr∧Low B w wr) (λ t _=>ts.length - (intOf t).toNat)
 case atStart=>grind [zge,Low.refl]
 case round=>
  obtain ⟨k,hk,rfl,hI,hbw⟩:=hrel;by_cases hlt:k<ts.length
  ·obtain ⟨a,p,rfl,a1,a2,p1,p2,c1,c2⟩:=hcs k hlt;have d1:=(zjM hbw.1 (a:=⟨a.block,a.off+k,none⟩) a2).trans c1;have d2:=(zjM hbw.1 p2).trans c2;have hle:=zCk ts (k+1) aa;have hle0:=zCk ts k aa;rw [zpp hlt] at hle;obtain ⟨ab,ao,asp⟩:=a;obtain ⟨pb,po,ps⟩:=p;simp only at a1 a2 p1 p2 d1 d2;subst a1;subst p1;clear hcs c1 c2;have hsz:wr.heap.size ≥ B:=Nat.le_trans hBw hbw.1.size;have hl1:(Lib.byteCells (acc++zge (ts.take k))).length=acc.length+(zge (ts.take k)).length:=by grind [Lib.byteCells_length]
   have hl2:(⟨(ts[k]).toArray⟩:ByteArray).size=(ts[k]).length:=by simp [ByteArray.size]
   have hend:∀ (W:World),ztq B b (Lib.byteCells (acc++zge (ts.take (k+1)))) W->Low B w W->∃k':Nat,k'<=ts.length∧Value.int .i64 ((k:Int)+1)= .int .i64 k'∧ztq B b (Lib.byteCells (acc++zge (ts.take k'))) W∧Low B w W:=λ W h1 h2=>⟨k+1,aa,rfl,h1,h2⟩
   rw [zpp hlt] at hend;by_cases h0:k=0
   ·subst h0;simp only [Nat.add_zero] at d1;rw [if_pos rfl] at hle hend;go_wp2_with (go_at_call 114;refine (zun B b _ _ _ hI (by rw [hl1,hl2];omega) aa).mono ?_)
    rintro e w1 ⟨rfl,h1,hb1⟩;go_wp2
    go_roundw
    case rel=>exact hend _ (.inr (by grind [Lib.strCells,Lib.byteCells,zge])) (hbw.trans hb1)
    grind [intOf]
   ·rw [if_neg h0] at hle hend;rw [List.length_append,List.length_cons] at hle;go_wp2_with (go_at_call 113;refine (zqC B b _ 44 _ hI (by rw [hl1];omega) aa).mono ?_)
    rintro e w1 ⟨rfl,h1,hb1⟩;have hbw1:=hbw.trans hb1;have d3:=(zjM hb1.1 (a:=⟨ab,ao+k,none⟩) a2).trans d1;have d4:=(zjM hb1.1 (a:=⟨pb,po,none⟩) p2).trans d2;have hsz1:w1.heap.size ≥ B:=Nat.le_trans hBw hbw1.1.size;go_wp2_with (go_at_call 114;refine (zun B b _ _ _ (.inr h1) (by rw [List.length_append,hl1,hl2];simp;omega) aa).mono ?_)
    rintro e w2 ⟨rfl,h2,hb2⟩;go_wp2
    go_roundw
    case rel=>exact hend _ (.inr (by grind [Lib.strCells,Lib.byteCells])) (hbw1.trans hb2)
    grind [intOf]
  ·obtain rfl:k=ts.length:=by omega
   rw [List.take_length] at hI;go_wp2
   go_end0
   grind
end Go.Proofs
end
