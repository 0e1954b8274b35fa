/- Texts of ours, part 8: our library and contracts of functions. -/
import Derived.Test.YtgdfnfffibhkjaaGreatDoorB07
import Derived.Shelf.SlSortCmp.NoneTotal
import Derived.Test.YtgdfnfffibhkjaaGreatDoorProg
set_option linter.unusedSimpArgs false
set_option linter.unusedVariables false
set_option maxRecDepth 100000
set_option maxHeartbeats 40000000
section
open Go Go.Proofs
namespace Go.Av
open zab
theorem zFB:∀ (n:Nat) (a b:zab),a.size+b.size<=n->n<=68719476736->zav Tryz.prog 93 [zbQ a,zbQ b] (zbQ (add a b)):=by
 intro n;induction n with
 |zero=>intro a b hf;have:=za1 a;omega
 |succ n ih=>
  intro a b hf hn;have e1:=zjs a;have e2:=zjt a;have e3:=zjs b;have e4:=zjt b;have iaL:∀i,i<a.L.length->zav Tryz.prog 93 [.agg (zbt (nth a.L i)),zbQ b] (.agg (zbt (add (nth a.L i) b))):=λ i hi=>ih _ _ aB aa;have ibL:∀i,i<b.L.length->zav Tryz.prog 93 [zbQ a, .agg (zbt (nth b.L i))] (.agg (zbt (add a (nth b.L i)))):=λ i hi=>ih _ _ aB aa;have iaR:∀i,i<a.R.length->zav Tryz.prog 93 [.agg (zbt (nth a.R i)),zbQ b] (.agg (zbt (add (nth a.R i) b))):=λ i hi=>ih _ _ aC aa;have ibR:∀i,i<b.R.length->zav Tryz.prog 93 [zbQ a, .agg (zbt (nth b.R i))] (.agg (zbt (add a (nth b.R i)))):=λ i hi=>ih _ _ aC aa;have er:zbQ (add a b)= .agg [.lst 2 (zar (a.L.map (λ z=>add z b)++b.L.map λ z=>add a z)), .lst 2 (zar (a.R.map (λ z=>add z b)++b.R.map λ z=>add a z))]:=by rw [zbQ,zao,zBJ];rfl
  obtain ⟨A,a0,a1,a2,a3⟩:=zg1 (λ z=>add z b) a.L;obtain ⟨B,b0,b1,b2,b3⟩:=zyi (A a.L.length) (λ z=>add a z) b.L;obtain ⟨C,c0,c1,c2,c3⟩:=zg1 (λ z=>add z b) a.R;obtain ⟨D,d0,d1,d2,d3⟩:=zyi (C a.R.length) (λ z=>add a z) b.R;rw [a2 _ (Nat.le_refl _)] at b2;rw [c2 _ (Nat.le_refl _)] at d2;rw [er,<- a3,<- b3,<- c3,<- d3];clear er a3 b3 c3 d3;rw [zbQ,zao a] at *;rw [zbQ,zao b] at *;refine pF Tryz.func93 ?_;refine J0 ?_;refine zNW (zNY (α:=Nat) (λ i=>⟨[(2, .ref 0 0 2 0 0),(3, .ref 1 0 2 0 0),(4, .ref 2 0 2 0 0),(5, .ref 3 0 2 0 0),(15, .lst 2 (zar a.L)),(16, .int a.L.length),(17, .int i)], [(0, .rows true 0 2 [[.lst 2 (zar a.L), .lst 2 (zar a.R)]]),(1, .rows true 0 2 [[.lst 2 (zar b.L), .lst 2 (zar b.R)]]),(2, .rows true 0 2 [[AV.nils,AV.nils]]),(3, .rows true 0 2 [[.sl 4 i 2 0 i,AV.nils]]),(4, .rows true i 2 (zar (A i)))],5⟩)
   (λ d i=>i+d=a.L.length) ?_ a.L.length 0 ?_) ?_ ?_
  ·intro d i hi hrec;have hlen:=a2 i aa;refine J0 ?_;refine zNX (λ hl=> ?_) (λ hl=> ?_)<;>simp at hl
   ·have hl':i<a.L.length:=by omega
    repeat first|refine wV λ _=>?_|simp [go_sem,hl',zaF hl',hlen]
    refine dP (iaL i hl') ?_;refine J1 hlen ?_;refine zNW (hrec (d - 1) aa (i+1) aa) ?_ ac;simp [go_sem,zaf,a1 i hl',zdC,Nat.add_assoc]
   ·obtain rfl:i=a.L.length:=by omega
    refine J0 ?_;refine zNW (zNY (α:=Nat) (λ i=>⟨[(2, .ref 0 0 2 0 0),(3, .ref 1 0 2 0 0),(4, .ref 2 0 2 0 0),(5, .ref 3 0 2 0 0),(31, .lst 2 (zar b.L)),(32, .int b.L.length),(33, .int i)], [(0, .rows true 0 2 [[.lst 2 (zar a.L), .lst 2 (zar a.R)]]),(1, .rows true 0 2 [[.lst 2 (zar b.L), .lst 2 (zar b.R)]]),(2, .rows true 0 2 [[AV.nils,AV.nils]]),(3, .rows true 0 2 [[.sl 4 (a.L.length+i) 2 0 (a.L.length+i),AV.nils]]),(4, .rows true (a.L.length+i) 2 (zar (B i)))],5⟩)
     (λ d i=>i+d=b.L.length) ?_ b.L.length 0 ?_) ?_ ?_
    ·intro d i hi hrec;have hlen:=b2 i aa;refine J0 ?_;refine zNX (λ hl=> ?_) (λ hl=> ?_)<;>simp at hl
     ·have hl':i<b.L.length:=by omega
      repeat first|refine wV λ _=>?_|simp [go_sem,hl',zaF hl',hlen]
      refine dP (ibL i hl') ?_;refine J1 hlen ?_;refine zNW (hrec (d - 1) aa (i+1) aa) ?_ ac;simp [go_sem,zaf,b1 i hl',zdC,Nat.add_assoc]
     ·obtain rfl:i=b.L.length:=by omega
      refine J0 ?_;refine zNW (zNY (α:=Nat) (λ i=>⟨[(2, .ref 0 0 2 0 0),(3, .ref 1 0 2 0 0),(4, .ref 2 0 2 0 0),(5, .ref 3 0 2 0 0),(47, .lst 2 (zar a.R)),(48, .int a.R.length),(49, .int i)], [(0, .rows true 0 2 [[.lst 2 (zar a.L), .lst 2 (zar a.R)]]),(1, .rows true 0 2 [[.lst 2 (zar b.L), .lst 2 (zar b.R)]]),(2, .rows true 0 2 [[AV.nils,AV.nils]]),(3, .rows true 0 2 [[.sl 4 (a.L.length+b.L.length) 2 0 (a.L.length+b.L.length), .sl 5 i 2 0 i]]),(4, .rows true (a.L.length+b.L.length) 2 (zar (B b.L.length))),(5, .rows true i 2 (zar (C i)))],6⟩)
       (λ d i=>i+d=a.R.length) ?_ a.R.length 0 ?_) ?_ ?_
      ·intro d i hi hrec;have hlen:=c2 i aa;refine J0 ?_;refine zNX (λ hl=> ?_) (λ hl=> ?_)<;>simp at hl
       ·have hl':i<a.R.length:=by omega
        repeat first|refine wV λ _=>?_|simp [go_sem,hl',zaF hl',hlen]
        refine dP (iaR i hl') ?_;refine J1 hlen ?_;refine zNW (hrec (d - 1) aa (i+1) aa) ?_ ac;simp [go_sem,zaf,c1 i hl',zdC,Nat.add_assoc]
       ·obtain rfl:i=a.R.length:=by omega
        refine J0 ?_;refine zNW (zNY (α:=Nat) (λ i=>⟨[(2, .ref 0 0 2 0 0),(4, .ref 2 0 2 0 0),(5, .ref 3 0 2 0 0),(63, .lst 2 (zar b.R)),(64, .int b.R.length),(65, .int i)], [(0, .rows true 0 2 [[.lst 2 (zar a.L), .lst 2 (zar a.R)]]),(2, .rows true 0 2 [[AV.nils,AV.nils]]),(3, .rows true 0 2 [[.sl 4 (a.L.length+b.L.length) 2 0 (a.L.length+b.L.length), .sl 5 (a.R.length+i) 2 0 (a.R.length+i)]]),(4, .rows true (a.L.length+b.L.length) 2 (zar (B b.L.length))),(5, .rows true (a.R.length+i) 2 (zar (D i)))],6⟩)
         (λ d i=>i+d=b.R.length) ?_ b.R.length 0 ?_) ?_ ?_
        ·intro d i hi hrec;have hlen:=d2 i aa;refine J0 ?_;refine zNX (λ hl=> ?_) (λ hl=> ?_)<;>simp at hl
         ·have hl':i<b.R.length:=by omega
          repeat first|refine wV λ _=>?_|simp [go_sem,hl',zaF hl',hlen]
          refine dP (ibR i hl') ?_;refine J1 hlen ?_;refine zNW (hrec (d - 1) aa (i+1) aa) ?_ ac;simp [go_sem,zaf,d1 i hl',zdC,Nat.add_assoc]
         ·obtain rfl:i=b.R.length:=by omega
          have hB:=b2 _ (Nat.le_refl _);have hD:=d2 _ (Nat.le_refl _);refine J0 ?_;refine ⟨zaq rfl (by simp [zdB,hB]) ap ?_,zaq rfl (by simp [zdB,hD]) ap ?_⟩;all_goals simp_all [List.take_of_length_le,zdB]
        ·omega
        ·simp [go_sem,zaf,d0]
        ·simp
      ·omega
      ·simp [go_sem,zaf,c0]
      ·simp
    ·omega
    ·simp [go_sem,zaf,b0]
    ·simp
  ·omega
  ·simp [go_sem,zaf,a0]
  ·simp
end Go.Av
end
section
namespace Go.Av
open Go Go.Sort Go.Shelf Go.Proofs
structure El (w:World) (M:Nat->Prop){α:Type} (en:α->List AV) (Q:α->Prop) where
 x:α
 vs:List Value
 q:Q x
 rel:za2 noP w M (en x) vs
 cells:∀v ∈ vs,zd7 v=true
theorem zAm {w:World}{M:Nat->Prop}{α:Type}{en:α->List AV}{Q:α->Prop}:∀ {l:List α}{W:List Value},(∀x ∈ l,Q x)->za2 noP w M (l.map en).flatten W->(∀v ∈ W,zd7 v=true)->
  ∃ls:List (El w M en Q),ls.map (·.x)=l∧(ls.map (·.vs)).flatten=W
 | [],W, _,h, _=>by cases h;exact ⟨[],rfl,rfl⟩
 |x::l,W,hq,h,hc=>by
  rw [List.map_cons,List.flatten_cons] at h;obtain ⟨us,ts,rfl,h1,h2⟩:=h.split;obtain ⟨ls,e1,e2⟩:=zAm (λ y hy=>hq y aS) h2 (λ v hv=>hc v (by simp [hv]));exact ⟨⟨x,us,hq x ac,h1,λ v hv=>hc v (by simp [hv])⟩::ls,by simp [e1],by simp [e2]⟩
theorem zCb {k:Nat} (hk:0<k):∀ (ls:List (List Value)) (t:Nat),(∀r ∈ ls,r.length=k)->t<ls.length * k->ls.flatten[t]? =(ls[t / k]?).bind (·[t % k]?)
 | [],t, _,h=>bm
 |r::ls,t,hr,h=>by
  have hl:r.length=k:=hr r ac;rw [List.flatten_cons];by_cases ht:t<k
  ·rw [List.getElem?_append_left aa,Nat.div_eq_of_lt ht,Nat.mod_eq_of_lt ht];rfl
  ·obtain ⟨s,rfl⟩:∃s,t=s+k:=⟨t - k,aa⟩
   have hs:s<ls.length * k:=by simp only [List.length_cons,Nat.add_mul,Nat.one_mul] at h;omega
   rw [List.getElem?_append_right aa,hl,Nat.add_sub_cancel,zCb hk ls s (λ r hr'=>hr r (by simp [hr'])) hs,Nat.add_div_right _ hk,Nat.add_mod_right,List.getElem?_cons_succ]
theorem zuy {β:Type} [Inhabited β] (enc:β->List Value){k:Nat} (hk0:0<k) (hk:∀x,(enc x).length=k) (d:Array β):(flatK enc k d).toList=(d.toList.map enc).flatten:=by
 refine List.ext_getElem? λ t=> ?_;have hr:∀r ∈ d.toList.map enc,r.length=k:=λ r hr=>af;have hlen:((d.toList.map enc).flatten).length=d.size * k:=by
  have:∀ls:List (List Value),(∀r ∈ ls,r.length=k)->ls.flatten.length=ls.length * k:=by
   intro ls;induction ls<;>grind
  grind
 by_cases ht:t<d.size * k
 ·have h1:=get_flatK enc k d t ht;have hq:t / k<d.size:=Nat.div_lt_of_lt_mul af;have hm:t % k<k:=Nat.mod_lt _ hk0;have hs:t<(flatK enc k d).size:=by grind [size_flatK]
  rw [zCb hk0 _ t hr af,Array.getElem?_toList,Array.getElem?_eq_getElem hs,<- getElem!_pos (flatK enc k d) t hs,h1,List.getElem?_map,Array.getElem?_toList,Array.getElem?_eq_getElem hq,
   getElem!_pos d (t / k) hq]
  grind
 grind [size_flatK]
variable {T:TypeId} {C:Array Value} {blk off:Nat} {w:World}
theorem zFe  (hb:w.heap[blk]? =some (.cells C T (0,0))){F:Array Value} (hF:off+F.size<=C.size) (n:Nat) (os:Array Obj):
  ∃C',(grow (putRow id (Sort.ahead w n) blk off F) os).heap[blk]? =some (.cells C' T (0,0))∧C'.size=C.size∧(C'.toList.drop off).take F.size=F.toList∧
   (∀j,j≠blk->j<w.heap.size->(grow (putRow id (Sort.ahead w n) blk off F) os).heap[j]? =w.heap[j]?)∧w.heap.size<=(grow (putRow id (Sort.ahead w n) blk off F) os).heap.size:=by
 have hlt:blk<w.heap.size:=(Array.getElem?_eq_some_iff.1 hb).1;have hsz:(putRow id (Sort.ahead w n) blk off F).heap.size=w.heap.size:=bg;have hold:∀j,j<w.heap.size->(grow (putRow id (Sort.ahead w n) blk off F) os).heap[j]? =(w.heap.modify blk (onCells (putCells id off F)))[j]? :=by
  intro j hj;show (_++os)[j]? = _;rw [Array.getElem?_append_left aa];rfl
 refine ⟨putCells id off F C, ?_,by simp [putCells], ?_,λ j hj hjl=> ?_, ?_⟩
 ·grind [onCells]
 ·refine List.ext_getElem? λ j=> ?_;grind [putCells]
 all_goals grind
theorem zkU  (hb:w.heap[blk]? =some (.cells C T (0,0))){β:Type} [Inhabited β] (enc:β->List Value) (k:Nat) (d:Array β) (hF:off+d.size * k<=C.size) (n:Nat) (os:Array Obj):
  ∃C',(sortWorldK enc k w blk off n d os).heap[blk]? =some (.cells C' T (0,0))∧C'.size=C.size∧(C'.toList.drop off).take (d.size * k)=(flatK enc k d).toList∧
   (∀j,j≠blk->j<w.heap.size->(sortWorldK enc k w blk off n d os).heap[j]? =w.heap[j]?)∧w.heap.size<=(sortWorldK enc k w blk off n d os).heap.size∧
   (sortWorldK enc k w blk off n d os).os=w.os∧(sortWorldK enc k w blk off n d os).tape=w.tape∧(sortWorldK enc k w blk off n d os).output=w.output∧w.drawn<=(sortWorldK enc k w blk off n d os).drawn:=by
 obtain ⟨C',h1,h2,h3,h4,h5⟩:=zFe hb (F:=flatK enc k d) (by rw [size_flatK];exact hF) n os;unfold sortWorldK putRowK;rw [size_flatK] at h3;exact ⟨C',h1,h2,h3,h4,h5,rfl,rfl,rfl,Nat.le_add_right _ _⟩
theorem zCP {α β:Type}{lt:α->α->Bool} (h:SWO lt) (f:β->α):SWO (λ a b=>lt (f a) (f b)):=⟨λ _=>h.irrefl _,λ _ _ _=>h.trans _ _ _,λ _ _ _=>h.ntrans _ _ _⟩
theorem zOj {P:Program}{ρ:Ren} (L:SlLaysF0.n6 P ρ){α:Type}{k:Nat} (hk0:0<k) (aE:∀w,(isAgg (ρ.t 24)).run P w= .ok true w) (zE:∀w,(Go.sizeOf (ρ.t 24)).run P w= .ok k w)
  (en:α->List AV) (henl:∀x,(en x).length=k) (henb:∀x,∀c ∈ en x,Bel 0 c) (Q:α->Prop) (cf:α->α->Int) (hO:SWO (λ a b:α=>decide (cf a b<0))) (g:FuncId)
  (hC:∀x y,Q x->Q y->zav P g [.agg (en x), .agg (en y)] (.v (.int .i64 (cf x y)))) (hg:zfJ P g) (l:List α) (hQ:∀x ∈ l,Q x) (hl:l.length<4611686018427387904) {h:zay} {n o gn:Nat}
  (ho:h o=some (.rows true gn k (l.map en))) {K:zbH} (hK:∀l':List α,l'.Perm l->l'.Pairwise (λ a b=>¬cf b a<0)->K (.tup []) (upd h o (some (.rows true gn k (l'.map en)))) n):
  zaj P (ρ.f 6) [.sl o gn k 0 l.length, .fn (.func g) [] []] h n K:=by
 have e6:zfJ P (ρ.f 6):=L.f6.enters rfl;refine ⟨e6,λ M0 φ w vs hH hargs=> ?_⟩;cases hargs with
 |cons hs ht=>
 cases ht with
 |cons hf ht=>
 cases ht;cases hf with
 | @fn _ _ _ fs cs q1 q2=>
 cases q1;cases q2;have hal:zdI h o gn k:=bp;obtain ⟨A,cap,rfl,hcap,hA⟩:=hH.sl_alive hal hs;have hnone:l= []->Calls P (ρ.f 6) ⟨[.slice A l.length cap, .func (.func g) ⟨[]⟩ ⟨[]⟩]⟩ w λ e w'=>∃v φ' r h' n',e= .returned v∧K r h' n'∧zmK φ' n' w' M0 h'∧Rel φ' w' (Or M0 (Mut φ' h')) r v∧ze3 φ w M0 h φ' w' h':=by
  intro he;subst he;refine (AnyF.slices_SortFunc_none L A cap _ w).mono ?_;rintro e w' ⟨rfl,rfl⟩;have:=hK [] (.refl _) .nil;rw [<- ho,zq5] at this;exact ⟨_,φ, .tup [],h,n,rfl,this,hH, .tup (vs:= []) .nil, .refl _ _ _ _⟩
 by_cases he:l= []
 ·grind
 have hlp:0<l.length:=List.length_pos_iff.2 he;rcases hA with ⟨rfl, _,h0, _⟩|⟨h0,rfl, _⟩|⟨a,bs,hp,hsp,rfl,hcb⟩
 ·omega
 ·omega
 obtain ⟨A0,hA0,hobj⟩:=hH.obj _ _ _ _ _ ho;rw [hp] at hA0;simp only [Option.some.injEq,Prod.mk.injEq,true_and] at hA0;subst hA0;rcases hobj with ⟨hobj, _⟩|⟨a₁,bs₁,e1,h0,hd⟩
 ·cases hobj
 simp only [Option.some.injEq,Prod.mk.injEq] at e1;obtain ⟨rfl,rfl⟩:=e1;obtain ⟨C,T,hb,hCs,hr,hle,hv,hrel⟩:=hd.cells hsp;rw [List.length_map] at hle hv hrel;have hrel0:za2 noP w (Or M0 (Mut φ h)) (l.map en).flatten ((C.toList.drop a.off).take (l.length * k)):=zkP (λ _ hk=>hk) (λ c hc=>by
  grind) hrel
 obtain ⟨ls,hlx,hlv⟩:=zAm (Q:=Q) hQ hrel0 hv;have hlen:ls.length=l.length:=af;obtain ⟨d,hd⟩:∃d:Array (El w (Or M0 (Mut φ h)) en Q),d=ls.toArray:=⟨_,rfl⟩
 have hds:d.size=l.length:=af;haveI:Inhabited (El w (Or M0 (Mut φ h)) en Q):=⟨ls[0]' aa⟩
 have hkE:∀x:El w (Or M0 (Mut φ h)) en Q,x.vs.length=k:=λ x=>by rw [<- x.rel.length,henl]
 have hMb:Or M0 (Mut φ h) a.block:= .inr ⟨o,gn,k, _,gn,a,bs,ho,hp,rfl⟩;have hblk:a.block<w.heap.size:=(Array.getElem?_eq_some_iff.1 hb).1;have hfl:∀d':Array (El w (Or M0 (Mut φ h)) en Q),(flatK (λ x=>x.vs) k d').toList=(d'.toList.map λ x=>x.vs).flatten:=λ d'=>zuy _ hk0 hkE d';have hCal:Calls P (ρ.f 6) ⟨[.slice (some ⟨a.block,a.off+0 * k,none⟩) l.length cap, .func (.func g) ⟨[]⟩ ⟨[]⟩]⟩ w λ e w'=>
   e= .returned (.tuple #[])∧∃d' n os,PermIn 0 d.size d d'∧SortedIn (ltOf λ x y:El w (Or M0 (Mut φ h)) en Q=>cf x.x y.x) 0 d.size d'∧w'=sortWorldK (λ x=>x.vs) k w a.block a.off n d' os:=by
  rw [Nat.zero_mul,Nat.add_zero,<- hds];refine AnyQ.slices_SortFunc L k aE zE (λ x:El w (Or M0 (Mut φ h)) en Q=>x.vs) hkE (λ x=>x.cells) (λ x y=>cf x.x y.x) (zCP hO λ x:El w (Or M0 (Mut φ h)) en Q=>x.x) g #[] a.block a.off cap d w hg ?_ ?_ hblk aa
  ·intro m os dk hdk x y;obtain ⟨hx1,hx2⟩:=hC x.x y.x x.q y.q;obtain ⟨C',k1,k2,k3,k4,k5,k6,k7,k8,k9⟩:=zkU (off:=a.off) hb (λ x:El w (Or M0 (Mut φ h)) en Q=>x.vs) k dk af m os;generalize sortWorldK (λ x:El w (Or M0 (Mut φ h)) en Q=>x.vs) k w a.block a.off m dk os=X at *;have hkeep:∀z:El w (Or M0 (Mut φ h)) en Q,za2 noP X (Or M0 (Mut φ h)) (en z.x) z.vs:=λ z=>
    z.rel.keep noP.le_refl (λ j hj hjl=>k4 j (λ e=>hj (e▸hMb)) hjl) (λ j hj=> .inl hj)
   have hag:∀z:El w (Or M0 (Mut φ h)) en Q,Rel noP X (Or M0 (Mut φ h)) (.agg (en z.x)) (.agg z.vs.toArray):=λ z=> .agg z.cells (hkeep z);refine (hx2 (Or M0 (Mut φ h)) X [.agg x.vs.toArray, .agg y.vs.toArray] (λ j hj=>Nat.lt_of_lt_of_le (hH.blk hj) k5) (hH.glob.keep (λ j hj hjl=>k4 j (λ e=>hj (e▸hMb)) hjl) (λ j hj=> .inl hj)) (.cons (hag x) (.cons (hag y) .nil))).mono ?_;rintro e w' ⟨v,rfl,hrv,hfr⟩;cases hrv;refine ⟨rfl,w'.drawn - X.drawn,w'.heap.extract X.heap.size w'.heap.size, ?_⟩;have hheap:X.heap++w'.heap.extract X.heap.size w'.heap.size=w'.heap:=by
    refine Array.ext_getElem? λ j=> ?_;by_cases hj:j<X.heap.size
    ·rw [Array.getElem?_append_left hj,hfr.block j hj (λ h=>h)]
    simp_all [Array.getElem?_append_right,Array.getElem?_extract]
   have hdr:X.drawn+(w'.drawn - X.drawn)=w'.drawn:=by have:=hfr.drawn;omega
   cases w' with
   |mk hp tp dr os' out=>
    have e1:=hfr.os;have e2:=hfr.tape;have e3:=hfr.output;grind [grow,World.drewN]
  ·intro j hj;have hjl:j<((C.toList.drop a.off).take (l.length * k)).length:=by
    grind
   have hget:(flatK (λ x:El w (Or M0 (Mut φ h)) en Q=>x.vs) k d)[j]! =C[a.off+j]! :=by
    have e1:(flatK (λ x:El w (Or M0 (Mut φ h)) en Q=>x.vs) k d).toList=(C.toList.drop a.off).take (l.length * k):=af;have hjC:a.off+j<C.size:=af;rw [getElem!_pos _ j hj,getElem!_pos C _ hjC,<- Array.getElem_toList,<- Array.getElem_toList (xs:=C)];grind
   grind [World.cell?,World.frozen?]
 refine hCal.mono ?_;rintro e w' ⟨rfl,d',n',os,hperm,hsort,rfl⟩;obtain ⟨hps, _,hpp⟩:=hperm;obtain ⟨C',k1,k2,k3,k4,k5,k6,k7,k8,k9⟩:=zkU (off:=a.off) hb (λ x:El w (Or M0 (Mut φ h)) en Q=>x.vs) k d' af n' os;generalize sortWorldK (λ x:El w (Or M0 (Mut φ h)) en Q=>x.vs) k w a.block a.off n' d' os=X at *;obtain ⟨l',hl'⟩:∃l':List α,l'=d'.toList.map λ x=>x.x:=⟨_,rfl⟩
 have hl'l:l'.length=l.length:=af;have hpl:l'.Perm l:=by
  have h1:(d'.extract 0 d.size).toList=d'.toList:=by rw [<- hps];simp
  grind
 have hpw:l'.Pairwise (λ x y=>¬cf y x<0):=by
  rw [hl',List.pairwise_map,List.pairwise_iff_getElem];intro i j hi hj hij;have hi':i<d'.size:=af;have hj':j<d'.size:=af;have:=hsort i j (Nat.zero_le _) hij aa;grind [ltOf]
 have hwin:(C'.toList.drop a.off).take (l'.length * k)=(d'.toList.map λ x=>x.vs).flatten:=by
  grind
 have hrel':za2 φ w (Or M0 (Mut φ h)) (l'.map en).flatten ((C'.toList.drop a.off).take (l'.length * k)):=by
  rw [hwin,hl'];generalize d'.toList=ds;induction ds with
  |nil=>exact .nil
  |cons z ds ih=>
   simp only [List.map_cons,List.flatten_cons];exact (z.rel.keep (λ o x ho=>by cases ho) (λ _ _ _=>rfl) (λ k hk=> .inl hk)).append ih
 have hle0:φ.le (upd φ o (some (gn,some (a,bs)))):=bN;have hol:¬n<=o:=λ hle=>by rw [hH.fresh o hle] at hp;cases hp
 obtain ⟨g1,g2,g3⟩:=hH.set (w':=X) (F':=λ o=>n<=o) (o:=o) (mt:=true) (g:=gn) (sz:=k) (rs:=l'.map en) (A:=some (a,bs))
  (λ _ h=>h) hol k5 hle0 (λ j hj hjl=>k4 j (λ e=>hj (e▸hMb)) hjl)
  (λ o' mt' g' sz' rs' a₁ b₁ hne ho' hp'=>by
   have:=hH.inj _ _ _ _ _ _ _ _ _ _ _ _ _ _ ho ho' (Ne.symm hne) (.inl rfl) hp hp';have hlt:a₁.block<w.heap.size:=by
    obtain ⟨A1,hA1,hc1⟩:=hH.obj _ _ _ _ _ ho';rw [hp'] at hA1;simp only [Option.some.injEq,Prod.mk.injEq,true_and] at hA1;subst hA1;rcases hc1 with ⟨hc1, _⟩|⟨a2,b2,e2, _,hb2⟩
    ·cases hc1
    ·simp only [Option.some.injEq,Prod.mk.injEq] at e2;obtain ⟨rfl,rfl⟩:=e2;exact hb2.blk
   grind)
  (λ a₁ b₁ e=>by
   grind)
  (.inr ⟨a,bs,C',T,rfl,hsp,h0,k1,aa,λ r hr=>by
    grind,af,λ c hm=>by
    rw [List.length_map,hwin] at hm;obtain ⟨r,hr,hm⟩:=List.mem_flatten.1 hm;obtain ⟨z, _,rfl⟩:=List.mem_map.1 hr;exact z.cells c hm,af⟩)
 refine ⟨_, _, .tup [], _,n,rfl,hK l' hpl hpw,g1, .tup (vs:= []) .nil,⟨hle0,g2,⟨k6,k7,k8,k9,k5,λ j hj hu=>k4 j (λ e=>hu ⟨o,gn,k, _,gn,a,bs,ho,hp,e.symm⟩) hj⟩,λ j hj=> ?_⟩⟩;grind [Or]
end Go.Av
end
section
open Go Go.Proofs
namespace Go.Av
variable {rws rws':List (List AV)} {g' sz:Nat} {mt:Bool} {args args0:List AV} {f:FuncId} {P:Program}
theorem zOs {n:Nat}{ops:List Oper}{Q:zc2}{m i:Nat}{rest:List Oper}{e:Env}{h:zay}{acc:List ziQ}{dst:Option Tmp}{first caps:List AV}{R:AV}{o:Nat}{g:Nat}
  (hp:zcj P f args0 [(0, .rows mt g sz rws)] 1 R [(0, .rows true g' sz rws')] 1) (ho:h o=some (.rows mt g sz rws)) (hcl:∀r ∈ rws,∀c ∈ r,Bel 0 c) (hcl':∀r ∈ rws',∀c ∈ r,Bel 0 c)
  (hargs:∀n₁,RnL (ren [o] n₁) args0 (first++args++caps)) (hb0:∀c ∈ args0,Bel 1 c) (hb:∀n₁,o<n₁->∀c ∈ first++args++caps,Bel n₁ c)
  (hR:Bel 0 R)
  (hk:adr P n ops Q m (i+1) rest (put e dst R) (upd h o (some (.rows true g' sz rws'))) (acc++ [([o], [o])])):zbV P n ops Q m i rest dst (.fn (.func f) first caps) args e h acc:=by
 refine ⟨R, [o], [(o,some (.rows true g' sz rws'))], .inr (.inr (.inl ⟨f,first,caps,rfl, ?_, ?_, ?_,λ h₁ n₁ hx hn=> ?_⟩)),hk⟩
 ·grind
 ·grind
 ·exact .inr (.inl hR.toS)
 ·have hon:=hn o ac;have r0:ren [o] n₁ 0=o:=rfl;refine zN8 (args':=first++args++caps) (HH:= [(o, .rows true g' sz rws')]) [o] h₁ hp ac af rfl (Nat.le_refl _) (.refl _) ?_ ?_ (.refl _ _ _ _) (hb n₁ hon) (hargs n₁) hb0 (.same hR)
   (.cons r0.symm (.rows (.same hcl')) .nil) ⟨rfl, ?_,rfl⟩
  ·intro j hj;obtain rfl:j=0:=aa;exact ⟨.rows mt g sz rws, .rows mt g sz rws,by simp [mkH,zbk],af, .rows (.same hcl)⟩
  ·intro p hp;simp only [List.mem_singleton] at hp;subst hp;refine ⟨ac,λ r hr c hc=> ?_⟩;exact Bel.mono (Nat.zero_le _) (hcl r hr c hc)
  ·funext a;simp_all [zdU,ziM,zap,upd]
theorem zOk {R:AV}{o n:Nat}{g:Nat}{h:zay}{K:zbH}
  (hp:zcj P f args0 [(0, .rows mt g sz rws)] 1 R [(0, .rows true g' sz rws')] 1) (ho:h o=some (.rows mt g sz rws)) (hn:o<n) (hcl:∀r ∈ rws,∀c ∈ r,Bel 0 c) (hcl':∀r ∈ rws',∀c ∈ r,Bel 0 c)
  (hargs:RnL (ren [o] n) args0 args) (hb0:∀c ∈ args0,Bel 1 c) (hb:∀c ∈ args,Bel n c)
  (hR:Bel 0 R) (hk:K R (upd h o (some (.rows true g' sz rws'))) n):zaj P f args h n K:=by
 have r0:ren [o] n 0=o:=rfl;refine zN8 (args':=args) (HH:= [(o, .rows true g' sz rws')]) [o] h hp ac af rfl (Nat.le_refl _) (.refl _) ?_ ?_ (.refl _ _ _ _) hb hargs hb0 (.same hR)
  (.cons r0.symm (.rows (.same hcl')) .nil) ?_
 ·intro j hj;obtain rfl:j=0:=aa;exact ⟨.rows mt g sz rws, .rows mt g sz rws,by simp [mkH,zbk],af, .rows (.same hcl)⟩
 ·intro p hp;simp only [List.mem_singleton] at hp;subst hp;refine ⟨ac,λ r hr c hc=> ?_⟩;exact Bel.mono (Nat.zero_le _) (hcl r hr c hc)
 ·have e:zdU [(o, .rows true g' sz rws')] (ziM [o] h)=upd h o (some (.rows true g' sz rws')):=by
   funext a;simp_all [zdU,ziM,upd]
  grind
end Go.Av
end
section
open Go Go.Proofs
namespace Go.Av
open zab
def zNk:Nat->zab
 |0=> .mk [] []
 |k+1=> .mk [zNk k] []
def zNj:Nat->zab
 |0=> .mk [] []
 |k+1=> .mk [] [zNj k]
def zFv (n:Int):zab:=if 0<=n then zNk n.toNat else zNj (-n).toNat
theorem zqF (l r:List zab):zbt (.mk l r)= [.lst 2 (zar l), .lst 2 (zar r)]:=zao _
theorem zA6 (k:Nat) (hk:k<=1000):zav Tryz.prog 216 [.agg [.int (k+1:Nat), .int 0]] (.tup [.lst 2 [[.int k, .int 0]], .lst 2 []]):=by
 have e1:0<(k:Int)+1:=aa;have e2:(k:Int)+1 - 1=k:=aa;refine pF Tryz.func216 ?_;refine J2 e1 e2 ?_;(first|done|exact leX)
theorem zA5 (k:Nat) (hk:k<=1000):zav Tryz.prog 216 [.agg [.int (-(k+1:Nat)), .int 0]] (.tup [.lst 2 [], .lst 2 [[.int (-k), .int 0]]]):=by
 have e1:¬(k:Int)+1<0:=aa;have e3:0<(k:Int)+1:=aa;have e2: -((k:Int)+1)+1= -k:=aa;refine pF Tryz.func216 ?_;refine J3 e1 e2 e3 ?_;(first|done|exact leX)
theorem zp9:zav Tryz.prog 216 [.agg [.int 0, .int 0]] (.tup [.lst 2 [], .lst 2 []]):=by
 refine pF Tryz.func216 ?_;exact K0
theorem zI5 (n:Int) (h: -1000<=n∧n<=1000):zav Tryz.prog 159 [.agg [.int n, .int 0]] (.bool true):=by
 have e1: -1099511627776<=n:=aa;have e2:n<=1099511627776:=aa;refine pF Tryz.func159 ?_;exact K2 e1 e2
theorem zGB:∀ (k:Nat) (r:Int),k<=1000->1+k<=r->r<=2000->zcj Tryz.prog 160 [.agg [.int k, .int 0], .ref 0 0 1 0 0] [(0, .rows true 0 1 [[.int r]])] 1 (zbQ (zNk k)) [(0, .rows true 0 1 [[.int (r - 1 - k)]])] 1:=by
 intro k;induction k with
 |zero=>
  intro r _ h1 h2;have e1:¬r - 1<0:=aa;unfold zcj;rw [zbQ,zNk,zqF];refine aF Tryz.func160 ?_;refine J1 e1 ?_;refine aP zp9 ?_;refine J0 ?_;refine zNZ ?_;refine J0 ?_;refine zNZ ?_;refine J0 ?_;simp [go_sem,zaf]
 |succ k ih=>
  intro r _ h1 h2;have e1:¬r - 1<0:=aa;have ih:=ih (r - 1) aa aa aa;rw [zbQ] at ih;have e5:r - 1 - 1 - (k:Int)=r - 1 - (k+1):=aa;unfold zcj;rw [zbQ,zNk,zqF];refine aF Tryz.func160 ?_;refine J1 e1 ?_;refine aP (zA6 k aa) ?_;refine J0 ?_;refine zNZ ?_;refine J0 ?_;refine zOs (o:=0) ih rfl ae ae (λ _=> .cons (.same ae) (.cons (.ref rfl) .nil)) ae (λ n₁ hn₁=>by simp [go_sem,hn₁]) (zfM _ _) ?_;refine J0 ?_;refine zNZ ?_;refine J0 ?_;refine zNZ ?_;refine J0 ?_;simp [go_sem,zaf,e5];exact zaq rfl ac ap rfl
theorem zGA:∀ (k:Nat) (r:Int),k<=1000->1+k<=r->r<=2000->zcj Tryz.prog 160 [.agg [.int (-k), .int 0], .ref 0 0 1 0 0] [(0, .rows true 0 1 [[.int r]])] 1 (zbQ (zNj k)) [(0, .rows true 0 1 [[.int (r - 1 - k)]])] 1:=by
 intro k;induction k with
 |zero=>
  intro r _ h1 h2;have e1:¬r - 1<0:=aa;unfold zcj;rw [zbQ,zNj,zqF];refine aF Tryz.func160 ?_;refine J1 e1 ?_;refine aP zp9 ?_;refine J0 ?_;refine zNZ ?_;refine J0 ?_;refine zNZ ?_;refine J0 ?_;simp [go_sem,zaf]
 |succ k ih=>
  intro r _ h1 h2;have e1:¬r - 1<0:=aa;have ih:=ih (r - 1) aa aa aa;rw [zbQ] at ih;have e5:r - 1 - 1 - (k:Int)=r - 1 - (k+1):=aa;unfold zcj;rw [zbQ,zNj,zqF];refine aF Tryz.func160 ?_;refine J1 e1 ?_;refine aP (zA5 k aa) ?_;refine J0 ?_;refine zNZ ?_;refine J0 ?_;refine zNZ ?_;refine J0 ?_;refine zOs (o:=0) ih rfl ae ae (λ _=> .cons (.same ae) (.cons (.ref rfl) .nil)) ae (λ n₁ hn₁=>by simp [go_sem,hn₁]) (zfM _ _) ?_;refine J0 ?_;refine zNZ ?_;refine J0 ?_;simp [go_sem,zaf,e5];exact zaq rfl ac ap rfl
theorem zMc (n:Int) (h: -1000<=n∧n<=1000):zav Tryz.prog 102 [.agg [.int n, .int 0]] (.tup [zbQ (zFv n), .int 0]):=by
 have hb:zcj Tryz.prog 160 [.agg [.int n, .int 0], .ref 0 0 1 0 0] [(0, .rows true 0 1 [[.int 2000]])] 1 (zbQ (zFv n)) [(0, .rows true 0 1 [[.int (1999 - n.natAbs)]])] 1:=by
  unfold zFv;by_cases h0:0<=n
  ·obtain ⟨k,rfl⟩:=Int.eq_ofNat_of_zero_le h0;have:=zGB k 2000 aa aa aa;grind
  ·obtain ⟨k,hk⟩:=Int.eq_ofNat_of_zero_le (a:= -n) aa;obtain rfl:n= -k:=aa;grind [zGA]
 rw [zbQ] at hb ⊢;have e1:¬(1999 - (n.natAbs:Int)<0):=aa;refine pF Tryz.func102 ?_;refine J0 ?_;refine aP (zI5 n h) ?_;refine J0 ?_;refine zOk (o:=2) hb rfl ai ae ae (.cons (.same ae) (.cons (.ref rfl) .nil)) ae ae (zfM _ _) ?_;exact K1 e1
end Go.Av
end
section
open Go Go.Proofs
namespace Go.Av
theorem zsa (c:Int):zav Tryz.prog 201 [.int c] (.tup [.int (zat c).1, .int (zat c).2]):=by
 refine pF Tryz.func201 ?_;unfold zat;by_cases h1:c<1
 ·rw [if_neg aa];exact K1 h1
 ·by_cases h2:12<c
  ·rw [if_neg aa];exact K2 h1 h2
  ·rw [if_pos aa];have e1:(c - 1).tdiv 2=(c - 1) / 2:=Int.tdiv_eq_ediv_of_nonneg aa;have e2:(c - 1).tmod 2=(c - 1) % 2:=Int.tmod_eq_emod_of_nonneg aa;have b1:0<=(c - 1).tdiv 2∧(c - 1).tdiv 2<=12:=aa;have b2:0<=(c - 1).tmod 2∧(c - 1).tmod 2<=12:=aa;clear e1 e2;exact K2 h1 h2
theorem zmB (k s:Int):zav Tryz.prog 208 [.int k, .int s] (.int (zdF k s)):=by
 refine pF Tryz.func208 ?_;unfold zdF;by_cases h1:k<0
 ·rw [if_neg aa];exact K1 h1
 by_cases h2:6<=k
 ·rw [if_neg aa];exact K2 h1 h2
 by_cases h3:s<0
 ·rw [if_neg aa];exact K3 h1 h2 h3
 by_cases h4:1<s
 ·rw [if_neg aa];exact K4 h1 h2 h3 h4
 ·rw [if_pos aa,show 2 * k+1+s=1+2 * k+s by omega];exact K4 h1 h2 h3 h4
theorem zuK (x:Int):zav Tryz.prog 255 [.int x] (.v (.bool false)):=by
 refine pF Tryz.func255 ?_;exact K0
theorem zhC (a b:Int):zav Tryz.prog 215 [.int a, .int b] (.int (zb1 a b)):=by
 refine pF Tryz.func215 ?_;refine J0 ?_;refine aP (zuK a) ?_;refine J0 ?_;refine aP (zuK b) ?_;unfold zb1;by_cases h1:a<b
 ·rw [if_pos h1];exact K1 h1
 ·by_cases h2:b<a
  ·rw [if_neg h1,if_pos h2];exact K2 h1 h2
  ·rw [if_neg h1,if_neg h2];exact K2 h1 h2
def orI:List Int->Int
 | []=>0
 |x::l=>if x=0 then orI l else x
theorem zB1 (l:List Int) (hl:zkq l):zav Tryz.prog 213 [zaG l] (.int (orI l)):=by
 refine pF Tryz.func213 ?_;unfold zkq at hl;refine J0 ?_;refine zNW (zNY (α:=Nat) (λ j=>⟨[(3, .int 0),(6,zaG l),(7, .int l.length),(8, .int j)], [],0⟩)
  (λ d j=>j+d=l.length∧orI l=orI (l.drop j)) ?_ l.length 0 ?_) ?_ ?_
 ·rintro d j ⟨i1,i2⟩ hrec;refine J0 ?_;refine zNX (λ hj=> ?_) (λ hj=> ?_)<;>simp at hj
  ·rw [zh7 hj,orI] at i2;refine J1 hj ?_;by_cases h0:nth l j=0
   ·rw [if_pos h0] at i2;refine J1 h0 ?_;refine zNW (hrec (d - 1) aa (j+1) ⟨aa,i2⟩) ?_ ac;simp [go_sem,zaf]
   ·rw [if_neg h0] at i2;rw [i2];exact K1 h0
  ·rw [List.drop_eq_nil_of_le hj,orI] at i2;rw [i2];exact K0
 ·simp
 ·simp [go_sem,zaf]
 ·simp
theorem zkR (a b:List Int) (ha:zkq a) (hb:zkq b):zav Tryz.prog 214 [zaG a,zaG b] (.int (zkZ a b)):=by
 refine pF Tryz.func214 ?_;unfold zkq at ha hb;refine J0 ?_;refine zNW (zNY (α:=Nat) (λ j=>⟨[(0,zaG a),(1,zaG b),(9,zaG a),(10, .int a.length),(11, .int j)], [],0⟩)
  (λ d j=>j+d=a.length∧j<=b.length∧zkZ a b=zkZ (a.drop j) (b.drop j)) ?_ a.length 0 ?_) ?_ ?_
 ·rintro d j ⟨i1,i2,i3⟩ hrec;refine J0 ?_;refine zNX (λ hj=> ?_) (λ hj=> ?_)<;>simp at hj
  ·rw [zh7 hj] at i3;refine J1 hj ?_;by_cases hk:j<b.length
   ·rw [zh7 hk,zkZ] at i3;have hk':¬b.length<=j:=aa;refine J3 hj hk hk' ?_;refine aP (zhC _ _) ?_;by_cases he:nth a j=nth b j
    ·rw [if_pos he] at i3;have hn:zb1 (nth a j) (nth b j)=0:=by simp [zb1,he]
     rw [hn];refine J0 ?_;refine zNW (hrec (d - 1) aa (j+1) ⟨aa,aa,i3⟩) ?_ ac;simp [go_sem,zaf]
    ·rw [if_neg he] at i3;have hn:zb1 (nth a j) (nth b j)≠0:=by grind [zb1]
     rw [i3];exact K1 hn
   ·have hk':b.length<=j:=by omega
    rw [List.drop_eq_nil_of_le hk',ztB] at i3;have:zkZ a b=1:=by grind [zb1]
    rw [this];exact K3 hj hk hk'
  ·have hja:j=a.length:=by omega
   subst hja;rw [List.drop_eq_nil_of_le (Nat.le_refl _),zvT] at i3;rw [i3];unfold zb1;by_cases hb':a.length<b.length
   ·rw [if_pos af];exact K1 hb'
   ·rw [if_neg af,if_neg aa];exact K1 hb'
 ·simp
 ·simp [go_sem,zaf]
 ·simp
theorem zML (p q:zae):orI [zkZ p.at_ q.at_,zkZ p.h0 q.h0,zkZ p.h1 q.h1,zb1 p.rights q.rights,zb1 p.side q.side]=zbp p q:=by
 grind [zbp,orI]
theorem zdO (p q:zae) (hp:zbc p) (hq:zbc q):zav Tryz.prog 158 [.agg (zag p), .agg (zag q)] (.int (zbp p q)):=by
 refine pF Tryz.func158 ?_;obtain ⟨p1,p2,p3⟩:=hp;obtain ⟨q1,q2,q3⟩:=hq;rw [<- zML];have c1:=zkR _ _ p1 q1;have c2:=zkR _ _ p2 q2;have c3:=zkR _ _ p3 q3;have c4:=zhC p.rights q.rights;have c5:=zhC p.side q.side;generalize zkZ p.at_ q.at_=x1 at *;generalize zkZ p.h0 q.h0=x2 at *;generalize zkZ p.h1 q.h1=x3 at *;generalize zb1 p.rights q.rights=x4 at *;generalize zb1 p.side q.side=x5 at *;refine J0 ?_;refine dP c1 ?_;refine J0 ?_;refine dP c2 ?_;refine J0 ?_;refine dP c3 ?_;refine J0 ?_;refine dP c4 ?_;refine J0 ?_;refine dP c5 ?_;refine J0 ?_;refine zbV.frz [zaG [x1,x2,x3,x4,x5]] _ [31] [(31,some (.rows false 0 1 ([x1,x2,x3,x4,x5].map zd2)))] (zB1 _ (by unfold zkq;simp)) ?_ ?_ ae ?_
 ·intro p hp;grind [upd,zd2]
 ·intro h₁ hS;have h7:=hS 31 ac;simp [go_sem] at h7;exact .cons (zaq h7.symm ac cy ae) .nil
 ·exact K0
def zwT:List AV:= [.v (.slice none 0 0), .v (.slice none 0 0), .v (.slice none 0 0), .int 0, .int 0, .v (.bool false)]
theorem zrL {α:Type} [DecidableEq α] {l:List α} (h:l.length<2):zcT l=l:=by
 match l,h with
 | [], _=>rfl
 | [a], _=>rfl
 |a::b::l,h=>grind
end Go.Av
end
section
namespace Go.Proofs
open Go.Shelf
def zI9:Go.Shelf.Ren:=⟨fun|6=>246|15=>222|14=>282|28=>265|29=>266|20=>312|21=>313|22=>314|23=>315|24=>316|25=>317|26=>318|27=>319|46=>331|47=>292|48=>293|49=>332|50=>333|57=>337|n=>n,fun|22=>142|24=>145|25=>357|3=>3|39=>319|0=>0|53=>372|55=>374|4=>4|46=>366|45=>365|50=>233|5=>5|9=>9|66=>395|70=>172|76=>414|77=>310|n=>n,λ n=>n⟩
theorem zsort:Go.Proofs.SlLaysF0.n6 Tryz.prog zI9:={
 mixed:=ah
 f6:=⟨Tryz.f246.name,ai,Tryz.func246.trans (congrArg some ah)⟩
 f14:=⟨Tryz.f282.name,ai,Tryz.func282.trans (congrArg some ah)⟩
 f15:=Tryz.func222.trans (congrArg some ah)
 f20:=⟨Tryz.f312.name,ai,Tryz.func312.trans (congrArg some ah)⟩
 f21:=⟨Tryz.f313.name,ai,Tryz.func313.trans (congrArg some ah)⟩
 f22:=⟨Tryz.f314.name,ai,Tryz.func314.trans (congrArg some ah)⟩
 f23:=⟨Tryz.f315.name,ai,Tryz.func315.trans (congrArg some ah)⟩
 f24:=⟨Tryz.f316.name,ai,Tryz.func316.trans (congrArg some ah)⟩
 f25:=⟨Tryz.f317.name,ai,Tryz.func317.trans (congrArg some ah)⟩
 f26:=⟨Tryz.f318.name,ai,Tryz.func318.trans (congrArg some ah)⟩
 f27:=⟨Tryz.f319.name,ai,Tryz.func319.trans (congrArg some ah)⟩
 f28:=Tryz.func265.trans (congrArg some ah)
 f29:=Tryz.func266.trans (congrArg some ah)
 f46:=⟨Tryz.f331.name,ai,Tryz.func331.trans (congrArg some ah)⟩
 f47:=Tryz.func292.trans (congrArg some ah)
 f48:=Tryz.func293.trans (congrArg some ah)
 f49:=⟨Tryz.f332.name,ai,Tryz.func332.trans (congrArg some ah)⟩
 f50:=⟨Tryz.f333.name,ai,Tryz.func333.trans (congrArg some ah)⟩
 f57:=⟨Tryz.f337.name,ai,Tryz.func337.trans (congrArg some ah)⟩
 t0:=Tryz.underlying0
 a0:=Tryz.isAgg0
 z0:=Tryz.sizeOf0
 v0:=Tryz.zeroValue0
 t3:=Tryz.underlying3
 a3:=Tryz.isAgg3
 z3:=Tryz.sizeOf3
 v3:=Tryz.zeroValue3
 t4:=Tryz.underlying4
 a4:=Tryz.isAgg4
 z4:=Tryz.sizeOf4
 v4:=Tryz.zeroValue4
 t5:=Tryz.underlying5
 a5:=Tryz.isAgg5
 z5:=Tryz.sizeOf5
 v5:=Tryz.zeroValue5
 t9:=Tryz.underlying9
 a9:=Tryz.isAgg9
 z9:=Tryz.sizeOf9
 v9:=Tryz.zeroValue9
 t22:=Tryz.underlying142
 a22:=Tryz.isAgg142
 z22:=Tryz.sizeOf142
 v22:=Tryz.zeroValue142
 t25:=Tryz.underlying357
 a25:=Tryz.isAgg357
 z25:=Tryz.sizeOf357
 v25:=Tryz.zeroValue357
 t39:=Tryz.underlying319
 a39:=Tryz.isAgg319
 z39:=Tryz.sizeOf319
 v39:=Tryz.zeroValue319
 t45:=Tryz.underlying365
 a45:=Tryz.isAgg365
 z45:=Tryz.sizeOf365
 v45:=Tryz.zeroValue365
 t46:=Tryz.underlying366
 a46:=Tryz.isAgg366
 z46:=Tryz.sizeOf366
 v46:=Tryz.zeroValue366
 t50:=Tryz.underlying233
 a50:=Tryz.isAgg233
 z50:=Tryz.sizeOf233
 v50:=Tryz.zeroValue233
 t53:=Tryz.underlying372
 a53:=Tryz.isAgg372
 z53:=Tryz.sizeOf372
 v53:=Tryz.zeroValue372
 t55:=Tryz.underlying374
 a55:=Tryz.isAgg374
 z55:=Tryz.sizeOf374
 v55:=Tryz.zeroValue374
 t66:=Tryz.underlying395
 a66:=Tryz.isAgg395
 z66:=Tryz.sizeOf395
 v66:=Tryz.zeroValue395
 t70:=Tryz.underlying172
 a70:=Tryz.isAgg172
 z70:=Tryz.sizeOf172
 v70:=Tryz.zeroValue172
 t76:=Tryz.underlying414
 a76:=Tryz.isAgg414
 z76:=Tryz.sizeOf414
 v76:=Tryz.zeroValue414
 t77:=Tryz.underlying310
 a77:=Tryz.isAgg310
 z77:=Tryz.sizeOf310
 v77:=Tryz.zeroValue310}
end Go.Proofs
end
section
open Go Go.Proofs
namespace Go.Av
theorem zGg {n:Nat}{l:List (Int×Int)}:(∀r ∈ l.map zbT,∀c ∈ r,Bel n c)=True:=by
 refine eq_true ?_;intro r hr c hc;obtain ⟨x, _,rfl⟩:=List.mem_map.1 hr;revert c;simp [go_sem]
attribute [go_sem ↓] zGg
structure zzP (g:zaa) (c:ziN):Prop where
 l1:c.1.length=g.kinds.length
 l2:c.2.length=g.kinds.length
 c1:∀x ∈ c.1,(x.length:Int)=g.cells
 c2:∀x ∈ c.2,(x.length:Int)=g.cells
theorem zzP.side {g:zaa}{c:ziN} (h:zzP g c){s:Nat} (hs:s<2):∃l,cel [zbF c.1,zbF c.2] s=zbF l∧l.length=g.kinds.length∧∀x ∈ l,(x.length:Int)=g.cells:=by
 rcases (show s=0∨s=1 by omega) with rfl|rfl
 ·exact ⟨_,rfl,h.l1,h.c1⟩
 ·exact ⟨_,rfl,h.l2,h.c2⟩
variable {i:Nat}
theorem zrJ (f:Int->Bool) (l:List Int) (h:i<l.length):(l.take (i+1)).countP f=(l.take i).countP f+(if f (nth l i) then 1 else 0):=by
 grind [List.take_add_one,nth]
theorem zDd (p:zae) (hp:zbc p) (side kind:Int):zav Tryz.prog 176 [.agg (zag p), .int side, .int kind] (.int (zCr p side kind)):=by
 refine pF Tryz.func176 ?_;obtain ⟨f1, _, _⟩:=hp;unfold zkq at f1;refine J0 ?_;refine zNW (zNY (α:=Nat) (λ i=>⟨[(1, .int side),(2, .int kind),(3, .ref 0 0 5 0 0),(7, .int ((p.at_.take i).countP (zk9 p side kind):Nat)),(8, .int i)], [(0, .rows true 0 5 [zag p])],1⟩)
  (λ d i=>i+d=p.at_.length) ?_ p.at_.length 0 ?_) ?_ ?_
 ·rintro d i i1 hrec;refine J0 ?_;refine zNX (λ hi=> ?_) (λ hi=> ?_)<;>simp at hi
  ·have hO:=zll (nth p.at_ i);have hcs:=zrJ (zk9 p side kind) p.at_ hi;have hle:(p.at_.take i).countP (zk9 p side kind)<=i:=Nat.le_trans List.countP_le_length af;have hM:zk9 p side kind (nth p.at_ i)=(decide (0<=(zat (nth p.at_ i)).1) && decide ((zat (nth p.at_ i)).2=side) && (decide (kind<0)||decide ((zat (nth p.at_ i)).1=kind))):=rfl;generalize zat (nth p.at_ i)=m at *;refine J1 hi ?_;refine aP hO ?_;refine J0 ?_;by_cases hm:zk9 p side kind (nth p.at_ i)=true
   ·have hm':=hm;rw [hM] at hm';rw [if_pos hm] at hcs;simp only [hm'];refine J0 ?_;refine zNW (hrec (d - 1) aa (i+1) aa) ?_ ac;simp [go_sem,zaf,hcs]
   ·have hm':=hm;rw [hM] at hm';rw [if_neg hm] at hcs;simp only [Bool.not_eq_true] at hm';simp only [hm'];refine J0 ?_;refine zNW (hrec (d - 1) aa (i+1) aa) ?_ ac;simp [go_sem,zaf,hcs]
  ·have hil:i=p.at_.length:=by omega
   subst hil;have hM:zCr p side kind=(p.at_.take p.at_.length).countP (zk9 p side kind):=by grind [zCr]
   rw [hM];exact K0
 ·omega
 ·simp [go_sem,zaf]
 ·simp
theorem zqh (g:zaa) (hg:GOk g) (p:zae) (hp:POk g p) (c:Int×Int×Int×Int) (hc:ziP g.cells g.kinds.length c):
  zav Tryz.prog 123 [.agg (zaZ c), .agg (zag p)] (.v (.bool (zjo c p))):=by
 refine pF Tryz.func123 ?_;have hps:=hp.s;have hal:=hp.al;have hM:=λ s k=>zDd p (hp.fits hg) s k;have hml:∀s k,zCr p s k<=9:=λ s k=>Nat.le_trans List.countP_le_length (by have:=hg.c9;omega);obtain ⟨c0,c1,c2,c3⟩:=c;obtain ⟨k1,k2,k3,k4,k5⟩:=hc;simp only at k1 k2 k3 k4 k5;unfold zjo;rcases k1 with rfl|rfl|rfl
 ·have h1:=hM p.side c1;refine J0 ?_;refine aP h1 ?_;exact K0
 ·have hci:c2.toNat<p.at_.length:=by omega
  refine J1 hci ?_;refine dP (zkw c1 (1 - p.side)) ?_;exact K1 hci
 ·have h1:=hM p.side (-1);have:=hml p.side (-1);refine J0 ?_;refine dP h1 ?_;exact K0
theorem zp1 {α:Type} [Inhabited α] (f:α->Bool) (l:List α) (hi:i<l.length) (hb:∀j,j<i->f (nth l j)=false) (h:f (nth l i)=true):l.findIdx? f=some i:=by
 grind [List.findIdx?_eq_some_iff_getElem,nth]
theorem zp0 {α:Type} [Inhabited α] (f:α->Bool) (l:List α) (hb:∀j,j<l.length->f (nth l j)=false):l.findIdx? f=none:=by
 grind [List.getElem_of_mem,nth]
theorem ziS (g:zaa) (hg:GOk g) (p:zae) (hp:POk g p):zav Tryz.prog 72 [.agg (zad g), .agg (zag p)] (.int (zbi g p)):=by
 refine pF Tryz.func72 ?_;have hcn:=hg.cn;refine J0 ?_;refine zNW (zNY (α:=Nat) (λ i=>⟨[(2, .ref 0 0 9 0 0),(3, .ref 1 0 5 0 0),(5, .int i)], [(0, .rows true 0 9 [zad g]),(1, .rows true 0 5 [zag p])],2⟩)
  (λ d i=>i+d=g.clauses.length∧∀j,j<i->zjo (nth g.clauses j) p=false) ?_ g.clauses.length 0 ?_) ?_ ?_
 ·rintro d i ⟨i1,i2⟩ hrec;refine J0 ?_;refine zNX (λ hi=> ?_) (λ hi=> ?_)<;>simp at hi
  ·have hC:=zqh g hg p hp _ (hg.cl _ (zah hi));refine J1 hi ?_;refine dP hC ?_;refine J0 ?_;by_cases hc:zjo (nth g.clauses i) p=true
   ·have he:zbi g p=i:=by unfold zbi;rw [zp1 (λ c=>zjo c p) g.clauses hi i2 hc]
    exact K2 hc he
   ·refine J1 hc ?_;refine zNW (hrec (d - 1) aa (i+1) ⟨aa,λ j hj=> ?_⟩) ?_ ac
    ·grind
    ·simp [go_sem,zaf]
  ·have he:zbi g p= -1:=by grind [zbi,zp0]
   exact K1 he
 ·grind
 ·simp [go_sem,zaf]
 ·simp
def zsQ (g:zaa) (p:zae) (c:Nat):List zca:=(List.range c).flatMap (zgj g p)
theorem zEJ (g:zaa) (p:zae) (c:Nat):zsQ g p (c+1)=zsQ g p c++zgj g p c:=by grind [zsQ,List.range_succ]
theorem zEK (g:zaa) (p:zae):zsQ g p 0= []:=rfl
def ztX (g:zaa) (p:zae) (c i:Nat):List zca:=zsQ g p c++(List.range i).flatMap λ (i:Nat)=>zej g p c i
theorem zEH (g:zaa) (p:zae) (c:Nat):ztX g p c 0=zsQ g p c:=by simp [ztX]
theorem zEG (g:zaa) (p:zae) (c i:Nat):ztX g p c (i+1)=ztX g p c i++zej g p c i:=by grind [ztX,List.range_succ]
theorem zri (g:zaa) (hg:GOk g) (p:zae) (hp:POk g p):zav Tryz.prog 73 [.agg (zad g), .agg (zag p)] (zjT (zgt g p)):=by
 refine pF Tryz.func73 ?_;have hal:=hp.al;have c9:=hg.c9;have k6:=hg.k6;have hU:∀c i,c<p.at_.length->0<=(zat (nth p.at_ c)).1∧(zat (nth p.at_ c)).2=p.side->i<=(nth g.kinds (zat (nth p.at_ c)).1.toNat).progs.length->(ztX g p c i).length<=8000000000:=λ c i hc hm hi=>by
  have h1:(zsQ g p c).length<=7200000000:=zyT hg hp aa;have hk:=zwp hg hp (cell:=c) aa aa af;simp only [Int.toNat_natCast] at hk;have h8:=hg.pn _ (zah hk);have h2:=zc4 (λ (i:Nat)=>zej g p c i) 100000000 i (λ j hj=>zs6 hg hp (zls hp hc hm aa));grind [ztX]
 refine J0 ?_;refine zNW (zNY (α:=Nat×Nat) (λ a=>⟨[(2, .ref 0 0 9 0 0),(3, .ref 1 0 5 0 0),(5, .sl 2 a.2 6 0 (zsQ g p a.1).length),(6, .int a.1)], [(0, .rows true 0 9 [zad g]),(1, .rows true 0 5 [zag p]),(2, .rows true a.2 6 ((zsQ g p a.1).map zbm))],3⟩)
  (λ d a=>a.1+d=p.at_.length) ?_ p.at_.length (0,0) ?_) ?_ ?_
 ·rintro d ⟨c,G⟩ c1 hrec;simp only at c1;refine J0 ?_;refine zNX (λ hc=> ?_) (λ hc=> ?_)<;>simp at hc
  ·have hO:=zll (nth p.at_ c);have hsu:=zEJ g p c;have hat:=hp.at (i:=c) aa;have hman:=zbn hat.1 hat.2 hg.k6;have hAt:zgj g p c=if 0<=(zat (nth p.at_ c)).1∧(zat (nth p.at_ c)).2=p.side then (List.range (nth g.kinds (zat (nth p.at_ c)).1.toNat).progs.length).flatMap λ (i:Nat)=>zej g p c i else []:=rfl
   have hU':=λ i=>hU c i hc;have hCh:=λ i=>zls (g:=g) (i:=i) hp hc;generalize zat (nth p.at_ c)=m at *;obtain ⟨mk,ms⟩:=m;simp only [Prod.mk.injEq] at hman hAt hU' hCh;refine J1 hc ?_;refine aP hO ?_;refine J0 ?_;refine zNX (λ hm=> ?_) (λ hm=> ?_)<;>simp at hm
   ·rw [if_neg aa] at hAt;rw [hAt,List.append_nil] at hsu;refine J0 ?_;refine zNW (hrec (d - 1) aa (c+1,G) aa) ?_ ac;simp [go_sem,zaf,hsu]
   ·have hm':0<=mk∧ms=p.side:=by omega
    rw [if_pos hm'] at hAt;have hkl:mk.toNat<g.kinds.length:=aa;have hpn:=hg.pn _ (zah hkl);have hz:=zEH g p c;refine J0 ?_;refine zNW (zNY (α:=Nat×Nat) (λ a=>⟨[(2, .ref 0 0 9 0 0),(3, .ref 1 0 5 0 0),(5, .sl 2 a.2 6 0 (ztX g p c a.1).length),(6, .int c),(7, .ref 3 0 2 0 0),(8, .int a.1)],
      [(0, .rows true 0 9 [zad g]),(1, .rows true 0 5 [zag p]),(2, .rows true a.2 6 ((ztX g p c a.1).map zbm)),(3, .rows true 0 2 [[.int mk, .int ms]])],4⟩)
     (λ d a=>a.1+d=(nth g.kinds mk.toNat).progs.length) ?_ (nth g.kinds mk.toNat).progs.length (0,G) ?_) ?_ ?_
    ·rintro d2 ⟨i,G'⟩ i1 hrec2;simp only at i1;refine J1 hkl ?_;refine zNX (λ hi=> ?_) (λ hi=> ?_)<;>simp at hi
     ·have hR:=zzG g hg p hp c i (hCh i hm' hi);have hsi:=zEG g p c i;have hUi:=hU' i hm' aa;have hUj:=hU' (i+1) hm' aa;rw [hsi,List.length_append] at hUj;refine J0 ?_;refine aP hR ?_;refine J0 ?_;refine zNW (hrec2 (d2 - 1) aa (i+1,G'+1) aa) ?_ ac;simp [go_sem,zaf,hsi]
     ·have hil:i=(nth g.kinds mk.toNat).progs.length:=by omega
      subst hil;have hfin:ztX g p c (nth g.kinds mk.toNat).progs.length=zsQ g p (c+1):=by rw [hsu,hAt];rfl
      rw [hfin];refine J0 ?_;refine zNW (hrec (d - 1) aa (c+1,G') aa) ?_ ac;simp [go_sem,zaf]
    ·simp
    ·simp [go_sem,zaf,hz]
    ·simp
  ·have hcl:c=p.at_.length:=by omega
   subst hcl;have e:zgt g p=zsQ g p p.at_.length:=rfl;rw [e];refine J0 ?_;exact frX
 ·simp
 ·simp [go_sem,zaf,zEK]
 ·simp
def zwy (gm:Bool) (l:List zca) (i:Nat):Bool:=gm && (l.take i).any (·.took)
theorem zEp (gm:Bool) (l:List zca):zwy gm l 0=false:=by simp [zwy]
theorem zEo (gm:Bool) (l:List zca) (h:i<l.length):zwy gm l (i+1)=(zwy gm l i||(gm && (nth l i).took)):=by
 grind [zwy,List.take_add_one,nth]
def zol (must:Bool) (l:List zca) (i:Nat):List zae:=((l.take i).filter λ o=> !must||o.took).map (·.pos)
theorem zD9 (must:Bool) (l:List zca):zol must l 0= []:=by simp [zol]
theorem zD8 (must:Bool) (l:List zca) (h:i<l.length):zol must l (i+1)=zol must l i++(if (!must||(nth l i).took)=true then [(nth l i).pos] else []):=by
 grind [zol,List.take_add_one,nth]
theorem zyu (must:Bool) (l:List zca) (i:Nat):(zol must l i).length<=i:=by
 grind [zol]
theorem zcn (g:zaa) (hg:GOk g) (p:zae) (hp:POk g p):zav Tryz.prog 35 [.agg (zad g), .agg (zag p)] (zaC (zai g p)):=by
 refine pF Tryz.func35 ?_;have hE:=ziS g hg p hp;have hO:=zri g hg p hp;have hD:=zxd g hg p hp;have hdl:=zpc hg hp;have hol:=zyU hg hp;have hS:=zen (zfY g p) (by grind [zfY]) (λ q hq=>(zyG hg hp q hq).1.fits hg);have hml:zfY g p=zol (zff g p) (zgt g p) (zgt g p).length++(if zff g p then [] else zc8 g p):=by grind [zfY,zol]
 have hmu:zff g p=zwy g.must (zgt g p) (zgt g p).length:=by grind [zff,zwy]
 have hmv:zai g p=if 0<=zbi g p then [] else zaS zbp (zfY g p):=rfl
 obtain ⟨R,hR⟩:∃R,R=zai g p:=⟨_,rfl⟩
 rw [<- hR] at hmv ⊢;generalize zgt g p=l at *;generalize zc8 g p=ds at *;generalize zfY g p=ml at *;generalize zbi g p=en at *;refine J0 ?_;refine aP hE ?_;refine J0 ?_;refine zNX (λ he=> ?_) (λ he=> ?_)<;>simp at he
 ·rw [if_pos he] at hmv;rw [hmv];exact K0
 ·rw [if_neg aa] at hmv;refine J0 ?_;refine aP hO ?_;refine J0 ?_;refine zNW (zNY (α:=Nat) (λ i=>⟨[(2, .ref 0 0 9 0 0),(3, .ref 1 0 5 0 0),(5,zjT l),(6, .sl 2 0 5 0 0),(7, .v (.bool (zwy g.must l i))),(8, .int i)], [(0, .rows true 0 9 [zad g]),(1, .rows true 0 5 [zag p]),(2, .rows true 0 5 [])],3⟩)
   (λ d i=>i+d=l.length) ?_ l.length 0 ?_) ?_ ?_
  ·rintro d i i1 hrec;refine J0 ?_;refine zNX (λ hi=> ?_) (λ hi=> ?_)<;>simp at hi
   ·have hms:=zEo g.must l hi;cases hmk:zwy g.must l i
    ·rw [hmk,Bool.false_or] at hms;cases hgm:g.must
     ·rw [hgm,Bool.false_and] at hms;refine J3 hmk hgm hi ?_;refine zNW (hrec (d - 1) aa (i+1) aa) ?_ ac;simp [go_sem,zaf,hms,hgm]
     ·rw [hgm,Bool.true_and] at hms;refine J3 hmk hgm hi ?_;refine zNW (hrec (d - 1) aa (i+1) aa) ?_ ac;simp [go_sem,zaf,hms,hgm]
    ·rw [hmk,Bool.true_or] at hms;refine J2 hmk hi ?_;refine zNW (hrec (d - 1) aa (i+1) aa) ?_ ac;simp [go_sem,zaf,hms]
   ·have hil:i=l.length:=by omega
    subst hil;rw [<- hmu];generalize zff g p=must at *;refine J0 ?_;refine zNW (zNY (α:=Nat) (λ i=>⟨[(2, .ref 0 0 9 0 0),(3, .ref 1 0 5 0 0),(5,zjT l),(6, .sl 2 (zol must l i).length 5 0 (zol must l i).length),(7, .v (.bool must)),(9, .int i)], [(0, .rows true 0 9 [zad g]),(1, .rows true 0 5 [zag p]),(2, .rows true (zol must l i).length 5 ((zol must l i).map zag))],3⟩)
     (λ d i=>i+d=l.length) ?_ l.length 0 ?_) ?_ ?_
    ·rintro d i i1 hrec2;refine J0 ?_;refine zNX (λ hi=> ?_) (λ hi=> ?_)<;>simp at hi
     ·have hks:=zD8 must l hi;have hkl:=zyu must l i;cases must
      ·simp only [Bool.not_false,Bool.true_or,if_true] at hks;refine J1 hi ?_;refine zNW (hrec2 (d - 1) aa (i+1) aa) ?_ ac;simp [go_sem,zaf,hks]
      ·cases ht:(nth l i).took
       ·simp [ht] at hks;refine J2 hi ht ?_;refine zNW (hrec2 (d - 1) aa (i+1) aa) ?_ ac;simp [go_sem,zaf,hks]
       ·simp [ht] at hks;refine J2 hi ht ?_;refine zNW (hrec2 (d - 1) aa (i+1) aa) ?_ ac;simp [go_sem,zaf,hks]
     ·have hil:i=l.length:=by omega
      subst hil;have hkl:=zyu must l l.length;rw [hmv];generalize zol must l l.length=kk at *;cases must
      ·simp only [Bool.false_eq_true,if_false] at hml;refine J0 ?_;refine aP hD ?_;refine J0 ?_;subst hml;refine zN3 [2] hS ?_ (zxv (zcb _)) ?_
       ·(first|done|exact agX)
       ·exact K0
      ·simp only [if_true,List.append_nil] at hml;subst hml;refine J0 ?_;refine zN3 [2] hS ?_ (zxv (zcb _)) ?_
       ·(first|done|exact agX)
       ·exact K0
    ·omega
    ·simp [go_sem,zaf,zD9]
    ·simp
  ·omega
  ·simp [go_sem,zaf,zEp]
  ·simp
theorem zre (x:zqi) (hx:zDe x) (hl:x.c.length<=1099511627776) (hl0:x.k0.length<=1099511627776) (hl1:x.k1.length<=1099511627776):zav Tryz.prog 36 [.agg (zgU x)] (.agg (zad (zgr x))):=by
 refine pF Tryz.func36 ?_;obtain ⟨eg,heg⟩:∃eg,eg=zad (zgr x):=⟨_,rfl⟩
 rw [<- heg];have hB:=zzE x.w x.h x.cut hx.w hx.h hx.cut;have hok:=zpS hx.w.1 hx.h.1 x.cut;have hb:zla x.w x.h x.cut=x.board:=rfl;rw [hb] at hB hok;have r0:=Int.tmod_nonneg 3 hx.f0.1;have r1:=Int.tmod_lt_of_pos x.f0 (show (0:Int)<3 by decide);have f0:0<=x.f0∧x.f0<=255:=hx.f0;have f1:0<=x.f1∧x.f1<=255:=hx.f1;have f2:0<=x.f2∧x.f2<=255:=hx.f2;have f3:0<=x.f3∧x.f3<=255:=hx.f3;have f4:0<=x.f4∧x.f4<=255:=hx.f4;have m1:=Int.tmod_nonneg 4 hx.f1.1;have m3:=Int.tmod_nonneg 4 hx.f3.1;have m4:=Int.tmod_nonneg 4 hx.f4.1;have qq:∀n:Int,U8 n->(0<=n.tdiv 4∧n.tdiv 4<=63)∧0<=(n.tdiv 4).tmod 3∧(n.tdiv 4).tmod 3<3:=λ n hn=>by
  have h:n.tdiv 4=n / 4:=Int.tdiv_eq_ediv_of_nonneg hn.1;have h1:=hn.1;have h2:=hn.2;grind
 obtain ⟨q3,q3'⟩:=qq _ hx.f3;obtain ⟨q4,q4'⟩:=qq _ hx.f4;obtain ⟨bl,hbl⟩:∃bl,bl=if x.f3.tmod 4=3 then 1+(x.f3.tdiv 4).tmod 3 else 3:=⟨_,rfl⟩
 obtain ⟨en,hen⟩:∃en,en=if x.f4.tmod 4=3 then 1+(x.f4.tdiv 4).tmod 3 else 2:=⟨_,rfl⟩
 obtain ⟨R,hR⟩:∃R,R=x.rights:=⟨_,rfl⟩
 have hR':x.f0.tmod 3=R:=by rw [hR];rfl
 obtain ⟨b,hbb⟩:∃b,b=x.board:=⟨_,rfl⟩
 rw [<- hbb] at hB hok;refine J0 ?_;refine dP hB ?_;refine J1 hR' ?_;have hd8:b.next.length=8:=by grind [zuW]
 have hcell:1<=b.cells∧b.cells<=9:=by rw [hbb];exact zss hx.w.1 hx.h.1 _
 obtain ⟨K,hK⟩:∃K:Nat,K=zg5 x:=⟨_,rfl⟩
 have hKn:zg5 x=if x.k1.length=0 then 1 else 2:=by simp_all [zg5]
 have hKl:∀i,(x.ks i).length<=1099511627776:=λ i=>by unfold zqi.ks;split<;>assumption
 have hKv:∀i,∀n ∈ x.ks i,U8 n:=λ i=>by unfold zqi.ks;split;exact hx.k0;exact hx.k1
 refine zNX (λ hk1=> ?_) (λ hk1=> ?_)<;>simp at hk1
 ·have hK2:zg5 x=2:=by rw [hKn,if_neg aa]
  rw [hK2] at hK;refine J0 ?_;refine zNW (zNY (α:=Nat) (λ a=>⟨[(1, .ref 0 0 12 0 0),(2, .ref 1 0 9 0 0),(3, .ref 20 0 9 0 0),(4, .int K),(5, .int a)],
   [(0, .rows true 0 12 [zgU x]),(1, .rows true 0 9 [[.int 0,AV.nils,AV.nils,AV.nils, .int 0, .v (.bool false),AV.nils, .int 0, .int 0]]),(20, .rows true 0 9 [[.int b.cells,zcU b.next,zaG b.turn, .sl 22 a 3 0 a, .int R, .v (.bool (decide (x.f1.tmod 4=3))),AV.nils, .int 3, .int 2]]),(22, .rows true a 3 (ksR x a))],23⟩)
   (λ d a=>a+d=K) ?_ K 0 ?_) ?_ ?_
  ·rintro d0 i i1 hrec;refine J0 ?_;refine zNX (λ hi=> ?_) (λ hi=> ?_)<;>simp at hi
   ·have hi2:i=0∨i=1:=by omega
    have hkl:=hKl i;have hkv:=hKv i;have hks:zk1 x i=⟨if i=0 then zqm else ztS,((x.ks i).take 4).map (λ n=>zsu n b.next.length K x.rights),zGv x.f2 i⟩:=by rw [hbb,hK,<- hK2];rfl
    rcases hi2 with rfl|rfl
    ·obtain ⟨kk,hkk⟩:∃kk,kk=x.ks 0:=⟨_,rfl⟩
     have hk0:x.k0=kk:=hkk.symm;rw [<- hkk] at hkl hkv hks;have hbit:zGv x.f2 0=decide (zru .u8 x.f2 1=1):=by simp [zGv]
     obtain ⟨f,hf⟩:∃f,f=(λ n=>zsu n b.next.length K x.rights):=⟨_,rfl⟩
     have hfp:∀n,U8 n->zav Tryz.prog 77 [.v (.int .u8 n), .int b.next.length, .int K, .int R] (zaT (f n)):=λ n hn=>by
      rw [hf,<- hR];exact zkv n _ _ _ hn aa aa aa
     rw [<- hf,hbit] at hks;refine J1 hk0 ?_;refine zNW (zNY (α:=Nat) (λ n=>⟨[(1, .ref 0 0 12 0 0),(2, .ref 1 0 9 0 0),(3, .ref 20 0 9 0 0),(4, .int K),(5, .int 0),(6, .ref 35 0 3 0 0),(7, .int n)],
      [(0, .rows true 0 12 [zgU x]),(1, .rows true 0 9 [[.int 0,AV.nils,AV.nils,AV.nils, .int 0, .v (.bool false),AV.nils, .int 0, .int 0]]),(20, .rows true 0 9 [[.int b.cells,zcU b.next,zaG b.turn, .sl 22 0 3 0 0, .int R, .v (.bool (decide (x.f1.tmod 4=3))),AV.nils, .int 3, .int 2]]),(22, .rows true 0 3 (ksR x 0)),(35, .rows true 0 3 [[.v (.string ⟨#[97]⟩), .sl 37 n 1 0 n, .v (.bool (decide (zru .u8 x.f2 1=1)))]]),(37, .rows true n 1 (psR f kk n))],38⟩)
      (λ d n=>n+d=min kk.length 4) ?_ (min kk.length 4) 0 ?_) ?_ ?_
     ·rintro d n n1 hrec1;refine J1 hk0 ?_;refine zNX (λ hn=> ?_) (λ hn=> ?_)<;>simp at hn
      ·have hn1:n<kk.length:=by omega
       have hn2:=hkv _ (zah hn1);have hpl:=zl5 f kk (n:=n) aa;refine J2 hk0 hn1 ?_;refine dP (hfp _ hn2) ?_;refine J3 hk0 hn1 hpl ?_;refine zNW (hrec1 (d - 1) aa (n+1) aa) ?_ ac;simp [go_sem,zaf,hk0,zq2 f kk hn1]
      ·have hne:n=min kk.length 4:=by omega
       refine J0 ?_;refine zNW (hrec (d0 - 1) aa (0+1) aa) ?_ ac;have hkx:zKw (zk1 x 0)= [.v (.string ⟨#[97]⟩), .lst 1 (psR f kk n), .v (.bool (decide (zru .u8 x.f2 1=1)))]:=aD;have hpl:=zl5 f kk (n:=n) aa;simp [go_sem,zaf,hk0,zqT x 0,hkx];(try refine zaJ (.refl _) (.cons (.cons (.refl _) (.cons ?_ (.cons (.refl _) .nil))) .nil))
       refine LeV.frz rfl ?_ ?_ (zN6 ?_)<;>simp [mkH,upd,hpl,List.take_of_length_le]
     ·omega
     ·simp [go_sem,zaf,hk0]
     ·simp
    ·obtain ⟨kk,hkk⟩:∃kk,kk=x.ks 1:=⟨_,rfl⟩
     have hk0:x.k1=kk:=hkk.symm;rw [<- hkk] at hkl hkv hks;have hbit:zGv x.f2 1=decide (zru .u8 (x.f2.fdiv 2) 1=1):=by simp [zGv]
     obtain ⟨f,hf⟩:∃f,f=(λ n=>zsu n b.next.length K x.rights):=⟨_,rfl⟩
     have hfp:∀n,U8 n->zav Tryz.prog 77 [.v (.int .u8 n), .int b.next.length, .int K, .int R] (zaT (f n)):=λ n hn=>by
      rw [hf,<- hR];exact zkv n _ _ _ hn aa aa aa
     rw [<- hf,hbit] at hks;refine J1 hk0 ?_;refine zNW (zNY (α:=Nat) (λ n=>⟨[(1, .ref 0 0 12 0 0),(2, .ref 1 0 9 0 0),(3, .ref 20 0 9 0 0),(4, .int K),(5, .int 1),(6, .ref 35 0 3 0 0),(7, .int n)],
      [(0, .rows true 0 12 [zgU x]),(1, .rows true 0 9 [[.int 0,AV.nils,AV.nils,AV.nils, .int 0, .v (.bool false),AV.nils, .int 0, .int 0]]),(20, .rows true 0 9 [[.int b.cells,zcU b.next,zaG b.turn, .sl 22 1 3 0 1, .int R, .v (.bool (decide (x.f1.tmod 4=3))),AV.nils, .int 3, .int 2]]),(22, .rows true 1 3 (ksR x 1)),(35, .rows true 0 3 [[.v (.string ⟨#[98,101,101]⟩), .sl 37 n 1 0 n, .v (.bool (decide (zru .u8 (x.f2.fdiv 2) 1=1)))]]),(37, .rows true n 1 (psR f kk n))],38⟩)
      (λ d n=>n+d=min kk.length 4) ?_ (min kk.length 4) 0 ?_) ?_ ?_
     ·rintro d n n1 hrec1;refine J1 hk0 ?_;refine zNX (λ hn=> ?_) (λ hn=> ?_)<;>simp at hn
      ·have hn1:n<kk.length:=by omega
       have hn2:=hkv _ (zah hn1);have hpl:=zl5 f kk (n:=n) aa;refine J2 hk0 hn1 ?_;refine dP (hfp _ hn2) ?_;refine J3 hk0 hn1 hpl ?_;refine zNW (hrec1 (d - 1) aa (n+1) aa) ?_ ac;simp [go_sem,zaf,hk0,zq2 f kk hn1]
      ·have hne:n=min kk.length 4:=by omega
       refine J0 ?_;refine zNW (hrec (d0 - 1) aa (1+1) aa) ?_ ac;have hkx:zKw (zk1 x 1)= [.v (.string ⟨#[98,101,101]⟩), .lst 1 (psR f kk n), .v (.bool (decide (zru .u8 (x.f2.fdiv 2) 1=1)))]:=aD;have hpl:=zl5 f kk (n:=n) aa;simp [go_sem,zaf,hk0,zqT x 1,hkx];(try refine zaJ (.refl _) (.cons (.cons (.refl _) (.cons ?_ (.cons (.refl _) .nil))) .nil))
       refine LeV.frz rfl ?_ ?_ (zN6 ?_)<;>simp [mkH,upd,hpl,List.take_of_length_le]
     ·omega
     ·simp [go_sem,zaf,hk0]
     ·simp
   ·have hiK:i=K:=by omega
    subst hiK;refine J0 ?_;refine zNX (λ hb3=> ?_) (λ hb3=> ?_)<;>simp at hb3<;>(repeat (first|refine wV λ _=>?_|simp [go_sem]))
    all_goals refine zNX (λ hb4=> ?_) (λ hb4=> ?_)<;>simp at hb4<;>(repeat (first|refine wV λ _=>?_|simp [go_sem]))
    all_goals (
     refine zNW (zNY (α:=Nat) (λ a=>⟨[(1, .ref 0 0 12 0 0),(2, .ref 1 0 9 0 0),(3, .ref 20 0 9 0 0),(4, .int i),(8, .int a)],
      [(0, .rows true 0 12 [zgU x]),(1, .rows true 0 9 [[.int 0,AV.nils,AV.nils,AV.nils, .int 0, .v (.bool false),AV.nils, .int 0, .int 0]]),(20, .rows true 0 9 [[.int b.cells,zcU b.next,zaG b.turn, .sl 22 i 3 0 i, .int R, .v (.bool (decide (x.f1.tmod 4=3))), .sl 23 a 4 0 a, .int bl, .int en]]),(22, .rows true i 3 (ksR x i)),(23, .rows true a 4 (clR b.cells i x.c a))],24⟩)
      (λ d a=>a+d=min x.c.length 3) ?_ (min x.c.length 3) 0 ?_) ?_ ?_
     ·rintro d j j1 hrec2;refine J0 ?_;refine zNX (λ hj=> ?_) (λ hj=> ?_)<;>simp at hj
      ·have hj1:j<x.c.length:=by omega
       have hjc:=hx.c _ (zah hj1);have hpl:=zvS b.cells i x.c (n:=j) aa;have hsu:=zB3 b.cells i x.c hj1;generalize hcx:nth x.c j=c at *;obtain ⟨c0,c1,c2⟩:=c;obtain ⟨u0,u1,u2⟩:=hjc;obtain ⟨w0,w0'⟩:=qq _ u0;obtain ⟨v0,v0'⟩:=u0;obtain ⟨v1,v1'⟩:=u1;obtain ⟨v2,v2'⟩:=u2;simp only at v0 v0' v1 v1' v2 v2' w0 w0';have t0:=Int.tmod_nonneg 3 v0;have t1:=Int.tmod_lt_of_pos c0 (show (0:Int)<3 by decide);have hip:(0:Int)<i:=aa;have k0:=Int.tmod_nonneg i v1;have n0:=Int.tmod_nonneg b.cells v2;have n1:=Int.tmod_nonneg 3 v2;rcases (show c0.tmod 3=0∨c0.tmod 3=1∨c0.tmod 3=2 by omega) with ht|ht|ht
       ·have hr:zB2 (zcC b.cells i (c0,c1,c2))= [.int 1, .int (c1.tmod i), .int 0, .int (1+(c0.tdiv 4).tmod 3)]:=by simp [zB2,zcC,zaZ,ht]
        refine J4 hj1 hcx ht hpl ?_;refine zNW (hrec2 (d - 1) aa (j+1) aa) ?_ ac;simp [go_sem,zaf,hsu,hr]
       ·have hr:zB2 (zcC b.cells i (c0,c1,c2))= [.int 2, .int (c1.tmod i), .int (c2.tmod b.cells), .int (1+(c0.tdiv 4).tmod 3)]:=by simp [zB2,zcC,zaZ,ht]
        refine J4 hj1 hcx ht hpl ?_;refine zNW (hrec2 (d - 1) aa (j+1) aa) ?_ ac;simp [go_sem,zaf,hsu,hr]
       ·have hr:zB2 (zcC b.cells i (c0,c1,c2))= [.int 3, .int 0, .int (c2.tmod 3), .int (1+(c0.tdiv 4).tmod 3)]:=by simp [zB2,zcC,zaZ,ht]
        refine J4 hj1 hcx ht hpl ?_;refine zNW (hrec2 (d - 1) aa (j+1) aa) ?_ ac;simp [go_sem,zaf,hsu,hr]
      ·have hki:zg5 x=i:=by rw [hK2,hK]
       have hjm:j=min x.c.length 3:=aa;have htk:x.c.take (min x.c.length 3)=x.c.take 3:=by rw [List.take_eq_take_iff];omega
       have hpl:=zvS b.cells i x.c (n:=j) aa;have hkl:(ksR x i).length=i:=zHC x i;have hcl:clR b.cells i x.c j=((x.c.take 3).map (zcC b.cells i)).map zaZ:=by unfold clR;rw [hjm,htk]
       have hG:zgr x={ cells:=b.cells,next:=b.next,turn:=b.turn,kinds:=(List.range i).map (zk1 x),rights:=R,must:=decide (x.f1.tmod 4=3),clauses:=(x.c.take 3).map (zcC b.cells i),blocked:=bl,endless:=en}:=by
        unfold zgr;rw [hki,<- hbb,<- hR,<- hbl,<- hen]
       have hEnc:eg= [.int b.cells,zcU b.next,zaG b.turn, .lst 3 (ksR x i), .int R, .v (.bool (decide (x.f1.tmod 4=3))), .lst 4 (clR b.cells i x.c j), .int bl, .int en]:=by
        rw [heg,hG,hcl];rfl
       refine J0 ?_;rw [hEnc];refine ⟨.cons (.refl _) (.cons (.refl _) (.cons (.refl _) (.cons (zaq rfl aa br dQ) (.cons (.refl _) (.cons (.refl _) (.cons (zaq rfl aa br dQ) (.cons (.refl _) (.cons (.refl _) .nil)))))))), ?_⟩;intro c hc;simp only [List.mem_cons,List.not_mem_nil,or_false] at hc;rcases hc with rfl|rfl|rfl|rfl|rfl|rfl|rfl|rfl|rfl;all_goals first|exact .v _|simp [go_sem]
     ·omega
     ·simp [go_sem,zaf,hbl,hen,hb3,hb4]
     ·simp)
  ·omega
  ·simp [go_sem,zaf,hK]
  ·simp
 ·have hK2:zg5 x=1:=by simp_all
  rw [hK2] at hK;refine J0 ?_;refine zNW (zNY (α:=Nat) (λ a=>⟨[(1, .ref 0 0 12 0 0),(2, .ref 1 0 9 0 0),(3, .ref 20 0 9 0 0),(4, .int K),(5, .int a)],
   [(0, .rows true 0 12 [zgU x]),(1, .rows true 0 9 [[.int 0,AV.nils,AV.nils,AV.nils, .int 0, .v (.bool false),AV.nils, .int 0, .int 0]]),(20, .rows true 0 9 [[.int b.cells,zcU b.next,zaG b.turn, .sl 22 a 3 0 a, .int R, .v (.bool (decide (x.f1.tmod 4=3))),AV.nils, .int 3, .int 2]]),(22, .rows true a 3 (ksR x a))],23⟩)
   (λ d a=>a+d=K) ?_ K 0 ?_) ?_ ?_
  ·rintro d0 i i1 hrec;refine J0 ?_;refine zNX (λ hi=> ?_) (λ hi=> ?_)<;>simp at hi
   ·have hi2:i=0∨i=1:=by omega
    have hkl:=hKl i;have hkv:=hKv i;have hks:zk1 x i=⟨if i=0 then zqm else ztS,((x.ks i).take 4).map (λ n=>zsu n b.next.length K x.rights),zGv x.f2 i⟩:=by rw [hbb,hK,<- hK2];rfl
    rcases hi2 with rfl|rfl
    ·obtain ⟨kk,hkk⟩:∃kk,kk=x.ks 0:=⟨_,rfl⟩
     have hk0:x.k0=kk:=hkk.symm;rw [<- hkk] at hkl hkv hks;have hbit:zGv x.f2 0=decide (zru .u8 x.f2 1=1):=by simp [zGv]
     obtain ⟨f,hf⟩:∃f,f=(λ n=>zsu n b.next.length K x.rights):=⟨_,rfl⟩
     have hfp:∀n,U8 n->zav Tryz.prog 77 [.v (.int .u8 n), .int b.next.length, .int K, .int R] (zaT (f n)):=λ n hn=>by
      rw [hf,<- hR];exact zkv n _ _ _ hn aa aa aa
     rw [<- hf,hbit] at hks;refine J1 hk0 ?_;refine zNW (zNY (α:=Nat) (λ n=>⟨[(1, .ref 0 0 12 0 0),(2, .ref 1 0 9 0 0),(3, .ref 20 0 9 0 0),(4, .int K),(5, .int 0),(6, .ref 35 0 3 0 0),(7, .int n)],
      [(0, .rows true 0 12 [zgU x]),(1, .rows true 0 9 [[.int 0,AV.nils,AV.nils,AV.nils, .int 0, .v (.bool false),AV.nils, .int 0, .int 0]]),(20, .rows true 0 9 [[.int b.cells,zcU b.next,zaG b.turn, .sl 22 0 3 0 0, .int R, .v (.bool (decide (x.f1.tmod 4=3))),AV.nils, .int 3, .int 2]]),(22, .rows true 0 3 (ksR x 0)),(35, .rows true 0 3 [[.v (.string ⟨#[97]⟩), .sl 37 n 1 0 n, .v (.bool (decide (zru .u8 x.f2 1=1)))]]),(37, .rows true n 1 (psR f kk n))],38⟩)
      (λ d n=>n+d=min kk.length 4) ?_ (min kk.length 4) 0 ?_) ?_ ?_
     ·rintro d n n1 hrec1;refine J1 hk0 ?_;refine zNX (λ hn=> ?_) (λ hn=> ?_)<;>simp at hn
      ·have hn1:n<kk.length:=by omega
       have hn2:=hkv _ (zah hn1);have hpl:=zl5 f kk (n:=n) aa;refine J2 hk0 hn1 ?_;refine dP (hfp _ hn2) ?_;refine J3 hk0 hn1 hpl ?_;refine zNW (hrec1 (d - 1) aa (n+1) aa) ?_ ac;simp [go_sem,zaf,hk0,zq2 f kk hn1]
      ·have hne:n=min kk.length 4:=by omega
       refine J0 ?_;refine zNW (hrec (d0 - 1) aa (0+1) aa) ?_ ac;have hkx:zKw (zk1 x 0)= [.v (.string ⟨#[97]⟩), .lst 1 (psR f kk n), .v (.bool (decide (zru .u8 x.f2 1=1)))]:=aD;have hpl:=zl5 f kk (n:=n) aa;simp [go_sem,zaf,hk0,zqT x 0,hkx];(try refine zaJ (.refl _) (.cons (.cons (.refl _) (.cons ?_ (.cons (.refl _) .nil))) .nil))
       refine LeV.frz rfl ?_ ?_ (zN6 ?_)<;>simp [mkH,upd,hpl,List.take_of_length_le]
     ·omega
     ·simp [go_sem,zaf,hk0]
     ·simp
    ·obtain ⟨kk,hkk⟩:∃kk,kk=x.ks 1:=⟨_,rfl⟩
     have hk0:x.k1=kk:=hkk.symm;rw [<- hkk] at hkl hkv hks;have hbit:zGv x.f2 1=decide (zru .u8 (x.f2.fdiv 2) 1=1):=by simp [zGv]
     obtain ⟨f,hf⟩:∃f,f=(λ n=>zsu n b.next.length K x.rights):=⟨_,rfl⟩
     have hfp:∀n,U8 n->zav Tryz.prog 77 [.v (.int .u8 n), .int b.next.length, .int K, .int R] (zaT (f n)):=λ n hn=>by
      rw [hf,<- hR];exact zkv n _ _ _ hn aa aa aa
     rw [<- hf,hbit] at hks;refine J1 hk0 ?_;refine zNW (zNY (α:=Nat) (λ n=>⟨[(1, .ref 0 0 12 0 0),(2, .ref 1 0 9 0 0),(3, .ref 20 0 9 0 0),(4, .int K),(5, .int 1),(6, .ref 35 0 3 0 0),(7, .int n)],
      [(0, .rows true 0 12 [zgU x]),(1, .rows true 0 9 [[.int 0,AV.nils,AV.nils,AV.nils, .int 0, .v (.bool false),AV.nils, .int 0, .int 0]]),(20, .rows true 0 9 [[.int b.cells,zcU b.next,zaG b.turn, .sl 22 1 3 0 1, .int R, .v (.bool (decide (x.f1.tmod 4=3))),AV.nils, .int 3, .int 2]]),(22, .rows true 1 3 (ksR x 1)),(35, .rows true 0 3 [[.v (.string ⟨#[98,101,101]⟩), .sl 37 n 1 0 n, .v (.bool (decide (zru .u8 (x.f2.fdiv 2) 1=1)))]]),(37, .rows true n 1 (psR f kk n))],38⟩)
      (λ d n=>n+d=min kk.length 4) ?_ (min kk.length 4) 0 ?_) ?_ ?_
     ·rintro d n n1 hrec1;refine J1 hk0 ?_;refine zNX (λ hn=> ?_) (λ hn=> ?_)<;>simp at hn
      ·have hn1:n<kk.length:=by omega
       have hn2:=hkv _ (zah hn1);have hpl:=zl5 f kk (n:=n) aa;refine J2 hk0 hn1 ?_;refine dP (hfp _ hn2) ?_;refine J3 hk0 hn1 hpl ?_;refine zNW (hrec1 (d - 1) aa (n+1) aa) ?_ ac;simp [go_sem,zaf,hk0,zq2 f kk hn1]
      ·have hne:n=min kk.length 4:=by omega
       refine J0 ?_;refine zNW (hrec (d0 - 1) aa (1+1) aa) ?_ ac;have hkx:zKw (zk1 x 1)= [.v (.string ⟨#[98,101,101]⟩), .lst 1 (psR f kk n), .v (.bool (decide (zru .u8 (x.f2.fdiv 2) 1=1)))]:=aa;have hpl:=zl5 f kk (n:=n) aa;simp [go_sem,zaf,hk0,zqT x 1,hkx];(try refine zaJ (.refl _) (.cons (.cons (.refl _) (.cons ?_ (.cons (.refl _) .nil))) .nil))
       refine LeV.frz rfl ?_ ?_ (zN6 ?_)<;>simp [mkH,upd,hpl,List.take_of_length_le]
     ·omega
     ·simp [go_sem,zaf,hk0]
     ·simp
   ·have hiK:i=K:=by omega
    subst hiK;refine J0 ?_;refine zNX (λ hb3=> ?_) (λ hb3=> ?_)<;>simp at hb3<;>(repeat (first|refine wV λ _=>?_|simp [go_sem]))
    all_goals refine zNX (λ hb4=> ?_) (λ hb4=> ?_)<;>simp at hb4<;>(repeat (first|refine wV λ _=>?_|simp [go_sem]))
    all_goals (
     refine zNW (zNY (α:=Nat) (λ a=>⟨[(1, .ref 0 0 12 0 0),(2, .ref 1 0 9 0 0),(3, .ref 20 0 9 0 0),(4, .int i),(8, .int a)],
      [(0, .rows true 0 12 [zgU x]),(1, .rows true 0 9 [[.int 0,AV.nils,AV.nils,AV.nils, .int 0, .v (.bool false),AV.nils, .int 0, .int 0]]),(20, .rows true 0 9 [[.int b.cells,zcU b.next,zaG b.turn, .sl 22 i 3 0 i, .int R, .v (.bool (decide (x.f1.tmod 4=3))), .sl 23 a 4 0 a, .int bl, .int en]]),(22, .rows true i 3 (ksR x i)),(23, .rows true a 4 (clR b.cells i x.c a))],24⟩)
      (λ d a=>a+d=min x.c.length 3) ?_ (min x.c.length 3) 0 ?_) ?_ ?_
     ·rintro d j j1 hrec2;refine J0 ?_;refine zNX (λ hj=> ?_) (λ hj=> ?_)<;>simp at hj
      ·have hj1:j<x.c.length:=by omega
       have hjc:=hx.c _ (zah hj1);have hpl:=zvS b.cells i x.c (n:=j) aa;have hsu:=zB3 b.cells i x.c hj1;generalize hcx:nth x.c j=c at *;obtain ⟨c0,c1,c2⟩:=c;obtain ⟨u0,u1,u2⟩:=hjc;obtain ⟨w0,w0'⟩:=qq _ u0;obtain ⟨v0,v0'⟩:=u0;obtain ⟨v1,v1'⟩:=u1;obtain ⟨v2,v2'⟩:=u2;simp only at v0 v0' v1 v1' v2 v2' w0 w0';have t0:=Int.tmod_nonneg 3 v0;have t1:=Int.tmod_lt_of_pos c0 (show (0:Int)<3 by decide);have hip:(0:Int)<i:=aa;have k0:=Int.tmod_nonneg i v1;have n0:=Int.tmod_nonneg b.cells v2;have n1:=Int.tmod_nonneg 3 v2;rcases (show c0.tmod 3=0∨c0.tmod 3=1∨c0.tmod 3=2 by omega) with ht|ht|ht
       ·have hr:zB2 (zcC b.cells i (c0,c1,c2))= [.int 1, .int (c1.tmod i), .int 0, .int (1+(c0.tdiv 4).tmod 3)]:=by simp [zB2,zcC,zaZ,ht]
        refine J4 hj1 hcx ht hpl ?_;refine zNW (hrec2 (d - 1) aa (j+1) aa) ?_ ac;simp [go_sem,zaf,hsu,hr]
       ·have hr:zB2 (zcC b.cells i (c0,c1,c2))= [.int 2, .int (c1.tmod i), .int (c2.tmod b.cells), .int (1+(c0.tdiv 4).tmod 3)]:=by simp [zB2,zcC,zaZ,ht]
        refine J4 hj1 hcx ht hpl ?_;refine zNW (hrec2 (d - 1) aa (j+1) aa) ?_ ac;simp [go_sem,zaf,hsu,hr]
       ·have hr:zB2 (zcC b.cells i (c0,c1,c2))= [.int 3, .int 0, .int (c2.tmod 3), .int (1+(c0.tdiv 4).tmod 3)]:=by simp [zB2,zcC,zaZ,ht]
        refine J4 hj1 hcx ht hpl ?_;refine zNW (hrec2 (d - 1) aa (j+1) aa) ?_ ac;simp [go_sem,zaf,hsu,hr]
      ·have hki:zg5 x=i:=by rw [hK2,hK]
       have hjm:j=min x.c.length 3:=aa;have htk:x.c.take (min x.c.length 3)=x.c.take 3:=by rw [List.take_eq_take_iff];omega
       have hpl:=zvS b.cells i x.c (n:=j) aa;have hkl:(ksR x i).length=i:=zHC x i;have hcl:clR b.cells i x.c j=((x.c.take 3).map (zcC b.cells i)).map zaZ:=by unfold clR;rw [hjm,htk]
       have hG:zgr x={ cells:=b.cells,next:=b.next,turn:=b.turn,kinds:=(List.range i).map (zk1 x),rights:=R,must:=decide (x.f1.tmod 4=3),clauses:=(x.c.take 3).map (zcC b.cells i),blocked:=bl,endless:=en}:=by
        unfold zgr;rw [hki,<- hbb,<- hR,<- hbl,<- hen]
       have hEnc:eg= [.int b.cells,zcU b.next,zaG b.turn, .lst 3 (ksR x i), .int R, .v (.bool (decide (x.f1.tmod 4=3))), .lst 4 (clR b.cells i x.c j), .int bl, .int en]:=by
        rw [heg,hG,hcl];rfl
       refine J0 ?_;rw [hEnc];refine ⟨.cons (.refl _) (.cons (.refl _) (.cons (.refl _) (.cons (zaq rfl aa br dQ) (.cons (.refl _) (.cons (.refl _) (.cons (zaq rfl aa br dQ) (.cons (.refl _) (.cons (.refl _) .nil)))))))), ?_⟩;intro c hc;simp only [List.mem_cons,List.not_mem_nil,or_false] at hc;rcases hc with rfl|rfl|rfl|rfl|rfl|rfl|rfl|rfl|rfl;all_goals first|exact .v _|simp [go_sem]
     ·omega
     ·simp [go_sem,zaf,hbl,hen,hb3,hb4]
     ·simp)
  ·omega
  ·simp [go_sem,zaf,hK]
  ·simp
theorem zrg (g:zaa) (hg:GOk g) (x:ztu) (hx:zrj x):zav Tryz.prog 37 [.agg (zad g), .agg (zfc x)] (.agg (zag (zju g x))):=by
 refine pF Tryz.func37 ?_;obtain ⟨q,hq⟩:∃q,q=zju g x:=⟨_,rfl⟩
 have hrow:=zl9 hx;obtain ⟨er,her⟩:∃er,er=zfc x:=⟨_,rfl⟩
 rw [<- hq,<- her];rw [<- her] at hrow;obtain ⟨rl,rc,rk,rh,rr,rs,rb⟩:=hrow;have c1:=hg.c1;have c9:=hg.c9;have k1:=hg.k1;have k6:=hg.k6;have hr0:=hg.r0;have hr4:=hg.r4;obtain ⟨gc,hgc⟩:∃gc:Nat,g.cells=gc:=⟨g.cells.toNat,aa⟩
 have hpow:(1:Int)<=2 ^ g.rights.toNat∧(2:Int) ^ g.rights.toNat<=16:=by
  rcases (show g.rights.toNat=0∨g.rights.toNat=1∨g.rights.toNat=2∨g.rights.toNat=3∨g.rights.toNat=4 by omega) with h|h|h|h|h<;>rw [h]<;>decide
 have hrt:=hx.r;have hsd:=hx.s;obtain ⟨rt,hrt'⟩:∃rt,x.rights=rt:=⟨_,rfl⟩
 obtain ⟨pw,hpw⟩:∃pw:Int,(2:Int) ^ g.rights.toNat=pw:=⟨_,rfl⟩
 have r1:0<=x.rights∧x.rights<=255:=hx.r;have s1:0<=x.side∧x.side<=255:=hx.s;have s0:=Int.tmod_nonneg 2 s1.1;have s2:=Int.tmod_lt_of_pos x.side (show (0:Int)<2 by decide);rw [hpw] at hpow;generalize heg:zad g=eg at *;have hel:eg.length=9:=dF;have hbl:∀n,(∀c' ∈ eg,Bel n c')=True:=λ n=>by rw [<- heg];simp [go_sem]
 have e0:cel eg 0= .int g.cells:=dF;have e3:cel eg 3= .lst 3 (g.kinds.map zbq):=dF;have e4:cel eg 4= .int g.rights:=dF;refine J10 hel e0 e3 e4 rl rr rs rb hbl hpw ?_;have hcz:g.cells.toNat=gc:=aa;have hkne:g.kinds≠ []:=af;have hz:List.replicate gc [AV.v (.int .i64 0)]=(zi8 g x 0).map zd2:=by simp [zi8,hcz,zd2]
 refine zNW (zNY (α:=Nat) (λ i=>⟨[(2, .ref 0 0 9 0 0),(3, .ref 1 0 18 0 0),(4, .ref 2 0 5 0 0),(5, .ref 19 0 5 0 0),(6, .int i)], [(0, .rows true 0 9 [eg]),(1, .rows true 0 18 [er]),(2, .rows true 0 5 [[AV.nils,AV.nils,AV.nils, .int 0, .int 0]]),(6, .rows true 0 1 ((zi8 g x i).map zd2)),(19, .rows true 0 5 [[.sl 6 0 1 0 gc,AV.nils,AV.nils, .int (x.rights.tmod pw), .int (x.side.tmod 2)]])],21⟩)
  (λ d i=>i+d=6) ?_ 6 0 ?_) ?_ ?_
 ·rintro d i i1 hrec;refine J0 ?_;refine zNX (λ hi=> ?_) (λ hi=> ?_)<;>simp at hi
  ·have hci:=hx.cv _ (zah (l:=x.cell) (i:=i) (by rw [hx.c6];omega));have hki:=hx.kv _ (zah (l:=x.kind) (i:=i) (by rw [hx.k6];omega));have hci':0<=nth x.cell i∧nth x.cell i<=255:=hci;have hki':0<=nth x.kind i∧nth x.kind i<=255:=hki;have m0:=Int.tmod_nonneg (g.cells+1) hci'.1;have m1:=Int.tmod_nonneg (g.kinds.length:Int) hki'.1;have m2:=Int.tmod_lt_of_pos (nth x.kind i) (show (0:Int)<g.kinds.length by omega);have m3:=Int.tmod_nonneg 2 (show (0:Int)<=i by omega);have m4:=Int.tmod_lt_of_pos (i:Int) (show (0:Int)<2 by decide);have hrc:=rc i aa;have hrk:=rk i aa;have hsu:=znn g x i;have hal:=zps g x i;rw [hcz] at hal;unfold zuj at hsu;refine J6 hel e0 e3 e4 hrc hrk ?_;refine zNX (λ hc=> ?_) (λ hc=> ?_)<;>simp at hc
   ·have hc1:=hc.1;rw [if_pos hc1] at hsu;refine J7 hel e0 e3 e4 hrc hrk hal ?_;refine zNW (hrec (d - 1) aa (i+1) aa) ?_ ac;simp [go_sem,zaf,hsu,rb,hbl]
   ·have hc1:¬(nth x.cell i).tmod (g.cells+1)<g.cells:=λ h=>hkne (hc h);rw [if_neg hc1] at hsu;refine J6 hel e0 e3 e4 hrc hrk ?_;refine zNW (hrec (d - 1) aa (i+1) aa) ?_ ac;simp [go_sem,zaf,hsu,rb,hbl]
  ·obtain rfl:i=6:=by omega
   have hal:=zps g x 6;rw [hcz] at hal;have hqe:q=⟨zi8 g x 6,zjZ g x 0 (min g.kinds.length 2),zjZ g x 1 (min g.kinds.length 2),x.rights.tmod pw,x.side.tmod 2⟩:=by grind [zju]
   clear hq;have hq:=hqe;refine J4 hel e0 e3 e4 ?_;refine zNZ ?_;refine J4 hel e0 e3 e4 ?_;have hz0:=zuE g x 0;refine zNW (zNY (α:=Nat) (λ k=>⟨[(2, .ref 0 0 9 0 0),(3, .ref 1 0 18 0 0),(4, .ref 2 0 5 0 0),(5, .ref 19 0 5 0 0),(8, .int 0),(9, .int k)], [(0, .rows true 0 9 [eg]),(1, .rows true 0 18 [er]),(2, .rows true 0 5 [[AV.nils,AV.nils,AV.nils, .int 0, .int 0]]),(6, .rows true 0 1 ((zi8 g x 6).map zd2)),(19, .rows true 0 5 [[.sl 6 0 1 0 gc, .sl 21 0 1 0 g.kinds.length,AV.nils, .int (x.rights.tmod pw), .int (x.side.tmod 2)]]),(21, .rows true 0 1 ((zjZ g x 0 k).map zd2))],22⟩)
    (λ d k=>k+d=min g.kinds.length 2) ?_ (min g.kinds.length 2) 0 ?_) ?_ ?_
   ·rintro d k j1 hrec0;refine J4 hel e0 e3 e4 ?_;refine zNX (λ hj=> ?_) (λ hj=> ?_)<;>simp at hj
    ·have hk2:k<2:=by omega
     have hkk:k<g.kinds.length:=aa;have hhv:=hx.hv _ (zah (l:=x.hand) (i:=2 * 0+k) (by rw [hx.h4];omega));have hh1:0<=nth x.hand (2 * 0+k)∧nth x.hand (2 * 0+k)<=255:=hhv;have hrh:=rh (2 * 0+k) aa;have m0:=Int.tmod_nonneg 3 hh1.1;have hsu:=zuD g x 0 k;have hsk:=zuC g x 0 k;have hhl:=zg4 g x 0 k;have hV:zAz g x 0 k=if (nth g.kinds k).keep=true then (if 250<nth x.hand (2 * 0+k) then 8 else (nth x.hand (2 * 0+k)).tmod 3) else 0:=rfl
     simp only [Nat.mul_zero,Nat.zero_add,Nat.mul_one] at hrh hh1 m0 hV;refine J5 hel e0 e3 e4 hkk ?_;refine zNX (λ hkeep=> ?_) (λ hkeep=> ?_)
     ·rw [if_pos hkeep] at hV;have eI:((k:Int)).toNat=k:=aa;have eI2:(k:Int)<4:=aa;refine J9 hel e0 e3 e4 hkk hrh hhl eI eI2 ?_;refine zNX (λ hbig=> ?_) (λ hbig=> ?_)<;>simp at hbig
      ·rw [if_pos hbig] at hV;rw [hV] at hsu;refine J7 hel e0 e3 e4 hkk hrh hhl ?_;refine zNW (hrec0 (d - 1) aa (k+1) aa) ?_ ac;simp [go_sem,zaf,hsu,rb,hbl]
      ·rw [if_neg aa] at hV;rw [hV] at hsu;refine J7 hel e0 e3 e4 hkk hrh hhl ?_;refine zNW (hrec0 (d - 1) aa (k+1) aa) ?_ ac;simp [go_sem,zaf,hsu,rb,hbl]
     ·rw [if_neg af] at hV;have hsk':=hsk hV;refine J4 hel e0 e3 e4 ?_;refine zNW (hrec0 (d - 1) aa (k+1) aa) ?_ ac;simp [go_sem,zaf,hsk',rb,hbl]
    ·have hkm:k=min g.kinds.length 2:=by omega
     subst hkm;refine J4 hel e0 e3 e4 ?_;refine zNZ ?_;refine J4 hel e0 e3 e4 ?_;have hz1:=zuE g x 1;refine zNW (zNY (α:=Nat) (λ k=>⟨[(2, .ref 0 0 9 0 0),(3, .ref 1 0 18 0 0),(4, .ref 2 0 5 0 0),(5, .ref 19 0 5 0 0),(8, .int 1),(9, .int k)], [(0, .rows true 0 9 [eg]),(1, .rows true 0 18 [er]),(2, .rows true 0 5 [[AV.nils,AV.nils,AV.nils, .int 0, .int 0]]),(6, .rows true 0 1 ((zi8 g x 6).map zd2)),(19, .rows true 0 5 [[.sl 6 0 1 0 gc, .sl 21 0 1 0 g.kinds.length, .sl 22 0 1 0 g.kinds.length, .int (x.rights.tmod pw), .int (x.side.tmod 2)]]),(21, .rows true 0 1 ((zjZ g x 0 (min g.kinds.length 2)).map zd2)),(22, .rows true 0 1 ((zjZ g x 1 k).map zd2))],23⟩)
      (λ d k=>k+d=min g.kinds.length 2) ?_ (min g.kinds.length 2) 0 ?_) ?_ ?_
     ·rintro d k j1 hrec1;refine J4 hel e0 e3 e4 ?_;refine zNX (λ hj=> ?_) (λ hj=> ?_)<;>simp at hj
      ·have hk2:k<2:=by omega
       have hkk:k<g.kinds.length:=aa;have hhv:=hx.hv _ (zah (l:=x.hand) (i:=2 * 1+k) (by rw [hx.h4];omega));have hh1:0<=nth x.hand (2 * 1+k)∧nth x.hand (2 * 1+k)<=255:=hhv;have hrh:=rh (2 * 1+k) aa;have m0:=Int.tmod_nonneg 3 hh1.1;have hsu:=zuD g x 1 k;have hsk:=zuC g x 1 k;have hhl:=zg4 g x 1 k;have hV:zAz g x 1 k=if (nth g.kinds k).keep=true then (if 250<nth x.hand (2 * 1+k) then 8 else (nth x.hand (2 * 1+k)).tmod 3) else 0:=rfl
       simp only [Nat.mul_zero,Nat.zero_add,Nat.mul_one] at hrh hh1 m0 hV;refine J5 hel e0 e3 e4 hkk ?_;refine zNX (λ hkeep=> ?_) (λ hkeep=> ?_)
       ·rw [if_pos hkeep] at hV;have eI:(2+(k:Int)).toNat=2+k:=aa;have eI2:2+(k:Int)<4:=aa;refine J9 hel e0 e3 e4 hkk hrh hhl eI eI2 ?_;refine zNX (λ hbig=> ?_) (λ hbig=> ?_)<;>simp at hbig
        ·rw [if_pos hbig] at hV;rw [hV] at hsu;refine J7 hel e0 e3 e4 hkk hrh hhl ?_;refine zNW (hrec1 (d - 1) aa (k+1) aa) ?_ ac;simp [go_sem,zaf,hsu,rb,hbl]
        ·rw [if_neg aa] at hV;rw [hV] at hsu;refine J7 hel e0 e3 e4 hkk hrh hhl ?_;refine zNW (hrec1 (d - 1) aa (k+1) aa) ?_ ac;simp [go_sem,zaf,hsu,rb,hbl]
       ·rw [if_neg (by simpa using hkeep)] at hV;have hsk':=hsk hV;refine J4 hel e0 e3 e4 ?_;refine zNW (hrec1 (d - 1) aa (k+1) aa) ?_ ac;simp [go_sem,zaf,hsk',rb,hbl]
      ·have hkm:k=min g.kinds.length 2:=by omega
       subst hkm;refine J4 hel e0 e3 e4 ?_;refine J4 hel e0 e3 e4 ?_;refine zNZ ?_;refine J4 hel e0 e3 e4 ?_;rw [hq];exact ⟨zaq rfl (by simp [hal]) br (by simp [List.take_of_length_le,hal]),zaq rfl (by simp [zg4]) br (by simp [List.take_of_length_le,zg4]),zaq rfl (by simp [zg4]) br (by simp [List.take_of_length_le,zg4]), .refl _, .refl _⟩
     ·omega
     ·simp [go_sem,zaf,rb,hbl,hz1]
     ·simp
   ·omega
   ·simp [go_sem,zaf,rb,hbl,hz0]
   ·simp
 ·rfl
 ·simp [go_sem,zaf,rb,hbl,hz,hcz]
 ·simp
structure zzm where
 g:zqi
 p:ztu
 picks:List Int
structure zjH (x:zzm):Prop where
 g:zDe x.g
 p:zrj x.p
 k:∀n ∈ x.picks,U8 n
 lk:x.picks.length<=1099511627776
 l0:x.g.k0.length<=1099511627776
 l1:x.g.k1.length<=1099511627776
 lc:x.g.c.length<=1099511627776
def zcd (x:zzm):List AV:=zgU x.g++(zfc x.p++ [zDL x.picks])
structure FitC (g:zaa) (c:ziN):Prop where
 sh:zzP g c
 len:∀l ∈ c.1++c.2,∀x ∈ l,x.length<=1099511627776∧zmR 1048576 x
theorem FitC.side {g:zaa}{c:ziN} (h:FitC g c){s:Nat} (hs:s<2):∃l,cel [zbF c.1,zbF c.2] s=zbF l∧l.length=g.kinds.length∧(∀x ∈ l,(x.length:Int)=g.cells)∧∀x ∈ l,∀y ∈ x,y.length<=1099511627776∧zmR 1048576 y:=by
 rcases (show s=0∨s=1 by omega) with rfl|rfl
 ·exact ⟨_,rfl,h.sh.l1,h.sh.c1,λ x hx=>h.len x aZ⟩
 ·exact ⟨_,rfl,h.sh.l2,h.sh.c2,λ x hx=>h.len x aZ⟩
theorem zeK (p:zae) (hf:zbc p) (s:Int):zav Tryz.prog 30 [.agg (zag p), .int s] (.agg (zag (zas p s))):=by
 refine pF Tryz.func30 ?_;have hc:=zzr p hf;refine J0 ?_;refine zN1 hc ae ?_;repeat first|refine wV λ _=>?_|simp [go_sem,zas]
 refine ⟨?_, ?_, ?_⟩<;>exact frX
theorem zd3 {α:Type} (f:α->Nat):∀ {l:List α},l≠ []->∃a ∈ l,∀b ∈ l,f b<=f a
 | [],h=>absurd rfl h
 | [a], _=>⟨a,ac,λ b hb=>af⟩
 |a::c::l, _=>by
  obtain ⟨x,hx,h⟩:=zd3 f (l:=c::l) ac;grind
structure InvD where
 mod:Int
 men:List (List Int)
 h0:List Int
 h1:List Int
 rights:List Int
 side:Int
def InvD.hand (x:InvD) (s:Int):List Int:=if s=0 then x.h0 else x.h1
end Go.Av
end
section
/- Contracts, runs of the program: own, man, provided, and the steps. -/
open Go Go.Proofs
namespace Go.Av
def zCx (n:Nat) (s:StD):AV:= .agg [.sl (n+2) 1 1 0 s.p.at_.length, .sl (n+81) 1 1 0 s.p.h0.length, .sl (n+161) 1 1 0 s.p.h1.length, .int s.p.rights, .int s.p.side, .int s.kind, .int s.cursor, .v (.bool s.took)]
def zyV (n:Nat) (s:StD):List (Nat×zcr):= [(n+2, .rows true 1 1 (s.p.at_.map zd2)),(n+81, .rows true 1 1 (s.p.h0.map zd2)),(n+161, .rows true 1 1 (s.p.h1.map zd2))]
attribute [go_sem] zCx zyV
theorem zoC (s:StD) (ha:zbc s.p):ztr Tryz.prog 207 [.agg (zaO s)] (λ n=>zCx n s) (λ n=>zyV n s) 241:=by
 refine ⟨aF Tryz.func207 ?_,λ n=>⟨ae,ae⟩⟩;obtain ⟨a1,a2,a3⟩:=ha;have h1:=zmr s.p.at_ a1;have h2:=zmr s.p.h0 a2;have h3:=zmr s.p.h1 a3;refine J0 ?_;refine zN1 h1 ae ?_;refine J0 ?_;refine zOp 81 (by rfl) (h2) ai ae ae (λ _=>zaL.refl _ _ _ _) ae ae ?_;refine J0 ?_;refine zOp 161 (by rfl) (h3) ai ae ae (λ _=>zaL.refl _ _ _ _) ae ae ?_;((repeat (first|with_reducible (first|refine wL λ _=>?_|refine wD λ _=>?_|refine wZ ?_)|simp [go_sem]));refine zOA ah ?_)
 refine J0 ?_;simp [go_sem,zaf]
theorem zww (s:StD) (hc:s.cursor.toNat<s.p.at_.length) (h0:0<=s.cursor):zav Tryz.prog 328 [.agg (zaO s)] (.tup [.int (zat (nth s.p.at_ s.cursor.toNat)).1, .int (zat (nth s.p.at_ s.cursor.toNat)).2]):=by
 refine pF Tryz.func328 ?_;have hO:=zsa (nth s.p.at_ s.cursor.toNat);generalize zat (nth s.p.at_ s.cursor.toNat)=m at *;refine J1 hc ?_;refine aP hO ?_;exact K0
theorem zeN (s:StD) (b:Bool):zav Tryz.prog 327 [.agg (zaO s), .v (.bool b)] (zdJ (zcy s b)):=by
 refine pF Tryz.func327 ?_;cases b
 ·repeat first|refine wV λ _=>?_|simp [go_sem,zcy]
 ·repeat first|refine wV λ _=>?_|simp [go_sem,zcy]
  exact frX
abbrev ztw (f:FuncId) (g:zaa) (s:StD) (n:Int) (r:List StD):Prop:=zav Tryz.prog f [.agg (zaO s), .agg (zad g), .int n] (zdJ r)
section
variable (g:zaa) (hg:GOk g) (s:StD) (hs:zjk g s) (n:Int)
theorem zI6 (hg:GOk g):ztw 300 g s n (zcy { s with cursor:=toB g.board s.p.side n s.cursor} (decide (0<=toB g.board s.p.side n s.cursor))):=by
 refine pF Tryz.func300 ?_;have hT:=zqy g.board hg.board s.p.side n s.cursor;have hP:=zeN { s with cursor:=toB g.board s.p.side n s.cursor};refine J0 ?_;refine aP hT ?_;refine J0 ?_;refine aP (hP _) ?_;exact K0
theorem zFa (hg:GOk g) (hs:zjk g s):ztw 301 g s n (zmf g.board s n):=by
 refine pF Tryz.func301 ?_;have hL:=zuk g.board hg.board s.p.side n s.cursor;have hlm:=zj3 hg.board (side:=s.p.side) (d:=n) (c:=s.cursor);have hll:=zso (b:=g.board) (side:=s.p.side) (d:=n) (c:=s.cursor);have c9:=hg.c9;have c1:=hg.c1;have hal:=hs.p.al;rw [show g.board.cells=g.cells from rfl] at hlm hll;unfold zmf;generalize zor g.board s.p.side n s.cursor=line at *;generalize hR:zb9 s line=R;refine J0 ?_;refine aP hL ?_;refine J0 ?_;refine zNW (zNY (α:=Nat×List StD) (λ a=>⟨[(3, .ref 0 0 8 0 0),(7, .sl 2 a.2.length 8 0 a.2.length),(19,zaG line),(20, .int line.length),(21, .int a.1)], [(0, .rows true 0 8 [zaO s]),(2, .rows true a.2.length 8 (a.2.map zaO))],3⟩)
  (λ d a=>a.1+d=line.length∧a.2.length=a.1∧R=a.2++zb9 s (line.drop a.1)) ?_ line.length (0, []) ?_) ?_ ?_
 ·rintro d ⟨i,out⟩ ⟨i1,i2,i3⟩ hrec;simp only at i1 i2 i3;refine J0 ?_;refine zNX (λ hi=> ?_) (λ hi=> ?_)<;>simp at hi
  ·have hli:=hlm _ (zah hi);have hlt:(nth line i).toNat<s.p.at_.length:=aa;rw [zaV hi,zb9] at i3;refine J2 hi hlt ?_;refine zNX (λ hz=> ?_) (λ hz=> ?_)<;>simp at hz
   ·rw [if_neg af] at i3;refine J0 ?_;rw [i3];exact frX
   ·rw [if_pos af] at i3;refine J0 ?_;refine zNW (hrec (d - 1) aa (i+1,out++ [{ s with cursor:=nth line i}]) ⟨aa,af,af⟩) ?_ ac;simp [go_sem,zaf]
  ·rw [List.drop_eq_nil_of_le hi,zb9] at i3;refine J0 ?_;rw [i3];exact frX
 ·simp [hR]
 ·simp [go_sem,zaf]
 ·simp
theorem zyF (hg:GOk g) (hs:zjk g s):s.cursor.toNat<s.p.at_.length∧0<=s.cursor∧(nth s.p.at_ s.cursor.toNat=0∧zat (nth s.p.at_ s.cursor.toNat)=(-1, -1)∨nth s.p.at_ s.cursor.toNat≠0∧0<=(zat (nth s.p.at_ s.cursor.toNat)).1∧(zat (nth s.p.at_ s.cursor.toNat)).1<g.kinds.length∧
  ((zat (nth s.p.at_ s.cursor.toNat)).2=0∨(zat (nth s.p.at_ s.cursor.toNat)).2=1))∧(s.p.side=0∨s.p.side=1):=by
 have hal:=hs.p.al;have hc0:=hs.c0;have hc1:=hs.c1;have hcur:s.cursor.toNat<s.p.at_.length:=aa;have hat:=hs.p.at (i:=s.cursor.toNat) aa;have hman:=zbn hat.1 hat.2 hg.k6;refine ⟨hcur,hc0, ?_,hs.p.s⟩;grind
theorem zDI (hg:GOk g) (hs:zjk g s):ztw 302 g s n (zcy s (decide ((zat (nth s.p.at_ s.cursor.toNat)).1<0))):=by
 refine pF Tryz.func302 ?_;obtain ⟨hcur,h0,hm,hsd⟩:=zyF g s hg hs;have e:decide ((zat (nth s.p.at_ s.cursor.toNat)).1<0)=decide (nth s.p.at_ s.cursor.toNat=0):=by
  grind
 rw [e];have hP:=zeN s;refine J1 hcur ?_;refine dP (hP _) ?_;exact K0
theorem zDM (hg:GOk g) (hs:zjk g s):ztw 303 g s n (zcy s (decide (0<=(zat (nth s.p.at_ s.cursor.toNat)).1∧(zat (nth s.p.at_ s.cursor.toNat)).2≠s.p.side))):=by
 refine pF Tryz.func303 ?_;obtain ⟨hcur,h0,hm,hsd⟩:=zyF g s hg hs;have hO:=zww s hcur h0;have hP:=zeN s;have e:decide (0<=(zat (nth s.p.at_ s.cursor.toNat)).1∧(zat (nth s.p.at_ s.cursor.toNat)).2≠s.p.side)=decide ((zat (nth s.p.at_ s.cursor.toNat)).2=1 - s.p.side):=by
  grind
 rw [e];generalize zat (nth s.p.at_ s.cursor.toNat)=m at *;refine J0 ?_;refine aP hO ?_;refine J0 ?_;refine aP (hP _) ?_;exact K0
theorem zAy (hg:GOk g) (hs:zjk g s):ztw 304 g s n (zcy s (decide (0<=(zat (nth s.p.at_ s.cursor.toNat)).1∧(zat (nth s.p.at_ s.cursor.toNat)).2=s.p.side))):=by
 refine pF Tryz.func304 ?_;obtain ⟨hcur,h0,hm,hsd⟩:=zyF g s hg hs;have hO:=zww s hcur h0;have hP:=zeN s;have e:decide (0<=(zat (nth s.p.at_ s.cursor.toNat)).1∧(zat (nth s.p.at_ s.cursor.toNat)).2=s.p.side)=decide ((zat (nth s.p.at_ s.cursor.toNat)).2=s.p.side):=by
  grind
 rw [e];generalize zat (nth s.p.at_ s.cursor.toNat)=m at *;refine J0 ?_;refine aP hO ?_;refine J0 ?_;refine aP (hP _) ?_;exact K0
theorem zIR (hg:GOk g) (hs:zjk g s):ztw 305 g s n (zpK g s):=by
 refine pF Tryz.func305 ?_;obtain ⟨hcur,h0,hm,hsd⟩:=zyF g s hg hs;have hO:=zww s hcur h0;have hP:=zeN;have hcp:=zoC s (hs.p.fits hg);unfold zpK;generalize hme:zat (nth s.p.at_ s.cursor.toNat)=m at *;obtain ⟨mk,ms⟩:=m;simp only [Prod.mk.injEq] at hm;refine J0 ?_;refine aP hO ?_;refine J0 ?_;refine zNX (λ hc=> ?_) (λ hc=> ?_)<;>simp at hc
 ·rw [if_pos aa];exact K0
 ·rw [if_neg aa];refine J0 ?_;refine zN1 hcp ae ?_;have hmk:mk.toNat<g.kinds.length:=aa;have hmk':0<=mk:=aa;refine J2 hcur hmk ?_;refine zNX (λ hk=> ?_) (λ hk=> ?_)
  ·rw [if_neg af];repeat first|refine wV λ _=>?_|simp [go_sem,clr]
   (first|done|exact dpX)
  ·rw [if_pos af];have hl0:=hs.p.h0.len;have hl1:=hs.p.h1.len;rcases hsd with hsd|hsd
   ·have hmk0:mk.toNat<s.p.h0.length:=by omega
    have hv:=hs.p.h0.v _ hmk0;obtain ⟨u,hu⟩:∃u:StD,u={ s with p:=(clr s.p s.cursor).withHand s.p.side ((s.p.hand s.p.side).set mk.toNat (nth (s.p.hand s.p.side) mk.toNat+1)),took:=true}:=⟨_,rfl⟩
    have hres:(if 8<nth (s.p.hand s.p.side) mk.toNat+1 then [] else [u])=zcy u (decide (nth s.p.h0 mk.toNat+1<=8)):=by
     grind [zae.hand,zcy]
    rw [<- hu,hres];have hue:zaO u= [.lst 1 ((s.p.at_.map zd2).set s.cursor.toNat [.int 0]), .lst 1 ((s.p.h0.map zd2).set mk.toNat [.int (nth s.p.h0 mk.toNat+1)]), .lst 1 (s.p.h1.map zd2), .int s.p.rights, .int s.p.side, .int s.kind, .int s.cursor, .v (.bool true)]:=by
     grind [zaO,zae.withHand,zae.hand,clr,zaG,zd2,List.map_set]
    have hP':=hP u;rw [hue,hsd] at hP';(repeat (first|with_reducible (first|refine wL λ _=>?_|refine wD λ _=>?_|refine wE ?_)|simp [go_sem,hsd,hmk0,hcur]))
    refine zFY.frz (zhF _ [4,83,163]) (zi2 _ _) ?_;repeat first|refine wV λ _=>?_|simp [go_sem,hsd,hmk0,hcur,zhF,zkt]
    refine zbV.frz _ _ [4,83,163] [] (hP' (decide (nth s.p.h0 mk.toNat+1<=8))) ac ?_ ae ?_
    ·intro h₁ hS;have e4:=hS 4 ac;have e5:=hS 83 ac;have e6:=hS 163 ac;simp [upd,zhF,zkt] at e4 e5 e6;refine .cons (.agg (.cons (zaq e4.symm ac (by simp [zap,<- e4]) az) (.cons (zaq e5.symm ac (by simp [zap,<- e5]) az) (.cons (zaq e6.symm ac (by simp [zap,<- e6]) az) (.refl _ _ _ _))))) (.refl _ _ _ _)
    ·exact K0
   ·have hmk0:mk.toNat<s.p.h1.length:=by omega
    have hv:=hs.p.h1.v _ hmk0;obtain ⟨u,hu⟩:∃u:StD,u={ s with p:=(clr s.p s.cursor).withHand s.p.side ((s.p.hand s.p.side).set mk.toNat (nth (s.p.hand s.p.side) mk.toNat+1)),took:=true}:=⟨_,rfl⟩
    have hres:(if 8<nth (s.p.hand s.p.side) mk.toNat+1 then [] else [u])=zcy u (decide (nth s.p.h1 mk.toNat+1<=8)):=by
     grind [zae.hand,zcy]
    rw [<- hu,hres];have hue:zaO u= [.lst 1 ((s.p.at_.map zd2).set s.cursor.toNat [.int 0]), .lst 1 (s.p.h0.map zd2), .lst 1 ((s.p.h1.map zd2).set mk.toNat [.int (nth s.p.h1 mk.toNat+1)]), .int s.p.rights, .int s.p.side, .int s.kind, .int s.cursor, .v (.bool true)]:=by
     grind [zaO,zae.withHand,zae.hand,clr,zaG,zd2,List.map_set]
    have hP':=hP u;rw [hue,hsd] at hP';(repeat (first|with_reducible (first|refine wL λ _=>?_|refine wD λ _=>?_|refine wE ?_)|simp [go_sem,hsd,hmk0,hcur]))
    refine zFY.frz (zhF _ [4,83,163]) (zi2 _ _) ?_;repeat first|refine wV λ _=>?_|simp [go_sem,hsd,hmk0,hcur,zhF,zkt]
    refine zbV.frz _ _ [4,83,163] [] (hP' (decide (nth s.p.h1 mk.toNat+1<=8))) ac ?_ ae ?_
    ·intro h₁ hS;have e4:=hS 4 ac;have e5:=hS 83 ac;have e6:=hS 163 ac;simp [upd,zhF,zkt] at e4 e5 e6;refine .cons (.agg (.cons (zaq e4.symm ac (by simp [zap,<- e4]) az) (.cons (zaq e5.symm ac (by simp [zap,<- e5]) az) (.cons (zaq e6.symm ac (by simp [zap,<- e6]) az) (.refl _ _ _ _))))) (.refl _ _ _ _)
    ·exact K0
theorem zIj (hg:GOk g) (hs:zjk g s):ztw 306 g s n (zpB g s n):=by
 refine pF Tryz.func306 ?_;have hT:=zqy g.board hg.board s.p.side n s.cursor;have hal:=hs.p.al;have hc0:=hs.c0;have hc1:=hs.c1;have hcur:s.cursor.toNat<s.p.at_.length:=aa;have hcp:=zoC s (hs.p.fits hg);have hto:=ziJ hg.board s.p.side n s.cursor;rw [show g.board.cells=g.cells from rfl] at hto;unfold zpB;generalize toB g.board s.p.side n s.cursor=to at *;refine J0 ?_;refine aP hT ?_;by_cases ht:to<0
 ·rw [if_pos (.inr (.inl ht))];have ht0:to.toNat=0:=aa;have h0l:0<s.p.at_.length:=aa;exact K4 hcur ht ht0 h0l
 ·have htl:to.toNat<s.p.at_.length:=by omega
  have ht':0<=to:=aa;refine J3 hcur ht htl ?_;refine zNX (λ hc=> ?_) (λ hc=> ?_)<;>simp at hc
  ·rw [if_pos aa];exact K0
  ·rw [if_neg aa];refine J1 hcur ?_;refine zN1 hcp ae ?_;refine J2 hcur htl ?_;(first|done|exact dpX)
theorem zz6:ztw 307 g s n [{ s with kind:=n}]:=by
 refine pF Tryz.func307 ?_;refine J0 ?_;exact frX
theorem zHU (h0:0<=n) (h4:n<64):ztw 308 g s n (zcy s (decide (zru .i64 (s.p.rights.fdiv (2 ^ n.toNat)) 1=1))):=by
 refine pF Tryz.func308 ?_;have hP:=zeN s;refine J0 ?_;refine dP (hP _) ?_;exact K0
theorem zHK (h0:0<=n) (h4:n<=4):ztw 309 g s n [{ s with p:={ s.p with rights:=zgl .i64 s.p.rights (2 ^ n.toNat)}}]:=by
 refine pF Tryz.func309 ?_;have hpn:=zq1 h0 h4;refine J0 ?_;exact frX
end
end Go.Av
end
section
open Go Go.Proofs
namespace Go.Av
theorem zIO (g:zaa) (hg:GOk g) (s:StD) (hs:zjk g s) (x:Int×Int) (hx:zfn g.next.length g.kinds.length g.rights x):
  zav Tryz.prog 280 [.agg (zad g), .agg (zaO s), .agg (zbT x)] (zdJ (zck g s x)):=by
 refine pF Tryz.func280 ?_;have r4:=hg.r4;obtain ⟨op,n⟩:=x;obtain ⟨xo,xd,xz,xk,xr⟩:=hx;simp only at xo xd xz xk xr;rcases (show op=1∨op=2∨op=3∨op=4∨op=5∨op=6∨op=7∨op=8∨op=9∨op=10 by omega) with rfl|rfl|rfl|rfl|rfl|rfl|rfl|rfl|rfl|rfl
 ·have hS:=zI6 g s n hg;refine J0 ?_;refine dP hS ?_;refine J0 ?_;grind [zN9,zck]
 ·have hS:=zFa g s n hg hs;refine J0 ?_;refine dP hS ?_;refine J0 ?_;grind [zN9,zck]
 ·have hS:=zDI g s n hg hs;refine J0 ?_;refine dP hS ?_;refine J0 ?_;grind [zN9,zck]
 ·have hS:=zDM g s n hg hs;refine J0 ?_;refine dP hS ?_;refine J0 ?_;grind [zN9,zck,zcy]
 ·have hS:=zAy g s n hg hs;refine J0 ?_;refine dP hS ?_;refine J0 ?_;grind [zN9,zck,zcy]
 ·have hS:=zIR g s n hg hs;refine J0 ?_;refine dP hS ?_;refine J0 ?_;grind [zN9,zck]
 ·have hS:=zIj g s n hg hs;refine J0 ?_;refine dP hS ?_;refine J0 ?_;grind [zN9,zck]
 ·have hS:=zz6 g s n;refine J0 ?_;refine dP hS ?_;refine J0 ?_;grind [zN9,zck,zaO,zaG]
 ·have hn:=xr aa;have hS:=zHU g s n hn.1 aa;refine J0 ?_;refine dP hS ?_;refine J0 ?_;grind [zN9,zck]
 ·have hn:=xr aa;have hS:=zHK g s n hn.1 aa;refine J0 ?_;refine dP hS ?_;refine J0 ?_;grind [zN9,zck,zaO,zaG]
theorem zCX (m:Int) (h0:0<=m) (h1:m<=17179869184):ztr Tryz.prog 193 [AV.nils, .int m] (λ n=> .sl n 0 1 0 0) (λ n=> [(n, .rows true 0 1 [])]) 1:=by
 refine ⟨?_,λ n=>⟨ae,ae⟩⟩;by_cases hm:m=0
 ·subst hm;refine aF Tryz.func193 ?_;refine J0 ?_;simp [go_sem,zaf]
 ·refine zaj.clear ?_;refine aF Tryz.func193 ?_;refine J0 ?_;refine FxF ?_;refine J0 ?_;refine FxT ?_;refine J0 ?_;refine ⟨0,0,1,ai,⟨rfl,rfl,rfl⟩, ?_⟩;simp [go_sem,zaf]
theorem zw6 (a b c d:List Int) (ha:a.length<=1000) (hb:b.length<=1000) (hc:c.length<=1000) (hd:d.length<=1000):zav Tryz.prog 142 [.lst 1 [[zaG a], [zaG b], [zaG c], [zaG d]]] (zaG (a++b++c++d)):=by
 refine pF Tryz.func142 ?_;refine J0 ?_;refine zNZ ?_;refine J0 ?_;refine FxF ?_;refine J0 ?_;refine zNZ ?_;refine J0 ?_;refine FxF ?_;refine J0 ?_;refine zNZ ?_;refine J0 ?_;refine FxF ?_;refine J0 ?_;refine zNZ ?_;refine J0 ?_;refine FxF ?_;refine J0 ?_;refine zNZ ?_;refine J0 ?_;refine zN1 (zCX _ aa aa) ae ?_;refine J0 ?_;refine zNZ ?_;refine J0 ?_;refine zNZ ?_;refine J0 ?_;refine zNZ ?_;refine J0 ?_;refine zNZ ?_;refine J0 ?_;refine zNZ ?_;refine J0 ?_;exact frX

theorem zxF:∀l:List Int,zjn (l.map zAn)=some l
 | []=>rfl
 |n::l=>by rw [List.map_cons,zAn,zjn,zxF l];rfl
def zwX (p:zae):List Int:=p.at_++p.h0++p.h1++ [p.rights,p.side]
def zld (p:zae):ByteArray:=zjz (zwX p)
theorem zBE (p:zae) (ha:p.at_.length<=100) (hb:p.h0.length<=100) (hc:p.h1.length<=100) (hv:∀x ∈ zwX p,0<=x∧x<=255):zav Tryz.prog 138 [.agg (zag p)] (.v (.string (zld p))):=by
 refine pF Tryz.func138 ?_;have hC:zav Tryz.prog 142 [.lst 1 [[.lst 1 (p.at_.map zd2)], [.lst 1 (p.h0.map zd2)], [.lst 1 (p.h1.map zd2)], [.lst 1 [[.int p.rights], [.int p.side]]]]] (zaG (p.at_++p.h0++p.h1++ [p.rights,p.side])):=
  zw6 p.at_ p.h0 p.h1 [p.rights,p.side] aa aa aa ac
 have hll:(zwX p).length<=302:=by grind [zwX]
 unfold zld;rw [show p.at_++p.h0++p.h1++ [p.rights,p.side]=zwX p from rfl] at hC;generalize zwX p=l at *;refine J0 ?_;refine zN3 [1,2] hC ?_ ae ?_
 ·(first|done|exact leX)
 refine J0 ?_;refine zNW (zNY (α:=Nat) (λ i=>⟨[(3, .sl 3 i 1 0 i),(20,zaG l),(21, .int l.length),(22, .int i)], [(3, .rows true i 1 ((l.take i).map zAn))],4⟩)
  (λ d i=>i+d=l.length) ?_ l.length 0 ?_) ?_ ?_
 ·rintro d i i1 hrec;refine J0 ?_;refine zNX (λ hi=> ?_) (λ hi=> ?_)<;>simp at hi
  ·have hx:=hv _ (zah hi);have hem:(nth l i).emod 256=nth l i:=Int.emod_eq_of_lt hx.1 aa;have hem2:nth l i % 256=nth l i:=hem;refine J3 hi hem hem2 ?_;refine zNW (hrec (d - 1) aa (i+1) aa) ?_ ac;rw [List.take_add_one,List.getElem?_eq_getElem hi,<- zcp _ _ hi];simp [go_sem,zaf,zAn,hem,hem2];intro x hx c hc;obtain ⟨y, _,rfl⟩:=List.mem_map.1 (List.mem_of_mem_take hx);simp only [zAn,List.mem_singleton] at hc;subst hc;exact .v _
  ·have hb:zjn (List.take i (List.map zAn l))=some l:=by grind [List.take_of_length_le,zxF]
   have hb2:zjn (List.take i (List.take i (List.map zAn l)))=some l:=af;exact K2 hb hb2
 ·omega
 ·simp [go_sem,zaf]
 ·simp
def zrN (n:Int):ByteArray:=zjz [48+n]
theorem zBm (n:Int) (h0:0<=n) (h1:n<10):zav Tryz.prog 338 [.int n] (.v (.string (zrN n))):=by
 refine pF Tryz.func338 ?_;rcases (show n=0∨n=1∨n=2∨n=3∨n=4∨n=5∨n=6∨n=7∨n=8∨n=9 by omega) with rfl|rfl|rfl|rfl|rfl|rfl|rfl|rfl|rfl|rfl<;>((repeat (first|refine wV λ _=>?_|simp [go_sem])))<;>exact zN9 ah
theorem zy6 (n:Int) (h0:0<=n) (h1:n<10):zav Tryz.prog 336 [.int n, .int 10] (.v (.string (zrN n))):=by
 refine pF Tryz.func336 ?_;have hS:=zBm n h0 h1;have h1':n<100:=aa;refine J2 h0 h1' ?_;refine aP hS ?_;exact K0
theorem zE7 (n:Int) (h0:0<=n) (h1:n<10):zav Tryz.prog 329 [.int n] (.v (.string (zrN n))):=by
 refine pF Tryz.func329 ?_;have hS:=zy6 n h0 h1;refine J0 ?_;refine aP hS ?_;exact K0
theorem zw9 (n:Int) (h0:0<=n) (h1:n<10):zav Tryz.prog 310 [.int n] (.v (.string (zrN n))):=by
 refine pF Tryz.func310 ?_;have hS:=zE7 n h0 h1;refine J0 ?_;refine aP hS ?_;exact K0
theorem zE6 (b:Bool):zav Tryz.prog 330 [.v (.bool b)] (.v (.string (if b then zjz [116,114,117,101] else zjz [102,97,108,115,101]))):=by
 refine pF Tryz.func330 ?_;cases b
 ·refine J0 ?_;exact zN9 ah
 ·refine J0 ?_;exact zN9 ah
theorem zFE (b:Bool):zav Tryz.prog 311 [.v (.bool b)] (.v (.string (if b then zjz [116,114,117,101] else zjz [102,97,108,115,101]))):=by
 refine pF Tryz.func311 ?_;have hS:=zE6 b;refine J0 ?_;refine aP hS ?_;exact K0
theorem zqf:∀ (l:List Int) (r:ByteArray),(l.foldl (λ r n=>r.push (UInt8.ofNat n.toNat)) r).data.toList=r.data.toList++l.map λ n=>UInt8.ofNat n.toNat
 | [],r=>ac
 |n::l,r=>by
  rw [List.foldl_cons,zqf l];simp [ByteArray.push]
theorem zmk (l:List Int):(zjz l).data.toList=l.map λ n=>UInt8.ofNat n.toNat:=by
 simp_all [zjz,zqf]
theorem zmI (l:List Int):(zjz l).size=l.length:=by
 grind [ByteArray.size_data,zmk,List.length_map]
def zqj (s:StD):ByteArray:=zrN s.kind++zjz [32]++zrN s.cursor++zjz [32]++(if s.took then zjz [116,114,117,101] else zjz [102,97,108,115,101])++zjz [32]++zld s.p
theorem zKz (s:StD) (hk:0<=s.kind∧s.kind<10) (hc:0<=s.cursor∧s.cursor<10) (h1:s.p.at_.length<=100) (h2:s.p.h0.length<=100) (h3:s.p.h1.length<=100) (hv:∀x ∈ zwX s.p,0<=x∧x<=255):
  zav Tryz.prog 281 [.agg (zaO s)] (.v (.string (zqj s))):=by
 refine pF Tryz.func281 ?_;have hK:=zw9 s.kind hk.1 hk.2;have hC:=zw9 s.cursor hc.1 hc.2;have hB:=zFE s.took;have hP:=zBE s.p h1 h2 h3 hv;have hdk:(zrN s.kind).size=1:=zmI _;have hdc:(zrN s.cursor).size=1:=zmI _;have hdb:(if s.took then zjz [116,114,117,101] else zjz [102,97,108,115,101]).size<=5:=by grind [zmI]
 have hdp:(zld s.p).size<=302:=by grind [zld,zmI,zwX]
 have h32:(ByteArray.mk ⟨[32]⟩).size=1:=rfl;unfold zqj;rw [show zjz [32]=ByteArray.mk ⟨[32]⟩ from rfl];generalize zrN s.kind=dk at *;generalize zrN s.cursor=dc at *;generalize (if s.took then zjz [116,114,117,101] else zjz [102,97,108,115,101])=db at *;generalize zld s.p=dp at *;generalize ByteArray.mk ⟨[32]⟩=sp at *;refine J0 ?_;refine dP hK ?_;refine J0 ?_;refine dP hC ?_;refine J0 ?_;refine dP hB ?_;refine J0 ?_;refine dP hP ?_;exact K0
def zkG (side:Int) (x:Int×Int) (s:StD) (l:List zca):List zca:=if x.1=0 then l++(zhP side s).toList else l
def zKK (p:zae) (l:List zca):List (Nat×zcr):= [(0, .rows true 0 5 [zag p]),(1, .rows true 0 1 [[.sl 2 l.length 6 0 l.length]]),(2, .rows true l.length 6 (l.map zbm))]
theorem zHJ (g:zaa) (hg:GOk g) (p:zae) (hp:POk g p) (s:StD) (hs:zjk g s) (hsd:s.p.side=p.side) (x:Int×Int) (l:List zca) (hl:l.length<=100000000):
  zcj Tryz.prog 245 [.agg (zaO s), .agg (zbT x), .ref 0 0 5 0 0, .ref 1 0 1 0 0] (zKK p l) 3 (.tup []) (zKK p (zkG p.side x s l)) 3:=by
 unfold zcj zKK;refine aF Tryz.func245 ?_;obtain ⟨hcur,h0,hm, _⟩:=zyF g s hg hs;have hcp:=zoC s (hs.p.fits hg);have hC:=zmB s.kind p.side;have hps:=hp.s;obtain ⟨op,xn⟩:=x;refine J1 hcur ?_;refine zNX (λ hc=> ?_) (λ hc=> ?_)<;>simp at hc
 ·have e:zkG p.side (op,xn) s l=l:=by
   grind [zkG,zhP]
  rw [e];refine J0 ?_;simp [go_sem,zaf]
 ·have e:zkG p.side (op,xn) s l=l++ [⟨{ s.p with at_:=s.p.at_.set s.cursor.toNat (zdF s.kind p.side),side:=1 - p.side},s.took⟩]:=by
   grind [zkG,zhP]
  rw [e];generalize zdF s.kind p.side=code at *;refine J1 hcur ?_;refine zN1 hcp ae ?_;refine J1 hcur ?_;refine dP hC ?_;refine J1 hcur ?_;simp [go_sem,zaf];(first|done|exact rwX)
theorem zfa {n:Nat} (l:List zca):∀r ∈ l.map zbm,∀c ∈ r,Bel n c:=by
 intro r hr c hc;obtain ⟨x, _,rfl⟩:=List.mem_map.1 hr;revert c;simp [go_sem]
def zyz (h:zay) (a b c:Nat) (p:zae) (l:List zca):zay:=upd (upd (upd h a (some (.rows true 0 5 [zag p]))) b (some (.rows true 0 1 [[.sl c l.length 6 0 l.length]]))) c (some (.rows true l.length 6 (l.map zbm)))
theorem zyA (g:zaa) (hg:GOk g) (p:zae) (hp:POk g p) (s:StD) (hs:zjk g s) (hsd:s.p.side=p.side) (x:Int×Int) (l:List zca) (hl:l.length<=100000000){h:zay}{n a b c:Nat}
  (hd: [a,b,c].Nodup) (hlt:∀j ∈ [a,b,c],j<n) (ha:h a=some (.rows true 0 5 [zag p])) (hb:h b=some (.rows true 0 1 [[.sl c l.length 6 0 l.length]])) (hc:h c=some (.rows true l.length 6 (l.map zbm))) {K:zbH}
  (hK:K (.tup []) (zyz h a b c p (zkG p.side x s l)) n):
  zaj Tryz.prog 245 [.agg (zaO s), .agg (zbT x), .ref a 0 5 0 0, .ref b 0 1 0 0] h n K:=by
 have hbs:∀m,Bel m (.agg (zaO s)):=λ m=>ae;have hbx:∀m,Bel m (.agg (zbT x)):=λ m=>ae;have hbp:∀m,∀c ∈ zag p,Bel m c:=λ m=>ae;refine zN8 (args':= [.agg (zaO s), .agg (zbT x), .ref a 0 5 0 0, .ref b 0 1 0 0])
  (HH:= [(a, .rows true 0 5 [zag p]),(b, .rows true 0 1 [[.sl c (zkG p.side x s l).length 6 0 (zkG p.side x s l).length]]),(c, .rows true (zkG p.side x s l).length 6 ((zkG p.side x s l).map zbm))])
  [a,b,c] h (zHJ g hg p hp s hs hsd x l hl) hd hlt rfl (Nat.le_refl _) (.refl _) ?_ ?_ (.refl _ _ _ _) ?_ ?_ ?_ (.same ?_) ?_ ?_
 ·intro j hj;rcases (show j=0∨j=1∨j=2 by omega) with rfl|rfl|rfl
  ·exact ⟨_, _,rfl,ha, .rows (.same af)⟩
  ·exact ⟨_, _,rfl,hb, .rows (.cons (.cons (.sl rfl) .nil) .nil)⟩
  ·exact ⟨_, _,rfl,hc, .rows (.same (zfa _))⟩
 ·intro q hq;simp only [zKK,List.mem_cons,List.not_mem_nil,or_false] at hq;rcases hq with rfl|rfl|rfl
  ·grind [zqr]
  ·exact ⟨Nat.le_of_ble_eq_true rfl,by simp [go_sem,zqr]⟩
  grind [zfa,zqr]
 ·intro y hy;simp only [List.mem_cons,List.not_mem_nil,or_false] at hy;rcases hy with rfl|rfl|rfl|rfl
  ·grind
  ·grind
  ·exact .ref (hlt a ac)
  ·exact .ref (hlt b ac)
 ·exact .cons (.same (hbs _)) (.cons (.same (hbx _)) (.cons (.ref rfl) (.cons (.ref rfl) .nil)))
 ·intro y hy;simp only [List.mem_cons,List.not_mem_nil,or_false] at hy;rcases hy with rfl|rfl|rfl|rfl
  ·grind
  ·grind
  ·exact .ref ai
  ·exact .ref ai
 ·exact .tup ac
 ·exact .cons rfl (.rows (.same af)) (.cons rfl (.rows (.cons (.cons (.sl rfl) .nil) .nil)) (.cons rfl (.rows (.same (zfa _))) .nil))
 ·have e:zdU [(a, .rows true 0 5 [zag p]),(b, .rows true 0 1 [[.sl c (zkG p.side x s l).length 6 0 (zkG p.side x s l).length]]),(c, .rows true (zkG p.side x s l).length 6 ((zkG p.side x s l).map zbm))] (ziM [a,b,c] h)=zyz h a b c p (zkG p.side x s l):=by
   simp only [List.nodup_cons,List.mem_cons,List.not_mem_nil,or_false,not_or,List.nodup_nil,and_true,not_false_eq_true] at hd;obtain ⟨⟨d1,d2⟩,d3⟩:=hd;funext j;simp only [zdU,ziM,zyz,upd];grind
  grind
def zM4 (s:StD):List Int:= [48+s.kind,32,48+s.cursor,32]++((if s.took then [116,114,117,101] else [102,97,108,115,101])++([32]++zwX s.p))
theorem zAK (s:StD):(zqj s).data.toList=(zM4 s).map λ n=>UInt8.ofNat n.toNat:=by
 unfold zqj zrN zld zM4;cases s.took<;>simp [ByteArray.data_append,zmk]
theorem u8_inj {x y:Int} (hx:0<=x∧x<=255) (hy:0<=y∧y<=255) (h:UInt8.ofNat x.toNat=UInt8.ofNat y.toNat):x=y:=by
 grind [UInt8.toNat_ofNat']
theorem zpt:∀ {l l':List Int},(∀x ∈ l,0<=x∧x<=255)->(∀x ∈ l',0<=x∧x<=255)->(l.map λ n=>UInt8.ofNat n.toNat)=(l'.map λ n=>UInt8.ofNat n.toNat)->l=l'
 | [], [], _, _, _=>rfl
 | [], _:: _, _, _,h=>bm
 | _:: _, [], _, _,h=>bm
 |x::l,y::l',h1,h2,h=>by
  simp only [List.map_cons,List.cons.injEq] at h;rw [u8_inj (h1 x ac) (h2 y ac) h.1,zpt (λ z hz=>h1 z (by simp [hz])) (λ z hz=>h2 z (by simp [hz])) h.2]
theorem zrt {g:zaa} (hg:GOk g){p:zae} (hp:POk g p):∀x ∈ zwX p,0<=x∧x<=255:=by
 have k6:=hg.k6;have r0:=hp.r0;have r1:=hp.r1;have hr:(2:Int) ^ g.rights.toNat<=16:=by
  have h1:=hg.r0;have h2:=hg.r4;rcases (show g.rights=0∨g.rights=1∨g.rights=2∨g.rights=3∨g.rights=4 by omega) with h|h|h|h|h<;>rw [h]<;>decide
 have hh:∀l,ziR g l->∀x ∈ l,0<=x∧x<=255:=by
  intro l hl x hx;obtain ⟨i,hi,rfl⟩:=List.mem_iff_getElem.1 hx;have:=hl.v i hi;grind [nth]
 intro x hx;simp only [zwX,List.mem_append,List.mem_cons,List.not_mem_nil,or_false] at hx;rcases hx with ((hx|hx)|hx)|hx|hx
 ·have:=hp.av x hx;omega
 ·exact hh _ hp.h0 x hx
 ·exact hh _ hp.h1 x hx
 ·omega
 ·have:=hp.s;omega
theorem zKy {g:zaa} (hg:GOk g){a b:StD} (ha:zjk g a) (hb:zjk g b) (h:zqj a=zqj b):a=b:=by
 have k6:=hg.k6;have c9:=hg.c9;have hv:∀s,zjk g s->∀x ∈ zM4 s,0<=x∧x<=255:=by
  intro s hs x hx;have hk:=hs.k;have h0:=hs.c0;have h1:=hs.c1;unfold zM4 at hx;rcases List.mem_append.1 hx with hx|hx
  ·grind
  rcases List.mem_append.1 hx with hx|hx
  ·by_cases ht:s.took=true<;>simp [ht] at hx<;>omega
  rcases List.mem_append.1 hx with hx|hx
  ·grind
  ·exact zrt hg hs.p x hx
 have h1:zM4 a=zM4 b:=zpt (hv a ha) (hv b hb) (by grind [zAK]);obtain ⟨pa,ka,ca,ta⟩:=a;obtain ⟨pb,kb,cb,tb⟩:=b;unfold zM4 at h1;simp only [List.cons_append,List.nil_append,List.cons.injEq,true_and] at h1;obtain ⟨e1,e2,h1⟩:=h1;obtain rfl:ka=kb:=aa;obtain rfl:ca=cb:=aa;have h2:ta=tb∧zwX pa=zwX pb:=by
  grind
 obtain ⟨rfl,h2⟩:=h2;have a1:=ha.p.al;have b1:=hb.p.al;have a2:=ha.p.h0.len;have b2:=hb.p.h0.len;have a3:=ha.p.h1.len;have b3:=hb.p.h1.len;obtain ⟨pat,ph0,ph1,pr,ps⟩:=pa;obtain ⟨qat,qh0,qh1,qr,qs⟩:=pb;simp only [zwX,List.append_assoc] at h2 a1 b1 a2 b2 a3 b3;obtain ⟨e3,h3⟩:=List.append_inj h2 aa;grind [List.append_inj]
def zk0 (s:StD):List AV:= [.v (.string (zqj s)), .v (.bool true)]
theorem zJW {n:Nat}{l:List StD}:(∀r ∈ l.map zk0,∀c ∈ r,Bel n c)=True:=by
 refine eq_true ?_;intro r hr c hc;obtain ⟨x, _,rfl⟩:=List.mem_map.1 hr;simp only [zk0,List.mem_cons,List.not_mem_nil,or_false] at hc;rcases hc with rfl|rfl<;>exact .v _
attribute [go_sem ↓] zJW
theorem zx5 (t:StD):∀ (next:List StD),(∀s ∈ next,zqj t=zqj s->t=s)->zct .string (.v (.string (zqj t))) (next.map zk0)=some (if t ∈ next then some (.v (.bool true)) else none)
 | [], _=>by simp [zct]
 |s::next,h=>by
  rw [List.map_cons,zct];have e:zir .string (.v (.string (zqj t))) (cel (zk0 s) 0)=some (zqj t==zqj s):=rfl;rw [e,zjP];by_cases hk:zqj t=zqj s
  ·have:=h s ac hk;subst this;simp [zk0,cel]
  ·have hne:t≠s:=λ e=>hk (by rw [e]);rw [decide_eq_false hk];simp only;rw [zx5 t next (λ u hu=>h u dB)];simp [hne]
theorem zCA (t:StD):∀ (next:List StD),(∀s ∈ next,zqj t=zqj s->t=s)->t ∉ next->zdv .string (.v (.string (zqj t))) (.v (.bool true)) (next.map zk0)=some ((next++ [t]).map zk0)
 | [], _, _=>by simp [zdv,zk0]
 |s::next,h,hn=>by
  rw [List.map_cons,zdv];have e:zir .string (.v (.string (zqj t))) (cel (zk0 s) 0)=some (zqj t==zqj s):=rfl;rw [e,zjP];have hk:zqj t≠zqj s:=λ e=>hn (by rw [h s ac e];simp);rw [decide_eq_false hk];simp only;rw [zCA t next (λ u hu=>h u dB) (λ hm=>hn (by simp [hm]))];simp
end Go.Av
end
