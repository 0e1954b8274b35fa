/- Texts of ours, part 8: our library and contracts of functions. -/
import Derived.Test.YtgdfnfffibhkjaaGreatDoorB07
import Derived.Shelf.SlSortCmp.NoneTotal
import Derived.Test.YtgdfnfffibhkjaaGreatDoorProg
set_option linter.unusedSimpArgs false
set_option linter.unusedVariables false
set_option maxRecDepth 100000
set_option maxHeartbeats 40000000
set_option linter.unusedSectionVars false
section
namespace Go.Av
open Go Go.Sort Go.Shelf Go.Proofs
structure El (w:World) (M:Nat->Prop){α:Type} (en:α->List AV) (Q:α->Prop) where
 x:α
 vs:List Value
 q:Q x
 rel:aU rT w M (en x) vs
 cells:∀v ∈ vs,gx v=true
theorem GD {w:World}{M:Nat->Prop}{α:Type}{en:α->List AV}{Q:α->Prop}:∀ {l:List α}{W:List Value},(∀x ∈ l,Q x)->aU rT w M (l.map en).flatten W->(∀v ∈ W,gx v=true)->
  ∃ls:List (El w M en Q),ls.map (·.x)=l∧(ls.map (·.vs)).flatten=W
 | [],W, _,h, _=>by cases h;exact ⟨[],rfl,rfl⟩
 |x::l,W,hq,h,hc=>by
  obtain ⟨us,ts,rfl,h1,h2⟩:=h.split;obtain ⟨ls,e1,e2⟩:=GD (λ y hy=>hq y WR) h2 (λ v hv=>hc v (by simp [hv]));exact ⟨⟨x,us,hq x gt,h1,λ v hv=>hc v (by simp [hv])⟩::ls,by simp [e1],by simp [e2]⟩
theorem Ot {k:Nat} (hk:0<k):∀ (ls:List (List Value)) (t:Nat),(∀r ∈ ls,r.length=k)->t<ls.length * k->ls.flatten[t]? =(ls[t / k]?).bind (·[t % k]?)
 | [],t, _,h=>WZ
 |r::ls,t,hr,h=>by
  have hl:r.length=k:=hr r gt;rw [List.flatten_cons];by_cases ht:t<k
  ·rw [List.getElem?_append_left ge,Nat.div_eq_of_lt ht,Nat.mod_eq_of_lt ht];rfl
  ·obtain ⟨s,rfl⟩:∃s,t=s+k:=⟨t - k,ge⟩
   have hs:s<ls.length * k:=by simp only [List.length_cons,Nat.add_mul,Nat.one_mul] at h;omega
   rw [List.getElem?_append_right ge,hl,Nat.add_sub_cancel,Ot hk ls s (λ r hr'=>hr r (by simp [hr'])) hs,Nat.add_div_right _ hk,Nat.add_mod_right,List.getElem?_cons_succ]
theorem GT {β:Type} [Inhabited β] (enc:β->List Value){k:Nat} (hk0:0<k) (hk:∀x,(enc x).length=k) (d:Array β):(flatK enc k d).toList=(d.toList.map enc).flatten:=by
 refine List.ext_getElem? λ t=> ?_;have hr:∀r ∈ d.toList.map enc,r.length=k:=λ r hr=>pi;have hlen:((d.toList.map enc).flatten).length=d.size * k:=by
  have:∀ls:List (List Value),(∀r ∈ ls,r.length=k)->ls.flatten.length=ls.length * k:=by
   intro ls;induction ls<;>grind
  grind
 by_cases ht:t<d.size * k
 ·have h1:=get_flatK enc k d t ht;have hq:t / k<d.size:=Nat.div_lt_of_lt_mul pi;have hm:t % k<k:=Nat.mod_lt _ hk0;have hs:t<(flatK enc k d).size:=by grind [size_flatK]
  rw [Ot hk0 _ t hr pi,Array.getElem?_toList,Array.getElem?_eq_getElem hs,<- getElem!_pos (flatK enc k d) t hs,h1,List.getElem?_map,Array.getElem?_toList,Array.getElem?_eq_getElem hq,
   getElem!_pos d (t / k) hq]
  grind
 grind [size_flatK]
variable {T:TypeId} {C:Array Value} {blk off:Nat} {w:World}
theorem SI  (hb:w.heap[blk]? =some (.cells C T (0,0))){F:Array Value} (hF:off+F.size<=C.size) (n:Nat) (os:Array Obj):
  ∃C',(grow (putRow id (Sort.ahead w n) blk off F) os).heap[blk]? =some (.cells C' T (0,0))∧C'.size=C.size∧(C'.toList.drop off).take F.size=F.toList∧
   (∀j,j≠blk->j<w.heap.size->(grow (putRow id (Sort.ahead w n) blk off F) os).heap[j]? =w.heap[j]?)∧w.heap.size<=(grow (putRow id (Sort.ahead w n) blk off F) os).heap.size:=by
 have hsz:(putRow id (Sort.ahead w n) blk off F).heap.size=w.heap.size:=WW;have hold:∀j,j<w.heap.size->(grow (putRow id (Sort.ahead w n) blk off F) os).heap[j]? =(w.heap.modify blk (onCells (putCells id off F)))[j]? :=by
  intro j hj;show (_++os)[j]? = _;rw [Array.getElem?_append_left ge];rfl
 refine ⟨putCells id off F C, ?_,by simp [putCells], ?_,λ j hj hjl=> ?_, ?_⟩
 ·grind [onCells]
 ·refine List.ext_getElem? λ j=> ?_;grind [putCells]
 all_goals grind
theorem uJ  (hb:w.heap[blk]? =some (.cells C T (0,0))){β:Type} [Inhabited β] (enc:β->List Value) (k:Nat) (d:Array β) (hF:off+d.size * k<=C.size) (n:Nat) (os:Array Obj):
  ∃C',(sortWorldK enc k w blk off n d os).heap[blk]? =some (.cells C' T (0,0))∧C'.size=C.size∧(C'.toList.drop off).take (d.size * k)=(flatK enc k d).toList∧
   (∀j,j≠blk->j<w.heap.size->(sortWorldK enc k w blk off n d os).heap[j]? =w.heap[j]?)∧w.heap.size<=(sortWorldK enc k w blk off n d os).heap.size∧
   (sortWorldK enc k w blk off n d os).os=w.os∧(sortWorldK enc k w blk off n d os).tape=w.tape∧(sortWorldK enc k w blk off n d os).output=w.output∧w.drawn<=(sortWorldK enc k w blk off n d os).drawn:=by
 obtain ⟨C',h1,h2,h3,h4,h5⟩:=SI hb (F:=flatK enc k d) (by rw [size_flatK];exact hF) n os;rw [size_flatK] at h3;exact ⟨C',h1,h2,h3,h4,h5,rfl,rfl,rfl,Nat.le_add_right _ _⟩
theorem PR {α β:Type}{lt:α->α->Bool} (h:SWO lt) (f:β->α):SWO (λ a b=>lt (f a) (f b)):=⟨λ _=>h.irrefl _,λ _ _ _=>h.trans _ _ _,λ _ _ _=>h.ntrans _ _ _⟩
theorem zhs {P:Program}{ρ:Ren} (L:SlLaysF0.n6 P ρ){α:Type}{k:Nat} (hk0:0<k) (aE:∀w,(isAgg (ρ.t 24)).run P w= .ok true w) (zE:∀w,(Go.sizeOf (ρ.t 24)).run P w= .ok k w)
  (en:α->List AV) (henl:∀x,(en x).length=k) (henb:∀x,∀c ∈ en x,aN 0 c) (Q:α->Prop) (cf:α->α->Int) (hO:SWO (λ a b:α=>decide (cf a b<0))) (g:FuncId)
  (hC:∀x y,Q x->Q y->aq P g [.agg (en x), .agg (en y)] (.v (.int .i64 (cf x y)))) (hg:kH P g) (l:List α) (hQ:∀x ∈ l,Q x) (hl:l.length<4611686018427387904) {h:au} {n o gn:Nat}
  (ho:h o=some (.rows true gn k (l.map en))) {K:cI} (hK:∀l':List α,l'.Perm l->l'.Pairwise (λ a b=>¬cf b a<0)->K (.tup []) (aC h o (some (.rows true gn k (l'.map en)))) n):
  ap P (ρ.f 6) [.sl o gn k 0 l.length, .fn (.func g) [] []] h n K:=by
 have e6:kH P (ρ.f 6):=L.f6.enters rfl;refine ⟨e6,λ M0 φ w vs hH hargs=> ?_⟩;cases hargs with
 |cons hs ht=>
 cases ht with
 |cons hf ht=>
 cases ht;cases hf with
 | @fn _ _ _ fs cs q1 q2=>
 cases q1;cases q2;have hal:fI h o gn k:=W7;obtain ⟨A,cap,rfl,hcap,hA⟩:=hH.sl_alive hal hs;have hnone:l= []->Calls P (ρ.f 6) ⟨[.slice A l.length cap, .func (.func g) ⟨[]⟩ ⟨[]⟩]⟩ w λ e w'=>∃v φ' r h' n',e= .returned v∧K r h' n'∧m8 φ' n' w' M0 h'∧bY φ' w' (Or M0 (bc φ' h')) r v∧fm φ w M0 h φ' w' h':=by
  intro he;subst he;refine (AnyF.slices_SortFunc_none L A cap _ w).mono ?_;rintro e w' ⟨rfl,rfl⟩;have:=hK [] (.refl _) .nil;rw [<- ho,CS] at this;exact ⟨_,φ, .tup [],h,n,rfl,this,hH, .tup (vs:= []) .nil, .refl _ _ _ _⟩
 by_cases he:l= []
 ·grind
 have hlp:0<l.length:=List.length_pos_iff.2 he;rcases hA with ⟨rfl, _,h0, _⟩|⟨h0,rfl, _⟩|⟨a,bs,hp,hsp,rfl,hcb⟩
 ·omega
 ·omega
 obtain ⟨A0,hA0,hobj⟩:=hH.obj _ _ _ _ _ ho;rw [hp] at hA0;simp only [Option.some.injEq,Prod.mk.injEq,true_and] at hA0;subst hA0;rcases hobj with ⟨hobj, _⟩|⟨a₁,bs₁,e1,h0,hd⟩
 ·cases hobj
 simp only [Option.some.injEq,Prod.mk.injEq] at e1;obtain ⟨rfl,rfl⟩:=e1;obtain ⟨C,T,hb,hCs,hr,hle,hv,hrel⟩:=hd.cells hsp;rw [List.length_map] at hle hv hrel;have hrel0:aU rT w (Or M0 (bc φ h)) (l.map en).flatten ((C.toList.drop a.off).take (l.length * k)):=uH (λ _ hk=>hk) (λ c hc=>by
  grind) hrel
 obtain ⟨ls,hlx,hlv⟩:=GD (Q:=Q) hQ hrel0 hv;have hlen:ls.length=l.length:=pi;obtain ⟨d,hd⟩:∃d:Array (El w (Or M0 (bc φ h)) en Q),d=ls.toArray:=⟨_,rfl⟩
 have hds:d.size=l.length:=pi;haveI:Inhabited (El w (Or M0 (bc φ h)) en Q):=⟨ls[0]' ge⟩
 have hkE:∀x:El w (Or M0 (bc φ h)) en Q,x.vs.length=k:=λ x=>by rw [<- x.rel.length,henl]
 have hMb:Or M0 (bc φ h) a.block:= .inr ⟨o,gn,k, _,gn,a,bs,ho,hp,rfl⟩;have hblk:a.block<w.heap.size:=(Array.getElem?_eq_some_iff.1 hb).1;have hfl:∀d':Array (El w (Or M0 (bc φ h)) en Q),(flatK (λ x=>x.vs) k d').toList=(d'.toList.map λ x=>x.vs).flatten:=λ d'=>GT _ hk0 hkE d';have hCal:Calls P (ρ.f 6) ⟨[.slice (some ⟨a.block,a.off+0 * k,none⟩) l.length cap, .func (.func g) ⟨[]⟩ ⟨[]⟩]⟩ w λ e w'=>
   e= .returned (.tuple #[])∧∃d' n os,PermIn 0 d.size d d'∧SortedIn (ltOf λ x y:El w (Or M0 (bc φ h)) en Q=>cf x.x y.x) 0 d.size d'∧w'=sortWorldK (λ x=>x.vs) k w a.block a.off n d' os:=by
  rw [Nat.zero_mul,Nat.add_zero,<- hds];refine AnyQ.slices_SortFunc L k aE zE (λ x:El w (Or M0 (bc φ h)) en Q=>x.vs) hkE (λ x=>x.cells) (λ x y=>cf x.x y.x) (PR hO λ x:El w (Or M0 (bc φ h)) en Q=>x.x) g #[] a.block a.off cap d w hg ?_ ?_ hblk ge
  ·intro m os dk hdk x y;obtain ⟨hx1,hx2⟩:=hC x.x y.x x.q y.q;obtain ⟨C',k1,k2,k3,k4,k5,k6,k7,k8,k9⟩:=uJ (off:=a.off) hb (λ x:El w (Or M0 (bc φ h)) en Q=>x.vs) k dk pi m os;generalize sortWorldK (λ x:El w (Or M0 (bc φ h)) en Q=>x.vs) k w a.block a.off m dk os=X at *;have hkeep:∀z:El w (Or M0 (bc φ h)) en Q,aU rT X (Or M0 (bc φ h)) (en z.x) z.vs:=λ z=>
    z.rel.keep rT.le_refl (λ j hj hjl=>k4 j (λ e=>hj (e▸hMb)) hjl) (λ j hj=> .inl hj)
   have hag:∀z:El w (Or M0 (bc φ h)) en Q,bY rT X (Or M0 (bc φ h)) (.agg (en z.x)) (.agg z.vs.toArray):=λ z=> .agg z.cells (hkeep z);refine (hx2 (Or M0 (bc φ h)) X [.agg x.vs.toArray, .agg y.vs.toArray] (λ j hj=>Nat.lt_of_lt_of_le (hH.blk hj) k5) (hH.glob.keep (λ j hj hjl=>k4 j (λ e=>hj (e▸hMb)) hjl) (λ j hj=> .inl hj)) (.cons (hag x) (.cons (hag y) .nil))).mono ?_;rintro e w' ⟨v,rfl,hrv,hfr⟩;cases hrv;refine ⟨rfl,w'.drawn - X.drawn,w'.heap.extract X.heap.size w'.heap.size, ?_⟩;have hheap:X.heap++w'.heap.extract X.heap.size w'.heap.size=w'.heap:=by
    refine Array.ext_getElem? λ j=> ?_;by_cases hj:j<X.heap.size
    ·rw [Array.getElem?_append_left hj,hfr.block j hj (λ h=>h)]
    simp_all [Array.getElem?_append_right,Array.getElem?_extract]
   have hdr:X.drawn+(w'.drawn - X.drawn)=w'.drawn:=by have:=hfr.drawn;omega
   cases w' with
   |mk hp tp dr os' out=>
    have e1:=hfr.os;have e2:=hfr.tape;have e3:=hfr.output;grind [grow,World.drewN]
  ·intro j hj;have hjl:j<((C.toList.drop a.off).take (l.length * k)).length:=by
    grind
   have hget:(flatK (λ x:El w (Or M0 (bc φ h)) en Q=>x.vs) k d)[j]! =C[a.off+j]! :=by
    have hjC:a.off+j<C.size:=pi;rw [getElem!_pos _ j hj,getElem!_pos C _ hjC,<- Array.getElem_toList,<- Array.getElem_toList (xs:=C)];grind
   grind [World.cell?,World.frozen?]
 refine hCal.mono ?_;rintro e w' ⟨rfl,d',n',os,hperm,hsort,rfl⟩;obtain ⟨hps, _,hpp⟩:=hperm;obtain ⟨C',k1,k2,k3,k4,k5,k6,k7,k8,k9⟩:=uJ (off:=a.off) hb (λ x:El w (Or M0 (bc φ h)) en Q=>x.vs) k d' pi n' os;generalize sortWorldK (λ x:El w (Or M0 (bc φ h)) en Q=>x.vs) k w a.block a.off n' d' os=X at *;obtain ⟨l',hl'⟩:∃l':List α,l'=d'.toList.map λ x=>x.x:=⟨_,rfl⟩
 have hpl:l'.Perm l:=by
  have h1:(d'.extract 0 d.size).toList=d'.toList:=by rw [<- hps];simp
  grind
 have hpw:l'.Pairwise (λ x y=>¬cf y x<0):=by
  rw [hl',List.pairwise_map,List.pairwise_iff_getElem];intro i j hi hj hij;have hj':j<d'.size:=pi;have:=hsort i j (Nat.zero_le _) hij ge;grind [ltOf]
 have hwin:(C'.toList.drop a.off).take (l'.length * k)=(d'.toList.map λ x=>x.vs).flatten:=by
  grind
 have hrel':aU φ w (Or M0 (bc φ h)) (l'.map en).flatten ((C'.toList.drop a.off).take (l'.length * k)):=by
  rw [hwin,hl'];generalize d'.toList=ds;induction ds with
  |nil=>exact .nil
  |cons z ds ih=>
   exact (z.rel.keep (λ o x ho=>by cases ho) (λ _ _ _=>rfl) (λ k hk=> .inl hk)).append ih
 have hle0:φ.le (aC φ o (some (gn,some (a,bs)))):=Xt;have hol:¬n<=o:=λ hle=>by rw [hH.fresh o hle] at hp;cases hp
 obtain ⟨g1,g2,g3⟩:=hH.set (w':=X) (F':=λ o=>n<=o) (o:=o) (mt:=true) (g:=gn) (sz:=k) (rs:=l'.map en) (A:=some (a,bs))
  (λ _ h=>h) hol k5 hle0 (λ j hj hjl=>k4 j (λ e=>hj (e▸hMb)) hjl)
  (λ o' mt' g' sz' rs' a₁ b₁ hne ho' hp'=>by
   have:=hH.inj _ _ _ _ _ _ _ _ _ _ _ _ _ _ ho ho' (Ne.symm hne) (.inl rfl) hp hp';have hlt:a₁.block<w.heap.size:=by
    obtain ⟨A1,hA1,hc1⟩:=hH.obj _ _ _ _ _ ho';rw [hp'] at hA1;simp only [Option.some.injEq,Prod.mk.injEq,true_and] at hA1;subst hA1;rcases hc1 with ⟨hc1, _⟩|⟨a2,b2,e2, _,hb2⟩
    ·cases hc1
    ·obtain ⟨rfl,rfl⟩:=e2;exact hb2.blk
   grind)
  (λ a₁ b₁ e=>by
   grind)
  (.inr ⟨a,bs,C',T,rfl,hsp,h0,k1,ge,λ r hr=>by
    grind,pi,λ c hm=>by
    rw [List.length_map,hwin] at hm;obtain ⟨r,hr,hm⟩:=List.mem_flatten.1 hm;obtain ⟨z, _,rfl⟩:=List.mem_map.1 hr;exact z.cells c hm,pi⟩)
 refine ⟨_, _, .tup [], _,n,rfl,hK l' hpl hpw,g1, .tup (vs:= []) .nil,⟨hle0,g2,⟨k6,k7,k8,k9,k5,λ j hj hu=>k4 j (λ e=>hu ⟨o,gn,k, _,gn,a,bs,ho,hp,e.symm⟩) hj⟩,λ j hj=> ?_⟩⟩;grind [Or]
end Go.Av
end
section
open Go Go.Proofs
namespace Go.Av
variable {rws rws':List (List AV)} {g' sz:Nat} {mt:Bool} {args args0:List AV} {f:FuncId} {P:Program}
theorem zhz {n:Nat}{ops:List Oper}{Q:c7}{m i:Nat}{rest:List Oper}{e:dg}{h:au}{acc:List jf}{dst:Option Tmp}{first caps:List AV}{R:AV}{o:Nat}{g:Nat}
  (hp:dD P f args0 [(0, .rows mt g sz rws)] 1 R [(0, .rows true g' sz rws')] 1) (ho:h o=some (.rows mt g sz rws)) (hcl:∀r ∈ rws,∀c ∈ r,aN 0 c) (hcl':∀r ∈ rws',∀c ∈ r,aN 0 c)
  (hargs:∀n₁,Fm (kF [o] n₁) args0 (first++args++caps)) (hb0:∀c ∈ args0,aN 1 c) (hb:∀n₁,o<n₁->∀c ∈ first++args++caps,aN n₁ c)
  (hR:aN 0 R)
  (hk:tY P n ops Q m (i+1) rest (put e dst R) (aC h o (some (.rows true g' sz rws'))) (acc++ [([o], [o])])):cX P n ops Q m i rest dst (.fn (.func f) first caps) args e h acc:=by
 refine ⟨R, [o], [(o,some (.rows true g' sz rws'))], .inr (.inr (.inl ⟨f,first,caps,rfl, ?_, ?_, ?_,λ h₁ n₁ hx hn=> ?_⟩)),hk⟩
 ·grind
 ·grind
 ·exact .inr (.inl hR.toS)
 ·have hon:=hn o gt;have r0:kF [o] n₁ 0=o:=rfl;refine zhf (args':=first++args++caps) (HH:= [(o, .rows true g' sz rws')]) [o] h₁ hp gt pi rfl (Nat.le_refl _) (.refl _) ?_ ?_ (.refl _ _ _ _) (hb n₁ hon) (hargs n₁) hb0 (.same hR)
   (.cons r0.symm (.rows (.same hcl')) .nil) ⟨rfl, ?_,rfl⟩
  ·intro j hj;obtain rfl:j=0:=ge;exact ⟨.rows mt g sz rws, .rows mt g sz rws,by simp [fh,cZ],pi, .rows (.same hcl)⟩
  ·intro p hp;simp only [List.mem_singleton] at hp;subst hp;refine ⟨gt,λ r hr c hc=> ?_⟩;exact aN.mono (Nat.zero_le _) (hcl r hr c hc)
  ·funext a;simp_all [dL,iZ,aB,aC]
theorem zhr {R:AV}{o n:Nat}{g:Nat}{h:au}{K:cI}
  (hp:dD P f args0 [(0, .rows mt g sz rws)] 1 R [(0, .rows true g' sz rws')] 1) (ho:h o=some (.rows mt g sz rws)) (hn:o<n) (hcl:∀r ∈ rws,∀c ∈ r,aN 0 c) (hcl':∀r ∈ rws',∀c ∈ r,aN 0 c)
  (hargs:Fm (kF [o] n) args0 args) (hb0:∀c ∈ args0,aN 1 c) (hb:∀c ∈ args,aN n c)
  (hR:aN 0 R) (hk:K R (aC h o (some (.rows true g' sz rws'))) n):ap P f args h n K:=by
 have r0:kF [o] n 0=o:=rfl;refine zhf (args':=args) (HH:= [(o, .rows true g' sz rws')]) [o] h hp gt pi rfl (Nat.le_refl _) (.refl _) ?_ ?_ (.refl _ _ _ _) hb hargs hb0 (.same hR)
  (.cons r0.symm (.rows (.same hcl')) .nil) ?_
 ·intro j hj;obtain rfl:j=0:=ge;exact ⟨.rows mt g sz rws, .rows mt g sz rws,by simp [fh,cZ],pi, .rows (.same hcl)⟩
 ·intro p hp;simp only [List.mem_singleton] at hp;subst hp;refine ⟨gt,λ r hr c hc=> ?_⟩;exact aN.mono (Nat.zero_le _) (hcl r hr c hc)
 ·have e:dL [(o, .rows true g' sz rws')] (iZ [o] h)=aC h o (some (.rows true g' sz rws')):=by
   funext a;simp_all [dL,iZ,aC]
  grind
end Go.Av
end
section
open Go Go.Proofs
namespace Go.Av
open af
def RT:Nat->af
 |0=> .mk [] []
 |k+1=> .mk [RT k] []
def RS:Nat->af
 |0=> .mk [] []
 |k+1=> .mk [] [RS k]
def E8 (n:Int):af:=if 0<=n then RT n.toNat else RS (-n).toNat
theorem BJ (l r:List af):ce (.mk l r)= [.lst 2 (az l), .lst 2 (az r)]:=aH _
theorem Pj (k:Nat) (hk:k<=1000):aq Tryz.prog 216 [.agg [.int (k+1:Nat), .int 0]] (.tup [.lst 2 [[.int k, .int 0]], .lst 2 []]):=by
 have e1:0<(k:Int)+1:=ge;have e2:(k:Int)+1 - 1=k:=ge;refine pF Tryz.func216 ?_;refine J2 e1 e2 ?_;(first|done|exact zJ)
theorem Ph (k:Nat) (hk:k<=1000):aq Tryz.prog 216 [.agg [.int (-(k+1:Nat)), .int 0]] (.tup [.lst 2 [], .lst 2 [[.int (-k), .int 0]]]):=by
 have e1:¬(k:Int)+1<0:=ge;have e3:0<(k:Int)+1:=ge;have e2: -((k:Int)+1)+1= -k:=ge;refine pF Tryz.func216 ?_;refine J3 e1 e2 e3 ?_;(first|done|exact zJ)
theorem Cz:aq Tryz.prog 216 [.agg [.int 0, .int 0]] (.tup [.lst 2 [], .lst 2 []]):=by
 refine pF Tryz.func216 ?_;exact K0
theorem zat (n:Int) (h: -1000<=n∧n<=1000):aq Tryz.prog 159 [.agg [.int n, .int 0]] (.bool true):=by
 have e1: -1099511627776<=n:=ge;have e2:n<=1099511627776:=ge;refine pF Tryz.func159 ?_;exact K2 e1 e2
theorem UU:∀ (k:Nat) (r:Int),k<=1000->1+k<=r->r<=2000->dD Tryz.prog 160 [.agg [.int k, .int 0], .ref 0 0 1 0 0] [(0, .rows true 0 1 [[.int r]])] 1 (bS (RT k)) [(0, .rows true 0 1 [[.int (r - 1 - k)]])] 1:=by
 intro k;induction k with
 |zero=>
  intro r _ h1 h2;have e1:¬r - 1<0:=ge;rw [bS,RT,BJ];refine aF Tryz.func160 ?_;refine J1 e1 ?_;refine aP Cz ?_;refine J0 ?_;refine zg6 ?_;refine J0 ?_;refine zg6 ?_;refine J0 ?_;simp [go_sem,aj]
 |succ k ih=>
  intro r _ h1 h2;have e1:¬r - 1<0:=ge;have ih:=ih (r - 1) ge ge ge;rw [bS] at ih;have e5:r - 1 - 1 - (k:Int)=r - 1 - (k+1):=ge;rw [bS,RT,BJ];refine aF Tryz.func160 ?_;refine J1 e1 ?_;refine aP (Pj k ge) ?_;refine J0 ?_;refine zg6 ?_;refine J0 ?_;refine zhz (o:=0) ih rfl no no (λ _=> .cons (.same no) (.cons (.ref rfl) .nil)) no (λ n₁ hn₁=>by simp [go_sem,hn₁]) (lS _ _) ?_;refine J0 ?_;refine zg6 ?_;refine J0 ?_;refine zg6 ?_;refine J0 ?_;simp [go_sem,aj,e5];exact aI rfl gt Ws rfl
theorem UT:∀ (k:Nat) (r:Int),k<=1000->1+k<=r->r<=2000->dD Tryz.prog 160 [.agg [.int (-k), .int 0], .ref 0 0 1 0 0] [(0, .rows true 0 1 [[.int r]])] 1 (bS (RS k)) [(0, .rows true 0 1 [[.int (r - 1 - k)]])] 1:=by
 intro k;induction k with
 |zero=>
  intro r _ h1 h2;have e1:¬r - 1<0:=ge;rw [bS,RS,BJ];refine aF Tryz.func160 ?_;refine J1 e1 ?_;refine aP Cz ?_;refine J0 ?_;refine zg6 ?_;refine J0 ?_;refine zg6 ?_;refine J0 ?_;simp [go_sem,aj]
 |succ k ih=>
  intro r _ h1 h2;have e1:¬r - 1<0:=ge;have ih:=ih (r - 1) ge ge ge;rw [bS] at ih;have e5:r - 1 - 1 - (k:Int)=r - 1 - (k+1):=ge;rw [bS,RS,BJ];refine aF Tryz.func160 ?_;refine J1 e1 ?_;refine aP (Ph k ge) ?_;refine J0 ?_;refine zg6 ?_;refine J0 ?_;refine zg6 ?_;refine J0 ?_;refine zhz (o:=0) ih rfl no no (λ _=> .cons (.same no) (.cons (.ref rfl) .nil)) no (λ n₁ hn₁=>by simp [go_sem,hn₁]) (lS _ _) ?_;refine J0 ?_;refine zg6 ?_;refine J0 ?_;simp [go_sem,aj,e5];exact aI rfl gt Ws rfl
theorem zdn (n:Int) (h: -1000<=n∧n<=1000):aq Tryz.prog 102 [.agg [.int n, .int 0]] (.tup [bS (E8 n), .int 0]):=by
 have hb:dD Tryz.prog 160 [.agg [.int n, .int 0], .ref 0 0 1 0 0] [(0, .rows true 0 1 [[.int 2000]])] 1 (bS (E8 n)) [(0, .rows true 0 1 [[.int (1999 - n.natAbs)]])] 1:=by
  unfold E8;by_cases h0:0<=n
  ·obtain ⟨k,rfl⟩:=Int.eq_ofNat_of_zero_le h0;have:=UU k 2000 ge ge ge;grind
  ·obtain ⟨k,hk⟩:=Int.eq_ofNat_of_zero_le (a:= -n) ge;obtain rfl:n= -k:=ge;grind [UT]
 rw [bS] at hb ⊢;have e1:¬(1999 - (n.natAbs:Int)<0):=ge;refine pF Tryz.func102 ?_;refine J0 ?_;refine aP (zat n h) ?_;refine J0 ?_;refine zhr (o:=2) hb rfl Wm no no (.cons (.same no) (.cons (.ref rfl) .nil)) no no (lS _ _) ?_;exact K1 e1
end Go.Av
end
section
open Go Go.Proofs
namespace Go.Av
theorem Do (c:Int):aq Tryz.prog 201 [.int c] (.tup [.int (aA c).1, .int (aA c).2]):=by
 refine pF Tryz.func201 ?_;unfold aA;by_cases h1:c<1
 ·rw [if_neg ge];exact K1 h1
 ·by_cases h2:12<c
  ·rw [if_neg ge];exact K2 h1 h2
  ·rw [if_pos ge];have e1:(c - 1).tdiv 2=(c - 1) / 2:=Int.tdiv_eq_ediv_of_nonneg ge;have e2:(c - 1).tmod 2=(c - 1) % 2:=Int.tmod_eq_emod_of_nonneg ge;have b1:0<=(c - 1).tdiv 2∧(c - 1).tdiv 2<=12:=ge;have b2:0<=(c - 1).tmod 2∧(c - 1).tmod 2<=12:=ge;clear e1 e2;exact K2 h1 h2
theorem wC (k s:Int):aq Tryz.prog 208 [.int k, .int s] (.int (gQ k s)):=by
 refine pF Tryz.func208 ?_;unfold gQ;by_cases h1:k<0
 ·rw [if_neg ge];exact K1 h1
 by_cases h2:6<=k
 ·rw [if_neg ge];exact K2 h1 h2
 by_cases h3:s<0
 ·rw [if_neg ge];exact K3 h1 h2 h3
 by_cases h4:1<s
 ·rw [if_neg ge];exact K4 h1 h2 h3 h4
 ·rw [if_pos ge,show 2 * k+1+s=1+2 * k+s by omega];exact K4 h1 h2 h3 h4
theorem Hi (x:Int):aq Tryz.prog 255 [.int x] (.v (.bool false)):=by
 refine pF Tryz.func255 ?_;exact K0
theorem qG (a b:Int):aq Tryz.prog 215 [.int a, .int b] (.int (dy a b)):=by
 refine pF Tryz.func215 ?_;refine J0 ?_;refine aP (Hi a) ?_;refine J0 ?_;refine aP (Hi b) ?_;unfold dy;by_cases h1:a<b
 ·rw [if_pos h1];exact K1 h1
 ·by_cases h2:b<a
  ·rw [if_neg h1,if_pos h2];exact K2 h1 h2
  ·rw [if_neg h1,if_neg h2];exact K2 h1 h2
def zc9:List Int->Int
 | []=>0
 |x::l=>if x=0 then zc9 l else x
theorem NS (l:List Int) (hl:kn l):aq Tryz.prog 213 [aS l] (.int (zc9 l)):=by
 refine pF Tryz.func213 ?_;unfold kn at hl;refine J0 ?_;refine zg3 (zg5 (α:=Nat) (λ j=>⟨[(3, .int 0),(6,aS l),(7, .int l.length),(8, .int j)], [],0⟩)
  (λ d j=>j+d=l.length∧zc9 l=zc9 (l.drop j)) ?_ l.length 0 ?_) ?_ ?_
 ·rintro d j ⟨i1,i2⟩ hrec;refine J0 ?_;refine zg4 (λ hj=> ?_) (λ hj=> ?_)<;>simp at hj
  ·rw [p7 hj,zc9] at i2;refine J1 hj ?_;by_cases h0:ac l j=0
   ·rw [if_pos h0] at i2;refine J1 h0 ?_;refine zg3 (hrec (d - 1) ge (j+1) ⟨ge,i2⟩) ?_ gt;simp [go_sem,aj]
   ·rw [if_neg h0] at i2;rw [i2];exact K1 h0
  ·rw [List.drop_eq_nil_of_le hj,zc9] at i2;rw [i2];exact K0
 ·simp
 ·simp [go_sem,aj]
 ·simp
theorem u4 (a b:List Int) (ha:kn a) (hb:kn b):aq Tryz.prog 214 [aS a,aS b] (.int (kV a b)):=by
 refine pF Tryz.func214 ?_;unfold kn at ha hb;refine J0 ?_;refine zg3 (zg5 (α:=Nat) (λ j=>⟨[(0,aS a),(1,aS b),(9,aS a),(10, .int a.length),(11, .int j)], [],0⟩)
  (λ d j=>j+d=a.length∧j<=b.length∧kV a b=kV (a.drop j) (b.drop j)) ?_ a.length 0 ?_) ?_ ?_
 ·rintro d j ⟨i1,i2,i3⟩ hrec;refine J0 ?_;refine zg4 (λ hj=> ?_) (λ hj=> ?_)<;>simp at hj
  ·rw [p7 hj] at i3;refine J1 hj ?_;by_cases hk:j<b.length
   ·rw [p7 hk,kV] at i3;have hk':¬b.length<=j:=ge;refine J3 hj hk hk' ?_;refine aP (qG _ _) ?_;by_cases he:ac a j=ac b j
    ·rw [if_pos he] at i3;have hn:dy (ac a j) (ac b j)=0:=by simp [dy,he]
     rw [hn];refine J0 ?_;refine zg3 (hrec (d - 1) ge (j+1) ⟨ge,ge,i3⟩) ?_ gt;simp [go_sem,aj]
    ·rw [if_neg he] at i3;have hn:dy (ac a j) (ac b j)≠0:=by grind [dy]
     rw [i3];exact K1 hn
   ·have hk':b.length<=j:=by omega
    rw [List.drop_eq_nil_of_le hk',Gt] at i3;have:kV a b=1:=by grind [dy]
    rw [this];exact K3 hj hk hk'
  ·have hja:j=a.length:=by omega
   subst hja;rw [List.drop_eq_nil_of_le (Nat.le_refl _),zqq] at i3;rw [i3];unfold dy;by_cases hb':a.length<b.length
   ·rw [if_pos pi];exact K1 hb'
   ·rw [if_neg pi,if_neg ge];exact K1 hb'
 ·simp
 ·simp [go_sem,aj]
 ·simp
theorem zdU (p q:aa):zc9 [kV p.at_ q.at_,kV p.h0 q.h0,kV p.h1 q.h1,dy p.rights q.rights,dy p.side q.side]=bi p q:=by
 grind [bi,zc9]
theorem jD (p q:aa) (hp:bH p) (hq:bH q):aq Tryz.prog 158 [.agg (ak p), .agg (ak q)] (.int (bi p q)):=by
 refine pF Tryz.func158 ?_;obtain ⟨p1,p2,p3⟩:=hp;obtain ⟨q1,q2,q3⟩:=hq;rw [<- zdU];have c1:=u4 _ _ p1 q1;have c2:=u4 _ _ p2 q2;have c3:=u4 _ _ p3 q3;have c4:=qG p.rights q.rights;have c5:=qG p.side q.side;generalize kV p.at_ q.at_=x1 at *;generalize kV p.h0 q.h0=x2 at *;generalize kV p.h1 q.h1=x3 at *;generalize dy p.rights q.rights=x4 at *;generalize dy p.side q.side=x5 at *;refine J0 ?_;refine dP c1 ?_;refine J0 ?_;refine dP c2 ?_;refine J0 ?_;refine dP c3 ?_;refine J0 ?_;refine dP c4 ?_;refine J0 ?_;refine dP c5 ?_;refine J0 ?_;refine cX.frz [aS [x1,x2,x3,x4,x5]] _ [31] [(31,some (.rows false 0 1 ([x1,x2,x3,x4,x5].map dR)))] (NS _ (by unfold kn;simp)) ?_ ?_ no ?_
 ·intro p hp;grind [aC,dR]
 ·intro h₁ hS;have h7:=hS 31 gt;simp [go_sem] at h7;exact .cons (aI h7.symm gt XR no) .nil
 ·exact K0
def CV:List AV:= [.v (.slice none 0 0), .v (.slice none 0 0), .v (.slice none 0 0), .int 0, .int 0, .v (.bool false)]
theorem D8 {α:Type} [DecidableEq α] {l:List α} (h:l.length<2):eC l=l:=by
 match l,h with
 | [], _=>rfl
 | [a], _=>rfl
 |a::b::l,h=>grind
end Go.Av
end
section
namespace Go.Proofs
open Go.Shelf
def zaw:Go.Shelf.Ren:=⟨fun|6=>246|15=>222|14=>282|28=>265|29=>266|20=>312|21=>313|22=>314|23=>315|24=>316|25=>317|26=>318|27=>319|46=>331|47=>292|48=>293|49=>332|50=>333|57=>337|n=>n,fun|22=>142|24=>145|25=>357|3=>3|39=>319|0=>0|53=>372|55=>374|4=>4|46=>366|45=>365|50=>233|5=>5|9=>9|66=>395|70=>172|76=>414|77=>310|n=>n,λ n=>n⟩
theorem zg2:Go.Proofs.SlLaysF0.n6 Tryz.prog zaw:={
 mixed:=Pi
 f6:=⟨Tryz.f246.name,Wm,Tryz.func246.trans (congrArg some Pi)⟩
 f14:=⟨Tryz.f282.name,Wm,Tryz.func282.trans (congrArg some Pi)⟩
 f15:=Tryz.func222.trans (congrArg some Pi)
 f20:=⟨Tryz.f312.name,Wm,Tryz.func312.trans (congrArg some Pi)⟩
 f21:=⟨Tryz.f313.name,Wm,Tryz.func313.trans (congrArg some Pi)⟩
 f22:=⟨Tryz.f314.name,Wm,Tryz.func314.trans (congrArg some Pi)⟩
 f23:=⟨Tryz.f315.name,Wm,Tryz.func315.trans (congrArg some Pi)⟩
 f24:=⟨Tryz.f316.name,Wm,Tryz.func316.trans (congrArg some Pi)⟩
 f25:=⟨Tryz.f317.name,Wm,Tryz.func317.trans (congrArg some Pi)⟩
 f26:=⟨Tryz.f318.name,Wm,Tryz.func318.trans (congrArg some Pi)⟩
 f27:=⟨Tryz.f319.name,Wm,Tryz.func319.trans (congrArg some Pi)⟩
 f28:=Tryz.func265.trans (congrArg some Pi)
 f29:=Tryz.func266.trans (congrArg some Pi)
 f46:=⟨Tryz.f331.name,Wm,Tryz.func331.trans (congrArg some Pi)⟩
 f47:=Tryz.func292.trans (congrArg some Pi)
 f48:=Tryz.func293.trans (congrArg some Pi)
 f49:=⟨Tryz.f332.name,Wm,Tryz.func332.trans (congrArg some Pi)⟩
 f50:=⟨Tryz.f333.name,Wm,Tryz.func333.trans (congrArg some Pi)⟩
 f57:=⟨Tryz.f337.name,Wm,Tryz.func337.trans (congrArg some Pi)⟩
 t0:=Tryz.underlying0
 a0:=Tryz.isAgg0
 z0:=Tryz.sizeOf0
 v0:=Tryz.zeroValue0
 t3:=Tryz.underlying3
 a3:=Tryz.isAgg3
 z3:=Tryz.sizeOf3
 v3:=Tryz.zeroValue3
 t4:=Tryz.underlying4
 a4:=Tryz.isAgg4
 z4:=Tryz.sizeOf4
 v4:=Tryz.zeroValue4
 t5:=Tryz.underlying5
 a5:=Tryz.isAgg5
 z5:=Tryz.sizeOf5
 v5:=Tryz.zeroValue5
 t9:=Tryz.underlying9
 a9:=Tryz.isAgg9
 z9:=Tryz.sizeOf9
 v9:=Tryz.zeroValue9
 t22:=Tryz.underlying142
 a22:=Tryz.isAgg142
 z22:=Tryz.sizeOf142
 v22:=Tryz.zeroValue142
 t25:=Tryz.underlying357
 a25:=Tryz.isAgg357
 z25:=Tryz.sizeOf357
 v25:=Tryz.zeroValue357
 t39:=Tryz.underlying319
 a39:=Tryz.isAgg319
 z39:=Tryz.sizeOf319
 v39:=Tryz.zeroValue319
 t45:=Tryz.underlying365
 a45:=Tryz.isAgg365
 z45:=Tryz.sizeOf365
 v45:=Tryz.zeroValue365
 t46:=Tryz.underlying366
 a46:=Tryz.isAgg366
 z46:=Tryz.sizeOf366
 v46:=Tryz.zeroValue366
 t50:=Tryz.underlying233
 a50:=Tryz.isAgg233
 z50:=Tryz.sizeOf233
 v50:=Tryz.zeroValue233
 t53:=Tryz.underlying372
 a53:=Tryz.isAgg372
 z53:=Tryz.sizeOf372
 v53:=Tryz.zeroValue372
 t55:=Tryz.underlying374
 a55:=Tryz.isAgg374
 z55:=Tryz.sizeOf374
 v55:=Tryz.zeroValue374
 t66:=Tryz.underlying395
 a66:=Tryz.isAgg395
 z66:=Tryz.sizeOf395
 v66:=Tryz.zeroValue395
 t70:=Tryz.underlying172
 a70:=Tryz.isAgg172
 z70:=Tryz.sizeOf172
 v70:=Tryz.zeroValue172
 t76:=Tryz.underlying414
 a76:=Tryz.isAgg414
 z76:=Tryz.sizeOf414
 v76:=Tryz.zeroValue414
 t77:=Tryz.underlying310
 a77:=Tryz.isAgg310
 z77:=Tryz.sizeOf310
 v77:=Tryz.zeroValue310}
end Go.Proofs
end
section
open Go Go.Proofs
namespace Go.Av
theorem UG {n:Nat}{l:List (Int×Int)}:(∀r ∈ l.map dC,∀c ∈ r,aN n c)=True:=by
 refine eq_true ?_;intro r hr c hc;obtain ⟨x, _,rfl⟩:=List.mem_map.1 hr;revert c;simp [go_sem]
attribute [go_sem ↓] UG
structure Lg (g:ae) (c:mY):Prop where
 l1:c.1.length=g.kinds.length
 l2:c.2.length=g.kinds.length
 c1:∀x ∈ c.1,(x.length:Int)=g.cells
 c2:∀x ∈ c.2,(x.length:Int)=g.cells
theorem Lg.side {g:ae}{c:mY} (h:Lg g c){s:Nat} (hs:s<2):∃l,mZ [dd c.1,dd c.2] s=dd l∧l.length=g.kinds.length∧∀x ∈ l,(x.length:Int)=g.cells:=by
 rcases (show s=0∨s=1 by omega) with rfl|rfl
 ·exact ⟨_,rfl,h.l1,h.c1⟩
 ·exact ⟨_,rfl,h.l2,h.c2⟩
variable {i:Nat}
theorem D6 (f:Int->Bool) (l:List Int) (h:i<l.length):(l.take (i+1)).countP f=(l.take i).countP f+(if f (ac l i) then 1 else 0):=by
 grind [List.take_add_one,ac]
theorem Qj (p:aa) (hp:bH p) (side kind:Int):aq Tryz.prog 176 [.agg (ak p), .int side, .int kind] (.int (Cm p side kind)):=by
 refine pF Tryz.func176 ?_;obtain ⟨f1, _, _⟩:=hp;unfold kn at f1;refine J0 ?_;refine zg3 (zg5 (α:=Nat) (λ i=>⟨[(1, .int side),(2, .int kind),(3, .ref 0 0 5 0 0),(7, .int ((p.at_.take i).countP (pK p side kind):Nat)),(8, .int i)], [(0, .rows true 0 5 [ak p])],1⟩)
  (λ d i=>i+d=p.at_.length) ?_ p.at_.length 0 ?_) ?_ ?_
 ·rintro d i i1 hrec;refine J0 ?_;refine zg4 (λ hi=> ?_) (λ hi=> ?_)<;>simp at hi
  ·have hO:=vf (ac p.at_ i);have hcs:=D6 (pK p side kind) p.at_ hi;have hle:(p.at_.take i).countP (pK p side kind)<=i:=Nat.le_trans List.countP_le_length pi;have hM:pK p side kind (ac p.at_ i)=(decide (0<=(aA (ac p.at_ i)).1) && decide ((aA (ac p.at_ i)).2=side) && (decide (kind<0)||decide ((aA (ac p.at_ i)).1=kind))):=rfl;generalize aA (ac p.at_ i)=m at *;refine J1 hi ?_;refine aP hO ?_;refine J0 ?_;by_cases hm:pK p side kind (ac p.at_ i)=true
   ·have hm':=hm;rw [hM] at hm';rw [if_pos hm] at hcs;simp only [hm'];refine J0 ?_;refine zg3 (hrec (d - 1) ge (i+1) ge) ?_ gt;simp [go_sem,aj,hcs]
   ·have hm':=hm;rw [hM] at hm';rw [if_neg hm] at hcs;simp only [Bool.not_eq_true] at hm';simp only [hm'];refine J0 ?_;refine zg3 (hrec (d - 1) ge (i+1) ge) ?_ gt;simp [go_sem,aj,hcs]
  ·have hil:i=p.at_.length:=by omega
   subst hil;have hM:Cm p side kind=(p.at_.take p.at_.length).countP (pK p side kind):=by grind [Cm]
   rw [hM];exact K0
 ·omega
 ·simp [go_sem,aj]
 ·simp
theorem C8 (g:ae) (hg:bN g) (p:aa) (hp:bw g p) (c:Int×Int×Int×Int) (hc:qN g.cells g.kinds.length c):
  aq Tryz.prog 123 [.agg (cd c), .agg (ak p)] (.v (.bool (nk c p))):=by
 refine pF Tryz.func123 ?_;have hps:=hp.s;have hal:=hp.al;have hM:=λ s k=>Qj p (hp.fits hg) s k;have hml:∀s k,Cm p s k<=9:=λ s k=>Nat.le_trans List.countP_le_length (by have:=hg.c9;omega);obtain ⟨c0,c1,c2,c3⟩:=c;obtain ⟨k1,k2,k3,k4,k5⟩:=hc;simp only at k1 k2 k3 k4 k5;unfold nk;rcases k1 with rfl|rfl|rfl
 ·have h1:=hM p.side c1;refine J0 ?_;refine aP h1 ?_;exact K0
 ·have hci:c2.toNat<p.at_.length:=by omega
  refine J1 hci ?_;refine dP (uf c1 (1 - p.side)) ?_;exact K1 hci
 ·have h1:=hM p.side (-1);have:=hml p.side (-1);refine J0 ?_;refine dP h1 ?_;exact K0
theorem BT {α:Type} [Inhabited α] (f:α->Bool) (l:List α) (hi:i<l.length) (hb:∀j,j<i->f (ac l j)=false) (h:f (ac l i)=true):l.findIdx? f=some i:=by
 grind [List.findIdx?_eq_some_iff_getElem,ac]
theorem BS {α:Type} [Inhabited α] (f:α->Bool) (l:List α) (hb:∀j,j<l.length->f (ac l j)=false):l.findIdx? f=none:=by
 grind [List.getElem_of_mem,ac]
theorem si (g:ae) (hg:bN g) (p:aa) (hp:bw g p):aq Tryz.prog 72 [.agg (ai g), .agg (ak p)] (.int (cq g p)):=by
 refine pF Tryz.func72 ?_;have hcn:=hg.cn;refine J0 ?_;refine zg3 (zg5 (α:=Nat) (λ i=>⟨[(2, .ref 0 0 9 0 0),(3, .ref 1 0 5 0 0),(5, .int i)], [(0, .rows true 0 9 [ai g]),(1, .rows true 0 5 [ak p])],2⟩)
  (λ d i=>i+d=g.clauses.length∧∀j,j<i->nk (ac g.clauses j) p=false) ?_ g.clauses.length 0 ?_) ?_ ?_
 ·rintro d i ⟨i1,i2⟩ hrec;refine J0 ?_;refine zg4 (λ hi=> ?_) (λ hi=> ?_)<;>simp at hi
  ·have hC:=C8 g hg p hp _ (hg.cl _ (am hi));refine J1 hi ?_;refine dP hC ?_;refine J0 ?_;by_cases hc:nk (ac g.clauses i) p=true
   ·have he:cq g p=i:=by unfold cq;rw [BT (λ c=>nk c p) g.clauses hi i2 hc]
    exact K2 hc he
   ·refine J1 hc ?_;refine zg3 (hrec (d - 1) ge (i+1) ⟨ge,λ j hj=> ?_⟩) ?_ gt
    ·grind
    ·simp [go_sem,aj]
  ·have he:cq g p= -1:=by grind [cq,BS]
   exact K1 he
 ·grind
 ·simp [go_sem,aj]
 ·simp
def yC (g:ae) (p:aa) (c:Nat):List ck:=(List.range c).flatMap (lF g p)
theorem R9 (g:ae) (p:aa) (c:Nat):yC g p (c+1)=yC g p c++lF g p c:=by grind [yC,List.range_succ]
theorem Sa (g:ae) (p:aa):yC g p 0= []:=rfl
def Ab (g:ae) (p:aa) (c i:Nat):List ck:=yC g p c++(List.range i).flatMap λ (i:Nat)=>gG g p c i
theorem R7 (g:ae) (p:aa) (c:Nat):Ab g p c 0=yC g p c:=by simp [Ab]
theorem R6 (g:ae) (p:aa) (c i:Nat):Ab g p c (i+1)=Ab g p c i++gG g p c i:=by grind [Ab,List.range_succ]
theorem ET (g:ae) (hg:bN g) (p:aa) (hp:bw g p):aq Tryz.prog 73 [.agg (ai g), .agg (ak p)] (oj (kf g p)):=by
 refine pF Tryz.func73 ?_;have hal:=hp.al;have c9:=hg.c9;have k6:=hg.k6;have hU:∀c i,c<p.at_.length->0<=(aA (ac p.at_ c)).1∧(aA (ac p.at_ c)).2=p.side->i<=(ac g.kinds (aA (ac p.at_ c)).1.toNat).progs.length->(Ab g p c i).length<=8000000000:=λ c i hc hm hi=>by
  have h1:(yC g p c).length<=7200000000:=Kz hg hp ge;have hk:=Fy hg hp (cell:=c) ge ge pi;have h8:=hg.pn _ (am hk);have h2:=iB (λ (i:Nat)=>gG g p c i) 100000000 i (λ j hj=>DN hg hp (vn hp hc hm ge));grind [Ab]
 refine J0 ?_;refine zg3 (zg5 (α:=Nat×Nat) (λ a=>⟨[(2, .ref 0 0 9 0 0),(3, .ref 1 0 5 0 0),(5, .sl 2 a.2 6 0 (yC g p a.1).length),(6, .int a.1)], [(0, .rows true 0 9 [ai g]),(1, .rows true 0 5 [ak p]),(2, .rows true a.2 6 ((yC g p a.1).map cu))],3⟩)
  (λ d a=>a.1+d=p.at_.length) ?_ p.at_.length (0,0) ?_) ?_ ?_
 ·rintro d ⟨c,G⟩ c1 hrec;simp only at c1;refine J0 ?_;refine zg4 (λ hc=> ?_) (λ hc=> ?_)<;>simp at hc
  ·have hO:=vf (ac p.at_ c);have hsu:=R9 g p c;have hat:=hp.at (i:=c) ge;have hman:=cT hat.1 hat.2 hg.k6;have hAt:lF g p c=if 0<=(aA (ac p.at_ c)).1∧(aA (ac p.at_ c)).2=p.side then (List.range (ac g.kinds (aA (ac p.at_ c)).1.toNat).progs.length).flatMap λ (i:Nat)=>gG g p c i else []:=rfl
   have hU':=λ i=>hU c i hc;have hCh:=λ i=>vn (g:=g) (i:=i) hp hc;generalize aA (ac p.at_ c)=m at *;obtain ⟨mk,ms⟩:=m;simp only [Prod.mk.injEq] at hman hAt hU' hCh;refine J1 hc ?_;refine aP hO ?_;refine J0 ?_;refine zg4 (λ hm=> ?_) (λ hm=> ?_)<;>simp at hm
   ·rw [if_neg ge] at hAt;rw [hAt,List.append_nil] at hsu;refine J0 ?_;refine zg3 (hrec (d - 1) ge (c+1,G) ge) ?_ gt;simp [go_sem,aj,hsu]
   ·have hm':0<=mk∧ms=p.side:=by omega
    rw [if_pos hm'] at hAt;have hkl:mk.toNat<g.kinds.length:=ge;have hpn:=hg.pn _ (am hkl);have hz:=R7 g p c;refine J0 ?_;refine zg3 (zg5 (α:=Nat×Nat) (λ a=>⟨[(2, .ref 0 0 9 0 0),(3, .ref 1 0 5 0 0),(5, .sl 2 a.2 6 0 (Ab g p c a.1).length),(6, .int c),(7, .ref 3 0 2 0 0),(8, .int a.1)],
      [(0, .rows true 0 9 [ai g]),(1, .rows true 0 5 [ak p]),(2, .rows true a.2 6 ((Ab g p c a.1).map cu)),(3, .rows true 0 2 [[.int mk, .int ms]])],4⟩)
     (λ d a=>a.1+d=(ac g.kinds mk.toNat).progs.length) ?_ (ac g.kinds mk.toNat).progs.length (0,G) ?_) ?_ ?_
    ·rintro d2 ⟨i,G'⟩ i1 hrec2;simp only at i1;refine J1 hkl ?_;refine zg4 (λ hi=> ?_) (λ hi=> ?_)<;>simp at hi
     ·have hR:=MX g hg p hp c i (hCh i hm' hi);have hsi:=R6 g p c i;have hUi:=hU' i hm' ge;have hUj:=hU' (i+1) hm' ge;rw [hsi,List.length_append] at hUj;refine J0 ?_;refine aP hR ?_;refine J0 ?_;refine zg3 (hrec2 (d2 - 1) ge (i+1,G'+1) ge) ?_ gt;simp [go_sem,aj,hsi]
     ·have hil:i=(ac g.kinds mk.toNat).progs.length:=by omega
      subst hil;have hfin:Ab g p c (ac g.kinds mk.toNat).progs.length=yC g p (c+1):=by rw [hsu,hAt];rfl
      rw [hfin];refine J0 ?_;refine zg3 (hrec (d - 1) ge (c+1,G') ge) ?_ gt;simp [go_sem,aj]
    ·simp
    ·simp [go_sem,aj,hz]
    ·simp
  ·have hcl:c=p.at_.length:=by omega
   subst hcl;have e:kf g p=yC g p p.at_.length:=rfl;rw [e];refine J0 ?_;exact BY
 ·simp
 ·simp [go_sem,aj,Sa]
 ·simp
def Cn (gm:Bool) (l:List ck) (i:Nat):Bool:=gm && (l.take i).any (·.took)
theorem RN (gm:Bool) (l:List ck):Cn gm l 0=false:=by simp [Cn]
theorem RM (gm:Bool) (l:List ck) (h:i<l.length):Cn gm l (i+1)=(Cn gm l i||(gm && (ac l i).took)):=by
 grind [Cn,List.take_add_one,ac]
def uv (must:Bool) (l:List ck) (i:Nat):List aa:=((l.take i).filter λ o=> !must||o.took).map (·.pos)
theorem Rt (must:Bool) (l:List ck):uv must l 0= []:=by simp [uv]
theorem Rq (must:Bool) (l:List ck) (h:i<l.length):uv must l (i+1)=uv must l i++(if (!must||(ac l i).took)=true then [(ac l i).pos] else []):=by
 grind [uv,List.take_add_one,ac]
theorem Kh (must:Bool) (l:List ck) (i:Nat):(uv must l i).length<=i:=by
 grind [uv]
theorem fk (g:ae) (hg:bN g) (p:aa) (hp:bw g p):aq Tryz.prog 35 [.agg (ai g), .agg (ak p)] (aO (an g p)):=by
 refine pF Tryz.func35 ?_;have hE:=si g hg p hp;have hO:=ET g hg p hp;have hD:=Lc g hg p hp;have hdl:=AD hg hp;have hol:=KA hg hp;have hS:=kw (kM g p) (by grind [kM]) (λ q hq=>(Ko hg hp q hq).1.fits hg);have hml:kM g p=uv (iQ g p) (kf g p) (kf g p).length++(if iQ g p then [] else fJ g p):=by grind [kM,uv]
 have hmu:iQ g p=Cn g.must (kf g p) (kf g p).length:=by grind [iQ,Cn]
 have hmv:an g p=if 0<=cq g p then [] else bd bi (kM g p):=rfl
 obtain ⟨R,hR⟩:∃R,R=an g p:=⟨_,rfl⟩
 rw [<- hR] at hmv ⊢;generalize kf g p=l at *;generalize fJ g p=ds at *;generalize kM g p=ml at *;generalize cq g p=en at *;refine J0 ?_;refine aP hE ?_;refine J0 ?_;refine zg4 (λ he=> ?_) (λ he=> ?_)<;>simp at he
 ·rw [if_pos he] at hmv;rw [hmv];exact K0
 ·rw [if_neg ge] at hmv;refine J0 ?_;refine aP hO ?_;refine J0 ?_;refine zg3 (zg5 (α:=Nat) (λ i=>⟨[(2, .ref 0 0 9 0 0),(3, .ref 1 0 5 0 0),(5,oj l),(6, .sl 2 0 5 0 0),(7, .v (.bool (Cn g.must l i))),(8, .int i)], [(0, .rows true 0 9 [ai g]),(1, .rows true 0 5 [ak p]),(2, .rows true 0 5 [])],3⟩)
   (λ d i=>i+d=l.length) ?_ l.length 0 ?_) ?_ ?_
  ·rintro d i i1 hrec;refine J0 ?_;refine zg4 (λ hi=> ?_) (λ hi=> ?_)<;>simp at hi
   ·have hms:=RM g.must l hi;cases hmk:Cn g.must l i
    ·rw [hmk,Bool.false_or] at hms;cases hgm:g.must
     ·rw [hgm,Bool.false_and] at hms;refine J3 hmk hgm hi ?_;refine zg3 (hrec (d - 1) ge (i+1) ge) ?_ gt;simp [go_sem,aj,hms,hgm]
     ·rw [hgm,Bool.true_and] at hms;refine J3 hmk hgm hi ?_;refine zg3 (hrec (d - 1) ge (i+1) ge) ?_ gt;simp [go_sem,aj,hms,hgm]
    ·rw [hmk,Bool.true_or] at hms;refine J2 hmk hi ?_;refine zg3 (hrec (d - 1) ge (i+1) ge) ?_ gt;simp [go_sem,aj,hms]
   ·have hil:i=l.length:=by omega
    subst hil;rw [<- hmu];generalize iQ g p=must at *;refine J0 ?_;refine zg3 (zg5 (α:=Nat) (λ i=>⟨[(2, .ref 0 0 9 0 0),(3, .ref 1 0 5 0 0),(5,oj l),(6, .sl 2 (uv must l i).length 5 0 (uv must l i).length),(7, .v (.bool must)),(9, .int i)], [(0, .rows true 0 9 [ai g]),(1, .rows true 0 5 [ak p]),(2, .rows true (uv must l i).length 5 ((uv must l i).map ak))],3⟩)
     (λ d i=>i+d=l.length) ?_ l.length 0 ?_) ?_ ?_
    ·rintro d i i1 hrec2;refine J0 ?_;refine zg4 (λ hi=> ?_) (λ hi=> ?_)<;>simp at hi
     ·have hks:=Rq must l hi;have hkl:=Kh must l i;cases must
      ·simp only [Bool.not_false,Bool.true_or,if_true] at hks;refine J1 hi ?_;refine zg3 (hrec2 (d - 1) ge (i+1) ge) ?_ gt;simp [go_sem,aj,hks]
      ·cases ht:(ac l i).took
       ·simp [ht] at hks;refine J2 hi ht ?_;refine zg3 (hrec2 (d - 1) ge (i+1) ge) ?_ gt;simp [go_sem,aj,hks]
       ·simp [ht] at hks;refine J2 hi ht ?_;refine zg3 (hrec2 (d - 1) ge (i+1) ge) ?_ gt;simp [go_sem,aj,hks]
     ·have hil:i=l.length:=by omega
      subst hil;have hkl:=Kh must l l.length;rw [hmv];generalize uv must l l.length=kk at *;cases must
      ·simp only [Bool.false_eq_true,if_false] at hml;refine J0 ?_;refine aP hD ?_;refine J0 ?_;subst hml;refine zha [2] hS ?_ (xN (eK _)) ?_
       ·(first|done|exact S2)
       ·exact K0
      ·simp only [if_true,List.append_nil] at hml;subst hml;refine J0 ?_;refine zha [2] hS ?_ (xN (eK _)) ?_
       ·(first|done|exact S2)
       ·exact K0
    ·omega
    ·simp [go_sem,aj,Rt]
    ·simp
  ·omega
  ·simp [go_sem,aj,RN]
  ·simp
theorem DZ (x:rM) (hx:Jj x) (hl:x.c.length<=1099511627776) (hl0:x.k0.length<=1099511627776) (hl1:x.k1.length<=1099511627776):aq Tryz.prog 36 [.agg (lY x)] (.agg (ai (jZ x))):=by
 refine pF Tryz.func36 ?_;obtain ⟨eg,heg⟩:∃eg,eg=ai (jZ x):=⟨_,rfl⟩
 rw [<- heg];have hB:=MV x.w x.h x.cut hx.w hx.h hx.cut;have hok:=BD hx.w.1 hx.h.1 x.cut;have hb:pO x.w x.h x.cut=x.board:=rfl;rw [hb] at hB hok;have r0:=Int.tmod_nonneg 3 hx.f0.1;have r1:=Int.tmod_lt_of_pos x.f0 (show (0:Int)<3 by decide);have f0:0<=x.f0∧x.f0<=255:=hx.f0;have f1:0<=x.f1∧x.f1<=255:=hx.f1;have f2:0<=x.f2∧x.f2<=255:=hx.f2;have f3:0<=x.f3∧x.f3<=255:=hx.f3;have f4:0<=x.f4∧x.f4<=255:=hx.f4;have m1:=Int.tmod_nonneg 4 hx.f1.1;have m3:=Int.tmod_nonneg 4 hx.f3.1;have m4:=Int.tmod_nonneg 4 hx.f4.1;have qq:∀n:Int,U8 n->(0<=n.tdiv 4∧n.tdiv 4<=63)∧0<=(n.tdiv 4).tmod 3∧(n.tdiv 4).tmod 3<3:=λ n hn=>by
  have h:n.tdiv 4=n / 4:=Int.tdiv_eq_ediv_of_nonneg hn.1;have h1:=hn.1;have h2:=hn.2;have h3:=Int.tmod_nonneg 3 (show 0<=n.tdiv 4 by omega);have h4:=Int.tmod_lt_of_pos (n.tdiv 4) (show (0:Int)<3 by decide);omega
 obtain ⟨q3,q3'⟩:=qq _ hx.f3;obtain ⟨q4,q4'⟩:=qq _ hx.f4;obtain ⟨bl,hbl⟩:∃bl,bl=if x.f3.tmod 4=3 then 1+(x.f3.tdiv 4).tmod 3 else 3:=⟨_,rfl⟩
 obtain ⟨en,hen⟩:∃en,en=if x.f4.tmod 4=3 then 1+(x.f4.tdiv 4).tmod 3 else 2:=⟨_,rfl⟩
 obtain ⟨R,hR⟩:∃R,R=x.rights:=⟨_,rfl⟩
 have hR':x.f0.tmod 3=R:=by rw [hR];rfl
 obtain ⟨b,hbb⟩:∃b,b=x.board:=⟨_,rfl⟩
 rw [<- hbb] at hB hok;refine J0 ?_;refine dP hB ?_;refine J1 hR' ?_;have hd8:b.next.length=8:=by rw [hbb];exact Hy _ _ _
 have hcell:1<=b.cells∧b.cells<=9:=by rw [hbb];exact Et hx.w.1 hx.h.1 _
 obtain ⟨K,hK⟩:∃K:Nat,K=mj x:=⟨_,rfl⟩
 have hKn:mj x=if x.k1.length=0 then 1 else 2:=by unfold mj;simp only [List.length_eq_zero_iff]
 have hKl:∀i,(x.ks i).length<=1099511627776:=λ i=>by unfold rM.ks;split<;>assumption
 have hKv:∀i,∀n ∈ x.ks i,U8 n:=λ i=>by unfold rM.ks;split;exact hx.k0;exact hx.k1
 refine zg4 (λ hk1=> ?_) (λ hk1=> ?_)<;>simp at hk1
 ·have hK2:mj x=2:=by rw [hKn,if_neg ge]
  rw [hK2] at hK;refine J0 ?_;refine zg3 (zg5 (α:=Nat) (λ a=>⟨[(1, .ref 0 0 12 0 0),(2, .ref 1 0 9 0 0),(3, .ref 20 0 9 0 0),(4, .int K),(5, .int a)],
   [(0, .rows true 0 12 [lY x]),(1, .rows true 0 9 [[.int 0,AV.nils,AV.nils,AV.nils, .int 0, .v (.bool false),AV.nils, .int 0, .int 0]]),(20, .rows true 0 9 [[.int b.cells,fu b.next,aS b.turn, .sl 22 a 3 0 a, .int R, .v (.bool (decide (x.f1.tmod 4=3))),AV.nils, .int 3, .int 2]]),(22, .rows true a 3 (LU x a))],23⟩)
   (λ d a=>a+d=K) ?_ K 0 ?_) ?_ ?_
  ·rintro d0 i i1 hrec;refine J0 ?_;refine zg4 (λ hi=> ?_) (λ hi=> ?_)<;>simp at hi
   ·have hi2:i=0∨i=1:=by omega
    have hkl:=hKl i;have hkv:=hKv i;have hks:rR x i=⟨if i=0 then xa else zX,((x.ks i).take 4).map (λ n=>yu n b.next.length K x.rights),Gk x.f2 i⟩:=by rw [hbb,hK,<- hK2];rfl
    rcases hi2 with rfl|rfl
    ·obtain ⟨kk,hkk⟩:∃kk,kk=x.ks 0:=⟨_,rfl⟩
     have hk0:x.k0=kk:=hkk.symm;rw [<- hkk] at hkl hkv hks;have hbit:Gk x.f2 0=decide (sT .u8 x.f2 1=1):=by simp [Gk]
     obtain ⟨f,hf⟩:∃f,f=(λ n=>yu n b.next.length K x.rights):=⟨_,rfl⟩
     have hfp:∀n,U8 n->aq Tryz.prog 77 [.v (.int .u8 n), .int b.next.length, .int K, .int R] (bE (f n)):=λ n hn=>by
      rw [hf,<- hR];exact ue n _ _ _ hn ge ge ge
     rw [<- hf,hbit] at hks;refine J1 hk0 ?_;refine zg3 (zg5 (α:=Nat) (λ n=>⟨[(1, .ref 0 0 12 0 0),(2, .ref 1 0 9 0 0),(3, .ref 20 0 9 0 0),(4, .int K),(5, .int 0),(6, .ref 35 0 3 0 0),(7, .int n)],
      [(0, .rows true 0 12 [lY x]),(1, .rows true 0 9 [[.int 0,AV.nils,AV.nils,AV.nils, .int 0, .v (.bool false),AV.nils, .int 0, .int 0]]),(20, .rows true 0 9 [[.int b.cells,fu b.next,aS b.turn, .sl 22 0 3 0 0, .int R, .v (.bool (decide (x.f1.tmod 4=3))),AV.nils, .int 3, .int 2]]),(22, .rows true 0 3 (LU x 0)),(35, .rows true 0 3 [[.v (.string ⟨#[97]⟩), .sl 37 n 1 0 n, .v (.bool (decide (sT .u8 x.f2 1=1)))]]),(37, .rows true n 1 (FC f kk n))],38⟩)
      (λ d n=>n+d=min kk.length 4) ?_ (min kk.length 4) 0 ?_) ?_ ?_
     ·rintro d n n1 hrec1;refine J1 hk0 ?_;refine zg4 (λ hn=> ?_) (λ hn=> ?_)<;>simp at hn
      ·have hn1:n<kk.length:=by omega
       have hn2:=hkv _ (am hn1);have hpl:=uC f kk (n:=n) ge;refine J2 hk0 hn1 ?_;refine dP (hfp _ hn2) ?_;refine J3 hk0 hn1 hpl ?_;refine zg3 (hrec1 (d - 1) ge (n+1) ge) ?_ gt;simp [go_sem,aj,hk0,CF f kk hn1]
      ·have hne:n=min kk.length 4:=by omega
       refine J0 ?_;refine zg3 (hrec (d0 - 1) ge (0+1) ge) ?_ gt;have hkx:LT (rR x 0)= [.v (.string ⟨#[97]⟩), .lst 1 (FC f kk n), .v (.bool (decide (sT .u8 x.f2 1=1)))]:=WI;have hpl:=uC f kk (n:=n) ge;simp [go_sem,aj,hk0,Cg x 0,hkx];(try refine bJ (.refl _) (.cons (.cons (.refl _) (.cons ?_ (.cons (.refl _) .nil))) .nil))
       refine eY.frz rfl ?_ ?_ (zhd ?_)<;>simp [fh,aC,hpl,List.take_of_length_le]
     ·omega
     ·simp [go_sem,aj,hk0]
     ·simp
    ·obtain ⟨kk,hkk⟩:∃kk,kk=x.ks 1:=⟨_,rfl⟩
     have hk0:x.k1=kk:=hkk.symm;rw [<- hkk] at hkl hkv hks;have hbit:Gk x.f2 1=decide (sT .u8 (x.f2.fdiv 2) 1=1):=by simp [Gk]
     obtain ⟨f,hf⟩:∃f,f=(λ n=>yu n b.next.length K x.rights):=⟨_,rfl⟩
     have hfp:∀n,U8 n->aq Tryz.prog 77 [.v (.int .u8 n), .int b.next.length, .int K, .int R] (bE (f n)):=λ n hn=>by
      rw [hf,<- hR];exact ue n _ _ _ hn ge ge ge
     rw [<- hf,hbit] at hks;refine J1 hk0 ?_;refine zg3 (zg5 (α:=Nat) (λ n=>⟨[(1, .ref 0 0 12 0 0),(2, .ref 1 0 9 0 0),(3, .ref 20 0 9 0 0),(4, .int K),(5, .int 1),(6, .ref 35 0 3 0 0),(7, .int n)],
      [(0, .rows true 0 12 [lY x]),(1, .rows true 0 9 [[.int 0,AV.nils,AV.nils,AV.nils, .int 0, .v (.bool false),AV.nils, .int 0, .int 0]]),(20, .rows true 0 9 [[.int b.cells,fu b.next,aS b.turn, .sl 22 1 3 0 1, .int R, .v (.bool (decide (x.f1.tmod 4=3))),AV.nils, .int 3, .int 2]]),(22, .rows true 1 3 (LU x 1)),(35, .rows true 0 3 [[.v (.string ⟨#[98,101,101]⟩), .sl 37 n 1 0 n, .v (.bool (decide (sT .u8 (x.f2.fdiv 2) 1=1)))]]),(37, .rows true n 1 (FC f kk n))],38⟩)
      (λ d n=>n+d=min kk.length 4) ?_ (min kk.length 4) 0 ?_) ?_ ?_
     ·rintro d n n1 hrec1;refine J1 hk0 ?_;refine zg4 (λ hn=> ?_) (λ hn=> ?_)<;>simp at hn
      ·have hn1:n<kk.length:=by omega
       have hn2:=hkv _ (am hn1);have hpl:=uC f kk (n:=n) ge;refine J2 hk0 hn1 ?_;refine dP (hfp _ hn2) ?_;refine J3 hk0 hn1 hpl ?_;refine zg3 (hrec1 (d - 1) ge (n+1) ge) ?_ gt;simp [go_sem,aj,hk0,CF f kk hn1]
      ·have hne:n=min kk.length 4:=by omega
       refine J0 ?_;refine zg3 (hrec (d0 - 1) ge (1+1) ge) ?_ gt;have hkx:LT (rR x 1)= [.v (.string ⟨#[98,101,101]⟩), .lst 1 (FC f kk n), .v (.bool (decide (sT .u8 (x.f2.fdiv 2) 1=1)))]:=WI;have hpl:=uC f kk (n:=n) ge;simp [go_sem,aj,hk0,Cg x 1,hkx];(try refine bJ (.refl _) (.cons (.cons (.refl _) (.cons ?_ (.cons (.refl _) .nil))) .nil))
       refine eY.frz rfl ?_ ?_ (zhd ?_)<;>simp [fh,aC,hpl,List.take_of_length_le]
     ·omega
     ·simp [go_sem,aj,hk0]
     ·simp
   ·have hiK:i=K:=by omega
    subst hiK;refine J0 ?_;refine zg4 (λ hb3=> ?_) (λ hb3=> ?_)<;>simp at hb3<;>(repeat (first|refine wV λ _=>?_|simp [go_sem]))
    all_goals refine zg4 (λ hb4=> ?_) (λ hb4=> ?_)<;>simp at hb4<;>(repeat (first|refine wV λ _=>?_|simp [go_sem]))
    all_goals (
     refine zg3 (zg5 (α:=Nat) (λ a=>⟨[(1, .ref 0 0 12 0 0),(2, .ref 1 0 9 0 0),(3, .ref 20 0 9 0 0),(4, .int i),(8, .int a)],
      [(0, .rows true 0 12 [lY x]),(1, .rows true 0 9 [[.int 0,AV.nils,AV.nils,AV.nils, .int 0, .v (.bool false),AV.nils, .int 0, .int 0]]),(20, .rows true 0 9 [[.int b.cells,fu b.next,aS b.turn, .sl 22 i 3 0 i, .int R, .v (.bool (decide (x.f1.tmod 4=3))), .sl 23 a 4 0 a, .int bl, .int en]]),(22, .rows true i 3 (LU x i)),(23, .rows true a 4 (QK b.cells i x.c a))],24⟩)
      (λ d a=>a+d=min x.c.length 3) ?_ (min x.c.length 3) 0 ?_) ?_ ?_
     ·rintro d j j1 hrec2;refine J0 ?_;refine zg4 (λ hj=> ?_) (λ hj=> ?_)<;>simp at hj
      ·have hj1:j<x.c.length:=by omega
       have hjc:=hx.c _ (am hj1);have hpl:=Fp b.cells i x.c (n:=j) ge;have hsu:=NX b.cells i x.c hj1;generalize hcx:ac x.c j=c at *;obtain ⟨c0,c1,c2⟩:=c;obtain ⟨u0,u1,u2⟩:=hjc;obtain ⟨w0,w0'⟩:=qq _ u0;obtain ⟨v0,v0'⟩:=u0;obtain ⟨v1,v1'⟩:=u1;obtain ⟨v2,v2'⟩:=u2;simp only at v0 v0' v1 v1' v2 v2' w0 w0';have t0:=Int.tmod_nonneg 3 v0;have t1:=Int.tmod_lt_of_pos c0 (show (0:Int)<3 by decide);have hip:(0:Int)<i:=ge;have k0:=Int.tmod_nonneg i v1;have n0:=Int.tmod_nonneg b.cells v2;have n1:=Int.tmod_nonneg 3 v2;rcases (show c0.tmod 3=0∨c0.tmod 3=1∨c0.tmod 3=2 by omega) with ht|ht|ht
       ·have hr:BF (fC b.cells i (c0,c1,c2))= [.int 1, .int (c1.tmod i), .int 0, .int (1+(c0.tdiv 4).tmod 3)]:=by simp [BF,fC,cd,ht]
        refine J4 hj1 hcx ht hpl ?_;refine zg3 (hrec2 (d - 1) ge (j+1) ge) ?_ gt;simp [go_sem,aj,hsu,hr]
       ·have hr:BF (fC b.cells i (c0,c1,c2))= [.int 2, .int (c1.tmod i), .int (c2.tmod b.cells), .int (1+(c0.tdiv 4).tmod 3)]:=by simp [BF,fC,cd,ht]
        refine J4 hj1 hcx ht hpl ?_;refine zg3 (hrec2 (d - 1) ge (j+1) ge) ?_ gt;simp [go_sem,aj,hsu,hr]
       ·have hr:BF (fC b.cells i (c0,c1,c2))= [.int 3, .int 0, .int (c2.tmod 3), .int (1+(c0.tdiv 4).tmod 3)]:=by simp [BF,fC,cd,ht]
        refine J4 hj1 hcx ht hpl ?_;refine zg3 (hrec2 (d - 1) ge (j+1) ge) ?_ gt;simp [go_sem,aj,hsu,hr]
      ·have hki:mj x=i:=by rw [hK2,hK]
       have hjm:j=min x.c.length 3:=ge;have htk:x.c.take (min x.c.length 3)=x.c.take 3:=by rw [List.take_eq_take_iff];omega
       have hpl:=Fp b.cells i x.c (n:=j) ge;have hkl:(LU x i).length=i:=TA x i;have hcl:QK b.cells i x.c j=((x.c.take 3).map (fC b.cells i)).map cd:=by unfold QK;rw [hjm,htk]
       have hG:jZ x={ cells:=b.cells,next:=b.next,turn:=b.turn,kinds:=(List.range i).map (rR x),rights:=R,must:=decide (x.f1.tmod 4=3),clauses:=(x.c.take 3).map (fC b.cells i),blocked:=bl,endless:=en}:=by
        unfold jZ;rw [hki,<- hbb,<- hR,<- hbl,<- hen]
       have hEnc:eg= [.int b.cells,fu b.next,aS b.turn, .lst 3 (LU x i), .int R, .v (.bool (decide (x.f1.tmod 4=3))), .lst 4 (QK b.cells i x.c j), .int bl, .int en]:=by
        rw [heg,hG,hcl];rfl
       refine J0 ?_;rw [hEnc];refine ⟨.cons (.refl _) (.cons (.refl _) (.cons (.refl _) (.cons (aI rfl ge Xb YD) (.cons (.refl _) (.cons (.refl _) (.cons (aI rfl ge Xb YD) (.cons (.refl _) (.cons (.refl _) .nil)))))))), ?_⟩;intro c hc;simp only [List.mem_cons,List.not_mem_nil,or_false] at hc;rcases hc with rfl|rfl|rfl|rfl|rfl|rfl|rfl|rfl|rfl;all_goals first|exact .v _|simp [go_sem]
     ·omega
     ·simp [go_sem,aj,hbl,hen,hb3,hb4]
     ·simp)
  ·omega
  ·simp [go_sem,aj,hK]
  ·simp
 ·have hK2:mj x=1:=by rw [hKn,if_pos (by simp [hk1])]
  rw [hK2] at hK;refine J0 ?_;refine zg3 (zg5 (α:=Nat) (λ a=>⟨[(1, .ref 0 0 12 0 0),(2, .ref 1 0 9 0 0),(3, .ref 20 0 9 0 0),(4, .int K),(5, .int a)],
   [(0, .rows true 0 12 [lY x]),(1, .rows true 0 9 [[.int 0,AV.nils,AV.nils,AV.nils, .int 0, .v (.bool false),AV.nils, .int 0, .int 0]]),(20, .rows true 0 9 [[.int b.cells,fu b.next,aS b.turn, .sl 22 a 3 0 a, .int R, .v (.bool (decide (x.f1.tmod 4=3))),AV.nils, .int 3, .int 2]]),(22, .rows true a 3 (LU x a))],23⟩)
   (λ d a=>a+d=K) ?_ K 0 ?_) ?_ ?_
  ·rintro d0 i i1 hrec;refine J0 ?_;refine zg4 (λ hi=> ?_) (λ hi=> ?_)<;>simp at hi
   ·have hi2:i=0∨i=1:=by omega
    have hkl:=hKl i;have hkv:=hKv i;have hks:rR x i=⟨if i=0 then xa else zX,((x.ks i).take 4).map (λ n=>yu n b.next.length K x.rights),Gk x.f2 i⟩:=by rw [hbb,hK,<- hK2];rfl
    rcases hi2 with rfl|rfl
    ·obtain ⟨kk,hkk⟩:∃kk,kk=x.ks 0:=⟨_,rfl⟩
     have hk0:x.k0=kk:=hkk.symm;rw [<- hkk] at hkl hkv hks;have hbit:Gk x.f2 0=decide (sT .u8 x.f2 1=1):=by simp [Gk]
     obtain ⟨f,hf⟩:∃f,f=(λ n=>yu n b.next.length K x.rights):=⟨_,rfl⟩
     have hfp:∀n,U8 n->aq Tryz.prog 77 [.v (.int .u8 n), .int b.next.length, .int K, .int R] (bE (f n)):=λ n hn=>by
      rw [hf,<- hR];exact ue n _ _ _ hn ge ge ge
     rw [<- hf,hbit] at hks;refine J1 hk0 ?_;refine zg3 (zg5 (α:=Nat) (λ n=>⟨[(1, .ref 0 0 12 0 0),(2, .ref 1 0 9 0 0),(3, .ref 20 0 9 0 0),(4, .int K),(5, .int 0),(6, .ref 35 0 3 0 0),(7, .int n)],
      [(0, .rows true 0 12 [lY x]),(1, .rows true 0 9 [[.int 0,AV.nils,AV.nils,AV.nils, .int 0, .v (.bool false),AV.nils, .int 0, .int 0]]),(20, .rows true 0 9 [[.int b.cells,fu b.next,aS b.turn, .sl 22 0 3 0 0, .int R, .v (.bool (decide (x.f1.tmod 4=3))),AV.nils, .int 3, .int 2]]),(22, .rows true 0 3 (LU x 0)),(35, .rows true 0 3 [[.v (.string ⟨#[97]⟩), .sl 37 n 1 0 n, .v (.bool (decide (sT .u8 x.f2 1=1)))]]),(37, .rows true n 1 (FC f kk n))],38⟩)
      (λ d n=>n+d=min kk.length 4) ?_ (min kk.length 4) 0 ?_) ?_ ?_
     ·rintro d n n1 hrec1;refine J1 hk0 ?_;refine zg4 (λ hn=> ?_) (λ hn=> ?_)<;>simp at hn
      ·have hn1:n<kk.length:=by omega
       have hn2:=hkv _ (am hn1);have hpl:=uC f kk (n:=n) ge;refine J2 hk0 hn1 ?_;refine dP (hfp _ hn2) ?_;refine J3 hk0 hn1 hpl ?_;refine zg3 (hrec1 (d - 1) ge (n+1) ge) ?_ gt;simp [go_sem,aj,hk0,CF f kk hn1]
      ·have hne:n=min kk.length 4:=by omega
       refine J0 ?_;refine zg3 (hrec (d0 - 1) ge (0+1) ge) ?_ gt;have hkx:LT (rR x 0)= [.v (.string ⟨#[97]⟩), .lst 1 (FC f kk n), .v (.bool (decide (sT .u8 x.f2 1=1)))]:=WI;have hpl:=uC f kk (n:=n) ge;simp [go_sem,aj,hk0,Cg x 0,hkx];(try refine bJ (.refl _) (.cons (.cons (.refl _) (.cons ?_ (.cons (.refl _) .nil))) .nil))
       refine eY.frz rfl ?_ ?_ (zhd ?_)<;>simp [fh,aC,hpl,List.take_of_length_le]
     ·omega
     ·simp [go_sem,aj,hk0]
     ·simp
    ·obtain ⟨kk,hkk⟩:∃kk,kk=x.ks 1:=⟨_,rfl⟩
     have hk0:x.k1=kk:=hkk.symm;rw [<- hkk] at hkl hkv hks;have hbit:Gk x.f2 1=decide (sT .u8 (x.f2.fdiv 2) 1=1):=by simp [Gk]
     obtain ⟨f,hf⟩:∃f,f=(λ n=>yu n b.next.length K x.rights):=⟨_,rfl⟩
     have hfp:∀n,U8 n->aq Tryz.prog 77 [.v (.int .u8 n), .int b.next.length, .int K, .int R] (bE (f n)):=λ n hn=>by
      rw [hf,<- hR];exact ue n _ _ _ hn ge ge ge
     rw [<- hf,hbit] at hks;refine J1 hk0 ?_;refine zg3 (zg5 (α:=Nat) (λ n=>⟨[(1, .ref 0 0 12 0 0),(2, .ref 1 0 9 0 0),(3, .ref 20 0 9 0 0),(4, .int K),(5, .int 1),(6, .ref 35 0 3 0 0),(7, .int n)],
      [(0, .rows true 0 12 [lY x]),(1, .rows true 0 9 [[.int 0,AV.nils,AV.nils,AV.nils, .int 0, .v (.bool false),AV.nils, .int 0, .int 0]]),(20, .rows true 0 9 [[.int b.cells,fu b.next,aS b.turn, .sl 22 1 3 0 1, .int R, .v (.bool (decide (x.f1.tmod 4=3))),AV.nils, .int 3, .int 2]]),(22, .rows true 1 3 (LU x 1)),(35, .rows true 0 3 [[.v (.string ⟨#[98,101,101]⟩), .sl 37 n 1 0 n, .v (.bool (decide (sT .u8 (x.f2.fdiv 2) 1=1)))]]),(37, .rows true n 1 (FC f kk n))],38⟩)
      (λ d n=>n+d=min kk.length 4) ?_ (min kk.length 4) 0 ?_) ?_ ?_
     ·rintro d n n1 hrec1;refine J1 hk0 ?_;refine zg4 (λ hn=> ?_) (λ hn=> ?_)<;>simp at hn
      ·have hn1:n<kk.length:=by omega
       have hn2:=hkv _ (am hn1);have hpl:=uC f kk (n:=n) ge;refine J2 hk0 hn1 ?_;refine dP (hfp _ hn2) ?_;refine J3 hk0 hn1 hpl ?_;refine zg3 (hrec1 (d - 1) ge (n+1) ge) ?_ gt;simp [go_sem,aj,hk0,CF f kk hn1]
      ·have hne:n=min kk.length 4:=by omega
       refine J0 ?_;refine zg3 (hrec (d0 - 1) ge (1+1) ge) ?_ gt;have hkx:LT (rR x 1)= [.v (.string ⟨#[98,101,101]⟩), .lst 1 (FC f kk n), .v (.bool (decide (sT .u8 (x.f2.fdiv 2) 1=1)))]:=WI;have hpl:=uC f kk (n:=n) ge;simp [go_sem,aj,hk0,Cg x 1,hkx];(try refine bJ (.refl _) (.cons (.cons (.refl _) (.cons ?_ (.cons (.refl _) .nil))) .nil))
       refine eY.frz rfl ?_ ?_ (zhd ?_)<;>simp [fh,aC,hpl,List.take_of_length_le]
     ·omega
     ·simp [go_sem,aj,hk0]
     ·simp
   ·have hiK:i=K:=by omega
    subst hiK;refine J0 ?_;refine zg4 (λ hb3=> ?_) (λ hb3=> ?_)<;>simp at hb3<;>(repeat (first|refine wV λ _=>?_|simp [go_sem]))
    all_goals refine zg4 (λ hb4=> ?_) (λ hb4=> ?_)<;>simp at hb4<;>(repeat (first|refine wV λ _=>?_|simp [go_sem]))
    all_goals (
     refine zg3 (zg5 (α:=Nat) (λ a=>⟨[(1, .ref 0 0 12 0 0),(2, .ref 1 0 9 0 0),(3, .ref 20 0 9 0 0),(4, .int i),(8, .int a)],
      [(0, .rows true 0 12 [lY x]),(1, .rows true 0 9 [[.int 0,AV.nils,AV.nils,AV.nils, .int 0, .v (.bool false),AV.nils, .int 0, .int 0]]),(20, .rows true 0 9 [[.int b.cells,fu b.next,aS b.turn, .sl 22 i 3 0 i, .int R, .v (.bool (decide (x.f1.tmod 4=3))), .sl 23 a 4 0 a, .int bl, .int en]]),(22, .rows true i 3 (LU x i)),(23, .rows true a 4 (QK b.cells i x.c a))],24⟩)
      (λ d a=>a+d=min x.c.length 3) ?_ (min x.c.length 3) 0 ?_) ?_ ?_
     ·rintro d j j1 hrec2;refine J0 ?_;refine zg4 (λ hj=> ?_) (λ hj=> ?_)<;>simp at hj
      ·have hj1:j<x.c.length:=by omega
       have hjc:=hx.c _ (am hj1);have hpl:=Fp b.cells i x.c (n:=j) ge;have hsu:=NX b.cells i x.c hj1;generalize hcx:ac x.c j=c at *;obtain ⟨c0,c1,c2⟩:=c;obtain ⟨u0,u1,u2⟩:=hjc;obtain ⟨w0,w0'⟩:=qq _ u0;obtain ⟨v0,v0'⟩:=u0;obtain ⟨v1,v1'⟩:=u1;obtain ⟨v2,v2'⟩:=u2;simp only at v0 v0' v1 v1' v2 v2' w0 w0';have t0:=Int.tmod_nonneg 3 v0;have t1:=Int.tmod_lt_of_pos c0 (show (0:Int)<3 by decide);have hip:(0:Int)<i:=ge;have k0:=Int.tmod_nonneg i v1;have n0:=Int.tmod_nonneg b.cells v2;have n1:=Int.tmod_nonneg 3 v2;rcases (show c0.tmod 3=0∨c0.tmod 3=1∨c0.tmod 3=2 by omega) with ht|ht|ht
       ·have hr:BF (fC b.cells i (c0,c1,c2))= [.int 1, .int (c1.tmod i), .int 0, .int (1+(c0.tdiv 4).tmod 3)]:=by simp [BF,fC,cd,ht]
        refine J4 hj1 hcx ht hpl ?_;refine zg3 (hrec2 (d - 1) ge (j+1) ge) ?_ gt;simp [go_sem,aj,hsu,hr]
       ·have hr:BF (fC b.cells i (c0,c1,c2))= [.int 2, .int (c1.tmod i), .int (c2.tmod b.cells), .int (1+(c0.tdiv 4).tmod 3)]:=by simp [BF,fC,cd,ht]
        refine J4 hj1 hcx ht hpl ?_;refine zg3 (hrec2 (d - 1) ge (j+1) ge) ?_ gt;simp [go_sem,aj,hsu,hr]
       ·have hr:BF (fC b.cells i (c0,c1,c2))= [.int 3, .int 0, .int (c2.tmod 3), .int (1+(c0.tdiv 4).tmod 3)]:=by simp [BF,fC,cd,ht]
        refine J4 hj1 hcx ht hpl ?_;refine zg3 (hrec2 (d - 1) ge (j+1) ge) ?_ gt;simp [go_sem,aj,hsu,hr]
      ·have hki:mj x=i:=by rw [hK2,hK]
       have hjm:j=min x.c.length 3:=ge;have htk:x.c.take (min x.c.length 3)=x.c.take 3:=by rw [List.take_eq_take_iff];omega
       have hpl:=Fp b.cells i x.c (n:=j) ge;have hkl:(LU x i).length=i:=TA x i;have hcl:QK b.cells i x.c j=((x.c.take 3).map (fC b.cells i)).map cd:=by unfold QK;rw [hjm,htk]
       have hG:jZ x={ cells:=b.cells,next:=b.next,turn:=b.turn,kinds:=(List.range i).map (rR x),rights:=R,must:=decide (x.f1.tmod 4=3),clauses:=(x.c.take 3).map (fC b.cells i),blocked:=bl,endless:=en}:=by
        unfold jZ;rw [hki,<- hbb,<- hR,<- hbl,<- hen]
       have hEnc:eg= [.int b.cells,fu b.next,aS b.turn, .lst 3 (LU x i), .int R, .v (.bool (decide (x.f1.tmod 4=3))), .lst 4 (QK b.cells i x.c j), .int bl, .int en]:=by
        rw [heg,hG,hcl];rfl
       refine J0 ?_;rw [hEnc];refine ⟨.cons (.refl _) (.cons (.refl _) (.cons (.refl _) (.cons (aI rfl ge Xb YD) (.cons (.refl _) (.cons (.refl _) (.cons (aI rfl ge Xb YD) (.cons (.refl _) (.cons (.refl _) .nil)))))))), ?_⟩;intro c hc;simp only [List.mem_cons,List.not_mem_nil,or_false] at hc;rcases hc with rfl|rfl|rfl|rfl|rfl|rfl|rfl|rfl|rfl;all_goals first|exact .v _|simp [go_sem]
     ·omega
     ·simp [go_sem,aj,hbl,hen,hb3,hb4]
     ·simp)
  ·omega
  ·simp [go_sem,aj,hK]
  ·simp
theorem D0 (g:ae) (hg:bN g) (x:uT) (hx:Ap x):aq Tryz.prog 37 [.agg (ai g), .agg (kK x)] (.agg (ak (qJ g x))):=by
 refine pF Tryz.func37 ?_;obtain ⟨q,hq⟩:∃q,q=qJ g x:=⟨_,rfl⟩
 have hrow:=tL hx;obtain ⟨er,her⟩:∃er,er=kK x:=⟨_,rfl⟩
 rw [<- hq,<- her];rw [<- her] at hrow;obtain ⟨rl,rc,rk,rh,rr,rs,rb⟩:=hrow;have c1:=hg.c1;have c9:=hg.c9;have k1:=hg.k1;have k6:=hg.k6;have hr0:=hg.r0;have hr4:=hg.r4;obtain ⟨gc,hgc⟩:∃gc:Nat,g.cells=gc:=⟨g.cells.toNat,ge⟩
 have hpow:(1:Int)<=2 ^ g.rights.toNat∧(2:Int) ^ g.rights.toNat<=16:=by
  rcases (show g.rights.toNat=0∨g.rights.toNat=1∨g.rights.toNat=2∨g.rights.toNat=3∨g.rights.toNat=4 by omega) with h|h|h|h|h<;>rw [h]<;>decide
 have hrt:=hx.r;have hsd:=hx.s;obtain ⟨rt,hrt'⟩:∃rt,x.rights=rt:=⟨_,rfl⟩
 obtain ⟨pw,hpw⟩:∃pw:Int,(2:Int) ^ g.rights.toNat=pw:=⟨_,rfl⟩
 have r1:0<=x.rights∧x.rights<=255:=hx.r;have s1:0<=x.side∧x.side<=255:=hx.s;have s0:=Int.tmod_nonneg 2 s1.1;have s2:=Int.tmod_lt_of_pos x.side (show (0:Int)<2 by decide);rw [hpw] at hpow;generalize heg:ai g=eg at *;have hel:eg.length=9:=Yv;have hbl:∀n,(∀c' ∈ eg,aN n c')=True:=λ n=>by rw [<- heg];simp [go_sem]
 have e0:mZ eg 0= .int g.cells:=Yv;have e3:mZ eg 3= .lst 3 (g.kinds.map cH):=Yv;have e4:mZ eg 4= .int g.rights:=Yv;refine y7 hel e0 e3 e4 rl rr rs rb hbl hpw ?_;have hcz:g.cells.toNat=gc:=ge;have hkne:g.kinds≠ []:=pi;have hz:List.replicate gc [AV.v (.int .i64 0)]=(pm g x 0).map dR:=by simp [pm,hcz,dR]
 refine zg3 (zg5 (α:=Nat) (λ i=>⟨[(2, .ref 0 0 9 0 0),(3, .ref 1 0 18 0 0),(4, .ref 2 0 5 0 0),(5, .ref 19 0 5 0 0),(6, .int i)], [(0, .rows true 0 9 [eg]),(1, .rows true 0 18 [er]),(2, .rows true 0 5 [[AV.nils,AV.nils,AV.nils, .int 0, .int 0]]),(6, .rows true 0 1 ((pm g x i).map dR)),(19, .rows true 0 5 [[.sl 6 0 1 0 gc,AV.nils,AV.nils, .int (x.rights.tmod pw), .int (x.side.tmod 2)]])],21⟩)
  (λ d i=>i+d=6) ?_ 6 0 ?_) ?_ ?_
 ·rintro d i i1 hrec;refine J0 ?_;refine zg4 (λ hi=> ?_) (λ hi=> ?_)<;>simp at hi
  ·have hci:=hx.cv _ (am (l:=x.cell) (i:=i) (by rw [hx.c6];omega));have hki:=hx.kv _ (am (l:=x.kind) (i:=i) (by rw [hx.k6];omega));have hci':0<=ac x.cell i∧ac x.cell i<=255:=hci;have hki':0<=ac x.kind i∧ac x.kind i<=255:=hki;have m0:=Int.tmod_nonneg (g.cells+1) hci'.1;have m1:=Int.tmod_nonneg (g.kinds.length:Int) hki'.1;have m2:=Int.tmod_lt_of_pos (ac x.kind i) (show (0:Int)<g.kinds.length by omega);have m3:=Int.tmod_nonneg 2 (show (0:Int)<=i by omega);have m4:=Int.tmod_lt_of_pos (i:Int) (show (0:Int)<2 by decide);have hrc:=rc i ge;have hrk:=rk i ge;have hsu:=yt g x i;have hal:=AW g x i;rw [hcz] at hal;unfold Dd at hsu;refine J6 hel e0 e3 e4 hrc hrk ?_;refine zg4 (λ hc=> ?_) (λ hc=> ?_)<;>simp at hc
   ·have hc1:=hc.1;rw [if_pos hc1] at hsu;refine J7 hel e0 e3 e4 hrc hrk hal ?_;refine zg3 (hrec (d - 1) ge (i+1) ge) ?_ gt;simp [go_sem,aj,hsu,rb,hbl]
   ·have hc1:¬(ac x.cell i).tmod (g.cells+1)<g.cells:=λ h=>hkne (hc h);rw [if_neg hc1] at hsu;refine J6 hel e0 e3 e4 hrc hrk ?_;refine zg3 (hrec (d - 1) ge (i+1) ge) ?_ gt;simp [go_sem,aj,hsu,rb,hbl]
  ·obtain rfl:i=6:=by omega
   have hal:=AW g x 6;rw [hcz] at hal;have hqe:q=⟨pm g x 6,ow g x 0 (min g.kinds.length 2),ow g x 1 (min g.kinds.length 2),x.rights.tmod pw,x.side.tmod 2⟩:=by grind [qJ]
   clear hq;have hq:=hqe;refine J4 hel e0 e3 e4 ?_;refine zg6 ?_;refine J4 hel e0 e3 e4 ?_;have hz0:=G7 g x 0;refine zg3 (zg5 (α:=Nat) (λ k=>⟨[(2, .ref 0 0 9 0 0),(3, .ref 1 0 18 0 0),(4, .ref 2 0 5 0 0),(5, .ref 19 0 5 0 0),(8, .int 0),(9, .int k)], [(0, .rows true 0 9 [eg]),(1, .rows true 0 18 [er]),(2, .rows true 0 5 [[AV.nils,AV.nils,AV.nils, .int 0, .int 0]]),(6, .rows true 0 1 ((pm g x 6).map dR)),(19, .rows true 0 5 [[.sl 6 0 1 0 gc, .sl 21 0 1 0 g.kinds.length,AV.nils, .int (x.rights.tmod pw), .int (x.side.tmod 2)]]),(21, .rows true 0 1 ((ow g x 0 k).map dR))],22⟩)
    (λ d k=>k+d=min g.kinds.length 2) ?_ (min g.kinds.length 2) 0 ?_) ?_ ?_
   ·rintro d k j1 hrec0;refine J4 hel e0 e3 e4 ?_;refine zg4 (λ hj=> ?_) (λ hj=> ?_)<;>simp at hj
    ·have hk2:k<2:=by omega
     have hkk:k<g.kinds.length:=ge;have hhv:=hx.hv _ (am (l:=x.hand) (i:=2 * 0+k) (by rw [hx.h4];omega));have hh1:0<=ac x.hand (2 * 0+k)∧ac x.hand (2 * 0+k)<=255:=hhv;have hrh:=rh (2 * 0+k) ge;have m0:=Int.tmod_nonneg 3 hh1.1;have hsu:=G6 g x 0 k;have hsk:=G5 g x 0 k;have hhl:=qh g x 0 k;have hV:G9 g x 0 k=if (ac g.kinds k).keep=true then (if 250<ac x.hand (2 * 0+k) then 8 else (ac x.hand (2 * 0+k)).tmod 3) else 0:=rfl
     simp only [Nat.mul_zero,Nat.zero_add,Nat.mul_one] at hrh hh1 m0 hV;refine J5 hel e0 e3 e4 hkk ?_;refine zg4 (λ hkeep=> ?_) (λ hkeep=> ?_)
     ·rw [if_pos hkeep] at hV;have eI:((k:Int)).toNat=k:=ge;have eI2:(k:Int)<4:=ge;refine J9 hel e0 e3 e4 hkk hrh hhl eI eI2 ?_;refine zg4 (λ hbig=> ?_) (λ hbig=> ?_)<;>simp at hbig
      ·rw [if_pos hbig] at hV;rw [hV] at hsu;refine J7 hel e0 e3 e4 hkk hrh hhl ?_;refine zg3 (hrec0 (d - 1) ge (k+1) ge) ?_ gt;simp [go_sem,aj,hsu,rb,hbl]
      ·rw [if_neg ge] at hV;rw [hV] at hsu;refine J7 hel e0 e3 e4 hkk hrh hhl ?_;refine zg3 (hrec0 (d - 1) ge (k+1) ge) ?_ gt;simp [go_sem,aj,hsu,rb,hbl]
     ·rw [if_neg pi] at hV;have hsk':=hsk hV;refine J4 hel e0 e3 e4 ?_;refine zg3 (hrec0 (d - 1) ge (k+1) ge) ?_ gt;simp [go_sem,aj,hsk',rb,hbl]
    ·have hkm:k=min g.kinds.length 2:=by omega
     subst hkm;refine J4 hel e0 e3 e4 ?_;refine zg6 ?_;refine J4 hel e0 e3 e4 ?_;have hz1:=G7 g x 1;refine zg3 (zg5 (α:=Nat) (λ k=>⟨[(2, .ref 0 0 9 0 0),(3, .ref 1 0 18 0 0),(4, .ref 2 0 5 0 0),(5, .ref 19 0 5 0 0),(8, .int 1),(9, .int k)], [(0, .rows true 0 9 [eg]),(1, .rows true 0 18 [er]),(2, .rows true 0 5 [[AV.nils,AV.nils,AV.nils, .int 0, .int 0]]),(6, .rows true 0 1 ((pm g x 6).map dR)),(19, .rows true 0 5 [[.sl 6 0 1 0 gc, .sl 21 0 1 0 g.kinds.length, .sl 22 0 1 0 g.kinds.length, .int (x.rights.tmod pw), .int (x.side.tmod 2)]]),(21, .rows true 0 1 ((ow g x 0 (min g.kinds.length 2)).map dR)),(22, .rows true 0 1 ((ow g x 1 k).map dR))],23⟩)
      (λ d k=>k+d=min g.kinds.length 2) ?_ (min g.kinds.length 2) 0 ?_) ?_ ?_
     ·rintro d k j1 hrec1;refine J4 hel e0 e3 e4 ?_;refine zg4 (λ hj=> ?_) (λ hj=> ?_)<;>simp at hj
      ·have hk2:k<2:=by omega
       have hkk:k<g.kinds.length:=ge;have hhv:=hx.hv _ (am (l:=x.hand) (i:=2 * 1+k) (by rw [hx.h4];omega));have hh1:0<=ac x.hand (2 * 1+k)∧ac x.hand (2 * 1+k)<=255:=hhv;have hrh:=rh (2 * 1+k) ge;have m0:=Int.tmod_nonneg 3 hh1.1;have hsu:=G6 g x 1 k;have hsk:=G5 g x 1 k;have hhl:=qh g x 1 k;have hV:G9 g x 1 k=if (ac g.kinds k).keep=true then (if 250<ac x.hand (2 * 1+k) then 8 else (ac x.hand (2 * 1+k)).tmod 3) else 0:=rfl
       simp only [Nat.mul_zero,Nat.zero_add,Nat.mul_one] at hrh hh1 m0 hV;refine J5 hel e0 e3 e4 hkk ?_;refine zg4 (λ hkeep=> ?_) (λ hkeep=> ?_)
       ·rw [if_pos hkeep] at hV;have eI:(2+(k:Int)).toNat=2+k:=ge;have eI2:2+(k:Int)<4:=ge;refine J9 hel e0 e3 e4 hkk hrh hhl eI eI2 ?_;refine zg4 (λ hbig=> ?_) (λ hbig=> ?_)<;>simp at hbig
        ·rw [if_pos hbig] at hV;rw [hV] at hsu;refine J7 hel e0 e3 e4 hkk hrh hhl ?_;refine zg3 (hrec1 (d - 1) ge (k+1) ge) ?_ gt;simp [go_sem,aj,hsu,rb,hbl]
        ·rw [if_neg ge] at hV;rw [hV] at hsu;refine J7 hel e0 e3 e4 hkk hrh hhl ?_;refine zg3 (hrec1 (d - 1) ge (k+1) ge) ?_ gt;simp [go_sem,aj,hsu,rb,hbl]
       ·rw [if_neg (by simpa using hkeep)] at hV;have hsk':=hsk hV;refine J4 hel e0 e3 e4 ?_;refine zg3 (hrec1 (d - 1) ge (k+1) ge) ?_ gt;simp [go_sem,aj,hsk',rb,hbl]
      ·have hkm:k=min g.kinds.length 2:=by omega
       subst hkm;refine J4 hel e0 e3 e4 ?_;refine J4 hel e0 e3 e4 ?_;refine zg6 ?_;refine J4 hel e0 e3 e4 ?_;rw [hq];exact ⟨aI rfl (by simp [hal]) Xb (by simp [List.take_of_length_le,hal]),aI rfl (by simp [qh]) Xb (by simp [List.take_of_length_le,qh]),aI rfl (by simp [qh]) Xb (by simp [List.take_of_length_le,qh]), .refl _, .refl _⟩
     ·omega
     ·simp [go_sem,aj,rb,hbl,hz1]
     ·simp
   ·omega
   ·simp [go_sem,aj,rb,hbl,hz0]
   ·simp
 ·rfl
 ·simp [go_sem,aj,rb,hbl,hz,hcz]
 ·simp
structure zI where
 g:rM
 p:uT
 picks:List Int
structure pS (x:zI):Prop where
 g:Jj x.g
 p:Ap x.p
 k:∀n ∈ x.picks,U8 n
 lk:x.picks.length<=1099511627776
 l0:x.g.k0.length<=1099511627776
 l1:x.g.k1.length<=1099511627776
 lc:x.g.c.length<=1099511627776
def dX (x:zI):List AV:=lY x.g++(kK x.p++ [JF x.picks])
structure zgx (g:ae) (c:mY):Prop where
 sh:Lg g c
 len:∀l ∈ c.1++c.2,∀x ∈ l,x.length<=1099511627776∧uP 1048576 x
theorem zgx.side {g:ae}{c:mY} (h:zgx g c){s:Nat} (hs:s<2):∃l,mZ [dd c.1,dd c.2] s=dd l∧l.length=g.kinds.length∧(∀x ∈ l,(x.length:Int)=g.cells)∧∀x ∈ l,∀y ∈ x,y.length<=1099511627776∧uP 1048576 y:=by
 rcases (show s=0∨s=1 by omega) with rfl|rfl
 ·exact ⟨_,rfl,h.sh.l1,h.sh.c1,λ x hx=>h.len x WY⟩
 ·exact ⟨_,rfl,h.sh.l2,h.sh.c2,λ x hx=>h.len x WY⟩
theorem lq (p:aa) (hf:bH p) (s:Int):aq Tryz.prog 30 [.agg (ak p), .int s] (.agg (ak (aK p s))):=by
 refine pF Tryz.func30 ?_;have hc:=MF p hf;refine J0 ?_;refine zg8 hc no ?_;repeat first|refine wV λ _=>?_|simp [go_sem,aK]
 refine ⟨?_, ?_, ?_⟩<;>exact BY
theorem jz {α:Type} (f:α->Nat):∀ {l:List α},l≠ []->∃a ∈ l,∀b ∈ l,f b<=f a
 | [],h=>absurd rfl h
 | [a], _=>⟨a,gt,λ b hb=>pi⟩
 |a::c::l, _=>by
  obtain ⟨x,hx,h⟩:=jz f (l:=c::l) gt;grind
structure zgy where
 mod:Int
 men:List (List Int)
 h0:List Int
 h1:List Int
 rights:List Int
 side:Int
def zgy.hand (x:zgy) (s:Int):List Int:=if s=0 then x.h0 else x.h1
end Go.Av
end
section
/- Contracts, runs of the program: own, man, provided, and the steps. -/
open Go Go.Proofs
namespace Go.Av
def Pf (n:Nat) (s:dM):AV:= .agg [.sl (n+2) 1 1 0 s.p.at_.length, .sl (n+81) 1 1 0 s.p.h0.length, .sl (n+161) 1 1 0 s.p.h1.length, .int s.p.rights, .int s.p.side, .int s.kind, .int s.cursor, .v (.bool s.took)]
def KB (n:Nat) (s:dM):List (Nat×cB):= [(n+2, .rows true 1 1 (s.p.at_.map dR)),(n+81, .rows true 1 1 (s.p.h0.map dR)),(n+161, .rows true 1 1 (s.p.h1.map dR))]
attribute [go_sem] Pf KB
theorem yD (s:dM) (ha:bH s.p):uR Tryz.prog 207 [.agg (bC s)] (λ n=>Pf n s) (λ n=>KB n s) 241:=by
 refine ⟨aF Tryz.func207 ?_,λ n=>⟨no,no⟩⟩;obtain ⟨a1,a2,a3⟩:=ha;have h1:=wl s.p.at_ a1;have h2:=wl s.p.h0 a2;have h3:=wl s.p.h1 a3;refine J0 ?_;refine zg8 h1 no ?_;refine J0 ?_;refine zhw 81 X7 (h2) Wm no no (λ _=>aY.refl _ _ _ _) no no ?_;refine J0 ?_;refine zhw 161 X7 (h3) Wm no no (λ _=>aY.refl _ _ _ _) no no ?_;((repeat (first|with_reducible (first|refine wL λ _=>?_|refine wD λ _=>?_|refine wZ ?_)|simp [go_sem]));refine zhH Pi ?_)
 refine J0 ?_;simp [go_sem,aj]
theorem HE (s:dM) (hc:s.cursor.toNat<s.p.at_.length) (h0:0<=s.cursor):aq Tryz.prog 328 [.agg (bC s)] (.tup [.int (aA (ac s.p.at_ s.cursor.toNat)).1, .int (aA (ac s.p.at_ s.cursor.toNat)).2]):=by
 refine pF Tryz.func328 ?_;have hO:=Do (ac s.p.at_ s.cursor.toNat);generalize aA (ac s.p.at_ s.cursor.toNat)=m at *;refine J1 hc ?_;refine aP hO ?_;exact K0
theorem lw (s:dM) (b:Bool):aq Tryz.prog 327 [.agg (bC s), .v (.bool b)] (fK (dF s b)):=by
 refine pF Tryz.func327 ?_;cases b
 ·repeat first|refine wV λ _=>?_|simp [go_sem,dF]
 ·repeat first|refine wV λ _=>?_|simp [go_sem,dF]
  exact BY
abbrev zO (f:FuncId) (g:ae) (s:dM) (n:Int) (r:List dM):Prop:=aq Tryz.prog f [.agg (bC s), .agg (ai g), .int n] (fK r)
section
variable (g:ae) (hg:bN g) (s:dM) (hs:jx g s) (n:Int)
theorem zau (hg:bN g):zO 300 g s n (dF { s with cursor:=sb g.board s.p.side n s.cursor} (decide (0<=sb g.board s.p.side n s.cursor))):=by
 refine pF Tryz.func300 ?_;have hT:=Bx g.board hg.board s.p.side n s.cursor;have hP:=lw { s with cursor:=sb g.board s.p.side n s.cursor};refine J0 ?_;refine aP hT ?_;refine J0 ?_;refine aP (hP _) ?_;exact K0
theorem SE (hg:bN g) (hs:jx g s):zO 301 g s n (tQ g.board s n):=by
 refine pF Tryz.func301 ?_;have hL:=Gg g.board hg.board s.p.side n s.cursor;have hlm:=sC hg.board (side:=s.p.side) (d:=n) (c:=s.cursor);have hll:=Dt (b:=g.board) (side:=s.p.side) (d:=n) (c:=s.cursor);have c9:=hg.c9;have c1:=hg.c1;have hal:=hs.p.al;rw [show g.board.cells=g.cells from rfl] at hlm hll;unfold tQ;generalize uy g.board s.p.side n s.cursor=line at *;generalize hR:dQ s line=R;refine J0 ?_;refine aP hL ?_;refine J0 ?_;refine zg3 (zg5 (α:=Nat×List dM) (λ a=>⟨[(3, .ref 0 0 8 0 0),(7, .sl 2 a.2.length 8 0 a.2.length),(19,aS line),(20, .int line.length),(21, .int a.1)], [(0, .rows true 0 8 [bC s]),(2, .rows true a.2.length 8 (a.2.map bC))],3⟩)
  (λ d a=>a.1+d=line.length∧a.2.length=a.1∧R=a.2++dQ s (line.drop a.1)) ?_ line.length (0, []) ?_) ?_ ?_
 ·rintro d ⟨i,out⟩ ⟨i1,i2,i3⟩ hrec;simp only at i1 i2 i3;refine J0 ?_;refine zg4 (λ hi=> ?_) (λ hi=> ?_)<;>simp at hi
  ·have hli:=hlm _ (am hi);have hlt:(ac line i).toNat<s.p.at_.length:=ge;rw [bQ hi,dQ] at i3;refine J2 hi hlt ?_;refine zg4 (λ hz=> ?_) (λ hz=> ?_)<;>simp at hz
   ·rw [if_neg pi] at i3;refine J0 ?_;rw [i3];exact BY
   ·rw [if_pos pi] at i3;refine J0 ?_;refine zg3 (hrec (d - 1) ge (i+1,out++ [{ s with cursor:=ac line i}]) ⟨ge,pi,pi⟩) ?_ gt;simp [go_sem,aj]
  ·rw [List.drop_eq_nil_of_le hi,dQ] at i3;refine J0 ?_;rw [i3];exact BY
 ·simp [hR]
 ·simp [go_sem,aj]
 ·simp
theorem HD (hg:bN g) (hs:jx g s):s.cursor.toNat<s.p.at_.length∧0<=s.cursor∧(ac s.p.at_ s.cursor.toNat=0∧aA (ac s.p.at_ s.cursor.toNat)=(-1, -1)∨ac s.p.at_ s.cursor.toNat≠0∧0<=(aA (ac s.p.at_ s.cursor.toNat)).1∧(aA (ac s.p.at_ s.cursor.toNat)).1<g.kinds.length∧
  ((aA (ac s.p.at_ s.cursor.toNat)).2=0∨(aA (ac s.p.at_ s.cursor.toNat)).2=1))∧(s.p.side=0∨s.p.side=1):=by
 have hal:=hs.p.al;have hc0:=hs.c0;have hc1:=hs.c1;have hcur:s.cursor.toNat<s.p.at_.length:=ge;have hat:=hs.p.at (i:=s.cursor.toNat) ge;have hman:=cT hat.1 hat.2 hg.k6;refine ⟨hcur,hc0, ?_,hs.p.s⟩;grind
theorem QT (hg:bN g) (hs:jx g s):zO 302 g s n (dF s (decide ((aA (ac s.p.at_ s.cursor.toNat)).1<0))):=by
 refine pF Tryz.func302 ?_;obtain ⟨hcur,h0,hm,hsd⟩:=HD g s hg hs;have e:decide ((aA (ac s.p.at_ s.cursor.toNat)).1<0)=decide (ac s.p.at_ s.cursor.toNat=0):=by
  grind
 rw [e];have hP:=lw s;refine J1 hcur ?_;refine dP (hP _) ?_;exact K0
theorem QX (hg:bN g) (hs:jx g s):zO 303 g s n (dF s (decide (0<=(aA (ac s.p.at_ s.cursor.toNat)).1∧(aA (ac s.p.at_ s.cursor.toNat)).2≠s.p.side))):=by
 refine pF Tryz.func303 ?_;obtain ⟨hcur,h0,hm,hsd⟩:=HD g s hg hs;have hO:=HE s hcur h0;have hP:=lw s;have e:decide (0<=(aA (ac s.p.at_ s.cursor.toNat)).1∧(aA (ac s.p.at_ s.cursor.toNat)).2≠s.p.side)=decide ((aA (ac s.p.at_ s.cursor.toNat)).2=1 - s.p.side):=by
  grind
 rw [e];generalize aA (ac s.p.at_ s.cursor.toNat)=m at *;refine J0 ?_;refine aP hO ?_;refine J0 ?_;refine aP (hP _) ?_;exact K0
theorem Ow (hg:bN g) (hs:jx g s):zO 304 g s n (dF s (decide (0<=(aA (ac s.p.at_ s.cursor.toNat)).1∧(aA (ac s.p.at_ s.cursor.toNat)).2=s.p.side))):=by
 refine pF Tryz.func304 ?_;obtain ⟨hcur,h0,hm,hsd⟩:=HD g s hg hs;have hO:=HE s hcur h0;have hP:=lw s;have e:decide (0<=(aA (ac s.p.at_ s.cursor.toNat)).1∧(aA (ac s.p.at_ s.cursor.toNat)).2=s.p.side)=decide ((aA (ac s.p.at_ s.cursor.toNat)).2=s.p.side):=by
  grind
 rw [e];generalize aA (ac s.p.at_ s.cursor.toNat)=m at *;refine J0 ?_;refine aP hO ?_;refine J0 ?_;refine aP (hP _) ?_;exact K0
theorem zag (hg:bN g) (hs:jx g s):zO 305 g s n (wi g s):=by
 refine pF Tryz.func305 ?_;obtain ⟨hcur,h0,hm,hsd⟩:=HD g s hg hs;have hO:=HE s hcur h0;have hP:=lw;have hcp:=yD s (hs.p.fits hg);unfold wi;generalize hme:aA (ac s.p.at_ s.cursor.toNat)=m at *;obtain ⟨mk,ms⟩:=m;simp only [Prod.mk.injEq] at hm;refine J0 ?_;refine aP hO ?_;refine J0 ?_;refine zg4 (λ hc=> ?_) (λ hc=> ?_)<;>simp at hc
 ·rw [if_pos ge];exact K0
 ·rw [if_neg ge];refine J0 ?_;refine zg8 hcp no ?_;have hmk:mk.toNat<g.kinds.length:=ge;have hmk':0<=mk:=ge;refine J2 hcur hmk ?_;refine zg4 (λ hk=> ?_) (λ hk=> ?_)
  ·rw [if_neg pi];repeat first|refine wV λ _=>?_|simp [go_sem,clr]
   (first|done|exact zd1)
  ·rw [if_pos pi];have hl0:=hs.p.h0.len;have hl1:=hs.p.h1.len;rcases hsd with hsd|hsd
   ·have hmk0:mk.toNat<s.p.h0.length:=by omega
    have hv:=hs.p.h0.v _ hmk0;obtain ⟨u,hu⟩:∃u:dM,u={ s with p:=(clr s.p s.cursor).withHand s.p.side ((s.p.hand s.p.side).set mk.toNat (ac (s.p.hand s.p.side) mk.toNat+1)),took:=true}:=⟨_,rfl⟩
    have hres:(if 8<ac (s.p.hand s.p.side) mk.toNat+1 then [] else [u])=dF u (decide (ac s.p.h0 mk.toNat+1<=8)):=by
     grind [aa.hand,dF]
    rw [<- hu,hres];have hue:bC u= [.lst 1 ((s.p.at_.map dR).set s.cursor.toNat [.int 0]), .lst 1 ((s.p.h0.map dR).set mk.toNat [.int (ac s.p.h0 mk.toNat+1)]), .lst 1 (s.p.h1.map dR), .int s.p.rights, .int s.p.side, .int s.kind, .int s.cursor, .v (.bool true)]:=by
     grind [bC,aa.withHand,aa.hand,clr,aS,dR,List.map_set]
    have hP':=hP u;rw [hue,hsd] at hP';(repeat (first|with_reducible (first|refine wL λ _=>?_|refine wD λ _=>?_|refine wE ?_)|simp [go_sem,hsd,hmk0,hcur]))
    refine FZ.frz (io _ [4,83,163]) (ri _ _) ?_;repeat first|refine wV λ _=>?_|simp [go_sem,hsd,hmk0,hcur,io,kq]
    refine cX.frz _ _ [4,83,163] [] (hP' (decide (ac s.p.h0 mk.toNat+1<=8))) gt ?_ no ?_
    ·intro h₁ hS;have e4:=hS 4 gt;have e5:=hS 83 gt;have e6:=hS 163 gt;simp [aC,io,kq] at e4 e5 e6;refine .cons (.agg (.cons (aI e4.symm gt (by simp [aB,<- e4]) Wz) (.cons (aI e5.symm gt (by simp [aB,<- e5]) Wz) (.cons (aI e6.symm gt (by simp [aB,<- e6]) Wz) (.refl _ _ _ _))))) (.refl _ _ _ _)
    ·exact K0
   ·have hmk0:mk.toNat<s.p.h1.length:=by omega
    have hv:=hs.p.h1.v _ hmk0;obtain ⟨u,hu⟩:∃u:dM,u={ s with p:=(clr s.p s.cursor).withHand s.p.side ((s.p.hand s.p.side).set mk.toNat (ac (s.p.hand s.p.side) mk.toNat+1)),took:=true}:=⟨_,rfl⟩
    have hres:(if 8<ac (s.p.hand s.p.side) mk.toNat+1 then [] else [u])=dF u (decide (ac s.p.h1 mk.toNat+1<=8)):=by
     grind [aa.hand,dF]
    rw [<- hu,hres];have hue:bC u= [.lst 1 ((s.p.at_.map dR).set s.cursor.toNat [.int 0]), .lst 1 (s.p.h0.map dR), .lst 1 ((s.p.h1.map dR).set mk.toNat [.int (ac s.p.h1 mk.toNat+1)]), .int s.p.rights, .int s.p.side, .int s.kind, .int s.cursor, .v (.bool true)]:=by
     grind [bC,aa.withHand,aa.hand,clr,aS,dR,List.map_set]
    have hP':=hP u;rw [hue,hsd] at hP';(repeat (first|with_reducible (first|refine wL λ _=>?_|refine wD λ _=>?_|refine wE ?_)|simp [go_sem,hsd,hmk0,hcur]))
    refine FZ.frz (io _ [4,83,163]) (ri _ _) ?_;repeat first|refine wV λ _=>?_|simp [go_sem,hsd,hmk0,hcur,io,kq]
    refine cX.frz _ _ [4,83,163] [] (hP' (decide (ac s.p.h1 mk.toNat+1<=8))) gt ?_ no ?_
    ·intro h₁ hS;have e4:=hS 4 gt;have e5:=hS 83 gt;have e6:=hS 163 gt;simp [aC,io,kq] at e4 e5 e6;refine .cons (.agg (.cons (aI e4.symm gt (by simp [aB,<- e4]) Wz) (.cons (aI e5.symm gt (by simp [aB,<- e5]) Wz) (.cons (aI e6.symm gt (by simp [aB,<- e6]) Wz) (.refl _ _ _ _))))) (.refl _ _ _ _)
    ·exact K0
theorem V3 (hg:bN g) (hs:jx g s):zO 306 g s n (v7 g s n):=by
 refine pF Tryz.func306 ?_;have hT:=Bx g.board hg.board s.p.side n s.cursor;have hal:=hs.p.al;have hc0:=hs.c0;have hc1:=hs.c1;have hcur:s.cursor.toNat<s.p.at_.length:=ge;have hcp:=yD s (hs.p.fits hg);have hto:=tU hg.board s.p.side n s.cursor;rw [show g.board.cells=g.cells from rfl] at hto;unfold v7;generalize sb g.board s.p.side n s.cursor=to at *;refine J0 ?_;refine aP hT ?_;by_cases ht:to<0
 ·rw [if_pos (.inr (.inl ht))];have ht0:to.toNat=0:=ge;have h0l:0<s.p.at_.length:=ge;exact K4 hcur ht ht0 h0l
 ·have htl:to.toNat<s.p.at_.length:=by omega
  have ht':0<=to:=ge;refine J3 hcur ht htl ?_;refine zg4 (λ hc=> ?_) (λ hc=> ?_)<;>simp at hc
  ·rw [if_pos ge];exact K0
  ·rw [if_neg ge];refine J1 hcur ?_;refine zg8 hcp no ?_;refine J2 hcur htl ?_;(first|done|exact zd1)
theorem NB:zO 307 g s n [{ s with kind:=n}]:=by
 refine pF Tryz.func307 ?_;refine J0 ?_;exact BY
theorem VN (h0:0<=n) (h4:n<64):zO 308 g s n (dF s (decide (sT .i64 (s.p.rights.fdiv (2 ^ n.toNat)) 1=1))):=by
 refine pF Tryz.func308 ?_;have hP:=lw s;refine J0 ?_;refine dP (hP _) ?_;exact K0
theorem VJ (h0:0<=n) (h4:n<=4):zO 309 g s n [{ s with p:={ s.p with rights:=mO .i64 s.p.rights (2 ^ n.toNat)}}]:=by
 refine pF Tryz.func309 ?_;have hpn:=CE h0 h4;refine J0 ?_;exact BY
end
end Go.Av
end
section
open Go Go.Proofs
namespace Go.Av
theorem zae (g:ae) (hg:bN g) (s:dM) (hs:jx g s) (x:Int×Int) (hx:jN g.next.length g.kinds.length g.rights x):
  aq Tryz.prog 280 [.agg (ai g), .agg (bC s), .agg (dC x)] (fK (di g s x)):=by
 refine pF Tryz.func280 ?_;have r4:=hg.r4;obtain ⟨op,n⟩:=x;obtain ⟨xo,xd,xz,xk,xr⟩:=hx;simp only at xo xd xz xk xr;rcases (show op=1∨op=2∨op=3∨op=4∨op=5∨op=6∨op=7∨op=8∨op=9∨op=10 by omega) with rfl|rfl|rfl|rfl|rfl|rfl|rfl|rfl|rfl|rfl
 ·have hS:=zau g s n hg;refine J0 ?_;refine dP hS ?_;refine J0 ?_;grind [zhg,di]
 ·have hS:=SE g s n hg hs;refine J0 ?_;refine dP hS ?_;refine J0 ?_;grind [zhg,di]
 ·have hS:=QT g s n hg hs;refine J0 ?_;refine dP hS ?_;refine J0 ?_;grind [zhg,di]
 ·have hS:=QX g s n hg hs;refine J0 ?_;refine dP hS ?_;refine J0 ?_;grind [zhg,di,dF]
 ·have hS:=Ow g s n hg hs;refine J0 ?_;refine dP hS ?_;refine J0 ?_;grind [zhg,di,dF]
 ·have hS:=zag g s n hg hs;refine J0 ?_;refine dP hS ?_;refine J0 ?_;grind [zhg,di]
 ·have hS:=V3 g s n hg hs;refine J0 ?_;refine dP hS ?_;refine J0 ?_;grind [zhg,di]
 ·have hS:=NB g s n;refine J0 ?_;refine dP hS ?_;refine J0 ?_;grind [zhg,di,bC,aS]
 ·have hn:=xr ge;have hS:=VN g s n hn.1 ge;refine J0 ?_;refine dP hS ?_;refine J0 ?_;grind [zhg,di]
 ·have hn:=xr ge;have hS:=VJ g s n hn.1 ge;refine J0 ?_;refine dP hS ?_;refine J0 ?_;grind [zhg,di,bC,aS]
theorem P5 (m:Int) (h0:0<=m) (h1:m<=17179869184):uR Tryz.prog 193 [AV.nils, .int m] (λ n=> .sl n 0 1 0 0) (λ n=> [(n, .rows true 0 1 [])]) 1:=by
 refine ⟨?_,λ n=>⟨no,no⟩⟩;by_cases hm:m=0
 ·subst hm;refine aF Tryz.func193 ?_;refine J0 ?_;simp [go_sem,aj]
 ·refine ap.clear ?_;refine aF Tryz.func193 ?_;refine J0 ?_;refine DX ?_;refine J0 ?_;refine zeM ?_;refine J0 ?_;refine ⟨0,0,1,Wm,⟨rfl,rfl,rfl⟩, ?_⟩;simp [go_sem,aj]
theorem KZ (a b c d:List Int) (ha:a.length<=1000) (hb:b.length<=1000) (hc:c.length<=1000) (hd:d.length<=1000):aq Tryz.prog 142 [.lst 1 [[aS a], [aS b], [aS c], [aS d]]] (aS (a++b++c++d)):=by
 refine pF Tryz.func142 ?_;refine J0 ?_;refine zg6 ?_;refine J0 ?_;refine DX ?_;refine J0 ?_;refine zg6 ?_;refine J0 ?_;refine DX ?_;refine J0 ?_;refine zg6 ?_;refine J0 ?_;refine DX ?_;refine J0 ?_;refine zg6 ?_;refine J0 ?_;refine DX ?_;refine J0 ?_;refine zg6 ?_;refine J0 ?_;refine zg8 (P5 _ ge ge) no ?_;refine J0 ?_;refine zg6 ?_;refine J0 ?_;refine zg6 ?_;refine J0 ?_;refine zg6 ?_;refine J0 ?_;refine zg6 ?_;refine J0 ?_;refine zg6 ?_;refine J0 ?_;exact BY

theorem Jy:∀l:List Int,qF (l.map AH)=some l
 | []=>rfl
 |n::l=>by rw [List.map_cons,AH,qF,Jy l];rfl
def xj (p:aa):List Int:=p.at_++p.h0++p.h1++ [p.rights,p.side]
def lM (p:aa):ByteArray:=nL (xj p)
theorem MK (p:aa) (ha:p.at_.length<=100) (hb:p.h0.length<=100) (hc:p.h1.length<=100) (hv:∀x ∈ xj p,0<=x∧x<=255):aq Tryz.prog 138 [.agg (ak p)] (.v (.string (lM p))):=by
 refine pF Tryz.func138 ?_;have hC:aq Tryz.prog 142 [.lst 1 [[.lst 1 (p.at_.map dR)], [.lst 1 (p.h0.map dR)], [.lst 1 (p.h1.map dR)], [.lst 1 [[.int p.rights], [.int p.side]]]]] (aS (p.at_++p.h0++p.h1++ [p.rights,p.side])):=
  KZ p.at_ p.h0 p.h1 [p.rights,p.side] ge ge ge gt
 have hll:(xj p).length<=302:=by grind [xj]
 unfold lM;rw [show p.at_++p.h0++p.h1++ [p.rights,p.side]=xj p from rfl] at hC;generalize xj p=l at *;refine J0 ?_;refine zha [1,2] hC ?_ no ?_
 ·(first|done|exact zJ)
 refine J0 ?_;refine zg3 (zg5 (α:=Nat) (λ i=>⟨[(3, .sl 3 i 1 0 i),(20,aS l),(21, .int l.length),(22, .int i)], [(3, .rows true i 1 ((l.take i).map AH))],4⟩)
  (λ d i=>i+d=l.length) ?_ l.length 0 ?_) ?_ ?_
 ·rintro d i i1 hrec;refine J0 ?_;refine zg4 (λ hi=> ?_) (λ hi=> ?_)<;>simp at hi
  ·have hx:=hv _ (am hi);have hem:(ac l i).emod 256=ac l i:=Int.emod_eq_of_lt hx.1 ge;have hem2:ac l i % 256=ac l i:=hem;refine J3 hi hem hem2 ?_;refine zg3 (hrec (d - 1) ge (i+1) ge) ?_ gt;rw [List.take_add_one,List.getElem?_eq_getElem hi,<- dT _ _ hi];simp [go_sem,aj,AH,hem,hem2];intro x hx c hc;obtain ⟨y, _,rfl⟩:=List.mem_map.1 (List.mem_of_mem_take hx);simp only [AH,List.mem_singleton] at hc;subst hc;exact .v _
  ·have hb:qF (List.take i (List.map AH l))=some l:=by grind [List.take_of_length_le,Jy]
   have hb2:qF (List.take i (List.take i (List.map AH l)))=some l:=pi;exact K2 hb hb2
 ·omega
 ·simp [go_sem,aj]
 ·simp
def xX (n:Int):ByteArray:=nL [48+n]
theorem PF (n:Int) (h0:0<=n) (h1:n<10):aq Tryz.prog 338 [.int n] (.v (.string (xX n))):=by
 refine pF Tryz.func338 ?_;rcases (show n=0∨n=1∨n=2∨n=3∨n=4∨n=5∨n=6∨n=7∨n=8∨n=9 by omega) with rfl|rfl|rfl|rfl|rfl|rfl|rfl|rfl|rfl|rfl<;>((repeat (first|refine wV λ _=>?_|simp [go_sem])))<;>exact zhg Pi
theorem Mn (n:Int) (h0:0<=n) (h1:n<10):aq Tryz.prog 336 [.int n, .int 10] (.v (.string (xX n))):=by
 refine pF Tryz.func336 ?_;have hS:=PF n h0 h1;have h1':n<100:=ge;refine J2 h0 h1' ?_;refine aP hS ?_;exact K0
theorem SA (n:Int) (h0:0<=n) (h1:n<10):aq Tryz.prog 329 [.int n] (.v (.string (xX n))):=by
 refine pF Tryz.func329 ?_;have hS:=Mn n h0 h1;refine J0 ?_;refine aP hS ?_;exact K0
theorem Jg (n:Int) (h0:0<=n) (h1:n<10):aq Tryz.prog 310 [.int n] (.v (.string (xX n))):=by
 refine pF Tryz.func310 ?_;have hS:=SA n h0 h1;refine J0 ?_;refine aP hS ?_;exact K0
theorem Sz (b:Bool):aq Tryz.prog 330 [.v (.bool b)] (.v (.string (if b then nL [116,114,117,101] else nL [102,97,108,115,101]))):=by
 refine pF Tryz.func330 ?_;cases b
 ·refine J0 ?_;exact zhg Pi
 ·refine J0 ?_;exact zhg Pi
theorem T7 (b:Bool):aq Tryz.prog 311 [.v (.bool b)] (.v (.string (if b then nL [116,114,117,101] else nL [102,97,108,115,101]))):=by
 refine pF Tryz.func311 ?_;have hS:=Sz b;refine J0 ?_;refine aP hS ?_;exact K0
theorem CO:∀ (l:List Int) (r:ByteArray),(l.foldl (λ r n=>r.push (UInt8.ofNat n.toNat)) r).data.toList=r.data.toList++l.map λ n=>UInt8.ofNat n.toNat
 | [],r=>gt
 |n::l,r=>by
  rw [List.foldl_cons,CO l];simp [ByteArray.push]
theorem wT (l:List Int):(nL l).data.toList=l.map λ n=>UInt8.ofNat n.toNat:=by
 simp_all [nL,CO]
theorem wS (l:List Int):(nL l).size=l.length:=by
 grind [ByteArray.size_data,wT,List.length_map]
def rQ (s:dM):ByteArray:=xX s.kind++nL [32]++xX s.cursor++nL [32]++(if s.took then nL [116,114,117,101] else nL [102,97,108,115,101])++nL [32]++lM s.p
theorem zcb (s:dM) (hk:0<=s.kind∧s.kind<10) (hc:0<=s.cursor∧s.cursor<10) (h1:s.p.at_.length<=100) (h2:s.p.h0.length<=100) (h3:s.p.h1.length<=100) (hv:∀x ∈ xj s.p,0<=x∧x<=255):
  aq Tryz.prog 281 [.agg (bC s)] (.v (.string (rQ s))):=by
 refine pF Tryz.func281 ?_;have hK:=Jg s.kind hk.1 hk.2;have hC:=Jg s.cursor hc.1 hc.2;have hB:=T7 s.took;have hP:=MK s.p h1 h2 h3 hv;have hdk:(xX s.kind).size=1:=wS _;have hdc:(xX s.cursor).size=1:=wS _;have hdb:(if s.took then nL [116,114,117,101] else nL [102,97,108,115,101]).size<=5:=by grind [wS]
 have hdp:(lM s.p).size<=302:=by grind [lM,wS,xj]
 have h32:(ByteArray.mk ⟨[32]⟩).size=1:=rfl;unfold rQ;rw [show nL [32]=ByteArray.mk ⟨[32]⟩ from rfl];generalize xX s.kind=dk at *;generalize xX s.cursor=dc at *;generalize (if s.took then nL [116,114,117,101] else nL [102,97,108,115,101])=db at *;generalize lM s.p=dp at *;generalize ByteArray.mk ⟨[32]⟩=sp at *;refine J0 ?_;refine dP hK ?_;refine J0 ?_;refine dP hC ?_;refine J0 ?_;refine dP hB ?_;refine J0 ?_;refine dP hP ?_;exact K0
def pN (side:Int) (x:Int×Int) (s:dM) (l:List ck):List ck:=if x.1=0 then l++(iC side s).toList else l
def TD (p:aa) (l:List ck):List (Nat×cB):= [(0, .rows true 0 5 [ak p]),(1, .rows true 0 1 [[.sl 2 l.length 6 0 l.length]]),(2, .rows true l.length 6 (l.map cu))]
theorem VI (g:ae) (hg:bN g) (p:aa) (hp:bw g p) (s:dM) (hs:jx g s) (hsd:s.p.side=p.side) (x:Int×Int) (l:List ck) (hl:l.length<=100000000):
  dD Tryz.prog 245 [.agg (bC s), .agg (dC x), .ref 0 0 5 0 0, .ref 1 0 1 0 0] (TD p l) 3 (.tup []) (TD p (pN p.side x s l)) 3:=by
 unfold dD TD;refine aF Tryz.func245 ?_;obtain ⟨hcur,h0,hm, _⟩:=HD g s hg hs;have hcp:=yD s (hs.p.fits hg);have hC:=wC s.kind p.side;have hps:=hp.s;obtain ⟨op,xn⟩:=x;refine J1 hcur ?_;refine zg4 (λ hc=> ?_) (λ hc=> ?_)<;>simp at hc
 ·have e:pN p.side (op,xn) s l=l:=by
   grind [pN,iC]
  rw [e];refine J0 ?_;simp [go_sem,aj]
 ·have e:pN p.side (op,xn) s l=l++ [⟨{ s.p with at_:=s.p.at_.set s.cursor.toNat (gQ s.kind p.side),side:=1 - p.side},s.took⟩]:=by
   grind [pN,iC]
  rw [e];generalize gQ s.kind p.side=code at *;refine J1 hcur ?_;refine zg8 hcp no ?_;refine J1 hcur ?_;refine dP hC ?_;refine J1 hcur ?_;simp [go_sem,aj];(first|done|exact zgu)
theorem lT {n:Nat} (l:List ck):∀r ∈ l.map cu,∀c ∈ r,aN n c:=by
 intro r hr c hc;obtain ⟨x, _,rfl⟩:=List.mem_map.1 hr;revert c;simp [go_sem]
def Ht (h:au) (a b c:Nat) (p:aa) (l:List ck):au:=aC (aC (aC h a (some (.rows true 0 5 [ak p]))) b (some (.rows true 0 1 [[.sl c l.length 6 0 l.length]]))) c (some (.rows true l.length 6 (l.map cu)))
theorem Kl (g:ae) (hg:bN g) (p:aa) (hp:bw g p) (s:dM) (hs:jx g s) (hsd:s.p.side=p.side) (x:Int×Int) (l:List ck) (hl:l.length<=100000000){h:au}{n a b c:Nat}
  (hd: [a,b,c].Nodup) (hlt:∀j ∈ [a,b,c],j<n) (ha:h a=some (.rows true 0 5 [ak p])) (hb:h b=some (.rows true 0 1 [[.sl c l.length 6 0 l.length]])) (hc:h c=some (.rows true l.length 6 (l.map cu))) {K:cI}
  (hK:K (.tup []) (Ht h a b c p (pN p.side x s l)) n):
  ap Tryz.prog 245 [.agg (bC s), .agg (dC x), .ref a 0 5 0 0, .ref b 0 1 0 0] h n K:=by
 have hbs:∀m,aN m (.agg (bC s)):=λ m=>no;have hbx:∀m,aN m (.agg (dC x)):=λ m=>no;have hbp:∀m,∀c ∈ ak p,aN m c:=λ m=>no;refine zhf (args':= [.agg (bC s), .agg (dC x), .ref a 0 5 0 0, .ref b 0 1 0 0])
  (HH:= [(a, .rows true 0 5 [ak p]),(b, .rows true 0 1 [[.sl c (pN p.side x s l).length 6 0 (pN p.side x s l).length]]),(c, .rows true (pN p.side x s l).length 6 ((pN p.side x s l).map cu))])
  [a,b,c] h (VI g hg p hp s hs hsd x l hl) hd hlt rfl (Nat.le_refl _) (.refl _) ?_ ?_ (.refl _ _ _ _) ?_ ?_ ?_ (.same ?_) ?_ ?_
 ·intro j hj;rcases (show j=0∨j=1∨j=2 by omega) with rfl|rfl|rfl
  ·exact ⟨_, _,rfl,ha, .rows (.same pi)⟩
  ·exact ⟨_, _,rfl,hb, .rows (.cons (.cons (.sl rfl) .nil) .nil)⟩
  ·exact ⟨_, _,rfl,hc, .rows (.same (lT _))⟩
 ·intro q hq;simp only [TD,List.mem_cons,List.not_mem_nil,or_false] at hq;rcases hq with rfl|rfl|rfl
  ·grind [se]
  ·exact ⟨Nat.le_of_ble_eq_true rfl,by simp [go_sem,se]⟩
  grind [lT,se]
 ·intro y hy;simp only [List.mem_cons,List.not_mem_nil,or_false] at hy;rcases hy with rfl|rfl|rfl|rfl
  ·grind
  ·grind
  ·exact .ref (hlt a gt)
  ·exact .ref (hlt b gt)
 ·exact .cons (.same (hbs _)) (.cons (.same (hbx _)) (.cons (.ref rfl) (.cons (.ref rfl) .nil)))
 ·intro y hy;simp only [List.mem_cons,List.not_mem_nil,or_false] at hy;rcases hy with rfl|rfl|rfl|rfl
  ·grind
  ·grind
  ·exact .ref Wm
  ·exact .ref Wm
 ·exact .tup gt
 ·exact .cons rfl (.rows (.same pi)) (.cons rfl (.rows (.cons (.cons (.sl rfl) .nil) .nil)) (.cons rfl (.rows (.same (lT _))) .nil))
 ·have e:dL [(a, .rows true 0 5 [ak p]),(b, .rows true 0 1 [[.sl c (pN p.side x s l).length 6 0 (pN p.side x s l).length]]),(c, .rows true (pN p.side x s l).length 6 ((pN p.side x s l).map cu))] (iZ [a,b,c] h)=Ht h a b c p (pN p.side x s l):=by
   funext j;simp only [dL,iZ,Ht,aC];grind
  grind
def VE (s:dM):List Int:= [48+s.kind,32,48+s.cursor,32]++((if s.took then [116,114,117,101] else [102,97,108,115,101])++([32]++xj s.p))
theorem OR (s:dM):(rQ s).data.toList=(VE s).map λ n=>UInt8.ofNat n.toNat:=by
 unfold rQ xX lM VE;cases s.took<;>simp [ByteArray.data_append,wT]
theorem zgh {x y:Int} (hx:0<=x∧x<=255) (hy:0<=y∧y<=255) (h:UInt8.ofNat x.toNat=UInt8.ofNat y.toNat):x=y:=by
 grind [UInt8.toNat_ofNat']
theorem AX:∀ {l l':List Int},(∀x ∈ l,0<=x∧x<=255)->(∀x ∈ l',0<=x∧x<=255)->(l.map λ n=>UInt8.ofNat n.toNat)=(l'.map λ n=>UInt8.ofNat n.toNat)->l=l'
 | [], [], _, _, _=>rfl
 | [], _:: _, _, _,h=>WZ
 | _:: _, [], _, _,h=>WZ
 |x::l,y::l',h1,h2,h=>by
  simp only [List.map_cons,List.cons.injEq] at h;rw [zgh (h1 x gt) (h2 y gt) h.1,AX (λ z hz=>h1 z (by simp [hz])) (λ z hz=>h2 z (by simp [hz])) h.2]
theorem Bs {g:ae} (hg:bN g){p:aa} (hp:bw g p):∀x ∈ xj p,0<=x∧x<=255:=by
 have k6:=hg.k6;have r0:=hp.r0;have r1:=hp.r1;have hr:(2:Int) ^ g.rights.toNat<=16:=by
  have h1:=hg.r0;have h2:=hg.r4;rcases (show g.rights=0∨g.rights=1∨g.rights=2∨g.rights=3∨g.rights=4 by omega) with h|h|h|h|h<;>rw [h]<;>decide
 have hh:∀l,oO g l->∀x ∈ l,0<=x∧x<=255:=by
  intro l hl x hx;obtain ⟨i,hi,rfl⟩:=List.mem_iff_getElem.1 hx;have:=hl.v i hi;grind [ac]
 intro x hx;simp only [xj,List.mem_append,List.mem_cons,List.not_mem_nil,or_false] at hx;rcases hx with ((hx|hx)|hx)|hx|hx
 ·have:=hp.av x hx;omega
 ·exact hh _ hp.h0 x hx
 ·exact hh _ hp.h1 x hx
 ·omega
 ·have:=hp.s;omega
theorem zca {g:ae} (hg:bN g){a b:dM} (ha:jx g a) (hb:jx g b) (h:rQ a=rQ b):a=b:=by
 have k6:=hg.k6;have c9:=hg.c9;have hv:∀s,jx g s->∀x ∈ VE s,0<=x∧x<=255:=by
  intro s hs x hx;have hk:=hs.k;have h0:=hs.c0;have h1:=hs.c1;rcases List.mem_append.1 hx with hx|hx
  ·grind
  rcases List.mem_append.1 hx with hx|hx
  ·by_cases ht:s.took=true<;>simp [ht] at hx<;>omega
  rcases List.mem_append.1 hx with hx|hx
  ·grind
  ·exact Bs hg hs.p x hx
 have h1:VE a=VE b:=AX (hv a ha) (hv b hb) (by grind [OR]);obtain ⟨pa,ka,ca,ta⟩:=a;obtain ⟨pb,kb,cb,tb⟩:=b;unfold VE at h1;simp only [List.cons_append,List.nil_append,List.cons.injEq,true_and] at h1;have h2:ta=tb∧xj pa=xj pb:=by
  grind
 obtain ⟨rfl,h2⟩:=h2;have a1:=ha.p.al;have b1:=hb.p.al;have a2:=ha.p.h0.len;have b2:=hb.p.h0.len;have a3:=ha.p.h1.len;have b3:=hb.p.h1.len;obtain ⟨pat,ph0,ph1,pr,ps⟩:=pa;obtain ⟨qat,qh0,qh1,qr,qs⟩:=pb;simp only [xj,List.append_assoc] at h2 a1 b1 a2 b2 a3 b3;grind [List.append_inj]
def rP (s:dM):List AV:= [.v (.string (rQ s)), .v (.bool true)]
theorem zbk {n:Nat}{l:List dM}:(∀r ∈ l.map rP,∀c ∈ r,aN n c)=True:=by
 refine eq_true ?_;intro r hr c hc;obtain ⟨x, _,rfl⟩:=List.mem_map.1 hr;simp only [rP,List.mem_cons,List.not_mem_nil,or_false] at hc;rcases hc with rfl|rfl<;>exact .v _
attribute [go_sem ↓] zbk
theorem JN (t:dM):∀ (next:List dM),(∀s ∈ next,rQ t=rQ s->t=s)->eM .string (.v (.string (rQ t))) (next.map rP)=some (if t ∈ next then some (.v (.bool true)) else none)
 | [], _=>by simp [eM]
 |s::next,h=>by
  rw [List.map_cons,eM];have e:mi .string (.v (.string (rQ t))) (mZ (rP s) 0)=some (rQ t==rQ s):=rfl;rw [e,sx];by_cases hk:rQ t=rQ s
  ·have:=h s gt hk;subst this;simp [rP,mZ]
  ·have hne:t≠s:=λ e=>hk (by rw [e]);rw [decide_eq_false hk];rw [JN t next (λ u hu=>h u Yo)];simp [hne]
theorem Pr (t:dM):∀ (next:List dM),(∀s ∈ next,rQ t=rQ s->t=s)->t ∉ next->gz .string (.v (.string (rQ t))) (.v (.bool true)) (next.map rP)=some ((next++ [t]).map rP)
 | [], _, _=>by simp [gz,rP]
 |s::next,h,hn=>by
  rw [List.map_cons,gz];have e:mi .string (.v (.string (rQ t))) (mZ (rP s) 0)=some (rQ t==rQ s):=rfl;rw [e,sx];have hk:rQ t≠rQ s:=λ e=>hn (by rw [h s gt e];simp);rw [decide_eq_false hk];rw [Pr t next (λ u hu=>h u Yo) (λ hm=>hn (by simp [hm]))];simp
end Go.Av
end
