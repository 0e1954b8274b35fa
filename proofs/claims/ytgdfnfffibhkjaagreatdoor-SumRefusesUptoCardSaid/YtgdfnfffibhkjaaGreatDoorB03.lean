/- Texts of ours, part 3: our library and contracts of functions. -/
import Derived.Test.YtgdfnfffibhkjaaGreatDoorB02
import Derived.OrdersIn
import Derived.RangeFuncNested
import Derived.Scope
set_option linter.unusedSimpArgs false
set_option linter.unusedVariables false
set_option maxRecDepth 100000
set_option maxHeartbeats 40000000
section
/- Our library, part 12: a region that draws its order. -/
namespace Go.Av
open Go

variable {op:Op} {fv s:AV} {tys:List TypeId} {t:TypeId} {N i m n sz:Nat}
section local_
variable {P:Program} {id:Nat} {e e':dg} {h h':au}
theorem xH {o g:Nat} (he:h o=h' o):fI h o g sz=fI h' o g sz:=by grind [fI]
theorem LQ {x:AV} (hx:∀o ∈ x.ids,h o=h' o):x.isCell h=x.isCell h':=by
 cases x<;>first|rfl|grind [xH,AV.ids,AV.isCell]
theorem nE {x:AV} (hx:∀o ∈ x.ids,h o=h' o):x.okCells h=x.okCells h':=by
 cases x<;>first|rfl|exact LQ hx
theorem LJ {x:AV} (hx:∀o ∈ x.ids,h o=h' o):wB P t x h=wB P t x h':=by
 cases x<;>grind [AV.ids,wB]
theorem IY {x v:AV} (hx:∀o ∈ x.ids,h o=h' o) (hv:∀o ∈ v.ids,h o=h' o):jL P t x v h=jL P t x v h':=by
 cases x<;>grind [AV.ids,jL,nE]
theorem BO {x:AV}{f:Nat} (hx:∀o ∈ x.ids,h o=h' o):jl P t x f h=jl P t x f h':=by
 grind [jl,xH,AV.ids]
theorem BQ {x i:AV} (hx:∀o ∈ x.ids,h o=h' o):jm P t x i h=jm P t x i h':=by
 unfold jm;grind [AV.ids,tk,fI]
theorem Oh {x:AV} (hx:∀o ∈ x.ids,h o=h' o):Ed P t x h=Ed P t x h':=by
 unfold Ed;grind [AV.ids,fI]
theorem IX {x:AV}{lo hi mx:Option AV} (hx:∀o ∈ x.ids,h o=h' o):um P t x lo hi mx h=um P t x lo hi mx h':=by
 unfold um;grind [AV.ids,tk,fI]
theorem ss {x:AV} (hx:∀o ∈ x.ids,h o=h' o):bt x sz h=bt x sz h':=by
 cases x with
 |sl o g sz i len=>grind [AV.ids,bt]
 |v y=>unfold bt;grind
 | _=>rfl
theorem GJ {x:AV} (hs:∀o ∈ s.ids,h o=h' o) (hx:∀o ∈ x.ids,h o=h' o):oZ P id tys s x h=oZ P id tys s x h':=by
 unfold oZ;split
 ·split
  ·split;all_goals grind [ss,AV.ids]
  ·rfl
 ·rfl
theorem E3 {x:AV} (hs:∀o ∈ s.ids,h o=h' o) (hx:∀o ∈ x.ids,h o=h' o):mS P tys s x h=mS P tys s x h':=by
 unfold mS;split
 ·split
  ·split
   ·rw [ss hx];grind [AV.ids]
   ·rfl
  ·rfl
 ·rfl
theorem Oe {x:AV} (hs:∀o ∈ s.ids,h o=h' o) (hx:∀o ∈ x.ids,h o=h' o):BM P id tys s x h=BM P id tys s x h':=by
 unfold BM;grind [GJ,E3]
theorem Ol {x:AV} (hx:∀o ∈ x.ids,h o=h' o):yb x h=yb x h':=by
 cases x<;>first|rfl|grind [yb,xH,AV.ids]
theorem ya {m k x:AV} (hm:∀o ∈ m.ids,h o=h' o):kX P t m k x h=kX P t m k x h':=by
 unfold kX;grind [AV.ids]
theorem GL {m k:AV}{ok:Bool} (hm:∀o ∈ m.ids,h o=h' o):qY P t m k ok h=qY P t m k ok h':=by
 unfold qY;grind [AV.ids]
theorem IV  (hs:∀o ∈ s.ids,h o=h' o):ul P tys s h=ul P tys s h':=by
 unfold ul;split;all_goals grind [AV.ids]
theorem LI {x:AV} (hs:∀o ∈ s.ids,h o=h' o) (hx:∀o ∈ x.ids,h o=h' o):x9 P tys s x h=x9 P tys s x h':=by
 unfold x9;split
 ·split
  ·split
   ·rw [ss hx];grind [AV.ids]
   ·rfl
  ·rfl
 ·rfl
theorem yc {sz:Nat}:∀ {l:List (Nat×AV)}{rs:List (List AV)},(∀p ∈ l,∀o ∈ p.2.ids,h o=h' o)->kZ h sz rs l=kZ h' sz rs l
 | [], _, _=>rfl
 |(i,x)::l,rs,hx=>by
  unfold kZ;rw [nE (hx (i,x) gt),yc (λ p hp=>hx p XW)]
theorem wY {s:TypeId}:∀ {l:List (Nat×AV)}{cs:List AV},(∀p ∈ l,∀o ∈ p.2.ids,h o=h' o)->mU P h s cs l=mU P h' s cs l
 | [], _, _=>rfl
 |(i,x)::l,cs,hx=>by
  unfold mU;split
  ·rw [nE (hx (i,x) gt),wY (λ p hp=>hx p XW)]
  ·rfl
theorem zS {sz:Nat}:∀ {l:List (Nat×AV)}{cs:List AV},(∀p ∈ l,∀o ∈ p.2.ids,h o=h' o)->sm h sz cs l=sm h' sz cs l
 | [], _, _=>rfl
 |(i,x)::l,cs,hx=>by
  unfold sm;rw [nE (hx (i,x) gt),zS (λ p hp=>hx p XW)]
theorem EF {ps:Array (Nat×Operand)} (he:∀x ∈ ps.toList.map (·.2),ev e x=ev e' x):(ps.toList.map λ p=>(p.1,ev e p.2))=ps.toList.map λ p=>(p.1,ev e' p.2):=by
 grind [List.map_congr_left]

theorem LH {s d:TypeId}{x:AV} (h1:∀e0,bt x e0 h=bt x e0 h'):x8 P s d x h=x8 P s d x h':=by
 have h2:∀e0,JG P e0 x h=JG P e0 x h':=λ e0=>by grind [JG]
 cases x<;>(unfold x8;split<;>first|rfl|exact h2 _|(simp_all;done))
theorem Uu  (he:∀x ∈ op.operands,ev e x=ev e' x) (hh:∀o ∈ (op.operands.toList.map (ev e)).flatMap AV.ids,h o=h' o):lK P id op e h=lK P id op e' h':=by
 have hx:∀x ∈ op.operands,∀o ∈ (ev e x).ids,h o=h' o:=λ x hx o ho=>hh o (List.mem_flatMap.2 ⟨ev e x,List.mem_map.2 ⟨x,pi,rfl⟩,ho⟩);cases op with
 |move x=>grind [lK,Op.operands]
 |assign x=>grind [lK,Op.operands]
 |pick c x y=>grind [lK,Op.operands]
 |alloc t=>rfl
 |box t x=>grind [lK,nE,Op.operands]
 |build t ps=>
  have h1:∀x ∈ ps.toList.map (·.2),ev e x=ev e' x:=λ x hx=>he x Xe;have h2:∀p ∈ (ps.toList.map λ p=>(p.1,ev e p.2)),∀o ∈ p.2.ids,h o=h' o:=by
   grind [Op.operands]
  simp only [lK];rw [<- EF h1];unfold zf;split
  ·rw [wY h2]
  ·split
   ·rw [zS h2]
   ·rfl
  ·rfl
 |buildSlice t len ps=>
  have h1:∀x ∈ ps.toList.map (·.2),ev e x=ev e' x:=λ x hx=>he x Xe;have h2:∀p ∈ (ps.toList.map λ p=>(p.1,ev e p.2)),∀o ∈ p.2.ids,h o=h' o:=by
   grind [Op.operands]
  simp only [lK];rw [<- EF h1];unfold mT;split
  ·split
   ·rw [yc h2]
   ·rfl
  ·rfl
 |load t x=>grind [lK,LJ,Op.operands]
 |store t x y=>simp only [lK];grind [IY,Op.operands]
 |binOp o t x y t'=>grind [lK,Op.operands]
 |unOp o t x=>grind [lK,Op.operands]
 |nilCheck x=>grind [lK,Ol,Op.operands]
 |convert s d x=>
  grind [ss,Op.operands,lK,LH]
 |makeFunc f xs ys=>
  grind [lK,List.map_congr_left,Op.operands]
 |makeSlice t l c=>grind [lK,Op.operands]
 |slice t x lo hi mx=>
  simp only [lK];have m1:lo.map (ev e)=lo.map (ev e'):=by cases lo<;>grind [Op.operands]
  have m2:hi.map (ev e)=hi.map (ev e'):=by cases hi<;>grind [Op.operands]
  have m3:mx.map (ev e)=mx.map (ev e'):=by cases mx<;>grind [Op.operands]
  rw [IX (hx x X6),m1,m2,m3,he x X6]
 |fieldAddr t x f=>grind [lK,BO,Op.operands]
 |field t x f=>grind [lK,Op.operands]
 |indexAddr t x i=>simp only [lK];grind [BQ,Op.operands]
 |index t x i=>grind [lK,Op.operands]
 |extract x i=>grind [lK,Op.operands]
 |makeMap t r=>rfl
 |mapUpdate t m k x=>grind [lK,ya,Op.operands]
 |insert t m k x=>grind [lK,ya,Op.operands]
 |lookup t m k ok=>simp only [lK];grind [GL,Op.operands]
 |call c=>
  obtain ⟨callee,args,ats⟩:=c;cases callee with
  |builtin b=>
   have ha:∀x ∈ args.toList,ev e x=ev e' x:=λ x hx=>he x WO;have hb:∀x ∈ args.toList,∀o ∈ (ev e x).ids,h o=h' o:=λ x hx'=>hx x WO;cases b with
   |len=>
    grind [lK,Oh]
   |cap=>
    grind [lK]
   |append=>
    grind [lK,Oe]
   |copy=>
    grind [lK,LI]
   |clear=>
    grind [lK,IV]
   |min=>
    grind [lK]
   |max=>
    grind [lK]
   | _=>rfl
  | _=>rfl
 | _=>rfl
end local_

def Ji (P:Program) (k b:Nat) (op:Op) (e:dg) (h:au) (x:AV) (wr:List (Nat×Option cB)) (rd:List Nat):Prop:=match op with
 | .call { callee:= .value f,args, .. }=>pR P b (ev e f) (args.toList.map (ev e)) h x rd wr
 |op=>(lK P k op e h).cond∧x=(lK P k op e h).val∧wr=(lK P k op e h).wr∧rd=(op.operands.toList.map (ev e)).flatMap AV.ids
def sg (P:Program) (ops:List Oper) (k b:Nat) (o:Oper) (e:dg) (h:au) (x:AV) (wr:List (Nat×Option cB)) (rd:List Nat):Prop:=match o.guard with
 |none=>Ji P k b o.op e h x wr rd
 |some (j,want)=>∃t g r,qy ops j=some t∧te (e t) want=some g∧(∀t ∈ gT o.op,EE g (e t))∧x= .gd g r∧(g=false->wr= [])∧(g=true->Ji P k b o.op (gE o.op e) h r wr rd)

variable {S mk:List Nat} {args:List AV}
theorem DY.congr {P:Program}{h h₁:au}{r:AV} (hp:DY P fv args h r S) (hx:∀o ∈ S,h o=h₁ o):DY P fv args h₁ r S:=by
 grind [DY]

theorem pR.congr {P:Program}{b:Nat}{h h₁:au}{r:AV}{wr:List (Nat×Option cB)} (hp:pR P b fv args h r S wr) (hx:∀o ∈ S,h o=h₁ o):pR P b fv args h₁ r S wr:=by
 rcases hp with ⟨h0,hp⟩|⟨f,first,caps,args',rfl,hb,hpu,hw,hc⟩|⟨f,first,caps,rfl,hS,hw,hfl,hc⟩|⟨f,first,caps,args',R0,H0,HH,k2,rfl,hnm,hk16,hb,hcall,hnR,hnH,hSR,hHH,hnd,rfl,hle⟩
 ·grind [pR,DY]
 rotate_left
 ·grind [pR]
 ·exact .inr (.inr (.inr ⟨f,first,caps,args',R0,H0,HH,k2,rfl,hnm,hk16,hb,hcall,hnR,hnH,hSR,hHH,hnd,rfl,λ h₂ h2=>hle h₂ λ o ho=>(hx o ho).trans (h2 o ho)⟩))
 grind [pR]

section
variable {P:Program} {k b:Nat} {e e':dg} {h h':au} {x:AV} {wr:List (Nat×Option cB)} {rd:List Nat}
theorem Ji.congr {op:Op} (he:∀x ∈ op.operands,ev e x=ev e' x) (hh:∀o ∈ rd,h o=h' o) (hr:Ji P k b op e h x wr rd):Ji P k b op e' h' x wr rd:=by
 unfold Ji at hr ⊢;split
 ·rename_i f args ats;have h1:ev e f=ev e' f:=he f (by simp [Op.operands,Call.operands]);have h2:args.toList.map (ev e)=args.toList.map (ev e'):=List.map_congr_left (λ x hx=>he x WO);rw [<- h1,<- h2];exact hr.congr hh
 grind [Uu,List.map_congr_left]
theorem vC  (he:∀t ∈ iq op,e t=e' t):∀x ∈ op.operands,ev e x=ev e' x:=by
 intro x hx;cases x with
 |tmp t=>exact he t (by simp only [iq,List.mem_filterMap];exact ⟨.tmp t,pi,rfl⟩)
 | _=>rfl
theorem ze2 (op:Op) (e:dg):gE op e=e∧gT op= []∨gE op e=(λ t=>CX (e t))∧gT op=iq op:=by
 cases op<;>first|exact .inl ⟨rfl,rfl⟩|exact .inr ⟨rfl,rfl⟩
theorem LN {t:Tmp} (h:t ∈ gT op):t ∈ iq op:=by
 rcases ze2 op (λ _=> .top) with ⟨_,h1⟩|⟨_,h1⟩<;>rw [h1] at h;all_goals grind
theorem sg.congr {ops:List Oper}{o:Oper} (he:∀t ∈ pp ops o,e t=e' t) (hh:∀o ∈ rd,h o=h' o) (hr:sg P ops k b o e h x wr rd):sg P ops k b o e' h' x wr rd:=by
 have he1:∀t ∈ iq o.op,e t=e' t:=λ t ht=>he t (by simp [pp,ht]);unfold sg at hr ⊢;split at hr
 ·exact hr.congr (vC he1) hh
 ·rename_i j want hg;obtain ⟨t,g,r,h1,h2,h3,h4,h5,h6⟩:=hr;have he2:∀t ∈ iq o.op,gE o.op e t=gE o.op e' t:=λ t ht=>by
   have h0:∀e,gE o.op e t=match o.op with| .pick _ _ _=>e t| _=>CX (e t):=λ e=>by cases o.op<;>rfl
   rw [h0,h0,he1 t ht]
  refine ⟨t,g,r,h1, ?_, ?_,h4,h5,λ hg=>(h6 hg).congr (vC he2) hh⟩
  ·rw [<- he t (by simp [pp,hg,h1])];exact h2
  ·intro t ht;rw [<- he1 t (LN ht)];exact h3 t ht
end

def AG (h h':au):Prop:=∀o g sz,fI h o g sz=fI h' o g sz
theorem AG.symm {h h':au} (a:AG h h'):AG h' h:=λ o g sz=>(a o g sz).symm
section
variable {P:Program} {k b:Nat} {e e':dg} {h h':au} {x:AV} {wr:List (Nat×Option cB)} {rd:List Nat}
theorem za2  (ha:Rp op=true) (he:∀x ∈ op.operands,ev e x=ev e' x) (hag:AG h h'):lK P k op e h=lK P k op e' h':=by
 cases op with
 |fieldAddr t x f=>
  grind [lK,Op.operands,jl,AG]
 |indexAddr t x i=>
  simp_all [lK,Op.operands,jm,AG]
 |nilCheck x=>
  simp_all [lK,Op.operands,yb,AG]
 |move x=>
  grind [lK,Op.operands]
 | _=>simp [Rp] at ha
theorem Ji.addr  (ha:Rp op=true) (he:∀x ∈ op.operands,ev e x=ev e' x) (hag:AG h h') (hr:Ji P k b op e h x wr rd):Ji P k b op e' h' x wr rd:=by
 have hne:∀f args ats,op≠ .call { callee:= .value f,args,argTypes:=ats}:=λ f args ats e0=>by grind [Rp]
 unfold Ji at hr ⊢;grind [za2,List.map_congr_left]
theorem sg.addr {ops:List Oper}{o:Oper} (ha:Rp o.op=true) (he:∀t ∈ pp ops o,e t=e' t) (hag:AG h h') (hr:sg P ops k b o e h x wr rd):sg P ops k b o e' h' x wr rd:=by
 have he1:∀t ∈ iq o.op,e t=e' t:=λ t ht=>he t (by simp [pp,ht]);unfold sg at hr ⊢;split at hr
 ·exact hr.addr ha (vC he1) hag
 ·rename_i j want hg;obtain ⟨t,g,r,h1,h2,h3,h4,h5,h6⟩:=hr;have he2:∀t ∈ iq o.op,gE o.op e t=gE o.op e' t:=λ t ht=>by
   have h0:∀e,gE o.op e t=match o.op with| .pick _ _ _=>e t| _=>CX (e t):=λ e=>by cases o.op<;>rfl
   rw [h0,h0,he1 t ht]
  refine ⟨t,g,r,h1, ?_, ?_,h4,h5,λ hg=>(h6 hg).addr ha (vC he2) hag⟩
  ·rw [<- he t (by simp [pp,hg,h1])];exact h2
  ·intro t ht;rw [<- he1 t (LN ht)];exact h3 t ht
theorem Ji.store_ag  (hs:I4 op=true) (hr:Ji P k b op e h x wr rd):AG h (aB wr h):=by
 cases op with
 |store t a v=>
  obtain ⟨h1, _,rfl, _⟩:=hr;simp only [lK] at h1 ⊢;unfold jL at h1 ⊢;split at h1
  ·rename_i o g sz i off _;split at h1
   ·rename_i mt g' sz' rs ho;by_cases hc:g=g'∧sz=sz'∧mt=true
    ·rw [if_pos hc];intro o' g0 sz0;simp only [aB,fI,aC];grind
    grind
   grind
  grind
 | _=>simp [I4] at hs
theorem sg.store_ag {ops:List Oper}{o:Oper} (hs:I4 o.op=true) (hr:sg P ops k b o e h x wr rd):AG h (aB wr h):=by
 unfold sg at hr;split at hr
 ·exact hr.store_ag hs
 ·obtain ⟨t,g,r,h1,h2,h3,h4,h5,h6⟩:=hr;cases g with
  |false=>rw [h5 rfl];exact λ _ _ _=>rfl
  |true=>exact (h6 rfl).store_ag hs
theorem RV {v:AV} (hag:AG h h'):v.okCells h=v.okCells h':=by
 simp_all [AV.okCells,AV.isCell,AG]
theorem Ji.store2  (hs:I4 op=true) (he:∀x ∈ op.operands,ev e x=ev e' x) (hag:AG h h') (hw:∀o ∈ wr.map (·.1),h o=h' o) (hr:Ji P k b op e h x wr rd):Ji P k b op e' h' x wr rd:=by
 cases op with
 |store t a v=>
  obtain ⟨h1,h2,h3,h4⟩:=hr;have ea:=he a X6;have ew:=he v X6;have key:jL P t (ev e a) (ev e v) h=jL P t (ev e' a) (ev e' v) h':=by
   simp only [lK] at h1 h3;unfold jL at h1 h3 ⊢;grind [RV]
  grind [lK,List.map_congr_left,Ji]
 | _=>simp [I4] at hs
theorem sg.store2 {ops:List Oper}{o:Oper} (hs:I4 o.op=true) (he:∀t ∈ pp ops o,e t=e' t) (hag:AG h h') (hw:∀o ∈ wr.map (·.1),h o=h' o) (hr:sg P ops k b o e h x wr rd):sg P ops k b o e' h' x wr rd:=by
 have he1:∀t ∈ iq o.op,e t=e' t:=λ t ht=>he t (by simp [pp,ht]);unfold sg at hr ⊢;split at hr
 ·exact hr.store2 hs (vC he1) hag hw
 ·rename_i j want hg;obtain ⟨t,g,r,h1,h2,h3,h4,h5,h6⟩:=hr;have he2:∀t ∈ iq o.op,gE o.op e t=gE o.op e' t:=λ t ht=>by
   have h0:∀e,gE o.op e t=match o.op with| .pick _ _ _=>e t| _=>CX (e t):=λ e=>by cases o.op<;>rfl
   rw [h0,h0,he1 t ht]
  refine ⟨t,g,r,h1, ?_, ?_,h4,h5,λ hg=>(h6 hg).store2 hs (vC he2) hag hw⟩
  ·rw [<- he t (by simp [pp,hg,h1])];exact h2
  ·intro t ht;rw [<- he1 t (LN ht)];exact h3 t ht
end
abbrev zaC:=Nat×Oper×jf
def Tr (P:Program) (ops:List Oper) (n:Nat):List zaC->dg->au->dg->au->Prop
 | [],e,h,e',h'=>e'=e∧h'=h
 |(i,o,rc)::L,e,h,e',h'=>∃x wr,sg P ops (n+i) (n+ops.length+16 * i) o e h x wr rc.1∧wr.map (·.1)=rc.2∧Tr P ops n L (put e o.dst x) (aB wr h) e' h'
def zc8:Nat->List Oper->List jf->List zaC
 |i,o::l,r::rs=>(i,o,r)::zc8 (i+1) l rs
 | _, _, _=> []
theorem Ga {P:Program}{n:Nat}{ops:List Oper}{K:dg->au->List jf->Prop}:∀ {rest:List Oper}{i:Nat}{e:dg}{h:au}{acc:List jf},kI P n ops K i rest e h acc->
  ∃recs e' h',recs.length=rest.length∧Tr P ops n (zc8 i rest recs) e h e' h'∧K e' h' (acc++recs)
 | [],i,e,h,acc,hh=>⟨[],e,h,rfl,⟨rfl,rfl⟩,by grind [kI]⟩
 |o::rest,i,e,h,acc,hh=>by
  have key:∀ {x wr rc},sg P ops (n+i) (n+ops.length+16 * i) o e h x wr rc.1->wr.map (·.1)=rc.2->kI P n ops K (i+1) rest (put e o.dst x) (aB wr h) (acc++ [rc])->
    ∃recs e' h',recs.length=(o::rest).length∧Tr P ops n (zc8 i (o::rest) recs) e h e' h'∧K e' h' (acc++recs):=by
   intro x wr rc h1 h2 h3;obtain ⟨recs,e',h',hl,ht,hk⟩:=Ga h3;exact ⟨rc::recs,e',h',by simp [hl],⟨x,wr,h1,h2,ht⟩,Xj⟩
  unfold kI at hh;split at hh
  ·grind [sg,Ji]
  ·rename_i j want hg;split at hh
   ·grind
   ·rename_i g hb;cases ht:qy ops j with
    |none=>grind
    |some t=>
     split at hh;all_goals grind [sg,LN,gE,gW,Ji]

theorem sy {a b:List Nat} (h:N6 a b=true):∀x ∈ a,x ∉ b:=by
 grind [N6]
theorem oT:∀ {wr:List (Nat×Option cB)}{h:au}{o:Nat},o ∉ wr.map (·.1)->aB wr h o=h o
 | [], _, _, _=>rfl
 |(a,x)::l,h,o,hn=>by
  simp only [List.map_cons,List.mem_cons,not_or] at hn;simp only [aB];rw [oT hn.2,ja _ _ hn.1]
theorem PS {α:Type} (f:Nat->α){a b:Nat} (x y:α) (h:a≠b):aC (aC f a x) b y=aC (aC f b y) a x:=by
 grind [aC]
theorem Ge:∀ {wr:List (Nat×Option cB)}{h:au}{o:Nat}{x:Option cB},o ∉ wr.map (·.1)->aB wr (aC h o x)=aC (aB wr h) o x
 | [], _, _, _, _=>rfl
 |(a,y)::l,h,o,x,hn=>by
  simp only [List.map_cons,List.mem_cons,not_or] at hn;simp only [aB];rw [PS _ _ _ hn.1,Ge hn.2]
theorem D4:∀ {w1 w2:List (Nat×Option cB)}{h:au},(∀o ∈ w1.map (·.1),o ∉ w2.map (·.1))->aB w2 (aB w1 h)=aB w1 (aB w2 h)
 | [], _, _, _=>rfl
 |(a,y)::l,w2,h,hn=>by
  simp only [aB];rw [D4 (λ o ho=>hn o (by simp [ho])),Ge (hn a gt)]
variable {d:Option Tmp}
theorem sE {e:dg}{x:AV}{t:Tmp} (h:t ∉ d.toList):put e d x t=e t:=by
 cases d with
 |none=>rfl
 |some d=>simp_all [ja,put]
theorem zcH {e:dg}{d':Option Tmp}{x y:AV} (h:∀t ∈ d.toList,t ∉ d'.toList):put (put e d x) d' y=put (put e d' y) d x:=by
 cases d with
 |none=>rfl
 |some d=>
  cases d' with
  |none=>rfl
  |some d'=>simp only [Option.toList_some,List.mem_singleton,forall_eq] at h;exact PS _ _ _ h

theorem Tr.bubble {P:Program}{ops:List Oper}{n i:Nat}{o:Oper}{rc:jf}{L2:List zaC}{e':dg}{h':au}:∀ {L1:List zaC}{e:dg}{h:au},Tr P ops n (L1++(i,o,rc)::L2) e h e' h'->
  (∀y ∈ L1,Tv ops y.2.1 o y.2.2 rc=true)->∃x wr,sg P ops (n+i) (n+ops.length+16 * i) o e h x wr rc.1∧wr.map (·.1)=rc.2∧Tr P ops n (L1++L2) (put e o.dst x) (aB wr h) e' h'
 | [],e,h,ht, _=>ht
 |(j,y,ry)::L1,e,h,ht,hf=>by
  obtain ⟨x1,w1,h1,h2,h3⟩:=ht;obtain ⟨x2,w2,h4,h5,h6⟩:=Tr.bubble h3 λ y hy=>hf y WR;have hfr:=hf (j,y,ry) gt;simp only [Tv,Bool.and_eq_true] at hfr;obtain ⟨⟨⟨⟨⟨f1,f2⟩,f3⟩,f4⟩,f5⟩,f6⟩:=hfr;have f1:=sy f1;have f2:=sy f2;have f3:=sy f3;have f6:=sy f6;have g4:sg P ops (n+i) (n+ops.length+16 * i) o e h x2 w2 rc.1:=by
   rcases Bool.or_eq_true _ _▸f4 with f4|f4
   ·have f4:=sy f4;exact h4.congr (λ t ht=>sE λ hd=>f1 t hd ht) (λ o ho=>oT λ hd=>f4 o (h2▸hd) ho)
   ·rw [Bool.and_eq_true] at f4;rcases Bool.or_eq_true _ _▸f4.2 with f7|f7
    ·exact h4.addr f7 (λ t ht=>sE λ hd=>f1 t hd ht) (h1.store_ag f4.1).symm
    ·exact h4.store2 f7 (λ t ht=>sE λ hd=>f1 t hd ht) (h1.store_ag f4.1).symm λ o ho=>oT λ hd=>f6 o (h2▸hd) (h5▸ho)
  have g5:sg P ops (n+j) (n+ops.length+16 * j) y (put e o.dst x2) (aB w2 h) x1 w1 ry.1:=by
   rcases Bool.or_eq_true _ _▸f5 with f5|f5
   ·have f5:=sy f5;exact h1.congr (λ t ht=>(sE λ hd=>f2 t hd ht).symm) (λ o ho=>(oT λ hd=>f5 o (h5▸hd) ho).symm)
   ·rw [Bool.and_eq_true] at f5;rcases Bool.or_eq_true _ _▸f5.2 with f7|f7
    ·exact h1.addr f7 (λ t ht=>(sE λ hd=>f2 t hd ht).symm) (g4.store_ag f5.1)
    ·exact h1.store2 f7 (λ t ht=>(sE λ hd=>f2 t hd ht).symm) (g4.store_ag f5.1) λ o ho=>(oT λ hd=>f6 o (h2▸ho) (h5▸hd)).symm
  grind [zcH,D4,Tr]

def xA (ops:List Oper) (acc:List Nat):Prop:=∀k i,(acc.getD k 0).testBit i=true->∃o,ops[k]? =some o∧∃e ∈ o.after.toList,Region.binds .any e=true∧(e.on=i∨(acc.getD e.on 0).testBit i=true)
theorem JT {acc:List Nat}{i:Nat}:∀ {l:List Edge}{s:Nat},(l.foldl (λ s e=>if Region.binds .any e then s|||2 ^ e.on|||acc.getD e.on 0 else s) s).testBit i=true->
  s.testBit i=true∨∃e ∈ l,Region.binds .any e=true∧(e.on=i∨(acc.getD e.on 0).testBit i=true)
 | [],s,h=> .inl h
 |e::l,s,h=>by
  simp only [List.foldl_cons] at h;rcases JT h with h1|⟨e',he',h2⟩;all_goals grind
theorem OZ {ops:List Oper}:∀ {l:List Oper}{acc:List Nat},ops.drop acc.length=l->xA ops acc->xA ops (Kn l acc)
 | [],acc, _,h=>h
 |o::l,acc,hd,h=>by
  unfold Kn;have hlt:acc.length<ops.length:=by
   grind [List.drop_eq_nil_of_le]
  rw [List.drop_eq_getElem_cons hlt] at hd;refine OZ pi λ k i hb=> ?_;have mono:∀k i,(acc.getD k 0).testBit i=true->∀z,((acc++ [z]).getD k 0).testBit i=true:=by
   grind
  rcases Nat.lt_trichotomy k acc.length with hk|hk|hk
  ·grind [xA]
  ·subst hk;rw [List.getD_eq_getElem?_getD,List.getElem?_append_right (Nat.le_refl _)] at hb;simp only [Nat.sub_self,List.getElem?_cons_zero,Option.getD_some] at hb;rcases JT hb with h1|⟨e,he,h1,h2⟩;all_goals grind
  grind

variable {vs:List Value} {f:Value} {w w':World} {F M M' M0:Nat->Prop}
theorem DY.sound {P:Program}{φ:aQ}{h:au} (hH:br φ F w M0 h){r:AV} (hp:DY P fv args h r S)
  (hf:bY φ w (Or M0 (bc φ h)) fv f) (ha:aU φ w (Or M0 (bc φ h)) args vs):
  ∃f' fs cs,f= .func (.func f') ⟨fs⟩ ⟨cs⟩∧kH P f'∧Calls P f' ⟨fs++vs++cs⟩ w λ e w'=>∃v,e= .returned v∧bY φ w' (Or M0 (bc φ h)) r v∧br φ F w' M0 h∧fm φ w M0 h φ w' h:=by
 obtain ⟨f',first,caps,args',rfl,hb,hpu,hc⟩:=hp;cases hf with
 | @fn _ _ _ fs cs h1 h2=>
  refine ⟨f',fs,cs,rfl,hpu.1, ?_⟩;have hall:=(h1.append ha).append h2;rcases hc with ⟨hle,hfl⟩|rfl
  ·have hv:=jc (h':=dO) hH (λ o g sz rs ho=>by cases ho) (hle h λ _ _=>rfl) hb hall;refine (hpu.2 _ w _ (λ k hk=>hk.elim (hH.m0 k) λ h=>(cA h).elim) (hH.glob.keep (λ _ _ _=>rfl) (λ k hk=> .inl (hk.imp id λ h=>(cA h).elim))) hv).mono ?_;rintro e w' ⟨v,rfl,hr,hfr⟩;have st:fm φ w M0 h φ w' h:=⟨φ.le_refl,λ k hk=> .inl hk,⟨hfr.os,hfr.tape,hfr.output,hfr.drawn,hfr.size,λ k hk _=>hfr.block k hk (λ h=>h)⟩,λ k hk=> .inl hk⟩
   exact ⟨v,rfl,hfl.rel hr,hH.keepw st (λ k hk=>hfr.block k hk λ h=>h),st⟩
  ·have hv:=jc (h':=h) (n:=0) hH (λ o g sz rs ho=>ho) (.refl _ _ _ _) hb hall;refine (hpu.2 _ w _ (λ k hk=>hH.blk hk) hH.glob hv).mono ?_;rintro e w' ⟨v,rfl,hr,hfr⟩;have st:fm φ w M0 h φ w' h:=⟨φ.le_refl,λ k hk=> .inl hk,⟨hfr.os,hfr.tape,hfr.output,hfr.drawn,hfr.size,λ k hk _=>hfr.block k hk (λ h=>h)⟩,λ k hk=> .inl hk⟩
   exact ⟨v,rfl,hr.keep (λ o x ho=>by cases ho) (λ _ _ _=>rfl) (λ k hk=> .inl hk),hH.keepw st (λ k hk=>hfr.block k hk λ h=>h),st⟩

theorem y9:∀ (wr:List (Nat×Option cB)) (h:au) (o:Nat),aB wr h o=h o∨∃p ∈ wr,p.1=o∧aB wr h o=p.2
 | [],h,o=> .inl rfl
 |(k,x)::wr,h,o=>by
  rcases y9 wr (aC h k x) o with h1|⟨p,hp,h2,h3⟩
  ·simp only [aB];rw [h1];by_cases he:o=k
   ·subst he;exact .inr ⟨(o,x),gt,rfl,by rw [cZ]⟩
   ·exact .inl (ja _ _ he)
  ·exact .inr ⟨p,XW,h2,h3⟩
theorem Sh.rel {φ φ':aQ} (hφ:∀o x,φ o=some x->φ' (n+o)=some x) (hM:∀k,M' k->M k){x y:AV} (hs:Sh n x y):∀ {v:Value},bY φ w M x v->bY φ' w M' y v:=by
 refine Sh.rec (n:=n) (motive_1:=λ x y _=>∀ {v:Value},bY φ w M x v->bY φ' w M' y v) (motive_2:=λ xs ys _=>∀ {vs:List Value},aU φ w M xs vs->aU φ' w M' ys vs)
  ?_ ?_ ?_ ?_ ?_ ?_ ?_ ?_ ?_ hs
 ·intro x hb v hx;exact hx.closed hM hb
 ·intro o g sz i off v hx;cases hx with|ref ho hg h=>exact .ref (hφ _ _ ho) hg h
 ·intro o g sz i len v hx;cases hx with|sl ho hg h=>exact .sl (hφ _ _ ho) hg h
 ·intro o v hx;cases hx with|mp ho h=>exact .mp (hφ _ _ ho) h
 ·intro xs ys _ ih v hx;cases hx with|agg hv h=>exact .agg hv (ih h)
 ·intro xs ys _ ih v hx;cases hx with|tup h=>exact .tup (ih h)
 ·intro f a b a' b' _ _ ih1 ih2 v hx;cases hx with|fn h1 h2=>exact .fn (ih1 h1) (ih2 h2)
 ·intro vs hx;cases hx;exact .nil
 ·intro x y xs ys _ _ ih1 ih2 vs hx;cases hx with|cons h t=>exact .cons (ih1 h) (ih2 t)
theorem IH.rel {φ φ':aQ}{w:World}{M M':Nat->Prop}{n:Nat} (hφ:∀o x,φ o=some x->φ' (n+o)=some x) (hM:∀k,M' k->M k):∀ {xs ys:List AV}{vs:List Value},IH n xs ys->aU φ w M xs vs->aU φ' w M' ys vs
 | [], _, _, .nil, .nil=> .nil
 | _:: _, _, _, .cons h t, .cons h' t'=> .cons (h.rel hφ hM h') (t.rel hφ hM t')
theorem IH.length {n:Nat}:∀ {xs ys:List AV},IH n xs ys->ys.length=xs.length
 | [], _, .nil=>rfl
 | _:: _, _, .cons _ t=>by simp [t.length]
theorem Bm.rel {φ φ':aQ}{w:World}{M M':Nat->Prop}{n:Nat} (hφ:∀o x,φ o=some x->φ' (n+o)=some x) (hM:∀k,M' k->M k){xs ys:List (List AV)} (hs:Bm n xs ys):
  ∀ {vs:List Value},aU φ w M xs.flatten vs->aU φ' w M' ys.flatten vs:=by
 induction hs with
 |same h=>
  intro vs hx;refine zhk hx.length λ k hk hk'=>(hx.get k hk hk').closed hM ?_;grind [List.mem_flatten,List.getElem_mem]
 |nil=>intro vs hx;cases hx;exact .nil
 |cons h _ ih=>
  intro vs hx;obtain ⟨us,ts,rfl,h1,h2⟩:=hx.split;exact (h.rel hφ hM h1).append (ih h2)
theorem Bm.shape {xs ys:List (List AV)} (hs:Bm n xs ys):ys.length=xs.length∧∀sz,(∀r ∈ xs,r.length=sz)->∀r ∈ ys,r.length=sz:=by
 induction hs with
 |same h=>grind
 |nil=>grind
 |cons h _ ih=>
  refine ⟨pi,λ sz hr r hm=> ?_⟩;rcases List.mem_cons.1 hm with rfl|hm
  ·rw [h.length];grind
  simp_all
theorem Qk.at {n:Nat}{l l':List (Nat×cB)} (hs:Qk n l l'){o:Nat}{y:cB} (ho:fh l' o=some y):∃o0 x,o=n+o0∧fh l o0=some x∧zdt n x y:=by
 induction hs with
 |nil=>cases ho
 | @cons o1 x1 y1 l l' h _ ih=>
  simp only [fh,aC] at ho ⊢;split at ho
  ·simp_all
  grind

def dL:List (Nat×cB)->au->au
 | [],h=>h
 |(o,x)::l,h=>aC (dL l h) o (some x)
theorem wO (h:au):∀ (l:List (Nat×cB)) (o:Nat),dL l h o=match fh l o with|some x=>some x|none=>h o
 | [],o=>rfl
 |(a,x)::l,o=>by
  simp only [dL,fh,aC];by_cases e:o=a
  ·simp [e]
  ·simp only [if_neg e];exact wO h l o
theorem lO.rel {x:AV} (hf:lO x){φ:aQ}:∀ {v:Value},bY φ w M x v->bY φ w M' x v:=by
 have hL:∀ {xs:List AV},(∀x ∈ xs,∀ {v:Value},bY φ w M x v->bY φ w M' x v)->∀ {vs:List Value},aU φ w M xs vs->aU φ w M' xs vs:=by
  intro xs;induction xs with
  |nil=>intro _ vs h;cases h;exact .nil
  |cons x xs ih=>intro h vs hr;cases hr with|cons a b=>exact .cons (h x gt a) (ih (λ y hy=>h y WR) b)
 induction hf with
 |top=>intro v _;exact .top _
 |v x=>intro v h;cases h;exact .v _
 |ref=>intro v h;cases h with|ref a b c=>exact .ref a b c
 |sl=>intro v h;cases h with|sl a b c=>exact .sl a b c
 |mp=>intro v h;cases h with|mp a b=>exact .mp a b
 |agg _ ih=>intro v h;cases h with|agg a b=>exact .agg a (hL ih b)
 |tup _ ih=>intro v h;cases h with|tup b=>exact .tup (hL ih b)
 |fn _ _ ih1 ih2=>intro v h;cases h with|fn a b=>exact .fn (hL ih1 a) (hL ih2 b)
theorem lO.relL {φ:aQ}{w:World}{M M':Nat->Prop}:∀ {xs:List AV},(∀x ∈ xs,lO x)->∀ {vs:List Value},aU φ w M xs vs->aU φ w M' xs vs
 | [], _, _,h=>by cases h;exact .nil
 |x::xs,h, _,hr=>by cases hr with|cons a b=>exact .cons ((h x gt).rel a) (lO.relL (λ y hy=>h y WR) b)
theorem br.widen {φ:aQ}{M1:Nat->Prop}{H:au} (hH:br φ F w' M0 H) (hO:∀o x,H o=some x->FN x) (hnew:∀k,bc φ H k->N<=k) (hM:∀k,M1 k->k<N) (hN:N<=w'.heap.size) (hg:u9 w' (Or (Or M0 M1) (bc φ H))):
  br φ F w' (Or M0 M1) H:=by
 refine ⟨λ k hk=>hk.elim (hH.m0 k) λ h=>Nat.lt_of_lt_of_le (hM k h) hN,hH.fresh,λ o mt g sz rs ho=> ?_,hH.inj,hg⟩;obtain ⟨A,hA,hc⟩:=hH.obj _ _ _ _ _ ho;refine ⟨A,hA,hc.imp id ?_⟩;obtain ⟨hmt,hnf⟩:=hO _ _ ho;rintro ⟨a,bs,c1,c3,hd⟩;refine ⟨a,bs,c1,λ hk=>hk.elim c3 λ h=> ?_,hd.same rfl λ c9=>lO.relL (λ x hx=> ?_) c9⟩
 ·have h1:=hnew a.block ⟨o,g,sz,rs,g,a,bs,pi,pi,rfl⟩;grind
 grind [List.mem_flatten]
theorem bY.cut2 {φ φ' φ'':aQ} (hF:∀o x,φ o=some x->φ'' o=φ' o){x:AV}{v:Value} (hx:bY φ' w' M' x v):∀ {v0:Value},bY φ w M x v0->bY φ'' w' M' x v:=by
 refine bY.rec (φ:=φ') (w:=w') (M:=M') (motive_1:=λ x v _=>∀ {v0:Value},bY φ w M x v0->bY φ'' w' M' x v) (motive_2:=λ xs vs _=>∀ {vs0:List Value},aU φ w M xs vs0->aU φ'' w' M' xs vs)
  ?_ ?_ ?_ ?_ ?_ ?_ ?_ ?_ ?_ ?_ ?_ ?_ ?_ ?_ hx
 ·exact λ v _ _=> .top v
 ·exact λ v _ _=> .v v
 ·intro cs vs hv _ ih v0 h0;cases h0 with|agg _ h0=>exact .agg hv (ih h0)
 ·intro cs vs _ ih v0 h0;cases h0 with|tup h0=>exact .tup (ih h0)
 ·exact λ sz A cap _ _=> .nil sz A cap
 ·intro sz rows a len cap C T fz hs hm hb hr hl hc hcap hv _ ih v0 h0;cases h0 with
  |nil=>exact .lst hs hm hb hr hl hc hcap hv (ih .nil)
  |lst _ _ _ _ _ _ _ _ h0=>exact .lst hs hm hb hr hl hc hcap hv (ih h0)
 ·intro cells a C T fz hs hm hb hc hv _ ih v0 h0;cases h0 with|fp _ _ _ _ _ h0=>exact .fp hs hm hb hc hv (ih h0)
 ·intro o g sz i off g' A v ho hg h v0 h0;cases h0 with|ref h1 _ _=>exact .ref pi hg h
 ·intro o g sz i len g' A v ho hg h v0 h0;cases h0 with|sl h1 _ _=>exact .sl pi hg h
 ·intro o g' A v ho h v0 h0;cases h0 with|mp h1 _=>exact .mp pi h
 ·intro f first caps fs cs _ _ ih1 ih2 v0 h0;cases h0 with|fn h1 h2=>exact .fn (ih1 h1) (ih2 h2)
 ·intro g x v _ h' ih v0 h0;cases h0 with|gd k1 k2=>exact .gd (λ hg=>ih hg (k1 hg)) h'
 ·intro vs0 _;exact .nil
 ·intro x v xs vs _ _ ih1 ih2 vs0 h0;cases h0 with|cons k1 k2=>exact .cons (ih1 k1) (ih2 k2)
theorem aU.cut2 {φ φ' φ'':aQ}{w w':World}{M M':Nat->Prop} (hF:∀o x,φ o=some x->φ'' o=φ' o):∀ {xs:List AV}{vs vs0:List Value},aU φ' w' M' xs vs->aU φ w M xs vs0->aU φ'' w' M' xs vs
 | [], _, _, .nil, _=> .nil
 | _:: _, _, _, .cons h t, .cons h0 t0=> .cons (h.cut2 hF h0) (t.cut2 hF t0)
theorem uH {φ φ':aQ}{w:World}{M M':Nat->Prop} (hM:∀k,M' k->M k):∀ {xs:List AV}{vs:List Value},(∀c ∈ xs,aN 0 c)->aU φ w M xs vs->aU φ' w M' xs vs
 | [], _, _, .nil=> .nil
 | _:: _, _,hb, .cons h t=> .cons (h.closed hM (hb _ gt)) (uH hM (λ c hc=>hb c Wy) t)
theorem xK:∀ {HH:List (Nat×cB)}{h:au},(HH.map (·.1)).Nodup->aB (HH.map λ p=>(p.1,some p.2)) h=dL HH h
 | [],h, _=>rfl
 |(o,x)::l,h,hd=>by
  rw [List.map_cons,List.nodup_cons] at hd;simp only [List.map_cons,aB,dL];rw [xK hd.2];funext a;rw [wO];simp only [aC];by_cases e:a=o
  ·subst e;have:fh l a=none:=by
    cases hm:fh l a with
    |none=>rfl
    |some y=>exact absurd (List.mem_map.2 ⟨_,uz hm,rfl⟩) hd.1
   simp [this]
  ·simp only [if_neg e,wO]
theorem I6 {P:Program}{b:Nat}{φ:aQ} (hFb:∀o,b<=o->o<b+16->F o){h:au} (hH:br φ F w M0 h){f':FuncId}{first caps args':List AV}{r R0:AV}{H0 HH:List (Nat×cB)}{k2:Nat}
  (hk16:k2<=16) (hb:∀c ∈ args',aN 0 c) (hcall:ap P f' args' dO 0 (λ r h n'=>Wk (λ _=>r) h n' [(0,R0)] H0 k2)) (hnR:lO R0) (hnH:∀p ∈ H0,FN p.2) (hSR:Sh b R0 r) (hHH:Qk b H0 HH)
  (hnd:(HH.map (·.1)).Nodup) (hle:aY h dO 0 (first++args++caps) args')  
  (hf:bY φ w (Or M0 (bc φ h)) (.fn (.func f') first caps) f) (ha:aU φ w (Or M0 (bc φ h)) args vs):
  ∃f' fs cs,f= .func (.func f') ⟨fs⟩ ⟨cs⟩∧kH P f'∧Calls P f' ⟨fs++vs++cs⟩ w λ e w'=>∃v φ',e= .returned v∧bY φ' w' (Or M0 (bc φ' (aB (HH.map λ p=>(p.1,some p.2)) h))) r v∧br φ' (λ o=>F o∧¬(b<=o∧o<b+16)) w' M0 (aB (HH.map λ p=>(p.1,some p.2)) h)∧fm φ w M0 h φ' w' (aB (HH.map λ p=>(p.1,some p.2)) h):=by
 rw [xK hnd];cases hf with
 | @fn _ _ _ fs cs q1 q2=>
 refine ⟨f',fs,cs,rfl,hcall.1, ?_⟩;have hargs:=(q1.append ha).append q2;have hv:=jc (h':=dO) hH (λ o g sz rs ho=>by cases ho) hle hb hargs;have hM1:∀k,Or M0 (bc rT dO) k->M0 k:=λ k hk=>hk.elim id λ h=>(cA h).elim;have hH1:m8 rT 0 w M0 dO:=⟨λ k hk=>hH.m0 k hk,λ _ _=>rfl,(λ o mt g sz rs ho=>by cases ho),(λ o o' mt g sz rs mt' g' sz' rs' a a' b b' ho=>by cases ho),hH.glob.keep (λ _ _ _=>rfl) (λ k hk=> .inl (.inl (hM1 k hk)))⟩
 refine (hcall.2 _ rT w _ hH1 (hv.keep rT.le_refl (λ _ _ _=>rfl) (λ k hk=> .inl (.inl (hM1 k hk))))).mono ?_;rintro e w' ⟨v,φ1,r1,h1,n',rfl,hK,hH2,hx,st⟩;obtain ⟨φ2,hH3,hx3,hm3, _⟩:=hK.sound hH2 (tmps:=λ _=>v) (λ _=>hx);have hnw:∀k,bc φ2 (fh H0) k->w.heap.size<=k:=λ k hk=>(st.mutd k (hm3 k hk)).elim (λ h=>(cA h).elim) id;have hold:∀k,bc φ h k->k<w.heap.size:=λ k hk=>hH.blk (.inr hk);have hfr:∀o x,φ2 o=some x->o<k2:=λ o x ho=>Nat.lt_of_not_le λ hle=>by rw [hH3.fresh o hle] at ho;cases ho
 replace hH3:m8 φ2 k2 w' (Or M0 (bc φ h)) (fh H0):=hH3.widen (N:=w.heap.size) (λ o x ho=>hnH _ (uz ho)) hnw hold st.fr.size
  (hH.glob.keep (λ k _ hk=>st.fr.block k hk cA) (λ k hk=>hk.imp id (hnw k)))
 replace hx3:bY φ2 w' (Or (Or M0 (bc φ h)) (bc φ2 (fh H0))) R0 v:=by
  have:=hx3 0;exact hnR.rel this
 have hheap:∀k,k<w.heap.size->w'.heap[k]? =w.heap[k]? :=λ k hk=>st.fr.block k hk cA;let φ3:aQ:=λ o=>if b<=o∧o<b+16 then φ2 (o - b) else φ o
 have e3:∀o x,φ2 o=some x->φ3 (b+o)=some x:=λ o x ho=>by
  grind
 have e3n:∀o,o<16->φ3 (b+o)=φ2 o:=λ o ho=>pi;have hnb:∀o x,φ o=some x->¬(b<=o∧o<b+16):=λ o x ho hc=>by rw [hH.fresh o (hFb o hc.1 hc.2)] at ho;cases ho
 have e3':∀o,¬(b<=o∧o<b+16)->φ3 o=φ o:=λ o ho=>if_neg ho;have hle3:φ.le φ3:=λ o x ho=>⟨x,pi,Nat.le_refl _,λ _=>rfl⟩
 have hsrc:∀o y,dL HH h o=some y->(∃o0 x,o=b+o0∧fh H0 o0=some x∧zdt b x y∧o0<16)∨(¬(b<=o∧o<b+16)∧h o=some y):=by
  intro o x ho;rw [wO] at ho;split at ho
  ·rename_i y hy;obtain ⟨o0,x,k1,k2',k3⟩:=hHH.at hy;have:=(hK.obj _ (uz k2')).1;grind
  ·cases x with
   |rows mt g sz rs=>
    obtain ⟨A,hA, _⟩:=hH.obj _ _ _ _ _ ho;grind
 have hmut:∀k,bc φ3 (dL HH h) k->bc φ2 (fh H0) k∨bc φ h k:=by
  rintro k ⟨o,g,sz,rs,g',a,bs,ho,hp,rfl⟩;rcases hsrc o _ ho with ⟨o0,x,rfl,h1,h2,h3⟩|⟨h1,h2⟩
  ·cases h2 with
   |rows h2=>grind [bc]
  grind [bc]
 have hsub:∀k,Or M0 (bc φ3 (dL HH h)) k->Or (Or M0 (bc φ h)) (bc φ2 (fh H0)) k:=λ k hk=>hk.elim (λ h=> .inl (.inl h)) λ h=>(hmut k h).elim .inr λ h=> .inl (.inr h);have hsub':∀k,Or M0 (bc φ3 (dL HH h)) k->Or M0 (bc φ h) k∨w.heap.size<=k:=λ k hk=>hk.elim (λ h=> .inl (.inl h)) λ h=>(hmut k h).elim (λ h=> .inr (hnw k h)) λ h=> .inl (.inr h);have hblk:∀o x g' a bs,h o=some x->φ o=some (g',some (a,bs))->a.block<w.heap.size:=by
  intro o x g' a bs ho hp;cases x with
  |rows mt g sz rs=>
   obtain ⟨A,hA,hc⟩:=hH.obj _ _ _ _ _ ho;rw [hp] at hA;obtain ⟨rfl,rfl⟩:=hA;rcases hc with ⟨h, _⟩|⟨a',bs',h, _,h2⟩
   ·cases h
   ·obtain ⟨rfl,rfl⟩:=h;exact h2.blk
 have hfar:∀o0 mt g sz rs g' a bs o' y g1 a' b',fh H0 o0=some (.rows mt g sz rs)->φ2 o0=some (g',some (a,bs))->h o'=some y->φ o'=some (g1,some (a',b'))->
   (mt=true∨∃g sz rs,y= .rows true g sz rs)->a.block≠a'.block:=by
  intro o0 mt g sz rs g' a bs o' y g1 a' b' q1 q2 q3 q4 hm;rcases hm with rfl|⟨g2,sz2,rs2,rfl⟩
  ·grind [bc]
  ·obtain ⟨A,hA,hc⟩:=hH3.obj _ _ _ _ _ q1;grind [Or,bc]
 refine ⟨v,φ3,rfl,hSR.rel e3 hsub hx3,⟨λ k hk=>Nat.lt_of_lt_of_le (hH.m0 k hk) st.fr.size,λ o ho=> ?_,λ o mt g sz rs ho=> ?_,λ o o' mt g sz rs mt' g' sz' rs' a a' b b' ho ho' hne hm hp hp'=> ?_,hH.glob.keep (λ k _ hk=>hheap k hk) hsub'⟩,
  ⟨hle3,hsub',⟨st.fr.os,st.fr.tape,st.fr.output,st.fr.drawn,st.fr.size,λ k hk _=>hheap k hk⟩,λ k hk=>(hmut k hk).elim (λ h=> .inr (hnw k h)) .inl⟩⟩
 ·rw [e3' o ho.2];exact hH.fresh o ho.1
 ·rcases hsrc o _ ho with ⟨o0,x,rfl,h1,h2,h3⟩|⟨h1,h2⟩
  ·cases h2 with
   |rows hs=>
    obtain ⟨A,hA,hc⟩:=hH3.obj _ _ _ _ _ h1;refine ⟨A,pi,hc.imp (λ h=>⟨h.1, ?_⟩) ?_⟩
    ·obtain ⟨_,rfl⟩:=h;exact List.eq_nil_of_length_eq_zero hs.shape.1
    ·rintro ⟨a,bs,c1,c3,hd⟩;exact ⟨a,bs,c1,λ hk=>c3 (.inl hk),hd.turn rfl hs.shape.1 (hs.shape.2 sz) (λ c9=>hs.rel e3 hsub c9)⟩
  ·obtain ⟨A,hA,hc⟩:=hH.obj _ _ _ _ _ h2;refine ⟨A,pi,hc.imp id ?_⟩;rintro ⟨a,bs,c1,c3,hd⟩;exact ⟨a,bs,c1,c3,hd.keep (hheap _ hd.blk) (λ c9=>c9.keep hle3 (λ k _ hk=>hheap k hk) hsub')⟩
 ·rcases hsrc o _ ho with ⟨o0,x,rfl,q1,q2,q3⟩|⟨q1,q2⟩<;>rcases hsrc o' _ ho' with ⟨o0',x',rfl,q1',q2',q3'⟩|⟨q1',q2'⟩
  ·cases q2;cases q2';rw [e3n _ q3] at hp;rw [e3n _ q3'] at hp';exact hH3.inj _ _ _ _ _ _ _ _ _ _ _ _ _ _ q1 q1' ge hm hp hp'
  ·cases q2;rw [e3n _ q3] at hp;rw [e3' o' q1'] at hp';exact hfar _ _ _ _ _ _ _ _ _ _ _ _ _ q1 hp q2' hp' (hm.imp id λ h=>by grind)
  ·cases q2';rw [e3' o q1] at hp;rw [e3n _ q3'] at hp';exact Ne.symm (hfar _ _ _ _ _ _ _ _ _ _ _ _ _ q1' hp' q2 hp (hm.symm.imp id λ h=>by grind))
  ·rw [e3' o q1] at hp;rw [e3' o' q1'] at hp';exact hH.inj _ _ _ _ _ _ _ _ _ _ _ _ _ _ q2 q2' hne hm hp hp'
theorem pR.sound {P:Program}{b:Nat}{φ:aQ}{F:Nat->Prop} (hF:∃n₁,∀o,n₁<=o->F o) (hFb:∀o,b<=o->o<b+16->F o){w:World}{M0:Nat->Prop}{h:au} (hH:br φ F w M0 h){fv:AV}{args:List AV}{r:AV}{S:List Nat}{wr:List (Nat×Option cB)} (hp:pR P b fv args h r S wr){f:Value}{vs:List Value}
  (hf:bY φ w (Or M0 (bc φ h)) fv f) (ha:aU φ w (Or M0 (bc φ h)) args vs):
  ∃f' fs cs,f= .func (.func f') ⟨fs⟩ ⟨cs⟩∧kH P f'∧Calls P f' ⟨fs++vs++cs⟩ w λ e w'=>∃v φ',e= .returned v∧bY φ' w' (Or M0 (bc φ' (aB wr h))) r v∧br φ' (λ o=>F o∧(S.contains pq=true->¬(b<=o∧o<b+16))) w' M0 (aB wr h)∧fm φ w M0 h φ' w' (aB wr h):=by
 suffices hsuf:(pq ∈ S∧∃f' fs cs,f= .func (.func f') ⟨fs⟩ ⟨cs⟩∧kH P f'∧Calls P f' ⟨fs++vs++cs⟩ w λ e w'=>∃v φ',e= .returned v∧bY φ' w' (Or M0 (bc φ' (aB wr h))) r v∧br φ' (λ o=>F o∧¬(b<=o∧o<b+16)) w' M0 (aB wr h)∧fm φ w M0 h φ' w' (aB wr h))∨
   ∃f' fs cs,f= .func (.func f') ⟨fs⟩ ⟨cs⟩∧kH P f'∧Calls P f' ⟨fs++vs++cs⟩ w λ e w'=>∃v φ',e= .returned v∧bY φ' w' (Or M0 (bc φ' (aB wr h))) r v∧br φ' F w' M0 (aB wr h)∧fm φ w M0 h φ' w' (aB wr h) by
  rcases hsuf with ⟨hnm,f',fs,cs,k1,k2,k3⟩|⟨f',fs,cs,k1,k2,k3⟩
  ·exact ⟨f',fs,cs,k1,k2,k3.mono λ e w' ⟨v,φ',j1,j2,j3,j4⟩=>⟨v,φ',j1,j2,j3.sub λ o ho=>⟨ho.1,ho.2 pi⟩,j4⟩⟩
  ·exact ⟨f',fs,cs,k1,k2,k3.mono λ e w' ⟨v,φ',j1,j2,j3,j4⟩=>⟨v,φ',j1,j2,j3.sub λ o ho=>ho.1,j4⟩⟩
 rcases hp with ⟨rfl,hp⟩|⟨f',first,caps,args',rfl,hb,hpu,hw,hc⟩|⟨f',first,caps,rfl,hS,hw,hfl,hc⟩|⟨f',first,caps,args',R0,H0,HH,k2,rfl,hnm,hk16,hb,hcall,hnR,hnH,hSR,hHH,hnd,rfl,hle⟩;rotate_right
 ·grind [I6]
 all_goals refine .inr ?_
 ·obtain ⟨f',fs,cs,h1,h2,h3⟩:=hp.sound hH hf ha;exact ⟨f',fs,cs,h1,h2,h3.mono λ e w' ⟨v,k1,k2,k3,k4⟩=>⟨v,φ,k1,k2,k3,k4⟩⟩
 ·have hfz:zH h (aB wr h):=λ o=>by
   grind [y9]
  obtain ⟨hH',st0⟩:=hH.freeze hfz;have hmt:∀o g sz rs,aB wr h o=some (.rows true g sz rs)->h o=some (.rows true g sz rs):=by
   grind [zH]
  cases hf with
  | @fn _ _ _ fs cs h1 h2=>
   refine ⟨f',fs,cs,rfl,hpu.1, ?_⟩;have hall:=(h1.append ha).append h2;have hv:=jc (h':=aB wr h) hH hmt (hc h λ _ _=>rfl) hb hall;refine (hpu.2 _ w _ (λ k hk=>hH'.blk hk) hH'.glob hv).mono ?_;rintro e w' ⟨v,rfl,hr,hfr⟩;have st:fm φ w M0 (aB wr h) φ w' (aB wr h):=⟨φ.le_refl,λ k hk=> .inl hk,⟨hfr.os,hfr.tape,hfr.output,hfr.drawn,hfr.size,λ k hk _=>hfr.block k hk (λ h=>h)⟩,λ k hk=> .inl hk⟩
   exact ⟨v,φ,rfl,hr.keep (λ o x ho=>by cases ho) (λ _ _ _=>rfl) (λ k hk=> .inl hk),hH'.keepw st (λ k hk=>hfr.block k hk λ h=>h),st0.trans st⟩
 ·obtain ⟨n₁,hn₁⟩:=hF;have hHn:m8 φ n₁ w M0 h:=hH.sub λ o ho=>hn₁ o ho;have hSn:∀o ∈ S,o<n₁:=λ o ho=>by
   obtain ⟨x,hx⟩:=hS o ho;cases x with
   |rows mt g sz rs=>
    obtain ⟨A,hA, _⟩:=hH.obj _ _ _ _ _ hx;exact Nat.lt_of_not_le λ hle=>by rw [hHn.fresh o hle] at hA;cases hA
  have hcall:=hc h n₁ (λ _ _=>rfl) hSn;cases hf with
  | @fn _ _ _ fs cs h1 h2=>
   refine ⟨f',fs,cs,rfl,hcall.1, ?_⟩;have hall:=(h1.append ha).append h2;refine (hcall.2 M0 φ w _ hHn hall).mono ?_;rintro e w' ⟨v,φ',r',h',n',rfl,⟨rfl,rfl,rfl⟩,hH',hx,st⟩;have hold:∀o x,φ o=some x->¬F o:=λ o x ho hFo=>by rw [hH.fresh o hFo] at ho;cases ho
   have hlive:∀o x,aB wr h o=some x->∃y,φ o=some y:=by
    intro o x ho;have hy:∃y,h o=some y:=by
     grind [y9]
    obtain ⟨y,hy⟩:=hy;cases y with
    |rows mt g sz rs=>
     obtain ⟨A,hA, _⟩:=hH.obj _ _ _ _ _ hy;grind
   haveI:DecidablePred F:=λ o=>Classical.propDecidable _
   let φ'':aQ:=λ o=>if F o then none else φ' o
   have e1:∀o,¬F o->φ'' o=φ' o:=λ o ho=>if_neg ho;have e2:∀o x,φ o=some x->φ'' o=φ' o:=λ o x ho=>e1 o (hold o x ho);have e3:∀o x,aB wr h o=some x->φ'' o=φ' o:=λ o x ho=>pi;have hmut:∀k,bc φ'' (aB wr h) k->bc φ' (aB wr h) k:=by
    grind [bc]
   have hmut':∀k,Or M0 (bc φ'' (aB wr h)) k->Or M0 (bc φ' (aB wr h)) k:=λ k hk=>hk.imp id (hmut k);refine ⟨v,φ'',rfl, ?_,⟨hH'.m0,λ o ho=>if_pos ho,λ o mt g sz rs ho=> ?_,λ o o' mt g sz rs mt' g' sz' rs' a a' b b' ho ho' hne hmm hp hp'=> ?_,hH'.glob.keep (λ _ _ _=>rfl) (λ k hk=> .inl (hmut' k hk))⟩,⟨λ o x ho=> ?_,λ k hk=>st.or k (hmut' k hk),st.fr,λ k hk=>st.mutd k (hmut k hk)⟩⟩
   ·rcases hfl with hfl|hfl|⟨o,g,sz,i,len,rfl,ho⟩
    ·exact hfl.rel hx
    ·refine hx.inS (λ o ho=> ?_) hmut' hfl;obtain ⟨y,hy⟩:=hS o ho;cases y with
     |rows mt g sz rs=>
      obtain ⟨A,hA, _⟩:=hH.obj _ _ _ _ _ hy;grind
    ·obtain ⟨p,hp,rfl⟩:=List.mem_map.1 ho;obtain ⟨y,hy⟩:=hS _ (hw p hp).1;have hy':∃z,φ p.1=some z:=by
      cases y with
      |rows mt g sz rs=>
       obtain ⟨A,hA, _⟩:=hH.obj _ _ _ _ _ hy;grind
     cases hx with
     |sl k1 k2 k3=>exact .sl pi k2 k3
   ·obtain ⟨A,hA,hcc⟩:=hH'.obj _ _ _ _ _ ho;refine ⟨A,pi,hcc.imp id ?_⟩;rintro ⟨a,bs,c1,c3,hd⟩;refine ⟨a,bs,c1,c3,hd.same rfl λ c9=> ?_⟩;replace c9:aU φ' w' (Or M0 (bc φ'' (aB wr h))) rs.flatten _:=c9.keep φ'.le_refl (λ _ _ _=>rfl) (λ k hk=> .inl (hmut' k hk));rcases y9 wr h o with k1|⟨p,hp,rfl,k3⟩
    ·rw [k1] at ho;obtain ⟨A0, _,hc0⟩:=hH.obj _ _ _ _ _ ho;rcases hc0 with ⟨_,rfl⟩|⟨a0,bs0, _, _,hd0⟩
     ·cases c9;exact .nil
     ·obtain ⟨vs0,d9⟩:=hd0.rel0;exact c9.cut2 e2 d9
    ·obtain ⟨_,g1,sz1,rs1,q1,q2⟩:=hw p hp;rw [k3,q1] at ho;refine uH (λ _ h=>h) (λ c hc=> ?_) c9;grind [List.mem_flatten]
   ·rw [e3 o _ ho] at hp;rw [e3 o' _ ho'] at hp';exact hH'.inj _ _ _ _ _ _ _ _ _ _ _ _ _ _ ho ho' hne hmm hp hp'
   ·rw [e2 o x ho];exact st.le o x ho

structure zeR {P:Program} (B:jM P) (N:Nat) (M:Nat->Prop) (F:Nat->Prop) (φ:aQ) (e:dg) (h:au) (a:Act) (w:World):Prop where
 env:∀t,bY φ w (Or M (bc φ h)) (e t) (a.tmps.getD t undef)
 size:a.tmps.size=N
 defs:pI B.lo M a.defers w
 heap:br φ F w M h
 ok:B.ok (e GH) M φ w h
 small:N<=GH
theorem zeR.put {P:Program}{B:jM P}{N:Nat}{M:Nat->Prop}{F F':Nat->Prop}{φ φ':aQ}{e:dg}{h h':au}{a:Act}{w w':World} (hs:zeR B N M F φ e h a w){dst:Option Tmp} (hd:match dst with|none=>True|some d=>d<N)
  {x:AV} {v:Value} (hx:bY φ' w' (Or M (bc φ' h')) x v) (hH:br φ' F' w' M h') (st:fm φ w M h φ' w' h'):zeR B N M F' φ' (put e dst x) h' (a.put dst v) w':=by
 cases dst with
 |none=>exact ⟨λ t=>st.rel (hs.env t),hs.size,hs.defs.step hs.heap st,hH,B.step hs.ok st,hs.small⟩
 |some d=>
  refine ⟨λ t=> ?_,by simp [Act.put,hs.size],hs.defs.step hs.heap st,hH,by rw [zcG hd hs.small];exact B.step hs.ok st,hs.small⟩;simp only [Av.put,Act.put,aC];by_cases ht:t=d
  ·subst ht;have:t<a.tmps.size:=by rw [hs.size];exact hd
   simp_all
  ·rw [if_neg ht];have:(a.tmps.setIfInBounds d v).getD t undef=a.tmps.getD t undef:=by
    simp_all [Ne.symm]
   rw [this];exact st.rel (hs.env t)

theorem Cr {P:Program}{k:Nat}{e:dg}{h:au} (hc:(lK P k op e h).cond):∀c,op≠ .defer c:=by
 grind [lK]
variable {Q:Exit->Act->World->Prop} {K:Act->World->Prop} {o:Oper} {a:Act} {r:Option Nat}
theorem Pw {P:Program}{b:Nat}{B:jM P}{φ:aQ}{e e':dg}{h:au}{k:Nat}{x:AV}{wr:List (Nat×Option cB)}{rd:List Nat}
  (hs:zeR B N M F φ e h a w) (hF:∃n₁,∀o,n₁<=o->F o) (hFb:∀o,b<=o->o<b+16->F o) (hk:F k) (hev:∀x ∈ o.op.operands,bY φ w (Or M (bc φ h)) (ev e' x) (a.eval x)) (hr:Ji P k b o.op e' h x wr rd)
  (hK:∀v φ' w',bY φ' w' (Or M (bc φ' (aB wr h))) x v->br φ' (λ o=>F o∧o≠k∧(rd.contains pq=true->¬(b<=o∧o<b+16))) w' M (aB wr h)->fm φ w M h φ' w' (aB wr h)->K (a.put o.dst v) w'):o.wpIn (WF r) m P a w K Q:=by
 have habout:∀f,Oper.about P w a.eval o=some f->(WF r).fn f:=λ _ _=>trivial;have hdepth:(WF r).depth.isSome=true->1<=m:=by grind [WF,Fence.wide]
 refine ⟨habout, ?_⟩;unfold Ji at hr;split at hr
 ·rename_i fo args ats hop;have hp:=hr;rw [Oper.semAt_eq _ _ _ (λ c=>by grind)];have hfo:=hev fo Wt;have hargs:aU φ w (Or M (bc φ h)) (args.toList.map (ev e')) (args.toList.map a.eval):=wb λ x hx=>hev x WO;obtain ⟨f',fs,cs,hval,hen,hcalls⟩:=hp.sound hF hFb hs.heap hfo hargs;have hrun:=PE (P:=P) (w:=w) (args:=args) (ats:=ats) (ty:=o.type) hval hen;have hex:execOp a.eval o=(do let d <- resolve a.eval { callee:= .value fo,args,argTypes:=ats} o.type;invoke d.target d.args):=Ww;rw [hex,hrun];refine ⟨hdepth,Au (hcalls.mono ?_)⟩;rintro en w' ⟨v,φ',rfl,hx,hH',st⟩;exact hK v φ' w' hx (hH'.sub λ o ho=>⟨ho.1,ho.2.2⟩) st
 ·obtain ⟨hc,rfl,rfl, _⟩:=hr;rw [Oper.semAt_eq _ _ _ (Cr hc)];obtain ⟨nx,v,w',φ',hrun,hnx,hx,hH',st⟩:=Nr hs.heap hk hev hc;rw [hrun];replace hH':=hH'.sub (F':=λ u=>F u∧u≠k∧(rd.contains pq=true->¬(b<=u∧u<b+16))) λ u ho=>by
   generalize (lK P k o.op e' h).al=al;cases al with
   |zero=>exact ho.1
   |succ j=>grind [zdf]
  rcases hnx with rfl|⟨rfl,rfl⟩
  ·exact hK v φ' w' hx hH' st
  ·exact hK undef φ' w' hx hH' st
variable {ops:Array Oper}
theorem zeu {P:Program}{b:Nat}{B:jM P}{φ:aQ}{e:dg}{h:au}{k:Nat}{x:AV}{wr:List (Nat×Option cB)}{rd:List Nat}
  (hi:ops[i]? =some o) (hd:match o.dst with|none=>True|some d=>d<N) (hs:zeR B N M F φ e h a w) (hF:∃n₁,∀o,n₁<=o->F o) (hFb:∀o,b<=o->o<b+16->F o) (hk:F k) (hr:sg P ops.toList k b o e h x wr rd)
  (hK:∀φ' a' w',zeR B N M (λ o=>F o∧o≠k∧(rd.contains pq=true->¬(b<=o∧o<b+16))) φ' (put e o.dst x) (aB wr h) a' w'->K a' w'):wpOpIn (WF r) m P ops Q i K a w:=by
 have hev:∀x,bY φ w (Or M (bc φ h)) (ev e x) (a.eval x):=Mi hs.heap.glob hs.env;unfold wpOpIn;rw [hi];simp only;unfold sg at hr;split at hr
 ·rename_i hg;have hw:Region.wanted o (yielded ops a.tmps)=true:=by simp [Region.wanted,hg]
  rw [if_pos hw];exact Pw hs hF hFb hk (λ x _=>hev x) hr λ v φ' w' hx hH' st=>hK φ' _ w' (hs.put hd hx hH' st)
 ·rename_i j want hg;obtain ⟨t,g,y,ht,hb,hok,rfl,hwf,hraw⟩:=hr;have hw:=zT hs.env hg (by rw [ht];exact hb);rw [hw];cases g with
  |true=>
   refine Pw (e':=gE o.op e) hs hF hFb hk (λ x hx=> ?_) (hraw rfl) λ v φ' w' hx hH' st=>hK φ' _ w' (hs.put hd (.gd (λ _=>hx) (λ h=>by cases h)) hH' st);rcases ze2 o.op e with ⟨he1, _⟩|⟨he1,he2⟩
   ·grind
   cases x with
   |tmp t=>
    have hmt:t ∈ iq o.op:=by
     simp only [iq,List.mem_filterMap];exact ⟨.tmp t,pi,rfl⟩
    grind [ev,bY,CX,EE]
   |const v=>grind [ev]
   |global g=>grind [ev]
   |func f=>grind [ev]
  |false=>
   obtain rfl:=hwf rfl;exact ⟨λ _ _=>trivial,hK φ _ w (hs.put hd (.gd (λ h=>by cases h) (λ _=>rfl)) (hs.heap.sub λ o ho=>ho.1) (.refl _ _ _ _))⟩

theorem zab {α:Type}{l:List α}{x:α} (h:x ∈ l):∃a b,l=a++x::b:=List.append_of_mem h
variable {listed:Array Bool}
theorem zd6  (hi:i<listed.size):listed.getD i true=listed.getD i false:=pi
theorem Ez  (hmk:xA ops.toList mk) (hsz:listed.size=ops.size) (hea:∀ (i:Nat) o,ops[i]? =some o->∀ed ∈ o.after.toList,Region.binds .any ed=true->ed.on<i)
  (hcl:∀i,listed.getD i false=true->∀j,(mk.getD i 0).testBit j=true->listed.getD j true=true)   (ho:ops[i]? =some o) (hpre:∀ed ∈ o.after.toList,Region.binds .any ed=true->listed.getD ed.on false=true):
  ∀j,(mk.getD i 0).testBit j=true->listed.getD j true=true:=by
 grind [xA]
theorem Qs {F:Fence}{P:Program} (hmk:xA ops.toList mk) (hea:∀ (i:Nat) o,ops[i]? =some o->∀ed ∈ o.after.toList,Region.binds .any ed=true->ed.on<i){k:Nat}
  (hsp:∀j,k<=j->j<ops.size->∀i,i<j->(mk.getD j 0).testBit i=true):∀ (c i fuel:Nat) (listed:Array Bool) (a:Act) (w:World),i+c=ops.size->k<=i->c<=fuel->listed.size=ops.size->
  (∀j,listed.getD j true=false↔i<=j∧j<ops.size)->(∀i,listed.getD i false=true->∀j,(mk.getD i 0).testBit j=true->listed.getD j true=true)->
  wpOpsIn F m P ops Q (List.range' i c) a w->wpAnyIn F m P .any ops Q fuel listed a w:=by
 intro c;induction c with
 |zero=>
  intro i fuel listed a w hi hk hf hsz hl hcl h;have hnil:Region.ready .any ops listed= []:=List.eq_nil_iff_forall_not_mem.2 λ j hj=>by
   grind [mem_ready]
  cases fuel with
  |zero=>exact ⟨hnil,h⟩
  |succ fuel=>exact ⟨λ _=>h,λ j hj=>pi⟩
 |succ c ih=>
  intro i fuel listed a w hi hk hf hsz hl hcl h;obtain ⟨fuel,rfl⟩:∃f,fuel=f+1:=⟨fuel - 1,ge⟩
  have hlt:i<ops.size:=ge;have hdone:∀j,j<i->listed.getD j true=true:=λ j hj=>by
   grind
  refine ⟨λ hnil=> ?_,λ j hj=> ?_⟩
  ·have:i ∈ Region.ready .any ops listed:=by
    refine mem_ready.2 ⟨(hl i).2 ⟨Nat.le_refl _,hlt⟩,ops[i],Array.getElem?_eq_getElem hlt,λ ed he hb=> ?_⟩;grind
   grind
  ·obtain ⟨hun,o,ho,hpre⟩:=mem_ready.1 hj;have hm:=Ez hmk hsz hea hcl ho (λ ed he hb=>hpre ed pi hb);have hji:j=i:=by
    grind
   subst hji;refine wpOpIn_mono (λ a w h=>ih (j+1) fuel (listed.setIfInBounds j true) a w ge ge ge pi (λ b=> ?_) (λ b hb d hd=> ?_) h) h
   ·by_cases hbj:b=j
    ·subst hbj;simp [Array.getD_eq_getD_getElem?,hsz,hlt]
    ·rw [getD_set_ne true (Ne.symm hbj),hl];omega
   ·have hset:∀b,listed.getD b true=true->(listed.setIfInBounds j true).getD b true=true:=by
     intro b hb;by_cases hbi:b=j
     ·grind
     ·rw [getD_set_ne true (Ne.symm hbi)];exact hb
    by_cases hbj:b=j
    ·grind
    ·rw [getD_set_ne false (Ne.symm hbj)] at hb;grind
theorem Uw {P:Program}{B:jM P}{Q:c7}{e':dg}{h':au} (hd:∀o ∈ ops.toList,match o.dst with|none=>True|some d=>d<N)
  (hmk:xA ops.toList mk) (hea:∀ (i:Nat) o,ops[i]? =some o->∀ed ∈ o.after.toList,Region.binds .any ed=true->ed.on<i) {k:Nat} (hkz:k<=ops.size) (hsp:∀j,k<=j->j<ops.size->∀i,i<j->(mk.getD j 0).testBit i=true)
  {T:Nat} (hT:n+ops.size<=T) (hq:gP P ops.toList Q (ops.toList.drop k) e' h' T):∀ (fuel:Nat) (listed:Array Bool) (L:List zaC) {φ:aQ} {e:dg} {h:au} {a:Act} {w:World},
  L.length+(ops.size - k)<=fuel->listed.size=ops.size->(∀y ∈ L,ops[y.1]? =some y.2.1∧listed.getD y.1 true=false∧y.1<k)->
  ((∀i,listed.getD i true=false->(∃y ∈ L,y.1=i)∨k<=i)∧∀i,k<=i->i<ops.size->listed.getD i true=false)->
  L.Pairwise (λ y x=>y.1<x.1∧((mk.getD x.1 0).testBit y.1=true∨Tv ops.toList y.2.1 x.2.1 y.2.2 x.2.2=true))->
  (∀i,listed.getD i false=true->∀j,(mk.getD i 0).testBit j=true->listed.getD j true=true)->
  (T=n+ops.size+16 * ops.size∨∀y ∈ L,y.2.2.1.contains pq=false)->
  zeR B N M (λ o=>T<=o∨∃y ∈ L,o=n+y.1∨(n+ops.size+16 * y.1<=o∧o<n+ops.size+16 * y.1+16)) φ e h a w->Tr P ops.toList n L e h e' h'->
  wpAnyIn (WF r) m P .any ops (SQ B N Q) fuel listed a w:=by
 intro fuel;have htf:∀ (listed:Array Bool) (i:Nat),i<listed.size->listed.getD i true=listed.getD i false:=λ _ _ h=>zd6 h;have hend:∀ (fuel:Nat) (listed:Array Bool) {φ:aQ} {e:dg} {h:au} {a:Act} {w:World},ops.size - k<=fuel->listed.size=ops.size->((∀i,listed.getD i true=false->(∃y ∈ ([]:List zaC),y.1=i)∨k<=i)∧∀i,k<=i->i<ops.size->listed.getD i true=false)->
   (∀i,listed.getD i false=true->∀j,(mk.getD i 0).testBit j=true->listed.getD j true=true)->
   zeR B N M (λ o=>T<=o∨∃y ∈ ([]:List zaC),o=n+y.1∨(n+ops.size+16 * y.1<=o∧o<n+ops.size+16 * y.1+16)) φ e h a w->Tr P ops.toList n [] e h e' h'->
   wpAnyIn (WF r) m P .any ops (SQ B N Q) fuel listed a w:=by
  intro fuel listed φ e h a w hl hsz hU hcl hs ht;obtain ⟨rfl,rfl⟩:=ht;refine Qs hmk hea hsp (ops.size - k) k fuel listed a w ge (Nat.le_refl _) hl hsz (λ j=>⟨λ hj=> ?_,λ hj=>hU.2 j hj.1 hj.2⟩) hcl (Gc hd (ops.size - k) k ge (n:=T) ⟨hs.env,hs.size,hs.defs,hs.heap.sub λ o ho=> .inl ho,hs.ok,hs.small⟩ hq);rcases hU.1 j hj with ⟨y,hy, _⟩|h1;all_goals grind
 induction fuel with
 |zero=>
  intro listed L φ e h a w hl hsz hL hU hp hcl hTL hs ht;have:L= []:=List.eq_nil_of_length_eq_zero ge;subst this;grind
 |succ fuel ih=>
  intro listed L φ e h a w hl hsz hL hU hp hcl hTL hs ht;by_cases hLn:L= []
  ·subst hLn;grind
  refine ⟨λ hnil=> ?_,λ i hi=> ?_⟩
  ·cases L with
   |nil=>grind
   |cons x L=>
    have hx:=hL x gt;have:x.1 ∈ Region.ready .any ops listed:=by
     refine mem_ready.2 ⟨hx.2.1,x.2.1,hx.1,λ ed he hb=> ?_⟩;have hlt:=hea _ _ hx.1 ed pi hb;rw [<- htf _ _ ge];cases hc:listed.getD ed.on true with
     |true=>rfl
     |false=>
      rcases hU.1 _ hc with ⟨y,hy,he⟩|h1
      ·grind [List.pairwise_cons]
      ·omega
    grind
  ·obtain ⟨hun,o,ho,hpre⟩:=mem_ready.1 hi;have hmask0:=Ez hmk hsz hea hcl ho (λ ed he hb=>hpre ed pi hb);obtain ⟨⟨i',o',rc⟩,hy,rfl⟩:∃y ∈ L,y.1=i:=by
    rcases hU.1 i hun with h1|h1
    ·exact h1
    ·obtain ⟨x,L',rfl⟩:=List.exists_cons_of_ne_nil hLn;grind
   have hx:=hL _ hy;simp only at ho hun hx hpre;rw [ho] at hx;obtain ⟨heq,hx2,hx3⟩:=hx;simp only [Option.some.injEq] at heq;subst heq;have hsz1:i'<ops.size:=by
    omega
   have hmask:=hmask0;obtain ⟨L1,L2,rfl⟩:=zab hy;rw [List.pairwise_append] at hp;obtain ⟨hp1,hp2,hp12⟩:=hp;rw [List.pairwise_cons] at hp2;obtain ⟨x,wr,hok,hwr,ht'⟩:=ht.bubble λ y hy=>by
    have h1:=hp12 y hy (i',o,rc) gt;rcases h1.2 with h2|h2
    ·have:=hmask _ h2;rw [(hL y WR).2.1] at this;cases this
    grind
   have hne:∀y ∈ L1++L2,y.1≠i':=by
    grind
   refine zeu ho (hd o pi) hs ⟨T,λ q hq=> .inl hq⟩ (λ q h1 h2=> .inr ⟨(i',o,rc),gt, .inr ⟨pi,pi⟩⟩) (.inr ⟨(i',o,rc),gt, .inl rfl⟩) hok λ φ' a' w' hs'=> ?_;refine ih _ (L1++L2) (by grind [List.length_cons]) pi (λ y hy=> ?_) ⟨λ j hj=> ?_,λ j hj hj2=> ?_⟩ ?_ (λ j hj b hb=> ?_) (hTL.imp id λ h y hy=>h y Xi) ⟨hs'.env,hs'.size,hs'.defs,hs'.heap.sub λ u hu=> ?_,hs'.ok,hs'.small⟩ ht'
   ·have h1:=hL y Xi;rw [getD_set_ne true (Ne.symm (hne y hy))];grind
   ·by_cases hji:j=i'
    ·subst hji;simp [Array.getD_eq_getD_getElem?,hsz,hsz1] at hj
    ·rw [getD_set_ne true (Ne.symm hji)] at hj;rcases hU.1 j hj with ⟨y,hy,rfl⟩|h1;all_goals grind
   ·rw [getD_set_ne true ge];grind
   ·rw [List.pairwise_append];exact ⟨hp1,hp2.2,λ y hy z hz=>hp12 y hy z (by simp [hz])⟩
   ·have hset:∀b,listed.getD b true=true->(listed.setIfInBounds i' true).getD b true=true:=by
     intro b hb;by_cases hbi:b=i'
     ·grind
     ·rw [getD_set_ne true (Ne.symm hbi)];exact hb
    by_cases hji:j=i'
    ·subst hji;exact hset _ (hmask _ hb)
    ·rw [getD_set_ne false (Ne.symm hji)] at hj;exact hset _ (hcl _ hj _ hb)
   ·have hlt:∀y ∈ L1++L2,y.1<ops.size:=λ y hy=>by
     grind
    simp only [Array.length_toList];rcases hu with h|⟨y,hy,h⟩
    ·refine ⟨.inl h,ge,λ hc=> ?_⟩;grind
    ·have h1:=hne y hy;have h2:=hlt y hy;refine ⟨.inr ⟨y,Xi,h⟩, ?_,λ hc=> ?_⟩<;>omega

theorem Fw:∀ {l:List Oper}{rs:List jf}{i:Nat}{y:zaC},y ∈ zc8 i l rs->∃k,y.1=i+k∧l[k]? =some y.2.1∧rs[k]? =some y.2.2
 | [], _, _, _,h=>WP
 | _:: _, [], _, _,h=>WP
 |o::l,r::rs,i,y,h=>by
  rcases List.mem_cons.1 h with rfl|h
  ·exact ⟨0,rfl,rfl,rfl⟩
  ·obtain ⟨k,h1,h2,h3⟩:=Fw h;exact ⟨k+1,ge,XZ,by simpa using h3⟩
theorem Hj:∀ {l:List Oper}{rs:List jf}{i:Nat},rs.length=l.length->(zc8 i l rs).length=l.length
 | [], [], _, _=>rfl
 |o::l,r::rs,i,h=>by simp only [zc8,List.length_cons] at h ⊢;rw [Hj ge]
 | [], _:: _, _,h=>WP
 | _:: _, [], _,h=>WP
theorem Ty:∀ {l:List Oper}{rs:List jf}{i k:Nat},rs.length=l.length->k<l.length->∃y ∈ zc8 i l rs,y.1=i+k
 |o::l,r::rs,i,0,h,hk=>⟨_,List.mem_cons_self ..,rfl⟩
 |o::l,r::rs,i,k+1,h,hk=>by
  obtain ⟨y,hy,he⟩:=Ty (i:=i+1) (k:=k) (l:=l) (rs:=rs) Xf Xj;exact ⟨y,List.mem_cons_of_mem _ hy,ge⟩
 | [], _, _, _, _,hk=>by cases hk
 | _:: _, [], _, _,h, _=>WP
theorem Ce {R:zaC->zaC->Prop}:∀ {l:List Oper}{rs:List jf}{i:Nat},(∀a b (x y:zaC),a<b->x.1=i+a->y.1=i+b->l[a]? =some x.2.1->rs[a]? =some x.2.2->l[b]? =some y.2.1->rs[b]? =some y.2.2->R x y)->(zc8 i l rs).Pairwise R
 | [], _, _, _=> .nil
 | _:: _, [], _, _=> .nil
 |o::l,r::rs,i,h=>by
  refine List.pairwise_cons.2 ⟨λ y hy=> ?_,Ce λ a b x y hab hx hy h1 h2 h3 h4=>h (a+1) (b+1) x y ge ge ge XY XZ (by simpa using h3) (by simpa using h4)⟩;obtain ⟨k,h1,h2,h3⟩:=Fw hy;exact h 0 (k+1) (i,o,r) y ge rfl ge rfl rfl XZ (by simpa using h3)

theorem Nq {P:Program} (hmix:P.follows .mixedOrders=true){B:jM P}{id:Nat}{Q:c7} (hd:∀o ∈ ops.toList,match o.dst with|none=>True|some d=>d<N)
  {φ:aQ} {e:dg} {h:au}    (hs:SR B N M φ e h n a w) (hh:Jm P ops.toList Q e h n):(Code.region id ops true).wpIn (WF r) m P (SQ B N Q) a w:=by
 refine wpIn_region_any hmix ?_;obtain ⟨k,hh⟩:=hh;obtain ⟨recs,e',h',hlen,htr,hok,hq⟩:=Ga hh;simp only [List.nil_append,A5,TY,Bool.and_eq_true,decide_eq_true_eq,List.all_eq_true,List.mem_range,Bool.or_eq_true,Bool.not_eq_true'] at hok;obtain ⟨⟨hle,hsp⟩,hok⟩:=hok;obtain ⟨κ,hκ⟩:∃κ,κ=recs.length:=⟨_,rfl⟩
 have hdrop:ops.toList.drop k=ops.toList.drop κ:=by
  grind [List.drop_eq_nil_of_le]
 rw [hdrop] at hq;rw [<- hκ] at hle hsp hok;obtain ⟨T,hT,hTn,hq⟩:∃T,n+ops.size<=T∧(T=n+ops.size+16 * ops.size∨∀y ∈ zc8 0 (ops.toList.take k) recs,y.2.2.1.contains pq=false)∧gP P ops.toList Q (ops.toList.drop κ) e' h' T:=by
  rcases hq with ⟨h1,h2⟩|h2
  ·refine ⟨_,Nat.le_refl _, .inr λ y hy=> ?_,h2⟩;grind [Fw,Kp]
  ·exact ⟨_,ge, .inl rfl,h2⟩
 have hmk:xA ops.toList (Kn ops.toList []):=OZ gt λ k i hb=>by simp at hb
 have gd:∀ {α:Type} [Inhabited α] {l:List α} {k:Nat} {x:α},l[k]? =some x->l.getD k default=x:=by
  grind
 have st:fm φ w M h φ { w with drawn:=w.drawn+1} h:=⟨φ.le_refl,λ k hk=> .inl hk,⟨rfl,rfl,rfl,Nat.le_succ _,Nat.le_refl _,λ _ _ _=>rfl⟩,λ k hk=> .inl hk⟩
 have hin:∀ {i:Nat} {o:Oper},ops.toList[i]? =some o->i<ops.size:=λ {i o} h=>by
  grind
 have hea:∀ (i:Nat) o,ops[i]? =some o->∀ed ∈ o.after.toList,Region.binds .any ed=true->ed.on<i:=λ i o ho ed he hb=>by
  grind
 have htk:∀ {i:Nat} {o:Oper},(ops.toList.take k)[i]? =some o->ops.toList[i]? =some o∧i<κ:=λ {i o} h=>by
  grind
 refine Uw (mk:=Kn ops.toList []) (L:=zc8 0 (ops.toList.take k) recs) (n:=n) hd hmk hea (k:=κ) hle (λ j h1 h2 i hi=> ?_) hT hq ops.size _ (by grind [Hj]) gt (λ y hy=> ?_) ⟨λ i hi=> ?_,λ i h1 h2=> ?_⟩ (Ce λ i j x y hij hx hy h1 h2 h3 h4=> ?_) (λ i hi=> ?_) hTn ⟨λ t=>st.rel (hs.env t),hs.size,hs.defs.step hs.heap st,(hs.heap.keepw st λ _ _=>rfl).sub λ o ho=> ?_,B.step hs.ok st,hs.small⟩ htr
 ·rcases hsp with h|h;all_goals grind
 ·obtain ⟨k,h1,h2,h3⟩:=Fw hy;obtain ⟨h2,h4⟩:=htk h2;have hk:=hin h2;exact ⟨pi,by simp [Array.getD_eq_getD_getElem?,h1,hk],ge⟩
 ·rcases Nat.lt_or_ge i κ with h|h
  ·obtain ⟨y,hy,he⟩:=Ty (i:=0) (k:=i) hlen ge;grind
  grind
 ·simp [Array.getD_eq_getD_getElem?,h2]
 ·grind
 ·rcases Nat.lt_or_ge i ops.size with h|h
  ·simp [Array.getD_eq_getD_getElem?,h] at hi
  grind
 omega
end Go.Av
end
section
/- Our library: ranges dL functions: the state between rounds, and within one. -/
namespace Go.Av
open Go

def Bk (O0:fF) (l:Nat) (Oi:fF) (w:World):fF:=λ k=>(O0 k∨k=l)∨(Oi k∧k<w.heap.size)
structure MB {P:Program} (B:jM P) (l base:Nat) (ds:List Deferred) (tmps:Array Value) (rc:Loop) (O0 M Oi:fF) (w:World) (Mc:fF) (φ:aQ) (e:dg) (h:au) (n:Nat):Prop where
 sub:∀k,(Mc k∨bc φ h k)∨(k=l∨O0 k)->M k
 env:∀t,bY φ w (Or (Or Mc (Bk O0 l Oi w)) (bc φ h)) (e t) (tmps.getD t undef)
 heap:m8 φ n w (Or Mc (Bk O0 l Oi w)) h
 ok:B.ok0 (e GH) Mc (Bk O0 l Oi w) φ w h
 marks:pI B.lo (Or Mc (Bk O0 l Oi w)) ds w
 obase:¬Oi l
 size:base<=w.heap.size
 lrec:w.heap[l]? =some (.loop rc)
 ln:¬Mc l
def Mx {P:Program} (B:jM P) (l base:Nat) (ds:List Deferred) (tmps:Array Value) (rc:Loop) (O0:fF) (K:dg->au->Nat->Prop) (M Oi:fF) (w:World):Prop:=
 ∃Mc φ e h n,MB B l base ds tmps rc O0 M Oi w Mc φ e h n∧K e h n

section
variable {P:Program} {B:jM P} {l base:Nat} {ds:List Deferred} {tmps:Array Value} {rc:Loop} {O0:fF} {K:dg->au->Nat->Prop} {M Oi:fF} {w w':World}
theorem zhL {Oi':fF} (hl:l<base) (hb:Mx B l base ds tmps rc O0 K M Oi w) (hfr:Fr w Oi w') (hO:∀k,Oi' k->Oi k∨w.heap.size<=k):Mx B l base ds tmps rc O0 K M Oi' w':=by
 obtain ⟨Mc,φ,e,h,n,⟨h1,h2,h3,h4,h5,h6,h7,h8,h9⟩,hK⟩:=hb;have hsz:=hfr.size;have hsub:∀k,Bk O0 l Oi' w' k->Bk O0 l Oi w k∨w.heap.size<=k:=by
  grind [Bk]
 have hfr':Fr w (Bk O0 l Oi w) w':=⟨hfr.os,hfr.tape,hfr.output,hfr.drawn,hfr.size,λ k hk hn=>hfr.block k hk λ ho=>hn (.inr ⟨ho,hk⟩)⟩
 have g:rL (Or Mc (Bk O0 l Oi w)) w (Or Mc (Bk O0 l Oi' w')) w':=by
  refine ⟨hsz,λ k hk hn=>hfr'.block k hk λ h=>hn (.inr h),λ k hk=>hk.elim (λ h=> .inl (.inl h)) λ h=>(hsub k h).imp .inr id,λ k hk=> ?_⟩;rcases hk with hk|hk
  ·exact Nat.lt_of_lt_of_le (h3.m0 k (.inl hk)) hsz
  ·rcases hk with (hk|rfl)|⟨_,hk⟩
   ·exact Nat.lt_of_lt_of_le (h3.m0 k (.inr (.inl (.inl hk)))) hsz
   all_goals omega
 refine ⟨Mc,φ,e,h,n,⟨h1,λ t=>g.rel (h2 t),g.hrel h3,B.oth0 h4 hfr' hsub,h5.grow g,λ hk=>(hO l hk).elim h6 (λ h=>by omega),ge, ?_,h9⟩,hK⟩;rw [hfr.block l ge h6];exact h8
theorem Mx.nc (hl:l<base) (hlo:B.lo<=base) (hd:∀d ∈ ds,∃D,d={ target:= .collected D,args:= #[]}∧D<base) (hb:Mx B l base ds tmps rc O0 K M Oi w) (hn:NC base w w'):Mx B l base ds tmps rc O0 K M Oi w':=by
 obtain ⟨Mc,φ,e,h,n,⟨h1,h2,h3,h4,h5,h6,h7,h8,h9⟩,hK⟩:=hb;have ho:Bk O0 l Oi w'=Bk O0 l Oi w:=by unfold Bk;rw [hn.size]
 refine ⟨Mc,φ,e,h,n,⟨h1,λ t=> ?_, ?_, ?_, ?_,h6,by rw [hn.size];exact h7,(hn.low l hl).trans h8,h9⟩,hK⟩
 ·rw [ho];exact (h2 t).nc hn
 ·rw [ho];exact h3.nc hn
 ·rw [ho];exact B.nc0 h4 (hn.mono hlo)
 ·rw [ho];refine ⟨h5.1,λ d hdm=> ?_⟩;obtain ⟨D,e1,e2,e3,e4⟩:=h5.2 d hdm;obtain ⟨D',k1,k2⟩:=hd d hdm;have:D=D':=by rw [e1] at k1;simpa using k1
  subst this;exact ⟨D,e1,e2,e3,(hn.low D k2).trans e4⟩
theorem zhK (hb:Mx B l base ds tmps rc O0 (EO B.n0 K) M Oi w):Mx B l base ds tmps rc O0 K M Oi w:=by
 obtain ⟨Mc,φ,e,h,n,hB,hK|⟨E,HH,n',hk,hn,hK⟩⟩:=hb
 ·grind [Mx]
 ·obtain ⟨φ',g1,g2,g3,g4⟩:=hk.sound hB.heap hB.env;refine ⟨Mc,φ', _, _,n',⟨λ k hk=>hB.sub k (hk.imp (λ h=>h.imp id (g3 k)) id),g2,g1,B.forget0 hB.ok ?_ g3 g4 hn,hB.marks,hB.obase,hB.size,hB.lrec,hB.ln⟩,hK⟩;rcases LZ (E:=E) GH with h5|h5
  ·grind
  ·have h6:=(hk.env _ h5).1;generalize Fb E GH=y at h6;rcases B.isG0 hB.ok with h7|⟨x,h7⟩
   ·rw [h7] at h6 ⊢;cases h6<;>simp
   ·rw [h7] at h6 ⊢;cases h6<;>simp
end

def RB {P:Program} (B:jM P) (l:Nat) (rc:Loop) (w2:World) (E1 Oc:fF) (φ2:aQ) (e2:dg) (M2:fF) (tmps:Array Value) (n2:Nat) (hl:l<w2.heap.size) (hlo:B.lo<=w2.heap.size) (hn0:B.n0<=n2)
  (hfresh:∀o,n2<=o->φ2 o=none) (henv:∀t,bY φ2 w2 M2 (e2 t) (tmps.getD t undef)):jM P where
 n0:=n2
 lo:=w2.heap.size
 round:=some l
 ok0 g M O φ w h:=∃Mc,M=Or Mc Oc∧B.ok0 g Mc (Or Oc O) φ w h∧(∀t,bY φ w (Or (Or M O) (bc φ h)) (e2 t) (tmps.getD t undef))∧(∀o x,φ2 o=some x->∃x',φ o=some x')∧
  w2.heap.size<=w.heap.size∧(∀k,k<w2.heap.size->¬E1 k->w.heap[k]? =w2.heap[k]?)∧(∀k,Mc k->E1 k∨w2.heap.size<=k)∧(∀k,bc φ h k->E1 k∨w2.heap.size<=k)∧(∀k,O k->k≠l∧(E1 k∨w2.heap.size<=k))∧
  ¬Mc l∧¬bc φ h l∧w.heap[l]? =some (.loop rc)
 isG0:=by
  rintro g M O φ w h ⟨Mc, _,h1, _⟩;exact B.isG0 h1
 step0:=by
  rintro g M O φ w h φ' w' h' ⟨Mc,rfl,h1,h2,h3,h4,h5,h6,h7,h8,h9,h10,h11⟩ st;have hsz:=st.fr.size;have hlw:l<w.heap.size:=ge;refine ⟨Mc,rfl,B.step0 h1 st.anyM,λ t=>(st.anyM (M':=Or (Or Mc Oc) O)).rel (h2 t),λ o x ho=> ?_,ge,λ k hk hn=>(st.fr.block k ge λ hm=>(h7 k hm).elim hn (λ h=>by omega)).trans (h5 k hk hn),h6,
   λ k hk=>(st.mutd k hk).elim (h7 k) (λ h=> .inr ge),h8,h9,λ hk=>(st.mutd l hk).elim h10 (λ h=>by omega),(st.fr.block l hlw h10).trans h11⟩
  obtain ⟨x',hx'⟩:=h3 o x ho;obtain ⟨x'',hx'', _⟩:=st.le o x' hx';grind
 forget0:=by
  rintro g g' M O φ w h φ' h' n' ⟨Mc,rfl,h1,h2,h3,h4,h5,h6,h7,h8,h9,h10,h11⟩ hg hm hφ hn;refine ⟨Mc,rfl,B.forget0 h1 hg hm hφ (Nat.le_trans hn0 hn),λ t=> ?_,λ o x ho=> ?_,h4,h5,h6,λ k hk=>h7 k (hm k hk),h8,h9,λ hk=>h10 (hm l hk),h11⟩
  ·refine ((h2 t).cut2 (φ:=φ2) (φ'':=φ') (w:=w2) (M:=M2) (λ o x ho=> ?_) (henv t)).lessM λ k hk=>hk.imp id (hm k);grind
  grind
 yld0:=by
  rintro r m l' more xs rest M O φ w h n vs ⟨Mc,rfl,h1,h2,h3,h4,h5,h6,h7,h8,h9,h10,h11⟩ hH hr;have hH':m8 φ n w (Or Mc (Or Oc O)) h:=by grind [DB]
  obtain ⟨fn,tm,asg,body,k1,k2⟩:=B.yld0 (r:=r) (m:=m) h1 hH' (by rw [<- DB];exact hr);refine ⟨fn,tm,asg,body,k1,k2.mono ?_⟩;rintro e w' ⟨b,M',e1,g,hk⟩;have hsz:=g.size;have hlw:l<w.heap.size:=ge;have gO:rL (Or Mc Oc) w (Or M' Oc) w':=g.add λ k hk=>hH.m0 k (.inl (.inr hk));have gOO:rL (Or (Or Mc Oc) O) w (Or (Or M' Oc) O) w':=gO.add λ k hk=>hH.m0 k (.inr hk);exact ⟨b,Or M' Oc,e1,gO,M',rfl,hk,λ t=>gOO.rel (h2 t),h3,ge,λ k hk hn=>(g.keep k ge λ hm=>(h6 k hm).elim hn (λ h=>by omega)).trans (h5 k hk hn),
   λ k hk=>(g.new k hk).elim (h6 k) (λ h=> .inr ge),h7,h8,λ hk=>(g.new l hk).elim h9 (λ h=>by omega),h10,(g.keep l hlw h9).trans h11⟩
 exh0:=by
  rintro l' M O φ w h ⟨Mc, _,h1, _⟩;exact B.exh0 h1
 oth0:=by
  rintro g M O O' φ w w' h ⟨Mc,rfl,h1,h2,h3,h4,h5,h6,h7,h8,h9,h10,h11⟩ hfr hO;have hsz:=hfr.size;refine ⟨Mc,rfl,B.oth0 h1 (hfr.more λ k hk=> .inr hk) (λ k hk=>hk.elim (λ h=> .inl (.inl h)) λ h=>(hO k h).imp .inr id),λ t=> ?_,h3,ge,
   λ k hk hn=>(hfr.block k ge λ ho=>(h8 k ho).2.elim hn (λ h=>by omega)).trans (h5 k hk hn),h6,h7,λ k hk=>(hO k hk).elim (h8 k) (λ h=>⟨ge, .inr ge⟩),h9,h10,
   (hfr.block l ge λ ho=>(h8 l ho).1 rfl).trans h11⟩
  refine (h2 t).keep φ.le_refl (λ k hn hk=>hfr.block k hk λ ho=>hn (.inl (.inr ho))) λ k hk=> ?_;grind [Or]
 nc0:=by
  rintro g M O φ w w' h ⟨Mc,rfl,h1,h2,h3,h4,h5,h6,h7,h8,h9,h10,h11⟩ hn;exact ⟨Mc,rfl,B.nc0 h1 (hn.mono hlo),λ t=>(h2 t).nc hn,h3,by rw [hn.size];exact h4,λ k hk hne=>(hn.low k hk).trans (h5 k hk hne),h6,h7,h8,h9,h10,(hn.low l hl).trans h11⟩
 give0:=by
  rintro g M O O' φ w h h' ⟨Mc,rfl,h1,h2,h3,h4,h5,h6,h7,h8,h9,h10,h11⟩ hO hm;refine ⟨Mc,rfl,B.give0 h1 (λ k hk=>hk.elim (λ h=> .inl (.inl h)) λ h=>(hO k h).imp .inr id) hm,λ t=>(h2 t).lessM λ k hk=> ?_,h3,h4,h5,h6,λ k hk=>h7 k (hm k hk),
   λ k hk=>(hO k hk).elim (h8 k) (λ h=>⟨λ e=>h10 (e▸h),h7 k h⟩),h9,λ hk=>h10 (hm l hk),h11⟩
  grind [Or]
 lo0:=by
  omega
 rec0:=by
  grind

theorem yh {M:fF}{w:World}{l:Nat} (o:Obj) (hl:M l) (hM:∀k,M k->k<w.heap.size):rL M w M (w.putObj l o):=
 ⟨gt,λ k _ hn=>World.putObj_heap_other (λ e=>hn (e▸hl)),λ k hk=> .inl hk,λ k hk=>WW⟩
theorem Dm {O:fF}{w:World}{l:Nat} (o:Obj) (hl:O l):Fr w O (w.putObj l o):=
 ⟨rfl,rfl,rfl,Nat.le_refl _,gt,λ k _ hn=>World.putObj_heap_other (λ e=>hn (e▸hl))⟩

theorem KE {φ:aQ}{w:World}{M:fF}:∀ {ps:List Tmp}{xs:List AV}{vs:List Value}{e:dg}{tm:Array Value},aU φ w M xs vs->(∀p ∈ ps,p<tm.size)->(∀t,bY φ w M (e t) (tm.getD t undef))->
  ∀t,bY φ w M (rC ps xs e t) (((ps.zip vs).foldl (λ tm p=>tm.setIfInBounds p.1 p.2) tm).getD t undef)
 | [], _, _, _, _, _, _,he=>by simp_all [rC]
 |p::ps, _, _, _, _, .nil, _,he=>by simp_all [rC]
 |p::ps,x::xs,v::vs,e,tm, .cons h1 h2,hp,he=>by
  simp only [rC,List.zip_cons_cons,List.foldl_cons];refine KE h2 (λ q hq=>by grind) λ t=> ?_;simp only [aC];by_cases ht:t=p
  ·subst ht;simp_all
  simp_all [Ne.symm]
theorem Pq {k:Nat}:∀ {ps:List Tmp}{xs:List AV}{e:dg},(∀p ∈ ps,p≠k)->rC ps xs e k=e k
 | [], _, _, _=>by simp [rC]
 |p::ps, [], _, _=>by simp [rC]
 |p::ps,x::xs,e,hp=>by
  simp only [rC];rw [Pq λ q hq=>hp q Yq];exact ja _ _ (Ne.symm (hp p gt))
theorem JU:∀ {l:List (Tmp×Value)}{tm:Array Value},(l.foldl (λ tm p=>tm.setIfInBounds p.1 p.2) tm).size=tm.size
 | [], _=>rfl
 |p::l,tm=>by rw [List.foldl_cons,JU];simp

variable {a:Act} {N n:Nat}
section
variable {P:Program} {B:jM P} {l:Nat} {rc rc':Loop} {w2:World} {E1 Oc:fF} {φ2:aQ} {e2:dg} {M2:fF} {tmps:Array Value} {n2:Nat} {hl:l<w2.heap.size} {hlo:B.lo<=w2.heap.size} {hn0:B.n0<=n2}
  {hfresh:∀o,n2<=o->φ2 o=none} {henv:∀t,bY φ2 w2 M2 (e2 t) (tmps.getD t undef)}
theorem RB.turn {M:fF}{φ:aQ}{e:dg}{h:au}{w:World} (hOl:Oc l) (hs:SR (RB B l rc w2 E1 Oc φ2 e2 M2 tmps n2 hl hlo hn0 hfresh henv) N M φ e h n a w) (hE:E1 l):
  w.heap[l]? =some (.loop rc)∧SR (RB B l rc' w2 E1 Oc φ2 e2 M2 tmps n2 hl hlo hn0 hfresh henv) N M φ e h n a (w.putObj l (.loop rc')):=by
 obtain ⟨M',O,rfl,Mc,rfl,h1,h2,h3,h4,h5,h6,h7,h8,h9,h10,h11⟩:=hs.ok;have hlw:=(Array.getElem?_eq_some_iff.1 h11).1;have g:rL (Or (Or Mc Oc) O) w (Or (Or Mc Oc) O) (w.putObj l (.loop rc')):=yh _ (.inl (.inr hOl)) hs.heap.m0;refine ⟨h11,λ t=>g.rel (hs.env t),hs.size,⟨hs.defs.1,λ d hd=> ?_⟩,g.hrel hs.heap,
  ⟨_,O,rfl,Mc,rfl,B.oth0 h1 (Dm _ (.inl hOl)) (λ k hk=> .inl hk),λ t=>g.rel (h2 t),h3,WW,λ k hk hn=>(World.putObj_heap_other (λ e=>hn pi)).trans (h5 k hk hn),h6,h7,h8,h9,h10,World.putObj_heap_same hlw⟩,hs.small⟩
 obtain ⟨D,k1,k2,k3,k4⟩:=hs.defs.2 d hd;exact ⟨D,k1,k2,k3,(World.putObj_heap_other (λ e=>k3 pi)).trans k4⟩
end

theorem PB {P:Program}{B:jM P}{l base:Nat}{ds:List Deferred}{tmps:Array Value}{rc:Loop}{O0 M Oi:fF}{w2:World}{Mc:fF}{φ2:aQ}{e2:dg}{h2:au}{n2:Nat}
  (hB:MB B l base ds tmps rc O0 M Oi w2 Mc φ2 e2 h2 n2) (hl:l<w2.heap.size) (hlo:B.lo<=w2.heap.size) (hn0:B.n0<=n2) (hO:∀k,Oi k->k<w2.heap.size)  (hsz:tmps.size=N) (hN:N<=GH)
  {ps:List Tmp} (hps:∀p ∈ ps,p<N) {xs:List AV} {vs:List Value} (hr:aU rT w2 (Or M Oi) xs vs):
  SR (RB B l rc w2 (λ k=>(Mc k∨bc φ2 h2 k)∨k=l) (Bk O0 l Oi w2) φ2 e2 (Or (Or Mc (Bk O0 l Oi w2)) (bc φ2 h2)) tmps n2 hl hlo hn0 hB.heap.fresh hB.env) N (Or Mc (Bk O0 l Oi w2)) φ2 (rC ps xs e2) h2 n2
   { tmps:=(ps.zip vs).foldl (λ tm p=>tm.setIfInBounds p.1 p.2) tmps,defers:= []} w2:=by
 have hGH:rC ps xs e2 GH=e2 GH:=Pq λ p hp=>Nat.ne_of_lt (Nat.lt_of_lt_of_le (hps p hp) hN);have hxs:aU φ2 w2 (Or (Or Mc (Bk O0 l Oi w2)) (bc φ2 h2)) xs vs:=by
  refine hr.keep (λ o x ho=>by cases ho) (λ _ _ _=>rfl) λ k hk=> .inl ?_;rcases hk with (hk|(hk|hk)|hk)|hk
  ·exact .inl (hB.sub k (.inl (.inl hk)))
  ·exact .inl (hB.sub k (.inr (.inr hk)))
  ·exact .inl (hB.sub k (.inr (.inl hk)))
  ·exact .inr hk.1
  ·exact .inl (hB.sub k (.inl (.inr hk)))
 refine ⟨KE hxs (λ p hp=>by grind) hB.env,by grind [JU],pI.nil,hB.heap, ?_,hN⟩;refine ⟨_,λ _=>False,(oC _).symm,Mc,rfl, ?_,λ t=> ?_,λ o x ho=>⟨x,ho⟩,Nat.le_refl _,λ _ _ _=>rfl,λ k hk=> .inl (.inl (.inl hk)),λ k hk=> .inl (.inl (.inr hk)),λ _ h=>h.elim,hB.ln, ?_,hB.lrec⟩
 ·rw [hGH,oC];exact hB.ok
 ·rw [oC];exact hB.env t
 ·intro hm;obtain ⟨_,⟨C,T,fz,hc⟩|⟨es,clk,hc⟩⟩:=hB.heap.mut_cells hm<;>(grind [Or,Bk])

theorem DJ {P:Program}{B:jM P}{l base:Nat}{ds:List Deferred}{tmps:Array Value}{rc rb rc':Loop}{O0 M Oi:fF}{w2:World}{Mc:fF}{φ2:aQ}{e2:dg}{h2:au}{n2:Nat}
  (hB:MB B l base ds tmps rc O0 M Oi w2 Mc φ2 e2 h2 n2) {hl:l<w2.heap.size} {hlo:B.lo<=w2.heap.size} {hn0:B.n0<=n2} (hO:∀k,Oi k->k<w2.heap.size)  (hsz:tmps.size=N)
  {M4:fF} {φ4:aQ} {e4:dg} {h4:au} {n4:Nat} {a4:Act} {w4:World}
  (hs:SR (RB B l rb w2 (λ k=>(Mc k∨bc φ2 h2 k)∨k=l) (Bk O0 l Oi w2) φ2 e2 (Or (Or Mc (Bk O0 l Oi w2)) (bc φ2 h2)) tmps n2 hl hlo hn0 hB.heap.fresh hB.env) N M4 φ4 e4 h4 n4 a4 w4):
  w4.heap[l]? =some (.loop rb)∧∃M' Mc4,rL M w2 M' (w4.putObj l (.loop rc'))∧MB B l base ds tmps rc' O0 M' Oi (w4.putObj l (.loop rc')) Mc4 φ4 (aC e2 GH (e4 GH)) h4 n4:=by
 obtain ⟨h0,hs⟩:=RB.turn (rc':=rc') (.inl (.inr rfl)) hs (.inr rfl);refine ⟨h0, ?_⟩;generalize w4.putObj l (.loop rc')=w5 at hs ⊢;obtain ⟨M5,O,rfl,Mc4,rfl,k1,k2,k3,k4,k5,k6,k7,k8,k9,k10,k11⟩:=hs.ok;have hOc:Bk O0 l Oi w5=Bk O0 l Oi w2:=funext λ k=>propext ⟨λ h=>h.imp id λ h=>⟨h.1,hO k h.1⟩,λ h=>h.imp id λ h=>⟨h.1,ge⟩⟩;have hsub:∀k,Or Mc4 (Bk O0 l Oi w2) k->Or (Or Mc4 (Bk O0 l Oi w2)) O k:=λ k hk=> .inl hk;refine ⟨λ k=>(Mc4 k∨bc φ4 h4 k)∨(k=l∨O0 k),Mc4,⟨k4,λ k hk hn=>k5 k hk λ h=>hn (hB.sub k ?_),λ k hk=> ?_,λ k hk=> ?_⟩,⟨λ k hk=>hk,λ t=> ?_, ?_, ?_,⟨hB.marks.1,λ d hd=> ?_⟩,hB.obase,by have:=hB.size;omega,k11,k9⟩⟩
 ·grind
 ·have hE:∀k,(Mc k∨bc φ2 h2 k)∨k=l->M k:=λ k hk=>hB.sub k (hk.imp id .inl);rcases hk with (hk|hk)|(hk|hk)
  ·grind
  ·grind
  ·grind
  ·exact .inl (hB.sub k (.inr (.inr hk)))
 ·rcases hk with (hk|hk)|(hk|hk)
  ·exact hs.heap.m0 k (.inl (.inl hk))
  ·exact hs.heap.blk (.inr hk)
  ·grind
  ·exact hs.heap.m0 k (.inl (.inr (.inl (.inl hk))))
 ·rw [hOc];by_cases ht:t=GH
  ·subst ht;have hu:tmps.getD GH undef=undef:=by
    rw [Array.getD_eq_getD_getElem?,Array.getElem?_eq_none (by have:=hs.small;omega)];rfl
   rw [hu];rcases B.isG0 k1 with h|⟨x,h⟩<;>rw [h]
   ·exact .top _
   ·exact .gd (λ h=>by cases h) (λ _=>rfl)
  ·rw [ja _ _ ht];exact (k2 t).lessM λ k hk=>hk.imp (hsub k) id
 ·rw [hOc];exact hs.heap.lessM hsub
 ·rw [hOc,cZ];exact B.oth0 k1 (Fr.refl _ _) λ k hk=> .inl (.inl hk)
 ·rw [hOc];obtain ⟨D,q1,q2,q3,q4⟩:=hB.marks.2 d hd;have hD:=(Array.getElem?_eq_some_iff.1 q4).1;have hDE:¬((Mc D∨bc φ2 h2 D)∨D=l):=by
   rintro ((h|h)|h)
   ·exact q3 (.inl h)
   ·obtain ⟨_,⟨C,T,fz,hc⟩|⟨es,clk,hc⟩⟩:=hB.heap.mut_cells h<;>(grind)
   ·exact q3 (.inr (.inl (.inr h)))
  exact ⟨D,q1,q2,λ h=>h.elim (λ h=>(k6 D h).elim hDE (λ h=>by omega)) λ h=>q3 (.inr h),(k5 D hD hDE).trans q4⟩

abbrev yv (fn:FuncId) (tmps:Array Value) (ps:Array Tmp) (assign body:Code) (D:Nat) (st:LoopState) (pe:Option Code):Loop:=
 { state:=st,pending:=pe,fn,tmps,params:=ps,assign,body,defers:=D}
theorem BZ {U:fF}{w:World} (o:Obj):Fr w U (w.alloc o):=
 ⟨rfl,rfl,rfl,Nat.le_refl _,gt,λ k hk _=>by show (w.heap.push o)[k]? = _;grind⟩
theorem Fr.trans' {U:fF}{w w' w'':World} (a:Fr w U w') (b:Fr w' U w''):Fr w U w'':=
 ⟨b.os.trans a.os,b.tape.trans a.tape,b.output.trans a.output,Nat.le_trans a.drawn b.drawn,Nat.le_trans a.size b.size,λ k hk hn=>(b.block k (Nat.lt_of_lt_of_le hk a.size) hn).trans (a.block k hk hn)⟩
theorem Ob {P:Program}{w:World} (fn:FuncId) (tmps:Array Value) (ps:Array Tmp) (assign body:Code){ro:Option Nat} (hro:∀l,ro=some l->∃r:Loop,w.heap[l]? =some (.loop r)):
  ∃ (l:Nat) (mark:List Deferred) (D:Nat) (w1:World),(Instr.enterLoop fn tmps ps assign body ro).run P w= .ok (l,mark) w1∧w.heap.size<=l∧l<w1.heap.size∧
   w1.heap[l]? =some (.loop (yv fn tmps ps assign body D .ready none))∧Fr w (λ _=>False) w1∧
   (mark= []∨∃D',mark= [{ target:= .collected D',args:= #[]}]∧w.heap.size<=D'∧D'≠l∧w1.heap[D']? =some (.deferred (some []))):=by
 cases ro with
 |none=>
  refine ⟨_, _,w.heap.size, _,run_enterLoop_outer fn tmps ps assign body,ge,gt, ?_,(BZ _).trans' (BZ _), .inr ⟨_,rfl,Nat.le_refl _,ge, ?_⟩⟩
  ·grind [World.alloc_heap_new,World.size_alloc]
  ·exact ((BZ (U:=λ _=>False) (w:=w.alloc (.deferred (some []))) _).block w.heap.size gt id).trans (World.alloc_heap_new w _)
 |some l0=>
  obtain ⟨r0,h0⟩:=hro l0 rfl;exact ⟨_, _,r0.defers, _,run_enterLoop_inner h0 fn tmps ps assign body,Nat.le_refl _,gt,World.alloc_heap_new w _,BZ _, .inl rfl⟩

def SeqK (P:Program) (f:FuncId) (cvs:List Value) (l more:Nat) (rows:List (List AV)) (w:World) (M0 Oi:fF):Prop:=
 ∀ (J:List (List AV)->fF->fF->World->Prop) (Jx:fF->fF->World->Prop),
  (∀rs M O O' w1 w2,J rs M O w1->Fr w1 O w2->(∀k,O' k->O k∨w1.heap.size<=k)->J rs M O' w2)->
  (∀M O O' w1 w2,Jx M O w1->Fr w1 O w2->(∀k,O' k->O k∨w1.heap.size<=k)->Jx M O' w2)->
  (∀rs M O w1 w2,J rs M O w1->NC w.heap.size w1 w2->J rs M O w2)->(∀M O w1 w2,Jx M O w1->NC w.heap.size w1 w2->Jx M O w2)->
  (∀ (r:Option Nat) (m:Nat) xs rest M O w1 vs,J (xs::rest) M O w1->(∀k,O k->k<w1.heap.size)->aU rT w1 (Or M O) xs vs->
   ∃fn tmps assign body,(Instr.yield l ⟨vs⟩).run P w1= .ok (.round l fn tmps assign body) w1∧RoundIn (WF r) m P l fn tmps assign body w1 λ e w'=>
    ∃b M',e= .returned (.bool b)∧rL M w1 M' w'∧if b then J rest M' O w' else Jx M' O w')->
  (more=1->∀M O w1,¬J [] M O w1)->
  J rows M0 Oi w->
  Calls P f ⟨.func (.yield l) #[] #[]::cvs⟩ w λ e w'=>(∃v,e= .returned v)∧∃M' O',(∀k,O' k->k<w'.heap.size)∧((more=0∧J [] M' O' w')∨Jx M' O' w')
variable {assign body:Code} {ps:Array Tmp} {g:Operand}
theorem HU {P:Program}{B:jM P}{m:Nat}{Q:c7}
  (ha:∀ {B':jM P} {m:Nat} {Q:c7} {M:fF} {φ:aQ} {e:dg} {h:au} {n:Nat} {a:Act} {w:World},SR B' N M φ e h n a w->iG P B'.n0 assign Q e h n->assign.wpIn (WF B'.round) m P (SQ B' N Q) a w)
  (hb:∀ {B':jM P} {m:Nat} {Q:c7} {M:fF} {φ:aQ} {e:dg} {h:au} {n:Nat} {a:Act} {w:World},SR B' N M φ e h n a w->iG P B'.n0 body Q e h n->body.wpIn (WF B'.round) m P (SQ B' N Q) a w)
  (hps:∀p ∈ ps.toList,p<N) {Mc O0 Oi0:fF} {φ:aQ} {e:dg} {h:au}   {w:World} {f:FuncId} {cs:List Value} {more:Nat} {rows:List (List AV)} (hs:SR B N (Or Mc (Or O0 Oi0)) φ e h n a w)
  (hok:B.ok0 (e GH) Mc (Or O0 Oi0) φ w h) (hval:a.eval g= .func (.func f) ⟨[]⟩ ⟨cs⟩) (hent:kH P f) (hlen:∀xs ∈ rows,xs.length=ps.size)
  (hR:EO B.n0 (ic B.n0 more ps.toList (λ n1=>iG P n1 assign) (λ n1=>iG P n1 body) Q rows) e h n)
  (hseq:∀ (l:Nat) (w1:World),Fr w (λ _=>False) w1->w.heap.size<=l->l<w1.heap.size->SeqK P f cs l more rows w1 (λ k=>(Mc k∨bc φ h k)∨(k=l∨O0 k)) Oi0):
  (Code.rangeFunc g ps assign body).wpIn (WF B.round) m P (SQ B N Q) a w:=by
 refine wpIn_rangeFunc λ fn _=> ?_;obtain ⟨l,mark,D,w1,hent1,hl1,hl2,hrec,hfr1,hmark⟩:=Ob (P:=P) fn a.tmps ps assign body (λ l hl=>B.rec0 hok hl);have hlo:=B.lo0 hok;have hsz1:=hfr1.size;have hOc:∀k,Bk O0 l Oi0 w1 k->Or O0 Oi0 k∨k=l:=λ k hk=>hk.elim (λ h=>h.imp .inl id) λ h=> .inl (.inr h.1);have g1:rL (Or Mc (Or O0 Oi0)) w (Or Mc (Bk O0 l Oi0 w1)) w1:=by
  refine ⟨hsz1,λ k hk _=>hfr1.block k hk id,λ k hk=> ?_,λ k hk=> ?_⟩
  ·grind [Or]
  ·rcases hk with hk|hk
   ·exact Nat.lt_of_lt_of_le (hs.heap.m0 k (.inl hk)) hsz1
   ·exact (hOc k hk).elim (λ hk=>Nat.lt_of_lt_of_le (hs.heap.m0 k (.inr hk)) hsz1) (λ h=>by omega)
 have hm1:pI B.lo (Or Mc (Bk O0 l Oi0 w1)) (mark++a.defers) w1:=by
  have h0:=hs.defs.grow g1;rcases hmark with rfl|⟨D',rfl,d1,d2,d3⟩
  ·exact h0
  ·refine ⟨List.pairwise_cons.2 ⟨λ d hd=> ?_,h0.1⟩,λ d hd=> ?_⟩
   ·obtain ⟨D2,q1, _, _,q4⟩:=hs.defs.2 d hd;grind
   ·rcases List.mem_cons.1 hd with rfl|hd
    ·refine ⟨D',rfl,ge,λ hk=> ?_,d3⟩;rcases hk with hk|hk
     ·have:=hs.heap.m0 D' (.inl hk);omega
     ·rcases hOc D' hk with hk|hk
      ·have:=hs.heap.m0 D' (.inr hk);omega
      grind
    ·exact h0.2 d hd
 have hdl:∀d ∈ mark++a.defers,∃D,d={ target:= .collected D,args:= #[]}∧D<w1.heap.size:=λ d hd=>by
  obtain ⟨D,q1, _, _,q4⟩:=hm1.2 d hd;grind
 have hB1:MB B l w1.heap.size (mark++a.defers) a.tmps (yv fn a.tmps ps assign body D .ready none) O0 (λ k=>(Mc k∨bc φ h k)∨(k=l∨O0 k)) Oi0 w1 Mc φ e h n:=
  ⟨λ _ hk=>hk,λ t=>g1.rel (hs.env t),g1.hrel hs.heap,B.oth0 hok (hfr1.more λ _ h=>h.elim) (λ k hk=>(hOc k hk).imp id (λ h=>by omega)),hm1,λ hk=>by have:=hs.heap.m0 l (.inr (.inr hk));omega,Nat.le_refl _,hrec,
   λ hk=>by have:=hs.heap.m0 l (.inl hk);omega⟩
 have eargs:(#[.func (.yield l) #[] #[]]++⟨cs⟩:Array Value)=⟨.func (.yield l) #[] #[]::cs⟩:=pi;refine ⟨l,mark,w1,{ target:= .fn (.func f) ⟨cs⟩,args:= #[.func (.yield l) #[] #[]]},w1,f, #[.func (.yield l) #[] #[]]++⟨cs⟩,w1,hent1, ?_,λ _ _=>trivial, ?_,λ h=>by simp [WF,Fence.wide] at h, ?_⟩
 ·simp only [resolve,hval];simp [go_sem]
 ·grind [invoke,kH]
 rw [eargs];refine Au ((hseq l w1 hfr1 hl1 hl2
  (λ rs M O w'=>Mx B l w1.heap.size (mark++a.defers) a.tmps (yv fn a.tmps ps assign body D .ready none) O0
   (λ e h n=>(∀xs ∈ rs,xs.length=ps.size)∧ic B.n0 more ps.toList (λ n1=>iG P n1 assign) (λ n1=>iG P n1 body) Q rs e h n) M O w')
  (λ M O w'=>∃c x,(c=Code.ret∧x=Exit.ret∨∃id,c=Code.exit id∧x=Exit.exit id)∧
   Mx B l w1.heap.size (mark++a.defers) a.tmps (yv fn a.tmps ps assign body D .done (some c)) O0 (λ e h n=>Q x e h n) M O w')
  (λ rs M O O' w2 w3 hJ hfr hO=>zhL hl2 hJ hfr hO) (λ M O O' w2 w3 hJ hfr hO=> ?_) (λ rs M O w2 w3 hJ hn=>Mx.nc hl2 ge hdl hJ hn) (λ M O w2 w3 hJ hn=> ?_) ?_ ?_
  (zhK ⟨Mc,φ,e,h,n,hB1,EO.mono (λ e h n hk=>⟨hlen,hk⟩) hR⟩)).mono ?_)
 ·grind [zhL]
 ·grind [Mx.nc]
 · --
  intro r m' xs rest M O w2 vs hJ hO hr;obtain ⟨Mc2,φ2,e2,h2',n2,hB2,hlens,hn0,hA⟩:=hJ;have hsz2:=hB2.size;have hvl:vs.length=ps.size:=by rw [<- hlens xs gt];exact hr.length.symm
  refine ⟨fn, _,assign,body,run_yield hB2.lrec pi,roundIn_of_wpIn trivial ?_⟩;have hst:=PB hB2 ge ge hn0 hO hs.size hs.small hps hr;have hw:=ha (m:=m') hst hA;have htm:((ps.zip ⟨vs⟩).foldl (λ tmps (t,a)=>tmps.setIfInBounds t a) a.tmps)=(ps.toList.zip vs).foldl (λ tm p=>tm.setIfInBounds p.1 p.2) a.tmps:=by
   grind [Array.toList_zip]
  simp only [htm];refine wpIn_mono hw ?_;rintro x a3 w3 ⟨M3,φ3,e3,h3',n3,hs3,hq3⟩;cases x with
  |normal=>
   obtain ⟨hl3,hs3'⟩:=RB.turn (rc':=yv fn a.tmps ps assign body D .busy none) (.inl (.inr rfl)) hs3 (.inr rfl);refine ⟨_,run_beginRound hl3 rfl,wpIn_mono (hb hs3' hq3) ?_⟩;rintro x a4 w4 ⟨M4,φ4,e4,h4',n4,hs4,hq4⟩;cases x with
   |normal=>
    obtain ⟨hl4,M',Mc4,hg,hB4⟩:=DJ (rc':=yv fn a.tmps ps assign body D .ready none) hB2 hO hs.size hs4;exact ⟨_, _,run_endRound none hl4,true,M',rfl,hg,zhK ⟨Mc4,φ4, _,h4',n4,hB4,EO.mono (λ e h n hk=>⟨λ xs hx=>hlens xs WY,hk⟩) hq4⟩⟩
   |ret=>
    obtain ⟨hl4,M',Mc4,hg,hB4⟩:=DJ (rc':=yv fn a.tmps ps assign body D .done (some .ret)) hB2 hO hs.size hs4;exact ⟨_, _,run_endRound (some .ret) hl4,false,M',rfl,hg, _, _, .inl ⟨rfl,rfl⟩,Mc4,φ4, _,h4',n4,hB4,hq4⟩
   |exit id=>
    obtain ⟨hl4,M',Mc4,hg,hB4⟩:=DJ (rc':=yv fn a.tmps ps assign body D .done (some (.exit id))) hB2 hO hs.size hs4;exact ⟨_, _,run_endRound (some (.exit id)) hl4,false,M',rfl,hg, _, _, .inr ⟨id,rfl,rfl⟩,Mc4,φ4, _,h4',n4,hB4,hq4⟩
   |goto t=>exact hq4.elim
   |panic ch=>exact hq4.elim
   |outgrown=>exact hq4.elim
  | _=>exact hq3.elim
 ·rintro rfl M O w2 ⟨Mc2,φ2,e2,h2',n2,hB2, _,hA, _⟩;cases hA
 · --
  rintro en w3 ⟨⟨v,rfl⟩,M',O',hO',⟨hmore,hJ⟩|⟨c,x,hcx,hJ⟩⟩
  ·obtain ⟨Mc2,φ2,e2,h2',n2,hB2, _, _,hQ⟩:=hJ;refine ⟨none, _,run_endLoop hB2.lrec gt, ?_⟩;have g:=yh (M:=Or Mc2 (Bk O0 l O' w3)) (w:=w3) (l:=l) (.loop { yv fn a.tmps ps assign body D .ready none with state:= .exhausted}) (.inr (.inl (.inr rfl))) hB2.heap.m0;exact ⟨_,φ2,e2,h2',n2,⟨λ t=>g.rel (hB2.env t),hs.size,hB2.marks.grow g,g.hrel hB2.heap,⟨Mc2, _,rfl,B.oth0 hB2.ok (Dm _ (.inl (.inr rfl))) λ k hk=> .inl hk⟩,hs.small⟩,hQ⟩
  ·obtain ⟨Mc2,φ2,e2,h2',n2,hB2,hQ⟩:=hJ;refine ⟨some c, _,run_endLoop hB2.lrec gt, ?_⟩;have g:=yh (M:=Or Mc2 (Bk O0 l O' w3)) (w:=w3) (l:=l) (.loop { yv fn a.tmps ps assign body D .done (some c) with state:= .exhausted}) (.inr (.inl (.inr rfl))) hB2.heap.m0;have hfin:SQ B N Q x { a with defers:=mark++a.defers} (w3.putObj l (.loop { yv fn a.tmps ps assign body D .done (some c) with state:= .exhausted})):=
    ⟨_,φ2,e2,h2',n2,⟨λ t=>g.rel (hB2.env t),hs.size,hB2.marks.grow g,g.hrel hB2.heap,⟨Mc2, _,rfl,B.oth0 hB2.ok (Dm _ (.inl (.inr rfl))) λ k hk=> .inl hk⟩,hs.small⟩,hQ⟩
   grind [wpIn_ret,wpIn_exit]
theorem SR.give {P:Program}{B:jM P}{Mc O0:fF}{φ:aQ}{e:dg}{h:au}{o:Nat}{w:World}{gn sz:Nat}{rs rs':List (List AV)} (hs:SR B N (Or Mc O0) φ e h n a w)
  (hok:B.ok0 (e GH) Mc O0 φ w h) (ho:h o=some (.rows true gn sz rs)) {φ1:aQ} (h0:φ1 0=φ o) {Oi:fF} (hOi:Oi=bc φ1 (fh [(0, .rows true gn sz rs')])):
  SR B N (Or Mc (Or O0 Oi)) φ e (aC h o none) n a w∧B.ok0 (e GH) Mc (Or O0 Oi) φ w (aC h o none)∧(∀k,Oi k->bc φ h k∧¬bc φ (aC h o none) k):=by
 have hsub:∀k,bc φ (aC h o none) k->bc φ h k:=by
  grind [bc,aC]
 have hO1:∀k,Oi k->∃g' a bs,φ o=some (g',some (a,bs))∧a.block=k:=by
  intro k hk;rw [hOi] at hk;obtain ⟨o',g,sz,rs,g',a,bs,h1,h2,rfl⟩:=hk;have e:=uz h1;grind
 have hO2:∀k,Oi k->bc φ h k:=by
  grind [bc]
 have hmut:∀k,Or (Or Mc (Or O0 Oi)) (bc φ (aC h o none)) k->Or (Or Mc O0) (bc φ h) k:=by
  grind [Or]
 have hok':B.ok0 (e GH) Mc (Or O0 Oi) φ w (aC h o none):=B.give0 hok (λ k hk=>hk.imp id (hO2 k)) hsub;have hgn:∀ {g':Nat} {A:Option (Addr×Nat)},φ o=some (g',A)->g'=gn:=by
  obtain ⟨A',hA', _⟩:=hs.heap.obj _ _ _ _ _ ho;grind
 have hfar:∀o' mt g sz rs a bs,aC h o none o'=some (.rows mt g sz rs)->φ o'=some (g,some (a,bs))->¬Oi a.block:=by
  intro o' mt g sz rs a bs h1 h2 hk;obtain ⟨g',a',bs',h3,h4⟩:=hO1 _ hk;have e:o'≠o:=WQ;rw [ja _ _ e] at h1;have:=hgn h3;subst this;exact hs.heap.inj _ _ _ _ _ _ _ _ _ _ _ _ _ _ ho h1 (Ne.symm e) (.inl rfl) h3 h2 h4
 refine ⟨⟨λ t=>(hs.env t).lessM hmut,hs.size,⟨hs.defs.1,λ d hd=> ?_⟩,⟨λ k hk=> ?_,hs.heap.fresh,λ o' mt g sz rs h1=> ?_,λ o1 o2 mt g sz rs mt' g' sz' rs' a a' b b' h1 h2=> ?_,hs.heap.glob.keep (λ _ _ _=>rfl) λ k hk=> .inl (hmut k hk)⟩,⟨Mc,Or O0 Oi,rfl,hok'⟩,hs.small⟩,hok',λ k hk=>⟨hO2 k hk, ?_⟩⟩
 ·obtain ⟨D,h1,h2,h3,h4⟩:=hs.defs.2 d hd;refine ⟨D,h1,h2, ?_,h4⟩;rintro (hk|hk|hk)
  ·grind [Or]
  ·grind [Or]
  ·obtain ⟨_,⟨C,T,fz,hc⟩|⟨es,clk,hc⟩⟩:=hs.heap.mut_cells (hO2 D hk)<;>(grind)
 ·rcases hk with hk|hk|hk
  ·exact hs.heap.m0 k (.inl hk)
  ·exact hs.heap.m0 k (.inr hk)
  ·exact hs.heap.blk (.inr (hO2 k hk))
 ·have e:o'≠o:=by grind [aC]
  have h1':=h1;rw [ja _ _ e] at h1;obtain ⟨A,hA,hc⟩:=hs.heap.obj _ _ _ _ _ h1;refine ⟨A,hA,hc.imp id ?_⟩;rintro ⟨a,bs,e1,e2,e3⟩;subst e1;exact ⟨a,bs,rfl,λ hk=>hk.elim (λ hk=>e2 (.inl hk)) λ hk=>hk.elim (λ hk=>e2 (.inr hk)) (hfar _ _ _ _ _ _ _ h1' hA),e3.keep rfl λ hx=>hx.lessM hmut⟩
 ·have e1:o1≠o:=by grind [aC]
  have e2:o2≠o:=WQ;rw [ja _ _ e1] at h1;rw [ja _ _ e2] at h2;exact hs.heap.inj _ _ _ _ _ _ _ _ _ _ _ _ _ _ h1 h2
 ·rintro ⟨o',g,sz,rs,g',a,bs,h1,h2,rfl⟩;have e:o'≠o:=WQ;have h1':=h1;rw [ja _ _ e] at h1';obtain ⟨A,hA, _⟩:=hs.heap.obj _ _ _ _ _ h1';grind
theorem sK.sound {φ φ1:aQ}{F:Nat->Prop}{w:World}{M:fF}{h h':au}{o:Nat} (hH:br φ F w M h) (hmt:∀o g sz rs,h' o=some (.rows true g sz rs)->h o=some (.rows true g sz rs)) (h0:φ1 0=φ o):
  ∀ {xs ys:List AV} {vs:List Value},sK h h' n o xs ys->aU φ w (Or M (bc φ h)) xs vs->aU φ1 w (Or M (bc φ h')) ys vs:=by
 intro xs ys vs hg;induction hg generalizing vs with
 |nil=>intro hr;cases hr;exact .nil
 |ref t ih=>
  intro hr;cases hr with
  |cons hx ht=>
   refine .cons ?_ (ih ht);cases hx with
   |ref ho hg h=>exact .ref (h0.trans ho) hg h
 |le hx hb t ih=>
  intro hr;cases hr with
  |cons hv ht=>
   have:=jc hH hmt (.cons hx .nil) (λ c hc=>by grind) (.cons hv .nil);cases this with
   |cons h1 _=>exact .cons (h1.keep (λ o x ho=>by cases ho) (λ _ _ _=>rfl) (λ k hk=> .inl hk)) (ih ht)
theorem Fh {P:Program}{B:jM P}{m:Nat}{Q:c7}
  (ha:∀ {B':jM P} {m:Nat} {Q:c7} {M:fF} {φ:aQ} {e:dg} {h:au} {n:Nat} {a:Act} {w:World},SR B' N M φ e h n a w->iG P B'.n0 assign Q e h n->assign.wpIn (WF B'.round) m P (SQ B' N Q) a w)
  (hb:∀ {B':jM P} {m:Nat} {Q:c7} {M:fF} {φ:aQ} {e:dg} {h:au} {n:Nat} {a:Act} {w:World},SR B' N M φ e h n a w->iG P B'.n0 body Q e h n->body.wpIn (WF B'.round) m P (SQ B' N Q) a w)
  (hps:∀p ∈ ps.toList,p<N) {M:fF} {φ:aQ} {e:dg} {h:au}   {w:World} (hs:SR B N M φ e h n a w) (hh:iG P B.n0 (.rangeFunc g ps assign body) Q e h n):
  (Code.rangeFunc g ps assign body).wpIn (WF B.round) m P (SQ B N Q) a w:=by
 have key:∀ {h':au} {f:FuncId} {caps:List AV},ev e g= .fn (.func f) [] caps->zH h h'->
   (∀o g sz rs,h' o=some (.rows true g sz rs)->h o=some (.rows true g sz rs))∧(∃Mc O0,M=Or Mc O0∧B.ok0 (e GH) Mc O0 φ w h')∧SR B N M φ e h' n a w∧
   ∃cs,a.eval g= .func (.func f) ⟨[]⟩ ⟨cs⟩∧aU φ w (Or M (bc φ h)) caps cs:=by
  intro h' f caps h1 h2;obtain ⟨Mc,O0,rfl,hok⟩:=hs.ok;obtain ⟨hHf,stf⟩:=hs.heap.freeze h2;have hok1:=B.step0 hok stf.anyM;have hfo:=Mi hs.heap.glob hs.env g;rw [h1] at hfo;generalize hval:a.eval g=fv at hfo;cases hfo with
  | @fn _ _ _ fs cs r1 r2=>
  cases r1;refine ⟨λ o g sz rs ho=> ?_,⟨Mc,O0,rfl,hok1⟩,⟨λ t=>stf.rel (hs.env t),hs.size,hs.defs,hHf,⟨Mc,O0,rfl,hok1⟩,hs.small⟩,cs,rfl,r2⟩;grind [zH]
 rcases hh with ⟨f,caps,caps',more,rows,h',h1,h2,h3,h4,⟨hent,hseq⟩,hlen,hR⟩|⟨f,caps,caps',o,gn,sz,rs,rs',more,rows,h',h1,h2,ho,h3,h4,hgv,⟨hent,hseq⟩,hlen,hR⟩
 ·obtain ⟨hmt,⟨Mc,O0,rfl,hok⟩,hs',cs,hval,hcs⟩:=key h1 h2;have hcs:=jc hs.heap hmt h3 h4 hcs;have e0:Or O0 (λ _=>False)=O0:=oC O0;refine HU ha hb hps (Mc:=Mc) (O0:=O0) (Oi0:=λ _=>False) (by rw [e0];exact hs') pi hval hent hlen hR λ l w1 hfr1 hl1 hl2 J Jx=> ?_;have hsz1:=hfr1.size;refine hseq w1 _ cs l J Jx (λ k hk=> ?_) (hs'.heap.glob.keep (λ k _ hk=>hfr1.block k hk id) (λ k hk=>hk.elim (λ hk=>hk.elim (λ h=> .inl (.inl (.inl h))) λ h=> .inl (.inr h)) λ hk=>hk.elim (λ h=> .inr ge) λ h=> .inl (.inl (.inr h)))) ?_
  ·rcases hk with (hk|hk)|(hk|hk)
   ·exact Nat.lt_of_lt_of_le (hs'.heap.m0 k (.inl hk)) hsz1
   ·exact Nat.lt_of_lt_of_le (hs'.heap.blk (.inr hk)) hsz1
   ·omega
   ·exact Nat.lt_of_lt_of_le (hs'.heap.m0 k (.inr hk)) hsz1
  ·refine hcs.keep rT.le_refl (λ k _ hk=>hfr1.block k hk id) λ k hk=> ?_;grind [Or]
 ·obtain ⟨hmt,⟨Mc,O0,rfl,hok⟩,hs',cs,hval,hcs⟩:=key h1 h2;let φ1:aQ:=λ i=>if i=0 then φ o else none
  have h0:φ1 0=φ o:=rfl;have hcs:=hgv.sound (φ1:=φ1) hs.heap hmt h0 hcs;obtain ⟨hs2,hok2,hOi⟩:=hs'.give (rs':=rs') hok ho h0 rfl;refine HU ha hb hps (Mc:=Mc) (O0:=O0) hs2 hok2 hval hent hlen hR λ l w1 hfr1 hl1 hl2 J Jx=> ?_;have hsz1:=hfr1.size;generalize hOe:bc φ1 (fh [(0,cB.rows true gn sz rs')])=Oi at *;have hsub:∀k,bc φ (aC h' o none) k->bc φ h' k:=by
   grind [bc,aC]
  have hto:∀k,Or (λ k=>(Mc k∨bc φ (aC h' o none) k)∨(k=l∨O0 k)) Oi k->Or (Or Mc O0) (bc φ h') k∨w.heap.size<=k:=by
   grind [Or]
  have hspec:=h3.spec;have hH1:m8 φ1 1 w1 (λ k=>(Mc k∨bc φ (aC h' o none) k)∨(k=l∨O0 k)) (fh [(0, .rows true gn sz rs')]):=by
   refine ⟨λ k hk=> ?_,λ i hi=>if_neg ge,λ i mt g sz2 rs2 hi=> ?_,λ i i' mt g sz rs mt' g' sz' rs' a a' b b' hi hi' hne=> ?_,hs'.heap.glob.keep (λ k _ hk=>hfr1.block k hk id) (λ k hk=>hto k pi)⟩
   ·rcases hk with (hk|hk)|(hk|hk)
    ·exact Nat.lt_of_lt_of_le (hs'.heap.m0 k (.inl hk)) hsz1
    ·exact Nat.lt_of_lt_of_le (hs'.heap.blk (.inr (hsub k hk))) hsz1
    ·omega
    ·exact Nat.lt_of_lt_of_le (hs'.heap.m0 k (.inr hk)) hsz1
   ·have e:=uz hi;simp only [List.mem_singleton,Prod.mk.injEq,cB.rows.injEq] at e;obtain ⟨rfl,rfl,rfl,rfl,rfl⟩:=e;obtain ⟨A,hA,hc⟩:=hs.heap.obj _ _ _ _ _ (hmt _ _ _ _ ho);refine ⟨A,hA,hc.imp (λ h=>⟨h.1, ?_⟩) ?_⟩
    ·grind
    ·rintro ⟨a1,bs,rfl,e2,e3⟩;have hblk:=e3.blk;have hin:Oi a1.block:=by rw [<- hOe];grind [bc]
     refine ⟨a1,bs,rfl, ?_,e3.turn (hfr1.block _ hblk id) hspec.2.1.symm (hspec.2.2 _) λ hv=> ?_⟩
     ·rintro ((hk|hk)|(hk|hk))
      ·exact e2 (.inl hk)
      ·grind
      ·omega
      ·exact e2 (.inr hk)
     ·refine (jc hs.heap hmt hspec.1 (λ c hc=> ?_) hv).keep (λ o x ho=>by cases ho) (λ k _ hk=>hfr1.block k hk id) (λ k hk=>hto k pi);grind [List.mem_flatten]
   grind
  have:=hseq φ1 w1 _ cs l J Jx hH1 (hcs.keep φ1.le_refl (λ k _ hk=>hfr1.block k hk id) (λ k hk=>hto k pi));rw [hOe] at this;exact this
end Go.Av
end
section
namespace Go.Av
open Go

variable {c:Code} {w:World} {cs:List Frame} {k:List Item} {a:Act} {b:Frame} {P:Program}
theorem oH :step P (lone (b.atR a (.code (.scope c)::k)) cs w)= .next (lone (b.atR a (.code c:: .inScope c::k)) cs w):=
 step_lone_go (by simp [stepG,stepG.exec,Frame.atR])
theorem Jb :step P (lone (b.atR a (.inScope c::k)) cs w)= .next (lone (b.atR a k) cs w):=
 step_lone_go (by simp [stepG,stepG.exec,Frame.atR])
theorem SS {F:Fence}{n:Nat}{Q:Exit->Act->World->Prop} (h:c.wpIn F n P (Exit.noGoto Q) a w):(Code.scope c).wpIn F n P Q a w:=by
 intro b k cs hro hb hr;have h0:(lone (b.atR a (.code (.scope c)::k)) cs w).fenced P F:=fenced_calm hb hr rfl;obtain ⟨e,a₁,w₁,hq,harr⟩:=h b (.inScope c::k) cs hro hb hr;cases e with
 |normal=>exact ⟨.normal,a₁,w₁,hq, .head h0 oH (StepsIn.trans harr (.one (fenced_calm hb hr rfl) Jb))⟩
 |exit id=>
  have hx:exitTo id (.inScope c::k)=exitTo id k:=by simp [exitTo]
  exact ⟨.exit id,a₁,w₁,hq,λ k' hk=> .head h0 oH (harr.1 k' pi),
   λ hr' hk=>let ⟨k₁,h1,h2⟩:=harr.2 hr' pi;⟨k₁,h1, .head h0 oH h2⟩⟩
 |goto l=>exact hq.elim
 |ret=>exact ⟨_,a₁,w₁,hq, .of_steps (.one h0 oH) harr⟩
 |panic ch=>exact ⟨_,a₁,w₁,hq, .of_steps (.one h0 oH) harr⟩
 |outgrown=>exact ⟨_,a₁,w₁,hq, .of_steps (.one h0 oH) harr⟩
theorem za  (hmix:P.follows .mixedOrders=true){N:Nat}:∀ {c:Code}{B:jM P}{m:Nat}{Q:c7},vv N c=true->∀ {M:Nat->Prop}{φ:aQ}{e:dg}{h:au}{n:Nat}{a:Act}{w:World},
  SR B N M φ e h n a w->iG P B.n0 c Q e h n->c.wpIn (WF B.round) m P (SQ B N Q) a w:=by
 intro c;induction c with
 |skip=>intro B m Q _ M φ e h n a w hs hh;grind [wpIn_skip,SQ,iG]
 |label l=>intro B m Q _ M φ e h n a w hs hh;grind [wpIn_label,SQ,iG]
 |region id ops draw=>
  intro B m Q hd M φ e h n a w hs hh;cases draw with
  |false=>
   grind [wpIn_region,List.range_eq_range',Gc,vv,iG]
  |true=>
   obtain ⟨h',hfz,hh⟩:=hh;obtain ⟨hH',st0⟩:=hs.heap.freeze hfz;refine Nq hmix (λ o ho=> ?_) (hs.put (dst:=none) trivial (.top undef) hH' st0) hh;grind [vv]
 |seq x y ihx ihy=>
  intro B m Q hd M φ e h n a w hs hh;simp only [vv,Bool.and_eq_true] at hd;refine wpIn_seq (wpIn_mono (ihx hd.1 hs hh) ?_);rintro ex a' w' ⟨M',φ',e',h',n',hs',hq⟩;cases ex with
  |normal=>exact ihy hd.2 hs' hq
  | _=>exact ⟨M',φ',e',h',n',hs',hq⟩
 |cond o x y ihx ihy=>
  intro B m Q hd M φ e h n a w hs hh;simp only [vv,Bool.and_eq_true] at hd;unfold iG at hh;split at hh
  ·rename_i t ht;have hr:=Mi hs.heap.glob hs.env o;rw [ht] at hr;generalize hq:a.eval o=q at hr;cases hr;grind [wpIn_cond]
  grind
 |block id x ih=>
  intro B m Q hd M φ e h n a w hs hh;refine wpIn_block (wpIn_mono (ih hd hs hh) ?_);rintro ex a' w' ⟨M',φ',e',h',n',hs',hq⟩;cases ex with
  |exit id'=>
   grind [sP,Exit.inBlock,SQ]
  | _=>exact ⟨M',φ',e',h',n',hs',hq⟩
 |scope x ih=>
  intro B m Q hd M φ e h n a w hs hh;refine SS (wpIn_mono (ih hd hs hh) ?_);rintro ex a' w' ⟨M',φ',e',h',n',hs',hq⟩;cases ex with
  |goto l=>exact hq.elim
  | _=>exact ⟨M',φ',e',h',n',hs',hq⟩
 |loop x ih=>
  intro B m Q hd M φ e h n a w hs hh b k cs hro hb hr;have key:=hh (λ e h n=>∀M φ a w,SR B N M φ e h n a w->
   ∃ex a' w',SQ B N Q ex a' w'∧ArrivesIn (Machine.fenced P (WF B.round)) P (lone (b.atR a (.code x:: .inLoop x::k)) cs w) b k cs ex a' w') ?_ ?_ M φ a w hs
  ·obtain ⟨ex,a',w',hq,harr⟩:=key;exact ⟨ex,a',w',hq, .of_steps (.one (fenced_calm hb hr rfl) stepR_loop) harr⟩
  ·intro e h n hB M φ a w hs;obtain ⟨ex,a₁,w₁,⟨M',φ',e',h',n',hs',hq⟩,harr⟩:=ih hd hs hB b (.inLoop x::k) cs hro hb hr;cases ex with
   |normal=>
    obtain ⟨ex,a₂,w₂,hq₂,harr₂⟩:=hq M' φ' a₁ w₁ hs';exact ⟨ex,a₂,w₂,hq₂, .of_steps (StepsIn.trans harr (.one (fenced_calm (fr:=b.atR a₁ (.inLoop x::k)) hb hr rfl) stepR_inLoop)) harr₂⟩
   |exit id=>exact ⟨_,a₁,w₁,⟨M',φ',e',h',n',hs',hq⟩, .pass (x:= .inLoop x) rfl (λ _ _=> .inl gt) harr⟩
   |goto l=>exact ⟨_,a₁,w₁,⟨M',φ',e',h',n',hs',hq⟩, .pass (x:= .inLoop x) rfl (λ _ _=> .inl gt) harr⟩
   |ret=>exact ⟨_,a₁,w₁,⟨M',φ',e',h',n',hs',hq⟩, .pass (x:= .inLoop x) rfl (λ _ _=> .inl gt) harr⟩
   |panic ch=>exact ⟨_,a₁,w₁,⟨M',φ',e',h',n',hs',hq⟩, .pass (x:= .inLoop x) rfl (λ _ _=> .inl gt) harr⟩
   |outgrown=>exact ⟨_,a₁,w₁,⟨M',φ',e',h',n',hs',hq⟩, .pass (x:= .inLoop x) rfl (λ _ _=> .inl gt) harr⟩
  ·intro e h n E HH n' hk hn hX M φ a w hs;obtain ⟨φ',h1,h2,h3,h4⟩:=hk.sound hs.heap hs.env;refine hX M φ' a w ⟨h2,hs.size,hs.defs,h1,B.forget hs.ok ?_ h3 h4 hn,hs.small⟩;rcases LZ (E:=E) GH with h5|h5
   ·grind
   ·have h6:=(hk.env _ h5).1;generalize Fb E GH=y at h6;rcases B.isG hs.ok with h7|⟨x,h7⟩
    ·rw [h7] at h6 ⊢;cases h6<;>simp
    ·rw [h7] at h6 ⊢;cases h6<;>simp
 |rangeFunc g ps x y ihx ihy=>
  intro B m Q hd M φ e h n a w hs hh;grind [vv,Fh]
 |exit id=>intro B m Q _ M φ e h n a w hs hh;grind [wpIn_exit,SQ,iG]
 |ret=>intro B m Q _ M φ e h n a w hs hh;grind [wpIn_ret,SQ,iG]
 | _=>intro B m Q _ M φ e h n a w hs hh;exact hh.elim
end Go.Av
end
