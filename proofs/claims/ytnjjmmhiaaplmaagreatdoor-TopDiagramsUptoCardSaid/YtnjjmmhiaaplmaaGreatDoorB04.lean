/- Texts of ours, part 4: our library and contracts of functions. -/
import Derived.Test.YtnjjmmhiaaplmaaGreatDoorB03
import Derived.OrdersIn
import Derived.RangeFuncNested
set_option linter.unusedSimpArgs false
set_option linter.unusedVariables false
set_option maxRecDepth 100000
set_option maxHeartbeats 40000000
section
/- Our library, part 12: a region that draws its order. -/
namespace Go.Av
open Go

section local_
variable {P:Program} {id:Nat} {e e':Env} {h h':zaq}
theorem zcS {o g sz:Nat} (he:h o=h' o):zcG h o g sz=zcG h' o g sz:=by unfold zcG;rw [he]
theorem zqK {x:AV} (hx:∀o ∈ x.ids,h o=h' o):x.isCell h=x.isCell h':=by
 cases x<;>first|rfl|exact zcS (hx _ aO)
theorem zde {x:AV} (hx:∀o ∈ x.ids,h o=h' o):x.okCells h=x.okCells h':=by
 cases x<;>first|rfl|exact zqK hx
theorem zqk {t:TypeId}{x:AV} (hx:∀o ∈ x.ids,h o=h' o):zhU P t x h=zhU P t x h':=by
 cases x with
 |ref o g sz i off=>have:=hx o aO;simp only [zhU,this]
 | _=>rfl
theorem zoP {t:TypeId}{x v:AV} (hx:∀o ∈ x.ids,h o=h' o) (hv:∀o ∈ v.ids,h o=h' o):zdq P t x v h=zdq P t x v h':=by
 cases x with
 |ref o g sz i off=>have:=hx o aO;simp only [zdq,this,zde hv]
 | _=>rfl
theorem ziS {t:TypeId}{x:AV}{f:Nat} (hx:∀o ∈ x.ids,h o=h' o):zb8 P t x f h=zb8 P t x f h':=by
 unfold zb8
 split
 ·cases x<;>first|rfl|(simp only;rw [zcS (hx _ aO)])
 ·rfl
theorem ziT {t:TypeId}{x i:AV} (hx:∀o ∈ x.ids,h o=h' o):zb9 P t x i h=zb9 P t x i h':=by
 unfold zb9
 split
 ·rw [zcS (hx _ aO)]
 ·rfl
 ·split
  ·rw [zcS (hx _ aO)]
  ·rfl
 ·rfl
 ·rfl
theorem zsH {t:TypeId}{x:AV} (hx:∀o ∈ x.ids,h o=h' o):zqj P t x h=zqj P t x h':=by
 unfold zqj
 split
 ·rw [zcS (hx _ aO)]
 ·rfl
 ·rfl
 ·rfl
 ·rfl
 ·rw [hx _ aO]
 ·rfl
theorem zoO {t:TypeId}{x:AV}{lo hi mx:Option AV} (hx:∀o ∈ x.ids,h o=h' o):zf6 P t x lo hi mx h=zf6 P t x lo hi mx h':=by
 unfold zf6
 split
 ·split
  ·rw [zcS (hx _ aO)]
  ·rfl
 all_goals rfl
theorem zey {x:AV}{sz:Nat} (hx:∀o ∈ x.ids,h o=h' o):zat x sz h=zat x sz h':=by
 cases x with
 |sl o g sz i len=>have:=hx o aO;simp only [zat,this]
 |v y=>unfold zat;split<;>simp_all
 | _=>rfl
theorem zmS {tys:List TypeId}{s x:AV} (hs:∀o ∈ s.ids,h o=h' o) (hx:∀o ∈ x.ids,h o=h' o):zdX P id tys s x h=zdX P id tys s x h':=by
 unfold zdX
 split
 ·split
  ·split
   ·rename_i sz _ _ _ _ _
    rw [zey hx]
    cases s with
    |sl o g sz i len=>have:=hs o aO;simp only [this]
    |v y=>split<;>(try split)<;>simp_all
    | _=>rfl
   ·rfl
  ·rfl
 ·rfl
theorem zlg {tys:List TypeId}{s x:AV} (hs:∀o ∈ s.ids,h o=h' o) (hx:∀o ∈ x.ids,h o=h' o):zc9 P tys s x h=zc9 P tys s x h':=by
 unfold zc9
 split
 ·split
  ·split
   ·rename_i sz _ _ _ _ _
    rw [zey hx]
    cases s with
    |sl o g sz i len=>have:=hs o aO;simp only [this]
    | _=>rfl
   ·rfl
  ·rfl
 ·rfl
theorem zsG {tys:List TypeId}{s x:AV} (hs:∀o ∈ s.ids,h o=h' o) (hx:∀o ∈ x.ids,h o=h' o):zoL P id tys s x h=zoL P id tys s x h':=by
 unfold zoL
 split
 ·rw [zmS hs hx,zlg hs hx]
 ·rfl
theorem zsI {x:AV} (hx:∀o ∈ x.ids,h o=h' o):zlk x h=zlk x h':=by
 cases x<;>first|rfl|(simp only [zlk];rw [zcS (hx _ aO)])
theorem zg1 {t:TypeId}{m k x:AV} (hm:∀o ∈ m.ids,h o=h' o):zcQ P t m k x h=zcQ P t m k x h':=by
 unfold zcQ
 split
 ·rename_i o _
  rw [hm o aO]
 ·rfl
theorem zmT {t:TypeId}{m k:AV}{ok:Bool} (hm:∀o ∈ m.ids,h o=h' o):zer P t m k ok h=zer P t m k ok h':=by
 unfold zer
 split
 ·rename_i o _
  rw [hm o aO]
 ·rfl
theorem zoM {tys:List TypeId}{s:AV} (hs:∀o ∈ s.ids,h o=h' o):zf3 P tys s h=zf3 P tys s h':=by
 unfold zf3
 split
 ·split
  ·split
   ·cases s with
    |sl o g sz i len=>have:=hs o aO;simp only [this]
    |v y=>cases y with
     |slice A l c=>cases A<;>rfl
     | _=>rfl
    | _=>rfl
   ·rfl
  ·rfl
 ·rfl
theorem zqi {tys:List TypeId}{s x:AV} (hs:∀o ∈ s.ids,h o=h' o) (hx:∀o ∈ x.ids,h o=h' o):zjH P tys s x h=zjH P tys s x h':=by
 unfold zjH
 split
 ·split
  ·split
   ·rw [zey hx]
    cases s with
    |sl o g sz i len=>have:=hs o aO;simp only [this]
    | _=>rfl
   ·rfl
  ·rfl
 ·rfl
theorem zg2 {sz:Nat}:∀ {l:List (Nat×AV)}{rs:List (List AV)},(∀p ∈ l,∀o ∈ p.2.ids,h o=h' o)→zcz h sz rs l=zcz h' sz rs l
 | [], _, _=>rfl
 |(i,x)::l,rs,hx=>by
  unfold zcz
  rw [zde (hx (i,x) ad),zg2 (fun p hp=>hx p (by simp [hp]))]
theorem zf7 {s:TypeId}:∀ {l:List (Nat×AV)}{cs:List AV},(∀p ∈ l,∀o ∈ p.2.ids,h o=h' o)→zda P h s cs l=zda P h' s cs l
 | [], _, _=>rfl
 |(i,x)::l,cs,hx=>by
  unfold zda
  split
  ·simp only
   rw [zde (hx (i,x) ad),zf7 (fun p hp=>hx p (by simp [hp]))]
  ·rfl
theorem zhW {sz:Nat}:∀ {l:List (Nat×AV)}{cs:List AV},(∀p ∈ l,∀o ∈ p.2.ids,h o=h' o)→zfs h sz cs l=zfs h' sz cs l
 | [], _, _=>rfl
 |(i,x)::l,cs,hx=>by
  unfold zfs
  rw [zde (hx (i,x) ad),zhW (fun p hp=>hx p (by simp [hp]))]
theorem zl7 {ps:Array (Nat×Operand)} (he:∀x ∈ ps.toList.map (·.2),ev e x=ev e' x):(ps.toList.map fun p=>(p.1,ev e p.2))=ps.toList.map fun p=>(p.1,ev e' p.2):=by
 apply List.map_congr_left
 intro p hp
 rw [he p.2 (List.mem_map.2 ⟨p,hp,rfl⟩)]

theorem zqh {s d:TypeId}{x:AV} (h1:∀e0,zat x e0 h=zat x e0 h'):zjG P s d x h=zjG P s d x h':=by
 have h2:∀e0,zvI P e0 x h=zvI P e0 x h':=fun e0=>by unfold zvI;rw [h1]
 cases x<;>(unfold zjG;split<;>first|rfl|exact h2 _|(simp_all;done))
theorem zxm {op:Op} (he:∀x ∈ op.operands,ev e x=ev e' x) (hh:∀o ∈ (op.operands.toList.map (ev e)).flatMap AV.ids,h o=h' o):aev P id op e h=aev P id op e' h':=by
 have hx:∀x ∈ op.operands,∀o ∈ (ev e x).ids,h o=h' o:=fun x hx o ho=>hh o (List.mem_flatMap.2 ⟨ev e x,List.mem_map.2 ⟨x,aN,rfl⟩,ho⟩)
 cases op with
 |move x=>simp only [aev];rw [he x ao]
 |assign x=>simp only [aev];rw [he x ao]
 |pick c x y=>simp only [aev];rw [he c ao,he x ao,he y ao]
 |alloc t=>rfl
 |box t x=>simp only [aev];rw [zde (hx x ao),he x ao]
 |build t ps=>
  have h1:∀x ∈ ps.toList.map (·.2),ev e x=ev e' x:=fun x hx=>he x (by simp [Op.operands];simpa using hx)
  have h2:∀p ∈ (ps.toList.map fun p=>(p.1,ev e p.2)),∀o ∈ p.2.ids,h o=h' o:=by
   intro p hp o ho
   obtain ⟨q,hq,rfl⟩:=List.mem_map.1 hp
   exact hx q.2 cX o ho
  simp only [aev]
  rw [← zl7 h1]
  unfold ziR
  split
  ·rw [zf7 h2]
  ·split
   ·rw [zhW h2]
   ·rfl
  ·rfl
 |buildSlice t len ps=>
  have h1:∀x ∈ ps.toList.map (·.2),ev e x=ev e' x:=fun x hx=>he x (by simp [Op.operands];simpa using hx)
  have h2:∀p ∈ (ps.toList.map fun p=>(p.1,ev e p.2)),∀o ∈ p.2.ids,h o=h' o:=by
   intro p hp o ho
   obtain ⟨q,hq,rfl⟩:=List.mem_map.1 hp
   exact hx q.2 cX o ho
  simp only [aev]
  rw [← zl7 h1]
  unfold zcZ
  split
  ·split
   ·rw [zg2 h2]
   ·rfl
  ·rfl
 |load t x=>simp only [aev];rw [zqk (hx x ao),he x ao]
 |store t x y=>simp only [aev];rw [zoP (hx x ao) (hx y ao),he x ao,he y ao]
 |binOp o t x y t'=>simp only [aev];rw [he x ao,he y ao]
 |unOp o t x=>simp only [aev];rw [he x ao]
 |nilCheck x=>simp only [aev];rw [zsI (hx x ao),he x ao]
 |convert s d x=>
  have h1:∀e0,zat (ev e x) e0 h=zat (ev e x) e0 h':=fun e0=>zey (hx x ao)
  simp only [aev]
  rw [← he x ao]
  exact zqh h1
 |makeFunc f xs ys=>
  simp only [aev]
  rw [List.map_congr_left (fun x hx=>he x (by simp [Op.operands];exact .inl aN)),List.map_congr_left (fun x hx=>he x (by simp [Op.operands];exact .inr aN))]
 |makeSlice t l c=>simp only [aev];rw [he l ao,he c ao]
 |slice t x lo hi mx=>
  simp only [aev]
  have m1:lo.map (ev e)=lo.map (ev e'):=by cases lo with
   |none=>rfl
   |some y=>simp only [Option.map_some];rw [he y ao]
  have m2:hi.map (ev e)=hi.map (ev e'):=by cases hi with
   |none=>rfl
   |some y=>simp only [Option.map_some];rw [he y ao]
  have m3:mx.map (ev e)=mx.map (ev e'):=by cases mx with
   |none=>rfl
   |some y=>simp only [Option.map_some];rw [he y ao]
  rw [zoO (hx x ao),m1,m2,m3,he x ao]
 |fieldAddr t x f=>simp only [aev];rw [ziS (hx x ao),he x ao]
 |field t x f=>simp only [aev];rw [he x ao]
 |indexAddr t x i=>simp only [aev];rw [ziT (hx x ao),he x ao,he i ao]
 |index t x i=>simp only [aev];rw [he x ao,he i ao]
 |extract x i=>simp only [aev];rw [he x ao]
 |makeMap t r=>rfl
 |mapUpdate t m k x=>simp only [aev];rw [zg1 (hx m ao),he m ao,he k ao,he x ao]
 |insert t m k x=>simp only [aev];rw [zg1 (hx m ao),he m ao,he k ao,he x ao]
 |lookup t m k ok=>simp only [aev];rw [zmT (hx m ao),he m ao,he k ao]
 |call c=>
  obtain ⟨callee,args,ats⟩:=c
  cases callee with
  |builtin b=>
   have ha:∀x ∈ args.toList,ev e x=ev e' x:=fun x hx=>he x (by simp [Op.operands,Call.operands];simpa using hx)
   have hb:∀x ∈ args.toList,∀o ∈ (ev e x).ids,h o=h' o:=fun x hx'=>hx x (by simp [Op.operands,Call.operands];simpa using hx')
   cases b with
   |len=>
    simp only [aev]
    split
    ·rename_i x t hxx _
     rw [hxx] at ha hb
     rw [zsH (hb x ad),ha x ad]
    ·rfl
   |cap=>
    simp only [aev]
    split
    ·rename_i x t hxx _
     rw [hxx] at ha
     rw [ha x ad]
    ·rfl
   |append=>
    simp only [aev]
    split
    ·rename_i s x hxx
     rw [hxx] at ha hb
     rw [zsG (hb s ad) (hb x ad),ha s ad,ha x ad]
    ·rfl
   |copy=>
    simp only [aev]
    split
    ·rename_i s x hxx
     rw [hxx] at ha hb
     rw [zqi (hb s ad) (hb x ad),ha s ad,ha x ad]
    ·rfl
   |clear=>
    simp only [aev]
    split
    ·rename_i s hxx
     rw [hxx] at ha hb
     rw [zoM (hb s ad),ha s ad]
    ·rfl
   |min=>
    simp only [aev]
    split
    ·rename_i x y hxx
     rw [hxx] at ha
     rw [ha x ad,ha y ad]
    ·rfl
   |max=>
    simp only [aev]
    split
    ·rename_i x y hxx
     rw [hxx] at ha
     rw [ha x ad,ha y ad]
    ·rfl
   | _=>rfl
  | _=>rfl
 | _=>rfl
end local_

def Raw (P:Program) (k b:Nat) (op:Op) (e:Env) (h:zaq) (x:AV) (wr:List (Nat×Option zbp)) (rd:List Nat):Prop:=match op with
 | .call { callee:= .value f,args, .. }=>zgY P b (ev e f) (args.toList.map (ev e)) h x rd wr
 |op=>(aev P k op e h).cond∧x=(aev P k op e h).val∧wr=(aev P k op e h).wr∧rd=(op.operands.toList.map (ev e)).flatMap AV.ids
def zmD (P:Program) (ops:List Oper) (k b:Nat) (o:Oper) (e:Env) (h:zaq) (x:AV) (wr:List (Nat×Option zbp)) (rd:List Nat):Prop:=match o.guard with
 |none=>Raw P k b o.op e h x wr rd
 |some (j,want)=>∃t g r,ze8 ops j=some t∧zgb (e t) want=some g∧(∀t ∈ gT o.op,okG g (e t))∧x= .gd g r∧(g=false→wr= [])∧(g=true→Raw P k b o.op (gE o.op e) h r wr rd)

theorem zuX.congr {P:Program}{fv:AV}{args:List AV}{h h₁:zaq}{r:AV}{S:List Nat} (hp:zuX P fv args h r S) (hx:∀o ∈ S,h o=h₁ o):zuX P fv args h₁ r S:=by
 obtain ⟨f,first,caps,args',rfl,hb,hpu,hc⟩:=hp
 exact ⟨f,first,caps,args',rfl,hb,hpu,hc.imp (fun hc=>⟨fun h₂ h2=>hc.1 h₂ fun o ho=>(hx o ho).trans (h2 o ho),hc.2⟩) id⟩

theorem zgY.congr {P:Program}{b:Nat}{fv:AV}{args:List AV}{h h₁:zaq}{r:AV}{S:List Nat}{wr:List (Nat×Option zbp)} (hp:zgY P b fv args h r S wr) (hx:∀o ∈ S,h o=h₁ o):zgY P b fv args h₁ r S wr:=by
 rcases hp with ⟨h0,hp⟩|⟨f,first,caps,args',rfl,hb,hpu,hw,hc⟩|⟨f,first,caps,rfl,hS,hw,hfl,hc⟩|⟨f,first,caps,args',R0,H0,HH,k2,rfl,hnm,hk16,hb,hcall,hnR,hnH,hSR,hHH,hnd,rfl,hle⟩
 ·exact .inl ⟨h0,hp.congr hx⟩
 rotate_left
 ·exact .inr (.inr (.inl ⟨f,first,caps,rfl,fun o ho=>by rw [← hx o ho];exact hS o ho,hw,hfl,fun h₂ n₂ h2 hn=>hc h₂ n₂ (fun o ho=>(hx o ho).trans (h2 o ho)) hn⟩))
 ·exact .inr (.inr (.inr ⟨f,first,caps,args',R0,H0,HH,k2,rfl,hnm,hk16,hb,hcall,hnR,hnH,hSR,hHH,hnd,rfl,fun h₂ h2=>hle h₂ fun o ho=>(hx o ho).trans (h2 o ho)⟩))
 ·refine .inr (.inl ⟨f,first,caps,args',rfl,hb,hpu,fun p hp=> ?_,fun h₂ h2=>hc h₂ fun o ho=>(hx o ho).trans (h2 o ho)⟩)
  obtain ⟨h1,g,sz,rs,h2,h3⟩:=hw p hp
  exact ⟨h1,g,sz,rs,h2,by rw [← hx _ h1];exact h3⟩

section
variable {P:Program} {k b:Nat} {e e':Env} {h h':zaq} {x:AV} {wr:List (Nat×Option zbp)} {rd:List Nat}
theorem Raw.congr {op:Op} (he:∀x ∈ op.operands,ev e x=ev e' x) (hh:∀o ∈ rd,h o=h' o) (hr:Raw P k b op e h x wr rd):Raw P k b op e' h' x wr rd:=by
 unfold Raw at hr ⊢
 split
 ·rename_i f args ats
  have h1:ev e f=ev e' f:=he f (by simp [Op.operands,Call.operands])
  have h2:args.toList.map (ev e)=args.toList.map (ev e'):=List.map_congr_left (fun x hx=>he x (by simp [Op.operands,Call.operands];exact .inr aN))
  rw [← h1,← h2]
  exact hr.congr hh
 ·rename_i hne
  split at hr
  ·exact absurd rfl (hne _ _ _)
  ·obtain ⟨h1,h2,h3,rfl⟩:=hr
   rw [← zxm he hh]
   exact ⟨h1,h2,h3,by rw [List.map_congr_left (fun x hx=>he x aN)]⟩
theorem zkn {op:Op} (he:∀t ∈ zcD op,e t=e' t):∀x ∈ op.operands,ev e x=ev e' x:=by
 intro x hx
 cases x with
 |tmp t=>exact he t (by simp only [zcD,List.mem_filterMap];exact ⟨.tmp t,aN,rfl⟩)
 | _=>rfl
theorem gE_or (op:Op) (e:Env):gE op e=e∧gT op= []∨gE op e=(fun t=>unG (e t))∧gT op=zcD op:=by
 cases op<;>first|exact .inl ⟨rfl,rfl⟩|exact .inr ⟨rfl,rfl⟩
theorem zyt {op:Op}{t:Tmp} (h:t ∈ gT op):t ∈ zcD op:=by
 rcases gE_or op (fun _=> .top) with ⟨_,h1⟩|⟨_,h1⟩<;>rw [h1] at h
 ·cases h
 ·exact h
theorem zmD.congr {ops:List Oper}{o:Oper} (he:∀t ∈ zgi ops o,e t=e' t) (hh:∀o ∈ rd,h o=h' o) (hr:zmD P ops k b o e h x wr rd):zmD P ops k b o e' h' x wr rd:=by
 have he1:∀t ∈ zcD o.op,e t=e' t:=fun t ht=>he t (by simp [zgi,ht])
 unfold zmD at hr ⊢
 split at hr
 ·rename_i hg
  exact hr.congr (zkn he1) hh
 ·rename_i j want hg
  obtain ⟨t,g,r,h1,h2,h3,h4,h5,h6⟩:=hr
  have he2:∀t ∈ zcD o.op,gE o.op e t=gE o.op e' t:=fun t ht=>by
   have h0:∀e,gE o.op e t=match o.op with| .pick _ _ _=>e t| _=>unG (e t):=fun e=>by cases o.op<;>rfl
   rw [h0,h0,he1 t ht]
  refine ⟨t,g,r,h1, ?_, ?_,h4,h5,fun hg=>(h6 hg).congr (zkn he2) hh⟩
  ·rw [← he t (by simp [zgi,hg,h1])];exact h2
  ·intro t ht;rw [← he1 t (zyt ht)];exact h3 t ht
end

def AG (h h':zaq):Prop:=∀o g sz,zcG h o g sz=zcG h' o g sz
theorem AG.symm {h h':zaq} (a:AG h h'):AG h' h:=fun o g sz=>(a o g sz).symm
section
variable {P:Program} {k b:Nat} {e e':Env} {h h':zaq} {x:AV} {wr:List (Nat×Option zbp)} {rd:List Nat}
theorem zAA {op:Op} (ha:zDH op=true) (he:∀x ∈ op.operands,ev e x=ev e' x) (hag:AG h h'):aev P k op e h=aev P k op e' h':=by
 cases op with
 |fieldAddr t x f=>
  simp only [aev]
  rw [he x ao]
  unfold zb8
  split
  ·cases ev e' x<;>first|rfl|(simp only;rw [hag])
  ·rfl
 |indexAddr t x i=>
  simp only [aev]
  rw [he x ao,he i ao]
  unfold zb9
  split
  ·rw [hag]
  ·rfl
  ·split
   ·rw [hag]
   ·rfl
  ·rfl
  ·rfl
 |nilCheck x=>
  simp only [aev]
  rw [he x ao]
  unfold zlk
  split
  ·rw [hag]
  ·rfl
  ·rfl
 |move x=>
  simp only [aev]
  rw [he x ao]
 | _=>simp [zDH] at ha
theorem Raw.addr {op:Op} (ha:zDH op=true) (he:∀x ∈ op.operands,ev e x=ev e' x) (hag:AG h h') (hr:Raw P k b op e h x wr rd):Raw P k b op e' h' x wr rd:=by
 have hne:∀f args ats,op≠ .call { callee:= .value f,args,argTypes:=ats}:=fun f args ats e0=>by rw [e0] at ha;simp [zDH] at ha
 unfold Raw at hr ⊢
 split
 ·exact absurd rfl (hne _ _ _)
 ·split at hr
  ·exact absurd rfl (hne _ _ _)
  ·obtain ⟨h1,h2,h3,rfl⟩:=hr
   rw [← zAA ha he hag]
   exact ⟨h1,h2,h3,by rw [List.map_congr_left (fun x hx=>he x aN)]⟩
theorem zmD.addr {ops:List Oper}{o:Oper} (ha:zDH o.op=true) (he:∀t ∈ zgi ops o,e t=e' t) (hag:AG h h') (hr:zmD P ops k b o e h x wr rd):zmD P ops k b o e' h' x wr rd:=by
 have he1:∀t ∈ zcD o.op,e t=e' t:=fun t ht=>he t (by simp [zgi,ht])
 unfold zmD at hr ⊢
 split at hr
 ·exact hr.addr ha (zkn he1) hag
 ·rename_i j want hg
  obtain ⟨t,g,r,h1,h2,h3,h4,h5,h6⟩:=hr
  have he2:∀t ∈ zcD o.op,gE o.op e t=gE o.op e' t:=fun t ht=>by
   have h0:∀e,gE o.op e t=match o.op with| .pick _ _ _=>e t| _=>unG (e t):=fun e=>by cases o.op<;>rfl
   rw [h0,h0,he1 t ht]
  refine ⟨t,g,r,h1, ?_, ?_,h4,h5,fun hg=>(h6 hg).addr ha (zkn he2) hag⟩
  ·rw [← he t (by simp [zgi,hg,h1])];exact h2
  ·intro t ht;rw [← he1 t (zyt ht)];exact h3 t ht
theorem Raw.store_ag {op:Op} (hs:isSt op=true) (hr:Raw P k b op e h x wr rd):AG h (zam wr h):=by
 cases op with
 |store t a v=>
  obtain ⟨h1, _,rfl, _⟩:=hr
  simp only [aev] at h1 ⊢
  unfold zdq at h1 ⊢
  split at h1
  ·rename_i o g sz i off _
   split at h1
   ·rename_i mt g' sz' rs ho
    try simp only [ho]
    by_cases hc:g=g'∧sz=sz'∧mt=true
    ·rw [if_pos hc]
     obtain ⟨rfl,rfl,rfl⟩:=hc
     intro o' g0 sz0
     simp only [zam,zcG,upd]
     by_cases hoo:o'=o
     ·subst hoo;simp [ho]
     ·simp [hoo]
    ·rw [if_neg hc] at h1;exact h1.elim
   ·exact h1.elim
  ·exact h1.elim
 | _=>simp [isSt] at hs
theorem zmD.store_ag {ops:List Oper}{o:Oper} (hs:isSt o.op=true) (hr:zmD P ops k b o e h x wr rd):AG h (zam wr h):=by
 unfold zmD at hr
 split at hr
 ·exact hr.store_ag hs
 ·obtain ⟨t,g,r,h1,h2,h3,h4,h5,h6⟩:=hr
  cases g with
  |false=>rw [h5 rfl];exact fun _ _ _=>rfl
  |true=>exact (h6 rfl).store_ag hs
end
abbrev DOp:=Nat×Oper×zfj
def Tr (P:Program) (ops:List Oper) (n:Nat):List DOp→Env→zaq→Env→zaq→Prop
 | [],e,h,e',h'=>e'=e∧h'=h
 |(i,o,rc)::L,e,h,e',h'=>∃x wr,zmD P ops (n+i) (n+ops.length+16 * i) o e h x wr rc.1∧wr.map (·.1)=rc.2∧Tr P ops n L (put e o.dst x) (zam wr h) e' h'
def ixs:Nat→List Oper→List zfj→List DOp
 |i,o::l,r::rs=>(i,o,r)::ixs (i+1) l rs
 | _, _, _=> []
theorem znc {P:Program}{n:Nat}{ops:List Oper}{K:Env→zaq→List zfj→Prop}:∀ {rest:List Oper}{i:Nat}{e:Env}{h:zaq}{acc:List zfj},zdn P n ops K i rest e h acc→
  ∃recs e' h',recs.length=rest.length∧Tr P ops n (ixs i rest recs) e h e' h'∧K e' h' (acc++recs)
 | [],i,e,h,acc,hh=>⟨[],e,h,rfl,⟨rfl,rfl⟩,by rw [List.append_nil];exact hh⟩
 |o::rest,i,e,h,acc,hh=>by
  have key:∀ {x wr rc},zmD P ops (n+i) (n+ops.length+16 * i) o e h x wr rc.1→wr.map (·.1)=rc.2→zdn P n ops K (i+1) rest (put e o.dst x) (zam wr h) (acc++ [rc])→
    ∃recs e' h',recs.length=(o::rest).length∧Tr P ops n (ixs i (o::rest) recs) e h e' h'∧K e' h' (acc++recs):=by
   intro x wr rc h1 h2 h3
   obtain ⟨recs,e',h',hl,ht,hk⟩:=znc h3
   exact ⟨rc::recs,e',h',by simp [hl],⟨x,wr,h1,h2,ht⟩,aC⟩
  unfold zdn at hh
  split at hh
  ·rename_i hg
   split at hh
   ·rename_i f args ats hop
    obtain ⟨r,S,wr,h1,h3⟩:=hh
    refine key (x:=r) (wr:=wr) ?_ rfl h3
    unfold zmD
    rw [hg,hop]
    exact h1
   ·rename_i op hne
    refine key (x:=(aev P (n+i) o.op e h).val) (wr:=(aev P (n+i) o.op e h).wr) ?_ rfl hh.2
    unfold zmD
    rw [hg]
    simp only
    unfold Raw
    split
    ·rename_i hop;exact absurd hop (hne _ _ _)
    ·exact ⟨hh.1,rfl,rfl,rfl⟩
  ·rename_i j want hg
   split at hh
   ·exact hh.elim
   ·rename_i g hb
    cases ht:ze8 ops j with
    |none=>rw [ht] at hb;cases hb
    |some t=>
     rw [ht] at hb
     split at hh
     ·rename_i f args ats hop
      obtain ⟨hok,r,S,wr,h1,h2,h3⟩:=hh
      refine key (x:= .gd g r) (wr:=wr) ?_ rfl h3
      unfold zmD
      rw [hg]
      refine ⟨t,g,r,ht,hb,fun t ht=>hok t (zyt ht),rfl,h2,fun hgt=> ?_⟩
      rw [hop];exact h1 hgt
     ·rename_i op hne
      obtain ⟨hok,h1,h3⟩:=hh
      refine key (x:= .gd g (aev P (n+i) o.op (gE o.op e) h).val) (wr:=gW g (aev P (n+i) o.op (gE o.op e) h).wr) ?_ rfl h3
      unfold zmD
      rw [hg]
      refine ⟨t,g, _,ht,hb,hok,rfl,fun hgf=>by rw [hgf];rfl,fun hgt=> ?_⟩
      unfold Raw
      split
      ·rename_i hop;exact absurd hop (hne _ _ _)
      ·exact ⟨h1 hgt,rfl,by rw [hgt];rfl,rfl⟩

theorem zeS {a b:List Nat} (h:zCr a b=true):∀x ∈ a,x ∉ b:=by
 simpa [zCr] using h
theorem zfZ:∀ {wr:List (Nat×Option zbp)}{h:zaq}{o:Nat},o ∉ wr.map (·.1)→zam wr h o=h o
 | [], _, _, _=>rfl
 |(a,x)::l,h,o,hn=>by
  simp only [List.map_cons,List.mem_cons,not_or] at hn
  simp only [zam]
  rw [zfZ hn.2,zbs _ _ hn.1]
theorem zuL {α:Type} (f:Nat→α){a b:Nat} (x y:α) (h:a≠b):upd (upd f a x) b y=upd (upd f b y) a x:=by
 funext j
 simp only [upd]
 by_cases h1:j=b<;>by_cases h2:j=a<;>simp_all
theorem zne:∀ {wr:List (Nat×Option zbp)}{h:zaq}{o:Nat}{x:Option zbp},o ∉ wr.map (·.1)→zam wr (upd h o x)=upd (zam wr h) o x
 | [], _, _, _, _=>rfl
 |(a,y)::l,h,o,x,hn=>by
  simp only [List.map_cons,List.mem_cons,not_or] at hn
  simp only [zam]
  rw [zuL _ _ _ hn.1,zne hn.2]
theorem zkR:∀ {w1 w2:List (Nat×Option zbp)}{h:zaq},(∀o ∈ w1.map (·.1),o ∉ w2.map (·.1))→zam w2 (zam w1 h)=zam w1 (zam w2 h)
 | [], _, _, _=>rfl
 |(a,y)::l,w2,h,hn=>by
  simp only [zam]
  rw [zkR (fun o ho=>hn o (by simp [ho])),zne (hn a ad)]
theorem zim {e:Env}{d:Option Tmp}{x:AV}{t:Tmp} (h:t ∉ d.toList):put e d x t=e t:=by
 cases d with
 |none=>rfl
 |some d=>simp only [Option.toList_some,List.mem_singleton] at h;exact zbs _ _ h
theorem zBV {e:Env}{d d':Option Tmp}{x y:AV} (h:∀t ∈ d.toList,t ∉ d'.toList):put (put e d x) d' y=put (put e d' y) d x:=by
 cases d with
 |none=>rfl
 |some d=>
  cases d' with
  |none=>rfl
  |some d'=>simp only [Option.toList_some,List.mem_singleton,forall_eq] at h;exact zuL _ _ _ h

theorem Tr.bubble {P:Program}{ops:List Oper}{n i:Nat}{o:Oper}{rc:zfj}{L2:List DOp}{e':Env}{h':zaq}:∀ {L1:List DOp}{e:Env}{h:zaq},Tr P ops n (L1++(i,o,rc)::L2) e h e' h'→
  (∀y ∈ L1,zBl ops y.2.1 o y.2.2 rc=true)→∃x wr,zmD P ops (n+i) (n+ops.length+16 * i) o e h x wr rc.1∧wr.map (·.1)=rc.2∧Tr P ops n (L1++L2) (put e o.dst x) (zam wr h) e' h'
 | [],e,h,ht, _=>ht
 |(j,y,ry)::L1,e,h,ht,hf=>by
  obtain ⟨x1,w1,h1,h2,h3⟩:=ht
  obtain ⟨x2,w2,h4,h5,h6⟩:=Tr.bubble h3 fun y hy=>hf y bg
  have hfr:=hf (j,y,ry) ad
  simp only [zBl,Bool.and_eq_true] at hfr
  obtain ⟨⟨⟨⟨⟨f1,f2⟩,f3⟩,f4⟩,f5⟩,f6⟩:=hfr
  have f1:=zeS f1
  have f2:=zeS f2
  have f3:=zeS f3
  have f6:=zeS f6
  have g4:zmD P ops (n+i) (n+ops.length+16 * i) o e h x2 w2 rc.1:=by
   rcases Bool.or_eq_true _ _▸f4 with f4|f4
   ·have f4:=zeS f4
    exact h4.congr (fun t ht=>zim fun hd=>f1 t hd ht) (fun o ho=>zfZ fun hd=>f4 o (h2▸hd) ho)
   ·rw [Bool.and_eq_true] at f4
    exact h4.addr f4.2 (fun t ht=>zim fun hd=>f1 t hd ht) (h1.store_ag f4.1).symm
  have g5:zmD P ops (n+j) (n+ops.length+16 * j) y (put e o.dst x2) (zam w2 h) x1 w1 ry.1:=by
   rcases Bool.or_eq_true _ _▸f5 with f5|f5
   ·have f5:=zeS f5
    exact h1.congr (fun t ht=>(zim fun hd=>f2 t hd ht).symm) (fun o ho=>(zfZ fun hd=>f5 o (h5▸hd) ho).symm)
   ·rw [Bool.and_eq_true] at f5
    exact h1.addr f5.2 (fun t ht=>(zim fun hd=>f2 t hd ht).symm) (g4.store_ag f5.1)
  refine ⟨x2,w2,g4,h5,x1,w1,g5,h2, ?_⟩
  rw [← zBV f3,← zkR (fun o ho ho'=>f6 o (h2▸ho) (h5▸ho'))]
  exact h6

def zm7 (ops:List Oper) (acc:List Nat):Prop:=∀k i,(acc.getD k 0).testBit i=true→∃o,ops[k]? =some o∧∃e ∈ o.after.toList,Region.binds .any e=true∧(e.on=i∨(acc.getD e.on 0).testBit i=true)
theorem zqA {acc:List Nat}{i:Nat}:∀ {l:List Edge}{s:Nat},(l.foldl (fun s e=>if Region.binds .any e then s|||2 ^ e.on|||acc.getD e.on 0 else s) s).testBit i=true→
  s.testBit i=true∨∃e ∈ l,Region.binds .any e=true∧(e.on=i∨(acc.getD e.on 0).testBit i=true)
 | [],s,h=> .inl h
 |e::l,s,h=>by
  simp only [List.foldl_cons] at h
  rcases zqA h with h1|⟨e',he',h2⟩
  ·split at h1
   ·rename_i hb
    simp only [Nat.testBit_or,Nat.testBit_two_pow,Bool.or_eq_true,decide_eq_true_eq] at h1
    rcases h1 with (h1|h1)|h1
    ·exact .inl h1
    ·exact .inr ⟨e,ad,hb, .inl h1⟩
    ·exact .inr ⟨e,ad,hb, .inr h1⟩
   ·exact .inl h1
  ·exact .inr ⟨e',by simp [he'],h2⟩
theorem zum {ops:List Oper}:∀ {l:List Oper}{acc:List Nat},ops.drop acc.length=l→zm7 ops acc→zm7 ops (zv9 l acc)
 | [],acc, _,h=>h
 |o::l,acc,hd,h=>by
  unfold zv9
  have hlt:acc.length<ops.length:=by
   rcases Nat.lt_or_ge acc.length ops.length with h|h
   ·exact h
   ·rw [List.drop_eq_nil_of_le h] at hd;cases hd
  rw [List.drop_eq_getElem_cons hlt] at hd
  simp only [List.cons.injEq] at hd
  refine zum (by simpa using hd.2) fun k i hb=> ?_
  have mono:∀k i,(acc.getD k 0).testBit i=true→∀z,((acc++ [z]).getD k 0).testBit i=true:=by
   intro k i hb z
   rcases Nat.lt_or_ge k acc.length with hk|hk
   ·rw [List.getD_eq_getElem?_getD] at hb ⊢;rw [List.getElem?_append_left hk];exact hb
   ·rw [List.getD_eq_getElem?_getD,List.getElem?_eq_none hk] at hb;simp at hb
  rcases Nat.lt_trichotomy k acc.length with hk|hk|hk
  ·have hb':(acc.getD k 0).testBit i=true:=by
    rw [List.getD_eq_getElem?_getD] at hb ⊢;rw [List.getElem?_append_left hk] at hb;exact hb
   obtain ⟨o',ho',e,he,h1,h2⟩:=h k i hb'
   exact ⟨o',ho',e,he,h1,h2.imp id fun h=>mono _ _ h _⟩
  ·subst hk
   rw [List.getD_eq_getElem?_getD,List.getElem?_append_right (Nat.le_refl _)] at hb
   simp only [Nat.sub_self,List.getElem?_cons_zero,Option.getD_some] at hb
   rcases zqA hb with h1|⟨e,he,h1,h2⟩
   ·simp at h1
   ·exact ⟨o,by rw [List.getElem?_eq_getElem hlt,hd.1],e,he,h1,h2.imp id fun h=>mono _ _ h _⟩
  ·rw [List.getD_eq_getElem?_getD,List.getElem?_eq_none ak] at hb;simp at hb

theorem zuX.sound {P:Program}{φ:zaz}{F:Nat→Prop}{w:World}{M0:Nat→Prop}{h:zaq} (hH:zaE φ F w M0 h){fv:AV}{args:List AV}{r:AV}{S:List Nat} (hp:zuX P fv args h r S){f:Value}{vs:List Value}
  (hf:Rel φ w (Or M0 (Mut φ h)) fv f) (ha:zaJ φ w (Or M0 (Mut φ h)) args vs):
  ∃f' fs cs,f= .func (.func f') ⟨fs⟩ ⟨cs⟩∧zep P f'∧Calls P f' ⟨fs++vs++cs⟩ w fun e w'=>∃v,e= .returned v∧Rel φ w' (Or M0 (Mut φ h)) r v∧zaE φ F w' M0 h∧zc8 φ w M0 h φ w' h:=by
 obtain ⟨f',first,caps,args',rfl,hb,hpu,hc⟩:=hp
 cases hf with
 | @fn _ _ _ fs cs h1 h2=>
  refine ⟨f',fs,cs,rfl,hpu.1, ?_⟩
  have hall:=(h1.append ha).append h2
  rcases hc with ⟨hle,hfl⟩|rfl
  ·have hv:=zce (h':=noH) hH (fun o g sz rs ho=>by cases ho) (hle h fun _ _=>rfl) hb hall
   refine (hpu.2 _ w _ (fun k hk=>hk.elim (hH.m0 k) fun h=>(zaM h).elim) (hH.glob.keep (fun _ _ _=>rfl) (fun k hk=> .inl (hk.imp id fun h=>(zaM h).elim))) hv).mono ?_
   rintro e w' ⟨v,rfl,hr,hfr⟩
   have st:zc8 φ w M0 h φ w' h:=⟨φ.le_refl,fun k hk=> .inl hk,⟨hfr.os,hfr.tape,hfr.output,hfr.drawn,hfr.size,fun k hk _=>hfr.block k hk (fun h=>h)⟩,fun k hk=> .inl hk⟩
   exact ⟨v,rfl,hfl.rel hr,hH.keepw st (fun k hk=>hfr.block k hk fun h=>h),st⟩
  ·have hv:=zce (h':=h) (n:=0) hH (fun o g sz rs ho=>ho) (.refl _ _ _ _) hb hall
   refine (hpu.2 _ w _ (fun k hk=>hH.blk hk) hH.glob hv).mono ?_
   rintro e w' ⟨v,rfl,hr,hfr⟩
   have st:zc8 φ w M0 h φ w' h:=⟨φ.le_refl,fun k hk=> .inl hk,⟨hfr.os,hfr.tape,hfr.output,hfr.drawn,hfr.size,fun k hk _=>hfr.block k hk (fun h=>h)⟩,fun k hk=> .inl hk⟩
   exact ⟨v,rfl,hr.keep (fun o x ho=>by cases ho) (fun _ _ _=>rfl) (fun k hk=> .inl hk),hH.keepw st (fun k hk=>hfr.block k hk fun h=>h),st⟩

theorem zhH:∀ (wr:List (Nat×Option zbp)) (h:zaq) (o:Nat),zam wr h o=h o∨∃p ∈ wr,p.1=o∧zam wr h o=p.2
 | [],h,o=> .inl rfl
 |(k,x)::wr,h,o=>by
  rcases zhH wr (upd h k x) o with h1|⟨p,hp,h2,h3⟩
  ·simp only [zam]
   rw [h1]
   by_cases he:o=k
   ·subst he
    exact .inr ⟨(o,x),ad,rfl,by rw [zax]⟩
   ·exact .inl (zbs _ _ he)
  ·exact .inr ⟨p,by simp [hp],h2,h3⟩
theorem Sh.rel {φ φ':zaz}{w:World}{M M':Nat→Prop}{n:Nat} (hφ:∀o x,φ o=some x→φ' (n+o)=some x) (hM:∀k,M' k→M k){x y:AV} (hs:Sh n x y):∀ {v:Value},Rel φ w M x v→Rel φ' w M' y v:=by
 refine Sh.rec (n:=n) (motive_1:=fun x y _=>∀ {v:Value},Rel φ w M x v→Rel φ' w M' y v) (motive_2:=fun xs ys _=>∀ {vs:List Value},zaJ φ w M xs vs→zaJ φ' w M' ys vs)
  ?_ ?_ ?_ ?_ ?_ ?_ ?_ ?_ hs
 ·intro x hb v hx;exact hx.closed hM hb
 ·intro o g sz i off v hx
  cases hx with|ref ho hg h=>exact .ref (hφ _ _ ho) hg h
 ·intro o g sz i len v hx
  cases hx with|sl ho hg h=>exact .sl (hφ _ _ ho) hg h
 ·intro xs ys _ ih v hx
  cases hx with|agg hv h=>exact .agg hv (ih h)
 ·intro xs ys _ ih v hx
  cases hx with|tup h=>exact .tup (ih h)
 ·intro f a b a' b' _ _ ih1 ih2 v hx
  cases hx with|fn h1 h2=>exact .fn (ih1 h1) (ih2 h2)
 ·intro vs hx;cases hx;exact .nil
 ·intro x y xs ys _ _ ih1 ih2 vs hx
  cases hx with|cons h t=>exact .cons (ih1 h) (ih2 t)
theorem ShL.rel {φ φ':zaz}{w:World}{M M':Nat→Prop}{n:Nat} (hφ:∀o x,φ o=some x→φ' (n+o)=some x) (hM:∀k,M' k→M k):∀ {xs ys:List AV}{vs:List Value},ShL n xs ys→zaJ φ w M xs vs→zaJ φ' w M' ys vs
 | [], _, _, .nil, .nil=> .nil
 | _:: _, _, _, .cons h t, .cons h' t'=> .cons (h.rel hφ hM h') (t.rel hφ hM t')
theorem ShL.length {n:Nat}:∀ {xs ys:List AV},ShL n xs ys→ys.length=xs.length
 | [], _, .nil=>rfl
 | _:: _, _, .cons _ t=>by simp [t.length]
theorem ztL.rel {φ φ':zaz}{w:World}{M M':Nat→Prop}{n:Nat} (hφ:∀o x,φ o=some x→φ' (n+o)=some x) (hM:∀k,M' k→M k){xs ys:List (List AV)} (hs:ztL n xs ys):
  ∀ {vs:List Value},zaJ φ w M xs.flatten vs→zaJ φ' w M' ys.flatten vs:=by
 induction hs with
 |same h=>
  intro vs hx
  refine zEH hx.length fun k hk hk'=>(hx.get k hk hk').closed hM ?_
  obtain ⟨r,hr,hc⟩:=List.mem_flatten.1 (List.getElem_mem hk)
  exact h r hr _ hc
 |nil=>intro vs hx;cases hx;exact .nil
 |cons h _ ih=>
  intro vs hx
  rw [List.flatten_cons] at hx ⊢
  obtain ⟨us,ts,rfl,h1,h2⟩:=hx.split
  exact (h.rel hφ hM h1).append (ih h2)
theorem ztL.shape {n:Nat}{xs ys:List (List AV)} (hs:ztL n xs ys):ys.length=xs.length∧∀sz,(∀r ∈ xs,r.length=sz)→∀r ∈ ys,r.length=sz:=by
 induction hs with
 |same h=>exact ⟨rfl,fun _ h=>h⟩
 |nil=>exact ⟨rfl,fun _ h=>h⟩
 |cons h _ ih=>
  refine ⟨by simp [ih.1],fun sz hr r hm=> ?_⟩
  rcases List.mem_cons.1 hm with rfl|hm
  ·rw [h.length];exact hr _ ad
  ·exact ih.2 sz (fun r hr'=>hr r (by simp [hr'])) r hm
theorem ShH.at {n:Nat}{l l':List (Nat×zbp)} (hs:ShH n l l'){o:Nat}{y:zbp} (ho:mkH l' o=some y):∃o0 x,o=n+o0∧mkH l o0=some x∧ShO n x y:=by
 induction hs with
 |nil=>cases ho
 | @cons o1 x1 y1 l l' h _ ih=>
  simp only [mkH,upd] at ho ⊢
  split at ho
  ·rename_i e
   cases ho
   exact ⟨o1,x1,e,ad,h⟩
  ·rename_i e
   obtain ⟨o0,x,rfl,h1,h2⟩:=ih ho
   exact ⟨o0,x,rfl,by rw [if_neg aa];exact h1,h2⟩

def zel:List (Nat×zbp)→zaq→zaq
 | [],h=>h
 |(o,x)::l,h=>upd (zel l h) o (some x)
theorem zhu (h:zaq):∀ (l:List (Nat×zbp)) (o:Nat),zel l h o=match mkH l o with|some x=>some x|none=>h o
 | [],o=>rfl
 |(a,x)::l,o=>by
  simp only [zel,mkH,upd]
  by_cases e:o=a
  ·simp [e]
  ·simp only [if_neg e];exact zhu h l o
theorem zfV.rel {x:AV} (hf:zfV x){φ:zaz}{w:World}{M M':Nat→Prop}:∀ {v:Value},Rel φ w M x v→Rel φ w M' x v:=by
 have hL:∀ {xs:List AV},(∀x ∈ xs,∀ {v:Value},Rel φ w M x v→Rel φ w M' x v)→∀ {vs:List Value},zaJ φ w M xs vs→zaJ φ w M' xs vs:=by
  intro xs
  induction xs with
  |nil=>intro _ vs h;cases h;exact .nil
  |cons x xs ih=>intro h vs hr;cases hr with|cons a b=>exact .cons (h x ad a) (ih (fun y hy=>h y bg) b)
 induction hf with
 |top=>intro v _;exact .top _
 |v x=>intro v h;cases h;exact .v _
 |ref=>intro v h;cases h with|ref a b c=>exact .ref a b c
 |sl=>intro v h;cases h with|sl a b c=>exact .sl a b c
 |agg _ ih=>intro v h;cases h with|agg a b=>exact .agg a (hL ih b)
 |tup _ ih=>intro v h;cases h with|tup b=>exact .tup (hL ih b)
 |fn _ _ ih1 ih2=>intro v h;cases h with|fn a b=>exact .fn (hL ih1 a) (hL ih2 b)
theorem zfV.relL {φ:zaz}{w:World}{M M':Nat→Prop}:∀ {xs:List AV},(∀x ∈ xs,zfV x)→∀ {vs:List Value},zaJ φ w M xs vs→zaJ φ w M' xs vs
 | [], _, _,h=>by cases h;exact .nil
 |x::xs,h, _,hr=>by cases hr with|cons a b=>exact .cons ((h x ad).rel a) (zfV.relL (fun y hy=>h y bg) b)
theorem zaE.widen {φ:zaz}{F:Nat→Prop}{w':World}{M0 M1:Nat→Prop}{H:zaq}{N:Nat} (hH:zaE φ F w' M0 H) (hO:∀o x,H o=some x→zpH x) (hnew:∀k,Mut φ H k→N≤k) (hM:∀k,M1 k→k<N) (hN:N≤w'.heap.size) (hg:ziF w' (Or (Or M0 M1) (Mut φ H))):
  zaE φ F w' (Or M0 M1) H:=by
 refine ⟨fun k hk=>hk.elim (hH.m0 k) fun h=>Nat.lt_of_lt_of_le (hM k h) hN,hH.fresh,fun o mt g sz rs ho=> ?_,hH.inj,hg⟩
 obtain ⟨A,hA,hc⟩:=hH.obj _ _ _ _ _ ho
 refine ⟨A,hA,hc.imp id ?_⟩
 obtain ⟨hmt,hnf⟩:=hO _ _ ho
 rintro ⟨a,bs,c1,c3,hd⟩
 refine ⟨a,bs,c1,fun hk=>hk.elim c3 fun h=> ?_,hd.same rfl fun c9=>zfV.relL (fun x hx=> ?_) c9⟩
 ·have h1:=hnew a.block ⟨o,g,sz,rs,g,a,bs,by rw [← hmt];exact ho,by rw [hA,c1],rfl⟩
  have h2:=hM _ h
  omega
 ·obtain ⟨r,hr,hx⟩:=List.mem_flatten.1 hx
  exact hnf r hr x hx
theorem Rel.cut2 {φ φ' φ'':zaz}{w w':World}{M M':Nat→Prop} (hF:∀o x,φ o=some x→φ'' o=φ' o){x:AV}{v:Value} (hx:Rel φ' w' M' x v):∀ {v0:Value},Rel φ w M x v0→Rel φ'' w' M' x v:=by
 refine Rel.rec (φ:=φ') (w:=w') (M:=M') (motive_1:=fun x v _=>∀ {v0:Value},Rel φ w M x v0→Rel φ'' w' M' x v) (motive_2:=fun xs vs _=>∀ {vs0:List Value},zaJ φ w M xs vs0→zaJ φ'' w' M' xs vs)
  ?_ ?_ ?_ ?_ ?_ ?_ ?_ ?_ ?_ ?_ ?_ ?_ ?_ ?_ hx
 ·exact fun v _ _=> .top v
 ·exact fun v _ _=> .v v
 ·intro cs vs hv _ ih v0 h0;cases h0 with|agg _ h0=>exact .agg hv (ih h0)
 ·intro cs vs _ ih v0 h0;cases h0 with|tup h0=>exact .tup (ih h0)
 ·exact fun sz A cap _ _=> .nil sz A cap
 ·intro sz rows a len cap C T fz hs hm hb hr hl hc hcap hv _ ih v0 h0
  cases h0 with
  |nil=>exact .lst hs hm hb hr hl hc hcap hv (ih .nil)
  |lst _ _ _ _ _ _ _ _ h0=>exact .lst hs hm hb hr hl hc hcap hv (ih h0)
 ·intro cells a C T fz hs hm hb hc hv _ ih v0 h0
  cases h0 with|fp _ _ _ _ _ h0=>exact .fp hs hm hb hc hv (ih h0)
 ·intro o g sz i off g' A v ho hg h v0 h0
  cases h0 with|ref h1 _ _=>exact .ref dv hg h
 ·intro o g sz i len g' A v ho hg h v0 h0
  cases h0 with|sl h1 _ _=>exact .sl dv hg h
 ·intro o g' A v ho h v0 h0
  cases h0 with|mp h1 _=>exact .mp dv h
 ·intro f first caps fs cs _ _ ih1 ih2 v0 h0;cases h0 with|fn h1 h2=>exact .fn (ih1 h1) (ih2 h2)
 ·intro g x v _ h' ih v0 h0
  cases h0 with|gd k1 k2=>exact .gd (fun hg=>ih hg (k1 hg)) h'
 ·intro vs0 _;exact .nil
 ·intro x v xs vs _ _ ih1 ih2 vs0 h0;cases h0 with|cons k1 k2=>exact .cons (ih1 k1) (ih2 k2)
theorem zaJ.cut2 {φ φ' φ'':zaz}{w w':World}{M M':Nat→Prop} (hF:∀o x,φ o=some x→φ'' o=φ' o):∀ {xs:List AV}{vs vs0:List Value},zaJ φ' w' M' xs vs→zaJ φ w M xs vs0→zaJ φ'' w' M' xs vs
 | [], _, _, .nil, _=> .nil
 | _:: _, _, _, .cons h t, .cons h0 t0=> .cons (h.cut2 hF h0) (t.cut2 hF t0)
theorem zhx {φ φ':zaz}{w:World}{M M':Nat→Prop} (hM:∀k,M' k→M k):∀ {xs:List AV}{vs:List Value},(∀c ∈ xs,Bel 0 c)→zaJ φ w M xs vs→zaJ φ' w M' xs vs
 | [], _, _, .nil=> .nil
 | _:: _, _,hb, .cons h t=> .cons (h.closed hM (hb _ ad)) (zhx hM (fun c hc=>hb c bc) t)
theorem zfo:∀ {HH:List (Nat×zbp)}{h:zaq},(HH.map (·.1)).Nodup→zam (HH.map fun p=>(p.1,some p.2)) h=zel HH h
 | [],h, _=>rfl
 |(o,x)::l,h,hd=>by
  rw [List.map_cons,List.nodup_cons] at hd
  simp only [List.map_cons,zam,zel]
  rw [zfo hd.2]
  funext a
  rw [zhu]
  simp only [upd]
  by_cases e:a=o
  ·subst e
   have:mkH l a=none:=by
    cases hm:mkH l a with
    |none=>rfl
    |some y=>exact absurd (List.mem_map.2 ⟨_,zeK hm,rfl⟩) hd.1
   simp [this]
  ·simp only [if_neg e,zhu]
theorem zpe {P:Program}{b:Nat}{φ:zaz}{F:Nat→Prop} (hFb:∀o,b≤o→o<b+16→F o){w:World}{M0:Nat→Prop}{h:zaq} (hH:zaE φ F w M0 h){f':FuncId}{first caps args args':List AV}{r R0:AV}{H0 HH:List (Nat×zbp)}{k2:Nat}
  (hk16:k2≤16) (hb:∀c ∈ args',Bel 0 c) (hcall:zah P f' args' noH 0 (fun r h n'=>Wk (fun _=>r) h n' [(0,R0)] H0 k2)) (hnR:zfV R0) (hnH:∀p ∈ H0,zpH p.2) (hSR:Sh b R0 r) (hHH:ShH b H0 HH)
  (hnd:(HH.map (·.1)).Nodup) (hle:zav h noH 0 (first++args++caps) args') {f:Value} {vs:List Value}
  (hf:Rel φ w (Or M0 (Mut φ h)) (.fn (.func f') first caps) f) (ha:zaJ φ w (Or M0 (Mut φ h)) args vs):
  ∃f' fs cs,f= .func (.func f') ⟨fs⟩ ⟨cs⟩∧zep P f'∧Calls P f' ⟨fs++vs++cs⟩ w fun e w'=>∃v φ',e= .returned v∧Rel φ' w' (Or M0 (Mut φ' (zam (HH.map fun p=>(p.1,some p.2)) h))) r v∧zaE φ' (fun o=>F o∧¬(b≤o∧o<b+16)) w' M0 (zam (HH.map fun p=>(p.1,some p.2)) h)∧zc8 φ w M0 h φ' w' (zam (HH.map fun p=>(p.1,some p.2)) h):=by
 rw [zfo hnd]
 cases hf with
 | @fn _ _ _ fs cs q1 q2=>
 refine ⟨f',fs,cs,rfl,hcall.1, ?_⟩
 have hargs:=(q1.append ha).append q2
 have hv:=zce (h':=noH) hH (fun o g sz rs ho=>by cases ho) hle hb hargs
 have hM1:∀k,Or M0 (Mut noP noH) k→M0 k:=fun k hk=>hk.elim id fun h=>(zaM h).elim
 have hH1:zhD noP 0 w M0 noH:=⟨fun k hk=>hH.m0 k hk,fun _ _=>rfl,(fun o mt g sz rs ho=>by cases ho),(fun o o' mt g sz rs mt' g' sz' rs' a a' b b' ho=>by cases ho),hH.glob.keep (fun _ _ _=>rfl) (fun k hk=> .inl (.inl (hM1 k hk)))⟩
 refine (hcall.2 _ noP w _ hH1 (hv.keep noP.le_refl (fun _ _ _=>rfl) (fun k hk=> .inl (.inl (hM1 k hk))))).mono ?_
 rintro e w' ⟨v,φ1,r1,h1,n',rfl,hK,hH2,hx,st⟩
 obtain ⟨φ2,hH3,hx3,hm3, _⟩:=hK.sound hH2 (tmps:=fun _=>v) (fun _=>hx)
 have hnw:∀k,Mut φ2 (mkH H0) k→w.heap.size≤k:=fun k hk=>(st.mutd k (hm3 k hk)).elim (fun h=>(zaM h).elim) id
 have hold:∀k,Mut φ h k→k<w.heap.size:=fun k hk=>hH.blk (.inr hk)
 have hfr:∀o x,φ2 o=some x→o<k2:=fun o x ho=>Nat.lt_of_not_le fun hle=>by rw [hH3.fresh o hle] at ho;cases ho
 replace hH3:zhD φ2 k2 w' (Or M0 (Mut φ h)) (mkH H0):=hH3.widen (N:=w.heap.size) (fun o x ho=>hnH _ (zeK ho)) hnw hold st.fr.size
  (hH.glob.keep (fun k _ hk=>st.fr.block k hk zaM) (fun k hk=>hk.imp id (hnw k)))
 replace hx3:Rel φ2 w' (Or (Or M0 (Mut φ h)) (Mut φ2 (mkH H0))) R0 v:=by
  have:=hx3 0
  simp only [mkE,zax] at this
  exact hnR.rel this
 have hheap:∀k,k<w.heap.size→w'.heap[k]? =w.heap[k]? :=fun k hk=>st.fr.block k hk zaM
 let φ3:zaz:=fun o=>if b≤o∧o<b+16 then φ2 (o - b) else φ o
 have e3:∀o x,φ2 o=some x→φ3 (b+o)=some x:=fun o x ho=>by
  have:=hfr o x ho
  simp only [φ3]
  rw [if_pos aa,Nat.add_sub_cancel_left];exact ho
 have e3n:∀o,o<16→φ3 (b+o)=φ2 o:=fun o ho=>by simp only [φ3];rw [if_pos aa,Nat.add_sub_cancel_left]
 have hnb:∀o x,φ o=some x→¬(b≤o∧o<b+16):=fun o x ho hc=>by rw [hH.fresh o (hFb o hc.1 hc.2)] at ho;cases ho
 have e3':∀o,¬(b≤o∧o<b+16)→φ3 o=φ o:=fun o ho=>if_neg ho
 have hle3:φ.le φ3:=fun o x ho=>⟨x,by rw [e3' o (hnb o x ho)];exact ho,Nat.le_refl _,fun _=>rfl⟩
 have hsrc:∀o y,zel HH h o=some y→(∃o0 x,o=b+o0∧mkH H0 o0=some x∧ShO b x y∧o0<16)∨(¬(b≤o∧o<b+16)∧h o=some y):=by
  intro o x ho
  rw [zhu] at ho
  split at ho
  ·rename_i y hy
   cases ho
   obtain ⟨o0,x,k1,k2',k3⟩:=hHH.at hy
   have:=(hK.obj _ (zeK k2')).1
   exact .inl ⟨o0,x,k1,k2',k3,by simp only at this;omega⟩
  ·cases x with
   |rows mt g sz rs=>
    obtain ⟨A,hA, _⟩:=hH.obj _ _ _ _ _ ho
    exact .inr ⟨hnb _ _ hA,ho⟩
 have hmut:∀k,Mut φ3 (zel HH h) k→Mut φ2 (mkH H0) k∨Mut φ h k:=by
  rintro k ⟨o,g,sz,rs,g',a,bs,ho,hp,rfl⟩
  rcases hsrc o _ ho with ⟨o0,x,rfl,h1,h2,h3⟩|⟨h1,h2⟩
  ·cases h2 with
   |rows h2=>rw [e3n _ h3] at hp;exact .inl ⟨o0,g,sz, _,g',a,bs,h1,hp,rfl⟩
  ·rw [e3' o h1] at hp;exact .inr ⟨o,g,sz,rs,g',a,bs,h2,hp,rfl⟩
 have hsub:∀k,Or M0 (Mut φ3 (zel HH h)) k→Or (Or M0 (Mut φ h)) (Mut φ2 (mkH H0)) k:=fun k hk=>hk.elim (fun h=> .inl (.inl h)) fun h=>(hmut k h).elim .inr fun h=> .inl (.inr h)
 have hsub':∀k,Or M0 (Mut φ3 (zel HH h)) k→Or M0 (Mut φ h) k∨w.heap.size≤k:=fun k hk=>hk.elim (fun h=> .inl (.inl h)) fun h=>(hmut k h).elim (fun h=> .inr (hnw k h)) fun h=> .inl (.inr h)
 have hblk:∀o x g' a bs,h o=some x→φ o=some (g',some (a,bs))→a.block<w.heap.size:=by
  intro o x g' a bs ho hp
  cases x with
  |rows mt g sz rs=>
   obtain ⟨A,hA,hc⟩:=hH.obj _ _ _ _ _ ho
   rw [hp] at hA
   simp only [Option.some.injEq,Prod.mk.injEq] at hA
   obtain ⟨rfl,rfl⟩:=hA
   rcases hc with ⟨h, _⟩|⟨a',bs',h, _,h2⟩
   ·cases h
   ·simp only [Option.some.injEq,Prod.mk.injEq] at h
    obtain ⟨rfl,rfl⟩:=h
    exact h2.blk
 have hfar:∀o0 mt g sz rs g' a bs o' y g1 a' b',mkH H0 o0=some (.rows mt g sz rs)→φ2 o0=some (g',some (a,bs))→h o'=some y→φ o'=some (g1,some (a',b'))→
   (mt=true∨∃g sz rs,y= .rows true g sz rs)→a.block≠a'.block:=by
  intro o0 mt g sz rs g' a bs o' y g1 a' b' q1 q2 q3 q4 hm
  have hb':=hblk _ _ _ _ _ q3 q4
  rcases hm with rfl|⟨g2,sz2,rs2,rfl⟩
  ·have:=hnw a.block ⟨o0,g,sz,rs, _,a,bs,q1,q2,rfl⟩
   omega
  ·intro he
   obtain ⟨A,hA,hc⟩:=hH3.obj _ _ _ _ _ q1
   rw [q2] at hA
   simp only [Option.some.injEq,Prod.mk.injEq] at hA
   obtain ⟨_,rfl⟩:=hA
   rcases hc with ⟨h, _⟩|⟨a1,bs1,h,hn0, _⟩
   ·cases h
   ·simp only [Option.some.injEq,Prod.mk.injEq] at h
    obtain ⟨rfl,rfl⟩:=h
    exact hn0 (.inr ⟨o',g2,sz2,rs2, _,a',b',q3,q4,he.symm⟩)
 refine ⟨v,φ3,rfl,hSR.rel e3 hsub hx3,⟨fun k hk=>Nat.lt_of_lt_of_le (hH.m0 k hk) st.fr.size,fun o ho=> ?_,fun o mt g sz rs ho=> ?_,fun o o' mt g sz rs mt' g' sz' rs' a a' b b' ho ho' hne hm hp hp'=> ?_,hH.glob.keep (fun k _ hk=>hheap k hk) hsub'⟩,
  ⟨hle3,hsub',⟨st.fr.os,st.fr.tape,st.fr.output,st.fr.drawn,st.fr.size,fun k hk _=>hheap k hk⟩,fun k hk=>(hmut k hk).elim (fun h=> .inr (hnw k h)) .inl⟩⟩
 ·rw [e3' o ho.2];exact hH.fresh o ho.1
 ·rcases hsrc o _ ho with ⟨o0,x,rfl,h1,h2,h3⟩|⟨h1,h2⟩
  ·cases h2 with
   |rows hs=>
    obtain ⟨A,hA,hc⟩:=hH3.obj _ _ _ _ _ h1
    refine ⟨A,by rw [e3n _ h3];exact hA,hc.imp (fun h=>⟨h.1, ?_⟩) ?_⟩
    ·obtain ⟨_,rfl⟩:=h
     exact List.eq_nil_of_length_eq_zero hs.shape.1
    ·rintro ⟨a,bs,c1,c3,hd⟩
     exact ⟨a,bs,c1,fun hk=>c3 (.inl hk),hd.turn rfl hs.shape.1 (hs.shape.2 sz) (fun c9=>hs.rel e3 hsub c9)⟩
  ·obtain ⟨A,hA,hc⟩:=hH.obj _ _ _ _ _ h2
   refine ⟨A,by rw [e3' o h1];exact hA,hc.imp id ?_⟩
   rintro ⟨a,bs,c1,c3,hd⟩
   exact ⟨a,bs,c1,c3,hd.keep (hheap _ hd.blk) (fun c9=>c9.keep hle3 (fun k _ hk=>hheap k hk) hsub')⟩
 ·rcases hsrc o _ ho with ⟨o0,x,rfl,q1,q2,q3⟩|⟨q1,q2⟩<;>rcases hsrc o' _ ho' with ⟨o0',x',rfl,q1',q2',q3'⟩|⟨q1',q2'⟩
  ·cases q2;cases q2'
   rw [e3n _ q3] at hp;rw [e3n _ q3'] at hp'
   exact hH3.inj _ _ _ _ _ _ _ _ _ _ _ _ _ _ q1 q1' aa hm hp hp'
  ·cases q2
   rw [e3n _ q3] at hp;rw [e3' o' q1'] at hp'
   exact hfar _ _ _ _ _ _ _ _ _ _ _ _ _ q1 hp q2' hp' (hm.imp id fun h=>by subst h;exact ⟨_, _, _,rfl⟩)
  ·cases q2'
   rw [e3' o q1] at hp;rw [e3n _ q3'] at hp'
   exact Ne.symm (hfar _ _ _ _ _ _ _ _ _ _ _ _ _ q1' hp' q2 hp (hm.symm.imp id fun h=>by subst h;exact ⟨_, _, _,rfl⟩))
  ·rw [e3' o q1] at hp;rw [e3' o' q1'] at hp'
   exact hH.inj _ _ _ _ _ _ _ _ _ _ _ _ _ _ q2 q2' hne hm hp hp'
theorem zgY.sound {P:Program}{b:Nat}{φ:zaz}{F:Nat→Prop} (hF:∃n₁,∀o,n₁≤o→F o) (hFb:∀o,b≤o→o<b+16→F o){w:World}{M0:Nat→Prop}{h:zaq} (hH:zaE φ F w M0 h){fv:AV}{args:List AV}{r:AV}{S:List Nat}{wr:List (Nat×Option zbp)} (hp:zgY P b fv args h r S wr){f:Value}{vs:List Value}
  (hf:Rel φ w (Or M0 (Mut φ h)) fv f) (ha:zaJ φ w (Or M0 (Mut φ h)) args vs):
  ∃f' fs cs,f= .func (.func f') ⟨fs⟩ ⟨cs⟩∧zep P f'∧Calls P f' ⟨fs++vs++cs⟩ w fun e w'=>∃v φ',e= .returned v∧Rel φ' w' (Or M0 (Mut φ' (zam wr h))) r v∧zaE φ' (fun o=>F o∧(S.contains zdd=true→¬(b≤o∧o<b+16))) w' M0 (zam wr h)∧zc8 φ w M0 h φ' w' (zam wr h):=by
 suffices hsuf:(zdd ∈ S∧∃f' fs cs,f= .func (.func f') ⟨fs⟩ ⟨cs⟩∧zep P f'∧Calls P f' ⟨fs++vs++cs⟩ w fun e w'=>∃v φ',e= .returned v∧Rel φ' w' (Or M0 (Mut φ' (zam wr h))) r v∧zaE φ' (fun o=>F o∧¬(b≤o∧o<b+16)) w' M0 (zam wr h)∧zc8 φ w M0 h φ' w' (zam wr h))∨
   ∃f' fs cs,f= .func (.func f') ⟨fs⟩ ⟨cs⟩∧zep P f'∧Calls P f' ⟨fs++vs++cs⟩ w fun e w'=>∃v φ',e= .returned v∧Rel φ' w' (Or M0 (Mut φ' (zam wr h))) r v∧zaE φ' F w' M0 (zam wr h)∧zc8 φ w M0 h φ' w' (zam wr h) by
  rcases hsuf with ⟨hnm,f',fs,cs,k1,k2,k3⟩|⟨f',fs,cs,k1,k2,k3⟩
  ·exact ⟨f',fs,cs,k1,k2,k3.mono fun e w' ⟨v,φ',j1,j2,j3,j4⟩=>⟨v,φ',j1,j2,j3.sub fun o ho=>⟨ho.1,ho.2 (by simpa using hnm)⟩,j4⟩⟩
  ·exact ⟨f',fs,cs,k1,k2,k3.mono fun e w' ⟨v,φ',j1,j2,j3,j4⟩=>⟨v,φ',j1,j2,j3.sub fun o ho=>ho.1,j4⟩⟩
 rcases hp with ⟨rfl,hp⟩|⟨f',first,caps,args',rfl,hb,hpu,hw,hc⟩|⟨f',first,caps,rfl,hS,hw,hfl,hc⟩|⟨f',first,caps,args',R0,H0,HH,k2,rfl,hnm,hk16,hb,hcall,hnR,hnH,hSR,hHH,hnd,rfl,hle⟩
 rotate_right
 ·exact .inl ⟨hnm,zpe hFb hH hk16 hb hcall hnR hnH hSR hHH hnd (hle h fun _ _=>rfl) hf ha⟩
 all_goals refine .inr ?_
 ·obtain ⟨f',fs,cs,h1,h2,h3⟩:=hp.sound hH hf ha
  exact ⟨f',fs,cs,h1,h2,h3.mono fun e w' ⟨v,k1,k2,k3,k4⟩=>⟨v,φ,k1,k2,k3,k4⟩⟩
 ·have hfz:Frz h (zam wr h):=fun o=>by
   rcases zhH wr h o with h1|⟨p,hp,rfl,h3⟩
   ·exact .inl h1
   ·obtain ⟨_,g,sz,rs,h4,h5⟩:=hw p hp
    exact .inr ⟨g,sz,rs,h5,h3.trans h4⟩
  obtain ⟨hH',st0⟩:=hH.freeze hfz
  have hmt:∀o g sz rs,zam wr h o=some (.rows true g sz rs)→h o=some (.rows true g sz rs):=by
   intro o g sz rs ho
   rcases hfz o with h1|⟨g1,sz1,rs1,h1,h2⟩
   ·rw [← h1];exact ho
   ·rw [h2] at ho;cases ho
  cases hf with
  | @fn _ _ _ fs cs h1 h2=>
   refine ⟨f',fs,cs,rfl,hpu.1, ?_⟩
   have hall:=(h1.append ha).append h2
   have hv:=zce (h':=zam wr h) hH hmt (hc h fun _ _=>rfl) hb hall
   refine (hpu.2 _ w _ (fun k hk=>hH'.blk hk) hH'.glob hv).mono ?_
   rintro e w' ⟨v,rfl,hr,hfr⟩
   have st:zc8 φ w M0 (zam wr h) φ w' (zam wr h):=⟨φ.le_refl,fun k hk=> .inl hk,⟨hfr.os,hfr.tape,hfr.output,hfr.drawn,hfr.size,fun k hk _=>hfr.block k hk (fun h=>h)⟩,fun k hk=> .inl hk⟩
   exact ⟨v,φ,rfl,hr.keep (fun o x ho=>by cases ho) (fun _ _ _=>rfl) (fun k hk=> .inl hk),hH'.keepw st (fun k hk=>hfr.block k hk fun h=>h),st0.trans st⟩
 ·obtain ⟨n₁,hn₁⟩:=hF
  have hHn:zhD φ n₁ w M0 h:=hH.sub fun o ho=>hn₁ o ho
  have hSn:∀o ∈ S,o<n₁:=fun o ho=>by
   obtain ⟨x,hx⟩:=hS o ho
   cases x with
   |rows mt g sz rs=>
    obtain ⟨A,hA, _⟩:=hH.obj _ _ _ _ _ hx
    exact Nat.lt_of_not_le fun hle=>by rw [hHn.fresh o hle] at hA;cases hA
  have hcall:=hc h n₁ (fun _ _=>rfl) hSn
  cases hf with
  | @fn _ _ _ fs cs h1 h2=>
   refine ⟨f',fs,cs,rfl,hcall.1, ?_⟩
   have hall:=(h1.append ha).append h2
   refine (hcall.2 M0 φ w _ hHn hall).mono ?_
   rintro e w' ⟨v,φ',r',h',n',rfl,⟨rfl,rfl,rfl⟩,hH',hx,st⟩
   have hold:∀o x,φ o=some x→¬F o:=fun o x ho hFo=>by rw [hH.fresh o hFo] at ho;cases ho
   have hlive:∀o x,zam wr h o=some x→∃y,φ o=some y:=by
    intro o x ho
    have hy:∃y,h o=some y:=by
     rcases zhH wr h o with h1|⟨p,hp,rfl,h3⟩
     ·exact ⟨x,h1.symm.trans ho⟩
     ·exact hS _ (hw p hp).1
    obtain ⟨y,hy⟩:=hy
    cases y with
    |rows mt g sz rs=>
     obtain ⟨A,hA, _⟩:=hH.obj _ _ _ _ _ hy
     exact ⟨_,hA⟩
   haveI:DecidablePred F:=fun o=>Classical.propDecidable _
   let φ'':zaz:=fun o=>if F o then none else φ' o
   have e1:∀o,¬F o→φ'' o=φ' o:=fun o ho=>if_neg ho
   have e2:∀o x,φ o=some x→φ'' o=φ' o:=fun o x ho=>e1 o (hold o x ho)
   have e3:∀o x,zam wr h o=some x→φ'' o=φ' o:=fun o x ho=>by obtain ⟨y,hy⟩:=hlive o x ho;exact e2 o y hy
   have hmut:∀k,Mut φ'' (zam wr h) k→Mut φ' (zam wr h) k:=by
    rintro k ⟨o,g,sz,rs,g',a,bs,ho,hp,rfl⟩
    rw [e3 o _ ho] at hp
    exact ⟨o,g,sz,rs,g',a,bs,ho,hp,rfl⟩
   have hmut':∀k,Or M0 (Mut φ'' (zam wr h)) k→Or M0 (Mut φ' (zam wr h)) k:=fun k hk=>hk.imp id (hmut k)
   refine ⟨v,φ'',rfl, ?_,⟨hH'.m0,fun o ho=>if_pos ho,fun o mt g sz rs ho=> ?_,fun o o' mt g sz rs mt' g' sz' rs' a a' b b' ho ho' hne hmm hp hp'=> ?_,hH'.glob.keep (fun _ _ _=>rfl) (fun k hk=> .inl (hmut' k hk))⟩,⟨fun o x ho=> ?_,fun k hk=>st.or k (hmut' k hk),st.fr,fun k hk=>st.mutd k (hmut k hk)⟩⟩
   ·rcases hfl with hfl|⟨o,g,sz,i,len,rfl,ho⟩
    ·exact hfl.rel hx
    ·obtain ⟨p,hp,rfl⟩:=List.mem_map.1 ho
     obtain ⟨y,hy⟩:=hS _ (hw p hp).1
     have hy':∃z,φ p.1=some z:=by
      cases y with
      |rows mt g sz rs=>
       obtain ⟨A,hA, _⟩:=hH.obj _ _ _ _ _ hy
       exact ⟨_,hA⟩
     obtain ⟨z,hz⟩:=hy'
     cases hx with
     |sl k1 k2 k3=>exact .sl (by rw [e2 _ _ hz];exact k1) k2 k3
   ·obtain ⟨A,hA,hcc⟩:=hH'.obj _ _ _ _ _ ho
    refine ⟨A,by rw [e3 o _ ho];exact hA,hcc.imp id ?_⟩
    rintro ⟨a,bs,c1,c3,hd⟩
    refine ⟨a,bs,c1,c3,hd.same rfl fun c9=> ?_⟩
    replace c9:zaJ φ' w' (Or M0 (Mut φ'' (zam wr h))) rs.flatten _:=c9.keep φ'.le_refl (fun _ _ _=>rfl) (fun k hk=> .inl (hmut' k hk))
    rcases zhH wr h o with k1|⟨p,hp,rfl,k3⟩
    ·rw [k1] at ho
     obtain ⟨A0, _,hc0⟩:=hH.obj _ _ _ _ _ ho
     rcases hc0 with ⟨_,rfl⟩|⟨a0,bs0, _, _,hd0⟩
     ·cases c9;exact .nil
     ·obtain ⟨vs0,d9⟩:=hd0.rel0
      exact c9.cut2 e2 d9
    ·obtain ⟨_,g1,sz1,rs1,q1,q2⟩:=hw p hp
     rw [k3,q1] at ho
     cases ho
     refine zhx (fun _ h=>h) (fun c hc=> ?_) c9
     obtain ⟨r,hr,hc⟩:=List.mem_flatten.1 hc
     exact q2 r hr c hc
   ·rw [e3 o _ ho] at hp
    rw [e3 o' _ ho'] at hp'
    exact hH'.inj _ _ _ _ _ _ _ _ _ _ _ _ _ _ ho ho' hne hmm hp hp'
   ·rw [e2 o x ho];exact st.le o x ho

structure SRF {P:Program} (B:zfg P) (N:Nat) (M:Nat→Prop) (F:Nat→Prop) (φ:zaz) (e:Env) (h:zaq) (a:Act) (w:World):Prop where
 env:∀t,Rel φ w (Or M (Mut φ h)) (e t) (a.tmps.getD t undef)
 size:a.tmps.size=N
 defs:zfU B.lo M a.defers w
 heap:zaE φ F w M h
 ok:B.ok (e GH) M φ w h
 small:N≤GH
theorem SRF.put {P:Program}{B:zfg P}{N:Nat}{M:Nat→Prop}{F F':Nat→Prop}{φ φ':zaz}{e:Env}{h h':zaq}{a:Act}{w w':World} (hs:SRF B N M F φ e h a w){dst:Option Tmp} (hd:match dst with|none=>True|some d=>d<N)
  {x:AV} {v:Value} (hx:Rel φ' w' (Or M (Mut φ' h')) x v) (hH:zaE φ' F' w' M h') (st:zc8 φ w M h φ' w' h'):SRF B N M F' φ' (put e dst x) h' (a.put dst v) w':=by
 cases dst with
 |none=>exact ⟨fun t=>st.rel (hs.env t),hs.size,hs.defs.step hs.heap st,hH,B.step hs.ok st,hs.small⟩
 |some d=>
  refine ⟨fun t=> ?_,by simp [Act.put,hs.size],hs.defs.step hs.heap st,hH,by rw [zCG hd hs.small];exact B.step hs.ok st,hs.small⟩
  simp only [Av.put,Act.put,upd]
  by_cases ht:t=d
  ·subst ht
   rw [if_pos rfl]
   have:t<a.tmps.size:=by rw [hs.size];exact hd
   simpa [Array.getD_eq_getD_getElem?,this] using hx
  ·rw [if_neg ht]
   have:(a.tmps.setIfInBounds d v).getD t undef=a.tmps.getD t undef:=by
    simp [Array.getD_eq_getD_getElem?,Array.getElem?_setIfInBounds,Ne.symm ht]
   rw [this]
   exact st.rel (hs.env t)

theorem zja {P:Program}{k:Nat}{op:Op}{e:Env}{h:zaq} (hc:(aev P k op e h).cond):∀c,op≠ .defer c:=by
 intro c hop
 rw [hop] at hc
 exact hc
theorem zuE {P:Program}{b:Nat}{B:zfg P}{N:Nat}{M:Nat→Prop}{F:Nat→Prop}{r:Option Nat}{m:Nat}{φ:zaz}{e e':Env}{h:zaq}{a:Act}{w:World}{o:Oper}{k:Nat}{x:AV}{wr:List (Nat×Option zbp)}{rd:List Nat}{K:Act→World→Prop}{Q:Exit→Act→World→Prop}
  (hs:SRF B N M F φ e h a w) (hF:∃n₁,∀o,n₁≤o→F o) (hFb:∀o,b≤o→o<b+16→F o) (hk:F k) (hev:∀x ∈ o.op.operands,Rel φ w (Or M (Mut φ h)) (ev e' x) (a.eval x)) (hr:Raw P k b o.op e' h x wr rd)
  (hK:∀v φ' w',Rel φ' w' (Or M (Mut φ' (zam wr h))) x v→zaE φ' (fun o=>F o∧o≠k∧(rd.contains zdd=true→¬(b≤o∧o<b+16))) w' M (zam wr h)→zc8 φ w M h φ' w' (zam wr h)→K (a.put o.dst v) w'):o.wpIn (WF r) m P a w K Q:=by
 have habout:∀f,Oper.about P w a.eval o=some f→(WF r).fn f:=fun _ _=>trivial
 have hdepth:(WF r).depth.isSome=true→1≤m:=by intro h;simp [WF,Fence.wide] at h
 refine ⟨habout, ?_⟩
 unfold Raw at hr
 split at hr
 ·rename_i fo args ats hop
  have hp:=hr
  rw [Oper.semAt_eq _ _ _ (fun c=>by rw [hop];simp)]
  have hfo:=hev fo ax
  have hargs:zaJ φ w (Or M (Mut φ h)) (args.toList.map (ev e')) (args.toList.map a.eval):=zgP fun x hx=>hev x dG
  obtain ⟨f',fs,cs,hval,hen,hcalls⟩:=hp.sound hF hFb hs.heap hfo hargs
  have hrun:=zuI (P:=P) (w:=w) (args:=args) (ats:=ats) (ty:=o.type) hval hen
  have hex:execOp a.eval o=(do let d ← resolve a.eval { callee:= .value fo,args,argTypes:=ats} o.type;invoke d.target d.args):=aA
  rw [hex,hrun]
  refine ⟨hdepth,ziM (hcalls.mono ?_)⟩
  rintro en w' ⟨v,φ',rfl,hx,hH',st⟩
  exact hK v φ' w' hx (hH'.sub fun o ho=>⟨ho.1,ho.2.2⟩) st
 ·obtain ⟨hc,rfl,rfl, _⟩:=hr
  rw [Oper.semAt_eq _ _ _ (zja hc)]
  obtain ⟨nx,v,w',φ',hrun,hnx,hx,hH',st⟩:=ztQ hs.heap hk hev hc
  rw [hrun]
  replace hH':=hH'.sub (F':=fun u=>F u∧u≠k∧(rd.contains zdd=true→¬(b≤u∧u<b+16))) fun u ho=>by
   generalize (aev P k o.op e' h).al=al
   cases al with
   |zero=>exact ho.1
   |succ j=>exact ⟨ho.1,ho.2.1⟩
  rcases hnx with rfl|⟨rfl,rfl⟩
  ·exact hK v φ' w' hx hH' st
  ·exact hK undef φ' w' hx hH' st
theorem zD3 {P:Program}{b:Nat}{B:zfg P}{N:Nat}{M:Nat→Prop}{F:Nat→Prop}{r:Option Nat}{m:Nat}{φ:zaz}{e:Env}{h:zaq}{a:Act}{w:World}{ops:Array Oper}{i:Nat}{o:Oper}{k:Nat}{x:AV}{wr:List (Nat×Option zbp)}{rd:List Nat}{K:Act→World→Prop}{Q:Exit→Act→World→Prop}
  (hi:ops[i]? =some o) (hd:match o.dst with|none=>True|some d=>d<N) (hs:SRF B N M F φ e h a w) (hF:∃n₁,∀o,n₁≤o→F o) (hFb:∀o,b≤o→o<b+16→F o) (hk:F k) (hr:zmD P ops.toList k b o e h x wr rd)
  (hK:∀φ' a' w',SRF B N M (fun o=>F o∧o≠k∧(rd.contains zdd=true→¬(b≤o∧o<b+16))) φ' (put e o.dst x) (zam wr h) a' w'→K a' w'):wpOpIn (WF r) m P ops Q i K a w:=by
 have hev:∀x,Rel φ w (Or M (Mut φ h)) (ev e x) (a.eval x):=zuH hs.heap.glob hs.env
 unfold wpOpIn
 rw [hi]
 simp only
 unfold zmD at hr
 split at hr
 ·rename_i hg
  have hw:Region.wanted o (yielded ops a.tmps)=true:=by simp [Region.wanted,hg]
  rw [if_pos hw]
  exact zuE hs hF hFb hk (fun x _=>hev x) hr fun v φ' w' hx hH' st=>hK φ' _ w' (hs.put hd hx hH' st)
 ·rename_i j want hg
  obtain ⟨t,g,y,ht,hb,hok,rfl,hwf,hraw⟩:=hr
  have hw:=zh2 hs.env hg (by rw [ht];exact hb)
  rw [hw]
  cases g with
  |true=>
   rw [if_pos rfl]
   refine zuE (e':=gE o.op e) hs hF hFb hk (fun x hx=> ?_) (hraw rfl) fun v φ' w' hx hH' st=>hK φ' _ w' (hs.put hd (.gd (fun _=>hx) (fun h=>by cases h)) hH' st)
   rcases gE_or o.op e with ⟨he1, _⟩|⟨he1,he2⟩
   ·rw [he1];exact hev x
   rw [he1]
   rw [he2] at hok
   cases x with
   |tmp t=>
    have hmt:t ∈ zcD o.op:=by
     simp only [zcD,List.mem_filterMap]
     exact ⟨.tmp t,aN,rfl⟩
    have h1:=hok t hmt
    have h2:=hs.env t
    simp only [ev]
    show Rel φ w _ (unG (e t)) (a.tmps.getD t undef)
    generalize e t=y at h1 h2
    cases y with
    |gd g' y=>cases h2 with|gd h3 _=>exact h3 (h1 rfl)
    | _=>exact h2
   |const v=>exact hev (.const v)
   |global g=>exact hev (.global g)
   |func f=>exact hev (.func f)
  |false=>
   rw [if_neg ad]
   obtain rfl:=hwf rfl
   exact ⟨fun _ _=>trivial,hK φ _ w (hs.put hd (.gd (fun h=>by cases h) (fun _=>rfl)) (hs.heap.sub fun o ho=>ho.1) (.refl _ _ _ _))⟩

theorem zzE {α:Type}{l:List α}{x:α} (h:x ∈ l):∃a b,l=a++x::b:=List.append_of_mem h
theorem zsP {listed:Array Bool}{i:Nat} (hi:i<listed.size):listed.getD i true=listed.getD i false:=by simp [Array.getD_eq_getD_getElem?,hi]
theorem zlR {ops:Array Oper}{mk:List Nat}{listed:Array Bool} (hmk:zm7 ops.toList mk) (hsz:listed.size=ops.size) (hea:∀ (i:Nat) o,ops[i]? =some o→∀ed ∈ o.after.toList,Region.binds .any ed=true→ed.on<i)
  (hcl:∀i,listed.getD i false=true→∀j,(mk.getD i 0).testBit j=true→listed.getD j true=true) {i:Nat} {o:Oper} (ho:ops[i]? =some o) (hpre:∀ed ∈ o.after.toList,Region.binds .any ed=true→listed.getD ed.on false=true):
  ∀j,(mk.getD i 0).testBit j=true→listed.getD j true=true:=by
 intro j hj
 have hi:i<ops.size:=by
  rcases Nat.lt_or_ge i ops.size with h|h
  ·exact h
  ·rw [Array.getElem?_eq_none h] at ho;cases ho
 obtain ⟨o1,ho1,ed,he,hb,h1⟩:=hmk _ _ hj
 rw [Array.getElem?_toList,ho] at ho1
 simp only [Option.some.injEq] at ho1
 subst ho1
 have hlst:=hpre ed he hb
 have hlt:=hea i o ho ed he hb
 rcases h1 with rfl|h1
 ·rw [zsP aa];exact hlst
 ·exact hcl _ hlst _ h1
theorem zvg {F:Fence}{m:Nat}{P:Program}{ops:Array Oper}{Q:Exit→Act→World→Prop}{mk:List Nat} (hmk:zm7 ops.toList mk) (hea:∀ (i:Nat) o,ops[i]? =some o→∀ed ∈ o.after.toList,Region.binds .any ed=true→ed.on<i){k:Nat}
  (hsp:∀j,k≤j→j<ops.size→∀i,i<j→(mk.getD j 0).testBit i=true):∀ (c i fuel:Nat) (listed:Array Bool) (a:Act) (w:World),i+c=ops.size→k≤i→c≤fuel→listed.size=ops.size→
  (∀j,listed.getD j true=false↔i≤j∧j<ops.size)→(∀i,listed.getD i false=true→∀j,(mk.getD i 0).testBit j=true→listed.getD j true=true)→
  wpOpsIn F m P ops Q (List.range' i c) a w→wpAnyIn F m P .any ops Q fuel listed a w:=by
 intro c
 induction c with
 |zero=>
  intro i fuel listed a w hi hk hf hsz hl hcl h
  have hnil:Region.ready .any ops listed= []:=List.eq_nil_iff_forall_not_mem.2 fun j hj=>by
   have:=(hl j).1 (mem_ready.1 hj).1
   omega
  cases fuel with
  |zero=>exact ⟨hnil,h⟩
  |succ fuel=>exact ⟨fun _=>h,fun j hj=>by rw [hnil] at hj;cases hj⟩
 |succ c ih=>
  intro i fuel listed a w hi hk hf hsz hl hcl h
  obtain ⟨fuel,rfl⟩:∃f,fuel=f+1:=⟨fuel - 1,aa⟩
  have hlt:i<ops.size:=aa
  have hdone:∀j,j<i→listed.getD j true=true:=fun j hj=>by
   cases hc:listed.getD j true with
   |true=>rfl
   |false=>have:=(hl j).1 hc;omega
  refine ⟨fun hnil=> ?_,fun j hj=> ?_⟩
  ·have:i ∈ Region.ready .any ops listed:=by
    refine mem_ready.2 ⟨(hl i).2 ⟨Nat.le_refl _,hlt⟩,ops[i],Array.getElem?_eq_getElem hlt,fun ed he hb=> ?_⟩
    have h1:=hea i _ (Array.getElem?_eq_getElem hlt) ed cD hb
    rw [← zsP aa]
    exact hdone _ h1
   rw [hnil] at this
   cases this
  ·obtain ⟨hun,o,ho,hpre⟩:=mem_ready.1 hj
   obtain ⟨h1,h2⟩:=(hl j).1 hun
   have hm:=zlR hmk hsz hea hcl ho (fun ed he hb=>hpre ed cD hb)
   have hji:j=i:=by
    rcases Nat.lt_or_ge i j with h3|h3
    ·have:=hm _ (hsp j aa h2 i h3)
     rw [(hl i).2 ⟨Nat.le_refl _,hlt⟩] at this
     cases this
    ·omega
   subst hji
   rw [List.range'_succ,wpOpsIn_cons] at h
   refine wpOpIn_mono (fun a w h=>ih (j+1) fuel (listed.setIfInBounds j true) a w aa aa aa (by simpa using hsz) (fun b=> ?_) (fun b hb d hd=> ?_) h) h
   ·by_cases hbj:b=j
    ·subst hbj
     simp [Array.getD_eq_getD_getElem?,hsz,hlt]
    ·rw [getD_set_ne true (Ne.symm hbj),hl]
     omega
   ·have hset:∀b,listed.getD b true=true→(listed.setIfInBounds j true).getD b true=true:=by
     intro b hb
     by_cases hbi:b=j
     ·subst hbi;simp [Array.getD_eq_getD_getElem?,hsz,hlt]
     ·rw [getD_set_ne true (Ne.symm hbi)];exact hb
    by_cases hbj:b=j
    ·subst hbj;exact hset _ (hm _ hd)
    ·rw [getD_set_ne false (Ne.symm hbj)] at hb
     exact hset _ (hcl _ hb _ hd)
theorem zxq {P:Program}{B:zfg P}{N:Nat}{M:Nat→Prop}{r:Option Nat}{m:Nat}{ops:Array Oper}{Q:zbV}{n:Nat}{mk:List Nat}{e':Env}{h':zaq} (hd:∀o ∈ ops.toList,match o.dst with|none=>True|some d=>d<N)
  (hmk:zm7 ops.toList mk) (hea:∀ (i:Nat) o,ops[i]? =some o→∀ed ∈ o.after.toList,Region.binds .any ed=true→ed.on<i) {k:Nat} (hkz:k≤ops.size) (hsp:∀j,k≤j→j<ops.size→∀i,i<j→(mk.getD j 0).testBit i=true)
  {T:Nat} (hT:n+ops.size≤T) (hq:zdA P ops.toList Q (ops.toList.drop k) e' h' T):∀ (fuel:Nat) (listed:Array Bool) (L:List DOp) {φ:zaz} {e:Env} {h:zaq} {a:Act} {w:World},
  L.length+(ops.size - k)≤fuel→listed.size=ops.size→(∀y ∈ L,ops[y.1]? =some y.2.1∧listed.getD y.1 true=false∧y.1<k)→
  ((∀i,listed.getD i true=false→(∃y ∈ L,y.1=i)∨k≤i)∧∀i,k≤i→i<ops.size→listed.getD i true=false)→
  L.Pairwise (fun y x=>y.1<x.1∧((mk.getD x.1 0).testBit y.1=true∨zBl ops.toList y.2.1 x.2.1 y.2.2 x.2.2=true))→
  (∀i,listed.getD i false=true→∀j,(mk.getD i 0).testBit j=true→listed.getD j true=true)→
  (T=n+ops.size+16 * ops.size∨∀y ∈ L,y.2.2.1.contains zdd=false)→
  SRF B N M (fun o=>T≤o∨∃y ∈ L,o=n+y.1∨(n+ops.size+16 * y.1≤o∧o<n+ops.size+16 * y.1+16)) φ e h a w→Tr P ops.toList n L e h e' h'→
  wpAnyIn (WF r) m P .any ops (SQ B N Q) fuel listed a w:=by
 intro fuel
 have htf:∀ (listed:Array Bool) (i:Nat),i<listed.size→listed.getD i true=listed.getD i false:=fun _ _ h=>zsP h
 have hend:∀ (fuel:Nat) (listed:Array Bool) {φ:zaz} {e:Env} {h:zaq} {a:Act} {w:World},ops.size - k≤fuel→listed.size=ops.size→((∀i,listed.getD i true=false→(∃y ∈ ([]:List DOp),y.1=i)∨k≤i)∧∀i,k≤i→i<ops.size→listed.getD i true=false)→
   (∀i,listed.getD i false=true→∀j,(mk.getD i 0).testBit j=true→listed.getD j true=true)→
   SRF B N M (fun o=>T≤o∨∃y ∈ ([]:List DOp),o=n+y.1∨(n+ops.size+16 * y.1≤o∧o<n+ops.size+16 * y.1+16)) φ e h a w→Tr P ops.toList n [] e h e' h'→
   wpAnyIn (WF r) m P .any ops (SQ B N Q) fuel listed a w:=by
  intro fuel listed φ e h a w hl hsz hU hcl hs ht
  obtain ⟨rfl,rfl⟩:=ht
  refine zvg hmk hea hsp (ops.size - k) k fuel listed a w aa (Nat.le_refl _) hl hsz (fun j=>⟨fun hj=> ?_,fun hj=>hU.2 j hj.1 hj.2⟩) hcl (znd hd (ops.size - k) k aa (n:=T) ⟨hs.env,hs.size,hs.defs,hs.heap.sub fun o ho=> .inl ho,hs.ok,hs.small⟩ hq)
  rcases hU.1 j hj with ⟨y,hy, _⟩|h1
  ·cases hy
  ·refine ⟨h1, ?_⟩
   rcases Nat.lt_or_ge j ops.size with h|h
   ·exact h
   ·simp [Array.getD_eq_getD_getElem?,hsz,Nat.not_lt.2 h] at hj
 induction fuel with
 |zero=>
  intro listed L φ e h a w hl hsz hL hU hp hcl hTL hs ht
  have:L= []:=List.eq_nil_of_length_eq_zero aa
  subst this
  exact hend 0 listed (by simp only [List.length_nil] at hl;omega) hsz hU hcl hs ht
 |succ fuel ih=>
  intro listed L φ e h a w hl hsz hL hU hp hcl hTL hs ht
  by_cases hLn:L= []
  ·subst hLn
   exact hend (fuel+1) listed (by simp only [List.length_nil] at hl;omega) hsz hU hcl hs ht
  refine ⟨fun hnil=> ?_,fun i hi=> ?_⟩
  ·cases L with
   |nil=>exact absurd rfl hLn
   |cons x L=>
    have hx:=hL x ad
    have:x.1 ∈ Region.ready .any ops listed:=by
     refine mem_ready.2 ⟨hx.2.1,x.2.1,hx.1,fun ed he hb=> ?_⟩
     have hlt:=hea _ _ hx.1 ed cD hb
     have hsz1:x.1<ops.size:=by
      rcases Nat.lt_or_ge x.1 ops.size with h|h
      ·exact h
      ·rw [Array.getElem?_eq_none h] at hx;cases hx.1
     rw [← htf _ _ aa]
     cases hc:listed.getD ed.on true with
     |true=>rfl
     |false=>
      rcases hU.1 _ hc with ⟨y,hy,he⟩|h1
      ·rcases List.mem_cons.1 hy with rfl|hy
       ·omega
       ·have:=(List.pairwise_cons.1 hp).1 y hy
        omega
      ·omega
    rw [hnil] at this
    cases this
  ·obtain ⟨hun,o,ho,hpre⟩:=mem_ready.1 hi
   have hmask0:=zlR hmk hsz hea hcl ho (fun ed he hb=>hpre ed cD hb)
   obtain ⟨⟨i',o',rc⟩,hy,rfl⟩:∃y ∈ L,y.1=i:=by
    rcases hU.1 i hun with h1|h1
    ·exact h1
    ·obtain ⟨x,L',rfl⟩:=List.exists_cons_of_ne_nil hLn
     have hx:=hL x ad
     have hi':i<ops.size:=by
      rcases Nat.lt_or_ge i ops.size with h|h
      ·exact h
      ·rw [Array.getElem?_eq_none h] at ho;cases ho
     have:=hmask0 _ (hsp i h1 hi' x.1 aa)
     rw [hx.2.1] at this
     cases this
   have hx:=hL _ hy
   simp only at ho hun hx hpre
   rw [ho] at hx
   obtain ⟨heq,hx2,hx3⟩:=hx
   simp only [Option.some.injEq] at heq
   subst heq
   have hsz1:i'<ops.size:=by
    rcases Nat.lt_or_ge i' ops.size with h|h
    ·exact h
    ·rw [Array.getElem?_eq_none h] at ho;cases ho
   have hmask:=hmask0
   obtain ⟨L1,L2,rfl⟩:=zzE hy
   rw [List.pairwise_append] at hp
   obtain ⟨hp1,hp2,hp12⟩:=hp
   rw [List.pairwise_cons] at hp2
   obtain ⟨x,wr,hok,hwr,ht'⟩:=ht.bubble fun y hy=>by
    have h1:=hp12 y hy (i',o,rc) ad
    rcases h1.2 with h2|h2
    ·have:=hmask _ h2
     rw [(hL y bg).2.1] at this
     cases this
    ·exact h2
   have hne:∀y ∈ L1++L2,y.1≠i':=by
    intro y hy
    rcases List.mem_append.1 hy with hy|hy
    ·have:=(hp12 y hy (i',o,rc) ad).1
     simp only at this
     omega
    ·have:=(hp2.1 y hy).1
     simp only at this
     omega
   refine zD3 ho (hd o (by rw [← Array.getElem?_toList] at ho;exact List.mem_of_getElem? ho)) hs ⟨T,fun q hq=> .inl hq⟩ (fun q h1 h2=> .inr ⟨(i',o,rc),ad, .inr ⟨bi,aZ⟩⟩) (.inr ⟨(i',o,rc),ad, .inl rfl⟩) hok fun φ' a' w' hs'=> ?_
   refine ih _ (L1++L2) (by simp only [List.length_append,List.length_cons] at hl ⊢;omega) (by simpa using hsz) (fun y hy=> ?_) ⟨fun j hj=> ?_,fun j hj hj2=> ?_⟩ ?_ (fun j hj b hb=> ?_) (hTL.imp id fun h y hy=>h y bb) ⟨hs'.env,hs'.size,hs'.defs,hs'.heap.sub fun u hu=> ?_,hs'.ok,hs'.small⟩ ht'
   ·have h1:=hL y bb
    refine ⟨h1.1, ?_,h1.2.2⟩
    rw [getD_set_ne true (Ne.symm (hne y hy))]
    exact h1.2.1
   ·by_cases hji:j=i'
    ·subst hji
     simp [Array.getD_eq_getD_getElem?,hsz,hsz1] at hj
    ·rw [getD_set_ne true (Ne.symm hji)] at hj
     rcases hU.1 j hj with ⟨y,hy,rfl⟩|h1
     ·refine .inl ⟨y, ?_,rfl⟩
      simp only [List.mem_append,List.mem_cons] at hy ⊢
      rcases hy with h|rfl|h
      ·exact .inl h
      ·exact absurd rfl hji
      ·exact .inr h
     ·exact .inr h1
   ·rw [getD_set_ne true aa]
    exact hU.2 j hj hj2
   ·rw [List.pairwise_append]
    exact ⟨hp1,hp2.2,fun y hy z hz=>hp12 y hy z cU⟩
   ·have hset:∀b,listed.getD b true=true→(listed.setIfInBounds i' true).getD b true=true:=by
     intro b hb
     by_cases hbi:b=i'
     ·subst hbi;simp [Array.getD_eq_getD_getElem?,hsz,hsz1]
     ·rw [getD_set_ne true (Ne.symm hbi)];exact hb
    by_cases hji:j=i'
    ·subst hji;exact hset _ (hmask _ hb)
    ·rw [getD_set_ne false (Ne.symm hji)] at hj
     exact hset _ (hcl _ hj _ hb)
   ·have hlt:∀y ∈ L1++L2,y.1<ops.size:=fun y hy=>by
     have h1:=(hL y bb).1
     rcases Nat.lt_or_ge y.1 ops.size with h|h
     ·exact h
     ·rw [Array.getElem?_eq_none h] at h1;cases h1
    have hnew:rc.1.contains zdd=true→T=n+ops.size+16 * ops.size:=fun hc=>by
     rcases hTL with h|h
     ·exact h
     ·have:=h (i',o,rc) ad
      simp only at this
      rw [this] at hc;cases hc
    simp only [Array.length_toList]
    rcases hu with h|⟨y,hy,h⟩
    ·refine ⟨.inl h,aa,fun hc=> ?_⟩
     have:=hnew hc
     omega
    ·have h1:=hne y hy
     have h2:=hlt y hy
     refine ⟨.inr ⟨y,bb,h⟩, ?_,fun hc=> ?_⟩<;>omega

theorem zo4:∀ {l:List Oper}{rs:List zfj}{i:Nat}{y:DOp},y ∈ ixs i l rs→∃k,y.1=i+k∧l[k]? =some y.2.1∧rs[k]? =some y.2.2
 | [], _, _, _,h=>cc
 | _:: _, [], _, _,h=>cc
 |o::l,r::rs,i,y,h=>by
  rcases List.mem_cons.1 h with rfl|h
  ·exact ⟨0,rfl,rfl,rfl⟩
  ·obtain ⟨k,h1,h2,h3⟩:=zo4 h
   exact ⟨k+1,aa,aZ,by simpa using h3⟩
theorem znJ:∀ {l:List Oper}{rs:List zfj}{i:Nat},rs.length=l.length→(ixs i l rs).length=l.length
 | [], [], _, _=>rfl
 |o::l,r::rs,i,h=>by simp only [ixs,List.length_cons] at h ⊢;rw [znJ aa]
 | [], _:: _, _,h=>cc
 | _:: _, [], _,h=>cc
theorem zyF:∀ {l:List Oper}{rs:List zfj}{i k:Nat},rs.length=l.length→k<l.length→∃y ∈ ixs i l rs,y.1=i+k
 |o::l,r::rs,i,0,h,hk=>⟨_,List.mem_cons_self ..,rfl⟩
 |o::l,r::rs,i,k+1,h,hk=>by
  obtain ⟨y,hy,he⟩:=zyF (i:=i+1) (k:=k) (l:=l) (rs:=rs) aK aC
  exact ⟨y,List.mem_cons_of_mem _ hy,aa⟩
 | [], _, _, _, _,hk=>by cases hk
 | _:: _, [], _, _,h, _=>cc
theorem zjN {R:DOp→DOp→Prop}:∀ {l:List Oper}{rs:List zfj}{i:Nat},(∀a b (x y:DOp),a<b→x.1=i+a→y.1=i+b→l[a]? =some x.2.1→rs[a]? =some x.2.2→l[b]? =some y.2.1→rs[b]? =some y.2.2→R x y)→(ixs i l rs).Pairwise R
 | [], _, _, _=> .nil
 | _:: _, [], _, _=> .nil
 |o::l,r::rs,i,h=>by
  refine List.pairwise_cons.2 ⟨fun y hy=> ?_,zjN fun a b x y hab hx hy h1 h2 h3 h4=>h (a+1) (b+1) x y aa aa aa bi aZ (by simpa using h3) (by simpa using h4)⟩
  obtain ⟨k,h1,h2,h3⟩:=zo4 hy
  exact h 0 (k+1) (i,o,r) y aa rfl aa rfl rfl aZ (by simpa using h3)

theorem zsl {P:Program} (hmix:P.follows .mixedOrders=true){B:zfg P}{N:Nat}{M:Nat→Prop}{r:Option Nat}{m:Nat}{id:Nat}{ops:Array Oper}{Q:zbV} (hd:∀o ∈ ops.toList,match o.dst with|none=>True|some d=>d<N)
  {φ:zaz} {e:Env} {h:zaq} {n:Nat} {a:Act} {w:World} (hs:SR B N M φ e h n a w) (hh:zvd P ops.toList Q e h n):(Code.region id ops true).wpIn (WF r) m P (SQ B N Q) a w:=by
 refine wpIn_region_any hmix ?_
 obtain ⟨k,hh⟩:=hh
 obtain ⟨recs,e',h',hlen,htr,hok,hq⟩:=znc hh
 simp only [List.nil_append,zl1,zzD,Bool.and_eq_true,decide_eq_true_eq,List.all_eq_true,List.mem_range,Bool.or_eq_true,Bool.not_eq_true'] at hok
 obtain ⟨⟨hle,hsp⟩,hok⟩:=hok
 simp only [List.nil_append,Array.length_toList] at hq hle hsp hok
 obtain ⟨κ,hκ⟩:∃κ,κ=recs.length:=⟨_,rfl⟩
 have hlk:κ=min k ops.size:=by rw [hκ,hlen,List.length_take,Array.length_toList]
 have hdrop:ops.toList.drop k=ops.toList.drop κ:=by
  rcases Nat.lt_or_ge ops.size k with h|h
  ·rw [List.drop_eq_nil_of_le ak,List.drop_eq_nil_of_le ak]
  ·rw [hlk,Nat.min_eq_left h]
 rw [hdrop] at hq
 rw [← hκ] at hle hsp hok
 obtain ⟨T,hT,hTn,hq⟩:∃T,n+ops.size≤T∧(T=n+ops.size+16 * ops.size∨∀y ∈ ixs 0 (ops.toList.take k) recs,y.2.2.1.contains zdd=false)∧zdA P ops.toList Q (ops.toList.drop κ) e' h' T:=by
  rcases hq with ⟨h1,h2⟩|h2
  ·refine ⟨_,Nat.le_refl _, .inr fun y hy=> ?_,h2⟩
   obtain ⟨k, _, _,h3⟩:=zo4 hy
   have:=List.all_eq_true.1 h1 _ (List.mem_of_getElem? h3)
   simpa using this
  ·exact ⟨_,aa, .inl rfl,h2⟩
 have hmk:zm7 ops.toList (zv9 ops.toList []):=zum ad fun k i hb=>by simp at hb
 have gd:∀ {α:Type} [Inhabited α] {l:List α} {k:Nat} {x:α},l[k]? =some x→l.getD k default=x:=by
  intro α _ l k x hx;rw [List.getD_eq_getElem?_getD,hx];rfl
 have st:zc8 φ w M h φ { w with drawn:=w.drawn+1} h:=⟨φ.le_refl,fun k hk=> .inl hk,⟨rfl,rfl,rfl,Nat.le_succ _,Nat.le_refl _,fun _ _ _=>rfl⟩,fun k hk=> .inl hk⟩
 have hin:∀ {i:Nat} {o:Oper},ops.toList[i]? =some o→i<ops.size:=fun {i o} h=>by
  rcases Nat.lt_or_ge i ops.size with h1|h1
  ·exact h1
  ·rw [List.getElem?_eq_none bi] at h;cases h
 have hea:∀ (i:Nat) o,ops[i]? =some o→∀ed ∈ o.after.toList,Region.binds .any ed=true→ed.on<i:=fun i o ho ed he hb=>by
  rw [← Array.getElem?_toList] at ho
  have:=(hok i (hin ho)).1
  rw [gd ho] at this
  rcases this ed he with h|h
  ·rw [hb] at h;cases h
  ·exact h
 have htk:∀ {i:Nat} {o:Oper},(ops.toList.take k)[i]? =some o→ops.toList[i]? =some o∧i<κ:=fun {i o} h=>by
  rw [List.getElem?_take] at h
  split at h
  ·have:=hin h
   exact ⟨h,aa⟩
  ·cases h
 refine zxq (mk:=zv9 ops.toList []) (L:=ixs 0 (ops.toList.take k) recs) (n:=n) hd hmk hea (k:=κ) hle (fun j h1 h2 i hi=> ?_) hT hq ops.size _ (by rw [znJ hlen,List.length_take,Array.length_toList];omega) ad (fun y hy=> ?_) ⟨fun i hi=> ?_,fun i h1 h2=> ?_⟩ (zjN fun i j x y hij hx hy h1 h2 h3 h4=> ?_) (fun i hi=> ?_) hTn ⟨fun t=>st.rel (hs.env t),hs.size,hs.defs.step hs.heap st,(hs.heap.keepw st fun _ _=>rfl).sub fun o ho=> ?_,B.step hs.ok st,hs.small⟩ htr
 ·rcases hsp with h|h
  ·omega
  ·rcases h j h2 with h|h
   ·omega
   ·exact h i hi
 ·obtain ⟨k,h1,h2,h3⟩:=zo4 hy
  obtain ⟨h2,h4⟩:=htk h2
  have hk:=hin h2
  rw [Nat.zero_add] at h1
  exact ⟨by rw [h1,← Array.getElem?_toList];exact h2,by simp [Array.getD_eq_getD_getElem?,h1,hk],aa⟩
 ·have hi':i<ops.size:=by
   rcases Nat.lt_or_ge i ops.size with h|h
   ·exact h
   ·simp [Array.getD_eq_getD_getElem?,Nat.not_lt.2 h] at hi
  rcases Nat.lt_or_ge i κ with h|h
  ·obtain ⟨y,hy,he⟩:=zyF (i:=0) (k:=i) hlen (by rw [List.length_take,Array.length_toList];omega)
   exact .inl ⟨y,hy,aa⟩
  ·exact .inr h
 ·simp [Array.getD_eq_getD_getElem?,h2]
 ·obtain ⟨h1,h5⟩:=htk h1
  obtain ⟨h3,h6⟩:=htk h3
  have hj:=hin h3
  rcases (hok j hj).2 with h|h
  ·omega
  have:=h i hij
  rw [gd h1,gd h2,gd h3,gd h4] at this
  refine ⟨aa, ?_⟩
  rw [hx,hy,Nat.zero_add,Nat.zero_add]
  exact this
 ·rcases Nat.lt_or_ge i ops.size with h|h
  ·simp [Array.getD_eq_getD_getElem?,h] at hi
  ·simp [Array.getD_eq_getD_getElem?,Nat.not_lt.2 h] at hi
 ·rcases ho with h|⟨y,hy,h⟩<;>omega
end Go.Av
end
section
/- Our library: ranges zel functions: the state between rounds, and within one. -/
namespace Go.Av
open Go

def OcS (O0:zc4) (l:Nat) (Oi:zc4) (w:World):zc4:=fun k=>(O0 k∨k=l)∨(Oi k∧k<w.heap.size)
structure zw3 {P:Program} (B:zfg P) (l base:Nat) (ds:List Deferred) (tmps:Array Value) (rc:Loop) (O0 M Oi:zc4) (w:World) (Mc:zc4) (φ:zaz) (e:Env) (h:zaq) (n:Nat):Prop where
 sub:∀k,(Mc k∨Mut φ h k)∨(k=l∨O0 k)→M k
 env:∀t,Rel φ w (Or (Or Mc (OcS O0 l Oi w)) (Mut φ h)) (e t) (tmps.getD t undef)
 heap:zhD φ n w (Or Mc (OcS O0 l Oi w)) h
 ok:B.ok0 (e GH) Mc (OcS O0 l Oi w) φ w h
 marks:zfU B.lo (Or Mc (OcS O0 l Oi w)) ds w
 obase:¬Oi l
 size:base≤w.heap.size
 lrec:w.heap[l]? =some (.loop rc)
 ln:¬Mc l
def Bnd {P:Program} (B:zfg P) (l base:Nat) (ds:List Deferred) (tmps:Array Value) (rc:Loop) (O0:zc4) (K:Env→zaq→Nat→Prop) (M Oi:zc4) (w:World):Prop:=
 ∃Mc φ e h n,zw3 B l base ds tmps rc O0 M Oi w Mc φ e h n∧K e h n

section
variable {P:Program} {B:zfg P} {l base:Nat} {ds:List Deferred} {tmps:Array Value} {rc:Loop} {O0:zc4} {K:Env→zaq→Nat→Prop} {M Oi:zc4} {w w':World}
theorem zE3 {Oi':zc4} (hl:l<base) (hb:Bnd B l base ds tmps rc O0 K M Oi w) (hfr:Fr w Oi w') (hO:∀k,Oi' k→Oi k∨w.heap.size≤k):Bnd B l base ds tmps rc O0 K M Oi' w':=by
 obtain ⟨Mc,φ,e,h,n,⟨h1,h2,h3,h4,h5,h6,h7,h8,h9⟩,hK⟩:=hb
 have hsz:=hfr.size
 have hsub:∀k,OcS O0 l Oi' w' k→OcS O0 l Oi w k∨w.heap.size≤k:=by
  rintro k (hk|⟨hk, _⟩)
  ·exact .inl (.inl hk)
  ·by_cases hlt:k<w.heap.size
   ·exact (hO k hk).imp (fun h=> .inr ⟨h,hlt⟩) id
   ·exact .inr aa
 have hfr':Fr w (OcS O0 l Oi w) w':=⟨hfr.os,hfr.tape,hfr.output,hfr.drawn,hfr.size,fun k hk hn=>hfr.block k hk fun ho=>hn (.inr ⟨ho,hk⟩)⟩
 have g:zj2 (Or Mc (OcS O0 l Oi w)) w (Or Mc (OcS O0 l Oi' w')) w':=by
  refine ⟨hsz,fun k hk hn=>hfr'.block k hk fun h=>hn (.inr h),fun k hk=>hk.elim (fun h=> .inl (.inl h)) fun h=>(hsub k h).imp .inr id,fun k hk=> ?_⟩
  rcases hk with hk|hk
  ·exact Nat.lt_of_lt_of_le (h3.m0 k (.inl hk)) hsz
  ·rcases hk with (hk|rfl)|⟨_,hk⟩
   ·exact Nat.lt_of_lt_of_le (h3.m0 k (.inr (.inl (.inl hk)))) hsz
   ·omega
   ·exact hk
 refine ⟨Mc,φ,e,h,n,⟨h1,fun t=>g.rel (h2 t),g.hrel h3,B.oth0 h4 hfr' hsub,h5.grow g,fun hk=>(hO l hk).elim h6 (fun h=>by omega),aa, ?_,h9⟩,hK⟩
 rw [hfr.block l aa h6];exact h8
theorem Bnd.nc (hl:l<base) (hlo:B.lo≤base) (hd:∀d ∈ ds,∃D,d={ target:= .collected D,args:= #[]}∧D<base) (hb:Bnd B l base ds tmps rc O0 K M Oi w) (hn:NC base w w'):Bnd B l base ds tmps rc O0 K M Oi w':=by
 obtain ⟨Mc,φ,e,h,n,⟨h1,h2,h3,h4,h5,h6,h7,h8,h9⟩,hK⟩:=hb
 have ho:OcS O0 l Oi w'=OcS O0 l Oi w:=by unfold OcS;rw [hn.size]
 refine ⟨Mc,φ,e,h,n,⟨h1,fun t=> ?_, ?_, ?_, ?_,h6,by rw [hn.size];exact h7,(hn.low l hl).trans h8,h9⟩,hK⟩
 ·rw [ho];exact (h2 t).nc hn
 ·rw [ho];exact h3.nc hn
 ·rw [ho];exact B.nc0 h4 (hn.mono hlo)
 ·rw [ho]
  refine ⟨h5.1,fun d hdm=> ?_⟩
  obtain ⟨D,e1,e2,e3,e4⟩:=h5.2 d hdm
  obtain ⟨D',k1,k2⟩:=hd d hdm
  have:D=D':=by rw [e1] at k1;simpa using k1
  subst this
  exact ⟨D,e1,e2,e3,(hn.low D k2).trans e4⟩
theorem zE2 (hb:Bnd B l base ds tmps rc O0 (Fgt B.n0 K) M Oi w):Bnd B l base ds tmps rc O0 K M Oi w:=by
 obtain ⟨Mc,φ,e,h,n,hB,hK|⟨E,HH,n',hk,hn,hK⟩⟩:=hb
 ·exact ⟨Mc,φ,e,h,n,hB,hK⟩
 ·obtain ⟨φ',g1,g2,g3,g4⟩:=hk.sound hB.heap hB.env
  refine ⟨Mc,φ', _, _,n',⟨fun k hk=>hB.sub k (hk.imp (fun h=>h.imp id (g3 k)) id),g2,g1,B.forget0 hB.ok ?_ g3 g4 hn,hB.marks,hB.obase,hB.size,hB.lrec,hB.ln⟩,hK⟩
  rcases zs7 (E:=E) GH with h5|h5
  ·exact .inr h5
  ·have h6:=(hk.env _ h5).1
   simp only at h6
   generalize mkE E GH=y at h6
   rcases B.isG0 hB.ok with h7|⟨x,h7⟩
   ·rw [h7] at h6 ⊢
    cases h6<;>simp
   ·rw [h7] at h6 ⊢
    cases h6<;>simp
end

def RB {P:Program} (B:zfg P) (l:Nat) (rc:Loop) (w2:World) (E1 Oc:zc4) (φ2:zaz) (e2:Env) (M2:zc4) (tmps:Array Value) (n2:Nat) (hl:l<w2.heap.size) (hlo:B.lo≤w2.heap.size) (hn0:B.n0≤n2)
  (hfresh:∀o,n2≤o→φ2 o=none) (henv:∀t,Rel φ2 w2 M2 (e2 t) (tmps.getD t undef)):zfg P where
 n0:=n2
 lo:=w2.heap.size
 round:=some l
 ok0 g M O φ w h:=∃Mc,M=Or Mc Oc∧B.ok0 g Mc (Or Oc O) φ w h∧(∀t,Rel φ w (Or (Or M O) (Mut φ h)) (e2 t) (tmps.getD t undef))∧(∀o x,φ2 o=some x→∃x',φ o=some x')∧
  w2.heap.size≤w.heap.size∧(∀k,k<w2.heap.size→¬E1 k→w.heap[k]? =w2.heap[k]?)∧(∀k,Mc k→E1 k∨w2.heap.size≤k)∧(∀k,Mut φ h k→E1 k∨w2.heap.size≤k)∧(∀k,O k→k≠l∧(E1 k∨w2.heap.size≤k))∧
  ¬Mc l∧¬Mut φ h l∧w.heap[l]? =some (.loop rc)
 isG0:=by
  rintro g M O φ w h ⟨Mc, _,h1, _⟩;exact B.isG0 h1
 step0:=by
  rintro g M O φ w h φ' w' h' ⟨Mc,rfl,h1,h2,h3,h4,h5,h6,h7,h8,h9,h10,h11⟩ st
  have hsz:=st.fr.size
  have hlw:l<w.heap.size:=aa
  refine ⟨Mc,rfl,B.step0 h1 st.anyM,fun t=>(st.anyM (M':=Or (Or Mc Oc) O)).rel (h2 t),fun o x ho=> ?_,aa,fun k hk hn=>(st.fr.block k aa fun hm=>(h7 k hm).elim hn (fun h=>by omega)).trans (h5 k hk hn),h6,
   fun k hk=>(st.mutd k hk).elim (h7 k) (fun h=> .inr aa),h8,h9,fun hk=>(st.mutd l hk).elim h10 (fun h=>by omega),(st.fr.block l hlw h10).trans h11⟩
  obtain ⟨x',hx'⟩:=h3 o x ho
  obtain ⟨x'',hx'', _⟩:=st.le o x' hx'
  exact ⟨x'',hx''⟩
 forget0:=by
  rintro g g' M O φ w h φ' h' n' ⟨Mc,rfl,h1,h2,h3,h4,h5,h6,h7,h8,h9,h10,h11⟩ hg hm hφ hn
  have hlt:∀o x,φ2 o=some x→o<n':=fun o x ho=>Nat.lt_of_lt_of_le (Nat.lt_of_not_le fun hle=>by rw [hfresh o hle] at ho;cases ho) hn
  refine ⟨Mc,rfl,B.forget0 h1 hg hm hφ (Nat.le_trans hn0 hn),fun t=> ?_,fun o x ho=> ?_,h4,h5,h6,fun k hk=>h7 k (hm k hk),h8,h9,fun hk=>h10 (hm l hk),h11⟩
  ·refine ((h2 t).cut2 (φ:=φ2) (φ'':=φ') (w:=w2) (M:=M2) (fun o x ho=> ?_) (henv t)).lessM fun k hk=>hk.imp id (hm k)
   obtain ⟨x',hx'⟩:=h3 o x ho
   rw [hx'];exact hφ o x' (hlt o x ho) hx'
  ·obtain ⟨x',hx'⟩:=h3 o x ho
   exact ⟨x',hφ o x' (hlt o x ho) hx'⟩
 yld0:=by
  rintro r m l' more xs rest M O φ w h n vs ⟨Mc,rfl,h1,h2,h3,h4,h5,h6,h7,h8,h9,h10,h11⟩ hH hr
  have hH':zhD φ n w (Or Mc (Or Oc O)) h:=by rw [← zl2];exact hH
  obtain ⟨fn,tm,asg,body,k1,k2⟩:=B.yld0 (r:=r) (m:=m) h1 hH' (by rw [← zl2];exact hr)
  refine ⟨fn,tm,asg,body,k1,k2.mono ?_⟩
  rintro e w' ⟨b,M',e1,g,hk⟩
  have hsz:=g.size
  have hlw:l<w.heap.size:=aa
  have gO:zj2 (Or Mc Oc) w (Or M' Oc) w':=g.add fun k hk=>hH.m0 k (.inl (.inr hk))
  have gOO:zj2 (Or (Or Mc Oc) O) w (Or (Or M' Oc) O) w':=gO.add fun k hk=>hH.m0 k (.inr hk)
  exact ⟨b,Or M' Oc,e1,gO,M',rfl,hk,fun t=>gOO.rel (h2 t),h3,aa,fun k hk hn=>(g.keep k aa fun hm=>(h6 k hm).elim hn (fun h=>by omega)).trans (h5 k hk hn),
   fun k hk=>(g.new k hk).elim (h6 k) (fun h=> .inr aa),h7,h8,fun hk=>(g.new l hk).elim h9 (fun h=>by omega),h10,(g.keep l hlw h9).trans h11⟩
 exh0:=by
  rintro l' M O φ w h ⟨Mc, _,h1, _⟩;exact B.exh0 h1
 oth0:=by
  rintro g M O O' φ w w' h ⟨Mc,rfl,h1,h2,h3,h4,h5,h6,h7,h8,h9,h10,h11⟩ hfr hO
  have hsz:=hfr.size
  refine ⟨Mc,rfl,B.oth0 h1 (hfr.more fun k hk=> .inr hk) (fun k hk=>hk.elim (fun h=> .inl (.inl h)) fun h=>(hO k h).imp .inr id),fun t=> ?_,h3,aa,
   fun k hk hn=>(hfr.block k aa fun ho=>(h8 k ho).2.elim hn (fun h=>by omega)).trans (h5 k hk hn),h6,h7,fun k hk=>(hO k hk).elim (h8 k) (fun h=>⟨aa, .inr aa⟩),h9,h10,
   (hfr.block l aa fun ho=>(h8 l ho).1 rfl).trans h11⟩
  refine (h2 t).keep φ.le_refl (fun k hn hk=>hfr.block k hk fun ho=>hn (.inl (.inr ho))) fun k hk=> ?_
  rcases hk with (hk|hk)|hk
  ·exact .inl (.inl (.inl hk))
  ·exact (hO k hk).imp (fun h=> .inl (.inr h)) id
  ·exact .inl (.inr hk)
 nc0:=by
  rintro g M O φ w w' h ⟨Mc,rfl,h1,h2,h3,h4,h5,h6,h7,h8,h9,h10,h11⟩ hn
  exact ⟨Mc,rfl,B.nc0 h1 (hn.mono hlo),fun t=>(h2 t).nc hn,h3,by rw [hn.size];exact h4,fun k hk hne=>(hn.low k hk).trans (h5 k hk hne),h6,h7,h8,h9,h10,(hn.low l hl).trans h11⟩
 give0:=by
  rintro g M O O' φ w h h' ⟨Mc,rfl,h1,h2,h3,h4,h5,h6,h7,h8,h9,h10,h11⟩ hO hm
  refine ⟨Mc,rfl,B.give0 h1 (fun k hk=>hk.elim (fun h=> .inl (.inl h)) fun h=>(hO k h).imp .inr id) hm,fun t=>(h2 t).lessM fun k hk=> ?_,h3,h4,h5,h6,fun k hk=>h7 k (hm k hk),
   fun k hk=>(hO k hk).elim (h8 k) (fun h=>⟨fun e=>h10 (e▸h),h7 k h⟩),h9,fun hk=>h10 (hm l hk),h11⟩
  rcases hk with (hk|hk)|hk
  ·exact .inl (.inl hk)
  ·exact (hO k hk).imp .inr id
  ·exact .inr (hm k hk)
 lo0:=by
  rintro g M O φ w h ⟨Mc, _, _, _, _,h4, _⟩;exact h4
 rec0:=by
  rintro g M O φ w h l' ⟨Mc, _, _, _, _, _, _, _, _, _, _, _,h11⟩ hl'
  simp only [Option.some.injEq] at hl'
  subst hl'
  exact ⟨rc,h11⟩

theorem zhq {M:zc4}{w:World}{l:Nat} (o:Obj) (hl:M l) (hM:∀k,M k→k<w.heap.size):zj2 M w M (w.putObj l o):=
 ⟨ad,fun k _ hn=>World.putObj_heap_other (fun e=>hn (e▸hl)),fun k hk=> .inl hk,fun k hk=>by simpa using hM k hk⟩
theorem zls {O:zc4}{w:World}{l:Nat} (o:Obj) (hl:O l):Fr w O (w.putObj l o):=
 ⟨rfl,rfl,rfl,Nat.le_refl _,ad,fun k _ hn=>World.putObj_heap_other (fun e=>hn (e▸hl))⟩

theorem zre {φ:zaz}{w:World}{M:zc4}:∀ {ps:List Tmp}{xs:List AV}{vs:List Value}{e:Env}{tm:Array Value},zaJ φ w M xs vs→(∀p ∈ ps,p<tm.size)→(∀t,Rel φ w M (e t) (tm.getD t undef))→
  ∀t,Rel φ w M (zgn ps xs e t) (((ps.zip vs).foldl (fun tm p=>tm.setIfInBounds p.1 p.2) tm).getD t undef)
 | [], _, _, _, _, _, _,he=>by simpa [zgn] using he
 |p::ps, _, _, _, _, .nil, _,he=>by simpa [zgn] using he
 |p::ps,x::xs,v::vs,e,tm, .cons h1 h2,hp,he=>by
  have hp1:=hp p ad
  simp only [zgn,List.zip_cons_cons,List.foldl_cons]
  refine zre h2 (fun q hq=>by simpa using hp q (by simp [hq])) fun t=> ?_
  simp only [upd]
  by_cases ht:t=p
  ·subst ht
   rw [if_pos rfl]
   simpa [Array.getD_eq_getD_getElem?,hp1] using h1
  ·rw [if_neg ht]
   have:(tm.setIfInBounds p v).getD t undef=tm.getD t undef:=by
    simp [Array.getD_eq_getD_getElem?,Array.getElem?_setIfInBounds,Ne.symm ht]
   rw [this];exact he t
theorem zuz {k:Nat}:∀ {ps:List Tmp}{xs:List AV}{e:Env},(∀p ∈ ps,p≠k)→zgn ps xs e k=e k
 | [], _, _, _=>by simp [zgn]
 |p::ps, [], _, _=>by simp [zgn]
 |p::ps,x::xs,e,hp=>by
  simp only [zgn]
  rw [zuz fun q hq=>hp q (by simp [hq])]
  exact zbs _ _ (Ne.symm (hp p ad))
theorem zqB:∀ {l:List (Tmp×Value)}{tm:Array Value},(l.foldl (fun tm p=>tm.setIfInBounds p.1 p.2) tm).size=tm.size
 | [], _=>rfl
 |p::l,tm=>by rw [List.foldl_cons,zqB];simp

section
variable {P:Program} {B:zfg P} {l:Nat} {rc rc':Loop} {w2:World} {E1 Oc:zc4} {φ2:zaz} {e2:Env} {M2:zc4} {tmps:Array Value} {n2:Nat} {hl:l<w2.heap.size} {hlo:B.lo≤w2.heap.size} {hn0:B.n0≤n2}
  {hfresh:∀o,n2≤o→φ2 o=none} {henv:∀t,Rel φ2 w2 M2 (e2 t) (tmps.getD t undef)}
theorem RB.turn {N:Nat}{M:zc4}{φ:zaz}{e:Env}{h:zaq}{n:Nat}{a:Act}{w:World} (hOl:Oc l) (hs:SR (RB B l rc w2 E1 Oc φ2 e2 M2 tmps n2 hl hlo hn0 hfresh henv) N M φ e h n a w) (hE:E1 l):
  w.heap[l]? =some (.loop rc)∧SR (RB B l rc' w2 E1 Oc φ2 e2 M2 tmps n2 hl hlo hn0 hfresh henv) N M φ e h n a (w.putObj l (.loop rc')):=by
 obtain ⟨M',O,rfl,Mc,rfl,h1,h2,h3,h4,h5,h6,h7,h8,h9,h10,h11⟩:=hs.ok
 have hlw:=(Array.getElem?_eq_some_iff.1 h11).1
 have g:zj2 (Or (Or Mc Oc) O) w (Or (Or Mc Oc) O) (w.putObj l (.loop rc')):=zhq _ (.inl (.inr hOl)) hs.heap.m0
 refine ⟨h11,fun t=>g.rel (hs.env t),hs.size,⟨hs.defs.1,fun d hd=> ?_⟩,g.hrel hs.heap,
  ⟨_,O,rfl,Mc,rfl,B.oth0 h1 (zls _ (.inl hOl)) (fun k hk=> .inl hk),fun t=>g.rel (h2 t),h3,by simpa using h4,fun k hk hn=>(World.putObj_heap_other (fun e=>hn (by rw [e];exact hE))).trans (h5 k hk hn),h6,h7,h8,h9,h10,World.putObj_heap_same hlw⟩,hs.small⟩
 obtain ⟨D,k1,k2,k3,k4⟩:=hs.defs.2 d hd
 exact ⟨D,k1,k2,k3,(World.putObj_heap_other (fun e=>k3 (by rw [e];exact .inl (.inr hOl)))).trans k4⟩
end

theorem ztn {P:Program}{B:zfg P}{l base:Nat}{ds:List Deferred}{tmps:Array Value}{rc:Loop}{O0 M Oi:zc4}{w2:World}{Mc:zc4}{φ2:zaz}{e2:Env}{h2:zaq}{n2:Nat}
  (hB:zw3 B l base ds tmps rc O0 M Oi w2 Mc φ2 e2 h2 n2) (hl:l<w2.heap.size) (hlo:B.lo≤w2.heap.size) (hn0:B.n0≤n2) (hO:∀k,Oi k→k<w2.heap.size) {N:Nat} (hsz:tmps.size=N) (hN:N≤GH)
  {ps:List Tmp} (hps:∀p ∈ ps,p<N) {xs:List AV} {vs:List Value} (hr:zaJ noP w2 (Or M Oi) xs vs):
  SR (RB B l rc w2 (fun k=>(Mc k∨Mut φ2 h2 k)∨k=l) (OcS O0 l Oi w2) φ2 e2 (Or (Or Mc (OcS O0 l Oi w2)) (Mut φ2 h2)) tmps n2 hl hlo hn0 hB.heap.fresh hB.env) N (Or Mc (OcS O0 l Oi w2)) φ2 (zgn ps xs e2) h2 n2
   { tmps:=(ps.zip vs).foldl (fun tm p=>tm.setIfInBounds p.1 p.2) tmps,defers:= []} w2:=by
 have hGH:zgn ps xs e2 GH=e2 GH:=zuz fun p hp=>Nat.ne_of_lt (Nat.lt_of_lt_of_le (hps p hp) hN)
 have hxs:zaJ φ2 w2 (Or (Or Mc (OcS O0 l Oi w2)) (Mut φ2 h2)) xs vs:=by
  refine hr.keep (fun o x ho=>by cases ho) (fun _ _ _=>rfl) fun k hk=> .inl ?_
  rcases hk with (hk|(hk|hk)|hk)|hk
  ·exact .inl (hB.sub k (.inl (.inl hk)))
  ·exact .inl (hB.sub k (.inr (.inr hk)))
  ·exact .inl (hB.sub k (.inr (.inl hk)))
  ·exact .inr hk.1
  ·exact .inl (hB.sub k (.inl (.inr hk)))
 refine ⟨zre hxs (fun p hp=>by rw [hsz];exact hps p hp) hB.env,by rw [← hsz];exact zqB,zfU.nil,hB.heap, ?_,hN⟩
 refine ⟨_,fun _=>False,(zek _).symm,Mc,rfl, ?_,fun t=> ?_,fun o x ho=>⟨x,ho⟩,Nat.le_refl _,fun _ _ _=>rfl,fun k hk=> .inl (.inl (.inl hk)),fun k hk=> .inl (.inl (.inr hk)),fun _ h=>h.elim,hB.ln, ?_,hB.lrec⟩
 ·rw [hGH,zek];exact hB.ok
 ·rw [zek];exact hB.env t
 ·intro hm
  obtain ⟨_,⟨C,T,fz,hc⟩|⟨es,clk,hc⟩⟩:=hB.heap.mut_cells hm<;>(rw [hB.lrec] at hc;cases hc)

theorem zmg {P:Program}{B:zfg P}{l base:Nat}{ds:List Deferred}{tmps:Array Value}{rc rb rc':Loop}{O0 M Oi:zc4}{w2:World}{Mc:zc4}{φ2:zaz}{e2:Env}{h2:zaq}{n2:Nat}
  (hB:zw3 B l base ds tmps rc O0 M Oi w2 Mc φ2 e2 h2 n2) {hl:l<w2.heap.size} {hlo:B.lo≤w2.heap.size} {hn0:B.n0≤n2} (hO:∀k,Oi k→k<w2.heap.size) {N:Nat} (hsz:tmps.size=N)
  {M4:zc4} {φ4:zaz} {e4:Env} {h4:zaq} {n4:Nat} {a4:Act} {w4:World}
  (hs:SR (RB B l rb w2 (fun k=>(Mc k∨Mut φ2 h2 k)∨k=l) (OcS O0 l Oi w2) φ2 e2 (Or (Or Mc (OcS O0 l Oi w2)) (Mut φ2 h2)) tmps n2 hl hlo hn0 hB.heap.fresh hB.env) N M4 φ4 e4 h4 n4 a4 w4):
  w4.heap[l]? =some (.loop rb)∧∃M' Mc4,zj2 M w2 M' (w4.putObj l (.loop rc'))∧zw3 B l base ds tmps rc' O0 M' Oi (w4.putObj l (.loop rc')) Mc4 φ4 (upd e2 GH (e4 GH)) h4 n4:=by
 obtain ⟨h0,hs⟩:=RB.turn (rc':=rc') (.inl (.inr rfl)) hs (.inr rfl)
 refine ⟨h0, ?_⟩
 generalize w4.putObj l (.loop rc')=w5 at hs ⊢
 obtain ⟨M5,O,rfl,Mc4,rfl,k1,k2,k3,k4,k5,k6,k7,k8,k9,k10,k11⟩:=hs.ok
 have hOc:OcS O0 l Oi w5=OcS O0 l Oi w2:=funext fun k=>propext ⟨fun h=>h.imp id fun h=>⟨h.1,hO k h.1⟩,fun h=>h.imp id fun h=>⟨h.1,by have:=hO k h.1;omega⟩⟩
 have hsub:∀k,Or Mc4 (OcS O0 l Oi w2) k→Or (Or Mc4 (OcS O0 l Oi w2)) O k:=fun k hk=> .inl hk
 refine ⟨fun k=>(Mc4 k∨Mut φ4 h4 k)∨(k=l∨O0 k),Mc4,⟨k4,fun k hk hn=>k5 k hk fun h=>hn (hB.sub k ?_),fun k hk=> ?_,fun k hk=> ?_⟩,⟨fun k hk=>hk,fun t=> ?_, ?_, ?_,⟨hB.marks.1,fun d hd=> ?_⟩,hB.obase,by have:=hB.size;omega,k11,k9⟩⟩
 ·exact h.imp id .inl
 ·have hE:∀k,(Mc k∨Mut φ2 h2 k)∨k=l→M k:=fun k hk=>hB.sub k (hk.imp id .inl)
  rcases hk with (hk|hk)|(hk|hk)
  ·exact (k6 k hk).imp (hE k) id
  ·exact (k7 k hk).imp (hE k) id
  ·exact .inl (hB.sub k (.inr (.inl hk)))
  ·exact .inl (hB.sub k (.inr (.inr hk)))
 ·rcases hk with (hk|hk)|(hk|hk)
  ·exact hs.heap.m0 k (.inl (.inl hk))
  ·exact hs.heap.blk (.inr hk)
  ·rw [hk];omega
  ·exact hs.heap.m0 k (.inl (.inr (.inl (.inl hk))))
 ·rw [hOc]
  by_cases ht:t=GH
  ·subst ht
   rw [zax]
   have hu:tmps.getD GH undef=undef:=by
    rw [Array.getD_eq_getD_getElem?,Array.getElem?_eq_none (by have:=hs.small;omega)];rfl
   rw [hu]
   rcases B.isG0 k1 with h|⟨x,h⟩<;>rw [h]
   ·exact .top _
   ·exact .gd (fun h=>by cases h) (fun _=>rfl)
  ·rw [zbs _ _ ht]
   exact (k2 t).lessM fun k hk=>hk.imp (hsub k) id
 ·rw [hOc];exact hs.heap.lessM hsub
 ·rw [hOc,zax]
  exact B.oth0 k1 (Fr.refl _ _) fun k hk=> .inl (.inl hk)
 ·rw [hOc]
  obtain ⟨D,q1,q2,q3,q4⟩:=hB.marks.2 d hd
  have hD:=(Array.getElem?_eq_some_iff.1 q4).1
  have hDE:¬((Mc D∨Mut φ2 h2 D)∨D=l):=by
   rintro ((h|h)|h)
   ·exact q3 (.inl h)
   ·obtain ⟨_,⟨C,T,fz,hc⟩|⟨es,clk,hc⟩⟩:=hB.heap.mut_cells h<;>(rw [q4] at hc;cases hc)
   ·exact q3 (.inr (.inl (.inr h)))
  exact ⟨D,q1,q2,fun h=>h.elim (fun h=>(k6 D h).elim hDE (fun h=>by omega)) fun h=>q3 (.inr h),(k5 D hD hDE).trans q4⟩

abbrev zkc (fn:FuncId) (tmps:Array Value) (ps:Array Tmp) (assign body:Code) (D:Nat) (st:LoopState) (pe:Option Code):Loop:=
 { state:=st,pending:=pe,fn,tmps,params:=ps,assign,body,defers:=D}
theorem zkr {U:zc4}{w:World} (o:Obj):Fr w U (w.alloc o):=
 ⟨rfl,rfl,rfl,Nat.le_refl _,ad,fun k hk _=>by show (w.heap.push o)[k]? = _;rw [Array.getElem?_push,if_neg (Nat.ne_of_lt hk)]⟩
theorem Fr.trans' {U:zc4}{w w' w'':World} (a:Fr w U w') (b:Fr w' U w''):Fr w U w'':=
 ⟨b.os.trans a.os,b.tape.trans a.tape,b.output.trans a.output,Nat.le_trans a.drawn b.drawn,Nat.le_trans a.size b.size,fun k hk hn=>(b.block k (Nat.lt_of_lt_of_le hk a.size) hn).trans (a.block k hk hn)⟩
theorem zsF {P:Program}{w:World} (fn:FuncId) (tmps:Array Value) (ps:Array Tmp) (assign body:Code){ro:Option Nat} (hro:∀l,ro=some l→∃r:Loop,w.heap[l]? =some (.loop r)):
  ∃ (l:Nat) (mark:List Deferred) (D:Nat) (w1:World),(Instr.enterLoop fn tmps ps assign body ro).run P w= .ok (l,mark) w1∧w.heap.size≤l∧l<w1.heap.size∧
   w1.heap[l]? =some (.loop (zkc fn tmps ps assign body D .ready none))∧Fr w (fun _=>False) w1∧
   (mark= []∨∃D',mark= [{ target:= .collected D',args:= #[]}]∧w.heap.size≤D'∧D'≠l∧w1.heap[D']? =some (.deferred (some []))):=by
 cases ro with
 |none=>
  refine ⟨_, _,w.heap.size, _,run_enterLoop_outer fn tmps ps assign body,aa,ad, ?_,(zkr _).trans' (zkr _), .inr ⟨_,rfl,Nat.le_refl _,aa, ?_⟩⟩
  ·have:=World.alloc_heap_new (w.alloc (.deferred (some []))) (.loop (zkc fn tmps ps assign body w.heap.size .ready none))
   rwa [World.size_alloc] at this
  ·exact ((zkr (U:=fun _=>False) (w:=w.alloc (.deferred (some []))) _).block w.heap.size ad id).trans (World.alloc_heap_new w _)
 |some l0=>
  obtain ⟨r0,h0⟩:=hro l0 rfl
  exact ⟨_, _,r0.defers, _,run_enterLoop_inner h0 fn tmps ps assign body,Nat.le_refl _,ad,World.alloc_heap_new w _,zkr _, .inl rfl⟩

def SeqK (P:Program) (f:FuncId) (cvs:List Value) (l more:Nat) (rows:List (List AV)) (w:World) (M0 Oi:zc4):Prop:=
 ∀ (J:List (List AV)→zc4→zc4→World→Prop) (Jx:zc4→zc4→World→Prop),
  (∀rs M O O' w1 w2,J rs M O w1→Fr w1 O w2→(∀k,O' k→O k∨w1.heap.size≤k)→J rs M O' w2)→
  (∀M O O' w1 w2,Jx M O w1→Fr w1 O w2→(∀k,O' k→O k∨w1.heap.size≤k)→Jx M O' w2)→
  (∀rs M O w1 w2,J rs M O w1→NC w.heap.size w1 w2→J rs M O w2)→(∀M O w1 w2,Jx M O w1→NC w.heap.size w1 w2→Jx M O w2)→
  (∀ (r:Option Nat) (m:Nat) xs rest M O w1 vs,J (xs::rest) M O w1→(∀k,O k→k<w1.heap.size)→zaJ noP w1 (Or M O) xs vs→
   ∃fn tmps assign body,(Instr.yield l ⟨vs⟩).run P w1= .ok (.round l fn tmps assign body) w1∧RoundIn (WF r) m P l fn tmps assign body w1 fun e w'=>
    ∃b M',e= .returned (.bool b)∧zj2 M w1 M' w'∧if b then J rest M' O w' else Jx M' O w')→
  (more=1→∀M O w1,¬J [] M O w1)→
  J rows M0 Oi w→
  Calls P f ⟨.func (.yield l) #[] #[]::cvs⟩ w fun e w'=>(∃v,e= .returned v)∧∃M' O',(∀k,O' k→k<w'.heap.size)∧((more=0∧J [] M' O' w')∨Jx M' O' w')
theorem zn6 {P:Program}{N:Nat}{g:Operand}{ps:Array Tmp}{assign body:Code}{B:zfg P}{m:Nat}{Q:zbV}
  (ha:∀ {B':zfg P} {m:Nat} {Q:zbV} {M:zc4} {φ:zaz} {e:Env} {h:zaq} {n:Nat} {a:Act} {w:World},SR B' N M φ e h n a w→awp P B'.n0 assign Q e h n→assign.wpIn (WF B'.round) m P (SQ B' N Q) a w)
  (hb:∀ {B':zfg P} {m:Nat} {Q:zbV} {M:zc4} {φ:zaz} {e:Env} {h:zaq} {n:Nat} {a:Act} {w:World},SR B' N M φ e h n a w→awp P B'.n0 body Q e h n→body.wpIn (WF B'.round) m P (SQ B' N Q) a w)
  (hps:∀p ∈ ps.toList,p<N) {Mc O0 Oi0:zc4} {φ:zaz} {e:Env} {h:zaq} {n:Nat} {a:Act} {w:World} {f:FuncId} {cs:List Value} {more:Nat} {rows:List (List AV)} (hs:SR B N (Or Mc (Or O0 Oi0)) φ e h n a w)
  (hok:B.ok0 (e GH) Mc (Or O0 Oi0) φ w h) (hval:a.eval g= .func (.func f) ⟨[]⟩ ⟨cs⟩) (hent:zep P f) (hlen:∀xs ∈ rows,xs.length=ps.size)
  (hR:Fgt B.n0 (zbb B.n0 more ps.toList (fun n1=>awp P n1 assign) (fun n1=>awp P n1 body) Q rows) e h n)
  (hseq:∀ (l:Nat) (w1:World),Fr w (fun _=>False) w1→w.heap.size≤l→l<w1.heap.size→SeqK P f cs l more rows w1 (fun k=>(Mc k∨Mut φ h k)∨(k=l∨O0 k)) Oi0):
  (Code.rangeFunc g ps assign body).wpIn (WF B.round) m P (SQ B N Q) a w:=by
 refine wpIn_rangeFunc fun fn _=> ?_
 obtain ⟨l,mark,D,w1,hent1,hl1,hl2,hrec,hfr1,hmark⟩:=zsF (P:=P) fn a.tmps ps assign body (fun l hl=>B.rec0 hok hl)
 have hlo:=B.lo0 hok
 have hsz1:=hfr1.size
 have hOc:∀k,OcS O0 l Oi0 w1 k→Or O0 Oi0 k∨k=l:=fun k hk=>hk.elim (fun h=>h.imp .inl id) fun h=> .inl (.inr h.1)
 have g1:zj2 (Or Mc (Or O0 Oi0)) w (Or Mc (OcS O0 l Oi0 w1)) w1:=by
  refine ⟨hsz1,fun k hk _=>hfr1.block k hk id,fun k hk=> ?_,fun k hk=> ?_⟩
  ·rcases hk with hk|hk
   ·exact .inl (.inl hk)
   ·exact (hOc k hk).imp .inr (fun h=>by omega)
  ·rcases hk with hk|hk
   ·exact Nat.lt_of_lt_of_le (hs.heap.m0 k (.inl hk)) hsz1
   ·exact (hOc k hk).elim (fun hk=>Nat.lt_of_lt_of_le (hs.heap.m0 k (.inr hk)) hsz1) (fun h=>by omega)
 have hm1:zfU B.lo (Or Mc (OcS O0 l Oi0 w1)) (mark++a.defers) w1:=by
  have h0:=hs.defs.grow g1
  rcases hmark with rfl|⟨D',rfl,d1,d2,d3⟩
  ·exact h0
  ·refine ⟨List.pairwise_cons.2 ⟨fun d hd=> ?_,h0.1⟩,fun d hd=> ?_⟩
   ·obtain ⟨D2,q1, _, _,q4⟩:=hs.defs.2 d hd
    have:=(Array.getElem?_eq_some_iff.1 q4).1
    rw [q1]
    simp only [ne_eq,Deferred.mk.injEq,Target.collected.injEq,and_true]
    omega
   ·rcases List.mem_cons.1 hd with rfl|hd
    ·refine ⟨D',rfl,aa,fun hk=> ?_,d3⟩
     rcases hk with hk|hk
     ·have:=hs.heap.m0 D' (.inl hk);omega
     ·rcases hOc D' hk with hk|hk
      ·have:=hs.heap.m0 D' (.inr hk);omega
      ·exact d2 hk
    ·exact h0.2 d hd
 have hdl:∀d ∈ mark++a.defers,∃D,d={ target:= .collected D,args:= #[]}∧D<w1.heap.size:=fun d hd=>by
  obtain ⟨D,q1, _, _,q4⟩:=hm1.2 d hd
  exact ⟨D,q1,(Array.getElem?_eq_some_iff.1 q4).1⟩
 have hB1:zw3 B l w1.heap.size (mark++a.defers) a.tmps (zkc fn a.tmps ps assign body D .ready none) O0 (fun k=>(Mc k∨Mut φ h k)∨(k=l∨O0 k)) Oi0 w1 Mc φ e h n:=
  ⟨fun _ hk=>hk,fun t=>g1.rel (hs.env t),g1.hrel hs.heap,B.oth0 hok (hfr1.more fun _ h=>h.elim) (fun k hk=>(hOc k hk).imp id (fun h=>by omega)),hm1,fun hk=>by have:=hs.heap.m0 l (.inr (.inr hk));omega,Nat.le_refl _,hrec,
   fun hk=>by have:=hs.heap.m0 l (.inl hk);omega⟩
 have eargs:(#[.func (.yield l) #[] #[]]++⟨cs⟩:Array Value)=⟨.func (.yield l) #[] #[]::cs⟩:=cu
 refine ⟨l,mark,w1,{ target:= .fn (.func f) ⟨cs⟩,args:= #[.func (.yield l) #[] #[]]},w1,f, #[.func (.yield l) #[] #[]]++⟨cs⟩,w1,hent1, ?_,fun _ _=>trivial, ?_,fun h=>by simp [WF,Fence.wide] at h, ?_⟩
 ·simp only [resolve,hval]
  simp [go_sem]
 ·simp [invoke,go_sem,hent _ _]
 rw [eargs]
 refine ziM ((hseq l w1 hfr1 hl1 hl2
  (fun rs M O w'=>Bnd B l w1.heap.size (mark++a.defers) a.tmps (zkc fn a.tmps ps assign body D .ready none) O0
   (fun e h n=>(∀xs ∈ rs,xs.length=ps.size)∧zbb B.n0 more ps.toList (fun n1=>awp P n1 assign) (fun n1=>awp P n1 body) Q rs e h n) M O w')
  (fun M O w'=>∃c x,(c=Code.ret∧x=Exit.ret∨∃id,c=Code.exit id∧x=Exit.exit id)∧
   Bnd B l w1.heap.size (mark++a.defers) a.tmps (zkc fn a.tmps ps assign body D .done (some c)) O0 (fun e h n=>Q x e h n) M O w')
  (fun rs M O O' w2 w3 hJ hfr hO=>zE3 hl2 hJ hfr hO) (fun M O O' w2 w3 hJ hfr hO=> ?_) (fun rs M O w2 w3 hJ hn=>Bnd.nc hl2 aa hdl hJ hn) (fun M O w2 w3 hJ hn=> ?_) ?_ ?_
  (zE2 ⟨Mc,φ,e,h,n,hB1,Fgt.mono (fun e h n hk=>⟨hlen,hk⟩) hR⟩)).mono ?_)
 ·obtain ⟨c,x,hcx,hJ⟩:=hJ
  exact ⟨c,x,hcx,zE3 hl2 hJ hfr hO⟩
 ·obtain ⟨c,x,hcx,hJ⟩:=hJ
  exact ⟨c,x,hcx,Bnd.nc hl2 aa hdl hJ hn⟩
 · -- one round
  intro r m' xs rest M O w2 vs hJ hO hr
  obtain ⟨Mc2,φ2,e2,h2',n2,hB2,hlens,hn0,hA⟩:=hJ
  have hsz2:=hB2.size
  have hvl:vs.length=ps.size:=by rw [← hlens xs ad];exact hr.length.symm
  refine ⟨fn, _,assign,body,run_yield hB2.lrec (by simpa using hvl),roundIn_of_wpIn trivial ?_⟩
  have hst:=ztn hB2 aa aa hn0 hO hs.size hs.small hps hr
  have hw:=ha (m:=m') hst hA
  have htm:((ps.zip ⟨vs⟩).foldl (fun tmps (t,a)=>tmps.setIfInBounds t a) a.tmps)=(ps.toList.zip vs).foldl (fun tm p=>tm.setIfInBounds p.1 p.2) a.tmps:=by
   rw [← Array.foldl_toList,Array.toList_zip]
  simp only [htm]
  refine wpIn_mono hw ?_
  rintro x a3 w3 ⟨M3,φ3,e3,h3',n3,hs3,hq3⟩
  cases x with
  |normal=>
   obtain ⟨hl3,hs3'⟩:=RB.turn (rc':=zkc fn a.tmps ps assign body D .busy none) (.inl (.inr rfl)) hs3 (.inr rfl)
   refine ⟨_,run_beginRound hl3 rfl,wpIn_mono (hb hs3' hq3) ?_⟩
   rintro x a4 w4 ⟨M4,φ4,e4,h4',n4,hs4,hq4⟩
   cases x with
   |normal=>
    obtain ⟨hl4,M',Mc4,hg,hB4⟩:=zmg (rc':=zkc fn a.tmps ps assign body D .ready none) hB2 hO hs.size hs4
    exact ⟨_, _,run_endRound none hl4,true,M',rfl,hg,zE2 ⟨Mc4,φ4, _,h4',n4,hB4,Fgt.mono (fun e h n hk=>⟨fun xs hx=>hlens xs bZ,hk⟩) hq4⟩⟩
   |ret=>
    obtain ⟨hl4,M',Mc4,hg,hB4⟩:=zmg (rc':=zkc fn a.tmps ps assign body D .done (some .ret)) hB2 hO hs.size hs4
    exact ⟨_, _,run_endRound (some .ret) hl4,false,M',rfl,hg, _, _, .inl ⟨rfl,rfl⟩,Mc4,φ4, _,h4',n4,hB4,hq4⟩
   |exit id=>
    obtain ⟨hl4,M',Mc4,hg,hB4⟩:=zmg (rc':=zkc fn a.tmps ps assign body D .done (some (.exit id))) hB2 hO hs.size hs4
    exact ⟨_, _,run_endRound (some (.exit id)) hl4,false,M',rfl,hg, _, _, .inr ⟨id,rfl,rfl⟩,Mc4,φ4, _,h4',n4,hB4,hq4⟩
   |goto t=>exact hq4.elim
   |panic ch=>exact hq4.elim
   |outgrown=>exact hq4.elim
  | _=>exact hq3.elim
 ·rintro rfl M O w2 ⟨Mc2,φ2,e2,h2',n2,hB2, _,hA, _⟩
  cases hA
 · -- behind the iterator
  rintro en w3 ⟨⟨v,rfl⟩,M',O',hO',⟨hmore,hJ⟩|⟨c,x,hcx,hJ⟩⟩
  ·obtain ⟨Mc2,φ2,e2,h2',n2,hB2, _, _,hQ⟩:=hJ
   refine ⟨none, _,run_endLoop hB2.lrec ad, ?_⟩
   have g:=zhq (M:=Or Mc2 (OcS O0 l O' w3)) (w:=w3) (l:=l) (.loop { zkc fn a.tmps ps assign body D .ready none with state:= .exhausted}) (.inr (.inl (.inr rfl))) hB2.heap.m0
   exact ⟨_,φ2,e2,h2',n2,⟨fun t=>g.rel (hB2.env t),hs.size,hB2.marks.grow g,g.hrel hB2.heap,⟨Mc2, _,rfl,B.oth0 hB2.ok (zls _ (.inl (.inr rfl))) fun k hk=> .inl hk⟩,hs.small⟩,hQ⟩
  ·obtain ⟨Mc2,φ2,e2,h2',n2,hB2,hQ⟩:=hJ
   refine ⟨some c, _,run_endLoop hB2.lrec ad, ?_⟩
   have g:=zhq (M:=Or Mc2 (OcS O0 l O' w3)) (w:=w3) (l:=l) (.loop { zkc fn a.tmps ps assign body D .done (some c) with state:= .exhausted}) (.inr (.inl (.inr rfl))) hB2.heap.m0
   have hfin:SQ B N Q x { a with defers:=mark++a.defers} (w3.putObj l (.loop { zkc fn a.tmps ps assign body D .done (some c) with state:= .exhausted})):=
    ⟨_,φ2,e2,h2',n2,⟨fun t=>g.rel (hB2.env t),hs.size,hB2.marks.grow g,g.hrel hB2.heap,⟨Mc2, _,rfl,B.oth0 hB2.ok (zls _ (.inl (.inr rfl))) fun k hk=> .inl hk⟩,hs.small⟩,hQ⟩
   rcases hcx with ⟨rfl,rfl⟩|⟨id,rfl,rfl⟩
   ·exact wpIn_ret hfin
   ·exact wpIn_exit hfin
theorem SR.give {P:Program}{B:zfg P}{N:Nat}{Mc O0:zc4}{φ:zaz}{e:Env}{h:zaq}{n o:Nat}{a:Act}{w:World}{gn sz:Nat}{rs rs':List (List AV)} (hs:SR B N (Or Mc O0) φ e h n a w)
  (hok:B.ok0 (e GH) Mc O0 φ w h) (ho:h o=some (.rows true gn sz rs)) {φ1:zaz} (h0:φ1 0=φ o) {Oi:zc4} (hOi:Oi=Mut φ1 (mkH [(0, .rows true gn sz rs')])):
  SR B N (Or Mc (Or O0 Oi)) φ e (upd h o none) n a w∧B.ok0 (e GH) Mc (Or O0 Oi) φ w (upd h o none)∧(∀k,Oi k→Mut φ h k∧¬Mut φ (upd h o none) k):=by
 have hsub:∀k,Mut φ (upd h o none) k→Mut φ h k:=by
  rintro k ⟨o',g,sz,rs,g',a,bs,h1,h2,rfl⟩
  by_cases e:o'=o
  ·subst e;rw [zax] at h1;cases h1
  ·rw [zbs _ _ e] at h1;exact ⟨o',g,sz,rs,g',a,bs,h1,h2,rfl⟩
 have hO1:∀k,Oi k→∃g' a bs,φ o=some (g',some (a,bs))∧a.block=k:=by
  intro k hk
  rw [hOi] at hk
  obtain ⟨o',g,sz,rs,g',a,bs,h1,h2,rfl⟩:=hk
  have e:=zeK h1
  simp only [List.mem_singleton,Prod.mk.injEq] at e
  obtain ⟨rfl, _⟩:=e
  rw [h0] at h2
  exact ⟨g',a,bs,h2,rfl⟩
 have hO2:∀k,Oi k→Mut φ h k:=by
  intro k hk
  obtain ⟨g',a,bs,h2,rfl⟩:=hO1 k hk
  exact ⟨o, _, _, _,g',a,bs,ho,h2,rfl⟩
 have hmut:∀k,Or (Or Mc (Or O0 Oi)) (Mut φ (upd h o none)) k→Or (Or Mc O0) (Mut φ h) k:=by
  rintro k ((hk|hk|hk)|hk)
  ·exact .inl (.inl hk)
  ·exact .inl (.inr hk)
  ·exact .inr (hO2 k hk)
  ·exact .inr (hsub k hk)
 have hok':B.ok0 (e GH) Mc (Or O0 Oi) φ w (upd h o none):=B.give0 hok (fun k hk=>hk.imp id (hO2 k)) hsub
 have hgn:∀ {g':Nat} {A:Option (Addr×Nat)},φ o=some (g',A)→g'=gn:=by
  intro g' A hA
  obtain ⟨A',hA', _⟩:=hs.heap.obj _ _ _ _ _ ho
  rw [hA] at hA'
  simp only [Option.some.injEq,Prod.mk.injEq] at hA'
  exact hA'.1
 have hfar:∀o' mt g sz rs a bs,upd h o none o'=some (.rows mt g sz rs)→φ o'=some (g,some (a,bs))→¬Oi a.block:=by
  intro o' mt g sz rs a bs h1 h2 hk
  obtain ⟨g',a',bs',h3,h4⟩:=hO1 _ hk
  have e:o'≠o:=by rintro rfl;rw [zax] at h1;cases h1
  rw [zbs _ _ e] at h1
  have:=hgn h3
  subst this
  exact hs.heap.inj _ _ _ _ _ _ _ _ _ _ _ _ _ _ ho h1 (Ne.symm e) (.inl rfl) h3 h2 h4
 refine ⟨⟨fun t=>(hs.env t).lessM hmut,hs.size,⟨hs.defs.1,fun d hd=> ?_⟩,⟨fun k hk=> ?_,hs.heap.fresh,fun o' mt g sz rs h1=> ?_,fun o1 o2 mt g sz rs mt' g' sz' rs' a a' b b' h1 h2=> ?_,hs.heap.glob.keep (fun _ _ _=>rfl) fun k hk=> .inl (hmut k hk)⟩,⟨Mc,Or O0 Oi,rfl,hok'⟩,hs.small⟩,hok',fun k hk=>⟨hO2 k hk, ?_⟩⟩
 ·obtain ⟨D,h1,h2,h3,h4⟩:=hs.defs.2 d hd
  refine ⟨D,h1,h2, ?_,h4⟩
  rintro (hk|hk|hk)
  ·exact h3 (.inl hk)
  ·exact h3 (.inr hk)
  ·obtain ⟨_,⟨C,T,fz,hc⟩|⟨es,clk,hc⟩⟩:=hs.heap.mut_cells (hO2 D hk)<;>(rw [h4] at hc;cases hc)
 ·rcases hk with hk|hk|hk
  ·exact hs.heap.m0 k (.inl hk)
  ·exact hs.heap.m0 k (.inr hk)
  ·exact hs.heap.blk (.inr (hO2 k hk))
 ·have e:o'≠o:=by rintro rfl;rw [zax] at h1;cases h1
  have h1':=h1
  rw [zbs _ _ e] at h1
  obtain ⟨A,hA,hc⟩:=hs.heap.obj _ _ _ _ _ h1
  refine ⟨A,hA,hc.imp id ?_⟩
  rintro ⟨a,bs,e1,e2,e3⟩
  subst e1
  exact ⟨a,bs,rfl,fun hk=>hk.elim (fun hk=>e2 (.inl hk)) fun hk=>hk.elim (fun hk=>e2 (.inr hk)) (hfar _ _ _ _ _ _ _ h1' hA),e3.keep rfl fun hx=>hx.lessM hmut⟩
 ·have e1:o1≠o:=by rintro rfl;rw [zax] at h1;cases h1
  have e2:o2≠o:=by rintro rfl;rw [zax] at h2;cases h2
  rw [zbs _ _ e1] at h1
  rw [zbs _ _ e2] at h2
  exact hs.heap.inj _ _ _ _ _ _ _ _ _ _ _ _ _ _ h1 h2
 ·rintro ⟨o',g,sz,rs,g',a,bs,h1,h2,rfl⟩
  have e:o'≠o:=by rintro rfl;rw [zax] at h1;cases h1
  have h1':=h1
  rw [zbs _ _ e] at h1'
  obtain ⟨A,hA, _⟩:=hs.heap.obj _ _ _ _ _ h1'
  have h3:=h2
  rw [hA] at h3
  simp only [Option.some.injEq,Prod.mk.injEq] at h3
  obtain ⟨rfl, _⟩:=h3
  exact hfar _ _ _ _ _ _ _ h1 h2 hk
theorem zha.sound {φ φ1:zaz}{F:Nat→Prop}{w:World}{M:zc4}{h h':zaq}{n o:Nat} (hH:zaE φ F w M h) (hmt:∀o g sz rs,h' o=some (.rows true g sz rs)→h o=some (.rows true g sz rs)) (h0:φ1 0=φ o):
  ∀ {xs ys:List AV} {vs:List Value},zha h h' n o xs ys→zaJ φ w (Or M (Mut φ h)) xs vs→zaJ φ1 w (Or M (Mut φ h')) ys vs:=by
 intro xs ys vs hg
 induction hg generalizing vs with
 |nil=>intro hr;cases hr;exact .nil
 |ref t ih=>
  intro hr
  cases hr with
  |cons hx ht=>
   refine .cons ?_ (ih ht)
   cases hx with
   |ref ho hg h=>exact .ref (h0.trans ho) hg h
 |le hx hb t ih=>
  intro hr
  cases hr with
  |cons hv ht=>
   have:=zce hH hmt (.cons hx .nil) (fun c hc=>by simp at hc;subst hc;exact hb) (.cons hv .nil)
   cases this with
   |cons h1 _=>exact .cons (h1.keep (fun o x ho=>by cases ho) (fun _ _ _=>rfl) (fun k hk=> .inl hk)) (ih ht)
theorem zmb {P:Program}{N:Nat}{g:Operand}{ps:Array Tmp}{assign body:Code}{B:zfg P}{m:Nat}{Q:zbV}
  (ha:∀ {B':zfg P} {m:Nat} {Q:zbV} {M:zc4} {φ:zaz} {e:Env} {h:zaq} {n:Nat} {a:Act} {w:World},SR B' N M φ e h n a w→awp P B'.n0 assign Q e h n→assign.wpIn (WF B'.round) m P (SQ B' N Q) a w)
  (hb:∀ {B':zfg P} {m:Nat} {Q:zbV} {M:zc4} {φ:zaz} {e:Env} {h:zaq} {n:Nat} {a:Act} {w:World},SR B' N M φ e h n a w→awp P B'.n0 body Q e h n→body.wpIn (WF B'.round) m P (SQ B' N Q) a w)
  (hps:∀p ∈ ps.toList,p<N) {M:zc4} {φ:zaz} {e:Env} {h:zaq} {n:Nat} {a:Act} {w:World} (hs:SR B N M φ e h n a w) (hh:awp P B.n0 (.rangeFunc g ps assign body) Q e h n):
  (Code.rangeFunc g ps assign body).wpIn (WF B.round) m P (SQ B N Q) a w:=by
 have key:∀ {h':zaq} {f:FuncId} {caps:List AV},ev e g= .fn (.func f) [] caps→Frz h h'→
   (∀o g sz rs,h' o=some (.rows true g sz rs)→h o=some (.rows true g sz rs))∧(∃Mc O0,M=Or Mc O0∧B.ok0 (e GH) Mc O0 φ w h')∧SR B N M φ e h' n a w∧
   ∃cs,a.eval g= .func (.func f) ⟨[]⟩ ⟨cs⟩∧zaJ φ w (Or M (Mut φ h)) caps cs:=by
  intro h' f caps h1 h2
  obtain ⟨Mc,O0,rfl,hok⟩:=hs.ok
  obtain ⟨hHf,stf⟩:=hs.heap.freeze h2
  have hok1:=B.step0 hok stf.anyM
  have hfo:=zuH hs.heap.glob hs.env g
  rw [h1] at hfo
  generalize hval:a.eval g=fv at hfo
  cases hfo with
  | @fn _ _ _ fs cs r1 r2=>
  cases r1
  refine ⟨fun o g sz rs ho=> ?_,⟨Mc,O0,rfl,hok1⟩,⟨fun t=>stf.rel (hs.env t),hs.size,hs.defs,hHf,⟨Mc,O0,rfl,hok1⟩,hs.small⟩,cs,rfl,r2⟩
  rcases h2 o with h1|⟨g1,sz1,rs1,h1,h2⟩
  ·rw [← h1];exact ho
  ·rw [h2] at ho;cases ho
 rcases hh with ⟨f,caps,caps',more,rows,h',h1,h2,h3,h4,⟨hent,hseq⟩,hlen,hR⟩|⟨f,caps,caps',o,gn,sz,rs,rs',more,rows,h',h1,h2,ho,h3,h4,hgv,⟨hent,hseq⟩,hlen,hR⟩
 ·obtain ⟨hmt,⟨Mc,O0,rfl,hok⟩,hs',cs,hval,hcs⟩:=key h1 h2
  have hcs:=zce hs.heap hmt h3 h4 hcs
  have e0:Or O0 (fun _=>False)=O0:=zek O0
  refine zn6 ha hb hps (Mc:=Mc) (O0:=O0) (Oi0:=fun _=>False) (by rw [e0];exact hs') (by rw [e0];exact hok) hval hent hlen hR fun l w1 hfr1 hl1 hl2 J Jx=> ?_
  have hsz1:=hfr1.size
  refine hseq w1 _ cs l J Jx (fun k hk=> ?_) (hs'.heap.glob.keep (fun k _ hk=>hfr1.block k hk id) (fun k hk=>hk.elim (fun hk=>hk.elim (fun h=> .inl (.inl (.inl h))) fun h=> .inl (.inr h)) fun hk=>hk.elim (fun h=> .inr aa) fun h=> .inl (.inl (.inr h)))) ?_
  ·rcases hk with (hk|hk)|(hk|hk)
   ·exact Nat.lt_of_lt_of_le (hs'.heap.m0 k (.inl hk)) hsz1
   ·exact Nat.lt_of_lt_of_le (hs'.heap.blk (.inr hk)) hsz1
   ·omega
   ·exact Nat.lt_of_lt_of_le (hs'.heap.m0 k (.inr hk)) hsz1
  ·refine hcs.keep noP.le_refl (fun k _ hk=>hfr1.block k hk id) fun k hk=> ?_
   rcases hk with (hk|hk)|(hk|hk)
   ·exact .inl (.inl (.inl hk))
   ·exact .inl (.inr hk)
   ·exact .inr aa
   ·exact .inl (.inl (.inr hk))
 ·obtain ⟨hmt,⟨Mc,O0,rfl,hok⟩,hs',cs,hval,hcs⟩:=key h1 h2
  let φ1:zaz:=fun i=>if i=0 then φ o else none
  have h0:φ1 0=φ o:=rfl
  have hcs:=hgv.sound (φ1:=φ1) hs.heap hmt h0 hcs
  obtain ⟨hs2,hok2,hOi⟩:=hs'.give (rs':=rs') hok ho h0 rfl
  refine zn6 ha hb hps (Mc:=Mc) (O0:=O0) hs2 hok2 hval hent hlen hR fun l w1 hfr1 hl1 hl2 J Jx=> ?_
  have hsz1:=hfr1.size
  generalize hOe:Mut φ1 (mkH [(0,zbp.rows true gn sz rs')])=Oi at *
  have hsub:∀k,Mut φ (upd h' o none) k→Mut φ h' k:=by
   rintro k ⟨o',g,sz,rs,g',a,bs,h1,h2,rfl⟩
   by_cases e:o'=o
   ·subst e;rw [zax] at h1;cases h1
   ·rw [zbs _ _ e] at h1;exact ⟨o',g,sz,rs,g',a,bs,h1,h2,rfl⟩
  have hto:∀k,Or (fun k=>(Mc k∨Mut φ (upd h' o none) k)∨(k=l∨O0 k)) Oi k→Or (Or Mc O0) (Mut φ h') k∨w.heap.size≤k:=by
   rintro k (((hk|hk)|(hk|hk))|hk)
   ·exact .inl (.inl (.inl hk))
   ·exact .inl (.inr (hsub k hk))
   ·exact .inr aa
   ·exact .inl (.inl (.inr hk))
   ·exact .inl (.inr (hOi k hk).1)
  have hspec:=h3.spec
  have hH1:zhD φ1 1 w1 (fun k=>(Mc k∨Mut φ (upd h' o none) k)∨(k=l∨O0 k)) (mkH [(0, .rows true gn sz rs')]):=by
   refine ⟨fun k hk=> ?_,fun i hi=>if_neg aa,fun i mt g sz2 rs2 hi=> ?_,fun i i' mt g sz rs mt' g' sz' rs' a a' b b' hi hi' hne=> ?_,hs'.heap.glob.keep (fun k _ hk=>hfr1.block k hk id) (fun k hk=>hto k dw)⟩
   ·rcases hk with (hk|hk)|(hk|hk)
    ·exact Nat.lt_of_lt_of_le (hs'.heap.m0 k (.inl hk)) hsz1
    ·exact Nat.lt_of_lt_of_le (hs'.heap.blk (.inr (hsub k hk))) hsz1
    ·omega
    ·exact Nat.lt_of_lt_of_le (hs'.heap.m0 k (.inr hk)) hsz1
   ·have e:=zeK hi
    simp only [List.mem_singleton,Prod.mk.injEq,zbp.rows.injEq] at e
    obtain ⟨rfl,rfl,rfl,rfl,rfl⟩:=e
    obtain ⟨A,hA,hc⟩:=hs.heap.obj _ _ _ _ _ (hmt _ _ _ _ ho)
    refine ⟨A,hA,hc.imp (fun h=>⟨h.1, ?_⟩) ?_⟩
    ·have:=hspec.2.1
     rw [h.2] at this
     exact List.eq_nil_of_length_eq_zero this.symm
    ·rintro ⟨a1,bs,rfl,e2,e3⟩
     have hblk:=e3.blk
     have hin:Oi a1.block:=by rw [← hOe];exact ⟨0, _, _, _, _,a1,bs,hi,hA,rfl⟩
     refine ⟨a1,bs,rfl, ?_,e3.turn (hfr1.block _ hblk id) hspec.2.1.symm (hspec.2.2 _) fun hv=> ?_⟩
     ·rintro ((hk|hk)|(hk|hk))
      ·exact e2 (.inl hk)
      ·exact (hOi _ hin).2 hk
      ·omega
      ·exact e2 (.inr hk)
     ·refine (zce hs.heap hmt hspec.1 (fun c hc=> ?_) hv).keep (fun o x ho=>by cases ho) (fun k _ hk=>hfr1.block k hk id) (fun k hk=>hto k dw)
      obtain ⟨r,hr,hc⟩:=List.mem_flatten.1 hc
      exact h4 r hr c hc
   ·have e:=zeK hi
    have e':=zeK hi'
    simp only [List.mem_singleton,Prod.mk.injEq] at e e'
    exact absurd (e.1.trans e'.1.symm) hne
  have:=hseq φ1 w1 _ cs l J Jx hH1 (hcs.keep φ1.le_refl (fun k _ hk=>hfr1.block k hk id) (fun k hk=>hto k dw))
  rw [hOe] at this
  exact this
end Go.Av
end
