/- Texts of ours, part 2: our library and contracts of functions. -/
import Derived.Test.YtgdfnfffibhkjaaGreatDoorB01
import Derived.WideKeyRuns
import Derived.Laws.BytesString
import Derived.RangeFuncLeaves
import Derived.RangeFuncRecord
set_option linter.unusedSimpArgs false
set_option linter.unusedVariables false
set_option maxRecDepth 100000
set_option maxHeartbeats 40000000
section
namespace Go.Av
open Go
variable {rs:List (List AV)} {es:List MapEntry} {r:Bool} {w':World} {u v z:Value} {M M':Nat->Prop} {k:Nat} {m x:AV} {t:TypeId}
section maps
variable {P:Program} {φ:aQ} {F:Nat->Prop} {w:World} {M0:Nat->Prop} {h:au} {n:Nat}
inductive MJ (P:Program) (t:TypeId):TK->Prop
  |string (h:P.underlying t=some .string):MJ P t .string
  |bool (h:P.underlying t=some .bool):MJ P t .bool
  |int {k:IntKind} (h:P.underlying t=some (.int k)):MJ P t (.int k)
  |many {fs:Array Field} {ks:List Nat} (h:P.underlying t=some (.struct fs)) (h1:P.stoodInHeld t=false) (hl:ks.length=fs.size)
      (hf:∀i (hi:i<fs.size),fs[i].name≠ "_" ∧fs[i].offset=i∧zV P fs[i].type=ks[i]?):MJ P t (.many ks)
theorem zfT  (h:I5 (uw P t) x=true):MJ P t (uw P t):=by
  unfold uw at h ⊢;cases hu:P.underlying t with
  |none=>grind [tk,I5]
  |some d=>
    cases d<;>simp only [tk,hu,I5,Bool.false_eq_true] at h ⊢;case bool=>exact .bool hu
    case int k=>exact .int hu
    case string=>exact .string hu
    case struct fs=>
      cases hk:Fx P t with
      |none=>grind
      |some ks=>
        unfold Fx at hk;rw [hu] at hk;simp only at hk;split at hk
        · rename_i hall;cases hk;simp only [Bool.and_eq_true,Bool.not_eq_true',List.all_eq_true,List.mem_range] at hall;refine .many hu hall.1 gt λ i hi=> ?_;grind [Option.isSome_iff_exists]
        grind
theorem yk  (h:zV P t=some k):(k=0∧∃d,P.underlying t=some (.int d))∨(k=1∧P.underlying t=some .bool)∨(k=2∧P.underlying t=some .string):=by
  grind [zV]
theorem Dq  (h:zV P t=some k):gy P t=some false:=by
  grind [gy,yk]
theorem zbv  (h:zV P t=some k) (e:Bool) (m:Nat) (v:Value):(Instr.checkKey e (m+1) t v).run P w= .ok () w:=by
  unfold Instr.checkKey;rcases yk h with ⟨_,d,h⟩|⟨_,h⟩|⟨_,h⟩<;>simp [Sem.run_bind,ar h,Result.andThen]
theorem Hm:∀ {ks:List Nat}{xs:List AV},AT ks xs=true->xs.length=ks.length
  | [], [], _=>rfl
  | [], _:: _,h=>by simp [AT] at h
  | _:: _, [],h=>by simp [AT] at h
  |k::ks,x::xs,h=>by
    simp only [AT,Bool.and_eq_true] at h;simp [Hm h.2]
theorem mX  (h:I5 (uw P t) x=true) (hx:bY φ w M x v) (e:Bool):(Instr.checkKey e 10000 t v).run P w= .ok () w:=by
  have hd:=zfT h;generalize uw P t=T at h hd;cases hd with
  |string hu=>unfold Instr.checkKey;simp_all [ar]
  |bool hu=>unfold Instr.checkKey;simp_all [ar]
  |int hu=>unfold Instr.checkKey;simp_all [ar]
  | @many fs ks hu hs hl hf=>
    cases x<;>simp only [I5,Bool.false_eq_true] at h;cases hx with
    | @agg _ vs hv hr=>
      have hlen:vs.length=fs.size:=by rw [<- hr.length,Hm h,hl]
      rw [show (10000:Nat)=9999+1 from rfl,Instr.checkKey];simp only [Sem.run_bind,ar hu,Result.andThen_ok];rw [<- Array.forIn_toList];have hg:∀i (hi:i<fs.toList.length),fs.toList[i].name≠ "_" ∧fs.toList[i].offset=0+i∧0+i<vs.length∧∃k,zV P fs.toList[i].type=some k:=λ i hi=>by
        grind
      generalize fs.toList=L at hg;generalize (0:Nat)=d at hg;induction L generalizing d with
      |nil=>simp
      |cons f L ih=>
        obtain ⟨a1,a2,a3,k,a4⟩:=hg 0 gt;simp only [List.getElem_cons_zero,Nat.add_zero] at a1 a2 a3 a4;have p1:=jt (P:=P) (w:=w) (d:=d) (Dq a4) vs a3;simp only [List.forIn_cons,Sem.run_bind,a1,ne_eq,not_false_eq_true,if_true,Result.andThen_ok,a2,p1,zbv a4,Sem.run_pure];exact ih (d+1) λ i hi=>by
          have:=hg (i+1) pi;grind
theorem Gr {a b:ByteArray} (h:(a==b)=true):a=b:=by
  have h':(a.data==b.data)=true:=h;grind [ByteArray.ext]
theorem QI (a:ByteArray):(a==a)=true:=by
  show (a.data==a.data)=true;simp
theorem sx (a b:ByteArray):(a==b)=decide (a=b):=by
  grind [QI,Gr]
theorem zb9  (ht:zV P t=some k){φ':aQ}{y:AV} (hx:bY φ w M x u) (hy:bY φ' w' M' y v) (h:Vz k x y=some r) (d:Nat):
    (Op.equalIn (d+1) t u v).run P w= .ok r w∧(r=true->v=u∧Instr.sameBits (d+1) v v=true):=by
  rcases yk ht with ⟨rfl,q,hu⟩|⟨rfl,hu⟩|⟨rfl,hu⟩
  · unfold Vz at h;split at h
    · split at h
      · rename_i hk;cases hx;cases hy;grind [run_equalIn_int,Instr.sameBits]
      · cases h
    all_goals simp_all
  · unfold Vz at h;split at h
    · simp_all
    · cases hx;cases hy;grind [wA,Instr.sameBits]
    all_goals simp_all
  · unfold Vz at h;split at h
    · simp_all
    · simp_all
    · cases hx;cases hy;simp only [Option.some.injEq] at h;subst h;refine ⟨by rw [Op.equalIn];simp [ar hu],λ e=> ?_⟩;grind [Gr,Instr.sameBits]
    · cases h
theorem ON {φ':aQ}{M M':Nat->Prop}{w':World} (vs us:List Value):∀ (fs:List Field) (d:Nat) (ks:List Nat) (xs ys:List AV) (r:Bool),aU φ w M xs (vs.drop d)->aU φ' w' M' ys (us.drop d)->OM ks xs ys=some r->
    ks.length=fs.length->(∀i (hi:i<fs.length),fs[i].name≠ "_" ∧fs[i].offset=d+i∧zV P fs[i].type=ks[i]?)->
    (Op.eqFields 9999 vs.toArray us.toArray fs).run P w= .ok r w∧(r=true->us.drop d=vs.drop d∧∀u ∈ us.drop d,Instr.sameBits 9999 u u=true)
  | [],d,ks,xs,ys,r,hx,hy,h,hl,hf=>by
    obtain rfl:ks= []:=List.eq_nil_of_length_eq_zero hl;cases xs with
    |cons=>simp [OM] at h
    |nil=>cases ys with
      |cons=>simp [OM] at h
      |nil=>
        simp only [OM,Option.some.injEq] at h;subst h;have e1:=hx.length;have e2:=hy.length;rw [List.eq_nil_of_length_eq_zero e1.symm,List.eq_nil_of_length_eq_zero e2.symm];exact ⟨by simp [Op.eqFields],λ _=>⟨rfl,gt⟩⟩
  |f::fs,d,ks,xs,ys,r,hx,hy,h,hl,hf=>by
    match ks,xs,ys,h with
    |k::ks,x::xs,y::ys,h=>
      simp only [OM] at h;split at h
      · rename_i a b ha hb;cases h;obtain ⟨a1,a2,a3⟩:=hf 0 gt;simp only [List.getElem_cons_zero,Nat.add_zero,List.getElem?_cons_zero] at a1 a2 a3;have hdv:d<vs.length:=by have:=hx.length;simp at this;omega
        have hdu:d<us.length:=by have:=hy.length;simp at this;omega
        rw [List.drop_eq_getElem_cons hdv] at hx ⊢;rw [List.drop_eq_getElem_cons hdu] at hy ⊢;cases hx with
        |cons hx1 hx2=>
        cases hy with
        |cons hy1 hy2=>
        obtain ⟨g1,g2⟩:=zb9 a3 hx1 hy1 ha 9998;obtain ⟨i1,i2⟩:=ON vs us fs (d+1) ks xs ys b hx2 hy2 hb (by simpa using hl) (λ i hi=>by
          have:=hf (i+1) Wv;simp only [List.getElem_cons_succ,List.getElem?_cons_succ] at this;exact ⟨this.1,ge,this.2.2⟩)
        have p1:=jt (P:=P) (w:=w) (d:=d) (Dq a3) vs hdv;have p2:=jt (P:=P) (w:=w) (d:=d) (Dq a3) us hdu;refine ⟨?_,λ e=> ?_⟩
        · rw [Op.eqFields,if_pos a1,a2];simp only [Sem.run_bind,p1,p2,Result.andThen_ok,g1];cases a with
          |true=>simpa using i1
          |false=>simp
        · simp only [Bool.and_eq_true] at e;obtain ⟨e1,e2⟩:=g2 e.1;obtain ⟨e3,e4⟩:=i2 e.2;exact ⟨by rw [e1,e3],λ u hu=>by
            rcases List.mem_cons.1 hu with rfl|hu
            · exact e2
            · exact e4 u hu⟩
      · cases h
theorem yl {ks:List Nat} (hd:MJ P t (.many ks)){φ':aQ}{a b:AV} (ha:bY φ w M a u) (hb:bY φ' w' M' b v) (h:mi (.many ks) a b=some r):
    (Op.equal t u v).run P w= .ok r w∧(r=true->Instr.sameBits 10000 v u=true):=by
  cases hd with
  | @many fs _ hu hs hl hf=>
    cases a<;>cases b<;>simp only [mi,reduceCtorEq] at h;rename_i xs ys;cases ha with
    | @agg _ vs hv hr=>
    cases hb with
    | @agg _ us hv2 hr2=>
      have hF:P.fieldsOf t=fs:=Yx;obtain ⟨g1,g2⟩:=ON (P:=P) vs us fs.toList 0 ks xs ys r (by simpa using hr) (by simpa using hr2) h pi (λ i hi=>by
        grind)
      refine ⟨?_,λ e=> ?_⟩
      · show (Op.equalIn 10000 t _ _).run P w= _;grind [run_equalIn_agg]
      grind [Instr.sameBits,List.getElem_of_mem]
theorem Rx {T:TK} (hd:MJ P t T) (hT:∀ks,T≠ .many ks){φ':aQ}{a b:AV} (ha:bY φ w M a u) (hb:bY φ' w' M' b v) (h:mi T a b=some r):
    ∃d,P.underlying t=some d∧Instr.sameNow d u v=some r∧(r=true->Instr.sameBits 10000 v u=true):=by
  cases hd with
  |many=>grind
  |string hu=>
    unfold mi at h;split at h<;>simp_all;cases ha;cases hb;grind [Instr.sameNow,Gr,Instr.sameBits]
  |bool hu=>
    unfold mi at h;split at h<;>simp_all;cases ha;cases hb;grind [Instr.sameNow,Instr.sameBits]
  |int hu=>
    unfold mi at h;split at h<;>simp_all;cases ha;cases hb;grind [Instr.sameNow,Instr.sameBits]
structure P3 (P:Program) (w:World) (t:TypeId) (T:TK) (u:Value) (Fd:List MapEntry->Nat->Option (Nat×Value)->Prop):Prop where
  nil:∀i,Fd [] i none
  hit:∀ {e:MapEntry} {es:List MapEntry} {i:Nat},(∃φ' w' M',∃a b:AV,bY φ' w M' a u∧bY φ' w' M' b e.key∧mi T a b=some true)->Fd (e::es) i (some (i,e.val))
  miss:∀ {e:MapEntry} {es:List MapEntry} {i:Nat} {r:Option (Nat×Value)},(∃φ' w' M',∃a b:AV,bY φ' w M' a u∧bY φ' w' M' b e.key∧mi T a b=some false)->Fd es (i+1) r->Fd (e::es) i r
  run:∀ {es:List MapEntry} {r:Option (Nat×Value)},Fd es 0 r->(Instr.findKey t u es).run P w= .ok r w
  same:∀ {v:Value},(∃φ' w' M',∃a b:AV,bY φ' w M' a u∧bY φ' w' M' b v∧mi T a b=some true)->Instr.sameBits 10000 v u=true
theorem zbS {T:TK} (hd:MJ P t T) (u:Value):∃Fd,P3 P w t T u Fd:=by
  by_cases hT:∃ks,T= .many ks
  · obtain ⟨ks,rfl⟩:=hT;refine ⟨λ es i r=>(Instr.findAsking t u es i).run P w= .ok r w,λ i=>by simp [Instr.findAsking], ?_, ?_,λ {es r} h=> ?_, ?_⟩
    · rintro e es i ⟨φ',w',M',a,b,ha,hb,hq⟩;simp [Instr.findAsking,(yl hd ha hb hq).1]
    · rintro e es i r ⟨φ',w',M',a,b,ha,hb,hq⟩ hr;simp [Instr.findAsking,(yl hd ha hb hq).1,hr]
    · cases hd<;>grind [run_findKey_eq]
    · rintro v ⟨φ',w',M',a,b,ha,hb,hq⟩;exact (yl hd ha hb hq).2 rfl
  · have hu:∃d,P.underlying t=some d:=by cases hd<;>exact ⟨_,by assumption⟩
    obtain ⟨d,hu⟩:=hu;have one:∀ {φ':aQ} {w':World} {M':Nat->Prop} {a b:AV} {v:Value} {r:Bool},bY φ' w M' a u->bY φ' w' M' b v->mi T a b=some r->Instr.sameNow d u v=some r∧(r=true->Instr.sameBits 10000 v u=true):=by
      grind [Rx]
    refine ⟨λ es i r=>Instr.findNow d u es i=some r,λ i=>rfl, ?_, ?_,λ {es r} h=> ?_, ?_⟩
    · grind [Instr.findNow]
    · grind [Instr.findNow]
    · simp [Instr.findKey,ar hu,h]
    grind
theorem fE.nil_inv  (h:fE φ w M [] es):es= []:=by
  cases es with
  |nil=>rfl
  |cons e es=>exact absurd h (by unfold fE;intro h;cases h)
theorem fE.cons_inv {r:List AV} (hr:r.length=2) (h:fE φ w M (r::rs) es):∃e es' k x,es=e::es'∧r= [k,x]∧bY φ w M k e.key∧bY φ w M x e.val∧fE φ w M rs es':=by
  match r,hr with
  | [k,x], _=>
    cases es with
    |nil=>unfold fE at h;cases h
    |cons e es=>
      unfold fE at h;simp only [List.flatten_cons,List.flatMap_cons,List.cons_append,List.nil_append] at h;cases h with
      |cons h1 h=>cases h with
        |cons h2 h=>grind [fE]
theorem fE.cons {M:Nat->Prop}{k x:AV}{rs:List (List AV)}{e:MapEntry}{es:List MapEntry} (h1:bY φ w M k e.key) (h2:bY φ w M x e.val) (h:fE φ w M rs es):fE φ w M ([k,x]::rs) (e::es):=by
  unfold fE;exact .cons h1 (.cons h2 h)
theorem Ev {t:TypeId}{T:TK}{M:Nat->Prop}{k:AV}{v:Value}{Fd:List MapEntry->Nat->Option (Nat×Value)->Prop} (fd:P3 P w t T v Fd) (hk:bY φ w M k v):
    ∀ (rs:List (List AV)) (es:List MapEntry) (i:Nat),(∀r ∈ rs,r.length=2)->fE φ w M rs es->∀o,eM T k rs=some o->
      ∃r,Fd es i r∧((o=none∧r=none)∨∃x j u,o=some x∧r=some (j,u)∧bY φ w M x u)
  | [],es,i, _,he,o,h=>by
    obtain rfl:=he.nil_inv;simp only [eM,Option.some.injEq] at h;exact ⟨none,fd.nil i, .inl ⟨h.symm,rfl⟩⟩
  |r::rs,es,i,hl,he,o,h=>by
    obtain ⟨e,es',k',x,rfl,rfl,h1,h2,h3⟩:=he.cons_inv (hl _ gt);rw [eM] at h;split at h
    · simp only [Option.some.injEq] at h;exact ⟨some (i,e.val),fd.hit ⟨_, _, _, _, _,hk,h1,by grind [mZ]⟩, .inr ⟨x,i,e.val,by rw [<- h];rfl,rfl,h2⟩⟩
    · obtain ⟨r,g1,g2⟩:=Ev fd hk rs es' (i+1) (λ r hr=>hl r XV) h3 o h;exact ⟨r,fd.miss ⟨_, _, _, _, _,hk,h1,by grind [mZ]⟩ g1,g2⟩
    · cases h
theorem HF {t:TypeId}{T:TK}{M:Nat->Prop}{k x:AV}{v u:Value}{Fd:List MapEntry->Nat->Option (Nat×Value)->Prop} (fd:P3 P w t T v Fd) (hk:bY φ w M k v) (hx:bY φ w M x u):
    ∀ (rs:List (List AV)) (es:List MapEntry) (i:Nat),(∀r ∈ rs,r.length=2)->fE φ w M rs es->∀rs',gz T k x rs=some rs'->
      (∀r ∈ rs',r.length=2)∧
      ((Fd es i none∧rs'.length=rs.length+1∧∀b,fE φ w M rs' (es++ [{ key:=v,val:=u,born:=b}]))∨
       ∃j a b e,es=a++e::b∧a.length=j∧Fd es i (some (i+j,e.val))∧Instr.sameBits 10000 e.key v=true∧rs'.length=rs.length∧fE φ w M rs' (a++{ e with key:=v,val:=u}::b))
  | [],es,i, _,he,rs',h=>by
    obtain rfl:=he.nil_inv;simp only [gz,Option.some.injEq] at h;subst h;exact ⟨gt, .inl ⟨fd.nil i,rfl,λ b=>fE.cons hk hx ge⟩⟩
  |r::rs,es,i,hl,he,rs',h=>by
    obtain ⟨e,es',k',x',rfl,rfl,h1,h2,h3⟩:=he.cons_inv (hl _ gt);have hl':∀r ∈ rs,r.length=2:=λ r hr=>hl r XV;rw [gz] at h;split at h
    · simp only [Option.some.injEq] at h;subst h;refine ⟨λ r hr=> ?_, .inr ⟨0, [],es',e,rfl,rfl,fd.hit ⟨_, _, _, _, _,hk,h1,by grind [mZ]⟩,fd.same ⟨_, _, _, _, _,hk,h1,by grind [mZ]⟩,rfl,fE.cons hk hx h3⟩⟩;grind
    · rw [Option.map_eq_some_iff] at h;obtain ⟨rs1,hr1,rfl⟩:=h;have hq':mi T k k'=some false:=by grind [mZ]
      obtain ⟨g0,g⟩:=HF fd hk hx rs es' (i+1) hl' h3 rs1 hr1;refine ⟨λ r hr=> ?_, ?_⟩
      · grind
      · rcases g with ⟨g1,g2,g3⟩|⟨j,a,b,e2,g1,g2,g3,g4,g5,g6⟩
        · exact .inl ⟨fd.miss ⟨_, _, _, _, _,hk,h1,hq'⟩ g1,by simp [g2],λ b=>fE.cons h1 h2 (g3 b)⟩
        · refine .inr ⟨j+1,e::a,b,e2,pi,by simp [g2], ?_,g4,by simp [g5],fE.cons h1 h2 g6⟩;rw [show i+(j+1)=i+1+j by omega];exact fd.miss ⟨_, _, _, _, _,hk,h1,hq'⟩ g3
    · cases h
theorem LY (hH:br φ F w M0 h) (hn:F n){r:Option Operand}{vr:Option Value} (hr:r=none->vr=none) (hc:(vB P n t r).cond):Bj P φ F n w M0 h (vB P n t r) (Instr.makeMap t vr):=by
  unfold vB at hc ⊢;split at hc
  · obtain rfl:=hr rfl;obtain ⟨a,b⟩:=hH.newMap hn;exact ⟨.map (some w.heap.size), _, _,by simp [Instr.makeMap], .mp (cZ _ _ _) (λ _=>⟨_, _,rfl,gt,rfl⟩),a,b⟩
  grind
theorem TV  (h:Jd P t=some z):(zeroValue t).run P w= .ok z w:=by
  unfold Jd at h;cases hu:P.info? t with
  |none=>grind
  |some d=>
    cases hz:d.zero<;>simp_all [zeroValue,typeInfo]
theorem LW (hH:br φ F w M0 h){k:AV}{ok:Bool} (hm:bY φ w (Or M0 (bc φ h)) m v) (hk:bY φ w (Or M0 (bc φ h)) k u) (hc:(qY P t m k ok h).cond):
    ft P φ w (Or M0 (bc φ h)) (qY P t m k ok h) (Instr.lookup t v u ok):=by
  unfold qY at hc ⊢;split at hc
  · rename_i kt et o ht;split at hc
    · rename_i mt rs ho;obtain ⟨a,bs,es,clk,hp,hs,h0,rfl,hb,hl,⟨_,h2⟩,he⟩:=hH.mp_at ho hm;have key:∀r,eM (uw P kt) k rs=some r->I5 (uw P kt) k=true->∃rr,(Instr.findKey kt u es.toList).run P w= .ok rr w∧((r=none∧rr=none)∨∃x j z,r=some x∧rr=some (j,z)∧bY φ w (Or M0 (bc φ h)) x z):=by
        intro r hr hkk;obtain ⟨Fd,fd⟩:=zbS (w:=w) (zfT hkk) u;obtain ⟨rr,g1,g2⟩:=Ev fd hk rs es.toList 0 h2 he r hr;exact ⟨rr,fd.run g1,g2⟩
      split at hc
      · rename_i _ _ x hx;obtain ⟨rr,g1,g2⟩:=key _ hx hc;rcases g2 with ⟨h, _⟩|⟨x',j,z,e1,rfl,g2⟩
        · cases h
        cases e1;cases ok with
        |true=>exact ⟨.tuple ⟨[z, .bool true]⟩,Xy, .tup (.cons g2 (.cons (.v _) .nil)),rfl,rfl⟩
        |false=>exact ⟨z,Xy,g2,rfl,rfl⟩
      · rename_i _ _ z hx hz;obtain ⟨rr,g1,g2⟩:=key _ hx hc;rcases g2 with ⟨_,rfl⟩|⟨x',j,z,e1,rfl,g2⟩
        · cases ok with
          |true=>exact ⟨.tuple ⟨[z, .bool false]⟩,Xs, .tup (.cons (.v _) (.cons (.v _) .nil)),rfl,rfl⟩
          |false=>exact ⟨z,Xs, .v _,rfl,rfl⟩
        grind
      grind
    grind
  grind
theorem Ew (hH:br φ F w M0 h){o:Nat}{rs':List (List AV)} (ho:h o=some (.rows true 0 2 rs)){a:Addr}{bs:Nat} (hp:φ o=some (0,some (a,bs))) (hs:a.spot≠none) (h0:¬M0 a.block)
    {es:Array MapEntry} {clk:Nat} (hb:w.heap[a.block]? =some (.map es clk)) {es':Array MapEntry} {clk':Nat} (hl:es'.size=rs'.length) (h2:∀r ∈ rs',r.length=2) (he:fE φ w (Or M0 (bc φ h)) rs' es'.toList):
    ∃φ',br φ' F { w with heap:=w.heap.setIfInBounds a.block (.map es' clk')} M0 (aC h o (some (.rows true 0 2 rs')))∧
      fm φ w M0 h φ' { w with heap:=w.heap.setIfInBounds a.block (.map es' clk')} (aC h o (some (.rows true 0 2 rs'))):=by
  obtain ⟨q1,q2⟩:=MapKept.heap_set (o':= .map es' clk') hb;have hM:∀k,¬Or M0 (bc φ h) k->k≠a.block:=λ k hk e=>hk (.inr ⟨o,0,2,rs,0,a,bs,ho,hp,e.symm⟩);have hle0:φ.le (aC φ o (some (0,some (a,bs)))):=Xt;obtain ⟨g1,g2,g3⟩:=hH.set (w':={ w with heap:=w.heap.setIfInBounds a.block (.map es' clk')}) (F':=F) (o:=o) (mt:=true) (g:=0) (sz:=2) (rs:=rs') (A:=some (a,bs))
    (λ _ h=>h) (hH.place_old ho hp).2 gt hle0 (λ k hk _=>q2 k (hM k hk))
    (λ o' mt' g' sz' rs1 a₁ b₁ hne ho' hp'=>by
      have:=hH.inj _ _ _ _ _ _ _ _ _ _ _ _ _ _ ho ho' (Ne.symm hne) (.inl rfl) hp hp';grind)
    (λ a₁ b₁ e=>by
      grind)
    (.inl (.inr ⟨a,bs,es',clk',rfl,hs,h0,q1,hl,⟨rfl,h2⟩,he⟩))
  refine ⟨_,g1,hle0,g2,⟨rfl,rfl,rfl,Nat.le_refl _,gt,λ k _ hu=>q2 k (λ e=>hu ⟨o,0,2,rs,0,a,bs,ho,hp,e.symm⟩)⟩,λ k hk=> ?_⟩;grind [Or]
theorem HI {α:Type} (f:α->α) (e:α) (l2:List α):∀l1:List α,(l1++e::l2).modify l1.length f=l1++f e::l2
  | []=>rfl
  |a::l1=>by simp [HI f e l2 l1]
theorem Ex (hH:br φ F w M0 h){k:AV} (hm:bY φ w (Or M0 (bc φ h)) m v) (hk:bY φ w (Or M0 (bc φ h)) k u) (hx:bY φ w (Or M0 (bc φ h)) x z)
    (hc:(kX P t m k x h).cond):∃w' φ',(Instr.mapUpdate t v u z).run P w= .ok () w'∧br φ' F w' M0 (aB (kX P t m k x h).wr h)∧
      fm φ w M0 h φ' w' (aB (kX P t m k x h).wr h)∧(kX P t m k x h).val= .top:=by
  unfold kX at hc ⊢;split at hc
  · rename_i kt et o ht;split at hc
    · rename_i rs ho;obtain ⟨a,bs,es,clk,hp,hs,h0,rfl,hb,hl,⟨_,h2⟩,he⟩:=hH.mp_at ho hm;split at hc
      · rename_i rs' hput;obtain ⟨Fd,fd⟩:=zbS (w:=w) (zfT hc) u;simp only [ho,hput];obtain ⟨i1,i2⟩:=HF fd hk hx rs es.toList 0 h2 he rs' hput;rcases i2 with ⟨j1,j2,j3⟩|⟨j,l1,l2,e,j1,j2,j3,j4,j5,j6⟩
        · obtain ⟨φ',g1,g2⟩:=Ew (clk':=clk+1) hH ho hp hs h0 hb (es':=es.push { key:=u,val:=z,born:=clk}) pi i1 pi;exact ⟨_,φ',by simp [Instr.mapUpdate,ar (Bf ht),MapKept.run_getObj_map hb,mX hc hk,fd.run j1,MapKept.run_setObj_map _ hb,Result.andThen],g1,g2,trivial⟩
        · have hj:es[j]? =some e:=by rw [<- Array.getElem?_toList,j1,<- j2];simp
          have hmod:(es.modify j λ e=>{ e with key:=u,val:=z}).toList=l1++{ e with key:=u,val:=z}::l2:=by
            grind [HI]
          obtain ⟨φ',g1,g2⟩:=Ew (clk':=clk) hH ho hp hs h0 hb (es':=es.modify j λ e=>{ e with key:=u,val:=z}) pi i1 pi;refine ⟨_,φ', ?_,g1,g2,trivial⟩;simp [Instr.mapUpdate,ar (Bf ht),MapKept.run_getObj_map hb,mX hc hk,fd.run j3,hj,Instr.keyThatStays,j4,MapKept.run_setObj_map _ hb,Result.andThen]
      grind
    grind
  grind
theorem Ee {k:AV}:(kX P t m k x h).al=0:=by
  unfold kX;grind
end maps
end Go.Av
end
section
/- Our library, part 9: one operation, and a region in the text's order. -/
namespace Go.Av
open Go

variable {a:Act} {M:Nat->Prop} {v:Value}
section
variable {P:Program} {φ:aQ} {F:Nat->Prop} {n:Nat} {w:World} {M0:Nat->Prop} {h:au}

theorem BE {φ:aQ}{w:World}{M:Nat->Prop}:∀ {rs:List (List AV)}{ns:List Int}{vs:List Value},qF rs=some ns->aU φ w M rs.flatten vs->vs=ns.map (Value.int .u8)
 | [],ns,vs,h,hr=>by simp [qF] at h;subst h;cases hr;rfl
 |r::rs,ns,vs,h,hr=>by
  unfold qF at h;split at h
  ·rename_i heq;cases heq
  ·rename_i n rs' heq;cases heq;simp only [Option.map_eq_some_iff] at h;obtain ⟨ns',h1,rfl⟩:=h;cases hr with
   |cons a b=>
    cases a;rw [BE h1 b];rfl
  ·cases h
theorem Mm (hH:br φ F w M0 h){x:AV}{sz:Nat} (hx:bY φ w (Or M0 (bc φ h)) x v) (hc:(bt x sz h).1):∃a l c,v= .slice a l c:=by
 unfold bt at hc;split at hc
 ·split at hc
  ·rename_i o g sz' i len mt g' sz'' rs ho;obtain ⟨rfl,rfl,rfl, _⟩:=hc;obtain ⟨A,cap,rfl, _⟩:=hH.sl_alive W7 hx;grind
  grind
 ·cases hx<;>exact ⟨_, _, _,rfl⟩
 ·cases hx;grind
 grind
theorem QQ (hH:br φ F w M0 h){s d:TypeId}{x:AV} (hx:bY φ w (Or M0 (bc φ h)) x v) (hc:(x8 P s d x h).cond):ft P φ w (Or M0 (bc φ h)) (x8 P s d x h) (convert s d v):=by
 unfold x8 at hc ⊢;split at hc
 ·rename_i k'' m h1 h2;cases hx;exact ⟨.int .u8 (m.emod 256),by simp [convert,ar (Mr h1),ar (Mr h2),Conv.intToInt,IntKind.wrap,IntKind.signed,IntKind.bits];rfl, .v _,rfl,rfl⟩
 ·cases hx;exact ⟨_,by simp_all [convert,ar,Mr,Conv.intToInt,rK], .v _,rfl,rfl⟩
 ·rename_i x2 t1 t2 x3 e h1 h2;unfold JG at hc ⊢;split at hc
  ·rename_i ns he hb;obtain ⟨r1,r2,X,r3,r4,r5,r6⟩:=qx (P:=P) hH Nat.one_pos hx hc;have hX:=BE hb r4;obtain ⟨a,l,c,rfl⟩:=Mm hH hx hc;refine ⟨_, ?_, .v _,rfl,rfl⟩;rw [run_convert_bytes_string w s d e a l c (iX h1) (Mr he) (zD h2)];have hX2:X=(ns.map (Value.int .u8)).toArray:=pi;have hl:l=(bt x2 1 h).2.length:=by
    grind [Builtin.lenOf,Sem.run_pure]
   cases a with
   |none=>
    have h0:X= #[]:=by
     grind [Builtin.firstCells,Sem.run_pure]
    have:ns= []:=by
     grind
    subst this;rfl
   |some a=>
    grind [run_bytesToString,Builtin.firstCells,nL]
  grind
 grind
theorem bY.ofV {M:Nat->Prop} (x:Value):bY φ w M (ofV x) x:=by
 cases x with
 |agg cs=>
  simp only [Av.ofV];split
  ·rename_i hall;exact .agg (vs:=cs.toList) (λ u hu=>List.all_eq_true.1 hall u hu) (mM _)
  ·exact .v _
 | _=>exact .v _
theorem Hu {α:Type}{k:Nat}{x:α}:∀ {l:List (Nat×α)},l.lookup k=some x->(k,x) ∈ l
 |(k',y)::l,h=>by
  rw [List.lookup_cons] at h;cases e:k==k' with
  |true=>
   rw [e] at h;simp only [Option.some.injEq] at h;have:k=k':=by simpa using e
   subst this h;simp
  |false=>
   rw [e] at h;exact List.mem_cons_of_mem _ (Hu h)
theorem u9.ev {M:Nat->Prop} (hg:u9 w M){e:dg} (g:Nat):bY φ w M (ev e (.global g)) (.pointer (some ⟨g,0,none⟩)):=by
 simp only [Go.Av.ev];split
 ·rename_i cs h;exact (hg _ (Hu h)).keep (λ o x h=>by cases h) (λ _ _ _=>rfl) (λ k hk=> .inl hk)
 ·exact .v _
theorem Mi {e:dg} (hg:u9 w M) (he:∀t,bY φ w M (e t) (a.tmps.getD t undef)) (x:Operand):bY φ w M (ev e x) (a.eval x):=by
 cases x with
 |tmp t=>exact he t
 |const v=>exact bY.ofV v
 |global g=>exact hg.ev g
 |func f=>exact .fn (fs:= []) (cs:= []) .nil .nil
theorem wb {M:Nat->Prop}{e:dg}{a:Act}:∀ {xs:List Operand},(∀x ∈ xs,bY φ w M (ev e x) (a.eval x))->aU φ w M (xs.map (ev e)) (xs.map a.eval)
 | [], _=> .nil
 |x::xs,h=> .cons (h x gt) (wb λ y hy=>h y WR)
theorem KC {e:dg}{ps:Array (Nat×Operand)} (h:∀x ∈ (ps.toList.map (·.2)),bY φ w M (ev e x) (a.eval x)):
  (ps.toList.map λ p=>(p.1,ev e p.2)).length=(ps.map λ (p:Nat×Operand)=>(p.1,a.eval p.2)).toList.length∧
  ∀ (k:Nat) (hk:k<(ps.toList.map λ p=>(p.1,ev e p.2)).length) (hk':k<(ps.map λ (p:Nat×Operand)=>(p.1,a.eval p.2)).toList.length),
   (ps.toList.map λ p=>(p.1,ev e p.2))[k].1=(ps.map λ (p:Nat×Operand)=>(p.1,a.eval p.2)).toList[k].1∧
   bY φ w M (ps.toList.map λ p=>(p.1,ev e p.2))[k].2 (ps.map λ (p:Nat×Operand)=>(p.1,a.eval p.2)).toList[k].2:=by
 grind

theorem TP {e:dg} (x:Option Operand) (h:∀y ∈ x.toArray,bY φ w M (ev e y) (a.eval y)):
  (match x.map (ev e),x.map a.eval with|none,none=>True|some x,some v=>bY φ w M x v| _, _=>False):=by
 cases x<;>grind

theorem Nr (hH:br φ F w M0 h) (hn:F n){e:dg}{o:Oper} (he:∀x ∈ o.op.operands,bY φ w (Or M0 (bc φ h)) (ev e x) (a.eval x)) (hc:(lK P n o.op e h).cond):
  ∃nx v w' φ',(execOp a.eval o).run P w= .ok nx w'∧(nx= .value v∨(nx= .skip∧v=undef))∧bY φ' w' (Or M0 (bc φ' (aB (lK P n o.op e h).wr h))) (lK P n o.op e h).val v∧
   br φ' (zdf F n (lK P n o.op e h).al) w' M0 (aB (lK P n o.op e h).wr h)∧fm φ w M0 h φ' w' (aB (lK P n o.op e h).wr h):=by
 have fin:∀ {r:pJ} {s:Sem Value},Bj P φ F n w M0 h r s->(execOp a.eval o).run P w=((do pure (.value (<- s)):Sem Next)).run P w->
   ∃nx v w' φ',(execOp a.eval o).run P w= .ok nx w'∧(nx= .value v∨(nx= .skip∧v=undef))∧bY φ' w' (Or M0 (bc φ' (aB r.wr h))) r.val v∧
   br φ' (zdf F n r.al) w' M0 (aB r.wr h)∧fm φ w M0 h φ' w' (aB r.wr h):=by
  intro r s hg heq;obtain ⟨u,w',φ',h1,h2,h3,h4⟩:=hg;refine ⟨.value u,u,w',φ', ?_, .inl rfl,h2,h3,h4⟩;simp_all
 have hmove:∀x:Operand,o.op.operands= #[x]->ft P φ w (Or M0 (bc φ h)) (.ok (ev e x)) (pure (a.eval x)):=
  λ x hx=>⟨_,rfl,he x WY,rfl,rfl⟩
 unfold lK at hc ⊢;cases hop:o.op with
 |move x=>exact fin (zhe hH (hmove x Wq)) Ww
 |assign x=>exact fin (zhe hH (hmove x Wq)) Ww
 |pick c x y=>
  simp only [hop] at hc ⊢;exact fin (zhe hH (Si (he c Wq) (he x Wq) (he y Wq) hc)) Ww
 |alloc t=>
  simp only [hop] at hc ⊢;split at hc
  ·rename_i z hz;exact fin (Qr (P:=P) hH hn hz) Ww
  grind
 |box t x=>
  simp only [hop] at hc ⊢;exact fin (zbr (P:=P) (t:=t) hH hn (he x Wq) hc) Ww
 |build t ps=>
  simp only [hop] at hc ⊢;obtain ⟨h1,h2⟩:=KC (φ:=φ) (w:=w) (M:=Or M0 (bc φ h)) (e:=e) (a:=a) (ps:=ps) (λ x hx=>he x Xe);exact fin (zhe hH (QF hH h1 h2 hc)) Ww
 |buildSlice t len ps=>
  simp only [hop] at hc ⊢;obtain ⟨h1,h2⟩:=KC (φ:=φ) (w:=w) (M:=Or M0 (bc φ h)) (e:=e) (a:=a) (ps:=ps) (λ x hx=>he x Xe);exact fin (E0 hH hn h1 h2 hc) Ww
 |load t x=>
  simp only [hop] at hc ⊢;exact fin (zhe hH (Hs hH (he x Wq) hc)) Ww
 |store t x y=>
  simp only [hop] at hc ⊢;obtain ⟨w',φ',h1,h2,h3,h4⟩:=SN (P:=P) hH (he x Wq) (he y Wq) hc;refine ⟨.skip,undef,w',φ',by simp [execOp,hop,h1], .inr ⟨rfl,rfl⟩,by rw [h4];exact .top _,by rw [QY];exact h2,h3⟩
 |binOp op t x y t'=>
  simp only [hop] at hc ⊢;exact fin (zhe hH (QE (t:=t) (xo:=x) (yo:=y) (he x Wq) (he y Wq) hc)) Ww
 |unOp op t x=>
  simp only [hop] at hc ⊢;exact fin (zhe hH (zc0 (he x Wq) hc)) Ww
 |nilCheck x=>
  simp only [hop] at hc ⊢;obtain ⟨⟨a0,hv⟩,e1,e2,e3⟩:=VO hH (he x Wq) hc;refine fin (zhe hH (s:=pure (a.eval x)) ⟨a.eval x,rfl, ?_,e2,e3⟩) (by grind [execOp]);grind [Op.operands]
 |convert s d x=>
  simp only [hop] at hc ⊢;exact fin (zhe hH (QQ hH (he x Wq) hc)) Ww
 |makeFunc f xs ys=>
  have h1:=wb (xs:=xs.toList) (λ x hx=>he x Xe);have h2:=wb (xs:=ys.toList) (λ x hx=>he x Xe);refine fin (zhe hH (s:=Instr.makeFunc f (xs.map a.eval) (ys.map a.eval)) ⟨_,rfl, ?_,rfl,rfl⟩) Ww;have e1:xs.map a.eval=⟨xs.toList.map a.eval⟩:=pi;have e2:ys.map a.eval=⟨ys.toList.map a.eval⟩:=pi;rw [e1,e2];exact .fn h1 h2
 |makeSlice t l c=>
  simp_all [HC,Op.operands,execOp]
 |slice t x lo hi mx=>
  simp only [hop] at hc ⊢;refine fin (zhe hH (PK (vlo:=lo.map a.eval) (vhi:=hi.map a.eval) (vmx:=mx.map a.eval) hH (he x Wq)
   (TP lo λ y hy=>he y ?_) (TP hi λ y hy=>he y ?_) (λ hm=>by simp_all) hc)) Ww
  all_goals grind [Op.operands]
 |fieldAddr t x f=>
  simp only [hop] at hc ⊢;exact fin (zhe hH (E4 hH (he x Wq) hc)) Ww
 |field t x f=>
  simp only [hop] at hc ⊢;exact fin (zhe hH (On (he x Wq) hc)) Ww
 |indexAddr t x i=>
  simp only [hop] at hc ⊢;exact fin (zhe hH (E6 hH (he x Wq) (he i Wq) hc)) Ww
 |index t x i=>
  simp only [hop] at hc ⊢;exact fin (zhe hH (OF (he x Wq) (he i Wq) hc)) Ww
 |extract x i=>
  simp only [hop] at hc ⊢;exact fin (zhe hH (IZ (he x Wq) hc)) Ww
 |makeMap t r=>
  simp_all [LY,execOp]
 |mapUpdate t m k x=>
  simp only [hop] at hc ⊢;obtain ⟨w',φ',h1,h2,h3,h4⟩:=Ex (P:=P) hH (he m Wq) (he k Wq) (he x Wq) hc;refine ⟨.skip,undef,w',φ',by simp [execOp,hop,h1], .inr ⟨rfl,rfl⟩,by rw [h4];exact .top _,by rw [Ee];exact h2,h3⟩
 |insert t m k x=>
  simp only [hop] at hc ⊢;obtain ⟨w',φ',h1,h2,h3,h4⟩:=Ex (P:=P) hH (he m Wq) (he k Wq) (he x Wq) hc;refine ⟨.skip,undef,w',φ',by simp [execOp,hop,h1], .inr ⟨rfl,rfl⟩,by rw [h4];exact .top _,by rw [Ee];exact h2,h3⟩
 |lookup t m k ok=>
  simp only [hop] at hc ⊢;exact fin (zhe hH (LW hH (he m Wq) (he k Wq) hc)) Ww
 |call c=>
  obtain ⟨callee,args,ats⟩:=c;cases callee with
  |builtin b=>
   cases b with
   |len=>
    simp only [hop] at hc ⊢;split at hc
    ·rename_i x t hx ht;have e1:args= #[x]:=pi;have e2:ats= #[t]:=pi;subst e1 e2;exact fin (zhe hH (VH (ats:= #[t]) (ty:=o.type) hH rfl (he x Wt) hc)) WT
    grind
   |cap=>
    simp only [hop] at hc ⊢;split at hc
    ·rename_i x t hx ht;have e1:args= #[x]:=pi;have e2:ats= #[t]:=pi;subst e1 e2;exact fin (zhe hH (UY (ats:= #[t]) (ty:=o.type) hH rfl (he x Wt) hc)) WT
    grind
   |append=>
    simp only [hop] at hc ⊢;split at hc
    ·rename_i s x hx;have e1:args= #[s,x]:=pi;subst e1;exact fin (za4 (tys:=ats) (ty:=o.type) hH hn (he s Wt) (he x Wt) hc) WT
    grind
   |copy=>
    simp only [hop] at hc ⊢;split at hc
    ·rename_i s x hx;have e1:args= #[s,x]:=pi;subst e1;have hg:=U3 (tys:=ats) (ty:=o.type) (n:=n) hH (he s Wt) (he x Wt) hc;grind [execOp,resolve,invoke,builtin]
    grind
   |clear=>
    simp only [hop] at hc ⊢;split at hc
    ·rename_i s hx;have e1:args= #[s]:=pi;subst e1;have hg:=QL (tys:=ats) (ty:=o.type) (n:=n) hH (he s Wt) hc;grind [execOp,resolve,invoke,builtin]
    grind
   |min=>
    simp only [hop] at hc ⊢;split at hc
    ·rename_i x y hx;have e1:args= #[x,y]:=pi;subst e1;exact fin (zhe hH (VM (ats:=ats) (ty:=o.type) (he x Wt) (he y Wt) hc)) WT
    grind
   |max=>
    simp only [hop] at hc ⊢;split at hc
    ·rename_i x y hx;have e1:args= #[x,y]:=pi;subst e1;exact fin (zhe hH (VL (ats:=ats) (ty:=o.type) (he x Wt) (he y Wt) hc)) WT
    grind
   | _=>rw [hop] at hc;exact hc.elim
  | _=>grind
 | _=>rw [hop] at hc;exact hc.elim
end
end Go.Av
end
section
namespace Go.Av
open Go

variable {E:List (Nat×AV)} {M':Nat->Prop} {n':Nat}
section weaken
variable {φ:aQ} {n:Nat} {w:World} {M0:Nat->Prop} {h:au}
def ua (φ:aQ) (n n':Nat) (h':au):aQ:=λ o=>if o<n' then (if o<n then φ o else match h' o with|some (.rows _ g _ _)=>some (g,none)|none=>none) else none
theorem xW {φ:aQ}{n o:Nat}{h':au} (h1:o<n') (h2:o<n):ua φ n n' h' o=φ o:=by grind [ua]

theorem bY.cut {M:Nat->Prop}{h':au} (hf:∀o,n<=o->φ o=none) (hM:∀k,M' k->M k){x:AV}{v:Value} (hx:bY φ w M x v) (hb:aN n' x):
    bY (ua φ n n' h') w M' x v:=by
  refine bY.rec (φ:=φ) (w:=w) (M:=M) (motive_1:=λ x v _=>aN n' x->bY (ua φ n n' h') w M' x v) (motive_2:=λ xs vs _=>(∀c ∈ xs,aN n' c)->aU (ua φ n n' h') w M' xs vs)
    ?_ ?_ ?_ ?_ ?_ ?_ ?_ ?_ ?_ ?_ ?_ ?_ ?_ ?_ hx hb
  · exact λ v _=> .top v
  · exact λ v _=> .v v
  · exact λ hv _ ih hb=>Xu
  · exact λ _ ih hb=>XA
  · exact λ sz A cap _=> .nil sz A cap
  · intro sz rows a len cap C T fz hs hm hb hr hl hc hcap hv _ ih hbel;cases hbel with
    |lst hbel=>
      refine .lst hs (λ hk=>hm (hM _ hk)) hb hr hl hc hcap hv (ih λ c hc=> ?_);grind [List.mem_flatten]
  · intro cells a C T fz hs hm hb hc hv _ ih hbel;cases hbel with|fp hbel=>exact .fp hs (λ hk=>hm (hM _ hk)) hb hc hv (ih hbel)
  · intro o g sz i off g' A v ho hg h hbel;cases hbel with
    |ref hbel=>
      exact .ref (by grind [xW]) hg h
  · intro o g sz i len g' A v ho hg h hbel;cases hbel with
    |sl hbel=>
      exact .sl (by grind [xW]) hg h
  · intro o g' A v ho h hbel;cases hbel with
    |mp hbel=>
      exact .mp (by grind [xW]) h
  · exact λ _ _ ih1 ih2 hb=>Xa
  · exact λ _ h' ih hb=>Xc
  · exact λ _=> .nil
  · exact λ _ _ ih1 ih2 hb=> .cons (ih1 (hb _ gt)) (ih2 λ c hc=>hb c Wy)

theorem uz {HH:List (Nat×cB)}{o:Nat}{x:cB} (ho:fh HH o=some x):(o,x) ∈ HH:=by
  induction HH with
  |nil=>cases ho
  |cons p l ih=>
    simp only [fh,aC] at ho;grind
theorem LZ  (t:Nat):Fb E t= .top∨(t,Fb E t) ∈ E:=by
  induction E with
  |nil=>exact .inl rfl
  |cons p l ih=>
    simp only [Fb,aC];grind

theorem aY.length {h h':au}{n:Nat}:∀ {xs ys:List AV},aY h h' n xs ys->xs.length=ys.length
  | [], _, .nil=>rfl
  | _:: _, _, .cons _ t=>by simp [t.length]
theorem aY.append {h h':au}{n:Nat}:∀ {xs ys xs' ys':List AV},aY h h' n xs ys->aY h h' n xs' ys'->aY h h' n (xs++xs') (ys++ys')
  | [], _, _, _, .nil,h2=>h2
  | _:: _, _, _, _, .cons hx t,h2=> .cons hx (t.append h2)
theorem bg.spec {h h':au}{n:Nat}:∀ {rs rs':List (List AV)},bg h h' n rs rs'->aY h h' n rs.flatten rs'.flatten∧rs.length=rs'.length∧∀sz,(∀r ∈ rs,r.length=sz)->∀r ∈ rs',r.length=sz
  | [], _, .refl _=>⟨.nil,rfl,λ _ h=>h⟩
  | [], _, .nil=>⟨.nil,rfl,λ _ h=>h⟩
  | _:: _, _, .refl _=>⟨.refl _ _ _ _,rfl,λ _ h=>h⟩
  | _:: _, _, .cons hx t=>by
    obtain ⟨i1,i2,i3⟩:=t.spec;refine ⟨hx.append i1,by simp [i2],λ sz hs r hr=> ?_⟩;rcases List.mem_cons.1 hr with rfl|hr
    · rw [<- hx.length];grind
    simp_all
theorem aU.split {φ:aQ}{w:World}{M:Nat->Prop}:∀ {xs ys:List AV}{vs:List Value},aU φ w M (xs++ys) vs->∃us ts,vs=us++ts∧aU φ w M xs us∧aU φ w M ys ts
  | [], _,vs,h=>⟨[],vs,rfl, .nil,h⟩
  | _:: _, _, _, .cons h t=>by
    obtain ⟨us,ts,rfl,h1,h2⟩:=t.split;exact ⟨_::us,ts,rfl, .cons h h1,h2⟩
theorem eY.rel {F:Nat->Prop} (hH:br φ F w M0 h){h':au}{φ':aQ} (hcut:∀ {x:AV}{v:Value},aN n' x->bY φ w (Or M0 (bc φ h)) x v->bY φ' w M' x v)
    (hblk:∀o mt g sz rs a bs,h o=some (.rows mt g sz rs)->φ o=some (g,some (a,bs))->(∀g sz rs,h' o≠some (.rows true g sz rs))->¬M0 a.block->¬M' a.block)
    (hown:∀o g sz,n<=o->h' o=some (.rows true g sz [])->o<n'->φ' o=some (g,none)):
    ∀ {x y:AV},eY h h' n x y->∀ {v:Value},aN n' y->bY φ w (Or M0 (bc φ h)) x v->bY φ' w M' y v:=by
  have hfrz:∀ {o g sz i len:Nat} {mt:Bool} {rs rows:List (List AV)} {v:Value},h o=some (.rows mt g sz rs)->i+len<=rs.length->(∀g sz rs,h' o≠some (.rows true g sz rs))->
      bg h h' n ((rs.drop i).take len) rows->(∀ {vs:List Value},aU φ w (Or M0 (bc φ h)) ((rs.drop i).take len).flatten vs->aU φ' w M' rows.flatten vs)->
      bY φ w (Or M0 (bc φ h)) (.sl o g sz i len) v->bY φ' w M' (.lst sz rows) v:=by
    intro o g sz i len mt rs rows v ho hl ho' hr hb hx;obtain ⟨A,cap,rfl,hcap,hA⟩:=hH.sl_alive W7 hx;obtain ⟨_,q2,q3⟩:=hr.spec;have hrl:rows.length=len:=pi;rcases hA with ⟨rfl,rfl,rfl, _⟩|⟨rfl, _, _⟩|⟨a,bs,hp,hsp,rfl,hcb⟩
    · have:rows= []:=List.eq_nil_of_length_eq_zero hrl;subst this;exact .nil _ _ _
    · have:rows= []:=List.eq_nil_of_length_eq_zero hrl;subst this;exact .nil _ _ _
    · obtain ⟨A',hA',hobj⟩:=hH.obj _ _ _ _ _ ho;rw [hp] at hA';simp only [Option.some.injEq,Prod.mk.injEq,true_and] at hA';subst hA';rcases hobj with ⟨hobj, _⟩|⟨a₁,bs₁,e1,h0,hd⟩
      · cases hobj
      obtain ⟨rfl,rfl⟩:=e1;obtain ⟨C,T,hcell,hC,hrr,hl',hv,hrel⟩:=hd.cells hsp;have hm:=Nat.mul_le_mul_right sz hl;have e1:(C.toList.drop (a.off+i * sz)).take (len * sz)=(((C.toList.drop a.off).take (rs.length * sz)).drop (i * sz)).take (len * sz):=by
        grind [List.drop_take,List.drop_drop]
      refine .lst (a:=⟨a.block,a.off+i * sz,none⟩) (C:=C) (T:=T) (fz:=(0,0)) rfl (hblk o mt g sz rs a bs ho hp ho' h0) hcell ?_ hrl.symm pi hcap ?_ ?_
      · exact q3 sz λ r hr0=>hrr r (List.mem_of_mem_drop (List.mem_of_mem_take hr0))
      · grind
      · rw [hrl];simp only [e1];refine hb ?_;rw [o6 (λ r hr0=>hrr r (List.mem_of_mem_drop hr0)),o5 hrr];exact (hrel.drop _).take _
  have hfrzP:∀ {o g sz i off:Nat} {mt:Bool} {rs:List (List AV)} {cells:List AV} {v:Value},h o=some (.rows mt g sz rs)->i<rs.length->off<sz->(∀g sz rs,h' o≠some (.rows true g sz rs))->
      aY h h' n ((ac rs i).drop off) cells->(∀ {vs:List Value},aU φ w (Or M0 (bc φ h)) ((ac rs i).drop off) vs->aU φ' w M' cells vs)->
      bY φ w (Or M0 (bc φ h)) (.ref o g sz i off) v->bY φ' w M' (.fp cells) v:=by
    intro o g sz i off mt rs cells v ho hi hoff ho' hr hb hx;obtain ⟨A',hA',hobj⟩:=hH.obj _ _ _ _ _ ho;cases hx with
    |ref hp hg hh=>
      rw [hA'] at hp;obtain ⟨rfl,rfl⟩:=hp;obtain ⟨a,bs,rfl,hsp,rfl⟩:=hh rfl;rcases hobj with ⟨hobj, _⟩|⟨a₁,bs₁,e1,h0,hd⟩
      · cases hobj
      obtain ⟨rfl,rfl⟩:=e1;obtain ⟨C,T,hcell,hC,hrr,hl',hv,hrel⟩:=hd.cells hsp;have hlen:((ac rs i).drop off).length=sz - off:=by
        grind [ac]
      have hcl:cells.length=sz - off:=by rw [<- hr.length];exact hlen
      have hm:=Nat.mul_le_mul_right sz (show i+1<=rs.length from hi);have e1:(C.toList.drop (a.off+i * sz+off)).take (sz - off)=(((C.toList.drop a.off).take (rs.length * sz)).drop (i * sz+off)).take (sz - off):=by
        grind [List.drop_take,List.drop_drop]
      refine .fp (a:=⟨a.block,a.off+i * sz+off,none⟩) (C:=C) (T:=T) (fz:=(0,0)) rfl (hblk o mt g sz rs a bs ho hA' ho' h0) hcell pi ?_ ?_
      · grind
      · rw [hcl];simp only [e1];refine hb ?_;have e2:(ac rs i).drop off=(rs.flatten.drop (i * sz+off)).take (sz - off):=by
          have e3:ac rs i=rs[i]:=by simp [ac,hi]
          have e4:=o5 hrr i;rw [<- List.drop_drop,<- e4,List.drop_eq_getElem_cons hi,List.flatten_cons,e3];grind
        rw [e2];exact (hrel.drop _).take _
  intro x y hle;refine eY.rec (h:=h) (h':=h') (n:=n)
    (motive_1:=λ x y _=>∀ {v:Value},aN n' y->bY φ w (Or M0 (bc φ h)) x v->bY φ' w M' y v)
    (motive_2:=λ xs ys _=>∀ {vs:List Value},(∀c ∈ ys,aN n' c)->aU φ w (Or M0 (bc φ h)) xs vs->aU φ' w M' ys vs)
    (motive_3:=λ xs ys _=>∀ {vs:List Value},(∀r ∈ ys,∀c ∈ r,aN n' c)->aU φ w (Or M0 (bc φ h)) xs.flatten vs->aU φ' w M' ys.flatten vs)
    ?_ ?_ ?_ ?_ ?_ ?_ ?_ ?_ ?_ ?_ ?_ ?_ ?_ ?_ ?_ hle
  · omega
  · intro x v hb hx;exact .top _
  · intro o g sz i len mt rs rows ho hl ho' hr ih v hb hx;exact hfrz ho hl ho' hr (λ hx=>ih (by cases hb<;>grind) hx) hx
  · intro o g sz i off mt rs cells ho hi hoff ho' hr ih v hb hx;exact hfrzP ho hi hoff ho' hr (λ hx=>ih (by cases hb<;>grind) hx) hx
  · intro A c sz v hb hx;cases hx;exact .nil _ _ _
  · intro o g sz hn ho' v hb hx;cases hx;cases hb with
    |sl hb=>exact .sl (hown o g sz hn ho' hb) (Nat.le_refl _) λ _=> .inl ⟨rfl,rfl,rfl,rfl⟩
  · intro xs ys _ ih v hb hx;cases hx with|agg hv hrel=>cases hb with|agg hb=>exact .agg hv (ih hb hrel)
  · intro xs ys _ ih v hb hx;cases hx with|tup hrel=>cases hb with|tup hb=>exact .tup (ih hb hrel)
  · intro f a b a' b' _ _ ih1 ih2 v hb hx;cases hx with|fn h1 h2=>cases hb with|fn hb hb'=>exact .fn (ih1 hb h1) (ih2 hb' h2)
  · intro sz rows rows' hr ih v hb hx;have hbr:∀r ∈ rows',∀c ∈ r,aN n' c:=by cases hb<;>grind
    obtain ⟨_,q2,q3⟩:=hr.spec;cases hx with
    |nil A cap=>
      have:rows'= []:=List.eq_nil_of_length_eq_zero pi;subst this;exact .nil _ _ _
    | @lst _ _ a len cap C T fz hs hM hcell hrr hl hc hcap hv hrel=>
      have hfp:bY φ' w M' (.fp []) (.pointer (some a)):=hcut (.fp gt) (.fp hs hM hcell pi gt XL);cases hfp with
      |fp hs2 hM2 hb2 hc2 hv2 h2=>
        exact .lst hs hM2 hcell (q3 sz hrr) pi pi hcap pi pi
  · intro vs _ hx;cases hx;exact .nil
  · intro x y xs ys _ _ ih1 ih2 vs hb hx;cases hx with|cons h1 h2=>exact .cons (ih1 (hb _ gt) h1) (ih2 (λ c hc=>hb c Wy) h2)
  · intro rs vs hb hx;refine zhk hx.length λ k hk hk'=>hcut ?_ (hx.get k hk hk');grind [List.mem_flatten,List.getElem_mem]
  · intro vs _ hx;cases hx;exact .nil
  · intro x y xs ys _ _ ih1 ih2 vs hb hx;obtain ⟨us,ts,rfl,h1,h2⟩:=hx.split;exact (ih1 (hb _ gt) h1).append (ih2 (λ c hc=>hb c Wy) h2)
theorem aY.rel {F:Nat->Prop} (hH:br φ F w M0 h){h':au}{φ':aQ}{M':Nat->Prop}{n':Nat} (hcut:∀ {x:AV}{v:Value},aN n' x->bY φ w (Or M0 (bc φ h)) x v->bY φ' w M' x v)
    (hblk:∀o mt g sz rs a bs,h o=some (.rows mt g sz rs)->φ o=some (g,some (a,bs))->(∀g sz rs,h' o≠some (.rows true g sz rs))->¬M0 a.block->¬M' a.block)
    (hown:∀o g sz,n<=o->h' o=some (.rows true g sz [])->o<n'->φ' o=some (g,none)):
    ∀ {xs ys:List AV},aY h h' n xs ys->(∀c ∈ ys,aN n' c)->∀ {vs:List Value},aU φ w (Or M0 (bc φ h)) xs vs->aU φ' w M' ys vs:=by
  intro xs;induction xs with
  |nil=>intro ys hle _ vs hx;cases hle;cases hx;exact .nil
  |cons x xs ih=>
    intro ys hle hb vs hx;cases hle with
    |cons hx0 ht=>
      cases hx with
      |cons h1 h2=>exact .cons (eY.rel hH hcut hblk hown hx0 (hb _ gt) h1) (ih ht (λ c hc=>hb c Wy) h2)
theorem Wk.sound {e:dg}{HH:List (Nat×cB)} (hk:Wk e h n E HH n') (hH:m8 φ n w M0 h){tmps:Nat->Value}
    (he:∀t,bY φ w (Or M0 (bc φ h)) (e t) (tmps t)):
    ∃φ',m8 φ' n' w M0 (fh HH)∧(∀t,bY φ' w (Or M0 (bc φ' (fh HH))) (Fb E t) (tmps t))∧(∀k,bc φ' (fh HH) k->bc φ h k)∧
      (∀o x,o<n'->φ o=some x->φ' o=some x):=by
  have hold:∀o mt g sz rs,fh HH o=some (.rows mt g sz rs)->o<n'∧se n' (.rows mt g sz rs)∧
      ((∃mt0 rs0,h o=some (.rows mt0 g sz rs0)∧(mt=true->mt0=true)∧bg h (fh HH) n rs0 rs∧o<n∧ua φ n n' (fh HH) o=φ o)∨
       (h o=none∧mt=true∧rs= []∧n<=o∧ua φ n n' (fh HH) o=some (g,none))):=by
    intro o mt g sz rs ho;obtain ⟨h1,h2,h3⟩:=hk.obj _ (uz ho);generalize hho:h o=q at h2;cases h2 with
    |same hm hr=>
      have hlt:o<n:=by
        obtain ⟨A,hA, _⟩:=hH.obj _ _ _ _ _ hho;exact Nat.lt_of_not_le λ hle=>by rw [hH.fresh o hle] at hA;cases hA
      grind [xW]
    |own hn=>grind [ua]
  have hmut:∀k,bc (ua φ n n' (fh HH)) (fh HH) k->bc φ h k:=by
    grind [bc]
  have hor:∀k,Or M0 (bc (ua φ n n' (fh HH)) (fh HH)) k->Or M0 (bc φ h) k:=λ k hk=>hk.imp id (hmut k);have hcut0:∀ {x:AV} {v:Value},aN n' x->bY φ w (Or M0 (bc φ h)) x v->bY (ua φ n n' (fh HH)) w (Or M0 (bc (ua φ n n' (fh HH)) (fh HH))) x v:=λ hb hx=>hx.cut hH.fresh hor hb;have hblk:∀o mt g sz rs a bs,h o=some (.rows mt g sz rs)->φ o=some (g,some (a,bs))->(∀g sz rs,fh HH o≠some (.rows true g sz rs))->¬M0 a.block->¬Or M0 (bc (ua φ n n' (fh HH)) (fh HH)) a.block:=by
    rintro o mt g sz rs a bs ho hp ho' h0 (hk|⟨o',g',sz',rs',g'',a',bs',ho1,hp1,he⟩)
    · grind
    · obtain ⟨_, _,hc⟩:=hold _ _ _ _ _ ho1;rcases hc with ⟨mt0,rs0,ho0,hm0, _, _,hcut⟩|⟨_, _, _, _,hcut⟩
      · rw [hcut] at hp1;have hne:o'≠o:=λ e=>pi;have hm1:=hm0 rfl;subst hm1;have hg:g''=g':=by
          obtain ⟨A2,hA2, _⟩:=hH.obj _ _ _ _ _ ho0;grind
        subst hg;exact hH.inj _ _ _ _ _ _ _ _ _ _ _ _ _ _ ho0 ho hne (.inl rfl) hp1 hp he
      grind
  have hown:∀o g sz,n<=o->fh HH o=some (.rows true g sz [])->o<n'->ua φ n n' (fh HH) o=some (g,none):=by
    grind
  have hval:∀ {x y:AV} {v:Value},eY h (fh HH) n x y->aN n' y->bY φ w (Or M0 (bc φ h)) x v->bY (ua φ n n' (fh HH)) w (Or M0 (bc (ua φ n n' (fh HH)) (fh HH))) y v:=
    λ hle hb hx=>eY.rel hH hcut0 hblk hown hle hb hx
  have hrow:∀ {xs ys:List AV},aY h (fh HH) n xs ys->(∀c ∈ ys,aN n' c)->∀ {vs:List Value},aU φ w (Or M0 (bc φ h)) xs vs->
      aU (ua φ n n' (fh HH)) w (Or M0 (bc (ua φ n n' (fh HH)) (fh HH))) ys vs:=
    λ hle hb _ hx=>aY.rel hH hcut0 hblk hown hle hb hx
  have hrows:∀ {rs rs':List (List AV)},bg h (fh HH) n rs rs'->aY h (fh HH) n rs.flatten rs'.flatten∧rs.length=rs'.length∧∀sz,(∀r ∈ rs,r.length=sz)->∀r ∈ rs',r.length=sz:=λ hle=>hle.spec;refine ⟨ua φ n n' (fh HH),⟨hH.m0,λ o ho=>by grind [ua], ?_, ?_,hH.glob.keep (λ _ _ _=>rfl) (λ k hk=> .inl (hk.imp id (hmut k)))⟩, ?_,hmut, ?_⟩
  · intro o mt g sz rs ho;obtain ⟨hlt,hbel,hc⟩:=hold _ _ _ _ _ ho;rcases hc with ⟨mt0,rs0,ho0,hm,hr,hlt',hcut⟩|⟨_, _,rfl, _,hcut⟩
    · obtain ⟨A,hA,hobj⟩:=hH.obj _ _ _ _ _ ho0;obtain ⟨i1,i2,i3⟩:=hrows hr;refine ⟨A,pi,hobj.imp (λ h=>⟨h.1, ?_⟩) ?_⟩
      · grind
      · have hrw:∀ {vs:List Value},aU φ w (Or M0 (bc φ h)) rs0.flatten vs->aU (ua φ n n' (fh HH)) w (Or M0 (bc (ua φ n n' (fh HH)) (fh HH))) rs.flatten vs:=λ e9=>by
          grind [List.mem_flatten,se]
        rintro ⟨a,bs,e1,e3,⟨C,T,e2,e4,e5,e6,e7,e8,e9⟩|⟨es,clk,e2,e4,e5,e6,e9⟩⟩
        · refine ⟨a,bs,e1,e3, .inl ⟨C,T,e2,e4,e5,i3 sz e6,pi,pi, ?_⟩⟩;grind
        · exact ⟨a,bs,e1,e3, .inr ⟨es,clk,e2,e4,ge,⟨e6.1,i3 sz e6.2⟩,hrw e9⟩⟩
    grind
  · intro o o' mt g sz rs mt' g' sz' rs' a a' b b' h1 h2 hne hmt p1 p2;obtain ⟨_, _,c1⟩:=hold _ _ _ _ _ h1;obtain ⟨_, _,c2⟩:=hold _ _ _ _ _ h2;rcases c1 with ⟨mt1,rs1,ho1,hm1, _, _,hcut1⟩|⟨_, _, _, _,hcut1⟩
    · rcases c2 with ⟨mt2,rs2,ho2,hm2, _, _,hcut2⟩|⟨_, _, _, _,hcut2⟩
      · rw [hcut1] at p1;rw [hcut2] at p2;exact hH.inj _ _ _ _ _ _ _ _ _ _ _ _ _ _ ho1 ho2 hne (hmt.imp hm1 hm2) p1 p2
      grind
    grind
  · intro t;rcases LZ (E:=E) t with ht|ht
    · rw [ht];exact .top _
    · obtain ⟨h1,h2⟩:=hk.env _ ht;grind
  · intro o x hlt hx;have:o<n:=Nat.lt_of_not_le λ hle=>by rw [hH.fresh o hle] at hx;cases hx
    grind [xW]
end weaken
end Go.Av
end
section
/- Our library, part 11: regions in the text's order, and code, are sound. -/
namespace Go.Av
open Go

variable {N k lo n n0:Nat}
theorem cA {φ:aQ}:¬bc φ dO k:=by grind [bc,dO]
variable {x:AV}
theorem Bi.rel  (hf:Bi x){φ φ':aQ}{w w':World}{M M':Nat->Prop}:∀ {v:Value},bY φ w M x v->bY φ' w' M' x v:=by
 induction hf with
 |v x=>intro v h;cases h;exact .v _
 | @tup xs h ih=>
  intro v hx;cases hx with
  |tup hr=>exact .tup (zhk hr.length λ k hk hv=>ih _ (List.getElem_mem _) (hr.get k hk hv))
 | @agg xs h ih=>
  intro v hx;cases hx with
  |agg hcv hr=>exact .agg hcv (zhk hr.length λ k hk hv=>ih _ (List.getElem_mem _) (hr.get k hk hv))

variable {v:Value}
theorem bY.closed {φ φ':aQ}{w:World}{M M':Nat->Prop} (hM:∀k,M' k->M k) (hx:bY φ w M x v) (hb:aN 0 x):bY φ' w M' x v:=by
 refine bY.rec (φ:=φ) (w:=w) (M:=M) (motive_1:=λ x v _=>aN 0 x->bY φ' w M' x v) (motive_2:=λ xs vs _=>(∀c ∈ xs,aN 0 c)->aU φ' w M' xs vs)
  ?_ ?_ ?_ ?_ ?_ ?_ ?_ ?_ ?_ ?_ ?_ ?_ ?_ ?_ hx hb
 ·exact λ v _=> .top v
 ·exact λ v _=> .v v
 ·exact λ hv _ ih hb=>Xu
 ·exact λ _ ih hb=>XA
 ·exact λ sz A cap _=> .nil sz A cap
 ·intro sz rows a len cap C T fz hs hm hb hr hl hc hcap hv _ ih hbel;cases hbel with
  |lst hbel=>
   refine .lst hs (λ hk=>hm (hM _ hk)) hb hr hl hc hcap hv (ih λ c hc=> ?_);grind [List.mem_flatten]
 ·intro cells a C T fz hs hm hb hc hv _ ih hbel;cases hbel with|fp hbel=>exact .fp hs (λ hk=>hm (hM _ hk)) hb hc hv (ih hbel)
 ·intro o g sz i off g' A v ho hg h hbel;cases hbel<;>grind
 ·intro o g sz i len g' A v ho hg h hbel;cases hbel<;>grind
 ·intro o g' A v ho h hbel;cases hbel<;>grind
 ·exact λ _ _ ih1 ih2 hb=>Xa
 ·exact λ _ h' ih hb=>Xc
 ·exact λ _=> .nil
 ·exact λ _ _ ih1 ih2 hb=> .cons (ih1 (hb _ gt)) (ih2 λ c hc=>hb c Wy)
theorem bY.inS {φ φ':aQ}{w:World}{M M':Nat->Prop}{S:List Nat} (hS:∀o ∈ S,φ' o=φ o) (hM:∀k,M' k->M k) (hx:bY φ w M x v) (hb:qM S x):bY φ' w M' x v:=by
 refine bY.rec (φ:=φ) (w:=w) (M:=M) (motive_1:=λ x v _=>qM S x->bY φ' w M' x v) (motive_2:=λ xs vs _=>(∀c ∈ xs,qM S c)->aU φ' w M' xs vs)
  ?_ ?_ ?_ ?_ ?_ ?_ ?_ ?_ ?_ ?_ ?_ ?_ ?_ ?_ hx hb
 ·exact λ v _=> .top v
 ·exact λ v _=> .v v
 ·exact λ hv _ ih hb=>Xu
 ·exact λ _ ih hb=>XA
 ·exact λ sz A cap _=> .nil sz A cap
 ·intro sz rows a len cap C T fz hs hm hb hr hl hc hcap hv _ ih hbel;cases hbel with
  |lst hbel=>
   refine .lst hs (λ hk=>hm (hM _ hk)) hb hr hl hc hcap hv (ih λ c hc=> ?_);grind [List.mem_flatten]
 ·intro cells a C T fz hs hm hb hc hv _ ih hbel;cases hbel with|fp hbel=>exact .fp hs (λ hk=>hm (hM _ hk)) hb hc hv (ih hbel)
 ·intro o g sz i off g' A v ho hg h hbel;cases hbel with|ref hbel=>exact .ref pi hg h
 ·intro o g sz i len g' A v ho hg h hbel;cases hbel with|sl hbel=>exact .sl pi hg h
 ·intro o g' A v ho h hbel;cases hbel with|mp hbel=>exact .mp pi h
 ·exact λ _ _ ih1 ih2 hb=>Xa
 ·exact λ _ h' ih hb=>Xc
 ·exact λ _=> .nil
 ·exact λ _ _ ih1 ih2 hb=> .cons (ih1 (hb _ gt)) (ih2 λ c hc=>hb c Wy)
variable {vs:List Value} {args xs:List AV}
theorem jc {φ:aQ}{F:Nat->Prop}{w:World}{M0:Nat->Prop}{h h':au} (hH:br φ F w M0 h) (hfz:∀o g sz rs,h' o=some (.rows true g sz rs)->h o=some (.rows true g sz rs))
  {args':List AV}  (hle:aY h h' n args args') (hb:∀c ∈ args',aN 0 c) (hr:aU φ w (Or M0 (bc φ h)) args vs):aU rT w (Or M0 (bc φ h')) args' vs:=by
 have hmut:∀k,bc φ h' k->bc φ h k:=by
  grind [bc]
 refine aY.rel (φ':=rT) (n':=0) hH (λ {x v} hb hx=> ?_) ?_ (λ o g sz _ _ h0=>by omega) hle hb hr
 ·exact hx.closed (λ k hk=>hk.imp id (hmut k)) hb
 ·rintro o mt g sz rs a bs ho hp ho' h0 (hk|⟨o',g',sz',rs',g'',a',bs',ho1,hp1,he⟩)
  ·grind
  ·have hne:o'≠o:=λ e=>by grind
   have ho0:=hfz _ _ _ _ ho1;have hg:g''=g':=by
    obtain ⟨A2,hA2, _⟩:=hH.obj _ _ _ _ _ ho0;grind
   subst hg;exact hH.inj _ _ _ _ _ _ _ _ _ _ _ _ _ _ ho0 ho hne (.inl rfl) hp1 hp he


theorem ap.mono {P:Program}{f:FuncId}{args:List AV}{h:au}{n:Nat}{K K':cI} (hc:ap P f args h n K) (hk:∀r h n,K r h n->K' r h n):ap P f args h n K':=
 ⟨hc.1,λ M0 φ w vs h1 h2=>(hc.2 M0 φ w vs h1 h2).mono λ e w' ⟨v,φ',r,h',n',a,b,c⟩=>⟨v,φ',r,h',n',a,hk _ _ _ b,c⟩⟩
theorem rZ.mono {P:Program}{fv:AV}{args:List AV}{h:au}{n:Nat}{K K':cI} (hc:rZ P fv args h n K) (hk:∀r h n,K r h n->K' r h n):rZ P fv args h n K':=by
 unfold rZ at hc ⊢;split at hc
 ·exact ap.mono hc hk
 omega
theorem uO.mono {e:dg}{fv:AV}{h:au}{K K':dg->AV->au->Prop} (hc:uO e fv args h n K) (hk:∀e r h,K e r h->K' e r h):uO e fv args h n K':=by
 grind [uO]
theorem Da {P:Program}{ops:List Oper}{Q Q':c7} (hq:∀x e h n,Q x e h n->Q' x e h n):∀ {rest:List Oper}{e:dg}{h:au}{n:Nat},gP P ops Q rest e h n->gP P ops Q' rest e h n:=by
 intro rest;induction rest with
 |nil=>intro e h n hh;exact hq _ _ _ _ hh
 |cons o rest ih=>
  intro e h n hh;unfold gP at hh ⊢;split at hh
  ·split at hh
   ·exact hh.imp (λ hh=>rZ.mono hh λ _ _ _ hk=>ih hk) (λ hh=>uO.mono hh λ _ _ _ hk=>ih hk)
   ·exact ⟨hh.1,ih hh.2⟩
  ·split at hh
   ·exact hh
   ·split at hh
    ·obtain ⟨h1,⟨x,h2,h3⟩|⟨h2,h3⟩|⟨h2,h3⟩⟩:=hh
     ·exact ⟨h1, .inl ⟨x,h2,ih h3⟩⟩
     ·exact ⟨h1, .inr (.inl ⟨h2,rZ.mono h3 λ _ _ _ hk=>ih hk⟩)⟩
     ·exact ⟨h1, .inr (.inr ⟨h2,uO.mono h3 λ _ _ _ hk=>ih hk⟩)⟩
    ·obtain ⟨h1,h2,h3⟩:=hh;exact ⟨h1,h2,ih h3⟩
theorem Lm {P:Program}{ops:List Oper}{K K':dg->au->List jf->Prop} (hk:∀e h r,K e h r->K' e h r):
  ∀ {rest:List Oper} {i:Nat} {e:dg} {h:au} {acc:List jf},kI P n ops K i rest e h acc->kI P n ops K' i rest e h acc:=by
 intro rest;induction rest with
 |nil=>grind [kI]
 |cons o rest ih=>
  intro i e h acc hh;unfold kI at hh ⊢;split at hh
  ·grind
  ·split at hh;all_goals grind
theorem Qq {P:Program}{ops:List Oper}{Q Q':c7} (hq:∀x e h n,Q x e h n->Q' x e h n){e:dg}{h:au} (hh:Jm P ops Q e h n):Jm P ops Q' e h n:=
 hh.imp λ _ hh=>Lm (λ _ _ _ hk=>⟨hk.1,hk.2.imp (λ h=>⟨h.1,Da hq h.2⟩) (Da hq)⟩) hh
theorem C5 {K K':dg->au->Nat->Prop}{Q Q':c7} (hk:∀e h n,K e h n->K' e h n) (hq:∀x e h n,Q x e h n->Q' x e h n):∀x e h n,CZ K Q x e h n->CZ K' Q' x e h n:=by
 intro x e h n hh;cases x<;>first|exact hk _ _ _ hh|grind [CZ]
theorem MR {Q Q':c7} (hq:∀x e h n,Q x e h n->Q' x e h n):∀x e h n,wn Q x e h n->wn Q' x e h n:=by
 intro x e h n hh;cases x with
 |goto l=>exact hh
 | _=>exact hq _ _ _ _ hh
theorem MN {id:Nat}{Q Q':c7} (hq:∀x e h n,Q x e h n->Q' x e h n):∀x e h n,sP id Q x e h n->sP id Q' x e h n:=by
 intro x e h n hh;cases x<;>grind [sP]
theorem EO.mono {K K':dg->au->Nat->Prop} (hk:∀e h n,K e h n->K' e h n){e:dg}{h:au} (hh:EO n0 K e h n):EO n0 K' e h n:=
 hh.imp (hk _ _ _) λ ⟨E,HH,n',h1,h2,h3⟩=>⟨E,HH,n',h1,h2,hk _ _ _ h3⟩
theorem MP {K K':dg->au->Nat->Prop}{Q Q':c7}{e0:dg} (hk:∀e h n,K e h n->K' e h n) (hq:∀x e h n,Q x e h n->Q' x e h n):∀x e h n,Ao K Q e0 x e h n->Ao K' Q' e0 x e h n:=by
 intro x e h n hh;cases x<;>first|exact hk _ _ _ hh|exact hq _ _ _ _ hh|exact hh.elim
theorem Qb {K K':dg->au->Nat->Prop} (hk:∀e h n,K e h n->K' e h n):∀x e h n,Jh K x e h n->Jh K' x e h n:=by
 grind [Jh]
theorem xw {n0 more:Nat}{ps:List Tmp}{A B:Nat->c7->dg->au->Nat->Prop} (hA:∀n1 Q Q' e h n,(∀x e h n,Q x e h n->Q' x e h n)->A n1 Q e h n->A n1 Q' e h n)
  (hB:∀n1 Q Q' e h n,(∀x e h n,Q x e h n->Q' x e h n)->B n1 Q e h n->B n1 Q' e h n) {Q Q':c7} (hq:∀x e h n,Q x e h n->Q' x e h n):
  ∀ {rows:List (List AV)} {e:dg} {h:au} {n:Nat},ic n0 more ps A B Q rows e h n->ic n0 more ps A B Q' rows e h n
 | [], _, _, _,hh=>⟨hh.1,hq _ _ _ _ hh.2⟩
 |xs::rest,e,h,n,hh=>⟨hh.1,hA _ _ _ _ _ _ (Qb λ e h n=>hB _ _ _ _ _ _ (MP (λ e h n=>EO.mono λ e h n=>xw hA hB hq) hq)) hh.2⟩
theorem za9 {P:Program}:∀ {c:Code}{n0:Nat}{Q Q':c7} (hq:∀x e h n,Q x e h n->Q' x e h n){e:dg}{h:au}{n:Nat},iG P n0 c Q e h n->iG P n0 c Q' e h n:=by
 intro c;induction c with
 |skip=>intro n0 Q Q' hq e h n hh;exact hq _ _ _ _ hh
 |label l=>intro n0 Q Q' hq e h n hh;exact hq _ _ _ _ hh
 |region id ops draw=>
  intro n0 Q Q' hq e h n hh;cases draw with
  |false=>exact Da hq hh
  |true=>
   obtain ⟨h',hf,hh⟩:=hh;exact ⟨h',hf,Qq hq hh⟩
 |seq a b iha ihb=>intro n0 Q Q' hq e h n hh;exact iha (C5 (λ e h n=>ihb hq) hq) hh
 |cond c a b iha ihb=>
  intro n0 Q Q' hq e h n hh;unfold iG at hh ⊢;split at hh
  ·exact ⟨λ ht=>iha hq (hh.1 ht),λ ht=>ihb hq (hh.2 ht)⟩
  grind
 |block id b ih=>intro n0 Q Q' hq e h n hh;exact ih (MN hq) hh
 |scope b ih=>intro n0 Q Q' hq e h n hh;exact ih (MR hq) hh
 |loop b ih=>
  intro n0 Q Q' hq e h n hh;exact λ X h1 h2=>hh X (λ e h n hb=>h1 e h n (ih (C5 (λ _ _ _ hx=>hx) hq) hb)) h2
 |rangeFunc g ps a b iha ihb=>
  intro n0 Q Q' hq e h n hh;rcases hh with ⟨f,caps,caps',more,rows,h',h1,h2,h3,h4,h5,h6,h7⟩|⟨f,caps,caps',o,gn,sz,rs,rs',more,rows,h',h1,h2,h3,h4,h5,h6,h7,h8,h9⟩
  ·exact .inl ⟨f,caps,caps',more,rows,h',h1,h2,h3,h4,h5,h6,EO.mono (λ e h n=>xw (A:=λ n1=>iG P n1 a) (B:=λ n1=>iG P n1 b) (λ n1 Q Q' e h n hq hh=>iha hq hh) (λ n1 Q Q' e h n hq hh=>ihb hq hh) hq) h7⟩
  ·exact .inr ⟨f,caps,caps',o,gn,sz,rs,rs',more,rows,h',h1,h2,h3,h4,h5,h6,h7,h8,EO.mono (λ e h n=>xw (A:=λ n1=>iG P n1 a) (B:=λ n1=>iG P n1 b) (λ n1 Q Q' e h n hq hh=>iha hq hh) (λ n1 Q Q' e h n hq hh=>ihb hq hh) hq) h9⟩
 |exit id=>intro n0 Q Q' hq e h n hh;exact hq _ _ _ _ hh
 |ret=>intro n0 Q Q' hq e h n hh;exact hq _ _ _ _ hh
 | _=>intro n0 Q Q' hq e h n hh;exact hh.elim
variable {b:Code}
theorem zg6 {P:Program}{Q:c7}{e:dg}{h:au} (hh:iG P n0 b (CZ (ah n0 (iG P n0 b) Q) Q) e h n):ah n0 (iG P n0 b) Q e h n:=
 λ X h1 h2=>h1 e h n (za9 (C5 (λ e h n hx=>hx X h1 h2) (λ _ _ _ _ hq=>hq)) hh)
theorem ah.forget {P:Program}{Q:c7}{e:dg}{h:au} (E:List (Nat×AV)) (HH:List (Nat×cB)) (n':Nat) (hk:Wk e h n E HH n') (hn:n0<=n')
  (hh:ah n0 (iG P n0 b) Q (Fb E) (fh HH) n'):ah n0 (iG P n0 b) Q e h n:=
 λ X h1 h2=>h2 e h n E HH n' hk hn (hh X h1 h2)

variable {f:FuncId} {r:Option Nat}
theorem Au {P:Program}{args:Array Value}{w:World}{R:Ending->World->Prop} (h:Calls P f args w R):CallsIn (WF r) k P f args w R:=
 callsIn_wide.2 h

section grow
variable {M M':Nat->Prop} {w w':World} {φ:aQ} {h:au} {F:Nat->Prop}
theorem rL.or (g:rL M w M' w'):∀k,Or M' (bc φ h) k->Or M (bc φ h) k∨w.heap.size<=k:=λ k hk=>hk.elim (λ hk=>(g.new k hk).imp .inl id) λ hk=> .inl (.inr hk)
theorem rL.rel (g:rL M w M' w') (hx:bY φ w (Or M (bc φ h)) x v):bY φ w' (Or M' (bc φ h)) x v:=
 hx.keep φ.le_refl (λ k hn hk=>g.keep k hk (λ hm=>hn (.inl hm))) g.or
theorem rL.relL (g:rL M w M' w') (hx:aU φ w (Or M (bc φ h)) xs vs):aU φ w' (Or M' (bc φ h)) xs vs:=
 hx.keep φ.le_refl (λ k hn hk=>g.keep k hk (λ hm=>hn (.inl hm))) g.or
theorem rL.hrel (g:rL M w M' w') (hH:br φ F w M h):br φ F w' M' h:=by
 refine ⟨g.lt,hH.fresh,λ o mt g0 sz rs ho=> ?_,hH.inj,hH.glob.keep (λ k hn hk=>g.keep k hk (λ hm=>hn (.inl hm))) g.or⟩;obtain ⟨A,hA,h1⟩:=hH.obj o mt g0 sz rs ho;refine ⟨A,hA,h1.imp id ?_⟩;rintro ⟨a,bs,e1,e3,e4⟩;have hlt:=e4.blk;exact ⟨a,bs,e1,λ hk=>(g.new _ hk).elim e3 (λ h=>by omega),e4.keep (g.keep _ hlt e3) (λ e9=>g.relL e9)⟩
end grow
def IsG (g:AV):Prop:=g= .top∨∃x,g= .gd false x
theorem fm.anyM {φ φ':aQ}{w w':World}{M M':Nat->Prop}{h h':au} (st:fm φ w M h φ' w' h'):fm φ w M' h φ' w' h':=
 ⟨st.le,λ k hk=>hk.elim (λ hk=> .inl (.inl hk)) λ hk=>(st.mutd k hk).imp .inr id,st.fr,st.mutd⟩
theorem NC.mono {lo':Nat}{w w':World} (hn:NC lo w w') (hl:lo'<=lo):NC lo' w w':=
 ⟨hn.os,hn.tape,hn.output,hn.drawn,hn.size,λ k hk=>hn.low k ge,hn.cells,hn.maps⟩
structure jM (P:Program) where
 n0:Nat
 lo:Nat
 round:Option Nat
 ok0:AV->fF->fF->aQ->World->au->Prop
 isG0:∀ {g M O φ w h},ok0 g M O φ w h->IsG g
 step0:∀ {g M O φ w h φ' w' h'},ok0 g M O φ w h->fm φ w M h φ' w' h'->ok0 g M O φ' w' h'
 forget0:∀ {g g' M O φ w h φ' h' n'},ok0 g M O φ w h->g'=g∨g'= .top->(∀k,bc φ' h' k->bc φ h k)->(∀o x,o<n'->φ o=some x->φ' o=some x)->n0<=n'->ok0 g' M O φ' w h'
 yld0:∀ {r m l more xs rest M O φ w h n vs},ok0 (dY l more (xs::rest)) M O φ w h->m8 φ n w (Or M O) h->aU rT w (Or (Or M O) (bc φ h)) xs vs->
  ∃fn tmps assign body,(Instr.yield l ⟨vs⟩).run P w= .ok (.round l fn tmps assign body) w∧RoundIn (WF r) m P l fn tmps assign body w λ e w'=>
   ∃b M',e= .returned (.bool b)∧rL M w M' w'∧ok0 (if b then dY l more rest else dY l 2 []) M' O φ w' h
 exh0:∀ {l M O φ w h},¬ok0 (dY l 1 []) M O φ w h
 oth0:∀ {g M O O' φ w w' h},ok0 g M O φ w h->Fr w O w'->(∀k,O' k->O k∨w.heap.size<=k)->ok0 g M O' φ w' h
 nc0:∀ {g M O φ w w' h},ok0 g M O φ w h->NC lo w w'->ok0 g M O φ w' h
 give0:∀ {g M O O' φ w h h'},ok0 g M O φ w h->(∀k,O' k->O k∨bc φ h k)->(∀k,bc φ h' k->bc φ h k)->ok0 g M O' φ w h'
 lo0:∀ {g M O φ w h},ok0 g M O φ w h->lo<=w.heap.size
 rec0:∀ {g M O φ w h l},ok0 g M O φ w h->round=some l->∃r:Loop,w.heap[l]? =some (.loop r)
def jM.ok {P:Program} (B:jM P) (g:AV) (M:fF) (φ:aQ) (w:World) (h:au):Prop:=∃Mc O,M=Or Mc O∧B.ok0 g Mc O φ w h
section
variable {P:Program} (B:jM P) {g g':AV} {M:fF} {φ φ':aQ} {w w':World} {h h':au}
theorem jM.isG (hk:B.ok g M φ w h):IsG g:=by
 obtain ⟨Mc,O, _,h⟩:=hk;exact B.isG0 h
theorem jM.step (hk:B.ok g M φ w h) (st:fm φ w M h φ' w' h'):B.ok g M φ' w' h':=by
 obtain ⟨Mc,O,rfl,h⟩:=hk;exact ⟨Mc,O,rfl,B.step0 h st.anyM⟩
theorem jM.forget {n':Nat} (hk:B.ok g M φ w h) (h1:g'=g∨g'= .top) (h2:∀k,bc φ' h' k->bc φ h k) (h3:∀o x,o<n'->φ o=some x->φ' o=some x) (h4:B.n0<=n'):B.ok g' M φ' w h':=by
 obtain ⟨Mc,O,rfl,h⟩:=hk;exact ⟨Mc,O,rfl,B.forget0 h h1 h2 h3 h4⟩
theorem jM.exh {l:Nat}:¬B.ok (dY l 1 []) M φ w h:=by
 rintro ⟨Mc,O,rfl,h⟩;exact B.exh0 h
theorem jM.yld {m l more:Nat}{rest:List (List AV)} (hk:B.ok (dY l more (xs::rest)) M φ w h) (hH:m8 φ n w M h) (hr:aU rT w (Or M (bc φ h)) xs vs):
  ∃fn tmps assign body,(Instr.yield l ⟨vs⟩).run P w= .ok (.round l fn tmps assign body) w∧RoundIn (WF r) m P l fn tmps assign body w λ e w'=>
   ∃b M',e= .returned (.bool b)∧rL M w M' w'∧B.ok (if b then dY l more rest else dY l 2 []) M' φ w' h:=by
 obtain ⟨Mc,O,rfl,h⟩:=hk;obtain ⟨fn,tmps,asg,body,h1,h2⟩:=B.yld0 (r:=r) (m:=m) h hH hr;refine ⟨fn,tmps,asg,body,h1,h2.mono ?_⟩;rintro e w' ⟨b,M',e1,g,h3⟩;exact ⟨b,Or M' O,e1,⟨g.size,λ k hk hn=>g.keep k hk λ hm=>hn (.inl hm),λ k hk=>hk.elim (λ hk=>(g.new k hk).imp .inl id) λ hk=> .inl (.inr hk),
  λ k hk=>hk.elim (g.lt k) λ hk=>Nat.lt_of_lt_of_le (hH.m0 k (.inr hk)) g.size⟩,M',O,rfl,h3⟩
end
def pI (lo:Nat) (M:Nat->Prop) (ds:List Deferred) (w:World):Prop:=ds.Pairwise (λ a b=>a≠b)∧∀d ∈ ds,∃D,d={ target:= .collected D,args:= #[]}∧lo<=D∧¬M D∧w.heap[D]? =some (.deferred (some []))
theorem pI.nil {lo:Nat}{M:Nat->Prop}{w:World}:pI lo M [] w:=⟨.nil,λ d hd=>by cases hd⟩
variable {ds:List Deferred}
theorem pI.step {φ φ':aQ}{w w':World}{M:Nat->Prop}{h h':au}{F:Nat->Prop} (hm:pI lo M ds w) (hH:br φ F w M h) (st:fm φ w M h φ' w' h'):pI lo M ds w':=by
 refine ⟨hm.1,λ d hd=> ?_⟩;obtain ⟨D,h1,h0,h2,h3⟩:=hm.2 d hd;refine ⟨D,h1,h0,h2,(st.fr.block D (Array.getElem?_eq_some_iff.1 h3).1 ?_).trans h3⟩;rintro ⟨o,g,sz,rs,g',a,bs,ho,hp,he⟩;obtain ⟨A,hA,hc⟩:=hH.obj _ _ _ _ _ ho;grind [m9]
theorem pI.grow {M M':Nat->Prop}{w w':World} (hm:pI lo M ds w) (g:rL M w M' w'):pI lo M' ds w':=by
 refine ⟨hm.1,λ d hd=> ?_⟩;obtain ⟨D,h1,h0,h2,h3⟩:=hm.2 d hd;have hlt:=(Array.getElem?_eq_some_iff.1 h3).1;exact ⟨D,h1,h0,λ hk=>(g.new D hk).elim h2 (λ h=>by omega),(g.keep D hlt h2).trans h3⟩
structure SR {P:Program} (B:jM P) (N:Nat) (M:Nat->Prop) (φ:aQ) (e:dg) (h:au) (n:Nat) (a:Act) (w:World):Prop where
 env:∀t,bY φ w (Or M (bc φ h)) (e t) (a.tmps.getD t undef)
 size:a.tmps.size=N
 defs:pI B.lo M a.defers w
 heap:m8 φ n w M h
 ok:B.ok (e GH) M φ w h
 small:N<=GH
def SQ {P:Program} (B:jM P) (N:Nat) (Q:c7):Exit->Act->World->Prop:=
 λ x a w=>∃M φ e h n,SR B N M φ e h n a w∧Q x e h n
theorem zcG {e:dg}{dst:Option Tmp} (hd:match dst with|none=>True|some d=>d<N) (hN:N<=GH) (x:AV):put e dst x GH=e GH:=by
 cases dst with
 |none=>rfl
 |some d=>
  exact ja _ _ (λ h=>by
   grind)

theorem SR.put {P:Program}{B:jM P}{N:Nat}{M:Nat->Prop}{φ φ':aQ}{e:dg}{h h':au}{n n':Nat}{a:Act}{w w':World} (hs:SR B N M φ e h n a w){dst:Option Tmp} (hd:match dst with|none=>True|some d=>d<N)
  {x:AV} {v:Value} (hx:bY φ' w' (Or M (bc φ' h')) x v) (hH:m8 φ' n' w' M h') (st:fm φ w M h φ' w' h'):SR B N M φ' (put e dst x) h' n' (a.put dst v) w':=by
 cases dst with
 |none=>exact ⟨λ t=>st.rel (hs.env t),hs.size,hs.defs.step hs.heap st,hH,B.step hs.ok st,hs.small⟩
 |some d=>
  refine ⟨λ t=> ?_,by simp [Act.put,hs.size],hs.defs.step hs.heap st,hH,by rw [zcG hd hs.small];exact B.step hs.ok st,hs.small⟩;simp only [Av.put,Act.put,aC];by_cases ht:t=d
  ·subst ht;have:t<a.tmps.size:=by rw [hs.size];exact hd
   simp_all
  ·rw [if_neg ht];have:(a.tmps.setIfInBounds d v).getD t undef=a.tmps.getD t undef:=by
    simp_all [Ne.symm]
   rw [this];exact st.rel (hs.env t)

variable {want:Bool} {o:Oper} {a:Act} {ops:Array Oper}
theorem zT {φ:aQ}{M:Nat->Prop}{e:dg}{w:World} (he:∀t,bY φ w M (e t) (a.tmps.getD t undef)){j:Nat}{g:Bool}
  (hg:o.guard=some (j,want)) (hb:(qy ops.toList j).bind (λ t=>te (e t) want)=some g):Region.wanted o (yielded ops a.tmps)=g:=by
 unfold qy at hb;simp only [Region.wanted,hg,yielded];cases ht:(ops[j]?).bind (·.dst) with
 |none=>grind
 |some t=>
  simp only [Array.getElem?_toList,ht,Option.bind_some] at hb;have hr:=he t;simp only [Option.bind_some];have hv:∀v,a.tmps.getD t undef=v->v≠undef->a.tmps[t]? =some v:=by
   cases hx:a.tmps[t]?<;>simp_all
  unfold te at hb;split at hb
  ·rename_i b hx;rw [hx] at hr;generalize hq:a.tmps.getD t undef=q at hr;cases hr;rw [hv _ hq (by simp [undef])];simp_all
  ·rename_i g' b hx;rw [hx] at hr;generalize hq:a.tmps.getD t undef=q at hr;cases hr with
   |gd h1 h2=>
    cases g' with
    |true=>
     have:=h1 rfl;cases this;rw [hv _ hq (by simp [undef])];simp_all
    |false=>
     have:=h2 rfl;cases hx:a.tmps[t]?<;>simp_all [undef]
  grind

theorem LO {P:Program}{B:jM P}{M:Nat->Prop}{φ:aQ}{e:dg}{h:au}{w:World} (hs:SR B N M φ e h n a w){j:Nat}{g:Bool}
  (hg:o.guard=some (j,want)) (hb:(qy ops.toList j).bind (λ t=>te (e t) want)=some g):Region.wanted o (yielded ops a.tmps)=g:=zT hs.env hg hb

theorem PE {P:Program}{w:World}{fo:Operand}{args:Array Operand}{ats:Array TypeId}{ty:TypeId}{fs cs:List Value} (hf:a.eval fo= .func (.func f) ⟨fs⟩ ⟨cs⟩)
  (he:kH P f):(do let d <- resolve a.eval { callee:= .value fo,args,argTypes:=ats} ty;invoke d.target d.args).run P w= .ok (.enter f ⟨fs++args.toList.map a.eval++cs⟩) w:=by
 simp_all [resolve,Deferred.ofValue,invoke,kH]

theorem Gc {P:Program}{B:jM P}{Q:c7}{m:Nat} (hd:∀o ∈ ops.toList,match o.dst with|none=>True|some d=>d<N):
  ∀ (k:Nat) (i:Nat),i+k=ops.size->∀ {M:Nat->Prop} {φ:aQ} {e:dg} {h:au} {n:Nat} {a:Act} {w:World},SR B N M φ e h n a w->gP P ops.toList Q (ops.toList.drop i) e h n->
   wpOpsIn (WF r) m P ops (SQ B N Q) (List.range' i k) a w:=by
 intro k;induction k with
 |zero=>
  intro i hi M φ e h n a w hs ha;have:ops.toList.drop i= []:=List.drop_eq_nil_of_le pi;rw [this] at ha;exact ⟨M,φ,e,h,n,hs,ha⟩
 |succ k ih=>
  intro i hi M φ e h n a w hs ha;have hlt:i<ops.size:=ge;have hdrop:ops.toList.drop i=ops[i]::ops.toList.drop (i+1):=by
   grind [List.drop_eq_getElem_cons]
  rw [hdrop] at ha;have hmem:ops[i] ∈ ops.toList:=gt;have hdst:=hd _ hmem;simp only [List.range'_succ,wpOpsIn,Array.getElem?_eq_getElem hlt];have hev:∀x,bY φ w (Or M (bc φ h)) (ev e x) (a.eval x):=Mi hs.heap.glob hs.env;have habout:∀f,Oper.about P w a.eval ops[i]=some f->(WF r).fn f:=λ _ _=>trivial;have hdepth:(WF r).depth.isSome=true->1<=m:=by grind [WF,Fence.wide]
  generalize ho:ops[i]=o at *;have hcall:∀ (e':dg) (fo:Operand) (args:Array Operand) (ats:Array TypeId) (K:cI),o.op= .call { callee:= .value fo,args,argTypes:=ats}->(∀x ∈ o.op.operands,bY φ w (Or M (bc φ h)) (ev e' x) (a.eval x))->
    rZ P (ev e' fo) (args.toList.map (ev e')) h n K->
    (∀v φ' x h' n' w',bY φ' w' (Or M (bc φ' h')) x v->m8 φ' n' w' M h'->fm φ w M h φ' w' h'->K x h' n'->wpOpsIn (WF r) m P ops (SQ B N Q) (List.range' (i+1) k) (a.put o.dst v) w')->
    o.wpIn (WF r) m P a w (wpOpsIn (WF r) m P ops (SQ B N Q) (List.range' (i+1) k)) (SQ B N Q):=by
   intro e' fo args ats K hop he hc hk;refine ⟨habout, ?_⟩;rw [Oper.semAt_eq _ _ _ (λ c=>by grind)];have hfo:=he fo Wt;have hargs:aU φ w (Or M (bc φ h)) (args.toList.map (ev e')) (args.toList.map a.eval):=wb λ x hx=>he x WO;unfold rZ at hc;split at hc
   ·rename_i f first caps hfv
    rw [hfv] at hfo;generalize hval:a.eval fo=fval at hfo;cases hfo with
    | @fn _ _ _ fs cs h1 h2=>
     have hrun:=PE (P:=P) (w:=w) (args:=args) (ats:=ats) (ty:=o.type) hval hc.1;have hex:execOp a.eval o=(do let d <- resolve a.eval { callee:= .value fo,args,argTypes:=ats} o.type;invoke d.target d.args):=Ww;rw [hex,hrun];refine ⟨hdepth,Au ((hc.2 M φ w _ hs.heap ((h1.append hargs).append h2)).mono ?_)⟩;grind
   grind
  have hone:∀ (e':dg),(∀x ∈ o.op.operands,bY φ w (Or M (bc φ h)) (ev e' x) (a.eval x))->(lK P n o.op e' h).cond->(∀c,o.op≠ .defer c)->
    (∀v φ' w',bY φ' w' (Or M (bc φ' (aB (lK P n o.op e' h).wr h))) (lK P n o.op e' h).val v->m8 φ' (n+(lK P n o.op e' h).al) w' M (aB (lK P n o.op e' h).wr h)->
     fm φ w M h φ' w' (aB (lK P n o.op e' h).wr h)->wpOpsIn (WF r) m P ops (SQ B N Q) (List.range' (i+1) k) (a.put o.dst v) w')->
    o.wpIn (WF r) m P a w (wpOpsIn (WF r) m P ops (SQ B N Q) (List.range' (i+1) k)) (SQ B N Q):=by
   intro e' he hc hnd hk;refine ⟨habout, ?_⟩;rw [Oper.semAt_eq _ _ _ hnd];obtain ⟨nx,v,w',φ',hrun,hnx,hx,hH',st⟩:=Nr hs.heap (Nat.le_refl _) he hc;rw [hrun];have hH':=zfc _ hH';rcases hnx with rfl|⟨rfl,rfl⟩
   ·exact hk v φ' w' hx hH' st
   ·exact hk undef φ' w' hx hH' st
  have hyield:∀ (e':dg) (fo:Operand) (args:Array Operand) (ats:Array TypeId) (K:dg->AV->au->Prop),o.op= .call { callee:= .value fo,args,argTypes:=ats}->(∀x ∈ o.op.operands,bY φ w (Or M (bc φ h)) (ev e' x) (a.eval x))->
    uO e (ev e' fo) (args.toList.map (ev e')) h n K->
    (∀b M' e2 h' w',SR B N M' φ e2 h' n a w'->K e2 (.v (.bool b)) h'->wpOpsIn (WF r) m P ops (SQ B N Q) (List.range' (i+1) k) (a.put o.dst (.bool b)) w')->
    o.wpIn (WF r) m P a w (wpOpsIn (WF r) m P ops (SQ B N Q) (List.range' (i+1) k)) (SQ B N Q):=by
   intro e' fo args ats K hop he hc hk;refine ⟨habout, ?_⟩;rw [Oper.semAt_eq _ _ _ (λ c=>by grind)];have hfo:=he fo Wt;have hargs:aU φ w (Or M (bc φ h)) (args.toList.map (ev e')) (args.toList.map a.eval):=wb λ x hx=>he x WO;obtain ⟨l,more,rows,hfv,hgh,hrows⟩:=hc;rw [hfv] at hfo;generalize hval:a.eval fo=fval at hfo;cases hfo with
   | @fn _ _ _ fs cs h1 h2=>
    cases h1;cases h2;have hok:=hs.ok;rw [hgh] at hok;cases rows with
    |nil=>simp only at hrows;subst hrows;exact absurd hok B.exh
    |cons xs rest=>
     obtain ⟨h',hfz,hle,hb,k1,k2⟩:=hrows;obtain ⟨hH',st0⟩:=hs.heap.freeze hfz;have hmt:∀o g sz rs,h' o=some (.rows true g sz rs)->h o=some (.rows true g sz rs):=by
      intro o g sz rs ho;rcases hfz o with h1|⟨g1,sz1,rs1,h1,h2⟩;all_goals grind
     have hv:=jc hs.heap hmt hle hb hargs;obtain ⟨fn,tmps,asg,body,hy,hround⟩:=B.yld (r:=r) (m:=m - 1) (B.step hok st0) hH' hv;have hex:(execOp a.eval o).run P w= .ok (.round l fn tmps asg body) w:=by
      have e1:execOp a.eval o=(do let d <- resolve a.eval { callee:= .value fo,args,argTypes:=ats} o.type;invoke d.target d.args):=Ww;rw [e1];simp only [resolve,hval,Deferred.ofValue,Sem.run_bind,Sem.run_pure,Result.andThen_ok,invoke];have e2:(⟨[]⟩:Array Value)++args.map a.eval=⟨args.toList.map a.eval⟩:=pi;grind
     rw [hex];refine ⟨hdepth,hround.mono ?_⟩;rintro en w' ⟨b,M',rfl,hg,hok'⟩;have hGH:∀x,SR B N M' φ (aC e GH x) h' n a w'↔B.ok x M' φ w' h'∧IsG x:=λ x=>by
      constructor
      ·intro hs';have:=hs'.ok;rw [cZ] at this;exact ⟨this,B.isG this⟩
      ·rintro ⟨hx,hgx⟩;refine ⟨λ t=> ?_,hs.size,(hs.defs.step hs.heap st0).grow hg,hg.hrel hH',WQ,hs.small⟩;by_cases ht:t=GH
       ·subst ht;rw [cZ];have hu:a.tmps.getD GH undef=undef:=by
         rw [Array.getD_eq_getD_getElem?,Array.getElem?_eq_none (by have:=hs.size;have:=hs.small;omega)];rfl
        rw [hu];rcases hgx with rfl|⟨x,rfl⟩
        ·exact .top _
        ·exact .gd (λ h=>by cases h) (λ _=>rfl)
       ·rw [ja _ _ ht];exact hg.rel (st0.rel (hs.env t))
     cases b with
     |true=>exact hk true M' _ h' w' ((hGH _).2 ⟨hok', .inr ⟨_,rfl⟩⟩) k1
     |false=>exact hk false M' _ h' w' ((hGH _).2 ⟨hok', .inr ⟨_,rfl⟩⟩) k2
  have hnd:∀e',(lK P n o.op e' h).cond->∀c,o.op≠ .defer c:=by
   grind [lK]
  unfold gP at ha;split at ha
  · --
   rename_i hg;have hw:Region.wanted o (yielded ops a.tmps)=true:=by simp [Region.wanted,hg]
   rw [if_pos hw];split at ha
   ·rename_i fo args ats hop;rcases ha with ha|ha
    ·exact hcall e fo args ats _ hop (λ x _=>hev x) ha λ v φ' x h' n' w' hx hH' st hK=>ih (i+1) ge (hs.put hdst hx hH' st) hK
    ·exact hyield e fo args ats _ hop (λ x _=>hev x) ha λ b M' e2 h' w' hs' hK=>ih (i+1) ge (hs'.put hdst (.v _) hs'.heap (.refl _ _ _ _)) hK
   ·exact hone e (λ x _=>hev x) ha.1 (hnd e ha.1) λ v φ' w' hx hH' st=>ih (i+1) ge (hs.put hdst hx hH' st) ha.2
  · --
   rename_i j want hg;split at ha
   ·grind
   ·rename_i g hb;have hw:=LO hs hg hb;rw [hw];have hpk:∀op e,gE op e=e∧gT op= []∨gE op e=(λ t=>CX (e t))∧gT op=iq op:=by
     intro op e;cases op<;>first|exact .inl ⟨rfl,rfl⟩|exact .inr ⟨rfl,rfl⟩
    have hung:∀ (op:Op),(∀t ∈ gT op,EE g (e t))->g=true->∀x ∈ op.operands,bY φ w (Or M (bc φ h)) (ev (gE op e) x) (a.eval x):=by
     intro op hok hgt x hx;rcases hpk op e with ⟨he1, _⟩|⟨he1,he2⟩
     ·grind
     rw [he1];rw [he2] at hok;cases x with
     |tmp t=>
      have hmt:t ∈ iq op:=by
       simp only [iq,List.mem_filterMap];exact ⟨.tmp t,pi,rfl⟩
      have h1:=hok t hmt;have h2:=hs.env t;simp only [ev];show bY φ w _ (CX (e t)) (a.tmps.getD t undef);generalize e t=y at h1 h2;cases y with
      |gd g' y=>cases h2 with|gd h3 _=>exact h3 (h1 hgt)
      | _=>exact h2
     |const v=>grind [ev]
     |global g=>grind [ev]
     |func f=>grind [ev]
    have hskip:∀x,g=false->SR B N M φ (put e o.dst (.gd g x)) h n (a.put o.dst undef) w:=λ x hgf=>
     hs.put hdst (.gd (λ h=>by grind) (λ _=>rfl)) hs.heap (.refl _ _ _ _)
    split at ha
    ·rename_i fo args ats hop;obtain ⟨hok,⟨x,hc,hrest⟩|⟨hgt,hc⟩|⟨hgt,hc⟩⟩:=ha;rotate_right
     ·subst hgt;rw [if_pos rfl];refine hyield (λ t=>CX (e t)) fo args ats _ hop XS hc λ b M' e2 h' w' hs' hK=> ?_;exact ih (i+1) ge (hs'.put hdst (.gd (λ _=> .v _) (λ h=>by cases h)) hs'.heap (.refl _ _ _ _)) hK
     rotate_left
     ·subst hgt;rw [if_pos rfl];refine hcall (λ t=>CX (e t)) fo args ats _ hop XS hc λ v φ' x' h' n' w' hx hH' st hK=> ?_;exact ih (i+1) ge (hs.put hdst (.gd (λ _=>hx) (λ h=>by cases h)) hH' st) hK
     cases hgv:g with
     |true=>
      rw [if_pos rfl];refine hcall (λ t=>CX (e t)) fo args ats _ hop (by have:=hung o.op (by grind [gT]) hgv;rw [hop] at this ⊢;exact this) (hc hgv) λ v φ' x' h' n' w' hx hH' st hK=> ?_;obtain ⟨rfl,rfl,rfl⟩:=hK;rw [hgv] at hrest;exact ih (i+1) ge (hs.put hdst (.gd (λ _=>hx) (λ h=>by cases h)) hH' st) hrest
     |false=>
      grind
    ·obtain ⟨hok,hc,hrest⟩:=ha;cases hgv:g with
     |true=>
      rw [if_pos rfl];refine hone (gE o.op e) (hung _ hok hgv) (hc hgv) (hnd _ (hc hgv)) λ v φ' w' hx hH' st=> ?_;rw [hgv] at hrest;exact ih (i+1) ge (hs.put hdst (.gd (λ _=>hx) (λ h=>by cases h)) hH' st) hrest
     |false=>
      grind [gW,gN,aB]

theorem NC.refl (lo:Nat) (w:World):NC lo w w:=⟨rfl,rfl,rfl,Nat.le_refl _,rfl,λ _ _=>rfl,λ _ _ _ _ _=>rfl,λ _ _ _ _=>rfl⟩
theorem NC.trans {lo:Nat}{a b c:World} (h:NC lo a b) (k:NC lo b c):NC lo a c:=
 ⟨k.os.trans h.os,k.tape.trans h.tape,k.output.trans h.output,Nat.le_trans h.drawn k.drawn,k.size.trans h.size,λ i hi=>(k.low i hi).trans (h.low i hi),
  λ i C T fz hc=>(k.cells i C T fz ((h.cells i C T fz hc).trans hc)).trans (h.cells i C T fz hc),λ i es clk hc=>(k.maps i es clk ((h.maps i es clk hc).trans hc)).trans (h.maps i es clk hc)⟩
theorem NC.putObj {lo:Nat}{w:World}{D:Nat} (o':Obj) (hlo:lo<=D){o:Obj} (h:w.heap[D]? =some o) (hn:∀C T fz,o≠ .cells C T fz) (hm:∀es clk,o≠ .map es clk):NC lo w (w.putObj D o'):=by
 refine ⟨rfl,rfl,rfl,Nat.le_refl _,WW,λ k hk=>World.putObj_heap_other ge,λ k C T fz hc=>World.putObj_heap_other ?_,λ k es clk hc=>World.putObj_heap_other ?_⟩;all_goals grind
theorem bY.nc {φ:aQ}{w w':World}{M:Nat->Prop} (hn:NC lo w w'):∀ {x:AV}{v:Value},bY φ w M x v->bY φ w' M x v:=by
 intro x v h;refine bY.rec (φ:=φ) (w:=w) (M:=M) (motive_1:=λ x v _=>bY φ w' M x v) (motive_2:=λ xs vs _=>aU φ w' M xs vs) ?_ ?_ ?_ ?_ ?_ ?_ ?_ ?_ ?_ ?_ ?_ ?_ ?_ ?_ h
 ·exact λ v=> .top v
 ·exact λ v=> .v v
 ·exact λ hv _ ih=> .agg hv ih
 ·exact λ _ ih=> .tup ih
 ·exact λ sz A cap=> .nil sz A cap
 ·intro sz rows a len cap C T fz hs hm hb hr hl hc hcap hv _ ih;exact .lst hs hm ((hn.cells _ _ _ _ hb).trans hb) hr hl hc hcap hv ih
 ·intro cells a C T fz hs hm hb hc hv _ ih;exact .fp hs hm ((hn.cells _ _ _ _ hb).trans hb) hc hv ih
 ·exact λ ho hg h=> .ref ho hg h
 ·exact λ ho hg h=> .sl ho hg h
 ·exact λ ho h=> .mp ho h
 ·exact λ _ _ ih1 ih2=> .fn ih1 ih2
 ·exact λ _ h' ih=> .gd ih h'
 ·exact .nil
 ·exact λ _ _ ih1 ih2=> .cons ih1 ih2
theorem aU.nc {φ:aQ}{w w':World}{M:Nat->Prop}{lo:Nat} (hn:NC lo w w'):∀ {xs:List AV}{vs:List Value},aU φ w M xs vs->aU φ w' M xs vs
 | [], _, .nil=> .nil
 | _:: _, _, .cons h t=> .cons (h.nc hn) (t.nc hn)
theorem br.nc {φ:aQ}{F:Nat->Prop}{w w':World}{M:Nat->Prop}{h:au}{lo:Nat} (hn:NC lo w w') (hH:br φ F w M h):br φ F w' M h:=by
 refine ⟨λ k hk=>by rw [hn.size];exact hH.m0 k hk,hH.fresh,λ o mt g sz rs ho=> ?_,hH.inj,λ p hp=>(hH.glob p hp).nc hn⟩;obtain ⟨A,hA,h1⟩:=hH.obj o mt g sz rs ho;refine ⟨A,hA,h1.imp id ?_⟩;rintro ⟨a,bs,e1,e3,hd⟩;have hb:w'.heap[a.block]? =w.heap[a.block]? :=by
  rcases hd with ⟨C,T, _,e4, _⟩|⟨es,clk, _,e4, _⟩
  ·exact hn.cells _ _ _ _ e4
  ·exact hn.maps _ _ _ e4
 exact ⟨a,bs,e1,e3,hd.keep hb (λ e9=>e9.nc hn)⟩
theorem fm.nc {φ φ':aQ}{w w' w'':World}{M:Nat->Prop}{h h':au} (st:fm φ w M h φ' w' h') (hn:NC w.heap.size w' w''):fm φ w M h φ' w'' h':=
 ⟨st.le,st.or,⟨hn.os.trans st.fr.os,hn.tape.trans st.fr.tape,hn.output.trans st.fr.output,Nat.le_trans st.fr.drawn hn.drawn,by rw [hn.size];exact st.fr.size,λ k hk hu=>(hn.low k hk).trans (st.fr.block k hk hu)⟩,st.mutd⟩
theorem oC (M:fF):Or M (λ _=>False)=M:=funext λ k=>propext ⟨λ h=>h.elim id False.elim, .inl⟩
theorem DB (A B C:fF):Or (Or A B) C=Or A (Or B C):=funext λ k=>propext ⟨λ h=>h.elim (λ h=>h.imp id .inl) λ h=> .inr (.inr h),λ h=>h.elim (λ h=> .inl (.inl h)) λ h=>h.imp .inr id⟩
theorem bY.lessM {φ:aQ}{w:World}{M M':Nat->Prop} (hM:∀k,M' k->M k) (hx:bY φ w M x v):bY φ w M' x v:=
 hx.keep φ.le_refl (λ _ _ _=>rfl) λ k hk=> .inl (hM k hk)
theorem aU.lessM {φ:aQ}{w:World}{M M':Nat->Prop} (hM:∀k,M' k->M k) (hx:aU φ w M xs vs):aU φ w M' xs vs:=
 hx.keep φ.le_refl (λ _ _ _=>rfl) λ k hk=> .inl (hM k hk)
theorem br.lessM {φ:aQ}{F:Nat->Prop}{w:World}{M M':Nat->Prop}{h:au} (hM:∀k,M' k->M k) (hH:br φ F w M h):br φ F w M' h:=by
 refine ⟨λ k hk=>hH.m0 k (hM k hk),hH.fresh,λ o mt g sz rs ho=> ?_,hH.inj,hH.glob.keep (λ _ _ _=>rfl) (λ k hk=> .inl (hk.imp (hM k) id))⟩;obtain ⟨A,hA,h1⟩:=hH.obj o mt g sz rs ho;refine ⟨A,hA,h1.imp id ?_⟩;rintro ⟨a,bs,e1,e3,hd⟩;exact ⟨a,bs,e1,λ hk=>e3 (hM _ hk),hd.keep rfl (λ e9=>e9.lessM λ k hk=>hk.imp (hM k) id)⟩
theorem br.mut_cells {φ:aQ}{F:Nat->Prop}{w:World}{M:Nat->Prop}{h:au} (hH:br φ F w M h) (hk:bc φ h k):¬M k∧((∃C T fz,w.heap[k]? =some (.cells C T fz))∨∃es clk,w.heap[k]? =some (.map es clk)):=by
 obtain ⟨o,g,sz,rs,g',a,bs,ho,hp,rfl⟩:=hk;obtain ⟨A,hA,hc⟩:=hH.obj _ _ _ _ _ ho;grind [m9]
theorem rL.add {M M' O:fF}{w w':World} (g:rL M w M' w') (hO:∀k,O k->k<w.heap.size):rL (Or M O) w (Or M' O) w':=
 ⟨g.size,λ k hk hn=>g.keep k hk λ hm=>hn (.inl hm),λ k hk=>hk.elim (λ hk=>(g.new k hk).imp .inl id) λ hk=> .inl (.inr hk),
  λ k hk=>hk.elim (g.lt k) λ hk=>Nat.lt_of_lt_of_le (hO k hk) g.size⟩
theorem Fr.more {w w':World}{U U':fF} (h:Fr w U w') (hU:∀k,U k->U' k):Fr w U' w':=⟨h.os,h.tape,h.output,h.drawn,h.size,λ k hk hn=>h.block k hk λ hu=>hn (hU k hu)⟩
end Go.Av
end
