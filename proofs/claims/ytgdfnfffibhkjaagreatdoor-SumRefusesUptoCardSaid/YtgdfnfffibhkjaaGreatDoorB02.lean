/- Texts of ours, part 2: our library and contracts of functions. -/
import Derived.Test.YtgdfnfffibhkjaaGreatDoorB01
import Derived.WideKeyRuns
import Derived.Laws.BytesString
import Derived.RangeFuncLeaves
import Derived.RangeFuncRecord
set_option linter.unusedSimpArgs false
set_option linter.unusedVariables false
set_option maxRecDepth 100000
set_option maxHeartbeats 40000000
section
namespace Go.Av
open Go
variable {rs:List (List AV)} {es:List MapEntry} {r:Bool} {w':World} {φ':zaD} {u v z:Value} {M M':Nat->Prop} {k:Nat} {m x:AV} {t:TypeId}
section maps
variable {P:Program} {φ:zaD} {F:Nat->Prop} {w:World} {M0:Nat->Prop} {h:zay} {n:Nat}
inductive zLp (P:Program) (t:TypeId):TK->Prop
  |string (h:P.underlying t=some .string):zLp P t .string
  |bool (h:P.underlying t=some .bool):zLp P t .bool
  |int {k:IntKind} (h:P.underlying t=some (.int k)):zLp P t (.int k)
  |many {fs:Array Field} {ks:List Nat} (h:P.underlying t=some (.struct fs)) (h1:P.stoodInHeld t=false) (hl:ks.length=fs.size)
      (hf:∀i (hi:i<fs.size),fs[i].name≠ "_" ∧fs[i].offset=i∧ztP P fs[i].type=ks[i]?):zLp P t (.many ks)
theorem keyD  (h:zJg (zon P t) x=true):zLp P t (zon P t):=by
  unfold zon at h ⊢;cases hu:P.underlying t with
  |none=>grind [tk,zJg]
  |some d=>
    cases d<;>simp only [tk,hu,zJg,Bool.false_eq_true] at h ⊢;case bool=>exact .bool hu
    case int k=>exact .int hu
    case string=>exact .string hu
    case struct fs=>
      cases hk:zwo P t with
      |none=>grind
      |some ks=>
        simp only;unfold zwo at hk;rw [hu] at hk;simp only at hk;split at hk
        · rename_i hall;cases hk;simp only [Bool.and_eq_true,Bool.not_eq_true',List.all_eq_true,List.mem_range] at hall;refine .many hu hall.1 ac λ i hi=> ?_;grind [Option.isSome_iff_exists]
        grind
theorem znk  (h:ztP P t=some k):(k=0∧∃d,P.underlying t=some (.int d))∨(k=1∧P.underlying t=some .bool)∨(k=2∧P.underlying t=some .string):=by
  grind [ztP]
theorem zsk  (h:ztP P t=some k):zgk P t=some false:=by
  grind [zgk,znk]
theorem zJ6  (h:ztP P t=some k) (e:Bool) (m:Nat) (v:Value):(Instr.checkKey e (m+1) t v).run P w= .ok () w:=by
  unfold Instr.checkKey;rcases znk h with ⟨_,d,h⟩|⟨_,h⟩|⟨_,h⟩<;>simp [Sem.run_bind,zak h,Result.andThen]
theorem zuO:∀ {ks:List Nat}{xs:List AV},zsj ks xs=true->xs.length=ks.length
  | [], [], _=>rfl
  | [], _:: _,h=>by simp [zsj] at h
  | _:: _, [],h=>by simp [zsj] at h
  |k::ks,x::xs,h=>by
    simp only [zsj,Bool.and_eq_true] at h;simp [zuO h.2]
theorem zfB  (h:zJg (zon P t) x=true) (hx:Rel φ w M x v) (e:Bool):(Instr.checkKey e 10000 t v).run P w= .ok () w:=by
  have hd:=keyD h;generalize zon P t=T at h hd;cases hd with
  |string hu=>unfold Instr.checkKey;simp_all [zak]
  |bool hu=>unfold Instr.checkKey;simp_all [zak]
  |int hu=>unfold Instr.checkKey;simp_all [zak]
  | @many fs ks hu hs hl hf=>
    cases x<;>simp only [zJg,Bool.false_eq_true] at h;rename_i xs;cases hx with
    | @agg _ vs hv hr=>
      have hlen:vs.length=fs.size:=by rw [<- hr.length,zuO h,hl]
      rw [show (10000:Nat)=9999+1 from rfl,Instr.checkKey];simp only [Sem.run_bind,zak hu,Result.andThen_ok];rw [<- Array.forIn_toList];have hg:∀i (hi:i<fs.toList.length),fs.toList[i].name≠ "_" ∧fs.toList[i].offset=0+i∧0+i<vs.length∧∃k,ztP P fs.toList[i].type=some k:=λ i hi=>by
        grind
      clear hf hl;generalize fs.toList=L at hg;generalize (0:Nat)=d at hg;clear hlen;induction L generalizing d with
      |nil=>simp
      |cons f L ih=>
        obtain ⟨a1,a2,a3,k,a4⟩:=hg 0 ac;simp only [List.getElem_cons_zero,Nat.add_zero] at a1 a2 a3 a4;have p1:=zdH (P:=P) (w:=w) (d:=d) (zsk a4) vs a3;simp only [List.forIn_cons,Sem.run_bind,a1,ne_eq,not_false_eq_true,if_true,Result.andThen_ok,a2,p1,zJ6 a4,Sem.run_pure];exact ih (d+1) λ i hi=>by
          have:=hg (i+1) af;grind
theorem zvQ {a b:ByteArray} (h:(a==b)=true):a=b:=by
  have h':(a.data==b.data)=true:=h;grind [ByteArray.ext]
theorem zDz (a:ByteArray):(a==a)=true:=by
  show (a.data==a.data)=true;simp
theorem zjP (a b:ByteArray):(a==b)=decide (a=b):=by
  grind [zDz,zvQ]
theorem zKv  (ht:ztP P t=some k){y:AV} (hx:Rel φ w M x u) (hy:Rel φ' w' M' y v) (h:zNT k x y=some r) (d:Nat):
    (Op.equalIn (d+1) t u v).run P w= .ok r w∧(r=true->v=u∧Instr.sameBits (d+1) v v=true):=by
  rcases znk ht with ⟨rfl,q,hu⟩|⟨rfl,hu⟩|⟨rfl,hu⟩
  · unfold zNT at h;split at h
    · rename_i k1 a k2 b _;split at h
      · rename_i hk;subst hk;cases hx;cases hy;grind [run_equalIn_int,Instr.sameBits]
      · cases h
    all_goals simp_all
  · unfold zNT at h;split at h
    · simp_all
    · rename_i a b _;cases hx;cases hy;grind [zlC,Instr.sameBits]
    all_goals simp_all
  · unfold zNT at h;split at h
    · simp_all
    · simp_all
    · rename_i a b _;cases hx;cases hy;simp only [Option.some.injEq] at h;subst h;refine ⟨by rw [Op.equalIn];simp [zak hu],λ e=> ?_⟩;grind [zvQ,Instr.sameBits]
    · cases h
theorem zCl {φ':zaD}{M M':Nat->Prop}{w':World} (vs us:List Value):∀ (fs:List Field) (d:Nat) (ks:List Nat) (xs ys:List AV) (r:Bool),za2 φ w M xs (vs.drop d)->za2 φ' w' M' ys (us.drop d)->zLR ks xs ys=some r->
    ks.length=fs.length->(∀i (hi:i<fs.length),fs[i].name≠ "_" ∧fs[i].offset=d+i∧ztP P fs[i].type=ks[i]?)->
    (Op.eqFields 9999 vs.toArray us.toArray fs).run P w= .ok r w∧(r=true->us.drop d=vs.drop d∧∀u ∈ us.drop d,Instr.sameBits 9999 u u=true)
  | [],d,ks,xs,ys,r,hx,hy,h,hl,hf=>by
    obtain rfl:ks= []:=List.eq_nil_of_length_eq_zero hl;cases xs with
    |cons=>simp [zLR] at h
    |nil=>cases ys with
      |cons=>simp [zLR] at h
      |nil=>
        simp only [zLR,Option.some.injEq] at h;subst h;have e1:=hx.length;have e2:=hy.length;simp only [List.length_nil] at e1 e2;rw [List.eq_nil_of_length_eq_zero e1.symm,List.eq_nil_of_length_eq_zero e2.symm];exact ⟨by simp [Op.eqFields],λ _=>⟨rfl,ac⟩⟩
  |f::fs,d,ks,xs,ys,r,hx,hy,h,hl,hf=>by
    match ks,xs,ys,h with
    |k::ks,x::xs,y::ys,h=>
      simp only [zLR] at h;split at h
      · rename_i a b ha hb;cases h;obtain ⟨a1,a2,a3⟩:=hf 0 ac;simp only [List.getElem_cons_zero,Nat.add_zero,List.getElem?_cons_zero] at a1 a2 a3;have hdv:d<vs.length:=by have:=hx.length;simp at this;omega
        have hdu:d<us.length:=by have:=hy.length;simp at this;omega
        rw [List.drop_eq_getElem_cons hdv] at hx ⊢;rw [List.drop_eq_getElem_cons hdu] at hy ⊢;cases hx with
        |cons hx1 hx2=>
        cases hy with
        |cons hy1 hy2=>
        obtain ⟨g1,g2⟩:=zKv a3 hx1 hy1 ha 9998;obtain ⟨i1,i2⟩:=zCl vs us fs (d+1) ks xs ys b hx2 hy2 hb (by simpa using hl) (λ i hi=>by
          have:=hf (i+1) au;simp only [List.getElem_cons_succ,List.getElem?_cons_succ] at this;exact ⟨this.1,aa,this.2.2⟩)
        have p1:=zdH (P:=P) (w:=w) (d:=d) (zsk a3) vs hdv;have p2:=zdH (P:=P) (w:=w) (d:=d) (zsk a3) us hdu;refine ⟨?_,λ e=> ?_⟩
        · rw [Op.eqFields,if_pos a1,a2];simp only [Sem.run_bind,p1,p2,Result.andThen_ok,g1];cases a with
          |true=>simpa using i1
          |false=>simp
        · simp only [Bool.and_eq_true] at e;obtain ⟨e1,e2⟩:=g2 e.1;obtain ⟨e3,e4⟩:=i2 e.2;exact ⟨by rw [e1,e3],λ u hu=>by
            rcases List.mem_cons.1 hu with rfl|hu
            · exact e2
            · exact e4 u hu⟩
      · cases h
theorem znl {ks:List Nat} (hd:zLp P t (.many ks)){a b:AV} (ha:Rel φ w M a u) (hb:Rel φ' w' M' b v) (h:zir (.many ks) a b=some r):
    (Op.equal t u v).run P w= .ok r w∧(r=true->Instr.sameBits 10000 v u=true):=by
  cases hd with
  | @many fs _ hu hs hl hf=>
    cases a<;>cases b<;>simp only [zir,reduceCtorEq] at h;rename_i xs ys;cases ha with
    | @agg _ vs hv hr=>
    cases hb with
    | @agg _ us hv2 hr2=>
      have hF:P.fieldsOf t=fs:=dH;obtain ⟨g1,g2⟩:=zCl (P:=P) vs us fs.toList 0 ks xs ys r (by simpa using hr) (by simpa using hr2) h af (λ i hi=>by
        grind)
      refine ⟨?_,λ e=> ?_⟩
      · show (Op.equalIn 10000 t _ _).run P w= _;grind [run_equalIn_agg]
      grind [Instr.sameBits,List.getElem_of_mem]
theorem zEd {T:TK} (hd:zLp P t T) (hT:∀ks,T≠ .many ks){a b:AV} (ha:Rel φ w M a u) (hb:Rel φ' w' M' b v) (h:zir T a b=some r):
    ∃d,P.underlying t=some d∧Instr.sameNow d u v=some r∧(r=true->Instr.sameBits 10000 v u=true):=by
  cases hd with
  |many=>grind
  |string hu=>
    refine ⟨_,hu, ?_⟩;unfold zir at h;split at h<;>simp_all;cases ha;cases hb;grind [Instr.sameNow,zvQ,Instr.sameBits]
  |bool hu=>
    refine ⟨_,hu, ?_⟩;unfold zir at h;split at h<;>simp_all;cases ha;cases hb;grind [Instr.sameNow,Instr.sameBits]
  |int hu=>
    refine ⟨_,hu, ?_⟩;unfold zir at h;split at h<;>simp_all;cases ha;cases hb;grind [Instr.sameNow,Instr.sameBits]
structure zFF (P:Program) (w:World) (t:TypeId) (T:TK) (u:Value) (Fd:List MapEntry->Nat->Option (Nat×Value)->Prop):Prop where
  nil:∀i,Fd [] i none
  hit:∀ {e:MapEntry} {es:List MapEntry} {i:Nat},(∃φ' w' M',∃a b:AV,Rel φ' w M' a u∧Rel φ' w' M' b e.key∧zir T a b=some true)->Fd (e::es) i (some (i,e.val))
  miss:∀ {e:MapEntry} {es:List MapEntry} {i:Nat} {r:Option (Nat×Value)},(∃φ' w' M',∃a b:AV,Rel φ' w M' a u∧Rel φ' w' M' b e.key∧zir T a b=some false)->Fd es (i+1) r->Fd (e::es) i r
  run:∀ {es:List MapEntry} {r:Option (Nat×Value)},Fd es 0 r->(Instr.findKey t u es).run P w= .ok r w
  same:∀ {v:Value},(∃φ' w' M',∃a b:AV,Rel φ' w M' a u∧Rel φ' w' M' b v∧zir T a b=some true)->Instr.sameBits 10000 v u=true
theorem zLJ {T:TK} (hd:zLp P t T) (u:Value):∃Fd,zFF P w t T u Fd:=by
  by_cases hT:∃ks,T= .many ks
  · obtain ⟨ks,rfl⟩:=hT;refine ⟨λ es i r=>(Instr.findAsking t u es i).run P w= .ok r w,λ i=>by simp [Instr.findAsking], ?_, ?_,λ {es r} h=> ?_, ?_⟩
    · rintro e es i ⟨φ',w',M',a,b,ha,hb,hq⟩;simp [Instr.findAsking,(znl hd ha hb hq).1]
    · rintro e es i r ⟨φ',w',M',a,b,ha,hb,hq⟩ hr;simp [Instr.findAsking,(znl hd ha hb hq).1,hr]
    · cases hd<;>grind [run_findKey_eq]
    · rintro v ⟨φ',w',M',a,b,ha,hb,hq⟩;exact (znl hd ha hb hq).2 rfl
  · have hT':∀ks,T≠ .many ks:=λ ks e=>hT ⟨ks,e⟩;have hu:∃d,P.underlying t=some d:=by cases hd<;>exact ⟨_,by assumption⟩
    obtain ⟨d,hu⟩:=hu;have one:∀ {φ':zaD} {w':World} {M':Nat->Prop} {a b:AV} {v:Value} {r:Bool},Rel φ' w M' a u->Rel φ' w' M' b v->zir T a b=some r->Instr.sameNow d u v=some r∧(r=true->Instr.sameBits 10000 v u=true):=by
      grind [zEd]
    refine ⟨λ es i r=>Instr.findNow d u es i=some r,λ i=>rfl, ?_, ?_,λ {es r} h=> ?_, ?_⟩
    · grind [Instr.findNow]
    · grind [Instr.findNow]
    · simp [Instr.findKey,zak hu,h]
    grind
theorem zcM.nil_inv  (h:zcM φ w M [] es):es= []:=by
  cases es with
  |nil=>rfl
  |cons e es=>exact absurd h (by unfold zcM;intro h;simp at h;cases h)
theorem zcM.cons_inv {r:List AV} (hr:r.length=2) (h:zcM φ w M (r::rs) es):∃e es' k x,es=e::es'∧r= [k,x]∧Rel φ w M k e.key∧Rel φ w M x e.val∧zcM φ w M rs es':=by
  match r,hr with
  | [k,x], _=>
    cases es with
    |nil=>unfold zcM at h;simp at h;cases h
    |cons e es=>
      unfold zcM at h;simp only [List.flatten_cons,List.flatMap_cons,List.cons_append,List.nil_append] at h;cases h with
      |cons h1 h=>cases h with
        |cons h2 h=>grind [zcM]
theorem zcM.cons {M:Nat->Prop}{k x:AV}{rs:List (List AV)}{e:MapEntry}{es:List MapEntry} (h1:Rel φ w M k e.key) (h2:Rel φ w M x e.val) (h:zcM φ w M rs es):zcM φ w M ([k,x]::rs) (e::es):=by
  unfold zcM;simp only [List.flatten_cons,List.flatMap_cons,List.cons_append,List.nil_append];exact .cons h1 (.cons h2 h)
theorem zsv {t:TypeId}{T:TK}{M:Nat->Prop}{k:AV}{v:Value}{Fd:List MapEntry->Nat->Option (Nat×Value)->Prop} (fd:zFF P w t T v Fd) (hk:Rel φ w M k v):
    ∀ (rs:List (List AV)) (es:List MapEntry) (i:Nat),(∀r ∈ rs,r.length=2)->zcM φ w M rs es->∀o,zct T k rs=some o->
      ∃r,Fd es i r∧((o=none∧r=none)∨∃x j u,o=some x∧r=some (j,u)∧Rel φ w M x u)
  | [],es,i, _,he,o,h=>by
    obtain rfl:=he.nil_inv;simp only [zct,Option.some.injEq] at h;exact ⟨none,fd.nil i, .inl ⟨h.symm,rfl⟩⟩
  |r::rs,es,i,hl,he,o,h=>by
    obtain ⟨e,es',k',x,rfl,rfl,h1,h2,h3⟩:=he.cons_inv (hl _ ac);rw [zct] at h;split at h
    · rename_i hq;simp only [Option.some.injEq] at h;exact ⟨some (i,e.val),fd.hit ⟨_, _, _, _, _,hk,h1,dI⟩, .inr ⟨x,i,e.val,by rw [<- h];rfl,rfl,h2⟩⟩
    · rename_i hq;obtain ⟨r,g1,g2⟩:=zsv fd hk rs es' (i+1) (λ r hr=>hl r cN) h3 o h;exact ⟨r,fd.miss ⟨_, _, _, _, _,hk,h1,dI⟩ g1,g2⟩
    · cases h
theorem zuY {t:TypeId}{T:TK}{M:Nat->Prop}{k x:AV}{v u:Value}{Fd:List MapEntry->Nat->Option (Nat×Value)->Prop} (fd:zFF P w t T v Fd) (hk:Rel φ w M k v) (hx:Rel φ w M x u):
    ∀ (rs:List (List AV)) (es:List MapEntry) (i:Nat),(∀r ∈ rs,r.length=2)->zcM φ w M rs es->∀rs',zdv T k x rs=some rs'->
      (∀r ∈ rs',r.length=2)∧
      ((Fd es i none∧rs'.length=rs.length+1∧∀b,zcM φ w M rs' (es++ [{ key:=v,val:=u,born:=b}]))∨
       ∃j a b e,es=a++e::b∧a.length=j∧Fd es i (some (i+j,e.val))∧Instr.sameBits 10000 e.key v=true∧rs'.length=rs.length∧zcM φ w M rs' (a++{ e with key:=v,val:=u}::b))
  | [],es,i, _,he,rs',h=>by
    obtain rfl:=he.nil_inv;simp only [zdv,Option.some.injEq] at h;subst h;exact ⟨ac, .inl ⟨fd.nil i,rfl,λ b=>zcM.cons hk hx aa⟩⟩
  |r::rs,es,i,hl,he,rs',h=>by
    obtain ⟨e,es',k',x',rfl,rfl,h1,h2,h3⟩:=he.cons_inv (hl _ ac);have hl':∀r ∈ rs,r.length=2:=λ r hr=>hl r cN;rw [zdv] at h;split at h
    · rename_i hq;simp only [Option.some.injEq] at h;subst h;refine ⟨λ r hr=> ?_, .inr ⟨0, [],es',e,rfl,rfl,fd.hit ⟨_, _, _, _, _,hk,h1,dI⟩,fd.same ⟨_, _, _, _, _,hk,h1,dI⟩,rfl,zcM.cons hk hx h3⟩⟩;grind
    · rename_i hq;rw [Option.map_eq_some_iff] at h;obtain ⟨rs1,hr1,rfl⟩:=h;have hq':zir T k k'=some false:=dI;obtain ⟨g0,g⟩:=zuY fd hk hx rs es' (i+1) hl' h3 rs1 hr1;refine ⟨λ r hr=> ?_, ?_⟩
      · grind
      · rcases g with ⟨g1,g2,g3⟩|⟨j,a,b,e2,g1,g2,g3,g4,g5,g6⟩
        · exact .inl ⟨fd.miss ⟨_, _, _, _, _,hk,h1,hq'⟩ g1,by simp [g2],λ b=>zcM.cons h1 h2 (g3 b)⟩
        · refine .inr ⟨j+1,e::a,b,e2,af,by simp [g2], ?_,g4,by simp [g5],zcM.cons h1 h2 g6⟩;rw [show i+(j+1)=i+1+j by omega];exact fd.miss ⟨_, _, _, _, _,hk,h1,hq'⟩ g3
    · cases h
theorem zyE (hH:zaW φ F w M0 h) (hn:F n){r:Option Operand}{vr:Option Value} (hr:r=none->vr=none) (hc:(zlF P n t r).cond):zBD P φ F n w M0 h (zlF P n t r) (Instr.makeMap t vr):=by
  unfold zlF at hc ⊢;split at hc
  · obtain rfl:=hr rfl;obtain ⟨a,b⟩:=hH.newMap hn;exact ⟨.map (some w.heap.size), _, _,by simp [Instr.makeMap], .mp (zbk _ _ _) (λ _=>⟨_, _,rfl,ac,rfl⟩),a,b⟩
  grind
theorem zIy  (h:tz1 P t=some z):(zeroValue t).run P w= .ok z w:=by
  unfold tz1 at h;cases hu:P.info? t with
  |none=>grind
  |some d=>
    simp only [hu,Option.bind_some] at h;cases hz:d.zero<;>simp_all [zeroValue,typeInfo]
theorem zyB (hH:zaW φ F w M0 h){k:AV}{ok:Bool} (hm:Rel φ w (Or M0 (Mut φ h)) m v) (hk:Rel φ w (Or M0 (Mut φ h)) k u) (hc:(ziZ P t m k ok h).cond):
    zdq P φ w (Or M0 (Mut φ h)) (ziZ P t m k ok h) (Instr.lookup t v u ok):=by
  unfold ziZ at hc ⊢;split at hc
  · rename_i kt et o ht;split at hc
    · rename_i mt rs ho;obtain ⟨a,bs,es,clk,hp,hs,h0,rfl,hb,hl,⟨_,h2⟩,he⟩:=hH.mp_at ho hm;have key:∀r,zct (zon P kt) k rs=some r->zJg (zon P kt) k=true->∃rr,(Instr.findKey kt u es.toList).run P w= .ok rr w∧((r=none∧rr=none)∨∃x j z,r=some x∧rr=some (j,z)∧Rel φ w (Or M0 (Mut φ h)) x z):=by
        intro r hr hkk;obtain ⟨Fd,fd⟩:=zLJ (w:=w) (keyD hkk) u;obtain ⟨rr,g1,g2⟩:=zsv fd hk rs es.toList 0 h2 he r hr;exact ⟨rr,fd.run g1,g2⟩
      split at hc
      · rename_i _ _ x hx;obtain ⟨rr,g1,g2⟩:=key _ hx hc;rcases g2 with ⟨h, _⟩|⟨x',j,z,e1,rfl,g2⟩
        · cases h
        cases e1;cases ok with
        |true=>exact ⟨.tuple ⟨[z, .bool true]⟩,cg, .tup (.cons g2 (.cons (.v _) .nil)),rfl,rfl⟩
        |false=>exact ⟨z,cg,g2,rfl,rfl⟩
      · rename_i _ _ z hx hz;obtain ⟨rr,g1,g2⟩:=key _ hx hc;rcases g2 with ⟨_,rfl⟩|⟨x',j,z,e1,rfl,g2⟩
        · cases ok with
          |true=>exact ⟨.tuple ⟨[z, .bool false]⟩,bX, .tup (.cons (.v _) (.cons (.v _) .nil)),rfl,rfl⟩
          |false=>exact ⟨z,bX, .v _,rfl,rfl⟩
        grind
      grind
    grind
  grind
theorem zsw (hH:zaW φ F w M0 h){o:Nat}{rs':List (List AV)} (ho:h o=some (.rows true 0 2 rs)){a:Addr}{bs:Nat} (hp:φ o=some (0,some (a,bs))) (hs:a.spot≠none) (h0:¬M0 a.block)
    {es:Array MapEntry} {clk:Nat} (hb:w.heap[a.block]? =some (.map es clk)) {es':Array MapEntry} {clk':Nat} (hl:es'.size=rs'.length) (h2:∀r ∈ rs',r.length=2) (he:zcM φ w (Or M0 (Mut φ h)) rs' es'.toList):
    ∃φ',zaW φ' F { w with heap:=w.heap.setIfInBounds a.block (.map es' clk')} M0 (upd h o (some (.rows true 0 2 rs')))∧
      ze3 φ w M0 h φ' { w with heap:=w.heap.setIfInBounds a.block (.map es' clk')} (upd h o (some (.rows true 0 2 rs'))):=by
  obtain ⟨q1,q2⟩:=MapKept.heap_set (o':= .map es' clk') hb;have hM:∀k,¬Or M0 (Mut φ h) k->k≠a.block:=λ k hk e=>hk (.inr ⟨o,0,2,rs,0,a,bs,ho,hp,e.symm⟩);have hle0:φ.le (upd φ o (some (0,some (a,bs)))):=bN;have hsz:(w.heap.setIfInBounds a.block (.map es' clk')).size=w.heap.size:=ac;obtain ⟨g1,g2,g3⟩:=hH.set (w':={ w with heap:=w.heap.setIfInBounds a.block (.map es' clk')}) (F':=F) (o:=o) (mt:=true) (g:=0) (sz:=2) (rs:=rs') (A:=some (a,bs))
    (λ _ h=>h) (hH.place_old ho hp).2 ac hle0 (λ k hk _=>q2 k (hM k hk))
    (λ o' mt' g' sz' rs1 a₁ b₁ hne ho' hp'=>by
      have:=hH.inj _ _ _ _ _ _ _ _ _ _ _ _ _ _ ho ho' (Ne.symm hne) (.inl rfl) hp hp';grind)
    (λ a₁ b₁ e=>by
      grind)
    (.inl (.inr ⟨a,bs,es',clk',rfl,hs,h0,q1,hl,⟨rfl,h2⟩,he⟩))
  refine ⟨_,g1,hle0,g2,⟨rfl,rfl,rfl,Nat.le_refl _,ac,λ k _ hu=>q2 k (λ e=>hu ⟨o,0,2,rs,0,a,bs,ho,hp,e.symm⟩)⟩,λ k hk=> ?_⟩;grind [Or]
theorem zuZ {α:Type} (f:α->α) (e:α) (l2:List α):∀l1:List α,(l1++e::l2).modify l1.length f=l1++f e::l2
  | []=>rfl
  |a::l1=>by simp [zuZ f e l2 l1]
theorem zsx (hH:zaW φ F w M0 h){k:AV} (hm:Rel φ w (Or M0 (Mut φ h)) m v) (hk:Rel φ w (Or M0 (Mut φ h)) k u) (hx:Rel φ w (Or M0 (Mut φ h)) x z)
    (hc:(ze5 P t m k x h).cond):∃w' φ',(Instr.mapUpdate t v u z).run P w= .ok () w'∧zaW φ' F w' M0 (zap (ze5 P t m k x h).wr h)∧
      ze3 φ w M0 h φ' w' (zap (ze5 P t m k x h).wr h)∧(ze5 P t m k x h).val= .top:=by
  unfold ze5 at hc ⊢;split at hc
  · rename_i kt et o ht;split at hc
    · rename_i rs ho;obtain ⟨a,bs,es,clk,hp,hs,h0,rfl,hb,hl,⟨_,h2⟩,he⟩:=hH.mp_at ho hm;split at hc
      · rename_i rs' hput;obtain ⟨Fd,fd⟩:=zLJ (w:=w) (keyD hc) u;simp only [ho,hput];obtain ⟨i1,i2⟩:=zuY fd hk hx rs es.toList 0 h2 he rs' hput;rcases i2 with ⟨j1,j2,j3⟩|⟨j,l1,l2,e,j1,j2,j3,j4,j5,j6⟩
        · obtain ⟨φ',g1,g2⟩:=zsw (clk':=clk+1) hH ho hp hs h0 hb (es':=es.push { key:=u,val:=z,born:=clk}) af i1 af;exact ⟨_,φ',by simp [Instr.mapUpdate,zak (ztf ht),MapKept.run_getObj_map hb,zfB hc hk,fd.run j1,MapKept.run_setObj_map _ hb,Result.andThen],g1,g2,trivial⟩
        · have hj:es[j]? =some e:=by rw [<- Array.getElem?_toList,j1,<- j2];simp
          have hmod:(es.modify j λ e=>{ e with key:=u,val:=z}).toList=l1++{ e with key:=u,val:=z}::l2:=by
            grind [zuZ]
          obtain ⟨φ',g1,g2⟩:=zsw (clk':=clk) hH ho hp hs h0 hb (es':=es.modify j λ e=>{ e with key:=u,val:=z}) af i1 af;refine ⟨_,φ', ?_,g1,g2,trivial⟩;rw [Nat.zero_add] at j3;simp [Instr.mapUpdate,zak (ztf ht),MapKept.run_getObj_map hb,zfB hc hk,fd.run j3,hj,Instr.keyThatStays,j4,MapKept.run_setObj_map _ hb,Result.andThen]
      grind
    grind
  grind
theorem zrY {k:AV}:(ze5 P t m k x h).al=0:=by
  unfold ze5;grind
end maps
end Go.Av
end
section
/- Our library, part 9: one operation, and a region in the text's order. -/
namespace Go.Av
open Go

variable {a:Act} {e:Env} {M:Nat->Prop} {v:Value}
section
variable {P:Program} {φ:zaD} {F:Nat->Prop} {n:Nat} {w:World} {M0:Nat->Prop} {h:zay}

theorem zpT {φ:zaD}{w:World}{M:Nat->Prop}:∀ {rs:List (List AV)}{ns:List Int}{vs:List Value},zjn rs=some ns->za2 φ w M rs.flatten vs->vs=ns.map (Value.int .u8)
 | [],ns,vs,h,hr=>by simp [zjn] at h;subst h;cases hr;rfl
 |r::rs,ns,vs,h,hr=>by
  unfold zjn at h;split at h
  ·rename_i heq;cases heq
  ·rename_i n rs' heq;cases heq;simp only [Option.map_eq_some_iff] at h;obtain ⟨ns',h1,rfl⟩:=h;simp only [List.flatten_cons,List.cons_append,List.nil_append] at hr;cases hr with
   |cons a b=>
    cases a;rw [zpT h1 b];rfl
  ·cases h
theorem zy5 (hH:zaW φ F w M0 h){x:AV}{sz:Nat} (hx:Rel φ w (Or M0 (Mut φ h)) x v) (hc:(zaN x sz h).1):∃a l c,v= .slice a l c:=by
 unfold zaN at hc;split at hc
 ·split at hc
  ·rename_i o g sz' i len mt g' sz'' rs ho;obtain ⟨rfl,rfl,rfl, _⟩:=hc;obtain ⟨A,cap,rfl, _⟩:=hH.sl_alive bp hx;grind
  grind
 ·cases hx<;>exact ⟨_, _, _,rfl⟩
 ·cases hx;grind
 grind
theorem zDG (hH:zaW φ F w M0 h){s d:TypeId}{x:AV} (hx:Rel φ w (Or M0 (Mut φ h)) x v) (hc:(zpX P s d x h).cond):zdq P φ w (Or M0 (Mut φ h)) (zpX P s d x h) (convert s d v):=by
 unfold zpX at hc ⊢;split at hc
 ·rename_i k'' m h1 h2;cases hx;exact ⟨.int .u8 (m.emod 256),by simp [convert,zak (zCR h1),zak (zCR h2),Conv.intToInt,IntKind.wrap,IntKind.signed,IntKind.bits];rfl, .v _,rfl,rfl⟩
 ·rename_i k k' k'' m h1 h2;cases hx;exact ⟨_,by simp_all [convert,zak,zCR,Conv.intToInt,zji], .v _,rfl,rfl⟩
 ·rename_i x2 t1 t2 x3 e h1 h2;unfold zDO at hc ⊢;split at hc
  ·rename_i ns he hb;obtain ⟨r1,r2,X,r3,r4,r5,r6⟩:=zhR (P:=P) hH Nat.one_pos hx hc;have hX:=zpT hb r4;have h6:=r6 w rfl;obtain ⟨a,l,c,rfl⟩:=zy5 hH hx hc;refine ⟨_, ?_, .v _,rfl,rfl⟩;rw [run_convert_bytes_string w s d e a l c (zfj h1) (zCR he) (zoP h2)];have hX2:X=(ns.map (Value.int .u8)).toArray:=af;have hl:l=(zaN x2 1 h).2.length:=by
    grind [Builtin.lenOf,Sem.run_pure]
   cases a with
   |none=>
    have h0:X= #[]:=by
     grind [Builtin.firstCells,Sem.run_pure]
    have:ns= []:=by
     grind
    subst this;rfl
   |some a=>
    grind [run_bytesToString,Builtin.firstCells,zjz]
  grind
 grind
theorem Rel.ofV {M:Nat->Prop} (x:Value):Rel φ w M (ofV x) x:=by
 cases x with
 |agg cs=>
  simp only [Av.ofV];split
  ·rename_i hall;exact .agg (vs:=cs.toList) (λ u hu=>List.all_eq_true.1 hall u hu) (zfG _)
  ·exact .v _
 | _=>exact .v _
theorem zuT {α:Type}{k:Nat}{x:α}:∀ {l:List (Nat×α)},l.lookup k=some x->(k,x) ∈ l
 |(k',y)::l,h=>by
  rw [List.lookup_cons] at h;cases e:k==k' with
  |true=>
   rw [e] at h;simp only [Option.some.injEq] at h;have:k=k':=by simpa using e
   subst this h;simp
  |false=>
   rw [e] at h;exact List.mem_cons_of_mem _ (zuT h)
theorem zoY.ev {M:Nat->Prop} (hg:zoY w M){e:Env} (g:Nat):Rel φ w M (ev e (.global g)) (.pointer (some ⟨g,0,none⟩)):=by
 simp only [Go.Av.ev];split
 ·rename_i cs h;exact (hg _ (zuT h)).keep (λ o x h=>by cases h) (λ _ _ _=>rfl) (λ k hk=> .inl hk)
 ·exact .v _
theorem zCF  (hg:zoY w M) (he:∀t,Rel φ w M (e t) (a.tmps.getD t undef)) (x:Operand):Rel φ w M (ev e x) (a.eval x):=by
 cases x with
 |tmp t=>exact he t
 |const v=>exact Rel.ofV v
 |global g=>exact hg.ev g
 |func f=>exact .fn (fs:= []) (cs:= []) .nil .nil
theorem zmG {M:Nat->Prop}{e:Env}{a:Act}:∀ {xs:List Operand},(∀x ∈ xs,Rel φ w M (ev e x) (a.eval x))->za2 φ w M (xs.map (ev e)) (xs.map a.eval)
 | [], _=> .nil
 |x::xs,h=> .cons (h x ac) (zmG λ y hy=>h y aS)
theorem zyW {ps:Array (Nat×Operand)} (h:∀x ∈ (ps.toList.map (·.2)),Rel φ w M (ev e x) (a.eval x)):
  (ps.toList.map λ p=>(p.1,ev e p.2)).length=(ps.map λ (p:Nat×Operand)=>(p.1,a.eval p.2)).toList.length∧
  ∀ (k:Nat) (hk:k<(ps.toList.map λ p=>(p.1,ev e p.2)).length) (hk':k<(ps.map λ (p:Nat×Operand)=>(p.1,a.eval p.2)).toList.length),
   (ps.toList.map λ p=>(p.1,ev e p.2))[k].1=(ps.map λ (p:Nat×Operand)=>(p.1,a.eval p.2)).toList[k].1∧
   Rel φ w M (ps.toList.map λ p=>(p.1,ev e p.2))[k].2 (ps.map λ (p:Nat×Operand)=>(p.1,a.eval p.2)).toList[k].2:=by
 grind

theorem zH3  (x:Option Operand) (h:∀y ∈ x.toArray,Rel φ w M (ev e y) (a.eval y)):
  (match x.map (ev e),x.map a.eval with|none,none=>True|some x,some v=>Rel φ w M x v| _, _=>False):=by
 cases x<;>grind

theorem zBL (hH:zaW φ F w M0 h) (hn:F n){o:Oper} (he:∀x ∈ o.op.operands,Rel φ w (Or M0 (Mut φ h)) (ev e x) (a.eval x)) (hc:(aev P n o.op e h).cond):
  ∃nx v w' φ',(execOp a.eval o).run P w= .ok nx w'∧(nx= .value v∨(nx= .skip∧v=undef))∧Rel φ' w' (Or M0 (Mut φ' (zap (aev P n o.op e h).wr h))) (aev P n o.op e h).val v∧
   zaW φ' (Fal F n (aev P n o.op e h).al) w' M0 (zap (aev P n o.op e h).wr h)∧ze3 φ w M0 h φ' w' (zap (aev P n o.op e h).wr h):=by
 have fin:∀ {r:Res} {s:Sem Value},zBD P φ F n w M0 h r s->(execOp a.eval o).run P w=((do pure (.value (<- s)):Sem Next)).run P w->
   ∃nx v w' φ',(execOp a.eval o).run P w= .ok nx w'∧(nx= .value v∨(nx= .skip∧v=undef))∧Rel φ' w' (Or M0 (Mut φ' (zap r.wr h))) r.val v∧
   zaW φ' (Fal F n r.al) w' M0 (zap r.wr h)∧ze3 φ w M0 h φ' w' (zap r.wr h):=by
  intro r s hg heq;obtain ⟨u,w',φ',h1,h2,h3,h4⟩:=hg;refine ⟨.value u,u,w',φ', ?_, .inl rfl,h2,h3,h4⟩;simp_all
 have hmove:∀x:Operand,o.op.operands= #[x]->zdq P φ w (Or M0 (Mut φ h)) (.ok (ev e x)) (pure (a.eval x)):=
  λ x hx=>⟨_,rfl,he x aZ,rfl,rfl⟩
 unfold aev at hc ⊢;cases hop:o.op with
 |move x=>exact fin (zN7 hH (hmove x an)) aw
 |assign x=>exact fin (zN7 hH (hmove x an)) aw
 |pick c x y=>
  simp only [hop] at hc ⊢;exact fin (zN7 hH (zEQ (he c an) (he x an) (he y an) hc)) aw
 |alloc t=>
  simp only [hop] at hc ⊢;split at hc
  ·rename_i z hz;try simp only [hz]
   exact fin (zDk (P:=P) hH hn hz) aw
  grind
 |box t x=>
  simp only [hop] at hc ⊢;exact fin (zJ2 (P:=P) (t:=t) hH hn (he x an) hc) aw
 |build t ps=>
  simp only [hop] at hc ⊢;obtain ⟨h1,h2⟩:=zyW (φ:=φ) (w:=w) (M:=Or M0 (Mut φ h)) (e:=e) (a:=a) (ps:=ps) (λ x hx=>he x bI);exact fin (zN7 hH (zDw hH h1 h2 hc)) aw
 |buildSlice t len ps=>
  simp only [hop] at hc ⊢;obtain ⟨h1,h2⟩:=zyW (φ:=φ) (w:=w) (M:=Or M0 (Mut φ h)) (e:=e) (a:=a) (ps:=ps) (λ x hx=>he x bI);exact fin (zrE hH hn h1 h2 hc) aw
 |load t x=>
  simp only [hop] at hc ⊢;exact fin (zN7 hH (zuS hH (he x an) hc)) aw
 |store t x y=>
  simp only [hop] at hc ⊢;obtain ⟨w',φ',h1,h2,h3,h4⟩:=zFj (P:=P) hH (he x an) (he y an) hc;refine ⟨.skip,undef,w',φ',by simp [execOp,hop,h1], .inr ⟨rfl,rfl⟩,by rw [h4];exact .top _,by rw [zDN];exact h2,h3⟩
 |binOp op t x y t'=>
  simp only [hop] at hc ⊢;exact fin (zN7 hH (zDv (t:=t) (xo:=x) (yo:=y) (he x an) (he y an) hc)) aw
 |unOp op t x=>
  simp only [hop] at hc ⊢;exact fin (zN7 hH (zLh (he x an) hc)) aw
 |nilCheck x=>
  simp only [hop] at hc ⊢;obtain ⟨⟨a0,hv⟩,e1,e2,e3⟩:=zHV hH (he x an) hc;refine fin (zN7 hH (s:=pure (a.eval x)) ⟨a.eval x,rfl, ?_,e2,e3⟩) (by grind [execOp]);grind [Op.operands]
 |convert s d x=>
  simp only [hop] at hc ⊢;exact fin (zN7 hH (zDG hH (he x an) hc)) aw
 |makeFunc f xs ys=>
  have h1:=zmG (xs:=xs.toList) (λ x hx=>he x bI);have h2:=zmG (xs:=ys.toList) (λ x hx=>he x bI);refine fin (zN7 hH (s:=Instr.makeFunc f (xs.map a.eval) (ys.map a.eval)) ⟨_,rfl, ?_,rfl,rfl⟩) aw;have e1:xs.map a.eval=⟨xs.toList.map a.eval⟩:=af;have e2:ys.map a.eval=⟨ys.toList.map a.eval⟩:=af;rw [e1,e2];exact .fn h1 h2
 |makeSlice t l c=>
  simp_all [ztR,Op.operands,execOp]
 |slice t x lo hi mx=>
  simp only [hop] at hc ⊢;refine fin (zN7 hH (zBp (vlo:=lo.map a.eval) (vhi:=hi.map a.eval) (vmx:=mx.map a.eval) hH (he x an)
   (zH3 lo λ y hy=>he y ?_) (zH3 hi λ y hy=>he y ?_) (λ hm=>by simp_all) hc)) aw
  all_goals grind [Op.operands]
 |fieldAddr t x f=>
  simp only [hop] at hc ⊢;exact fin (zN7 hH (zr2 hH (he x an) hc)) aw
 |field t x f=>
  simp only [hop] at hc ⊢;exact fin (zN7 hH (zAt (he x an) hc)) aw
 |indexAddr t x i=>
  simp only [hop] at hc ⊢;exact fin (zN7 hH (zsf hH (he x an) (he i an) hc)) aw
 |index t x i=>
  simp only [hop] at hc ⊢;exact fin (zN7 hH (zAD (he x an) (he i an) hc)) aw
 |extract x i=>
  simp only [hop] at hc ⊢;exact fin (zN7 hH (zv7 (he x an) hc)) aw
 |makeMap t r=>
  simp_all [zyE,execOp]
 |mapUpdate t m k x=>
  simp only [hop] at hc ⊢;obtain ⟨w',φ',h1,h2,h3,h4⟩:=zsx (P:=P) hH (he m an) (he k an) (he x an) hc;refine ⟨.skip,undef,w',φ',by simp [execOp,hop,h1], .inr ⟨rfl,rfl⟩,by rw [h4];exact .top _,by rw [zrY];exact h2,h3⟩
 |insert t m k x=>
  simp only [hop] at hc ⊢;obtain ⟨w',φ',h1,h2,h3,h4⟩:=zsx (P:=P) hH (he m an) (he k an) (he x an) hc;refine ⟨.skip,undef,w',φ',by simp [execOp,hop,h1], .inr ⟨rfl,rfl⟩,by rw [h4];exact .top _,by rw [zrY];exact h2,h3⟩
 |lookup t m k ok=>
  simp only [hop] at hc ⊢;exact fin (zN7 hH (zyB hH (he m an) (he k an) hc)) aw
 |call c=>
  obtain ⟨callee,args,ats⟩:=c;cases callee with
  |builtin b=>
   cases b with
   |len=>
    simp only [hop] at hc ⊢;split at hc
    ·rename_i x t hx ht;have e1:args= #[x]:=af;have e2:ats= #[t]:=af;subst e1 e2;exact fin (zN7 hH (zHH (ats:= #[t]) (ty:=o.type) hH rfl (he x ar) hc)) aW
    grind
   |cap=>
    simp only [hop] at hc ⊢;split at hc
    ·rename_i x t hx ht;have e1:args= #[x]:=af;have e2:ats= #[t]:=af;subst e1 e2;exact fin (zN7 hH (zGK (ats:= #[t]) (ty:=o.type) hH rfl (he x ar) hc)) aW
    grind
   |append=>
    simp only [hop] at hc ⊢;split at hc
    ·rename_i s x hx;have e1:args= #[s,x]:=af;subst e1;exact fin (zJM (tys:=ats) (ty:=o.type) hH hn (he s ar) (he x ar) hc) aW
    grind
   |copy=>
    simp only [hop] at hc ⊢;split at hc
    ·rename_i s x hx;have e1:args= #[s,x]:=af;subst e1;have hg:=zGR (tys:=ats) (ty:=o.type) (n:=n) hH (he s ar) (he x ar) hc;grind [execOp,resolve,invoke,builtin]
    grind
   |clear=>
    simp only [hop] at hc ⊢;split at hc
    ·rename_i s hx;have e1:args= #[s]:=af;subst e1;have hg:=zDB (tys:=ats) (ty:=o.type) (n:=n) hH (he s ar) hc;grind [execOp,resolve,invoke,builtin]
    grind
   |min=>
    simp only [hop] at hc ⊢;split at hc
    ·rename_i x y hx;have e1:args= #[x,y]:=af;subst e1;exact fin (zN7 hH (zHS (ats:=ats) (ty:=o.type) (he x ar) (he y ar) hc)) aW
    grind
   |max=>
    simp only [hop] at hc ⊢;split at hc
    ·rename_i x y hx;have e1:args= #[x,y]:=af;subst e1;exact fin (zN7 hH (zHQ (ats:=ats) (ty:=o.type) (he x ar) (he y ar) hc)) aW
    grind
   | _=>rw [hop] at hc;exact hc.elim
  | _=>grind
 | _=>rw [hop] at hc;exact hc.elim
end
end Go.Av
end
section
namespace Go.Av
open Go

variable {E:List (Nat×AV)} {HH:List (Nat×zcr)} {M':Nat->Prop} {h':zay} {n':Nat}
section weaken
variable {φ:zaD} {n:Nat} {w:World} {M0:Nat->Prop} {h:zay}
def ztm (φ:zaD) (n n':Nat) (h':zay):zaD:=λ o=>if o<n' then (if o<n then φ o else match h' o with|some (.rows _ g _ _)=>some (g,none)|none=>none) else none
theorem zn6 {φ:zaD}{n o:Nat} (h1:o<n') (h2:o<n):ztm φ n n' h' o=φ o:=by grind [ztm]

theorem Rel.cut {M:Nat->Prop} (hf:∀o,n<=o->φ o=none) (hM:∀k,M' k->M k){x:AV}{v:Value} (hx:Rel φ w M x v) (hb:Bel n' x):
    Rel (ztm φ n n' h') w M' x v:=by
  refine Rel.rec (φ:=φ) (w:=w) (M:=M) (motive_1:=λ x v _=>Bel n' x->Rel (ztm φ n n' h') w M' x v) (motive_2:=λ xs vs _=>(∀c ∈ xs,Bel n' c)->za2 (ztm φ n n' h') w M' xs vs)
    ?_ ?_ ?_ ?_ ?_ ?_ ?_ ?_ ?_ ?_ ?_ ?_ ?_ ?_ hx hb
  · exact λ v _=> .top v
  · exact λ v _=> .v v
  · exact λ hv _ ih hb=>cd
  · exact λ _ ih hb=>ct
  · exact λ sz A cap _=> .nil sz A cap
  · intro sz rows a len cap C T fz hs hm hb hr hl hc hcap hv _ ih hbel;cases hbel with
    |lst hbel=>
      refine .lst hs (λ hk=>hm (hM _ hk)) hb hr hl hc hcap hv (ih λ c hc=> ?_);grind [List.mem_flatten]
  · intro cells a C T fz hs hm hb hc hv _ ih hbel;cases hbel with|fp hbel=>exact .fp hs (λ hk=>hm (hM _ hk)) hb hc hv (ih hbel)
  · intro o g sz i off g' A v ho hg h hbel;cases hbel with
    |ref hbel=>
      have:o<n:=Nat.lt_of_not_le λ hle=>af;exact .ref (by grind [zn6]) hg h
  · intro o g sz i len g' A v ho hg h hbel;cases hbel with
    |sl hbel=>
      have:o<n:=Nat.lt_of_not_le λ hle=>af;exact .sl (by grind [zn6]) hg h
  · intro o g' A v ho h hbel;cases hbel with
    |mp hbel=>
      have:o<n:=Nat.lt_of_not_le λ hle=>af;exact .mp (by grind [zn6]) h
  · exact λ _ _ ih1 ih2 hb=>bD
  · exact λ _ h' ih hb=>bE
  · exact λ _=> .nil
  · exact λ _ _ ih1 ih2 hb=> .cons (ih1 (hb _ ac)) (ih2 λ c hc=>hb c ay)

theorem zlZ {o:Nat}{x:zcr} (ho:mkH HH o=some x):(o,x) ∈ HH:=by
  induction HH with
  |nil=>cases ho
  |cons p l ih=>
    obtain ⟨o',y⟩:=p;simp only [mkH,upd] at ho;grind
theorem zAP  (t:Nat):mkE E t= .top∨(t,mkE E t) ∈ E:=by
  induction E with
  |nil=>exact .inl rfl
  |cons p l ih=>
    obtain ⟨t',x⟩:=p;simp only [mkE,upd];grind

theorem zaL.length {h h':zay}{n:Nat}:∀ {xs ys:List AV},zaL h h' n xs ys->xs.length=ys.length
  | [], _, .nil=>rfl
  | _:: _, _, .cons _ t=>by simp [t.length]
theorem zaL.append {h h':zay}{n:Nat}:∀ {xs ys xs' ys':List AV},zaL h h' n xs ys->zaL h h' n xs' ys'->zaL h h' n (xs++xs') (ys++ys')
  | [], _, _, _, .nil,h2=>h2
  | _:: _, _, _, _, .cons hx t,h2=> .cons hx (t.append h2)
theorem zaM.spec {h h':zay}{n:Nat}:∀ {rs rs':List (List AV)},zaM h h' n rs rs'->zaL h h' n rs.flatten rs'.flatten∧rs.length=rs'.length∧∀sz,(∀r ∈ rs,r.length=sz)->∀r ∈ rs',r.length=sz
  | [], _, .refl _=>⟨.nil,rfl,λ _ h=>h⟩
  | [], _, .nil=>⟨.nil,rfl,λ _ h=>h⟩
  | _:: _, _, .refl _=>⟨.refl _ _ _ _,rfl,λ _ h=>h⟩
  | _:: _, _, .cons hx t=>by
    obtain ⟨i1,i2,i3⟩:=t.spec;refine ⟨hx.append i1,by simp [i2],λ sz hs r hr=> ?_⟩;rcases List.mem_cons.1 hr with rfl|hr
    · rw [<- hx.length];grind
    simp_all
theorem za2.split {φ:zaD}{w:World}{M:Nat->Prop}:∀ {xs ys:List AV}{vs:List Value},za2 φ w M (xs++ys) vs->∃us ts,vs=us++ts∧za2 φ w M xs us∧za2 φ w M ys ts
  | [], _,vs,h=>⟨[],vs,rfl, .nil,h⟩
  | _:: _, _, _, .cons h t=>by
    obtain ⟨us,ts,rfl,h1,h2⟩:=t.split;exact ⟨_::us,ts,rfl, .cons h h1,h2⟩
theorem LeV.rel {F:Nat->Prop} (hH:zaW φ F w M0 h){φ':zaD} (hcut:∀ {x:AV}{v:Value},Bel n' x->Rel φ w (Or M0 (Mut φ h)) x v->Rel φ' w M' x v)
    (hblk:∀o mt g sz rs a bs,h o=some (.rows mt g sz rs)->φ o=some (g,some (a,bs))->(∀g sz rs,h' o≠some (.rows true g sz rs))->¬M0 a.block->¬M' a.block)
    (hown:∀o g sz,n<=o->h' o=some (.rows true g sz [])->o<n'->φ' o=some (g,none)):
    ∀ {x y:AV},LeV h h' n x y->∀ {v:Value},Bel n' y->Rel φ w (Or M0 (Mut φ h)) x v->Rel φ' w M' y v:=by
  have hfrz:∀ {o g sz i len:Nat} {mt:Bool} {rs rows:List (List AV)} {v:Value},h o=some (.rows mt g sz rs)->i+len<=rs.length->(∀g sz rs,h' o≠some (.rows true g sz rs))->
      zaM h h' n ((rs.drop i).take len) rows->(∀ {vs:List Value},za2 φ w (Or M0 (Mut φ h)) ((rs.drop i).take len).flatten vs->za2 φ' w M' rows.flatten vs)->
      Rel φ w (Or M0 (Mut φ h)) (.sl o g sz i len) v->Rel φ' w M' (.lst sz rows) v:=by
    intro o g sz i len mt rs rows v ho hl ho' hr hb hx;obtain ⟨A,cap,rfl,hcap,hA⟩:=hH.sl_alive bp hx;obtain ⟨_,q2,q3⟩:=hr.spec;have hrl:rows.length=len:=af;rcases hA with ⟨rfl,rfl,rfl, _⟩|⟨rfl, _, _⟩|⟨a,bs,hp,hsp,rfl,hcb⟩
    · have:rows= []:=List.eq_nil_of_length_eq_zero hrl;subst this;exact .nil _ _ _
    · have:rows= []:=List.eq_nil_of_length_eq_zero hrl;subst this;exact .nil _ _ _
    · obtain ⟨A',hA',hobj⟩:=hH.obj _ _ _ _ _ ho;rw [hp] at hA';simp only [Option.some.injEq,Prod.mk.injEq,true_and] at hA';subst hA';rcases hobj with ⟨hobj, _⟩|⟨a₁,bs₁,e1,h0,hd⟩
      · cases hobj
      simp only [Option.some.injEq,Prod.mk.injEq] at e1;obtain ⟨rfl,rfl⟩:=e1;obtain ⟨C,T,hcell,hC,hrr,hl',hv,hrel⟩:=hd.cells hsp;have hm:=Nat.mul_le_mul_right sz hl;rw [Nat.add_mul] at hm;have e1:(C.toList.drop (a.off+i * sz)).take (len * sz)=(((C.toList.drop a.off).take (rs.length * sz)).drop (i * sz)).take (len * sz):=by
        grind [List.drop_take,List.drop_drop]
      refine .lst (a:=⟨a.block,a.off+i * sz,none⟩) (C:=C) (T:=T) (fz:=(0,0)) rfl (hblk o mt g sz rs a bs ho hp ho' h0) hcell ?_ hrl.symm af hcap ?_ ?_
      · exact q3 sz λ r hr0=>hrr r (List.mem_of_mem_drop (List.mem_of_mem_take hr0))
      · grind
      · rw [hrl];simp only [e1];refine hb ?_;rw [zgW (λ r hr0=>hrr r (List.mem_of_mem_drop hr0)),zgV hrr];exact (hrel.drop _).take _
  have hfrzP:∀ {o g sz i off:Nat} {mt:Bool} {rs:List (List AV)} {cells:List AV} {v:Value},h o=some (.rows mt g sz rs)->i<rs.length->off<sz->(∀g sz rs,h' o≠some (.rows true g sz rs))->
      zaL h h' n ((nth rs i).drop off) cells->(∀ {vs:List Value},za2 φ w (Or M0 (Mut φ h)) ((nth rs i).drop off) vs->za2 φ' w M' cells vs)->
      Rel φ w (Or M0 (Mut φ h)) (.ref o g sz i off) v->Rel φ' w M' (.fp cells) v:=by
    intro o g sz i off mt rs cells v ho hi hoff ho' hr hb hx;obtain ⟨A',hA',hobj⟩:=hH.obj _ _ _ _ _ ho;cases hx with
    |ref hp hg hh=>
      rw [hA'] at hp;simp only [Option.some.injEq,Prod.mk.injEq] at hp;obtain ⟨rfl,rfl⟩:=hp;obtain ⟨a,bs,rfl,hsp,rfl⟩:=hh rfl;rcases hobj with ⟨hobj, _⟩|⟨a₁,bs₁,e1,h0,hd⟩
      · cases hobj
      simp only [Option.some.injEq,Prod.mk.injEq] at e1;obtain ⟨rfl,rfl⟩:=e1;obtain ⟨C,T,hcell,hC,hrr,hl',hv,hrel⟩:=hd.cells hsp;have hlen:((nth rs i).drop off).length=sz - off:=by
        grind [nth]
      have hcl:cells.length=sz - off:=by rw [<- hr.length];exact hlen
      have hm:=Nat.mul_le_mul_right sz (show i+1<=rs.length from hi);rw [Nat.add_mul] at hm;have e1:(C.toList.drop (a.off+i * sz+off)).take (sz - off)=(((C.toList.drop a.off).take (rs.length * sz)).drop (i * sz+off)).take (sz - off):=by
        grind [List.drop_take,List.drop_drop]
      refine .fp (a:=⟨a.block,a.off+i * sz+off,none⟩) (C:=C) (T:=T) (fz:=(0,0)) rfl (hblk o mt g sz rs a bs ho hA' ho' h0) hcell af ?_ ?_
      · grind
      · rw [hcl];simp only [e1];refine hb ?_;have e2:(nth rs i).drop off=(rs.flatten.drop (i * sz+off)).take (sz - off):=by
          have e3:nth rs i=rs[i]:=by simp [nth,hi]
          have e4:=zgV hrr i;rw [<- List.drop_drop,<- e4,List.drop_eq_getElem_cons hi,List.flatten_cons,e3];grind
        rw [e2];exact (hrel.drop _).take _
  intro x y hle;refine LeV.rec (h:=h) (h':=h') (n:=n)
    (motive_1:=λ x y _=>∀ {v:Value},Bel n' y->Rel φ w (Or M0 (Mut φ h)) x v->Rel φ' w M' y v)
    (motive_2:=λ xs ys _=>∀ {vs:List Value},(∀c ∈ ys,Bel n' c)->za2 φ w (Or M0 (Mut φ h)) xs vs->za2 φ' w M' ys vs)
    (motive_3:=λ xs ys _=>∀ {vs:List Value},(∀r ∈ ys,∀c ∈ r,Bel n' c)->za2 φ w (Or M0 (Mut φ h)) xs.flatten vs->za2 φ' w M' ys.flatten vs)
    ?_ ?_ ?_ ?_ ?_ ?_ ?_ ?_ ?_ ?_ ?_ ?_ ?_ ?_ ?_ hle
  · omega
  · intro x v hb hx;exact .top _
  · intro o g sz i len mt rs rows ho hl ho' hr ih v hb hx;exact hfrz ho hl ho' hr (λ hx=>ih (by cases hb<;>grind) hx) hx
  · intro o g sz i off mt rs cells ho hi hoff ho' hr ih v hb hx;exact hfrzP ho hi hoff ho' hr (λ hx=>ih (by cases hb<;>grind) hx) hx
  · intro A c sz v hb hx;cases hx;exact .nil _ _ _
  · intro o g sz hn ho' v hb hx;cases hx;cases hb with
    |sl hb=>exact .sl (hown o g sz hn ho' hb) (Nat.le_refl _) λ _=> .inl ⟨rfl,rfl,rfl,rfl⟩
  · intro xs ys _ ih v hb hx;cases hx with|agg hv hrel=>cases hb with|agg hb=>exact .agg hv (ih hb hrel)
  · intro xs ys _ ih v hb hx;cases hx with|tup hrel=>cases hb with|tup hb=>exact .tup (ih hb hrel)
  · intro f a b a' b' _ _ ih1 ih2 v hb hx;cases hx with|fn h1 h2=>cases hb with|fn hb hb'=>exact .fn (ih1 hb h1) (ih2 hb' h2)
  · intro sz rows rows' hr ih v hb hx;have hbr:∀r ∈ rows',∀c ∈ r,Bel n' c:=by cases hb<;>grind
    obtain ⟨_,q2,q3⟩:=hr.spec;cases hx with
    |nil A cap=>
      have:rows'= []:=List.eq_nil_of_length_eq_zero af;subst this;exact .nil _ _ _
    | @lst _ _ a len cap C T fz hs hM hcell hrr hl hc hcap hv hrel=>
      have hfp:Rel φ' w M' (.fp []) (.pointer (some a)):=hcut (.fp ac) (.fp hs hM hcell af ac bM);cases hfp with
      |fp hs2 hM2 hb2 hc2 hv2 h2=>
        exact .lst hs hM2 hcell (q3 sz hrr) af af hcap af af
  · intro vs _ hx;cases hx;exact .nil
  · intro x y xs ys _ _ ih1 ih2 vs hb hx;cases hx with|cons h1 h2=>exact .cons (ih1 (hb _ ac) h1) (ih2 (λ c hc=>hb c ay) h2)
  · intro rs vs hb hx;refine zOd hx.length λ k hk hk'=>hcut ?_ (hx.get k hk hk');grind [List.mem_flatten,List.getElem_mem]
  · intro vs _ hx;cases hx;exact .nil
  · intro x y xs ys _ _ ih1 ih2 vs hb hx;rw [List.flatten_cons] at hx ⊢;obtain ⟨us,ts,rfl,h1,h2⟩:=hx.split;exact (ih1 (hb _ ac) h1).append (ih2 (λ c hc=>hb c ay) h2)
theorem zaL.rel {F:Nat->Prop} (hH:zaW φ F w M0 h){h':zay}{φ':zaD}{M':Nat->Prop}{n':Nat} (hcut:∀ {x:AV}{v:Value},Bel n' x->Rel φ w (Or M0 (Mut φ h)) x v->Rel φ' w M' x v)
    (hblk:∀o mt g sz rs a bs,h o=some (.rows mt g sz rs)->φ o=some (g,some (a,bs))->(∀g sz rs,h' o≠some (.rows true g sz rs))->¬M0 a.block->¬M' a.block)
    (hown:∀o g sz,n<=o->h' o=some (.rows true g sz [])->o<n'->φ' o=some (g,none)):
    ∀ {xs ys:List AV},zaL h h' n xs ys->(∀c ∈ ys,Bel n' c)->∀ {vs:List Value},za2 φ w (Or M0 (Mut φ h)) xs vs->za2 φ' w M' ys vs:=by
  intro xs;induction xs with
  |nil=>intro ys hle _ vs hx;cases hle;cases hx;exact .nil
  |cons x xs ih=>
    intro ys hle hb vs hx;cases hle with
    |cons hx0 ht=>
      cases hx with
      |cons h1 h2=>exact .cons (LeV.rel hH hcut hblk hown hx0 (hb _ ac) h1) (ih ht (λ c hc=>hb c ay) h2)
theorem Wk.sound {e:Env} (hk:Wk e h n E HH n') (hH:zmK φ n w M0 h){tmps:Nat->Value}
    (he:∀t,Rel φ w (Or M0 (Mut φ h)) (e t) (tmps t)):
    ∃φ',zmK φ' n' w M0 (mkH HH)∧(∀t,Rel φ' w (Or M0 (Mut φ' (mkH HH))) (mkE E t) (tmps t))∧(∀k,Mut φ' (mkH HH) k->Mut φ h k)∧
      (∀o x,o<n'->φ o=some x->φ' o=some x):=by
  have hold:∀o mt g sz rs,mkH HH o=some (.rows mt g sz rs)->o<n'∧zqr n' (.rows mt g sz rs)∧
      ((∃mt0 rs0,h o=some (.rows mt0 g sz rs0)∧(mt=true->mt0=true)∧zaM h (mkH HH) n rs0 rs∧o<n∧ztm φ n n' (mkH HH) o=φ o)∨
       (h o=none∧mt=true∧rs= []∧n<=o∧ztm φ n n' (mkH HH) o=some (g,none))):=by
    intro o mt g sz rs ho;obtain ⟨h1,h2,h3⟩:=hk.obj _ (zlZ ho);refine ⟨h1,h3, ?_⟩;simp only at h2 h1;generalize hho:h o=q at h2;cases h2 with
    |same hm hr=>
      have hlt:o<n:=by
        obtain ⟨A,hA, _⟩:=hH.obj _ _ _ _ _ hho;exact Nat.lt_of_not_le λ hle=>by rw [hH.fresh o hle] at hA;cases hA
      grind [zn6]
    |own hn=>grind [ztm]
  have hmut:∀k,Mut (ztm φ n n' (mkH HH)) (mkH HH) k->Mut φ h k:=by
    grind [Mut]
  have hor:∀k,Or M0 (Mut (ztm φ n n' (mkH HH)) (mkH HH)) k->Or M0 (Mut φ h) k:=λ k hk=>hk.imp id (hmut k);have hcut0:∀ {x:AV} {v:Value},Bel n' x->Rel φ w (Or M0 (Mut φ h)) x v->Rel (ztm φ n n' (mkH HH)) w (Or M0 (Mut (ztm φ n n' (mkH HH)) (mkH HH))) x v:=λ hb hx=>hx.cut hH.fresh hor hb;have hblk:∀o mt g sz rs a bs,h o=some (.rows mt g sz rs)->φ o=some (g,some (a,bs))->(∀g sz rs,mkH HH o≠some (.rows true g sz rs))->¬M0 a.block->¬Or M0 (Mut (ztm φ n n' (mkH HH)) (mkH HH)) a.block:=by
    rintro o mt g sz rs a bs ho hp ho' h0 (hk|⟨o',g',sz',rs',g'',a',bs',ho1,hp1,he⟩)
    · grind
    · obtain ⟨_, _,hc⟩:=hold _ _ _ _ _ ho1;rcases hc with ⟨mt0,rs0,ho0,hm0, _, _,hcut⟩|⟨_, _, _, _,hcut⟩
      · rw [hcut] at hp1;have hne:o'≠o:=λ e=>af;have hm1:=hm0 rfl;subst hm1;have hg:g''=g':=by
          obtain ⟨A2,hA2, _⟩:=hH.obj _ _ _ _ _ ho0;grind
        subst hg;exact hH.inj _ _ _ _ _ _ _ _ _ _ _ _ _ _ ho0 ho hne (.inl rfl) hp1 hp he
      grind
  have hown:∀o g sz,n<=o->mkH HH o=some (.rows true g sz [])->o<n'->ztm φ n n' (mkH HH) o=some (g,none):=by
    grind
  have hval:∀ {x y:AV} {v:Value},LeV h (mkH HH) n x y->Bel n' y->Rel φ w (Or M0 (Mut φ h)) x v->Rel (ztm φ n n' (mkH HH)) w (Or M0 (Mut (ztm φ n n' (mkH HH)) (mkH HH))) y v:=
    λ hle hb hx=>LeV.rel hH hcut0 hblk hown hle hb hx
  have hrow:∀ {xs ys:List AV},zaL h (mkH HH) n xs ys->(∀c ∈ ys,Bel n' c)->∀ {vs:List Value},za2 φ w (Or M0 (Mut φ h)) xs vs->
      za2 (ztm φ n n' (mkH HH)) w (Or M0 (Mut (ztm φ n n' (mkH HH)) (mkH HH))) ys vs:=
    λ hle hb _ hx=>zaL.rel hH hcut0 hblk hown hle hb hx
  have hrows:∀ {rs rs':List (List AV)},zaM h (mkH HH) n rs rs'->zaL h (mkH HH) n rs.flatten rs'.flatten∧rs.length=rs'.length∧∀sz,(∀r ∈ rs,r.length=sz)->∀r ∈ rs',r.length=sz:=λ hle=>hle.spec;refine ⟨ztm φ n n' (mkH HH),⟨hH.m0,λ o ho=>by grind [ztm], ?_, ?_,hH.glob.keep (λ _ _ _=>rfl) (λ k hk=> .inl (hk.imp id (hmut k)))⟩, ?_,hmut, ?_⟩
  · intro o mt g sz rs ho;obtain ⟨hlt,hbel,hc⟩:=hold _ _ _ _ _ ho;rcases hc with ⟨mt0,rs0,ho0,hm,hr,hlt',hcut⟩|⟨_, _,rfl, _,hcut⟩
    · obtain ⟨A,hA,hobj⟩:=hH.obj _ _ _ _ _ ho0;obtain ⟨i1,i2,i3⟩:=hrows hr;refine ⟨A,af,hobj.imp (λ h=>⟨h.1, ?_⟩) ?_⟩
      · grind
      · have hrw:∀ {vs:List Value},za2 φ w (Or M0 (Mut φ h)) rs0.flatten vs->za2 (ztm φ n n' (mkH HH)) w (Or M0 (Mut (ztm φ n n' (mkH HH)) (mkH HH))) rs.flatten vs:=λ e9=>by
          grind [List.mem_flatten,zqr]
        rintro ⟨a,bs,e1,e3,⟨C,T,e2,e4,e5,e6,e7,e8,e9⟩|⟨es,clk,e2,e4,e5,e6,e9⟩⟩
        · refine ⟨a,bs,e1,e3, .inl ⟨C,T,e2,e4,e5,i3 sz e6,af,af, ?_⟩⟩;grind
        · exact ⟨a,bs,e1,e3, .inr ⟨es,clk,e2,e4,aa,⟨e6.1,i3 sz e6.2⟩,hrw e9⟩⟩
    grind
  · intro o o' mt g sz rs mt' g' sz' rs' a a' b b' h1 h2 hne hmt p1 p2;obtain ⟨_, _,c1⟩:=hold _ _ _ _ _ h1;obtain ⟨_, _,c2⟩:=hold _ _ _ _ _ h2;rcases c1 with ⟨mt1,rs1,ho1,hm1, _, _,hcut1⟩|⟨_, _, _, _,hcut1⟩
    · rcases c2 with ⟨mt2,rs2,ho2,hm2, _, _,hcut2⟩|⟨_, _, _, _,hcut2⟩
      · rw [hcut1] at p1;rw [hcut2] at p2;exact hH.inj _ _ _ _ _ _ _ _ _ _ _ _ _ _ ho1 ho2 hne (hmt.imp hm1 hm2) p1 p2
      grind
    grind
  · intro t;rcases zAP (E:=E) t with ht|ht
    · rw [ht];exact .top _
    · obtain ⟨h1,h2⟩:=hk.env _ ht;grind
  · intro o x hlt hx;have:o<n:=Nat.lt_of_not_le λ hle=>by rw [hH.fresh o hle] at hx;cases hx
    grind [zn6]
end weaken
end Go.Av
end
section
/- Our library, part 11: regions in the text's order, and code, are sound. -/
namespace Go.Av
open Go

variable {N k lo n n0:Nat}
theorem za9 {φ:zaD}:¬Mut φ noH k:=by grind [Mut,noH]
variable {x:AV}
theorem zBB.rel  (hf:zBB x){φ φ':zaD}{w w':World}{M M':Nat->Prop}:∀ {v:Value},Rel φ w M x v->Rel φ' w' M' x v:=by
 induction hf with
 |v x=>intro v h;cases h;exact .v _
 | @tup xs h ih=>
  intro v hx;cases hx with
  |tup hr=>exact .tup (zOd hr.length λ k hk hv=>ih _ (List.getElem_mem _) (hr.get k hk hv))
 | @agg xs h ih=>
  intro v hx;cases hx with
  |agg hcv hr=>exact .agg hcv (zOd hr.length λ k hk hv=>ih _ (List.getElem_mem _) (hr.get k hk hv))

variable {v:Value}
theorem Rel.closed {φ φ':zaD}{w:World}{M M':Nat->Prop} (hM:∀k,M' k->M k) (hx:Rel φ w M x v) (hb:Bel 0 x):Rel φ' w M' x v:=by
 refine Rel.rec (φ:=φ) (w:=w) (M:=M) (motive_1:=λ x v _=>Bel 0 x->Rel φ' w M' x v) (motive_2:=λ xs vs _=>(∀c ∈ xs,Bel 0 c)->za2 φ' w M' xs vs)
  ?_ ?_ ?_ ?_ ?_ ?_ ?_ ?_ ?_ ?_ ?_ ?_ ?_ ?_ hx hb
 ·exact λ v _=> .top v
 ·exact λ v _=> .v v
 ·exact λ hv _ ih hb=>cd
 ·exact λ _ ih hb=>ct
 ·exact λ sz A cap _=> .nil sz A cap
 ·intro sz rows a len cap C T fz hs hm hb hr hl hc hcap hv _ ih hbel;cases hbel with
  |lst hbel=>
   refine .lst hs (λ hk=>hm (hM _ hk)) hb hr hl hc hcap hv (ih λ c hc=> ?_);grind [List.mem_flatten]
 ·intro cells a C T fz hs hm hb hc hv _ ih hbel;cases hbel with|fp hbel=>exact .fp hs (λ hk=>hm (hM _ hk)) hb hc hv (ih hbel)
 ·intro o g sz i off g' A v ho hg h hbel;cases hbel<;>grind
 ·intro o g sz i len g' A v ho hg h hbel;cases hbel<;>grind
 ·intro o g' A v ho h hbel;cases hbel<;>grind
 ·exact λ _ _ ih1 ih2 hb=>bD
 ·exact λ _ h' ih hb=>bE
 ·exact λ _=> .nil
 ·exact λ _ _ ih1 ih2 hb=> .cons (ih1 (hb _ ac)) (ih2 λ c hc=>hb c ay)
theorem Rel.inS {φ φ':zaD}{w:World}{M M':Nat->Prop}{S:List Nat} (hS:∀o ∈ S,φ' o=φ o) (hM:∀k,M' k->M k) (hx:Rel φ w M x v) (hb:zpM S x):Rel φ' w M' x v:=by
 refine Rel.rec (φ:=φ) (w:=w) (M:=M) (motive_1:=λ x v _=>zpM S x->Rel φ' w M' x v) (motive_2:=λ xs vs _=>(∀c ∈ xs,zpM S c)->za2 φ' w M' xs vs)
  ?_ ?_ ?_ ?_ ?_ ?_ ?_ ?_ ?_ ?_ ?_ ?_ ?_ ?_ hx hb
 ·exact λ v _=> .top v
 ·exact λ v _=> .v v
 ·exact λ hv _ ih hb=>cd
 ·exact λ _ ih hb=>ct
 ·exact λ sz A cap _=> .nil sz A cap
 ·intro sz rows a len cap C T fz hs hm hb hr hl hc hcap hv _ ih hbel;cases hbel with
  |lst hbel=>
   refine .lst hs (λ hk=>hm (hM _ hk)) hb hr hl hc hcap hv (ih λ c hc=> ?_);grind [List.mem_flatten]
 ·intro cells a C T fz hs hm hb hc hv _ ih hbel;cases hbel with|fp hbel=>exact .fp hs (λ hk=>hm (hM _ hk)) hb hc hv (ih hbel)
 ·intro o g sz i off g' A v ho hg h hbel;cases hbel with|ref hbel=>exact .ref af hg h
 ·intro o g sz i len g' A v ho hg h hbel;cases hbel with|sl hbel=>exact .sl af hg h
 ·intro o g' A v ho h hbel;cases hbel with|mp hbel=>exact .mp af h
 ·exact λ _ _ ih1 ih2 hb=>bD
 ·exact λ _ h' ih hb=>bE
 ·exact λ _=> .nil
 ·exact λ _ _ ih1 ih2 hb=> .cons (ih1 (hb _ ac)) (ih2 λ c hc=>hb c ay)
variable {vs:List Value} {args xs:List AV}
theorem zd0 {φ:zaD}{F:Nat->Prop}{w:World}{M0:Nat->Prop}{h h':zay} (hH:zaW φ F w M0 h) (hfz:∀o g sz rs,h' o=some (.rows true g sz rs)->h o=some (.rows true g sz rs))
  {args':List AV}  (hle:zaL h h' n args args') (hb:∀c ∈ args',Bel 0 c) (hr:za2 φ w (Or M0 (Mut φ h)) args vs):za2 noP w (Or M0 (Mut φ h')) args' vs:=by
 have hmut:∀k,Mut φ h' k->Mut φ h k:=by
  grind [Mut]
 refine zaL.rel (φ':=noP) (n':=0) hH (λ {x v} hb hx=> ?_) ?_ (λ o g sz _ _ h0=>by omega) hle hb hr
 ·exact hx.closed (λ k hk=>hk.imp id (hmut k)) hb
 ·rintro o mt g sz rs a bs ho hp ho' h0 (hk|⟨o',g',sz',rs',g'',a',bs',ho1,hp1,he⟩)
  ·grind
  ·have hne:o'≠o:=λ e=>by grind
   have ho0:=hfz _ _ _ _ ho1;have hg:g''=g':=by
    obtain ⟨A2,hA2, _⟩:=hH.obj _ _ _ _ _ ho0;grind
   subst hg;exact hH.inj _ _ _ _ _ _ _ _ _ _ _ _ _ _ ho0 ho hne (.inl rfl) hp1 hp he


theorem zaj.mono {P:Program}{f:FuncId}{args:List AV}{h:zay}{n:Nat}{K K':zbH} (hc:zaj P f args h n K) (hk:∀r h n,K r h n->K' r h n):zaj P f args h n K':=
 ⟨hc.1,λ M0 φ w vs h1 h2=>(hc.2 M0 φ w vs h1 h2).mono λ e w' ⟨v,φ',r,h',n',a,b,c⟩=>⟨v,φ',r,h',n',a,hk _ _ _ b,c⟩⟩
theorem zmM.mono {P:Program}{fv:AV}{args:List AV}{h:zay}{n:Nat}{K K':zbH} (hc:zmM P fv args h n K) (hk:∀r h n,K r h n->K' r h n):zmM P fv args h n K':=by
 unfold zmM at hc ⊢;split at hc
 ·exact zaj.mono hc hk
 omega
variable {e:Env}
theorem zoU.mono {fv:AV}{h:zay}{K K':Env->AV->zay->Prop} (hc:zoU e fv args h n K) (hk:∀e r h,K e r h->K' e r h):zoU e fv args h n K':=by
 grind [zoU]
variable {Q Q':zc2}
theorem zrv {P:Program}{ops:List Oper} (hq:∀x e h n,Q x e h n->Q' x e h n):∀ {rest:List Oper}{e:Env}{h:zay}{n:Nat},zgK P ops Q rest e h n->zgK P ops Q' rest e h n:=by
 intro rest;induction rest with
 |nil=>intro e h n hh;exact hq _ _ _ _ hh
 |cons o rest ih=>
  intro e h n hh;unfold zgK at hh ⊢;split at hh
  ·split at hh
   ·exact hh.imp (λ hh=>zmM.mono hh λ _ _ _ hk=>ih hk) (λ hh=>zoU.mono hh λ _ _ _ hk=>ih hk)
   ·exact ⟨hh.1,ih hh.2⟩
  ·split at hh
   ·exact hh
   ·split at hh
    ·obtain ⟨h1,⟨x,h2,h3⟩|⟨h2,h3⟩|⟨h2,h3⟩⟩:=hh
     ·exact ⟨h1, .inl ⟨x,h2,ih h3⟩⟩
     ·exact ⟨h1, .inr (.inl ⟨h2,zmM.mono h3 λ _ _ _ hk=>ih hk⟩)⟩
     ·exact ⟨h1, .inr (.inr ⟨h2,zoU.mono h3 λ _ _ _ hk=>ih hk⟩)⟩
    ·obtain ⟨h1,h2,h3⟩:=hh;exact ⟨h1,h2,ih h3⟩
theorem zxn {P:Program}{ops:List Oper}{K K':Env->zay->List ziQ->Prop} (hk:∀e h r,K e h r->K' e h r):
  ∀ {rest:List Oper} {i:Nat} {e:Env} {h:zay} {acc:List ziQ},ze9 P n ops K i rest e h acc->ze9 P n ops K' i rest e h acc:=by
 intro rest;induction rest with
 |nil=>grind [ze9]
 |cons o rest ih=>
  intro i e h acc hh;unfold ze9 at hh ⊢;split at hh
  ·grind
  ·split at hh;all_goals grind
theorem zDj {P:Program}{ops:List Oper} (hq:∀x e h n,Q x e h n->Q' x e h n){h:zay} (hh:zDi P ops Q e h n):zDi P ops Q' e h n:=
 hh.imp λ _ hh=>zxn (λ _ _ _ hk=>⟨hk.1,hk.2.imp (λ h=>⟨h.1,zrv hq h.2⟩) (zrv hq)⟩) hh
variable {K K':Env->zay->Nat->Prop}
theorem zrc  (hk:∀e h n,K e h n->K' e h n) (hq:∀x e h n,Q x e h n->Q' x e h n):∀x e h n,zC7 K Q x e h n->zC7 K' Q' x e h n:=by
 intro x e h n hh;cases x<;>first|exact hk _ _ _ hh|grind [zC7]
theorem zzA  (hq:∀x e h n,Q x e h n->Q' x e h n):∀x e h n,znM Q x e h n->znM Q' x e h n:=by
 intro x e h n hh;cases x with
 |goto l=>exact hh
 | _=>exact hq _ _ _ _ hh
theorem zzw {id:Nat} (hq:∀x e h n,Q x e h n->Q' x e h n):∀x e h n,zlk id Q x e h n->zlk id Q' x e h n:=by
 intro x e h n hh;cases x<;>grind [zlk]
theorem Fgt.mono  (hk:∀e h n,K e h n->K' e h n){h:zay} (hh:Fgt n0 K e h n):Fgt n0 K' e h n:=
 hh.imp (hk _ _ _) λ ⟨E,HH,n',h1,h2,h3⟩=>⟨E,HH,n',h1,h2,hk _ _ _ h3⟩
theorem zzy {e0:Env} (hk:∀e h n,K e h n->K' e h n) (hq:∀x e h n,Q x e h n->Q' x e h n):∀x e h n,zrb K Q e0 x e h n->zrb K' Q' e0 x e h n:=by
 intro x e h n hh;cases x<;>first|exact hk _ _ _ hh|exact hq _ _ _ _ hh|exact hh.elim
theorem zC4  (hk:∀e h n,K e h n->K' e h n):∀x e h n,zC3 K x e h n->zC3 K' x e h n:=by
 grind [zC3]
theorem zm5 {n0 more:Nat}{ps:List Tmp}{A B:Nat->zc2->Env->zay->Nat->Prop} (hA:∀n1 Q Q' e h n,(∀x e h n,Q x e h n->Q' x e h n)->A n1 Q e h n->A n1 Q' e h n)
  (hB:∀n1 Q Q' e h n,(∀x e h n,Q x e h n->Q' x e h n)->B n1 Q e h n->B n1 Q' e h n) {Q Q':zc2} (hq:∀x e h n,Q x e h n->Q' x e h n):
  ∀ {rows:List (List AV)} {e:Env} {h:zay} {n:Nat},zdV n0 more ps A B Q rows e h n->zdV n0 more ps A B Q' rows e h n
 | [], _, _, _,hh=>⟨hh.1,hq _ _ _ _ hh.2⟩
 |xs::rest,e,h,n,hh=>⟨hh.1,hA _ _ _ _ _ _ (zC4 λ e h n=>hB _ _ _ _ _ _ (zzy (λ e h n=>Fgt.mono λ e h n=>zm5 hA hB hq) hq)) hh.2⟩
theorem zJR {P:Program}:∀ {c:Code}{n0:Nat}{Q Q':zc2} (hq:∀x e h n,Q x e h n->Q' x e h n){e:Env}{h:zay}{n:Nat},awp P n0 c Q e h n->awp P n0 c Q' e h n:=by
 intro c;induction c with
 |skip=>intro n0 Q Q' hq e h n hh;exact hq _ _ _ _ hh
 |label l=>intro n0 Q Q' hq e h n hh;exact hq _ _ _ _ hh
 |region id ops draw=>
  intro n0 Q Q' hq e h n hh;cases draw with
  |false=>exact zrv hq hh
  |true=>
   obtain ⟨h',hf,hh⟩:=hh;exact ⟨h',hf,zDj hq hh⟩
 |seq a b iha ihb=>intro n0 Q Q' hq e h n hh;exact iha (zrc (λ e h n=>ihb hq) hq) hh
 |cond c a b iha ihb=>
  intro n0 Q Q' hq e h n hh;unfold awp at hh ⊢;split at hh
  ·exact ⟨λ ht=>iha hq (hh.1 ht),λ ht=>ihb hq (hh.2 ht)⟩
  grind
 |block id b ih=>intro n0 Q Q' hq e h n hh;exact ih (zzw hq) hh
 |scope b ih=>intro n0 Q Q' hq e h n hh;exact ih (zzA hq) hh
 |loop b ih=>
  intro n0 Q Q' hq e h n hh;exact λ X h1 h2=>hh X (λ e h n hb=>h1 e h n (ih (zrc (λ _ _ _ hx=>hx) hq) hb)) h2
 |rangeFunc g ps a b iha ihb=>
  intro n0 Q Q' hq e h n hh;rcases hh with ⟨f,caps,caps',more,rows,h',h1,h2,h3,h4,h5,h6,h7⟩|⟨f,caps,caps',o,gn,sz,rs,rs',more,rows,h',h1,h2,h3,h4,h5,h6,h7,h8,h9⟩
  ·exact .inl ⟨f,caps,caps',more,rows,h',h1,h2,h3,h4,h5,h6,Fgt.mono (λ e h n=>zm5 (A:=λ n1=>awp P n1 a) (B:=λ n1=>awp P n1 b) (λ n1 Q Q' e h n hq hh=>iha hq hh) (λ n1 Q Q' e h n hq hh=>ihb hq hh) hq) h7⟩
  ·exact .inr ⟨f,caps,caps',o,gn,sz,rs,rs',more,rows,h',h1,h2,h3,h4,h5,h6,h7,h8,Fgt.mono (λ e h n=>zm5 (A:=λ n1=>awp P n1 a) (B:=λ n1=>awp P n1 b) (λ n1 Q Q' e h n hq hh=>iha hq hh) (λ n1 Q Q' e h n hq hh=>ihb hq hh) hq) h9⟩
 |exit id=>intro n0 Q Q' hq e h n hh;exact hq _ _ _ _ hh
 |ret=>intro n0 Q Q' hq e h n hh;exact hq _ _ _ _ hh
 | _=>intro n0 Q Q' hq e h n hh;exact hh.elim
variable {b:Code}
theorem zNZ {P:Program}{h:zay} (hh:awp P n0 b (zC7 (zac n0 (awp P n0 b) Q) Q) e h n):zac n0 (awp P n0 b) Q e h n:=
 λ X h1 h2=>h1 e h n (zJR (zrc (λ e h n hx=>hx X h1 h2) (λ _ _ _ _ hq=>hq)) hh)
theorem zac.forget {P:Program}{h:zay} (E:List (Nat×AV)) (HH:List (Nat×zcr)) (n':Nat) (hk:Wk e h n E HH n') (hn:n0<=n')
  (hh:zac n0 (awp P n0 b) Q (mkE E) (mkH HH) n'):zac n0 (awp P n0 b) Q e h n:=
 λ X h1 h2=>h2 e h n E HH n' hk hn (hh X h1 h2)

variable {f:FuncId} {r:Option Nat}
theorem zo4 {P:Program}{args:Array Value}{w:World}{R:Ending->World->Prop} (h:Calls P f args w R):CallsIn (WF r) k P f args w R:=
 callsIn_wide.2 h

section grow
variable {M M':Nat->Prop} {w w':World} {φ:zaD} {h:zay} {F:Nat->Prop}
theorem zqg.or (g:zqg M w M' w'):∀k,Or M' (Mut φ h) k->Or M (Mut φ h) k∨w.heap.size<=k:=λ k hk=>hk.elim (λ hk=>(g.new k hk).imp .inl id) λ hk=> .inl (.inr hk)
theorem zqg.rel (g:zqg M w M' w') (hx:Rel φ w (Or M (Mut φ h)) x v):Rel φ w' (Or M' (Mut φ h)) x v:=
 hx.keep φ.le_refl (λ k hn hk=>g.keep k hk (λ hm=>hn (.inl hm))) g.or
theorem zqg.relL (g:zqg M w M' w') (hx:za2 φ w (Or M (Mut φ h)) xs vs):za2 φ w' (Or M' (Mut φ h)) xs vs:=
 hx.keep φ.le_refl (λ k hn hk=>g.keep k hk (λ hm=>hn (.inl hm))) g.or
theorem zqg.hrel (g:zqg M w M' w') (hH:zaW φ F w M h):zaW φ F w' M' h:=by
 refine ⟨g.lt,hH.fresh,λ o mt g0 sz rs ho=> ?_,hH.inj,hH.glob.keep (λ k hn hk=>g.keep k hk (λ hm=>hn (.inl hm))) g.or⟩;obtain ⟨A,hA,h1⟩:=hH.obj o mt g0 sz rs ho;refine ⟨A,hA,h1.imp id ?_⟩;rintro ⟨a,bs,e1,e3,e4⟩;have hlt:=e4.blk;exact ⟨a,bs,e1,λ hk=>(g.new _ hk).elim e3 (λ h=>by omega),e4.keep (g.keep _ hlt e3) (λ e9=>g.relL e9)⟩
end grow
def IsG (g:AV):Prop:=g= .top∨∃x,g= .gd false x
theorem ze3.anyM {φ φ':zaD}{w w':World}{M M':Nat->Prop}{h h':zay} (st:ze3 φ w M h φ' w' h'):ze3 φ w M' h φ' w' h':=
 ⟨st.le,λ k hk=>hk.elim (λ hk=> .inl (.inl hk)) λ hk=>(st.mutd k hk).imp .inr id,st.fr,st.mutd⟩
theorem NC.mono {lo':Nat}{w w':World} (hn:NC lo w w') (hl:lo'<=lo):NC lo' w w':=
 ⟨hn.os,hn.tape,hn.output,hn.drawn,hn.size,λ k hk=>hn.low k aa,hn.cells,hn.maps⟩
structure zjD (P:Program) where
 n0:Nat
 lo:Nat
 round:Option Nat
 ok0:AV->zfH->zfH->zaD->World->zay->Prop
 isG0:∀ {g M O φ w h},ok0 g M O φ w h->IsG g
 step0:∀ {g M O φ w h φ' w' h'},ok0 g M O φ w h->ze3 φ w M h φ' w' h'->ok0 g M O φ' w' h'
 forget0:∀ {g g' M O φ w h φ' h' n'},ok0 g M O φ w h->g'=g∨g'= .top->(∀k,Mut φ' h' k->Mut φ h k)->(∀o x,o<n'->φ o=some x->φ' o=some x)->n0<=n'->ok0 g' M O φ' w h'
 yld0:∀ {r m l more xs rest M O φ w h n vs},ok0 (zcN l more (xs::rest)) M O φ w h->zmK φ n w (Or M O) h->za2 noP w (Or (Or M O) (Mut φ h)) xs vs->
  ∃fn tmps assign body,(Instr.yield l ⟨vs⟩).run P w= .ok (.round l fn tmps assign body) w∧RoundIn (WF r) m P l fn tmps assign body w λ e w'=>
   ∃b M',e= .returned (.bool b)∧zqg M w M' w'∧ok0 (if b then zcN l more rest else zcN l 2 []) M' O φ w' h
 exh0:∀ {l M O φ w h},¬ok0 (zcN l 1 []) M O φ w h
 oth0:∀ {g M O O' φ w w' h},ok0 g M O φ w h->Fr w O w'->(∀k,O' k->O k∨w.heap.size<=k)->ok0 g M O' φ w' h
 nc0:∀ {g M O φ w w' h},ok0 g M O φ w h->NC lo w w'->ok0 g M O φ w' h
 give0:∀ {g M O O' φ w h h'},ok0 g M O φ w h->(∀k,O' k->O k∨Mut φ h k)->(∀k,Mut φ h' k->Mut φ h k)->ok0 g M O' φ w h'
 lo0:∀ {g M O φ w h},ok0 g M O φ w h->lo<=w.heap.size
 rec0:∀ {g M O φ w h l},ok0 g M O φ w h->round=some l->∃r:Loop,w.heap[l]? =some (.loop r)
def zjD.ok {P:Program} (B:zjD P) (g:AV) (M:zfH) (φ:zaD) (w:World) (h:zay):Prop:=∃Mc O,M=Or Mc O∧B.ok0 g Mc O φ w h
section
variable {P:Program} (B:zjD P) {g g':AV} {M:zfH} {φ φ':zaD} {w w':World} {h h':zay}
theorem zjD.isG (hk:B.ok g M φ w h):IsG g:=by
 obtain ⟨Mc,O, _,h⟩:=hk;exact B.isG0 h
theorem zjD.step (hk:B.ok g M φ w h) (st:ze3 φ w M h φ' w' h'):B.ok g M φ' w' h':=by
 obtain ⟨Mc,O,rfl,h⟩:=hk;exact ⟨Mc,O,rfl,B.step0 h st.anyM⟩
theorem zjD.forget {n':Nat} (hk:B.ok g M φ w h) (h1:g'=g∨g'= .top) (h2:∀k,Mut φ' h' k->Mut φ h k) (h3:∀o x,o<n'->φ o=some x->φ' o=some x) (h4:B.n0<=n'):B.ok g' M φ' w h':=by
 obtain ⟨Mc,O,rfl,h⟩:=hk;exact ⟨Mc,O,rfl,B.forget0 h h1 h2 h3 h4⟩
theorem zjD.exh {l:Nat}:¬B.ok (zcN l 1 []) M φ w h:=by
 rintro ⟨Mc,O,rfl,h⟩;exact B.exh0 h
theorem zjD.yld {m l more:Nat}{rest:List (List AV)} (hk:B.ok (zcN l more (xs::rest)) M φ w h) (hH:zmK φ n w M h) (hr:za2 noP w (Or M (Mut φ h)) xs vs):
  ∃fn tmps assign body,(Instr.yield l ⟨vs⟩).run P w= .ok (.round l fn tmps assign body) w∧RoundIn (WF r) m P l fn tmps assign body w λ e w'=>
   ∃b M',e= .returned (.bool b)∧zqg M w M' w'∧B.ok (if b then zcN l more rest else zcN l 2 []) M' φ w' h:=by
 obtain ⟨Mc,O,rfl,h⟩:=hk;obtain ⟨fn,tmps,asg,body,h1,h2⟩:=B.yld0 (r:=r) (m:=m) h hH hr;refine ⟨fn,tmps,asg,body,h1,h2.mono ?_⟩;rintro e w' ⟨b,M',e1,g,h3⟩;exact ⟨b,Or M' O,e1,⟨g.size,λ k hk hn=>g.keep k hk λ hm=>hn (.inl hm),λ k hk=>hk.elim (λ hk=>(g.new k hk).imp .inl id) λ hk=> .inl (.inr hk),
  λ k hk=>hk.elim (g.lt k) λ hk=>Nat.lt_of_lt_of_le (hH.m0 k (.inr hk)) g.size⟩,M',O,rfl,h3⟩
end
def zk7 (lo:Nat) (M:Nat->Prop) (ds:List Deferred) (w:World):Prop:=ds.Pairwise (λ a b=>a≠b)∧∀d ∈ ds,∃D,d={ target:= .collected D,args:= #[]}∧lo<=D∧¬M D∧w.heap[D]? =some (.deferred (some []))
theorem zk7.nil {lo:Nat}{M:Nat->Prop}{w:World}:zk7 lo M [] w:=⟨.nil,λ d hd=>by cases hd⟩
variable {ds:List Deferred}
theorem zk7.step {φ φ':zaD}{w w':World}{M:Nat->Prop}{h h':zay}{F:Nat->Prop} (hm:zk7 lo M ds w) (hH:zaW φ F w M h) (st:ze3 φ w M h φ' w' h'):zk7 lo M ds w':=by
 refine ⟨hm.1,λ d hd=> ?_⟩;obtain ⟨D,h1,h0,h2,h3⟩:=hm.2 d hd;refine ⟨D,h1,h0,h2,(st.fr.block D (Array.getElem?_eq_some_iff.1 h3).1 ?_).trans h3⟩;rintro ⟨o,g,sz,rs,g',a,bs,ho,hp,he⟩;obtain ⟨A,hA,hc⟩:=hH.obj _ _ _ _ _ ho;grind [zmL]
theorem zk7.grow {M M':Nat->Prop}{w w':World} (hm:zk7 lo M ds w) (g:zqg M w M' w'):zk7 lo M' ds w':=by
 refine ⟨hm.1,λ d hd=> ?_⟩;obtain ⟨D,h1,h0,h2,h3⟩:=hm.2 d hd;have hlt:=(Array.getElem?_eq_some_iff.1 h3).1;exact ⟨D,h1,h0,λ hk=>(g.new D hk).elim h2 (λ h=>by omega),(g.keep D hlt h2).trans h3⟩
structure SR {P:Program} (B:zjD P) (N:Nat) (M:Nat->Prop) (φ:zaD) (e:Env) (h:zay) (n:Nat) (a:Act) (w:World):Prop where
 env:∀t,Rel φ w (Or M (Mut φ h)) (e t) (a.tmps.getD t undef)
 size:a.tmps.size=N
 defs:zk7 B.lo M a.defers w
 heap:zmK φ n w M h
 ok:B.ok (e GH) M φ w h
 small:N<=GH
def SQ {P:Program} (B:zjD P) (N:Nat) (Q:zc2):Exit->Act->World->Prop:=
 λ x a w=>∃M φ e h n,SR B N M φ e h n a w∧Q x e h n
theorem zLW {dst:Option Tmp} (hd:match dst with|none=>True|some d=>d<N) (hN:N<=GH) (x:AV):put e dst x GH=e GH:=by
 cases dst with
 |none=>rfl
 |some d=>
  exact zeU _ _ (λ h=>by
   grind)

theorem SR.put {P:Program}{B:zjD P}{N:Nat}{M:Nat->Prop}{φ φ':zaD}{e:Env}{h h':zay}{n n':Nat}{a:Act}{w w':World} (hs:SR B N M φ e h n a w){dst:Option Tmp} (hd:match dst with|none=>True|some d=>d<N)
  {x:AV} {v:Value} (hx:Rel φ' w' (Or M (Mut φ' h')) x v) (hH:zmK φ' n' w' M h') (st:ze3 φ w M h φ' w' h'):SR B N M φ' (put e dst x) h' n' (a.put dst v) w':=by
 cases dst with
 |none=>exact ⟨λ t=>st.rel (hs.env t),hs.size,hs.defs.step hs.heap st,hH,B.step hs.ok st,hs.small⟩
 |some d=>
  refine ⟨λ t=> ?_,by simp [Act.put,hs.size],hs.defs.step hs.heap st,hH,by rw [zLW hd hs.small];exact B.step hs.ok st,hs.small⟩;simp only [Av.put,Act.put,upd];by_cases ht:t=d
  ·subst ht;rw [if_pos rfl];have:t<a.tmps.size:=by rw [hs.size];exact hd
   simp_all
  ·rw [if_neg ht];have:(a.tmps.setIfInBounds d v).getD t undef=a.tmps.getD t undef:=by
    simp_all [Ne.symm]
   rw [this];exact st.rel (hs.env t)

variable {want:Bool} {o:Oper} {a:Act} {ops:Array Oper}
theorem zog {φ:zaD}{M:Nat->Prop}{w:World} (he:∀t,Rel φ w M (e t) (a.tmps.getD t undef)){j:Nat}{g:Bool}
  (hg:o.guard=some (j,want)) (hb:(zkh ops.toList j).bind (λ t=>zlN (e t) want)=some g):Region.wanted o (yielded ops a.tmps)=g:=by
 unfold zkh at hb;simp only [Region.wanted,hg,yielded];cases ht:(ops[j]?).bind (·.dst) with
 |none=>grind
 |some t=>
  simp only [Array.getElem?_toList,ht,Option.bind_some] at hb;have hr:=he t;simp only [Option.bind_some];have hv:∀v,a.tmps.getD t undef=v->v≠undef->a.tmps[t]? =some v:=by
   intro v hv hne;cases hx:a.tmps[t]?<;>simp_all
  unfold zlN at hb;split at hb
  ·rename_i b hx;rw [hx] at hr;simp only [Option.some.injEq] at hb;generalize hq:a.tmps.getD t undef=q at hr;cases hr;rw [hv _ hq (by simp [undef])];simp_all
  ·rename_i g' b hx;rw [hx] at hr;simp only [Option.some.injEq] at hb;generalize hq:a.tmps.getD t undef=q at hr;cases hr with
   |gd h1 h2=>
    cases g' with
    |true=>
     have:=h1 rfl;cases this;rw [hv _ hq (by simp [undef])];simp_all
    |false=>
     have:=h2 rfl;subst this;cases hx:a.tmps[t]?<;>simp_all [undef]
  grind

theorem zyj {P:Program}{B:zjD P}{M:Nat->Prop}{φ:zaD}{h:zay}{w:World} (hs:SR B N M φ e h n a w){j:Nat}{g:Bool}
  (hg:o.guard=some (j,want)) (hb:(zkh ops.toList j).bind (λ t=>zlN (e t) want)=some g):Region.wanted o (yielded ops a.tmps)=g:=zog hs.env hg hb

theorem zCH {P:Program}{w:World}{fo:Operand}{args:Array Operand}{ats:Array TypeId}{ty:TypeId}{fs cs:List Value} (hf:a.eval fo= .func (.func f) ⟨fs⟩ ⟨cs⟩)
  (he:zfJ P f):(do let d <- resolve a.eval { callee:= .value fo,args,argTypes:=ats} ty;invoke d.target d.args).run P w= .ok (.enter f ⟨fs++args.toList.map a.eval++cs⟩) w:=by
 simp_all [resolve,Deferred.ofValue,invoke,zfJ]

theorem zuf {P:Program}{B:zjD P}{m:Nat} (hd:∀o ∈ ops.toList,match o.dst with|none=>True|some d=>d<N):
  ∀ (k:Nat) (i:Nat),i+k=ops.size->∀ {M:Nat->Prop} {φ:zaD} {e:Env} {h:zay} {n:Nat} {a:Act} {w:World},SR B N M φ e h n a w->zgK P ops.toList Q (ops.toList.drop i) e h n->
   wpOpsIn (WF r) m P ops (SQ B N Q) (List.range' i k) a w:=by
 intro k;induction k with
 |zero=>
  intro i hi M φ e h n a w hs ha;have:ops.toList.drop i= []:=List.drop_eq_nil_of_le af;rw [this] at ha;exact ⟨M,φ,e,h,n,hs,ha⟩
 |succ k ih=>
  intro i hi M φ e h n a w hs ha;have hlt:i<ops.size:=aa;have hdrop:ops.toList.drop i=ops[i]::ops.toList.drop (i+1):=by
   grind [List.drop_eq_getElem_cons]
  rw [hdrop] at ha;have hmem:ops[i] ∈ ops.toList:=ac;have hdst:=hd _ hmem;simp only [List.range'_succ,wpOpsIn,Array.getElem?_eq_getElem hlt];have hev:∀x,Rel φ w (Or M (Mut φ h)) (ev e x) (a.eval x):=zCF hs.heap.glob hs.env;have habout:∀f,Oper.about P w a.eval ops[i]=some f->(WF r).fn f:=λ _ _=>trivial;have hdepth:(WF r).depth.isSome=true->1<=m:=by grind [WF,Fence.wide]
  generalize ho:ops[i]=o at *;have hcall:∀ (e':Env) (fo:Operand) (args:Array Operand) (ats:Array TypeId) (K:zbH),o.op= .call { callee:= .value fo,args,argTypes:=ats}->(∀x ∈ o.op.operands,Rel φ w (Or M (Mut φ h)) (ev e' x) (a.eval x))->
    zmM P (ev e' fo) (args.toList.map (ev e')) h n K->
    (∀v φ' x h' n' w',Rel φ' w' (Or M (Mut φ' h')) x v->zmK φ' n' w' M h'->ze3 φ w M h φ' w' h'->K x h' n'->wpOpsIn (WF r) m P ops (SQ B N Q) (List.range' (i+1) k) (a.put o.dst v) w')->
    o.wpIn (WF r) m P a w (wpOpsIn (WF r) m P ops (SQ B N Q) (List.range' (i+1) k)) (SQ B N Q):=by
   intro e' fo args ats K hop he hc hk;refine ⟨habout, ?_⟩;rw [Oper.semAt_eq _ _ _ (λ c=>by grind)];have hfo:=he fo ar;have hargs:za2 φ w (Or M (Mut φ h)) (args.toList.map (ev e')) (args.toList.map a.eval):=zmG λ x hx=>he x aU;unfold zmM at hc;split at hc
   ·rename_i f first caps hfv
    rw [hfv] at hfo;generalize hval:a.eval fo=fval at hfo;cases hfo with
    | @fn _ _ _ fs cs h1 h2=>
     have hrun:=zCH (P:=P) (w:=w) (args:=args) (ats:=ats) (ty:=o.type) hval hc.1;have hex:execOp a.eval o=(do let d <- resolve a.eval { callee:= .value fo,args,argTypes:=ats} o.type;invoke d.target d.args):=aw;rw [hex,hrun];refine ⟨hdepth,zo4 ((hc.2 M φ w _ hs.heap ((h1.append hargs).append h2)).mono ?_)⟩;grind
   grind
  have hone:∀ (e':Env),(∀x ∈ o.op.operands,Rel φ w (Or M (Mut φ h)) (ev e' x) (a.eval x))->(aev P n o.op e' h).cond->(∀c,o.op≠ .defer c)->
    (∀v φ' w',Rel φ' w' (Or M (Mut φ' (zap (aev P n o.op e' h).wr h))) (aev P n o.op e' h).val v->zmK φ' (n+(aev P n o.op e' h).al) w' M (zap (aev P n o.op e' h).wr h)->
     ze3 φ w M h φ' w' (zap (aev P n o.op e' h).wr h)->wpOpsIn (WF r) m P ops (SQ B N Q) (List.range' (i+1) k) (a.put o.dst v) w')->
    o.wpIn (WF r) m P a w (wpOpsIn (WF r) m P ops (SQ B N Q) (List.range' (i+1) k)) (SQ B N Q):=by
   intro e' he hc hnd hk;refine ⟨habout, ?_⟩;rw [Oper.semAt_eq _ _ _ hnd];obtain ⟨nx,v,w',φ',hrun,hnx,hx,hH',st⟩:=zBL hs.heap (Nat.le_refl _) he hc;rw [hrun];have hH':=Fal_le _ hH';rcases hnx with rfl|⟨rfl,rfl⟩
   ·exact hk v φ' w' hx hH' st
   ·exact hk undef φ' w' hx hH' st
  have hyield:∀ (e':Env) (fo:Operand) (args:Array Operand) (ats:Array TypeId) (K:Env->AV->zay->Prop),o.op= .call { callee:= .value fo,args,argTypes:=ats}->(∀x ∈ o.op.operands,Rel φ w (Or M (Mut φ h)) (ev e' x) (a.eval x))->
    zoU e (ev e' fo) (args.toList.map (ev e')) h n K->
    (∀b M' e2 h' w',SR B N M' φ e2 h' n a w'->K e2 (.v (.bool b)) h'->wpOpsIn (WF r) m P ops (SQ B N Q) (List.range' (i+1) k) (a.put o.dst (.bool b)) w')->
    o.wpIn (WF r) m P a w (wpOpsIn (WF r) m P ops (SQ B N Q) (List.range' (i+1) k)) (SQ B N Q):=by
   intro e' fo args ats K hop he hc hk;refine ⟨habout, ?_⟩;rw [Oper.semAt_eq _ _ _ (λ c=>by grind)];have hfo:=he fo ar;have hargs:za2 φ w (Or M (Mut φ h)) (args.toList.map (ev e')) (args.toList.map a.eval):=zmG λ x hx=>he x aU;obtain ⟨l,more,rows,hfv,hgh,hrows⟩:=hc;rw [hfv] at hfo;generalize hval:a.eval fo=fval at hfo;cases hfo with
   | @fn _ _ _ fs cs h1 h2=>
    cases h1;cases h2;have hok:=hs.ok;rw [hgh] at hok;cases rows with
    |nil=>simp only at hrows;subst hrows;exact absurd hok B.exh
    |cons xs rest=>
     obtain ⟨h',hfz,hle,hb,k1,k2⟩:=hrows;obtain ⟨hH',st0⟩:=hs.heap.freeze hfz;have hmt:∀o g sz rs,h' o=some (.rows true g sz rs)->h o=some (.rows true g sz rs):=by
      intro o g sz rs ho;rcases hfz o with h1|⟨g1,sz1,rs1,h1,h2⟩;all_goals grind
     have hv:=zd0 hs.heap hmt hle hb hargs;obtain ⟨fn,tmps,asg,body,hy,hround⟩:=B.yld (r:=r) (m:=m - 1) (B.step hok st0) hH' hv;have hex:(execOp a.eval o).run P w= .ok (.round l fn tmps asg body) w:=by
      have e1:execOp a.eval o=(do let d <- resolve a.eval { callee:= .value fo,args,argTypes:=ats} o.type;invoke d.target d.args):=aw;rw [e1];simp only [resolve,hval,Deferred.ofValue,Sem.run_bind,Sem.run_pure,Result.andThen_ok,invoke];have e2:(⟨[]⟩:Array Value)++args.map a.eval=⟨args.toList.map a.eval⟩:=af;grind
     rw [hex];refine ⟨hdepth,hround.mono ?_⟩;rintro en w' ⟨b,M',rfl,hg,hok'⟩;have hGH:∀x,SR B N M' φ (upd e GH x) h' n a w'↔B.ok x M' φ w' h'∧IsG x:=λ x=>by
      constructor
      ·intro hs';have:=hs'.ok;rw [zbk] at this;exact ⟨this,B.isG this⟩
      ·rintro ⟨hx,hgx⟩;refine ⟨λ t=> ?_,hs.size,(hs.defs.step hs.heap st0).grow hg,hg.hrel hH',aO,hs.small⟩;by_cases ht:t=GH
       ·subst ht;rw [zbk];have hu:a.tmps.getD GH undef=undef:=by
         rw [Array.getD_eq_getD_getElem?,Array.getElem?_eq_none (by have:=hs.size;have:=hs.small;omega)];rfl
        rw [hu];rcases hgx with rfl|⟨x,rfl⟩
        ·exact .top _
        ·exact .gd (λ h=>by cases h) (λ _=>rfl)
       ·rw [zeU _ _ ht];exact hg.rel (st0.rel (hs.env t))
     cases b with
     |true=>exact hk true M' _ h' w' ((hGH _).2 ⟨hok', .inr ⟨_,rfl⟩⟩) k1
     |false=>exact hk false M' _ h' w' ((hGH _).2 ⟨hok', .inr ⟨_,rfl⟩⟩) k2
  have hnd:∀e',(aev P n o.op e' h).cond->∀c,o.op≠ .defer c:=by
   grind [aev]
  unfold zgK at ha;split at ha
  · --
   rename_i hg;have hw:Region.wanted o (yielded ops a.tmps)=true:=by simp [Region.wanted,hg]
   rw [if_pos hw];split at ha
   ·rename_i fo args ats hop;rcases ha with ha|ha
    ·exact hcall e fo args ats _ hop (λ x _=>hev x) ha λ v φ' x h' n' w' hx hH' st hK=>ih (i+1) aa (hs.put hdst hx hH' st) hK
    ·exact hyield e fo args ats _ hop (λ x _=>hev x) ha λ b M' e2 h' w' hs' hK=>ih (i+1) aa (hs'.put hdst (.v _) hs'.heap (.refl _ _ _ _)) hK
   ·exact hone e (λ x _=>hev x) ha.1 (hnd e ha.1) λ v φ' w' hx hH' st=>ih (i+1) aa (hs.put hdst hx hH' st) ha.2
  · --
   rename_i j want hg;split at ha
   ·grind
   ·rename_i g hb;have hw:=zyj hs hg hb;rw [hw];have hpk:∀op e,gE op e=e∧gT op= []∨gE op e=(λ t=>unG (e t))∧gT op=zef op:=by
     intro op e;cases op<;>first|exact .inl ⟨rfl,rfl⟩|exact .inr ⟨rfl,rfl⟩
    have hung:∀ (op:Op),(∀t ∈ gT op,okG g (e t))->g=true->∀x ∈ op.operands,Rel φ w (Or M (Mut φ h)) (ev (gE op e) x) (a.eval x):=by
     intro op hok hgt x hx;rcases hpk op e with ⟨he1, _⟩|⟨he1,he2⟩
     ·grind
     rw [he1];rw [he2] at hok;cases x with
     |tmp t=>
      have hmt:t ∈ zef op:=by
       simp only [zef,List.mem_filterMap];exact ⟨.tmp t,af,rfl⟩
      have h1:=hok t hmt;have h2:=hs.env t;simp only [ev];show Rel φ w _ (unG (e t)) (a.tmps.getD t undef);generalize e t=y at h1 h2;cases y with
      |gd g' y=>cases h2 with|gd h3 _=>exact h3 (h1 hgt)
      | _=>exact h2
     |const v=>grind [ev]
     |global g=>grind [ev]
     |func f=>grind [ev]
    have hskip:∀x,g=false->SR B N M φ (put e o.dst (.gd g x)) h n (a.put o.dst undef) w:=λ x hgf=>
     hs.put hdst (.gd (λ h=>by grind) (λ _=>rfl)) hs.heap (.refl _ _ _ _)
    split at ha
    ·rename_i fo args ats hop;obtain ⟨hok,⟨x,hc,hrest⟩|⟨hgt,hc⟩|⟨hgt,hc⟩⟩:=ha;rotate_right
     ·subst hgt;rw [if_pos rfl];refine hyield (λ t=>unG (e t)) fo args ats _ hop cI hc λ b M' e2 h' w' hs' hK=> ?_;exact ih (i+1) aa (hs'.put hdst (.gd (λ _=> .v _) (λ h=>by cases h)) hs'.heap (.refl _ _ _ _)) hK
     rotate_left
     ·subst hgt;rw [if_pos rfl];refine hcall (λ t=>unG (e t)) fo args ats _ hop cI hc λ v φ' x' h' n' w' hx hH' st hK=> ?_;exact ih (i+1) aa (hs.put hdst (.gd (λ _=>hx) (λ h=>by cases h)) hH' st) hK
     cases hgv:g with
     |true=>
      rw [if_pos rfl];refine hcall (λ t=>unG (e t)) fo args ats _ hop (by have:=hung o.op (by grind [gT]) hgv;rw [hop] at this ⊢;exact this) (hc hgv) λ v φ' x' h' n' w' hx hH' st hK=> ?_;obtain ⟨rfl,rfl,rfl⟩:=hK;rw [hgv] at hrest;exact ih (i+1) aa (hs.put hdst (.gd (λ _=>hx) (λ h=>by cases h)) hH' st) hrest
     |false=>
      grind
    ·obtain ⟨hok,hc,hrest⟩:=ha;cases hgv:g with
     |true=>
      rw [if_pos rfl];refine hone (gE o.op e) (hung _ hok hgv) (hc hgv) (hnd _ (hc hgv)) λ v φ' w' hx hH' st=> ?_;rw [hgv] at hrest;exact ih (i+1) aa (hs.put hdst (.gd (λ _=>hx) (λ h=>by cases h)) hH' st) hrest
     |false=>
      grind [gW,gN,zap]

theorem NC.refl (lo:Nat) (w:World):NC lo w w:=⟨rfl,rfl,rfl,Nat.le_refl _,rfl,λ _ _=>rfl,λ _ _ _ _ _=>rfl,λ _ _ _ _=>rfl⟩
theorem NC.trans {lo:Nat}{a b c:World} (h:NC lo a b) (k:NC lo b c):NC lo a c:=
 ⟨k.os.trans h.os,k.tape.trans h.tape,k.output.trans h.output,Nat.le_trans h.drawn k.drawn,k.size.trans h.size,λ i hi=>(k.low i hi).trans (h.low i hi),
  λ i C T fz hc=>(k.cells i C T fz ((h.cells i C T fz hc).trans hc)).trans (h.cells i C T fz hc),λ i es clk hc=>(k.maps i es clk ((h.maps i es clk hc).trans hc)).trans (h.maps i es clk hc)⟩
theorem NC.putObj {lo:Nat}{w:World}{D:Nat} (o':Obj) (hlo:lo<=D){o:Obj} (h:w.heap[D]? =some o) (hn:∀C T fz,o≠ .cells C T fz) (hm:∀es clk,o≠ .map es clk):NC lo w (w.putObj D o'):=by
 refine ⟨rfl,rfl,rfl,Nat.le_refl _,bg,λ k hk=>World.putObj_heap_other aa,λ k C T fz hc=>World.putObj_heap_other ?_,λ k es clk hc=>World.putObj_heap_other ?_⟩;all_goals grind
theorem Rel.nc {φ:zaD}{w w':World}{M:Nat->Prop} (hn:NC lo w w'):∀ {x:AV}{v:Value},Rel φ w M x v->Rel φ w' M x v:=by
 intro x v h;refine Rel.rec (φ:=φ) (w:=w) (M:=M) (motive_1:=λ x v _=>Rel φ w' M x v) (motive_2:=λ xs vs _=>za2 φ w' M xs vs) ?_ ?_ ?_ ?_ ?_ ?_ ?_ ?_ ?_ ?_ ?_ ?_ ?_ ?_ h
 ·exact λ v=> .top v
 ·exact λ v=> .v v
 ·exact λ hv _ ih=> .agg hv ih
 ·exact λ _ ih=> .tup ih
 ·exact λ sz A cap=> .nil sz A cap
 ·intro sz rows a len cap C T fz hs hm hb hr hl hc hcap hv _ ih;exact .lst hs hm ((hn.cells _ _ _ _ hb).trans hb) hr hl hc hcap hv ih
 ·intro cells a C T fz hs hm hb hc hv _ ih;exact .fp hs hm ((hn.cells _ _ _ _ hb).trans hb) hc hv ih
 ·exact λ ho hg h=> .ref ho hg h
 ·exact λ ho hg h=> .sl ho hg h
 ·exact λ ho h=> .mp ho h
 ·exact λ _ _ ih1 ih2=> .fn ih1 ih2
 ·exact λ _ h' ih=> .gd ih h'
 ·exact .nil
 ·exact λ _ _ ih1 ih2=> .cons ih1 ih2
theorem za2.nc {φ:zaD}{w w':World}{M:Nat->Prop}{lo:Nat} (hn:NC lo w w'):∀ {xs:List AV}{vs:List Value},za2 φ w M xs vs->za2 φ w' M xs vs
 | [], _, .nil=> .nil
 | _:: _, _, .cons h t=> .cons (h.nc hn) (t.nc hn)
theorem zaW.nc {φ:zaD}{F:Nat->Prop}{w w':World}{M:Nat->Prop}{h:zay}{lo:Nat} (hn:NC lo w w') (hH:zaW φ F w M h):zaW φ F w' M h:=by
 refine ⟨λ k hk=>by rw [hn.size];exact hH.m0 k hk,hH.fresh,λ o mt g sz rs ho=> ?_,hH.inj,λ p hp=>(hH.glob p hp).nc hn⟩;obtain ⟨A,hA,h1⟩:=hH.obj o mt g sz rs ho;refine ⟨A,hA,h1.imp id ?_⟩;rintro ⟨a,bs,e1,e3,hd⟩;have hb:w'.heap[a.block]? =w.heap[a.block]? :=by
  rcases hd with ⟨C,T, _,e4, _⟩|⟨es,clk, _,e4, _⟩
  ·exact hn.cells _ _ _ _ e4
  ·exact hn.maps _ _ _ e4
 exact ⟨a,bs,e1,e3,hd.keep hb (λ e9=>e9.nc hn)⟩
theorem ze3.nc {φ φ':zaD}{w w' w'':World}{M:Nat->Prop}{h h':zay} (st:ze3 φ w M h φ' w' h') (hn:NC w.heap.size w' w''):ze3 φ w M h φ' w'' h':=
 ⟨st.le,st.or,⟨hn.os.trans st.fr.os,hn.tape.trans st.fr.tape,hn.output.trans st.fr.output,Nat.le_trans st.fr.drawn hn.drawn,by rw [hn.size];exact st.fr.size,λ k hk hu=>(hn.low k hk).trans (st.fr.block k hk hu)⟩,st.mutd⟩
theorem zhd (M:zfH):Or M (λ _=>False)=M:=funext λ k=>propext ⟨λ h=>h.elim id False.elim, .inl⟩
theorem zsM (A B C:zfH):Or (Or A B) C=Or A (Or B C):=funext λ k=>propext ⟨λ h=>h.elim (λ h=>h.imp id .inl) λ h=> .inr (.inr h),λ h=>h.elim (λ h=> .inl (.inl h)) λ h=>h.imp .inr id⟩
theorem Rel.lessM {φ:zaD}{w:World}{M M':Nat->Prop} (hM:∀k,M' k->M k) (hx:Rel φ w M x v):Rel φ w M' x v:=
 hx.keep φ.le_refl (λ _ _ _=>rfl) λ k hk=> .inl (hM k hk)
theorem za2.lessM {φ:zaD}{w:World}{M M':Nat->Prop} (hM:∀k,M' k->M k) (hx:za2 φ w M xs vs):za2 φ w M' xs vs:=
 hx.keep φ.le_refl (λ _ _ _=>rfl) λ k hk=> .inl (hM k hk)
theorem zaW.lessM {φ:zaD}{F:Nat->Prop}{w:World}{M M':Nat->Prop}{h:zay} (hM:∀k,M' k->M k) (hH:zaW φ F w M h):zaW φ F w M' h:=by
 refine ⟨λ k hk=>hH.m0 k (hM k hk),hH.fresh,λ o mt g sz rs ho=> ?_,hH.inj,hH.glob.keep (λ _ _ _=>rfl) (λ k hk=> .inl (hk.imp (hM k) id))⟩;obtain ⟨A,hA,h1⟩:=hH.obj o mt g sz rs ho;refine ⟨A,hA,h1.imp id ?_⟩;rintro ⟨a,bs,e1,e3,hd⟩;exact ⟨a,bs,e1,λ hk=>e3 (hM _ hk),hd.keep rfl (λ e9=>e9.lessM λ k hk=>hk.imp (hM k) id)⟩
theorem zaW.mut_cells {φ:zaD}{F:Nat->Prop}{w:World}{M:Nat->Prop}{h:zay} (hH:zaW φ F w M h) (hk:Mut φ h k):¬M k∧((∃C T fz,w.heap[k]? =some (.cells C T fz))∨∃es clk,w.heap[k]? =some (.map es clk)):=by
 obtain ⟨o,g,sz,rs,g',a,bs,ho,hp,rfl⟩:=hk;obtain ⟨A,hA,hc⟩:=hH.obj _ _ _ _ _ ho;grind [zmL]
theorem zqg.add {M M' O:zfH}{w w':World} (g:zqg M w M' w') (hO:∀k,O k->k<w.heap.size):zqg (Or M O) w (Or M' O) w':=
 ⟨g.size,λ k hk hn=>g.keep k hk λ hm=>hn (.inl hm),λ k hk=>hk.elim (λ hk=>(g.new k hk).imp .inl id) λ hk=> .inl (.inr hk),
  λ k hk=>hk.elim (g.lt k) λ hk=>Nat.lt_of_lt_of_le (hO k hk) g.size⟩
theorem Fr.more {w w':World}{U U':zfH} (h:Fr w U w') (hU:∀k,U k->U' k):Fr w U' w':=⟨h.os,h.tape,h.output,h.drawn,h.size,λ k hk hn=>h.block k hk λ hu=>hn (hU k hu)⟩
end Go.Av
end
