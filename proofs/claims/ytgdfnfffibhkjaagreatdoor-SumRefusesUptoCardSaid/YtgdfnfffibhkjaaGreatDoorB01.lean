/- Texts of ours, part 1: our library and contracts of functions. -/
import Derived.Test.YtgdfnfffibhkjaaGreatDoorB00
import Derived.Laws.StructEq
import Derived.MapKept
set_option linter.unusedSimpArgs false
set_option linter.unusedVariables false
set_option maxRecDepth 100000
set_option maxHeartbeats 40000000
section
namespace Go.Av
open Go

variable {k:IntKind}
theorem rK {n:Int} (h:MI k n):k.wrap n=n:=by
 obtain ⟨h1,h2⟩:=h;cases k<;>simp [IntKind.min,IntKind.max,IntKind.signed,IntKind.bits] at h1 h2<;>simp [IntKind.wrap,IntKind.signed,IntKind.bits]<;>omega

variable {b r:Bool} {xo yo:Operand} {op:BinOp} {ats:Array TypeId} {us vs:List Value} {cs xs ys:List AV} {x y:AV} {e t ty:TypeId} {u v:Value} {M:Nat->Prop} {d len sz:Nat}
section reads
variable {P:Program} {φ:aQ} {F:Nat->Prop} {w:World} {M0:Nat->Prop} {h:au}

theorem br.sl_alive (hH:br φ F w M0 h){o g i:Nat} (ha:fI h o g sz) (hx:bY φ w M (.sl o g sz i len) v):
  ∃A cap,v= .slice A len cap∧len<=cap∧((A=none∧i=0∧len=0∧cap=0)∨(len=0∧cap=0∧A.isSome=true)∨
   ∃a bs,φ o=some (g,some (a,bs))∧a.spot=none∧A=some ⟨a.block,a.off+i * sz,none⟩∧a.off+i * sz+cap * sz<=bs):=by
 obtain ⟨mt,rs,A, _,hp⟩:=hH.alive_at ha;cases hx<;>grind

theorem iy (k:IntKind) (x:Int):(asIntOf (.int k x)).run P w= .ok (k,x) w:=rfl

theorem E6 (hH:br φ F w M0 h){ix:AV} (hx:bY φ w (Or M0 (bc φ h)) x v) (hi:bY φ w (Or M0 (bc φ h)) ix u)
  (hc:(jm P t x ix h).cond):ft P φ w (Or M0 (bc φ h)) (jm P t x ix h) (Instr.indexAt t v u):=by
 unfold jm at hc ⊢;split at hc
 ·rename_i e o g sz i len k n' ht;cases hi;obtain ⟨hal,hsz,h0,hlt⟩:=hc;obtain ⟨A,cap,rfl,hcap,hA⟩:=hH.sl_alive hal hx;rcases hA with ⟨_, _,rfl, _⟩|⟨rfl, _⟩|⟨a,bs,hp,hsp,rfl,hb⟩
  ·omega
  ·omega
  refine ⟨.pointer (some ⟨a.block,a.off+i * sz+n'.toNat * sz,none⟩), ?_, ?_,rfl,rfl⟩
  ·have h2:0<=n'∧n'<(len:Int):=by omega
   simp [Instr.indexAt,iy,ar (iX ht),h2,dq hsz,jO]
  ·exact .ref hp (Nat.le_refl _) λ _=>⟨a,bs,rfl,hsp,pi⟩
 ·rename_i e sz rows k n' ht;cases hi;obtain ⟨hsz,h0,hlt⟩:=hc;cases hx with
  |nil=>grind
  | @lst _ _ a len cap C T fz hs hM hb hr hl hc hcap hv hrel=>
   have hle:n'.toNat * sz+sz<=rows.length * sz:=by
    have:=Nat.mul_le_mul_right sz (show n'.toNat+1<=rows.length from hlt);grind
   have hg:ac rows n'.toNat=rows[n'.toNat]:=by simp [ac,hlt]
   have e1:(C.toList.drop (a.off+n'.toNat * sz)).take rows[n'.toNat].length=(((C.toList.drop a.off).take (rows.length * sz)).drop (n'.toNat * sz)).take sz:=by
    grind [List.drop_take,List.drop_drop]
   refine ⟨.pointer (some ⟨a.block,a.off+n'.toNat * sz,none⟩), ?_, ?_,rfl,rfl⟩
   ·have h2:0<=n'∧n'<(len:Int):=by omega
    simp [Instr.indexAt,iy,ar (iX ht),h2,dq hsz,jO hs]
   ·simp only [hg];refine .fp (a:=⟨a.block,a.off+n'.toNat * sz,none⟩) rfl hM hb pi ?_ ?_
    ·grind
    ·rw [e1,uq hr _ hlt];exact (hrel.drop _).take _
 ·rename_i len e o g sz i off k n' ht;cases hi;split at hc
  ·rename_i s hsz;obtain ⟨hal,h0,hlt⟩:=hc;obtain ⟨a,rfl⟩:=hH.ref_alive hal hx;refine ⟨.pointer (some ⟨a.block,a.off+i * sz+off+n'.toNat * s,none⟩), ?_, ?_,rfl,rfl⟩
   ·have h2:0<=n'∧n'<(len:Int):=⟨h0,hlt⟩
    simp [Instr.indexAt,iy,ar (DS ht),h2,dq hsz,Instr.sureAddr,jO]
   grind [Py]
  grind
 ·rename_i len e cells k n' ht;cases hi;split at hc
  ·rename_i s hsz;obtain ⟨h0,hlt,hle⟩:=hc;cases hx with
   | @fp _ a C T fz hs hM hb hl hcv hrel=>
    have e1:(C.toList.drop (a.off+n'.toNat * s)).take (cells.drop (n'.toNat * s)).length=((C.toList.drop a.off).take cells.length).drop (n'.toNat * s):=by
     grind [List.drop_take,List.drop_drop]
    refine ⟨.pointer (some ⟨a.block,a.off+n'.toNat * s,none⟩), ?_, ?_,rfl,rfl⟩
    ·have h2:0<=n'∧n'<(len:Int):=⟨h0,hlt⟩
     simp [Instr.indexAt,iy,ar (DS ht),h2,dq hsz,Instr.sureAddr,jO hs]
    ·refine .fp (a:=⟨a.block,a.off+n'.toNat * s,none⟩) rfl hM hb pi ?_ ?_
     ·grind
     ·rw [e1];exact hrel.drop _
  grind
 grind

theorem pC {s:Nat} (h1:gy P t=some true) (h2:yW P t=some s) (vs:List Value):
  (part t ⟨vs⟩ d).run P w= .ok (.agg ⟨(vs.drop d).take s⟩) w:=by
 simp_all [part,zw,dq]
theorem jt  (h1:gy P t=some false) (vs:List Value) (hd:d<vs.length):
  (part t ⟨vs⟩ d).run P w= .ok vs[d] w:=by
 simp [part,zw h1,hd]

theorem Bq  (hx:bY φ w M (.agg cs) v) (d s:Nat):∃vs,v= .agg ⟨vs⟩∧aU φ w M cs vs∧bY φ w M (.agg ((cs.drop d).take s)) (.agg ⟨(vs.drop d).take s⟩):=by
 cases hx with
 |agg hv hrel=>exact ⟨_,rfl,hrel, .agg (λ u hu=>hv u (List.mem_of_mem_drop (List.mem_of_mem_take hu))) ((hrel.drop d).take s)⟩
theorem aU.getD  (h:aU φ w M cs vs) (d:Nat) (hd:d<cs.length):∃hd':d<vs.length,bY φ w M (mZ cs d) vs[d]:=by
 have hd':d<vs.length:=by rw [<- h.length];exact hd
 exact ⟨hd',by have:=h.get d hd hd';grind [mZ]⟩

theorem On {s:TypeId}{f:Nat} (hx:bY φ w M x v) (hc:(BN P s x f).cond):
  ft P φ w M (BN P s x f) (Instr.field s v f):=by
 unfold BN at hc ⊢;split at hc
 ·rename_i d t cs hd ht;obtain ⟨fs,fl,hu,hf,hoff⟩:=Dk hd;have hty:fl.type=t:=by grind [Rd]
  split at hc
  ·rename_i m ha hz;obtain ⟨vs,rfl,hrel,hr⟩:=Bq hx d m;exact ⟨_,by simp_all [Instr.field,ar,asAgg,pC],hr,rfl,rfl⟩
  ·obtain ⟨vs,rfl,hrel, _⟩:=Bq hx d 0;obtain ⟨hd',hr⟩:=hrel.getD d hc;exact ⟨_,by simp_all [Instr.field,ar,asAgg,jt],hr,rfl,rfl⟩
  grind
 grind

theorem OF {ix:AV} (hx:bY φ w M x v) (hi:bY φ w M ix u) (hc:(BP P t x ix).cond):
  ft P φ w M (BP P t x ix) (Instr.index t v u):=by
 unfold BP at hc ⊢;split at hc
 ·rename_i len e cs k n' ht;cases hi;split at hc
  ·rename_i s ha hz;obtain ⟨h0,hlt,hle⟩:=hc;obtain ⟨vs,rfl,hrel,hr⟩:=Bq hx (n'.toNat * s) s;have h2:0<=n'∧n'<(len:Int):=⟨h0,hlt⟩
   exact ⟨_,by simp [Instr.index,iy,ar (DS ht),h2,dq hz,pC ha hz],hr,rfl,rfl⟩
  ·rename_i s ha hz;obtain ⟨h0,hlt,hle⟩:=hc;obtain ⟨vs,rfl,hrel, _⟩:=Bq hx 0 0;obtain ⟨hd',hr⟩:=hrel.getD (n'.toNat * s) hle;have h2:0<=n'∧n'<(len:Int):=⟨h0,hlt⟩
   refine ⟨_, ?_,hr,rfl,rfl⟩;simp only [Instr.index,Sem.run_bind,iy,Result.andThen_ok,ar (DS ht),h2,and_self,if_true,dq hz,jt ha vs hd']
  grind
 ·rename_i s k n' ht;cases hi;cases hx;have hb:s[n'.toNat]? =some (s.data.toList.getD n'.toNat 0):=by
   simp_all [ByteArray.getElem_eq_getElem_data]
  refine ⟨_, ?_, .v _,rfl,rfl⟩;simp_all [Instr.index,iy,ar,zD]
 grind

theorem Bf {k:TypeId} (h:tk P t= .map k e):P.underlying t=some (.map k e):=by
 grind [tk]
def fE (φ:aQ) (w:World) (M:Nat->Prop) (rs:List (List AV)) (es:List MapEntry):Prop:=aU φ w M rs.flatten (es.flatMap λ e=> [e.key,e.val])
theorem br.mp_at (hH:br φ F w M0 h){o:Nat}{mt:Bool}{rs:List (List AV)} (ho:h o=some (.rows mt 0 sz rs)) (hx:bY φ w M (.mp o) v):
  ∃a bs es clk,φ o=some (0,some (a,bs))∧a.spot≠none∧¬M0 a.block∧v= .map (some a.block)∧w.heap[a.block]? =some (.map es clk)∧es.size=rs.length∧(sz=2∧∀r ∈ rs,r.length=2)∧fE φ w (Or M0 (bc φ h)) rs es.toList:=by
 obtain ⟨A,hA,h1⟩:=hH.obj _ _ _ _ _ ho;cases hx with
 |mp hp hh=>
  grind [fE,m9]
theorem VH (hH:br φ F w M0 h) (ha:ats[0]? =some t) (hx:bY φ w (Or M0 (bc φ h)) x v) (hc:(Ed P t x h).cond):
  ft P φ w (Or M0 (bc φ h)) (Ed P t x h) (Builtin.len_ ats ty #[v]):=by
 unfold Ed at hc ⊢;split at hc
 ·obtain ⟨A,cap,rfl, _⟩:=hH.sl_alive hc hx;exact ⟨_,W9, .v _,rfl,rfl⟩
 ·cases hx with
  |nil=>exact ⟨_,W9, .v _,rfl,rfl⟩
  |lst hs hM hb hr hl hc hcap hv hrel=>exact ⟨_,W9, .v _,rfl,rfl⟩
 ·cases hx;exact ⟨_,W9, .v _,rfl,rfl⟩
 ·cases hx;exact ⟨_,by simp_all [Builtin.len_,ar,zD,goInt], .v _,rfl,rfl⟩
 ·rename_i e ht;exact ⟨_,by simp [Builtin.len_,ha,ar (DS ht),goInt], .v _,rfl,rfl⟩
 ·rename_i o ht;split at hc
  ·rename_i mt rs ho;obtain ⟨a,bs,es,clk,hp,hs,h0,rfl,hb,hl,⟨_,h2⟩,he⟩:=hH.mp_at ho hx;exact ⟨_,by simp [Builtin.len_,ha,ar (Bf ht),MapKept.run_getObj_map hb,hl,goInt], .v _,rfl,rfl⟩
  grind
 grind

theorem UQ  (hx:bY φ w M x v) (hy:bY φ w M y u) (hc:(Of op x y).cond):
  ft P φ w M (Of op x y) (do eqGuard op t xo yo v u;binOp op t v u):=by
 unfold Of at hc ⊢;split at hc;case h_1 k a k' b=>
  cases hx;cases hy;obtain ⟨h0,h1,h2,h3⟩:=hc;have e:min b.toNat 64=b.toNat:=ge;refine ⟨_, ?_, .v _,rfl,rfl⟩;simp [eqGuard,binOp,Op.shift,show ¬b<0 by omega,h3,e,rK h2]
 case h_2 k a k' b=>
  cases hx;cases hy;have hk:8<=k.bits:=by cases k<;>decide
  have e:min b.toNat k.bits=b.toNat:=ge;refine ⟨_, ?_, .v _,rfl,rfl⟩;simp [eqGuard,binOp,Op.shift,show ¬b<0 by omega,e]
 case h_3 k a k' b=>cases hx;cases hy;obtain ⟨rfl,h2⟩:=hc;exact ⟨_,XD, .v _,rfl,rfl⟩
 case h_4 k a k' b=>cases hx;cases hy;obtain ⟨rfl,h2⟩:=hc;exact ⟨_,XD, .v _,rfl,rfl⟩
 case h_5 k a k' b=>cases hx;cases hy;obtain ⟨rfl,h2⟩:=hc;exact ⟨_,XD, .v _,rfl,rfl⟩
 case h_6 k a k' b=>cases hx;cases hy;obtain ⟨rfl,h2,h3⟩:=hc;exact ⟨_,by simp_all [eqGuard,binOp,Op.intDiv,rK], .v _,rfl,rfl⟩
 case h_7 k a k' b=>cases hx;cases hy;obtain ⟨rfl,h2⟩:=hc;exact ⟨_,by simp [eqGuard,binOp,Op.intDiv,h2], .v _,rfl,rfl⟩
 case h_8 k a k' b=>cases hx;cases hy;exact ⟨_,by simp_all [eqGuard,binOp,Op.intBits,sT], .v _,rfl,rfl⟩
 case h_9 k a k' b=>cases hx;cases hy;exact ⟨_,by simp_all [eqGuard,binOp,Op.intBits,orN], .v _,rfl,rfl⟩
 case h_10 k a k' b=>cases hx;cases hy;exact ⟨_,by simp_all [eqGuard,binOp,Op.intBits,mO], .v _,rfl,rfl⟩
 case h_11 k a k' b=>cases hx;cases hy;obtain rfl:=hc;exact ⟨_,by simp [eqGuard,binOp,Op.intCmp];rfl, .v _,rfl,rfl⟩
 case h_12 k a k' b=>cases hx;cases hy;obtain rfl:=hc;exact ⟨_,by simp [eqGuard,binOp,Op.intCmp];rfl, .v _,rfl,rfl⟩
 case h_13 k a k' b=>cases hx;cases hy;obtain rfl:=hc;exact ⟨_,Xk, .v _,rfl,rfl⟩
 case h_14 k a k' b=>cases hx;cases hy;obtain rfl:=hc;exact ⟨_,Xk, .v _,rfl,rfl⟩
 case h_15 k a k' b=>cases hx;cases hy;obtain rfl:=hc;exact ⟨_,Xk, .v _,rfl,rfl⟩
 case h_16 k a k' b=>cases hx;cases hy;obtain rfl:=hc;exact ⟨_,Xk, .v _,rfl,rfl⟩
 case h_17 a b=>
  cases hx;cases hy;have h1:¬((a.size:Int)+b.size>IntKind.i64.max):=by grind [IntKind.max,IntKind.bits]
  refine ⟨_, ?_, .v _,rfl,rfl⟩;simp_all [eqGuard,binOp,Op.stringOp]
 case h_18 a b=>cases hx;cases hy;exact ⟨_,XU, .v _,rfl,rfl⟩
 grind

theorem zc0 {op:UnOp} (hx:bY φ w M x v) (hc:(zbM op x).cond):ft P φ w M (zbM op x) (Op.unary op v):=by
 unfold zbM at hc ⊢;split at hc
 ·cases hx;exact ⟨_,by simp [Op.unary], .v _,rfl,rfl⟩
 ·cases hx;exact ⟨_,by simp_all [Op.unary,Op.intArith,rK], .v _,rfl,rfl⟩
 grind

theorem A7 {c:AV}{g:Bool} (h:bY φ w M c v) (hp:pB c=some (g,b)):g=true->v= .bool b:=by
 intro hg;unfold pB at hp;split at hp
 ·obtain ⟨rfl,rfl⟩:=hp;cases h;rfl
 ·obtain ⟨rfl,rfl⟩:=hp;cases h with|gd h _=>cases h hg;rfl
 grind
theorem Si {c a b:AV}{vc va vb:Value} (h1:bY φ w M c vc) (h2:bY φ w M a va) (h3:bY φ w M b vb) (hc:(GM c a b).cond):
  ft P φ w M (GM c a b) (do pure (if <- asBool vc then va else vb)):=by
 unfold GM at hc ⊢;split at hc
 ·rename_i g c' g1 x g2 y e1 e2 e3;obtain ⟨q1,q2,q3⟩:=hc;have:=A7 h1 e1 q1;subst this;refine ⟨_,by simp [asBool];rfl, ?_,rfl,rfl⟩;cases c' with
  |true=>have:=A7 h2 e2 (q2 rfl);subst this;exact .v _
  |false=>have:=A7 h3 e3 (q3 rfl);subst this;exact .v _
 ·rename_i g c' g1 x e1 e2 e3;obtain ⟨q1,q2,q3⟩:=hc;have:=A7 h1 e1 q1;subst this;subst q2;refine ⟨_,by simp [asBool];rfl, ?_,rfl,rfl⟩;have:=A7 h2 e2 q3;subst this;exact .v _
 ·rename_i g c' g2 y e1 e2 e3;obtain ⟨q1,q2,q3⟩:=hc;have:=A7 h1 e1 q1;subst this;subst q2;refine ⟨_,by simp [asBool];rfl, ?_,rfl,rfl⟩;have:=A7 h3 e3 q3;subst this;exact .v _
 grind
theorem zeG  (h:tk P t= .bool):P.underlying t=some .bool:=by
 grind [tk]
theorem GI  (h:tk P t= .bool) (a b:Bool):(Op.equal t (.bool a) (.bool b)).run P w= .ok (a==b) w:=by
 unfold Op.equal;rw [show Op.maxDepth=(Op.maxDepth - 1)+1 from rfl,Op.equalIn];simp [ar (zeG h)]
theorem ze  (h:tk P t= .sl e) (A:Option Addr) (l c:Nat):(Op.equal t (.slice A l c) (.slice none 0 0)).run P w= .ok A.isNone w:=by
 unfold Op.equal;rw [show Op.maxDepth=(Op.maxDepth - 1)+1 from rfl,Op.equalIn];cases A<;>simp [ar (iX h)]
theorem Hg  (h:En P t=true):∃a b c,P.underlying t=some (.func a b c):=by
 grind [En]
theorem Od  (h:En P t=true) (f:Fn) (a b:Array Value):(Op.equal t (.func f a b) .nilFunc).run P w= .ok false w:=by
 obtain ⟨x,y,z,e⟩:=Hg h;unfold Op.equal;rw [show Op.maxDepth=(Op.maxDepth - 1)+1 from rfl,Op.equalIn];simp [ar e]
theorem Ec  (h:En P t=true):(Op.equal t .nilFunc .nilFunc).run P w= .ok true w:=by
 obtain ⟨x,y,z,e⟩:=Hg h;unfold Op.equal;rw [show Op.maxDepth=(Op.maxDepth - 1)+1 from rfl,Op.equalIn];simp [ar e]
def xq:Int ⊕ Bool->Value
 | .inl n=> .int .i64 n
 | .inr b=> .bool b
theorem mV {M:Nat->Prop}:∀ {xs:List AV}{vs:List Value}{a:List (Int ⊕ Bool)},aU φ w M xs vs->nC xs=some a->vs=a.map xq
 | [], _,a,h,e=>by cases h;simp [nC] at e;subst e;rfl
 |x::xs, _,a,h,e=>by
  cases h with
  |cons hx ht=>
   unfold nC at e;split at e
   ·rename_i e0;cases e0
   ·rename_i n l e0;obtain ⟨rfl,rfl⟩:=e0;cases hx;rw [Option.map_eq_some_iff] at e;obtain ⟨b,hb,rfl⟩:=e;rw [mV ht hb];rfl
   ·rename_i n l e0;obtain ⟨rfl,rfl⟩:=e0;cases hx;rw [Option.map_eq_some_iff] at e;obtain ⟨b,hb,rfl⟩:=e;rw [mV ht hb];rfl
   ·cases e
theorem wA (d:Nat) (h:P.underlying t=some .bool) (a b:Bool):(Op.equalIn (d+1) t (.bool a) (.bool b)).run P w= .ok (a==b) w:=by
 rw [Op.equalIn];simp [ar h]
theorem LG (d:Nat) (a b:List (Int ⊕ Bool)) (fs:List Field):∀ (k:Nat),a.length=k+fs.length->b.length=k+fs.length->
  (∀i (h:i<fs.length),fs[i].name≠ "_" ∧fs[i].offset=k+i∧((∃kd,P.underlying fs[i].type=some (.int kd)∧(a[k+i]?).map Sum.isRight=some false∧(b[k+i]?).map Sum.isRight=some false)∨
   (P.underlying fs[i].type=some .bool∧(a[k+i]?).map Sum.isRight=some true∧(b[k+i]?).map Sum.isRight=some true)))->
  (Op.eqFields (d+1) (a.map xq).toArray (b.map xq).toArray fs).run P w= .ok (decide (a.drop k=b.drop k)) w:=by
 induction fs with
 |nil=>
  simp_all [Op.eqFields]
 |cons f fs ih=>
  intro k ha hb hf;obtain ⟨hn,ho,hk⟩:=hf 0 gt;simp only [List.getElem_cons_zero,Nat.add_zero] at hn ho hk;simp only [List.length_cons] at ha hb;have hka:k<a.length:=ge;have hkb:k<b.length:=ge;have hagg:gy P f.type=some false:=by
   grind [gy]
  have p1:=jt (P:=P) (w:=w) (d:=k) hagg (a.map xq) pi;have p2:=jt (P:=P) (w:=w) (d:=k) hagg (b.map xq) pi;have ih':=ih (k+1) ge ge (λ i hi=>by
   have:=hf (i+1) pi;grind)
  have d1:a.drop k=a[k]::a.drop (k+1):=List.drop_eq_getElem_cons hka;have d2:b.drop k=b[k]::b.drop (k+1):=List.drop_eq_getElem_cons hkb;have hq:(Op.equalIn (d+1) f.type (xq a[k]) (xq b[k])).run P w= .ok (decide (a[k]=b[k])) w:=by
   rw [List.getElem?_eq_getElem hka,List.getElem?_eq_getElem hkb] at hk;rcases hk with ⟨kd,hk,h1,h2⟩|⟨hk,h1,h2⟩
   ·revert h1 h2;cases a[k]<;>cases b[k]<;>simp [xq];grind [run_equalIn_int]
   ·revert h1 h2;cases a[k]<;>cases b[k]<;>simp [xq];grind [wA]
  grind [Op.eqFields,Sem.run_bind,Result.andThen_ok,List.cons.injEq,Sem.run_pure]
theorem zd3  (hx:aU φ w M xs vs) (hy:aU φ w M ys us) (h:eqS P t xs ys=some r):
  P.eqGuardType P.depth t=false∧(Op.equalIn 10000 t (.agg vs.toArray) (.agg us.toArray)).run P w= .ok r w:=by
 unfold eqS at h;split at h
 ·rename_i n a b h1 h2 h3;split at h
  ·rename_i hl;obtain rfl:=mV hx h2;obtain rfl:=mV hy h3;unfold r9 at h1;split at h1
   ·rename_i fs hfs;split at h1
    ·rename_i hall;simp only [Bool.and_eq_true,Bool.not_eq_true',List.all_eq_true,List.mem_range] at hall;obtain ⟨⟨q1,q2⟩,q3⟩:=hall;have hF:P.fieldsOf t=fs:=Yx;rw [run_equalIn_agg w 9999 t _ _ pi q1,hF];have l1:=congrArg List.length hl.1;have l2:=congrArg List.length hl.2;have:=LG (P:=P) (w:=w) 9998 a b fs.toList 0 pi pi (λ i hi=>by
      have hi':i<fs.size:=pi;have:=q3 i hi';rw [Array.getElem?_eq_getElem hi'] at this;simp only [Bool.and_eq_true,bne_iff_ne,ne_eq,beq_iff_eq] at this;have g1:=congrArg (λ l:List Bool=>l[i]?) hl.1;grind)
     grind
    grind
   grind
  ·cases h
 ·cases h
def oV (P:Program) (t:TypeId) (a:List (Int ⊕ Bool)):Value:=if gy P t=some true then .agg (a.map xq).toArray else match a with
 | [x]=>xq x
 | _=>undef
theorem HR {l:Nat} (hs:yW P t=some l) (ha:gy P t=some true∨gy P t=some false∧l=1) (as:List (Int ⊕ Bool)){k:Nat} (hk:k+l<=as.length):
  (part t (as.map xq).toArray k).run P w= .ok (oV P t ((as.drop k).take l)) w:=by
 unfold oV;grind [pC,List.map_take,List.map_drop,jt,List.drop_eq_getElem_cons]
theorem zah {fl:List Bool} (h:Ig P d t=some fl):(gy P t=some true∧∃fs,P.underlying t=some (.struct fs))∨(gy P t=some false∧fl.length=1):=by
 cases d<;>grind [Ig,gy]
theorem JC (m:Nat){T:TypeId->Option (List Bool)} (hT:∀t fl,T t=some fl->(gy P t=some true∨gy P t=some false∧fl.length=1)∧∀a b:List (Int ⊕ Bool),a.map Sum.isRight=fl->b.map Sum.isRight=fl->
   (Op.equalIn m t (oV P t a) (oV P t b)).run P w= .ok (decide (a=b)) w) (as bs:List (Int ⊕ Bool)):
  ∀ (fs:List Field) (k:Nat) (fl:List Bool),N4 P T fs k=some fl->(as.drop k).map Sum.isRight=fl->(bs.drop k).map Sum.isRight=fl->
   (Op.eqFields m (as.map xq).toArray (bs.map xq).toArray fs).run P w= .ok (decide (as.drop k=bs.drop k)) w
 | [],k,fl,h,ha,hb=>by
  simp only [N4,Option.some.injEq] at h;subst h;have e1:as.drop k= []:=by simpa using ha
  have e2:bs.drop k= []:=by simpa using hb
  simp [Op.eqFields,e1,e2]
 |f::fs,k,fl,h,ha,hb=>by
  rw [N4] at h;split at h
  ·rename_i hn;simp only [Bool.and_eq_true,bne_iff_ne,ne_eq,beq_iff_eq] at hn;split at h
   ·rename_i l r h1 h2;split at h
    ·rename_i h3;cases h;rw [h3,Option.getD_some] at h2;obtain ⟨g1,g2⟩:=hT _ _ h1;have la:=congrArg List.length ha;have lb:=congrArg List.length hb;simp only [List.length_map,List.length_drop,List.length_append] at la lb;have a1:((as.drop k).take l.length).map Sum.isRight=l:=by rw [List.map_take,ha];simp
     have b1:((bs.drop k).take l.length).map Sum.isRight=l:=by rw [List.map_take,hb];simp
     have a2:(as.drop (k+l.length)).map Sum.isRight=r:=by rw [<- List.drop_drop,List.map_drop,ha];simp
     have b2:(bs.drop (k+l.length)).map Sum.isRight=r:=by rw [<- List.drop_drop,List.map_drop,hb];simp
     have ih:=JC m hT as bs fs (k+l.length) r h2 a2 b2;have hka:k+l.length<=as.length∨l= []∧r= []:=by
      by_cases e:l.length=0
      ·by_cases e2:k<=as.length
       ·omega
       ·right;exact ⟨List.eq_nil_of_length_eq_zero e,List.eq_nil_of_length_eq_zero ge⟩
      ·omega
     have hkb:k+l.length<=bs.length∨l= []∧r= []:=by
      by_cases e:l.length=0
      ·by_cases e2:k<=bs.length
       ·omega
       ·right;exact ⟨List.eq_nil_of_length_eq_zero e,List.eq_nil_of_length_eq_zero ge⟩
      ·omega
     have p1:(part f.type (as.map xq).toArray k).run P w= .ok (oV P f.type ((as.drop k).take l.length)) w:=by
      rcases hka with hka|⟨rfl,rfl⟩
      ·exact HR h3 g1 as hka
      ·rcases g1 with g1|⟨_,g1⟩
       ·rw [pC g1 h3];simp [oV,g1]
       ·simp at g1
     have p2:(part f.type (bs.map xq).toArray k).run P w= .ok (oV P f.type ((bs.drop k).take l.length)) w:=by
      rcases hkb with hkb|⟨rfl,rfl⟩
      ·exact HR h3 g1 bs hkb
      ·rcases g1 with g1|⟨_,g1⟩
       ·rw [pC g1 h3];simp [oV,g1]
       ·simp at g1
     rw [Op.eqFields,if_pos hn.1,hn.2];simp only [Sem.run_bind,p1,p2,Result.andThen_ok,g2 _ _ a1 b1];have key:as.drop k=bs.drop k↔(as.drop k).take l.length=(bs.drop k).take l.length∧as.drop (k+l.length)=bs.drop (k+l.length):=by
      refine ⟨λ e=>⟨by rw [e],by rw [<- List.drop_drop,<- List.drop_drop,e]⟩,λ ⟨e1,e2⟩=> ?_⟩;rw [<- List.take_append_drop l.length (as.drop k),<- List.take_append_drop l.length (bs.drop k),e1,List.drop_drop,List.drop_drop,e2]
     by_cases he:(as.drop k).take l.length=(bs.drop k).take l.length
     ·simp only [he,decide_true,Bool.not_true,Bool.false_eq_true,if_false];rw [ih];congr 1;simp only [decide_eq_decide];rw [key];simp [he]
     ·simp only [he,decide_false,Bool.not_false,if_true,Sem.run_pure];congr 1;symm;rw [decide_eq_false_iff_not,key];exact λ h=>he h.1
    ·cases h
   ·cases h
  ·cases h
theorem KL:∀ (d m:Nat) (t:TypeId) (fl:List Bool),Ig P d t=some fl->∀a b:List (Int ⊕ Bool),a.map Sum.isRight=fl->b.map Sum.isRight=fl->
  (Op.equalIn (m+d) t (oV P t a) (oV P t b)).run P w= .ok (decide (a=b)) w
 |0, _, _, _,h, _, _, _, _=>WP
 |d+1,m,t,fl,h,a,b,ha,hb=>by
  unfold Ig at h;split at h
  ·rename_i kd hu;cases h;have hag:gy P t=some false:=by grind [gy]
   match a,b,ha,hb with
   | [.inl x], [.inl y], _, _=>
    simp only [oV,hag,Option.some.injEq,Bool.false_eq_true,if_false,xq];rw [<- Nat.add_assoc,run_equalIn_int w (m+d) t .i64 kd x y hu];simp;rfl
  ·rename_i hu;cases h;have hag:gy P t=some false:=by grind [gy]
   match a,b,ha,hb with
   | [.inr x], [.inr y], _, _=>
    simp only [oV,hag,Option.some.injEq,Bool.false_eq_true,if_false,xq];rw [<- Nat.add_assoc,wA (m+d) hu x y];cases x<;>cases y<;>rfl
  ·rename_i fs hu;split at h
   ·cases h
   ·have hag:gy P t=some true:=by grind [gy]
    have hF:P.fieldsOf t=fs:=Yx;simp only [oV,hag,if_true];rw [<- Nat.add_assoc,run_equalIn_agg w (m+d) t _ _ pi pi,hF];have:=JC (P:=P) (w:=w) (m+d) (T:=Ig P d) (λ t fl h=>⟨(zah h).imp (·.1) id,KL d m t fl h⟩) a b fs.toList 0 fl h pi pi;grind
  ·cases h
theorem Tp  (hx:aU φ w M xs vs) (hy:aU φ w M ys us) (h:zgL P t xs ys=some r):
  P.eqGuardType P.depth t=false∧(Op.equalIn 10000 t (.agg vs.toArray) (.agg us.toArray)).run P w= .ok r w:=by
 unfold zgL at h;split at h
 ·grind [zd3]
 ·split at h
  ·rename_i fl a b h1 h2 h3;split at h
   ·rename_i hl;obtain rfl:=mV hx h2;obtain rfl:=mV hy h3;unfold Mp at h1;split at h1
    ·cases h1
    ·split at h1
     ·have hag:gy P t=some true:=by grind [gy]
      have:=KL (P:=P) (w:=w) 4 9996 t fl h1 a b hl.1 hl.2;simp_all [oV]
     grind
   ·cases h
  ·cases h
theorem QE  (hx:bY φ w M x v) (hy:bY φ w M y u) (hc:(GK P op t x y).cond):
  ft P φ w M (GK P op t x y) (do eqGuard op t xo yo v u;binOp op t v u):=by
 unfold GK at hc ⊢;split at hc
 ·rename_i z hz;unfold zfM at hz;split at hz
  ·rename_i ht;cases hx;cases hy;cases hz;exact ⟨_,by simp [eqGuard,binOp,GI ht], .v _,rfl,rfl⟩
  ·rename_i ht;cases hx;cases hy;cases hz;exact ⟨_,by simp [eqGuard,binOp,GI ht], .v _,rfl,rfl⟩
  ·rename_i ht;cases hy;cases hz;cases hx with
   |lst=>exact ⟨_,Xz, .v _,rfl,rfl⟩
  ·rename_i ht;cases hy;cases hz;cases hx with
   |lst=>exact ⟨_,Xz, .v _,rfl,rfl⟩
  ·rename_i ht;cases hx;cases hy;cases hz;exact ⟨_,Xz, .v _,rfl,rfl⟩
  ·rename_i ht;cases hx;cases hy;cases hz;exact ⟨_,Xz, .v _,rfl,rfl⟩
  ·cases hx;cases hy;cases hz;exact ⟨_,XU, .v _,rfl,rfl⟩
  ·cases hx;cases hy;cases hz;exact ⟨_,XU, .v _,rfl,rfl⟩
  ·rw [Option.map_eq_some_iff] at hz;obtain ⟨r,hr,rfl⟩:=hz;cases hx with
   |agg _ hx=>cases hy with
    |agg _ hy=>
     obtain ⟨g1,g2⟩:=Tp hx hy hr;exact ⟨_,by simp_all [run_eqGuard_agg,run_eql_struct], .v _,rfl,rfl⟩
  ·rw [Option.map_eq_some_iff] at hz;obtain ⟨r,hr,rfl⟩:=hz;cases hx with
   |agg _ hx=>cases hy with
    |agg _ hy=>
     obtain ⟨g1,g2⟩:=Tp hx hy hr;exact ⟨_,by simp_all [run_eqGuard_agg,run_neq_struct], .v _,rfl,rfl⟩
  ·split at hz
   ·rename_i hf;cases hy;cases hz;cases hx with
    |fn=>exact ⟨_,by simp [eqGuard,binOp,Od hf], .v _,rfl,rfl⟩
   grind
  ·split at hz
   ·rename_i hf;cases hy;cases hz;cases hx with
    |fn=>exact ⟨_,by simp [eqGuard,binOp,Od hf], .v _,rfl,rfl⟩
   grind
  ·split at hz
   ·rename_i hf;cases hx;cases hy;cases hz;exact ⟨_,by simp [eqGuard,binOp,Ec hf], .v _,rfl,rfl⟩
   grind
  ·split at hz
   ·rename_i hf;cases hx;cases hy;cases hz;exact ⟨_,by simp [eqGuard,binOp,Ec hf], .v _,rfl,rfl⟩
   grind
  grind
 grind [UQ]
theorem VO (hH:br φ F w M0 h) (hx:bY φ w M x v) (hc:(yb x h).cond):(∃a,v= .pointer (some a))∧(yb x h).val=x∧(yb x h).wr= []∧(yb x h).al=0:=by
 unfold yb at hc ⊢;split at hc
 ·obtain ⟨a,hv⟩:=hH.ref_alive hc hx;grind
 ·cases hx<;>grind
 grind
theorem VM  (hx:bY φ w M x v) (hy:bY φ w M y u) (hc:(Ok x y).cond):ft P φ w M (Ok x y) (Builtin.min_ ats ty #[v,u]):=by
 unfold Ok at hc ⊢;split at hc
 ·cases hx;cases hy;exact ⟨_,by simp [Builtin.min_,Builtin.min2], .v _,rfl,rfl⟩
 grind
theorem VL  (hx:bY φ w M x v) (hy:bY φ w M y u) (hc:(Oj x y).cond):ft P φ w M (Oj x y) (Builtin.max_ ats ty #[v,u]):=by
 unfold Oj at hc ⊢;split at hc
 ·cases hx;cases hy;exact ⟨_,by simp [Builtin.max_,Builtin.max2], .v _,rfl,rfl⟩
 grind

theorem IZ {i:Nat} (hx:bY φ w M x v) (hc:(vA x i).cond):ft P φ w M (vA x i) (Instr.extract v i):=by
 unfold vA at hc ⊢;split at hc
 ·cases hx with
  |tup hrel=>
   obtain ⟨hd',hr⟩:=hrel.getD i hc;exact ⟨_,by simp [Instr.extract,hd'],hr,rfl,rfl⟩
 grind

theorem jC {d:Int}{x:Option AV}{v:Option Value}{l:Int} (hx:match x,v with|none,none=>True|some x,some v=>bY φ w M x v| _, _=>False) (h:tw d x=some l):
  (v=none∧l=d)∨∃k,v=some (.int k l):=by
 unfold tw at h;split at h
 ·grind
 ·cases v with
  |none=>grind
  |some v=>cases hx;simp at h;subst h;grind
 ·cases h
theorem yO {x:Int}{y:Nat}{c:BoundsCode} (h0:0<=x) (h1:x<=y):(Instr.sliceBound (.int k x) y c).run P w= .ok x.toNat w:=by
 simp [Instr.sliceBound,iy,h0,h1]
theorem li {cap:Nat}{lo hi:Option Value}{l h':Int} (hl:(lo=none∧l=0)∨∃k,lo=some (.int k l)) (hh:(hi=none∧h'=len)∨∃k,hi=some (.int k h'))
  (h0:0<=l) (h1:l<=h') (h2:h'<=len) (h3:len<=cap):(Instr.sliceBounds b len cap lo hi none).run P w= .ok (l.toNat,h'.toNat,cap) w:=by
 unfold Instr.sliceBounds;have hb:∀k c,(Instr.sliceBound (.int k h') cap c).run P w= .ok h'.toNat w:=λ k c=>yO ge ge;have hb':∀k c,(Instr.sliceBound (.int k l) h'.toNat c).run P w= .ok l.toNat w:=λ k c=>yO h0 ge;rcases hl with ⟨rfl,rfl⟩|⟨k,rfl⟩<;>rcases hh with ⟨rfl,rfl⟩|⟨k',rfl⟩<;>simp [hb]<;>(simp_all)

theorem PK (hH:br φ F w M0 h){lo hi mx:Option AV}{vlo vhi vmx:Option Value} (hx:bY φ w (Or M0 (bc φ h)) x v)
  (hlo:match lo,vlo with|none,none=>True|some x,some v=>bY φ w (Or M0 (bc φ h)) x v| _, _=>False)
  (hhi:match hi,vhi with|none,none=>True|some x,some v=>bY φ w (Or M0 (bc φ h)) x v| _, _=>False)
  (hmx:mx=none->vmx=none)
  (hc:(um P t x lo hi mx h).cond):ft P φ w (Or M0 (bc φ h)) (um P t x lo hi mx h) (Instr.sliceAt t v vlo vhi vmx):=by
 unfold um at hc ⊢;split at hc
 ·rename_i e o g sz i len ht;obtain rfl:=hmx rfl;split at hc
  ·rename_i l h' hl hh;obtain ⟨hal,hsz,h0,h1,h2⟩:=hc;obtain ⟨A,cap,rfl,hcap,hA⟩:=hH.sl_alive hal hx;have hb:=li (P:=P) (w:=w) (b:=true) (jC hlo hl) (jC hhi hh) h0 h1 h2 hcap;refine ⟨.slice (if cap=l.toNat then A else A.map (·.add (l.toNat * sz))) (h'.toNat - l.toNat) (cap - l.toNat), ?_, ?_,rfl,rfl⟩
   ·simp [Instr.sliceAt,Instr.slice,ar (iX ht),hb,dq hsz]
   ·obtain ⟨mt,rs,A', _,hp⟩:=hH.alive_at hal;refine .sl hp (Nat.le_refl _) λ _=> ?_;rcases hA with ⟨rfl,rfl,rfl,rfl⟩|⟨rfl,rfl,hA⟩|⟨a,bs,hp',hsp,rfl,hcb⟩
    ·cases hx<;>grind
    ·cases A<;>grind
    ·rw [hp'] at hp;simp only [Option.some.injEq,Prod.mk.injEq,true_and] at hp;subst hp;by_cases hcl:cap=l.toNat
     ·grind
     ·refine .inr (.inr ⟨a,bs,cap - l.toNat,rfl,hsp, ?_,ge, ?_⟩)
      ·grind [jO]
      ·have e1:(i+l.toNat) * sz+(cap - l.toNat) * sz=i * sz+cap * sz:=by
        rw [<- Nat.add_mul,<- Nat.add_mul];grind
       omega
  grind
 ·rename_i e sz rows ht;obtain rfl:=hmx rfl;split at hc
  ·rename_i l h' hl hh;obtain ⟨hsz,h0,h1,h2⟩:=hc;cases hx with
   |nil _ A cap=>
    have e1:l=0:=pi;have e2:h'=0:=pi;subst e1 e2;have hb:=li (P:=P) (w:=w) (b:=true) (len:=0) (cap:=cap) (jC hlo hl) (jC hhi hh) h0 h1 ge ge;refine ⟨.slice (if cap=0 then A else A.map (·.add (0 * sz))) 0 (cap - 0), ?_, ?_,rfl,rfl⟩
    ·have hb':(Instr.sliceBounds true 0 cap vlo vhi none).run P w= .ok (0,0,cap) w:=hb;simp [Instr.sliceAt,Instr.slice,ar (iX ht),hb',dq hsz]
    ·exact .nil _ _ _
   | @lst _ _ a len cap C T fz hs hM hb hr hle hc hcap hv hrel=>
    subst hle;have hbb:=li (P:=P) (w:=w) (b:=true) (len:=rows.length) (cap:=cap) (jC hlo hl) (jC hhi hh) h0 h1 h2 hcap;have hlen:((rows.drop l.toNat).take (h'.toNat - l.toNat)).length=h'.toNat - l.toNat:=pi;refine ⟨.slice (if cap=l.toNat then some a else (some a).map (·.add (l.toNat * sz))) (h'.toNat - l.toNat) (cap - l.toNat), ?_, ?_,rfl,rfl⟩
    ·simp [Instr.sliceAt,Instr.slice,ar (iX ht),hbb,dq hsz]
    ·by_cases hcl:cap=l.toNat
     ·have e0:h'.toNat - l.toNat=0:=by omega
      simp only [e0,List.take_zero];exact .nil _ _ _
     ·have hr':∀r ∈ (rows.drop l.toNat).take (h'.toNat - l.toNat),r.length=sz:=λ r hr0=>hr r (List.mem_of_mem_drop (List.mem_of_mem_take hr0));have hm:(l.toNat+(h'.toNat - l.toNat)) * sz<=rows.length * sz:=Nat.mul_le_mul_right _ ge;have e1:(C.toList.drop (a.off+l.toNat * sz)).take ((h'.toNat - l.toNat) * sz)=(((C.toList.drop a.off).take (rows.length * sz)).drop (l.toNat * sz)).take ((h'.toNat - l.toNat) * sz):=by
       grind [List.drop_take,List.drop_drop]
      rw [if_neg hcl,Option.map_some,jO hs];refine .lst (a:=⟨a.block,a.off+l.toNat * sz,none⟩) rfl hM hb hr' hlen.symm pi ge ?_ ?_
      ·grind
      ·rw [hlen];rw [e1,o6 (λ r hr0=>hr r (List.mem_of_mem_drop hr0)),o5 hr];exact (hrel.drop _).take _
  grind
 ·rename_i e ht;obtain rfl:=hmx rfl;split at hc
  ·rename_i l h' hl hh;obtain ⟨rfl,rfl,h2⟩:=hc;cases hx;obtain ⟨sz,hsz⟩:=Option.isSome_iff_exists.1 h2;have hb:(Instr.sliceBounds true 0 0 vlo vhi none).run P w= .ok (0,0,0) w:=li (P:=P) (w:=w) (b:=true) (len:=0) (cap:=0) (jC hlo hl) (jC hhi hh) (Int.le_refl _) (Int.le_refl _) (Int.le_refl _) (Nat.le_refl _);exact ⟨.slice none 0 0,by simp [Instr.sliceAt,Instr.slice,ar (iX ht),hb,dq hsz], .v _,rfl,rfl⟩
  grind
 ·rename_i s ht;split at hc
  ·rename_i l h' hl hh;obtain ⟨h0,h1,h2⟩:=hc;cases hx;have hb:=li (P:=P) (w:=w) (b:=false) (len:=s.size) (cap:=s.size) (jC hlo hl) (jC hhi hh) h0 h1 WW (Nat.le_refl _);exact ⟨_,by simp_all [Instr.sliceAt,Instr.slice,ar,zD], .v _,rfl,rfl⟩
  grind
 grind
end reads
end Go.Av
end
section
/- Our library, part 7: the abstract operations are sound: those that make memory or write it. -/
namespace Go.Av
open Go

theorem Fr.refl (w:World) (U:Nat->Prop):Fr w U w:=⟨rfl,rfl,rfl,Nat.le_refl _,Nat.le_refl _,λ _ _ _=>rfl⟩
theorem fm.refl (φ:aQ) (w:World) (M0:Nat->Prop) (h:au):fm φ w M0 h φ w h:=⟨φ.le_refl,λ _ h=> .inl h,Fr.refl _ _,λ _ h=> .inl h⟩
theorem fm.trans {φ φ₁ φ₂:aQ}{w w₁ w₂:World}{M0:Nat->Prop}{h h₁ h₂:au} (a:fm φ w M0 h φ₁ w₁ h₁) (b:fm φ₁ w₁ M0 h₁ φ₂ w₂ h₂):fm φ w M0 h φ₂ w₂ h₂ where
 le:=aQ.le_trans a.le b.le
 or:=λ k hk=>by
  rcases b.or k hk with h|h
  ·exact a.or k h
  ·exact .inr (Nat.le_trans a.fr.size h)
 fr:=⟨b.fr.os.trans a.fr.os,b.fr.tape.trans a.fr.tape,b.fr.output.trans a.fr.output,Nat.le_trans a.fr.drawn b.fr.drawn,Nat.le_trans a.fr.size b.fr.size,λ k hk hu=>
  (b.fr.block k (Nat.lt_of_lt_of_le hk a.fr.size) (λ hm=>by rcases a.mutd k hm with h|h;exact hu h;omega)).trans (a.fr.block k hk hu)⟩
 mutd:=λ k hk=>by
  rcases b.mutd k hk with h|h
  ·exact a.mutd k h
  ·exact .inr (Nat.le_trans a.fr.size h)
variable {vparts:Array (Nat×Value)} {parts:List (Nat×AV)} {t:TypeId} {M:Nat->Prop} {rs:List (List AV)} {sz:Nat} {v:Value} {x:AV}
section
variable {P:Program} {φ φ':aQ} {F:Nat->Prop} {n:Nat} {w w':World} {M0:Nat->Prop} {h h':au}
theorem fm.rel (s:fm φ w M0 h φ' w' h') (hx:bY φ w (Or M0 (bc φ h)) x v):bY φ' w' (Or M0 (bc φ' h')) x v:=
 hx.keep s.le (λ k hk hlt=>s.fr.block k hlt (λ hm=>hk (.inr hm))) s.or
theorem fm.relL (s:fm φ w M0 h φ' w' h'){xs:List AV}{vs:List Value} (hx:aU φ w (Or M0 (bc φ h)) xs vs):aU φ' w' (Or M0 (bc φ' h')) xs vs:=
 hx.keep s.le (λ k hk hlt=>s.fr.block k hlt (λ hm=>hk (.inr hm))) s.or

def zdf (F:Nat->Prop) (n:Nat):Nat->(Nat->Prop)
 |0=>F
 | _+1=>λ o=>F o∧o≠n
def Bj (P:Program) (φ:aQ) (F:Nat->Prop) (n:Nat) (w:World) (M0:Nat->Prop) (h:au) (r:pJ) (s:Sem Value):Prop:=
 ∃u w' φ',s.run P w= .ok u w'∧bY φ' w' (Or M0 (bc φ' (aB r.wr h))) r.val u∧br φ' (zdf F n r.al) w' M0 (aB r.wr h)∧fm φ w M0 h φ' w' (aB r.wr h)
theorem zhe (hH:br φ F w M0 h){r:pJ}{s:Sem Value} (hr:ft P φ w (Or M0 (bc φ h)) r s):Bj P φ F n w M0 h r s:=by
 obtain ⟨u,h1,h2,h3,h4⟩:=hr;refine ⟨u,w,φ,h1, ?_, ?_, ?_⟩
 ·rw [h3];exact h2
 ·rw [h3,h4];exact hH
 ·rw [h3];exact .refl _ _ _ _

theorem lv (w:World) (o:Obj) (k:Nat) (hk:k<w.heap.size):({ w with heap:=w.heap.push o}:World).heap[k]? =w.heap[k]? :=by
 grind
theorem qI (w:World) (o:Obj):({ w with heap:=w.heap.push o}:World).heap[w.heap.size]? =some o:=by
 grind
theorem Tu (w:World) (o:Obj) (U:Nat->Prop):Fr w U { w with heap:=w.heap.push o}:=
 ⟨rfl,rfl,rfl,Nat.le_refl _,gt,λ k hk _=>lv w o k hk⟩
theorem br.place_old (hH:br φ F w M0 h){o:Nat}{mt:Bool}{g:Nat}{a:Addr}{b:Nat} (ho:h o=some (.rows mt g sz rs)) (hp:φ o=some (g,some (a,b))):
  a.block<w.heap.size∧¬F o:=by
 constructor
 ·obtain ⟨A,hA,h1⟩:=hH.obj _ _ _ _ _ ho;grind [m9]
 ·intro hle;rw [hH.fresh o hle] at hp;cases hp
theorem RA (hH:br φ F w M0 h) (hn:F n) (x:Nat×Option (Addr×Nat)):φ.le (aC φ n (some x)):=by
 intro o y hy;have:o≠n:=λ e=>by subst e;rw [hH.fresh o hn] at hy;cases hy
 grind [ja]

theorem br.new (hH:br φ F w M0 h) (hn:F n){C:Array Value}{T:TypeId} (hr:∀r ∈ rs,r.length=sz) (hl:rs.length * sz<=C.size)
  (hv:∀u ∈ C.toList.take (rs.length * sz),gx u=true) (hrel:aU φ w (Or M0 (bc φ h)) rs.flatten (C.toList.take (rs.length * sz))):
  br (aC φ n (some (0,some (⟨w.heap.size,0,none⟩,C.size)))) (λ o=>F o∧o≠n) { w with heap:=w.heap.push (.cells C T)} M0 (aC h n (some (.rows true 0 sz rs)))∧
   fm φ w M0 h (aC φ n (some (0,some (⟨w.heap.size,0,none⟩,C.size)))) { w with heap:=w.heap.push (.cells C T)} (aC h n (some (.rows true 0 sz rs))):=by
 have hle:=RA hH hn (0,some ((⟨w.heap.size,0,none⟩:Addr),C.size));obtain ⟨h1,h2,h3⟩:=hH.set (w':={ w with heap:=w.heap.push (.cells C T)}) (F':=λ o=>F o∧o≠n) (o:=n) (mt:=true) (g:=0) (sz:=sz) (rs:=rs) (A:=some (⟨w.heap.size,0,none⟩,C.size))
  (λ _ h=>h.1) (λ h=>h.2 rfl) gt hle (λ k _ hk=>lv w _ k hk)
  (λ o' mt g sz rs a b _ ho hp=>by
   have:=(hH.place_old ho hp).1;grind)
  (λ a b e=>by
   grind)
  (.inr ⟨⟨w.heap.size,0,none⟩,C.size,C,T,rfl,rfl,λ hm=>by have:=hH.m0 _ hm;grind,qI w _,rfl,hr,pi,
   by grind,pi⟩)
 refine ⟨h1,hle,h2,Tu w _ _,λ k hk=> ?_⟩;grind
theorem br.newMap (hH:br φ F w M0 h) (hn:F n):
  br (aC φ n (some (0,some (⟨w.heap.size,0,some 0⟩,0)))) (λ o=>F o∧o≠n) { w with heap:=w.heap.push (.map #[] 0)} M0 (aC h n (some (.rows true 0 2 [])))∧
   fm φ w M0 h (aC φ n (some (0,some (⟨w.heap.size,0,some 0⟩,0)))) { w with heap:=w.heap.push (.map #[] 0)} (aC h n (some (.rows true 0 2 []))):=by
 have hle:=RA hH hn (0,some ((⟨w.heap.size,0,some 0⟩:Addr),0));obtain ⟨h1,h2,h3⟩:=hH.set (w':={ w with heap:=w.heap.push (.map #[] 0)}) (F':=λ o=>F o∧o≠n) (o:=n) (mt:=true) (g:=0) (sz:=2) (rs:= []) (A:=some (⟨w.heap.size,0,some 0⟩,0))
  (λ _ h=>h.1) (λ h=>h.2 rfl) gt hle (λ k _ hk=>lv w _ k hk)
  (λ o' mt g sz rs a b _ ho hp=>by
   have:=(hH.place_old ho hp).1;grind)
  (λ a b e=>by
   grind)
  (.inl (.inr ⟨⟨w.heap.size,0,some 0⟩,0, #[],0,rfl,gt,λ hm=>by have:=hH.m0 _ hm;grind,qI w _,rfl,⟨rfl,gt⟩,XL⟩))
 refine ⟨h1,hle,h2,Tu w _ _,λ k hk=> ?_⟩;grind
theorem br.newNil (hH:br φ F w M0 h) (hn:F n) (sz:Nat):
  br (aC φ n (some (0,none))) (λ o=>F o∧o≠n) w M0 (aC h n (some (.rows true 0 sz [])))∧fm φ w M0 h (aC φ n (some (0,none))) w (aC h n (some (.rows true 0 sz []))):=by
 have hle:=RA hH hn (0,none);obtain ⟨h1,h2,h3⟩:=hH.set (w':=w) (F':=λ o=>F o∧o≠n) (o:=n) (mt:=true) (g:=0) (sz:=sz) (rs:= []) (A:=none)
  (λ _ h=>h.1) (λ h=>h.2 rfl) (Nat.le_refl _) hle (λ k _ hk=>rfl) (λ o' mt g sz rs a b _ ho hp=>⟨rfl,λ a₁ b₁ e=>by cases e⟩) (λ a b e=>by cases e) (.inl (.inl ⟨rfl,rfl⟩))
 refine ⟨h1,hle,h2,Fr.refl _ _,λ k hk=> ?_⟩;grind

theorem E2 (hH:br φ F w M0 h) (hx:bY φ w M x v) (hc:x.isCell h):gx v=true:=by
 cases x with
 |v y=>cases hx;exact hc
 |ref o g sz i off=>obtain ⟨a,rfl⟩:=hH.ref_alive hc hx;rfl
 |sl o g sz i len=>obtain ⟨A,cap,rfl, _⟩:=hH.sl_alive hc hx;rfl
 |lst=>cases hx<;>rfl
 |fp=>cases hx;rfl
 |fn=>cases hx;rfl
 |mp o=>
  simp only [AV.isCell,fI] at hc;split at hc
  ·rename_i mt g' sz' rs e;obtain ⟨rfl,rfl⟩:=hc;obtain ⟨a,bs,es,clk, _, _, _,rfl, _⟩:=hH.mp_at e hx;rfl
  grind
 | _=>exact hc.elim
theorem xT (hH:br φ F w M0 h) (hx:bY φ w M x v) (hc:x.okCells h):
  aU φ w M x.cells v.cells.toList∧∀u ∈ v.cells.toList,gx u=true:=by
 cases x with
 |agg cs=>cases hx with|agg hv hrel=>exact ⟨hrel,hv⟩
 | _=>
  have h1:=E2 hH hx hc;have e:v.cells= #[v]:=by cases v<;>simp_all [Value.cells,gx,Value.oneCell']
  rw [e];exact ⟨.cons hx .nil,XY⟩

theorem O5 (hH:br φ F w M0 h) (hn:F n) (hx:bY φ w (Or M0 (bc φ h)) x v) (hc:x.okCells h):
  Bj P φ F n w M0 h ⟨True, .ref n 0 x.cells.length 0 0, [(n,some (.rows true 0 x.cells.length [x.cells]))],1⟩ (do pure (.pointer (some (<- newVar t v)))):=by
 obtain ⟨h1,h2⟩:=xT hH hx hc;have hl:=h1.length;obtain ⟨a,b⟩:=hH.new hn (sz:=x.cells.length) (rs:= [x.cells]) (C:=v.cells) (T:=t) gt (by simp [hl]) pi
  (by rw [List.length_singleton,Nat.one_mul,hl,List.take_length,List.flatten_singleton];exact h1)
 refine ⟨_, _, _,by simp [newVar,newRow];rfl, ?_,a,b⟩;exact .ref (cZ _ _ _) (Nat.le_refl _) λ _=>⟨_, _,rfl,rfl,gt⟩
theorem zbr (hH:br φ F w M0 h) (hn:F n) (hx:bY φ w (Or M0 (bc φ h)) x v) (hc:x.okCells h):
  Bj P φ F n w M0 h ⟨x.okCells h, .ref n 0 x.cells.length 0 0, [(n,some (.rows true 0 x.cells.length [x.cells]))],1⟩ (Instr.box t v):=
 O5 (P:=P) (t:=t) hH hn hx hc
theorem mM  (l:List Value):aU φ w M (l.map .v) l:=by
 refine zhk gt λ k hk hv=> ?_;simp only [List.getElem_map];exact .v _
theorem Qr (hH:br φ F w M0 h) (hn:F n){z:List AV} (hz:tz P t=some z):
  Bj P φ F n w M0 h ⟨True, .ref n 0 z.length 0 0, [(n,some (.rows true 0 z.length [z]))],1⟩ (Instr.alloc t true (.tuple #[])):=by
 obtain ⟨u,h1,rfl,h2⟩:=gK (P:=P) (w:=w) hz;obtain ⟨a,b⟩:=hH.new hn (sz:=(u.cells.toList.map AV.v).length) (rs:= [u.cells.toList.map .v]) (C:=u.cells) (T:=t) gt gt pi
  (by rw [List.length_singleton,Nat.one_mul,List.length_map,List.take_length,List.flatten_singleton];grind [mM])
 refine ⟨.pointer (some ⟨w.heap.size,0,none⟩), _, _,by simp [Instr.alloc,h1,newVar,newRow], ?_,a,b⟩;exact .ref (cZ _ _ _) (Nat.le_refl _) λ _=>⟨_, _,rfl,rfl,gt⟩

theorem JV (off:Nat):∀ (us:List Value) (cs:Array Value) (k:Nat),
  ((us.zipIdx k).foldl (λ cs (p:Value×Nat)=>cs.setIfInBounds (off+p.2) p.1) cs).toList=oM cs.toList (off+k) us
 | [], _, _=>rfl
 |u::us,cs,k=>by
  simp only [List.zipIdx_cons,List.foldl_cons,oM];rw [JV off us];simp [Nat.add_assoc]
theorem AM (off:Nat) (us:Array Value) (cs:Array Value):
  (us.zipIdx.foldl (λ cs (p:Value×Nat)=>cs.setIfInBounds (off+p.2) p.1) cs).toList=oM cs.toList off us.toList:=by
 have:=JV off us.toList cs 0;simp only [Nat.add_zero] at this;rw [<- this,<- Array.foldl_toList];simp
theorem CL {row cs:List AV} (h:row.length=cs.length):setMany row 0 cs=cs:=PH cs row h
theorem I0 (hH:br φ F w M0 h):∀ (parts:List (Nat×AV)) (vparts:List (Nat×Value)) (rs:List (List AV)) (C:Array Value),
  (∀r ∈ rs,r.length=sz)->C.size=rs.length * sz->(∀u ∈ C.toList,gx u=true)->aU φ w (Or M0 (bc φ h)) rs.flatten C.toList->
  parts.length=vparts.length->(∀ (k:Nat) (hk:k<parts.length) (hk':k<vparts.length),parts[k].1=vparts[k].1∧bY φ w (Or M0 (bc φ h)) parts[k].2 vparts[k].2)->
  (kZ h sz rs parts).1->∃C',Instr.fill (λ i=>some (i * sz,sz)) C vparts=some C'∧C'.size=C.size∧(kZ h sz rs parts).2.length=rs.length∧
   (∀r ∈ (kZ h sz rs parts).2,r.length=sz)∧(∀u ∈ C'.toList,gx u=true)∧aU φ w (Or M0 (bc φ h)) (kZ h sz rs parts).2.flatten C'.toList:=by
 intro parts;induction parts with
 |nil=>
  intro vparts rs C hr hC hv hrel hlen _ _;cases vparts with
  |nil=>exact ⟨C,rfl,rfl,rfl,hr,hv,hrel⟩
  |cons=>grind
 |cons p parts ih=>
  intro vparts rs C hr hC hv hrel hlen hp hc;cases vparts with
  |nil=>grind
  |cons q vparts=>
   obtain ⟨i,x⟩:=p;obtain ⟨j,v⟩:=q;obtain ⟨e,hx⟩:=hp 0 gt gt;simp only [List.getElem_cons_zero] at e hx;obtain ⟨hi,hsz,hok,hc⟩:=hc;obtain ⟨h1,h2⟩:=xT hH hx hok;have hl:=h1.length;have hle:i * sz+sz<=rs.length * sz:=by
    have:=Nat.mul_le_mul_right sz (show i+1<=rs.length from hi);grind
   obtain ⟨C',hC'⟩:∃C':Array Value,C'=v.cells.zipIdx.foldl (λ cs (p:Value×Nat)=>cs.setIfInBounds (i * sz+p.2) p.1) C:=⟨_,rfl⟩
   have hC'l:C'.toList=oM C.toList (i * sz) v.cells.toList:=by rw [hC',AM]
   have hsize:C'.size=C.size:=X5;have hrow:(rs.set i x.cells).flatten=setMany rs.flatten (i * sz) x.cells:=by
    have:=Ei hr i hi 0 x.cells ge;grind [CL]
   obtain ⟨C'',hf,hs,hl',hr',hv',hrel'⟩:=ih vparts (rs.set i x.cells) C'
    (λ r hm=>by grind)
    pi
    (λ u hu=>by grind [tK])
    (by grind [zhj])
    pi
    (λ k hk hk'=>by have:=hp (k+1) pi pi;grind) hc
   grind [kZ,Instr.fill]
theorem tP (T:TypeId) (C:Array Value):(newRow T C).run P w= .ok ⟨w.heap.size,0,none⟩ { w with heap:=w.heap.push (.cells C T)}:=by
 simp [newRow]
theorem zv {z:List AV}{u:List Value}{M:Nat->Prop} (h:aU φ w M z u):∀k,aU φ w M (List.replicate k z).flatten (List.replicate k u).flatten
 |0=>XL
 |k+1=>by exact h.append (zv h k)
theorem wa (u:Array Value) (hu:0<u.size):∀k,((Array.range (k * u.size)).map (u[· % u.size]!)).toList=(List.replicate k u.toList).flatten
 |0=>gt
 |k+1=>by
  have ih:=wa u hu k;rw [List.replicate_succ',List.flatten_append,<- ih];apply List.ext_getElem
  ·simp [Nat.add_mul]
  ·intro i h1 h2;simp only [Array.toList_map,Array.toList_range,List.getElem_map,List.getElem_range];by_cases hi:i<k * u.size
   ·rw [List.getElem_append_left Wv];simp
   ·rw [List.getElem_append_right Wv];simp only [List.length_map,List.length_range,List.flatten_singleton,Array.getElem_toList];have hb:i<(k+1) * u.size:=XY;rw [Nat.add_mul] at hb;have e:i % u.size=i - k * u.size:=by
     have:i=(i - k * u.size)+k * u.size:=ge;rw [this,Nat.add_mul_mod_self_right,Nat.mod_eq_of_lt ge];omega
    rw [e,getElem!_pos u (i - k * u.size) ge]

theorem E0 (hH:br φ F w M0 h) (hn:F n){len:Nat} (hlen:parts.length=vparts.toList.length)
  (hp:∀ (k:Nat) (hk:k<parts.length) (hk':k<vparts.toList.length),parts[k].1=vparts.toList[k].1∧bY φ w (Or M0 (bc φ h)) parts[k].2 vparts.toList[k].2)
  (hc:(mT P n t len parts h).cond):Bj P φ F n w M0 h (mT P n t len parts h) (Instr.buildSlice t len vparts):=by
 unfold mT at hc ⊢;split at hc
 ·rename_i e ht;split at hc
  ·rename_i sz z hsz hz;obtain ⟨h1,h2,h3,h4⟩:=hc;obtain ⟨u,hu,rfl,hcv⟩:=gK (P:=P) (w:=w) hz;have hC:((Array.range (len * sz)).map (u.cells[· % u.cells.size]!)).toList=(List.replicate len u.cells.toList).flatten:=by
    grind [wa]
   obtain ⟨C',hf,hs,hl,hr,hv,hrel⟩:=I0 hH parts vparts.toList (List.replicate len (u.cells.toList.map .v)) ((Array.range (len * sz)).map (u.cells[· % u.cells.size]!))
    (λ r hr=>by grind) gt (λ c hm=>by
     grind [List.mem_flatten])
    (by grind [zv,mM]) hlen hp h1
   have et:C'.toList.take (len * sz)=C'.toList:=Wz;obtain ⟨a,b⟩:=hH.new hn (sz:=sz) (rs:=(kZ h sz (List.replicate len (u.cells.toList.map AV.v)) parts).2) (C:=C') (T:=e) hr pi
    pi pi
   refine ⟨.slice (some ⟨w.heap.size,0,none⟩) len len, _, _, ?_, ?_,a,b⟩
   ·have hlt:¬len * sz>2 ^ 24:=by omega
    by_cases h0:len * sz=0
    ·simp only [Instr.buildSlice,Sem.run_bind,ar (iX ht),Result.andThen_ok,dq hsz,hlt,if_false,h0,if_true,Sem.run_pure];grind [tP,Result.andThen_ok,Sem.run_bind,Sem.run_pure]
    ·simp only [Instr.buildSlice,Sem.run_bind,ar (iX ht),Result.andThen_ok,dq hsz,hlt,if_false,h0,hu,Sem.run_pure,hf,tP]
   ·refine .sl (cZ _ _ _) (Nat.le_refl _) λ _=> .inr (.inr ⟨_, _,len,rfl,rfl,gt,Nat.le_refl _, ?_⟩);grind
  grind
 grind
theorem GQ (hH:br φ F w M0 h){places:Array (Nat×Nat)} (hpl:∀i d k,I1 P t i=some d->(Rd P t i).bind (yW P)=some k->places[i]? =some (d,k)):
  ∀ (parts:List (Nat×AV)) (vparts:List (Nat×Value)) (cs:List AV) (C:Array Value),(∀u ∈ C.toList,gx u=true)->aU φ w (Or M0 (bc φ h)) cs C.toList->
  parts.length=vparts.length->(∀ (k:Nat) (hk:k<parts.length) (hk':k<vparts.length),parts[k].1=vparts[k].1∧bY φ w (Or M0 (bc φ h)) parts[k].2 vparts[k].2)->
  (mU P h t cs parts).1->∃C',Instr.fill (places[·]?) C vparts=some C'∧(∀u ∈ C'.toList,gx u=true)∧aU φ w (Or M0 (bc φ h)) (mU P h t cs parts).2 C'.toList:=by
 intro parts;induction parts with
 |nil=>
  intro vparts cs C hv hrel hlen _ _;cases vparts with
  |nil=>exact ⟨C,rfl,hv,hrel⟩
  |cons=>grind
 |cons p parts ih=>
  intro vparts cs C hv hrel hlen hp hc;cases vparts with
  |nil=>grind
  |cons q vparts=>
   obtain ⟨i,x⟩:=p;obtain ⟨j,v⟩:=q;obtain ⟨e,hx⟩:=hp 0 gt gt;simp only [mU] at hc ⊢;split at hc
   ·rename_i d k hd hk;obtain ⟨hsz,hle,hok,hc⟩:=hc;obtain ⟨h1,h2⟩:=xT hH hx hok;have hl:=h1.length;have hCl:=hrel.length;obtain ⟨C',hC'⟩:∃C':Array Value,C'=v.cells.zipIdx.foldl (λ cs (p:Value×Nat)=>cs.setIfInBounds (d+p.2) p.1) C:=⟨_,rfl⟩
    have hC'l:C'.toList=oM C.toList d v.cells.toList:=by rw [hC',AM]
    obtain ⟨C'',hf,hv',hrel'⟩:=ih vparts (setMany cs d x.cells) C'
     (λ u hu=>by grind [tK])
     (by grind [zhj]) pi
     (λ k hk hk'=>by have:=hp (k+1) pi pi;grind) hc
    grind [Instr.fill]
   grind
theorem LK (hH:br φ F w M0 h):∀ (parts:List (Nat×AV)) (vparts:List (Nat×Value)) (cs:List AV) (C:Array Value),(∀u ∈ C.toList,gx u=true)->aU φ w (Or M0 (bc φ h)) cs C.toList->
  parts.length=vparts.length->(∀ (k:Nat) (hk:k<parts.length) (hk':k<vparts.length),parts[k].1=vparts[k].1∧bY φ w (Or M0 (bc φ h)) parts[k].2 vparts[k].2)->
  (sm h sz cs parts).1->∃C',Instr.fill (λ i=>some (i * sz,sz)) C vparts=some C'∧(∀u ∈ C'.toList,gx u=true)∧aU φ w (Or M0 (bc φ h)) (sm h sz cs parts).2 C'.toList:=by
 intro parts;induction parts with
 |nil=>
  intro vparts cs C hv hrel hlen _ _;cases vparts with
  |nil=>exact ⟨C,rfl,hv,hrel⟩
  |cons=>grind
 |cons p parts ih=>
  intro vparts cs C hv hrel hlen hp hc;cases vparts with
  |nil=>grind
  |cons q vparts=>
   obtain ⟨i,x⟩:=p;obtain ⟨j,v⟩:=q;obtain ⟨e,hx⟩:=hp 0 gt gt;simp only [sm] at hc ⊢;obtain ⟨hsz,hle,hok,hc⟩:=hc;obtain ⟨h1,h2⟩:=xT hH hx hok;have hl:=h1.length;have hCl:=hrel.length;obtain ⟨C',hC'⟩:∃C':Array Value,C'=v.cells.zipIdx.foldl (λ cs (p:Value×Nat)=>cs.setIfInBounds (i * sz+p.2) p.1) C:=⟨_,rfl⟩
   have hC'l:C'.toList=oM C.toList (i * sz) v.cells.toList:=by rw [hC',AM]
   obtain ⟨C'',hf,hv',hrel'⟩:=ih vparts (setMany cs (i * sz) x.cells) C'
    (λ u hu=>by grind [tK])
    (by grind [zhj]) pi
    (λ k hk hk'=>by have:=hp (k+1) pi pi;grind) hc
   grind [Instr.fill]
theorem H4:∀ (l:List Field),(∀f ∈ l,∃i,P.info? f.type=some i)->
  ((l.mapM λ (f:Field)=>do pure (f.offset,<- sizeOf f.type):Sem (List (Nat×Nat)))).run P w= .ok (l.map λ f=>(f.offset,((P.info? f.type).map (·.size)).getD 0)) w
 | [], _=>gt
 |f::l,hl=>by
  obtain ⟨i,hi⟩:=hl f gt;have ih:=H4 l (λ f hf=>hl f (by simp [hf]));have hs:(sizeOf f.type).run P w= .ok i.size w:=by simp [sizeOf,typeInfo,hi]
  simp only [List.mapM_cons,Sem.run_bind,hs,Result.andThen_ok,Sem.run_pure,ih,List.map_cons,hi,Option.map_some,Option.getD_some]
theorem QF (hH:br φ F w M0 h) (hlen:parts.length=vparts.toList.length)
  (hp:∀ (k:Nat) (hk:k<parts.length) (hk':k<vparts.toList.length),parts[k].1=vparts.toList[k].1∧bY φ w (Or M0 (bc φ h)) parts[k].2 vparts.toList[k].2)
  (hc:(zf P t parts h).cond):ft P φ w (Or M0 (bc φ h)) (zf P t parts h) (Instr.build t vparts):=by
 unfold zf at hc ⊢;split at hc
 ·rename_i z ht hz;obtain ⟨hfi,hc⟩:=hc;obtain ⟨u,hu,rfl,hcv⟩:=gK (P:=P) (w:=w) hz;obtain ⟨fs,hfs⟩:=zgg ht;have hinfo:∀f ∈ fs.toList,∃i,P.info? f.type=some i:=by
   grind [tfi,Option.isSome_iff_exists]
  have hpl:∀i d k,I1 P t i=some d->(Rd P t i).bind (yW P)=some k->((fs.toList.map λ f=>(f.offset,((P.info? f.type).map (·.size)).getD 0)).toArray)[i]? =some (d,k):=by
   grind [Dk,Rd,yW]
  obtain ⟨C',hf,hv',hrel'⟩:=GQ hH hpl parts vparts.toList _ u.cells hcv (mM _) hlen hp hc;refine ⟨.agg C', ?_, .agg (vs:=C'.toList) hv' hrel',rfl,rfl⟩;have hm:(fs.mapM λ (f:Field)=>do pure (f.offset,<- sizeOf f.type):Sem (Array (Nat×Nat))).run P w= .ok ((fs.toList.map λ f=>(f.offset,((P.info? f.type).map (·.size)).getD 0)).toArray) w:=by
   grind [Array.mapM_eq_mapM_toList,Sem.run_map,H4,Result.andThen_ok]
  simp_all [Instr.build,ar]
 ·rename_i e z ht hz;split at hc
  ·rename_i sz hsz;obtain ⟨u,hu,rfl,hcv⟩:=gK (P:=P) (w:=w) hz;obtain ⟨C',hf,hv',hrel'⟩:=LK hH parts vparts.toList _ u.cells hcv (mM _) hlen hp hc;refine ⟨.agg C', ?_, .agg (vs:=C'.toList) hv' hrel',rfl,rfl⟩;simp only [Instr.build,Sem.run_bind,hu,Result.andThen_ok,ar (DS ht),dq hsz,hf,Sem.run_map,Sem.run_pure]
  grind
 grind
end
end Go.Av
end
section
/- Our library, part 8: the abstract operations are sound: stores, make, append. -/
namespace Go.Av
open Go

variable {rs:List (List AV)} {tys:Array TypeId} {k:IntKind} {X:Array Value} {base:Option Addr} {by_ cap len sz:Nat} {u v vs vx:Value} {s x:AV} {e st t ty xt:TypeId}
section
variable {P:Program} {φ φ':aQ} {F:Nat->Prop} {n:Nat} {w w':World} {M0:Nat->Prop} {h h':au}

theorem CS {α:Type} (f:Nat->α) (k:Nat):aC f k (f k)=f:=by
 grind [aC]
theorem br.of_heap (hH:br φ F w M0 h) (hh:w'.heap=w.heap):br φ F w' M0 h:=by
 refine ⟨by rw [hh];exact hH.m0,hH.fresh,λ o mt g sz rs ho=> ?_,hH.inj,hH.glob.keep (λ k _ _=>by rw [hh]) (λ k hk=> .inl hk)⟩;obtain ⟨A,hA,h1⟩:=hH.obj o mt g sz rs ho;refine ⟨A,hA,h1.imp id ?_⟩;rintro ⟨a,bs,e1,e3,e4⟩;exact ⟨a,bs,e1,e3,e4.keep (by rw [hh]) (λ e9=>e9.keep φ.le_refl (λ k _ _=>by rw [hh]) (λ k hk=> .inl hk))⟩
theorem fm.of_heap (ho:w'.os=w.os) (ht:w'.tape=w.tape) (hp:w'.output=w.output) (hd:w.drawn<=w'.drawn) (hh:w'.heap=w.heap):fm φ w M0 h φ w' h:=
 ⟨φ.le_refl,λ _ h=> .inl h,⟨ho,ht,hp,hd,pi,λ k _ _=>by rw [hh]⟩,λ _ h=> .inl h⟩

theorem br.keepw (hH:br φ F w M0 h) (st:fm φ w M0 h φ w' h) (hall:∀k,k<w.heap.size->w'.heap[k]? =w.heap[k]?):br φ F w' M0 h:=by
 refine ⟨λ k hk=>Nat.lt_of_lt_of_le (hH.m0 k hk) st.fr.size,hH.fresh,λ o mt g sz rs ho=> ?_,hH.inj,hH.glob.keep (λ k _ hk=>hall k hk) (λ k hk=> .inl hk)⟩;obtain ⟨A,hA,h1⟩:=hH.obj o mt g sz rs ho;refine ⟨A,hA,h1.imp id ?_⟩;rintro ⟨a,bs,e1,e3,e4⟩;exact ⟨a,bs,e1,e3,e4.keep (hall _ e4.blk) (λ e9=>st.relL e9)⟩

theorem SN (hH:br φ F w M0 h){y:AV} (hx:bY φ w (Or M0 (bc φ h)) x v) (hy:bY φ w (Or M0 (bc φ h)) y u)
  (hc:(jL P t x y h).cond):∃w' φ',(Instr.storeAt t v u).run P w= .ok () w'∧br φ' F w' M0 (aB (jL P t x y h).wr h)∧
   fm φ w M0 h φ' w' (aB (jL P t x y h).wr h)∧(jL P t x y h).val= .top:=by
 unfold jL at hc ⊢;split at hc
 ·rename_i o g sz i off;split at hc
  ·rename_i mt g' sz' rs ho;by_cases hgs:g=g'∧sz=sz'∧mt=true
   ·simp only [hgs,and_self,if_true] at hc;obtain ⟨rfl,rfl,rfl⟩:=hgs;simp only [ho,and_self,if_true];obtain ⟨hi,hsz,hle,hok⟩:=hc;obtain ⟨a,bs,C,T,hp,hs,h0,hb,hC,hr,hl,hle',hrow,hcv⟩:=hH.at_row ho hi (Px hx);obtain rfl:=zcN hx hp;obtain ⟨h1,h2⟩:=xT hH hy hok;have hlen:=h1.length;obtain ⟨A,hA,hobj⟩:=hH.obj _ _ _ _ _ ho;rw [hp] at hA;simp only [Option.some.injEq,Prod.mk.injEq,true_and] at hA;subst hA;rcases hobj with ⟨hobj, _⟩|⟨a',bs',e, _,hd⟩
    ·cases hobj
    obtain ⟨rfl,rfl⟩:=e;obtain ⟨C',T',hb', _, _, _,hv,hrel⟩:=hd.cells hs;rw [hb] at hb';obtain ⟨w',hrun,hw'⟩:=mC (P:=P) (a:=⟨a.block,a.off+i * sz+off,none⟩) (T:=T) rfl u.cells.toList 0 w C hb pi h2;have hrows:(if off=0∧y.cells.length=sz then y.cells else setMany (ac rs i) off y.cells)=setMany rs[i] off y.cells:=by
     grind [ac,CL]
    rw [hrows];have hM:∀k,¬Or M0 (bc φ h) k->k≠a.block:=λ k hk e=>hk (.inr ⟨o,g,sz,rs,g,a,bs,ho,hp,e.symm⟩);have hle0:φ.le (aC φ o (some (g,some (a,bs)))):=Xt;have hflat:(rs.set i (setMany rs[i] off y.cells)).flatten=setMany rs.flatten (i * sz+off) y.cells:=Ei hr i hi off y.cells hle;obtain ⟨g1,g2,g3⟩:=hH.set (w':=w') (F':=F) (o:=o) (mt:=true) (g:=g) (sz:=sz) (rs:=rs.set i (setMany rs[i] off y.cells)) (A:=some (a,bs))
     (λ _ h=>h) (hH.place_old ho hp).2 WK hle0 (λ k hk _=>hw'.other k (hM k hk))
     (λ o' mt' g' sz' rs' a₁ b₁ hne ho' hp'=>by
      have:=hH.inj _ _ _ _ _ _ _ _ _ _ _ _ _ _ ho ho' (Ne.symm hne) (.inl rfl) hp hp';refine ⟨hw'.other _ (Ne.symm this),λ a₂ b₂ e=> ?_⟩;grind)
     (λ a₁ b₁ e=>by
      grind)
     (.inr ⟨a,bs, _,T,rfl,hs,h0,hw'.at_,X5,
      λ r hm=>by
       grind [yP],
      by grind,
      λ c hm=>by
       simp only [List.length_set,Nat.add_zero] at hm;rw [show a.off+i * sz+off=a.off+(i * sz+off) by omega,jr _ _ _ _ _ ge] at hm;grind [tK],
      by
       simp only [List.length_set,Nat.add_zero];rw [show a.off+i * sz+off=a.off+(i * sz+off) by omega,jr _ _ _ _ _ ge,hflat];grind [zhj]⟩)
    refine ⟨w', _, ?_,g1,⟨hle0,g2,⟨hw'.os,hw'.tape,hw'.output,hw'.drawn,WK,λ k _ hu=>hw'.other k (λ e=>hu ⟨o,g,sz,rs,g,a,bs,ho,hp,e.symm⟩)⟩,λ k hk=> ?_⟩,trivial⟩
    ·simp_all [Instr.storeAt,Instr.sureAddr,storeVar,dq]
    ·rcases g3 k hk with h|⟨a₁,b₁,e,rfl⟩;all_goals grind [Or]
   grind
  grind
 grind

theorem QY {y:AV}:(jL P t x y h).al=0:=by
 unfold jL;grind
theorem u3 {b:Nat} (hb:zeF P t=some b):∃i,(typeInfo t).run P w= .ok i w∧i.bytes=b:=by
 unfold zeF at hb;cases hu:P.info? t<;>simp_all [typeInfo]
theorem SU {n:Int} (h0:0<=n) (h1:n<=17592186044416):IntKind.i64.wrap n=n:=rK ⟨by grind [IntKind.min],by grind [IntKind.max,IntKind.bits]⟩
theorem CI {z:List AV}{u:List Value}{M:Nat->Prop} (hz:aU φ w M z u){l c:Nat} (hlc:l<=c):
  aU φ w M (List.replicate l z).flatten ((List.replicate c u).flatten.take (l * z.length)):=by
 have e:(List.replicate c u).flatten.take (l * z.length)=(List.replicate l u).flatten:=by
  obtain ⟨d,rfl⟩:∃d,c=l+d:=⟨c - l,ge⟩
  have hl:(List.replicate l u).flatten.length=l * z.length:=by simp [hz.length]
  rw [<- List.replicate_append_replicate,List.flatten_append,List.take_left' hl]
 grind [zv]
theorem HC (hH:br φ F w M0 h) (hn:F n){l c:AV}{vl vc:Value} (hl:bY φ w (Or M0 (bc φ h)) l vl) (hcc:bY φ w (Or M0 (bc φ h)) c vc)
  (hc:(qZ P n t l c).cond):Bj P φ F n w M0 h (qZ P n t l c) (Instr.makeSlice t vl vc):=by
 unfold qZ at hc ⊢;split at hc
 ·rename_i e l c ht;cases hl;cases hcc;split at hc
  ·rename_i sz z by_ hsz hz hb;obtain ⟨h1,h2,h3,h4,h5,h6⟩:=hc;obtain ⟨u,hu,rfl,hcv⟩:=gK (P:=P) (w:=w) hz;obtain ⟨inf,hinf,rfl⟩:=u3 (P:=P) (w:=w) hb;have w1:IntKind.i64.wrap l=l:=SU h3 ge;have w2:IntKind.i64.wrap c=c:=SU ge ge;have hC:((Array.range (c.toNat * sz)).map (u.cells[· % u.cells.size]!)).toList=(List.replicate c.toNat u.cells.toList).flatten:=by
    grind [wa]
   have hb1:(inf.bytes:Int) * c<=2 ^ 48:=by
    have:(inf.bytes:Int) * c<=1024 * c:=Int.mul_le_mul_of_nonneg_right ge ge;omega
   have hlc:l.toNat<=c.toNat:=ge;have hmul:=Nat.mul_le_mul_right sz hlc;obtain ⟨a,b⟩:=hH.new hn (sz:=sz) (rs:=List.replicate l.toNat (u.cells.toList.map .v)) (C:=(Array.range (c.toNat * sz)).map (u.cells[· % u.cells.size]!)) (T:=e)
    (λ r hr=>by grind) pi
    (λ x hm=>by
     grind [List.mem_flatten])
    (by
     grind [CI,mM])
   refine ⟨.slice (some ⟨w.heap.size,0,none⟩) l.toNat c.toNat, _, _, ?_, ?_,a,b⟩
   ·have hneg:¬(((decide (c<0)||decide ((inf.bytes:Int) * c>2 ^ 48))||decide (l<0)||decide (l>c))=true):=by grind
    unfold Instr.makeSlice;simp only [Sem.run_bind,ar (iX ht),Result.andThen_ok,asInt,iy,Sem.run_pure,hinf,w1,w2];rw [Sem.run_ite,if_neg hneg];simp only [Sem.run_bind,run_askRoom,Result.andThen_ok,dq hsz];grind [Sem.run_bind,Sem.run_pure,Result.andThen_ok,tP]
   ·refine .sl (cZ _ _ _) (Nat.le_refl _) λ _=> .inr (.inr ⟨_, _,c.toNat,rfl,rfl,gt,hlc, ?_⟩);grind
  grind
 grind
theorem EI (hH:br φ F w M0 h) (hsz:0<sz) (hx:bY φ w (Or M0 (bc φ h)) x v) (hc:(bt x sz h).1):
  (Builtin.lenOf v).run P w= .ok (bt x sz h).2.length w∧(∀r ∈ (bt x sz h).2,r.length=sz)∧∃X:Array Value,X.size=(bt x sz h).2.length * sz∧
   aU φ w (Or M0 (bc φ h)) (bt x sz h).2.flatten X.toList∧(∀u ∈ X.toList,gx u=true)∧
   ∀w':World,w'.heap=w.heap->∀n≤(bt x sz h).2.length,(Builtin.firstCells sz n v).run P w'= .ok ⟨X.toList.take (n * sz)⟩ w':=by
 unfold bt at hc ⊢;split at hc
 ·rename_i o g sz' i len;split at hc
  ·rename_i mt g' sz'' rs ho;obtain ⟨rfl,rfl,rfl,hle⟩:=hc;have hlen:((rs.drop i).take len).length=len:=pi;simp only [ho,hlen];have hal:fI h o g sz:=W7;obtain ⟨A,cap,rfl,hcap,hA⟩:=hH.sl_alive hal hx;refine ⟨rfl, ?_, ?_⟩
   ·obtain ⟨A', _,h1⟩:=hH.obj _ _ _ _ _ ho;grind [m9]
   ·rcases hA with ⟨rfl,rfl,rfl, _⟩|⟨rfl, _,hA⟩|⟨a,bs,hp,hsp,rfl,hcb⟩
    ·exact ⟨#[],gt,XL,gt,λ w' _ n hn=>by simp_all [Builtin.firstCells]⟩
    ·obtain ⟨a',rfl⟩:=Option.isSome_iff_exists.1 hA;exact ⟨#[],gt,XL,gt,λ w' _ n hn=>Yp⟩
    ·obtain ⟨A',hA',h1⟩:=hH.obj _ _ _ _ _ ho;rw [hp] at hA';simp only [Option.some.injEq,Prod.mk.injEq,true_and] at hA';subst hA';rcases h1 with ⟨h1, _⟩|⟨a',bs',e,h0,hd⟩
     ·cases h1
     obtain ⟨rfl,rfl⟩:=e;obtain ⟨C,T,hb,hC,hr,hl,hv,hrel⟩:=hd.cells hsp;have hm:=Nat.mul_le_mul_right sz hle;have e1:(C.toList.drop (a.off+i * sz)).take (len * sz)=(((C.toList.drop a.off).take (rs.length * sz)).drop (i * sz)).take (len * sz):=by
      grind [List.drop_take,List.drop_drop]
     refine ⟨⟨(C.toList.drop (a.off+i * sz)).take (len * sz)⟩,pi, ?_, ?_,λ w' hw' n hn=> ?_⟩
     ·simp only [e1];rw [o6 (λ r hr0=>hr r (List.mem_of_mem_drop hr0)),o5 hr];exact (hrel.drop _).take _
     all_goals grind [Builtin.firstCells,Nat.mul_le_mul_right,nH]
  grind
 ·rename_i sz' rows;cases hx with
  |nil _ A cap=>exact ⟨rfl,gt, #[],gt,XL,gt,λ w' _ n hn=>Xq⟩
  | @lst _ _ a len cap C T fz hs hM hb hr hl hcs hcap hv hrel=>
   subst hl;rcases hc with rfl|rfl
   ·exact ⟨rfl,gt, #[],gt,WW,gt,λ w' _ n hn=>Yp⟩
   ·exact ⟨rfl,hr,⟨(C.toList.drop a.off).take (rows.length * sz)⟩,pi,hrel,hv,λ w' hw' n hn=>by
     grind [Nat.mul_le_mul_right,Builtin.firstCells,nH]⟩
 ·rename_i A c;cases hx;exact ⟨rfl,gt, #[],gt,XL,gt,λ w' _ n hn=>Xq⟩
 grind

theorem qx (hH:br φ F w M0 h) (hsz:0<sz) (hx:bY φ w (Or M0 (bc φ h)) x v) (hc:(bt x sz h).1):
  (Builtin.lenOf v).run P w= .ok (bt x sz h).2.length w∧(∀r ∈ (bt x sz h).2,r.length=sz)∧∃X:Array Value,X.size=(bt x sz h).2.length * sz∧
   aU φ w (Or M0 (bc φ h)) (bt x sz h).2.flatten X.toList∧(∀u ∈ X.toList,gx u=true)∧
   ∀w':World,w'.heap=w.heap->(Builtin.firstCells sz (bt x sz h).2.length v).run P w'= .ok X w':=by
 obtain ⟨h1,h2,X,h3,h4,h5,h6⟩:=EI (P:=P) hH hsz hx hc;refine ⟨h1,h2,X,h3,h4,h5,λ w' hw'=> ?_⟩;simp_all [List.take_of_length_le]
theorem JZ (need:Nat):∀ (k c:Nat),c<need->Builtin.growBy need k c<=2 * need+192
 |0,c,hc=>by simp [Builtin.growBy];omega
 |k+1,c,hc=>by
  simp only [Builtin.growBy];rw [if_neg ge];by_cases h:c+(c+768) / 4<need
  ·exact JZ need k _ h
  ·have:Builtin.growBy need k (c+(c+768) / 4)=c+(c+768) / 4:=by
    cases k with
    |zero=>rfl
    |succ k=>simp only [Builtin.growBy];rw [if_pos ge]
   omega
theorem HL {need:Nat} (hc:cap<need):Builtin.nextslicecap need cap<=2 * need+192:=by
 grind [Builtin.nextslicecap,JZ]
theorem Ir (u:Array Value) (k:Nat) (hu:0<u.size):(Builtin.zeroCells u k).toList=(List.replicate k u.toList).flatten:=wa u hu k

theorem jE {m:Nat} (h1:P.underlying st=some (.slice e)) (h2:∃e',tk P xt= .sl e') (hsz:yW P e=some sz)
  (hn:(Builtin.lenOf v).run P w= .ok m w) (hle:len+m<=cap)  (hX:(Builtin.firstCells sz m v).run P w= .ok X w) :
  (Builtin.append_ #[st,xt] ty #[.slice base len cap,v]).run P w=((match base with|some a=>storeCells (a.add (len * sz)) X.toList|none=>pure ()).run P w).andThen λ _ w'=> .ok (.slice base (len+m) cap) w':=by
 obtain ⟨e',h2⟩:=h2;unfold Builtin.append_;simp only [List.getElem?_toArray,List.getElem?_cons_zero,List.getElem?_cons_succ,Sem.run_bind,ar h1,Result.andThen_ok,dq hsz,ar (iX h2),Sem.run_pure,
  Bool.false_eq_true,if_false,hn,hle,if_true,Bool.not_false,hX]
 cases base<;>simp
theorem tO {m:Nat} (h1:P.underlying st=some (.slice e)) (h2:∃e',tk P xt= .sl e') (hsz:yW P e=some sz)
  (hby:zeF P e=some by_) (hn:(Builtin.lenOf v).run P w= .ok m w) (hlt:¬len+m<=cap) (hb1:by_<=1024) (hb0:0<by_) (hb2:(len+m) * by_<=17592186044416) {Y:Array Value} 
  (hX:∀w':World,w'.heap=w.heap->(Builtin.firstCells sz m v).run P w'= .ok X w') (hY:∀w':World,w'.heap=w.heap->(Builtin.firstCells sz len (.slice base len cap)).run P w'= .ok Y w')
  (hu:∀w':World,(zeroValue e).run P w'= .ok u w') :
  ∃newcap d,(w.drawn<=d∧len+m<=newcap)∧(Builtin.append_ #[st,xt] ty #[.slice base len cap,v]).run P w=
   .ok (.slice (some ⟨w.heap.size,0,none⟩) (len+m) newcap) { w with heap:=w.heap.push (.cells (Y++X++Builtin.zeroCells u.cells (newcap - (len+m))) e),drawn:=d}:=by
 obtain ⟨e',h2⟩:=h2;obtain ⟨inf,hinf,rfl⟩:=u3 (P:=P) (w:=w) hby;have hcap:cap<len+m:=ge;have hnext:=HL hcap;have hbig:¬(Builtin.nextslicecap (len+m) cap * inf.bytes>2 ^ 48):=by
  have a1:=Nat.mul_le_mul_right inf.bytes hnext;grind
 have hmax:¬(((len+m:Nat):Int)>IntKind.i64.max∧(False∨inf.bytes=0)):=by
  grind
 obtain ⟨q,hq⟩:∃q,q=(Question.appendCap (len+m) cap e).cut (w.tape w.drawn (.appendCap (len+m) cap e)):=⟨_,rfl⟩
 have hqle:len+m<=q:=by grind [Question.cut]
 refine ⟨q,w.drawn+1,⟨Nat.le_succ _,hqle⟩, ?_⟩;have hti:∀w':World,(typeInfo e).run P w'= .ok inf w':=by
  unfold typeInfo at hinf ⊢;cases hi:P.info? e<;>simp_all
 have hX':=hX { w with drawn:=w.drawn+1} rfl;have hY':=hY { w with drawn:=w.drawn+1} rfl;have hu':=hu { w with drawn:=w.drawn+1};unfold Builtin.append_;simp only [List.getElem?_toArray,List.getElem?_cons_zero,List.getElem?_cons_succ,Sem.run_bind,ar h1,Result.andThen_ok,dq hsz,ar (iX h2),Sem.run_pure,
  Bool.false_eq_true,if_false,hn,hlt,Bool.not_false,if_true,hti,hmax,hbig,run_choose,Question.forced,<- hq,run_askRoom,hY',hX',hu',tP,Sem.run_map]
theorem DM {l:Int} (h1:P.underlying st=some (.slice e)) (h2:P.underlying xt=some (.int k)) (hsz:yW P e=some sz) (hsz0:0<sz)
  (hby:zeF P e=some by_) (hl:0<l) (hl2:l<=17179869184) (hb1:by_<=1024)  (hu:∀w':World,(zeroValue e).run P w'= .ok u w') :
  ∃newcap d,(w.drawn<=d∧l.toNat<=newcap)∧(Builtin.append_ #[st,xt] ty #[.slice none 0 0, .int .i64 l]).run P w=
   .ok (.slice (some ⟨w.heap.size,0,none⟩) l.toNat newcap) { w with heap:=w.heap.push (.cells (Builtin.zeroCells u.cells l.toNat++Builtin.zeroCells u.cells (newcap - l.toNat)) e),drawn:=d}:=by
 obtain ⟨inf,hinf,rfl⟩:=u3 (P:=P) (w:=w) hby;have hcap:0<0+l.toNat:=ge;have hnext:=HL (need:=0+l.toNat) (cap:=0) hcap;have hb2:(inf.bytes:Int) * l<=1024 * l:=Int.mul_le_mul_of_nonneg_right ge ge;have hb3:¬(l * (inf.bytes:Int)>2 ^ 48):=pi;have hbig:¬(Builtin.nextslicecap (0+l.toNat) 0 * inf.bytes>2 ^ 48):=by
  have a1:=Nat.mul_le_mul_right inf.bytes hnext;grind
 have hmax:¬(((0+l.toNat:Nat):Int)>IntKind.i64.max∧(True∨inf.bytes=0)):=by
  grind [IntKind.max,IntKind.bits]
 have w1:IntKind.i64.wrap l=l:=SU ge ge;obtain ⟨q,hq⟩:∃q,q=(Question.appendCap (0+l.toNat) 0 e).cut (w.tape w.drawn (.appendCap (0+l.toNat) 0 e)):=⟨_,rfl⟩
 have hqle:l.toNat<=q:=by grind [Question.cut]
 refine ⟨q,w.drawn+1,⟨Nat.le_succ _,hqle⟩, ?_⟩;have hti:∀w':World,(typeInfo e).run P w'= .ok inf w':=by
  unfold typeInfo at hinf ⊢;cases hi:P.info? e<;>simp_all
 have hneg:¬l<0:=ge;have hns:¬l.toNat * sz=0:=by
  have:=Nat.mul_pos (show 0<l.toNat by omega) hsz0;omega
 have hlt:¬0+l.toNat<=0:=ge;unfold Builtin.append_;simp only [List.getElem?_toArray,List.getElem?_cons_zero,List.getElem?_cons_succ,Sem.run_bind,ar h1,Result.andThen_ok,dq hsz,ar h2,Sem.run_pure,
  if_true,asInt,iy,w1,hneg,if_false,hti,hb3,hns,Bool.not_true,Bool.false_eq_true,hlt,hmax,hbig,run_choose,Question.forced,<- hq,run_askRoom,Builtin.firstCells,hu,tP,Sem.run_map]
 simp
theorem Lt (hH:br φ F w M0 h) (hn:F n) (hk:tk P xt= .int k) (hs:bY φ w (Or M0 (bc φ h)) s vs) (hx:bY φ w (Or M0 (bc φ h)) x vx)
  (hc:(sA P n st s x).cond):Bj P φ F n w M0 h (sA P n st s x) (Builtin.append_ #[st,xt] ty #[vs,vx]):=by
 have h2:∃k,P.underlying xt=some (.int k):=by
  grind [tk]
 obtain ⟨k',h2⟩:=h2;unfold sA at hc ⊢;split at hc
 ·rename_i e l ht;cases hs;cases hx;split at hc
  ·rename_i sz z by_ hsz hz hb;obtain ⟨h1,h3,h4,h5,h6⟩:=hc;have hu0:=λ w':World=>gK (P:=P) (w:=w') hz;obtain ⟨u,hu,hzu,hcv⟩:=hu0 w;have huall:∀w':World,(zeroValue e).run P w'= .ok u w':=by
    intro w';have:(zeroValue e).run P w'= .ok u w':=by
     unfold zeroValue typeInfo at hu ⊢;simp only [Sem.run_bind,run_program,Result.andThen_ok] at hu ⊢;grind [Sem.run_pure,Result.andThen_ok,tz]
    exact this
   subst hzu;have hus:u.cells.size=sz:=pi;obtain ⟨q,d,⟨hdw,hq⟩,hrun⟩:=DM (P:=P) (w:=w) (ty:=ty) (iX ht) h2 hsz h1 hb h4 h6 h5 huall;have hZ:∀m,(Builtin.zeroCells u.cells m).toList=(List.replicate m u.cells.toList).flatten:=λ m=>by
    grind [Builtin.zeroCells,wa]
   have hZs:∀m,(Builtin.zeroCells u.cells m).size=m * sz:=λ m=>by simp [Builtin.zeroCells,hus]
   have hH1:=hH.of_heap (w':={ w with drawn:=d}) rfl;have hst:fm φ w M0 h φ { w with drawn:=d} h:= .of_heap rfl rfl rfl hdw rfl;have hCs:(Builtin.zeroCells u.cells l.toNat++Builtin.zeroCells u.cells (q - l.toNat)).size=q * sz:=by
    rw [Array.size_append,hZs,hZs,<- Nat.add_mul];grind
   obtain ⟨a,b⟩:=hH1.new hn (sz:=sz) (rs:=List.replicate l.toNat (u.cells.toList.map .v)) (C:=Builtin.zeroCells u.cells l.toNat++Builtin.zeroCells u.cells (q - l.toNat)) (T:=e)
    (λ r hr=>by grind) pi
    (λ x hm=>by
     grind [List.mem_flatten])
    (by
     grind [CI,mM])
   refine ⟨_, _, _,hrun, ?_,a,hst.trans b⟩;refine .sl (cZ _ _ _) (Nat.le_refl _) λ _=> .inr (.inr ⟨_, _,q,rfl,rfl,gt,hq, ?_⟩);grind
  grind
 grind
theorem Nx (hH:br φ F w M0 h) (hn:F n) (hs:bY φ w (Or M0 (bc φ h)) s vs) (hx:bY φ w (Or M0 (bc φ h)) x vx)
  (hc:(oZ P n tys.toList s x h).cond):Bj P φ F n w M0 h (oZ P n tys.toList s x h) (Builtin.append_ tys ty #[vs,vx]):=by
 unfold oZ at hc ⊢;split at hc
 ·rename_i st xt htys;obtain rfl:tys= #[st,xt]:=pi;simp only at htys;split at hc
  ·rename_i e e' ht ht';split at hc
   ·rename_i sz by_ z hsz hby hz;have hu0:=λ w':World=>gK (P:=P) (w:=w') hz;obtain ⟨u,hu,hzu,hcv⟩:=hu0 w;have huall:∀w':World,(zeroValue e).run P w'= .ok u w':=by
     intro w';have:(zeroValue e).run P w'= .ok u w':=by
      unfold zeroValue typeInfo at hu ⊢;simp only [Sem.run_bind,run_program,Result.andThen_ok] at hu ⊢;grind [Sem.run_pure,Result.andThen_ok,tz]
     exact this
    split at hc
    · --
     cases hs;obtain ⟨h1,h2,h3,h4,h5,h6⟩:=hc;obtain ⟨r1,r2,X,r3,r4,r5,r6⟩:=qx (P:=P) hH h2 hx h1;have hus':u.cells.size=sz:=pi;by_cases h0:(bt x sz h).2.length=0
     ·have hnil:(bt x sz h).2= []:=List.eq_nil_of_length_eq_zero h0;obtain ⟨a,b⟩:=hH.newNil hn sz;refine ⟨.slice none 0 0,w, _, ?_, ?_,by simp only [aB,hnil];exact a,by grind [aB]⟩
      ·have:=jE (P:=P) (w:=w) (len:=0) (cap:=0) (base:=none) (ty:=ty) (iX ht) ⟨e',ht'⟩ hsz r1 ge (r6 w rfl);simp_all
      ·simp only [hnil];exact .sl (cZ _ _ _) (Nat.le_refl _) λ _=> .inl ⟨rfl,rfl,rfl,rfl⟩
     ·obtain ⟨nc,d,⟨hdw,hnc⟩,hrun⟩:=tO (P:=P) (w:=w) (len:=0) (cap:=0) (base:=none) (ty:=ty) (Y:= #[]) (iX ht) ⟨e',ht'⟩ hsz hby r1 ge h5 h4 pi r6
       (λ w' _=>by simp [Builtin.firstCells]) huall
      simp only [Nat.zero_add] at hnc hrun;have hH1:=hH.of_heap (w':={ w with drawn:=d}) rfl;have hst:fm φ w M0 h φ { w with drawn:=d} h:= .of_heap rfl rfl rfl hdw rfl;have hCl:(#[]++X++Builtin.zeroCells u.cells (nc - (bt x sz h).2.length)).toList.take ((bt x sz h).2.length * sz)=X.toList:=by
       grind
      have hCs:(#[]++X++Builtin.zeroCells u.cells (nc - (bt x sz h).2.length)).size=nc * sz:=by
       have:(Builtin.zeroCells u.cells (nc - (bt x sz h).2.length)).size=(nc - (bt x sz h).2.length) * sz:=by
        simp [Builtin.zeroCells,hus']
       simp only [Array.size_append,this,r3];rw [show (#[]:Array Value).size=0 from rfl,Nat.zero_add,<- Nat.add_mul];grind
      obtain ⟨a,b⟩:=hH1.new hn (sz:=sz) (rs:=(bt x sz h).2) (C:= #[]++X++Builtin.zeroCells u.cells (nc - (bt x sz h).2.length)) (T:=e) r2
       pi pi (by rw [hCl];exact hst.relL r4)
      refine ⟨_, _, _,hrun, ?_,a,hst.trans b⟩;refine .sl (cZ _ _ _) (Nat.le_refl _) λ _=> .inr (.inr ⟨_, _,nc,rfl,rfl,gt,hnc, ?_⟩);grind
    · --
     rename_i o g sz' i len;split at hc
     ·rename_i mt g' sz'' rs ho;obtain ⟨h1,h2,h3,rfl,rfl,rfl,rfl,h8,h9,h5,h6⟩:=hc;simp only [ho];obtain ⟨r1,r2,X,r3,r4,r5,r6⟩:=qx (P:=P) hH h2 hx h1;have hus:0<u.cells.size:=pi;have hus':u.cells.size=sz:=pi;have hal:fI h o g sz:=W7;obtain ⟨A,cap,rfl,hcap,hA⟩:=hH.sl_alive hal hs;obtain ⟨A0,hA0,hobj⟩:=hH.obj _ _ _ _ _ ho;have hrr:∀r ∈ rs.drop i++(bt x sz h).2,r.length=sz:=by
       intro r hm;rcases List.mem_append.1 hm with hm|hm
       ·rcases hobj with ⟨_,rfl⟩|⟨a,bs, _, _,hr⟩
        ·simp at hm
        ·exact hr.rows r (List.mem_of_mem_drop hm)
       grind
      have hol:¬F o:=λ hle=>W5;have hold:∃Y:Array Value,Y.size=len * sz∧aU φ w (Or M0 (bc φ h)) (rs.drop i).flatten Y.toList∧(∀c ∈ Y.toList,gx c=true)∧
        ∀w':World,w'.heap=w.heap->(Builtin.firstCells sz len (.slice A len cap)).run P w'= .ok Y w':=by
       have hself:=qx (P:=P) (x:= .sl o g sz i len) hH h2 hs (by grind [bt]);grind [bt,List.take_of_length_le]
      obtain ⟨Y,y1,y2,y3,y4⟩:=hold;have hdl:(rs.drop i).length=len:=pi;by_cases hle:len+(bt x sz h).2.length<=cap
      ·rcases hA with ⟨rfl,rfl,rfl,rfl⟩|⟨rfl,rfl,hA⟩|⟨a,bs,hp,hsp,rfl,hcb⟩
       · --
        have h0:(bt x sz h).2.length=0:=ge;have hle0:φ.le (aC φ o (some (g+1,none))):=by
         grind [aQ.le,aC]
        obtain ⟨q1,q2,q3⟩:=hH.set (w':=w) (F':=F) (o:=o) (mt:=true) (g:=g+1) (sz:=sz) (rs:= []) (A:=none) (λ _ h=>h) hol (Nat.le_refl _) hle0
         (λ k _ hk=>rfl) (λ o' mt g sz rs a b _ ho hp=>⟨rfl,λ a₁ b₁ e=>by cases e⟩) (λ a b e=>by cases e) (.inl (.inl ⟨rfl,rfl⟩))
        refine ⟨.slice none 0 0,w, _, ?_, ?_,by grind [aB,zdf],⟨hle0,by grind [aB],Fr.refl _ _, ?_⟩⟩
        ·have:=jE (P:=P) (w:=w) (len:=0) (cap:=0) (base:=none) (ty:=ty) (iX ht) ⟨e',ht'⟩ hsz r1 hle (r6 w rfl);simp_all
        ·simp only [h0];exact .sl (cZ _ _ _) (Nat.le_refl _) λ _=> .inl ⟨rfl,rfl,rfl,rfl⟩
        grind [aB]
       ·have h0:(bt x sz h).2.length=0:=by omega
        obtain ⟨a',rfl⟩:=Option.isSome_iff_exists.1 hA;have hle0:φ.le (aC φ o (some (g+1,none))):=by
         grind [aQ.le,aC]
        obtain ⟨q1,q2,q3⟩:=hH.set (w':=w) (F':=F) (o:=o) (mt:=true) (g:=g+1) (sz:=sz) (rs:= []) (A:=none) (λ _ h=>h) hol (Nat.le_refl _) hle0
         (λ k _ hk=>rfl) (λ o' mt g sz rs a b _ ho hp=>⟨rfl,λ a₁ b₁ e=>by cases e⟩) (λ a b e=>by cases e) (.inl (.inl ⟨rfl,rfl⟩))
        refine ⟨.slice (some a') 0 0,w, _, ?_, ?_,by grind [aB,zdf],⟨hle0,by grind [aB],Fr.refl _ _, ?_⟩⟩
        ·have:=jE (P:=P) (w:=w) (len:=0) (cap:=0) (base:=some a') (ty:=ty) (iX ht) ⟨e',ht'⟩ hsz r1 hle (r6 w rfl);simp_all [storeCells]
        ·simp only [h0];exact .sl (cZ _ _ _) (Nat.le_refl _) λ _=> .inr (.inl ⟨rfl,a',rfl⟩)
        grind [aB]
       · --
        rw [hp] at hA0;simp only [Option.some.injEq,Prod.mk.injEq,true_and] at hA0;subst hA0;rcases hobj with ⟨hobj, _⟩|⟨a₁,bs₁,e1,h0,hd⟩
        ·cases hobj
        simp only [Option.some.injEq,Prod.mk.injEq] at e1;obtain ⟨rfl,rfl⟩:=e1;obtain ⟨C,T,hb,hC,hr,hl,hv,hrel⟩:=hd.cells hsp;have hXl:X.toList.length=(bt x sz h).2.length * sz:=ge;have hmul:=Nat.mul_le_mul_right sz hle;rw [Nat.add_mul] at hmul;obtain ⟨w',hrun,hw'⟩:=mC (P:=P) (a:=⟨a.block,a.off+i * sz+len * sz,none⟩) (T:=T) rfl X.toList 0 w C hb pi r5;have hM:∀k,¬Or M0 (bc φ h) k->k≠a.block:=λ k hk e=>hk (.inr ⟨o,g,sz,rs,g,a,bs,ho,hp,e.symm⟩);have hle0:φ.le (aC φ o (some (g+1,some ((⟨a.block,a.off+i * sz,none⟩:Addr),bs)))):=by
         grind [aQ.le,aC]
        have hYe:Y.toList=(C.toList.drop (a.off+i * sz)).take (len * sz):=by
         grind [Builtin.firstCells,nH]
        have hlen':(rs.drop i++(bt x sz h).2).length=len+(bt x sz h).2.length:=pi;have hwin:(((⟨oM C.toList (a.off+i * sz+len * sz) X.toList⟩:Array Value).toList.drop (a.off+i * sz)).take ((len+(bt x sz h).2.length) * sz))=Y.toList++X.toList:=by
         rw [jr _ _ _ _ _ pi];have e2:(C.toList.drop (a.off+i * sz)).take ((len+(bt x sz h).2.length) * sz)=Y.toList++((C.toList.drop (a.off+i * sz)).drop (len * sz)).take ((bt x sz h).2.length * sz):=by
          grind [Nat.add_mul]
         rw [e2];have hall:∀ (us l p:List Value),l.length=us.length->oM (p++l) p.length us=p++us:=by
          intro us;induction us with
          |nil=>grind [oM]
          |cons c cs ih=>
           intro l p hh;cases l with
           |nil=>simp at hh
           |cons y l=>
            rw [oM,List.set_append_right _ _ ge];have:=ih l (p++ [c]) pi;simp_all
         have hYl:Y.toList.length=len * sz:=ge;rw [<- hYl];apply hall;rw [List.length_take,List.length_drop,List.length_drop,hXl,Array.length_toList,hYl];omega
        obtain ⟨q1,q2,q3⟩:=hH.set (w':=w') (F':=F) (o:=o) (mt:=true) (g:=g+1) (sz:=sz) (rs:=rs.drop i++(bt x sz h).2) (A:=some (⟨a.block,a.off+i * sz,none⟩,bs))
         (λ _ h=>h) hol WK hle0 (λ k hk _=>hw'.other k (hM k hk))
         (λ o' mt' g' sz' rs' a₁ b₁ hne ho' hp'=>by
          have:=hH.inj _ _ _ _ _ _ _ _ _ _ _ _ _ _ ho ho' (Ne.symm hne) (.inl rfl) hp hp';refine ⟨hw'.other _ (Ne.symm this),λ a₂ b₂ e=> ?_⟩;grind)
         (λ a₁ b₁ e=>by
          grind)
         (.inr ⟨_,bs, _,T,rfl,rfl,h0,hw'.at_,X5,hrr,
          by grind,
          λ c hm=>by
           grind,
          by
           rw [hlen'];simp only [Nat.add_zero];rw [hwin,List.flatten_append];exact y2.append r4⟩)
        refine ⟨.slice (some ⟨a.block,a.off+i * sz,none⟩) (len+(bt x sz h).2.length) cap,w', _, ?_, ?_,q1,⟨hle0,q2,⟨hw'.os,hw'.tape,hw'.output,hw'.drawn,WK,
         λ k _ hu=>hw'.other k (λ e=>hu ⟨o,g,sz,rs,g,a,bs,ho,hp,e.symm⟩)⟩,λ k hk=> ?_⟩⟩
        ·grind [jE,jO,Result.andThen_ok,tk]
        ·refine .sl (cZ _ _ _) (Nat.le_refl _) λ _=> .inr (.inr ⟨_, _,cap,rfl,rfl,gt,hle, ?_⟩);grind
        ·rcases q3 k hk with h|⟨a₁,b₁,e,rfl⟩;all_goals grind [Or]
      · --
       obtain ⟨nc,d,⟨hdw,hnc⟩,hrun⟩:=tO (P:=P) (w:=w) (len:=len) (cap:=cap) (base:=A) (ty:=ty) (Y:=Y) (iX ht) ⟨e',ht'⟩ hsz hby r1 hle h5 h9 h6 r6 y4 huall;have hH1:=hH.of_heap (w':={ w with drawn:=d}) rfl;have hst:fm φ w M0 h φ { w with drawn:=d} h:= .of_heap rfl rfl rfl hdw rfl;obtain ⟨Z,hZ⟩:∃Z:Array Value,Z=Y++X++Builtin.zeroCells u.cells (nc - (len+(bt x sz h).2.length)):=⟨_,rfl⟩
       rw [<- hZ] at hrun;have hlen':(rs.drop i++(bt x sz h).2).length=len+(bt x sz h).2.length:=pi;have hCl:Z.toList.take ((len+(bt x sz h).2.length) * sz)=Y.toList++X.toList:=by
        grind [List.take_left']
       have hCs:Z.size=nc * sz:=by
        have:(Builtin.zeroCells u.cells (nc - (len+(bt x sz h).2.length))).size=(nc - (len+(bt x sz h).2.length)) * sz:=by
         simp [Builtin.zeroCells,hus']
        rw [hZ];simp only [Array.size_append,this,r3,y1];rw [<- Nat.add_mul,<- Nat.add_mul];grind
       have hle0:φ.le (aC φ o (some (g+1,some ((⟨w.heap.size,0,none⟩:Addr),Z.size)))):=by
        grind [ja,aQ.le,aC]
       obtain ⟨q1,q2,q3⟩:=hH1.set (w':={ w with heap:=w.heap.push (.cells Z e),drawn:=d}) (F':=F) (o:=o) (mt:=true) (g:=g+1) (sz:=sz) (rs:=rs.drop i++(bt x sz h).2)
        (A:=some (⟨w.heap.size,0,none⟩,Z.size)) (λ _ h=>h) hol gt hle0 (λ k _ hk=>lv w _ k hk)
        (λ o' mt g sz rs a b _ ho hp=>by
         have:=(hH.place_old ho hp).1;grind)
        (λ a b e=>by
         grind)
        (.inr ⟨⟨w.heap.size,0,none⟩,Z.size,Z,e,rfl,rfl,λ hm=>by have:=hH.m0 _ hm;grind,qI w _,rfl,hrr,
         by grind,
         λ c hm=>by
          grind,
         by
          rw [hlen'];simp only [List.drop_zero,hCl,List.flatten_append];exact hst.relL (y2.append r4)⟩)
       refine ⟨_, _, _,hrun, ?_,q1,⟨hle0,q2,⟨rfl,rfl,rfl,hdw,gt,λ k hk _=>lv w _ k hk⟩,λ k hk=> ?_⟩⟩
       ·refine .sl (cZ _ _ _) (Nat.le_refl _) λ _=> .inr (.inr ⟨_, _,nc,rfl,rfl,gt,hnc, ?_⟩);grind
       ·rcases q3 k hk with h|⟨a₁,b₁,e,rfl⟩;all_goals grind
     grind
    grind
   grind
  grind
 grind
theorem br.freeze {φ:aQ}{F:Nat->Prop}{w:World}{M0:Nat->Prop}{h h':au} (hH:br φ F w M0 h) (hf:zH h h'):br φ F w M0 h'∧fm φ w M0 h φ w h':=by
 have hmut:∀k,bc φ h' k->bc φ h k:=by
  grind [bc,zH]
 have hold:∀o mt g sz rs,h' o=some (.rows mt g sz rs)->∃mt',h o=some (.rows mt' g sz rs)∧(mt=true->mt'=true):=by
  grind [zH]
 have st:fm φ w M0 h φ w h':=⟨φ.le_refl,λ k hk=> .inl (hk.imp id (hmut k)),Fr.refl _ _,λ k hk=> .inl (hmut k hk)⟩
 refine ⟨⟨hH.m0,hH.fresh,λ o mt g sz rs ho=> ?_, ?_,hH.glob.keep (λ _ _ _=>rfl) (λ k hk=> .inl (hk.imp id (hmut k)))⟩,st⟩
 ·obtain ⟨mt',ho', _⟩:=hold _ _ _ _ _ ho;obtain ⟨A,hA,h1⟩:=hH.obj _ _ _ _ _ ho';refine ⟨A,hA,h1.imp id ?_⟩;rintro ⟨a,bs,e1,e3,e4⟩;exact ⟨a,bs,e1,e3,e4.same rfl (λ e9=>st.relL e9)⟩
 ·intro o o' mt g sz rs mt' g' sz' rs' a a' b b' h1 h2 hne hm p1 p2;obtain ⟨m1,q1,i1⟩:=hold _ _ _ _ _ h1;obtain ⟨m2,q2,i2⟩:=hold _ _ _ _ _ h2;exact hH.inj _ _ _ _ _ _ _ _ _ _ _ _ _ _ q1 q2 hne (hm.imp i1 i2) p1 p2
theorem EH:∀ (us l:List Value) (k off n:Nat),off+n<=k->((oM l k us).drop off).take n=(l.drop off).take n
 | [],l,k,off,n, _=>rfl
 |u::us,l,k,off,n,h=>by
  rw [oM,EH us _ (k+1) off n ge];apply List.ext_getElem?;intro j;simp only [List.getElem?_take,List.getElem?_drop,List.getElem?_set];by_cases hj:j<n
  ·have:¬k=off+j:=by omega
   simp [hj,this]
  ·simp [hj]
theorem HK {k o g:Nat}{A:Option (Addr×Nat)} (hH:br φ F w M0 h)
  (hk:∀o' g' sz' rs' a b,o'≠o->h o'=some (.rows true g' sz' rs')->φ o'=some (g',some (a,b))->a.block≠k):
  ¬bc (aC φ o (some (g,A))) (aC h o (some (.rows false g sz rs))) k:=by
 rintro ⟨o',g',sz',rs',g'',a,bs,h1,h2,h3⟩;by_cases e:o'=o
 ·grind [cZ]
 ·rw [ja _ _ e] at h1 h2;obtain ⟨A2,hA2, _⟩:=hH.obj _ _ _ _ _ h1;grind
theorem Lq (hH:br φ F w M0 h) (hn:F n) (hs:bY φ w (Or M0 (bc φ h)) s vs) (hx:bY φ w (Or M0 (bc φ h)) x vx)
  (hc:(mS P tys.toList s x h).cond):Bj P φ F n w M0 h (mS P tys.toList s x h) (Builtin.append_ tys ty #[vs,vx]):=by
 unfold mS at hc ⊢;split at hc
 ·rename_i st xt htys;obtain rfl:tys= #[st,xt]:=pi;simp only at htys;split at hc
  ·rename_i e e' ht ht';split at hc
   ·rename_i sz by_ z hsz hby hz;have hu0:=λ w':World=>gK (P:=P) (w:=w') hz;obtain ⟨u,hu,hzu,hcv⟩:=hu0 w;have huall:∀w':World,(zeroValue e).run P w'= .ok u w':=by
     intro w';have:(zeroValue e).run P w'= .ok u w':=by
      unfold zeroValue typeInfo at hu ⊢;simp only [Sem.run_bind,run_program,Result.andThen_ok] at hu ⊢;grind [Sem.run_pure,Result.andThen_ok,tz]
     exact this
    split at hc
    ·rename_i o g sz' i len;split at hc
     ·rename_i mt g' sz'' rs ho;obtain ⟨h1,h2,h3,rfl,rfl,rfl,rfl,h8,h9,h5,h6⟩:=hc;simp only [ho];obtain ⟨r1,r2,X,r3,r4,r5,r6⟩:=qx (P:=P) hH h2 hx h1;have hus:0<u.cells.size:=pi;have hus':u.cells.size=sz:=pi;have hal:fI h o g sz:=W7;have hself:=qx (P:=P) (x:= .sl o g sz i len) hH h2 hs (by grind [bt]);obtain ⟨A,cap,rfl,hcap,hA⟩:=hH.sl_alive hal hs;obtain ⟨A0,hA0,hobj⟩:=hH.obj _ _ _ _ _ ho;have hrr:∀r ∈ rs.drop i++(bt x sz h).2,r.length=sz:=by
       intro r hm;rcases List.mem_append.1 hm with hm|hm
       ·rcases hobj with ⟨_,rfl⟩|⟨a,bs, _, _,hr⟩
        ·simp at hm
        ·exact hr.rows r (List.mem_of_mem_drop hm)
       grind
      have hol:¬F o:=λ hle=>W5;have hold:∃Y:Array Value,Y.size=len * sz∧aU φ w (Or M0 (bc φ h)) (rs.drop i).flatten Y.toList∧(∀c ∈ Y.toList,gx c=true)∧
        ∀w':World,w'.heap=w.heap->(Builtin.firstCells sz len (.slice A len cap)).run P w'= .ok Y w':=by
       grind [bt,List.take_of_length_le]
      obtain ⟨Y,y1,y2,y3,y4⟩:=hold;have hdl:(rs.drop i).length=len:=pi;have hlen':(rs.drop i++(bt x sz h).2).length=len+(bt x sz h).2.length:=pi;have hfz0:zH h (aB [(o,some (.rows false g sz rs))] h):=λ o'=>by
       simp only [aB];grind [aC]
      have hfz1:zH (aC h o (some (.rows true g sz rs))) (aB [(o,some (.rows false g sz rs))] h):=λ o'=>by
       simp only [aB];grind [aC]
      have hle0:φ.le (aC φ o (some (g,A0))):=by
       grind [aQ.le,aC]
      by_cases hle:len+(bt x sz h).2.length<=cap
      ·rcases hA with ⟨rfl,rfl,rfl,rfl⟩|⟨rfl,rfl,hA⟩|⟨a,bs,hp,hsp,rfl,hcb⟩
       · --
        have h0:(bt x sz h).2.length=0:=ge;have hnil:(bt x sz h).2= []:=List.eq_nil_of_length_eq_zero h0;have hdn:rs.drop 0= []:=List.eq_nil_of_length_eq_zero hdl;obtain ⟨q1,q2⟩:=hH.freeze hfz0;refine ⟨.slice none 0 0,w,φ, ?_, ?_,q1,q2⟩
        ·have:=jE (P:=P) (w:=w) (len:=0) (cap:=0) (base:=none) (ty:=ty) (iX ht) ⟨e',ht'⟩ hsz r1 hle (r6 w rfl);simp_all
        ·simp only [hnil,hdn,List.append_nil];exact .nil _ _ _
       ·have h0:(bt x sz h).2.length=0:=by omega
        have hnil:(bt x sz h).2= []:=List.eq_nil_of_length_eq_zero h0;have hdn:rs.drop i= []:=List.eq_nil_of_length_eq_zero hdl;obtain ⟨a',rfl⟩:=Option.isSome_iff_exists.1 hA;obtain ⟨q1,q2⟩:=hH.freeze hfz0;refine ⟨.slice (some a') 0 0,w,φ, ?_, ?_,q1,q2⟩
        ·have:=jE (P:=P) (w:=w) (len:=0) (cap:=0) (base:=some a') (ty:=ty) (iX ht) ⟨e',ht'⟩ hsz r1 hle (r6 w rfl);simp_all [storeCells]
        ·simp only [hnil,hdn,List.append_nil];exact .nil _ _ _
       · --
        rw [hp] at hA0;simp only [Option.some.injEq,Prod.mk.injEq,true_and] at hA0;subst hA0;rcases hobj with ⟨hobj, _⟩|⟨a₁,bs₁,e1,h0,hd⟩
        ·cases hobj
        simp only [Option.some.injEq,Prod.mk.injEq] at e1;obtain ⟨rfl,rfl⟩:=e1;obtain ⟨C,T,hb,hC,hr,hl,hv,hrel⟩:=hd.cells hsp;have hXl:X.toList.length=(bt x sz h).2.length * sz:=ge;have hmul:=Nat.mul_le_mul_right sz hle;rw [Nat.add_mul] at hmul;have hrsl:rs.length * sz=i * sz+len * sz:=pi;obtain ⟨w',hrun,hw'⟩:=mC (P:=P) (a:=⟨a.block,a.off+i * sz+len * sz,none⟩) (T:=T) rfl X.toList 0 w C hb pi r5;have hM:∀k,¬Or M0 (bc φ h) k->k≠a.block:=λ k hk e=>hk (.inr ⟨o,g,sz,rs,g,a,bs,ho,hp,e.symm⟩);have hYe:Y.toList=(C.toList.drop (a.off+i * sz)).take (len * sz):=by
         grind [Builtin.firstCells,nH]
        have hwin:(((⟨oM C.toList (a.off+i * sz+len * sz) X.toList⟩:Array Value).toList.drop (a.off+i * sz)).take ((len+(bt x sz h).2.length) * sz))=Y.toList++X.toList:=by
         rw [jr _ _ _ _ _ pi];have e2:(C.toList.drop (a.off+i * sz)).take ((len+(bt x sz h).2.length) * sz)=Y.toList++((C.toList.drop (a.off+i * sz)).drop (len * sz)).take ((bt x sz h).2.length * sz):=by
          grind [Nat.add_mul]
         rw [e2];have hall:∀ (us l p:List Value),l.length=us.length->oM (p++l) p.length us=p++us:=by
          intro us;induction us with
          |nil=>grind [oM]
          |cons c cs ih=>
           intro l p hh;cases l with
           |nil=>simp at hh
           |cons y l=>
            rw [oM,List.set_append_right _ _ ge];have:=ih l (p++ [c]) pi;simp_all
         have hYl:Y.toList.length=len * sz:=ge;rw [<- hYl];apply hall;rw [List.length_take,List.length_drop,List.length_drop,hXl,Array.length_toList,hYl];omega
        have hbef:((⟨oM C.toList (a.off+i * sz+len * sz) X.toList⟩:Array Value).toList.drop a.off).take (rs.length * sz)=(C.toList.drop a.off).take (rs.length * sz):=
         EH _ _ _ _ _ ge
        obtain ⟨q1,q2,q3⟩:=hH.set (w':=w') (F':=F) (o:=o) (mt:=true) (g:=g) (sz:=sz) (rs:=rs) (A:=some (a,bs))
         (λ _ h=>h) hol WK hle0 (λ k hk _=>hw'.other k (hM k hk))
         (λ o' mt' g' sz' rs' a₁ b₁ hne ho' hp'=>by
          have:=hH.inj _ _ _ _ _ _ _ _ _ _ _ _ _ _ ho ho' (Ne.symm hne) (.inl rfl) hp hp';refine ⟨hw'.other _ (Ne.symm this),λ a₂ b₂ e=> ?_⟩;grind)
         (λ a₁ b₁ e=>by
          grind)
         (.inr ⟨a,bs, _,T,rfl,hsp,h0,hw'.at_,X5,hr,hl,
          λ c hm=>by
           grind,
          by
           grind⟩)
        have st1:fm φ w M0 h (aC φ o (some (g,some (a,bs)))) w' (aC h o (some (.rows true g sz rs))):=
         ⟨hle0,q2,⟨hw'.os,hw'.tape,hw'.output,hw'.drawn,WK,λ k _ hu=>hw'.other k (λ e=>hu ⟨o,g,sz,rs,g,a,bs,ho,hp,e.symm⟩)⟩,λ k hk=>by
          grind [Or]⟩
        obtain ⟨q4,q5⟩:=q1.freeze hfz1;have stt:=st1.trans q5;refine ⟨.slice (some ⟨a.block,a.off+i * sz,none⟩) (len+(bt x sz h).2.length) cap,w', _, ?_, ?_,q4,stt⟩
        ·grind [jE,jO,Result.andThen_ok,tk]
        ·refine .lst (C:=⟨oM C.toList (a.off+i * sz+len * sz) X.toList⟩) (T:=T) (fz:=(0,0)) rfl ?_ (by simpa using hw'.at_) hrr hlen'.symm ?_ hle ?_ ?_
         ·rintro (hk|hk)
          ·grind
          ·exact HK hH (λ o' g' sz' rs' a' b' hne ho' hp' e=>hH.inj _ _ _ _ _ _ _ _ _ _ _ _ _ _ ho ho' (Ne.symm hne) (.inl rfl) hp hp' e.symm) hk
         ·grind [kE]
         ·grind
         ·rw [hlen'];rw [hwin,List.flatten_append];exact stt.relL (y2.append r4)
      · --
       obtain ⟨nc,d,⟨hdw,hnc⟩,hrun⟩:=tO (P:=P) (w:=w) (len:=len) (cap:=cap) (base:=A) (ty:=ty) (Y:=Y) (iX ht) ⟨e',ht'⟩ hsz hby r1 hle h5 h9 h6 r6 y4 huall;have hH1:=hH.of_heap (w':={ w with drawn:=d}) rfl;have hst:fm φ w M0 h φ { w with drawn:=d} h:= .of_heap rfl rfl rfl hdw rfl;obtain ⟨Z,hZ⟩:∃Z:Array Value,Z=Y++X++Builtin.zeroCells u.cells (nc - (len+(bt x sz h).2.length)):=⟨_,rfl⟩
       rw [<- hZ] at hrun;have hCl:Z.toList.take ((len+(bt x sz h).2.length) * sz)=Y.toList++X.toList:=by
        grind [List.take_left']
       obtain ⟨q1,q2,q3⟩:=hH1.set (w':={ w with heap:=w.heap.push (.cells Z e),drawn:=d}) (F':=F) (o:=o) (mt:=true) (g:=g) (sz:=sz) (rs:=rs)
        (A:=A0) (λ _ h=>h) hol gt hle0 (λ k _ hk=>lv w _ k hk)
        (λ o' mt g2 sz2 rs2 a b hne ho2 hp2=>by
         have:=(hH.place_old ho2 hp2).1;refine ⟨lv w _ _ this,λ a₁ b₁ e=> ?_⟩;subst e;exact hH.inj _ _ _ _ _ _ _ _ _ _ _ _ _ _ ho ho2 (Ne.symm hne) (.inl rfl) hA0 hp2)
        (λ a b e=>by
         grind [Or,bc])
        (by
         rcases hobj with ⟨e1,e2⟩|⟨a,bs,e1,e2,hd⟩
         ·grind
         ·have hlt:=hd.blk;by_cases hsp:a.spot=none
          ·obtain ⟨C,T,hb,hC,hr,hl,hv,hrel⟩:=hd.cells hsp;exact .inr ⟨a,bs,C,T,e1,hsp,e2,(lv w _ _ hlt).trans hb,hC,hr,hl,hv,hst.relL hrel⟩
          ·obtain ⟨es,clk,hb,hz2,hr,hrel⟩:=hd.map hsp;exact .inl (.inr ⟨a,bs,es,clk,e1,hsp,e2,(lv w _ _ hlt).trans hb,hz2,hr,hst.relL hrel⟩))
       have st1:fm φ w M0 h (aC φ o (some (g,A0))) { w with heap:=w.heap.push (.cells Z e),drawn:=d} (aC h o (some (.rows true g sz rs))):=
        ⟨hle0,q2,⟨rfl,rfl,rfl,hdw,gt,λ k hk _=>lv w _ k hk⟩,λ k hk=>by
         grind [bc]⟩
       obtain ⟨q4,q5⟩:=q1.freeze hfz1;have stt:=st1.trans q5;refine ⟨_, _, _,hrun, ?_,q4,stt⟩;refine .lst (C:=Z) (T:=e) (fz:=(0,0)) rfl ?_ (qI w _) hrr hlen'.symm ?_ hnc ?_ ?_
       ·rintro (hk|hk)
        ·have:=hH.m0 _ hk;grind
        ·exact HK hH (λ o' g' sz' rs' a' b' hne ho' hp' e=>by have:=(hH.place_old ho' hp').1;grind) hk
       ·grind
       ·grind
       ·rw [hlen'];simp only [List.drop_zero,hCl,List.flatten_append];exact stt.relL (y2.append r4)
     grind
    grind
   grind
  grind
 grind
theorem za4 (hH:br φ F w M0 h) (hn:F n) (hs:bY φ w (Or M0 (bc φ h)) s vs) (hx:bY φ w (Or M0 (bc φ h)) x vx)
  (hc:(BM P n tys.toList s x h).cond):Bj P φ F n w M0 h (BM P n tys.toList s x h) (Builtin.append_ tys ty #[vs,vx]):=by
 unfold BM at hc;split at hc
 ·rename_i st xt htys;obtain rfl:tys= #[st,xt]:=pi;have e0:BM P n (#[st,xt]:Array TypeId).toList s x h=bif OJ (tk P xt) then sA P n st s x else bif Tz n s then mS P [st,xt] s x h else oZ P n [st,xt] s x h:=rfl
  rw [e0];cases hi:tk P xt with
  |int k=>
   grind [OJ,Lt]
  | _=>
   simp only [hi,OJ,cond_false] at hc ⊢;cases hq:Tz n s with
   |true=>
    simp only [hq,cond_true] at hc ⊢;exact Lq hH hn hs hx hc
   |false=>
    simp only [hq,cond_false] at hc ⊢;exact Nx hH hn hs hx hc
 grind
theorem UY (hH:br φ F w M0 h){ats:Array TypeId} (ha:ats[0]? =some t) (hx:bY φ w (Or M0 (bc φ h)) x v) (hc:(Og P t x).cond):
  ft P φ w (Or M0 (bc φ h)) (Og P t x) (Builtin.cap_ ats ty #[v]):=by
 unfold Og at hc ⊢;split at hc
 ·cases hx;exact ⟨_,by simp_all [Builtin.cap_,ar,iX,goInt], .v _,rfl,rfl⟩
 grind

theorem H5:∀ (cs l:List AV) (k:Nat),k+cs.length<=l.length->setMany l k cs=l.take k++cs++l.drop (k+cs.length)
 | [],l,k, _=>by simp [setMany]
 |c::cs,l,k,h=>by
  simp only [List.length_cons] at h;rw [setMany,H5 cs (l.set k c) (k+1) WJ];rw [List.drop_set_of_lt ge,List.take_succ_eq_append_getElem WJ,List.take_set_of_le (Nat.le_refl _)];simp [Nat.add_assoc,Nat.add_comm 1]
theorem ye {xs:List (List AV)} (hr:∀r ∈ rs,r.length=sz) (hx:∀r ∈ xs,r.length=sz) (i:Nat) (h:i+xs.length<=rs.length):
  (rs.take i++xs++rs.drop (i+xs.length)).flatten=setMany rs.flatten (i * sz) xs.flatten:=by
 have hm:=Nat.mul_le_mul_right sz h;rw [Nat.add_mul] at hm;rw [H5 _ _ _ (by grind [yd]),List.flatten_append,List.flatten_append,o6 hr,o5 hr,yd hx,Nat.add_mul]
theorem U3 (hH:br φ F w M0 h) (hs:bY φ w (Or M0 (bc φ h)) s vs) (hx:bY φ w (Or M0 (bc φ h)) x vx)
  (hc:(x9 P tys.toList s x h).cond):Bj P φ F n w M0 h (x9 P tys.toList s x h) (Builtin.copy_ tys ty #[vs,vx]):=by
 unfold x9 at hc ⊢;split at hc
 ·rename_i st rest htys;have h0t:tys[0]? =some st:=by rw [<- Array.getElem?_toList,htys];rfl
  split at hc
  ·rename_i e ht;split at hc
   ·rename_i sz hsz;split at hc
    ·rename_i o g sz' i len;split at hc
     ·rename_i mt g' sz'' rs ho;obtain ⟨h1,h2,rfl,rfl,rfl,rfl,h8,h9⟩:=hc;simp only [ho];obtain ⟨r1,r2,X,r3,r4,r5,r6⟩:=EI (P:=P) hH h2 hx h1;have hal:fI h o g sz:=W7;obtain ⟨A,cap,rfl,hcap,hA⟩:=hH.sl_alive hal hs;generalize hm:min (bt x sz h).2.length len=m at *;have hmx:m<=(bt x sz h).2.length:=ge;have hrun0:(Builtin.copy_ tys ty #[.slice A len cap,vx]).run P w=((match A with|some a=>storeCells a (X.toList.take (m * sz))|none=>pure ()).run P w).andThen λ _ w'=> .ok (goInt m) w':=by
       have h6:=r6 w rfl m hmx;have hmin:Nat.min (bt x sz h).2.length len=m:=hm;cases A<;>simp [Builtin.copy_,h0t,ar (iX ht),r1,hmin,dq hsz,h6]
      have hint:goInt m= .int .i64 m:=by simp [goInt]
      obtain ⟨A0,hA0,hobj⟩:=hH.obj _ _ _ _ _ ho;have hol:¬F o:=λ hle=>W5;by_cases hm0:m=0
      ·subst hm0;have hrs:rs.take i++(bt x sz h).2.take 0++rs.drop (i+0)=rs:=gt;have hupd:aC h o (some (.rows true g sz rs))=h:=by rw [<- ho,CS]
       refine ⟨.int .i64 0,w,φ, ?_, ?_, ?_, ?_⟩
       ·rw [hrun0];cases A<;>simp [storeCells,goInt]
       ·exact .v _
       ·grind [aB,zdf]
       ·simp only [aB,hrs,hupd];exact .refl _ _ _ _
      ·rcases hA with ⟨rfl,rfl,rfl,rfl⟩|⟨rfl,rfl,hA⟩|⟨a,bs,hp,hsp,rfl,hcb⟩
       ·omega
       ·omega
       ·rw [hp] at hA0;simp only [Option.some.injEq,Prod.mk.injEq,true_and] at hA0;subst hA0;rcases hobj with ⟨hobj, _⟩|⟨a₁,bs₁,e1,h0,hd⟩
        ·cases hobj
        obtain ⟨rfl,rfl⟩:=e1;obtain ⟨C,T,hb,hC,hr,hl,hv,hrel⟩:=hd.cells hsp;have hmul:=Nat.mul_le_mul_right sz (show i+m<=rs.length by omega);obtain ⟨w',hrun,hw'⟩:=mC (P:=P) (a:=⟨a.block,a.off+i * sz,none⟩) (T:=T) rfl (X.toList.take (m * sz)) 0 w C hb pi (λ u hu=>r5 u (List.mem_of_mem_take hu));have hM:∀k,¬Or M0 (bc φ h) k->k≠a.block:=λ k hk e=>hk (.inr ⟨o,g,sz,rs,g,a,bs,ho,hp,e.symm⟩);have hle0:φ.le (aC φ o (some (g,some (a,bs)))):=Xt;have hxt:∀r ∈ (bt x sz h).2.take m,r.length=sz:=λ r hr0=>r2 r (List.mem_of_mem_take hr0);have htl:((bt x sz h).2.take m).length=m:=pi;have hflat:=ye hr hxt i pi;have hxr:aU φ w (Or M0 (bc φ h)) ((bt x sz h).2.take m).flatten (X.toList.take (m * sz)):=by
         rw [o6 r2];exact r4.take _
        obtain ⟨g1,g2,g3⟩:=hH.set (w':=w') (F':=F) (o:=o) (mt:=true) (g:=g) (sz:=sz) (rs:=rs.take i++(bt x sz h).2.take m++rs.drop (i+m)) (A:=some (a,bs))
         (λ _ h=>h) hol WK hle0 (λ k hk _=>hw'.other k (hM k hk))
         (λ o' mt' g' sz' rs' a₁ b₁ hne ho' hp'=>by
          have:=hH.inj _ _ _ _ _ _ _ _ _ _ _ _ _ _ ho ho' (Ne.symm hne) (.inl rfl) hp hp';refine ⟨hw'.other _ (Ne.symm this),λ a₂ b₂ e=> ?_⟩;grind)
         (λ a₁ b₁ e=>by
          grind)
         (.inr ⟨a,bs, _,T,rfl,hsp,h0,hw'.at_,X5,
          λ r hm=>by
           grind,
          by grind,
          λ c hm=>by
           grind [jr,tK,List.mem_of_mem_take],
          by
           grind [jr,zhj]⟩)
        refine ⟨.int .i64 m,w', _, ?_, .v _,g1,⟨hle0,g2,⟨hw'.os,hw'.tape,hw'.output,hw'.drawn,WK,λ k _ hu=>hw'.other k (λ e=>hu ⟨o,g,sz,rs,g,a,bs,ho,hp,e.symm⟩)⟩,λ k hk=> ?_⟩⟩
        ·simp_all
        ·rcases g3 k hk with h|⟨a₁,b₁,e,rfl⟩;all_goals grind [Or]
     grind
    grind
   grind
  grind
 grind
theorem QL (hH:br φ F w M0 h) (hs:bY φ w (Or M0 (bc φ h)) s vs)
  (hc:(ul P tys.toList s h).cond):Bj P φ F n w M0 h (ul P tys.toList s h) (Builtin.clear_ tys ty #[vs]):=by
 unfold ul at hc ⊢;split at hc
 ·rename_i st rest htys;have h0t:tys[0]? =some st:=by rw [<- Array.getElem?_toList,htys];rfl
  split at hc
  ·rename_i e ht;split at hc
   ·rename_i sz z hsz hz;split at hc
    ·rename_i o g sz' i len;split at hc
     ·rename_i mt g' sz'' rs ho;obtain ⟨h2,hzl,rfl,rfl,rfl,rfl,h8,h9⟩:=hc;obtain ⟨u,hzv,hzc,hu1⟩:=gK (P:=P) (w:=w) hz;have hal:fI h o g sz:=W7;obtain ⟨A,cap,rfl,hcap,hA⟩:=hH.sl_alive hal hs;obtain ⟨A0,hA0,hobj⟩:=hH.obj _ _ _ _ _ ho;have hol:¬F o:=λ hle=>W5;by_cases hm0:len=0
      ·subst hm0;have hrs:rs.take i++List.replicate 0 z++rs.drop (i+0)=rs:=gt;have hupd:aC h o (some (.rows true g sz rs))=h:=by rw [<- ho,CS]
       refine ⟨.tuple #[],w,φ, ?_, ?_, ?_, ?_⟩
       ·cases A<;>simp [Builtin.clear_,h0t,ar (iX ht)]
       ·exact .tup (vs:= []) .nil
       ·grind [aB,zdf]
       ·simp only [aB,hrs,hupd];exact .refl _ _ _ _
      ·rcases hA with ⟨rfl,rfl,rfl,rfl⟩|⟨rfl,rfl,hA⟩|⟨a,bs,hp,hsp,rfl,hcb⟩
       ·omega
       ·omega
       ·rw [hp] at hA0;simp only [Option.some.injEq,Prod.mk.injEq,true_and] at hA0;subst hA0;rcases hobj with ⟨hobj, _⟩|⟨a₁,bs₁,e1,h0,hd⟩
        ·cases hobj
        obtain ⟨rfl,rfl⟩:=e1;obtain ⟨C,T,hb,hC,hr,hl,hv,hrel⟩:=hd.cells hsp;obtain ⟨X,hX⟩:∃X,X=(Builtin.zeroCells u.cells len).toList:=⟨_,rfl⟩
        have hXl:X=(List.replicate len u.cells.toList).flatten:=by grind [Ir]
        have hXm:X.length=len * sz:=by grind [Builtin.zeroCells]
        have hX1:∀v ∈ X,gx v=true:=by
         grind [List.mem_flatten]
        have hrun0:(Builtin.clear_ tys ty #[.slice (some ⟨a.block,a.off+i * sz,none⟩) len cap]).run P w=((storeCells ⟨a.block,a.off+i * sz,none⟩ X).run P w).andThen λ _ w'=> .ok (.tuple #[]) w':=by
         simp_all [Builtin.clear_,ar,iX]
        have hmul:=Nat.mul_le_mul_right sz (show i+len<=rs.length by omega);obtain ⟨w',hrun,hw'⟩:=mC (P:=P) (a:=⟨a.block,a.off+i * sz,none⟩) (T:=T) rfl X 0 w C hb pi hX1;have hM:∀k,¬Or M0 (bc φ h) k->k≠a.block:=λ k hk e=>hk (.inr ⟨o,g,sz,rs,g,a,bs,ho,hp,e.symm⟩);have hle0:φ.le (aC φ o (some (g,some (a,bs)))):=Xt;have hxt:∀r ∈ List.replicate len z,r.length=sz:=λ r hr0=>pi;have htl:(List.replicate len z).length=len:=gt;have hflat:=ye hr hxt i pi;have hxr:aU φ w (Or M0 (bc φ h)) (List.replicate len z).flatten X:=by
         grind [zv,mM]
        obtain ⟨g1,g2,g3⟩:=hH.set (w':=w') (F':=F) (o:=o) (mt:=true) (g:=g) (sz:=sz) (rs:=rs.take i++List.replicate len z++rs.drop (i+len)) (A:=some (a,bs))
         (λ _ h=>h) hol WK hle0 (λ k hk _=>hw'.other k (hM k hk))
         (λ o' mt' g' sz' rs' a₁ b₁ hne ho' hp'=>by
          have:=hH.inj _ _ _ _ _ _ _ _ _ _ _ _ _ _ ho ho' (Ne.symm hne) (.inl rfl) hp hp';refine ⟨hw'.other _ (Ne.symm this),λ a₂ b₂ e=> ?_⟩;grind)
         (λ a₁ b₁ e=>by
          grind)
         (.inr ⟨a,bs, _,T,rfl,hsp,h0,hw'.at_,X5,
          λ r hm=>by
           grind,
          by grind,
          λ c hm=>by
           grind [jr,tK],
          by
           grind [jr,zhj]⟩)
        refine ⟨.tuple #[],w', _, ?_, .tup (vs:= []) .nil,g1,⟨hle0,g2,⟨hw'.os,hw'.tape,hw'.output,hw'.drawn,WK,λ k _ hu=>hw'.other k (λ e=>hu ⟨o,g,sz,rs,g,a,bs,ho,hp,e.symm⟩)⟩,λ k hk=> ?_⟩⟩
        ·simp_all
        ·rcases g3 k hk with h|⟨a₁,b₁,e,rfl⟩;all_goals grind [Or]
     grind
    ·cases hs;refine ⟨.tuple #[],w,φ, ?_, .tup (vs:= []) .nil,hH, .refl _ _ _ _⟩;simp_all [Builtin.clear_,ar,iX]
    grind
   grind
  grind
 grind
theorem br.sub (hH:br φ F w M0 h){F':Nat->Prop} (hs:∀o,F' o->F o):br φ F' w M0 h:=⟨hH.m0,λ o ho=>hH.fresh o (hs o ho),hH.obj,hH.inj,hH.glob⟩
theorem zfc {n:Nat} (k:Nat) (hH:br φ (zdf (λ o=>n<=o) n k) w M0 h):m8 φ (n+k) w M0 h:=by
 cases k with
 |zero=>exact hH
 |succ k=>exact hH.sub λ o ho=>⟨ge,ge⟩
end
end Go.Av
end
