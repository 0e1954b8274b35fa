/- Texts of ours, part 1: our library and contracts of functions. -/
import Derived.Test.YtgdfnfffibhkjaaGreatDoorB00
import Derived.Laws.StructEq
import Derived.MapKept
set_option linter.unusedSimpArgs false
set_option linter.unusedVariables false
set_option maxRecDepth 100000
set_option maxHeartbeats 40000000
section
namespace Go.Av
open Go

variable {k:IntKind}
theorem zji {n:Int} (h:InR k n):k.wrap n=n:=by
 obtain ⟨h1,h2⟩:=h;cases k<;>simp [IntKind.min,IntKind.max,IntKind.signed,IntKind.bits] at h1 h2<;>simp [IntKind.wrap,IntKind.signed,IntKind.bits]<;>omega

variable {b r:Bool} {xo yo:Operand} {op:BinOp} {ats:Array TypeId} {us vs:List Value} {cs xs ys:List AV} {x y:AV} {e t ty:TypeId} {u v:Value} {M:Nat->Prop} {d len sz:Nat}
section reads
variable {P:Program} {φ:zaD} {F:Nat->Prop} {w:World} {M0:Nat->Prop} {h:zay}

theorem zaW.sl_alive (hH:zaW φ F w M0 h){o g i:Nat} (ha:zdI h o g sz) (hx:Rel φ w M (.sl o g sz i len) v):
  ∃A cap,v= .slice A len cap∧len<=cap∧((A=none∧i=0∧len=0∧cap=0)∨(len=0∧cap=0∧A.isSome=true)∨
   ∃a bs,φ o=some (g,some (a,bs))∧a.spot=none∧A=some ⟨a.block,a.off+i * sz,none⟩∧a.off+i * sz+cap * sz<=bs):=by
 obtain ⟨mt,rs,A, _,hp⟩:=hH.alive_at ha;cases hx<;>grind

theorem zdm (k:IntKind) (x:Int):(asIntOf (.int k x)).run P w= .ok (k,x) w:=rfl

theorem zsf (hH:zaW φ F w M0 h){ix:AV} (hx:Rel φ w (Or M0 (Mut φ h)) x v) (hi:Rel φ w (Or M0 (Mut φ h)) ix u)
  (hc:(zdL P t x ix h).cond):zdq P φ w (Or M0 (Mut φ h)) (zdL P t x ix h) (Instr.indexAt t v u):=by
 unfold zdL at hc ⊢;split at hc
 ·rename_i e o g sz i len k n' ht;cases hi;obtain ⟨hal,hsz,h0,hlt⟩:=hc;obtain ⟨A,cap,rfl,hcap,hA⟩:=hH.sl_alive hal hx;have hlen:0<len:=aa;rcases hA with ⟨_, _,rfl, _⟩|⟨rfl, _⟩|⟨a,bs,hp,hsp,rfl,hb⟩
  ·omega
  ·omega
  refine ⟨.pointer (some ⟨a.block,a.off+i * sz+n'.toNat * sz,none⟩), ?_, ?_,rfl,rfl⟩
  ·have h2:0<=n'∧n'<(len:Int):=by omega
   simp [Instr.indexAt,zdm,zak (zfj ht),h2,zbA hsz,zeo]
  ·exact .ref hp (Nat.le_refl _) λ _=>⟨a,bs,rfl,hsp,af⟩
 ·rename_i e sz rows k n' ht;cases hi;obtain ⟨hsz,h0,hlt⟩:=hc;cases hx with
  |nil=>grind
  | @lst _ _ a len cap C T fz hs hM hb hr hl hc hcap hv hrel=>
   have hle:n'.toNat * sz+sz<=rows.length * sz:=by
    have:=Nat.mul_le_mul_right sz (show n'.toNat+1<=rows.length from hlt);grind
   have hg:nth rows n'.toNat=rows[n'.toNat]:=by simp [nth,hlt]
   have hrl:rows[n'.toNat].length=sz:=hr _ (List.getElem_mem _);have e1:(C.toList.drop (a.off+n'.toNat * sz)).take rows[n'.toNat].length=(((C.toList.drop a.off).take (rows.length * sz)).drop (n'.toNat * sz)).take sz:=by
    grind [List.drop_take,List.drop_drop]
   refine ⟨.pointer (some ⟨a.block,a.off+n'.toNat * sz,none⟩), ?_, ?_,rfl,rfl⟩
   ·have h2:0<=n'∧n'<(len:Int):=by omega
    simp [Instr.indexAt,zdm,zak (zfj ht),h2,zbA hsz,zeo hs]
   ·simp only [hg];refine .fp (a:=⟨a.block,a.off+n'.toNat * sz,none⟩) rfl hM hb af ?_ ?_
    ·grind
    ·rw [e1,zjX hr _ hlt];exact (hrel.drop _).take _
 ·rename_i len e o g sz i off k n' ht;cases hi;split at hc
  ·rename_i s hsz;obtain ⟨hal,h0,hlt⟩:=hc;obtain ⟨a,rfl⟩:=hH.ref_alive hal hx;try simp only [hsz]
   refine ⟨.pointer (some ⟨a.block,a.off+i * sz+off+n'.toNat * s,none⟩), ?_, ?_,rfl,rfl⟩
   ·have h2:0<=n'∧n'<(len:Int):=⟨h0,hlt⟩
    simp [Instr.indexAt,zdm,zak (zvp ht),h2,zbA hsz,Instr.sureAddr,zeo]
   grind [zCE]
  grind
 ·rename_i len e cells k n' ht;cases hi;split at hc
  ·rename_i s hsz;obtain ⟨h0,hlt,hle⟩:=hc;try simp only [hsz]
   cases hx with
   | @fp _ a C T fz hs hM hb hl hcv hrel=>
    have e1:(C.toList.drop (a.off+n'.toNat * s)).take (cells.drop (n'.toNat * s)).length=((C.toList.drop a.off).take cells.length).drop (n'.toNat * s):=by
     grind [List.drop_take,List.drop_drop]
    refine ⟨.pointer (some ⟨a.block,a.off+n'.toNat * s,none⟩), ?_, ?_,rfl,rfl⟩
    ·have h2:0<=n'∧n'<(len:Int):=⟨h0,hlt⟩
     simp [Instr.indexAt,zdm,zak (zvp ht),h2,zbA hsz,Instr.sureAddr,zeo hs]
    ·refine .fp (a:=⟨a.block,a.off+n'.toNat * s,none⟩) rfl hM hb af ?_ ?_
     ·grind
     ·simp only;rw [e1];exact hrel.drop _
  grind
 grind

theorem zhg {s:Nat} (h1:zgk P t=some true) (h2:tsz P t=some s) (vs:List Value):
  (part t ⟨vs⟩ d).run P w= .ok (.agg ⟨(vs.drop d).take s⟩) w:=by
 have e:(Array.extract (⟨vs⟩:Array Value) d (d+s))=⟨(vs.drop d).take s⟩:=by
  grind
 simp_all [part,zoL,zbA]
theorem zdH  (h1:zgk P t=some false) (vs:List Value) (hd:d<vs.length):
  (part t ⟨vs⟩ d).run P w= .ok vs[d] w:=by
 simp [part,zoL h1,hd]

theorem zqv  (hx:Rel φ w M (.agg cs) v) (d s:Nat):∃vs,v= .agg ⟨vs⟩∧za2 φ w M cs vs∧Rel φ w M (.agg ((cs.drop d).take s)) (.agg ⟨(vs.drop d).take s⟩):=by
 cases hx with
 |agg hv hrel=>exact ⟨_,rfl,hrel, .agg (λ u hu=>hv u (List.mem_of_mem_drop (List.mem_of_mem_take hu))) ((hrel.drop d).take s)⟩
theorem za2.getD  (h:za2 φ w M cs vs) (d:Nat) (hd:d<cs.length):∃hd':d<vs.length,Rel φ w M (cel cs d) vs[d]:=by
 have hd':d<vs.length:=by rw [<- h.length];exact hd
 exact ⟨hd',by have:=h.get d hd hd';grind [cel]⟩

theorem zAt {s:TypeId}{f:Nat} (hx:Rel φ w M x v) (hc:(zrW P s x f).cond):
  zdq P φ w M (zrW P s x f) (Instr.field s v f):=by
 unfold zrW at hc ⊢;split at hc
 ·rename_i d t cs hd ht;obtain ⟨fs,fl,hu,hf,hoff⟩:=zr6 hd;have hty:fl.type=t:=by grind [zMX]
  split at hc
  ·rename_i m ha hz;try simp only [ha,hz]
   obtain ⟨vs,rfl,hrel,hr⟩:=zqv hx d m;exact ⟨_,by simp_all [Instr.field,zak,asAgg,zhg],hr,rfl,rfl⟩
  ·rename_i ha;try simp only [ha] at hc
   try simp only [ha]
   obtain ⟨vs,rfl,hrel, _⟩:=zqv hx d 0;obtain ⟨hd',hr⟩:=hrel.getD d hc;exact ⟨_,by simp_all [Instr.field,zak,asAgg,zdH],hr,rfl,rfl⟩
  grind
 grind

theorem zAD {ix:AV} (hx:Rel φ w M x v) (hi:Rel φ w M ix u) (hc:(zrX P t x ix).cond):
  zdq P φ w M (zrX P t x ix) (Instr.index t v u):=by
 unfold zrX at hc ⊢;split at hc
 ·rename_i len e cs k n' ht;cases hi;split at hc
  ·rename_i s ha hz;try simp only [ha,hz]
   obtain ⟨h0,hlt,hle⟩:=hc;obtain ⟨vs,rfl,hrel,hr⟩:=zqv hx (n'.toNat * s) s;have h2:0<=n'∧n'<(len:Int):=⟨h0,hlt⟩
   exact ⟨_,by simp [Instr.index,zdm,zak (zvp ht),h2,zbA hz,zhg ha hz],hr,rfl,rfl⟩
  ·rename_i s ha hz;try simp only [ha,hz]
   obtain ⟨h0,hlt,hle⟩:=hc;obtain ⟨vs,rfl,hrel, _⟩:=zqv hx 0 0;obtain ⟨hd',hr⟩:=hrel.getD (n'.toNat * s) hle;have h2:0<=n'∧n'<(len:Int):=⟨h0,hlt⟩
   refine ⟨_, ?_,hr,rfl,rfl⟩;simp only [Instr.index,Sem.run_bind,zdm,Result.andThen_ok,zak (zvp ht),h2,and_self,if_true,zbA hz,zdH ha vs hd']
  grind
 ·rename_i s k n' ht;cases hi;cases hx;obtain ⟨h0,hlt⟩:=hc;have hb:s[n'.toNat]? =some (s.data.toList.getD n'.toNat 0):=by
   simp_all [ByteArray.getElem_eq_getElem_data]
  refine ⟨_, ?_, .v _,rfl,rfl⟩;simp_all [Instr.index,zdm,zak,zoP]
 grind

theorem ztf {k:TypeId} (h:tk P t= .map k e):P.underlying t=some (.map k e):=by
 grind [tk]
def zcM (φ:zaD) (w:World) (M:Nat->Prop) (rs:List (List AV)) (es:List MapEntry):Prop:=za2 φ w M rs.flatten (es.flatMap λ e=> [e.key,e.val])
theorem zaW.mp_at (hH:zaW φ F w M0 h){o:Nat}{mt:Bool}{rs:List (List AV)} (ho:h o=some (.rows mt 0 sz rs)) (hx:Rel φ w M (.mp o) v):
  ∃a bs es clk,φ o=some (0,some (a,bs))∧a.spot≠none∧¬M0 a.block∧v= .map (some a.block)∧w.heap[a.block]? =some (.map es clk)∧es.size=rs.length∧(sz=2∧∀r ∈ rs,r.length=2)∧zcM φ w (Or M0 (Mut φ h)) rs es.toList:=by
 obtain ⟨A,hA,h1⟩:=hH.obj _ _ _ _ _ ho;cases hx with
 |mp hp hh=>
  grind [zcM,zmL]
theorem zHH (hH:zaW φ F w M0 h) (ha:ats[0]? =some t) (hx:Rel φ w (Or M0 (Mut φ h)) x v) (hc:(zxV P t x h).cond):
  zdq P φ w (Or M0 (Mut φ h)) (zxV P t x h) (Builtin.len_ ats ty #[v]):=by
 unfold zxV at hc ⊢;split at hc
 ·rename_i e o g sz i len ht;obtain ⟨A,cap,rfl, _⟩:=hH.sl_alive hc hx;exact ⟨_,bu, .v _,rfl,rfl⟩
 ·rename_i e sz rows ht;cases hx with
  |nil=>exact ⟨_,bu, .v _,rfl,rfl⟩
  |lst hs hM hb hr hl hc hcap hv hrel=>subst hl;exact ⟨_,bu, .v _,rfl,rfl⟩
 ·rename_i e ht;cases hx;exact ⟨_,bu, .v _,rfl,rfl⟩
 ·rename_i s ht;cases hx;exact ⟨_,by simp_all [Builtin.len_,zak,zoP,goInt], .v _,rfl,rfl⟩
 ·rename_i e ht;exact ⟨_,by simp [Builtin.len_,ha,zak (zvp ht),goInt], .v _,rfl,rfl⟩
 ·rename_i o ht;split at hc
  ·rename_i mt rs ho;obtain ⟨a,bs,es,clk,hp,hs,h0,rfl,hb,hl,⟨_,h2⟩,he⟩:=hH.mp_at ho hx;try simp only [ho]
   exact ⟨_,by simp [Builtin.len_,ha,zak (ztf ht),MapKept.run_getObj_map hb,hl,goInt], .v _,rfl,rfl⟩
  grind
 grind

theorem zGu  (hx:Rel φ w M x v) (hy:Rel φ w M y u) (hc:(zG4 op x y).cond):
  zdq P φ w M (zG4 op x y) (do eqGuard op t xo yo v u;binOp op t v u):=by
 unfold zG4 at hc ⊢;split at hc;case h_1 k a k' b=>
  cases hx;cases hy;obtain ⟨h0,h1,h2,h3⟩:=hc;have e:min b.toNat 64=b.toNat:=aa;refine ⟨_, ?_, .v _,rfl,rfl⟩;simp [eqGuard,binOp,Op.shift,show ¬b<0 by omega,h3,e,zji h2]
 case h_2 k a k' b=>
  cases hx;cases hy;obtain ⟨h0,h1⟩:=hc;have hk:8<=k.bits:=by cases k<;>decide
  have e:min b.toNat k.bits=b.toNat:=aa;refine ⟨_, ?_, .v _,rfl,rfl⟩;simp [eqGuard,binOp,Op.shift,show ¬b<0 by omega,e]
 case h_3 k a k' b=>cases hx;cases hy;obtain ⟨rfl,h2⟩:=hc;exact ⟨_,cw, .v _,rfl,rfl⟩
 case h_4 k a k' b=>cases hx;cases hy;obtain ⟨rfl,h2⟩:=hc;exact ⟨_,cw, .v _,rfl,rfl⟩
 case h_5 k a k' b=>cases hx;cases hy;obtain ⟨rfl,h2⟩:=hc;exact ⟨_,cw, .v _,rfl,rfl⟩
 case h_6 k a k' b=>cases hx;cases hy;obtain ⟨rfl,h2,h3⟩:=hc;exact ⟨_,by simp_all [eqGuard,binOp,Op.intDiv,zji], .v _,rfl,rfl⟩
 case h_7 k a k' b=>cases hx;cases hy;obtain ⟨rfl,h2⟩:=hc;exact ⟨_,by simp [eqGuard,binOp,Op.intDiv,h2], .v _,rfl,rfl⟩
 case h_8 k a k' b=>cases hx;cases hy;obtain rfl:=hc;exact ⟨_,by simp_all [eqGuard,binOp,Op.intBits,zru], .v _,rfl,rfl⟩
 case h_9 k a k' b=>cases hx;cases hy;obtain rfl:=hc;exact ⟨_,by simp_all [eqGuard,binOp,Op.intBits,orN], .v _,rfl,rfl⟩
 case h_10 k a k' b=>cases hx;cases hy;obtain rfl:=hc;exact ⟨_,by simp_all [eqGuard,binOp,Op.intBits,zgl], .v _,rfl,rfl⟩
 case h_11 k a k' b=>cases hx;cases hy;obtain rfl:=hc;exact ⟨_,by simp [eqGuard,binOp,Op.intCmp];rfl, .v _,rfl,rfl⟩
 case h_12 k a k' b=>cases hx;cases hy;obtain rfl:=hc;exact ⟨_,by simp [eqGuard,binOp,Op.intCmp];rfl, .v _,rfl,rfl⟩
 case h_13 k a k' b=>cases hx;cases hy;obtain rfl:=hc;exact ⟨_,bU, .v _,rfl,rfl⟩
 case h_14 k a k' b=>cases hx;cases hy;obtain rfl:=hc;exact ⟨_,bU, .v _,rfl,rfl⟩
 case h_15 k a k' b=>cases hx;cases hy;obtain rfl:=hc;exact ⟨_,bU, .v _,rfl,rfl⟩
 case h_16 k a k' b=>cases hx;cases hy;obtain rfl:=hc;exact ⟨_,bU, .v _,rfl,rfl⟩
 case h_17 a b=>
  cases hx;cases hy;have h0:a.size+b.size<=9223372036854775807:=hc;have h1:¬((a.size:Int)+b.size>IntKind.i64.max):=by grind [IntKind.max,IntKind.bits]
  refine ⟨_, ?_, .v _,rfl,rfl⟩;simp_all [eqGuard,binOp,Op.stringOp]
 case h_18 a b=>cases hx;cases hy;exact ⟨_,cM, .v _,rfl,rfl⟩
 grind

theorem zLh {op:UnOp} (hx:Rel φ w M x v) (hc:(evUn op x).cond):zdq P φ w M (evUn op x) (Op.unary op v):=by
 unfold evUn at hc ⊢;split at hc
 ·cases hx;exact ⟨_,by simp [Op.unary], .v _,rfl,rfl⟩
 ·cases hx;exact ⟨_,by simp_all [Op.unary,Op.intArith,zji], .v _,rfl,rfl⟩
 grind

theorem zsR {c:AV}{g:Bool} (h:Rel φ w M c v) (hp:pB c=some (g,b)):g=true->v= .bool b:=by
 intro hg;unfold pB at hp;split at hp
 ·simp only [Option.some.injEq,Prod.mk.injEq] at hp;obtain ⟨rfl,rfl⟩:=hp;cases h;rfl
 ·simp only [Option.some.injEq,Prod.mk.injEq] at hp;obtain ⟨rfl,rfl⟩:=hp;cases h with|gd h _=>cases h hg;rfl
 grind
theorem zEQ {c a b:AV}{vc va vb:Value} (h1:Rel φ w M c vc) (h2:Rel φ w M a va) (h3:Rel φ w M b vb) (hc:(zxX c a b).cond):
  zdq P φ w M (zxX c a b) (do pure (if <- asBool vc then va else vb)):=by
 unfold zxX at hc ⊢;split at hc
 ·rename_i g c' g1 x g2 y e1 e2 e3;try simp only [e1,e2,e3]
  obtain ⟨q1,q2,q3⟩:=hc;have:=zsR h1 e1 q1;subst this;refine ⟨_,by simp [asBool];rfl, ?_,rfl,rfl⟩;cases c' with
  |true=>have:=zsR h2 e2 (q2 rfl);subst this;exact .v _
  |false=>have:=zsR h3 e3 (q3 rfl);subst this;exact .v _
 ·rename_i g c' g1 x e1 e2 e3;try simp only [e1,e2,e3]
  obtain ⟨q1,q2,q3⟩:=hc;have:=zsR h1 e1 q1;subst this;subst q2;refine ⟨_,by simp [asBool];rfl, ?_,rfl,rfl⟩;have:=zsR h2 e2 q3;subst this;exact .v _
 ·rename_i g c' g2 y e1 e2 e3;try simp only [e1,e2,e3]
  obtain ⟨q1,q2,q3⟩:=hc;have:=zsR h1 e1 q1;subst this;subst q2;refine ⟨_,by simp [asBool];rfl, ?_,rfl,rfl⟩;have:=zsR h3 e3 q3;subst this;exact .v _
 grind
theorem zNC  (h:tk P t= .bool):P.underlying t=some .bool:=by
 grind [tk]
theorem zut  (h:tk P t= .bool) (a b:Bool):(Op.equal t (.bool a) (.bool b)).run P w= .ok (a==b) w:=by
 unfold Op.equal;rw [show Op.maxDepth=(Op.maxDepth - 1)+1 from rfl,Op.equalIn];simp [zak (zNC h)]
theorem zoa  (h:tk P t= .sl e) (A:Option Addr) (l c:Nat):(Op.equal t (.slice A l c) (.slice none 0 0)).run P w= .ok A.isNone w:=by
 unfold Op.equal;rw [show Op.maxDepth=(Op.maxDepth - 1)+1 from rfl,Op.equalIn];cases A<;>simp [zak (zfj h)]
theorem zuJ  (h:zyr P t=true):∃a b c,P.underlying t=some (.func a b c):=by
 grind [zyr]
theorem zB9  (h:zyr P t=true) (f:Fn) (a b:Array Value):(Op.equal t (.func f a b) .nilFunc).run P w= .ok false w:=by
 obtain ⟨x,y,z,e⟩:=zuJ h;unfold Op.equal;rw [show Op.maxDepth=(Op.maxDepth - 1)+1 from rfl,Op.equalIn];simp [zak e]
theorem zrU  (h:zyr P t=true):(Op.equal t .nilFunc .nilFunc).run P w= .ok true w:=by
 obtain ⟨x,y,z,e⟩:=zuJ h;unfold Op.equal;rw [show Op.maxDepth=(Op.maxDepth - 1)+1 from rfl,Op.equalIn];simp [zak e]
def zw0:Int ⊕ Bool->Value
 | .inl n=> .int .i64 n
 | .inr b=> .bool b
theorem zfy {M:Nat->Prop}:∀ {xs:List AV}{vs:List Value}{a:List (Int ⊕ Bool)},za2 φ w M xs vs->zgD xs=some a->vs=a.map zw0
 | [], _,a,h,e=>by cases h;simp [zgD] at e;subst e;rfl
 |x::xs, _,a,h,e=>by
  cases h with
  |cons hx ht=>
   unfold zgD at e;split at e
   ·rename_i e0;cases e0
   ·rename_i n l e0;simp only [List.cons.injEq] at e0;obtain ⟨rfl,rfl⟩:=e0;cases hx;rw [Option.map_eq_some_iff] at e;obtain ⟨b,hb,rfl⟩:=e;rw [zfy ht hb];rfl
   ·rename_i n l e0;simp only [List.cons.injEq] at e0;obtain ⟨rfl,rfl⟩:=e0;cases hx;rw [Option.map_eq_some_iff] at e;obtain ⟨b,hb,rfl⟩:=e;rw [zfy ht hb];rfl
   ·cases e
theorem zlC (d:Nat) (h:P.underlying t=some .bool) (a b:Bool):(Op.equalIn (d+1) t (.bool a) (.bool b)).run P w= .ok (a==b) w:=by
 rw [Op.equalIn];simp [zak h]
theorem zxR (d:Nat) (a b:List (Int ⊕ Bool)) (fs:List Field):∀ (k:Nat),a.length=k+fs.length->b.length=k+fs.length->
  (∀i (h:i<fs.length),fs[i].name≠ "_" ∧fs[i].offset=k+i∧((∃kd,P.underlying fs[i].type=some (.int kd)∧(a[k+i]?).map Sum.isRight=some false∧(b[k+i]?).map Sum.isRight=some false)∨
   (P.underlying fs[i].type=some .bool∧(a[k+i]?).map Sum.isRight=some true∧(b[k+i]?).map Sum.isRight=some true)))->
  (Op.eqFields (d+1) (a.map zw0).toArray (b.map zw0).toArray fs).run P w= .ok (decide (a.drop k=b.drop k)) w:=by
 induction fs with
 |nil=>
  simp_all [Op.eqFields]
 |cons f fs ih=>
  intro k ha hb hf;obtain ⟨hn,ho,hk⟩:=hf 0 ac;simp only [List.getElem_cons_zero,Nat.add_zero] at hn ho hk;simp only [List.length_cons] at ha hb;have hka:k<a.length:=aa;have hkb:k<b.length:=aa;have hagg:zgk P f.type=some false:=by
   grind [zgk]
  have p1:=zdH (P:=P) (w:=w) (d:=k) hagg (a.map zw0) af;have p2:=zdH (P:=P) (w:=w) (d:=k) hagg (b.map zw0) af;have ih':=ih (k+1) aa aa (λ i hi=>by
   have:=hf (i+1) af;grind)
  have d1:a.drop k=a[k]::a.drop (k+1):=List.drop_eq_getElem_cons hka;have d2:b.drop k=b[k]::b.drop (k+1):=List.drop_eq_getElem_cons hkb;have hq:(Op.equalIn (d+1) f.type (zw0 a[k]) (zw0 b[k])).run P w= .ok (decide (a[k]=b[k])) w:=by
   rw [List.getElem?_eq_getElem hka,List.getElem?_eq_getElem hkb] at hk;simp only [Option.map_some,Option.some.injEq] at hk;rcases hk with ⟨kd,hk,h1,h2⟩|⟨hk,h1,h2⟩
   ·revert h1 h2;cases a[k]<;>cases b[k]<;>simp [zw0];grind [run_equalIn_int]
   ·revert h1 h2;cases a[k]<;>cases b[k]<;>simp [zw0];grind [zlC]
  grind [Op.eqFields,Sem.run_bind,Result.andThen_ok,List.cons.injEq,Sem.run_pure]
theorem zMU  (hx:za2 φ w M xs vs) (hy:za2 φ w M ys us) (h:eqS P t xs ys=some r):
  P.eqGuardType P.depth t=false∧(Op.equalIn 10000 t (.agg vs.toArray) (.agg us.toArray)).run P w= .ok r w:=by
 unfold eqS at h;split at h
 ·rename_i n a b h1 h2 h3;split at h
  ·rename_i hl;cases h;obtain rfl:=zfy hx h2;obtain rfl:=zfy hy h3;unfold zmQ at h1;split at h1
   ·rename_i fs hfs;split at h1
    ·rename_i hall;cases h1;simp only [Bool.and_eq_true,Bool.not_eq_true',List.all_eq_true,List.mem_range] at hall;obtain ⟨⟨q1,q2⟩,q3⟩:=hall;refine ⟨q2, ?_⟩;have hF:P.fieldsOf t=fs:=dH;rw [run_equalIn_agg w 9999 t _ _ af q1,hF];have l1:=congrArg List.length hl.1;have l2:=congrArg List.length hl.2;simp only [List.length_map,Array.length_toList] at l1 l2;have:=zxR (P:=P) (w:=w) 9998 a b fs.toList 0 af af (λ i hi=>by
      have hi':i<fs.size:=af;have:=q3 i hi';rw [Array.getElem?_eq_getElem hi'] at this;simp only [Bool.and_eq_true,bne_iff_ne,ne_eq,beq_iff_eq] at this;obtain ⟨⟨a1,a2⟩,a3⟩:=this;have g1:=congrArg (λ l:List Bool=>l[i]?) hl.1;grind)
     grind
    grind
   grind
  ·cases h
 ·cases h
def ziX (P:Program) (t:TypeId) (a:List (Int ⊕ Bool)):Value:=if zgk P t=some true then .agg (a.map zw0).toArray else match a with
 | [x]=>zw0 x
 | _=>undef
theorem zu4 {l:Nat} (hs:tsz P t=some l) (ha:zgk P t=some true∨zgk P t=some false∧l=1) (as:List (Int ⊕ Bool)){k:Nat} (hk:k+l<=as.length):
  (part t (as.map zw0).toArray k).run P w= .ok (ziX P t ((as.drop k).take l)) w:=by
 unfold ziX;grind [zhg,List.map_take,List.map_drop,zdH,List.drop_eq_getElem_cons]
theorem zIS {fl:List Bool} (h:zBt P d t=some fl):(zgk P t=some true∧∃fs,P.underlying t=some (.struct fs))∨(zgk P t=some false∧fl.length=1):=by
 cases d<;>grind [zBt,zgk]
theorem zxL (m:Nat){T:TypeId->Option (List Bool)} (hT:∀t fl,T t=some fl->(zgk P t=some true∨zgk P t=some false∧fl.length=1)∧∀a b:List (Int ⊕ Bool),a.map Sum.isRight=fl->b.map Sum.isRight=fl->
   (Op.equalIn m t (ziX P t a) (ziX P t b)).run P w= .ok (decide (a=b)) w) (as bs:List (Int ⊕ Bool)):
  ∀ (fs:List Field) (k:Nat) (fl:List Bool),zGV P T fs k=some fl->(as.drop k).map Sum.isRight=fl->(bs.drop k).map Sum.isRight=fl->
   (Op.eqFields m (as.map zw0).toArray (bs.map zw0).toArray fs).run P w= .ok (decide (as.drop k=bs.drop k)) w
 | [],k,fl,h,ha,hb=>by
  simp only [zGV,Option.some.injEq] at h;subst h;have e1:as.drop k= []:=by simpa using ha
  have e2:bs.drop k= []:=by simpa using hb
  simp [Op.eqFields,e1,e2]
 |f::fs,k,fl,h,ha,hb=>by
  rw [zGV] at h;split at h
  ·rename_i hn;simp only [Bool.and_eq_true,bne_iff_ne,ne_eq,beq_iff_eq] at hn;split at h
   ·rename_i l r h1 h2;split at h
    ·rename_i h3;cases h;rw [h3,Option.getD_some] at h2;obtain ⟨g1,g2⟩:=hT _ _ h1;have la:=congrArg List.length ha;have lb:=congrArg List.length hb;simp only [List.length_map,List.length_drop,List.length_append] at la lb;have a1:((as.drop k).take l.length).map Sum.isRight=l:=by rw [List.map_take,ha];simp
     have b1:((bs.drop k).take l.length).map Sum.isRight=l:=by rw [List.map_take,hb];simp
     have a2:(as.drop (k+l.length)).map Sum.isRight=r:=by rw [<- List.drop_drop,List.map_drop,ha];simp
     have b2:(bs.drop (k+l.length)).map Sum.isRight=r:=by rw [<- List.drop_drop,List.map_drop,hb];simp
     have ih:=zxL m hT as bs fs (k+l.length) r h2 a2 b2;have hka:k+l.length<=as.length∨l= []∧r= []:=by
      by_cases e:l.length=0
      ·by_cases e2:k<=as.length
       ·left;omega
       ·right;exact ⟨List.eq_nil_of_length_eq_zero e,List.eq_nil_of_length_eq_zero aa⟩
      ·left;omega
     have hkb:k+l.length<=bs.length∨l= []∧r= []:=by
      by_cases e:l.length=0
      ·by_cases e2:k<=bs.length
       ·left;omega
       ·right;exact ⟨List.eq_nil_of_length_eq_zero e,List.eq_nil_of_length_eq_zero aa⟩
      ·left;omega
     have p1:(part f.type (as.map zw0).toArray k).run P w= .ok (ziX P f.type ((as.drop k).take l.length)) w:=by
      rcases hka with hka|⟨rfl,rfl⟩
      ·exact zu4 h3 g1 as hka
      ·rcases g1 with g1|⟨_,g1⟩
       ·rw [zhg g1 h3];simp [ziX,g1]
       ·simp at g1
     have p2:(part f.type (bs.map zw0).toArray k).run P w= .ok (ziX P f.type ((bs.drop k).take l.length)) w:=by
      rcases hkb with hkb|⟨rfl,rfl⟩
      ·exact zu4 h3 g1 bs hkb
      ·rcases g1 with g1|⟨_,g1⟩
       ·rw [zhg g1 h3];simp [ziX,g1]
       ·simp at g1
     rw [Op.eqFields,if_pos hn.1,hn.2];simp only [Sem.run_bind,p1,p2,Result.andThen_ok,g2 _ _ a1 b1];have key:as.drop k=bs.drop k↔(as.drop k).take l.length=(bs.drop k).take l.length∧as.drop (k+l.length)=bs.drop (k+l.length):=by
      refine ⟨λ e=>⟨by rw [e],by rw [<- List.drop_drop,<- List.drop_drop,e]⟩,λ ⟨e1,e2⟩=> ?_⟩;rw [<- List.take_append_drop l.length (as.drop k),<- List.take_append_drop l.length (bs.drop k),e1,List.drop_drop,List.drop_drop,e2]
     by_cases he:(as.drop k).take l.length=(bs.drop k).take l.length
     ·simp only [he,decide_true,Bool.not_true,Bool.false_eq_true,if_false];rw [ih];congr 1;simp only [decide_eq_decide];rw [key];simp [he]
     ·simp only [he,decide_false,Bool.not_false,if_true,Sem.run_pure];congr 1;symm;rw [decide_eq_false_iff_not,key];exact λ h=>he h.1
    ·cases h
   ·cases h
  ·cases h
theorem zzc:∀ (d m:Nat) (t:TypeId) (fl:List Bool),zBt P d t=some fl->∀a b:List (Int ⊕ Bool),a.map Sum.isRight=fl->b.map Sum.isRight=fl->
  (Op.equalIn (m+d) t (ziX P t a) (ziX P t b)).run P w= .ok (decide (a=b)) w
 |0, _, _, _,h, _, _, _, _=>aV
 |d+1,m,t,fl,h,a,b,ha,hb=>by
  unfold zBt at h;split at h
  ·rename_i kd hu;cases h;have hag:zgk P t=some false:=by grind [zgk]
   match a,b,ha,hb with
   | [.inl x], [.inl y], _, _=>
    simp only [ziX,hag,Option.some.injEq,Bool.false_eq_true,if_false,zw0];rw [<- Nat.add_assoc,run_equalIn_int w (m+d) t .i64 kd x y hu];simp;rfl
  ·rename_i hu;cases h;have hag:zgk P t=some false:=by grind [zgk]
   match a,b,ha,hb with
   | [.inr x], [.inr y], _, _=>
    simp only [ziX,hag,Option.some.injEq,Bool.false_eq_true,if_false,zw0];rw [<- Nat.add_assoc,zlC (m+d) hu x y];cases x<;>cases y<;>rfl
  ·rename_i fs hu;split at h
   ·cases h
   ·rename_i hs;have hag:zgk P t=some true:=by grind [zgk]
    have hF:P.fieldsOf t=fs:=dH;simp only [ziX,hag,if_true];rw [<- Nat.add_assoc,run_equalIn_agg w (m+d) t _ _ af af,hF];have:=zxL (P:=P) (w:=w) (m+d) (T:=zBt P d) (λ t fl h=>⟨(zIS h).imp (·.1) id,zzc d m t fl h⟩) a b fs.toList 0 fl h af af;grind
  ·cases h
theorem zG3  (hx:za2 φ w M xs vs) (hy:za2 φ w M ys us) (h:eqD P t xs ys=some r):
  P.eqGuardType P.depth t=false∧(Op.equalIn 10000 t (.agg vs.toArray) (.agg us.toArray)).run P w= .ok r w:=by
 unfold eqD at h;split at h
 ·grind [zMU]
 ·split at h
  ·rename_i fl a b h1 h2 h3;split at h
   ·rename_i hl;cases h;obtain rfl:=zfy hx h2;obtain rfl:=zfy hy h3;unfold zCQ at h1;split at h1
    ·cases h1
    ·rename_i hg;split at h1
     ·rename_i fs hu;have hag:zgk P t=some true:=by grind [zgk]
      have:=zzc (P:=P) (w:=w) 4 9996 t fl h1 a b hl.1 hl.2;simp_all [ziX]
     grind
   ·cases h
  ·cases h
theorem zDv  (hx:Rel φ w M x v) (hy:Rel φ w M y u) (hc:(zxS P op t x y).cond):
  zdq P φ w M (zxS P op t x y) (do eqGuard op t xo yo v u;binOp op t v u):=by
 unfold zxS at hc ⊢;split at hc
 ·rename_i z hz;try simp only [hz]
  unfold evEq at hz;split at hz
  ·rename_i ht;cases hx;cases hy;cases hz;exact ⟨_,by simp [eqGuard,binOp,zut ht], .v _,rfl,rfl⟩
  ·rename_i ht;cases hx;cases hy;cases hz;exact ⟨_,by simp [eqGuard,binOp,zut ht], .v _,rfl,rfl⟩
  ·rename_i ht;cases hy;cases hz;cases hx with
   |lst=>exact ⟨_,ck, .v _,rfl,rfl⟩
  ·rename_i ht;cases hy;cases hz;cases hx with
   |lst=>exact ⟨_,ck, .v _,rfl,rfl⟩
  ·rename_i ht;cases hx;cases hy;cases hz;exact ⟨_,ck, .v _,rfl,rfl⟩
  ·rename_i ht;cases hx;cases hy;cases hz;exact ⟨_,ck, .v _,rfl,rfl⟩
  ·cases hx;cases hy;cases hz;exact ⟨_,cM, .v _,rfl,rfl⟩
  ·cases hx;cases hy;cases hz;exact ⟨_,cM, .v _,rfl,rfl⟩
  ·rw [Option.map_eq_some_iff] at hz;obtain ⟨r,hr,rfl⟩:=hz;cases hx with
   |agg _ hx=>cases hy with
    |agg _ hy=>
     obtain ⟨g1,g2⟩:=zG3 hx hy hr;exact ⟨_,by simp_all [run_eqGuard_agg,run_eql_struct], .v _,rfl,rfl⟩
  ·rw [Option.map_eq_some_iff] at hz;obtain ⟨r,hr,rfl⟩:=hz;cases hx with
   |agg _ hx=>cases hy with
    |agg _ hy=>
     obtain ⟨g1,g2⟩:=zG3 hx hy hr;exact ⟨_,by simp_all [run_eqGuard_agg,run_neq_struct], .v _,rfl,rfl⟩
  ·split at hz
   ·rename_i hf;cases hy;cases hz;cases hx with
    |fn=>exact ⟨_,by simp [eqGuard,binOp,zB9 hf], .v _,rfl,rfl⟩
   grind
  ·split at hz
   ·rename_i hf;cases hy;cases hz;cases hx with
    |fn=>exact ⟨_,by simp [eqGuard,binOp,zB9 hf], .v _,rfl,rfl⟩
   grind
  ·split at hz
   ·rename_i hf;cases hx;cases hy;cases hz;exact ⟨_,by simp [eqGuard,binOp,zrU hf], .v _,rfl,rfl⟩
   grind
  ·split at hz
   ·rename_i hf;cases hx;cases hy;cases hz;exact ⟨_,by simp [eqGuard,binOp,zrU hf], .v _,rfl,rfl⟩
   grind
  grind
 grind [zGu]
theorem zHV (hH:zaW φ F w M0 h) (hx:Rel φ w M x v) (hc:(zrZ x h).cond):(∃a,v= .pointer (some a))∧(zrZ x h).val=x∧(zrZ x h).wr= []∧(zrZ x h).al=0:=by
 unfold zrZ at hc ⊢;split at hc
 ·refine ⟨?_,rfl,rfl,rfl⟩;obtain ⟨a,hv⟩:=hH.ref_alive hc hx;grind
 ·cases hx<;>grind
 grind
theorem zHS  (hx:Rel φ w M x v) (hy:Rel φ w M y u) (hc:(zG7 x y).cond):zdq P φ w M (zG7 x y) (Builtin.min_ ats ty #[v,u]):=by
 unfold zG7 at hc ⊢;split at hc
 ·cases hx;cases hy;exact ⟨_,by simp [Builtin.min_,Builtin.min2], .v _,rfl,rfl⟩
 grind
theorem zHQ  (hx:Rel φ w M x v) (hy:Rel φ w M y u) (hc:(zG6 x y).cond):zdq P φ w M (zG6 x y) (Builtin.max_ ats ty #[v,u]):=by
 unfold zG6 at hc ⊢;split at hc
 ·cases hx;cases hy;exact ⟨_,by simp [Builtin.max_,Builtin.max2], .v _,rfl,rfl⟩
 grind

theorem zv7 {i:Nat} (hx:Rel φ w M x v) (hc:(zlE x i).cond):zdq P φ w M (zlE x i) (Instr.extract v i):=by
 unfold zlE at hc ⊢;split at hc
 ·cases hx with
  |tup hrel=>
   obtain ⟨hd',hr⟩:=hrel.getD i hc;exact ⟨_,by simp [Instr.extract,hd'],hr,rfl,rfl⟩
 grind

theorem zd4 {d:Int}{x:Option AV}{v:Option Value}{l:Int} (hx:match x,v with|none,none=>True|some x,some v=>Rel φ w M x v| _, _=>False) (h:zl2 d x=some l):
  (v=none∧l=d)∨∃k,v=some (.int k l):=by
 unfold zl2 at h;split at h
 ·grind
 ·rename_i k m;cases v with
  |none=>grind
  |some v=>cases hx;simp at h;subst h;grind
 ·cases h
theorem zm3 {x:Int}{y:Nat}{c:BoundsCode} (h0:0<=x) (h1:x<=y):(Instr.sliceBound (.int k x) y c).run P w= .ok x.toNat w:=by
 simp [Instr.sliceBound,zdm,h0,h1]
theorem zeH {cap:Nat}{lo hi:Option Value}{l h':Int} (hl:(lo=none∧l=0)∨∃k,lo=some (.int k l)) (hh:(hi=none∧h'=len)∨∃k,hi=some (.int k h'))
  (h0:0<=l) (h1:l<=h') (h2:h'<=len) (h3:len<=cap):(Instr.sliceBounds b len cap lo hi none).run P w= .ok (l.toNat,h'.toNat,cap) w:=by
 unfold Instr.sliceBounds;have hb:∀k c,(Instr.sliceBound (.int k h') cap c).run P w= .ok h'.toNat w:=λ k c=>zm3 aa aa;have hb':∀k c,(Instr.sliceBound (.int k l) h'.toNat c).run P w= .ok l.toNat w:=λ k c=>zm3 h0 aa;rcases hl with ⟨rfl,rfl⟩|⟨k,rfl⟩<;>rcases hh with ⟨rfl,rfl⟩|⟨k',rfl⟩<;>simp [hb]<;>(simp_all)

theorem zBp (hH:zaW φ F w M0 h){lo hi mx:Option AV}{vlo vhi vmx:Option Value} (hx:Rel φ w (Or M0 (Mut φ h)) x v)
  (hlo:match lo,vlo with|none,none=>True|some x,some v=>Rel φ w (Or M0 (Mut φ h)) x v| _, _=>False)
  (hhi:match hi,vhi with|none,none=>True|some x,some v=>Rel φ w (Or M0 (Mut φ h)) x v| _, _=>False)
  (hmx:mx=none->vmx=none)
  (hc:(zlG P t x lo hi mx h).cond):zdq P φ w (Or M0 (Mut φ h)) (zlG P t x lo hi mx h) (Instr.sliceAt t v vlo vhi vmx):=by
 unfold zlG at hc ⊢;split at hc
 ·rename_i e o g sz i len ht;obtain rfl:=hmx rfl;split at hc
  ·rename_i l h' hl hh;try simp only [hl,hh]
   obtain ⟨hal,hsz,h0,h1,h2⟩:=hc;obtain ⟨A,cap,rfl,hcap,hA⟩:=hH.sl_alive hal hx;have hb:=zeH (P:=P) (w:=w) (b:=true) (zd4 hlo hl) (zd4 hhi hh) h0 h1 h2 hcap;refine ⟨.slice (if cap=l.toNat then A else A.map (·.add (l.toNat * sz))) (h'.toNat - l.toNat) (cap - l.toNat), ?_, ?_,rfl,rfl⟩
   ·simp [Instr.sliceAt,Instr.slice,zak (zfj ht),hb,zbA hsz]
   ·obtain ⟨mt,rs,A', _,hp⟩:=hH.alive_at hal;refine .sl hp (Nat.le_refl _) λ _=> ?_;rcases hA with ⟨rfl,rfl,rfl,rfl⟩|⟨rfl,rfl,hA⟩|⟨a,bs,hp',hsp,rfl,hcb⟩
    ·have:l=0:=by omega
     have:h'=0:=aa;subst_vars
     cases hx<;>grind
    ·refine .inr (.inl ⟨aa, ?_⟩);cases A<;>grind
    ·rw [hp'] at hp;simp only [Option.some.injEq,Prod.mk.injEq,true_and] at hp;subst hp;by_cases hcl:cap=l.toNat
     ·grind
     ·refine .inr (.inr ⟨a,bs,cap - l.toNat,rfl,hsp, ?_,aa, ?_⟩)
      ·grind [zeo]
      ·have e1:(i+l.toNat) * sz+(cap - l.toNat) * sz=i * sz+cap * sz:=by
        rw [<- Nat.add_mul,<- Nat.add_mul];grind
       omega
  grind
 ·rename_i e sz rows ht;obtain rfl:=hmx rfl;split at hc
  ·rename_i l h' hl hh;try simp only [hl,hh]
   obtain ⟨hsz,h0,h1,h2⟩:=hc;cases hx with
   |nil _ A cap=>
    have e1:l=0:=af;have e2:h'=0:=af;subst e1 e2;have hb:=zeH (P:=P) (w:=w) (b:=true) (len:=0) (cap:=cap) (zd4 hlo hl) (zd4 hhi hh) h0 h1 aa aa;refine ⟨.slice (if cap=0 then A else A.map (·.add (0 * sz))) 0 (cap - 0), ?_, ?_,rfl,rfl⟩
    ·have hb':(Instr.sliceBounds true 0 cap vlo vhi none).run P w= .ok (0,0,cap) w:=hb;simp [Instr.sliceAt,Instr.slice,zak (zfj ht),hb',zbA hsz]
    ·simp only [Int.toNat_zero,Nat.sub_self,List.take_zero];exact .nil _ _ _
   | @lst _ _ a len cap C T fz hs hM hb hr hle hc hcap hv hrel=>
    subst hle;have hbb:=zeH (P:=P) (w:=w) (b:=true) (len:=rows.length) (cap:=cap) (zd4 hlo hl) (zd4 hhi hh) h0 h1 h2 hcap;have hlen:((rows.drop l.toNat).take (h'.toNat - l.toNat)).length=h'.toNat - l.toNat:=af;refine ⟨.slice (if cap=l.toNat then some a else (some a).map (·.add (l.toNat * sz))) (h'.toNat - l.toNat) (cap - l.toNat), ?_, ?_,rfl,rfl⟩
    ·simp [Instr.sliceAt,Instr.slice,zak (zfj ht),hbb,zbA hsz]
    ·by_cases hcl:cap=l.toNat
     ·have e0:h'.toNat - l.toNat=0:=by omega
      simp only [e0,List.take_zero];exact .nil _ _ _
     ·have hr':∀r ∈ (rows.drop l.toNat).take (h'.toNat - l.toNat),r.length=sz:=λ r hr0=>hr r (List.mem_of_mem_drop (List.mem_of_mem_take hr0));have hm:(l.toNat+(h'.toNat - l.toNat)) * sz<=rows.length * sz:=Nat.mul_le_mul_right _ aa;have hm':=Nat.add_mul l.toNat (h'.toNat - l.toNat) sz;have e1:(C.toList.drop (a.off+l.toNat * sz)).take ((h'.toNat - l.toNat) * sz)=(((C.toList.drop a.off).take (rows.length * sz)).drop (l.toNat * sz)).take ((h'.toNat - l.toNat) * sz):=by
       grind [List.drop_take,List.drop_drop]
      rw [if_neg hcl,Option.map_some,zeo hs];refine .lst (a:=⟨a.block,a.off+l.toNat * sz,none⟩) rfl hM hb hr' hlen.symm af aa ?_ ?_
      ·grind
      ·rw [hlen];simp only;rw [e1,zgW (λ r hr0=>hr r (List.mem_of_mem_drop hr0)),zgV hr];exact (hrel.drop _).take _
  grind
 ·rename_i e ht;obtain rfl:=hmx rfl;split at hc
  ·rename_i l h' hl hh;try simp only [hl,hh]
   obtain ⟨rfl,rfl,h2⟩:=hc;cases hx;obtain ⟨sz,hsz⟩:=Option.isSome_iff_exists.1 h2;have hb:(Instr.sliceBounds true 0 0 vlo vhi none).run P w= .ok (0,0,0) w:=zeH (P:=P) (w:=w) (b:=true) (len:=0) (cap:=0) (zd4 hlo hl) (zd4 hhi hh) (Int.le_refl _) (Int.le_refl _) (Int.le_refl _) (Nat.le_refl _);exact ⟨.slice none 0 0,by simp [Instr.sliceAt,Instr.slice,zak (zfj ht),hb,zbA hsz], .v _,rfl,rfl⟩
  grind
 ·rename_i s ht;obtain rfl:=hmx rfl;split at hc
  ·rename_i l h' hl hh;try simp only [hl,hh]
   obtain ⟨h0,h1,h2⟩:=hc;cases hx;have hb:=zeH (P:=P) (w:=w) (b:=false) (len:=s.size) (cap:=s.size) (zd4 hlo hl) (zd4 hhi hh) h0 h1 bg (Nat.le_refl _);exact ⟨_,by simp_all [Instr.sliceAt,Instr.slice,zak,zoP], .v _,rfl,rfl⟩
  grind
 grind
end reads
end Go.Av
end
section
/- Our library, part 7: the abstract operations are sound: those that make memory or write it. -/
namespace Go.Av
open Go

theorem Fr.refl (w:World) (U:Nat->Prop):Fr w U w:=⟨rfl,rfl,rfl,Nat.le_refl _,Nat.le_refl _,λ _ _ _=>rfl⟩
theorem ze3.refl (φ:zaD) (w:World) (M0:Nat->Prop) (h:zay):ze3 φ w M0 h φ w h:=⟨φ.le_refl,λ _ h=> .inl h,Fr.refl _ _,λ _ h=> .inl h⟩
theorem ze3.trans {φ φ₁ φ₂:zaD}{w w₁ w₂:World}{M0:Nat->Prop}{h h₁ h₂:zay} (a:ze3 φ w M0 h φ₁ w₁ h₁) (b:ze3 φ₁ w₁ M0 h₁ φ₂ w₂ h₂):ze3 φ w M0 h φ₂ w₂ h₂ where
 le:=zaD.le_trans a.le b.le
 or:=λ k hk=>by
  rcases b.or k hk with h|h
  ·exact a.or k h
  ·exact .inr (Nat.le_trans a.fr.size h)
 fr:=⟨b.fr.os.trans a.fr.os,b.fr.tape.trans a.fr.tape,b.fr.output.trans a.fr.output,Nat.le_trans a.fr.drawn b.fr.drawn,Nat.le_trans a.fr.size b.fr.size,λ k hk hu=>
  (b.fr.block k (Nat.lt_of_lt_of_le hk a.fr.size) (λ hm=>by rcases a.mutd k hm with h|h;exact hu h;omega)).trans (a.fr.block k hk hu)⟩
 mutd:=λ k hk=>by
  rcases b.mutd k hk with h|h
  ·exact a.mutd k h
  ·exact .inr (Nat.le_trans a.fr.size h)
variable {vparts:Array (Nat×Value)} {parts:List (Nat×AV)} {t:TypeId} {M:Nat->Prop} {rs:List (List AV)} {sz:Nat} {v:Value} {x:AV}
section
variable {P:Program} {φ φ':zaD} {F:Nat->Prop} {n:Nat} {w w':World} {M0:Nat->Prop} {h h':zay}
theorem ze3.rel (s:ze3 φ w M0 h φ' w' h') (hx:Rel φ w (Or M0 (Mut φ h)) x v):Rel φ' w' (Or M0 (Mut φ' h')) x v:=
 hx.keep s.le (λ k hk hlt=>s.fr.block k hlt (λ hm=>hk (.inr hm))) s.or
theorem ze3.relL (s:ze3 φ w M0 h φ' w' h'){xs:List AV}{vs:List Value} (hx:za2 φ w (Or M0 (Mut φ h)) xs vs):za2 φ' w' (Or M0 (Mut φ' h')) xs vs:=
 hx.keep s.le (λ k hk hlt=>s.fr.block k hlt (λ hm=>hk (.inr hm))) s.or

def Fal (F:Nat->Prop) (n:Nat):Nat->(Nat->Prop)
 |0=>F
 | _+1=>λ o=>F o∧o≠n
def zBD (P:Program) (φ:zaD) (F:Nat->Prop) (n:Nat) (w:World) (M0:Nat->Prop) (h:zay) (r:Res) (s:Sem Value):Prop:=
 ∃u w' φ',s.run P w= .ok u w'∧Rel φ' w' (Or M0 (Mut φ' (zap r.wr h))) r.val u∧zaW φ' (Fal F n r.al) w' M0 (zap r.wr h)∧ze3 φ w M0 h φ' w' (zap r.wr h)
theorem zN7 (hH:zaW φ F w M0 h){r:Res}{s:Sem Value} (hr:zdq P φ w (Or M0 (Mut φ h)) r s):zBD P φ F n w M0 h r s:=by
 obtain ⟨u,h1,h2,h3,h4⟩:=hr;refine ⟨u,w,φ,h1, ?_, ?_, ?_⟩
 ·rw [h3];exact h2
 ·rw [h3,h4];exact hH
 ·rw [h3];exact .refl _ _ _ _

theorem zeZ (w:World) (o:Obj) (k:Nat) (hk:k<w.heap.size):({ w with heap:=w.heap.push o}:World).heap[k]? =w.heap[k]? :=by
 grind
theorem zhG (w:World) (o:Obj):({ w with heap:=w.heap.push o}:World).heap[w.heap.size]? =some o:=by
 grind
theorem zHk (w:World) (o:Obj) (U:Nat->Prop):Fr w U { w with heap:=w.heap.push o}:=
 ⟨rfl,rfl,rfl,Nat.le_refl _,ac,λ k hk _=>zeZ w o k hk⟩
theorem zaW.place_old (hH:zaW φ F w M0 h){o:Nat}{mt:Bool}{g:Nat}{a:Addr}{b:Nat} (ho:h o=some (.rows mt g sz rs)) (hp:φ o=some (g,some (a,b))):
  a.block<w.heap.size∧¬F o:=by
 constructor
 ·obtain ⟨A,hA,h1⟩:=hH.obj _ _ _ _ _ ho;grind [zmL]
 ·intro hle;rw [hH.fresh o hle] at hp;cases hp
theorem zHG (hH:zaW φ F w M0 h) (hn:F n) (x:Nat×Option (Addr×Nat)):φ.le (upd φ n (some x)):=by
 intro o y hy;have:o≠n:=λ e=>by subst e;rw [hH.fresh o hn] at hy;cases hy
 grind [zeU]

theorem zaW.new (hH:zaW φ F w M0 h) (hn:F n){C:Array Value}{T:TypeId} (hr:∀r ∈ rs,r.length=sz) (hl:rs.length * sz<=C.size)
  (hv:∀u ∈ C.toList.take (rs.length * sz),zd7 u=true) (hrel:za2 φ w (Or M0 (Mut φ h)) rs.flatten (C.toList.take (rs.length * sz))):
  zaW (upd φ n (some (0,some (⟨w.heap.size,0,none⟩,C.size)))) (λ o=>F o∧o≠n) { w with heap:=w.heap.push (.cells C T)} M0 (upd h n (some (.rows true 0 sz rs)))∧
   ze3 φ w M0 h (upd φ n (some (0,some (⟨w.heap.size,0,none⟩,C.size)))) { w with heap:=w.heap.push (.cells C T)} (upd h n (some (.rows true 0 sz rs))):=by
 have hle:=zHG hH hn (0,some ((⟨w.heap.size,0,none⟩:Addr),C.size));obtain ⟨h1,h2,h3⟩:=hH.set (w':={ w with heap:=w.heap.push (.cells C T)}) (F':=λ o=>F o∧o≠n) (o:=n) (mt:=true) (g:=0) (sz:=sz) (rs:=rs) (A:=some (⟨w.heap.size,0,none⟩,C.size))
  (λ _ h=>h.1) (λ h=>h.2 rfl) ac hle (λ k _ hk=>zeZ w _ k hk)
  (λ o' mt g sz rs a b _ ho hp=>by
   have:=(hH.place_old ho hp).1;grind)
  (λ a b e=>by
   grind)
  (.inr ⟨⟨w.heap.size,0,none⟩,C.size,C,T,rfl,rfl,λ hm=>by have:=hH.m0 _ hm;grind,zhG w _,rfl,hr,af,
   by grind,af⟩)
 refine ⟨h1,hle,h2,zHk w _ _,λ k hk=> ?_⟩;grind
theorem zaW.newMap (hH:zaW φ F w M0 h) (hn:F n):
  zaW (upd φ n (some (0,some (⟨w.heap.size,0,some 0⟩,0)))) (λ o=>F o∧o≠n) { w with heap:=w.heap.push (.map #[] 0)} M0 (upd h n (some (.rows true 0 2 [])))∧
   ze3 φ w M0 h (upd φ n (some (0,some (⟨w.heap.size,0,some 0⟩,0)))) { w with heap:=w.heap.push (.map #[] 0)} (upd h n (some (.rows true 0 2 []))):=by
 have hle:=zHG hH hn (0,some ((⟨w.heap.size,0,some 0⟩:Addr),0));obtain ⟨h1,h2,h3⟩:=hH.set (w':={ w with heap:=w.heap.push (.map #[] 0)}) (F':=λ o=>F o∧o≠n) (o:=n) (mt:=true) (g:=0) (sz:=2) (rs:= []) (A:=some (⟨w.heap.size,0,some 0⟩,0))
  (λ _ h=>h.1) (λ h=>h.2 rfl) ac hle (λ k _ hk=>zeZ w _ k hk)
  (λ o' mt g sz rs a b _ ho hp=>by
   have:=(hH.place_old ho hp).1;grind)
  (λ a b e=>by
   grind)
  (.inl (.inr ⟨⟨w.heap.size,0,some 0⟩,0, #[],0,rfl,ac,λ hm=>by have:=hH.m0 _ hm;grind,zhG w _,rfl,⟨rfl,ac⟩,bM⟩))
 refine ⟨h1,hle,h2,zHk w _ _,λ k hk=> ?_⟩;grind
theorem zaW.newNil (hH:zaW φ F w M0 h) (hn:F n) (sz:Nat):
  zaW (upd φ n (some (0,none))) (λ o=>F o∧o≠n) w M0 (upd h n (some (.rows true 0 sz [])))∧ze3 φ w M0 h (upd φ n (some (0,none))) w (upd h n (some (.rows true 0 sz []))):=by
 have hle:=zHG hH hn (0,none);obtain ⟨h1,h2,h3⟩:=hH.set (w':=w) (F':=λ o=>F o∧o≠n) (o:=n) (mt:=true) (g:=0) (sz:=sz) (rs:= []) (A:=none)
  (λ _ h=>h.1) (λ h=>h.2 rfl) (Nat.le_refl _) hle (λ k _ hk=>rfl) (λ o' mt g sz rs a b _ ho hp=>⟨rfl,λ a₁ b₁ e=>by cases e⟩) (λ a b e=>by cases e) (.inl (.inl ⟨rfl,rfl⟩))
 refine ⟨h1,hle,h2,Fr.refl _ _,λ k hk=> ?_⟩;grind

theorem zrH (hH:zaW φ F w M0 h) (hx:Rel φ w M x v) (hc:x.isCell h):zd7 v=true:=by
 cases x with
 |v y=>cases hx;exact hc
 |ref o g sz i off=>obtain ⟨a,rfl⟩:=hH.ref_alive hc hx;rfl
 |sl o g sz i len=>obtain ⟨A,cap,rfl, _⟩:=hH.sl_alive hc hx;rfl
 |lst=>cases hx<;>rfl
 |fp=>cases hx;rfl
 |fn=>cases hx;rfl
 |mp o=>
  simp only [AV.isCell,zdI] at hc;split at hc
  ·rename_i mt g' sz' rs e;obtain ⟨rfl,rfl⟩:=hc;obtain ⟨a,bs,es,clk, _, _, _,rfl, _⟩:=hH.mp_at e hx;rfl
  grind
 | _=>exact hc.elim
theorem zn5 (hH:zaW φ F w M0 h) (hx:Rel φ w M x v) (hc:x.okCells h):
  za2 φ w M x.cells v.cells.toList∧∀u ∈ v.cells.toList,zd7 u=true:=by
 cases x with
 |agg cs=>cases hx with|agg hv hrel=>exact ⟨hrel,hv⟩
 | _=>
  have h1:=zrH hH hx hc;have e:v.cells= #[v]:=by cases v<;>simp_all [Value.cells,zd7,Value.oneCell']
  rw [e];exact ⟨.cons hx .nil,cX⟩

theorem zAV (hH:zaW φ F w M0 h) (hn:F n) (hx:Rel φ w (Or M0 (Mut φ h)) x v) (hc:x.okCells h):
  zBD P φ F n w M0 h ⟨True, .ref n 0 x.cells.length 0 0, [(n,some (.rows true 0 x.cells.length [x.cells]))],1⟩ (do pure (.pointer (some (<- newVar t v)))):=by
 obtain ⟨h1,h2⟩:=zn5 hH hx hc;have hl:=h1.length;obtain ⟨a,b⟩:=hH.new hn (sz:=x.cells.length) (rs:= [x.cells]) (C:=v.cells) (T:=t) ac (by simp [hl]) af
  (by rw [List.length_singleton,Nat.one_mul,hl,List.take_length,List.flatten_singleton];exact h1)
 refine ⟨_, _, _,by simp [newVar,newRow];rfl, ?_,a,b⟩;exact .ref (zbk _ _ _) (Nat.le_refl _) λ _=>⟨_, _,rfl,rfl,ac⟩
theorem zJ2 (hH:zaW φ F w M0 h) (hn:F n) (hx:Rel φ w (Or M0 (Mut φ h)) x v) (hc:x.okCells h):
  zBD P φ F n w M0 h ⟨x.okCells h, .ref n 0 x.cells.length 0 0, [(n,some (.rows true 0 x.cells.length [x.cells]))],1⟩ (Instr.box t v):=
 zAV (P:=P) (t:=t) hH hn hx hc
theorem zfG  (l:List Value):za2 φ w M (l.map .v) l:=by
 refine zOd ac λ k hk hv=> ?_;simp only [List.getElem_map];exact .v _
theorem zDk (hH:zaW φ F w M0 h) (hn:F n){z:List AV} (hz:tz P t=some z):
  zBD P φ F n w M0 h ⟨True, .ref n 0 z.length 0 0, [(n,some (.rows true 0 z.length [z]))],1⟩ (Instr.alloc t true (.tuple #[])):=by
 obtain ⟨u,h1,rfl,h2⟩:=zcP (P:=P) (w:=w) hz;obtain ⟨a,b⟩:=hH.new hn (sz:=(u.cells.toList.map AV.v).length) (rs:= [u.cells.toList.map .v]) (C:=u.cells) (T:=t) ac ac af
  (by rw [List.length_singleton,Nat.one_mul,List.length_map,List.take_length,List.flatten_singleton];grind [zfG])
 refine ⟨.pointer (some ⟨w.heap.size,0,none⟩), _, _,by simp [Instr.alloc,h1,newVar,newRow], ?_,a,b⟩;exact .ref (zbk _ _ _) (Nat.le_refl _) λ _=>⟨_, _,rfl,rfl,ac⟩

theorem zyd (off:Nat):∀ (us:List Value) (cs:Array Value) (k:Nat),
  ((us.zipIdx k).foldl (λ cs (p:Value×Nat)=>cs.setIfInBounds (off+p.2) p.1) cs).toList=zle cs.toList (off+k) us
 | [], _, _=>rfl
 |u::us,cs,k=>by
  simp only [List.zipIdx_cons,List.foldl_cons,zle];rw [zyd off us];simp [Nat.add_assoc]
theorem zpk (off:Nat) (us:Array Value) (cs:Array Value):
  (us.zipIdx.foldl (λ cs (p:Value×Nat)=>cs.setIfInBounds (off+p.2) p.1) cs).toList=zle cs.toList off us.toList:=by
 have:=zyd off us.toList cs 0;simp only [Nat.add_zero] at this;rw [<- this,<- Array.foldl_toList];simp
theorem zqe {row cs:List AV} (h:row.length=cs.length):setMany row 0 cs=cs:=zBn cs row h
theorem zv8 (hH:zaW φ F w M0 h):∀ (parts:List (Nat×AV)) (vparts:List (Nat×Value)) (rs:List (List AV)) (C:Array Value),
  (∀r ∈ rs,r.length=sz)->C.size=rs.length * sz->(∀u ∈ C.toList,zd7 u=true)->za2 φ w (Or M0 (Mut φ h)) rs.flatten C.toList->
  parts.length=vparts.length->(∀ (k:Nat) (hk:k<parts.length) (hk':k<vparts.length),parts[k].1=vparts[k].1∧Rel φ w (Or M0 (Mut φ h)) parts[k].2 vparts[k].2)->
  (zeL h sz rs parts).1->∃C',Instr.fill (λ i=>some (i * sz,sz)) C vparts=some C'∧C'.size=C.size∧(zeL h sz rs parts).2.length=rs.length∧
   (∀r ∈ (zeL h sz rs parts).2,r.length=sz)∧(∀u ∈ C'.toList,zd7 u=true)∧za2 φ w (Or M0 (Mut φ h)) (zeL h sz rs parts).2.flatten C'.toList:=by
 intro parts;induction parts with
 |nil=>
  intro vparts rs C hr hC hv hrel hlen _ _;cases vparts with
  |nil=>exact ⟨C,rfl,rfl,rfl,hr,hv,hrel⟩
  |cons=>grind
 |cons p parts ih=>
  intro vparts rs C hr hC hv hrel hlen hp hc;cases vparts with
  |nil=>grind
  |cons q vparts=>
   obtain ⟨i,x⟩:=p;obtain ⟨j,v⟩:=q;obtain ⟨e,hx⟩:=hp 0 ac ac;simp only [List.getElem_cons_zero] at e hx;subst e;obtain ⟨hi,hsz,hok,hc⟩:=hc;obtain ⟨h1,h2⟩:=zn5 hH hx hok;have hl:=h1.length;have hle:i * sz+sz<=rs.length * sz:=by
    have:=Nat.mul_le_mul_right sz (show i+1<=rs.length from hi);grind
   have hvs:v.cells.size=sz:=af;obtain ⟨C',hC'⟩:∃C':Array Value,C'=v.cells.zipIdx.foldl (λ cs (p:Value×Nat)=>cs.setIfInBounds (i * sz+p.2) p.1) C:=⟨_,rfl⟩
   have hC'l:C'.toList=zle C.toList (i * sz) v.cells.toList:=by rw [hC',zpk]
   have hsize:C'.size=C.size:=cP;have hrow:(rs.set i x.cells).flatten=setMany rs.flatten (i * sz) x.cells:=by
    have:=zr4 hr i hi 0 x.cells aa;grind [zqe]
   obtain ⟨C'',hf,hs,hl',hr',hv',hrel'⟩:=ih vparts (rs.set i x.cells) C'
    (λ r hm=>by grind)
    af
    (λ u hu=>by grind [zkN])
    (by grind [zOc])
    af
    (λ k hk hk'=>by have:=hp (k+1) af af;grind) hc
   grind [zeL,Instr.fill]
theorem zkf (T:TypeId) (C:Array Value):(newRow T C).run P w= .ok ⟨w.heap.size,0,none⟩ { w with heap:=w.heap.push (.cells C T)}:=by
 simp [newRow]
theorem zoK {z:List AV}{u:List Value}{M:Nat->Prop} (h:za2 φ w M z u):∀k,za2 φ w M (List.replicate k z).flatten (List.replicate k u).flatten
 |0=>bM
 |k+1=>by simp only [List.replicate_succ,List.flatten_cons];exact h.append (zoK h k)
theorem zl8 (u:Array Value) (hu:0<u.size):∀k,((Array.range (k * u.size)).map (u[· % u.size]!)).toList=(List.replicate k u.toList).flatten
 |0=>ac
 |k+1=>by
  have ih:=zl8 u hu k;have hl:(List.replicate k u.toList).flatten.length=k * u.size:=ac;rw [List.replicate_succ',List.flatten_append,<- ih];apply List.ext_getElem
  ·simp [Nat.add_mul]
  ·intro i h1 h2;simp only [Array.toList_map,Array.toList_range,List.getElem_map,List.getElem_range];by_cases hi:i<k * u.size
   ·rw [List.getElem_append_left au];simp
   ·rw [List.getElem_append_right au];simp only [List.length_map,List.length_range,List.flatten_singleton,Array.getElem_toList];have hb:i<(k+1) * u.size:=cX;rw [Nat.add_mul] at hb;have e:i % u.size=i - k * u.size:=by
     have:i=(i - k * u.size)+k * u.size:=aa;rw [this,Nat.add_mul_mod_self_right,Nat.mod_eq_of_lt aa];omega
    rw [e,getElem!_pos u (i - k * u.size) aa]

theorem zrE (hH:zaW φ F w M0 h) (hn:F n){len:Nat} (hlen:parts.length=vparts.toList.length)
  (hp:∀ (k:Nat) (hk:k<parts.length) (hk':k<vparts.toList.length),parts[k].1=vparts.toList[k].1∧Rel φ w (Or M0 (Mut φ h)) parts[k].2 vparts.toList[k].2)
  (hc:(zft P n t len parts h).cond):zBD P φ F n w M0 h (zft P n t len parts h) (Instr.buildSlice t len vparts):=by
 unfold zft at hc ⊢;split at hc
 ·rename_i e ht;split at hc
  ·rename_i sz z hsz hz;try simp only [hsz,hz]
   obtain ⟨h1,h2,h3,h4⟩:=hc;obtain ⟨u,hu,rfl,hcv⟩:=zcP (P:=P) (w:=w) hz;have hus:u.cells.size=sz:=af;have hC:((Array.range (len * sz)).map (u.cells[· % u.cells.size]!)).toList=(List.replicate len u.cells.toList).flatten:=by
    grind [zl8]
   obtain ⟨C',hf,hs,hl,hr,hv,hrel⟩:=zv8 hH parts vparts.toList (List.replicate len (u.cells.toList.map .v)) ((Array.range (len * sz)).map (u.cells[· % u.cells.size]!))
    (λ r hr=>by grind) ac (λ c hm=>by
     grind [List.mem_flatten])
    (by grind [zoK,zfG]) hlen hp h1
   have hl':(zeL h sz (List.replicate len (u.cells.toList.map AV.v)) parts).2.length=len:=af;have hCs:C'.size=len * sz:=af;have et:C'.toList.take (len * sz)=C'.toList:=az;obtain ⟨a,b⟩:=hH.new hn (sz:=sz) (rs:=(zeL h sz (List.replicate len (u.cells.toList.map AV.v)) parts).2) (C:=C') (T:=e) hr af
    af af
   refine ⟨.slice (some ⟨w.heap.size,0,none⟩) len len, _, _, ?_, ?_,a,b⟩
   ·have hlt:¬len * sz>2 ^ 24:=by omega
    by_cases h0:len * sz=0
    ·have hf0:Instr.fill (λ i=>some (i * sz,sz)) #[] vparts.toList=some C':=by
      grind
     have hr0:(Array.range (len * sz))= #[]:=af;simp only [Instr.buildSlice,Sem.run_bind,zak (zfj ht),Result.andThen_ok,zbA hsz,hlt,if_false,h0,if_true,Sem.run_pure];grind [zkf,Result.andThen_ok,Sem.run_bind,Sem.run_pure]
    ·simp only [Instr.buildSlice,Sem.run_bind,zak (zfj ht),Result.andThen_ok,zbA hsz,hlt,if_false,h0,hu,Sem.run_pure,hf,zkf]
   ·refine .sl (zbk _ _ _) (Nat.le_refl _) λ _=> .inr (.inr ⟨_, _,len,rfl,rfl,ac,Nat.le_refl _, ?_⟩);grind
  grind
 grind
theorem ztM (hH:zaW φ F w M0 h){places:Array (Nat×Nat)} (hpl:∀i d k,zJe P t i=some d->(zMX P t i).bind (tsz P)=some k->places[i]? =some (d,k)):
  ∀ (parts:List (Nat×AV)) (vparts:List (Nat×Value)) (cs:List AV) (C:Array Value),(∀u ∈ C.toList,zd7 u=true)->za2 φ w (Or M0 (Mut φ h)) cs C.toList->
  parts.length=vparts.length->(∀ (k:Nat) (hk:k<parts.length) (hk':k<vparts.length),parts[k].1=vparts[k].1∧Rel φ w (Or M0 (Mut φ h)) parts[k].2 vparts[k].2)->
  (zfR P h t cs parts).1->∃C',Instr.fill (places[·]?) C vparts=some C'∧(∀u ∈ C'.toList,zd7 u=true)∧za2 φ w (Or M0 (Mut φ h)) (zfR P h t cs parts).2 C'.toList:=by
 intro parts;induction parts with
 |nil=>
  intro vparts cs C hv hrel hlen _ _;cases vparts with
  |nil=>exact ⟨C,rfl,hv,hrel⟩
  |cons=>grind
 |cons p parts ih=>
  intro vparts cs C hv hrel hlen hp hc;cases vparts with
  |nil=>grind
  |cons q vparts=>
   obtain ⟨i,x⟩:=p;obtain ⟨j,v⟩:=q;obtain ⟨e,hx⟩:=hp 0 ac ac;simp only [List.getElem_cons_zero] at e hx;subst e;simp only [zfR] at hc ⊢;split at hc
   ·rename_i d k hd hk;try simp only [hd,hk]
    obtain ⟨hsz,hle,hok,hc⟩:=hc;obtain ⟨h1,h2⟩:=zn5 hH hx hok;have hl:=h1.length;have hvs:v.cells.size=k:=af;have hCl:=hrel.length;obtain ⟨C',hC'⟩:∃C':Array Value,C'=v.cells.zipIdx.foldl (λ cs (p:Value×Nat)=>cs.setIfInBounds (d+p.2) p.1) C:=⟨_,rfl⟩
    have hC'l:C'.toList=zle C.toList d v.cells.toList:=by rw [hC',zpk]
    obtain ⟨C'',hf,hv',hrel'⟩:=ih vparts (setMany cs d x.cells) C'
     (λ u hu=>by grind [zkN])
     (by grind [zOc]) af
     (λ k hk hk'=>by have:=hp (k+1) af af;grind) hc
    grind [Instr.fill]
   grind
theorem zx1 (hH:zaW φ F w M0 h):∀ (parts:List (Nat×AV)) (vparts:List (Nat×Value)) (cs:List AV) (C:Array Value),(∀u ∈ C.toList,zd7 u=true)->za2 φ w (Or M0 (Mut φ h)) cs C.toList->
  parts.length=vparts.length->(∀ (k:Nat) (hk:k<parts.length) (hk':k<vparts.length),parts[k].1=vparts[k].1∧Rel φ w (Or M0 (Mut φ h)) parts[k].2 vparts[k].2)->
  (zkC h sz cs parts).1->∃C',Instr.fill (λ i=>some (i * sz,sz)) C vparts=some C'∧(∀u ∈ C'.toList,zd7 u=true)∧za2 φ w (Or M0 (Mut φ h)) (zkC h sz cs parts).2 C'.toList:=by
 intro parts;induction parts with
 |nil=>
  intro vparts cs C hv hrel hlen _ _;cases vparts with
  |nil=>exact ⟨C,rfl,hv,hrel⟩
  |cons=>grind
 |cons p parts ih=>
  intro vparts cs C hv hrel hlen hp hc;cases vparts with
  |nil=>grind
  |cons q vparts=>
   obtain ⟨i,x⟩:=p;obtain ⟨j,v⟩:=q;obtain ⟨e,hx⟩:=hp 0 ac ac;simp only [List.getElem_cons_zero] at e hx;subst e;simp only [zkC] at hc ⊢;obtain ⟨hsz,hle,hok,hc⟩:=hc;obtain ⟨h1,h2⟩:=zn5 hH hx hok;have hl:=h1.length;have hvs:v.cells.size=sz:=af;have hCl:=hrel.length;obtain ⟨C',hC'⟩:∃C':Array Value,C'=v.cells.zipIdx.foldl (λ cs (p:Value×Nat)=>cs.setIfInBounds (i * sz+p.2) p.1) C:=⟨_,rfl⟩
   have hC'l:C'.toList=zle C.toList (i * sz) v.cells.toList:=by rw [hC',zpk]
   obtain ⟨C'',hf,hv',hrel'⟩:=ih vparts (setMany cs (i * sz) x.cells) C'
    (λ u hu=>by grind [zkN])
    (by grind [zOc]) af
    (λ k hk hk'=>by have:=hp (k+1) af af;grind) hc
   grind [Instr.fill]
theorem zvd:∀ (l:List Field),(∀f ∈ l,∃i,P.info? f.type=some i)->
  ((l.mapM λ (f:Field)=>do pure (f.offset,<- sizeOf f.type):Sem (List (Nat×Nat)))).run P w= .ok (l.map λ f=>(f.offset,((P.info? f.type).map (·.size)).getD 0)) w
 | [], _=>ac
 |f::l,hl=>by
  obtain ⟨i,hi⟩:=hl f ac;have ih:=zvd l (λ f hf=>hl f (by simp [hf]));have hs:(sizeOf f.type).run P w= .ok i.size w:=by simp [sizeOf,typeInfo,hi]
  simp only [List.mapM_cons,Sem.run_bind,hs,Result.andThen_ok,Sem.run_pure,ih,List.map_cons,hi,Option.map_some,Option.getD_some]
theorem zDw (hH:zaW φ F w M0 h) (hlen:parts.length=vparts.toList.length)
  (hp:∀ (k:Nat) (hk:k<parts.length) (hk':k<vparts.toList.length),parts[k].1=vparts.toList[k].1∧Rel φ w (Or M0 (Mut φ h)) parts[k].2 vparts.toList[k].2)
  (hc:(zpe P t parts h).cond):zdq P φ w (Or M0 (Mut φ h)) (zpe P t parts h) (Instr.build t vparts):=by
 unfold zpe at hc ⊢;split at hc
 ·rename_i z ht hz;obtain ⟨hfi,hc⟩:=hc;obtain ⟨u,hu,rfl,hcv⟩:=zcP (P:=P) (w:=w) hz;obtain ⟨fs,hfs⟩:=tk_str ht;have hinfo:∀f ∈ fs.toList,∃i,P.info? f.type=some i:=by
   grind [tfi,Option.isSome_iff_exists]
  have hpl:∀i d k,zJe P t i=some d->(zMX P t i).bind (tsz P)=some k->((fs.toList.map λ f=>(f.offset,((P.info? f.type).map (·.size)).getD 0)).toArray)[i]? =some (d,k):=by
   grind [zr6,zMX,tsz]
  obtain ⟨C',hf,hv',hrel'⟩:=ztM hH hpl parts vparts.toList _ u.cells hcv (zfG _) hlen hp hc;refine ⟨.agg C', ?_, .agg (vs:=C'.toList) hv' hrel',rfl,rfl⟩;have hm:(fs.mapM λ (f:Field)=>do pure (f.offset,<- sizeOf f.type):Sem (Array (Nat×Nat))).run P w= .ok ((fs.toList.map λ f=>(f.offset,((P.info? f.type).map (·.size)).getD 0)).toArray) w:=by
   grind [Array.mapM_eq_mapM_toList,Sem.run_map,zvd,Result.andThen_ok]
  simp_all [Instr.build,zak]
 ·rename_i e z ht hz;split at hc
  ·rename_i sz hsz;try simp only [hsz]
   obtain ⟨u,hu,rfl,hcv⟩:=zcP (P:=P) (w:=w) hz;obtain ⟨C',hf,hv',hrel'⟩:=zx1 hH parts vparts.toList _ u.cells hcv (zfG _) hlen hp hc;refine ⟨.agg C', ?_, .agg (vs:=C'.toList) hv' hrel',rfl,rfl⟩;simp only [Instr.build,Sem.run_bind,hu,Result.andThen_ok,zak (zvp ht),zbA hsz,hf,Sem.run_map,Sem.run_pure]
  grind
 grind
end
end Go.Av
end
section
/- Our library, part 8: the abstract operations are sound: stores, make, append. -/
namespace Go.Av
open Go

variable {rs:List (List AV)} {tys:Array TypeId} {k:IntKind} {X:Array Value} {base:Option Addr} {by_ cap len sz:Nat} {u v vs vx:Value} {s x:AV} {e st t ty xt:TypeId}
section
variable {P:Program} {φ φ':zaD} {F:Nat->Prop} {n:Nat} {w w':World} {M0:Nat->Prop} {h h':zay}

theorem zq5 {α:Type} (f:Nat->α) (k:Nat):upd f k (f k)=f:=by
 grind [upd]
theorem zaW.of_heap (hH:zaW φ F w M0 h) (hh:w'.heap=w.heap):zaW φ F w' M0 h:=by
 refine ⟨by rw [hh];exact hH.m0,hH.fresh,λ o mt g sz rs ho=> ?_,hH.inj,hH.glob.keep (λ k _ _=>by rw [hh]) (λ k hk=> .inl hk)⟩;obtain ⟨A,hA,h1⟩:=hH.obj o mt g sz rs ho;refine ⟨A,hA,h1.imp id ?_⟩;rintro ⟨a,bs,e1,e3,e4⟩;exact ⟨a,bs,e1,e3,e4.keep (by rw [hh]) (λ e9=>e9.keep φ.le_refl (λ k _ _=>by rw [hh]) (λ k hk=> .inl hk))⟩
theorem ze3.of_heap (ho:w'.os=w.os) (ht:w'.tape=w.tape) (hp:w'.output=w.output) (hd:w.drawn<=w'.drawn) (hh:w'.heap=w.heap):ze3 φ w M0 h φ w' h:=
 ⟨φ.le_refl,λ _ h=> .inl h,⟨ho,ht,hp,hd,af,λ k _ _=>by rw [hh]⟩,λ _ h=> .inl h⟩

theorem zaW.keepw (hH:zaW φ F w M0 h) (st:ze3 φ w M0 h φ w' h) (hall:∀k,k<w.heap.size->w'.heap[k]? =w.heap[k]?):zaW φ F w' M0 h:=by
 refine ⟨λ k hk=>Nat.lt_of_lt_of_le (hH.m0 k hk) st.fr.size,hH.fresh,λ o mt g sz rs ho=> ?_,hH.inj,hH.glob.keep (λ k _ hk=>hall k hk) (λ k hk=> .inl hk)⟩;obtain ⟨A,hA,h1⟩:=hH.obj o mt g sz rs ho;refine ⟨A,hA,h1.imp id ?_⟩;rintro ⟨a,bs,e1,e3,e4⟩;exact ⟨a,bs,e1,e3,e4.keep (hall _ e4.blk) (λ e9=>st.relL e9)⟩

theorem zFj (hH:zaW φ F w M0 h){y:AV} (hx:Rel φ w (Or M0 (Mut φ h)) x v) (hy:Rel φ w (Or M0 (Mut φ h)) y u)
  (hc:(zeV P t x y h).cond):∃w' φ',(Instr.storeAt t v u).run P w= .ok () w'∧zaW φ' F w' M0 (zap (zeV P t x y h).wr h)∧
   ze3 φ w M0 h φ' w' (zap (zeV P t x y h).wr h)∧(zeV P t x y h).val= .top:=by
 unfold zeV at hc ⊢;split at hc
 ·rename_i o g sz i off;split at hc
  ·rename_i mt g' sz' rs ho;by_cases hgs:g=g'∧sz=sz'∧mt=true
   ·simp only [hgs,and_self,if_true] at hc;obtain ⟨rfl,rfl,rfl⟩:=hgs;simp only [ho,and_self,if_true];obtain ⟨hi,hsz,hle,hok⟩:=hc;obtain ⟨a,bs,C,T,hp,hs,h0,hb,hC,hr,hl,hle',hrow,hcv⟩:=hH.at_row ho hi (zCD hx);obtain rfl:=zLX hx hp;obtain ⟨h1,h2⟩:=zn5 hH hy hok;have hlen:=h1.length;obtain ⟨A,hA,hobj⟩:=hH.obj _ _ _ _ _ ho;rw [hp] at hA;simp only [Option.some.injEq,Prod.mk.injEq,true_and] at hA;subst hA;rcases hobj with ⟨hobj, _⟩|⟨a',bs',e, _,hd⟩
    ·cases hobj
    simp only [Option.some.injEq,Prod.mk.injEq] at e;obtain ⟨rfl,rfl⟩:=e;obtain ⟨C',T',hb', _, _, _,hv,hrel⟩:=hd.cells hs;rw [hb] at hb';simp only [Option.some.injEq,Obj.cells.injEq] at hb';obtain ⟨rfl,rfl, _⟩:=hb';obtain ⟨w',hrun,hw'⟩:=ze1 (P:=P) (a:=⟨a.block,a.off+i * sz+off,none⟩) (T:=T) rfl u.cells.toList 0 w C hb af h2;have hrows:(if off=0∧y.cells.length=sz then y.cells else setMany (nth rs i) off y.cells)=setMany rs[i] off y.cells:=by
     grind [nth,zqe]
    rw [hrows];have hM:∀k,¬Or M0 (Mut φ h) k->k≠a.block:=λ k hk e=>hk (.inr ⟨o,g,sz,rs,g,a,bs,ho,hp,e.symm⟩);have hle0:φ.le (upd φ o (some (g,some (a,bs)))):=bN;have hflat:(rs.set i (setMany rs[i] off y.cells)).flatten=setMany rs.flatten (i * sz+off) y.cells:=zr4 hr i hi off y.cells hle;obtain ⟨g1,g2,g3⟩:=hH.set (w':=w') (F':=F) (o:=o) (mt:=true) (g:=g) (sz:=sz) (rs:=rs.set i (setMany rs[i] off y.cells)) (A:=some (a,bs))
     (λ _ h=>h) (hH.place_old ho hp).2 aN hle0 (λ k hk _=>hw'.other k (hM k hk))
     (λ o' mt' g' sz' rs' a₁ b₁ hne ho' hp'=>by
      have:=hH.inj _ _ _ _ _ _ _ _ _ _ _ _ _ _ ho ho' (Ne.symm hne) (.inl rfl) hp hp';refine ⟨hw'.other _ (Ne.symm this),λ a₂ b₂ e=> ?_⟩;grind)
     (λ a₁ b₁ e=>by
      grind)
     (.inr ⟨a,bs, _,T,rfl,hs,h0,hw'.at_,cP,
      λ r hm=>by
       grind [zm4],
      by grind,
      λ c hm=>by
       simp only [List.length_set,Nat.add_zero] at hm;rw [show a.off+i * sz+off=a.off+(i * sz+off) by omega,zdP _ _ _ _ _ aa] at hm;grind [zkN],
      by
       simp only [List.length_set,Nat.add_zero];rw [show a.off+i * sz+off=a.off+(i * sz+off) by omega,zdP _ _ _ _ _ aa,hflat];grind [zOc]⟩)
    refine ⟨w', _, ?_,g1,⟨hle0,g2,⟨hw'.os,hw'.tape,hw'.output,hw'.drawn,aN,λ k _ hu=>hw'.other k (λ e=>hu ⟨o,g,sz,rs,g,a,bs,ho,hp,e.symm⟩)⟩,λ k hk=> ?_⟩,trivial⟩
    ·simp_all [Instr.storeAt,Instr.sureAddr,storeVar,zbA]
    ·rcases g3 k hk with h|⟨a₁,b₁,e,rfl⟩;all_goals grind [Or]
   grind
  grind
 grind

theorem zDN {y:AV}:(zeV P t x y h).al=0:=by
 unfold zeV;grind
theorem zkQ {b:Nat} (hb:tby P t=some b):∃i,(typeInfo t).run P w= .ok i w∧i.bytes=b:=by
 unfold tby at hb;cases hu:P.info? t<;>simp_all [typeInfo]
theorem zI7 {n:Int} (h0:0<=n) (h1:n<=17592186044416):IntKind.i64.wrap n=n:=zji ⟨by grind [IntKind.min],by grind [IntKind.max,IntKind.bits]⟩
theorem zqd {z:List AV}{u:List Value}{M:Nat->Prop} (hz:za2 φ w M z u){l c:Nat} (hlc:l<=c):
  za2 φ w M (List.replicate l z).flatten ((List.replicate c u).flatten.take (l * z.length)):=by
 have e:(List.replicate c u).flatten.take (l * z.length)=(List.replicate l u).flatten:=by
  obtain ⟨d,rfl⟩:∃d,c=l+d:=⟨c - l,aa⟩
  have hl:(List.replicate l u).flatten.length=l * z.length:=by simp [hz.length]
  rw [<- List.replicate_append_replicate,List.flatten_append,List.take_left' hl]
 grind [zoK]
theorem ztR (hH:zaW φ F w M0 h) (hn:F n){l c:AV}{vl vc:Value} (hl:Rel φ w (Or M0 (Mut φ h)) l vl) (hcc:Rel φ w (Or M0 (Mut φ h)) c vc)
  (hc:(zid P n t l c).cond):zBD P φ F n w M0 h (zid P n t l c) (Instr.makeSlice t vl vc):=by
 unfold zid at hc ⊢;split at hc
 ·rename_i e l c ht;cases hl;cases hcc;split at hc
  ·rename_i sz z by_ hsz hz hb;try simp only [hsz,hz,hb]
   obtain ⟨h1,h2,h3,h4,h5,h6⟩:=hc;obtain ⟨u,hu,rfl,hcv⟩:=zcP (P:=P) (w:=w) hz;obtain ⟨inf,hinf,rfl⟩:=zkQ (P:=P) (w:=w) hb;have hus:u.cells.size=sz:=af;have hsz':u.cells.size=(u.cells.toList.map AV.v).length:=ac;have w1:IntKind.i64.wrap l=l:=zI7 h3 aa;have w2:IntKind.i64.wrap c=c:=zI7 aa aa;have hC:((Array.range (c.toNat * sz)).map (u.cells[· % u.cells.size]!)).toList=(List.replicate c.toNat u.cells.toList).flatten:=by
    grind [zl8]
   have hb1:(inf.bytes:Int) * c<=2 ^ 48:=by
    have:(inf.bytes:Int) * c<=1024 * c:=Int.mul_le_mul_of_nonneg_right aa aa;omega
   have hb2:(inf.bytes:Int) * l<=2 ^ 48:=by
    have:(inf.bytes:Int) * l<=1024 * l:=Int.mul_le_mul_of_nonneg_right aa aa;omega
   have hlc:l.toNat<=c.toNat:=aa;have hmul:=Nat.mul_le_mul_right sz hlc;have hCs:((Array.range (c.toNat * sz)).map (u.cells[· % u.cells.size]!)).size=c.toNat * sz:=ac;obtain ⟨a,b⟩:=hH.new hn (sz:=sz) (rs:=List.replicate l.toNat (u.cells.toList.map .v)) (C:=(Array.range (c.toNat * sz)).map (u.cells[· % u.cells.size]!)) (T:=e)
    (λ r hr=>by grind) af
    (λ x hm=>by
     grind [List.mem_flatten])
    (by
     grind [zqd,zfG])
   refine ⟨.slice (some ⟨w.heap.size,0,none⟩) l.toNat c.toNat, _, _, ?_, ?_,a,b⟩
   ·have hn1:(decide (c<0)||decide ((inf.bytes:Int) * c>2 ^ 48))=false:=by grind
    have hneg:¬(((decide (c<0)||decide ((inf.bytes:Int) * c>2 ^ 48))||decide (l<0)||decide (l>c))=true):=af;have hz0:(if c.toNat * sz=0 then pure #[] else do pure (<- zeroValue e).cells:Sem (Array Value)).run P w= .ok (if c.toNat * sz=0 then #[] else u.cells) w:=by
     split<;>simp [hu]
    have hC0:((Array.range (c.toNat * sz)).map ((if c.toNat * sz=0 then #[] else u.cells)[· % (if c.toNat * sz=0 then (#[]:Array Value) else u.cells).size]!))=(Array.range (c.toNat * sz)).map (u.cells[· % u.cells.size]!):=by
     grind
    unfold Instr.makeSlice;simp only [Sem.run_bind,zak (zfj ht),Result.andThen_ok,asInt,zdm,Sem.run_pure,hinf,w1,w2];rw [Sem.run_ite,if_neg hneg];simp only [Sem.run_bind,run_askRoom,Result.andThen_ok,zbA hsz];grind [Sem.run_bind,Sem.run_pure,Result.andThen_ok,zkf]
   ·refine .sl (zbk _ _ _) (Nat.le_refl _) λ _=> .inr (.inr ⟨_, _,c.toNat,rfl,rfl,ac,hlc, ?_⟩);grind
  grind
 grind
theorem zs3 (hH:zaW φ F w M0 h) (hsz:0<sz) (hx:Rel φ w (Or M0 (Mut φ h)) x v) (hc:(zaN x sz h).1):
  (Builtin.lenOf v).run P w= .ok (zaN x sz h).2.length w∧(∀r ∈ (zaN x sz h).2,r.length=sz)∧∃X:Array Value,X.size=(zaN x sz h).2.length * sz∧
   za2 φ w (Or M0 (Mut φ h)) (zaN x sz h).2.flatten X.toList∧(∀u ∈ X.toList,zd7 u=true)∧
   ∀w':World,w'.heap=w.heap->∀n≤(zaN x sz h).2.length,(Builtin.firstCells sz n v).run P w'= .ok ⟨X.toList.take (n * sz)⟩ w':=by
 unfold zaN at hc ⊢;split at hc
 ·rename_i o g sz' i len;split at hc
  ·rename_i mt g' sz'' rs ho;obtain ⟨rfl,rfl,rfl,hle⟩:=hc;have hlen:((rs.drop i).take len).length=len:=af;simp only [ho,hlen];have hal:zdI h o g sz:=bp;obtain ⟨A,cap,rfl,hcap,hA⟩:=hH.sl_alive hal hx;refine ⟨rfl, ?_, ?_⟩
   ·intro r hr;obtain ⟨A', _,h1⟩:=hH.obj _ _ _ _ _ ho;grind [zmL]
   ·rcases hA with ⟨rfl,rfl,rfl, _⟩|⟨rfl, _,hA⟩|⟨a,bs,hp,hsp,rfl,hcb⟩
    ·exact ⟨#[],ac,bM,ac,λ w' _ n hn=>by simp_all [Builtin.firstCells]⟩
    ·obtain ⟨a',rfl⟩:=Option.isSome_iff_exists.1 hA;exact ⟨#[],ac,bM,ac,λ w' _ n hn=>dC⟩
    ·obtain ⟨A',hA',h1⟩:=hH.obj _ _ _ _ _ ho;rw [hp] at hA';simp only [Option.some.injEq,Prod.mk.injEq,true_and] at hA';subst hA';rcases h1 with ⟨h1, _⟩|⟨a',bs',e,h0,hd⟩
     ·cases h1
     simp only [Option.some.injEq,Prod.mk.injEq] at e;obtain ⟨rfl,rfl⟩:=e;obtain ⟨C,T,hb,hC,hr,hl,hv,hrel⟩:=hd.cells hsp;have hm:=Nat.mul_le_mul_right sz hle;rw [Nat.add_mul] at hm;have e1:(C.toList.drop (a.off+i * sz)).take (len * sz)=(((C.toList.drop a.off).take (rs.length * sz)).drop (i * sz)).take (len * sz):=by
      grind [List.drop_take,List.drop_drop]
     refine ⟨⟨(C.toList.drop (a.off+i * sz)).take (len * sz)⟩,af, ?_, ?_,λ w' hw' n hn=> ?_⟩
     ·simp only [e1];rw [zgW (λ r hr0=>hr r (List.mem_of_mem_drop hr0)),zgV hr];exact (hrel.drop _).take _
     all_goals grind [Builtin.firstCells,Nat.mul_le_mul_right,zf7]
  grind
 ·rename_i sz' rows;cases hx with
  |nil _ A cap=>exact ⟨rfl,ac, #[],ac,bM,ac,λ w' _ n hn=>b7⟩
  | @lst _ _ a len cap C T fz hs hM hb hr hl hcs hcap hv hrel=>
   subst hl;rcases hc with rfl|rfl
   ·exact ⟨rfl,ac, #[],ac,bg,ac,λ w' _ n hn=>dC⟩
   ·exact ⟨rfl,hr,⟨(C.toList.drop a.off).take (rows.length * sz)⟩,af,hrel,hv,λ w' hw' n hn=>by
     grind [Nat.mul_le_mul_right,Builtin.firstCells,zf7]⟩
 ·rename_i A c;cases hx;exact ⟨rfl,ac, #[],ac,bM,ac,λ w' _ n hn=>b7⟩
 grind

theorem zhR (hH:zaW φ F w M0 h) (hsz:0<sz) (hx:Rel φ w (Or M0 (Mut φ h)) x v) (hc:(zaN x sz h).1):
  (Builtin.lenOf v).run P w= .ok (zaN x sz h).2.length w∧(∀r ∈ (zaN x sz h).2,r.length=sz)∧∃X:Array Value,X.size=(zaN x sz h).2.length * sz∧
   za2 φ w (Or M0 (Mut φ h)) (zaN x sz h).2.flatten X.toList∧(∀u ∈ X.toList,zd7 u=true)∧
   ∀w':World,w'.heap=w.heap->(Builtin.firstCells sz (zaN x sz h).2.length v).run P w'= .ok X w':=by
 obtain ⟨h1,h2,X,h3,h4,h5,h6⟩:=zs3 (P:=P) hH hsz hx hc;refine ⟨h1,h2,X,h3,h4,h5,λ w' hw'=> ?_⟩;simp_all [List.take_of_length_le]
theorem zyh (need:Nat):∀ (k c:Nat),c<need->Builtin.growBy need k c<=2 * need+192
 |0,c,hc=>by simp [Builtin.growBy];omega
 |k+1,c,hc=>by
  simp only [Builtin.growBy];rw [if_neg aa];by_cases h:c+(c+768) / 4<need
  ·exact zyh need k _ h
  ·have:Builtin.growBy need k (c+(c+768) / 4)=c+(c+768) / 4:=by
    cases k with
    |zero=>rfl
    |succ k=>simp only [Builtin.growBy];rw [if_pos aa]
   rw [this];omega
theorem zu2 {need:Nat} (hc:cap<need):Builtin.nextslicecap need cap<=2 * need+192:=by
 grind [Builtin.nextslicecap,zyh]
theorem zt6 (u:Array Value) (k:Nat) (hu:0<u.size):(Builtin.zeroCells u k).toList=(List.replicate k u.toList).flatten:=zl8 u hu k

theorem zdS {m:Nat} (h1:P.underlying st=some (.slice e)) (h2:∃e',tk P xt= .sl e') (hsz:tsz P e=some sz)
  (hn:(Builtin.lenOf v).run P w= .ok m w) (hle:len+m<=cap)  (hX:(Builtin.firstCells sz m v).run P w= .ok X w) :
  (Builtin.append_ #[st,xt] ty #[.slice base len cap,v]).run P w=((match base with|some a=>storeCells (a.add (len * sz)) X.toList|none=>pure ()).run P w).andThen λ _ w'=> .ok (.slice base (len+m) cap) w':=by
 obtain ⟨e',h2⟩:=h2;unfold Builtin.append_;simp only [List.getElem?_toArray,List.getElem?_cons_zero,List.getElem?_cons_succ,Sem.run_bind,zak h1,Result.andThen_ok,zbA hsz,zak (zfj h2),Sem.run_pure,
  Bool.false_eq_true,if_false,hn,hle,if_true,Bool.not_false,hX]
 cases base<;>simp
theorem zjx {m:Nat} (h1:P.underlying st=some (.slice e)) (h2:∃e',tk P xt= .sl e') (hsz:tsz P e=some sz)
  (hby:tby P e=some by_) (hn:(Builtin.lenOf v).run P w= .ok m w) (hlt:¬len+m<=cap) (hb1:by_<=1024) (hb0:0<by_) (hb2:(len+m) * by_<=17592186044416) {Y:Array Value} 
  (hX:∀w':World,w'.heap=w.heap->(Builtin.firstCells sz m v).run P w'= .ok X w') (hY:∀w':World,w'.heap=w.heap->(Builtin.firstCells sz len (.slice base len cap)).run P w'= .ok Y w')
  (hu:∀w':World,(zeroValue e).run P w'= .ok u w') :
  ∃newcap d,(w.drawn<=d∧len+m<=newcap)∧(Builtin.append_ #[st,xt] ty #[.slice base len cap,v]).run P w=
   .ok (.slice (some ⟨w.heap.size,0,none⟩) (len+m) newcap) { w with heap:=w.heap.push (.cells (Y++X++Builtin.zeroCells u.cells (newcap - (len+m))) e),drawn:=d}:=by
 obtain ⟨e',h2⟩:=h2;obtain ⟨inf,hinf,rfl⟩:=zkQ (P:=P) (w:=w) hby;have hmm:len+m<=17592186044416:=Nat.le_trans (Nat.le_mul_of_pos_right _ hb0) hb2;have hcap:cap<len+m:=aa;have hnext:=zu2 hcap;have hbig:¬(Builtin.nextslicecap (len+m) cap * inf.bytes>2 ^ 48):=by
  have a1:=Nat.mul_le_mul_right inf.bytes hnext;grind
 have hmax:¬(((len+m:Nat):Int)>IntKind.i64.max∧(False∨inf.bytes=0)):=by
  grind
 obtain ⟨q,hq⟩:∃q,q=(Question.appendCap (len+m) cap e).cut (w.tape w.drawn (.appendCap (len+m) cap e)):=⟨_,rfl⟩
 have hqle:len+m<=q:=by grind [Question.cut]
 refine ⟨q,w.drawn+1,⟨Nat.le_succ _,hqle⟩, ?_⟩;have hti:∀w':World,(typeInfo e).run P w'= .ok inf w':=by
  intro w';unfold typeInfo at hinf ⊢;simp only [Sem.run_bind,run_program,Result.andThen_ok] at hinf ⊢;cases hi:P.info? e<;>simp_all
 have hX':=hX { w with drawn:=w.drawn+1} rfl;have hY':=hY { w with drawn:=w.drawn+1} rfl;have hu':=hu { w with drawn:=w.drawn+1};unfold Builtin.append_;simp only [List.getElem?_toArray,List.getElem?_cons_zero,List.getElem?_cons_succ,Sem.run_bind,zak h1,Result.andThen_ok,zbA hsz,zak (zfj h2),Sem.run_pure,
  Bool.false_eq_true,if_false,hn,hlt,Bool.not_false,if_true,hti,hmax,hbig,run_choose,Question.forced,<- hq,run_askRoom,hY',hX',hu',zkf,Sem.run_map]
theorem zqp {l:Int} (h1:P.underlying st=some (.slice e)) (h2:P.underlying xt=some (.int k)) (hsz:tsz P e=some sz) (hsz0:0<sz)
  (hby:tby P e=some by_) (hl:0<l) (hl2:l<=17179869184) (hb1:by_<=1024)  (hu:∀w':World,(zeroValue e).run P w'= .ok u w') :
  ∃newcap d,(w.drawn<=d∧l.toNat<=newcap)∧(Builtin.append_ #[st,xt] ty #[.slice none 0 0, .int .i64 l]).run P w=
   .ok (.slice (some ⟨w.heap.size,0,none⟩) l.toNat newcap) { w with heap:=w.heap.push (.cells (Builtin.zeroCells u.cells l.toNat++Builtin.zeroCells u.cells (newcap - l.toNat)) e),drawn:=d}:=by
 obtain ⟨inf,hinf,rfl⟩:=zkQ (P:=P) (w:=w) hby;have hcap:0<0+l.toNat:=aa;have hnext:=zu2 (need:=0+l.toNat) (cap:=0) hcap;have hb2:(inf.bytes:Int) * l<=1024 * l:=Int.mul_le_mul_of_nonneg_right aa aa;have hb3:¬(l * (inf.bytes:Int)>2 ^ 48):=af;have hbig:¬(Builtin.nextslicecap (0+l.toNat) 0 * inf.bytes>2 ^ 48):=by
  have a1:=Nat.mul_le_mul_right inf.bytes hnext;grind
 have hmax:¬(((0+l.toNat:Nat):Int)>IntKind.i64.max∧(True∨inf.bytes=0)):=by
  grind [IntKind.max,IntKind.bits]
 have w1:IntKind.i64.wrap l=l:=zI7 aa aa;obtain ⟨q,hq⟩:∃q,q=(Question.appendCap (0+l.toNat) 0 e).cut (w.tape w.drawn (.appendCap (0+l.toNat) 0 e)):=⟨_,rfl⟩
 have hqle:l.toNat<=q:=by grind [Question.cut]
 refine ⟨q,w.drawn+1,⟨Nat.le_succ _,hqle⟩, ?_⟩;have hti:∀w':World,(typeInfo e).run P w'= .ok inf w':=by
  intro w';unfold typeInfo at hinf ⊢;simp only [Sem.run_bind,run_program,Result.andThen_ok] at hinf ⊢;cases hi:P.info? e<;>simp_all
 have hneg:¬l<0:=aa;have hns:¬l.toNat * sz=0:=by
  have:=Nat.mul_pos (show 0<l.toNat by omega) hsz0;omega
 have hlt:¬0+l.toNat<=0:=aa;unfold Builtin.append_;simp only [List.getElem?_toArray,List.getElem?_cons_zero,List.getElem?_cons_succ,Sem.run_bind,zak h1,Result.andThen_ok,zbA hsz,zak h2,Sem.run_pure,
  if_true,asInt,zdm,w1,hneg,if_false,hti,hb3,hns,Bool.not_true,Bool.false_eq_true,hlt,hmax,hbig,run_choose,Question.forced,<- hq,run_askRoom,Builtin.firstCells,hu,zkf,Sem.run_map]
 simp
theorem zxt (hH:zaW φ F w M0 h) (hn:F n) (hk:tk P xt= .int k) (hs:Rel φ w (Or M0 (Mut φ h)) s vs) (hx:Rel φ w (Or M0 (Mut φ h)) x vx)
  (hc:(zjU P n st s x).cond):zBD P φ F n w M0 h (zjU P n st s x) (Builtin.append_ #[st,xt] ty #[vs,vx]):=by
 have h2:∃k,P.underlying xt=some (.int k):=by
  grind [tk]
 obtain ⟨k',h2⟩:=h2;unfold zjU at hc ⊢;split at hc
 ·rename_i e l ht;cases hs;cases hx;split at hc
  ·rename_i sz z by_ hsz hz hb;try simp only [hsz,hz,hb]
   obtain ⟨h1,h3,h4,h5,h6⟩:=hc;have hu0:=λ w':World=>zcP (P:=P) (w:=w') hz;obtain ⟨u,hu,hzu,hcv⟩:=hu0 w;have huall:∀w':World,(zeroValue e).run P w'= .ok u w':=by
    intro w';obtain ⟨u',hu',hzu', _⟩:=hu0 w';have:(zeroValue e).run P w'= .ok u w':=by
     unfold zeroValue typeInfo at hu ⊢;simp only [Sem.run_bind,run_program,Result.andThen_ok] at hu ⊢;grind [Sem.run_pure,Result.andThen_ok,tz]
    exact this
   subst hzu;have hus:u.cells.size=sz:=af;obtain ⟨q,d,⟨hdw,hq⟩,hrun⟩:=zqp (P:=P) (w:=w) (ty:=ty) (zfj ht) h2 hsz h1 hb h4 h6 h5 huall;have hZ:∀m,(Builtin.zeroCells u.cells m).toList=(List.replicate m u.cells.toList).flatten:=λ m=>by
    grind [Builtin.zeroCells,zl8]
   have hZs:∀m,(Builtin.zeroCells u.cells m).size=m * sz:=λ m=>by simp [Builtin.zeroCells,hus]
   have hH1:=hH.of_heap (w':={ w with drawn:=d}) rfl;have hst:ze3 φ w M0 h φ { w with drawn:=d} h:= .of_heap rfl rfl rfl hdw rfl;have htk:(Builtin.zeroCells u.cells l.toNat++Builtin.zeroCells u.cells (q - l.toNat)).toList.take (l.toNat * sz)=(List.replicate l.toNat u.cells.toList).flatten:=by
    grind
   have hCs:(Builtin.zeroCells u.cells l.toNat++Builtin.zeroCells u.cells (q - l.toNat)).size=q * sz:=by
    rw [Array.size_append,hZs,hZs,<- Nat.add_mul];grind
   obtain ⟨a,b⟩:=hH1.new hn (sz:=sz) (rs:=List.replicate l.toNat (u.cells.toList.map .v)) (C:=Builtin.zeroCells u.cells l.toNat++Builtin.zeroCells u.cells (q - l.toNat)) (T:=e)
    (λ r hr=>by grind) af
    (λ x hm=>by
     grind [List.mem_flatten])
    (by
     grind [zqd,zfG])
   refine ⟨_, _, _,hrun, ?_,a,hst.trans b⟩;refine .sl (zbk _ _ _) (Nat.le_refl _) λ _=> .inr (.inr ⟨_, _,q,rfl,rfl,ac,hq, ?_⟩);grind
  grind
 grind
theorem zz2 (hH:zaW φ F w M0 h) (hn:F n) (hs:Rel φ w (Or M0 (Mut φ h)) s vs) (hx:Rel φ w (Or M0 (Mut φ h)) x vx)
  (hc:(zhE P n tys.toList s x h).cond):zBD P φ F n w M0 h (zhE P n tys.toList s x h) (Builtin.append_ tys ty #[vs,vx]):=by
 unfold zhE at hc ⊢;split at hc
 ·rename_i st xt htys;obtain rfl:tys= #[st,xt]:=af;simp only at htys;split at hc
  ·rename_i e e' ht ht';split at hc
   ·rename_i sz by_ z hsz hby hz;have hu0:=λ w':World=>zcP (P:=P) (w:=w') hz;obtain ⟨u,hu,hzu,hcv⟩:=hu0 w;have huall:∀w':World,(zeroValue e).run P w'= .ok u w':=by
     intro w';obtain ⟨u',hu',hzu', _⟩:=hu0 w';have:(zeroValue e).run P w'= .ok u w':=by
      unfold zeroValue typeInfo at hu ⊢;simp only [Sem.run_bind,run_program,Result.andThen_ok] at hu ⊢;grind [Sem.run_pure,Result.andThen_ok,tz]
     exact this
    split at hc
    · --
     cases hs;obtain ⟨h1,h2,h3,h4,h5,h6⟩:=hc;obtain ⟨r1,r2,X,r3,r4,r5,r6⟩:=zhR (P:=P) hH h2 hx h1;have hus:0<u.cells.size:=af;have hus':u.cells.size=sz:=af;by_cases h0:(zaN x sz h).2.length=0
     ·have hnil:(zaN x sz h).2= []:=List.eq_nil_of_length_eq_zero h0;have hX0:X.toList= []:=by
       simp_all
      obtain ⟨a,b⟩:=hH.newNil hn sz;refine ⟨.slice none 0 0,w, _, ?_, ?_,by simp only [zap,hnil];exact a,by grind [zap]⟩
      ·have:=zdS (P:=P) (w:=w) (len:=0) (cap:=0) (base:=none) (ty:=ty) (zfj ht) ⟨e',ht'⟩ hsz r1 aa (r6 w rfl);simp_all
      ·simp only [hnil];exact .sl (zbk _ _ _) (Nat.le_refl _) λ _=> .inl ⟨rfl,rfl,rfl,rfl⟩
     ·obtain ⟨nc,d,⟨hdw,hnc⟩,hrun⟩:=zjx (P:=P) (w:=w) (len:=0) (cap:=0) (base:=none) (ty:=ty) (Y:= #[]) (zfj ht) ⟨e',ht'⟩ hsz hby r1 aa h5 h4 af r6
       (λ w' _=>by simp [Builtin.firstCells]) huall
      simp only [Nat.zero_add] at hnc hrun;have hH1:=hH.of_heap (w':={ w with drawn:=d}) rfl;have hst:ze3 φ w M0 h φ { w with drawn:=d} h:= .of_heap rfl rfl rfl hdw rfl;have hCl:(#[]++X++Builtin.zeroCells u.cells (nc - (zaN x sz h).2.length)).toList.take ((zaN x sz h).2.length * sz)=X.toList:=by
       grind
      have hCs:(#[]++X++Builtin.zeroCells u.cells (nc - (zaN x sz h).2.length)).size=nc * sz:=by
       have:(Builtin.zeroCells u.cells (nc - (zaN x sz h).2.length)).size=(nc - (zaN x sz h).2.length) * sz:=by
        simp [Builtin.zeroCells,hus']
       simp only [Array.size_append,this,r3];rw [show (#[]:Array Value).size=0 from rfl,Nat.zero_add,<- Nat.add_mul];grind
      obtain ⟨a,b⟩:=hH1.new hn (sz:=sz) (rs:=(zaN x sz h).2) (C:= #[]++X++Builtin.zeroCells u.cells (nc - (zaN x sz h).2.length)) (T:=e) r2
       af af (by rw [hCl];exact hst.relL r4)
      refine ⟨_, _, _,hrun, ?_,a,hst.trans b⟩;refine .sl (zbk _ _ _) (Nat.le_refl _) λ _=> .inr (.inr ⟨_, _,nc,rfl,rfl,ac,hnc, ?_⟩);grind
    · --
     rename_i o g sz' i len;split at hc
     ·rename_i mt g' sz'' rs ho;obtain ⟨h1,h2,h3,rfl,rfl,rfl,rfl,h8,h9,h5,h6⟩:=hc;simp only [ho];obtain ⟨r1,r2,X,r3,r4,r5,r6⟩:=zhR (P:=P) hH h2 hx h1;have hus:0<u.cells.size:=af;have hus':u.cells.size=sz:=af;have hal:zdI h o g sz:=bp;obtain ⟨A,cap,rfl,hcap,hA⟩:=hH.sl_alive hal hs;obtain ⟨A0,hA0,hobj⟩:=hH.obj _ _ _ _ _ ho;have hrr:∀r ∈ rs.drop i++(zaN x sz h).2,r.length=sz:=by
       intro r hm;rcases List.mem_append.1 hm with hm|hm
       ·rcases hobj with ⟨_,rfl⟩|⟨a,bs, _, _,hr⟩
        ·simp at hm
        ·exact hr.rows r (List.mem_of_mem_drop hm)
       grind
      have hol:¬F o:=λ hle=>bA;have hold:∃Y:Array Value,Y.size=len * sz∧za2 φ w (Or M0 (Mut φ h)) (rs.drop i).flatten Y.toList∧(∀c ∈ Y.toList,zd7 c=true)∧
        ∀w':World,w'.heap=w.heap->(Builtin.firstCells sz len (.slice A len cap)).run P w'= .ok Y w':=by
       have hself:=zhR (P:=P) (x:= .sl o g sz i len) hH h2 hs (by grind [zaN]);grind [zaN,List.take_of_length_le]
      obtain ⟨Y,y1,y2,y3,y4⟩:=hold;have hdl:(rs.drop i).length=len:=af;by_cases hle:len+(zaN x sz h).2.length<=cap
      ·rcases hA with ⟨rfl,rfl,rfl,rfl⟩|⟨rfl,rfl,hA⟩|⟨a,bs,hp,hsp,rfl,hcb⟩
       · --
        have h0:(zaN x sz h).2.length=0:=aa;have hnil:(zaN x sz h).2= []:=List.eq_nil_of_length_eq_zero h0;have hdn:rs.drop 0= []:=List.eq_nil_of_length_eq_zero hdl;have hle0:φ.le (upd φ o (some (g+1,none))):=by
         grind [zaD.le,upd]
        obtain ⟨q1,q2,q3⟩:=hH.set (w':=w) (F':=F) (o:=o) (mt:=true) (g:=g+1) (sz:=sz) (rs:= []) (A:=none) (λ _ h=>h) hol (Nat.le_refl _) hle0
         (λ k _ hk=>rfl) (λ o' mt g sz rs a b _ ho hp=>⟨rfl,λ a₁ b₁ e=>by cases e⟩) (λ a b e=>by cases e) (.inl (.inl ⟨rfl,rfl⟩))
        refine ⟨.slice none 0 0,w, _, ?_, ?_,by grind [zap,Fal],⟨hle0,by grind [zap],Fr.refl _ _, ?_⟩⟩
        ·have:=zdS (P:=P) (w:=w) (len:=0) (cap:=0) (base:=none) (ty:=ty) (zfj ht) ⟨e',ht'⟩ hsz r1 hle (r6 w rfl);simp_all
        ·simp only [h0];exact .sl (zbk _ _ _) (Nat.le_refl _) λ _=> .inl ⟨rfl,rfl,rfl,rfl⟩
        grind [zap]
       ·have h0:(zaN x sz h).2.length=0:=by omega
        have hnil:(zaN x sz h).2= []:=List.eq_nil_of_length_eq_zero h0;have hdn:rs.drop i= []:=List.eq_nil_of_length_eq_zero hdl;obtain ⟨a',rfl⟩:=Option.isSome_iff_exists.1 hA;have hX0:X.toList= []:=by
         simp_all
        have hle0:φ.le (upd φ o (some (g+1,none))):=by
         grind [zaD.le,upd]
        obtain ⟨q1,q2,q3⟩:=hH.set (w':=w) (F':=F) (o:=o) (mt:=true) (g:=g+1) (sz:=sz) (rs:= []) (A:=none) (λ _ h=>h) hol (Nat.le_refl _) hle0
         (λ k _ hk=>rfl) (λ o' mt g sz rs a b _ ho hp=>⟨rfl,λ a₁ b₁ e=>by cases e⟩) (λ a b e=>by cases e) (.inl (.inl ⟨rfl,rfl⟩))
        refine ⟨.slice (some a') 0 0,w, _, ?_, ?_,by grind [zap,Fal],⟨hle0,by grind [zap],Fr.refl _ _, ?_⟩⟩
        ·have:=zdS (P:=P) (w:=w) (len:=0) (cap:=0) (base:=some a') (ty:=ty) (zfj ht) ⟨e',ht'⟩ hsz r1 hle (r6 w rfl);simp_all [storeCells]
        ·simp only [h0];exact .sl (zbk _ _ _) (Nat.le_refl _) λ _=> .inr (.inl ⟨rfl,a',rfl⟩)
        grind [zap]
       · --
        rw [hp] at hA0;simp only [Option.some.injEq,Prod.mk.injEq,true_and] at hA0;subst hA0;rcases hobj with ⟨hobj, _⟩|⟨a₁,bs₁,e1,h0,hd⟩
        ·cases hobj
        simp only [Option.some.injEq,Prod.mk.injEq] at e1;obtain ⟨rfl,rfl⟩:=e1;obtain ⟨C,T,hb,hC,hr,hl,hv,hrel⟩:=hd.cells hsp;have hXl:X.toList.length=(zaN x sz h).2.length * sz:=aa;have hmul:=Nat.mul_le_mul_right sz hle;rw [Nat.add_mul] at hmul;obtain ⟨w',hrun,hw'⟩:=ze1 (P:=P) (a:=⟨a.block,a.off+i * sz+len * sz,none⟩) (T:=T) rfl X.toList 0 w C hb af r5;have hM:∀k,¬Or M0 (Mut φ h) k->k≠a.block:=λ k hk e=>hk (.inr ⟨o,g,sz,rs,g,a,bs,ho,hp,e.symm⟩);have hle0:φ.le (upd φ o (some (g+1,some ((⟨a.block,a.off+i * sz,none⟩:Addr),bs)))):=by
         grind [zaD.le,upd]
        have hYe:Y.toList=(C.toList.drop (a.off+i * sz)).take (len * sz):=by
         grind [Builtin.firstCells,zf7]
        have hlen':(rs.drop i++(zaN x sz h).2).length=len+(zaN x sz h).2.length:=af;have hwin:(((⟨zle C.toList (a.off+i * sz+len * sz) X.toList⟩:Array Value).toList.drop (a.off+i * sz)).take ((len+(zaN x sz h).2.length) * sz))=Y.toList++X.toList:=by
         rw [zdP _ _ _ _ _ af];have e2:(C.toList.drop (a.off+i * sz)).take ((len+(zaN x sz h).2.length) * sz)=Y.toList++((C.toList.drop (a.off+i * sz)).drop (len * sz)).take ((zaN x sz h).2.length * sz):=by
          grind [Nat.add_mul]
         rw [e2];have happ:∀ (us p q:List Value) (k:Nat),zle (p++q) (p.length+k) us=p++zle q k us:=by
          intro us;induction us<;>simp_all [zle,Nat.add_assoc]
         have hall:∀ (us l p:List Value),l.length=us.length->zle (p++l) p.length us=p++us:=by
          intro us;induction us with
          |nil=>grind [zle]
          |cons c cs ih=>
           intro l p hh;cases l with
           |nil=>simp at hh
           |cons y l=>
            rw [zle,List.set_append_right _ _ aa];simp only [Nat.sub_self,List.set_cons_zero];have:=ih l (p++ [c]) af;simp_all
         have hYl:Y.toList.length=len * sz:=aa;rw [<- hYl];apply hall;rw [List.length_take,List.length_drop,List.length_drop,hXl,Array.length_toList,hYl];omega
        obtain ⟨q1,q2,q3⟩:=hH.set (w':=w') (F':=F) (o:=o) (mt:=true) (g:=g+1) (sz:=sz) (rs:=rs.drop i++(zaN x sz h).2) (A:=some (⟨a.block,a.off+i * sz,none⟩,bs))
         (λ _ h=>h) hol aN hle0 (λ k hk _=>hw'.other k (hM k hk))
         (λ o' mt' g' sz' rs' a₁ b₁ hne ho' hp'=>by
          have:=hH.inj _ _ _ _ _ _ _ _ _ _ _ _ _ _ ho ho' (Ne.symm hne) (.inl rfl) hp hp';refine ⟨hw'.other _ (Ne.symm this),λ a₂ b₂ e=> ?_⟩;grind)
         (λ a₁ b₁ e=>by
          grind)
         (.inr ⟨_,bs, _,T,rfl,rfl,h0,hw'.at_,cP,hrr,
          by grind,
          λ c hm=>by
           grind,
          by
           rw [hlen'];simp only [Nat.add_zero];rw [hwin,List.flatten_append];exact y2.append r4⟩)
        refine ⟨.slice (some ⟨a.block,a.off+i * sz,none⟩) (len+(zaN x sz h).2.length) cap,w', _, ?_, ?_,q1,⟨hle0,q2,⟨hw'.os,hw'.tape,hw'.output,hw'.drawn,aN,
         λ k _ hu=>hw'.other k (λ e=>hu ⟨o,g,sz,rs,g,a,bs,ho,hp,e.symm⟩)⟩,λ k hk=> ?_⟩⟩
        ·grind [zdS,zeo,Result.andThen_ok,tk]
        ·refine .sl (zbk _ _ _) (Nat.le_refl _) λ _=> .inr (.inr ⟨_, _,cap,rfl,rfl,ac,hle, ?_⟩);grind
        ·rcases q3 k hk with h|⟨a₁,b₁,e,rfl⟩;all_goals grind [Or]
      · --
       obtain ⟨nc,d,⟨hdw,hnc⟩,hrun⟩:=zjx (P:=P) (w:=w) (len:=len) (cap:=cap) (base:=A) (ty:=ty) (Y:=Y) (zfj ht) ⟨e',ht'⟩ hsz hby r1 hle h5 h9 h6 r6 y4 huall;have hH1:=hH.of_heap (w':={ w with drawn:=d}) rfl;have hst:ze3 φ w M0 h φ { w with drawn:=d} h:= .of_heap rfl rfl rfl hdw rfl;obtain ⟨Z,hZ⟩:∃Z:Array Value,Z=Y++X++Builtin.zeroCells u.cells (nc - (len+(zaN x sz h).2.length)):=⟨_,rfl⟩
       rw [<- hZ] at hrun;have hlen':(rs.drop i++(zaN x sz h).2).length=len+(zaN x sz h).2.length:=af;have hCl:Z.toList.take ((len+(zaN x sz h).2.length) * sz)=Y.toList++X.toList:=by
        grind [List.take_left']
       have hCs:Z.size=nc * sz:=by
        have:(Builtin.zeroCells u.cells (nc - (len+(zaN x sz h).2.length))).size=(nc - (len+(zaN x sz h).2.length)) * sz:=by
         simp [Builtin.zeroCells,hus']
        rw [hZ];simp only [Array.size_append,this,r3,y1];rw [<- Nat.add_mul,<- Nat.add_mul];grind
       have hle0:φ.le (upd φ o (some (g+1,some ((⟨w.heap.size,0,none⟩:Addr),Z.size)))):=by
        grind [zeU,zaD.le,upd]
       obtain ⟨q1,q2,q3⟩:=hH1.set (w':={ w with heap:=w.heap.push (.cells Z e),drawn:=d}) (F':=F) (o:=o) (mt:=true) (g:=g+1) (sz:=sz) (rs:=rs.drop i++(zaN x sz h).2)
        (A:=some (⟨w.heap.size,0,none⟩,Z.size)) (λ _ h=>h) hol ac hle0 (λ k _ hk=>zeZ w _ k hk)
        (λ o' mt g sz rs a b _ ho hp=>by
         have:=(hH.place_old ho hp).1;grind)
        (λ a b e=>by
         grind)
        (.inr ⟨⟨w.heap.size,0,none⟩,Z.size,Z,e,rfl,rfl,λ hm=>by have:=hH.m0 _ hm;grind,zhG w _,rfl,hrr,
         by grind,
         λ c hm=>by
          grind,
         by
          rw [hlen'];simp only [List.drop_zero,hCl,List.flatten_append];exact hst.relL (y2.append r4)⟩)
       refine ⟨_, _, _,hrun, ?_,q1,⟨hle0,q2,⟨rfl,rfl,rfl,hdw,ac,λ k hk _=>zeZ w _ k hk⟩,λ k hk=> ?_⟩⟩
       ·refine .sl (zbk _ _ _) (Nat.le_refl _) λ _=> .inr (.inr ⟨_, _,nc,rfl,rfl,ac,hnc, ?_⟩);grind
       ·rcases q3 k hk with h|⟨a₁,b₁,e,rfl⟩;all_goals grind
     grind
    grind
   grind
  grind
 grind
theorem zaW.freeze {φ:zaD}{F:Nat->Prop}{w:World}{M0:Nat->Prop}{h h':zay} (hH:zaW φ F w M0 h) (hf:Frz h h'):zaW φ F w M0 h'∧ze3 φ w M0 h φ w h':=by
 have hmut:∀k,Mut φ h' k->Mut φ h k:=by
  grind [Mut,Frz]
 have hold:∀o mt g sz rs,h' o=some (.rows mt g sz rs)->∃mt',h o=some (.rows mt' g sz rs)∧(mt=true->mt'=true):=by
  grind [Frz]
 have st:ze3 φ w M0 h φ w h':=⟨φ.le_refl,λ k hk=> .inl (hk.imp id (hmut k)),Fr.refl _ _,λ k hk=> .inl (hmut k hk)⟩
 refine ⟨⟨hH.m0,hH.fresh,λ o mt g sz rs ho=> ?_, ?_,hH.glob.keep (λ _ _ _=>rfl) (λ k hk=> .inl (hk.imp id (hmut k)))⟩,st⟩
 ·obtain ⟨mt',ho', _⟩:=hold _ _ _ _ _ ho;obtain ⟨A,hA,h1⟩:=hH.obj _ _ _ _ _ ho';refine ⟨A,hA,h1.imp id ?_⟩;rintro ⟨a,bs,e1,e3,e4⟩;exact ⟨a,bs,e1,e3,e4.same rfl (λ e9=>st.relL e9)⟩
 ·intro o o' mt g sz rs mt' g' sz' rs' a a' b b' h1 h2 hne hm p1 p2;obtain ⟨m1,q1,i1⟩:=hold _ _ _ _ _ h1;obtain ⟨m2,q2,i2⟩:=hold _ _ _ _ _ h2;exact hH.inj _ _ _ _ _ _ _ _ _ _ _ _ _ _ q1 q2 hne (hm.imp i1 i2) p1 p2
theorem zsY:∀ (us l:List Value) (k off n:Nat),off+n<=k->((zle l k us).drop off).take n=(l.drop off).take n
 | [],l,k,off,n, _=>rfl
 |u::us,l,k,off,n,h=>by
  rw [zle,zsY us _ (k+1) off n aa];apply List.ext_getElem?;intro j;simp only [List.getElem?_take,List.getElem?_drop,List.getElem?_set];by_cases hj:j<n
  ·have:¬k=off+j:=by omega
   simp [hj,this]
  ·simp [hj]
theorem zu1 {k o g:Nat}{A:Option (Addr×Nat)} (hH:zaW φ F w M0 h)
  (hk:∀o' g' sz' rs' a b,o'≠o->h o'=some (.rows true g' sz' rs')->φ o'=some (g',some (a,b))->a.block≠k):
  ¬Mut (upd φ o (some (g,A))) (upd h o (some (.rows false g sz rs))) k:=by
 rintro ⟨o',g',sz',rs',g'',a,bs,h1,h2,h3⟩;by_cases e:o'=o
 ·grind [zbk]
 ·rw [zeU _ _ e] at h1 h2;obtain ⟨A2,hA2, _⟩:=hH.obj _ _ _ _ _ h1;grind
theorem zxs (hH:zaW φ F w M0 h) (hn:F n) (hs:Rel φ w (Or M0 (Mut φ h)) s vs) (hx:Rel φ w (Or M0 (Mut φ h)) x vx)
  (hc:(zfQ P tys.toList s x h).cond):zBD P φ F n w M0 h (zfQ P tys.toList s x h) (Builtin.append_ tys ty #[vs,vx]):=by
 unfold zfQ at hc ⊢;split at hc
 ·rename_i st xt htys;obtain rfl:tys= #[st,xt]:=af;simp only at htys;split at hc
  ·rename_i e e' ht ht';split at hc
   ·rename_i sz by_ z hsz hby hz;have hu0:=λ w':World=>zcP (P:=P) (w:=w') hz;obtain ⟨u,hu,hzu,hcv⟩:=hu0 w;have huall:∀w':World,(zeroValue e).run P w'= .ok u w':=by
     intro w';obtain ⟨u',hu',hzu', _⟩:=hu0 w';have:(zeroValue e).run P w'= .ok u w':=by
      unfold zeroValue typeInfo at hu ⊢;simp only [Sem.run_bind,run_program,Result.andThen_ok] at hu ⊢;grind [Sem.run_pure,Result.andThen_ok,tz]
     exact this
    split at hc
    ·rename_i o g sz' i len;split at hc
     ·rename_i mt g' sz'' rs ho;obtain ⟨h1,h2,h3,rfl,rfl,rfl,rfl,h8,h9,h5,h6⟩:=hc;simp only [ho];obtain ⟨r1,r2,X,r3,r4,r5,r6⟩:=zhR (P:=P) hH h2 hx h1;have hus:0<u.cells.size:=af;have hus':u.cells.size=sz:=af;have hal:zdI h o g sz:=bp;have hself:=zhR (P:=P) (x:= .sl o g sz i len) hH h2 hs (by grind [zaN]);obtain ⟨A,cap,rfl,hcap,hA⟩:=hH.sl_alive hal hs;obtain ⟨A0,hA0,hobj⟩:=hH.obj _ _ _ _ _ ho;have hrr:∀r ∈ rs.drop i++(zaN x sz h).2,r.length=sz:=by
       intro r hm;rcases List.mem_append.1 hm with hm|hm
       ·rcases hobj with ⟨_,rfl⟩|⟨a,bs, _, _,hr⟩
        ·simp at hm
        ·exact hr.rows r (List.mem_of_mem_drop hm)
       grind
      have hol:¬F o:=λ hle=>bA;have hold:∃Y:Array Value,Y.size=len * sz∧za2 φ w (Or M0 (Mut φ h)) (rs.drop i).flatten Y.toList∧(∀c ∈ Y.toList,zd7 c=true)∧
        ∀w':World,w'.heap=w.heap->(Builtin.firstCells sz len (.slice A len cap)).run P w'= .ok Y w':=by
       grind [zaN,List.take_of_length_le]
      obtain ⟨Y,y1,y2,y3,y4⟩:=hold;have hdl:(rs.drop i).length=len:=af;have hlen':(rs.drop i++(zaN x sz h).2).length=len+(zaN x sz h).2.length:=af;have hfz0:Frz h (zap [(o,some (.rows false g sz rs))] h):=λ o'=>by
       simp only [zap];grind [upd]
      have hfz1:Frz (upd h o (some (.rows true g sz rs))) (zap [(o,some (.rows false g sz rs))] h):=λ o'=>by
       simp only [zap];grind [upd]
      have hle0:φ.le (upd φ o (some (g,A0))):=by
       grind [zaD.le,upd]
      by_cases hle:len+(zaN x sz h).2.length<=cap
      ·rcases hA with ⟨rfl,rfl,rfl,rfl⟩|⟨rfl,rfl,hA⟩|⟨a,bs,hp,hsp,rfl,hcb⟩
       · --
        have h0:(zaN x sz h).2.length=0:=aa;have hnil:(zaN x sz h).2= []:=List.eq_nil_of_length_eq_zero h0;have hdn:rs.drop 0= []:=List.eq_nil_of_length_eq_zero hdl;obtain ⟨q1,q2⟩:=hH.freeze hfz0;refine ⟨.slice none 0 0,w,φ, ?_, ?_,q1,q2⟩
        ·have:=zdS (P:=P) (w:=w) (len:=0) (cap:=0) (base:=none) (ty:=ty) (zfj ht) ⟨e',ht'⟩ hsz r1 hle (r6 w rfl);simp_all
        ·simp only [hnil,hdn,List.append_nil];exact .nil _ _ _
       ·have h0:(zaN x sz h).2.length=0:=by omega
        have hnil:(zaN x sz h).2= []:=List.eq_nil_of_length_eq_zero h0;have hdn:rs.drop i= []:=List.eq_nil_of_length_eq_zero hdl;obtain ⟨a',rfl⟩:=Option.isSome_iff_exists.1 hA;have hX0:X.toList= []:=by
         apply List.eq_nil_of_length_eq_zero;grind
        obtain ⟨q1,q2⟩:=hH.freeze hfz0;refine ⟨.slice (some a') 0 0,w,φ, ?_, ?_,q1,q2⟩
        ·have:=zdS (P:=P) (w:=w) (len:=0) (cap:=0) (base:=some a') (ty:=ty) (zfj ht) ⟨e',ht'⟩ hsz r1 hle (r6 w rfl);simp_all [storeCells]
        ·simp only [hnil,hdn,List.append_nil];exact .nil _ _ _
       · --
        rw [hp] at hA0;simp only [Option.some.injEq,Prod.mk.injEq,true_and] at hA0;subst hA0;rcases hobj with ⟨hobj, _⟩|⟨a₁,bs₁,e1,h0,hd⟩
        ·cases hobj
        simp only [Option.some.injEq,Prod.mk.injEq] at e1;obtain ⟨rfl,rfl⟩:=e1;obtain ⟨C,T,hb,hC,hr,hl,hv,hrel⟩:=hd.cells hsp;have hXl:X.toList.length=(zaN x sz h).2.length * sz:=aa;have hmul:=Nat.mul_le_mul_right sz hle;rw [Nat.add_mul] at hmul;have hrsl:rs.length * sz=i * sz+len * sz:=af;obtain ⟨w',hrun,hw'⟩:=ze1 (P:=P) (a:=⟨a.block,a.off+i * sz+len * sz,none⟩) (T:=T) rfl X.toList 0 w C hb af r5;have hM:∀k,¬Or M0 (Mut φ h) k->k≠a.block:=λ k hk e=>hk (.inr ⟨o,g,sz,rs,g,a,bs,ho,hp,e.symm⟩);have hYe:Y.toList=(C.toList.drop (a.off+i * sz)).take (len * sz):=by
         grind [Builtin.firstCells,zf7]
        have hwin:(((⟨zle C.toList (a.off+i * sz+len * sz) X.toList⟩:Array Value).toList.drop (a.off+i * sz)).take ((len+(zaN x sz h).2.length) * sz))=Y.toList++X.toList:=by
         rw [zdP _ _ _ _ _ af];have e2:(C.toList.drop (a.off+i * sz)).take ((len+(zaN x sz h).2.length) * sz)=Y.toList++((C.toList.drop (a.off+i * sz)).drop (len * sz)).take ((zaN x sz h).2.length * sz):=by
          grind [Nat.add_mul]
         rw [e2];have happ:∀ (us p q:List Value) (k:Nat),zle (p++q) (p.length+k) us=p++zle q k us:=by
          intro us;induction us<;>simp_all [zle,Nat.add_assoc]
         have hall:∀ (us l p:List Value),l.length=us.length->zle (p++l) p.length us=p++us:=by
          intro us;induction us with
          |nil=>grind [zle]
          |cons c cs ih=>
           intro l p hh;cases l with
           |nil=>simp at hh
           |cons y l=>
            rw [zle,List.set_append_right _ _ aa];simp only [Nat.sub_self,List.set_cons_zero];have:=ih l (p++ [c]) af;simp_all
         have hYl:Y.toList.length=len * sz:=aa;rw [<- hYl];apply hall;rw [List.length_take,List.length_drop,List.length_drop,hXl,Array.length_toList,hYl];omega
        have hbef:((⟨zle C.toList (a.off+i * sz+len * sz) X.toList⟩:Array Value).toList.drop a.off).take (rs.length * sz)=(C.toList.drop a.off).take (rs.length * sz):=
         zsY _ _ _ _ _ aa
        obtain ⟨q1,q2,q3⟩:=hH.set (w':=w') (F':=F) (o:=o) (mt:=true) (g:=g) (sz:=sz) (rs:=rs) (A:=some (a,bs))
         (λ _ h=>h) hol aN hle0 (λ k hk _=>hw'.other k (hM k hk))
         (λ o' mt' g' sz' rs' a₁ b₁ hne ho' hp'=>by
          have:=hH.inj _ _ _ _ _ _ _ _ _ _ _ _ _ _ ho ho' (Ne.symm hne) (.inl rfl) hp hp';refine ⟨hw'.other _ (Ne.symm this),λ a₂ b₂ e=> ?_⟩;grind)
         (λ a₁ b₁ e=>by
          grind)
         (.inr ⟨a,bs, _,T,rfl,hsp,h0,hw'.at_,cP,hr,hl,
          λ c hm=>by
           grind,
          by
           grind⟩)
        have st1:ze3 φ w M0 h (upd φ o (some (g,some (a,bs)))) w' (upd h o (some (.rows true g sz rs))):=
         ⟨hle0,q2,⟨hw'.os,hw'.tape,hw'.output,hw'.drawn,aN,λ k _ hu=>hw'.other k (λ e=>hu ⟨o,g,sz,rs,g,a,bs,ho,hp,e.symm⟩)⟩,λ k hk=>by
          grind [Or]⟩
        obtain ⟨q4,q5⟩:=q1.freeze hfz1;have stt:=st1.trans q5;refine ⟨.slice (some ⟨a.block,a.off+i * sz,none⟩) (len+(zaN x sz h).2.length) cap,w', _, ?_, ?_,q4,stt⟩
        ·grind [zdS,zeo,Result.andThen_ok,tk]
        ·refine .lst (C:=⟨zle C.toList (a.off+i * sz+len * sz) X.toList⟩) (T:=T) (fz:=(0,0)) rfl ?_ (by simpa using hw'.at_) hrr hlen'.symm ?_ hle ?_ ?_
         ·rintro (hk|hk)
          ·grind
          ·exact zu1 hH (λ o' g' sz' rs' a' b' hne ho' hp' e=>hH.inj _ _ _ _ _ _ _ _ _ _ _ _ _ _ ho ho' (Ne.symm hne) (.inl rfl) hp hp' e.symm) hk
         ·grind [zeE]
         ·grind
         ·rw [hlen'];simp only;rw [hwin,List.flatten_append];exact stt.relL (y2.append r4)
      · --
       obtain ⟨nc,d,⟨hdw,hnc⟩,hrun⟩:=zjx (P:=P) (w:=w) (len:=len) (cap:=cap) (base:=A) (ty:=ty) (Y:=Y) (zfj ht) ⟨e',ht'⟩ hsz hby r1 hle h5 h9 h6 r6 y4 huall;have hH1:=hH.of_heap (w':={ w with drawn:=d}) rfl;have hst:ze3 φ w M0 h φ { w with drawn:=d} h:= .of_heap rfl rfl rfl hdw rfl;obtain ⟨Z,hZ⟩:∃Z:Array Value,Z=Y++X++Builtin.zeroCells u.cells (nc - (len+(zaN x sz h).2.length)):=⟨_,rfl⟩
       rw [<- hZ] at hrun;have hCl:Z.toList.take ((len+(zaN x sz h).2.length) * sz)=Y.toList++X.toList:=by
        grind [List.take_left']
       have hCs:Z.size=nc * sz:=by
        have:(Builtin.zeroCells u.cells (nc - (len+(zaN x sz h).2.length))).size=(nc - (len+(zaN x sz h).2.length)) * sz:=by
         simp [Builtin.zeroCells,hus']
        rw [hZ];simp only [Array.size_append,this,r3,y1];rw [<- Nat.add_mul,<- Nat.add_mul];grind
       obtain ⟨q1,q2,q3⟩:=hH1.set (w':={ w with heap:=w.heap.push (.cells Z e),drawn:=d}) (F':=F) (o:=o) (mt:=true) (g:=g) (sz:=sz) (rs:=rs)
        (A:=A0) (λ _ h=>h) hol ac hle0 (λ k _ hk=>zeZ w _ k hk)
        (λ o' mt g2 sz2 rs2 a b hne ho2 hp2=>by
         have:=(hH.place_old ho2 hp2).1;refine ⟨zeZ w _ _ this,λ a₁ b₁ e=> ?_⟩;subst e;exact hH.inj _ _ _ _ _ _ _ _ _ _ _ _ _ _ ho ho2 (Ne.symm hne) (.inl rfl) hA0 hp2)
        (λ a b e=>by
         grind [Or,Mut])
        (by
         rcases hobj with ⟨e1,e2⟩|⟨a,bs,e1,e2,hd⟩
         ·grind
         ·have hlt:=hd.blk;by_cases hsp:a.spot=none
          ·obtain ⟨C,T,hb,hC,hr,hl,hv,hrel⟩:=hd.cells hsp;exact .inr ⟨a,bs,C,T,e1,hsp,e2,(zeZ w _ _ hlt).trans hb,hC,hr,hl,hv,hst.relL hrel⟩
          ·obtain ⟨es,clk,hb,hz2,hr,hrel⟩:=hd.map hsp;exact .inl (.inr ⟨a,bs,es,clk,e1,hsp,e2,(zeZ w _ _ hlt).trans hb,hz2,hr,hst.relL hrel⟩))
       have st1:ze3 φ w M0 h (upd φ o (some (g,A0))) { w with heap:=w.heap.push (.cells Z e),drawn:=d} (upd h o (some (.rows true g sz rs))):=
        ⟨hle0,q2,⟨rfl,rfl,rfl,hdw,ac,λ k hk _=>zeZ w _ k hk⟩,λ k hk=>by
         grind [Mut]⟩
       obtain ⟨q4,q5⟩:=q1.freeze hfz1;have stt:=st1.trans q5;refine ⟨_, _, _,hrun, ?_,q4,stt⟩;refine .lst (C:=Z) (T:=e) (fz:=(0,0)) rfl ?_ (zhG w _) hrr hlen'.symm ?_ hnc ?_ ?_
       ·rintro (hk|hk)
        ·have:=hH.m0 _ hk;grind
        ·exact zu1 hH (λ o' g' sz' rs' a' b' hne ho' hp' e=>by have:=(hH.place_old ho' hp').1;grind) hk
       ·grind
       ·grind
       ·rw [hlen'];simp only [List.drop_zero,hCl,List.flatten_append];exact stt.relL (y2.append r4)
     grind
    grind
   grind
  grind
 grind
theorem zJM (hH:zaW φ F w M0 h) (hn:F n) (hs:Rel φ w (Or M0 (Mut φ h)) s vs) (hx:Rel φ w (Or M0 (Mut φ h)) x vx)
  (hc:(zv2 P n tys.toList s x h).cond):zBD P φ F n w M0 h (zv2 P n tys.toList s x h) (Builtin.append_ tys ty #[vs,vx]):=by
 unfold zv2 at hc;split at hc
 ·rename_i st xt htys;obtain rfl:tys= #[st,xt]:=af;have e0:zv2 P n (#[st,xt]:Array TypeId).toList s x h=bif zHv (tk P xt) then zjU P n st s x else bif zKx n s then zfQ P [st,xt] s x h else zhE P n [st,xt] s x h:=rfl
  rw [e0];cases hi:tk P xt with
  |int k=>
   grind [zHv,zxt]
  | _=>
   simp only [hi,zHv,cond_false] at hc ⊢;cases hq:zKx n s with
   |true=>
    simp only [hq,cond_true] at hc ⊢;exact zxs hH hn hs hx hc
   |false=>
    simp only [hq,cond_false] at hc ⊢;exact zz2 hH hn hs hx hc
 grind
theorem zGK (hH:zaW φ F w M0 h){ats:Array TypeId} (ha:ats[0]? =some t) (hx:Rel φ w (Or M0 (Mut φ h)) x v) (hc:(zG5 P t x).cond):
  zdq P φ w (Or M0 (Mut φ h)) (zG5 P t x) (Builtin.cap_ ats ty #[v]):=by
 unfold zG5 at hc ⊢;split at hc
 ·rename_i e ht;cases hx;exact ⟨_,by simp_all [Builtin.cap_,zak,zfj,goInt], .v _,rfl,rfl⟩
 grind

theorem zve:∀ (cs l:List AV) (k:Nat),k+cs.length<=l.length->setMany l k cs=l.take k++cs++l.drop (k+cs.length)
 | [],l,k, _=>by simp [setMany]
 |c::cs,l,k,h=>by
  simp only [List.length_cons] at h;rw [setMany,zve cs (l.set k c) (k+1) aQ];rw [List.drop_set_of_lt aa,List.take_succ_eq_append_getElem aQ,List.take_set_of_le (Nat.le_refl _)];simp [Nat.add_assoc,Nat.add_comm 1]
theorem zmY {xs:List (List AV)} (hr:∀r ∈ rs,r.length=sz) (hx:∀r ∈ xs,r.length=sz) (i:Nat) (h:i+xs.length<=rs.length):
  (rs.take i++xs++rs.drop (i+xs.length)).flatten=setMany rs.flatten (i * sz) xs.flatten:=by
 have hm:=Nat.mul_le_mul_right sz h;rw [Nat.add_mul] at hm;rw [zve _ _ _ (by grind [zmX]),List.flatten_append,List.flatten_append,zgW hr,zgV hr,zmX hx,Nat.add_mul]
theorem zGR (hH:zaW φ F w M0 h) (hs:Rel φ w (Or M0 (Mut φ h)) s vs) (hx:Rel φ w (Or M0 (Mut φ h)) x vx)
  (hc:(zpY P tys.toList s x h).cond):zBD P φ F n w M0 h (zpY P tys.toList s x h) (Builtin.copy_ tys ty #[vs,vx]):=by
 unfold zpY at hc ⊢;split at hc
 ·rename_i st rest htys;have h0t:tys[0]? =some st:=by rw [<- Array.getElem?_toList,htys];rfl
  split at hc
  ·rename_i e ht;split at hc
   ·rename_i sz hsz;split at hc
    ·rename_i o g sz' i len;split at hc
     ·rename_i mt g' sz'' rs ho;obtain ⟨h1,h2,rfl,rfl,rfl,rfl,h8,h9⟩:=hc;simp only [ho];obtain ⟨r1,r2,X,r3,r4,r5,r6⟩:=zs3 (P:=P) hH h2 hx h1;have hal:zdI h o g sz:=bp;obtain ⟨A,cap,rfl,hcap,hA⟩:=hH.sl_alive hal hs;generalize hm:min (zaN x sz h).2.length len=m at *;have hmx:m<=(zaN x sz h).2.length:=aa;have hml:m<=len:=aa;have hXm:(X.toList.take (m * sz)).length=m * sz:=by
       grind [Nat.mul_le_mul_right]
      have hrun0:(Builtin.copy_ tys ty #[.slice A len cap,vx]).run P w=((match A with|some a=>storeCells a (X.toList.take (m * sz))|none=>pure ()).run P w).andThen λ _ w'=> .ok (goInt m) w':=by
       have h6:=r6 w rfl m hmx;have hmin:Nat.min (zaN x sz h).2.length len=m:=hm;cases A<;>simp [Builtin.copy_,h0t,zak (zfj ht),r1,hmin,zbA hsz,h6]
      have hint:goInt m= .int .i64 m:=by simp [goInt]
      obtain ⟨A0,hA0,hobj⟩:=hH.obj _ _ _ _ _ ho;have hol:¬F o:=λ hle=>bA;by_cases hm0:m=0
      ·subst hm0;have hrs:rs.take i++(zaN x sz h).2.take 0++rs.drop (i+0)=rs:=ac;have hupd:upd h o (some (.rows true g sz rs))=h:=by rw [<- ho,zq5]
       refine ⟨.int .i64 0,w,φ, ?_, ?_, ?_, ?_⟩
       ·rw [hrun0];cases A<;>simp [storeCells,goInt]
       ·exact .v _
       ·grind [zap,Fal]
       ·simp only [zap,hrs,hupd];exact .refl _ _ _ _
      ·rcases hA with ⟨rfl,rfl,rfl,rfl⟩|⟨rfl,rfl,hA⟩|⟨a,bs,hp,hsp,rfl,hcb⟩
       ·omega
       ·omega
       ·rw [hp] at hA0;simp only [Option.some.injEq,Prod.mk.injEq,true_and] at hA0;subst hA0;rcases hobj with ⟨hobj, _⟩|⟨a₁,bs₁,e1,h0,hd⟩
        ·cases hobj
        simp only [Option.some.injEq,Prod.mk.injEq] at e1;obtain ⟨rfl,rfl⟩:=e1;obtain ⟨C,T,hb,hC,hr,hl,hv,hrel⟩:=hd.cells hsp;have hmul:=Nat.mul_le_mul_right sz (show i+m<=rs.length by omega);rw [Nat.add_mul] at hmul;obtain ⟨w',hrun,hw'⟩:=ze1 (P:=P) (a:=⟨a.block,a.off+i * sz,none⟩) (T:=T) rfl (X.toList.take (m * sz)) 0 w C hb af (λ u hu=>r5 u (List.mem_of_mem_take hu));have hM:∀k,¬Or M0 (Mut φ h) k->k≠a.block:=λ k hk e=>hk (.inr ⟨o,g,sz,rs,g,a,bs,ho,hp,e.symm⟩);have hle0:φ.le (upd φ o (some (g,some (a,bs)))):=bN;have hxt:∀r ∈ (zaN x sz h).2.take m,r.length=sz:=λ r hr0=>r2 r (List.mem_of_mem_take hr0);have htl:((zaN x sz h).2.take m).length=m:=af;have hflat:=zmY hr hxt i af;rw [htl] at hflat;have hnl:(rs.take i++(zaN x sz h).2.take m++rs.drop (i+m)).length=rs.length:=af;have hxr:za2 φ w (Or M0 (Mut φ h)) ((zaN x sz h).2.take m).flatten (X.toList.take (m * sz)):=by
         rw [zgW r2];exact r4.take _
        obtain ⟨g1,g2,g3⟩:=hH.set (w':=w') (F':=F) (o:=o) (mt:=true) (g:=g) (sz:=sz) (rs:=rs.take i++(zaN x sz h).2.take m++rs.drop (i+m)) (A:=some (a,bs))
         (λ _ h=>h) hol aN hle0 (λ k hk _=>hw'.other k (hM k hk))
         (λ o' mt' g' sz' rs' a₁ b₁ hne ho' hp'=>by
          have:=hH.inj _ _ _ _ _ _ _ _ _ _ _ _ _ _ ho ho' (Ne.symm hne) (.inl rfl) hp hp';refine ⟨hw'.other _ (Ne.symm this),λ a₂ b₂ e=> ?_⟩;grind)
         (λ a₁ b₁ e=>by
          grind)
         (.inr ⟨a,bs, _,T,rfl,hsp,h0,hw'.at_,cP,
          λ r hm=>by
           grind,
          by grind,
          λ c hm=>by
           grind [zdP,zkN,List.mem_of_mem_take],
          by
           grind [zdP,zOc]⟩)
        refine ⟨.int .i64 m,w', _, ?_, .v _,g1,⟨hle0,g2,⟨hw'.os,hw'.tape,hw'.output,hw'.drawn,aN,λ k _ hu=>hw'.other k (λ e=>hu ⟨o,g,sz,rs,g,a,bs,ho,hp,e.symm⟩)⟩,λ k hk=> ?_⟩⟩
        ·simp_all
        ·rcases g3 k hk with h|⟨a₁,b₁,e,rfl⟩;all_goals grind [Or]
     grind
    grind
   grind
  grind
 grind
theorem zDB (hH:zaW φ F w M0 h) (hs:Rel φ w (Or M0 (Mut φ h)) s vs)
  (hc:(zlD P tys.toList s h).cond):zBD P φ F n w M0 h (zlD P tys.toList s h) (Builtin.clear_ tys ty #[vs]):=by
 unfold zlD at hc ⊢;split at hc
 ·rename_i st rest htys;have h0t:tys[0]? =some st:=by rw [<- Array.getElem?_toList,htys];rfl
  split at hc
  ·rename_i e ht;split at hc
   ·rename_i sz z hsz hz;split at hc
    ·rename_i o g sz' i len;split at hc
     ·rename_i mt g' sz'' rs ho;obtain ⟨h2,hzl,rfl,rfl,rfl,rfl,h8,h9⟩:=hc;simp only [ho];obtain ⟨u,hzv,hzc,hu1⟩:=zcP (P:=P) (w:=w) hz;have hal:zdI h o g sz:=bp;obtain ⟨A,cap,rfl,hcap,hA⟩:=hH.sl_alive hal hs;obtain ⟨A0,hA0,hobj⟩:=hH.obj _ _ _ _ _ ho;have hol:¬F o:=λ hle=>bA;by_cases hm0:len=0
      ·subst hm0;have hrs:rs.take i++List.replicate 0 z++rs.drop (i+0)=rs:=ac;have hupd:upd h o (some (.rows true g sz rs))=h:=by rw [<- ho,zq5]
       refine ⟨.tuple #[],w,φ, ?_, ?_, ?_, ?_⟩
       ·cases A<;>simp [Builtin.clear_,h0t,zak (zfj ht)]
       ·exact .tup (vs:= []) .nil
       ·grind [zap,Fal]
       ·simp only [zap,hrs,hupd];exact .refl _ _ _ _
      ·rcases hA with ⟨rfl,rfl,rfl,rfl⟩|⟨rfl,rfl,hA⟩|⟨a,bs,hp,hsp,rfl,hcb⟩
       ·omega
       ·omega
       ·rw [hp] at hA0;simp only [Option.some.injEq,Prod.mk.injEq,true_and] at hA0;subst hA0;rcases hobj with ⟨hobj, _⟩|⟨a₁,bs₁,e1,h0,hd⟩
        ·cases hobj
        simp only [Option.some.injEq,Prod.mk.injEq] at e1;obtain ⟨rfl,rfl⟩:=e1;obtain ⟨C,T,hb,hC,hr,hl,hv,hrel⟩:=hd.cells hsp;have hus:u.cells.size=sz:=af;obtain ⟨X,hX⟩:∃X,X=(Builtin.zeroCells u.cells len).toList:=⟨_,rfl⟩
        have hXl:X=(List.replicate len u.cells.toList).flatten:=by grind [zt6]
        have hXm:X.length=len * sz:=by grind [Builtin.zeroCells]
        have hX1:∀v ∈ X,zd7 v=true:=by
         grind [List.mem_flatten]
        have hrun0:(Builtin.clear_ tys ty #[.slice (some ⟨a.block,a.off+i * sz,none⟩) len cap]).run P w=((storeCells ⟨a.block,a.off+i * sz,none⟩ X).run P w).andThen λ _ w'=> .ok (.tuple #[]) w':=by
         obtain ⟨m,rfl⟩:∃m,len=m+1:=⟨len - 1,aa⟩
         simp_all [Builtin.clear_,zak,zfj]
        have hmul:=Nat.mul_le_mul_right sz (show i+len<=rs.length by omega);rw [Nat.add_mul] at hmul;obtain ⟨w',hrun,hw'⟩:=ze1 (P:=P) (a:=⟨a.block,a.off+i * sz,none⟩) (T:=T) rfl X 0 w C hb af hX1;have hM:∀k,¬Or M0 (Mut φ h) k->k≠a.block:=λ k hk e=>hk (.inr ⟨o,g,sz,rs,g,a,bs,ho,hp,e.symm⟩);have hle0:φ.le (upd φ o (some (g,some (a,bs)))):=bN;have hxt:∀r ∈ List.replicate len z,r.length=sz:=λ r hr0=>af;have htl:(List.replicate len z).length=len:=ac;have hflat:=zmY hr hxt i af;rw [htl] at hflat;have hnl:(rs.take i++List.replicate len z++rs.drop (i+len)).length=rs.length:=af;have hxr:za2 φ w (Or M0 (Mut φ h)) (List.replicate len z).flatten X:=by
         grind [zoK,zfG]
        obtain ⟨g1,g2,g3⟩:=hH.set (w':=w') (F':=F) (o:=o) (mt:=true) (g:=g) (sz:=sz) (rs:=rs.take i++List.replicate len z++rs.drop (i+len)) (A:=some (a,bs))
         (λ _ h=>h) hol aN hle0 (λ k hk _=>hw'.other k (hM k hk))
         (λ o' mt' g' sz' rs' a₁ b₁ hne ho' hp'=>by
          have:=hH.inj _ _ _ _ _ _ _ _ _ _ _ _ _ _ ho ho' (Ne.symm hne) (.inl rfl) hp hp';refine ⟨hw'.other _ (Ne.symm this),λ a₂ b₂ e=> ?_⟩;grind)
         (λ a₁ b₁ e=>by
          grind)
         (.inr ⟨a,bs, _,T,rfl,hsp,h0,hw'.at_,cP,
          λ r hm=>by
           grind,
          by grind,
          λ c hm=>by
           grind [zdP,zkN],
          by
           grind [zdP,zOc]⟩)
        refine ⟨.tuple #[],w', _, ?_, .tup (vs:= []) .nil,g1,⟨hle0,g2,⟨hw'.os,hw'.tape,hw'.output,hw'.drawn,aN,λ k _ hu=>hw'.other k (λ e=>hu ⟨o,g,sz,rs,g,a,bs,ho,hp,e.symm⟩)⟩,λ k hk=> ?_⟩⟩
        ·simp_all
        ·rcases g3 k hk with h|⟨a₁,b₁,e,rfl⟩;all_goals grind [Or]
     grind
    ·cases hs;refine ⟨.tuple #[],w,φ, ?_, .tup (vs:= []) .nil,hH, .refl _ _ _ _⟩;simp_all [Builtin.clear_,zak,zfj]
    grind
   grind
  grind
 grind
theorem zaW.sub (hH:zaW φ F w M0 h){F':Nat->Prop} (hs:∀o,F' o->F o):zaW φ F' w M0 h:=⟨hH.m0,λ o ho=>hH.fresh o (hs o ho),hH.obj,hH.inj,hH.glob⟩
theorem Fal_le {n:Nat} (k:Nat) (hH:zaW φ (Fal (λ o=>n<=o) n k) w M0 h):zmK φ (n+k) w M0 h:=by
 cases k with
 |zero=>exact hH
 |succ k=>exact hH.sub λ o ho=>⟨aa,aa⟩
end
end Go.Av
end
