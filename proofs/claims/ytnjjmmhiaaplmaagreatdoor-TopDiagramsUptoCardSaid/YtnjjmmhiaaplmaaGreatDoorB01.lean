/- Texts of ours, part 1: our library and contracts of functions. -/
import Derived.Test.YtnjjmmhiaaplmaaGreatDoorB00
import Derived.Laws.StructEq
import Derived.MapKept
set_option linter.unusedSimpArgs false
set_option linter.unusedVariables false
set_option maxRecDepth 100000
set_option maxHeartbeats 40000000
section
namespace Go.Av
open Go

theorem zd0 {k:IntKind}{n:Int} (h:InR k n):k.wrap n=n:=by
 obtain ⟨h1,h2⟩:=h
 cases k<;>simp [IntKind.min,IntKind.max,IntKind.signed,IntKind.bits] at h1 h2<;>simp [IntKind.wrap,IntKind.signed,IntKind.bits]<;>omega

section reads
variable {P:Program} {φ:zaz} {F:Nat→Prop} {w:World} {M0:Nat→Prop} {h:zaq}

theorem zaE.sl_alive (hH:zaE φ F w M0 h){o g sz i len:Nat} (ha:zcG h o g sz){M:Nat→Prop}{v:Value} (hx:Rel φ w M (.sl o g sz i len) v):
  ∃A cap,v= .slice A len cap∧len≤cap∧((A=none∧i=0∧len=0∧cap=0)∨(len=0∧cap=0∧A.isSome=true)∨
   ∃a bs,φ o=some (g,some (a,bs))∧a.spot=none∧A=some ⟨a.block,a.off+i * sz,none⟩∧a.off+i * sz+cap * sz≤bs):=by
 obtain ⟨mt,rs,A, _,hp⟩:=hH.alive_at ha
 cases hx with
 |sl ho hg hh=>
  rw [hp] at ho
  simp only [Option.some.injEq,Prod.mk.injEq] at ho
  obtain ⟨rfl,rfl⟩:=ho
  rcases hh rfl with ⟨_,rfl,rfl,rfl⟩|⟨rfl,a',rfl⟩|⟨a,bs,cap,rfl,hs,rfl,hl,hc⟩
  ·exact ⟨none,0,rfl,Nat.le_refl _, .inl ⟨rfl,rfl,rfl,rfl⟩⟩
  ·exact ⟨some a',0,rfl,Nat.le_refl _, .inr (.inl ⟨rfl,rfl,rfl⟩)⟩
  ·exact ⟨_,cap,rfl,hl, .inr (.inr ⟨a,bs,hp,hs,rfl,hc⟩)⟩

theorem zbR (k:IntKind) (x:Int):(asIntOf (.int k x)).run P w= .ok (k,x) w:=rfl

theorem zlv (hH:zaE φ F w M0 h){t:TypeId}{x ix:AV}{v u:Value} (hx:Rel φ w (Or M0 (Mut φ h)) x v) (hi:Rel φ w (Or M0 (Mut φ h)) ix u)
  (hc:(zb9 P t x ix h).cond):zbW P φ w (Or M0 (Mut φ h)) (zb9 P t x ix h) (Instr.indexAt t v u):=by
 unfold zb9 at hc ⊢
 split at hc
 ·rename_i e o g sz i len k n' ht
  cases hi
  obtain ⟨hal,hsz,h0,hlt⟩:=hc
  obtain ⟨A,cap,rfl,hcap,hA⟩:=hH.sl_alive hal hx
  have hlen:0<len:=aa
  rcases hA with ⟨_, _,rfl, _⟩|⟨rfl, _⟩|⟨a,bs,hp,hsp,rfl,hb⟩
  ·omega
  ·omega
  refine ⟨.pointer (some ⟨a.block,a.off+i * sz+n'.toNat * sz,none⟩), ?_, ?_,rfl,rfl⟩
  ·have h2:0≤n'∧n'<(len:Int):=by omega
   simp [Instr.indexAt,zbR,zaj (zcE ht),h2,zaY hsz,zcr]
  ·exact .ref hp (Nat.le_refl _) fun _=>⟨a,bs,rfl,hsp,by simp [Nat.add_mul,Nat.add_assoc]⟩
 ·rename_i e sz rows k n' ht
  cases hi
  obtain ⟨hsz,h0,hlt⟩:=hc
  cases hx with
  |nil=>simp at hlt
  | @lst _ _ a len cap C T fz hs hM hb hr hl hc hcap hv hrel=>
   have hle:n'.toNat * sz+sz≤rows.length * sz:=by
    have:=Nat.mul_le_mul_right sz (show n'.toNat+1≤rows.length from hlt)
    rw [Nat.add_mul] at this;omega
   have hg:nth rows n'.toNat=rows[n'.toNat]:=by simp [nth,hlt]
   have hrl:rows[n'.toNat].length=sz:=hr _ (List.getElem_mem _)
   have e1:(C.toList.drop (a.off+n'.toNat * sz)).take rows[n'.toNat].length=(((C.toList.drop a.off).take (rows.length * sz)).drop (n'.toNat * sz)).take sz:=by
    rw [List.drop_take,List.drop_drop,List.take_take,hrl];congr 1;omega
   refine ⟨.pointer (some ⟨a.block,a.off+n'.toNat * sz,none⟩), ?_, ?_,rfl,rfl⟩
   ·have h2:0≤n'∧n'<(len:Int):=by omega
    simp [Instr.indexAt,zbR,zaj (zcE ht),h2,zaY hsz,zcr hs]
   ·simp only [hg]
    refine .fp (a:=⟨a.block,a.off+n'.toNat * sz,none⟩) rfl hM hb (by simp only [hrl];omega) ?_ ?_
    ·intro u hu
     rw [e1] at hu
     exact hv u (List.mem_of_mem_drop (List.mem_of_mem_take hu))
    ·rw [e1,zeW hr _ hlt]
     exact (hrel.drop _).take _
 ·rename_i len e o g sz i off k n' ht
  cases hi
  split at hc
  ·rename_i s hsz
   obtain ⟨hal,h0,hlt⟩:=hc
   obtain ⟨a,rfl⟩:=hH.ref_alive hal hx
   try simp only [hsz]
   refine ⟨.pointer (some ⟨a.block,a.off+i * sz+off+n'.toNat * s,none⟩), ?_, ?_,rfl,rfl⟩
   ·have h2:0≤n'∧n'<(len:Int):=⟨h0,hlt⟩
    simp [Instr.indexAt,zbR,zaj (zoj ht),h2,zaY hsz,Instr.sureAddr,zcr]
   ·exact zuG hx _ _ _ (fun b hb=>by simp only [Value.pointer.injEq,Option.some.injEq,Addr.mk.injEq,and_true] at hb ⊢;omega)
  ·exact hc.elim
 ·rename_i len e cells k n' ht
  cases hi
  split at hc
  ·rename_i s hsz
   obtain ⟨h0,hlt,hle⟩:=hc
   try simp only [hsz]
   cases hx with
   | @fp _ a C T fz hs hM hb hl hcv hrel=>
    have e1:(C.toList.drop (a.off+n'.toNat * s)).take (cells.drop (n'.toNat * s)).length=((C.toList.drop a.off).take cells.length).drop (n'.toNat * s):=by
     rw [List.drop_take,List.drop_drop,List.length_drop]
    refine ⟨.pointer (some ⟨a.block,a.off+n'.toNat * s,none⟩), ?_, ?_,rfl,rfl⟩
    ·have h2:0≤n'∧n'<(len:Int):=⟨h0,hlt⟩
     simp [Instr.indexAt,zbR,zaj (zoj ht),h2,zaY hsz,Instr.sureAddr,zcr hs]
    ·refine .fp (a:=⟨a.block,a.off+n'.toNat * s,none⟩) rfl hM hb (by simp only [List.length_drop];omega) ?_ ?_
     ·intro u hu
      simp only at hu
      rw [e1] at hu
      exact hcv u (List.mem_of_mem_drop hu)
     ·simp only
      rw [e1];exact hrel.drop _
  ·exact hc.elim
 ·exact hc.elim

theorem zjV {t:TypeId}{s d:Nat} (h1:zjo P t=some true) (h2:tsz P t=some s) (vs:List Value):
  (part t ⟨vs⟩ d).run P w= .ok (.agg ⟨(vs.drop d).take s⟩) w:=by
 have e:(Array.extract (⟨vs⟩:Array Value) d (d+s))=⟨(vs.drop d).take s⟩:=by
  apply Array.ext'
  simp [Array.toList_extract,List.extract_eq_take_drop]
 simp [part,ziq h1,zaY h2,e]
theorem zez {t:TypeId}{d:Nat} (h1:zjo P t=some false) (vs:List Value) (hd:d<vs.length):
  (part t ⟨vs⟩ d).run P w= .ok vs[d] w:=by
 simp [part,ziq h1,hd]

theorem zkj {cs:List AV}{v:Value}{M:Nat→Prop} (hx:Rel φ w M (.agg cs) v) (d s:Nat):∃vs,v= .agg ⟨vs⟩∧zaJ φ w M cs vs∧Rel φ w M (.agg ((cs.drop d).take s)) (.agg ⟨(vs.drop d).take s⟩):=by
 cases hx with
 |agg hv hrel=>exact ⟨_,rfl,hrel, .agg (fun u hu=>hv u (List.mem_of_mem_drop (List.mem_of_mem_take hu))) ((hrel.drop d).take s)⟩
theorem zaJ.getD {cs:List AV}{vs:List Value}{M:Nat→Prop} (h:zaJ φ w M cs vs) (d:Nat) (hd:d<cs.length):∃hd':d<vs.length,Rel φ w M (cel cs d) vs[d]:=by
 have hd':d<vs.length:=by rw [← h.length];exact hd
 exact ⟨hd',by have:=h.get d hd hd';simpa [cel,List.getD_eq_getElem?_getD,hd] using this⟩

theorem zsK {s:TypeId}{x:AV}{v:Value}{f:Nat}{M:Nat→Prop} (hx:Rel φ w M x v) (hc:(zlh P s x f).cond):
  zbW P φ w M (zlh P s x f) (Instr.field s v f):=by
 unfold zlh at hc ⊢
 split at hc
 ·rename_i d t cs hd ht
  obtain ⟨fs,fl,hu,hf,hoff⟩:=zlr hd
  have hty:fl.type=t:=by simp [zCu,hu,hf] at ht;exact ht
  split at hc
  ·rename_i m ha hz
   try simp only [ha,hz]
   obtain ⟨vs,rfl,hrel,hr⟩:=zkj hx d m
   exact ⟨_,by simp [Instr.field,zaj hu,hf,asAgg,hty,hoff,zjV ha hz],hr,rfl,rfl⟩
  ·rename_i ha
   try simp only [ha] at hc
   try simp only [ha]
   obtain ⟨vs,rfl,hrel, _⟩:=zkj hx d 0
   obtain ⟨hd',hr⟩:=hrel.getD d hc
   exact ⟨_,by simp only [Instr.field,Sem.run_bind,zaj hu,Result.andThen_ok,hf,asAgg,Sem.run_pure,hty,hoff,zez ha vs hd'],hr,rfl,rfl⟩
  ·exact hc.elim
 ·exact hc.elim

theorem zsV {t:TypeId}{x ix:AV}{v u:Value}{M:Nat→Prop} (hx:Rel φ w M x v) (hi:Rel φ w M ix u) (hc:(zli P t x ix).cond):
  zbW P φ w M (zli P t x ix) (Instr.index t v u):=by
 unfold zli at hc ⊢
 split at hc
 ·rename_i len e cs k n' ht
  cases hi
  split at hc
  ·rename_i s ha hz
   try simp only [ha,hz]
   obtain ⟨h0,hlt,hle⟩:=hc
   obtain ⟨vs,rfl,hrel,hr⟩:=zkj hx (n'.toNat * s) s
   have h2:0≤n'∧n'<(len:Int):=⟨h0,hlt⟩
   exact ⟨_,by simp [Instr.index,zbR,zaj (zoj ht),h2,zaY hz,zjV ha hz],hr,rfl,rfl⟩
  ·rename_i s ha hz
   try simp only [ha,hz]
   obtain ⟨h0,hlt,hle⟩:=hc
   obtain ⟨vs,rfl,hrel, _⟩:=zkj hx 0 0
   obtain ⟨hd',hr⟩:=hrel.getD (n'.toNat * s) hle
   have h2:0≤n'∧n'<(len:Int):=⟨h0,hlt⟩
   refine ⟨_, ?_,hr,rfl,rfl⟩
   simp only [Instr.index,Sem.run_bind,zbR,Result.andThen_ok,zaj (zoj ht),h2,and_self,if_true,zaY hz,zez ha vs hd']
  ·exact hc.elim
 ·rename_i s k n' ht
  cases hi;cases hx
  obtain ⟨h0,hlt⟩:=hc
  have hb:s[n'.toNat]? =some (s.data.toList.getD n'.toNat 0):=by
   have hsz:n'.toNat<s.size:=by simpa using hlt
   rw [getElem?_pos s n'.toNat hsz]
   have:n'.toNat<s.data.size:=hsz
   simp [List.getD_eq_getElem?_getD,ByteArray.getElem_eq_getElem_data,Array.getElem?_eq_getElem this]
  refine ⟨_, ?_, .v _,rfl,rfl⟩
  simp [Instr.index,zbR,zaj (zix ht),h0,hb]
 ·exact hc.elim

theorem zmy {t k e:TypeId} (h:tk P t= .map k e):P.underlying t=some (.map k e):=by
 unfold tk at h;split at h<;>simp_all
def zbA (φ:zaz) (w:World) (M:Nat→Prop) (rs:List (List AV)) (es:List MapEntry):Prop:=zaJ φ w M rs.flatten (es.flatMap fun e=> [e.key,e.val])
theorem zaE.mp_at (hH:zaE φ F w M0 h){o sz:Nat}{mt:Bool}{rs:List (List AV)} (ho:h o=some (.rows mt 0 sz rs)){M:Nat→Prop}{v:Value} (hx:Rel φ w M (.mp o) v):
  ∃a bs es clk,φ o=some (0,some (a,bs))∧a.spot≠none∧¬M0 a.block∧v= .map (some a.block)∧w.heap[a.block]? =some (.map es clk)∧es.size=rs.length∧(sz=2∧∀r ∈ rs,r.length=2)∧zbA φ w (Or M0 (Mut φ h)) rs es.toList:=by
 obtain ⟨A,hA,h1⟩:=hH.obj _ _ _ _ _ ho
 cases hx with
 |mp hp hh=>
  rw [hA] at hp
  simp only [Option.some.injEq,Prod.mk.injEq] at hp
  obtain ⟨rfl,rfl⟩:=hp
  obtain ⟨a,bs,rfl,hs,rfl⟩:=hh rfl
  rcases h1 with ⟨h1, _⟩|⟨a',bs',e,h0,hd⟩
  ·cases h1
  simp only [Option.some.injEq,Prod.mk.injEq] at e
  obtain ⟨rfl,rfl⟩:=e
  obtain ⟨es,clk,g1,g2,g3,g4⟩:=hd.map hs
  exact ⟨a,bs,es,clk,hA,hs,h0,rfl,g1,g2,⟨g3.1,by rw [← g3.1];exact g3.2⟩,g4⟩
theorem zyV (hH:zaE φ F w M0 h){t:TypeId}{x:AV}{v:Value}{ats:Array TypeId}{ty:TypeId} (ha:ats[0]? =some t) (hx:Rel φ w (Or M0 (Mut φ h)) x v) (hc:(zqj P t x h).cond):
  zbW P φ w (Or M0 (Mut φ h)) (zqj P t x h) (Builtin.len_ ats ty #[v]):=by
 unfold zqj at hc ⊢
 split at hc
 ·rename_i e o g sz i len ht
  obtain ⟨A,cap,rfl, _⟩:=hH.sl_alive hc hx
  exact ⟨_,bh, .v _,rfl,rfl⟩
 ·rename_i e sz rows ht
  cases hx with
  |nil=>exact ⟨_,bh, .v _,rfl,rfl⟩
  |lst hs hM hb hr hl hc hcap hv hrel=>subst hl;exact ⟨_,bh, .v _,rfl,rfl⟩
 ·rename_i e ht
  cases hx
  exact ⟨_,bh, .v _,rfl,rfl⟩
 ·rename_i s ht
  cases hx
  exact ⟨_,by simp [Builtin.len_,ha,zaj (zix ht),goInt], .v _,rfl,rfl⟩
 ·rename_i e ht
  exact ⟨_,by simp [Builtin.len_,ha,zaj (zoj ht),goInt], .v _,rfl,rfl⟩
 ·rename_i o ht
  split at hc
  ·rename_i mt rs ho
   obtain ⟨a,bs,es,clk,hp,hs,h0,rfl,hb,hl,⟨_,h2⟩,he⟩:=hH.mp_at ho hx
   try simp only [ho]
   exact ⟨_,by simp [Builtin.len_,ha,zaj (zmy ht),MapKept.run_getObj_map hb,hl,goInt], .v _,rfl,rfl⟩
  ·exact hc.elim
 ·exact hc.elim

theorem zxN {op:BinOp}{x y:AV}{v u:Value}{t:TypeId}{xo yo:Operand}{M:Nat→Prop} (hx:Rel φ w M x v) (hy:Rel φ w M y u) (hc:(zyc op x y).cond):
  zbW P φ w M (zyc op x y) (do eqGuard op t xo yo v u;binOp op t v u):=by
 unfold zyc at hc ⊢
 split at hc
 case h_1 k a k' b=>
  cases hx;cases hy
  obtain ⟨h0,h1,h2,h3⟩:=hc
  have e:min b.toNat 64=b.toNat:=aa
  refine ⟨_, ?_, .v _,rfl,rfl⟩
  simp [eqGuard,binOp,Op.shift,show ¬b<0 by omega,h3,e,zd0 h2]
 case h_2 k a k' b=>
  cases hx;cases hy
  obtain ⟨h0,h1⟩:=hc
  have hk:8≤k.bits:=by cases k<;>decide
  have e:min b.toNat k.bits=b.toNat:=aa
  refine ⟨_, ?_, .v _,rfl,rfl⟩
  simp [eqGuard,binOp,Op.shift,show ¬b<0 by omega,e]
 case h_3 k a k' b=>cases hx;cases hy;obtain ⟨rfl,h2⟩:=hc;exact ⟨_,bS, .v _,rfl,rfl⟩
 case h_4 k a k' b=>cases hx;cases hy;obtain ⟨rfl,h2⟩:=hc;exact ⟨_,bS, .v _,rfl,rfl⟩
 case h_5 k a k' b=>cases hx;cases hy;obtain ⟨rfl,h2⟩:=hc;exact ⟨_,bS, .v _,rfl,rfl⟩
 case h_6 k a k' b=>cases hx;cases hy;obtain ⟨rfl,h2,h3⟩:=hc;exact ⟨_,by simp [eqGuard,binOp,Op.intDiv,h2,zd0 h3], .v _,rfl,rfl⟩
 case h_7 k a k' b=>cases hx;cases hy;obtain ⟨rfl,h2⟩:=hc;exact ⟨_,by simp [eqGuard,binOp,Op.intDiv,h2], .v _,rfl,rfl⟩
 case h_8 k a k' b=>cases hx;cases hy;obtain rfl:=hc;exact ⟨_,bF, .v _,rfl,rfl⟩
 case h_9 k a k' b=>cases hx;cases hy;obtain rfl:=hc;exact ⟨_,bF, .v _,rfl,rfl⟩
 case h_10 k a k' b=>cases hx;cases hy;obtain rfl:=hc;exact ⟨_,bF, .v _,rfl,rfl⟩
 case h_11 k a k' b=>cases hx;cases hy;obtain rfl:=hc;exact ⟨_,by simp [eqGuard,binOp,Op.intCmp];rfl, .v _,rfl,rfl⟩
 case h_12 k a k' b=>cases hx;cases hy;obtain rfl:=hc;exact ⟨_,by simp [eqGuard,binOp,Op.intCmp];rfl, .v _,rfl,rfl⟩
 case h_13 k a k' b=>cases hx;cases hy;obtain rfl:=hc;exact ⟨_,bw, .v _,rfl,rfl⟩
 case h_14 k a k' b=>cases hx;cases hy;obtain rfl:=hc;exact ⟨_,bw, .v _,rfl,rfl⟩
 case h_15 k a k' b=>cases hx;cases hy;obtain rfl:=hc;exact ⟨_,bw, .v _,rfl,rfl⟩
 case h_16 k a k' b=>cases hx;cases hy;obtain rfl:=hc;exact ⟨_,bw, .v _,rfl,rfl⟩
 case h_17 a b=>
  cases hx;cases hy
  have h0:a.size+b.size≤9223372036854775807:=hc
  have h1:¬((a.size:Int)+b.size>IntKind.i64.max):=cV
  refine ⟨_, ?_, .v _,rfl,rfl⟩
  simp [eqGuard,binOp,Op.stringOp,h1]
  omega
 case h_18=>exact hc.elim

theorem zCa {op:UnOp}{x:AV}{v:Value}{M:Nat→Prop} (hx:Rel φ w M x v) (hc:(evUn op x).cond):zbW P φ w M (evUn op x) (Op.unary op v):=by
 unfold evUn at hc ⊢
 split at hc
 ·cases hx;exact ⟨_,by simp [Op.unary], .v _,rfl,rfl⟩
 ·cases hx;exact ⟨_,by simp [Op.unary,Op.intArith];exact zd0 hc, .v _,rfl,rfl⟩
 ·exact hc.elim

theorem zl5 {c:AV}{v:Value}{M:Nat→Prop}{g b:Bool} (h:Rel φ w M c v) (hp:pB c=some (g,b)):g=true→v= .bool b:=by
 intro hg
 unfold pB at hp
 split at hp
 ·simp only [Option.some.injEq,Prod.mk.injEq] at hp
  obtain ⟨rfl,rfl⟩:=hp
  cases h;rfl
 ·simp only [Option.some.injEq,Prod.mk.injEq] at hp
  obtain ⟨rfl,rfl⟩:=hp
  cases h with|gd h _=>cases h hg;rfl
 ·cases hp
theorem zwq {c a b:AV}{vc va vb:Value}{M:Nat→Prop} (h1:Rel φ w M c vc) (h2:Rel φ w M a va) (h3:Rel φ w M b vb) (hc:(zql c a b).cond):
  zbW P φ w M (zql c a b) (do pure (if ← asBool vc then va else vb)):=by
 unfold zql at hc ⊢
 split at hc
 ·rename_i g c' g1 x g2 y e1 e2 e3
  try simp only [e1,e2,e3]
  obtain ⟨q1,q2,q3⟩:=hc
  have:=zl5 h1 e1 q1
  subst this
  refine ⟨_,by simp [asBool];rfl, ?_,rfl,rfl⟩
  cases c' with
  |true=>have:=zl5 h2 e2 (q2 rfl);subst this;exact .v _
  |false=>have:=zl5 h3 e3 (q3 rfl);subst this;exact .v _
 ·rename_i g c' g1 x e1 e2 e3
  try simp only [e1,e2,e3]
  obtain ⟨q1,q2,q3⟩:=hc
  have:=zl5 h1 e1 q1
  subst this
  subst q2
  refine ⟨_,by simp [asBool];rfl, ?_,rfl,rfl⟩
  have:=zl5 h2 e2 q3;subst this;exact .v _
 ·rename_i g c' g2 y e1 e2 e3
  try simp only [e1,e2,e3]
  obtain ⟨q1,q2,q3⟩:=hc
  have:=zl5 h1 e1 q1
  subst this
  subst q2
  refine ⟨_,by simp [asBool];rfl, ?_,rfl,rfl⟩
  have:=zl5 h3 e3 q3;subst this;exact .v _
 ·exact hc.elim
theorem zEc {t:TypeId} (h:tk P t= .bool):P.underlying t=some .bool:=by
 unfold tk at h;split at h<;>simp_all
theorem znp {t:TypeId} (h:tk P t= .bool) (a b:Bool):(Op.equal t (.bool a) (.bool b)).run P w= .ok (a==b) w:=by
 unfold Op.equal
 rw [show Op.maxDepth=(Op.maxDepth - 1)+1 from rfl,Op.equalIn]
 simp [zaj (zEc h)]
theorem zhT {t e:TypeId} (h:tk P t= .sl e) (A:Option Addr) (l c:Nat):(Op.equal t (.slice A l c) (.slice none 0 0)).run P w= .ok A.isNone w:=by
 unfold Op.equal
 rw [show Op.maxDepth=(Op.maxDepth - 1)+1 from rfl,Op.equalIn]
 cases A<;>simp [zaj (zcE h)]
theorem znG {t:TypeId} (h:zo2 P t=true):∃a b c,P.underlying t=some (.func a b c):=by
 unfold zo2 at h
 split at h
 ·rename_i a b c e
  exact ⟨a,b,c,e⟩
 ·cases h
theorem zt5 {t:TypeId} (h:zo2 P t=true) (f:Fn) (a b:Array Value):(Op.equal t (.func f a b) .nilFunc).run P w= .ok false w:=by
 obtain ⟨x,y,z,e⟩:=znG h
 unfold Op.equal
 rw [show Op.maxDepth=(Op.maxDepth - 1)+1 from rfl,Op.equalIn]
 simp [zaj e]
theorem zlf {t:TypeId} (h:zo2 P t=true):(Op.equal t .nilFunc .nilFunc).run P w= .ok true w:=by
 obtain ⟨x,y,z,e⟩:=znG h
 unfold Op.equal
 rw [show Op.maxDepth=(Op.maxDepth - 1)+1 from rfl,Op.equalIn]
 simp [zaj e]
def zBJ:Int ⊕ Bool→Value
 | .inl n=> .int .i64 n
 | .inr b=> .bool b
theorem zew {M:Nat→Prop}:∀ {xs:List AV}{vs:List Value}{a:List (Int ⊕ Bool)},zaJ φ w M xs vs→zev xs=some a→vs=a.map zBJ
 | [], _,a,h,e=>by cases h;simp [zev] at e;subst e;rfl
 |x::xs, _,a,h,e=>by
  cases h with
  |cons hx ht=>
   unfold zev at e
   split at e
   ·rename_i e0;cases e0
   ·rename_i n l e0
    simp only [List.cons.injEq] at e0
    obtain ⟨rfl,rfl⟩:=e0
    cases hx
    rw [Option.map_eq_some_iff] at e
    obtain ⟨b,hb,rfl⟩:=e
    rw [zew ht hb]
    rfl
   ·rename_i n l e0
    simp only [List.cons.injEq] at e0
    obtain ⟨rfl,rfl⟩:=e0
    cases hx
    rw [Option.map_eq_some_iff] at e
    obtain ⟨b,hb,rfl⟩:=e
    rw [zew ht hb]
    rfl
   ·cases e
theorem zqf (d:Nat){t:TypeId} (h:P.underlying t=some .bool) (a b:Bool):(Op.equalIn (d+1) t (.bool a) (.bool b)).run P w= .ok (a==b) w:=by
 rw [Op.equalIn]
 simp [zaj h]
theorem zqe (d:Nat) (a b:List (Int ⊕ Bool)) (fs:List Field):∀ (k:Nat),a.length=k+fs.length→b.length=k+fs.length→
  (∀i (h:i<fs.length),fs[i].name≠ "_" ∧fs[i].offset=k+i∧((∃kd,P.underlying fs[i].type=some (.int kd)∧(a[k+i]?).map Sum.isRight=some false∧(b[k+i]?).map Sum.isRight=some false)∨
   (P.underlying fs[i].type=some .bool∧(a[k+i]?).map Sum.isRight=some true∧(b[k+i]?).map Sum.isRight=some true)))→
  (Op.eqFields (d+1) (a.map zBJ).toArray (b.map zBJ).toArray fs).run P w= .ok (decide (a.drop k=b.drop k)) w:=by
 induction fs with
 |nil=>
  intro k ha hb _
  have e1:a.drop k= []:=List.drop_eq_nil_of_le (by simp at ha;omega)
  have e2:b.drop k= []:=List.drop_eq_nil_of_le (by simp at hb;omega)
  simp [Op.eqFields,e1,e2]
 |cons f fs ih=>
  intro k ha hb hf
  obtain ⟨hn,ho,hk⟩:=hf 0 ad
  simp only [List.getElem_cons_zero,Nat.add_zero] at hn ho hk
  simp only [List.length_cons] at ha hb
  have hka:k<a.length:=aa
  have hkb:k<b.length:=aa
  have hagg:zjo P f.type=some false:=by
   unfold zjo
   rcases hk with ⟨kd,hk, _⟩|⟨hk, _⟩<;>rw [hk]<;>rfl
  have p1:=zez (P:=P) (w:=w) (d:=k) hagg (a.map zBJ) (by simpa using hka)
  have p2:=zez (P:=P) (w:=w) (d:=k) hagg (b.map zBJ) (by simpa using hkb)
  have ih':=ih (k+1) aa aa (fun i hi=>by
   have:=hf (i+1) aJ
   simp only [List.getElem_cons_succ] at this
   refine ⟨this.1,aa, ?_⟩
   rw [show k+1+i=k+(i+1) by omega]
   exact this.2.2)
  have d1:a.drop k=a[k]::a.drop (k+1):=List.drop_eq_getElem_cons hka
  have d2:b.drop k=b[k]::b.drop (k+1):=List.drop_eq_getElem_cons hkb
  have hq:(Op.equalIn (d+1) f.type (zBJ a[k]) (zBJ b[k])).run P w= .ok (decide (a[k]=b[k])) w:=by
   rw [List.getElem?_eq_getElem hka,List.getElem?_eq_getElem hkb] at hk
   simp only [Option.map_some,Option.some.injEq] at hk
   rcases hk with ⟨kd,hk,h1,h2⟩|⟨hk,h1,h2⟩
   ·revert h1 h2
    cases a[k]<;>cases b[k]<;>simp [zBJ]
    rename_i x y
    rw [run_equalIn_int w d f.type .i64 kd x y hk]
    rfl
   ·revert h1 h2
    cases a[k]<;>cases b[k]<;>simp [zBJ]
    rename_i x y
    rw [zqf d hk]
    cases x<;>cases y<;>rfl
  rw [Op.eqFields,if_pos hn,ho]
  simp only [Sem.run_bind,p1,p2,Result.andThen_ok]
  rw [List.getElem_map,List.getElem_map,hq]
  simp only [Result.andThen_ok]
  by_cases he:a[k]=b[k]
  ·simp only [he,decide_true,Bool.not_true,Bool.false_eq_true,if_false]
   rw [ih',d1,d2,he];simp only [List.cons.injEq]
   simp
  ·simp only [he,decide_false,Bool.not_false,if_true,Sem.run_pure]
   rw [d1,d2];simp only [List.cons.injEq]
   simp [he]
theorem zyb {t:TypeId}{xs ys:List AV}{vs us:List Value}{M:Nat→Prop}{r:Bool} (hx:zaJ φ w M xs vs) (hy:zaJ φ w M ys us) (h:eqS P t xs ys=some r):
  P.eqGuardType P.depth t=false∧(Op.equalIn 10000 t (.agg vs.toArray) (.agg us.toArray)).run P w= .ok r w:=by
 unfold eqS at h
 split at h
 ·rename_i n a b h1 h2 h3
  split at h
  ·rename_i hl
   cases h
   obtain rfl:=zew hx h2
   obtain rfl:=zew hy h3
   unfold zru at h1
   split at h1
   ·rename_i fs hfs
    split at h1
    ·rename_i hall
     cases h1
     simp only [Bool.and_eq_true,Bool.not_eq_true',List.all_eq_true,List.mem_range] at hall
     obtain ⟨⟨q1,q2⟩,q3⟩:=hall
     refine ⟨q2, ?_⟩
     have hF:P.fieldsOf t=fs:=by unfold Program.fieldsOf;rw [hfs]
     rw [run_equalIn_agg w 9999 t _ _ (by rw [hF];exact hfs) q1,hF]
     have l1:=congrArg List.length hl.1
     have l2:=congrArg List.length hl.2
     simp only [List.length_map,Array.length_toList] at l1 l2
     have:=zqe (P:=P) (w:=w) 9998 a b fs.toList 0 (by simpa using l1) (by simpa using l2) (fun i hi=>by
      have hi':i<fs.size:=aJ
      have:=q3 i hi'
      rw [Array.getElem?_eq_getElem hi'] at this
      simp only [Bool.and_eq_true,bne_iff_ne,ne_eq,beq_iff_eq] at this
      obtain ⟨⟨a1,a2⟩,a3⟩:=this
      have g1:=congrArg (fun l:List Bool=>l[i]?) hl.1
      have g2:=congrArg (fun l:List Bool=>l[i]?) hl.2
      simp only [List.getElem?_map,Array.getElem?_toList,Array.getElem?_eq_getElem hi',Option.map_some] at g1 g2
      simp only [Array.getElem_toList]
      refine ⟨a1,aa, ?_⟩
      rw [Nat.zero_add]
      split at a3
      ·rename_i kd hk
       rw [hk] at g1 g2
       exact .inl ⟨kd,hk,g1,g2⟩
      ·rename_i hk
       rw [hk] at g1 g2
       exact .inr ⟨hk,g1,g2⟩
      ·cases a3)
     simpa using this
    ·cases h1
   ·cases h1
  ·cases h
 ·cases h
theorem zvn {op:BinOp}{x y:AV}{v u:Value}{t:TypeId}{xo yo:Operand}{M:Nat→Prop} (hx:Rel φ w M x v) (hy:Rel φ w M y u) (hc:(zqg P op t x y).cond):
  zbW P φ w M (zqg P op t x y) (do eqGuard op t xo yo v u;binOp op t v u):=by
 unfold zqg at hc ⊢
 split at hc
 ·rename_i z hz
  try simp only [hz]
  unfold evEq at hz
  split at hz
  ·rename_i ht;cases hx;cases hy;cases hz
   exact ⟨_,by simp [eqGuard,binOp,znp ht], .v _,rfl,rfl⟩
  ·rename_i ht;cases hx;cases hy;cases hz
   exact ⟨_,by simp [eqGuard,binOp,znp ht], .v _,rfl,rfl⟩
  ·rename_i ht;cases hy;cases hz
   cases hx with
   |lst=>exact ⟨_,bJ, .v _,rfl,rfl⟩
  ·rename_i ht;cases hy;cases hz
   cases hx with
   |lst=>exact ⟨_,bJ, .v _,rfl,rfl⟩
  ·rename_i ht;cases hx;cases hy;cases hz
   exact ⟨_,bJ, .v _,rfl,rfl⟩
  ·rename_i ht;cases hx;cases hy;cases hz
   exact ⟨_,bJ, .v _,rfl,rfl⟩
  ·cases hx;cases hy;cases hz
   exact ⟨_,by simp [eqGuard,binOp,Op.stringOp], .v _,rfl,rfl⟩
  ·cases hx;cases hy;cases hz
   exact ⟨_,by simp [eqGuard,binOp,Op.stringOp], .v _,rfl,rfl⟩
  ·rw [Option.map_eq_some_iff] at hz
   obtain ⟨r,hr,rfl⟩:=hz
   cases hx with
   |agg _ hx=>cases hy with
    |agg _ hy=>
     obtain ⟨g1,g2⟩:=zyb hx hy hr
     exact ⟨_,by simp [run_eqGuard_agg w _ _ _ _ _ _ g1,run_eql_struct,g2], .v _,rfl,rfl⟩
  ·rw [Option.map_eq_some_iff] at hz
   obtain ⟨r,hr,rfl⟩:=hz
   cases hx with
   |agg _ hx=>cases hy with
    |agg _ hy=>
     obtain ⟨g1,g2⟩:=zyb hx hy hr
     exact ⟨_,by simp [run_eqGuard_agg w _ _ _ _ _ _ g1,run_neq_struct,g2], .v _,rfl,rfl⟩
  ·split at hz
   ·rename_i hf;cases hy;cases hz
    cases hx with
    |fn=>exact ⟨_,by simp [eqGuard,binOp,zt5 hf], .v _,rfl,rfl⟩
   ·cases hz
  ·split at hz
   ·rename_i hf;cases hy;cases hz
    cases hx with
    |fn=>exact ⟨_,by simp [eqGuard,binOp,zt5 hf], .v _,rfl,rfl⟩
   ·cases hz
  ·split at hz
   ·rename_i hf;cases hx;cases hy;cases hz
    exact ⟨_,by simp [eqGuard,binOp,zlf hf], .v _,rfl,rfl⟩
   ·cases hz
  ·split at hz
   ·rename_i hf;cases hx;cases hy;cases hz
    exact ⟨_,by simp [eqGuard,binOp,zlf hf], .v _,rfl,rfl⟩
   ·cases hz
  ·cases hz
 ·rename_i hz
  try simp only [hz]
  exact zxN hx hy hc
theorem zza (hH:zaE φ F w M0 h){x:AV}{v:Value}{M:Nat→Prop} (hx:Rel φ w M x v) (hc:(zlk x h).cond):(∃a,v= .pointer (some a))∧(zlk x h).val=x∧(zlk x h).wr= []∧(zlk x h).al=0:=by
 unfold zlk at hc ⊢
 split at hc
 ·refine ⟨?_,rfl,rfl,rfl⟩
  obtain ⟨a,hv⟩:=hH.ref_alive hc hx
  exact ⟨_,hv⟩
 ·cases hx with
  |fp=>exact ⟨⟨_,rfl⟩,rfl,rfl,rfl⟩
 ·exact hc.elim
theorem zy6 {x y:AV}{v u:Value}{ats:Array TypeId}{ty:TypeId}{M:Nat→Prop} (hx:Rel φ w M x v) (hy:Rel φ w M y u) (hc:(zyf x y).cond):zbW P φ w M (zyf x y) (Builtin.min_ ats ty #[v,u]):=by
 unfold zyf at hc ⊢
 split at hc
 ·cases hx;cases hy;exact ⟨_,by simp [Builtin.min_,Builtin.min2], .v _,rfl,rfl⟩
 ·exact hc.elim
theorem zy4 {x y:AV}{v u:Value}{ats:Array TypeId}{ty:TypeId}{M:Nat→Prop} (hx:Rel φ w M x v) (hy:Rel φ w M y u) (hc:(zye x y).cond):zbW P φ w M (zye x y) (Builtin.max_ ats ty #[v,u]):=by
 unfold zye at hc ⊢
 split at hc
 ·cases hx;cases hy;exact ⟨_,by simp [Builtin.max_,Builtin.max2], .v _,rfl,rfl⟩
 ·exact hc.elim

theorem zoQ {x:AV}{v:Value}{i:Nat}{M:Nat→Prop} (hx:Rel φ w M x v) (hc:(zf4 x i).cond):zbW P φ w M (zf4 x i) (Instr.extract v i):=by
 unfold zf4 at hc ⊢
 split at hc
 ·cases hx with
  |tup hrel=>
   obtain ⟨hd',hr⟩:=hrel.getD i hc
   exact ⟨_,by simp [Instr.extract,hd'],hr,rfl,rfl⟩
 ·exact hc.elim

theorem zcg {d:Int}{x:Option AV}{v:Option Value}{l:Int}{M:Nat→Prop} (hx:match x,v with|none,none=>True|some x,some v=>Rel φ w M x v| _, _=>False) (h:zgk d x=some l):
  (v=none∧l=d)∨∃k,v=some (.int k l):=by
 unfold zgk at h
 split at h
 ·cases v with
  |none=>simp at h;exact .inl ⟨rfl,h.symm⟩
  |some v=>exact hx.elim
 ·rename_i k m
  cases v with
  |none=>exact hx.elim
  |some v=>cases hx;simp at h;subst h;exact .inr ⟨_,rfl⟩
 ·cases h
theorem zg6 {k:IntKind}{x:Int}{y:Nat}{c:BoundsCode} (h0:0≤x) (h1:x≤y):(Instr.sliceBound (.int k x) y c).run P w= .ok x.toNat w:=by
 simp [Instr.sliceBound,zbR,h0,h1]
theorem zcw {b:Bool}{len cap:Nat}{lo hi:Option Value}{l h':Int} (hl:(lo=none∧l=0)∨∃k,lo=some (.int k l)) (hh:(hi=none∧h'=len)∨∃k,hi=some (.int k h'))
  (h0:0≤l) (h1:l≤h') (h2:h'≤len) (h3:len≤cap):(Instr.sliceBounds b len cap lo hi none).run P w= .ok (l.toNat,h'.toNat,cap) w:=by
 unfold Instr.sliceBounds
 have hb:∀k c,(Instr.sliceBound (.int k h') cap c).run P w= .ok h'.toNat w:=fun k c=>zg6 aa aa
 have hb':∀k c,(Instr.sliceBound (.int k l) h'.toNat c).run P w= .ok l.toNat w:=fun k c=>zg6 h0 aa
 rcases hl with ⟨rfl,rfl⟩|⟨k,rfl⟩<;>rcases hh with ⟨rfl,rfl⟩|⟨k',rfl⟩<;>simp [hb]<;>(try (have:=hb' k .sliceB;first|(simp [this];done)|(simp only [Int.toNat_natCast] at this;simp [this])))

theorem ztq (hH:zaE φ F w M0 h){t:TypeId}{x:AV}{lo hi mx:Option AV}{v:Value}{vlo vhi vmx:Option Value} (hx:Rel φ w (Or M0 (Mut φ h)) x v)
  (hlo:match lo,vlo with|none,none=>True|some x,some v=>Rel φ w (Or M0 (Mut φ h)) x v| _, _=>False)
  (hhi:match hi,vhi with|none,none=>True|some x,some v=>Rel φ w (Or M0 (Mut φ h)) x v| _, _=>False)
  (hmx:mx=none→vmx=none)
  (hc:(zf6 P t x lo hi mx h).cond):zbW P φ w (Or M0 (Mut φ h)) (zf6 P t x lo hi mx h) (Instr.sliceAt t v vlo vhi vmx):=by
 unfold zf6 at hc ⊢
 split at hc
 ·rename_i e o g sz i len ht
  obtain rfl:=hmx rfl
  split at hc
  ·rename_i l h' hl hh
   try simp only [hl,hh]
   obtain ⟨hal,hsz,h0,h1,h2⟩:=hc
   obtain ⟨A,cap,rfl,hcap,hA⟩:=hH.sl_alive hal hx
   have hb:=zcw (P:=P) (w:=w) (b:=true) (zcg hlo hl) (zcg hhi hh) h0 h1 h2 hcap
   refine ⟨.slice (if cap=l.toNat then A else A.map (·.add (l.toNat * sz))) (h'.toNat - l.toNat) (cap - l.toNat), ?_, ?_,rfl,rfl⟩
   ·simp [Instr.sliceAt,Instr.slice,zaj (zcE ht),hb,zaY hsz]
   ·obtain ⟨mt,rs,A', _,hp⟩:=hH.alive_at hal
    refine .sl hp (Nat.le_refl _) fun _=> ?_
    rcases hA with ⟨rfl,rfl,rfl,rfl⟩|⟨rfl,rfl,hA⟩|⟨a,bs,hp',hsp,rfl,hcb⟩
    ·have:l=0:=by omega
     have:h'=0:=aa
     subst_vars
     cases hx with
     |sl ho hg hh'=>
      rw [hp] at ho
      simp only [Option.some.injEq,Prod.mk.injEq] at ho
      obtain ⟨rfl,rfl⟩:=ho
      rcases hh' rfl with ⟨rfl, _, _, _⟩|⟨_,a',he⟩|⟨a,bs,cap,rfl, _,he, _⟩
      ·exact .inl ⟨rfl,rfl,rfl,rfl⟩
      ·cases he
      ·cases he
    ·refine .inr (.inl ⟨aa, ?_⟩)
     cases A with
     |none=>cases hA
     |some a=>exact ⟨a,by simp [show l.toNat=0 by omega,show h'.toNat=0 by omega]⟩
    ·rw [hp'] at hp
     simp only [Option.some.injEq,Prod.mk.injEq,true_and] at hp
     subst hp
     by_cases hcl:cap=l.toNat
     ·refine .inr (.inl ⟨aa,⟨a.block,a.off+i * sz,none⟩, ?_⟩)
      rw [if_pos hcl,show h'.toNat - l.toNat=0 by omega,show cap - l.toNat=0 by omega]
     ·refine .inr (.inr ⟨a,bs,cap - l.toNat,rfl,hsp, ?_,aa, ?_⟩)
      ·simp [hcl,zcr,Nat.add_mul,Nat.add_assoc]
      ·have e1:(i+l.toNat) * sz+(cap - l.toNat) * sz=i * sz+cap * sz:=by
        rw [← Nat.add_mul,← Nat.add_mul];congr 1;omega
       omega
  ·exact hc.elim
 ·rename_i e sz rows ht
  obtain rfl:=hmx rfl
  split at hc
  ·rename_i l h' hl hh
   try simp only [hl,hh]
   obtain ⟨hsz,h0,h1,h2⟩:=hc
   cases hx with
   |nil _ A cap=>
    have e1:l=0:=by simp at h2;omega
    have e2:h'=0:=by simp at h2;omega
    subst e1 e2
    have hb:=zcw (P:=P) (w:=w) (b:=true) (len:=0) (cap:=cap) (zcg hlo hl) (zcg hhi hh) h0 h1 aa aa
    refine ⟨.slice (if cap=0 then A else A.map (·.add (0 * sz))) 0 (cap - 0), ?_, ?_,rfl,rfl⟩
    ·have hb':(Instr.sliceBounds true 0 cap vlo vhi none).run P w= .ok (0,0,cap) w:=hb
     simp [Instr.sliceAt,Instr.slice,zaj (zcE ht),hb',zaY hsz]
    ·simp only [Int.toNat_zero,Nat.sub_self,List.take_zero];exact .nil _ _ _
   | @lst _ _ a len cap C T fz hs hM hb hr hle hc hcap hv hrel=>
    subst hle
    have hbb:=zcw (P:=P) (w:=w) (b:=true) (len:=rows.length) (cap:=cap) (zcg hlo hl) (zcg hhi hh) h0 h1 h2 hcap
    have hlen:((rows.drop l.toNat).take (h'.toNat - l.toNat)).length=h'.toNat - l.toNat:=ak
    refine ⟨.slice (if cap=l.toNat then some a else (some a).map (·.add (l.toNat * sz))) (h'.toNat - l.toNat) (cap - l.toNat), ?_, ?_,rfl,rfl⟩
    ·simp [Instr.sliceAt,Instr.slice,zaj (zcE ht),hbb,zaY hsz]
    ·by_cases hcl:cap=l.toNat
     ·have e0:h'.toNat - l.toNat=0:=by omega
      simp only [e0,List.take_zero];exact .nil _ _ _
     ·have hr':∀r ∈ (rows.drop l.toNat).take (h'.toNat - l.toNat),r.length=sz:=fun r hr0=>hr r (List.mem_of_mem_drop (List.mem_of_mem_take hr0))
      have hm:(l.toNat+(h'.toNat - l.toNat)) * sz≤rows.length * sz:=Nat.mul_le_mul_right _ aa
      have hm':=Nat.add_mul l.toNat (h'.toNat - l.toNat) sz
      have e1:(C.toList.drop (a.off+l.toNat * sz)).take ((h'.toNat - l.toNat) * sz)=(((C.toList.drop a.off).take (rows.length * sz)).drop (l.toNat * sz)).take ((h'.toNat - l.toNat) * sz):=by
       rw [List.drop_take,List.drop_drop,List.take_take];congr 1;omega
      rw [if_neg hcl,Option.map_some,zcr hs]
      refine .lst (a:=⟨a.block,a.off+l.toNat * sz,none⟩) rfl hM hb hr' hlen.symm (by rw [hlen];simp only;omega) aa ?_ ?_
      ·intro u hu
       rw [hlen,e1] at hu
       exact hv u (List.mem_of_mem_drop (List.mem_of_mem_take hu))
      ·rw [hlen];simp only;rw [e1,zdE (fun r hr0=>hr r (List.mem_of_mem_drop hr0)),zdD hr]
       exact (hrel.drop _).take _
  ·exact hc.elim
 ·rename_i e ht
  obtain rfl:=hmx rfl
  split at hc
  ·rename_i l h' hl hh
   try simp only [hl,hh]
   obtain ⟨rfl,rfl,h2⟩:=hc
   cases hx
   obtain ⟨sz,hsz⟩:=Option.isSome_iff_exists.1 h2
   have hb:(Instr.sliceBounds true 0 0 vlo vhi none).run P w= .ok (0,0,0) w:=zcw (P:=P) (w:=w) (b:=true) (len:=0) (cap:=0) (zcg hlo hl) (zcg hhi hh) (Int.le_refl _) (Int.le_refl _) (Int.le_refl _) (Nat.le_refl _)
   exact ⟨.slice none 0 0,by simp [Instr.sliceAt,Instr.slice,zaj (zcE ht),hb,zaY hsz], .v _,rfl,rfl⟩
  ·exact hc.elim
 ·rename_i s ht
  obtain rfl:=hmx rfl
  split at hc
  ·rename_i l h' hl hh
   try simp only [hl,hh]
   obtain ⟨h0,h1,h2⟩:=hc
   cases hx
   have hb:=zcw (P:=P) (w:=w) (b:=false) (len:=s.size) (cap:=s.size) (zcg hlo hl) (zcg hhi hh) h0 h1 aZ (Nat.le_refl _)
   exact ⟨_,by simp [Instr.sliceAt,Instr.slice,zaj (zix ht),hb], .v _,rfl,rfl⟩
  ·exact hc.elim
 ·exact hc.elim
end reads
end Go.Av
end
section
/- Our library, part 7: the abstract operations are sound: those that make memory or write it. -/
namespace Go.Av
open Go

theorem Fr.refl (w:World) (U:Nat→Prop):Fr w U w:=⟨rfl,rfl,rfl,Nat.le_refl _,Nat.le_refl _,fun _ _ _=>rfl⟩
theorem zc8.refl (φ:zaz) (w:World) (M0:Nat→Prop) (h:zaq):zc8 φ w M0 h φ w h:=⟨φ.le_refl,fun _ h=> .inl h,Fr.refl _ _,fun _ h=> .inl h⟩
theorem zc8.trans {φ φ₁ φ₂:zaz}{w w₁ w₂:World}{M0:Nat→Prop}{h h₁ h₂:zaq} (a:zc8 φ w M0 h φ₁ w₁ h₁) (b:zc8 φ₁ w₁ M0 h₁ φ₂ w₂ h₂):zc8 φ w M0 h φ₂ w₂ h₂ where
 le:=zaz.le_trans a.le b.le
 or:=fun k hk=>by
  rcases b.or k hk with h|h
  ·exact a.or k h
  ·exact .inr (Nat.le_trans a.fr.size h)
 fr:=⟨b.fr.os.trans a.fr.os,b.fr.tape.trans a.fr.tape,b.fr.output.trans a.fr.output,Nat.le_trans a.fr.drawn b.fr.drawn,Nat.le_trans a.fr.size b.fr.size,fun k hk hu=>
  (b.fr.block k (Nat.lt_of_lt_of_le hk a.fr.size) (fun hm=>by rcases a.mutd k hm with h|h;exact hu h;omega)).trans (a.fr.block k hk hu)⟩
 mutd:=fun k hk=>by
  rcases b.mutd k hk with h|h
  ·exact a.mutd k h
  ·exact .inr (Nat.le_trans a.fr.size h)
section
variable {P:Program} {φ φ':zaz} {F:Nat→Prop} {n:Nat} {w w':World} {M0:Nat→Prop} {h h':zaq}
theorem zc8.rel (s:zc8 φ w M0 h φ' w' h'){x:AV}{v:Value} (hx:Rel φ w (Or M0 (Mut φ h)) x v):Rel φ' w' (Or M0 (Mut φ' h')) x v:=
 hx.keep s.le (fun k hk hlt=>s.fr.block k hlt (fun hm=>hk (.inr hm))) s.or
theorem zc8.relL (s:zc8 φ w M0 h φ' w' h'){xs:List AV}{vs:List Value} (hx:zaJ φ w (Or M0 (Mut φ h)) xs vs):zaJ φ' w' (Or M0 (Mut φ' h')) xs vs:=
 hx.keep s.le (fun k hk hlt=>s.fr.block k hlt (fun hm=>hk (.inr hm))) s.or

def Fal (F:Nat→Prop) (n:Nat):Nat→(Nat→Prop)
 |0=>F
 | _+1=>fun o=>F o∧o≠n
def ztG (P:Program) (φ:zaz) (F:Nat→Prop) (n:Nat) (w:World) (M0:Nat→Prop) (h:zaq) (r:Res) (s:Sem Value):Prop:=
 ∃u w' φ',s.run P w= .ok u w'∧Rel φ' w' (Or M0 (Mut φ' (zam r.wr h))) r.val u∧zaE φ' (Fal F n r.al) w' M0 (zam r.wr h)∧zc8 φ w M0 h φ' w' (zam r.wr h)
theorem zEw (hH:zaE φ F w M0 h){r:Res}{s:Sem Value} (hr:zbW P φ w (Or M0 (Mut φ h)) r s):ztG P φ F n w M0 h r s:=by
 obtain ⟨u,h1,h2,h3,h4⟩:=hr
 refine ⟨u,w,φ,h1, ?_, ?_, ?_⟩
 ·rw [h3];exact h2
 ·rw [h3,h4];exact hH
 ·rw [h3];exact .refl _ _ _ _

theorem zb4 (w:World) (o:Obj) (k:Nat) (hk:k<w.heap.size):({ w with heap:=w.heap.push o}:World).heap[k]? =w.heap[k]? :=by
 show (w.heap.push o)[k]? = _
 rw [Array.getElem?_push,if_neg aa]
theorem zdY (w:World) (o:Obj):({ w with heap:=w.heap.push o}:World).heap[w.heap.size]? =some o:=by
 show (w.heap.push o)[w.heap.size]? = _
 simp
theorem zyr (w:World) (o:Obj) (U:Nat→Prop):Fr w U { w with heap:=w.heap.push o}:=
 ⟨rfl,rfl,rfl,Nat.le_refl _,ad,fun k hk _=>zb4 w o k hk⟩
theorem zaE.place_old (hH:zaE φ F w M0 h){o:Nat}{mt:Bool}{g sz:Nat}{rs:List (List AV)}{a:Addr}{b:Nat} (ho:h o=some (.rows mt g sz rs)) (hp:φ o=some (g,some (a,b))):
  a.block<w.heap.size∧¬F o:=by
 constructor
 ·obtain ⟨A,hA,h1⟩:=hH.obj _ _ _ _ _ ho
  rw [hp] at hA
  simp only [Option.some.injEq,Prod.mk.injEq,true_and] at hA
  subst hA
  rcases h1 with ⟨h1, _⟩|⟨a',bs,h1, _,hb⟩
  ·cases h1
  ·simp only [Option.some.injEq,Prod.mk.injEq] at h1
   obtain ⟨rfl,rfl⟩:=h1
   exact hb.blk
 ·intro hle
  rw [hH.fresh o hle] at hp;cases hp
theorem zyU (hH:zaE φ F w M0 h) (hn:F n) (x:Nat×Option (Addr×Nat)):φ.le (upd φ n (some x)):=by
 intro o y hy
 have:o≠n:=fun e=>by subst e;rw [hH.fresh o hn] at hy;cases hy
 exact ⟨y,by rw [zbs _ _ this];exact hy,Nat.le_refl _,fun _=>rfl⟩

theorem zaE.new (hH:zaE φ F w M0 h) (hn:F n){sz:Nat}{rs:List (List AV)}{C:Array Value}{T:TypeId} (hr:∀r ∈ rs,r.length=sz) (hl:rs.length * sz≤C.size)
  (hv:∀u ∈ C.toList.take (rs.length * sz),zch u=true) (hrel:zaJ φ w (Or M0 (Mut φ h)) rs.flatten (C.toList.take (rs.length * sz))):
  zaE (upd φ n (some (0,some (⟨w.heap.size,0,none⟩,C.size)))) (fun o=>F o∧o≠n) { w with heap:=w.heap.push (.cells C T)} M0 (upd h n (some (.rows true 0 sz rs)))∧
   zc8 φ w M0 h (upd φ n (some (0,some (⟨w.heap.size,0,none⟩,C.size)))) { w with heap:=w.heap.push (.cells C T)} (upd h n (some (.rows true 0 sz rs))):=by
 have hle:=zyU hH hn (0,some ((⟨w.heap.size,0,none⟩:Addr),C.size))
 obtain ⟨h1,h2,h3⟩:=hH.set (w':={ w with heap:=w.heap.push (.cells C T)}) (F':=fun o=>F o∧o≠n) (o:=n) (mt:=true) (g:=0) (sz:=sz) (rs:=rs) (A:=some (⟨w.heap.size,0,none⟩,C.size))
  (fun _ h=>h.1) (fun h=>h.2 rfl) ad hle (fun k _ hk=>zb4 w _ k hk)
  (fun o' mt g sz rs a b _ ho hp=>by
   have:=(hH.place_old ho hp).1
   refine ⟨zb4 w _ _ this,fun a₁ b₁ e=> ?_⟩
   simp only [Option.some.injEq,Prod.mk.injEq] at e
   obtain ⟨rfl, _⟩:=e
   exact fun e=>by simp only at e;omega)
  (fun a b e=>by
   simp only [Option.some.injEq,Prod.mk.injEq] at e
   obtain ⟨rfl, _⟩:=e
   exact .inr (Nat.le_refl _))
  (.inr ⟨⟨w.heap.size,0,none⟩,C.size,C,T,rfl,rfl,fun hm=>bP,zdY w _,rfl,hr,cC,
   by simpa using hv,by simpa using hrel⟩)
 refine ⟨h1,hle,h2,zyr w _ _,fun k hk=> ?_⟩
 rcases h3 k hk with h|⟨a,b,e,rfl⟩
 ·exact .inl h
 ·simp only [Option.some.injEq,Prod.mk.injEq] at e
  obtain ⟨rfl, _⟩:=e
  exact .inr (Nat.le_refl _)
theorem zaE.newMap (hH:zaE φ F w M0 h) (hn:F n):
  zaE (upd φ n (some (0,some (⟨w.heap.size,0,some 0⟩,0)))) (fun o=>F o∧o≠n) { w with heap:=w.heap.push (.map #[] 0)} M0 (upd h n (some (.rows true 0 2 [])))∧
   zc8 φ w M0 h (upd φ n (some (0,some (⟨w.heap.size,0,some 0⟩,0)))) { w with heap:=w.heap.push (.map #[] 0)} (upd h n (some (.rows true 0 2 []))):=by
 have hle:=zyU hH hn (0,some ((⟨w.heap.size,0,some 0⟩:Addr),0))
 obtain ⟨h1,h2,h3⟩:=hH.set (w':={ w with heap:=w.heap.push (.map #[] 0)}) (F':=fun o=>F o∧o≠n) (o:=n) (mt:=true) (g:=0) (sz:=2) (rs:= []) (A:=some (⟨w.heap.size,0,some 0⟩,0))
  (fun _ h=>h.1) (fun h=>h.2 rfl) ad hle (fun k _ hk=>zb4 w _ k hk)
  (fun o' mt g sz rs a b _ ho hp=>by
   have:=(hH.place_old ho hp).1
   refine ⟨zb4 w _ _ this,fun a₁ b₁ e=> ?_⟩
   simp only [Option.some.injEq,Prod.mk.injEq] at e
   obtain ⟨rfl, _⟩:=e
   exact fun e=>by simp only at e;omega)
  (fun a b e=>by
   simp only [Option.some.injEq,Prod.mk.injEq] at e
   obtain ⟨rfl, _⟩:=e
   exact .inr (Nat.le_refl _))
  (.inl (.inr ⟨⟨w.heap.size,0,some 0⟩,0, #[],0,rfl,ad,fun hm=>bP,zdY w _,rfl,⟨rfl,ad⟩,bo⟩))
 refine ⟨h1,hle,h2,zyr w _ _,fun k hk=> ?_⟩
 rcases h3 k hk with h|⟨a,b,e,rfl⟩
 ·exact .inl h
 ·simp only [Option.some.injEq,Prod.mk.injEq] at e
  obtain ⟨rfl, _⟩:=e
  exact .inr (Nat.le_refl _)
theorem zaE.newNil (hH:zaE φ F w M0 h) (hn:F n) (sz:Nat):
  zaE (upd φ n (some (0,none))) (fun o=>F o∧o≠n) w M0 (upd h n (some (.rows true 0 sz [])))∧zc8 φ w M0 h (upd φ n (some (0,none))) w (upd h n (some (.rows true 0 sz []))):=by
 have hle:=zyU hH hn (0,none)
 obtain ⟨h1,h2,h3⟩:=hH.set (w':=w) (F':=fun o=>F o∧o≠n) (o:=n) (mt:=true) (g:=0) (sz:=sz) (rs:= []) (A:=none)
  (fun _ h=>h.1) (fun h=>h.2 rfl) (Nat.le_refl _) hle (fun k _ hk=>rfl) (fun o' mt g sz rs a b _ ho hp=>⟨rfl,fun a₁ b₁ e=>by cases e⟩) (fun a b e=>by cases e) (.inl (.inl ⟨rfl,rfl⟩))
 refine ⟨h1,hle,h2,Fr.refl _ _,fun k hk=> ?_⟩
 rcases h3 k hk with h|⟨a,b,e,rfl⟩
 ·exact .inl h
 ·cases e

theorem zk1 (hH:zaE φ F w M0 h){x:AV}{v:Value}{M:Nat→Prop} (hx:Rel φ w M x v) (hc:x.isCell h):zch v=true:=by
 cases x with
 |v y=>cases hx;exact hc
 |ref o g sz i off=>obtain ⟨a,rfl⟩:=hH.ref_alive hc hx;rfl
 |sl o g sz i len=>obtain ⟨A,cap,rfl, _⟩:=hH.sl_alive hc hx;rfl
 |lst=>cases hx<;>rfl
 |fp=>cases hx;rfl
 |fn=>cases hx;rfl
 | _=>exact hc.elim
theorem zhO (hH:zaE φ F w M0 h){x:AV}{v:Value}{M:Nat→Prop} (hx:Rel φ w M x v) (hc:x.okCells h):
  zaJ φ w M x.cells v.cells.toList∧∀u ∈ v.cells.toList,zch u=true:=by
 cases x with
 |agg cs=>cases hx with|agg hv hrel=>exact ⟨hrel,hv⟩
 | _=>
  have h1:=zk1 hH hx hc
  have e:v.cells= #[v]:=by cases v<;>simp_all [Value.cells,zch,Value.oneCell']
  rw [e]
  exact ⟨.cons hx .nil,bi⟩

theorem zta (hH:zaE φ F w M0 h) (hn:F n){x:AV}{v:Value}{t:TypeId} (hx:Rel φ w (Or M0 (Mut φ h)) x v) (hc:x.okCells h):
  ztG P φ F n w M0 h ⟨True, .ref n 0 x.cells.length 0 0, [(n,some (.rows true 0 x.cells.length [x.cells]))],1⟩ (do pure (.pointer (some (← newVar t v)))):=by
 obtain ⟨h1,h2⟩:=zhO hH hx hc
 have hl:=h1.length
 obtain ⟨a,b⟩:=hH.new hn (sz:=x.cells.length) (rs:= [x.cells]) (C:=v.cells) (T:=t) ad (by simp [hl]) (by rw [List.length_singleton,Nat.one_mul,hl,List.take_length];exact h2)
  (by rw [List.length_singleton,Nat.one_mul,hl,List.take_length,List.flatten_singleton];exact h1)
 refine ⟨_, _, _,by simp [newVar,newRow];rfl, ?_,a,b⟩
 exact .ref (zax _ _ _) (Nat.le_refl _) fun _=>⟨_, _,rfl,rfl,ad⟩
theorem zAR (hH:zaE φ F w M0 h) (hn:F n){x:AV}{v:Value}{t:TypeId} (hx:Rel φ w (Or M0 (Mut φ h)) x v) (hc:x.okCells h):
  ztG P φ F n w M0 h ⟨x.okCells h, .ref n 0 x.cells.length 0 0, [(n,some (.rows true 0 x.cells.length [x.cells]))],1⟩ (Instr.box t v):=
 zta (P:=P) (t:=t) hH hn hx hc
theorem zc2 {M:Nat→Prop} (l:List Value):zaJ φ w M (l.map .v) l:=by
 refine zEH ad fun k hk hv=> ?_
 simp only [List.getElem_map];exact .v _
theorem zvf (hH:zaE φ F w M0 h) (hn:F n){t:TypeId}{z:List AV} (hz:tz P t=some z):
  ztG P φ F n w M0 h ⟨True, .ref n 0 z.length 0 0, [(n,some (.rows true 0 z.length [z]))],1⟩ (Instr.alloc t true (.tuple #[])):=by
 obtain ⟨u,h1,rfl,h2⟩:=zbx (P:=P) (w:=w) hz
 obtain ⟨a,b⟩:=hH.new hn (sz:=(u.cells.toList.map AV.v).length) (rs:= [u.cells.toList.map .v]) (C:=u.cells) (T:=t) ad ad (by rw [List.length_singleton,Nat.one_mul,List.length_map,List.take_length];exact h2)
  (by rw [List.length_singleton,Nat.one_mul,List.length_map,List.take_length,List.flatten_singleton];exact zc2 u.cells.toList)
 refine ⟨.pointer (some ⟨w.heap.size,0,none⟩), _, _,by simp [Instr.alloc,h1,newVar,newRow], ?_,a,b⟩
 exact .ref (zax _ _ _) (Nat.le_refl _) fun _=>⟨_, _,rfl,rfl,ad⟩

theorem zqC (off:Nat):∀ (us:List Value) (cs:Array Value) (k:Nat),
  ((us.zipIdx k).foldl (fun cs (p:Value×Nat)=>cs.setIfInBounds (off+p.2) p.1) cs).toList=zfA cs.toList (off+k) us
 | [], _, _=>rfl
 |u::us,cs,k=>by
  simp only [List.zipIdx_cons,List.foldl_cons,zfA]
  rw [zqC off us]
  simp [Nat.add_assoc]
theorem ziY (off:Nat) (us:Array Value) (cs:Array Value):
  (us.zipIdx.foldl (fun cs (p:Value×Nat)=>cs.setIfInBounds (off+p.2) p.1) cs).toList=zfA cs.toList off us.toList:=by
 have:=zqC off us.toList cs 0
 simp only [Nat.add_zero] at this
 rw [← this,← Array.foldl_toList]
 simp
theorem zjX {row cs:List AV} (h:row.length=cs.length):setMany row 0 cs=cs:=ztp cs row h
theorem zoS (hH:zaE φ F w M0 h){sz:Nat}:∀ (parts:List (Nat×AV)) (vparts:List (Nat×Value)) (rs:List (List AV)) (C:Array Value),
  (∀r ∈ rs,r.length=sz)→C.size=rs.length * sz→(∀u ∈ C.toList,zch u=true)→zaJ φ w (Or M0 (Mut φ h)) rs.flatten C.toList→
  parts.length=vparts.length→(∀ (k:Nat) (hk:k<parts.length) (hk':k<vparts.length),parts[k].1=vparts[k].1∧Rel φ w (Or M0 (Mut φ h)) parts[k].2 vparts[k].2)→
  (zcz h sz rs parts).1→∃C',Instr.fill (fun i=>some (i * sz,sz)) C vparts=some C'∧C'.size=C.size∧(zcz h sz rs parts).2.length=rs.length∧
   (∀r ∈ (zcz h sz rs parts).2,r.length=sz)∧(∀u ∈ C'.toList,zch u=true)∧zaJ φ w (Or M0 (Mut φ h)) (zcz h sz rs parts).2.flatten C'.toList:=by
 intro parts
 induction parts with
 |nil=>
  intro vparts rs C hr hC hv hrel hlen _ _
  cases vparts with
  |nil=>exact ⟨C,rfl,rfl,rfl,hr,hv,hrel⟩
  |cons=>simp at hlen
 |cons p parts ih=>
  intro vparts rs C hr hC hv hrel hlen hp hc
  cases vparts with
  |nil=>simp at hlen
  |cons q vparts=>
   obtain ⟨i,x⟩:=p
   obtain ⟨j,v⟩:=q
   obtain ⟨e,hx⟩:=hp 0 ad ad
   simp only [List.getElem_cons_zero] at e hx
   subst e
   obtain ⟨hi,hsz,hok,hc⟩:=hc
   obtain ⟨h1,h2⟩:=zhO hH hx hok
   have hl:=h1.length
   have hle:i * sz+sz≤rs.length * sz:=by
    have:=Nat.mul_le_mul_right sz (show i+1≤rs.length from hi)
    rw [Nat.add_mul] at this;omega
   have hvs:v.cells.size=sz:=bT
   obtain ⟨C',hC'⟩:∃C':Array Value,C'=v.cells.zipIdx.foldl (fun cs (p:Value×Nat)=>cs.setIfInBounds (i * sz+p.2) p.1) C:=⟨_,rfl⟩
   have hC'l:C'.toList=zfA C.toList (i * sz) v.cells.toList:=by rw [hC',ziY]
   have hsize:C'.size=C.size:=by rw [← Array.length_toList,hC'l,zcv,Array.length_toList]
   have hrow:(rs.set i x.cells).flatten=setMany rs.flatten (i * sz) x.cells:=by
    have:=zlp hr i hi 0 x.cells aa
    rw [zjX (by rw [hr _ (List.getElem_mem _),hsz])] at this
    simpa using this
   obtain ⟨C'',hf,hs,hl',hr',hv',hrel'⟩:=ih vparts (rs.set i x.cells) C'
    (fun r hm=>by rcases List.mem_or_eq_of_mem_set hm with h|h;exact hr r h;rw [h,hsz])
    (by rw [hsize,hC,List.length_set])
    (fun u hu=>by rw [hC'l] at hu;rcases zfB _ _ _ _ hu with h|h;exact hv u h;exact h2 u h)
    (by rw [hC'l,hrow];exact zEG _ hrel h1)
    (by simpa using hlen)
    (fun k hk hk'=>by have:=hp (k+1) aC dj;simpa using this) hc
   refine ⟨C'', ?_,by rw [hs,hsize],by simpa [zcz] using hl',hr',hv',hrel'⟩
   have hneg:(decide (v.cells.size≠sz)||decide (i * sz+v.cells.size>C.size))=false:=ak
   simp only [Instr.fill,hneg,Bool.false_eq_true,if_false]
   rw [← hf,hC']
theorem zd4 (T:TypeId) (C:Array Value):(newRow T C).run P w= .ok ⟨w.heap.size,0,none⟩ { w with heap:=w.heap.push (.cells C T)}:=by
 simp [newRow]
theorem zin {z:List AV}{u:List Value}{M:Nat→Prop} (h:zaJ φ w M z u):∀k,zaJ φ w M (List.replicate k z).flatten (List.replicate k u).flatten
 |0=>bo
 |k+1=>by simp only [List.replicate_succ,List.flatten_cons];exact h.append (zin h k)
theorem zgo (u:Array Value) (hu:0<u.size):∀k,((Array.range (k * u.size)).map (u[· % u.size]!)).toList=(List.replicate k u.toList).flatten
 |0=>ad
 |k+1=>by
  have ih:=zgo u hu k
  have hl:(List.replicate k u.toList).flatten.length=k * u.size:=ad
  rw [List.replicate_succ',List.flatten_append,← ih]
  apply List.ext_getElem
  ·simp [Nat.add_mul]
  ·intro i h1 h2
   simp only [Array.toList_map,Array.toList_range,List.getElem_map,List.getElem_range]
   by_cases hi:i<k * u.size
   ·rw [List.getElem_append_left aJ];simp
   ·rw [List.getElem_append_right aJ]
    simp only [List.length_map,List.length_range,List.flatten_singleton,Array.getElem_toList]
    have hb:i<(k+1) * u.size:=bi
    rw [Nat.add_mul] at hb
    have e:i % u.size=i - k * u.size:=by
     have:i=(i - k * u.size)+k * u.size:=aa
     rw [this,Nat.add_mul_mod_self_right,Nat.mod_eq_of_lt aa];omega
    rw [e,getElem!_pos u (i - k * u.size) aa]

theorem zkY (hH:zaE φ F w M0 h) (hn:F n){t:TypeId}{len:Nat}{parts:List (Nat×AV)}{vparts:Array (Nat×Value)} (hlen:parts.length=vparts.toList.length)
  (hp:∀ (k:Nat) (hk:k<parts.length) (hk':k<vparts.toList.length),parts[k].1=vparts.toList[k].1∧Rel φ w (Or M0 (Mut φ h)) parts[k].2 vparts.toList[k].2)
  (hc:(zcZ P n t len parts h).cond):ztG P φ F n w M0 h (zcZ P n t len parts h) (Instr.buildSlice t len vparts):=by
 unfold zcZ at hc ⊢
 split at hc
 ·rename_i e ht
  split at hc
  ·rename_i sz z hsz hz
   try simp only [hsz,hz]
   obtain ⟨h1,h2,h3,h4⟩:=hc
   obtain ⟨u,hu,rfl,hcv⟩:=zbx (P:=P) (w:=w) hz
   have hus:u.cells.size=sz:=aZ
   have hC:((Array.range (len * sz)).map (u.cells[· % u.cells.size]!)).toList=(List.replicate len u.cells.toList).flatten:=by
    rw [← hus];exact zgo u.cells aa len
   obtain ⟨C',hf,hs,hl,hr,hv,hrel⟩:=zoS hH parts vparts.toList (List.replicate len (u.cells.toList.map .v)) ((Array.range (len * sz)).map (u.cells[· % u.cells.size]!))
    (fun r hr=>by rw [(List.mem_replicate.1 hr).2];simpa using hus) ad (fun c hm=>by
     rw [hC] at hm
     obtain ⟨l,hl,hm⟩:=List.mem_flatten.1 hm
     rw [(List.mem_replicate.1 hl).2] at hm
     exact hcv c hm)
    (by rw [hC];exact zin (zc2 _) len) hlen hp h1
   have hl':(zcz h sz (List.replicate len (u.cells.toList.map AV.v)) parts).2.length=len:=cC
   have hCs:C'.size=len * sz:=by rw [hs];simp
   have et:C'.toList.take (len * sz)=C'.toList:=by rw [← hCs];exact List.take_of_length_le ad
   obtain ⟨a,b⟩:=hH.new hn (sz:=sz) (rs:=(zcz h sz (List.replicate len (u.cells.toList.map AV.v)) parts).2) (C:=C') (T:=e) hr (by rw [hl',hCs];exact Nat.le_refl _)
    (by rw [hl',et];exact hv) (by rw [hl',et];exact hrel)
   refine ⟨.slice (some ⟨w.heap.size,0,none⟩) len len, _, _, ?_, ?_,a,b⟩
   ·have hlt:¬len * sz>2 ^ 24:=by omega
    by_cases h0:len * sz=0
    ·have hf0:Instr.fill (fun i=>some (i * sz,sz)) #[] vparts.toList=some C':=by
      rw [← hf];congr 1;rw [h0];simp
     have hr0:(Array.range (len * sz))= #[]:=by rw [h0];simp
     simp only [Instr.buildSlice,Sem.run_bind,zaj (zcE ht),Result.andThen_ok,zaY hsz,hlt,if_false,h0,if_true,Sem.run_pure]
     have e0:∀f:Nat→Value,Array.map f (Array.range 0)= #[]:=fun f=>ad
     simp only [e0,hf0,show ¬(0>2 ^ 24) from by omega,if_false,Sem.run_map,zd4,Result.andThen_ok,Sem.run_bind,Sem.run_pure]
    ·simp only [Instr.buildSlice,Sem.run_bind,zaj (zcE ht),Result.andThen_ok,zaY hsz,hlt,if_false,h0,hu,Sem.run_pure,hf,zd4]
   ·refine .sl (zax _ _ _) (Nat.le_refl _) fun _=> .inr (.inr ⟨_, _,len,rfl,rfl,ad,Nat.le_refl _, ?_⟩)
    simp only [hCs];omega
  ·exact hc.elim
 ·exact hc.elim
theorem zmU (hH:zaE φ F w M0 h){t:TypeId}{places:Array (Nat×Nat)} (hpl:∀i d k,zyp P t i=some d→(zCu P t i).bind (tsz P)=some k→places[i]? =some (d,k)):
  ∀ (parts:List (Nat×AV)) (vparts:List (Nat×Value)) (cs:List AV) (C:Array Value),(∀u ∈ C.toList,zch u=true)→zaJ φ w (Or M0 (Mut φ h)) cs C.toList→
  parts.length=vparts.length→(∀ (k:Nat) (hk:k<parts.length) (hk':k<vparts.length),parts[k].1=vparts[k].1∧Rel φ w (Or M0 (Mut φ h)) parts[k].2 vparts[k].2)→
  (zda P h t cs parts).1→∃C',Instr.fill (places[·]?) C vparts=some C'∧(∀u ∈ C'.toList,zch u=true)∧zaJ φ w (Or M0 (Mut φ h)) (zda P h t cs parts).2 C'.toList:=by
 intro parts
 induction parts with
 |nil=>
  intro vparts cs C hv hrel hlen _ _
  cases vparts with
  |nil=>exact ⟨C,rfl,hv,hrel⟩
  |cons=>simp at hlen
 |cons p parts ih=>
  intro vparts cs C hv hrel hlen hp hc
  cases vparts with
  |nil=>simp at hlen
  |cons q vparts=>
   obtain ⟨i,x⟩:=p
   obtain ⟨j,v⟩:=q
   obtain ⟨e,hx⟩:=hp 0 ad ad
   simp only [List.getElem_cons_zero] at e hx
   subst e
   simp only [zda] at hc ⊢
   split at hc
   ·rename_i d k hd hk
    try simp only [hd,hk]
    obtain ⟨hsz,hle,hok,hc⟩:=hc
    obtain ⟨h1,h2⟩:=zhO hH hx hok
    have hl:=h1.length
    have hvs:v.cells.size=k:=bT
    have hCl:=hrel.length
    obtain ⟨C',hC'⟩:∃C':Array Value,C'=v.cells.zipIdx.foldl (fun cs (p:Value×Nat)=>cs.setIfInBounds (d+p.2) p.1) C:=⟨_,rfl⟩
    have hC'l:C'.toList=zfA C.toList d v.cells.toList:=by rw [hC',ziY]
    obtain ⟨C'',hf,hv',hrel'⟩:=ih vparts (setMany cs d x.cells) C'
     (fun u hu=>by rw [hC'l] at hu;rcases zfB _ _ _ _ hu with h|h;exact hv u h;exact h2 u h)
     (by rw [hC'l];exact zEG _ hrel h1) (by simpa using hlen)
     (fun k hk hk'=>by have:=hp (k+1) aC dj;simpa using this) hc
    refine ⟨C'', ?_,hv',hrel'⟩
    have hneg:(decide (v.cells.size≠k)||decide (d+v.cells.size>C.size))=false:=by
     have:C.size=cs.length:=by rw [hCl,Array.length_toList]
     simp;omega
    simp only [Instr.fill,hpl i d k hd hk,hneg,Bool.false_eq_true,if_false]
    rw [← hf,hC']
   ·exact hc.elim
theorem zqp (hH:zaE φ F w M0 h){sz:Nat}:∀ (parts:List (Nat×AV)) (vparts:List (Nat×Value)) (cs:List AV) (C:Array Value),(∀u ∈ C.toList,zch u=true)→zaJ φ w (Or M0 (Mut φ h)) cs C.toList→
  parts.length=vparts.length→(∀ (k:Nat) (hk:k<parts.length) (hk':k<vparts.length),parts[k].1=vparts[k].1∧Rel φ w (Or M0 (Mut φ h)) parts[k].2 vparts[k].2)→
  (zfs h sz cs parts).1→∃C',Instr.fill (fun i=>some (i * sz,sz)) C vparts=some C'∧(∀u ∈ C'.toList,zch u=true)∧zaJ φ w (Or M0 (Mut φ h)) (zfs h sz cs parts).2 C'.toList:=by
 intro parts
 induction parts with
 |nil=>
  intro vparts cs C hv hrel hlen _ _
  cases vparts with
  |nil=>exact ⟨C,rfl,hv,hrel⟩
  |cons=>simp at hlen
 |cons p parts ih=>
  intro vparts cs C hv hrel hlen hp hc
  cases vparts with
  |nil=>simp at hlen
  |cons q vparts=>
   obtain ⟨i,x⟩:=p
   obtain ⟨j,v⟩:=q
   obtain ⟨e,hx⟩:=hp 0 ad ad
   simp only [List.getElem_cons_zero] at e hx
   subst e
   simp only [zfs] at hc ⊢
   obtain ⟨hsz,hle,hok,hc⟩:=hc
   obtain ⟨h1,h2⟩:=zhO hH hx hok
   have hl:=h1.length
   have hvs:v.cells.size=sz:=bT
   have hCl:=hrel.length
   obtain ⟨C',hC'⟩:∃C':Array Value,C'=v.cells.zipIdx.foldl (fun cs (p:Value×Nat)=>cs.setIfInBounds (i * sz+p.2) p.1) C:=⟨_,rfl⟩
   have hC'l:C'.toList=zfA C.toList (i * sz) v.cells.toList:=by rw [hC',ziY]
   obtain ⟨C'',hf,hv',hrel'⟩:=ih vparts (setMany cs (i * sz) x.cells) C'
    (fun u hu=>by rw [hC'l] at hu;rcases zfB _ _ _ _ hu with h|h;exact hv u h;exact h2 u h)
    (by rw [hC'l];exact zEG _ hrel h1) (by simpa using hlen)
    (fun k hk hk'=>by have:=hp (k+1) aC dj;simpa using this) hc
   refine ⟨C'', ?_,hv',hrel'⟩
   have hneg:(decide (v.cells.size≠sz)||decide (i * sz+v.cells.size>C.size))=false:=by
    have:C.size=cs.length:=by rw [hCl,Array.length_toList]
    simp;omega
   simp only [Instr.fill,hneg,Bool.false_eq_true,if_false]
   rw [← hf,hC']
theorem zn8:∀ (l:List Field),(∀f ∈ l,∃i,P.info? f.type=some i)→
  ((l.mapM fun (f:Field)=>do pure (f.offset,← sizeOf f.type):Sem (List (Nat×Nat)))).run P w= .ok (l.map fun f=>(f.offset,((P.info? f.type).map (·.size)).getD 0)) w
 | [], _=>ad
 |f::l,hl=>by
  obtain ⟨i,hi⟩:=hl f ad
  have ih:=zn8 l (fun f hf=>hl f (by simp [hf]))
  have hs:(sizeOf f.type).run P w= .ok i.size w:=by simp [sizeOf,typeInfo,hi]
  simp only [List.mapM_cons,Sem.run_bind,hs,Result.andThen_ok,Sem.run_pure,ih,List.map_cons,hi,Option.map_some,Option.getD_some]
theorem zvo (hH:zaE φ F w M0 h){t:TypeId}{parts:List (Nat×AV)}{vparts:Array (Nat×Value)} (hlen:parts.length=vparts.toList.length)
  (hp:∀ (k:Nat) (hk:k<parts.length) (hk':k<vparts.toList.length),parts[k].1=vparts.toList[k].1∧Rel φ w (Or M0 (Mut φ h)) parts[k].2 vparts.toList[k].2)
  (hc:(ziR P t parts h).cond):zbW P φ w (Or M0 (Mut φ h)) (ziR P t parts h) (Instr.build t vparts):=by
 unfold ziR at hc ⊢
 split at hc
 ·rename_i z ht hz
  obtain ⟨hfi,hc⟩:=hc
  obtain ⟨u,hu,rfl,hcv⟩:=zbx (P:=P) (w:=w) hz
  obtain ⟨fs,hfs⟩:=tk_str ht
  have hinfo:∀f ∈ fs.toList,∃i,P.info? f.type=some i:=by
   intro f hf
   simp only [tfi,hfs,List.all_eq_true] at hfi
   exact Option.isSome_iff_exists.1 (hfi f hf)
  have hpl:∀i d k,zyp P t i=some d→(zCu P t i).bind (tsz P)=some k→((fs.toList.map fun f=>(f.offset,((P.info? f.type).map (·.size)).getD 0)).toArray)[i]? =some (d,k):=by
   intro i d k hd hk
   obtain ⟨fs',fl,h1,h2,h3⟩:=zlr hd
   rw [hfs] at h1
   simp only [Option.some.injEq,TypeDesc.struct.injEq] at h1
   subst h1
   simp only [zCu,hfs,h2,Option.map_some,Option.bind_some,tsz] at hk
   simp [h2,h3,hk]
  obtain ⟨C',hf,hv',hrel'⟩:=zmU hH hpl parts vparts.toList _ u.cells hcv (zc2 _) hlen hp hc
  refine ⟨.agg C', ?_, .agg (vs:=C'.toList) hv' hrel',rfl,rfl⟩
  have hm:(fs.mapM fun (f:Field)=>do pure (f.offset,← sizeOf f.type):Sem (Array (Nat×Nat))).run P w= .ok ((fs.toList.map fun f=>(f.offset,((P.info? f.type).map (·.size)).getD 0)).toArray) w:=by
   rw [Array.mapM_eq_mapM_toList]
   simp only [Sem.run_map,zn8 _ hinfo,Result.andThen_ok]
  simp only [Instr.build,Sem.run_bind,hu,Result.andThen_ok,zaj hfs,hm,hf,Sem.run_map,Sem.run_pure]
 ·rename_i e z ht hz
  split at hc
  ·rename_i sz hsz
   try simp only [hsz]
   obtain ⟨u,hu,rfl,hcv⟩:=zbx (P:=P) (w:=w) hz
   obtain ⟨C',hf,hv',hrel'⟩:=zqp hH parts vparts.toList _ u.cells hcv (zc2 _) hlen hp hc
   refine ⟨.agg C', ?_, .agg (vs:=C'.toList) hv' hrel',rfl,rfl⟩
   simp only [Instr.build,Sem.run_bind,hu,Result.andThen_ok,zaj (zoj ht),zaY hsz,hf,Sem.run_map,Sem.run_pure]
  ·exact hc.elim
 ·exact hc.elim
end
end Go.Av
end
