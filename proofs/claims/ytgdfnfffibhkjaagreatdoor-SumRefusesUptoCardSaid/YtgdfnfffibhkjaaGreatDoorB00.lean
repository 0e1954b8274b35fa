/- Texts of ours, part 0: our library and contracts of functions. -/
import Derived.CallsIn
import Derived.KernelRfl
import Derived.Below
import Derived.Laws.Sem
set_option linter.unusedSimpArgs false
set_option linter.unusedVariables false
set_option maxRecDepth 100000
set_option maxHeartbeats 40000000
theorem aa {p : Prop} (h : p:=by omega) : p:=h
theorem ac {p : Prop} (h : p:=by simp) : p:=h
theorem ae {p : Prop} (h : p:=by simp [go_sem]) : p:=h
theorem af {p : Prop} (h : p:=by grind) : p:=h
theorem ah {p : Prop} (h : p:=by kernel_rfl) : p:=h
theorem ai {p : Prop} (h : p:=by decide) : p:=h
theorem aj {p : Prop} (h : p:=by simp [upd]) : p:=h
theorem ak {p : Prop} (h : p:=by simp [go_sem,b1,b2,b3,b4,b5]) : p:=h
theorem am {p : Prop} (h : p:=by (repeat' apply And.intro)<;>show _= _<;>kernel_rfl) : p:=h
theorem an {p : Prop} (h : p:=by simp [hop,Op.operands]) : p:=h
theorem ap {p : Prop} (h : p:=by simp [noH,upd]) : p:=h
theorem aq {p : Prop} (h : p:=by simp [zhF,zkt,upd,noH]) : p:=h
theorem ar {p : Prop} (h : p:=by simp [hop,Op.operands,Call.operands]) : p:=h
theorem au {p : Prop} (h : p:=by simpa using hi) : p:=h
theorem aw {p : Prop} (h : p:=by simp [execOp,hop]) : p:=h
theorem ax {p : Prop} (h : p:=by grind [nth]) : p:=h
theorem ay {p : Prop} (h : p:=by simp [hc]) : p:=h
theorem az {p : Prop} (h : p:=by grind [List.take_of_length_le]) : p:=h
theorem aA {p : Prop} (h : p:=by simp only;omega) : p:=h
theorem aB {p : Prop} (h : p:=by have:=zbS hi;omega) : p:=h
theorem aC {p : Prop} (h : p:=by have:=zb5 hi;omega) : p:=h
theorem aD {p : Prop} (h : p:=by rw [hks,show psR f kk n=psR f kk (min kk.length 4) by rw [<- hne]];simp [zKw,zbq,psR,zqm,ztS,zaT];omega) : p:=h
theorem aG {p : Prop} (h : p:=by simp [go_sem,hbl]) : p:=h
theorem aH {p : Prop} (h : p:=by rcases h with h|rfl|h;exact .inl h;exact .inl ‹_›;exact .inr h) : p:=h
theorem aI {p : Prop} (h : p:=by simp [zbK]) : p:=h
theorem aJ {p : Prop} (h : p:=by cases h;assumption) : p:=h
theorem aK {p : Prop} (h : p:=by rw [zcd,List.length_append,List.length_append,(zl9 hx.p).1];rfl) : p:=h
theorem aM {p : Prop} (h : p:=by grind [List.take_append_getElem,nth]) : p:=h
theorem aN {p : Prop} (h : p:=by rw [hw'.size];omega) : p:=h
theorem aO {p : Prop} (h : p:=by grind [upd]) : p:=h
theorem aQ {p : Prop} (h : p:=by simp;omega) : p:=h
theorem aS {p : Prop} (h : p:=by simp [hy]) : p:=h
theorem aU {p : Prop} (h : p:=by grind [Op.operands,Call.operands]) : p:=h
theorem aV {p : Prop} (h : p:=by cases h) : p:=h
theorem aW {p : Prop} (h : p:=by grind [execOp,resolve,invoke,builtin]) : p:=h
theorem aX {p : Prop} (h : p:=by grind [za1]) : p:=h
theorem aY {p : Prop} (h : p:=by rw [zer hg hd (hk _ hr).1 (hk _ hr).2 hx];exact hs) : p:=h
theorem aZ {p : Prop} (h : p:=by simp [hx]) : p:=h
theorem bc {p : Prop} (h : p:=by rcases List.mem_append.1 hy with h|h<;>simp [h]) : p:=h
theorem bd {p : Prop} (h : p:=by rw [zfT hv (f q1) hmax (.inl ⟨q1,hq1,rfl⟩),Nat.add_sub_cancel,h2]) : p:=h
theorem bg {p : Prop} (h : p:=by simp_all) : p:=h
theorem bh {p : Prop} (h : p:=by grind [zaI]) : p:=h
theorem bi {p : Prop} (h : p:=by have:=hg.k6;grind [zmJ]) : p:=h
theorem bm {p : Prop} (h : p:=by simp at h) : p:=h
theorem bp {p : Prop} (h : p:=by simp [zdI,ho]) : p:=h
theorem br {p : Prop} (h : p:=by simp [noH]) : p:=h
theorem bt {p : Prop} (h : p:=by rcases h with h|h<;>simp [h]) : p:=h
theorem bu {p : Prop} (h : p:=by simp_all [Builtin.len_,zak,zfj,goInt]) : p:=h
theorem bv {p : Prop} (h : p:=by grind [List.drop_eq_getElem_cons,nth]) : p:=h
theorem bw {p : Prop} (h : p:=by rw [List.flatMap_cons];exact List.mem_append.2 (.inr hc)) : p:=h
theorem bz {p : Prop} (h : p:=by rw [List.flatMap_cons];exact List.mem_append.2 (.inl hc)) : p:=h
theorem bA {p : Prop} (h : p:=by rw [hH.fresh o hle] at hA0;cases hA0) : p:=h
theorem bB {p : Prop} (h : p:=by rw [<- e];rfl) : p:=h
theorem bC {p : Prop} (h : p:=by have:=hs.c0;have:=hs.c1;grind [stT]) : p:=h
theorem bD {p : Prop} (h : p:=by cases hb with|fn hb hb'=>exact .fn (ih1 hb) (ih2 hb')) : p:=h
theorem bE {p : Prop} (h : p:=by cases hb with|gd hb=>exact .gd (λ hg=>ih hg hb) h') : p:=h
theorem bG {p : Prop} (h : p:=by simp [za7]) : p:=h
theorem bH {p : Prop} (h : p:=by simp [zd7,Value.oneCell']) : p:=h
theorem bI {p : Prop} (h : p:=by grind [Op.operands]) : p:=h
theorem bJ {p : Prop} (h : p:=by simpa using h) : p:=h
theorem bK {p : Prop} (h : p:=by simp [zhF,zkt,upd,noH,zap,f0,f1,f2,f3,f4,f5,f6,f7]) : p:=h
theorem bM {p : Prop} (h : p:=by simp;exact .nil) : p:=h
theorem bN {p : Prop} (h : p:=by grind [zaD.le,upd]) : p:=h
theorem bO {p : Prop} (h : p:=by unfold zae.withHand;split<;>rfl) : p:=h
theorem bQ {p : Prop} (h : p:=by rw [S0];exact ⟨by simp [upd],by simp [upd,nsO],by simp [upd,qsO],by simp [upd,csO],by decide⟩) : p:=h
theorem bS {p : Prop} (h : p:=by simpa using hk) : p:=h
theorem bU {p : Prop} (h : p:=by simp [eqGuard,binOp,Op.intCmp]) : p:=h
theorem bV {p : Prop} (h : p:=by simp [f0,f1,f2,f3,f4,f5,f6,f7]) : p:=h
theorem bW {p : Prop} (h : p:=by simp [zaX]) : p:=h
theorem bX {p : Prop} (h : p:=by simp [Instr.lookup,zak (ztf ht),MapKept.run_getObj_map hb,zfB hc hk,g1,zIy hz,Result.andThen]) : p:=h
theorem bZ {p : Prop} (h : p:=by have:=hg.r4;omega) : p:=h
theorem b6 {p : Prop} (h : p:=by rw [UInt8.lt_iff_toNat_lt];simp [UInt8.toNat_ofNat',Nat.mod_eq_of_lt ha,Nat.mod_eq_of_lt hb]) : p:=h
theorem b7 {p : Prop} (h : p:=by (try simp at hn);(try subst hn);cases A<;>simp [Builtin.firstCells,loadCells,loadCellsFrom]) : p:=h
theorem b9 {p : Prop} (h : p:=by rw [Lib.cell_of_heap hbk];rfl) : p:=h
theorem cc {p : Prop} (h : p:=by rw [Lib.cell_of_heap hb2];rfl) : p:=h
theorem cd {p : Prop} (h : p:=by cases hb with|agg hb=>exact .agg hv (ih hb)) : p:=h
theorem ce {p : Prop} (h : p:=by rw [h.len];omega) : p:=h
theorem cg {p : Prop} (h : p:=by simp [Instr.lookup,zak (ztf ht),MapKept.run_getObj_map hb,zfB hc hk,g1,Result.andThen]) : p:=h
theorem cj {p : Prop} (h : p:=by simp [hk]) : p:=h
theorem ck {p : Prop} (h : p:=by simp [eqGuard,binOp,zoa ht]) : p:=h
theorem co {p : Prop} (h : p:=by unfold zff;rw [hn.must];rfl) : p:=h
theorem cp {p : Prop} (h : p:=by rw [T0];exact ⟨by simp [upd],by simp [upd],by simp [upd],by simp [upd],by decide⟩) : p:=h
theorem cq {p : Prop} (h : p:=by simp [zbj] at h) : p:=h
theorem ct {p : Prop} (h : p:=by cases hb with|tup hb=>exact .tup (ih hb)) : p:=h
theorem cu {p : Prop} (h : p:=by simp [Inc]) : p:=h
theorem cw {p : Prop} (h : p:=by simp [eqGuard,binOp,Op.intArith,zji h2]) : p:=h
theorem cx {p : Prop} (h : p:=by rw [h.sd _ (zah h0l),h.sd _ (zah hil)]) : p:=h
theorem cy {p : Prop} (h : p:=by simp [zap,upd]) : p:=h
theorem cz {p : Prop} (h : p:=by grind [zar]) : p:=h
theorem cA {p : Prop} (h : p:=by (cases q1<;>cases q2<;>(first|(simp;done)|(simp;omega)|(simp;intros;omega)))) : p:=h
theorem cB {p : Prop} (h : p:=by simp [go_sem];try omega) : p:=h
theorem cC {p : Prop} (h : p:=by simp [go_sem];exact hb') : p:=h
theorem cD {p : Prop} (h : p:=by decide+kernel) : p:=h
theorem cE {p : Prop} (h : p:=by rcases hp.s with h|h<;>simp [zgb,h]) : p:=h
theorem cF {p : Prop} (h : p:=by rw [hH.fresh o hle] at ho;cases ho) : p:=h
theorem cG {p : Prop} (h : p:=by simp [knR]) : p:=h
theorem cH {p : Prop} (h : p:=by rw [zaA];rfl) : p:=h
theorem cI {p : Prop} (h : p:=by have:=hung o.op (by grind [gT]) rfl;rw [hop] at this ⊢;exact this) : p:=h
theorem cJ {p : Prop} (h : p:=by unfold zbc zkq;decide) : p:=h
theorem cK {p : Prop} (h : p:=by simp [go_sem,hbL,hbR]) : p:=h
theorem cM {p : Prop} (h : p:=by simp [eqGuard,binOp,Op.stringOp]) : p:=h
theorem cN {p : Prop} (h : p:=by simp [hr]) : p:=h
theorem cO {p : Prop} (h : p:=by simp [hp]) : p:=h
theorem cP {p : Prop} (h : p:=by grind [zeE]) : p:=h
theorem cQ {p : Prop} (h : p:=by grind [zam]) : p:=h
theorem cT {p : Prop} (h : p:=by grind [zaX]) : p:=h
theorem cU {p : Prop} (h : p:=by grind [zdG]) : p:=h
theorem cV {p : Prop} (h : p:=by grind [inR]) : p:=h
theorem cW {p : Prop} (h : p:=by rw [zfe,hm]) : p:=h
theorem cX {p : Prop} (h : p:=by simpa using h1) : p:=h
theorem cY {p : Prop} (h : p:=by rcases h with h|h|h<;>simp [h]) : p:=h
theorem cZ {p : Prop} (h : p:=by simp [mkH,upd]) : p:=h
theorem c7 {p : Prop} (h : p:=by have:=h.ok.c9;omega) : p:=h
theorem c8 {p : Prop} (h : p:=by grind [List.take_add_one,nth]) : p:=h
theorem da {p : Prop} (h : p:=by rw [List.length_append];omega) : p:=h
theorem dd {p : Prop} (h : p:=by simp only [zaR,List.mem_singleton] at hc;subst hc;exact .v _) : p:=h
theorem de {p : Prop} (h : p:=by rw [hos,zbP,hmv];exact (zau (λ q=>sdP q 0) mv j hj3).symm) : p:=h
theorem df {p : Prop} (h : p:=by rw [hot,zbP,hmw];exact (zau (λ q=>sdP q 0) mw j hj3).symm) : p:=h
theorem dg {p : Prop} (h : p:=by simp [Op.operands]) : p:=h
theorem dh {p : Prop} (h : p:=by simp [zeS]) : p:=h
theorem di {p : Prop} (h : p:=by simp [zhw]) : p:=h
theorem dl {p : Prop} (h : p:=by have:=zb3 hz;omega) : p:=h
theorem dm {p : Prop} (h : p:=by have:=zb4 hz;omega) : p:=h
theorem dq {p : Prop} (h : p:=by simp [inR]) : p:=h
theorem dt {p : Prop} (h : p:=by simp [hCl]) : p:=h
theorem du {p : Prop} (h : p:=by simp [Lib.compareBytes,ltT]) : p:=h
theorem dv {p : Prop} (h : p:=by simp [go_sem,zbQ]) : p:=h
theorem dw {p : Prop} (h : p:=by rw [zce];exact hj) : p:=h
theorem dx {p : Prop} (h : p:=by simp [go_sem,hgb]) : p:=h
theorem dy {p : Prop} (h : p:=by simp [go_sem,hxb]) : p:=h
theorem dz {p : Prop} (h : p:=by simp [textL]) : p:=h
theorem dA {p : Prop} (h : p:=by rw [hl1];have:=Tg mv.length;rw [<- ht1] at this;omega) : p:=h
theorem dB {p : Prop} (h : p:=by simp [hu]) : p:=h
theorem dC {p : Prop} (h : p:=by simp_all [Builtin.firstCells,loadCells,loadCellsFrom]) : p:=h
theorem dD {p : Prop} (h : p:=by simp [hq]) : p:=h
theorem dE {p : Prop} (h : p:=by grind [zae.hand]) : p:=h
theorem dF {p : Prop} (h : p:=by rw [<- heg];rfl) : p:=h
theorem dG {p : Prop} (h : p:=by rw [List.length_append,List.length_singleton];omega) : p:=h
theorem dH {p : Prop} (h : p:=by grind [Program.fieldsOf]) : p:=h
theorem dI {p : Prop} (h : p:=by grind [cel]) : p:=h
theorem dJ {p : Prop} (h : p:=by rw [hA,List.take_length]) : p:=h
theorem dK {p : Prop} (h : p:=by rw [hB,List.take_length]) : p:=h
theorem dL {p : Prop} (h : p:=by grind [zbD,zaB]) : p:=h
theorem dM {p : Prop} (h : p:=by grind [List.range_succ]) : p:=h
theorem dN {p : Prop} (h : p:=by rw [List.drop_zero,hta]) : p:=h
theorem dO {p : Prop} (h : p:=by rw [hV];exact zea n m v) : p:=h
theorem dQ {p : Prop} (h : p:=by rw [List.drop_zero,List.take_of_length_le aa]) : p:=h
theorem dR {p : Prop} (h : p:=by have:=zb4 hz;exact zds n z aa) : p:=h
section
namespace Go.Av
open Go

inductive AV where
 |top
 |v (x:Value)
 |agg (cs:List AV)
 |tup (vs:List AV)
 |lst (sz:Nat) (rows:List (List AV))
 |fp (cells:List AV)
 |ref (o g sz i off:Nat)
 |sl (o g sz i len:Nat)
 |fn (f:Fn) (first caps:List AV)
 |mp (o:Nat)
 |gd (g:Bool) (x:AV)
 deriving Inhabited

abbrev AV.int (n:Int):AV:= .v (.int .i64 n)
abbrev AV.bool (b:Bool):AV:= .v (.bool b)
abbrev AV.nils:AV:= .v (.slice none 0 0)

inductive zcr where
 |rows (mt:Bool) (g sz:Nat) (rs:List (List AV))
 deriving Inhabited

abbrev Env:=Nat->AV
abbrev zay:=Nat->Option zcr
abbrev zaD:=Nat->Option (Nat×Option (Addr×Nat))

def upd {α:Type} (f:Nat->α) (k:Nat) (x:α):Nat->α:=λ j=>if j=k then x else f j
theorem zI1 {α:Type} (f:Nat->α) (k:Nat) (x:α) (j:Nat):upd f k x j=if j=k then x else f j:=rfl
theorem zbk {α:Type} (f:Nat->α) (k:Nat) (x:α):upd f k x k=x:=aj
theorem zeU {α:Type} (f:Nat->α){k j:Nat} (x:α) (h:j≠k):upd f k x j=f j:=by simp [upd,h]

abbrev zd7 (v:Value):Bool:=v.oneCell'

mutual
inductive Rel (φ:zaD) (w:World) (M:Nat->Prop):AV->Value->Prop
 |top (v:Value):Rel φ w M .top v
 |v (x:Value):Rel φ w M (.v x) x
 |agg {cs:List AV} {vs:List Value} (hv:∀u ∈ vs,zd7 u=true) (h:za2 φ w M cs vs):Rel φ w M (.agg cs) (.agg ⟨vs⟩)
 |tup {cs:List AV} {vs:List Value} (h:za2 φ w M cs vs):Rel φ w M (.tup cs) (.tuple ⟨vs⟩)
 |nil (sz:Nat) (A:Option Addr) (cap:Nat):Rel φ w M (.lst sz []) (.slice A 0 cap)
 |lst {sz:Nat} {rows:List (List AV)} {a:Addr} {len cap:Nat} {C:Array Value} {T:TypeId} {fz:Nat×Nat}
   (hs:a.spot=none) (hM:¬M a.block) (hb:w.heap[a.block]? =some (.cells C T fz)) (hr:∀r ∈ rows,r.length=sz)
   (hl:len=rows.length) (hc:a.off+rows.length * sz<=C.size) (hcap:len<=cap) (hv:∀u ∈ (C.toList.drop a.off).take (rows.length * sz),zd7 u=true)
   (h:za2 φ w M rows.flatten ((C.toList.drop a.off).take (rows.length * sz))):Rel φ w M (.lst sz rows) (.slice (some a) len cap)
 |fp {cells:List AV} {a:Addr} {C:Array Value} {T:TypeId} {fz:Nat×Nat}
   (hs:a.spot=none) (hM:¬M a.block) (hb:w.heap[a.block]? =some (.cells C T fz)) (hc:a.off+cells.length<=C.size)
   (hv:∀u ∈ (C.toList.drop a.off).take cells.length,zd7 u=true)
   (h:za2 φ w M cells ((C.toList.drop a.off).take cells.length)):Rel φ w M (.fp cells) (.pointer (some a))
 |ref {o g sz i off g':Nat} {A:Option (Addr×Nat)} {v:Value} (ho:φ o=some (g',A)) (hg:g<=g')
   (h:g'=g->∃a bs,A=some (a,bs)∧a.spot=none∧v= .pointer (some ⟨a.block,a.off+i * sz+off,none⟩)):Rel φ w M (.ref o g sz i off) v
 |sl {o g sz i len g':Nat} {A:Option (Addr×Nat)} {v:Value} (ho:φ o=some (g',A)) (hg:g<=g')
   (h:g'=g->(A=none∧i=0∧len=0∧v= .slice none 0 0)∨(len=0∧∃a',v= .slice (some a') 0 0)∨
    ∃a bs cap,A=some (a,bs)∧a.spot=none∧v= .slice (some ⟨a.block,a.off+i * sz,none⟩) len cap∧len<=cap∧a.off+i * sz+cap * sz<=bs):Rel φ w M (.sl o g sz i len) v
 |mp {o g':Nat} {A:Option (Addr×Nat)} {v:Value} (ho:φ o=some (g',A)) (h:g'=0->∃a bs,A=some (a,bs)∧a.spot≠none∧v= .map (some a.block)):Rel φ w M (.mp o) v
 |fn {f:Fn} {first caps:List AV} {fs cs:List Value} (h1:za2 φ w M first fs) (h2:za2 φ w M caps cs):Rel φ w M (.fn f first caps) (.func f ⟨fs⟩ ⟨cs⟩)
 |gd {g:Bool} {x:AV} {v:Value} (h:g=true->Rel φ w M x v) (h':g=false->v=undef):Rel φ w M (.gd g x) v
inductive za2 (φ:zaD) (w:World) (M:Nat->Prop):List AV->List Value->Prop
 |nil:za2 φ w M [] []
 |cons {x:AV} {v:Value} {xs:List AV} {vs:List Value} (h:Rel φ w M x v) (t:za2 φ w M xs vs):za2 φ w M (x::xs) (v::vs)
end

variable {vs:List Value} {xs:List AV}
section lists
variable {φ:zaD} {w:World} {M:Nat->Prop}
theorem za2.length {xs:List AV}{vs:List Value} (h:za2 φ w M xs vs):xs.length=vs.length:=by
 induction xs generalizing vs with
 |nil=>cases h;rfl
 |cons x xs ih=>cases h with|cons h t=>simp [ih t]
theorem za2.get  (h:za2 φ w M xs vs) (k:Nat) (hk:k<xs.length) (hv:k<vs.length):Rel φ w M xs[k] vs[k]:=by
 induction xs generalizing vs k with
 |nil=>simp at hk
 |cons x xs ih=>
  cases h with
  |cons h t=>
   cases k with
   |zero=>exact h
   |succ k=>exact ih t k bS (by simpa using hv)
theorem zOd  (hl:xs.length=vs.length) (h:∀k (hk:k<xs.length) (hv:k<vs.length),Rel φ w M xs[k] vs[k]):za2 φ w M xs vs:=by
 induction xs generalizing vs with
 |nil=>cases vs with
  |nil=>exact .nil
  |cons=>simp at hl
 |cons x xs ih=>cases vs with
  |nil=>simp at hl
  |cons v vs=>
   refine .cons (h 0 ac ac) (ih (by simpa using hl) λ k hk hv=> ?_);have:=h (k+1) bS (by simpa using hv);simpa using this
theorem za2.append {ys:List AV}{us:List Value} (h:za2 φ w M xs vs) (h':za2 φ w M ys us):za2 φ w M (xs++ys) (vs++us):=by
 induction xs generalizing vs with
 |nil=>cases h;exact h'
 |cons x xs ih=>cases h with|cons h t=>exact .cons h (ih t)
theorem za2.take {xs:List AV}{vs:List Value} (h:za2 φ w M xs vs) (k:Nat):za2 φ w M (xs.take k) (vs.take k):=by
 induction xs generalizing vs k with
 |nil=>cases h;simp;exact .nil
 |cons x xs ih=>
  cases h with
  |cons h t=>
   cases k with
   |zero=>exact .nil
   |succ k=>exact .cons h (ih t k)
theorem za2.drop {xs:List AV}{vs:List Value} (h:za2 φ w M xs vs) (k:Nat):za2 φ w M (xs.drop k) (vs.drop k):=by
 induction xs generalizing vs k with
 |nil=>cases h;simp;exact .nil
 |cons x xs ih=>
  cases h with
  |cons h t=>
   cases k with
   |zero=>exact .cons h t
   |succ k=>exact ih t k
theorem za2.set {xs:List AV}{vs:List Value} (h:za2 φ w M xs vs){x:AV}{v:Value} (hx:Rel φ w M x v) (k:Nat):za2 φ w M (xs.set k x) (vs.set k v):=by
 induction xs generalizing vs k with
 |nil=>cases h;exact .nil
 |cons y xs ih=>
  cases h with
  |cons h t=>
   cases k with
   |zero=>exact .cons hx t
   |succ k=>exact .cons h (ih t k)
end lists

def Mut (φ:zaD) (H:zay):Nat->Prop:=λ k=>∃o g sz rs g' a bs,H o=some (.rows true g sz rs)∧φ o=some (g',some (a,bs))∧a.block=k
def Or (A B:Nat->Prop):Nat->Prop:=λ k=>A k∨B k

def zaD.le (φ φ':zaD):Prop:=∀o x,φ o=some x->∃x',φ' o=some x'∧x.1<=x'.1∧(x'.1=x.1->x'=x)
theorem zaD.le_refl (φ:zaD):φ.le φ:=λ _ x h=>⟨x,h,Nat.le_refl _,λ _=>rfl⟩
theorem zaD.le_trans {a b c:zaD} (h:a.le b) (k:b.le c):a.le c:=by
 intro o x hx;obtain ⟨y,hy,h1,h2⟩:=h o x hx;obtain ⟨z,hz,k1,k2⟩:=k o y hy;refine ⟨z,hz,Nat.le_trans h1 k1,λ e=> ?_⟩;have e1:y.1=x.1:=aa;have:=h2 e1;subst this;exact k2 e

theorem Rel.keep {φ φ':zaD}{w w':World}{M M':Nat->Prop} (hφ:φ.le φ')
  (hw:∀k,¬M k->k<w.heap.size->w'.heap[k]? =w.heap[k]?) (hM:∀k,M' k->M k∨w.heap.size<=k):
  ∀ {x:AV} {v:Value},Rel φ w M x v->Rel φ' w' M' x v:=by
 have blk:∀ {k:Nat} {o:Obj},w.heap[k]? =some o->k<w.heap.size:=λ h=>(Array.getElem?_eq_some_iff.1 h).1;intro x v h;refine Rel.rec (φ:=φ) (w:=w) (M:=M) (motive_1:=λ x v _=>Rel φ' w' M' x v) (motive_2:=λ xs vs _=>za2 φ' w' M' xs vs) ?_ ?_ ?_ ?_ ?_ ?_ ?_ ?_ ?_ ?_ ?_ ?_ ?_ ?_ h
 ·exact λ v=> .top v
 ·exact λ v=> .v v
 ·exact λ hv _ ih=> .agg hv ih
 ·exact λ _ ih=> .tup ih
 ·exact λ sz A cap=> .nil sz A cap
 ·intro sz rows a len cap C T fz hs hm hb hr hl hc hcap hv _ ih;have hlt:=blk hb;exact .lst hs (λ hk=>(hM _ hk).elim hm (λ h=>by omega)) ((hw _ hm hlt).trans hb) hr hl hc hcap hv ih
 ·intro cells a C T fz hs hm hb hc hv _ ih;have hlt:=blk hb;exact .fp hs (λ hk=>(hM _ hk).elim hm (λ h=>by omega)) ((hw _ hm hlt).trans hb) hc hv ih
 ·intro o g sz i off g' A v ho hg h;obtain ⟨⟨g'',A'⟩,hx,h1,h2⟩:=hφ o _ ho;refine .ref hx (by simp at h1;omega) λ e=> ?_;simp at h1 h2;have e':g'=g:=aa;obtain ⟨a,bs,hA,hs,hv⟩:=h e';have:=h2 aa;exact ⟨a,bs,by rw [this.2];exact hA,hs,hv⟩
 ·intro o g sz i len g' A v ho hg h;obtain ⟨⟨g'',A'⟩,hx,h1,h2⟩:=hφ o _ ho;refine .sl hx (by simp at h1;omega) λ e=> ?_;simp at h1 h2;have e':g'=g:=aa;have:=h2 aa;rw [this.2];exact h e'
 ·intro o g' A v ho h;obtain ⟨⟨g'',A'⟩,hx,h1,h2⟩:=hφ o _ ho;refine .mp hx λ e=> ?_;simp at h1 h2;have e':g'=0:=aa;have:=h2 aa;rw [this.2];exact h e'
 ·exact λ _ _ ih1 ih2=> .fn ih1 ih2
 ·exact λ _ h' ih=> .gd ih h'
 ·exact .nil
 ·exact λ _ _ ih1 ih2=> .cons ih1 ih2
theorem za2.keep {φ φ':zaD}{w w':World}{M M':Nat->Prop} (hφ:φ.le φ')
  (hw:∀k,¬M k->k<w.heap.size->w'.heap[k]? =w.heap[k]?) (hM:∀k,M' k->M k∨w.heap.size<=k)
  {xs:List AV} {vs:List Value} (h:za2 φ w M xs vs):za2 φ' w' M' xs vs:=by
 induction xs generalizing vs with
 |nil=>cases h;exact .nil
 |cons x xs ih=>cases h with|cons h t=>exact .cons (h.keep hφ hw hM) (ih t)

def glbs:List (Nat×List AV):= [(0, [.v .nilFunc, .fn (.func 366) [] [], .fn (.func 368) [] [], .fn (.func 369) [] []])]
def zoY (w:World) (M:Nat->Prop):Prop:=∀p ∈ glbs,Rel (λ _=>none) w M (.fp p.2) (.pointer (some ⟨p.1,0,none⟩))
theorem zoY.keep {w w':World}{M M':Nat->Prop} (hw:∀k,¬M k->k<w.heap.size->w'.heap[k]? =w.heap[k]?) (hM:∀k,M' k->M k∨w.heap.size<=k) (h:zoY w M):zoY w' M':=
 λ p hp=>(h p hp).keep (zaD.le_refl _) hw hM
end Go.Av
end
section
namespace Go.Av
open Go

def nth {α:Type} [Inhabited α] (l:List α) (i:Nat):α:=l.getD i default
def cel (l:List AV) (i:Nat):AV:=l.getD i .top

inductive TK where
 |sl (e:TypeId)|arr (n:Nat) (e:TypeId)|str|ptr (e:TypeId)|map (k e:TypeId)|int (k:IntKind)|string|bool|other|many (ks:List Nat)
 deriving Inhabited,DecidableEq
def tk (P:Program) (t:TypeId):TK:=match P.underlying t with
 |some (.slice e)=> .sl e
 |some (.array n e)=> .arr n e
 |some (.struct _)=> .str
 |some (.pointer e)=> .ptr e
 |some (.map k e)=> .map k e
 |some (.int k)=> .int k
 |some .string=> .string
 |some .bool=> .bool
 | _=> .other
def tsz (P:Program) (t:TypeId):Option Nat:=(P.info? t).map (·.size)
def tby (P:Program) (t:TypeId):Option Nat:=(P.info? t).map (·.bytes)
def tz (P:Program) (t:TypeId):Option (List AV):=((P.info? t).bind (·.zero)).bind λ z=>if z.cells.toList.all Value.oneCell' then some (z.cells.toList.map .v) else none
def zgk (P:Program) (t:TypeId):Option Bool:=(P.underlying t).map fun| .struct _| .array _ _=>true| _=>false
def zJe (P:Program) (t:TypeId) (f:Nat):Option Nat:=match P.underlying t with
 |some (.struct fs)=>(fs[f]?).bind λ x=>((P.info? x.type).map (·.size)).bind λ s=>if s=0 then none else some x.offset
 | _=>none
def zMX (P:Program) (t:TypeId) (f:Nat):Option TypeId:=match P.underlying t with
 |some (.struct fs)=>(fs[f]?).map (·.type)
 | _=>none

def tfi (P:Program) (t:TypeId):Bool:=match P.underlying t with
 |some (.struct fs)=>fs.toList.all λ f=>(P.info? f.type).isSome
 | _=>false

structure Res where
 cond:Prop
 val:AV
 wr:List (Nat×Option zcr)
 al:Nat
abbrev Res.fail:Res:=⟨False, .top, [],0⟩
abbrev Res.ok (x:AV):Res:=⟨True,x, [],0⟩
abbrev Res.if (c:Prop) (x:AV):Res:=⟨c,x, [],0⟩
def zap:List (Nat×Option zcr)->zay->zay
 | [],h=>h
 |(o,x)::l,h=>zap l (upd h o x)

def AV.cells:AV->List AV
 | .agg cs=>cs
 |x=> [x]
def ofV:Value->AV
 | .agg cs=>if cs.toList.all Value.oneCell'=true then .agg (cs.toList.map .v) else .v (.agg cs)
 |x=> .v x
def ev (e:Env):Operand->AV
 | .tmp t=>e t
 | .const v=>ofV v
 | .global g=>match glbs.lookup g with
  |some cs=> .fp cs
  |none=> .v (.pointer (some ⟨g,0,none⟩))
 | .func f=> .fn (.func f) [] []
def put (e:Env):Option Tmp->AV->Env
 |some d,x=>upd e d x
 |none, _=>e

def InR (k:IntKind) (n:Int):Prop:=k.min<=n∧n<=k.max

def zdI (h:zay) (o g sz:Nat):Prop:=match h o with
 |some (.rows _ g' sz' _)=>g=g'∧sz=sz'
 |none=>False
def AV.isCell (h:zay):AV->Prop
 | .ref o g sz _ _| .sl o g sz _ _=>zdI h o g sz
 | .mp o=>zdI h o 0 2
 | .v x=>x.oneCell'=true
 | .lst _ _| .fp _| .fn _ _ _=>True
 | _=>False
def AV.okCells (h:zay):AV->Prop
 | .agg _=>True
 |x=>x.isCell h
def zM6 (agg:Option Bool) (size:Option Nat) (sz off:Nat) (row:List AV):Res:=
 match agg,size with
 |some true,some s=>if off=0∧s=sz then .ok (.agg row) else .if (off+s<=sz) (.agg ((row.drop off).take s))
 |some false, _=> .if (off<sz) (cel row off)
 | _, _=> .fail
def zob (P:Program) (t:TypeId) (x:AV) (h:zay):Res:=
 match x with
 | .ref o g sz i off=>match h o with
  |some (.rows _ g' sz' rs)=>if g=g'∧sz=sz' then
    let r:=zM6 (zgk P t) (tsz P t) sz off (nth rs i)
    ⟨i<rs.length∧r.cond,r.val, [],0⟩ else .fail
  |none=> .fail
 | .fp cells=>match zgk P t,tsz P t with
  |some true,some s=> .if (s<=cells.length) (.agg (cells.take s))
  |some false, _=> .if (0<cells.length) (cel cells 0)
  | _, _=> .fail
 | _=> .fail
def setMany:List AV->Nat->List AV->List AV
 |row, _, []=>row
 |row,k,c::cs=>setMany (row.set k c) (k+1) cs
def zeV (P:Program) (t:TypeId) (x v:AV) (h:zay):Res:=
 match x with
 | .ref o g sz i off=>match h o with
  |some (.rows mt g' sz' rs)=>if g=g'∧sz=sz'∧mt=true then
    ⟨i<rs.length∧tsz P t=some v.cells.length∧off+v.cells.length<=sz∧v.okCells h, .top,
     [(o,some (.rows true g sz (rs.set i (if off=0∧v.cells.length=sz then v.cells else setMany (nth rs i) off v.cells))))],0⟩ else .fail
  |none=> .fail
 | _=> .fail
def zdK (P:Program) (s:TypeId) (x:AV) (f:Nat) (h:zay):Res:=
 match zJe P s f with
 |some d=>match x with
  | .ref o g sz i off=> .if (zdI h o g sz) (.ref o g sz i (off+d))
  | .fp cells=> .if (d<=cells.length) (.fp (cells.drop d))
  | _=> .fail
 |none=> .fail
def zrW (P:Program) (s:TypeId) (x:AV) (f:Nat):Res:=
 match zJe P s f,zMX P s f,x with
 |some d,some t, .agg cs=>match zgk P t,tsz P t with
  |some true,some n=> .if (d+n<=cs.length) (.agg ((cs.drop d).take n))
  |some false, _=> .if (d<cs.length) (cel cs d)
  | _, _=> .fail
 | _, _, _=> .fail
def zdL (P:Program) (t:TypeId) (x ix:AV) (h:zay):Res:=
 match tk P t,x,ix with
 | .sl e, .sl o g sz i len, .v (.int _ n)=> .if (zdI h o g sz∧tsz P e=some sz∧0<=n∧n.toNat<len) (.ref o g sz (i+n.toNat) 0)
 | .sl e, .lst sz rows, .v (.int _ n)=> .if (tsz P e=some sz∧0<=n∧n.toNat<rows.length) (.fp (nth rows n.toNat))
 | .arr len e, .ref o g sz i off, .v (.int _ n)=>match tsz P e with
  |some s=> .if (zdI h o g sz∧0<=n∧n<len) (.ref o g sz i (off+n.toNat * s))
  |none=> .fail
 | .arr len e, .fp cells, .v (.int _ n)=>match tsz P e with
  |some s=> .if (0<=n∧n<len∧n.toNat * s<=cells.length) (.fp (cells.drop (n.toNat * s)))
  |none=> .fail
 | _, _, _=> .fail
def zrX (P:Program) (t:TypeId) (x ix:AV):Res:=
 match tk P t,x,ix with
 | .arr len e, .agg cs, .v (.int _ n)=>match zgk P e,tsz P e with
  |some true,some s=> .if (0<=n∧n<len∧n.toNat * s+s<=cs.length) (.agg ((cs.drop (n.toNat * s)).take s))
  |some false,some s=> .if (0<=n∧n<len∧n.toNat * s<cs.length) (cel cs (n.toNat * s))
  | _, _=> .fail
 | .string, .v (.string s), .v (.int _ n)=> .if (0<=n∧n.toNat<s.data.toList.length) (.v (.int .u8 (s.data.toList.getD n.toNat 0).toNat))
 | _, _, _=> .fail
def zxV (P:Program) (t:TypeId) (x:AV) (h:zay):Res:=
 match tk P t,x with
 | .sl _, .sl o g sz _ len=> .if (zdI h o g sz) (.int len)
 | .sl _, .lst _ rows=> .ok (.int rows.length)
 | .sl _, .v (.slice _ 0 _)=> .ok (.int 0)
 | .string, .v (.string s)=> .ok (.int s.data.toList.length)
 | .arr n _, _=> .ok (.int n)
 | .map _ _, .mp o=>match h o with
  |some (.rows _ 0 2 rs)=> .ok (.int rs.length)
  | _=> .fail
 | _, _=> .fail
def zru (k:IntKind) (a b:Int):Int:=k.wrap (BitVec.ofInt k.bits a &&& BitVec.ofInt k.bits b).toNat
def orN (k:IntKind) (a b:Int):Int:=k.wrap (BitVec.ofInt k.bits a|||BitVec.ofInt k.bits b).toNat
def zgl (k:IntKind) (a b:Int):Int:=k.wrap (BitVec.ofInt k.bits a &&& ~~~ BitVec.ofInt k.bits b).toNat
def zG4 (op:BinOp) (x y:AV):Res:=
 match op,x,y with
 | .shl, .v (.int k a), .v (.int _ b)=> .if (0<=b∧b<=64∧InR k (a * 2 ^ b.toNat)∧k.bits=64) (.v (.int k (a * 2 ^ b.toNat)))
 | .shr, .v (.int k a), .v (.int _ b)=> .if (0<=b∧(b<=64∧k.bits=64∨b<=8)) (.v (.int k (a.fdiv (2 ^ b.toNat))))
 | .add, .v (.int k a), .v (.int k' b)=> .if (k=k'∧InR k (a+b)) (.v (.int k (a+b)))
 | .sub, .v (.int k a), .v (.int k' b)=> .if (k=k'∧InR k (a - b)) (.v (.int k (a - b)))
 | .mul, .v (.int k a), .v (.int k' b)=> .if (k=k'∧InR k (a * b)) (.v (.int k (a * b)))
 | .quo, .v (.int k a), .v (.int k' b)=> .if (k=k'∧b≠0∧InR k (a.tdiv b)) (.v (.int k (a.tdiv b)))
 | .rem, .v (.int k a), .v (.int k' b)=> .if (k=k'∧b≠0) (.v (.int k (a.tmod b)))
 | .and, .v (.int k a), .v (.int k' b)=> .if (k=k') (.v (.int k (zru k a b)))
 | .or, .v (.int k a), .v (.int k' b)=> .if (k=k') (.v (.int k (orN k a b)))
 | .andNot, .v (.int k a), .v (.int k' b)=> .if (k=k') (.v (.int k (zgl k a b)))
 | .eql, .v (.int k a), .v (.int k' b)=> .if (k=k') (.bool (decide (a=b)))
 | .neq, .v (.int k a), .v (.int k' b)=> .if (k=k') (.bool (!decide (a=b)))
 | .lss, .v (.int k a), .v (.int k' b)=> .if (k=k') (.bool (decide (a<b)))
 | .leq, .v (.int k a), .v (.int k' b)=> .if (k=k') (.bool (decide (a<=b)))
 | .gtr, .v (.int k a), .v (.int k' b)=> .if (k=k') (.bool (decide (b<a)))
 | .geq, .v (.int k a), .v (.int k' b)=> .if (k=k') (.bool (decide (b<=a)))
 | .add, .v (.string a), .v (.string b)=> .if (a.size+b.size<=9223372036854775807) (.v (.string (a++b)))
 | .lss, .v (.string a), .v (.string b)=> .ok (.bool (Op.bytesLess a.toList b.toList))
 | _, _, _=> .fail
def evUn (op:UnOp) (x:AV):Res:=
 match op,x with
 | .not, .v (.bool b)=> .ok (.bool !b)
 | .neg, .v (.int k a)=> .if (InR k (-a)) (.v (.int k (-a)))
 | _, _=> .fail
def pB:AV->Option (Bool×Bool)
 | .v (.bool x)=>some (true,x)
 | .gd g (.v (.bool x))=>some (g,x)
 | _=>none
def zxX (c a b:AV):Res:=
 match pB c,pB a,pB b with
 |some (g,c),some (g₁,x),some (g₂,y)=> .if (g=true∧(c=true->g₁=true)∧(c=false->g₂=true)) (.bool (cond c x y))
 |some (g,c),some (g₁,x),none=> .if (g=true∧c=true∧g₁=true) (.bool x)
 |some (g,c),none,some (g₂,y)=> .if (g=true∧c=false∧g₂=true) (.bool y)
 | _, _, _=> .fail
def zmQ (P:Program) (t:TypeId):Option (List Bool):=match P.underlying t with
 |some (.struct fs)=>if (!P.stoodInHeld t && !P.eqGuardType P.depth t && (List.range fs.size).all λ i=>match fs[i]? with
   |some f=>f.name != "_" && f.offset==i && (match P.underlying f.type with|some (.int _)=>true|some .bool=>true| _=>false)
   |none=>false)=true then some (fs.toList.map λ f=>match P.underlying f.type with|some .bool=>true| _=>false) else none
 | _=>none
def zgD:List AV->Option (List (Int ⊕ Bool))
 | []=>some []
 | .v (.int .i64 n)::l=>(zgD l).map (.inl n::·)
 | .v (.bool b)::l=>(zgD l).map (.inr b::·)
 | _=>none
def eqS (P:Program) (t:TypeId) (xs ys:List AV):Option Bool:=match zmQ P t,zgD xs,zgD ys with
 |some fl,some a,some b=>if a.map Sum.isRight=fl∧b.map Sum.isRight=fl then some (decide (a=b)) else none
 | _, _, _=>none
def zGV (P:Program) (T:TypeId->Option (List Bool)):List Field->Nat->Option (List Bool)
 | [], _=>some []
 |f::fs,k=>if (f.name != "_" && f.offset==k)=true then match T f.type,zGV P T fs (k+((tsz P f.type).getD 0)) with
  |some l,some r=>if tsz P f.type=some l.length then some (l++r) else none
  | _, _=>none else none
def zBt (P:Program):Nat->TypeId->Option (List Bool)
 |0, _=>none
 |d+1,t=>match P.underlying t with
  |some (.int _)=>some [false]
  |some .bool=>some [true]
  |some (.struct fs)=>if P.stoodInHeld t=true then none else zGV P (zBt P d) fs.toList 0
  | _=>none
def zCQ (P:Program) (t:TypeId):Option (List Bool):=if P.eqGuardType P.depth t=true then none else match P.underlying t with
 |some (.struct _)=>zBt P 4 t
 | _=>none
def eqD (P:Program) (t:TypeId) (xs ys:List AV):Option Bool:=match zmQ P t with
 |some _=>eqS P t xs ys
 |none=>match zCQ P t,zgD xs,zgD ys with
  |some fl,some a,some b=>if a.map Sum.isRight=fl∧b.map Sum.isRight=fl then some (decide (a=b)) else none
  | _, _, _=>none
def zyr (P:Program) (t:TypeId):Bool:=match P.underlying t with
 |some (.func ..)=>true
 | _=>false
def evEq (P:Program) (op:BinOp) (t:TypeId) (x y:AV):Option AV:=
 match op,tk P t,x,y with
 | .eql, .bool, .v (.bool a), .v (.bool b)=>some (.bool (a==b))
 | .neq, .bool, .v (.bool a), .v (.bool b)=>some (.bool !(a==b))
 | .eql, .sl _, .lst _ (_:: _), .v (.slice none 0 0)=>some (.bool false)
 | .neq, .sl _, .lst _ (_:: _), .v (.slice none 0 0)=>some (.bool true)
 | .eql, .sl _, .v (.slice A _ _), .v (.slice none 0 0)=>some (.bool A.isNone)
 | .neq, .sl _, .v (.slice A _ _), .v (.slice none 0 0)=>some (.bool !A.isNone)
 | .eql, .string, .v (.string a), .v (.string b)=>some (.bool (a.toList==b.toList))
 | .neq, .string, .v (.string a), .v (.string b)=>some (.bool !(a.toList==b.toList))
 | .eql, .str, .agg xs, .agg ys=>(eqD P t xs ys).map λ b=> .bool b
 | .neq, .str, .agg xs, .agg ys=>(eqD P t xs ys).map λ b=> .bool !b
 | .eql, .other, .fn _ _ _, .v .nilFunc=>if zyr P t=true then some (.bool false) else none
 | .neq, .other, .fn _ _ _, .v .nilFunc=>if zyr P t=true then some (.bool true) else none
 | .eql, .other, .v .nilFunc, .v .nilFunc=>if zyr P t=true then some (.bool true) else none
 | .neq, .other, .v .nilFunc, .v .nilFunc=>if zyr P t=true then some (.bool false) else none
 | _, _, _, _=>none
def zxS (P:Program) (op:BinOp) (t:TypeId) (x y:AV):Res:=
 match evEq P op t x y with
 |some z=> .ok z
 |none=>zG4 op x y
def zrZ (x:AV) (h:zay):Res:=
 match x with
 | .ref o g sz i off=> .if (zdI h o g sz) (.ref o g sz i off)
 | .fp cells=> .ok (.fp cells)
 | _=> .fail
def zG7 (x y:AV):Res:=match x,y with
 | .v (.int k a), .v (.int _ b)=> .ok (.v (.int k (if b<a then b else a)))
 | _, _=> .fail
def zG6 (x y:AV):Res:=match x,y with
 | .v (.int k a), .v (.int _ b)=> .ok (.v (.int k (if a<b then b else a)))
 | _, _=> .fail
def zeL (h:zay) (sz:Nat):List (List AV)->List (Nat×AV)->Prop×List (List AV)
 |rs, []=>(True,rs)
 |rs,(i,x)::l=>let r:=zeL h sz (rs.set i x.cells) l;(i<rs.length∧x.cells.length=sz∧x.okCells h∧r.1,r.2)
def zft (P:Program) (n:Nat) (t:TypeId) (len:Nat) (parts:List (Nat×AV)) (h:zay):Res:=
 match tk P t with
 | .sl e=>match tsz P e,tz P e with
  |some sz,some z=>
   let r:=zeL h sz (List.replicate len z) parts
   ⟨r.1∧z.length=sz∧0<sz∧len * sz<=16777216, .sl n 0 sz 0 len, [(n,some (.rows true 0 sz r.2))],1⟩
  | _, _=> .fail
 | _=> .fail
def zfR (P:Program) (h:zay) (s:TypeId):List AV->List (Nat×AV)->Prop×List AV
 |cs, []=>(True,cs)
 |cs,(i,x)::l=>match zJe P s i,(zMX P s i).bind (tsz P) with
  |some d,some n=>let r:=zfR P h s (setMany cs d x.cells) l;(x.cells.length=n∧d+n<=cs.length∧x.okCells h∧r.1,r.2)
  | _, _=>(False,cs)
def zkC (h:zay) (sz:Nat):List AV->List (Nat×AV)->Prop×List AV
 |cs, []=>(True,cs)
 |cs,(i,x)::l=>let r:=zkC h sz (setMany cs (i * sz) x.cells) l;(x.cells.length=sz∧i * sz+sz<=cs.length∧x.okCells h∧r.1,r.2)
def zpe (P:Program) (t:TypeId) (parts:List (Nat×AV)) (h:zay):Res:=
 match tk P t,tz P t with
 | .str,some z=>let r:=zfR P h t z parts; .if (tfi P t=true∧r.1) (.agg r.2)
 | .arr _ e,some z=>match tsz P e with
  |some sz=>let r:=zkC h sz z parts; .if r.1 (.agg r.2)
  |none=> .fail
 | _, _=> .fail
def zaN (x:AV) (sz:Nat) (h:zay):Prop×List (List AV):=
 match x with
 | .sl o g sz' i len=>match h o with
  |some (.rows _ g' sz'' rs)=>(g=g'∧sz=sz'∧sz=sz''∧i+len<=rs.length,(rs.drop i).take len)
  |none=>(False, [])
 | .lst sz' rows=>((rows= []∨sz=sz'),rows)
 | .v (.slice _ 0 _)=>(True, [])
 | _=>(False, [])
def zjn:List (List AV)->Option (List Int)
 | []=>some []
 | [.v (.int .u8 n)]::rs=>(zjn rs).map (n::·)
 | _=>none
def zjz (ns:List Int):ByteArray:=ns.foldl (λ r n=>r.push (UInt8.ofNat n.toNat)) ByteArray.empty
def zDO (P:Program) (e:TypeId) (x:AV) (h:zay):Res:=
 match tk P e,zjn (zaN x 1 h).2 with
 | .int .u8,some ns=> .if (zaN x 1 h).1 (.v (.string (zjz ns)))
 | _, _=> .fail
def zpX (P:Program) (src dst:TypeId) (x:AV) (h:zay):Res:=
 match tk P src,tk P dst,x with
 | .int .i64, .int .u8, .v (.int _ n)=> .ok (.v (.int .u8 (n.emod 256)))
 | .int _, .int k, .v (.int _ n)=> .if (InR k n) (.v (.int k n))
 | .sl e, .string,x=>zDO P e x h
 | _, _, _=> .fail
def zhE (P:Program) (n:Nat) (tys:List TypeId) (s x:AV) (h:zay):Res:=
 match tys with
 | [st,xt]=>match tk P st,tk P xt with
  | .sl e, .sl _=>match tsz P e,tby P e,tz P e with
   |some sz,some by_,some z=>
    let r:=zaN x sz h
    match s with
    | .v (.slice none 0 0)=>⟨r.1∧0<sz∧z.length=sz∧0<by_∧by_<=1024∧r.2.length * by_<=17592186044416, .sl n 0 sz 0 r.2.length, [(n,some (.rows true 0 sz r.2))],1⟩
    | .sl o g sz' i len=>match h o with
     |some (.rows mt g' sz'' rs)=>
      ⟨r.1∧0<sz∧z.length=sz∧mt=true∧g=g'∧sz=sz'∧sz=sz''∧i+len=rs.length∧0<by_∧by_<=1024∧(len+r.2.length) * by_<=17592186044416,
       .sl o (g+1) sz 0 (len+r.2.length), [(o,some (.rows true (g+1) sz (rs.drop i++r.2)))],0⟩
     |none=> .fail
    | _=> .fail
   | _, _, _=> .fail
  | _, _=> .fail
 | _=> .fail
def zjU (P:Program) (n:Nat) (st:TypeId) (s x:AV):Res:=
 match tk P st,s,x with
 | .sl e, .v (.slice none 0 0), .v (.int .i64 l)=>match tsz P e,tz P e,tby P e with
  |some sz,some z,some by_=>⟨0<sz∧z.length=sz∧0<l∧by_<=1024∧l<=17179869184,
    .sl n 0 sz 0 l.toNat, [(n,some (.rows true 0 sz (List.replicate l.toNat z)))],1⟩
  | _, _, _=> .fail
 | _, _, _=> .fail
def zHv:TK->Bool
 | .int _=>true
 | _=>false
def zfQ (P:Program) (tys:List TypeId) (s x:AV) (h:zay):Res:=
 match tys with
 | [st,xt]=>match tk P st,tk P xt with
  | .sl e, .sl _=>match tsz P e,tby P e,tz P e with
   |some sz,some by_,some z=>
    let r:=zaN x sz h
    match s with
    | .sl o g sz' i len=>match h o with
     |some (.rows mt g' sz'' rs)=>
      ⟨r.1∧0<sz∧z.length=sz∧mt=true∧g=g'∧sz=sz'∧sz=sz''∧i+len=rs.length∧0<by_∧by_<=1024∧(len+r.2.length) * by_<=17592186044416,
       .lst sz (rs.drop i++r.2), [(o,some (.rows false g sz rs))],0⟩
     |none=> .fail
    | _=> .fail
   | _, _, _=> .fail
  | _, _=> .fail
 | _=> .fail
def zKx (n:Nat):AV->Bool
 | .sl _ g _ _ _=>decide (1<=g) && decide (1000000<=n)
 | _=>false
def zv2 (P:Program) (n:Nat) (tys:List TypeId) (s x:AV) (h:zay):Res:=
 match tys with
 | [st,xt]=>bif zHv (tk P xt) then zjU P n st s x else bif zKx n s then zfQ P tys s x h else zhE P n tys s x h
 | _=> .fail
def zG5 (P:Program) (t:TypeId) (x:AV):Res:=
 match tk P t,x with
 | .sl _, .v (.slice none 0 0)=> .ok (.int 0)
 | _, _=> .fail
def zpY (P:Program) (tys:List TypeId) (s x:AV) (h:zay):Res:=
 match tys with
 |st:: _=>match tk P st with
  | .sl e=>match tsz P e with
   |some sz=>
    let r:=zaN x sz h
    match s with
    | .sl o g sz' i len=>match h o with
     |some (.rows mt g' sz'' rs)=>
      ⟨r.1∧0<sz∧mt=true∧g=g'∧sz=sz'∧sz=sz''∧i+len<=rs.length∧len<=1073741824,
       .int (min r.2.length len:Nat), [(o,some (.rows true g sz (rs.take i++r.2.take (min r.2.length len)++rs.drop (i+min r.2.length len))))],0⟩
     |none=> .fail
    | _=> .fail
   |none=> .fail
  | _=> .fail
 | _=> .fail
def zlD (P:Program) (tys:List TypeId) (s:AV) (h:zay):Res:=
 match tys with
 |st:: _=>match tk P st with
  | .sl e=>match tsz P e,tz P e with
   |some sz,some z=>
    match s with
    | .sl o g sz' i len=>match h o with
     |some (.rows mt g' sz'' rs)=>
      ⟨0<sz∧z.length=sz∧mt=true∧g=g'∧sz=sz'∧sz=sz''∧i+len<=rs.length∧len<=17179869184,
       .tup [], [(o,some (.rows true g sz (rs.take i++List.replicate len z++rs.drop (i+len))))],0⟩
     |none=> .fail
    | .v (.slice none _ _)=> .ok (.tup [])
    | _=> .fail
   | _, _=> .fail
  | _=> .fail
 | _=> .fail
def zid (P:Program) (n:Nat) (t:TypeId) (l c:AV):Res:=
 match tk P t,l,c with
 | .sl e, .v (.int .i64 l), .v (.int .i64 c)=>match tsz P e,tz P e,tby P e with
  |some sz,some z,some by_=>⟨0<sz∧z.length=sz∧0<=l∧l<=c∧by_<=1024∧c<=17179869184,
    .sl n 0 sz 0 l.toNat, [(n,some (.rows true 0 sz (List.replicate l.toNat z)))],1⟩
  | _, _, _=> .fail
 | _, _, _=> .fail
def zl2 (d:Int):Option AV->Option Int
 |none=>some d
 |some (.v (.int _ n))=>some n
 | _=>none
def zlG (P:Program) (t:TypeId) (x:AV) (lo hi mx:Option AV) (h':zay):Res:=
 match tk P t,x,mx with
 | .sl e, .sl o g sz i len,none=>match zl2 0 lo,zl2 len hi with
  |some l,some h=> .if (zdI h' o g sz∧tsz P e=some sz∧0<=l∧l<=h∧h<=len) (.sl o g sz (i+l.toNat) (h.toNat - l.toNat))
  | _, _=> .fail
 | .sl e, .lst sz rows,none=>match zl2 0 lo,zl2 rows.length hi with
  |some l,some h=> .if (tsz P e=some sz∧0<=l∧l<=h∧h<=rows.length) (.lst sz ((rows.drop l.toNat).take (h.toNat - l.toNat)))
  | _, _=> .fail
 | .sl e, .v (.slice none 0 0),none=>match zl2 0 lo,zl2 0 hi with
  |some l,some h=> .if (l=0∧h=0∧(tsz P e).isSome=true) (.v (.slice none 0 0))
  | _, _=> .fail
 | .string, .v (.string s),none=>match zl2 0 lo,zl2 s.data.toList.length hi with
  |some l,some h=> .if (0<=l∧l<=h∧h<=s.data.toList.length) (.v (.string (s.extract l.toNat h.toNat)))
  | _, _=> .fail
 | _, _, _=> .fail
def zlE (x:AV) (i:Nat):Res:=
 match x with
 | .tup vs=> .if (i<vs.length) (cel vs i)
 | _=> .fail

def simpZ:Value->Bool
 | .bool _| .int _ _| .string _| .pointer none| .slice none 0 0=>true
 | _=>false
def tz1 (P:Program) (t:TypeId):Option Value:=((P.info? t).bind (·.zero)).bind λ z=>if simpZ z=true then some z else none
def ztP (P:Program) (t:TypeId):Option Nat:=match P.underlying t with
 |some (.int _)=>some 0
 |some .bool=>some 1
 |some .string=>some 2
 | _=>none
def zwo (P:Program) (t:TypeId):Option (List Nat):=match P.underlying t with
 |some (.struct fs)=>if (!P.stoodInHeld t && (List.range fs.size).all λ i=>match fs[i]? with
   |some f=>f.name != "_" && f.offset==i && (ztP P f.type).isSome
   |none=>false)=true then some (fs.toList.map λ f=>(ztP P f.type).getD 3) else none
 | _=>none
def zon (P:Program) (t:TypeId):TK:=match tk P t with
 | .str=>match zwo P t with
  |some ks=> .many ks
  |none=> .str
 | .many _=> .other
 |k=>k
def kCell:Nat->AV->Bool
 |0, .v (.int _ _)|1, .v (.bool _)|2, .v (.string _)=>true
 | _, _=>false
def zsj:List Nat->List AV->Bool
 | [], []=>true
 |k::ks,x::xs=>kCell k x && zsj ks xs
 | _, _=>false
def zJg:TK->AV->Bool
 | .string, _| .bool, _| .int _, _=>true
 | .many ks, .agg xs=>zsj ks xs
 | _, _=>false
def zNT:Nat->AV->AV->Option Bool
 |0, .v (.int k a), .v (.int k' b)=>if k=k' then some (a==b) else none
 |1, .v (.bool a), .v (.bool b)=>some (a==b)
 |2, .v (.string a), .v (.string b)=>some (a==b)
 | _, _, _=>none
def zLR:List Nat->List AV->List AV->Option Bool
 | [], [], []=>some true
 |k::ks,x::xs,y::ys=>match zNT k x y,zLR ks xs ys with
  |some a,some b=>some (a && b)
  | _, _=>none
 | _, _, _=>none
def zir:TK->AV->AV->Option Bool
 | .string, .v (.string a), .v (.string b)=>some (a==b)
 | .bool, .v (.bool a), .v (.bool b)=>some (a==b)
 | .int _, .v (.int k a), .v (.int k' b)=>if k=k' then some (a==b) else none
 | .many ks, .agg xs, .agg ys=>zLR ks xs ys
 | _, _, _=>none
def zct (t:TK) (k:AV):List (List AV)->Option (Option AV)
 | []=>some none
 |r::rs=>match zir t k (cel r 0) with
  |some true=>some (some (cel r 1))
  |some false=>zct t k rs
  |none=>none
def zdv (t:TK) (k x:AV):List (List AV)->Option (List (List AV))
 | []=>some [[k,x]]
 |r::rs=>match zir t k (cel r 0) with
  |some true=>some ([k,x]::rs)
  |some false=>(zdv t k x rs).map (r::·)
  |none=>none
def zlF (P:Program) (n:Nat) (t:TypeId) (r:Option Operand):Res:=
 match tk P t,r with
 | .map _ _,none=>⟨True, .mp n, [(n,some (.rows true 0 2 []))],1⟩
 | _, _=> .fail
def ze5 (P:Program) (t:TypeId) (m k x:AV) (h:zay):Res:=
 match tk P t,m with
 | .map kt _, .mp o=>match h o with
  |some (.rows true 0 2 rs)=>match zdv (zon P kt) k x rs with
   |some rs'=>⟨zJg (zon P kt) k=true, .top, [(o,some (.rows true 0 2 rs'))],0⟩
   |none=> .fail
  | _=> .fail
 | _, _=> .fail
def ziZ (P:Program) (t:TypeId) (m k:AV) (ok:Bool) (h:zay):Res:=
 match tk P t,m with
 | .map kt et, .mp o=>match h o with
  |some (.rows _ 0 2 rs)=>match zct (zon P kt) k rs,tz1 P et with
   |some (some x), _=> .if (zJg (zon P kt) k=true) (if ok then .tup [x, .bool true] else x)
   |some none,some z=> .if (zJg (zon P kt) k=true) (if ok then .tup [.v z, .bool false] else .v z)
   | _, _=> .fail
  | _=> .fail
 | _, _=> .fail
def aev (P:Program) (n:Nat) (op:Op) (e:Env) (h:zay):Res:=
 match op with
 | .move x| .assign x=> .ok (ev e x)
 | .pick c a b=>zxX (ev e c) (ev e a) (ev e b)
 | .alloc t=>match tz P t with
  |some z=>⟨True, .ref n 0 z.length 0 0, [(n,some (.rows true 0 z.length [z]))],1⟩
  |none=> .fail
 | .box _ x=>let c:=(ev e x).cells
  ⟨(ev e x).okCells h, .ref n 0 c.length 0 0, [(n,some (.rows true 0 c.length [c]))],1⟩
 | .build t parts=>zpe P t (parts.toList.map λ p=>(p.1,ev e p.2)) h
 | .buildSlice t len parts=>zft P n t len (parts.toList.map λ p=>(p.1,ev e p.2)) h
 | .load t a=>zob P t (ev e a) h
 | .store t a v=>zeV P t (ev e a) (ev e v) h
 | .binOp op t x y _=>zxS P op t (ev e x) (ev e y)
 | .unOp op _ x=>evUn op (ev e x)
 | .nilCheck x=>zrZ (ev e x) h
 | .convert s d x=>zpX P s d (ev e x) h
 | .makeFunc f a b=> .ok (.fn f (a.toList.map (ev e)) (b.toList.map (ev e)))
 | .makeSlice t l c=>zid P n t (ev e l) (ev e c)
 | .slice t x lo hi mx=>zlG P t (ev e x) (lo.map (ev e)) (hi.map (ev e)) (mx.map (ev e)) h
 | .fieldAddr t x f=>zdK P t (ev e x) f h
 | .field t x f=>zrW P t (ev e x) f
 | .indexAddr t x i=>zdL P t (ev e x) (ev e i) h
 | .index t x i=>zrX P t (ev e x) (ev e i)
 | .extract x i=>zlE (ev e x) i
 | .makeMap t r=>zlF P n t r
 | .mapUpdate t m k x| .insert t m k x=>ze5 P t (ev e m) (ev e k) (ev e x) h
 | .lookup t m k ok=>ziZ P t (ev e m) (ev e k) ok h
 | .call { callee:= .builtin .len,args,argTypes}=>match args.toList,argTypes.toList with
  | [x], [t]=>zxV P t (ev e x) h
  | _, _=> .fail
 | .call { callee:= .builtin .append,args,argTypes}=>match args.toList with
  | [s,x]=>zv2 P n argTypes.toList (ev e s) (ev e x) h
  | _=> .fail
 | .call { callee:= .builtin .cap,args,argTypes}=>match args.toList,argTypes.toList with
  | [x], [t]=>zG5 P t (ev e x)
  | _, _=> .fail
 | .call { callee:= .builtin .copy,args,argTypes}=>match args.toList with
  | [s,x]=>zpY P argTypes.toList (ev e s) (ev e x) h
  | _=> .fail
 | .call { callee:= .builtin .clear,args,argTypes}=>match args.toList with
  | [s]=>zlD P argTypes.toList (ev e s) h
  | _=> .fail
 | .call { callee:= .builtin .min,args, .. }=>match args.toList with
  | [x,y]=>zG7 (ev e x) (ev e y)
  | _=> .fail
 | .call { callee:= .builtin .max,args, .. }=>match args.toList with
  | [x,y]=>zG6 (ev e x) (ev e y)
  | _=> .fail
 | _=> .fail
end Go.Av
end
section
namespace Go.Av
open Go

def zmL (φ:zaD) (w:World) (M:Nat->Prop) (a:Addr) (bs sz:Nat) (rs:List (List AV)):Prop:=
 (∃C T,a.spot=none∧w.heap[a.block]? =some (.cells C T (0,0))∧C.size=bs∧(∀r ∈ rs,r.length=sz)∧a.off+rs.length * sz<=bs∧
  (∀u ∈ (C.toList.drop a.off).take (rs.length * sz),zd7 u=true)∧za2 φ w M rs.flatten ((C.toList.drop a.off).take (rs.length * sz)))∨
 ∃es clk,a.spot≠none∧w.heap[a.block]? =some (.map es clk)∧es.size=rs.length∧(sz=2∧∀r ∈ rs,r.length=sz)∧za2 φ w M rs.flatten (es.toList.flatMap λ e=> [e.key,e.val])
variable {rs:List (List AV)} {bs sz:Nat} {a:Addr} {M M':Nat->Prop} {w w':World} {φ φ':zaD}
theorem zmL.keep  (hb:w'.heap[a.block]? =w.heap[a.block]?)
  (hr:∀ {xs:List AV} {vs:List Value},za2 φ w M xs vs->za2 φ' w' M' xs vs) (h:zmL φ w M a bs sz rs):zmL φ' w' M' a bs sz rs:=by
 grind [zmL]
theorem zmL.turn {rs':List (List AV)} (h:zmL φ w M a bs sz rs) (hb:w'.heap[a.block]? =w.heap[a.block]?) (hl:rs'.length=rs.length)
  (hsz:(∀r ∈ rs,r.length=sz)->∀r ∈ rs',r.length=sz) (hr:∀ {vs:List Value},za2 φ w M rs.flatten vs->za2 φ' w' M' rs'.flatten vs):zmL φ' w' M' a bs sz rs':=by
 grind [zmL]
theorem zmL.same  (h:zmL φ w M a bs sz rs) (hb:w'.heap[a.block]? =w.heap[a.block]?)
  (hr:∀ {vs:List Value},za2 φ w M rs.flatten vs->za2 φ' w' M' rs.flatten vs):zmL φ' w' M' a bs sz rs:=h.turn hb rfl id hr
theorem zmL.rel0  (h:zmL φ w M a bs sz rs):∃vs,za2 φ w M rs.flatten vs:=by
 grind [zmL]
theorem zmL.blk  (h:zmL φ w M a bs sz rs):a.block<w.heap.size:=by
 grind [zmL]
theorem zmL.cells {φ:zaD}{w:World}{M:Nat->Prop}{a:Addr}{bs sz:Nat}{rs:List (List AV)} (h:zmL φ w M a bs sz rs) (hs:a.spot=none):
  ∃C T,w.heap[a.block]? =some (.cells C T (0,0))∧C.size=bs∧(∀r ∈ rs,r.length=sz)∧a.off+rs.length * sz<=bs∧
   (∀u ∈ (C.toList.drop a.off).take (rs.length * sz),zd7 u=true)∧za2 φ w M rs.flatten ((C.toList.drop a.off).take (rs.length * sz)):=by
 grind [zmL]
theorem zmL.rows  (h:zmL φ w M a bs sz rs):∀r ∈ rs,r.length=sz:=by
 grind [zmL]
theorem zmL.map {φ:zaD}{w:World}{M:Nat->Prop}{a:Addr}{bs sz:Nat}{rs:List (List AV)} (h:zmL φ w M a bs sz rs) (hs:a.spot≠none):
  ∃es clk,w.heap[a.block]? =some (.map es clk)∧es.size=rs.length∧(sz=2∧∀r ∈ rs,r.length=sz)∧za2 φ w M rs.flatten (es.toList.flatMap λ e=> [e.key,e.val]):=by
 grind [zmL]
structure zaW (φ:zaD) (F:Nat->Prop) (w:World) (M0:Nat->Prop) (H:zay):Prop where
 m0:∀k,M0 k->k<w.heap.size
 fresh:∀o,F o->φ o=none
 obj:∀o mt g sz rs,H o=some (.rows mt g sz rs)->∃A,φ o=some (g,A)∧((A=none∧rs= [])∨∃a bs,A=some (a,bs)∧¬M0 a.block∧zmL φ w (Or M0 (Mut φ H)) a bs sz rs)
 inj:∀o o' mt g sz rs mt' g' sz' rs' a a' b b',H o=some (.rows mt g sz rs)->H o'=some (.rows mt' g' sz' rs')->o≠o'->(mt=true∨mt'=true)->
  φ o=some (g,some (a,b))->φ o'=some (g',some (a',b'))->a.block≠a'.block
 glob:zoY w (Or M0 (Mut φ H))

abbrev zmK (φ:zaD) (n:Nat) (w:World) (M0:Nat->Prop) (H:zay):Prop:=zaW φ (λ o=>n<=o) w M0 H

structure Fr (w:World) (U:Nat->Prop) (w':World):Prop where
 os:w'.os=w.os
 tape:w'.tape=w.tape
 output:w'.output=w.output
 drawn:w.drawn<=w'.drawn
 size:w.heap.size<=w'.heap.size
 block:∀k,k<w.heap.size->¬U k->w'.heap[k]? =w.heap[k]?

structure ze3 (φ:zaD) (w:World) (M0:Nat->Prop) (h:zay) (φ':zaD) (w':World) (h':zay):Prop where
 le:φ.le φ'
 or:∀k,Or M0 (Mut φ' h') k->Or M0 (Mut φ h) k∨w.heap.size<=k
 fr:Fr w (Mut φ h) w'
 mutd:∀k,Mut φ' h' k->Mut φ h k∨w.heap.size<=k

abbrev zbH:=AV->zay->Nat->Prop
def zfJ (P:Program) (f:FuncId):Prop:=∀ (args:Array Value) (w:World),(callFunc f args).run P w= .ok (.enter f args) w
def zaj (P:Program) (f:FuncId) (args:List AV) (h:zay) (n:Nat) (K:zbH):Prop:=
 zfJ P f∧∀ (M0:Nat->Prop) (φ:zaD) (w:World) (vs:List Value),zmK φ n w M0 h->za2 φ w (Or M0 (Mut φ h)) args vs->
  Calls P f ⟨vs⟩ w λ e w'=>∃v φ' r h' n',e= .returned v∧K r h' n'∧zmK φ' n' w' M0 h'∧Rel φ' w' (Or M0 (Mut φ' h')) r v∧ze3 φ w M0 h φ' w' h'

def zmM (P:Program) (fv:AV) (args:List AV) (h:zay) (n:Nat) (K:zbH):Prop:=
 match fv with
 | .fn (.func f) first caps=>zaj P f (first++args++caps) h n K
 | _=>False

inductive Cl:AV->Prop
 |top:Cl .top
 |v (x:Value):Cl (.v x)
 |agg {cs:List AV} (h:∀c ∈ cs,Cl c):Cl (.agg cs)
 |tup {cs:List AV} (h:∀c ∈ cs,Cl c):Cl (.tup cs)
 |lst {sz:Nat} {rows:List (List AV)} (h:∀r ∈ rows,∀c ∈ r,Cl c):Cl (.lst sz rows)
 |fp {cs:List AV} (h:∀c ∈ cs,Cl c):Cl (.fp cs)
 |fn {f:Fn} {a b:List AV} (h:∀c ∈ a,Cl c) (h':∀c ∈ b,Cl c):Cl (.fn f a b)
 |gd {g:Bool} {x:AV} (h:Cl x):Cl (.gd g x)
abbrev zc2:=Exit->Env->zay->Nat->Prop
def zC7 (K:Env->zay->Nat->Prop) (Q:zc2):zc2
 | .normal,e,h,n=>K e h n
 |x,e,h,n=>Q x e h n
def znM (Q:zc2):zc2
 | .goto _, _, _, _=>False
 |x,e,h,n=>Q x e h n
def zlk (id:Nat) (Q:zc2):zc2
 | .exit id',e,h,n=>if id'=id then Q .normal e h n else Q (.exit id') e h n
 |x,e,h,n=>Q x e h n

def unG:AV->AV
 | .gd _ x=>x
 |x=>x
def okG (g:Bool):AV->Prop
 | .gd g' _=>g=true->g'=true
 | _=>True
def zef (op:Op):List Tmp:=op.operands.toList.filterMap fun| .tmp t=>some t| _=>none
def gE (op:Op) (e:Env):Env:=match op with
 | .pick _ _ _=>e
 | _=>λ t=>unG (e t)
def gT (op:Op):List Tmp:=match op with
 | .pick _ _ _=> []
 |op=>zef op
def zlN (x:AV) (want:Bool):Option Bool:=
 match x with
 | .v (.bool b)=>some (b==want)
 | .gd g (.v (.bool b))=>some (g && (b==want))
 | _=>none
def zkh (ops:List Oper) (j:Nat):Option Tmp:=(ops[j]?).bind (·.dst)
def zyp:Op->Bool
 | .call { callee:= .value _, .. }=>true
 | _=>false

def mkE:List (Nat×AV)->Env
 | []=>λ _=> .top
 |(t,x)::l=>upd (mkE l) t x
def mkH:List (Nat×zcr)->zay
 | []=>λ _=>none
 |(o,x)::l=>upd (mkH l) o (some x)
mutual
inductive LeV (h h':zay) (n:Nat):AV->AV->Prop
 |refl (x:AV):LeV h h' n x x
 |top (x:AV):LeV h h' n x .top
 |frz {o g sz i len:Nat} {mt:Bool} {rs rows:List (List AV)} (ho:h o=some (.rows mt g sz rs)) (hl:i+len<=rs.length) (ho':∀g sz rs,h' o≠some (.rows true g sz rs)) (hr:zaM h h' n ((rs.drop i).take len) rows):
   LeV h h' n (.sl o g sz i len) (.lst sz rows)
 |frzP {o g sz i off:Nat} {mt:Bool} {rs:List (List AV)} {cells:List AV} (ho:h o=some (.rows mt g sz rs)) (hi:i<rs.length) (hoff:off<sz) (ho':∀g sz rs,h' o≠some (.rows true g sz rs)) (hr:zaL h h' n ((nth rs i).drop off) cells):
   LeV h h' n (.ref o g sz i off) (.fp cells)
 |nil {A:Option Addr} {c:Nat} (sz:Nat):LeV h h' n (.v (.slice A 0 c)) (.lst sz [])
 |own {o g sz:Nat} (hn:n<=o) (ho':h' o=some (.rows true g sz [])):LeV h h' n (.v (.slice none 0 0)) (.sl o g sz 0 0)
 |agg {xs ys:List AV} (hr:zaL h h' n xs ys):LeV h h' n (.agg xs) (.agg ys)
 |tup {xs ys:List AV} (hr:zaL h h' n xs ys):LeV h h' n (.tup xs) (.tup ys)
 |fn {f:Fn} {a b a' b':List AV} (ha:zaL h h' n a a') (hb:zaL h h' n b b'):LeV h h' n (.fn f a b) (.fn f a' b')
 |lst {sz:Nat} {rows rows':List (List AV)} (hr:zaM h h' n rows rows'):LeV h h' n (.lst sz rows) (.lst sz rows')
inductive zaL (h h':zay) (n:Nat):List AV->List AV->Prop
 |nil:zaL h h' n [] []
 |cons {x y:AV} {xs ys:List AV} (hx:LeV h h' n x y) (t:zaL h h' n xs ys):zaL h h' n (x::xs) (y::ys)
inductive zaM (h h':zay) (n:Nat):List (List AV)->List (List AV)->Prop
 |refl (rs:List (List AV)):zaM h h' n rs rs
 |nil:zaM h h' n [] []
 |cons {x y:List AV} {xs ys:List (List AV)} (hx:zaL h h' n x y) (t:zaM h h' n xs ys):zaM h h' n (x::xs) (y::ys)
end
theorem zaL.refl (h h':zay) (n:Nat):∀xs,zaL h h' n xs xs
 | []=> .nil
 |x::xs=> .cons (.refl x) (zaL.refl h h' n xs)
inductive LeO (h h':zay) (n:Nat) (o:Nat):Option zcr->zcr->Prop
 |same {mt mt':Bool} {g sz:Nat} {rs rs':List (List AV)} (hm:mt'=true->mt=true) (hr:zaM h h' n rs rs'):LeO h h' n o (some (.rows mt g sz rs)) (.rows mt' g sz rs')
 |own {g sz:Nat} (hn:n<=o):LeO h h' n o none (.rows true g sz [])
inductive Bel (n:Nat):AV->Prop
 |top:Bel n .top
 |v (x:Value):Bel n (.v x)
 |agg {cs:List AV} (h:∀c ∈ cs,Bel n c):Bel n (.agg cs)
 |tup {cs:List AV} (h:∀c ∈ cs,Bel n c):Bel n (.tup cs)
 |lst {sz:Nat} {rows:List (List AV)} (h:∀r ∈ rows,∀c ∈ r,Bel n c):Bel n (.lst sz rows)
 |fp {cs:List AV} (h:∀c ∈ cs,Bel n c):Bel n (.fp cs)
 |ref {o g sz i off:Nat} (h:o<n):Bel n (.ref o g sz i off)
 |sl {o g sz i len:Nat} (h:o<n):Bel n (.sl o g sz i len)
 |mp {o:Nat} (h:o<n):Bel n (.mp o)
 |fn {f:Fn} {a b:List AV} (h:∀c ∈ a,Bel n c) (h':∀c ∈ b,Bel n c):Bel n (.fn f a b)
 |gd {g:Bool} {x:AV} (h:Bel n x):Bel n (.gd g x)
inductive zpM (S:List Nat):AV->Prop
 |top:zpM S .top
 |v (x:Value):zpM S (.v x)
 |agg {cs:List AV} (h:∀c ∈ cs,zpM S c):zpM S (.agg cs)
 |tup {cs:List AV} (h:∀c ∈ cs,zpM S c):zpM S (.tup cs)
 |lst {sz:Nat} {rows:List (List AV)} (h:∀r ∈ rows,∀c ∈ r,zpM S c):zpM S (.lst sz rows)
 |fp {cs:List AV} (h:∀c ∈ cs,zpM S c):zpM S (.fp cs)
 |ref {o g sz i off:Nat} (h:o ∈ S):zpM S (.ref o g sz i off)
 |sl {o g sz i len:Nat} (h:o ∈ S):zpM S (.sl o g sz i len)
 |mp {o:Nat} (h:o ∈ S):zpM S (.mp o)
 |fn {f:Fn} {a b:List AV} (h:∀c ∈ a,zpM S c) (h':∀c ∈ b,zpM S c):zpM S (.fn f a b)
 |gd {g:Bool} {x:AV} (h:zpM S x):zpM S (.gd g x)
theorem Bel.toS {S:List Nat}{x:AV} (h:Bel 0 x):zpM S x:=by
 induction h with
 |top=>exact .top
 |v x=>exact .v x
 |agg _ ih=>exact .agg ih
 |tup _ ih=>exact .tup ih
 |lst _ ih=>exact .lst ih
 |fp _ ih=>exact .fp ih
 |ref h=>omega
 |sl h=>omega
 |mp h=>omega
 |fn _ _ ih1 ih2=>exact .fn ih1 ih2
 |gd _ ih=>exact .gd ih
def Frz (h h':zay):Prop:=∀o,h' o=h o∨∃g sz rs,h o=some (.rows true g sz rs)∧h' o=some (.rows false g sz rs)
theorem Frz.refl (h:zay):Frz h h:=λ _=> .inl rfl
def GH:Nat:=1000000007
def zcN (l more:Nat) (rows:List (List AV)):AV:= .gd false (.tup [.v (.int .i64 l), .lst more rows])
def zoU (e:Env) (fv:AV) (args:List AV) (h:zay) (n:Nat) (K:Env->AV->zay->Prop):Prop:=
 ∃l more rows,fv= .fn (.yield l) [] []∧e GH=zcN l more rows∧
  match rows with
  | []=>more=1
  |xs::rest=>∃h',Frz h h'∧zaL h h' n args xs∧(∀c ∈ xs,Bel 0 c)∧K (upd e GH (zcN l more rest)) (.v (.bool true)) h'∧K (upd e GH (zcN l 2 [])) (.v (.bool false)) h'
def gW {α:Type} (g:Bool) (wr:List α):List α:=bif g then wr else []
def gN (g:Bool) (al:Nat):Nat:=bif g then al else 0
def zgK (P:Program) (ops:List Oper) (Q:zc2):List Oper->Env->zay->Nat->Prop
 | [],e,h,n=>Q .normal e h n
 |o::rest,e,h,n=>
  match o.guard with
  |none=>
   match o.op with
   | .call { callee:= .value f,args, .. }=>zmM P (ev e f) (args.toList.map (ev e)) h n (λ r h' n'=>zgK P ops Q rest (put e o.dst r) h' n')∨
     zoU e (ev e f) (args.toList.map (ev e)) h n (λ e' r h'=>zgK P ops Q rest (put e' o.dst r) h' n)
   |op=>
    let r:=aev P n op e h
    r.cond∧zgK P ops Q rest (put e o.dst r.val) (zap r.wr h) (n+r.al)
  |some (j,want)=>
   match (zkh ops j).bind λ t=>zlN (e t) want with
   |none=>False
   |some g=>
    match o.op with
    | .call { callee:= .value f,args, .. }=>
     (∀t ∈ zef o.op,okG g (e t))∧((∃x,(g=true->zmM P (ev (λ t=>unG (e t)) f) (args.toList.map (ev λ t=>unG (e t))) h n λ r h' n'=>r=x∧h'=h∧n'=n)∧
      zgK P ops Q rest (put e o.dst (.gd g x)) h n)∨
      (g=true∧zmM P (ev (λ t=>unG (e t)) f) (args.toList.map (ev λ t=>unG (e t))) h n λ r h' n'=>zgK P ops Q rest (put e o.dst (.gd true r)) h' n')∨
      (g=true∧zoU e (ev (λ t=>unG (e t)) f) (args.toList.map (ev λ t=>unG (e t))) h n λ e' r h'=>zgK P ops Q rest (put e' o.dst (.gd true r)) h' n))
    |op=>
     let r:=aev P n op (gE op e) h
     (∀t ∈ gT op,okG g (e t))∧(g=true->r.cond)∧zgK P ops Q rest (put e o.dst (.gd g r.val)) (zap (gW g r.wr) h) (n+gN g r.al)

def zqr (n:Nat):zcr->Prop
 | .rows _ _ _ rs=>∀r ∈ rs,∀c ∈ r,Bel n c
structure Wk (e:Env) (h:zay) (n:Nat) (E:List (Nat×AV)) (HH:List (Nat×zcr)) (n':Nat):Prop where
 env:∀p ∈ E,LeV h (mkH HH) n (e p.1) p.2∧Bel n' p.2
 obj:∀p ∈ HH,p.1<n'∧LeO h (mkH HH) n p.1 (h p.1) p.2∧zqr n' p.2

def zac (n0:Nat) (B:zc2->Env->zay->Nat->Prop) (Q:zc2) (e:Env) (h:zay) (n:Nat):Prop:=
 ∀X:Env->zay->Nat->Prop,(∀e h n,B (zC7 X Q) e h n->X e h n)->(∀e h n E HH n',Wk e h n E HH n'->n0<=n'->X (mkE E) (mkH HH) n'->X e h n)->X e h n

def noP:zaD:=λ _=>none
def noH:zay:=λ _=>none
def zav (P:Program) (f:FuncId) (args:List AV) (r:AV):Prop:=
 zfJ P f∧∀ (M:Nat->Prop) (w:World) (vs:List Value),(∀k,M k->k<w.heap.size)->zoY w M->za2 noP w M args vs->
  Calls P f ⟨vs⟩ w λ e w'=>∃v,e= .returned v∧Rel noP w' M r v∧Fr w (λ _=>False) w'
inductive zBB:AV->Prop
 |v (x:Value):zBB (.v x)
 |tup {xs:List AV} (h:∀x ∈ xs,zBB x):zBB (.tup xs)
 |agg {xs:List AV} (h:∀x ∈ xs,zBB x):zBB (.agg xs)
def zxa (P:Program) (fv:AV) (args:List AV) (h:zay) (r:AV) (S:List Nat):Prop:=
 ∃f first caps args',fv= .fn (.func f) first caps∧(∀c ∈ args',Bel 0 c)∧zav P f args' r∧(((∀h₁:zay,(∀o ∈ S,h o=h₁ o)->zaL h₁ noH 0 (first++args++caps) args')∧zBB r)∨args'=first++args++caps)

mutual
inductive Sh (n:Nat):AV->AV->Prop
 |same {x:AV} (h:Bel 0 x):Sh n x x
 |ref {o g sz i off:Nat}:Sh n (.ref o g sz i off) (.ref (n+o) g sz i off)
 |sl {o g sz i len:Nat}:Sh n (.sl o g sz i len) (.sl (n+o) g sz i len)
 |mp {o:Nat}:Sh n (.mp o) (.mp (n+o))
 |agg {xs ys:List AV} (h:ShL n xs ys):Sh n (.agg xs) (.agg ys)
 |tup {xs ys:List AV} (h:ShL n xs ys):Sh n (.tup xs) (.tup ys)
 |fn {f:Fn} {a b a' b':List AV} (h:ShL n a a') (h':ShL n b b'):Sh n (.fn f a b) (.fn f a' b')
inductive ShL (n:Nat):List AV->List AV->Prop
 |nil:ShL n [] []
 |cons {x y:AV} {xs ys:List AV} (h:Sh n x y) (t:ShL n xs ys):ShL n (x::xs) (y::ys)
end
inductive zBG (n:Nat):List (List AV)->List (List AV)->Prop
 |same {rs:List (List AV)} (h:∀r ∈ rs,∀c ∈ r,Bel 0 c):zBG n rs rs
 |nil:zBG n [] []
 |cons {x y:List AV} {xs ys:List (List AV)} (h:ShL n x y) (t:zBG n xs ys):zBG n (x::xs) (y::ys)
inductive ShO (n:Nat):zcr->zcr->Prop
 |rows {mt:Bool} {g sz:Nat} {rs rs':List (List AV)} (h:zBG n rs rs'):ShO n (.rows mt g sz rs) (.rows mt g sz rs')
inductive ShH (n:Nat):List (Nat×zcr)->List (Nat×zcr)->Prop
 |nil:ShH n [] []
 |cons {o:Nat} {x y:zcr} {l l':List (Nat×zcr)} (h:ShO n x y) (t:ShH n l l'):ShH n ((o,x)::l) ((n+o,y)::l')
inductive zli:AV->Prop
 |top:zli .top
 |v (x:Value):zli (.v x)
 |ref (o g sz i off:Nat):zli (.ref o g sz i off)
 |sl (o g sz i len:Nat):zli (.sl o g sz i len)
 |mp (o:Nat):zli (.mp o)
 |agg {xs:List AV} (h:∀x ∈ xs,zli x):zli (.agg xs)
 |tup {xs:List AV} (h:∀x ∈ xs,zli x):zli (.tup xs)
 |fn {f:Fn} {a b:List AV} (h:∀x ∈ a,zli x) (h':∀x ∈ b,zli x):zli (.fn f a b)
def zzt:zcr->Prop
 | .rows mt _ _ rs=>mt=true∧∀r ∈ rs,∀x ∈ r,zli x
abbrev zhs:Nat:=4294967295
def zjG (P:Program) (b:Nat) (fv:AV) (args:List AV) (h:zay) (r:AV) (S:List Nat) (wr:List (Nat×Option zcr)):Prop:=
 (wr= []∧zxa P fv args h r S)∨
 (∃f first caps args',fv= .fn (.func f) first caps∧(∀c ∈ args',Bel 0 c)∧zav P f args' r∧
  (∀p ∈ wr,p.1 ∈ S∧∃g sz rs,p.2=some (.rows false g sz rs)∧h p.1=some (.rows true g sz rs))∧
  ∀h₁:zay,(∀o ∈ S,h o=h₁ o)->zaL h₁ (zap wr h₁) 0 (first++args++caps) args')∨
 (∃f first caps,fv= .fn (.func f) first caps∧(∀o ∈ S,∃x,h o=some x)∧
  (∀p ∈ wr,p.1 ∈ S∧∃g sz rs,p.2=some (.rows true g sz rs)∧∀r ∈ rs,∀c ∈ r,Bel 0 c)∧(zBB r∨zpM S r∨∃o g sz i len,r= .sl o g sz i len∧o ∈ wr.map (·.1))∧
  ∀ (h₁:zay) (n₁:Nat),(∀o ∈ S,h o=h₁ o)->(∀o ∈ S,o<n₁)->zaj P f (first++args++caps) h₁ n₁ (λ r' h' n'=>r'=r∧h'=zap wr h₁∧n'=n₁))∨
 ∃f first caps args' R0 H0 HH k2,fv= .fn (.func f) first caps∧zhs ∈ S∧k2<=16∧(∀c ∈ args',Bel 0 c)∧
  zaj P f args' noH 0 (λ r h n'=>Wk (λ _=>r) h n' [(0,R0)] H0 k2)∧zli R0∧(∀p ∈ H0,zzt p.2)∧Sh b R0 r∧ShH b H0 HH∧
  (HH.map (·.1)).Nodup∧wr=HH.map (λ p=>(p.1,some p.2))∧∀h₁:zay,(∀o ∈ S,h o=h₁ o)->zaL h₁ noH 0 (first++args++caps) args'
def AV.ids:AV->List Nat
 | .ref o _ _ _ _| .sl o _ _ _ _| .mp o=> [o]
 | _=> []
abbrev ziQ:=List Nat×List Nat
def ze9 (P:Program) (n:Nat) (ops:List Oper) (K:Env->zay->List ziQ->Prop):Nat->List Oper->Env->zay->List ziQ->Prop
 | _, [],e,h,acc=>K e h acc
 |i,o::rest,e,h,acc=>
  match o.guard with
  |none=>
   match o.op with
   | .call { callee:= .value f,args, .. }=>∃r S wr,zjG P (n+ops.length+16 * i) (ev e f) (args.toList.map (ev e)) h r S wr∧ze9 P n ops K (i+1) rest (put e o.dst r) (zap wr h) (acc++ [(S,wr.map (·.1))])
   |op=>
    let r:=aev P (n+i) op e h
    r.cond∧ze9 P n ops K (i+1) rest (put e o.dst r.val) (zap r.wr h) (acc++ [((op.operands.toList.map (ev e)).flatMap AV.ids,r.wr.map (·.1))])
  |some (j,want)=>
   match (zkh ops j).bind λ t=>zlN (e t) want with
   |none=>False
   |some g=>
    match o.op with
    | .call { callee:= .value f,args, .. }=>
     (∀t ∈ zef o.op,okG g (e t))∧∃r S wr,(g=true->zjG P (n+ops.length+16 * i) (ev (λ t=>unG (e t)) f) (args.toList.map (ev λ t=>unG (e t))) h r S wr)∧(g=false->wr= [])∧
      ze9 P n ops K (i+1) rest (put e o.dst (.gd g r)) (zap wr h) (acc++ [(S,wr.map (·.1))])
    |op=>
     let r:=aev P (n+i) op (gE op e) h
     (∀t ∈ gT op,okG g (e t))∧(g=true->r.cond)∧
      ze9 P n ops K (i+1) rest (put e o.dst (.gd g r.val)) (zap (gW g r.wr) h) (acc++ [((op.operands.toList.map (ev (gE op e))).flatMap AV.ids,(gW g r.wr).map (·.1))])
def zEk:List Oper->List Nat->List Nat
 | [],acc=>acc
 |o::l,acc=>zEk l (acc++ [o.after.toList.foldl (λ s e=>if Region.binds .any e then s|||2 ^ e.on|||acc.getD e.on 0 else s) 0])
def zix (ops:List Oper) (o:Oper):List Tmp:=zef o.op++(match o.guard with|some (j, _)=>(zkh ops j).toList|none=> [])
def zLD (a b:List Nat):Bool:=a.all λ x=> !b.contains x
def zJf:Op->Bool
 | .store .. =>true
 | _=>false
def zM2:Op->Bool
 | .fieldAddr .. | .indexAddr .. | .nilCheck _| .move _=>true
 | _=>false
def zKo (ops:List Oper) (x y:Oper) (r s:ziQ):Bool:=
 zLD x.dst.toList (zix ops y) && zLD y.dst.toList (zix ops x) && zLD x.dst.toList y.dst.toList && (zLD r.2 s.1||(zJf x.op && (zM2 y.op||zJf y.op))) && (zLD s.2 r.1||(zJf y.op && (zM2 x.op||zJf x.op))) && zLD r.2 s.2
def zIJ (ops:List Oper) (mk:List Nat) (k:Nat):Bool:=(List.range ops.length).all λ j=>decide (j<k)||(List.range j).all λ i=>(mk.getD j 0).testBit i
def zsK (ops:List Oper) (recs:List ziQ):Bool:=
 let mk:=zEk ops []
 decide (recs.length<=ops.length) && (decide (recs.length=ops.length)||zIJ ops mk recs.length) && (List.range ops.length).all λ j=>(ops.getD j default).after.toList.all (λ e=> !Region.binds .any e||decide (e.on<j)) &&
  (decide (recs.length<=j)||(List.range j).all λ i=>(mk.getD j 0).testBit i||zKo ops (ops.getD i default) (ops.getD j default) (recs.getD i default) (recs.getD j default))
def zEs (recs:List ziQ):Bool:=recs.all λ r=> !r.1.contains zhs
def zDi (P:Program) (ops:List Oper) (Q:zc2) (e:Env) (h:zay) (n:Nat):Prop:=
 ∃k,ze9 P n ops (λ e h recs=>zsK ops recs=true∧((zEs recs=true∧zgK P ops Q (ops.drop k) e h (n+ops.length))∨zgK P ops Q (ops.drop k) e h (n+ops.length+16 * ops.length))) 0 (ops.take k) e h []

def WF (r:Option Nat):Fence:={ Fence.wide with round:=r}
structure zqg (M:Nat->Prop) (w:World) (M':Nat->Prop) (w':World):Prop where
 size:w.heap.size<=w'.heap.size
 keep:∀k,k<w.heap.size->¬M k->w'.heap[k]? =w.heap[k]?
 new:∀k,M' k->M k∨w.heap.size<=k
 lt:∀k,M' k->k<w'.heap.size
structure NC (lo:Nat) (w w':World):Prop where
 os:w'.os=w.os
 tape:w'.tape=w.tape
 output:w'.output=w.output
 drawn:w.drawn<=w'.drawn
 size:w'.heap.size=w.heap.size
 low:∀k,k<lo->w'.heap[k]? =w.heap[k]?
 cells:∀ (k:Nat) C T fz,w.heap[k]? =some (.cells C T fz)->w'.heap[k]? =w.heap[k]?
 maps:∀ (k:Nat) es clk,w.heap[k]? =some (.map es clk)->w'.heap[k]? =w.heap[k]?
abbrev zfH:=Nat->Prop
def zJs (P:Program) (f:FuncId) (caps:List AV) (more:Nat) (rows:List (List AV)):Prop:=
 zfJ P f∧∀ (w:World) (M0:zfH) (cvs:List Value) (l:Nat) (J:List (List AV)->zfH->zfH->World->Prop) (Jx:zfH->zfH->World->Prop),
  (∀k,M0 k->k<w.heap.size)->zoY w M0->za2 noP w M0 caps cvs->
  (∀rs M O O' w1 w2,J rs M O w1->Fr w1 O w2->(∀k,O' k->O k∨w1.heap.size<=k)->J rs M O' w2)->
  (∀M O O' w1 w2,Jx M O w1->Fr w1 O w2->(∀k,O' k->O k∨w1.heap.size<=k)->Jx M O' w2)->
  (∀rs M O w1 w2,J rs M O w1->NC w.heap.size w1 w2->J rs M O w2)->(∀M O w1 w2,Jx M O w1->NC w.heap.size w1 w2->Jx M O w2)->
  (∀ (r:Option Nat) (m:Nat) xs rest M O w1 vs,J (xs::rest) M O w1->(∀k,O k->k<w1.heap.size)->za2 noP w1 (Or M O) xs vs->
   ∃fn tmps assign body,(Instr.yield l ⟨vs⟩).run P w1= .ok (.round l fn tmps assign body) w1∧RoundIn (WF r) m P l fn tmps assign body w1 λ e w'=>
    ∃b M',e= .returned (.bool b)∧zqg M w1 M' w'∧if b then J rest M' O w' else Jx M' O w')->
  (more=1->∀M O w1,¬J [] M O w1)->
  J rows M0 (λ _=>False) w->
  Calls P f ⟨.func (.yield l) #[] #[]::cvs⟩ w λ e w'=>(∃v,e= .returned v)∧∃M' O',(∀k,O' k->k<w'.heap.size)∧((more=0∧J [] M' O' w')∨Jx M' O' w')
inductive zm6 (h h':zay) (n o:Nat):List AV->List AV->Prop
 |nil:zm6 h h' n o [] []
 |ref {g sz i off:Nat} {xs ys:List AV} (t:zm6 h h' n o xs ys):zm6 h h' n o (.ref o g sz i off::xs) (.ref 0 g sz i off::ys)
 |le {x y:AV} {xs ys:List AV} (hx:LeV h h' n x y) (hb:Bel 0 y) (t:zm6 h h' n o xs ys):zm6 h h' n o (x::xs) (y::ys)
def zFM (P:Program) (f:FuncId) (caps:List AV) (HO:List (Nat×zcr)) (k:Nat) (more:Nat) (rows:List (List AV)):Prop:=
 zfJ P f∧∀ (φ:zaD) (w:World) (M0:zfH) (cvs:List Value) (l:Nat) (J:List (List AV)->zfH->zfH->World->Prop) (Jx:zfH->zfH->World->Prop),
  zmK φ k w M0 (mkH HO)->za2 φ w (Or M0 (Mut φ (mkH HO))) caps cvs->
  (∀rs M O O' w1 w2,J rs M O w1->Fr w1 O w2->(∀k,O' k->O k∨w1.heap.size<=k)->J rs M O' w2)->
  (∀M O O' w1 w2,Jx M O w1->Fr w1 O w2->(∀k,O' k->O k∨w1.heap.size<=k)->Jx M O' w2)->
  (∀rs M O w1 w2,J rs M O w1->NC w.heap.size w1 w2->J rs M O w2)->(∀M O w1 w2,Jx M O w1->NC w.heap.size w1 w2->Jx M O w2)->
  (∀ (r:Option Nat) (m:Nat) xs rest M O w1 vs,J (xs::rest) M O w1->(∀k,O k->k<w1.heap.size)->za2 noP w1 (Or M O) xs vs->
   ∃fn tmps assign body,(Instr.yield l ⟨vs⟩).run P w1= .ok (.round l fn tmps assign body) w1∧RoundIn (WF r) m P l fn tmps assign body w1 λ e w'=>
    ∃b M',e= .returned (.bool b)∧zqg M w1 M' w'∧if b then J rest M' O w' else Jx M' O w')->
  (more=1->∀M O w1,¬J [] M O w1)->
  J rows M0 (Mut φ (mkH HO)) w->
  Calls P f ⟨.func (.yield l) #[] #[]::cvs⟩ w λ e w'=>(∃v,e= .returned v)∧∃M' O',(∀k,O' k->k<w'.heap.size)∧((more=0∧J [] M' O' w')∨Jx M' O' w')
def Fgt (n0:Nat) (K:Env->zay->Nat->Prop) (e:Env) (h:zay) (n:Nat):Prop:=
 K e h n∨∃E HH n',Wk e h n E HH n'∧n0<=n'∧K (mkE E) (mkH HH) n'
def zl6:List Tmp->List AV->Env->Env
 |t::ps,x::xs,e=>zl6 ps xs (upd e t x)
 | _, _,e=>e
def zrb (K:Env->zay->Nat->Prop) (Q:zc2) (e:Env):zc2
 | .normal,e2,h,n=>K (upd e GH (e2 GH)) h n
 | .ret,e2,h,n=>Q .ret (upd e GH (e2 GH)) h n
 | .exit id,e2,h,n=>Q (.exit id) (upd e GH (e2 GH)) h n
 | _, _, _, _=>False
def zC3 (K:Env->zay->Nat->Prop):zc2
 | .normal,e,h,n=>K e h n
 | _, _, _, _=>False
def zdV (n0 more:Nat) (ps:List Tmp) (A B:Nat->zc2->Env->zay->Nat->Prop) (Q:zc2):List (List AV)->Env->zay->Nat->Prop
 | [],e,h,n=>more=0∧Q .normal e h n
 |xs::rest,e,h,n=>n0<=n∧A n (zC3 (B n (zrb (Fgt n0 (zdV n0 more ps A B Q rest)) Q e))) (zl6 ps xs e) h n

def awp (P:Program):Nat->Code->zc2->Env->zay->Nat->Prop
 | _, .skip,Q,e,h,n| _, .label _,Q,e,h,n=>Q .normal e h n
 | _, .region _ ops false,Q,e,h,n=>zgK P ops.toList Q ops.toList e h n
 | _, .region _ ops true,Q,e,h,n=>∃h',Frz h h'∧zDi P ops.toList Q e h' n
 |n0, .seq a b,Q,e,h,n=>awp P n0 a (zC7 (awp P n0 b Q) Q) e h n
 |n0, .cond c a b,Q,e,h,n=>match ev e c with
  | .v (.bool t)=>(t=true->awp P n0 a Q e h n)∧(t=false->awp P n0 b Q e h n)
  | _=>False
 |n0, .block id b,Q,e,h,n=>awp P n0 b (zlk id Q) e h n
 |n0, .scope b,Q,e,h,n=>awp P n0 b (znM Q) e h n
 |n0, .loop b,Q,e,h,n=>zac n0 (awp P n0 b) Q e h n
 |n0, .rangeFunc g ps a b,Q,e,h,n=>(∃f caps caps' more rows h',ev e g= .fn (.func f) [] caps∧Frz h h'∧zaL h h' n caps caps'∧(∀c ∈ caps',Bel 0 c)∧zJs P f caps' more rows∧
   (∀xs ∈ rows,xs.length=ps.size)∧Fgt n0 (zdV n0 more ps.toList (λ n1=>awp P n1 a) (λ n1=>awp P n1 b) Q rows) e h' n)∨
   (∃f caps caps' o gn sz rs rs' more rows h',ev e g= .fn (.func f) [] caps∧Frz h h'∧h' o=some (.rows true gn sz rs)∧zaM h h' n rs rs'∧(∀r ∈ rs',∀c ∈ r,Bel 0 c)∧
    zm6 h h' n o caps caps'∧zFM P f caps' [(0, .rows true gn sz rs')] 1 more rows∧
    (∀xs ∈ rows,xs.length=ps.size)∧Fgt n0 (zdV n0 more ps.toList (λ n1=>awp P n1 a) (λ n1=>awp P n1 b) Q rows) e (upd h' o none) n)
 | _, .exit id,Q,e,h,n=>Q (.exit id) e h n
 | _, .ret,Q,e,h,n=>Q .ret e h n
 | _, _, _, _, _, _=>False
def zz3:Nat->List AV->Env
 | _, []=>λ _=> .top
 |i,x::l=>upd (zz3 (i+1) l) i x
def zu7 (P:Program) (e:Env) (h:zay):List ResultVar->Prop×List AV
 | []=>(True, [])
 | .tmp t::l=>let r:=zu7 P e h l;(r.1,e t::r.2)
 | .cell a t::l=>let r:=zu7 P e h l;let x:=zob P t (e a) h;(x.cond∧r.1,x.val::r.2)
def zK6:List AV->AV
 | [x]=>x
 |xs=> .tup xs
def zLs (P:Program) (rs:List ResultVar) (K:zbH):zc2
 | .normal,e,h,n| .ret,e,h,n=>(zu7 P e h rs).1∧K (zK6 (zu7 P e h rs).2) h n
 | _, _, _, _=>False
def zur (N:Nat):Code->Bool
 | .region _ ops _=>ops.toList.all λ o=>match o.dst with|none=>true|some d=>decide (d<N)
 | .seq a b=>zur N a && zur N b
 | .cond _ a b=>zur N a && zur N b
 | .block _ b| .loop b| .scope b=>zur N b
 | .rangeFunc _ ps a b=>ps.toList.all (λ p=>decide (p<N)) && (zur N a && zur N b)
 | _=>true
end Go.Av
end
section
namespace Go.Av
open Go

variable {a:Addr}
theorem zeo  (h:a.spot=none) (k:Nat):a.add k=⟨a.block,a.off+k,none⟩:=by
 unfold Addr.add;split
 ·rename_i e;subst e;cases a;simp_all
 ·rfl
variable {fz:Nat×Nat} {T:TypeId} {C:Array Value} {w:World}
theorem zGM  (hs:a.spot=none) (hb:w.heap[a.block]? =some (.cells C T fz)):
  w.cell? a=C[a.off]? :=by
 grind [World.cell?]
variable {P:Program}
theorem zs5  (hs:a.spot=none) (hb:w.heap[a.block]? =some (.cells C T fz))
  (h:a.off<C.size):(load a).run P w= .ok C[a.off] w:=by
 have:w.cell? a=some C[a.off]:=by rw [zGM hs hb];simp [h]
 simp [this]
theorem zpE  (hs:a.spot=none) (hb:w.heap[a.block]? =some (.cells C T fz)):
  ∀ (n i:Nat) (acc:Array Value),a.off+i+n<=C.size->
   (loadCellsFrom a i n acc).run P w= .ok (acc++((C.toList.drop (a.off+i)).take n).toArray) w:=by
 intro n;induction n with
 |zero=>simp_all [loadCellsFrom]
 |succ n ih=>
  intro i acc h;have hlt:a.off+i<C.size:=aa;have e1:(load (a.add i)).run P w= .ok C[a.off+i] w:=by
   rw [zeo hs];exact zs5 (a:=⟨a.block,a.off+i,none⟩) rfl hb hlt
  simp only [loadCellsFrom,Sem.run_bind,e1,Result.andThen_ok];rw [ih (i+1) _ aa];simp_all [List.drop_eq_getElem_cons,Nat.add_assoc]
theorem zf7  (hs:a.spot=none) (hb:w.heap[a.block]? =some (.cells C T fz))
  (n:Nat) (h:a.off+n<=C.size):(loadCells a n).run P w= .ok ⟨(C.toList.drop a.off).take n⟩ w:=by
 grind [zpE,loadCells]

structure Wr (w:World) (k:Nat) (o:Obj) (w':World):Prop where
 os:w'.os=w.os
 tape:w'.tape=w.tape
 output:w'.output=w.output
 drawn:w.drawn<=w'.drawn
 size:w'.heap.size=w.heap.size
 at_:w'.heap[k]? =some o
 other:∀j,j≠k->w'.heap[j]? =w.heap[j]?
def zle:List Value->Nat->List Value->List Value
 |l, _, []=>l
 |l,k,c::cs=>zle (l.set k c) (k+1) cs
theorem zeE:∀ (cs:List Value) (l:List Value) (k:Nat),(zle l k cs).length=l.length
 | [], _, _=>rfl
 |c::cs,l,k=>by rw [zle,zeE cs];simp
theorem zFo  (hs:a.spot=none) (hb:w.heap[a.block]? =some (.cells C T fz)) (v:Value):
  Wr w a.block (.cells (C.setIfInBounds a.off v) T fz) (w.setCell a v):=by
 have hlt:a.block<w.heap.size:=(Array.getElem?_eq_some_iff.1 hb).1;refine ⟨rfl,rfl,rfl,Nat.le_refl _,bg, ?_,λ j hj=> ?_⟩;all_goals grind [World.setCell]
theorem Wr.trans {w w₁ w₂:World}{k:Nat}{o o':Obj} (h:Wr w k o w₁) (h':Wr w₁ k o' w₂):Wr w k o' w₂:=
 ⟨h'.os.trans h.os,h'.tape.trans h.tape,h'.output.trans h.output,Nat.le_trans h.drawn h'.drawn,h'.size.trans h.size,h'.at_,λ j hj=>(h'.other j hj).trans (h.other j hj)⟩
theorem ze1  (hs:a.spot=none):
  ∀ (vs:List Value) (i:Nat) (w:World) (C:Array Value),w.heap[a.block]? =some (.cells C T (0,0))->a.off+i+vs.length<=C.size->(∀u ∈ vs,zd7 u=true)->
   ∃w',(storeCells a vs i).run P w= .ok () w'∧Wr w a.block (.cells ⟨zle C.toList (a.off+i) vs⟩ T (0,0)) w':=by
 intro vs;induction vs with
 |nil=>
  intro i w C hb _ _;exact ⟨w,by simp [storeCells],rfl,rfl,rfl,Nat.le_refl _,rfl,by simp_all [zle],λ _ _=>rfl⟩
 |cons v vs ih=>
  intro i w C hb hl hv;simp only [List.length_cons] at hl;have hlt:a.off+i<C.size:=aa;have hc:w.cell? ⟨a.block,a.off+i,none⟩=some C[a.off+i]:=by rw [zGM (a:=⟨a.block,a.off+i,none⟩) rfl hb];simp [hlt]
  have hf:w.frozen? ⟨a.block,a.off+i,none⟩=false:=by simp [World.frozen?,hb]
  have e1:(store (a.add i) v).run P w= .ok () (w.setCell ⟨a.block,a.off+i,none⟩ v):=by
   grind [zeo,run_store]
  have hw:=zFo (w:=w) (a:=⟨a.block,a.off+i,none⟩) rfl hb v;obtain ⟨w',hr,hw'⟩:=ih (i+1) (w.setCell ⟨a.block,a.off+i,none⟩ v) _ hw.at_ af (λ u hu=>hv u dB);refine ⟨w', ?_, ?_⟩
  ·grind [storeCells,Sem.run_bind,Result.andThen_ok]
  ·have:=hw.trans hw';grind [zle]

variable {sz:Nat} {rs:List (List AV)}
theorem zjX  (h:∀r ∈ rs,r.length=sz) (i:Nat) (hi:i<rs.length):
  rs[i]=(rs.flatten.drop (i * sz)).take sz:=by
 induction rs generalizing i with
 |nil=>simp at hi
 |cons r rs ih=>
  have hr:r.length=sz:=h r ac;cases i<;>grind [List.drop_drop,List.drop_left]
theorem zmX  (h:∀r ∈ rs,r.length=sz):rs.flatten.length=rs.length * sz:=by
 induction rs<;>grind
theorem zgV  (h:∀r ∈ rs,r.length=sz) (i:Nat):(rs.drop i).flatten=rs.flatten.drop (i * sz):=by
 induction rs generalizing i with
 |nil=>simp
 |cons r rs ih=>
  cases i<;>grind [Nat.add_mul,List.drop_drop,List.drop_left]
theorem zgW  (h:∀r ∈ rs,r.length=sz) (i:Nat):(rs.take i).flatten=rs.flatten.take (i * sz):=by
 induction rs generalizing i with
 |nil=>simp
 |cons r rs ih=>
  cases i<;>grind [Nat.add_mul]
theorem zm4:∀ (cs:List AV) (l:List AV) (k:Nat),(setMany l k cs).length=l.length
 | [], _, _=>rfl
 |c::cs,l,k=>by rw [setMany,zm4 cs];simp
theorem zOc {φ:zaD}{w:World}{M:Nat->Prop}:∀ {cs:List AV}{us:List Value}{xs:List AV}{vs:List Value} (k:Nat),
  za2 φ w M xs vs->za2 φ w M cs us->za2 φ w M (setMany xs k cs) (zle vs k us)
 | [], _, _, _, _,h,h'=>by cases h';exact h
 |c::cs, _, _, _,k,h,h'=>by cases h' with|cons h1 h2=>exact zOc (k+1) (h.set h1 k) h2
theorem zdP:∀ (us:List Value) (l:List Value) (off k n:Nat),k+us.length<=n->
  ((zle l (off+k) us).drop off).take n=zle ((l.drop off).take n) k us
 | [],l,off,k,n, _=>rfl
 |u::us,l,off,k,n,h=>by
  simp only [List.length_cons] at h;rw [zle,zle,Nat.add_assoc,zdP us (l.set (off+k) u) off (k+1) n aa];congr 1;apply List.ext_getElem?;intro j;simp only [List.getElem?_take,List.getElem?_drop,List.getElem?_set,List.length_take,List.length_drop];by_cases hj:j<n
  ·by_cases e:k=j
   ·subst e;by_cases hb:off+k<l.length
    ·have:k<min n (l.length - off):=by omega
     simp [hj,hb,this]
    ·have:¬k<min n (l.length - off):=by omega
     simp [hj,hb,this]
   ·simp [hj,e]
  ·have:¬k=j:=by omega
   simp [hj,this]
theorem zkN:∀ (us:List Value) (l:List Value) (k:Nat) (x:Value),x ∈ zle l k us->x ∈ l∨x ∈ us
 | [], _, _, _,h=> .inl h
 |u::us,l,k,x,h=>by
  rcases zkN us _ _ _ h with h|h
  ·rcases List.mem_or_eq_of_mem_set h with h|h
   ·exact .inl h
   ·exact .inr (by simp [h])
  ·exact .inr (by simp [h])
theorem zr4  (h:∀r ∈ rs,r.length=sz) (i:Nat) (hi:i<rs.length) (k:Nat) (cs:List AV) (hk:k+cs.length<=sz):
  (rs.set i (setMany rs[i] k cs)).flatten=setMany rs.flatten (i * sz+k) cs:=by
 have app:∀ (cs:List AV) (p q:List AV) (k:Nat),setMany (p++q) (p.length+k) cs=p++setMany q k cs:=by
  intro cs;induction cs<;>grind [setMany]
 have app':∀ (cs:List AV) (p q:List AV) (k:Nat),k+cs.length<=p.length->setMany (p++q) k cs=setMany p k cs++q:=by
  intro cs;induction cs<;>grind [setMany]
 induction rs generalizing i with
 |nil=>simp at hi
 |cons r rs ih=>
  have hr:r.length=sz:=h r ac;cases i<;>grind
theorem zBn:∀ (cs l:List AV),l.length=cs.length->setMany l 0 cs=cs:=by
 have key:∀ (cs l p:List AV),l.length=cs.length->setMany (p++l) p.length cs=p++cs:=by
  intro cs;induction cs with
  |nil=>grind [setMany]
  |cons c cs ih=>
   intro l p h;cases l with
   |nil=>simp at h
   |cons x l=>
    rw [setMany,List.set_append_right _ _ aa];simp only [Nat.sub_self,List.set_cons_zero];have:=ih l (p++ [c]) af;grind
 intro cs l h;simpa using key cs l [] h

variable {F M0:Nat->Prop} {φ:zaD}
theorem zaW.blk {H:zay} (hH:zaW φ F w M0 H){k:Nat} (h:Or M0 (Mut φ H) k):k<w.heap.size:=by
 rcases h with h|⟨o,g,sz,rs,g',a,bs,ho,hp,rfl⟩
 ·exact hH.m0 _ h
 ·obtain ⟨A,hA,h⟩:=hH.obj _ _ _ _ _ ho;grind [zmL]

theorem zaW.set {H:zay} (hH:zaW φ F w M0 H){w':World}{F':Nat->Prop}{o:Nat}{mt:Bool}{g:Nat}
  {A:Option (Addr×Nat)} (hn:∀o,F' o->F o) (ho:¬F' o) (hsize:w.heap.size<=w'.heap.size) (hle:φ.le (upd φ o (some (g,A))))
  (hout:∀k,¬Or M0 (Mut φ H) k->k<w.heap.size->w'.heap[k]? =w.heap[k]?)
  (hoth:∀o' mt g sz rs a b,o'≠o->H o'=some (.rows mt g sz rs)->φ o'=some (g,some (a,b))->w'.heap[a.block]? =w.heap[a.block]? ∧(∀a₁ b₁,A=some (a₁,b₁)->a₁.block≠a.block))
  (hM:∀a b,A=some (a,b)->Or M0 (Mut φ H) a.block∨w.heap.size<=a.block)
  (hnew:((A=none∧rs= [])∨∃a bs es clk,A=some (a,bs)∧a.spot≠none∧¬M0 a.block∧w'.heap[a.block]? =some (.map es clk)∧es.size=rs.length∧(sz=2∧∀r ∈ rs,r.length=sz)∧
    za2 φ w (Or M0 (Mut φ H)) rs.flatten (es.toList.flatMap λ e=> [e.key,e.val]))∨
   ∃a bs C T,A=some (a,bs)∧a.spot=none∧¬M0 a.block∧w'.heap[a.block]? =some (.cells C T (0,0))∧C.size=bs∧
   (∀r ∈ rs,r.length=sz)∧a.off+rs.length * sz<=bs∧(∀u ∈ (C.toList.drop a.off).take (rs.length * sz),zd7 u=true)∧
   za2 φ w (Or M0 (Mut φ H)) rs.flatten ((C.toList.drop a.off).take (rs.length * sz))):
  zaW (upd φ o (some (g,A))) F' w' M0 (upd H o (some (.rows mt g sz rs)))∧
   (∀k,Or M0 (Mut (upd φ o (some (g,A))) (upd H o (some (.rows mt g sz rs)))) k->Or M0 (Mut φ H) k∨w.heap.size<=k)∧
   (∀k,Mut (upd φ o (some (g,A))) (upd H o (some (.rows mt g sz rs))) k->Mut φ H k∨∃a b,A=some (a,b)∧a.block=k):=by
 have hmut:∀k,Mut (upd φ o (some (g,A))) (upd H o (some (.rows mt g sz rs))) k->Mut φ H k∨∃a b,A=some (a,b)∧a.block=k:=by
  grind [Mut,upd]
 have hor:∀k,Or M0 (Mut (upd φ o (some (g,A))) (upd H o (some (.rows mt g sz rs)))) k->Or M0 (Mut φ H) k∨w.heap.size<=k:=by
  grind [Or]
 refine ⟨⟨λ k hk=>Nat.lt_of_lt_of_le (hH.m0 k hk) hsize,λ o' ho'=> ?_, ?_, ?_,hH.glob.keep hout hor⟩,hor,hmut⟩
 ·rw [zeU _ _ (λ e:o'=o=>ho af)];exact hH.fresh o' (hn o' ho')
 ·intro o' mt' g' sz' rs' ho';by_cases e:o'=o
  ·subst e;rw [zbk] at ho' ⊢;simp only [Option.some.injEq,zcr.rows.injEq] at ho';obtain ⟨rfl,rfl,rfl,rfl⟩:=ho';refine ⟨A,rfl, ?_⟩;rcases hnew with (h|⟨a,bs,es,clk,hA,hs,h0,hb,hz,hr,hrel⟩)|⟨a,bs,C,T,hA,hs,h0,hb,hC,hr,hl,hv,hrel⟩
   ·grind
   ·exact .inr ⟨a,bs,hA,h0, .inr ⟨es,clk,hs,hb,hz,hr,hrel.keep hle hout hor⟩⟩
   ·exact .inr ⟨a,bs,hA,h0, .inl ⟨C,T,hs,hb,hC,hr,hl,hv,hrel.keep hle hout hor⟩⟩
  ·rw [zeU _ _ e] at ho' ⊢;obtain ⟨A',hA',h⟩:=hH.obj _ _ _ _ _ ho';refine ⟨A',hA',h.imp id ?_⟩;rintro ⟨a,bs,hA,h0,hd⟩;subst hA;exact ⟨a,bs,rfl,h0,hd.keep (hoth _ _ _ _ _ _ _ e ho' hA').1 (λ hrel=>hrel.keep hle hout hor)⟩
 ·intro o₁ o₂ mt₁ g₁ sz₁ rs₁ mt₂ g₂ sz₂ rs₂ a₁ a₂ b₁ b₂ h₁ h₂ hne hmt p₁ p₂;by_cases e₁:o₁=o
  ·grind [zbk,zeU]
  ·rw [zeU _ _ e₁] at h₁ p₁;by_cases e₂:o₂=o
   ·grind [zbk]
   ·rw [zeU _ _ e₂] at h₂ p₂;exact hH.inj _ _ _ _ _ _ _ _ _ _ _ _ _ _ h₁ h₂ hne hmt p₁ p₂
end Go.Av
end
section
namespace Go.Av
open Go

variable {e s:TypeId}
section types
variable {P:Program} {w:World} {t:TypeId}
theorem zak {d:TypeDesc} (h:P.underlying t=some d):(underlying t).run P w= .ok d w:=by simp [underlying,h]
theorem zoL {b:Bool} (h:zgk P t=some b):(isAgg t).run P w= .ok b w:=by
 unfold zgk at h;cases hu:P.underlying t with
 |none=>grind
 |some d=>
  simp only [hu,Option.map_some,Option.some.injEq] at h;unfold isAgg;simp only [Sem.run_bind,zak hu,Result.andThen_ok];subst h;cases d<;>simp
theorem zbA {s:Nat} (h:tsz P t=some s):(sizeOf t).run P w= .ok s w:=by
 unfold tsz at h;cases hu:P.info? t<;>simp_all [sizeOf,typeInfo]
theorem zcP {z:List AV} (h:tz P t=some z):∃u,(zeroValue t).run P w= .ok u w∧z=u.cells.toList.map .v∧∀c ∈ u.cells.toList,zd7 c=true:=by
 unfold tz at h;cases hu:P.info? t with
 |none=>grind
 |some d=>
  simp only [hu,Option.bind_some] at h;cases hz:d.zero with
  |none=>grind
  |some u=>
   simp only [hz,Option.bind_some] at h;split at h
   ·rename_i hall;simp only [Option.some.injEq] at h;exact ⟨u,by simp [zeroValue,typeInfo,hu,hz],h.symm,λ c hc=>List.all_eq_true.1 hall c hc⟩
   ·cases h
theorem zfj  (h:tk P t= .sl e):P.underlying t=some (.slice e):=by
 grind [tk]
theorem zvp {n:Nat} (h:tk P t= .arr n e):P.underlying t=some (.array n e):=by
 grind [tk]
theorem zCR {k:IntKind} (h:tk P t= .int k):P.underlying t=some (.int k):=by
 grind [tk]
theorem zoP (h:tk P t= .string):P.underlying t=some .string:=by
 grind [tk]
theorem tk_str (h:tk P t= .str):∃fs,P.underlying t=some (.struct fs):=by
 grind [tk]
variable {a:Addr} {C:Array Value} {T:TypeId} {fz:Nat×Nat}
theorem ziE {s:Nat} (h:zgk P t=some true) (h':tsz P t=some s) (hs:a.spot=none) (hb:w.heap[a.block]? =some (.cells C T fz)) (hc:a.off+s<=C.size):
  (loadVar t a).run P w= .ok (.agg ⟨(C.toList.drop a.off).take s⟩) w:=by
 simp [loadVar,zoL h,zbA h',zf7 hs hb s hc]
theorem zmd (h:zgk P t=some false) (hs:a.spot=none) (hb:w.heap[a.block]? =some (.cells C T fz)) (hc:a.off<C.size):
  (loadVar t a).run P w= .ok C[a.off] w:=by
 unfold loadVar;simp only [Sem.run_bind,zoL h,Result.andThen_ok,Bool.false_eq_true,if_false];grind [zs5]
end types

variable {M:Nat->Prop} {v x:Value} {f g i o off sz:Nat}
section reads
variable {P:Program} {φ:zaD} {F:Nat->Prop} {w:World} {M0:Nat->Prop} {h:zay}

theorem zaW.at_row (hH:zaW φ F w M0 h){mt:Bool}{rs:List (List AV)} (ho:h o=some (.rows mt g sz rs)) (hi:i<rs.length) (hsp:∀a bs,φ o=some (g,some (a,bs))->a.spot=none):
  ∃a bs C T,φ o=some (g,some (a,bs))∧a.spot=none∧¬M0 a.block∧w.heap[a.block]? =some (.cells C T (0,0))∧C.size=bs∧(∀r ∈ rs,r.length=sz)∧
   a.off+rs.length * sz<=bs∧i * sz+sz<=rs.length * sz∧
   za2 φ w (Or M0 (Mut φ h)) rs[i] ((C.toList.drop (a.off+i * sz)).take sz)∧(∀u ∈ (C.toList.drop (a.off+i * sz)).take sz,zd7 u=true):=by
 obtain ⟨A,hA,h1⟩:=hH.obj _ _ _ _ _ ho;rcases h1 with ⟨_,h1⟩|⟨a,bs,hA',h0,hd⟩
 ·grind
 ·subst hA';have hs:=hsp _ _ hA;obtain ⟨C,T,hb,hC,hr,hl,hv,hrel⟩:=hd.cells hs;have hle:i * sz+sz<=rs.length * sz:=by
   have:=Nat.mul_le_mul_right sz (show i+1<=rs.length from hi);grind
  have e:((C.toList.drop (a.off+i * sz)).take sz)=(((C.toList.drop a.off).take (rs.length * sz)).drop (i * sz)).take sz:=by
   grind [List.drop_take,List.drop_drop]
  refine ⟨a,bs,C,T,hA,hs,h0,hb,hC,hr,hl,hle, ?_, ?_⟩
  ·rw [e,zjX hr i hi];exact (hrel.drop _).take _
  grind
theorem zLX  (hx:Rel φ w M (.ref o g sz i off) x){a:Addr}{bs:Nat} (hp:φ o=some (g,some (a,bs))):
  x= .pointer (some ⟨a.block,a.off+i * sz+off,none⟩):=by
 cases hx<;>grind
theorem zCD  (hx:Rel φ w M (.ref o g sz i off) x) (a:Addr) (bs:Nat) (hp:φ o=some (g,some (a,bs))):a.spot=none:=by
 cases hx<;>grind

def zdq (P:Program) (φ:zaD) (w:World) (M:Nat->Prop) (r:Res) (s:Sem Value):Prop:=
 ∃u,s.run P w= .ok u w∧Rel φ w M r.val u∧r.wr= []∧r.al=0

theorem zuS (hH:zaW φ F w M0 h){t:TypeId}{x:AV} (hx:Rel φ w (Or M0 (Mut φ h)) x v) (hc:(zob P t x h).cond):
  zdq P φ w (Or M0 (Mut φ h)) (zob P t x h) (Instr.loadAt t v):=by
 unfold zob at hc ⊢;split at hc
 ·rename_i o g sz i off;split at hc
  ·rename_i mt g' sz' rs ho;by_cases hgs:g=g'∧sz=sz'
   ·simp only [hgs,and_self,if_true] at hc;obtain ⟨rfl,rfl⟩:=hgs;simp only [ho,and_self,if_true];obtain ⟨hi,hc⟩:=hc;obtain ⟨a,bs,C,T,hp,hs, _,hb,hC,hr,hl,hle,hrow,hcv⟩:=hH.at_row ho hi (zCD hx);obtain rfl:=zLX hx hp;have e0:nth rs i=rs[i]:=by simp [nth,hi]
    rw [e0] at hc ⊢;have hlen:rs[i].length=sz:=hr _ (List.getElem_mem _);have hlen':((C.toList.drop (a.off+i * sz)).take sz).length=sz:=af;unfold zM6 at hc ⊢;split at hc
    ·rename_i s ha hz;try simp only [ha,hz] at hc
     try simp only [ha,hz]
     by_cases hw:off=0∧s=sz
     ·simp only [hw,and_self,if_true];obtain ⟨rfl,rfl⟩:=hw;refine ⟨.agg ⟨(C.toList.drop (a.off+i * s)).take s⟩, ?_, .agg hcv hrow,rfl,rfl⟩;simp only [Instr.loadAt,Instr.sureAddr,Sem.run_bind,Sem.run_pure,Result.andThen_ok];exact ziE (a:=⟨a.block,a.off+i * s+0,none⟩) ha hz rfl hb af
     ·simp only [hw,if_false] at hc ⊢;refine ⟨.agg ⟨(C.toList.drop (a.off+i * sz+off)).take s⟩, ?_, ?_,rfl,rfl⟩
      ·simp only [Instr.loadAt,Instr.sureAddr,Sem.run_bind,Sem.run_pure,Result.andThen_ok];exact ziE (a:=⟨a.block,a.off+i * sz+off,none⟩) ha hz rfl hb af
      ·have e:(C.toList.drop (a.off+i * sz+off)).take s=(((C.toList.drop (a.off+i * sz)).take sz).drop off).take s:=by
        grind [List.drop_take,List.drop_drop]
       refine .agg ?_ (by rw [e];exact (hrow.drop off).take s);grind
    ·rename_i ha;try simp only [ha] at hc
     try simp only [ha]
     have hlt:a.off+i * sz+off<C.size:=aa;refine ⟨C[a.off+i * sz+off], ?_, ?_,rfl,rfl⟩
     ·simp only [Instr.loadAt,Instr.sureAddr,Sem.run_bind,Sem.run_pure,Result.andThen_ok];exact zmd (a:=⟨a.block,a.off+i * sz+off,none⟩) ha rfl hb hlt
     ·have:=hrow.get off aa aa;grind [cel]
    grind
   grind
  grind
 ·rename_i cells;cases hx with
  | @fp _ a C T fz hs hM hb hl hcv hrel=>
   split at hc
   ·rename_i s ha hz;try simp only [ha,hz] at hc
    try simp only [ha,hz]
    refine ⟨.agg ⟨(C.toList.drop a.off).take s⟩, ?_, ?_,rfl,rfl⟩
    ·grind [Instr.loadAt,Instr.sureAddr,ziE]
    ·have e:(C.toList.drop a.off).take s=((C.toList.drop a.off).take cells.length).take s:=by grind
     refine .agg ?_ (by rw [e];exact hrel.take s);grind
   ·rename_i ha;try simp only [ha] at hc
    try simp only [ha]
    have hlt:a.off<C.size:=aa;refine ⟨C[a.off], ?_, ?_,rfl,rfl⟩
    ·grind [Instr.loadAt,Instr.sureAddr,zmd]
    ·have hq:0<((C.toList.drop a.off).take cells.length).length:=by grind
     have:=hrel.get 0 hc hq;grind [cel]
   grind
 grind

theorem zt1 {fs:Array Field}{d:Nat}{fl:Field} (_hu:P.underlying s=some (.struct fs)) (hf:fs[f]? =some fl)
  (hd:zJe P s f=some d) {a:Addr} (ha:a.spot=none):(fieldPlace a fl).run P w= .ok ⟨a.block,a.off+d,none⟩ w:=by
 unfold zJe at hd;simp only [_hu,hf,Option.bind_some] at hd;cases hi:P.info? fl.type<;>simp_all [sizeOf,typeInfo,fieldPlace,zeo]
theorem zr6 {d:Nat} (hd:zJe P s f=some d):∃fs fl,P.underlying s=some (.struct fs)∧fs[f]? =some fl∧fl.offset=d:=by
 unfold zJe at hd;split at hd
 ·rename_i fs hu;cases hf:fs[f]? with
  |none=>grind
  |some fl=>
   refine ⟨fs,fl,hu,hf, ?_⟩;simp only [hf,Option.bind_some] at hd;cases hi:P.info? fl.type<;>grind
 grind

theorem zCE  (hx:Rel φ w M (.ref o g sz i off) x) (i' off':Nat) (u:Value)
  (hu:∀a:Addr,x= .pointer (some ⟨a.block,a.off+i * sz+off,none⟩)->u= .pointer (some ⟨a.block,a.off+i' * sz+off',none⟩)):
  Rel φ w M (.ref o g sz i' off') u:=by
 cases hx with
 |ref ho hg hh=>exact .ref ho hg λ e=>let ⟨a,bs,hA,hs,hv⟩:=hh e;⟨a,bs,hA,hs,hu a hv⟩

theorem zaW.alive_at (hH:zaW φ F w M0 h) (ha:zdI h o g sz):∃mt rs A,h o=some (.rows mt g sz rs)∧φ o=some (g,A):=by
 unfold zdI at ha;split at ha
 ·rename_i mt g' sz' rs ho;obtain ⟨rfl,rfl⟩:=ha;obtain ⟨A,hA, _⟩:=hH.obj _ _ _ _ _ ho;grind
 grind
theorem zaW.ref_alive (hH:zaW φ F w M0 h) (ha:zdI h o g sz) (hx:Rel φ w M (.ref o g sz i off) v):
  ∃a:Addr,v= .pointer (some ⟨a.block,a.off+i * sz+off,none⟩):=by
 obtain ⟨mt,rs,A, _,hp⟩:=hH.alive_at ha;cases hx<;>grind

theorem zr2 (hH:zaW φ F w M0 h){x:AV}
  (hx:Rel φ w M x v) (hc:(zdK P s x f h).cond):zdq P φ w M (zdK P s x f h) (Instr.fieldAt s v f):=by
 unfold zdK at hc ⊢;split at hc
 ·rename_i d hd;obtain ⟨fs,fl,hu,hf,hoff⟩:=zr6 hd;have hrun:∀a:Addr,a.spot=none->(Instr.fieldAt s (.pointer (some a)) f).run P w= .ok (.pointer (some ⟨a.block,a.off+d,none⟩)) w:=by
   intro a ha;simp only [Instr.fieldAt,Sem.run_bind,zak hu,Result.andThen_ok,hf,Instr.sureAddr,Sem.run_pure,zt1 hu hf hd ha]
  split at hc
  ·rename_i o g sz i off;obtain ⟨a,rfl⟩:=hH.ref_alive hc hx;exact ⟨_,hrun ⟨a.block,a.off+i * sz+off,none⟩ rfl,zCE hx i (off+d) _ (λ b hb=>by
    grind),rfl,rfl⟩
  ·rename_i cells;cases hx with
   | @fp _ a C T fz hs hM hb hl hcv hrel=>
    refine ⟨_,hrun a hs, .fp (a:=⟨a.block,a.off+d,none⟩) rfl hM hb ?_ ?_ ?_,rfl,rfl⟩
    ·grind
    ·intro u hu';refine hcv u ?_;have e:(C.toList.drop (a.off+d)).take (cells.drop d).length=((C.toList.drop a.off).take cells.length).drop d:=by
      grind [List.drop_take,List.drop_drop]
     grind
    ·have e:(C.toList.drop (a.off+d)).take (cells.drop d).length=((C.toList.drop a.off).take cells.length).drop d:=by
      grind [List.drop_take,List.drop_drop]
     simp only;rw [e];exact hrel.drop d
  grind
 grind
end reads
end Go.Av
end
