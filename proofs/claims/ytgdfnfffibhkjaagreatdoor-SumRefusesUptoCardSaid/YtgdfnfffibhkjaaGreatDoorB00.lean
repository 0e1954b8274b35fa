/- Texts of ours, part 0: our library and contracts of functions. -/
import Derived.CallsIn
import Derived.KernelRfl
import Derived.Below
import Derived.Laws.Sem
set_option linter.unusedSimpArgs false
set_option linter.unusedVariables false
set_option maxRecDepth 100000
set_option maxHeartbeats 40000000
theorem ge {p : Prop} (h : p:=by omega) : p:=h
theorem gt {p : Prop} (h : p:=by simp) : p:=h
theorem no {p : Prop} (h : p:=by simp [go_sem]) : p:=h
theorem pi {p : Prop} (h : p:=by grind) : p:=h
theorem Pi {p : Prop} (h : p:=by kernel_rfl) : p:=h
theorem Wm {p : Prop} (h : p:=by decide) : p:=h
theorem Wn {p : Prop} (h : p:=by simp [go_sem,b1,b2,b3,b4,b5]) : p:=h
theorem Wo {p : Prop} (h : p:=by (repeat' apply And.intro)<;>show _= _<;>kernel_rfl) : p:=h
theorem Wp {p : Prop} (h : p:=by simp [aC]) : p:=h
theorem Wq {p : Prop} (h : p:=by simp [hop,Op.operands]) : p:=h
theorem Ws {p : Prop} (h : p:=by simp [dO,aC]) : p:=h
theorem Wt {p : Prop} (h : p:=by simp [hop,Op.operands,Call.operands]) : p:=h
theorem Wu {p : Prop} (h : p:=by simp [io,kq,aC,dO]) : p:=h
theorem Wv {p : Prop} (h : p:=by simpa using hi) : p:=h
theorem Ww {p : Prop} (h : p:=by simp [execOp,hop]) : p:=h
theorem Wx {p : Prop} (h : p:=by grind [ac]) : p:=h
theorem Wy {p : Prop} (h : p:=by simp [hc]) : p:=h
theorem Wz {p : Prop} (h : p:=by grind [List.take_of_length_le]) : p:=h
theorem WA {p : Prop} (h : p:=by simp only;omega) : p:=h
theorem WB {p : Prop} (h : p:=by simp [go_sem,hbl]) : p:=h
theorem WC {p : Prop} (h : p:=by have:=dU hi;omega) : p:=h
theorem WD {p : Prop} (h : p:=by have:=eH hi;omega) : p:=h
theorem WE {p : Prop} (h : p:=by rcases h with h|rfl|h;exact .inl h;exact .inl ‹_›;exact .inr h) : p:=h
theorem WH {p : Prop} (h : p:=by cases h;assumption) : p:=h
theorem WI {p : Prop} (h : p:=by rw [hks,show FC f kk n=FC f kk (min kk.length 4) by rw [<- hne]];simp [LT,cH,FC,xa,zX,bE];omega) : p:=h
theorem WJ {p : Prop} (h : p:=by simp;omega) : p:=h
theorem WK {p : Prop} (h : p:=by rw [hw'.size];omega) : p:=h
theorem WL {p : Prop} (h : p:=by rw [dX,List.length_append,List.length_append,(tL hx.p).1];rfl) : p:=h
theorem WM {p : Prop} (h : p:=by simp [du]) : p:=h
theorem WN {p : Prop} (h : p:=by grind [List.take_append_getElem,ac]) : p:=h
theorem WO {p : Prop} (h : p:=by grind [Op.operands,Call.operands]) : p:=h
theorem WP {p : Prop} (h : p:=by cases h) : p:=h
theorem WQ {p : Prop} (h : p:=by grind [aC]) : p:=h
theorem WR {p : Prop} (h : p:=by simp [hy]) : p:=h
theorem WT {p : Prop} (h : p:=by grind [execOp,resolve,invoke,builtin]) : p:=h
theorem WU {p : Prop} (h : p:=by rw [jT hg hd (hk _ hr).1 (hk _ hr).2 hx];exact hs) : p:=h
theorem WV {p : Prop} (h : p:=by grind [bZ]) : p:=h
theorem WW {p : Prop} (h : p:=by simp_all) : p:=h
theorem WX {p : Prop} (h : p:=by rw [mf hv (f q1) hmax (.inl ⟨q1,hq1,rfl⟩),Nat.add_sub_cancel,h2]) : p:=h
theorem WY {p : Prop} (h : p:=by simp [hx]) : p:=h
theorem WZ {p : Prop} (h : p:=by simp at h) : p:=h
theorem W2 {p : Prop} (h : p:=by have:=hg.k6;grind [rY]) : p:=h
theorem W3 {p : Prop} (h : p:=by rcases h with h|h<;>simp [h]) : p:=h
theorem W4 {p : Prop} (h : p:=by grind [aV]) : p:=h
theorem W5 {p : Prop} (h : p:=by rw [hH.fresh o hle] at hA0;cases hA0) : p:=h
theorem W6 {p : Prop} (h : p:=by grind [List.drop_eq_getElem_cons,ac]) : p:=h
theorem W7 {p : Prop} (h : p:=by simp [fI,ho]) : p:=h
theorem W8 {p : Prop} (h : p:=by rw [<- e];rfl) : p:=h
theorem W9 {p : Prop} (h : p:=by simp_all [Builtin.len_,ar,iX,goInt]) : p:=h
theorem Xa {p : Prop} (h : p:=by cases hb with|fn hb hb'=>exact .fn (ih1 hb) (ih2 hb')) : p:=h
theorem Xb {p : Prop} (h : p:=by simp [dO]) : p:=h
theorem Xc {p : Prop} (h : p:=by cases hb with|gd hb=>exact .gd (λ hg=>ih hg hb) h') : p:=h
theorem Xd {p : Prop} (h : p:=by have:=hs.c0;have:=hs.c1;grind [jJ]) : p:=h
theorem Xe {p : Prop} (h : p:=by grind [Op.operands]) : p:=h
theorem Xf {p : Prop} (h : p:=by simpa using h) : p:=h
theorem Xg {p : Prop} (h : p:=by simp [gx,Value.oneCell']) : p:=h
theorem Xh {p : Prop} (h : p:=by simp [cc]) : p:=h
theorem Xi {p : Prop} (h : p:=by rcases List.mem_append.1 hy with h|h<;>simp [h]) : p:=h
theorem Xj {p : Prop} (h : p:=by simpa using hk) : p:=h
theorem Xk {p : Prop} (h : p:=by simp [eqGuard,binOp,Op.intCmp]) : p:=h
theorem Xl {p : Prop} (h : p:=by simp [f0,f1,f2,f3,f4,f5,f6,f7]) : p:=h
theorem Xm {p : Prop} (h : p:=by unfold aa.withHand;split<;>rfl) : p:=h
theorem Xn {p : Prop} (h : p:=by have:=hg.r4;omega) : p:=h
theorem Xo {p : Prop} (h : p:=by simp [io,kq,aC,dO,aB,f0,f1,f2,f3,f4,f5,f6,f7]) : p:=h
theorem Xp {p : Prop} (h : p:=by rw [UInt8.lt_iff_toNat_lt];simp [UInt8.toNat_ofNat',Nat.mod_eq_of_lt ha,Nat.mod_eq_of_lt hb]) : p:=h
theorem Xq {p : Prop} (h : p:=by (try simp at hn);(try subst hn);cases A<;>simp [Builtin.firstCells,loadCells,loadCellsFrom]) : p:=h
theorem Xr {p : Prop} (h : p:=by rw [S0];exact ⟨by simp [aC],by simp [aC,nD],by simp [aC,nG],by simp [aC,nn],by decide⟩) : p:=h
theorem Xs {p : Prop} (h : p:=by simp [Instr.lookup,ar (Bf ht),MapKept.run_getObj_map hb,mX hc hk,g1,TV hz,Result.andThen]) : p:=h
theorem Xt {p : Prop} (h : p:=by grind [aQ.le,aC]) : p:=h
theorem Xu {p : Prop} (h : p:=by cases hb with|agg hb=>exact .agg hv (ih hb)) : p:=h
theorem Xv {p : Prop} (h : p:=by rw [h.len];omega) : p:=h
theorem Xw {p : Prop} (h : p:=by simp [hk]) : p:=h
theorem Xx {p : Prop} (h : p:=by simp [bK]) : p:=h
theorem Xy {p : Prop} (h : p:=by simp [Instr.lookup,ar (Bf ht),MapKept.run_getObj_map hb,mX hc hk,g1,Result.andThen]) : p:=h
theorem Xz {p : Prop} (h : p:=by simp [eqGuard,binOp,ze ht]) : p:=h
theorem XA {p : Prop} (h : p:=by cases hb with|tup hb=>exact .tup (ih hb)) : p:=h
theorem XB {p : Prop} (h : p:=by unfold iQ;rw [hn.must];rfl) : p:=h
theorem XC {p : Prop} (h : p:=by rw [T0];exact ⟨by simp [aC],by simp [aC],by simp [aC],by simp [aC],by decide⟩) : p:=h
theorem XD {p : Prop} (h : p:=by simp [eqGuard,binOp,Op.intArith,rK h2]) : p:=h
theorem XE {p : Prop} (h : p:=by simp [cz] at h) : p:=h
theorem XF {p : Prop} (h : p:=by (cases q1<;>cases q2<;>(first|(simp;done)|(simp;omega)|(simp;intros;omega)))) : p:=h
theorem XG {p : Prop} (h : p:=by simp [lm]) : p:=h
theorem XH {p : Prop} (h : p:=by rw [h.sd _ (am h0l),h.sd _ (am hil)]) : p:=h
theorem XI {p : Prop} (h : p:=by simp [go_sem];try omega) : p:=h
theorem XJ {p : Prop} (h : p:=by simp [go_sem];exact hb') : p:=h
theorem XK {p : Prop} (h : p:=by decide+kernel) : p:=h
theorem XL {p : Prop} (h : p:=by exact .nil) : p:=h
theorem XM {p : Prop} (h : p:=by rw [hH.fresh o hle] at ho;cases ho) : p:=h
theorem XN {p : Prop} (h : p:=by grind [az]) : p:=h
theorem XO {p : Prop} (h : p:=by rcases hp.s with h|h<;>simp [jw,h]) : p:=h
theorem XP {p : Prop} (h : p:=by exact List.mem_append.2 (.inr hc)) : p:=h
theorem XQ {p : Prop} (h : p:=by exact List.mem_append.2 (.inl hc)) : p:=h
theorem XR {p : Prop} (h : p:=by simp [aB,aC]) : p:=h
theorem XS {p : Prop} (h : p:=by have:=hung o.op (by grind [gT]) rfl;rw [hop] at this ⊢;exact this) : p:=h
theorem XT {p : Prop} (h : p:=by simp [go_sem,hbL,hbR]) : p:=h
theorem XU {p : Prop} (h : p:=by simp [eqGuard,binOp,Op.stringOp]) : p:=h
theorem XV {p : Prop} (h : p:=by simp [hr]) : p:=h
theorem XW {p : Prop} (h : p:=by simp [hp]) : p:=h
theorem XX {p : Prop} (h : p:=by simp [im]) : p:=h
theorem XY {p : Prop} (h : p:=by simpa using h1) : p:=h
theorem XZ {p : Prop} (h : p:=by simpa using h2) : p:=h
theorem X0 {p : Prop} (h : p:=by rcases h with h|h|h<;>simp [h]) : p:=h
theorem X1 {p : Prop} (h : p:=by have:=h.ok.c9;omega) : p:=h
theorem X2 {p : Prop} (h : p:=by unfold bH kn;decide) : p:=h
theorem X3 {p : Prop} (h : p:=by rw [List.length_append];omega) : p:=h
theorem X4 {p : Prop} (h : p:=by simp only [bu,List.mem_singleton] at hc;subst hc;exact .v _) : p:=h
theorem X5 {p : Prop} (h : p:=by grind [kE]) : p:=h
theorem X6 {p : Prop} (h : p:=by simp [Op.operands]) : p:=h
theorem X7 {p : Prop} (h : p:=by rfl) : p:=h
theorem X8 {p : Prop} (h : p:=by grind [aw]) : p:=h
theorem X9 {p : Prop} (h : p:=by grind [List.take_add_one,ac]) : p:=h
theorem Ya {p : Prop} (h : p:=by grind [bK]) : p:=h
theorem Yb {p : Prop} (h : p:=by grind [dG]) : p:=h
theorem Yc {p : Prop} (h : p:=by grind [gV]) : p:=h
theorem Yd {p : Prop} (h : p:=by rw [fw,hm]) : p:=h
theorem Ye {p : Prop} (h : p:=by simp [hCl]) : p:=h
theorem Yf {p : Prop} (h : p:=by rw [hos,bV,hmv];exact (aJ (λ q=>bv q 0) mv j hj3).symm) : p:=h
theorem Yg {p : Prop} (h : p:=by rw [hot,bV,hmw];exact (aJ (λ q=>bv q 0) mw j hj3).symm) : p:=h
theorem Yh {p : Prop} (h : p:=by have:=dA hz;omega) : p:=h
theorem Yi {p : Prop} (h : p:=by have:=dB hz;omega) : p:=h
theorem Yj {p : Prop} (h : p:=by simp [go_sem,hgb]) : p:=h
theorem Yk {p : Prop} (h : p:=by simp [go_sem,hxb]) : p:=h
theorem Yl {p : Prop} (h : p:=by simp [textL]) : p:=h
theorem Ym {p : Prop} (h : p:=by simp [fh,aC]) : p:=h
theorem Yn {p : Prop} (h : p:=by simp [Lib.compareBytes,AU]) : p:=h
theorem Yo {p : Prop} (h : p:=by simp [hu]) : p:=h
theorem Yp {p : Prop} (h : p:=by simp_all [Builtin.firstCells,loadCells,loadCellsFrom]) : p:=h
theorem Yq {p : Prop} (h : p:=by simp [hq]) : p:=h
theorem Yr {p : Prop} (h : p:=by simp [i9]) : p:=h
theorem Ys {p : Prop} (h : p:=by simp [ii]) : p:=h
theorem Yt {p : Prop} (h : p:=by simp [gV]) : p:=h
theorem Yu {p : Prop} (h : p:=by simp [go_sem,bS]) : p:=h
theorem Yv {p : Prop} (h : p:=by rw [<- heg];rfl) : p:=h
theorem Yw {p : Prop} (h : p:=by rw [List.length_append,List.length_singleton];omega) : p:=h
theorem Yx {p : Prop} (h : p:=by grind [Program.fieldsOf]) : p:=h
theorem Yy {p : Prop} (h : p:=by rw [hA,List.take_length]) : p:=h
theorem Yz {p : Prop} (h : p:=by rw [hB,List.take_length]) : p:=h
theorem YA {p : Prop} (h : p:=by grind [aa.hand]) : p:=h
theorem YB {p : Prop} (h : p:=by grind [List.range_succ]) : p:=h
theorem YC {p : Prop} (h : p:=by rw [List.drop_zero,hta]) : p:=h
theorem YD {p : Prop} (h : p:=by rw [List.drop_zero,List.take_of_length_le ge]) : p:=h
theorem YE {p : Prop} (h : p:=by have:=dB hz;exact iJ n z ge) : p:=h
section
namespace Go.Av
open Go

inductive AV where
 |top
 |v (x:Value)
 |agg (cs:List AV)
 |tup (vs:List AV)
 |lst (sz:Nat) (rows:List (List AV))
 |fp (cells:List AV)
 |ref (o g sz i off:Nat)
 |sl (o g sz i len:Nat)
 |fn (f:Fn) (first caps:List AV)
 |mp (o:Nat)
 |gd (g:Bool) (x:AV)
 deriving Inhabited

abbrev AV.int (n:Int):AV:= .v (.int .i64 n)
abbrev AV.bool (b:Bool):AV:= .v (.bool b)
abbrev AV.nils:AV:= .v (.slice none 0 0)

inductive cB where
 |rows (mt:Bool) (g sz:Nat) (rs:List (List AV))
 deriving Inhabited

abbrev dg:=Nat->AV
abbrev au:=Nat->Option cB
abbrev aQ:=Nat->Option (Nat×Option (Addr×Nat))

def aC {α:Type} (f:Nat->α) (k:Nat) (x:α):Nat->α:=λ j=>if j=k then x else f j
theorem zaq {α:Type} (f:Nat->α) (k:Nat) (x:α) (j:Nat):aC f k x j=if j=k then x else f j:=rfl
theorem cZ {α:Type} (f:Nat->α) (k:Nat) (x:α):aC f k x k=x:=Wp
theorem ja {α:Type} (f:Nat->α){k j:Nat} (x:α) (h:j≠k):aC f k x j=f j:=by simp [aC,h]

abbrev gx (v:Value):Bool:=v.oneCell'

mutual
inductive bY (φ:aQ) (w:World) (M:Nat->Prop):AV->Value->Prop
 |top (v:Value):bY φ w M .top v
 |v (x:Value):bY φ w M (.v x) x
 |agg {cs:List AV} {vs:List Value} (hv:∀u ∈ vs,gx u=true) (h:aU φ w M cs vs):bY φ w M (.agg cs) (.agg ⟨vs⟩)
 |tup {cs:List AV} {vs:List Value} (h:aU φ w M cs vs):bY φ w M (.tup cs) (.tuple ⟨vs⟩)
 |nil (sz:Nat) (A:Option Addr) (cap:Nat):bY φ w M (.lst sz []) (.slice A 0 cap)
 |lst {sz:Nat} {rows:List (List AV)} {a:Addr} {len cap:Nat} {C:Array Value} {T:TypeId} {fz:Nat×Nat}
   (hs:a.spot=none) (hM:¬M a.block) (hb:w.heap[a.block]? =some (.cells C T fz)) (hr:∀r ∈ rows,r.length=sz)
   (hl:len=rows.length) (hc:a.off+rows.length * sz<=C.size) (hcap:len<=cap) (hv:∀u ∈ (C.toList.drop a.off).take (rows.length * sz),gx u=true)
   (h:aU φ w M rows.flatten ((C.toList.drop a.off).take (rows.length * sz))):bY φ w M (.lst sz rows) (.slice (some a) len cap)
 |fp {cells:List AV} {a:Addr} {C:Array Value} {T:TypeId} {fz:Nat×Nat}
   (hs:a.spot=none) (hM:¬M a.block) (hb:w.heap[a.block]? =some (.cells C T fz)) (hc:a.off+cells.length<=C.size)
   (hv:∀u ∈ (C.toList.drop a.off).take cells.length,gx u=true)
   (h:aU φ w M cells ((C.toList.drop a.off).take cells.length)):bY φ w M (.fp cells) (.pointer (some a))
 |ref {o g sz i off g':Nat} {A:Option (Addr×Nat)} {v:Value} (ho:φ o=some (g',A)) (hg:g<=g')
   (h:g'=g->∃a bs,A=some (a,bs)∧a.spot=none∧v= .pointer (some ⟨a.block,a.off+i * sz+off,none⟩)):bY φ w M (.ref o g sz i off) v
 |sl {o g sz i len g':Nat} {A:Option (Addr×Nat)} {v:Value} (ho:φ o=some (g',A)) (hg:g<=g')
   (h:g'=g->(A=none∧i=0∧len=0∧v= .slice none 0 0)∨(len=0∧∃a',v= .slice (some a') 0 0)∨
    ∃a bs cap,A=some (a,bs)∧a.spot=none∧v= .slice (some ⟨a.block,a.off+i * sz,none⟩) len cap∧len<=cap∧a.off+i * sz+cap * sz<=bs):bY φ w M (.sl o g sz i len) v
 |mp {o g':Nat} {A:Option (Addr×Nat)} {v:Value} (ho:φ o=some (g',A)) (h:g'=0->∃a bs,A=some (a,bs)∧a.spot≠none∧v= .map (some a.block)):bY φ w M (.mp o) v
 |fn {f:Fn} {first caps:List AV} {fs cs:List Value} (h1:aU φ w M first fs) (h2:aU φ w M caps cs):bY φ w M (.fn f first caps) (.func f ⟨fs⟩ ⟨cs⟩)
 |gd {g:Bool} {x:AV} {v:Value} (h:g=true->bY φ w M x v) (h':g=false->v=undef):bY φ w M (.gd g x) v
inductive aU (φ:aQ) (w:World) (M:Nat->Prop):List AV->List Value->Prop
 |nil:aU φ w M [] []
 |cons {x:AV} {v:Value} {xs:List AV} {vs:List Value} (h:bY φ w M x v) (t:aU φ w M xs vs):aU φ w M (x::xs) (v::vs)
end

variable {vs:List Value} {xs:List AV}
section lists
variable {φ:aQ} {w:World} {M:Nat->Prop}
theorem aU.length {xs:List AV}{vs:List Value} (h:aU φ w M xs vs):xs.length=vs.length:=by
 induction xs generalizing vs with
 |nil=>cases h;rfl
 |cons x xs ih=>cases h with|cons h t=>simp [ih t]
theorem aU.get  (h:aU φ w M xs vs) (k:Nat) (hk:k<xs.length) (hv:k<vs.length):bY φ w M xs[k] vs[k]:=by
 induction xs generalizing vs k with
 |nil=>simp at hk
 |cons x xs ih=>
  cases h with
  |cons h t=>
   cases k with
   |zero=>exact h
   |succ k=>exact ih t k Xj (by simpa using hv)
theorem zhk  (hl:xs.length=vs.length) (h:∀k (hk:k<xs.length) (hv:k<vs.length),bY φ w M xs[k] vs[k]):aU φ w M xs vs:=by
 induction xs generalizing vs with
 |nil=>cases vs with
  |nil=>exact .nil
  |cons=>simp at hl
 |cons x xs ih=>cases vs with
  |nil=>simp at hl
  |cons v vs=>
   refine .cons (h 0 gt gt) (ih (by simpa using hl) λ k hk hv=> ?_);have:=h (k+1) Xj (by simpa using hv);simpa using this
theorem aU.append {ys:List AV}{us:List Value} (h:aU φ w M xs vs) (h':aU φ w M ys us):aU φ w M (xs++ys) (vs++us):=by
 induction xs generalizing vs with
 |nil=>cases h;exact h'
 |cons x xs ih=>cases h with|cons h t=>exact .cons h (ih t)
theorem aU.take {xs:List AV}{vs:List Value} (h:aU φ w M xs vs) (k:Nat):aU φ w M (xs.take k) (vs.take k):=by
 induction xs generalizing vs k with
 |nil=>cases h;simp;exact .nil
 |cons x xs ih=>
  cases h with
  |cons h t=>
   cases k with
   |zero=>exact .nil
   |succ k=>exact .cons h (ih t k)
theorem aU.drop {xs:List AV}{vs:List Value} (h:aU φ w M xs vs) (k:Nat):aU φ w M (xs.drop k) (vs.drop k):=by
 induction xs generalizing vs k with
 |nil=>cases h;simp;exact .nil
 |cons x xs ih=>
  cases h with
  |cons h t=>
   cases k with
   |zero=>exact .cons h t
   |succ k=>exact ih t k
theorem aU.set {xs:List AV}{vs:List Value} (h:aU φ w M xs vs){x:AV}{v:Value} (hx:bY φ w M x v) (k:Nat):aU φ w M (xs.set k x) (vs.set k v):=by
 induction xs generalizing vs k with
 |nil=>cases h;exact .nil
 |cons y xs ih=>
  cases h with
  |cons h t=>
   cases k with
   |zero=>exact .cons hx t
   |succ k=>exact .cons h (ih t k)
end lists

def bc (φ:aQ) (H:au):Nat->Prop:=λ k=>∃o g sz rs g' a bs,H o=some (.rows true g sz rs)∧φ o=some (g',some (a,bs))∧a.block=k
def Or (A B:Nat->Prop):Nat->Prop:=λ k=>A k∨B k

def aQ.le (φ φ':aQ):Prop:=∀o x,φ o=some x->∃x',φ' o=some x'∧x.1<=x'.1∧(x'.1=x.1->x'=x)
theorem aQ.le_refl (φ:aQ):φ.le φ:=λ _ x h=>⟨x,h,Nat.le_refl _,λ _=>rfl⟩
theorem aQ.le_trans {a b c:aQ} (h:a.le b) (k:b.le c):a.le c:=by
 intro o x hx;obtain ⟨y,hy,h1,h2⟩:=h o x hx;obtain ⟨z,hz,k1,k2⟩:=k o y hy;refine ⟨z,hz,Nat.le_trans h1 k1,λ e=> ?_⟩;have e1:y.1=x.1:=ge;have:=h2 e1;subst this;exact k2 e

theorem bY.keep {φ φ':aQ}{w w':World}{M M':Nat->Prop} (hφ:φ.le φ')
  (hw:∀k,¬M k->k<w.heap.size->w'.heap[k]? =w.heap[k]?) (hM:∀k,M' k->M k∨w.heap.size<=k):
  ∀ {x:AV} {v:Value},bY φ w M x v->bY φ' w' M' x v:=by
 have blk:∀ {k:Nat} {o:Obj},w.heap[k]? =some o->k<w.heap.size:=λ h=>(Array.getElem?_eq_some_iff.1 h).1;intro x v h;refine bY.rec (φ:=φ) (w:=w) (M:=M) (motive_1:=λ x v _=>bY φ' w' M' x v) (motive_2:=λ xs vs _=>aU φ' w' M' xs vs) ?_ ?_ ?_ ?_ ?_ ?_ ?_ ?_ ?_ ?_ ?_ ?_ ?_ ?_ h
 ·exact λ v=> .top v
 ·exact λ v=> .v v
 ·exact λ hv _ ih=> .agg hv ih
 ·exact λ _ ih=> .tup ih
 ·exact λ sz A cap=> .nil sz A cap
 ·intro sz rows a len cap C T fz hs hm hb hr hl hc hcap hv _ ih;have hlt:=blk hb;exact .lst hs (λ hk=>(hM _ hk).elim hm (λ h=>by omega)) ((hw _ hm hlt).trans hb) hr hl hc hcap hv ih
 ·intro cells a C T fz hs hm hb hc hv _ ih;have hlt:=blk hb;exact .fp hs (λ hk=>(hM _ hk).elim hm (λ h=>by omega)) ((hw _ hm hlt).trans hb) hc hv ih
 ·intro o g sz i off g' A v ho hg h;obtain ⟨⟨g'',A'⟩,hx,h1,h2⟩:=hφ o _ ho;refine .ref hx ge λ e=> ?_;simp at h1 h2;have e':g'=g:=ge;obtain ⟨a,bs,hA,hs,hv⟩:=h e';have:=h2 ge;exact ⟨a,bs,by rw [this.2];exact hA,hs,hv⟩
 ·intro o g sz i len g' A v ho hg h;obtain ⟨⟨g'',A'⟩,hx,h1,h2⟩:=hφ o _ ho;refine .sl hx ge λ e=> ?_;simp at h1 h2;have e':g'=g:=ge;have:=h2 ge;rw [this.2];exact h e'
 ·intro o g' A v ho h;obtain ⟨⟨g'',A'⟩,hx,h1,h2⟩:=hφ o _ ho;refine .mp hx λ e=> ?_;simp at h1 h2;have e':g'=0:=ge;have:=h2 ge;rw [this.2];exact h e'
 ·exact λ _ _ ih1 ih2=> .fn ih1 ih2
 ·exact λ _ h' ih=> .gd ih h'
 ·exact .nil
 ·exact λ _ _ ih1 ih2=> .cons ih1 ih2
theorem aU.keep {φ φ':aQ}{w w':World}{M M':Nat->Prop} (hφ:φ.le φ')
  (hw:∀k,¬M k->k<w.heap.size->w'.heap[k]? =w.heap[k]?) (hM:∀k,M' k->M k∨w.heap.size<=k)
  {xs:List AV} {vs:List Value} (h:aU φ w M xs vs):aU φ' w' M' xs vs:=by
 induction xs generalizing vs with
 |nil=>cases h;exact .nil
 |cons x xs ih=>cases h with|cons h t=>exact .cons (h.keep hφ hw hM) (ih t)

def zb2:List (Nat×List AV):= [(0, [.v .nilFunc, .fn (.func 366) [] [], .fn (.func 368) [] [], .fn (.func 369) [] []])]
def u9 (w:World) (M:Nat->Prop):Prop:=∀p ∈ zb2,bY (λ _=>none) w M (.fp p.2) (.pointer (some ⟨p.1,0,none⟩))
theorem u9.keep {w w':World}{M M':Nat->Prop} (hw:∀k,¬M k->k<w.heap.size->w'.heap[k]? =w.heap[k]?) (hM:∀k,M' k->M k∨w.heap.size<=k) (h:u9 w M):u9 w' M':=
 λ p hp=>(h p hp).keep (aQ.le_refl _) hw hM
end Go.Av
end
section
namespace Go.Av
open Go

def ac {α:Type} [Inhabited α] (l:List α) (i:Nat):α:=l.getD i default
def mZ (l:List AV) (i:Nat):AV:=l.getD i .top

inductive TK where
 |sl (e:TypeId)|arr (n:Nat) (e:TypeId)|str|ptr (e:TypeId)|map (k e:TypeId)|int (k:IntKind)|string|bool|other|many (ks:List Nat)
 deriving Inhabited,DecidableEq
def tk (P:Program) (t:TypeId):TK:=match P.underlying t with
 |some (.slice e)=> .sl e
 |some (.array n e)=> .arr n e
 |some (.struct _)=> .str
 |some (.pointer e)=> .ptr e
 |some (.map k e)=> .map k e
 |some (.int k)=> .int k
 |some .string=> .string
 |some .bool=> .bool
 | _=> .other
def yW (P:Program) (t:TypeId):Option Nat:=(P.info? t).map (·.size)
def zeF (P:Program) (t:TypeId):Option Nat:=(P.info? t).map (·.bytes)
def tz (P:Program) (t:TypeId):Option (List AV):=((P.info? t).bind (·.zero)).bind λ z=>if z.cells.toList.all Value.oneCell' then some (z.cells.toList.map .v) else none
def gy (P:Program) (t:TypeId):Option Bool:=(P.underlying t).map fun| .struct _| .array _ _=>true| _=>false
def I1 (P:Program) (t:TypeId) (f:Nat):Option Nat:=match P.underlying t with
 |some (.struct fs)=>(fs[f]?).bind λ x=>((P.info? x.type).map (·.size)).bind λ s=>if s=0 then none else some x.offset
 | _=>none
def Rd (P:Program) (t:TypeId) (f:Nat):Option TypeId:=match P.underlying t with
 |some (.struct fs)=>(fs[f]?).map (·.type)
 | _=>none

def tfi (P:Program) (t:TypeId):Bool:=match P.underlying t with
 |some (.struct fs)=>fs.toList.all λ f=>(P.info? f.type).isSome
 | _=>false

structure pJ where
 cond:Prop
 val:AV
 wr:List (Nat×Option cB)
 al:Nat
abbrev pJ.fail:pJ:=⟨False, .top, [],0⟩
abbrev pJ.ok (x:AV):pJ:=⟨True,x, [],0⟩
abbrev pJ.if (c:Prop) (x:AV):pJ:=⟨c,x, [],0⟩
def aB:List (Nat×Option cB)->au->au
 | [],h=>h
 |(o,x)::l,h=>aB l (aC h o x)

def AV.cells:AV->List AV
 | .agg cs=>cs
 |x=> [x]
def ofV:Value->AV
 | .agg cs=>if cs.toList.all Value.oneCell'=true then .agg (cs.toList.map .v) else .v (.agg cs)
 |x=> .v x
def ev (e:dg):Operand->AV
 | .tmp t=>e t
 | .const v=>ofV v
 | .global g=>match zb2.lookup g with
  |some cs=> .fp cs
  |none=> .v (.pointer (some ⟨g,0,none⟩))
 | .func f=> .fn (.func f) [] []
def put (e:dg):Option Tmp->AV->dg
 |some d,x=>aC e d x
 |none, _=>e

def MI (k:IntKind) (n:Int):Prop:=k.min<=n∧n<=k.max

def fI (h:au) (o g sz:Nat):Prop:=match h o with
 |some (.rows _ g' sz' _)=>g=g'∧sz=sz'
 |none=>False
def AV.isCell (h:au):AV->Prop
 | .ref o g sz _ _| .sl o g sz _ _=>fI h o g sz
 | .mp o=>fI h o 0 2
 | .v x=>x.oneCell'=true
 | .lst _ _| .fp _| .fn _ _ _=>True
 | _=>False
def AV.okCells (h:au):AV->Prop
 | .agg _=>True
 |x=>x.isCell h
def zce (agg:Option Bool) (size:Option Nat) (sz off:Nat) (row:List AV):pJ:=
 match agg,size with
 |some true,some s=>if off=0∧s=sz then .ok (.agg row) else .if (off+s<=sz) (.agg ((row.drop off).take s))
 |some false, _=> .if (off<sz) (mZ row off)
 | _, _=> .fail
def wB (P:Program) (t:TypeId) (x:AV) (h:au):pJ:=
 match x with
 | .ref o g sz i off=>match h o with
  |some (.rows _ g' sz' rs)=>if g=g'∧sz=sz' then
    let r:=zce (gy P t) (yW P t) sz off (ac rs i)
    ⟨i<rs.length∧r.cond,r.val, [],0⟩ else .fail
  |none=> .fail
 | .fp cells=>match gy P t,yW P t with
  |some true,some s=> .if (s<=cells.length) (.agg (cells.take s))
  |some false, _=> .if (0<cells.length) (mZ cells 0)
  | _, _=> .fail
 | _=> .fail
def setMany:List AV->Nat->List AV->List AV
 |row, _, []=>row
 |row,k,c::cs=>setMany (row.set k c) (k+1) cs
def jL (P:Program) (t:TypeId) (x v:AV) (h:au):pJ:=
 match x with
 | .ref o g sz i off=>match h o with
  |some (.rows mt g' sz' rs)=>if g=g'∧sz=sz'∧mt=true then
    ⟨i<rs.length∧yW P t=some v.cells.length∧off+v.cells.length<=sz∧v.okCells h, .top,
     [(o,some (.rows true g sz (rs.set i (if off=0∧v.cells.length=sz then v.cells else setMany (ac rs i) off v.cells))))],0⟩ else .fail
  |none=> .fail
 | _=> .fail
def jl (P:Program) (s:TypeId) (x:AV) (f:Nat) (h:au):pJ:=
 match I1 P s f with
 |some d=>match x with
  | .ref o g sz i off=> .if (fI h o g sz) (.ref o g sz i (off+d))
  | .fp cells=> .if (d<=cells.length) (.fp (cells.drop d))
  | _=> .fail
 |none=> .fail
def BN (P:Program) (s:TypeId) (x:AV) (f:Nat):pJ:=
 match I1 P s f,Rd P s f,x with
 |some d,some t, .agg cs=>match gy P t,yW P t with
  |some true,some n=> .if (d+n<=cs.length) (.agg ((cs.drop d).take n))
  |some false, _=> .if (d<cs.length) (mZ cs d)
  | _, _=> .fail
 | _, _, _=> .fail
def jm (P:Program) (t:TypeId) (x ix:AV) (h:au):pJ:=
 match tk P t,x,ix with
 | .sl e, .sl o g sz i len, .v (.int _ n)=> .if (fI h o g sz∧yW P e=some sz∧0<=n∧n.toNat<len) (.ref o g sz (i+n.toNat) 0)
 | .sl e, .lst sz rows, .v (.int _ n)=> .if (yW P e=some sz∧0<=n∧n.toNat<rows.length) (.fp (ac rows n.toNat))
 | .arr len e, .ref o g sz i off, .v (.int _ n)=>match yW P e with
  |some s=> .if (fI h o g sz∧0<=n∧n<len) (.ref o g sz i (off+n.toNat * s))
  |none=> .fail
 | .arr len e, .fp cells, .v (.int _ n)=>match yW P e with
  |some s=> .if (0<=n∧n<len∧n.toNat * s<=cells.length) (.fp (cells.drop (n.toNat * s)))
  |none=> .fail
 | _, _, _=> .fail
def BP (P:Program) (t:TypeId) (x ix:AV):pJ:=
 match tk P t,x,ix with
 | .arr len e, .agg cs, .v (.int _ n)=>match gy P e,yW P e with
  |some true,some s=> .if (0<=n∧n<len∧n.toNat * s+s<=cs.length) (.agg ((cs.drop (n.toNat * s)).take s))
  |some false,some s=> .if (0<=n∧n<len∧n.toNat * s<cs.length) (mZ cs (n.toNat * s))
  | _, _=> .fail
 | .string, .v (.string s), .v (.int _ n)=> .if (0<=n∧n.toNat<s.data.toList.length) (.v (.int .u8 (s.data.toList.getD n.toNat 0).toNat))
 | _, _, _=> .fail
def Ed (P:Program) (t:TypeId) (x:AV) (h:au):pJ:=
 match tk P t,x with
 | .sl _, .sl o g sz _ len=> .if (fI h o g sz) (.int len)
 | .sl _, .lst _ rows=> .ok (.int rows.length)
 | .sl _, .v (.slice _ 0 _)=> .ok (.int 0)
 | .string, .v (.string s)=> .ok (.int s.data.toList.length)
 | .arr n _, _=> .ok (.int n)
 | .map _ _, .mp o=>match h o with
  |some (.rows _ 0 2 rs)=> .ok (.int rs.length)
  | _=> .fail
 | _, _=> .fail
def sT (k:IntKind) (a b:Int):Int:=k.wrap (BitVec.ofInt k.bits a &&& BitVec.ofInt k.bits b).toNat
def orN (k:IntKind) (a b:Int):Int:=k.wrap (BitVec.ofInt k.bits a|||BitVec.ofInt k.bits b).toNat
def mO (k:IntKind) (a b:Int):Int:=k.wrap (BitVec.ofInt k.bits a &&& ~~~ BitVec.ofInt k.bits b).toNat
def Of (op:BinOp) (x y:AV):pJ:=
 match op,x,y with
 | .shl, .v (.int k a), .v (.int _ b)=> .if (0<=b∧b<=64∧MI k (a * 2 ^ b.toNat)∧k.bits=64) (.v (.int k (a * 2 ^ b.toNat)))
 | .shr, .v (.int k a), .v (.int _ b)=> .if (0<=b∧(b<=64∧k.bits=64∨b<=8)) (.v (.int k (a.fdiv (2 ^ b.toNat))))
 | .add, .v (.int k a), .v (.int k' b)=> .if (k=k'∧MI k (a+b)) (.v (.int k (a+b)))
 | .sub, .v (.int k a), .v (.int k' b)=> .if (k=k'∧MI k (a - b)) (.v (.int k (a - b)))
 | .mul, .v (.int k a), .v (.int k' b)=> .if (k=k'∧MI k (a * b)) (.v (.int k (a * b)))
 | .quo, .v (.int k a), .v (.int k' b)=> .if (k=k'∧b≠0∧MI k (a.tdiv b)) (.v (.int k (a.tdiv b)))
 | .rem, .v (.int k a), .v (.int k' b)=> .if (k=k'∧b≠0) (.v (.int k (a.tmod b)))
 | .and, .v (.int k a), .v (.int k' b)=> .if (k=k') (.v (.int k (sT k a b)))
 | .or, .v (.int k a), .v (.int k' b)=> .if (k=k') (.v (.int k (orN k a b)))
 | .andNot, .v (.int k a), .v (.int k' b)=> .if (k=k') (.v (.int k (mO k a b)))
 | .eql, .v (.int k a), .v (.int k' b)=> .if (k=k') (.bool (decide (a=b)))
 | .neq, .v (.int k a), .v (.int k' b)=> .if (k=k') (.bool (!decide (a=b)))
 | .lss, .v (.int k a), .v (.int k' b)=> .if (k=k') (.bool (decide (a<b)))
 | .leq, .v (.int k a), .v (.int k' b)=> .if (k=k') (.bool (decide (a<=b)))
 | .gtr, .v (.int k a), .v (.int k' b)=> .if (k=k') (.bool (decide (b<a)))
 | .geq, .v (.int k a), .v (.int k' b)=> .if (k=k') (.bool (decide (b<=a)))
 | .add, .v (.string a), .v (.string b)=> .if (a.size+b.size<=9223372036854775807) (.v (.string (a++b)))
 | .lss, .v (.string a), .v (.string b)=> .ok (.bool (Op.bytesLess a.toList b.toList))
 | _, _, _=> .fail
def zbM (op:UnOp) (x:AV):pJ:=
 match op,x with
 | .not, .v (.bool b)=> .ok (.bool !b)
 | .neg, .v (.int k a)=> .if (MI k (-a)) (.v (.int k (-a)))
 | _, _=> .fail
def pB:AV->Option (Bool×Bool)
 | .v (.bool x)=>some (true,x)
 | .gd g (.v (.bool x))=>some (g,x)
 | _=>none
def GM (c a b:AV):pJ:=
 match pB c,pB a,pB b with
 |some (g,c),some (g₁,x),some (g₂,y)=> .if (g=true∧(c=true->g₁=true)∧(c=false->g₂=true)) (.bool (cond c x y))
 |some (g,c),some (g₁,x),none=> .if (g=true∧c=true∧g₁=true) (.bool x)
 |some (g,c),none,some (g₂,y)=> .if (g=true∧c=false∧g₂=true) (.bool y)
 | _, _, _=> .fail
def r9 (P:Program) (t:TypeId):Option (List Bool):=match P.underlying t with
 |some (.struct fs)=>if (!P.stoodInHeld t && !P.eqGuardType P.depth t && (List.range fs.size).all λ i=>match fs[i]? with
   |some f=>f.name != "_" && f.offset==i && (match P.underlying f.type with|some (.int _)=>true|some .bool=>true| _=>false)
   |none=>false)=true then some (fs.toList.map λ f=>match P.underlying f.type with|some .bool=>true| _=>false) else none
 | _=>none
def nC:List AV->Option (List (Int ⊕ Bool))
 | []=>some []
 | .v (.int .i64 n)::l=>(nC l).map (.inl n::·)
 | .v (.bool b)::l=>(nC l).map (.inr b::·)
 | _=>none
def eqS (P:Program) (t:TypeId) (xs ys:List AV):Option Bool:=match r9 P t,nC xs,nC ys with
 |some fl,some a,some b=>if a.map Sum.isRight=fl∧b.map Sum.isRight=fl then some (decide (a=b)) else none
 | _, _, _=>none
def N4 (P:Program) (T:TypeId->Option (List Bool)):List Field->Nat->Option (List Bool)
 | [], _=>some []
 |f::fs,k=>if (f.name != "_" && f.offset==k)=true then match T f.type,N4 P T fs (k+((yW P f.type).getD 0)) with
  |some l,some r=>if yW P f.type=some l.length then some (l++r) else none
  | _, _=>none else none
def Ig (P:Program):Nat->TypeId->Option (List Bool)
 |0, _=>none
 |d+1,t=>match P.underlying t with
  |some (.int _)=>some [false]
  |some .bool=>some [true]
  |some (.struct fs)=>if P.stoodInHeld t=true then none else N4 P (Ig P d) fs.toList 0
  | _=>none
def Mp (P:Program) (t:TypeId):Option (List Bool):=if P.eqGuardType P.depth t=true then none else match P.underlying t with
 |some (.struct _)=>Ig P 4 t
 | _=>none
def zgL (P:Program) (t:TypeId) (xs ys:List AV):Option Bool:=match r9 P t with
 |some _=>eqS P t xs ys
 |none=>match Mp P t,nC xs,nC ys with
  |some fl,some a,some b=>if a.map Sum.isRight=fl∧b.map Sum.isRight=fl then some (decide (a=b)) else none
  | _, _, _=>none
def En (P:Program) (t:TypeId):Bool:=match P.underlying t with
 |some (.func ..)=>true
 | _=>false
def zfM (P:Program) (op:BinOp) (t:TypeId) (x y:AV):Option AV:=
 match op,tk P t,x,y with
 | .eql, .bool, .v (.bool a), .v (.bool b)=>some (.bool (a==b))
 | .neq, .bool, .v (.bool a), .v (.bool b)=>some (.bool !(a==b))
 | .eql, .sl _, .lst _ (_:: _), .v (.slice none 0 0)=>some (.bool false)
 | .neq, .sl _, .lst _ (_:: _), .v (.slice none 0 0)=>some (.bool true)
 | .eql, .sl _, .v (.slice A _ _), .v (.slice none 0 0)=>some (.bool A.isNone)
 | .neq, .sl _, .v (.slice A _ _), .v (.slice none 0 0)=>some (.bool !A.isNone)
 | .eql, .string, .v (.string a), .v (.string b)=>some (.bool (a.toList==b.toList))
 | .neq, .string, .v (.string a), .v (.string b)=>some (.bool !(a.toList==b.toList))
 | .eql, .str, .agg xs, .agg ys=>(zgL P t xs ys).map λ b=> .bool b
 | .neq, .str, .agg xs, .agg ys=>(zgL P t xs ys).map λ b=> .bool !b
 | .eql, .other, .fn _ _ _, .v .nilFunc=>if En P t=true then some (.bool false) else none
 | .neq, .other, .fn _ _ _, .v .nilFunc=>if En P t=true then some (.bool true) else none
 | .eql, .other, .v .nilFunc, .v .nilFunc=>if En P t=true then some (.bool true) else none
 | .neq, .other, .v .nilFunc, .v .nilFunc=>if En P t=true then some (.bool false) else none
 | _, _, _, _=>none
def GK (P:Program) (op:BinOp) (t:TypeId) (x y:AV):pJ:=
 match zfM P op t x y with
 |some z=> .ok z
 |none=>Of op x y
def yb (x:AV) (h:au):pJ:=
 match x with
 | .ref o g sz i off=> .if (fI h o g sz) (.ref o g sz i off)
 | .fp cells=> .ok (.fp cells)
 | _=> .fail
def Ok (x y:AV):pJ:=match x,y with
 | .v (.int k a), .v (.int _ b)=> .ok (.v (.int k (if b<a then b else a)))
 | _, _=> .fail
def Oj (x y:AV):pJ:=match x,y with
 | .v (.int k a), .v (.int _ b)=> .ok (.v (.int k (if a<b then b else a)))
 | _, _=> .fail
def kZ (h:au) (sz:Nat):List (List AV)->List (Nat×AV)->Prop×List (List AV)
 |rs, []=>(True,rs)
 |rs,(i,x)::l=>let r:=kZ h sz (rs.set i x.cells) l;(i<rs.length∧x.cells.length=sz∧x.okCells h∧r.1,r.2)
def mT (P:Program) (n:Nat) (t:TypeId) (len:Nat) (parts:List (Nat×AV)) (h:au):pJ:=
 match tk P t with
 | .sl e=>match yW P e,tz P e with
  |some sz,some z=>
   let r:=kZ h sz (List.replicate len z) parts
   ⟨r.1∧z.length=sz∧0<sz∧len * sz<=16777216, .sl n 0 sz 0 len, [(n,some (.rows true 0 sz r.2))],1⟩
  | _, _=> .fail
 | _=> .fail
def mU (P:Program) (h:au) (s:TypeId):List AV->List (Nat×AV)->Prop×List AV
 |cs, []=>(True,cs)
 |cs,(i,x)::l=>match I1 P s i,(Rd P s i).bind (yW P) with
  |some d,some n=>let r:=mU P h s (setMany cs d x.cells) l;(x.cells.length=n∧d+n<=cs.length∧x.okCells h∧r.1,r.2)
  | _, _=>(False,cs)
def sm (h:au) (sz:Nat):List AV->List (Nat×AV)->Prop×List AV
 |cs, []=>(True,cs)
 |cs,(i,x)::l=>let r:=sm h sz (setMany cs (i * sz) x.cells) l;(x.cells.length=sz∧i * sz+sz<=cs.length∧x.okCells h∧r.1,r.2)
def zf (P:Program) (t:TypeId) (parts:List (Nat×AV)) (h:au):pJ:=
 match tk P t,tz P t with
 | .str,some z=>let r:=mU P h t z parts; .if (tfi P t=true∧r.1) (.agg r.2)
 | .arr _ e,some z=>match yW P e with
  |some sz=>let r:=sm h sz z parts; .if r.1 (.agg r.2)
  |none=> .fail
 | _, _=> .fail
def bt (x:AV) (sz:Nat) (h:au):Prop×List (List AV):=
 match x with
 | .sl o g sz' i len=>match h o with
  |some (.rows _ g' sz'' rs)=>(g=g'∧sz=sz'∧sz=sz''∧i+len<=rs.length,(rs.drop i).take len)
  |none=>(False, [])
 | .lst sz' rows=>((rows= []∨sz=sz'),rows)
 | .v (.slice _ 0 _)=>(True, [])
 | _=>(False, [])
def qF:List (List AV)->Option (List Int)
 | []=>some []
 | [.v (.int .u8 n)]::rs=>(qF rs).map (n::·)
 | _=>none
def nL (ns:List Int):ByteArray:=ns.foldl (λ r n=>r.push (UInt8.ofNat n.toNat)) ByteArray.empty
def JG (P:Program) (e:TypeId) (x:AV) (h:au):pJ:=
 match tk P e,qF (bt x 1 h).2 with
 | .int .u8,some ns=> .if (bt x 1 h).1 (.v (.string (nL ns)))
 | _, _=> .fail
def x8 (P:Program) (src dst:TypeId) (x:AV) (h:au):pJ:=
 match tk P src,tk P dst,x with
 | .int .i64, .int .u8, .v (.int _ n)=> .ok (.v (.int .u8 (n.emod 256)))
 | .int _, .int k, .v (.int _ n)=> .if (MI k n) (.v (.int k n))
 | .sl e, .string,x=>JG P e x h
 | _, _, _=> .fail
def oZ (P:Program) (n:Nat) (tys:List TypeId) (s x:AV) (h:au):pJ:=
 match tys with
 | [st,xt]=>match tk P st,tk P xt with
  | .sl e, .sl _=>match yW P e,zeF P e,tz P e with
   |some sz,some by_,some z=>
    let r:=bt x sz h
    match s with
    | .v (.slice none 0 0)=>⟨r.1∧0<sz∧z.length=sz∧0<by_∧by_<=1024∧r.2.length * by_<=17592186044416, .sl n 0 sz 0 r.2.length, [(n,some (.rows true 0 sz r.2))],1⟩
    | .sl o g sz' i len=>match h o with
     |some (.rows mt g' sz'' rs)=>
      ⟨r.1∧0<sz∧z.length=sz∧mt=true∧g=g'∧sz=sz'∧sz=sz''∧i+len=rs.length∧0<by_∧by_<=1024∧(len+r.2.length) * by_<=17592186044416,
       .sl o (g+1) sz 0 (len+r.2.length), [(o,some (.rows true (g+1) sz (rs.drop i++r.2)))],0⟩
     |none=> .fail
    | _=> .fail
   | _, _, _=> .fail
  | _, _=> .fail
 | _=> .fail
def sA (P:Program) (n:Nat) (st:TypeId) (s x:AV):pJ:=
 match tk P st,s,x with
 | .sl e, .v (.slice none 0 0), .v (.int .i64 l)=>match yW P e,tz P e,zeF P e with
  |some sz,some z,some by_=>⟨0<sz∧z.length=sz∧0<l∧by_<=1024∧l<=17179869184,
    .sl n 0 sz 0 l.toNat, [(n,some (.rows true 0 sz (List.replicate l.toNat z)))],1⟩
  | _, _, _=> .fail
 | _, _, _=> .fail
def OJ:TK->Bool
 | .int _=>true
 | _=>false
def mS (P:Program) (tys:List TypeId) (s x:AV) (h:au):pJ:=
 match tys with
 | [st,xt]=>match tk P st,tk P xt with
  | .sl e, .sl _=>match yW P e,zeF P e,tz P e with
   |some sz,some by_,some z=>
    let r:=bt x sz h
    match s with
    | .sl o g sz' i len=>match h o with
     |some (.rows mt g' sz'' rs)=>
      ⟨r.1∧0<sz∧z.length=sz∧mt=true∧g=g'∧sz=sz'∧sz=sz''∧i+len=rs.length∧0<by_∧by_<=1024∧(len+r.2.length) * by_<=17592186044416,
       .lst sz (rs.drop i++r.2), [(o,some (.rows false g sz rs))],0⟩
     |none=> .fail
    | _=> .fail
   | _, _, _=> .fail
  | _, _=> .fail
 | _=> .fail
def Tz (n:Nat):AV->Bool
 | .sl _ g _ _ _=>decide (1<=g) && decide (1000000<=n)
 | _=>false
def BM (P:Program) (n:Nat) (tys:List TypeId) (s x:AV) (h:au):pJ:=
 match tys with
 | [st,xt]=>bif OJ (tk P xt) then sA P n st s x else bif Tz n s then mS P tys s x h else oZ P n tys s x h
 | _=> .fail
def Og (P:Program) (t:TypeId) (x:AV):pJ:=
 match tk P t,x with
 | .sl _, .v (.slice none 0 0)=> .ok (.int 0)
 | _, _=> .fail
def x9 (P:Program) (tys:List TypeId) (s x:AV) (h:au):pJ:=
 match tys with
 |st:: _=>match tk P st with
  | .sl e=>match yW P e with
   |some sz=>
    let r:=bt x sz h
    match s with
    | .sl o g sz' i len=>match h o with
     |some (.rows mt g' sz'' rs)=>
      ⟨r.1∧0<sz∧mt=true∧g=g'∧sz=sz'∧sz=sz''∧i+len<=rs.length∧len<=1073741824,
       .int (min r.2.length len:Nat), [(o,some (.rows true g sz (rs.take i++r.2.take (min r.2.length len)++rs.drop (i+min r.2.length len))))],0⟩
     |none=> .fail
    | _=> .fail
   |none=> .fail
  | _=> .fail
 | _=> .fail
def ul (P:Program) (tys:List TypeId) (s:AV) (h:au):pJ:=
 match tys with
 |st:: _=>match tk P st with
  | .sl e=>match yW P e,tz P e with
   |some sz,some z=>
    match s with
    | .sl o g sz' i len=>match h o with
     |some (.rows mt g' sz'' rs)=>
      ⟨0<sz∧z.length=sz∧mt=true∧g=g'∧sz=sz'∧sz=sz''∧i+len<=rs.length∧len<=17179869184,
       .tup [], [(o,some (.rows true g sz (rs.take i++List.replicate len z++rs.drop (i+len))))],0⟩
     |none=> .fail
    | .v (.slice none _ _)=> .ok (.tup [])
    | _=> .fail
   | _, _=> .fail
  | _=> .fail
 | _=> .fail
def qZ (P:Program) (n:Nat) (t:TypeId) (l c:AV):pJ:=
 match tk P t,l,c with
 | .sl e, .v (.int .i64 l), .v (.int .i64 c)=>match yW P e,tz P e,zeF P e with
  |some sz,some z,some by_=>⟨0<sz∧z.length=sz∧0<=l∧l<=c∧by_<=1024∧c<=17179869184,
    .sl n 0 sz 0 l.toNat, [(n,some (.rows true 0 sz (List.replicate l.toNat z)))],1⟩
  | _, _, _=> .fail
 | _, _, _=> .fail
def tw (d:Int):Option AV->Option Int
 |none=>some d
 |some (.v (.int _ n))=>some n
 | _=>none
def um (P:Program) (t:TypeId) (x:AV) (lo hi mx:Option AV) (h':au):pJ:=
 match tk P t,x,mx with
 | .sl e, .sl o g sz i len,none=>match tw 0 lo,tw len hi with
  |some l,some h=> .if (fI h' o g sz∧yW P e=some sz∧0<=l∧l<=h∧h<=len) (.sl o g sz (i+l.toNat) (h.toNat - l.toNat))
  | _, _=> .fail
 | .sl e, .lst sz rows,none=>match tw 0 lo,tw rows.length hi with
  |some l,some h=> .if (yW P e=some sz∧0<=l∧l<=h∧h<=rows.length) (.lst sz ((rows.drop l.toNat).take (h.toNat - l.toNat)))
  | _, _=> .fail
 | .sl e, .v (.slice none 0 0),none=>match tw 0 lo,tw 0 hi with
  |some l,some h=> .if (l=0∧h=0∧(yW P e).isSome=true) (.v (.slice none 0 0))
  | _, _=> .fail
 | .string, .v (.string s),none=>match tw 0 lo,tw s.data.toList.length hi with
  |some l,some h=> .if (0<=l∧l<=h∧h<=s.data.toList.length) (.v (.string (s.extract l.toNat h.toNat)))
  | _, _=> .fail
 | _, _, _=> .fail
def vA (x:AV) (i:Nat):pJ:=
 match x with
 | .tup vs=> .if (i<vs.length) (mZ vs i)
 | _=> .fail

def zgU:Value->Bool
 | .bool _| .int _ _| .string _| .pointer none| .slice none 0 0=>true
 | _=>false
def Jd (P:Program) (t:TypeId):Option Value:=((P.info? t).bind (·.zero)).bind λ z=>if zgU z=true then some z else none
def zV (P:Program) (t:TypeId):Option Nat:=match P.underlying t with
 |some (.int _)=>some 0
 |some .bool=>some 1
 |some .string=>some 2
 | _=>none
def Fx (P:Program) (t:TypeId):Option (List Nat):=match P.underlying t with
 |some (.struct fs)=>if (!P.stoodInHeld t && (List.range fs.size).all λ i=>match fs[i]? with
   |some f=>f.name != "_" && f.offset==i && (zV P f.type).isSome
   |none=>false)=true then some (fs.toList.map λ f=>(zV P f.type).getD 3) else none
 | _=>none
def uw (P:Program) (t:TypeId):TK:=match tk P t with
 | .str=>match Fx P t with
  |some ks=> .many ks
  |none=> .str
 | .many _=> .other
 |k=>k
def ze3:Nat->AV->Bool
 |0, .v (.int _ _)|1, .v (.bool _)|2, .v (.string _)=>true
 | _, _=>false
def AT:List Nat->List AV->Bool
 | [], []=>true
 |k::ks,x::xs=>ze3 k x && AT ks xs
 | _, _=>false
def I5:TK->AV->Bool
 | .string, _| .bool, _| .int _, _=>true
 | .many ks, .agg xs=>AT ks xs
 | _, _=>false
def Vz:Nat->AV->AV->Option Bool
 |0, .v (.int k a), .v (.int k' b)=>if k=k' then some (a==b) else none
 |1, .v (.bool a), .v (.bool b)=>some (a==b)
 |2, .v (.string a), .v (.string b)=>some (a==b)
 | _, _, _=>none
def OM:List Nat->List AV->List AV->Option Bool
 | [], [], []=>some true
 |k::ks,x::xs,y::ys=>match Vz k x y,OM ks xs ys with
  |some a,some b=>some (a && b)
  | _, _=>none
 | _, _, _=>none
def mi:TK->AV->AV->Option Bool
 | .string, .v (.string a), .v (.string b)=>some (a==b)
 | .bool, .v (.bool a), .v (.bool b)=>some (a==b)
 | .int _, .v (.int k a), .v (.int k' b)=>if k=k' then some (a==b) else none
 | .many ks, .agg xs, .agg ys=>OM ks xs ys
 | _, _, _=>none
def eM (t:TK) (k:AV):List (List AV)->Option (Option AV)
 | []=>some none
 |r::rs=>match mi t k (mZ r 0) with
  |some true=>some (some (mZ r 1))
  |some false=>eM t k rs
  |none=>none
def gz (t:TK) (k x:AV):List (List AV)->Option (List (List AV))
 | []=>some [[k,x]]
 |r::rs=>match mi t k (mZ r 0) with
  |some true=>some ([k,x]::rs)
  |some false=>(gz t k x rs).map (r::·)
  |none=>none
def vB (P:Program) (n:Nat) (t:TypeId) (r:Option Operand):pJ:=
 match tk P t,r with
 | .map _ _,none=>⟨True, .mp n, [(n,some (.rows true 0 2 []))],1⟩
 | _, _=> .fail
def kX (P:Program) (t:TypeId) (m k x:AV) (h:au):pJ:=
 match tk P t,m with
 | .map kt _, .mp o=>match h o with
  |some (.rows true 0 2 rs)=>match gz (uw P kt) k x rs with
   |some rs'=>⟨I5 (uw P kt) k=true, .top, [(o,some (.rows true 0 2 rs'))],0⟩
   |none=> .fail
  | _=> .fail
 | _, _=> .fail
def qY (P:Program) (t:TypeId) (m k:AV) (ok:Bool) (h:au):pJ:=
 match tk P t,m with
 | .map kt et, .mp o=>match h o with
  |some (.rows _ 0 2 rs)=>match eM (uw P kt) k rs,Jd P et with
   |some (some x), _=> .if (I5 (uw P kt) k=true) (if ok then .tup [x, .bool true] else x)
   |some none,some z=> .if (I5 (uw P kt) k=true) (if ok then .tup [.v z, .bool false] else .v z)
   | _, _=> .fail
  | _=> .fail
 | _, _=> .fail
def lK (P:Program) (n:Nat) (op:Op) (e:dg) (h:au):pJ:=
 match op with
 | .move x| .assign x=> .ok (ev e x)
 | .pick c a b=>GM (ev e c) (ev e a) (ev e b)
 | .alloc t=>match tz P t with
  |some z=>⟨True, .ref n 0 z.length 0 0, [(n,some (.rows true 0 z.length [z]))],1⟩
  |none=> .fail
 | .box _ x=>let c:=(ev e x).cells
  ⟨(ev e x).okCells h, .ref n 0 c.length 0 0, [(n,some (.rows true 0 c.length [c]))],1⟩
 | .build t parts=>zf P t (parts.toList.map λ p=>(p.1,ev e p.2)) h
 | .buildSlice t len parts=>mT P n t len (parts.toList.map λ p=>(p.1,ev e p.2)) h
 | .load t a=>wB P t (ev e a) h
 | .store t a v=>jL P t (ev e a) (ev e v) h
 | .binOp op t x y _=>GK P op t (ev e x) (ev e y)
 | .unOp op _ x=>zbM op (ev e x)
 | .nilCheck x=>yb (ev e x) h
 | .convert s d x=>x8 P s d (ev e x) h
 | .makeFunc f a b=> .ok (.fn f (a.toList.map (ev e)) (b.toList.map (ev e)))
 | .makeSlice t l c=>qZ P n t (ev e l) (ev e c)
 | .slice t x lo hi mx=>um P t (ev e x) (lo.map (ev e)) (hi.map (ev e)) (mx.map (ev e)) h
 | .fieldAddr t x f=>jl P t (ev e x) f h
 | .field t x f=>BN P t (ev e x) f
 | .indexAddr t x i=>jm P t (ev e x) (ev e i) h
 | .index t x i=>BP P t (ev e x) (ev e i)
 | .extract x i=>vA (ev e x) i
 | .makeMap t r=>vB P n t r
 | .mapUpdate t m k x| .insert t m k x=>kX P t (ev e m) (ev e k) (ev e x) h
 | .lookup t m k ok=>qY P t (ev e m) (ev e k) ok h
 | .call { callee:= .builtin .len,args,argTypes}=>match args.toList,argTypes.toList with
  | [x], [t]=>Ed P t (ev e x) h
  | _, _=> .fail
 | .call { callee:= .builtin .append,args,argTypes}=>match args.toList with
  | [s,x]=>BM P n argTypes.toList (ev e s) (ev e x) h
  | _=> .fail
 | .call { callee:= .builtin .cap,args,argTypes}=>match args.toList,argTypes.toList with
  | [x], [t]=>Og P t (ev e x)
  | _, _=> .fail
 | .call { callee:= .builtin .copy,args,argTypes}=>match args.toList with
  | [s,x]=>x9 P argTypes.toList (ev e s) (ev e x) h
  | _=> .fail
 | .call { callee:= .builtin .clear,args,argTypes}=>match args.toList with
  | [s]=>ul P argTypes.toList (ev e s) h
  | _=> .fail
 | .call { callee:= .builtin .min,args, .. }=>match args.toList with
  | [x,y]=>Ok (ev e x) (ev e y)
  | _=> .fail
 | .call { callee:= .builtin .max,args, .. }=>match args.toList with
  | [x,y]=>Oj (ev e x) (ev e y)
  | _=> .fail
 | _=> .fail
end Go.Av
end
section
namespace Go.Av
open Go

def m9 (φ:aQ) (w:World) (M:Nat->Prop) (a:Addr) (bs sz:Nat) (rs:List (List AV)):Prop:=
 (∃C T,a.spot=none∧w.heap[a.block]? =some (.cells C T (0,0))∧C.size=bs∧(∀r ∈ rs,r.length=sz)∧a.off+rs.length * sz<=bs∧
  (∀u ∈ (C.toList.drop a.off).take (rs.length * sz),gx u=true)∧aU φ w M rs.flatten ((C.toList.drop a.off).take (rs.length * sz)))∨
 ∃es clk,a.spot≠none∧w.heap[a.block]? =some (.map es clk)∧es.size=rs.length∧(sz=2∧∀r ∈ rs,r.length=sz)∧aU φ w M rs.flatten (es.toList.flatMap λ e=> [e.key,e.val])
variable {rs:List (List AV)} {bs sz:Nat} {a:Addr} {M M':Nat->Prop} {w w':World}
theorem m9.keep {φ φ':aQ} (hb:w'.heap[a.block]? =w.heap[a.block]?)
  (hr:∀ {xs:List AV} {vs:List Value},aU φ w M xs vs->aU φ' w' M' xs vs) (h:m9 φ w M a bs sz rs):m9 φ' w' M' a bs sz rs:=by
 grind [m9]
theorem m9.turn {φ φ':aQ}{rs':List (List AV)} (h:m9 φ w M a bs sz rs) (hb:w'.heap[a.block]? =w.heap[a.block]?) (hl:rs'.length=rs.length)
  (hsz:(∀r ∈ rs,r.length=sz)->∀r ∈ rs',r.length=sz) (hr:∀ {vs:List Value},aU φ w M rs.flatten vs->aU φ' w' M' rs'.flatten vs):m9 φ' w' M' a bs sz rs':=by
 grind [m9]
theorem m9.same {φ φ':aQ} (h:m9 φ w M a bs sz rs) (hb:w'.heap[a.block]? =w.heap[a.block]?)
  (hr:∀ {vs:List Value},aU φ w M rs.flatten vs->aU φ' w' M' rs.flatten vs):m9 φ' w' M' a bs sz rs:=h.turn hb rfl id hr
theorem m9.rel0 {φ:aQ} (h:m9 φ w M a bs sz rs):∃vs,aU φ w M rs.flatten vs:=by
 grind [m9]
theorem m9.blk {φ:aQ} (h:m9 φ w M a bs sz rs):a.block<w.heap.size:=by
 grind [m9]
theorem m9.cells {φ:aQ}{w:World}{M:Nat->Prop}{a:Addr}{bs sz:Nat}{rs:List (List AV)} (h:m9 φ w M a bs sz rs) (hs:a.spot=none):
  ∃C T,w.heap[a.block]? =some (.cells C T (0,0))∧C.size=bs∧(∀r ∈ rs,r.length=sz)∧a.off+rs.length * sz<=bs∧
   (∀u ∈ (C.toList.drop a.off).take (rs.length * sz),gx u=true)∧aU φ w M rs.flatten ((C.toList.drop a.off).take (rs.length * sz)):=by
 grind [m9]
theorem m9.rows {φ:aQ} (h:m9 φ w M a bs sz rs):∀r ∈ rs,r.length=sz:=by
 grind [m9]
theorem m9.map {φ:aQ}{w:World}{M:Nat->Prop}{a:Addr}{bs sz:Nat}{rs:List (List AV)} (h:m9 φ w M a bs sz rs) (hs:a.spot≠none):
  ∃es clk,w.heap[a.block]? =some (.map es clk)∧es.size=rs.length∧(sz=2∧∀r ∈ rs,r.length=sz)∧aU φ w M rs.flatten (es.toList.flatMap λ e=> [e.key,e.val]):=by
 grind [m9]
structure br (φ:aQ) (F:Nat->Prop) (w:World) (M0:Nat->Prop) (H:au):Prop where
 m0:∀k,M0 k->k<w.heap.size
 fresh:∀o,F o->φ o=none
 obj:∀o mt g sz rs,H o=some (.rows mt g sz rs)->∃A,φ o=some (g,A)∧((A=none∧rs= [])∨∃a bs,A=some (a,bs)∧¬M0 a.block∧m9 φ w (Or M0 (bc φ H)) a bs sz rs)
 inj:∀o o' mt g sz rs mt' g' sz' rs' a a' b b',H o=some (.rows mt g sz rs)->H o'=some (.rows mt' g' sz' rs')->o≠o'->(mt=true∨mt'=true)->
  φ o=some (g,some (a,b))->φ o'=some (g',some (a',b'))->a.block≠a'.block
 glob:u9 w (Or M0 (bc φ H))

abbrev m8 (φ:aQ) (n:Nat) (w:World) (M0:Nat->Prop) (H:au):Prop:=br φ (λ o=>n<=o) w M0 H

structure Fr (w:World) (U:Nat->Prop) (w':World):Prop where
 os:w'.os=w.os
 tape:w'.tape=w.tape
 output:w'.output=w.output
 drawn:w.drawn<=w'.drawn
 size:w.heap.size<=w'.heap.size
 block:∀k,k<w.heap.size->¬U k->w'.heap[k]? =w.heap[k]?

structure fm (φ:aQ) (w:World) (M0:Nat->Prop) (h:au) (φ':aQ) (w':World) (h':au):Prop where
 le:φ.le φ'
 or:∀k,Or M0 (bc φ' h') k->Or M0 (bc φ h) k∨w.heap.size<=k
 fr:Fr w (bc φ h) w'
 mutd:∀k,bc φ' h' k->bc φ h k∨w.heap.size<=k

abbrev cI:=AV->au->Nat->Prop
def kH (P:Program) (f:FuncId):Prop:=∀ (args:Array Value) (w:World),(callFunc f args).run P w= .ok (.enter f args) w
def ap (P:Program) (f:FuncId) (args:List AV) (h:au) (n:Nat) (K:cI):Prop:=
 kH P f∧∀ (M0:Nat->Prop) (φ:aQ) (w:World) (vs:List Value),m8 φ n w M0 h->aU φ w (Or M0 (bc φ h)) args vs->
  Calls P f ⟨vs⟩ w λ e w'=>∃v φ' r h' n',e= .returned v∧K r h' n'∧m8 φ' n' w' M0 h'∧bY φ' w' (Or M0 (bc φ' h')) r v∧fm φ w M0 h φ' w' h'

def rZ (P:Program) (fv:AV) (args:List AV) (h:au) (n:Nat) (K:cI):Prop:=
 match fv with
 | .fn (.func f) first caps=>ap P f (first++args++caps) h n K
 | _=>False

inductive Cl:AV->Prop
 |top:Cl .top
 |v (x:Value):Cl (.v x)
 |agg {cs:List AV} (h:∀c ∈ cs,Cl c):Cl (.agg cs)
 |tup {cs:List AV} (h:∀c ∈ cs,Cl c):Cl (.tup cs)
 |lst {sz:Nat} {rows:List (List AV)} (h:∀r ∈ rows,∀c ∈ r,Cl c):Cl (.lst sz rows)
 |fp {cs:List AV} (h:∀c ∈ cs,Cl c):Cl (.fp cs)
 |fn {f:Fn} {a b:List AV} (h:∀c ∈ a,Cl c) (h':∀c ∈ b,Cl c):Cl (.fn f a b)
 |gd {g:Bool} {x:AV} (h:Cl x):Cl (.gd g x)
abbrev c7:=Exit->dg->au->Nat->Prop
def CZ (K:dg->au->Nat->Prop) (Q:c7):c7
 | .normal,e,h,n=>K e h n
 |x,e,h,n=>Q x e h n
def wn (Q:c7):c7
 | .goto _, _, _, _=>False
 |x,e,h,n=>Q x e h n
def sP (id:Nat) (Q:c7):c7
 | .exit id',e,h,n=>if id'=id then Q .normal e h n else Q (.exit id') e h n
 |x,e,h,n=>Q x e h n

def CX:AV->AV
 | .gd _ x=>x
 |x=>x
def EE (g:Bool):AV->Prop
 | .gd g' _=>g=true->g'=true
 | _=>True
def iq (op:Op):List Tmp:=op.operands.toList.filterMap fun| .tmp t=>some t| _=>none
def gE (op:Op) (e:dg):dg:=match op with
 | .pick _ _ _=>e
 | _=>λ t=>CX (e t)
def gT (op:Op):List Tmp:=match op with
 | .pick _ _ _=> []
 |op=>iq op
def te (x:AV) (want:Bool):Option Bool:=
 match x with
 | .v (.bool b)=>some (b==want)
 | .gd g (.v (.bool b))=>some (g && (b==want))
 | _=>none
def qy (ops:List Oper) (j:Nat):Option Tmp:=(ops[j]?).bind (·.dst)
def Hf:Op->Bool
 | .call { callee:= .value _, .. }=>true
 | _=>false

def Fb:List (Nat×AV)->dg
 | []=>λ _=> .top
 |(t,x)::l=>aC (Fb l) t x
def fh:List (Nat×cB)->au
 | []=>λ _=>none
 |(o,x)::l=>aC (fh l) o (some x)
mutual
inductive eY (h h':au) (n:Nat):AV->AV->Prop
 |refl (x:AV):eY h h' n x x
 |top (x:AV):eY h h' n x .top
 |frz {o g sz i len:Nat} {mt:Bool} {rs rows:List (List AV)} (ho:h o=some (.rows mt g sz rs)) (hl:i+len<=rs.length) (ho':∀g sz rs,h' o≠some (.rows true g sz rs)) (hr:bg h h' n ((rs.drop i).take len) rows):
   eY h h' n (.sl o g sz i len) (.lst sz rows)
 |frzP {o g sz i off:Nat} {mt:Bool} {rs:List (List AV)} {cells:List AV} (ho:h o=some (.rows mt g sz rs)) (hi:i<rs.length) (hoff:off<sz) (ho':∀g sz rs,h' o≠some (.rows true g sz rs)) (hr:aY h h' n ((ac rs i).drop off) cells):
   eY h h' n (.ref o g sz i off) (.fp cells)
 |nil {A:Option Addr} {c:Nat} (sz:Nat):eY h h' n (.v (.slice A 0 c)) (.lst sz [])
 |own {o g sz:Nat} (hn:n<=o) (ho':h' o=some (.rows true g sz [])):eY h h' n (.v (.slice none 0 0)) (.sl o g sz 0 0)
 |agg {xs ys:List AV} (hr:aY h h' n xs ys):eY h h' n (.agg xs) (.agg ys)
 |tup {xs ys:List AV} (hr:aY h h' n xs ys):eY h h' n (.tup xs) (.tup ys)
 |fn {f:Fn} {a b a' b':List AV} (ha:aY h h' n a a') (hb:aY h h' n b b'):eY h h' n (.fn f a b) (.fn f a' b')
 |lst {sz:Nat} {rows rows':List (List AV)} (hr:bg h h' n rows rows'):eY h h' n (.lst sz rows) (.lst sz rows')
inductive aY (h h':au) (n:Nat):List AV->List AV->Prop
 |nil:aY h h' n [] []
 |cons {x y:AV} {xs ys:List AV} (hx:eY h h' n x y) (t:aY h h' n xs ys):aY h h' n (x::xs) (y::ys)
inductive bg (h h':au) (n:Nat):List (List AV)->List (List AV)->Prop
 |refl (rs:List (List AV)):bg h h' n rs rs
 |nil:bg h h' n [] []
 |cons {x y:List AV} {xs ys:List (List AV)} (hx:aY h h' n x y) (t:bg h h' n xs ys):bg h h' n (x::xs) (y::ys)
end
theorem aY.refl (h h':au) (n:Nat):∀xs,aY h h' n xs xs
 | []=> .nil
 |x::xs=> .cons (.refl x) (aY.refl h h' n xs)
inductive zc7 (h h':au) (n:Nat) (o:Nat):Option cB->cB->Prop
 |same {mt mt':Bool} {g sz:Nat} {rs rs':List (List AV)} (hm:mt'=true->mt=true) (hr:bg h h' n rs rs'):zc7 h h' n o (some (.rows mt g sz rs)) (.rows mt' g sz rs')
 |own {g sz:Nat} (hn:n<=o):zc7 h h' n o none (.rows true g sz [])
inductive aN (n:Nat):AV->Prop
 |top:aN n .top
 |v (x:Value):aN n (.v x)
 |agg {cs:List AV} (h:∀c ∈ cs,aN n c):aN n (.agg cs)
 |tup {cs:List AV} (h:∀c ∈ cs,aN n c):aN n (.tup cs)
 |lst {sz:Nat} {rows:List (List AV)} (h:∀r ∈ rows,∀c ∈ r,aN n c):aN n (.lst sz rows)
 |fp {cs:List AV} (h:∀c ∈ cs,aN n c):aN n (.fp cs)
 |ref {o g sz i off:Nat} (h:o<n):aN n (.ref o g sz i off)
 |sl {o g sz i len:Nat} (h:o<n):aN n (.sl o g sz i len)
 |mp {o:Nat} (h:o<n):aN n (.mp o)
 |fn {f:Fn} {a b:List AV} (h:∀c ∈ a,aN n c) (h':∀c ∈ b,aN n c):aN n (.fn f a b)
 |gd {g:Bool} {x:AV} (h:aN n x):aN n (.gd g x)
inductive qM (S:List Nat):AV->Prop
 |top:qM S .top
 |v (x:Value):qM S (.v x)
 |agg {cs:List AV} (h:∀c ∈ cs,qM S c):qM S (.agg cs)
 |tup {cs:List AV} (h:∀c ∈ cs,qM S c):qM S (.tup cs)
 |lst {sz:Nat} {rows:List (List AV)} (h:∀r ∈ rows,∀c ∈ r,qM S c):qM S (.lst sz rows)
 |fp {cs:List AV} (h:∀c ∈ cs,qM S c):qM S (.fp cs)
 |ref {o g sz i off:Nat} (h:o ∈ S):qM S (.ref o g sz i off)
 |sl {o g sz i len:Nat} (h:o ∈ S):qM S (.sl o g sz i len)
 |mp {o:Nat} (h:o ∈ S):qM S (.mp o)
 |fn {f:Fn} {a b:List AV} (h:∀c ∈ a,qM S c) (h':∀c ∈ b,qM S c):qM S (.fn f a b)
 |gd {g:Bool} {x:AV} (h:qM S x):qM S (.gd g x)
theorem aN.toS {S:List Nat}{x:AV} (h:aN 0 x):qM S x:=by
 induction h with
 |top=>exact .top
 |v x=>exact .v x
 |agg _ ih=>exact .agg ih
 |tup _ ih=>exact .tup ih
 |lst _ ih=>exact .lst ih
 |fp _ ih=>exact .fp ih
 |ref h=>omega
 |sl h=>omega
 |mp h=>omega
 |fn _ _ ih1 ih2=>exact .fn ih1 ih2
 |gd _ ih=>exact .gd ih
def zH (h h':au):Prop:=∀o,h' o=h o∨∃g sz rs,h o=some (.rows true g sz rs)∧h' o=some (.rows false g sz rs)
theorem zH.refl (h:au):zH h h:=λ _=> .inl rfl
def GH:Nat:=1000000007
def dY (l more:Nat) (rows:List (List AV)):AV:= .gd false (.tup [.v (.int .i64 l), .lst more rows])
def uO (e:dg) (fv:AV) (args:List AV) (h:au) (n:Nat) (K:dg->AV->au->Prop):Prop:=
 ∃l more rows,fv= .fn (.yield l) [] []∧e GH=dY l more rows∧
  match rows with
  | []=>more=1
  |xs::rest=>∃h',zH h h'∧aY h h' n args xs∧(∀c ∈ xs,aN 0 c)∧K (aC e GH (dY l more rest)) (.v (.bool true)) h'∧K (aC e GH (dY l 2 [])) (.v (.bool false)) h'
def gW {α:Type} (g:Bool) (wr:List α):List α:=bif g then wr else []
def gN (g:Bool) (al:Nat):Nat:=bif g then al else 0
def gP (P:Program) (ops:List Oper) (Q:c7):List Oper->dg->au->Nat->Prop
 | [],e,h,n=>Q .normal e h n
 |o::rest,e,h,n=>
  match o.guard with
  |none=>
   match o.op with
   | .call { callee:= .value f,args, .. }=>rZ P (ev e f) (args.toList.map (ev e)) h n (λ r h' n'=>gP P ops Q rest (put e o.dst r) h' n')∨
     uO e (ev e f) (args.toList.map (ev e)) h n (λ e' r h'=>gP P ops Q rest (put e' o.dst r) h' n)
   |op=>
    let r:=lK P n op e h
    r.cond∧gP P ops Q rest (put e o.dst r.val) (aB r.wr h) (n+r.al)
  |some (j,want)=>
   match (qy ops j).bind λ t=>te (e t) want with
   |none=>False
   |some g=>
    match o.op with
    | .call { callee:= .value f,args, .. }=>
     (∀t ∈ iq o.op,EE g (e t))∧((∃x,(g=true->rZ P (ev (λ t=>CX (e t)) f) (args.toList.map (ev λ t=>CX (e t))) h n λ r h' n'=>r=x∧h'=h∧n'=n)∧
      gP P ops Q rest (put e o.dst (.gd g x)) h n)∨
      (g=true∧rZ P (ev (λ t=>CX (e t)) f) (args.toList.map (ev λ t=>CX (e t))) h n λ r h' n'=>gP P ops Q rest (put e o.dst (.gd true r)) h' n')∨
      (g=true∧uO e (ev (λ t=>CX (e t)) f) (args.toList.map (ev λ t=>CX (e t))) h n λ e' r h'=>gP P ops Q rest (put e' o.dst (.gd true r)) h' n))
    |op=>
     let r:=lK P n op (gE op e) h
     (∀t ∈ gT op,EE g (e t))∧(g=true->r.cond)∧gP P ops Q rest (put e o.dst (.gd g r.val)) (aB (gW g r.wr) h) (n+gN g r.al)

def se (n:Nat):cB->Prop
 | .rows _ _ _ rs=>∀r ∈ rs,∀c ∈ r,aN n c
structure Wk (e:dg) (h:au) (n:Nat) (E:List (Nat×AV)) (HH:List (Nat×cB)) (n':Nat):Prop where
 env:∀p ∈ E,eY h (fh HH) n (e p.1) p.2∧aN n' p.2
 obj:∀p ∈ HH,p.1<n'∧zc7 h (fh HH) n p.1 (h p.1) p.2∧se n' p.2

def ah (n0:Nat) (B:c7->dg->au->Nat->Prop) (Q:c7) (e:dg) (h:au) (n:Nat):Prop:=
 ∀X:dg->au->Nat->Prop,(∀e h n,B (CZ X Q) e h n->X e h n)->(∀e h n E HH n',Wk e h n E HH n'->n0<=n'->X (Fb E) (fh HH) n'->X e h n)->X e h n

def rT:aQ:=λ _=>none
def dO:au:=λ _=>none
def aq (P:Program) (f:FuncId) (args:List AV) (r:AV):Prop:=
 kH P f∧∀ (M:Nat->Prop) (w:World) (vs:List Value),(∀k,M k->k<w.heap.size)->u9 w M->aU rT w M args vs->
  Calls P f ⟨vs⟩ w λ e w'=>∃v,e= .returned v∧bY rT w' M r v∧Fr w (λ _=>False) w'
inductive Bi:AV->Prop
 |v (x:Value):Bi (.v x)
 |tup {xs:List AV} (h:∀x ∈ xs,Bi x):Bi (.tup xs)
 |agg {xs:List AV} (h:∀x ∈ xs,Bi x):Bi (.agg xs)
def DY (P:Program) (fv:AV) (args:List AV) (h:au) (r:AV) (S:List Nat):Prop:=
 ∃f first caps args',fv= .fn (.func f) first caps∧(∀c ∈ args',aN 0 c)∧aq P f args' r∧(((∀h₁:au,(∀o ∈ S,h o=h₁ o)->aY h₁ dO 0 (first++args++caps) args')∧Bi r)∨args'=first++args++caps)

mutual
inductive Sh (n:Nat):AV->AV->Prop
 |same {x:AV} (h:aN 0 x):Sh n x x
 |ref {o g sz i off:Nat}:Sh n (.ref o g sz i off) (.ref (n+o) g sz i off)
 |sl {o g sz i len:Nat}:Sh n (.sl o g sz i len) (.sl (n+o) g sz i len)
 |mp {o:Nat}:Sh n (.mp o) (.mp (n+o))
 |agg {xs ys:List AV} (h:IH n xs ys):Sh n (.agg xs) (.agg ys)
 |tup {xs ys:List AV} (h:IH n xs ys):Sh n (.tup xs) (.tup ys)
 |fn {f:Fn} {a b a' b':List AV} (h:IH n a a') (h':IH n b b'):Sh n (.fn f a b) (.fn f a' b')
inductive IH (n:Nat):List AV->List AV->Prop
 |nil:IH n [] []
 |cons {x y:AV} {xs ys:List AV} (h:Sh n x y) (t:IH n xs ys):IH n (x::xs) (y::ys)
end
inductive Bm (n:Nat):List (List AV)->List (List AV)->Prop
 |same {rs:List (List AV)} (h:∀r ∈ rs,∀c ∈ r,aN 0 c):Bm n rs rs
 |nil:Bm n [] []
 |cons {x y:List AV} {xs ys:List (List AV)} (h:IH n x y) (t:Bm n xs ys):Bm n (x::xs) (y::ys)
inductive zdt (n:Nat):cB->cB->Prop
 |rows {mt:Bool} {g sz:Nat} {rs rs':List (List AV)} (h:Bm n rs rs'):zdt n (.rows mt g sz rs) (.rows mt g sz rs')
inductive Qk (n:Nat):List (Nat×cB)->List (Nat×cB)->Prop
 |nil:Qk n [] []
 |cons {o:Nat} {x y:cB} {l l':List (Nat×cB)} (h:zdt n x y) (t:Qk n l l'):Qk n ((o,x)::l) ((n+o,y)::l')
inductive lO:AV->Prop
 |top:lO .top
 |v (x:Value):lO (.v x)
 |ref (o g sz i off:Nat):lO (.ref o g sz i off)
 |sl (o g sz i len:Nat):lO (.sl o g sz i len)
 |mp (o:Nat):lO (.mp o)
 |agg {xs:List AV} (h:∀x ∈ xs,lO x):lO (.agg xs)
 |tup {xs:List AV} (h:∀x ∈ xs,lO x):lO (.tup xs)
 |fn {f:Fn} {a b:List AV} (h:∀x ∈ a,lO x) (h':∀x ∈ b,lO x):lO (.fn f a b)
def FN:cB->Prop
 | .rows mt _ _ rs=>mt=true∧∀r ∈ rs,∀x ∈ r,lO x
abbrev pq:Nat:=4294967295
def pR (P:Program) (b:Nat) (fv:AV) (args:List AV) (h:au) (r:AV) (S:List Nat) (wr:List (Nat×Option cB)):Prop:=
 (wr= []∧DY P fv args h r S)∨
 (∃f first caps args',fv= .fn (.func f) first caps∧(∀c ∈ args',aN 0 c)∧aq P f args' r∧
  (∀p ∈ wr,p.1 ∈ S∧∃g sz rs,p.2=some (.rows false g sz rs)∧h p.1=some (.rows true g sz rs))∧
  ∀h₁:au,(∀o ∈ S,h o=h₁ o)->aY h₁ (aB wr h₁) 0 (first++args++caps) args')∨
 (∃f first caps,fv= .fn (.func f) first caps∧(∀o ∈ S,∃x,h o=some x)∧
  (∀p ∈ wr,p.1 ∈ S∧∃g sz rs,p.2=some (.rows true g sz rs)∧∀r ∈ rs,∀c ∈ r,aN 0 c)∧(Bi r∨qM S r∨∃o g sz i len,r= .sl o g sz i len∧o ∈ wr.map (·.1))∧
  ∀ (h₁:au) (n₁:Nat),(∀o ∈ S,h o=h₁ o)->(∀o ∈ S,o<n₁)->ap P f (first++args++caps) h₁ n₁ (λ r' h' n'=>r'=r∧h'=aB wr h₁∧n'=n₁))∨
 ∃f first caps args' R0 H0 HH k2,fv= .fn (.func f) first caps∧pq ∈ S∧k2<=16∧(∀c ∈ args',aN 0 c)∧
  ap P f args' dO 0 (λ r h n'=>Wk (λ _=>r) h n' [(0,R0)] H0 k2)∧lO R0∧(∀p ∈ H0,FN p.2)∧Sh b R0 r∧Qk b H0 HH∧
  (HH.map (·.1)).Nodup∧wr=HH.map (λ p=>(p.1,some p.2))∧∀h₁:au,(∀o ∈ S,h o=h₁ o)->aY h₁ dO 0 (first++args++caps) args'
def AV.ids:AV->List Nat
 | .ref o _ _ _ _| .sl o _ _ _ _| .mp o=> [o]
 | _=> []
abbrev jf:=List Nat×List Nat
def kI (P:Program) (n:Nat) (ops:List Oper) (K:dg->au->List jf->Prop):Nat->List Oper->dg->au->List jf->Prop
 | _, [],e,h,acc=>K e h acc
 |i,o::rest,e,h,acc=>
  match o.guard with
  |none=>
   match o.op with
   | .call { callee:= .value f,args, .. }=>∃r S wr,pR P (n+ops.length+16 * i) (ev e f) (args.toList.map (ev e)) h r S wr∧kI P n ops K (i+1) rest (put e o.dst r) (aB wr h) (acc++ [(S,wr.map (·.1))])
   |op=>
    let r:=lK P (n+i) op e h
    r.cond∧kI P n ops K (i+1) rest (put e o.dst r.val) (aB r.wr h) (acc++ [((op.operands.toList.map (ev e)).flatMap AV.ids,r.wr.map (·.1))])
  |some (j,want)=>
   match (qy ops j).bind λ t=>te (e t) want with
   |none=>False
   |some g=>
    match o.op with
    | .call { callee:= .value f,args, .. }=>
     (∀t ∈ iq o.op,EE g (e t))∧∃r S wr,(g=true->pR P (n+ops.length+16 * i) (ev (λ t=>CX (e t)) f) (args.toList.map (ev λ t=>CX (e t))) h r S wr)∧(g=false->wr= [])∧
      kI P n ops K (i+1) rest (put e o.dst (.gd g r)) (aB wr h) (acc++ [(S,wr.map (·.1))])
    |op=>
     let r:=lK P (n+i) op (gE op e) h
     (∀t ∈ gT op,EE g (e t))∧(g=true->r.cond)∧
      kI P n ops K (i+1) rest (put e o.dst (.gd g r.val)) (aB (gW g r.wr) h) (acc++ [((op.operands.toList.map (ev (gE op e))).flatMap AV.ids,(gW g r.wr).map (·.1))])
def Kn:List Oper->List Nat->List Nat
 | [],acc=>acc
 |o::l,acc=>Kn l (acc++ [o.after.toList.foldl (λ s e=>if Region.binds .any e then s|||2 ^ e.on|||acc.getD e.on 0 else s) 0])
def pp (ops:List Oper) (o:Oper):List Tmp:=iq o.op++(match o.guard with|some (j, _)=>(qy ops j).toList|none=> [])
def N6 (a b:List Nat):Bool:=a.all λ x=> !b.contains x
def I4:Op->Bool
 | .store .. =>true
 | _=>false
def Rp:Op->Bool
 | .fieldAddr .. | .indexAddr .. | .nilCheck _| .move _=>true
 | _=>false
def Tv (ops:List Oper) (x y:Oper) (r s:jf):Bool:=
 N6 x.dst.toList (pp ops y) && N6 y.dst.toList (pp ops x) && N6 x.dst.toList y.dst.toList && (N6 r.2 s.1||(I4 x.op && (Rp y.op||I4 y.op))) && (N6 s.2 r.1||(I4 y.op && (Rp x.op||I4 x.op))) && N6 r.2 s.2
def TY (ops:List Oper) (mk:List Nat) (k:Nat):Bool:=(List.range ops.length).all λ j=>decide (j<k)||(List.range j).all λ i=>(mk.getD j 0).testBit i
def A5 (ops:List Oper) (recs:List jf):Bool:=
 let mk:=Kn ops []
 decide (recs.length<=ops.length) && (decide (recs.length=ops.length)||TY ops mk recs.length) && (List.range ops.length).all λ j=>(ops.getD j default).after.toList.all (λ e=> !Region.binds .any e||decide (e.on<j)) &&
  (decide (recs.length<=j)||(List.range j).all λ i=>(mk.getD j 0).testBit i||Tv ops (ops.getD i default) (ops.getD j default) (recs.getD i default) (recs.getD j default))
def Kp (recs:List jf):Bool:=recs.all λ r=> !r.1.contains pq
def Jm (P:Program) (ops:List Oper) (Q:c7) (e:dg) (h:au) (n:Nat):Prop:=
 ∃k,kI P n ops (λ e h recs=>A5 ops recs=true∧((Kp recs=true∧gP P ops Q (ops.drop k) e h (n+ops.length))∨gP P ops Q (ops.drop k) e h (n+ops.length+16 * ops.length))) 0 (ops.take k) e h []

def WF (r:Option Nat):Fence:={ Fence.wide with round:=r}
structure rL (M:Nat->Prop) (w:World) (M':Nat->Prop) (w':World):Prop where
 size:w.heap.size<=w'.heap.size
 keep:∀k,k<w.heap.size->¬M k->w'.heap[k]? =w.heap[k]?
 new:∀k,M' k->M k∨w.heap.size<=k
 lt:∀k,M' k->k<w'.heap.size
structure NC (lo:Nat) (w w':World):Prop where
 os:w'.os=w.os
 tape:w'.tape=w.tape
 output:w'.output=w.output
 drawn:w.drawn<=w'.drawn
 size:w'.heap.size=w.heap.size
 low:∀k,k<lo->w'.heap[k]? =w.heap[k]?
 cells:∀ (k:Nat) C T fz,w.heap[k]? =some (.cells C T fz)->w'.heap[k]? =w.heap[k]?
 maps:∀ (k:Nat) es clk,w.heap[k]? =some (.map es clk)->w'.heap[k]? =w.heap[k]?
abbrev fF:=Nat->Prop
def K8 (P:Program) (f:FuncId) (caps:List AV) (more:Nat) (rows:List (List AV)):Prop:=
 kH P f∧∀ (w:World) (M0:fF) (cvs:List Value) (l:Nat) (J:List (List AV)->fF->fF->World->Prop) (Jx:fF->fF->World->Prop),
  (∀k,M0 k->k<w.heap.size)->u9 w M0->aU rT w M0 caps cvs->
  (∀rs M O O' w1 w2,J rs M O w1->Fr w1 O w2->(∀k,O' k->O k∨w1.heap.size<=k)->J rs M O' w2)->
  (∀M O O' w1 w2,Jx M O w1->Fr w1 O w2->(∀k,O' k->O k∨w1.heap.size<=k)->Jx M O' w2)->
  (∀rs M O w1 w2,J rs M O w1->NC w.heap.size w1 w2->J rs M O w2)->(∀M O w1 w2,Jx M O w1->NC w.heap.size w1 w2->Jx M O w2)->
  (∀ (r:Option Nat) (m:Nat) xs rest M O w1 vs,J (xs::rest) M O w1->(∀k,O k->k<w1.heap.size)->aU rT w1 (Or M O) xs vs->
   ∃fn tmps assign body,(Instr.yield l ⟨vs⟩).run P w1= .ok (.round l fn tmps assign body) w1∧RoundIn (WF r) m P l fn tmps assign body w1 λ e w'=>
    ∃b M',e= .returned (.bool b)∧rL M w1 M' w'∧if b then J rest M' O w' else Jx M' O w')->
  (more=1->∀M O w1,¬J [] M O w1)->
  J rows M0 (λ _=>False) w->
  Calls P f ⟨.func (.yield l) #[] #[]::cvs⟩ w λ e w'=>(∃v,e= .returned v)∧∃M' O',(∀k,O' k->k<w'.heap.size)∧((more=0∧J [] M' O' w')∨Jx M' O' w')
inductive sK (h h':au) (n o:Nat):List AV->List AV->Prop
 |nil:sK h h' n o [] []
 |ref {g sz i off:Nat} {xs ys:List AV} (t:sK h h' n o xs ys):sK h h' n o (.ref o g sz i off::xs) (.ref 0 g sz i off::ys)
 |le {x y:AV} {xs ys:List AV} (hx:eY h h' n x y) (hb:aN 0 y) (t:sK h h' n o xs ys):sK h h' n o (x::xs) (y::ys)
def ML (P:Program) (f:FuncId) (caps:List AV) (HO:List (Nat×cB)) (k:Nat) (more:Nat) (rows:List (List AV)):Prop:=
 kH P f∧∀ (φ:aQ) (w:World) (M0:fF) (cvs:List Value) (l:Nat) (J:List (List AV)->fF->fF->World->Prop) (Jx:fF->fF->World->Prop),
  m8 φ k w M0 (fh HO)->aU φ w (Or M0 (bc φ (fh HO))) caps cvs->
  (∀rs M O O' w1 w2,J rs M O w1->Fr w1 O w2->(∀k,O' k->O k∨w1.heap.size<=k)->J rs M O' w2)->
  (∀M O O' w1 w2,Jx M O w1->Fr w1 O w2->(∀k,O' k->O k∨w1.heap.size<=k)->Jx M O' w2)->
  (∀rs M O w1 w2,J rs M O w1->NC w.heap.size w1 w2->J rs M O w2)->(∀M O w1 w2,Jx M O w1->NC w.heap.size w1 w2->Jx M O w2)->
  (∀ (r:Option Nat) (m:Nat) xs rest M O w1 vs,J (xs::rest) M O w1->(∀k,O k->k<w1.heap.size)->aU rT w1 (Or M O) xs vs->
   ∃fn tmps assign body,(Instr.yield l ⟨vs⟩).run P w1= .ok (.round l fn tmps assign body) w1∧RoundIn (WF r) m P l fn tmps assign body w1 λ e w'=>
    ∃b M',e= .returned (.bool b)∧rL M w1 M' w'∧if b then J rest M' O w' else Jx M' O w')->
  (more=1->∀M O w1,¬J [] M O w1)->
  J rows M0 (bc φ (fh HO)) w->
  Calls P f ⟨.func (.yield l) #[] #[]::cvs⟩ w λ e w'=>(∃v,e= .returned v)∧∃M' O',(∀k,O' k->k<w'.heap.size)∧((more=0∧J [] M' O' w')∨Jx M' O' w')
def EO (n0:Nat) (K:dg->au->Nat->Prop) (e:dg) (h:au) (n:Nat):Prop:=
 K e h n∨∃E HH n',Wk e h n E HH n'∧n0<=n'∧K (Fb E) (fh HH) n'
def rC:List Tmp->List AV->dg->dg
 |t::ps,x::xs,e=>rC ps xs (aC e t x)
 | _, _,e=>e
def Ao (K:dg->au->Nat->Prop) (Q:c7) (e:dg):c7
 | .normal,e2,h,n=>K (aC e GH (e2 GH)) h n
 | .ret,e2,h,n=>Q .ret (aC e GH (e2 GH)) h n
 | .exit id,e2,h,n=>Q (.exit id) (aC e GH (e2 GH)) h n
 | _, _, _, _=>False
def Jh (K:dg->au->Nat->Prop):c7
 | .normal,e,h,n=>K e h n
 | _, _, _, _=>False
def ic (n0 more:Nat) (ps:List Tmp) (A B:Nat->c7->dg->au->Nat->Prop) (Q:c7):List (List AV)->dg->au->Nat->Prop
 | [],e,h,n=>more=0∧Q .normal e h n
 |xs::rest,e,h,n=>n0<=n∧A n (Jh (B n (Ao (EO n0 (ic n0 more ps A B Q rest)) Q e))) (rC ps xs e) h n

def iG (P:Program):Nat->Code->c7->dg->au->Nat->Prop
 | _, .skip,Q,e,h,n| _, .label _,Q,e,h,n=>Q .normal e h n
 | _, .region _ ops false,Q,e,h,n=>gP P ops.toList Q ops.toList e h n
 | _, .region _ ops true,Q,e,h,n=>∃h',zH h h'∧Jm P ops.toList Q e h' n
 |n0, .seq a b,Q,e,h,n=>iG P n0 a (CZ (iG P n0 b Q) Q) e h n
 |n0, .cond c a b,Q,e,h,n=>match ev e c with
  | .v (.bool t)=>(t=true->iG P n0 a Q e h n)∧(t=false->iG P n0 b Q e h n)
  | _=>False
 |n0, .block id b,Q,e,h,n=>iG P n0 b (sP id Q) e h n
 |n0, .scope b,Q,e,h,n=>iG P n0 b (wn Q) e h n
 |n0, .loop b,Q,e,h,n=>ah n0 (iG P n0 b) Q e h n
 |n0, .rangeFunc g ps a b,Q,e,h,n=>(∃f caps caps' more rows h',ev e g= .fn (.func f) [] caps∧zH h h'∧aY h h' n caps caps'∧(∀c ∈ caps',aN 0 c)∧K8 P f caps' more rows∧
   (∀xs ∈ rows,xs.length=ps.size)∧EO n0 (ic n0 more ps.toList (λ n1=>iG P n1 a) (λ n1=>iG P n1 b) Q rows) e h' n)∨
   (∃f caps caps' o gn sz rs rs' more rows h',ev e g= .fn (.func f) [] caps∧zH h h'∧h' o=some (.rows true gn sz rs)∧bg h h' n rs rs'∧(∀r ∈ rs',∀c ∈ r,aN 0 c)∧
    sK h h' n o caps caps'∧ML P f caps' [(0, .rows true gn sz rs')] 1 more rows∧
    (∀xs ∈ rows,xs.length=ps.size)∧EO n0 (ic n0 more ps.toList (λ n1=>iG P n1 a) (λ n1=>iG P n1 b) Q rows) e (aC h' o none) n)
 | _, .exit id,Q,e,h,n=>Q (.exit id) e h n
 | _, .ret,Q,e,h,n=>Q .ret e h n
 | _, _, _, _, _, _=>False
def Ar:Nat->List AV->dg
 | _, []=>λ _=> .top
 |i,x::l=>aC (Ar (i+1) l) i x
def wc (P:Program) (e:dg) (h:au):List ResultVar->Prop×List AV
 | []=>(True, [])
 | .tmp t::l=>let r:=wc P e h l;(r.1,e t::r.2)
 | .cell a t::l=>let r:=wc P e h l;let x:=wB P t (e a) h;(x.cond∧r.1,x.val::r.2)
def Mk:List AV->AV
 | [x]=>x
 |xs=> .tup xs
def Na (P:Program) (rs:List ResultVar) (K:cI):c7
 | .normal,e,h,n| .ret,e,h,n=>(wc P e h rs).1∧K (Mk (wc P e h rs).2) h n
 | _, _, _, _=>False
def vv (N:Nat):Code->Bool
 | .region _ ops _=>ops.toList.all λ o=>match o.dst with|none=>true|some d=>decide (d<N)
 | .seq a b=>vv N a && vv N b
 | .cond _ a b=>vv N a && vv N b
 | .block _ b| .loop b| .scope b=>vv N b
 | .rangeFunc _ ps a b=>ps.toList.all (λ p=>decide (p<N)) && (vv N a && vv N b)
 | _=>true
end Go.Av
end
section
namespace Go.Av
open Go

variable {a:Addr}
theorem jO  (h:a.spot=none) (k:Nat):a.add k=⟨a.block,a.off+k,none⟩:=by
 unfold Addr.add;split
 ·rename_i e;cases a;simp_all
 ·rfl
variable {fz:Nat×Nat} {T:TypeId} {C:Array Value} {w:World}
theorem Ti  (hs:a.spot=none) (hb:w.heap[a.block]? =some (.cells C T fz)):
  w.cell? a=C[a.off]? :=by
 grind [World.cell?]
variable {P:Program}
theorem EJ  (hs:a.spot=none) (hb:w.heap[a.block]? =some (.cells C T fz))
  (h:a.off<C.size):(load a).run P w= .ok C[a.off] w:=by
 have:w.cell? a=some C[a.off]:=by rw [Ti hs hb];simp [h]
 simp [this]
theorem CK  (hs:a.spot=none) (hb:w.heap[a.block]? =some (.cells C T fz)):
  ∀ (n i:Nat) (acc:Array Value),a.off+i+n<=C.size->
   (loadCellsFrom a i n acc).run P w= .ok (acc++((C.toList.drop (a.off+i)).take n).toArray) w:=by
 intro n;induction n with
 |zero=>simp_all [loadCellsFrom]
 |succ n ih=>
  intro i acc h;have hlt:a.off+i<C.size:=ge;have e1:(load (a.add i)).run P w= .ok C[a.off+i] w:=by
   rw [jO hs];exact EJ (a:=⟨a.block,a.off+i,none⟩) rfl hb hlt
  simp only [loadCellsFrom,Sem.run_bind,e1,Result.andThen_ok];rw [ih (i+1) _ ge];simp_all [List.drop_eq_getElem_cons,Nat.add_assoc]
theorem nH  (hs:a.spot=none) (hb:w.heap[a.block]? =some (.cells C T fz))
  (n:Nat) (h:a.off+n<=C.size):(loadCells a n).run P w= .ok ⟨(C.toList.drop a.off).take n⟩ w:=by
 grind [CK,loadCells]

structure Wr (w:World) (k:Nat) (o:Obj) (w':World):Prop where
 os:w'.os=w.os
 tape:w'.tape=w.tape
 output:w'.output=w.output
 drawn:w.drawn<=w'.drawn
 size:w'.heap.size=w.heap.size
 at_:w'.heap[k]? =some o
 other:∀j,j≠k->w'.heap[j]? =w.heap[j]?
def oM:List Value->Nat->List Value->List Value
 |l, _, []=>l
 |l,k,c::cs=>oM (l.set k c) (k+1) cs
theorem kE:∀ (cs:List Value) (l:List Value) (k:Nat),(oM l k cs).length=l.length
 | [], _, _=>rfl
 |c::cs,l,k=>by rw [oM,kE cs];simp
theorem ST  (hs:a.spot=none) (hb:w.heap[a.block]? =some (.cells C T fz)) (v:Value):
  Wr w a.block (.cells (C.setIfInBounds a.off v) T fz) (w.setCell a v):=by
 refine ⟨rfl,rfl,rfl,Nat.le_refl _,WW, ?_,λ j hj=> ?_⟩;all_goals grind [World.setCell]
theorem Wr.trans {w w₁ w₂:World}{k:Nat}{o o':Obj} (h:Wr w k o w₁) (h':Wr w₁ k o' w₂):Wr w k o' w₂:=
 ⟨h'.os.trans h.os,h'.tape.trans h.tape,h'.output.trans h.output,Nat.le_trans h.drawn h'.drawn,h'.size.trans h.size,h'.at_,λ j hj=>(h'.other j hj).trans (h.other j hj)⟩
theorem mC  (hs:a.spot=none):
  ∀ (vs:List Value) (i:Nat) (w:World) (C:Array Value),w.heap[a.block]? =some (.cells C T (0,0))->a.off+i+vs.length<=C.size->(∀u ∈ vs,gx u=true)->
   ∃w',(storeCells a vs i).run P w= .ok () w'∧Wr w a.block (.cells ⟨oM C.toList (a.off+i) vs⟩ T (0,0)) w':=by
 intro vs;induction vs with
 |nil=>
  intro i w C hb _ _;exact ⟨w,by simp [storeCells],rfl,rfl,rfl,Nat.le_refl _,rfl,by simp_all [oM],λ _ _=>rfl⟩
 |cons v vs ih=>
  intro i w C hb hl hv;simp only [List.length_cons] at hl;have hlt:a.off+i<C.size:=ge;have hc:w.cell? ⟨a.block,a.off+i,none⟩=some C[a.off+i]:=by rw [Ti (a:=⟨a.block,a.off+i,none⟩) rfl hb];simp [hlt]
  have hf:w.frozen? ⟨a.block,a.off+i,none⟩=false:=by simp [World.frozen?,hb]
  have e1:(store (a.add i) v).run P w= .ok () (w.setCell ⟨a.block,a.off+i,none⟩ v):=by
   grind [jO,run_store]
  have hw:=ST (w:=w) (a:=⟨a.block,a.off+i,none⟩) rfl hb v;obtain ⟨w',hr,hw'⟩:=ih (i+1) (w.setCell ⟨a.block,a.off+i,none⟩ v) _ hw.at_ pi (λ u hu=>hv u Yo);refine ⟨w', ?_, ?_⟩
  ·grind [storeCells,Sem.run_bind,Result.andThen_ok]
  ·have:=hw.trans hw';grind [oM]

variable {sz:Nat} {rs:List (List AV)}
theorem uq  (h:∀r ∈ rs,r.length=sz) (i:Nat) (hi:i<rs.length):
  rs[i]=(rs.flatten.drop (i * sz)).take sz:=by
 induction rs generalizing i with
 |nil=>simp at hi
 |cons r rs ih=>
  have hr:r.length=sz:=h r gt;cases i<;>grind [List.drop_drop,List.drop_left]
theorem yd  (h:∀r ∈ rs,r.length=sz):rs.flatten.length=rs.length * sz:=by
 induction rs<;>grind
theorem o5  (h:∀r ∈ rs,r.length=sz) (i:Nat):(rs.drop i).flatten=rs.flatten.drop (i * sz):=by
 induction rs generalizing i with
 |nil=>simp
 |cons r rs ih=>
  cases i<;>grind [Nat.add_mul,List.drop_drop,List.drop_left]
theorem o6  (h:∀r ∈ rs,r.length=sz) (i:Nat):(rs.take i).flatten=rs.flatten.take (i * sz):=by
 induction rs generalizing i with
 |nil=>simp
 |cons r rs ih=>
  cases i<;>grind [Nat.add_mul]
theorem yP:∀ (cs:List AV) (l:List AV) (k:Nat),(setMany l k cs).length=l.length
 | [], _, _=>rfl
 |c::cs,l,k=>by rw [setMany,yP cs];simp
theorem zhj {φ:aQ}{w:World}{M:Nat->Prop}:∀ {cs:List AV}{us:List Value}{xs:List AV}{vs:List Value} (k:Nat),
  aU φ w M xs vs->aU φ w M cs us->aU φ w M (setMany xs k cs) (oM vs k us)
 | [], _, _, _, _,h,h'=>by cases h';exact h
 |c::cs, _, _, _,k,h,h'=>by cases h' with|cons h1 h2=>exact zhj (k+1) (h.set h1 k) h2
theorem jr:∀ (us:List Value) (l:List Value) (off k n:Nat),k+us.length<=n->
  ((oM l (off+k) us).drop off).take n=oM ((l.drop off).take n) k us
 | [],l,off,k,n, _=>rfl
 |u::us,l,off,k,n,h=>by
  simp only [List.length_cons] at h;rw [oM,oM,Nat.add_assoc,jr us (l.set (off+k) u) off (k+1) n ge];congr 1;apply List.ext_getElem?;intro j;simp only [List.getElem?_take,List.getElem?_drop,List.getElem?_set,List.length_take,List.length_drop];by_cases hj:j<n
  ·by_cases e:k=j
   ·by_cases hb:off+k<l.length
    ·have:k<min n (l.length - off):=by omega
     simp [hj,hb,this]
    ·have:¬k<min n (l.length - off):=by omega
     simp [hj,hb,this]
   ·simp [hj,e]
  ·have:¬k=j:=by omega
   simp [hj,this]
theorem tK:∀ (us:List Value) (l:List Value) (k:Nat) (x:Value),x ∈ oM l k us->x ∈ l∨x ∈ us
 | [], _, _, _,h=> .inl h
 |u::us,l,k,x,h=>by
  rcases tK us _ _ _ h with h|h
  ·rcases List.mem_or_eq_of_mem_set h with h|h
   ·exact .inl h
   ·exact .inr (by simp [h])
  ·exact .inr (by simp [h])
theorem Ei  (h:∀r ∈ rs,r.length=sz) (i:Nat) (hi:i<rs.length) (k:Nat) (cs:List AV) (hk:k+cs.length<=sz):
  (rs.set i (setMany rs[i] k cs)).flatten=setMany rs.flatten (i * sz+k) cs:=by
 have app:∀ (cs:List AV) (p q:List AV) (k:Nat),setMany (p++q) (p.length+k) cs=p++setMany q k cs:=by
  intro cs;induction cs<;>grind [setMany]
 have app':∀ (cs:List AV) (p q:List AV) (k:Nat),k+cs.length<=p.length->setMany (p++q) k cs=setMany p k cs++q:=by
  intro cs;induction cs<;>grind [setMany]
 induction rs generalizing i with
 |nil=>simp at hi
 |cons r rs ih=>
  cases i<;>grind
theorem PH:∀ (cs l:List AV),l.length=cs.length->setMany l 0 cs=cs:=by
 have key:∀ (cs l p:List AV),l.length=cs.length->setMany (p++l) p.length cs=p++cs:=by
  intro cs;induction cs with
  |nil=>grind [setMany]
  |cons c cs ih=>
   intro l p h;cases l with
   |nil=>simp at h
   |cons x l=>
    rw [setMany,List.set_append_right _ _ ge];have:=ih l (p++ [c]) pi;grind
 intro cs l h;simpa using key cs l [] h

variable {F M0:Nat->Prop}
theorem br.blk {φ:aQ}{H:au} (hH:br φ F w M0 H){k:Nat} (h:Or M0 (bc φ H) k):k<w.heap.size:=by
 rcases h with h|⟨o,g,sz,rs,g',a,bs,ho,hp,rfl⟩
 ·exact hH.m0 _ h
 ·obtain ⟨A,hA,h⟩:=hH.obj _ _ _ _ _ ho;grind [m9]

theorem br.set {φ:aQ}{H:au} (hH:br φ F w M0 H){w':World}{F':Nat->Prop}{o:Nat}{mt:Bool}{g:Nat}
  {A:Option (Addr×Nat)} (hn:∀o,F' o->F o) (ho:¬F' o) (hsize:w.heap.size<=w'.heap.size) (hle:φ.le (aC φ o (some (g,A))))
  (hout:∀k,¬Or M0 (bc φ H) k->k<w.heap.size->w'.heap[k]? =w.heap[k]?)
  (hoth:∀o' mt g sz rs a b,o'≠o->H o'=some (.rows mt g sz rs)->φ o'=some (g,some (a,b))->w'.heap[a.block]? =w.heap[a.block]? ∧(∀a₁ b₁,A=some (a₁,b₁)->a₁.block≠a.block))
  (hM:∀a b,A=some (a,b)->Or M0 (bc φ H) a.block∨w.heap.size<=a.block)
  (hnew:((A=none∧rs= [])∨∃a bs es clk,A=some (a,bs)∧a.spot≠none∧¬M0 a.block∧w'.heap[a.block]? =some (.map es clk)∧es.size=rs.length∧(sz=2∧∀r ∈ rs,r.length=sz)∧
    aU φ w (Or M0 (bc φ H)) rs.flatten (es.toList.flatMap λ e=> [e.key,e.val]))∨
   ∃a bs C T,A=some (a,bs)∧a.spot=none∧¬M0 a.block∧w'.heap[a.block]? =some (.cells C T (0,0))∧C.size=bs∧
   (∀r ∈ rs,r.length=sz)∧a.off+rs.length * sz<=bs∧(∀u ∈ (C.toList.drop a.off).take (rs.length * sz),gx u=true)∧
   aU φ w (Or M0 (bc φ H)) rs.flatten ((C.toList.drop a.off).take (rs.length * sz))):
  br (aC φ o (some (g,A))) F' w' M0 (aC H o (some (.rows mt g sz rs)))∧
   (∀k,Or M0 (bc (aC φ o (some (g,A))) (aC H o (some (.rows mt g sz rs)))) k->Or M0 (bc φ H) k∨w.heap.size<=k)∧
   (∀k,bc (aC φ o (some (g,A))) (aC H o (some (.rows mt g sz rs))) k->bc φ H k∨∃a b,A=some (a,b)∧a.block=k):=by
 have hmut:∀k,bc (aC φ o (some (g,A))) (aC H o (some (.rows mt g sz rs))) k->bc φ H k∨∃a b,A=some (a,b)∧a.block=k:=by
  grind [bc,aC]
 have hor:∀k,Or M0 (bc (aC φ o (some (g,A))) (aC H o (some (.rows mt g sz rs)))) k->Or M0 (bc φ H) k∨w.heap.size<=k:=by
  grind [Or]
 refine ⟨⟨λ k hk=>Nat.lt_of_lt_of_le (hH.m0 k hk) hsize,λ o' ho'=> ?_, ?_, ?_,hH.glob.keep hout hor⟩,hor,hmut⟩
 ·rw [ja _ _ (λ e:o'=o=>ho pi)];exact hH.fresh o' (hn o' ho')
 ·intro o' mt' g' sz' rs' ho';by_cases e:o'=o
  ·subst e;rw [cZ] at ho' ⊢;obtain ⟨rfl,rfl,rfl,rfl⟩:=ho';refine ⟨A,rfl, ?_⟩;rcases hnew with (h|⟨a,bs,es,clk,hA,hs,h0,hb,hz,hr,hrel⟩)|⟨a,bs,C,T,hA,hs,h0,hb,hC,hr,hl,hv,hrel⟩
   ·grind
   ·exact .inr ⟨a,bs,hA,h0, .inr ⟨es,clk,hs,hb,hz,hr,hrel.keep hle hout hor⟩⟩
   ·exact .inr ⟨a,bs,hA,h0, .inl ⟨C,T,hs,hb,hC,hr,hl,hv,hrel.keep hle hout hor⟩⟩
  ·rw [ja _ _ e] at ho' ⊢;obtain ⟨A',hA',h⟩:=hH.obj _ _ _ _ _ ho';refine ⟨A',hA',h.imp id ?_⟩;rintro ⟨a,bs,hA,h0,hd⟩;subst hA;exact ⟨a,bs,rfl,h0,hd.keep (hoth _ _ _ _ _ _ _ e ho' hA').1 (λ hrel=>hrel.keep hle hout hor)⟩
 ·intro o₁ o₂ mt₁ g₁ sz₁ rs₁ mt₂ g₂ sz₂ rs₂ a₁ a₂ b₁ b₂ h₁ h₂ hne hmt p₁ p₂;by_cases e₁:o₁=o
  ·grind [cZ,ja]
  ·rw [ja _ _ e₁] at h₁ p₁;by_cases e₂:o₂=o
   ·grind [cZ]
   ·rw [ja _ _ e₂] at h₂ p₂;exact hH.inj _ _ _ _ _ _ _ _ _ _ _ _ _ _ h₁ h₂ hne hmt p₁ p₂
end Go.Av
end
section
namespace Go.Av
open Go

variable {e s:TypeId}
section types
variable {P:Program} {w:World} {t:TypeId}
theorem ar {d:TypeDesc} (h:P.underlying t=some d):(underlying t).run P w= .ok d w:=by simp [underlying,h]
theorem zw {b:Bool} (h:gy P t=some b):(isAgg t).run P w= .ok b w:=by
 unfold gy at h;cases hu:P.underlying t with
 |none=>grind
 |some d=>
  simp only [hu,Option.map_some,Option.some.injEq] at h;unfold isAgg;simp only [Sem.run_bind,ar hu,Result.andThen_ok];subst h;cases d<;>simp
theorem dq {s:Nat} (h:yW P t=some s):(sizeOf t).run P w= .ok s w:=by
 unfold yW at h;cases hu:P.info? t<;>simp_all [sizeOf,typeInfo]
theorem gK {z:List AV} (h:tz P t=some z):∃u,(zeroValue t).run P w= .ok u w∧z=u.cells.toList.map .v∧∀c ∈ u.cells.toList,gx c=true:=by
 unfold tz at h;cases hu:P.info? t with
 |none=>grind
 |some d=>
  simp only [hu,Option.bind_some] at h;cases hz:d.zero with
  |none=>grind
  |some u=>
   simp only [hz,Option.bind_some] at h;split at h
   ·rename_i hall;simp only [Option.some.injEq] at h;exact ⟨u,by simp [zeroValue,typeInfo,hu,hz],h.symm,λ c hc=>List.all_eq_true.1 hall c hc⟩
   ·cases h
theorem iX  (h:tk P t= .sl e):P.underlying t=some (.slice e):=by
 grind [tk]
theorem DS {n:Nat} (h:tk P t= .arr n e):P.underlying t=some (.array n e):=by
 grind [tk]
theorem Mr {k:IntKind} (h:tk P t= .int k):P.underlying t=some (.int k):=by
 grind [tk]
theorem zD (h:tk P t= .string):P.underlying t=some .string:=by
 grind [tk]
theorem zgg (h:tk P t= .str):∃fs,P.underlying t=some (.struct fs):=by
 grind [tk]
variable {a:Addr} {C:Array Value} {T:TypeId} {fz:Nat×Nat}
theorem rW {s:Nat} (h:gy P t=some true) (h':yW P t=some s) (hs:a.spot=none) (hb:w.heap[a.block]? =some (.cells C T fz)) (hc:a.off+s<=C.size):
  (loadVar t a).run P w= .ok (.agg ⟨(C.toList.drop a.off).take s⟩) w:=by
 simp [loadVar,zw h,dq h',nH hs hb s hc]
theorem xe (h:gy P t=some false) (hs:a.spot=none) (hb:w.heap[a.block]? =some (.cells C T fz)) (hc:a.off<C.size):
  (loadVar t a).run P w= .ok C[a.off] w:=by
 unfold loadVar;simp only [Sem.run_bind,zw h,Result.andThen_ok,Bool.false_eq_true,if_false];grind [EJ]
end types

variable {M:Nat->Prop} {v x:Value} {f g i o off sz:Nat}
section reads
variable {P:Program} {φ:aQ} {F:Nat->Prop} {w:World} {M0:Nat->Prop} {h:au}

theorem br.at_row (hH:br φ F w M0 h){mt:Bool}{rs:List (List AV)} (ho:h o=some (.rows mt g sz rs)) (hi:i<rs.length) (hsp:∀a bs,φ o=some (g,some (a,bs))->a.spot=none):
  ∃a bs C T,φ o=some (g,some (a,bs))∧a.spot=none∧¬M0 a.block∧w.heap[a.block]? =some (.cells C T (0,0))∧C.size=bs∧(∀r ∈ rs,r.length=sz)∧
   a.off+rs.length * sz<=bs∧i * sz+sz<=rs.length * sz∧
   aU φ w (Or M0 (bc φ h)) rs[i] ((C.toList.drop (a.off+i * sz)).take sz)∧(∀u ∈ (C.toList.drop (a.off+i * sz)).take sz,gx u=true):=by
 obtain ⟨A,hA,h1⟩:=hH.obj _ _ _ _ _ ho;rcases h1 with ⟨_,h1⟩|⟨a,bs,hA',h0,hd⟩
 ·grind
 ·subst hA';have hs:=hsp _ _ hA;obtain ⟨C,T,hb,hC,hr,hl,hv,hrel⟩:=hd.cells hs;have hle:i * sz+sz<=rs.length * sz:=by
   have:=Nat.mul_le_mul_right sz (show i+1<=rs.length from hi);grind
  have e:((C.toList.drop (a.off+i * sz)).take sz)=(((C.toList.drop a.off).take (rs.length * sz)).drop (i * sz)).take sz:=by
   grind [List.drop_take,List.drop_drop]
  refine ⟨a,bs,C,T,hA,hs,h0,hb,hC,hr,hl,hle, ?_, ?_⟩
  ·rw [e,uq hr i hi];exact (hrel.drop _).take _
  grind
theorem zcN  (hx:bY φ w M (.ref o g sz i off) x){a:Addr}{bs:Nat} (hp:φ o=some (g,some (a,bs))):
  x= .pointer (some ⟨a.block,a.off+i * sz+off,none⟩):=by
 cases hx<;>grind
theorem Px  (hx:bY φ w M (.ref o g sz i off) x) (a:Addr) (bs:Nat) (hp:φ o=some (g,some (a,bs))):a.spot=none:=by
 cases hx<;>grind

def ft (P:Program) (φ:aQ) (w:World) (M:Nat->Prop) (r:pJ) (s:Sem Value):Prop:=
 ∃u,s.run P w= .ok u w∧bY φ w M r.val u∧r.wr= []∧r.al=0

theorem Hs (hH:br φ F w M0 h){t:TypeId}{x:AV} (hx:bY φ w (Or M0 (bc φ h)) x v) (hc:(wB P t x h).cond):
  ft P φ w (Or M0 (bc φ h)) (wB P t x h) (Instr.loadAt t v):=by
 unfold wB at hc ⊢;split at hc
 ·rename_i o g sz i off;split at hc
  ·rename_i mt g' sz' rs ho;by_cases hgs:g=g'∧sz=sz'
   ·simp only [hgs,and_self,if_true] at hc;obtain ⟨rfl,rfl⟩:=hgs;simp only [ho,and_self,if_true];obtain ⟨hi,hc⟩:=hc;obtain ⟨a,bs,C,T,hp,hs, _,hb,hC,hr,hl,hle,hrow,hcv⟩:=hH.at_row ho hi (Px hx);obtain rfl:=zcN hx hp;have e0:ac rs i=rs[i]:=by simp [ac,hi]
    rw [e0] at hc ⊢;have hlen:rs[i].length=sz:=hr _ (List.getElem_mem _);have hlen':((C.toList.drop (a.off+i * sz)).take sz).length=sz:=pi;unfold zce at hc ⊢;split at hc
    ·rename_i s ha hz;try simp only [ha,hz] at hc
     try simp only [ha,hz]
     by_cases hw:off=0∧s=sz
     ·simp only [hw,and_self,if_true];obtain ⟨rfl,rfl⟩:=hw;refine ⟨.agg ⟨(C.toList.drop (a.off+i * s)).take s⟩, ?_, .agg hcv hrow,rfl,rfl⟩;simp only [Instr.loadAt,Instr.sureAddr,Sem.run_bind,Sem.run_pure,Result.andThen_ok];exact rW (a:=⟨a.block,a.off+i * s+0,none⟩) ha hz rfl hb pi
     ·simp only [hw,if_false] at hc ⊢;refine ⟨.agg ⟨(C.toList.drop (a.off+i * sz+off)).take s⟩, ?_, ?_,rfl,rfl⟩
      ·simp only [Instr.loadAt,Instr.sureAddr,Sem.run_bind,Sem.run_pure,Result.andThen_ok];exact rW (a:=⟨a.block,a.off+i * sz+off,none⟩) ha hz rfl hb pi
      ·have e:(C.toList.drop (a.off+i * sz+off)).take s=(((C.toList.drop (a.off+i * sz)).take sz).drop off).take s:=by
        grind [List.drop_take,List.drop_drop]
       refine .agg ?_ (by rw [e];exact (hrow.drop off).take s);grind
    ·rename_i ha;try simp only [ha] at hc
     try simp only [ha]
     have hlt:a.off+i * sz+off<C.size:=ge;refine ⟨C[a.off+i * sz+off], ?_, ?_,rfl,rfl⟩
     ·simp only [Instr.loadAt,Instr.sureAddr,Sem.run_bind,Sem.run_pure,Result.andThen_ok];exact xe (a:=⟨a.block,a.off+i * sz+off,none⟩) ha rfl hb hlt
     ·have:=hrow.get off ge ge;grind [mZ]
    grind
   grind
  grind
 ·rename_i cells;cases hx with
  | @fp _ a C T fz hs hM hb hl hcv hrel=>
   split at hc
   ·rename_i s ha hz;try simp only [ha,hz] at hc
    try simp only [ha,hz]
    refine ⟨.agg ⟨(C.toList.drop a.off).take s⟩, ?_, ?_,rfl,rfl⟩
    ·grind [Instr.loadAt,Instr.sureAddr,rW]
    ·have e:(C.toList.drop a.off).take s=((C.toList.drop a.off).take cells.length).take s:=by grind
     refine .agg ?_ (by rw [e];exact hrel.take s);grind
   ·rename_i ha;try simp only [ha] at hc
    try simp only [ha]
    have hlt:a.off<C.size:=ge;refine ⟨C[a.off], ?_, ?_,rfl,rfl⟩
    ·grind [Instr.loadAt,Instr.sureAddr,xe]
    ·have hq:0<((C.toList.drop a.off).take cells.length).length:=by grind
     have:=hrel.get 0 hc hq;grind [mZ]
   grind
 grind

theorem H3 {fs:Array Field}{d:Nat}{fl:Field} (_hu:P.underlying s=some (.struct fs)) (hf:fs[f]? =some fl)
  (hd:I1 P s f=some d) {a:Addr} (ha:a.spot=none):(fieldPlace a fl).run P w= .ok ⟨a.block,a.off+d,none⟩ w:=by
 unfold I1 at hd;cases hi:P.info? fl.type<;>simp_all [sizeOf,typeInfo,fieldPlace,jO]
theorem Dk {d:Nat} (hd:I1 P s f=some d):∃fs fl,P.underlying s=some (.struct fs)∧fs[f]? =some fl∧fl.offset=d:=by
 unfold I1 at hd;split at hd
 ·rename_i fs hu;cases hf:fs[f]? with
  |none=>grind
  |some fl=>
   cases hi:P.info? fl.type<;>grind
 grind

theorem Py  (hx:bY φ w M (.ref o g sz i off) x) (i' off':Nat) (u:Value)
  (hu:∀a:Addr,x= .pointer (some ⟨a.block,a.off+i * sz+off,none⟩)->u= .pointer (some ⟨a.block,a.off+i' * sz+off',none⟩)):
  bY φ w M (.ref o g sz i' off') u:=by
 cases hx with
 |ref ho hg hh=>exact .ref ho hg λ e=>let ⟨a,bs,hA,hs,hv⟩:=hh e;⟨a,bs,hA,hs,hu a hv⟩

theorem br.alive_at (hH:br φ F w M0 h) (ha:fI h o g sz):∃mt rs A,h o=some (.rows mt g sz rs)∧φ o=some (g,A):=by
 unfold fI at ha;split at ha
 ·rename_i mt g' sz' rs ho;obtain ⟨A,hA, _⟩:=hH.obj _ _ _ _ _ ho;grind
 grind
theorem br.ref_alive (hH:br φ F w M0 h) (ha:fI h o g sz) (hx:bY φ w M (.ref o g sz i off) v):
  ∃a:Addr,v= .pointer (some ⟨a.block,a.off+i * sz+off,none⟩):=by
 obtain ⟨mt,rs,A, _,hp⟩:=hH.alive_at ha;cases hx<;>grind

theorem E4 (hH:br φ F w M0 h){x:AV}
  (hx:bY φ w M x v) (hc:(jl P s x f h).cond):ft P φ w M (jl P s x f h) (Instr.fieldAt s v f):=by
 unfold jl at hc ⊢;split at hc
 ·rename_i d hd;obtain ⟨fs,fl,hu,hf,hoff⟩:=Dk hd;have hrun:∀a:Addr,a.spot=none->(Instr.fieldAt s (.pointer (some a)) f).run P w= .ok (.pointer (some ⟨a.block,a.off+d,none⟩)) w:=by
   intro a ha;simp only [Instr.fieldAt,Sem.run_bind,ar hu,Result.andThen_ok,hf,Instr.sureAddr,Sem.run_pure,H3 hu hf hd ha]
  split at hc
  ·rename_i o g sz i off;obtain ⟨a,rfl⟩:=hH.ref_alive hc hx;exact ⟨_,hrun ⟨a.block,a.off+i * sz+off,none⟩ rfl,Py hx i (off+d) _ (λ b hb=>by
    grind),rfl,rfl⟩
  ·rename_i cells;cases hx with
   | @fp _ a C T fz hs hM hb hl hcv hrel=>
    refine ⟨_,hrun a hs, .fp (a:=⟨a.block,a.off+d,none⟩) rfl hM hb ?_ ?_ ?_,rfl,rfl⟩
    ·grind
    ·intro u hu';have e:(C.toList.drop (a.off+d)).take (cells.drop d).length=((C.toList.drop a.off).take cells.length).drop d:=by
      grind [List.drop_take,List.drop_drop]
     grind
    ·have e:(C.toList.drop (a.off+d)).take (cells.drop d).length=((C.toList.drop a.off).take cells.length).drop d:=by
      grind [List.drop_take,List.drop_drop]
     rw [e];exact hrel.drop d
  grind
 grind
end reads
end Go.Av
end
