/- Texts of ours, part 0: our library and contracts of functions. -/
import Derived.CallsIn
import Derived.KernelRfl
import Derived.Below
import Derived.Laws.Sem
set_option linter.unusedSimpArgs false
set_option linter.unusedVariables false
set_option maxRecDepth 100000
set_option maxHeartbeats 40000000
theorem aa {p : Prop} (h : p:=by omega) : p:=h
theorem ad {p : Prop} (h : p:=by simp) : p:=h
theorem ae {p : Prop} (h : p:=by simp [go_sem]) : p:=h
theorem af {p : Prop} (h : p:=by simp only [List.drop_zero,List.take_succ_cons,List.take_zero];try exact .refl _) : p:=h
theorem ah {p : Prop} (h : p:=by simp only;omega) : p:=h
theorem ai {p : Prop} (h : p:=by kernel_rfl) : p:=h
theorem aj {p : Prop} (h : p:=by simp [za6,zbr,upd]) : p:=h
theorem ak {p : Prop} (h : p:=by simp;omega) : p:=h
theorem am {p : Prop} (h : p:=by decide) : p:=h
theorem ao {p : Prop} (h : p:=by simp [Op.operands]) : p:=h
theorem ap {p : Prop} (h : p:=by simp [zao]) : p:=h
theorem aq {p : Prop} (h : p:=by simp [hop,Op.operands]) : p:=h
theorem au {p : Prop} (h : p:=by (repeat' apply And.intro)<;>show _= _<;>kernel_rfl) : p:=h
theorem aw {p : Prop} (h : p:=by simp [hwl]) : p:=h
theorem ax {p : Prop} (h : p:=by simp [hop,Op.operands,Call.operands]) : p:=h
theorem ay {p : Prop} (h : p:=by simp [upd,GH]) : p:=h
theorem az {p : Prop} (h : p:=by simp [zaA]) : p:=h
theorem aA {p : Prop} (h : p:=by simp [execOp,hop]) : p:=h
theorem aB {p : Prop} (h : p:=by simp [noH,upd]) : p:=h
theorem aC {p : Prop} (h : p:=by simpa using hk) : p:=h
theorem aD {p : Prop} (h : p:=by rw [hks,show psR f kk n=psR f kk (min kk.length 4) by rw [← hne]];simp [zz8,zaV,psR,zlU,zmZ,zaW];omega) : p:=h
theorem aG {p : Prop} (h : p:=by rw [hw'.size];exact Nat.le_refl _) : p:=h
theorem aH {p : Prop} (h : p:=by simp [go_sem,hbl]) : p:=h
theorem aI {p : Prop} (h : p:=by unfold zaf.withHand;split<;>rfl) : p:=h
theorem aJ {p : Prop} (h : p:=by simpa using hi) : p:=h
theorem aK {p : Prop} (h : p:=by simpa using h) : p:=h
theorem aL {p : Prop} (h : p:=by simp [zbD hws']) : p:=h
theorem aM {p : Prop} (h : p:=by simp [execOp,hop,resolve,invoke,builtin]) : p:=h
theorem aN {p : Prop} (h : p:=by simpa using hx) : p:=h
theorem aO {p : Prop} (h : p:=by simp [AV.ids]) : p:=h
theorem aQ {p : Prop} (h : p:=by simpa [← Array.length_toList,zcv] using hC) : p:=h
theorem aR {p : Prop} (h : p:=by simp [upd]) : p:=h
theorem aS {p : Prop} (h : p:=by simp [zbS,zbX,zaw,zai]) : p:=h
theorem aU {p : Prop} (h : p:=by simp [go_sem,za2]) : p:=h
theorem aV {p : Prop} (h : p:=by simp [noH]) : p:=h
theorem aW {p : Prop} (h : p:=by cases h;assumption) : p:=h
theorem aX {p : Prop} (h : p:=by simp [go_sem,hegb]) : p:=h
theorem aY {p : Prop} (h : p:=by apply Array.ext';simpa using hx) : p:=h
theorem aZ {p : Prop} (h : p:=by simpa using h2) : p:=h
theorem ba {p : Prop} (h : p:=by simp [za6,zbr,upd,noH]) : p:=h
theorem bb {p : Prop} (h : p:=by rcases List.mem_append.1 hy with h|h<;>simp [h]) : p:=h
theorem bc {p : Prop} (h : p:=by simp [hc]) : p:=h
theorem bd {p : Prop} (h : p:=by intro r hr;simp only [List.mem_singleton] at hr;subst hr;exact hbp _) : p:=h
theorem bf {p : Prop} (h : p:=by rw [← hp,zeB];exact φ.le_refl) : p:=h
theorem bg {p : Prop} (h : p:=by simp [hy]) : p:=h
theorem bh {p : Prop} (h : p:=by simp [Builtin.len_,ha,zaj (zcE ht),goInt]) : p:=h
theorem bi {p : Prop} (h : p:=by simpa using h1) : p:=h
theorem bm {p : Prop} (h : p:=by simp only [List.length_append,List.length_singleton];omega) : p:=h
theorem bn {p : Prop} (h : p:=by simp [zaF]) : p:=h
theorem bo {p : Prop} (h : p:=by simp;exact .nil) : p:=h
theorem bp {p : Prop} (h : p:=by rw [hH.fresh o hle] at hA0;cases hA0) : p:=h
theorem bq {p : Prop} (h : p:=by simpa using hz) : p:=h
theorem br {p : Prop} (h : p:=by simp [zch,Value.oneCell']) : p:=h
theorem bt {p : Prop} (h : p:=by simp [zcG,ho]) : p:=h
theorem bu {p : Prop} (h : p:=by rw [zbs _ _ eo];exact hy) : p:=h
theorem bv {p : Prop} (h : p:=by simp [hr]) : p:=h
theorem bw {p : Prop} (h : p:=by simp [eqGuard,binOp,Op.intCmp]) : p:=h
theorem bz {p : Prop} (h : p:=by simpa using hj) : p:=h
theorem bA {p : Prop} (h : p:=by simp [zaB]) : p:=h
theorem bB {p : Prop} (h : p:=by simp [upd,go_sem]) : p:=h
theorem bC {p : Prop} (h : p:=by (try simp at hn);(try subst hn);cases A<;>simp [Builtin.firstCells,loadCells,loadCellsFrom]) : p:=h
theorem bD {p : Prop} (h : p:=by simpa [zaf.hand,hsd] using h8) : p:=h
theorem bE {p : Prop} (h : p:=by simp [Instr.lookup,zaj (zmy ht),MapKept.run_getObj_map hb,zc1 hc,g1,zzy hz,Result.andThen]) : p:=h
theorem bF {p : Prop} (h : p:=by simp [eqGuard,binOp,Op.intBits,ziI,orN,zbg]) : p:=h
theorem bG {p : Prop} (h : p:=by simp [go_sem,f0,f1,f2,f3,f4]) : p:=h
theorem bH {p : Prop} (h : p:=by rw [List.drop_eq_getElem_cons h,zap _ _ h]) : p:=h
theorem bJ {p : Prop} (h : p:=by simp [eqGuard,binOp,zhT ht]) : p:=h
theorem bK {p : Prop} (h : p:=by simp [Instr.lookup,zaj (zmy ht),MapKept.run_getObj_map hb,zc1 hc,g1,Result.andThen]) : p:=h
theorem bL {p : Prop} (h : p:=by by_cases h:nth s.p.at_ s.cursor.toNat=0;exact .inl h;exact .inr (hc.resolve_left h)) : p:=h
theorem bM {p : Prop} (h : p:=by rw [hsu 0];simp) : p:=h
theorem bN {p : Prop} (h : p:=by rw [hsu 1];simp) : p:=h
theorem bO {p : Prop} (h : p:=by rw [hsu 2];simp) : p:=h
theorem bP {p : Prop} (h : p:=by have:=hH.m0 _ hm;simp only at this;omega) : p:=h
theorem bQ {p : Prop} (h : p:=by (try simp at hn);(try subst hn);simp [Builtin.firstCells,loadCells,loadCellsFrom]) : p:=h
theorem bR {p : Prop} (h : p:=by rw [List.length_append,Array.length_toList,Array.length_toList,r3,y1,Nat.add_mul]) : p:=h
theorem bS {p : Prop} (h : p:=by simp [eqGuard,binOp,Op.intArith,zd0 h2]) : p:=h
theorem bT {p : Prop} (h : p:=by rw [← Array.length_toList,← hl,hsz]) : p:=h
theorem bU {p : Prop} (h : p:=by rw [hr,Nat.add_mul];omega) : p:=h
theorem bV {p : Prop} (h : p:=by simp [go_sem,f0,f1,f2,f3]) : p:=h
theorem bW {p : Prop} (h : p:=by cases h with|cons a b=>exact ⟨a,b⟩) : p:=h
theorem bX {p : Prop} (h : p:=by have:g.board.cells=g.cells:=rfl;omega) : p:=h
theorem bZ {p : Prop} (h : p:=by simp [hx]) : p:=h
theorem b8 {p : Prop} (h : p:=by simp only [List.length_append,hdl]) : p:=h
theorem b9 {p : Prop} (h : p:=by rw [hop];rw [hop] at hok;exact hok) : p:=h
theorem cc {p : Prop} (h : p:=by cases h) : p:=h
theorem cg {p : Prop} (h : p:=by rw [hH.fresh o hle] at ho;cases ho) : p:=h
theorem co {p : Prop} (h : p:=by simp [go_sem,f0,f1,f2]) : p:=h
theorem cp {p : Prop} (h : p:=by apply Array.ext';simpa using htys) : p:=h
theorem cq {p : Prop} (h : p:=by subst h3;rfl) : p:=h
theorem cr {p : Prop} (h : p:=by rw [hex];rfl) : p:=h
theorem cu {p : Prop} (h : p:=by apply Array.ext';simp) : p:=h
theorem cw {p : Prop} (h : p:=by unfold zaQ zfR;decide) : p:=h
theorem cx {p : Prop} (h : p:=by simp [zam,upd,← h0]) : p:=h
theorem cy {p : Prop} (h : p:=by rw [hzu] at h3;simp at h3;omega) : p:=h
theorem cz {p : Prop} (h : p:=by simpa [cel] using hq) : p:=h
theorem cA {p : Prop} (h : p:=by simpa [zmV] using i3) : p:=h
theorem cB {p : Prop} (h : p:=by simp [hws']) : p:=h
theorem cC {p : Prop} (h : p:=by simpa using hl) : p:=h
theorem cD {p : Prop} (h : p:=by simpa using he) : p:=h
theorem cE {p : Prop} (h : p:=by rcases h with h|h|h<;>simp [h]) : p:=h
theorem cF {p : Prop} (h : p:=by simp [zam,upd]) : p:=h
theorem cG {p : Prop} (h : p:=by rw [j6,List.length_take];omega) : p:=h
theorem cH {p : Prop} (h : p:=by simp [go_sem,f0,f1]) : p:=h
theorem cI {p : Prop} (h : p:=by rw [hzu] at h3;simpa using h3) : p:=h
theorem cJ {p : Prop} (h : p:=by rw [hch];simp only;rw [List.range_succ,List.map_append];rfl) : p:=h
theorem cK {p : Prop} (h : p:=by rw [hf o hle] at ho;cases ho) : p:=h
theorem cL {p : Prop} (h : p:=by rw [← zap _ _ hj];exact hp) : p:=h
theorem cM {p : Prop} (h : p:=by have:=hg.k6;unfold ziE;omega) : p:=h
theorem cN {p : Prop} (h : p:=by rw [hci];simp [l2]) : p:=h
theorem cO {p : Prop} (h : p:=by simp [hle]) : p:=h
theorem cP {p : Prop} (h : p:=by rw [Array.length_toList,r3]) : p:=h
theorem cQ {p : Prop} (h : p:=by rw [zhQ hbel this];exact ho) : p:=h
theorem cR {p : Prop} (h : p:=by subst h1;rfl) : p:=h
theorem cS {p : Prop} (h : p:=by rw [hQ];simp only [za2,zae,zai,hs];exact .refl _ _ _ _) : p:=h
theorem cT {p : Prop} (h : p:=by cases hb with|fn hb hb'=>exact .fn (ih1 hb) (ih2 hb')) : p:=h
theorem cU {p : Prop} (h : p:=by simp [hz]) : p:=h
theorem cV {p : Prop} (h : p:=by simp [IntKind.max,IntKind.signed,IntKind.bits];omega) : p:=h
theorem cW {p : Prop} (h : p:=by cases hb with|gd hb=>exact .gd (fun hg=>ih hg hb) h') : p:=h
theorem cX {p : Prop} (h : p:=by simp [Op.operands];exact ⟨q.1,by simpa using hq⟩) : p:=h
theorem cY {p : Prop} (h : p:=by rw [← heg];rfl) : p:=h
theorem cZ {p : Prop} (h : p:=by rw [← hx];exact zag hjj) : p:=h
theorem da {p : Prop} (h : p:=by simp [upd,GH,hs]) : p:=h
theorem dd {p : Prop} (h : p:=by rw [i2];rfl) : p:=h
theorem de {p : Prop} (h : p:=by rw [hR];rfl) : p:=h
theorem df {p : Prop} (h : p:=by rw [hal];exact zsh h1 h2) : p:=h
theorem dg {p : Prop} (h : p:=by rw [hal];exact zsg h1 h2) : p:=h
theorem dh {p : Prop} (h : p:=by rw [hal];exact zsi _ _ _) : p:=h
theorem di {p : Prop} (h : p:=by rw [hal];exact zxi _ _ _) : p:=h
theorem dj {p : Prop} (h : p:=by simpa using hk') : p:=h
theorem dl {p : Prop} (h : p:=by simp only [zam,hnil,hdn,List.append_nil];exact q1) : p:=h
theorem dm {p : Prop} (h : p:=by simp only [zam,hnil,hdn,List.append_nil];exact q2) : p:=h
theorem dq {p : Prop} (h : p:=by simpa using hs') : p:=h
theorem dt {p : Prop} (h : p:=by rw [hsu 3];simp) : p:=h
theorem du {p : Prop} (h : p:=by rw [hsu 4];simp) : p:=h
theorem dv {p : Prop} (h : p:=by rw [hF _ _ h1];exact ho) : p:=h
theorem dw {p : Prop} (h : p:=by rw [hOe] at hk;exact hk) : p:=h
theorem dx {p : Prop} (h : p:=by simp [go_sem];try omega) : p:=h
theorem dy {p : Prop} (h : p:=by cases h;exact ⟨by assumption,by assumption⟩) : p:=h
theorem dz {p : Prop} (h : p:=by rw [List.drop_zero,List.take_of_length_le ap];try simp [zao,zaB,List.map_set]) : p:=h
theorem dA {p : Prop} (h : p:=by rw [List.drop_zero,List.take_of_length_le aw];try simp [zaB]) : p:=h
theorem dB {p : Prop} (h : p:=by rw [List.drop_zero,List.take_of_length_le ad];try simp [zaB]) : p:=h
theorem dC {p : Prop} (h : p:=by rw [List.drop_zero,List.take_of_length_le ap];try simp [zao,zaB]) : p:=h
theorem dD {p : Prop} (h : p:=by rw [List.drop_zero,List.take_of_length_le aL]) : p:=h
theorem dE {p : Prop} (h : p:=by simp;exact List.take_of_length_le ad) : p:=h
theorem dF {p : Prop} (h : p:=by rw [List.drop_zero,List.take_of_length_le aa]) : p:=h
theorem dG {p : Prop} (h : p:=by simp [hop,Op.operands,Call.operands];exact .inr aN) : p:=h
theorem dH {p : Prop} (h : p:=by rw [List.drop_zero,List.take_of_length_le ad];try simp [zaB,List.map_set]) : p:=h
theorem dI {p : Prop} (h : p:=by rw [← hS 0 ad];rfl) : p:=h
theorem dJ {p : Prop} (h : p:=by rw [← hS 2 ad];rfl) : p:=h
theorem dK {p : Prop} (h : p:=by have:=Nat.pow_le_pow_right (n:=2) aa h1;exact_mod_cast this) : p:=h
theorem dL {p : Prop} (h : p:=by rw [hV0];exact of_eq_true (zbc (n:=0) (l:= [zmQ g 0])) _ ad) : p:=h
theorem dM {p : Prop} (h : p:=by have:=hung o.op b9 rfl;rw [hop] at this ⊢;exact this) : p:=h
theorem dN {p : Prop} (h : p:=by simp only [List.drop_zero,List.take_succ_cons,List.take_zero];exact .cons (.cons (zak rfl ap aj dz) .nil) (.cons (.cons (zak rfl ap aj dz) .nil) (.cons (.cons (zak rfl ap aj dz) .nil) (.cons (.cons (zak rfl ap aj dz) .nil) (.cons (.cons (zak rfl ap aj dz) .nil) (.nil)))))) : p:=h
theorem dO {p : Prop} (h : p:=by simp only [List.drop_zero,List.take_succ_cons,List.take_zero];exact .cons (.cons (zak rfl aw az dA) .nil) (.cons (.cons (zak rfl aw az dA) .nil) (.cons (.cons (zak rfl aw az dA) .nil) (.cons (.cons (zak rfl aw az dA) .nil) (.cons (.cons (zak rfl aw az dA) .nil) (.nil)))))) : p:=h
theorem dQ {p : Prop} (h : p:=by simp only [List.drop_zero,List.take_succ_cons,List.take_zero];exact .cons (.cons (zak rfl ap aj dz) .nil) (.cons (.cons (zak rfl ap aj dz) .nil) (.cons (.cons (zak rfl ap aj dz) .nil) (.nil)))) : p:=h
theorem dR {p : Prop} (h : p:=by simp only [List.drop_zero,List.take_succ_cons,List.take_zero];exact .cons (.cons (zak rfl aw az dA) .nil) (.cons (.cons (zak rfl aw az dA) .nil) (.cons (.cons (zak rfl aw az dA) .nil) (.nil)))) : p:=h
section
namespace Go.Av
open Go

inductive AV where
 |top
 |v (x:Value)
 |agg (cs:List AV)
 |tup (vs:List AV)
 |lst (sz:Nat) (rows:List (List AV))
 |fp (cells:List AV)
 |ref (o g sz i off:Nat)
 |sl (o g sz i len:Nat)
 |fn (f:Fn) (first caps:List AV)
 |mp (o:Nat)
 |gd (g:Bool) (x:AV)
 deriving Inhabited

abbrev AV.int (n:Int):AV:= .v (.int .i64 n)
abbrev AV.bool (b:Bool):AV:= .v (.bool b)
abbrev AV.nils:AV:= .v (.slice none 0 0)

inductive zbp where
 |rows (mt:Bool) (g sz:Nat) (rs:List (List AV))
 deriving Inhabited

abbrev Env:=Nat→AV
abbrev zaq:=Nat→Option zbp
abbrev zaz:=Nat→Option (Nat×Option (Addr×Nat))

def upd {α:Type} (f:Nat→α) (k:Nat) (x:α):Nat→α:=fun j=>if j=k then x else f j
theorem zzT {α:Type} (f:Nat→α) (k:Nat) (x:α) (j:Nat):upd f k x j=if j=k then x else f j:=rfl
theorem zax {α:Type} (f:Nat→α) (k:Nat) (x:α):upd f k x k=x:=aR
theorem zbs {α:Type} (f:Nat→α){k j:Nat} (x:α) (h:j≠k):upd f k x j=f j:=by simp [upd,h]

abbrev zch (v:Value):Bool:=v.oneCell'

mutual
inductive Rel (φ:zaz) (w:World) (M:Nat→Prop):AV→Value→Prop
 |top (v:Value):Rel φ w M .top v
 |v (x:Value):Rel φ w M (.v x) x
 |agg {cs:List AV} {vs:List Value} (hv:∀u ∈ vs,zch u=true) (h:zaJ φ w M cs vs):Rel φ w M (.agg cs) (.agg ⟨vs⟩)
 |tup {cs:List AV} {vs:List Value} (h:zaJ φ w M cs vs):Rel φ w M (.tup cs) (.tuple ⟨vs⟩)
 |nil (sz:Nat) (A:Option Addr) (cap:Nat):Rel φ w M (.lst sz []) (.slice A 0 cap)
 |lst {sz:Nat} {rows:List (List AV)} {a:Addr} {len cap:Nat} {C:Array Value} {T:TypeId} {fz:Nat×Nat}
   (hs:a.spot=none) (hM:¬M a.block) (hb:w.heap[a.block]? =some (.cells C T fz)) (hr:∀r ∈ rows,r.length=sz)
   (hl:len=rows.length) (hc:a.off+rows.length * sz≤C.size) (hcap:len≤cap) (hv:∀u ∈ (C.toList.drop a.off).take (rows.length * sz),zch u=true)
   (h:zaJ φ w M rows.flatten ((C.toList.drop a.off).take (rows.length * sz))):Rel φ w M (.lst sz rows) (.slice (some a) len cap)
 |fp {cells:List AV} {a:Addr} {C:Array Value} {T:TypeId} {fz:Nat×Nat}
   (hs:a.spot=none) (hM:¬M a.block) (hb:w.heap[a.block]? =some (.cells C T fz)) (hc:a.off+cells.length≤C.size)
   (hv:∀u ∈ (C.toList.drop a.off).take cells.length,zch u=true)
   (h:zaJ φ w M cells ((C.toList.drop a.off).take cells.length)):Rel φ w M (.fp cells) (.pointer (some a))
 |ref {o g sz i off g':Nat} {A:Option (Addr×Nat)} {v:Value} (ho:φ o=some (g',A)) (hg:g≤g')
   (h:g'=g→∃a bs,A=some (a,bs)∧a.spot=none∧v= .pointer (some ⟨a.block,a.off+i * sz+off,none⟩)):Rel φ w M (.ref o g sz i off) v
 |sl {o g sz i len g':Nat} {A:Option (Addr×Nat)} {v:Value} (ho:φ o=some (g',A)) (hg:g≤g')
   (h:g'=g→(A=none∧i=0∧len=0∧v= .slice none 0 0)∨(len=0∧∃a',v= .slice (some a') 0 0)∨
    ∃a bs cap,A=some (a,bs)∧a.spot=none∧v= .slice (some ⟨a.block,a.off+i * sz,none⟩) len cap∧len≤cap∧a.off+i * sz+cap * sz≤bs):Rel φ w M (.sl o g sz i len) v
 |mp {o g':Nat} {A:Option (Addr×Nat)} {v:Value} (ho:φ o=some (g',A)) (h:g'=0→∃a bs,A=some (a,bs)∧a.spot≠none∧v= .map (some a.block)):Rel φ w M (.mp o) v
 |fn {f:Fn} {first caps:List AV} {fs cs:List Value} (h1:zaJ φ w M first fs) (h2:zaJ φ w M caps cs):Rel φ w M (.fn f first caps) (.func f ⟨fs⟩ ⟨cs⟩)
 |gd {g:Bool} {x:AV} {v:Value} (h:g=true→Rel φ w M x v) (h':g=false→v=undef):Rel φ w M (.gd g x) v
inductive zaJ (φ:zaz) (w:World) (M:Nat→Prop):List AV→List Value→Prop
 |nil:zaJ φ w M [] []
 |cons {x:AV} {v:Value} {xs:List AV} {vs:List Value} (h:Rel φ w M x v) (t:zaJ φ w M xs vs):zaJ φ w M (x::xs) (v::vs)
end

section lists
variable {φ:zaz} {w:World} {M:Nat→Prop}
theorem zaJ.length {xs:List AV}{vs:List Value} (h:zaJ φ w M xs vs):xs.length=vs.length:=by
 induction xs generalizing vs with
 |nil=>cases h;rfl
 |cons x xs ih=>cases h with|cons h t=>simp [ih t]
theorem zaJ.get {xs:List AV}{vs:List Value} (h:zaJ φ w M xs vs) (k:Nat) (hk:k<xs.length) (hv:k<vs.length):Rel φ w M xs[k] vs[k]:=by
 induction xs generalizing vs k with
 |nil=>simp at hk
 |cons x xs ih=>
  cases h with
  |cons h t=>
   cases k with
   |zero=>exact h
   |succ k=>exact ih t k aC (by simpa using hv)
theorem zEH {xs:List AV}{vs:List Value} (hl:xs.length=vs.length) (h:∀k (hk:k<xs.length) (hv:k<vs.length),Rel φ w M xs[k] vs[k]):zaJ φ w M xs vs:=by
 induction xs generalizing vs with
 |nil=>cases vs with
  |nil=>exact .nil
  |cons=>simp at hl
 |cons x xs ih=>cases vs with
  |nil=>simp at hl
  |cons v vs=>
   refine .cons (h 0 ad ad) (ih cC fun k hk hv=> ?_)
   have:=h (k+1) aC (by simpa using hv)
   simpa using this
theorem zaJ.append {xs ys:List AV}{vs us:List Value} (h:zaJ φ w M xs vs) (h':zaJ φ w M ys us):zaJ φ w M (xs++ys) (vs++us):=by
 induction xs generalizing vs with
 |nil=>cases h;exact h'
 |cons x xs ih=>cases h with|cons h t=>exact .cons h (ih t)
theorem zaJ.take {xs:List AV}{vs:List Value} (h:zaJ φ w M xs vs) (k:Nat):zaJ φ w M (xs.take k) (vs.take k):=by
 induction xs generalizing vs k with
 |nil=>cases h;simp;exact .nil
 |cons x xs ih=>
  cases h with
  |cons h t=>
   cases k with
   |zero=>exact .nil
   |succ k=>exact .cons h (ih t k)
theorem zaJ.drop {xs:List AV}{vs:List Value} (h:zaJ φ w M xs vs) (k:Nat):zaJ φ w M (xs.drop k) (vs.drop k):=by
 induction xs generalizing vs k with
 |nil=>cases h;simp;exact .nil
 |cons x xs ih=>
  cases h with
  |cons h t=>
   cases k with
   |zero=>exact .cons h t
   |succ k=>exact ih t k
theorem zaJ.set {xs:List AV}{vs:List Value} (h:zaJ φ w M xs vs){x:AV}{v:Value} (hx:Rel φ w M x v) (k:Nat):zaJ φ w M (xs.set k x) (vs.set k v):=by
 induction xs generalizing vs k with
 |nil=>cases h;exact .nil
 |cons y xs ih=>
  cases h with
  |cons h t=>
   cases k with
   |zero=>exact .cons hx t
   |succ k=>exact .cons h (ih t k)
end lists

def Mut (φ:zaz) (H:zaq):Nat→Prop:=fun k=>∃o g sz rs g' a bs,H o=some (.rows true g sz rs)∧φ o=some (g',some (a,bs))∧a.block=k
def Or (A B:Nat→Prop):Nat→Prop:=fun k=>A k∨B k

def zaz.le (φ φ':zaz):Prop:=∀o x,φ o=some x→∃x',φ' o=some x'∧x.1≤x'.1∧(x'.1=x.1→x'=x)
theorem zaz.le_refl (φ:zaz):φ.le φ:=fun _ x h=>⟨x,h,Nat.le_refl _,fun _=>rfl⟩
theorem zaz.le_trans {a b c:zaz} (h:a.le b) (k:b.le c):a.le c:=by
 intro o x hx
 obtain ⟨y,hy,h1,h2⟩:=h o x hx
 obtain ⟨z,hz,k1,k2⟩:=k o y hy
 refine ⟨z,hz,Nat.le_trans h1 k1,fun e=> ?_⟩
 have e1:y.1=x.1:=aa
 have:=h2 e1
 subst this
 exact k2 e

theorem Rel.keep {φ φ':zaz}{w w':World}{M M':Nat→Prop} (hφ:φ.le φ')
  (hw:∀k,¬M k→k<w.heap.size→w'.heap[k]? =w.heap[k]?) (hM:∀k,M' k→M k∨w.heap.size≤k):
  ∀ {x:AV} {v:Value},Rel φ w M x v→Rel φ' w' M' x v:=by
 have blk:∀ {k:Nat} {o:Obj},w.heap[k]? =some o→k<w.heap.size:=fun h=>(Array.getElem?_eq_some_iff.1 h).1
 intro x v h
 refine Rel.rec (φ:=φ) (w:=w) (M:=M) (motive_1:=fun x v _=>Rel φ' w' M' x v) (motive_2:=fun xs vs _=>zaJ φ' w' M' xs vs) ?_ ?_ ?_ ?_ ?_ ?_ ?_ ?_ ?_ ?_ ?_ ?_ ?_ ?_ h
 ·exact fun v=> .top v
 ·exact fun v=> .v v
 ·exact fun hv _ ih=> .agg hv ih
 ·exact fun _ ih=> .tup ih
 ·exact fun sz A cap=> .nil sz A cap
 ·intro sz rows a len cap C T fz hs hm hb hr hl hc hcap hv _ ih
  have hlt:=blk hb
  exact .lst hs (fun hk=>(hM _ hk).elim hm (fun h=>by omega)) ((hw _ hm hlt).trans hb) hr hl hc hcap hv ih
 ·intro cells a C T fz hs hm hb hc hv _ ih
  have hlt:=blk hb
  exact .fp hs (fun hk=>(hM _ hk).elim hm (fun h=>by omega)) ((hw _ hm hlt).trans hb) hc hv ih
 ·intro o g sz i off g' A v ho hg h
  obtain ⟨⟨g'',A'⟩,hx,h1,h2⟩:=hφ o _ ho
  refine .ref hx (by simp at h1;omega) fun e=> ?_
  simp at h1 h2
  have e':g'=g:=aa
  obtain ⟨a,bs,hA,hs,hv⟩:=h e'
  have:=h2 aa
  exact ⟨a,bs,by rw [this.2];exact hA,hs,hv⟩
 ·intro o g sz i len g' A v ho hg h
  obtain ⟨⟨g'',A'⟩,hx,h1,h2⟩:=hφ o _ ho
  refine .sl hx (by simp at h1;omega) fun e=> ?_
  simp at h1 h2
  have e':g'=g:=aa
  have:=h2 aa
  rw [this.2];exact h e'
 ·intro o g' A v ho h
  obtain ⟨⟨g'',A'⟩,hx,h1,h2⟩:=hφ o _ ho
  refine .mp hx fun e=> ?_
  simp at h1 h2
  have e':g'=0:=aa
  have:=h2 aa
  rw [this.2];exact h e'
 ·exact fun _ _ ih1 ih2=> .fn ih1 ih2
 ·exact fun _ h' ih=> .gd ih h'
 ·exact .nil
 ·exact fun _ _ ih1 ih2=> .cons ih1 ih2
theorem zaJ.keep {φ φ':zaz}{w w':World}{M M':Nat→Prop} (hφ:φ.le φ')
  (hw:∀k,¬M k→k<w.heap.size→w'.heap[k]? =w.heap[k]?) (hM:∀k,M' k→M k∨w.heap.size≤k)
  {xs:List AV} {vs:List Value} (h:zaJ φ w M xs vs):zaJ φ' w' M' xs vs:=by
 induction xs generalizing vs with
 |nil=>cases h;exact .nil
 |cons x xs ih=>cases h with|cons h t=>exact .cons (h.keep hφ hw hM) (ih t)

def glbs:List (Nat×List AV):= [(0, [.v .nilFunc, .fn (.func 268) [] [], .fn (.func 270) [] [], .fn (.func 271) [] []])]
def ziF (w:World) (M:Nat→Prop):Prop:=∀p ∈ glbs,Rel (fun _=>none) w M (.fp p.2) (.pointer (some ⟨p.1,0,none⟩))
theorem ziF.keep {w w':World}{M M':Nat→Prop} (hw:∀k,¬M k→k<w.heap.size→w'.heap[k]? =w.heap[k]?) (hM:∀k,M' k→M k∨w.heap.size≤k) (h:ziF w M):ziF w' M':=
 fun p hp=>(h p hp).keep (zaz.le_refl _) hw hM
end Go.Av
end
section
namespace Go.Av
open Go

def nth {α:Type} [Inhabited α] (l:List α) (i:Nat):α:=l.getD i default
def cel (l:List AV) (i:Nat):AV:=l.getD i .top

inductive TK where
 |sl (e:TypeId)|arr (n:Nat) (e:TypeId)|str|ptr (e:TypeId)|map (k e:TypeId)|int (k:IntKind)|string|bool|other
 deriving Inhabited,DecidableEq
def tk (P:Program) (t:TypeId):TK:=match P.underlying t with
 |some (.slice e)=> .sl e
 |some (.array n e)=> .arr n e
 |some (.struct _)=> .str
 |some (.pointer e)=> .ptr e
 |some (.map k e)=> .map k e
 |some (.int k)=> .int k
 |some .string=> .string
 |some .bool=> .bool
 | _=> .other
def tsz (P:Program) (t:TypeId):Option Nat:=(P.info? t).map (·.size)
def tby (P:Program) (t:TypeId):Option Nat:=(P.info? t).map (·.bytes)
def tz (P:Program) (t:TypeId):Option (List AV):=((P.info? t).bind (·.zero)).bind fun z=>if z.cells.toList.all Value.oneCell' then some (z.cells.toList.map .v) else none
def zjo (P:Program) (t:TypeId):Option Bool:=(P.underlying t).map fun| .struct _| .array _ _=>true| _=>false
def zyp (P:Program) (t:TypeId) (f:Nat):Option Nat:=match P.underlying t with
 |some (.struct fs)=>(fs[f]?).bind fun x=>((P.info? x.type).map (·.size)).bind fun s=>if s=0 then none else some x.offset
 | _=>none
def zCu (P:Program) (t:TypeId) (f:Nat):Option TypeId:=match P.underlying t with
 |some (.struct fs)=>(fs[f]?).map (·.type)
 | _=>none

def tfi (P:Program) (t:TypeId):Bool:=match P.underlying t with
 |some (.struct fs)=>fs.toList.all fun f=>(P.info? f.type).isSome
 | _=>false

structure Res where
 cond:Prop
 val:AV
 wr:List (Nat×Option zbp)
 al:Nat
abbrev Res.fail:Res:=⟨False, .top, [],0⟩
abbrev Res.ok (x:AV):Res:=⟨True,x, [],0⟩
abbrev Res.if (c:Prop) (x:AV):Res:=⟨c,x, [],0⟩
def zam:List (Nat×Option zbp)→zaq→zaq
 | [],h=>h
 |(o,x)::l,h=>zam l (upd h o x)

def AV.cells:AV→List AV
 | .agg cs=>cs
 |x=> [x]
def ofV:Value→AV
 | .agg cs=>if cs.toList.all Value.oneCell'=true then .agg (cs.toList.map .v) else .v (.agg cs)
 |x=> .v x
def ev (e:Env):Operand→AV
 | .tmp t=>e t
 | .const v=>ofV v
 | .global g=>match glbs.lookup g with
  |some cs=> .fp cs
  |none=> .v (.pointer (some ⟨g,0,none⟩))
 | .func f=> .fn (.func f) [] []
def put (e:Env):Option Tmp→AV→Env
 |some d,x=>upd e d x
 |none, _=>e

def InR (k:IntKind) (n:Int):Prop:=k.min≤n∧n≤k.max

def zcG (h:zaq) (o g sz:Nat):Prop:=match h o with
 |some (.rows _ g' sz' _)=>g=g'∧sz=sz'
 |none=>False
def AV.isCell (h:zaq):AV→Prop
 | .ref o g sz _ _| .sl o g sz _ _=>zcG h o g sz
 | .v x=>x.oneCell'=true
 | .lst _ _| .fp _| .fn _ _ _=>True
 | _=>False
def AV.okCells (h:zaq):AV→Prop
 | .agg _=>True
 |x=>x.isCell h
def zDL (agg:Option Bool) (size:Option Nat) (sz off:Nat) (row:List AV):Res:=
 match agg,size with
 |some true,some s=>if off=0∧s=sz then .ok (.agg row) else .if (off+s≤sz) (.agg ((row.drop off).take s))
 |some false, _=> .if (off<sz) (cel row off)
 | _, _=> .fail
def zhU (P:Program) (t:TypeId) (x:AV) (h:zaq):Res:=
 match x with
 | .ref o g sz i off=>match h o with
  |some (.rows _ g' sz' rs)=>if g=g'∧sz=sz' then
    let r:=zDL (zjo P t) (tsz P t) sz off (nth rs i)
    ⟨i<rs.length∧r.cond,r.val, [],0⟩ else .fail
  |none=> .fail
 | .fp cells=>match zjo P t,tsz P t with
  |some true,some s=> .if (s≤cells.length) (.agg (cells.take s))
  |some false, _=> .if (0<cells.length) (cel cells 0)
  | _, _=> .fail
 | _=> .fail
def setMany:List AV→Nat→List AV→List AV
 |row, _, []=>row
 |row,k,c::cs=>setMany (row.set k c) (k+1) cs
def zdq (P:Program) (t:TypeId) (x v:AV) (h:zaq):Res:=
 match x with
 | .ref o g sz i off=>match h o with
  |some (.rows mt g' sz' rs)=>if g=g'∧sz=sz'∧mt=true then
    ⟨i<rs.length∧tsz P t=some v.cells.length∧off+v.cells.length≤sz∧v.okCells h, .top,
     [(o,some (.rows true g sz (rs.set i (if off=0∧v.cells.length=sz then v.cells else setMany (nth rs i) off v.cells))))],0⟩ else .fail
  |none=> .fail
 | _=> .fail
def zb8 (P:Program) (s:TypeId) (x:AV) (f:Nat) (h:zaq):Res:=
 match zyp P s f with
 |some d=>match x with
  | .ref o g sz i off=> .if (zcG h o g sz) (.ref o g sz i (off+d))
  | .fp cells=> .if (d≤cells.length) (.fp (cells.drop d))
  | _=> .fail
 |none=> .fail
def zlh (P:Program) (s:TypeId) (x:AV) (f:Nat):Res:=
 match zyp P s f,zCu P s f,x with
 |some d,some t, .agg cs=>match zjo P t,tsz P t with
  |some true,some n=> .if (d+n≤cs.length) (.agg ((cs.drop d).take n))
  |some false, _=> .if (d<cs.length) (cel cs d)
  | _, _=> .fail
 | _, _, _=> .fail
def zb9 (P:Program) (t:TypeId) (x ix:AV) (h:zaq):Res:=
 match tk P t,x,ix with
 | .sl e, .sl o g sz i len, .v (.int _ n)=> .if (zcG h o g sz∧tsz P e=some sz∧0≤n∧n.toNat<len) (.ref o g sz (i+n.toNat) 0)
 | .sl e, .lst sz rows, .v (.int _ n)=> .if (tsz P e=some sz∧0≤n∧n.toNat<rows.length) (.fp (nth rows n.toNat))
 | .arr len e, .ref o g sz i off, .v (.int _ n)=>match tsz P e with
  |some s=> .if (zcG h o g sz∧0≤n∧n<len) (.ref o g sz i (off+n.toNat * s))
  |none=> .fail
 | .arr len e, .fp cells, .v (.int _ n)=>match tsz P e with
  |some s=> .if (0≤n∧n<len∧n.toNat * s≤cells.length) (.fp (cells.drop (n.toNat * s)))
  |none=> .fail
 | _, _, _=> .fail
def zli (P:Program) (t:TypeId) (x ix:AV):Res:=
 match tk P t,x,ix with
 | .arr len e, .agg cs, .v (.int _ n)=>match zjo P e,tsz P e with
  |some true,some s=> .if (0≤n∧n<len∧n.toNat * s+s≤cs.length) (.agg ((cs.drop (n.toNat * s)).take s))
  |some false,some s=> .if (0≤n∧n<len∧n.toNat * s<cs.length) (cel cs (n.toNat * s))
  | _, _=> .fail
 | .string, .v (.string s), .v (.int _ n)=> .if (0≤n∧n.toNat<s.data.toList.length) (.v (.int .u8 (s.data.toList.getD n.toNat 0).toNat))
 | _, _, _=> .fail
def zqj (P:Program) (t:TypeId) (x:AV) (h:zaq):Res:=
 match tk P t,x with
 | .sl _, .sl o g sz _ len=> .if (zcG h o g sz) (.int len)
 | .sl _, .lst _ rows=> .ok (.int rows.length)
 | .sl _, .v (.slice _ 0 _)=> .ok (.int 0)
 | .string, .v (.string s)=> .ok (.int s.data.toList.length)
 | .arr n _, _=> .ok (.int n)
 | .map _ _, .mp o=>match h o with
  |some (.rows _ 0 2 rs)=> .ok (.int rs.length)
  | _=> .fail
 | _, _=> .fail
def ziI (k:IntKind) (a b:Int):Int:=k.wrap (BitVec.ofInt k.bits a &&& BitVec.ofInt k.bits b).toNat
def orN (k:IntKind) (a b:Int):Int:=k.wrap (BitVec.ofInt k.bits a|||BitVec.ofInt k.bits b).toNat
def zbg (k:IntKind) (a b:Int):Int:=k.wrap (BitVec.ofInt k.bits a &&& ~~~ BitVec.ofInt k.bits b).toNat
def zyc (op:BinOp) (x y:AV):Res:=
 match op,x,y with
 | .shl, .v (.int k a), .v (.int _ b)=> .if (0≤b∧b≤64∧InR k (a * 2 ^ b.toNat)∧k.bits=64) (.v (.int k (a * 2 ^ b.toNat)))
 | .shr, .v (.int k a), .v (.int _ b)=> .if (0≤b∧(b≤64∧k.bits=64∨b≤8)) (.v (.int k (a.fdiv (2 ^ b.toNat))))
 | .add, .v (.int k a), .v (.int k' b)=> .if (k=k'∧InR k (a+b)) (.v (.int k (a+b)))
 | .sub, .v (.int k a), .v (.int k' b)=> .if (k=k'∧InR k (a - b)) (.v (.int k (a - b)))
 | .mul, .v (.int k a), .v (.int k' b)=> .if (k=k'∧InR k (a * b)) (.v (.int k (a * b)))
 | .quo, .v (.int k a), .v (.int k' b)=> .if (k=k'∧b≠0∧InR k (a.tdiv b)) (.v (.int k (a.tdiv b)))
 | .rem, .v (.int k a), .v (.int k' b)=> .if (k=k'∧b≠0) (.v (.int k (a.tmod b)))
 | .and, .v (.int k a), .v (.int k' b)=> .if (k=k') (.v (.int k (ziI k a b)))
 | .or, .v (.int k a), .v (.int k' b)=> .if (k=k') (.v (.int k (orN k a b)))
 | .andNot, .v (.int k a), .v (.int k' b)=> .if (k=k') (.v (.int k (zbg k a b)))
 | .eql, .v (.int k a), .v (.int k' b)=> .if (k=k') (.bool (decide (a=b)))
 | .neq, .v (.int k a), .v (.int k' b)=> .if (k=k') (.bool (!decide (a=b)))
 | .lss, .v (.int k a), .v (.int k' b)=> .if (k=k') (.bool (decide (a<b)))
 | .leq, .v (.int k a), .v (.int k' b)=> .if (k=k') (.bool (decide (a≤b)))
 | .gtr, .v (.int k a), .v (.int k' b)=> .if (k=k') (.bool (decide (b<a)))
 | .geq, .v (.int k a), .v (.int k' b)=> .if (k=k') (.bool (decide (b≤a)))
 | .add, .v (.string a), .v (.string b)=> .if (a.size+b.size≤9223372036854775807) (.v (.string (a++b)))
 | _, _, _=> .fail
def evUn (op:UnOp) (x:AV):Res:=
 match op,x with
 | .not, .v (.bool b)=> .ok (.bool !b)
 | .neg, .v (.int k a)=> .if (InR k (-a)) (.v (.int k (-a)))
 | _, _=> .fail
def pB:AV→Option (Bool×Bool)
 | .v (.bool x)=>some (true,x)
 | .gd g (.v (.bool x))=>some (g,x)
 | _=>none
def zql (c a b:AV):Res:=
 match pB c,pB a,pB b with
 |some (g,c),some (g₁,x),some (g₂,y)=> .if (g=true∧(c=true→g₁=true)∧(c=false→g₂=true)) (.bool (cond c x y))
 |some (g,c),some (g₁,x),none=> .if (g=true∧c=true∧g₁=true) (.bool x)
 |some (g,c),none,some (g₂,y)=> .if (g=true∧c=false∧g₂=true) (.bool y)
 | _, _, _=> .fail
def zru (P:Program) (t:TypeId):Option (List Bool):=match P.underlying t with
 |some (.struct fs)=>if (!P.stoodInHeld t && !P.eqGuardType P.depth t && (List.range fs.size).all fun i=>match fs[i]? with
   |some f=>f.name != "_" && f.offset==i && (match P.underlying f.type with|some (.int _)=>true|some .bool=>true| _=>false)
   |none=>false)=true then some (fs.toList.map fun f=>match P.underlying f.type with|some .bool=>true| _=>false) else none
 | _=>none
def zev:List AV→Option (List (Int ⊕ Bool))
 | []=>some []
 | .v (.int .i64 n)::l=>(zev l).map (.inl n::·)
 | .v (.bool b)::l=>(zev l).map (.inr b::·)
 | _=>none
def eqS (P:Program) (t:TypeId) (xs ys:List AV):Option Bool:=match zru P t,zev xs,zev ys with
 |some fl,some a,some b=>if a.map Sum.isRight=fl∧b.map Sum.isRight=fl then some (decide (a=b)) else none
 | _, _, _=>none
def zo2 (P:Program) (t:TypeId):Bool:=match P.underlying t with
 |some (.func ..)=>true
 | _=>false
def evEq (P:Program) (op:BinOp) (t:TypeId) (x y:AV):Option AV:=
 match op,tk P t,x,y with
 | .eql, .bool, .v (.bool a), .v (.bool b)=>some (.bool (a==b))
 | .neq, .bool, .v (.bool a), .v (.bool b)=>some (.bool !(a==b))
 | .eql, .sl _, .lst _ (_:: _), .v (.slice none 0 0)=>some (.bool false)
 | .neq, .sl _, .lst _ (_:: _), .v (.slice none 0 0)=>some (.bool true)
 | .eql, .sl _, .v (.slice A _ _), .v (.slice none 0 0)=>some (.bool A.isNone)
 | .neq, .sl _, .v (.slice A _ _), .v (.slice none 0 0)=>some (.bool !A.isNone)
 | .eql, .string, .v (.string a), .v (.string b)=>some (.bool (a.toList==b.toList))
 | .neq, .string, .v (.string a), .v (.string b)=>some (.bool !(a.toList==b.toList))
 | .eql, .str, .agg xs, .agg ys=>(eqS P t xs ys).map fun b=> .bool b
 | .neq, .str, .agg xs, .agg ys=>(eqS P t xs ys).map fun b=> .bool !b
 | .eql, .other, .fn _ _ _, .v .nilFunc=>if zo2 P t=true then some (.bool false) else none
 | .neq, .other, .fn _ _ _, .v .nilFunc=>if zo2 P t=true then some (.bool true) else none
 | .eql, .other, .v .nilFunc, .v .nilFunc=>if zo2 P t=true then some (.bool true) else none
 | .neq, .other, .v .nilFunc, .v .nilFunc=>if zo2 P t=true then some (.bool false) else none
 | _, _, _, _=>none
def zqg (P:Program) (op:BinOp) (t:TypeId) (x y:AV):Res:=
 match evEq P op t x y with
 |some z=> .ok z
 |none=>zyc op x y
def zlk (x:AV) (h:zaq):Res:=
 match x with
 | .ref o g sz i off=> .if (zcG h o g sz) (.ref o g sz i off)
 | .fp cells=> .ok (.fp cells)
 | _=> .fail
def zyf (x y:AV):Res:=match x,y with
 | .v (.int k a), .v (.int _ b)=> .ok (.v (.int k (if b<a then b else a)))
 | _, _=> .fail
def zye (x y:AV):Res:=match x,y with
 | .v (.int k a), .v (.int _ b)=> .ok (.v (.int k (if a<b then b else a)))
 | _, _=> .fail
def zcz (h:zaq) (sz:Nat):List (List AV)→List (Nat×AV)→Prop×List (List AV)
 |rs, []=>(True,rs)
 |rs,(i,x)::l=>let r:=zcz h sz (rs.set i x.cells) l;(i<rs.length∧x.cells.length=sz∧x.okCells h∧r.1,r.2)
def zcZ (P:Program) (n:Nat) (t:TypeId) (len:Nat) (parts:List (Nat×AV)) (h:zaq):Res:=
 match tk P t with
 | .sl e=>match tsz P e,tz P e with
  |some sz,some z=>
   let r:=zcz h sz (List.replicate len z) parts
   ⟨r.1∧z.length=sz∧0<sz∧len * sz≤16777216, .sl n 0 sz 0 len, [(n,some (.rows true 0 sz r.2))],1⟩
  | _, _=> .fail
 | _=> .fail
def zda (P:Program) (h:zaq) (s:TypeId):List AV→List (Nat×AV)→Prop×List AV
 |cs, []=>(True,cs)
 |cs,(i,x)::l=>match zyp P s i,(zCu P s i).bind (tsz P) with
  |some d,some n=>let r:=zda P h s (setMany cs d x.cells) l;(x.cells.length=n∧d+n≤cs.length∧x.okCells h∧r.1,r.2)
  | _, _=>(False,cs)
def zfs (h:zaq) (sz:Nat):List AV→List (Nat×AV)→Prop×List AV
 |cs, []=>(True,cs)
 |cs,(i,x)::l=>let r:=zfs h sz (setMany cs (i * sz) x.cells) l;(x.cells.length=sz∧i * sz+sz≤cs.length∧x.okCells h∧r.1,r.2)
def ziR (P:Program) (t:TypeId) (parts:List (Nat×AV)) (h:zaq):Res:=
 match tk P t,tz P t with
 | .str,some z=>let r:=zda P h t z parts; .if (tfi P t=true∧r.1) (.agg r.2)
 | .arr _ e,some z=>match tsz P e with
  |some sz=>let r:=zfs h sz z parts; .if r.1 (.agg r.2)
  |none=> .fail
 | _, _=> .fail
def zat (x:AV) (sz:Nat) (h:zaq):Prop×List (List AV):=
 match x with
 | .sl o g sz' i len=>match h o with
  |some (.rows _ g' sz'' rs)=>(g=g'∧sz=sz'∧sz=sz''∧i+len≤rs.length,(rs.drop i).take len)
  |none=>(False, [])
 | .lst sz' rows=>((rows= []∨sz=sz'),rows)
 | .v (.slice _ 0 _)=>(True, [])
 | _=>(False, [])
def zeD:List (List AV)→Option (List Int)
 | []=>some []
 | [.v (.int .u8 n)]::rs=>(zeD rs).map (n::·)
 | _=>none
def zfc (ns:List Int):ByteArray:=ns.foldl (fun r n=>r.push (UInt8.ofNat n.toNat)) ByteArray.empty
def zvI (P:Program) (e:TypeId) (x:AV) (h:zaq):Res:=
 match tk P e,zeD (zat x 1 h).2 with
 | .int .u8,some ns=> .if (zat x 1 h).1 (.v (.string (zfc ns)))
 | _, _=> .fail
def zjG (P:Program) (src dst:TypeId) (x:AV) (h:zaq):Res:=
 match tk P src,tk P dst,x with
 | .int .i64, .int .u8, .v (.int _ n)=> .ok (.v (.int .u8 (n.emod 256)))
 | .int _, .int k, .v (.int _ n)=> .if (InR k n) (.v (.int k n))
 | .sl e, .string,x=>zvI P e x h
 | _, _, _=> .fail
def zdX (P:Program) (n:Nat) (tys:List TypeId) (s x:AV) (h:zaq):Res:=
 match tys with
 | [st,xt]=>match tk P st,tk P xt with
  | .sl e, .sl _=>match tsz P e,tby P e,tz P e with
   |some sz,some by_,some z=>
    let r:=zat x sz h
    match s with
    | .v (.slice none 0 0)=>⟨r.1∧0<sz∧z.length=sz∧0<by_∧by_≤1024∧r.2.length * by_≤17592186044416, .sl n 0 sz 0 r.2.length, [(n,some (.rows true 0 sz r.2))],1⟩
    | .sl o g sz' i len=>match h o with
     |some (.rows mt g' sz'' rs)=>
      ⟨r.1∧0<sz∧z.length=sz∧mt=true∧g=g'∧sz=sz'∧sz=sz''∧i+len=rs.length∧0<by_∧by_≤1024∧(len+r.2.length) * by_≤17592186044416,
       .sl o (g+1) sz 0 (len+r.2.length), [(o,some (.rows true (g+1) sz (rs.drop i++r.2)))],0⟩
     |none=> .fail
    | _=> .fail
   | _, _, _=> .fail
  | _, _=> .fail
 | _=> .fail
def zeU (P:Program) (n:Nat) (st:TypeId) (s x:AV):Res:=
 match tk P st,s,x with
 | .sl e, .v (.slice none 0 0), .v (.int .i64 l)=>match tsz P e,tz P e,tby P e with
  |some sz,some z,some by_=>⟨0<sz∧z.length=sz∧0<l∧by_≤1024∧l≤17179869184,
    .sl n 0 sz 0 l.toNat, [(n,some (.rows true 0 sz (List.replicate l.toNat z)))],1⟩
  | _, _, _=> .fail
 | _, _, _=> .fail
def zyE:TK→Bool
 | .int _=>true
 | _=>false
def zc9 (P:Program) (tys:List TypeId) (s x:AV) (h:zaq):Res:=
 match tys with
 | [st,xt]=>match tk P st,tk P xt with
  | .sl e, .sl _=>match tsz P e,tby P e,tz P e with
   |some sz,some by_,some z=>
    let r:=zat x sz h
    match s with
    | .sl o g sz' i len=>match h o with
     |some (.rows mt g' sz'' rs)=>
      ⟨r.1∧0<sz∧z.length=sz∧mt=true∧g=g'∧sz=sz'∧sz=sz''∧i+len=rs.length∧0<by_∧by_≤1024∧(len+r.2.length) * by_≤17592186044416,
       .lst sz (rs.drop i++r.2), [(o,some (.rows false g sz rs))],0⟩
     |none=> .fail
    | _=> .fail
   | _, _, _=> .fail
  | _, _=> .fail
 | _=> .fail
def zBs (n:Nat):AV→Bool
 | .sl _ g _ _ _=>decide (1≤g) && decide (1000000≤n)
 | _=>false
def zoL (P:Program) (n:Nat) (tys:List TypeId) (s x:AV) (h:zaq):Res:=
 match tys with
 | [st,xt]=>bif zyE (tk P xt) then zeU P n st s x else bif zBs n s then zc9 P tys s x h else zdX P n tys s x h
 | _=> .fail
def zyd (P:Program) (t:TypeId) (x:AV):Res:=
 match tk P t,x with
 | .sl _, .v (.slice none 0 0)=> .ok (.int 0)
 | _, _=> .fail
def zjH (P:Program) (tys:List TypeId) (s x:AV) (h:zaq):Res:=
 match tys with
 |st:: _=>match tk P st with
  | .sl e=>match tsz P e with
   |some sz=>
    let r:=zat x sz h
    match s with
    | .sl o g sz' i len=>match h o with
     |some (.rows mt g' sz'' rs)=>
      ⟨r.1∧0<sz∧mt=true∧g=g'∧sz=sz'∧sz=sz''∧i+len≤rs.length∧len≤1073741824,
       .int (min r.2.length len:Nat), [(o,some (.rows true g sz (rs.take i++r.2.take (min r.2.length len)++rs.drop (i+min r.2.length len))))],0⟩
     |none=> .fail
    | _=> .fail
   |none=> .fail
  | _=> .fail
 | _=> .fail
def zf3 (P:Program) (tys:List TypeId) (s:AV) (h:zaq):Res:=
 match tys with
 |st:: _=>match tk P st with
  | .sl e=>match tsz P e,tz P e with
   |some sz,some z=>
    match s with
    | .sl o g sz' i len=>match h o with
     |some (.rows mt g' sz'' rs)=>
      ⟨0<sz∧z.length=sz∧mt=true∧g=g'∧sz=sz'∧sz=sz''∧i+len≤rs.length∧len≤17179869184,
       .tup [], [(o,some (.rows true g sz (rs.take i++List.replicate len z++rs.drop (i+len))))],0⟩
     |none=> .fail
    | .v (.slice none _ _)=> .ok (.tup [])
    | _=> .fail
   | _, _=> .fail
  | _=> .fail
 | _=> .fail
def zea (P:Program) (n:Nat) (t:TypeId) (l c:AV):Res:=
 match tk P t,l,c with
 | .sl e, .v (.int .i64 l), .v (.int .i64 c)=>match tsz P e,tz P e,tby P e with
  |some sz,some z,some by_=>⟨0<sz∧z.length=sz∧0≤l∧l≤c∧by_≤1024∧c≤17179869184,
    .sl n 0 sz 0 l.toNat, [(n,some (.rows true 0 sz (List.replicate l.toNat z)))],1⟩
  | _, _, _=> .fail
 | _, _, _=> .fail
def zgk (d:Int):Option AV→Option Int
 |none=>some d
 |some (.v (.int _ n))=>some n
 | _=>none
def zf6 (P:Program) (t:TypeId) (x:AV) (lo hi mx:Option AV) (h':zaq):Res:=
 match tk P t,x,mx with
 | .sl e, .sl o g sz i len,none=>match zgk 0 lo,zgk len hi with
  |some l,some h=> .if (zcG h' o g sz∧tsz P e=some sz∧0≤l∧l≤h∧h≤len) (.sl o g sz (i+l.toNat) (h.toNat - l.toNat))
  | _, _=> .fail
 | .sl e, .lst sz rows,none=>match zgk 0 lo,zgk rows.length hi with
  |some l,some h=> .if (tsz P e=some sz∧0≤l∧l≤h∧h≤rows.length) (.lst sz ((rows.drop l.toNat).take (h.toNat - l.toNat)))
  | _, _=> .fail
 | .sl e, .v (.slice none 0 0),none=>match zgk 0 lo,zgk 0 hi with
  |some l,some h=> .if (l=0∧h=0∧(tsz P e).isSome=true) (.v (.slice none 0 0))
  | _, _=> .fail
 | .string, .v (.string s),none=>match zgk 0 lo,zgk s.data.toList.length hi with
  |some l,some h=> .if (0≤l∧l≤h∧h≤s.data.toList.length) (.v (.string (s.extract l.toNat h.toNat)))
  | _, _=> .fail
 | _, _, _=> .fail
def zf4 (x:AV) (i:Nat):Res:=
 match x with
 | .tup vs=> .if (i<vs.length) (cel vs i)
 | _=> .fail

def tz1 (P:Program) (t:TypeId):Option Value:=((P.info? t).bind (·.zero)).bind fun
 | .bool b=>some (.bool b)
 | .int k n=>some (.int k n)
 | .string s=>some (.string s)
 | _=>none
def zCz:TK→Bool
 | .string| .bool| .int _=>true
 | _=>false
def zo5:TK→AV→AV→Option Bool
 | .string, .v (.string a), .v (.string b)=>some (a==b)
 | .bool, .v (.bool a), .v (.bool b)=>some (a==b)
 | .int _, .v (.int k a), .v (.int k' b)=>if k=k' then some (a==b) else none
 | _, _, _=>none
def zds (t:TK) (k:AV):List (List AV)→Option (Option AV)
 | []=>some none
 |r::rs=>match zo5 t k (cel r 0) with
  |some true=>some (some (cel r 1))
  |some false=>zds t k rs
  |none=>none
def zeu (t:TK) (k x:AV):List (List AV)→Option (List (List AV))
 | []=>some [[k,x]]
 |r::rs=>match zo5 t k (cel r 0) with
  |some true=>some ([k,x]::rs)
  |some false=>(zeu t k x rs).map (r::·)
  |none=>none
def zf5 (P:Program) (n:Nat) (t:TypeId) (r:Option Operand):Res:=
 match tk P t,r with
 | .map _ _,none=>⟨True, .mp n, [(n,some (.rows true 0 2 []))],1⟩
 | _, _=> .fail
def zcQ (P:Program) (t:TypeId) (m k x:AV) (h:zaq):Res:=
 match tk P t,m with
 | .map kt _, .mp o=>match h o with
  |some (.rows true 0 2 rs)=>match zeu (tk P kt) k x rs with
   |some rs'=>⟨zCz (tk P kt)=true, .top, [(o,some (.rows true 0 2 rs'))],0⟩
   |none=> .fail
  | _=> .fail
 | _, _=> .fail
def zer (P:Program) (t:TypeId) (m k:AV) (ok:Bool) (h:zaq):Res:=
 match tk P t,m with
 | .map kt et, .mp o=>match h o with
  |some (.rows _ 0 2 rs)=>match zds (tk P kt) k rs,tz1 P et with
   |some (some x), _=> .if (zCz (tk P kt)=true) (if ok then .tup [x, .bool true] else x)
   |some none,some z=> .if (zCz (tk P kt)=true) (if ok then .tup [.v z, .bool false] else .v z)
   | _, _=> .fail
  | _=> .fail
 | _, _=> .fail
def aev (P:Program) (n:Nat) (op:Op) (e:Env) (h:zaq):Res:=
 match op with
 | .move x| .assign x=> .ok (ev e x)
 | .pick c a b=>zql (ev e c) (ev e a) (ev e b)
 | .alloc t=>match tz P t with
  |some z=>⟨True, .ref n 0 z.length 0 0, [(n,some (.rows true 0 z.length [z]))],1⟩
  |none=> .fail
 | .box _ x=>let c:=(ev e x).cells
  ⟨(ev e x).okCells h, .ref n 0 c.length 0 0, [(n,some (.rows true 0 c.length [c]))],1⟩
 | .build t parts=>ziR P t (parts.toList.map fun p=>(p.1,ev e p.2)) h
 | .buildSlice t len parts=>zcZ P n t len (parts.toList.map fun p=>(p.1,ev e p.2)) h
 | .load t a=>zhU P t (ev e a) h
 | .store t a v=>zdq P t (ev e a) (ev e v) h
 | .binOp op t x y _=>zqg P op t (ev e x) (ev e y)
 | .unOp op _ x=>evUn op (ev e x)
 | .nilCheck x=>zlk (ev e x) h
 | .convert s d x=>zjG P s d (ev e x) h
 | .makeFunc f a b=> .ok (.fn f (a.toList.map (ev e)) (b.toList.map (ev e)))
 | .makeSlice t l c=>zea P n t (ev e l) (ev e c)
 | .slice t x lo hi mx=>zf6 P t (ev e x) (lo.map (ev e)) (hi.map (ev e)) (mx.map (ev e)) h
 | .fieldAddr t x f=>zb8 P t (ev e x) f h
 | .field t x f=>zlh P t (ev e x) f
 | .indexAddr t x i=>zb9 P t (ev e x) (ev e i) h
 | .index t x i=>zli P t (ev e x) (ev e i)
 | .extract x i=>zf4 (ev e x) i
 | .makeMap t r=>zf5 P n t r
 | .mapUpdate t m k x| .insert t m k x=>zcQ P t (ev e m) (ev e k) (ev e x) h
 | .lookup t m k ok=>zer P t (ev e m) (ev e k) ok h
 | .call { callee:= .builtin .len,args,argTypes}=>match args.toList,argTypes.toList with
  | [x], [t]=>zqj P t (ev e x) h
  | _, _=> .fail
 | .call { callee:= .builtin .append,args,argTypes}=>match args.toList with
  | [s,x]=>zoL P n argTypes.toList (ev e s) (ev e x) h
  | _=> .fail
 | .call { callee:= .builtin .cap,args,argTypes}=>match args.toList,argTypes.toList with
  | [x], [t]=>zyd P t (ev e x)
  | _, _=> .fail
 | .call { callee:= .builtin .copy,args,argTypes}=>match args.toList with
  | [s,x]=>zjH P argTypes.toList (ev e s) (ev e x) h
  | _=> .fail
 | .call { callee:= .builtin .clear,args,argTypes}=>match args.toList with
  | [s]=>zf3 P argTypes.toList (ev e s) h
  | _=> .fail
 | .call { callee:= .builtin .min,args, .. }=>match args.toList with
  | [x,y]=>zyf (ev e x) (ev e y)
  | _=> .fail
 | .call { callee:= .builtin .max,args, .. }=>match args.toList with
  | [x,y]=>zye (ev e x) (ev e y)
  | _=> .fail
 | _=> .fail
end Go.Av
end
section
namespace Go.Av
open Go

def zm6 (φ:zaz) (w:World) (M:Nat→Prop) (a:Addr) (bs sz:Nat) (rs:List (List AV)):Prop:=
 (∃C T,a.spot=none∧w.heap[a.block]? =some (.cells C T (0,0))∧C.size=bs∧(∀r ∈ rs,r.length=sz)∧a.off+rs.length * sz≤bs∧
  (∀u ∈ (C.toList.drop a.off).take (rs.length * sz),zch u=true)∧zaJ φ w M rs.flatten ((C.toList.drop a.off).take (rs.length * sz)))∨
 ∃es clk,a.spot≠none∧w.heap[a.block]? =some (.map es clk)∧es.size=rs.length∧(sz=2∧∀r ∈ rs,r.length=sz)∧zaJ φ w M rs.flatten (es.toList.flatMap fun e=> [e.key,e.val])
theorem zm6.keep {φ φ':zaz}{w w':World}{M M':Nat→Prop}{a:Addr}{bs sz:Nat}{rs:List (List AV)} (hb:w'.heap[a.block]? =w.heap[a.block]?)
  (hr:∀ {xs:List AV} {vs:List Value},zaJ φ w M xs vs→zaJ φ' w' M' xs vs) (h:zm6 φ w M a bs sz rs):zm6 φ' w' M' a bs sz rs:=by
 rcases h with ⟨C,T,h1,h2,h3,h4,h5,h6,h7⟩|⟨es,clk,h1,h2,h3,h4,h5⟩
 ·exact .inl ⟨C,T,h1,hb.trans h2,h3,h4,h5,h6,hr h7⟩
 ·exact .inr ⟨es,clk,h1,hb.trans h2,h3,h4,hr h5⟩
theorem zm6.turn {φ φ':zaz}{w w':World}{M M':Nat→Prop}{a:Addr}{bs sz:Nat}{rs rs':List (List AV)} (h:zm6 φ w M a bs sz rs) (hb:w'.heap[a.block]? =w.heap[a.block]?) (hl:rs'.length=rs.length)
  (hsz:(∀r ∈ rs,r.length=sz)→∀r ∈ rs',r.length=sz) (hr:∀ {vs:List Value},zaJ φ w M rs.flatten vs→zaJ φ' w' M' rs'.flatten vs):zm6 φ' w' M' a bs sz rs':=by
 rcases h with ⟨C,T,h1,h2,h3,h4,h5,h6,h7⟩|⟨es,clk,h1,h2,h3,h4,h5⟩
 ·exact .inl ⟨C,T,h1,hb.trans h2,h3,hsz h4,by rw [hl];exact h5,by rw [hl];exact h6,by rw [hl];exact hr h7⟩
 ·exact .inr ⟨es,clk,h1,hb.trans h2,by rw [hl];exact h3,⟨h4.1,hsz h4.2⟩,hr h5⟩
theorem zm6.same {φ φ':zaz}{w w':World}{M M':Nat→Prop}{a:Addr}{bs sz:Nat}{rs:List (List AV)} (h:zm6 φ w M a bs sz rs) (hb:w'.heap[a.block]? =w.heap[a.block]?)
  (hr:∀ {vs:List Value},zaJ φ w M rs.flatten vs→zaJ φ' w' M' rs.flatten vs):zm6 φ' w' M' a bs sz rs:=h.turn hb rfl id hr
theorem zm6.rel0 {φ:zaz}{w:World}{M:Nat→Prop}{a:Addr}{bs sz:Nat}{rs:List (List AV)} (h:zm6 φ w M a bs sz rs):∃vs,zaJ φ w M rs.flatten vs:=by
 rcases h with ⟨C,T, _, _, _, _, _, _,h⟩|⟨es,clk, _, _, _, _,h⟩
 ·exact ⟨_,h⟩
 ·exact ⟨_,h⟩
theorem zm6.blk {φ:zaz}{w:World}{M:Nat→Prop}{a:Addr}{bs sz:Nat}{rs:List (List AV)} (h:zm6 φ w M a bs sz rs):a.block<w.heap.size:=by
 rcases h with ⟨C,T, _,h2, _⟩|⟨es,clk, _,h2, _⟩
 ·exact (Array.getElem?_eq_some_iff.1 h2).1
 ·exact (Array.getElem?_eq_some_iff.1 h2).1
theorem zm6.cells {φ:zaz}{w:World}{M:Nat→Prop}{a:Addr}{bs sz:Nat}{rs:List (List AV)} (h:zm6 φ w M a bs sz rs) (hs:a.spot=none):
  ∃C T,w.heap[a.block]? =some (.cells C T (0,0))∧C.size=bs∧(∀r ∈ rs,r.length=sz)∧a.off+rs.length * sz≤bs∧
   (∀u ∈ (C.toList.drop a.off).take (rs.length * sz),zch u=true)∧zaJ φ w M rs.flatten ((C.toList.drop a.off).take (rs.length * sz)):=by
 rcases h with ⟨C,T, _,h⟩|⟨es,clk,h1, _⟩
 ·exact ⟨C,T,h⟩
 ·exact absurd hs h1
theorem zm6.rows {φ:zaz}{w:World}{M:Nat→Prop}{a:Addr}{bs sz:Nat}{rs:List (List AV)} (h:zm6 φ w M a bs sz rs):∀r ∈ rs,r.length=sz:=by
 rcases h with ⟨C,T, _, _, _,h, _⟩|⟨es,clk, _, _, _,h, _⟩
 ·exact h
 ·exact h.2
theorem zm6.map {φ:zaz}{w:World}{M:Nat→Prop}{a:Addr}{bs sz:Nat}{rs:List (List AV)} (h:zm6 φ w M a bs sz rs) (hs:a.spot≠none):
  ∃es clk,w.heap[a.block]? =some (.map es clk)∧es.size=rs.length∧(sz=2∧∀r ∈ rs,r.length=sz)∧zaJ φ w M rs.flatten (es.toList.flatMap fun e=> [e.key,e.val]):=by
 rcases h with ⟨C,T,h1, _⟩|⟨es,clk, _,h⟩
 ·exact absurd h1 hs
 ·exact ⟨es,clk,h⟩
structure zaE (φ:zaz) (F:Nat→Prop) (w:World) (M0:Nat→Prop) (H:zaq):Prop where
 m0:∀k,M0 k→k<w.heap.size
 fresh:∀o,F o→φ o=none
 obj:∀o mt g sz rs,H o=some (.rows mt g sz rs)→∃A,φ o=some (g,A)∧((A=none∧rs= [])∨∃a bs,A=some (a,bs)∧¬M0 a.block∧zm6 φ w (Or M0 (Mut φ H)) a bs sz rs)
 inj:∀o o' mt g sz rs mt' g' sz' rs' a a' b b',H o=some (.rows mt g sz rs)→H o'=some (.rows mt' g' sz' rs')→o≠o'→(mt=true∨mt'=true)→
  φ o=some (g,some (a,b))→φ o'=some (g',some (a',b'))→a.block≠a'.block
 glob:ziF w (Or M0 (Mut φ H))

abbrev zhD (φ:zaz) (n:Nat) (w:World) (M0:Nat→Prop) (H:zaq):Prop:=zaE φ (fun o=>n≤o) w M0 H

structure Fr (w:World) (U:Nat→Prop) (w':World):Prop where
 os:w'.os=w.os
 tape:w'.tape=w.tape
 output:w'.output=w.output
 drawn:w.drawn≤w'.drawn
 size:w.heap.size≤w'.heap.size
 block:∀k,k<w.heap.size→¬U k→w'.heap[k]? =w.heap[k]?

structure zc8 (φ:zaz) (w:World) (M0:Nat→Prop) (h:zaq) (φ':zaz) (w':World) (h':zaq):Prop where
 le:φ.le φ'
 or:∀k,Or M0 (Mut φ' h') k→Or M0 (Mut φ h) k∨w.heap.size≤k
 fr:Fr w (Mut φ h) w'
 mutd:∀k,Mut φ' h' k→Mut φ h k∨w.heap.size≤k

abbrev zcn:=AV→zaq→Nat→Prop
def zep (P:Program) (f:FuncId):Prop:=∀ (args:Array Value) (w:World),(callFunc f args).run P w= .ok (.enter f args) w
def zah (P:Program) (f:FuncId) (args:List AV) (h:zaq) (n:Nat) (K:zcn):Prop:=
 zep P f∧∀ (M0:Nat→Prop) (φ:zaz) (w:World) (vs:List Value),zhD φ n w M0 h→zaJ φ w (Or M0 (Mut φ h)) args vs→
  Calls P f ⟨vs⟩ w fun e w'=>∃v φ' r h' n',e= .returned v∧K r h' n'∧zhD φ' n' w' M0 h'∧Rel φ' w' (Or M0 (Mut φ' h')) r v∧zc8 φ w M0 h φ' w' h'

def zgT (P:Program) (fv:AV) (args:List AV) (h:zaq) (n:Nat) (K:zcn):Prop:=
 match fv with
 | .fn (.func f) first caps=>zah P f (first++args++caps) h n K
 | _=>False

inductive Cl:AV→Prop
 |top:Cl .top
 |v (x:Value):Cl (.v x)
 |agg {cs:List AV} (h:∀c ∈ cs,Cl c):Cl (.agg cs)
 |tup {cs:List AV} (h:∀c ∈ cs,Cl c):Cl (.tup cs)
 |lst {sz:Nat} {rows:List (List AV)} (h:∀r ∈ rows,∀c ∈ r,Cl c):Cl (.lst sz rows)
 |fp {cs:List AV} (h:∀c ∈ cs,Cl c):Cl (.fp cs)
 |fn {f:Fn} {a b:List AV} (h:∀c ∈ a,Cl c) (h':∀c ∈ b,Cl c):Cl (.fn f a b)
 |gd {g:Bool} {x:AV} (h:Cl x):Cl (.gd g x)
abbrev zbV:=Exit→Env→zaq→Nat→Prop
def zwV (K:Env→zaq→Nat→Prop) (Q:zbV):zbV
 | .normal,e,h,n=>K e h n
 |x,e,h,n=>Q x e h n
def zhE (Q:zbV):zbV
 | .goto _, _, _, _=>False
 |x,e,h,n=>Q x e h n
def zfW (id:Nat) (Q:zbV):zbV
 | .exit id',e,h,n=>if id'=id then Q .normal e h n else Q (.exit id') e h n
 |x,e,h,n=>Q x e h n

def unG:AV→AV
 | .gd _ x=>x
 |x=>x
def okG (g:Bool):AV→Prop
 | .gd g' _=>g=true→g'=true
 | _=>True
def zcD (op:Op):List Tmp:=op.operands.toList.filterMap fun| .tmp t=>some t| _=>none
def gE (op:Op) (e:Env):Env:=match op with
 | .pick _ _ _=>e
 | _=>fun t=>unG (e t)
def gT (op:Op):List Tmp:=match op with
 | .pick _ _ _=> []
 |op=>zcD op
def zgb (x:AV) (want:Bool):Option Bool:=
 match x with
 | .v (.bool b)=>some (b==want)
 | .gd g (.v (.bool b))=>some (g && (b==want))
 | _=>none
def ze8 (ops:List Oper) (j:Nat):Option Tmp:=(ops[j]?).bind (·.dst)
def zqJ:Op→Bool
 | .call { callee:= .value _, .. }=>true
 | _=>false

def mkE:List (Nat×AV)→Env
 | []=>fun _=> .top
 |(t,x)::l=>upd (mkE l) t x
def mkH:List (Nat×zbp)→zaq
 | []=>fun _=>none
 |(o,x)::l=>upd (mkH l) o (some x)
mutual
inductive LeV (h h':zaq) (n:Nat):AV→AV→Prop
 |refl (x:AV):LeV h h' n x x
 |top (x:AV):LeV h h' n x .top
 |frz {o g sz i len:Nat} {mt:Bool} {rs rows:List (List AV)} (ho:h o=some (.rows mt g sz rs)) (hl:i+len≤rs.length) (ho':∀g sz rs,h' o≠some (.rows true g sz rs)) (hr:zaN h h' n ((rs.drop i).take len) rows):
   LeV h h' n (.sl o g sz i len) (.lst sz rows)
 |frzP {o g sz i off:Nat} {mt:Bool} {rs:List (List AV)} {cells:List AV} (ho:h o=some (.rows mt g sz rs)) (hi:i<rs.length) (hoff:off<sz) (ho':∀g sz rs,h' o≠some (.rows true g sz rs)) (hr:zav h h' n ((nth rs i).drop off) cells):
   LeV h h' n (.ref o g sz i off) (.fp cells)
 |nil {A:Option Addr} {c:Nat} (sz:Nat):LeV h h' n (.v (.slice A 0 c)) (.lst sz [])
 |own {o g sz:Nat} (hn:n≤o) (ho':h' o=some (.rows true g sz [])):LeV h h' n (.v (.slice none 0 0)) (.sl o g sz 0 0)
 |agg {xs ys:List AV} (hr:zav h h' n xs ys):LeV h h' n (.agg xs) (.agg ys)
 |tup {xs ys:List AV} (hr:zav h h' n xs ys):LeV h h' n (.tup xs) (.tup ys)
 |fn {f:Fn} {a b a' b':List AV} (ha:zav h h' n a a') (hb:zav h h' n b b'):LeV h h' n (.fn f a b) (.fn f a' b')
 |lst {sz:Nat} {rows rows':List (List AV)} (hr:zaN h h' n rows rows'):LeV h h' n (.lst sz rows) (.lst sz rows')
inductive zav (h h':zaq) (n:Nat):List AV→List AV→Prop
 |nil:zav h h' n [] []
 |cons {x y:AV} {xs ys:List AV} (hx:LeV h h' n x y) (t:zav h h' n xs ys):zav h h' n (x::xs) (y::ys)
inductive zaN (h h':zaq) (n:Nat):List (List AV)→List (List AV)→Prop
 |refl (rs:List (List AV)):zaN h h' n rs rs
 |nil:zaN h h' n [] []
 |cons {x y:List AV} {xs ys:List (List AV)} (hx:zav h h' n x y) (t:zaN h h' n xs ys):zaN h h' n (x::xs) (y::ys)
end
theorem zav.refl (h h':zaq) (n:Nat):∀xs,zav h h' n xs xs
 | []=> .nil
 |x::xs=> .cons (.refl x) (zav.refl h h' n xs)
inductive LeO (h h':zaq) (n:Nat) (o:Nat):Option zbp→zbp→Prop
 |same {mt mt':Bool} {g sz:Nat} {rs rs':List (List AV)} (hm:mt'=true→mt=true) (hr:zaN h h' n rs rs'):LeO h h' n o (some (.rows mt g sz rs)) (.rows mt' g sz rs')
 |own {g sz:Nat} (hn:n≤o):LeO h h' n o none (.rows true g sz [])
inductive Bel (n:Nat):AV→Prop
 |top:Bel n .top
 |v (x:Value):Bel n (.v x)
 |agg {cs:List AV} (h:∀c ∈ cs,Bel n c):Bel n (.agg cs)
 |tup {cs:List AV} (h:∀c ∈ cs,Bel n c):Bel n (.tup cs)
 |lst {sz:Nat} {rows:List (List AV)} (h:∀r ∈ rows,∀c ∈ r,Bel n c):Bel n (.lst sz rows)
 |fp {cs:List AV} (h:∀c ∈ cs,Bel n c):Bel n (.fp cs)
 |ref {o g sz i off:Nat} (h:o<n):Bel n (.ref o g sz i off)
 |sl {o g sz i len:Nat} (h:o<n):Bel n (.sl o g sz i len)
 |mp {o:Nat} (h:o<n):Bel n (.mp o)
 |fn {f:Fn} {a b:List AV} (h:∀c ∈ a,Bel n c) (h':∀c ∈ b,Bel n c):Bel n (.fn f a b)
 |gd {g:Bool} {x:AV} (h:Bel n x):Bel n (.gd g x)
def Frz (h h':zaq):Prop:=∀o,h' o=h o∨∃g sz rs,h o=some (.rows true g sz rs)∧h' o=some (.rows false g sz rs)
theorem Frz.refl (h:zaq):Frz h h:=fun _=> .inl rfl
def GH:Nat:=1000000007
def zaR (l more:Nat) (rows:List (List AV)):AV:= .gd false (.tup [.v (.int .i64 l), .lst more rows])
def zkg (e:Env) (fv:AV) (args:List AV) (h:zaq) (n:Nat) (K:Env→AV→zaq→Prop):Prop:=
 ∃l more rows,fv= .fn (.yield l) [] []∧e GH=zaR l more rows∧
  match rows with
  | []=>more=1
  |xs::rest=>∃h',Frz h h'∧zav h h' n args xs∧(∀c ∈ xs,Bel 0 c)∧K (upd e GH (zaR l more rest)) (.v (.bool true)) h'∧K (upd e GH (zaR l 2 [])) (.v (.bool false)) h'
def gW {α:Type} (g:Bool) (wr:List α):List α:=bif g then wr else []
def gN (g:Bool) (al:Nat):Nat:=bif g then al else 0
def zdA (P:Program) (ops:List Oper) (Q:zbV):List Oper→Env→zaq→Nat→Prop
 | [],e,h,n=>Q .normal e h n
 |o::rest,e,h,n=>
  match o.guard with
  |none=>
   match o.op with
   | .call { callee:= .value f,args, .. }=>zgT P (ev e f) (args.toList.map (ev e)) h n (fun r h' n'=>zdA P ops Q rest (put e o.dst r) h' n')∨
     zkg e (ev e f) (args.toList.map (ev e)) h n (fun e' r h'=>zdA P ops Q rest (put e' o.dst r) h' n)
   |op=>
    let r:=aev P n op e h
    r.cond∧zdA P ops Q rest (put e o.dst r.val) (zam r.wr h) (n+r.al)
  |some (j,want)=>
   match (ze8 ops j).bind fun t=>zgb (e t) want with
   |none=>False
   |some g=>
    match o.op with
    | .call { callee:= .value f,args, .. }=>
     (∀t ∈ zcD o.op,okG g (e t))∧((∃x,(g=true→zgT P (ev (fun t=>unG (e t)) f) (args.toList.map (ev fun t=>unG (e t))) h n fun r h' n'=>r=x∧h'=h∧n'=n)∧
      zdA P ops Q rest (put e o.dst (.gd g x)) h n)∨
      (g=true∧zgT P (ev (fun t=>unG (e t)) f) (args.toList.map (ev fun t=>unG (e t))) h n fun r h' n'=>zdA P ops Q rest (put e o.dst (.gd true r)) h' n')∨
      (g=true∧zkg e (ev (fun t=>unG (e t)) f) (args.toList.map (ev fun t=>unG (e t))) h n fun e' r h'=>zdA P ops Q rest (put e' o.dst (.gd true r)) h' n))
    |op=>
     let r:=aev P n op (gE op e) h
     (∀t ∈ gT op,okG g (e t))∧(g=true→r.cond)∧zdA P ops Q rest (put e o.dst (.gd g r.val)) (zam (gW g r.wr) h) (n+gN g r.al)

def zCe (n:Nat):zbp→Prop
 | .rows _ _ _ rs=>∀r ∈ rs,∀c ∈ r,Bel n c
structure Wk (e:Env) (h:zaq) (n:Nat) (E:List (Nat×AV)) (HH:List (Nat×zbp)) (n':Nat):Prop where
 env:∀p ∈ E,LeV h (mkH HH) n (e p.1) p.2∧Bel n' p.2
 obj:∀p ∈ HH,p.1<n'∧LeO h (mkH HH) n p.1 (h p.1) p.2∧zCe n' p.2

def zaa (n0:Nat) (B:zbV→Env→zaq→Nat→Prop) (Q:zbV) (e:Env) (h:zaq) (n:Nat):Prop:=
 ∀X:Env→zaq→Nat→Prop,(∀e h n,B (zwV X Q) e h n→X e h n)→(∀e h n E HH n',Wk e h n E HH n'→n0≤n'→X (mkE E) (mkH HH) n'→X e h n)→X e h n

def noP:zaz:=fun _=>none
def noH:zaq:=fun _=>none
def zaD (P:Program) (f:FuncId) (args:List AV) (r:AV):Prop:=
 zep P f∧∀ (M:Nat→Prop) (w:World) (vs:List Value),(∀k,M k→k<w.heap.size)→ziF w M→zaJ noP w M args vs→
  Calls P f ⟨vs⟩ w fun e w'=>∃v,e= .returned v∧Rel noP w' M r v∧Fr w (fun _=>False) w'
inductive ztF:AV→Prop
 |v (x:Value):ztF (.v x)
 |tup {xs:List AV} (h:∀x ∈ xs,ztF x):ztF (.tup xs)
 |agg {xs:List AV} (h:∀x ∈ xs,ztF x):ztF (.agg xs)
def zuX (P:Program) (fv:AV) (args:List AV) (h:zaq) (r:AV) (S:List Nat):Prop:=
 ∃f first caps args',fv= .fn (.func f) first caps∧(∀c ∈ args',Bel 0 c)∧zaD P f args' r∧(((∀h₁:zaq,(∀o ∈ S,h o=h₁ o)→zav h₁ noH 0 (first++args++caps) args')∧ztF r)∨args'=first++args++caps)

mutual
inductive Sh (n:Nat):AV→AV→Prop
 |same {x:AV} (h:Bel 0 x):Sh n x x
 |ref {o g sz i off:Nat}:Sh n (.ref o g sz i off) (.ref (n+o) g sz i off)
 |sl {o g sz i len:Nat}:Sh n (.sl o g sz i len) (.sl (n+o) g sz i len)
 |agg {xs ys:List AV} (h:ShL n xs ys):Sh n (.agg xs) (.agg ys)
 |tup {xs ys:List AV} (h:ShL n xs ys):Sh n (.tup xs) (.tup ys)
 |fn {f:Fn} {a b a' b':List AV} (h:ShL n a a') (h':ShL n b b'):Sh n (.fn f a b) (.fn f a' b')
inductive ShL (n:Nat):List AV→List AV→Prop
 |nil:ShL n [] []
 |cons {x y:AV} {xs ys:List AV} (h:Sh n x y) (t:ShL n xs ys):ShL n (x::xs) (y::ys)
end
inductive ztL (n:Nat):List (List AV)→List (List AV)→Prop
 |same {rs:List (List AV)} (h:∀r ∈ rs,∀c ∈ r,Bel 0 c):ztL n rs rs
 |nil:ztL n [] []
 |cons {x y:List AV} {xs ys:List (List AV)} (h:ShL n x y) (t:ztL n xs ys):ztL n (x::xs) (y::ys)
inductive ShO (n:Nat):zbp→zbp→Prop
 |rows {mt:Bool} {g sz:Nat} {rs rs':List (List AV)} (h:ztL n rs rs'):ShO n (.rows mt g sz rs) (.rows mt g sz rs')
inductive ShH (n:Nat):List (Nat×zbp)→List (Nat×zbp)→Prop
 |nil:ShH n [] []
 |cons {o:Nat} {x y:zbp} {l l':List (Nat×zbp)} (h:ShO n x y) (t:ShH n l l'):ShH n ((o,x)::l) ((n+o,y)::l')
inductive zfV:AV→Prop
 |top:zfV .top
 |v (x:Value):zfV (.v x)
 |ref (o g sz i off:Nat):zfV (.ref o g sz i off)
 |sl (o g sz i len:Nat):zfV (.sl o g sz i len)
 |agg {xs:List AV} (h:∀x ∈ xs,zfV x):zfV (.agg xs)
 |tup {xs:List AV} (h:∀x ∈ xs,zfV x):zfV (.tup xs)
 |fn {f:Fn} {a b:List AV} (h:∀x ∈ a,zfV x) (h':∀x ∈ b,zfV x):zfV (.fn f a b)
def zpH:zbp→Prop
 | .rows mt _ _ rs=>mt=true∧∀r ∈ rs,∀x ∈ r,zfV x
abbrev zdd:Nat:=4294967295
def zgY (P:Program) (b:Nat) (fv:AV) (args:List AV) (h:zaq) (r:AV) (S:List Nat) (wr:List (Nat×Option zbp)):Prop:=
 (wr= []∧zuX P fv args h r S)∨
 (∃f first caps args',fv= .fn (.func f) first caps∧(∀c ∈ args',Bel 0 c)∧zaD P f args' r∧
  (∀p ∈ wr,p.1 ∈ S∧∃g sz rs,p.2=some (.rows false g sz rs)∧h p.1=some (.rows true g sz rs))∧
  ∀h₁:zaq,(∀o ∈ S,h o=h₁ o)→zav h₁ (zam wr h₁) 0 (first++args++caps) args')∨
 (∃f first caps,fv= .fn (.func f) first caps∧(∀o ∈ S,∃x,h o=some x)∧
  (∀p ∈ wr,p.1 ∈ S∧∃g sz rs,p.2=some (.rows true g sz rs)∧∀r ∈ rs,∀c ∈ r,Bel 0 c)∧(ztF r∨∃o g sz i len,r= .sl o g sz i len∧o ∈ wr.map (·.1))∧
  ∀ (h₁:zaq) (n₁:Nat),(∀o ∈ S,h o=h₁ o)→(∀o ∈ S,o<n₁)→zah P f (first++args++caps) h₁ n₁ (fun r' h' n'=>r'=r∧h'=zam wr h₁∧n'=n₁))∨
 ∃f first caps args' R0 H0 HH k2,fv= .fn (.func f) first caps∧zdd ∈ S∧k2≤16∧(∀c ∈ args',Bel 0 c)∧
  zah P f args' noH 0 (fun r h n'=>Wk (fun _=>r) h n' [(0,R0)] H0 k2)∧zfV R0∧(∀p ∈ H0,zpH p.2)∧Sh b R0 r∧ShH b H0 HH∧
  (HH.map (·.1)).Nodup∧wr=HH.map (fun p=>(p.1,some p.2))∧∀h₁:zaq,(∀o ∈ S,h o=h₁ o)→zav h₁ noH 0 (first++args++caps) args'
def AV.ids:AV→List Nat
 | .ref o _ _ _ _| .sl o _ _ _ _| .mp o=> [o]
 | _=> []
abbrev zfj:=List Nat×List Nat
def zdn (P:Program) (n:Nat) (ops:List Oper) (K:Env→zaq→List zfj→Prop):Nat→List Oper→Env→zaq→List zfj→Prop
 | _, [],e,h,acc=>K e h acc
 |i,o::rest,e,h,acc=>
  match o.guard with
  |none=>
   match o.op with
   | .call { callee:= .value f,args, .. }=>∃r S wr,zgY P (n+ops.length+16 * i) (ev e f) (args.toList.map (ev e)) h r S wr∧zdn P n ops K (i+1) rest (put e o.dst r) (zam wr h) (acc++ [(S,wr.map (·.1))])
   |op=>
    let r:=aev P (n+i) op e h
    r.cond∧zdn P n ops K (i+1) rest (put e o.dst r.val) (zam r.wr h) (acc++ [((op.operands.toList.map (ev e)).flatMap AV.ids,r.wr.map (·.1))])
  |some (j,want)=>
   match (ze8 ops j).bind fun t=>zgb (e t) want with
   |none=>False
   |some g=>
    match o.op with
    | .call { callee:= .value f,args, .. }=>
     (∀t ∈ zcD o.op,okG g (e t))∧∃r S wr,(g=true→zgY P (n+ops.length+16 * i) (ev (fun t=>unG (e t)) f) (args.toList.map (ev fun t=>unG (e t))) h r S wr)∧(g=false→wr= [])∧
      zdn P n ops K (i+1) rest (put e o.dst (.gd g r)) (zam wr h) (acc++ [(S,wr.map (·.1))])
    |op=>
     let r:=aev P (n+i) op (gE op e) h
     (∀t ∈ gT op,okG g (e t))∧(g=true→r.cond)∧
      zdn P n ops K (i+1) rest (put e o.dst (.gd g r.val)) (zam (gW g r.wr) h) (acc++ [((op.operands.toList.map (ev (gE op e))).flatMap AV.ids,(gW g r.wr).map (·.1))])
def zv9:List Oper→List Nat→List Nat
 | [],acc=>acc
 |o::l,acc=>zv9 l (acc++ [o.after.toList.foldl (fun s e=>if Region.binds .any e then s|||2 ^ e.on|||acc.getD e.on 0 else s) 0])
def zgi (ops:List Oper) (o:Oper):List Tmp:=zcD o.op++(match o.guard with|some (j, _)=>(ze8 ops j).toList|none=> [])
def zCr (a b:List Nat):Bool:=a.all fun x=> !b.contains x
def isSt:Op→Bool
 | .store .. =>true
 | _=>false
def zDH:Op→Bool
 | .fieldAddr .. | .indexAddr .. | .nilCheck _| .move _=>true
 | _=>false
def zBl (ops:List Oper) (x y:Oper) (r s:zfj):Bool:=
 zCr x.dst.toList (zgi ops y) && zCr y.dst.toList (zgi ops x) && zCr x.dst.toList y.dst.toList && (zCr r.2 s.1||(isSt x.op && zDH y.op)) && (zCr s.2 r.1||(isSt y.op && zDH x.op)) && zCr r.2 s.2
def zzD (ops:List Oper) (mk:List Nat) (k:Nat):Bool:=(List.range ops.length).all fun j=>decide (j<k)||(List.range j).all fun i=>(mk.getD j 0).testBit i
def zl1 (ops:List Oper) (recs:List zfj):Bool:=
 let mk:=zv9 ops []
 decide (recs.length≤ops.length) && (decide (recs.length=ops.length)||zzD ops mk recs.length) && (List.range ops.length).all fun j=>(ops.getD j default).after.toList.all (fun e=> !Region.binds .any e||decide (e.on<j)) &&
  (decide (recs.length≤j)||(List.range j).all fun i=>(mk.getD j 0).testBit i||zBl ops (ops.getD i default) (ops.getD j default) (recs.getD i default) (recs.getD j default))
def zzb (recs:List zfj):Bool:=recs.all fun r=> !r.1.contains zdd
def zvd (P:Program) (ops:List Oper) (Q:zbV) (e:Env) (h:zaq) (n:Nat):Prop:=
 ∃k,zdn P n ops (fun e h recs=>zl1 ops recs=true∧((zzb recs=true∧zdA P ops Q (ops.drop k) e h (n+ops.length))∨zdA P ops Q (ops.drop k) e h (n+ops.length+16 * ops.length))) 0 (ops.take k) e h []

def WF (r:Option Nat):Fence:={ Fence.wide with round:=r}
structure zj2 (M:Nat→Prop) (w:World) (M':Nat→Prop) (w':World):Prop where
 size:w.heap.size≤w'.heap.size
 keep:∀k,k<w.heap.size→¬M k→w'.heap[k]? =w.heap[k]?
 new:∀k,M' k→M k∨w.heap.size≤k
 lt:∀k,M' k→k<w'.heap.size
structure NC (lo:Nat) (w w':World):Prop where
 os:w'.os=w.os
 tape:w'.tape=w.tape
 output:w'.output=w.output
 drawn:w.drawn≤w'.drawn
 size:w'.heap.size=w.heap.size
 low:∀k,k<lo→w'.heap[k]? =w.heap[k]?
 cells:∀ (k:Nat) C T fz,w.heap[k]? =some (.cells C T fz)→w'.heap[k]? =w.heap[k]?
 maps:∀ (k:Nat) es clk,w.heap[k]? =some (.map es clk)→w'.heap[k]? =w.heap[k]?
abbrev zc4:=Nat→Prop
def zgA (P:Program) (f:FuncId) (caps:List AV) (more:Nat) (rows:List (List AV)):Prop:=
 zep P f∧∀ (w:World) (M0:zc4) (cvs:List Value) (l:Nat) (J:List (List AV)→zc4→zc4→World→Prop) (Jx:zc4→zc4→World→Prop),
  (∀k,M0 k→k<w.heap.size)→ziF w M0→zaJ noP w M0 caps cvs→
  (∀rs M O O' w1 w2,J rs M O w1→Fr w1 O w2→(∀k,O' k→O k∨w1.heap.size≤k)→J rs M O' w2)→
  (∀M O O' w1 w2,Jx M O w1→Fr w1 O w2→(∀k,O' k→O k∨w1.heap.size≤k)→Jx M O' w2)→
  (∀rs M O w1 w2,J rs M O w1→NC w.heap.size w1 w2→J rs M O w2)→(∀M O w1 w2,Jx M O w1→NC w.heap.size w1 w2→Jx M O w2)→
  (∀ (r:Option Nat) (m:Nat) xs rest M O w1 vs,J (xs::rest) M O w1→(∀k,O k→k<w1.heap.size)→zaJ noP w1 (Or M O) xs vs→
   ∃fn tmps assign body,(Instr.yield l ⟨vs⟩).run P w1= .ok (.round l fn tmps assign body) w1∧RoundIn (WF r) m P l fn tmps assign body w1 fun e w'=>
    ∃b M',e= .returned (.bool b)∧zj2 M w1 M' w'∧if b then J rest M' O w' else Jx M' O w')→
  (more=1→∀M O w1,¬J [] M O w1)→
  J rows M0 (fun _=>False) w→
  Calls P f ⟨.func (.yield l) #[] #[]::cvs⟩ w fun e w'=>(∃v,e= .returned v)∧∃M' O',(∀k,O' k→k<w'.heap.size)∧((more=0∧J [] M' O' w')∨Jx M' O' w')
inductive zha (h h':zaq) (n o:Nat):List AV→List AV→Prop
 |nil:zha h h' n o [] []
 |ref {g sz i off:Nat} {xs ys:List AV} (t:zha h h' n o xs ys):zha h h' n o (.ref o g sz i off::xs) (.ref 0 g sz i off::ys)
 |le {x y:AV} {xs ys:List AV} (hx:LeV h h' n x y) (hb:Bel 0 y) (t:zha h h' n o xs ys):zha h h' n o (x::xs) (y::ys)
def zrN (P:Program) (f:FuncId) (caps:List AV) (HO:List (Nat×zbp)) (k:Nat) (more:Nat) (rows:List (List AV)):Prop:=
 zep P f∧∀ (φ:zaz) (w:World) (M0:zc4) (cvs:List Value) (l:Nat) (J:List (List AV)→zc4→zc4→World→Prop) (Jx:zc4→zc4→World→Prop),
  zhD φ k w M0 (mkH HO)→zaJ φ w (Or M0 (Mut φ (mkH HO))) caps cvs→
  (∀rs M O O' w1 w2,J rs M O w1→Fr w1 O w2→(∀k,O' k→O k∨w1.heap.size≤k)→J rs M O' w2)→
  (∀M O O' w1 w2,Jx M O w1→Fr w1 O w2→(∀k,O' k→O k∨w1.heap.size≤k)→Jx M O' w2)→
  (∀rs M O w1 w2,J rs M O w1→NC w.heap.size w1 w2→J rs M O w2)→(∀M O w1 w2,Jx M O w1→NC w.heap.size w1 w2→Jx M O w2)→
  (∀ (r:Option Nat) (m:Nat) xs rest M O w1 vs,J (xs::rest) M O w1→(∀k,O k→k<w1.heap.size)→zaJ noP w1 (Or M O) xs vs→
   ∃fn tmps assign body,(Instr.yield l ⟨vs⟩).run P w1= .ok (.round l fn tmps assign body) w1∧RoundIn (WF r) m P l fn tmps assign body w1 fun e w'=>
    ∃b M',e= .returned (.bool b)∧zj2 M w1 M' w'∧if b then J rest M' O w' else Jx M' O w')→
  (more=1→∀M O w1,¬J [] M O w1)→
  J rows M0 (Mut φ (mkH HO)) w→
  Calls P f ⟨.func (.yield l) #[] #[]::cvs⟩ w fun e w'=>(∃v,e= .returned v)∧∃M' O',(∀k,O' k→k<w'.heap.size)∧((more=0∧J [] M' O' w')∨Jx M' O' w')
def Fgt (n0:Nat) (K:Env→zaq→Nat→Prop) (e:Env) (h:zaq) (n:Nat):Prop:=
 K e h n∨∃E HH n',Wk e h n E HH n'∧n0≤n'∧K (mkE E) (mkH HH) n'
def zgn:List Tmp→List AV→Env→Env
 |t::ps,x::xs,e=>zgn ps xs (upd e t x)
 | _, _,e=>e
def zkF (K:Env→zaq→Nat→Prop) (Q:zbV) (e:Env):zbV
 | .normal,e2,h,n=>K (upd e GH (e2 GH)) h n
 | .ret,e2,h,n=>Q .ret (upd e GH (e2 GH)) h n
 | .exit id,e2,h,n=>Q (.exit id) (upd e GH (e2 GH)) h n
 | _, _, _, _=>False
def zw9 (K:Env→zaq→Nat→Prop):zbV
 | .normal,e,h,n=>K e h n
 | _, _, _, _=>False
def zbb (n0 more:Nat) (ps:List Tmp) (A B:Nat→zbV→Env→zaq→Nat→Prop) (Q:zbV):List (List AV)→Env→zaq→Nat→Prop
 | [],e,h,n=>more=0∧Q .normal e h n
 |xs::rest,e,h,n=>n0≤n∧A n (zw9 (B n (zkF (Fgt n0 (zbb n0 more ps A B Q rest)) Q e))) (zgn ps xs e) h n

def awp (P:Program):Nat→Code→zbV→Env→zaq→Nat→Prop
 | _, .skip,Q,e,h,n| _, .label _,Q,e,h,n=>Q .normal e h n
 | _, .region _ ops false,Q,e,h,n=>zdA P ops.toList Q ops.toList e h n
 | _, .region _ ops true,Q,e,h,n=>∃h',Frz h h'∧zvd P ops.toList Q e h' n
 |n0, .seq a b,Q,e,h,n=>awp P n0 a (zwV (awp P n0 b Q) Q) e h n
 |n0, .cond c a b,Q,e,h,n=>match ev e c with
  | .v (.bool t)=>(t=true→awp P n0 a Q e h n)∧(t=false→awp P n0 b Q e h n)
  | _=>False
 |n0, .block id b,Q,e,h,n=>awp P n0 b (zfW id Q) e h n
 |n0, .scope b,Q,e,h,n=>awp P n0 b (zhE Q) e h n
 |n0, .loop b,Q,e,h,n=>zaa n0 (awp P n0 b) Q e h n
 |n0, .rangeFunc g ps a b,Q,e,h,n=>(∃f caps caps' more rows h',ev e g= .fn (.func f) [] caps∧Frz h h'∧zav h h' n caps caps'∧(∀c ∈ caps',Bel 0 c)∧zgA P f caps' more rows∧
   (∀xs ∈ rows,xs.length=ps.size)∧Fgt n0 (zbb n0 more ps.toList (fun n1=>awp P n1 a) (fun n1=>awp P n1 b) Q rows) e h' n)∨
   (∃f caps caps' o gn sz rs rs' more rows h',ev e g= .fn (.func f) [] caps∧Frz h h'∧h' o=some (.rows true gn sz rs)∧zaN h h' n rs rs'∧(∀r ∈ rs',∀c ∈ r,Bel 0 c)∧
    zha h h' n o caps caps'∧zrN P f caps' [(0, .rows true gn sz rs')] 1 more rows∧
    (∀xs ∈ rows,xs.length=ps.size)∧Fgt n0 (zbb n0 more ps.toList (fun n1=>awp P n1 a) (fun n1=>awp P n1 b) Q rows) e (upd h' o none) n)
 | _, .exit id,Q,e,h,n=>Q (.exit id) e h n
 | _, .ret,Q,e,h,n=>Q .ret e h n
 | _, _, _, _, _, _=>False
def zso:Nat→List AV→Env
 | _, []=>fun _=> .top
 |i,x::l=>upd (zso (i+1) l) i x
def zpy (P:Program) (e:Env) (h:zaq):List ResultVar→Prop×List AV
 | []=>(True, [])
 | .tmp t::l=>let r:=zpy P e h l;(r.1,e t::r.2)
 | .cell a t::l=>let r:=zpy P e h l;let x:=zhU P t (e a) h;(x.cond∧r.1,x.val::r.2)
def zCI:List AV→AV
 | [x]=>x
 |xs=> .tup xs
def RetQ (P:Program) (rs:List ResultVar) (K:zcn):zbV
 | .normal,e,h,n| .ret,e,h,n=>(zpy P e h rs).1∧K (zCI (zpy P e h rs).2) h n
 | _, _, _, _=>False
def zpx (N:Nat):Code→Bool
 | .region _ ops _=>ops.toList.all fun o=>match o.dst with|none=>true|some d=>decide (d<N)
 | .seq a b=>zpx N a && zpx N b
 | .cond _ a b=>zpx N a && zpx N b
 | .block _ b| .loop b| .scope b=>zpx N b
 | .rangeFunc _ ps a b=>ps.toList.all (fun p=>decide (p<N)) && (zpx N a && zpx N b)
 | _=>true
end Go.Av
end
section
namespace Go.Av
open Go

theorem zcr {a:Addr} (h:a.spot=none) (k:Nat):a.add k=⟨a.block,a.off+k,none⟩:=by
 unfold Addr.add
 split
 ·rename_i e;subst e;cases a;simp_all
 ·rfl
theorem zxW {w:World}{a:Addr}{C:Array Value}{T:TypeId}{fz:Nat×Nat} (hs:a.spot=none) (hb:w.heap[a.block]? =some (.cells C T fz)):
  w.cell? a=C[a.off]? :=by
 simp [World.cell?,hb,hs]
theorem zmi {P:Program}{w:World}{a:Addr}{C:Array Value}{T:TypeId}{fz:Nat×Nat} (hs:a.spot=none) (hb:w.heap[a.block]? =some (.cells C T fz))
  (h:a.off<C.size):(load a).run P w= .ok C[a.off] w:=by
 have:w.cell? a=some C[a.off]:=by rw [zxW hs hb];simp [h]
 simp [this]
theorem zjj {P:Program}{w:World}{a:Addr}{C:Array Value}{T:TypeId}{fz:Nat×Nat} (hs:a.spot=none) (hb:w.heap[a.block]? =some (.cells C T fz)):
  ∀ (n i:Nat) (acc:Array Value),a.off+i+n≤C.size→
   (loadCellsFrom a i n acc).run P w= .ok (acc++((C.toList.drop (a.off+i)).take n).toArray) w:=by
 intro n
 induction n with
 |zero=>intro i acc _;simp [loadCellsFrom]
 |succ n ih=>
  intro i acc h
  have hlt:a.off+i<C.size:=aa
  have e1:(load (a.add i)).run P w= .ok C[a.off+i] w:=by
   rw [zcr hs];exact zmi (a:=⟨a.block,a.off+i,none⟩) rfl hb hlt
  simp only [loadCellsFrom,Sem.run_bind,e1,Result.andThen_ok]
  rw [ih (i+1) _ aa]
  have e2:C.toList.drop (a.off+i)=C[a.off+i]::C.toList.drop (a.off+(i+1)):=by
   rw [List.drop_eq_getElem_cons (by simpa using hlt)];simp [Nat.add_assoc]
  rw [e2]
  simp
theorem zdg {P:Program}{w:World}{a:Addr}{C:Array Value}{T:TypeId}{fz:Nat×Nat} (hs:a.spot=none) (hb:w.heap[a.block]? =some (.cells C T fz))
  (n:Nat) (h:a.off+n≤C.size):(loadCells a n).run P w= .ok ⟨(C.toList.drop a.off).take n⟩ w:=by
 have:=zjj (P:=P) hs hb n 0 #[] aa
 simpa [loadCells] using this

structure Wr (w:World) (k:Nat) (o:Obj) (w':World):Prop where
 os:w'.os=w.os
 tape:w'.tape=w.tape
 output:w'.output=w.output
 drawn:w.drawn≤w'.drawn
 size:w'.heap.size=w.heap.size
 at_:w'.heap[k]? =some o
 other:∀j,j≠k→w'.heap[j]? =w.heap[j]?
def zfA:List Value→Nat→List Value→List Value
 |l, _, []=>l
 |l,k,c::cs=>zfA (l.set k c) (k+1) cs
theorem zcv:∀ (cs:List Value) (l:List Value) (k:Nat),(zfA l k cs).length=l.length
 | [], _, _=>rfl
 |c::cs,l,k=>by rw [zfA,zcv cs];simp
theorem zwR {w:World}{a:Addr}{C:Array Value}{T:TypeId}{fz:Nat×Nat} (hs:a.spot=none) (hb:w.heap[a.block]? =some (.cells C T fz)) (v:Value):
  Wr w a.block (.cells (C.setIfInBounds a.off v) T fz) (w.setCell a v):=by
 have hlt:a.block<w.heap.size:=(Array.getElem?_eq_some_iff.1 hb).1
 refine ⟨rfl,rfl,rfl,Nat.le_refl _,by simp [World.setCell], ?_,fun j hj=> ?_⟩
 ·simp only [World.setCell,Array.getElem?_modify]
  simp [hb,hs]
 ·simp only [World.setCell,Array.getElem?_modify]
  rw [if_neg aa]
theorem Wr.trans {w w₁ w₂:World}{k:Nat}{o o':Obj} (h:Wr w k o w₁) (h':Wr w₁ k o' w₂):Wr w k o' w₂:=
 ⟨h'.os.trans h.os,h'.tape.trans h.tape,h'.output.trans h.output,Nat.le_trans h.drawn h'.drawn,h'.size.trans h.size,h'.at_,fun j hj=>(h'.other j hj).trans (h.other j hj)⟩
theorem zcK {P:Program}{a:Addr}{T:TypeId} (hs:a.spot=none):
  ∀ (vs:List Value) (i:Nat) (w:World) (C:Array Value),w.heap[a.block]? =some (.cells C T (0,0))→a.off+i+vs.length≤C.size→(∀u ∈ vs,zch u=true)→
   ∃w',(storeCells a vs i).run P w= .ok () w'∧Wr w a.block (.cells ⟨zfA C.toList (a.off+i) vs⟩ T (0,0)) w':=by
 intro vs
 induction vs with
 |nil=>
  intro i w C hb _ _
  exact ⟨w,by simp [storeCells],rfl,rfl,rfl,Nat.le_refl _,rfl,by simpa [zfA] using hb,fun _ _=>rfl⟩
 |cons v vs ih=>
  intro i w C hb hl hv
  simp only [List.length_cons] at hl
  have hlt:a.off+i<C.size:=aa
  have hc:w.cell? ⟨a.block,a.off+i,none⟩=some C[a.off+i]:=by rw [zxW (a:=⟨a.block,a.off+i,none⟩) rfl hb];simp [hlt]
  have hf:w.frozen? ⟨a.block,a.off+i,none⟩=false:=by simp [World.frozen?,hb]
  have e1:(store (a.add i) v).run P w= .ok () (w.setCell ⟨a.block,a.off+i,none⟩ v):=by
   rw [zcr hs,run_store P w _ _ _ (hv v ad),hc];simp [hf]
  have hw:=zwR (w:=w) (a:=⟨a.block,a.off+i,none⟩) rfl hb v
  obtain ⟨w',hr,hw'⟩:=ih (i+1) (w.setCell ⟨a.block,a.off+i,none⟩ v) _ hw.at_ ak (fun u hu=>hv u (by simp [hu]))
  refine ⟨w', ?_, ?_⟩
  ·simp only [storeCells,Sem.run_bind,e1,Result.andThen_ok];exact hr
  ·have:=hw.trans hw'
   simpa [zfA,Nat.add_assoc] using this

theorem zeW {rs:List (List AV)}{sz:Nat} (h:∀r ∈ rs,r.length=sz) (i:Nat) (hi:i<rs.length):
  rs[i]=(rs.flatten.drop (i * sz)).take sz:=by
 induction rs generalizing i with
 |nil=>simp at hi
 |cons r rs ih=>
  have hr:r.length=sz:=h r ad
  cases i with
  |zero=>simp [hr]
  |succ i=>
   have:=ih (fun r hr=>h r bv) i aJ
   simp only [List.getElem_cons_succ,List.flatten_cons,this]
   have e:(i+1) * sz=r.length+i * sz:=bU
   rw [e,← List.drop_drop,List.drop_left]
theorem zeF {rs:List (List AV)}{sz:Nat} (h:∀r ∈ rs,r.length=sz):rs.flatten.length=rs.length * sz:=by
 induction rs with
 |nil=>simp
 |cons r rs ih=>
  simp only [List.flatten_cons,List.length_append,List.length_cons,ih (fun r hr=>h r bv),h r ad,Nat.add_mul]
  omega
theorem zdD {rs:List (List AV)}{sz:Nat} (h:∀r ∈ rs,r.length=sz) (i:Nat):(rs.drop i).flatten=rs.flatten.drop (i * sz):=by
 induction rs generalizing i with
 |nil=>simp
 |cons r rs ih=>
  cases i with
  |zero=>simp
  |succ i=>
   have hr:r.length=sz:=h r ad
   have e:(i+1) * sz=r.length+i * sz:=bU
   simp only [List.drop_succ_cons,List.flatten_cons,ih (fun r hr=>h r bv)]
   rw [e,← List.drop_drop,List.drop_left]
theorem zdE {rs:List (List AV)}{sz:Nat} (h:∀r ∈ rs,r.length=sz) (i:Nat):(rs.take i).flatten=rs.flatten.take (i * sz):=by
 induction rs generalizing i with
 |nil=>simp
 |cons r rs ih=>
  cases i with
  |zero=>simp
  |succ i=>
   have hr:r.length=sz:=h r ad
   have e:(i+1) * sz=r.length+i * sz:=bU
   simp only [List.take_succ_cons,List.flatten_cons,ih (fun r hr=>h r bv)]
   rw [e,List.take_length_add_append]
theorem zg7:∀ (cs:List AV) (l:List AV) (k:Nat),(setMany l k cs).length=l.length
 | [], _, _=>rfl
 |c::cs,l,k=>by rw [setMany,zg7 cs];simp
theorem zEG {φ:zaz}{w:World}{M:Nat→Prop}:∀ {cs:List AV}{us:List Value}{xs:List AV}{vs:List Value} (k:Nat),
  zaJ φ w M xs vs→zaJ φ w M cs us→zaJ φ w M (setMany xs k cs) (zfA vs k us)
 | [], _, _, _, _,h,h'=>by cases h';exact h
 |c::cs, _, _, _,k,h,h'=>by cases h' with|cons h1 h2=>exact zEG (k+1) (h.set h1 k) h2
theorem zcb:∀ (us:List Value) (l:List Value) (off k n:Nat),k+us.length≤n→
  ((zfA l (off+k) us).drop off).take n=zfA ((l.drop off).take n) k us
 | [],l,off,k,n, _=>rfl
 |u::us,l,off,k,n,h=>by
  simp only [List.length_cons] at h
  rw [zfA,zfA,Nat.add_assoc,zcb us (l.set (off+k) u) off (k+1) n aa]
  congr 1
  apply List.ext_getElem?
  intro j
  simp only [List.getElem?_take,List.getElem?_drop,List.getElem?_set,List.length_take,List.length_drop]
  by_cases hj:j<n
  ·by_cases e:k=j
   ·subst e
    by_cases hb:off+k<l.length
    ·have:k<min n (l.length - off):=by omega
     simp [hj,hb,this]
    ·have:¬k<min n (l.length - off):=by omega
     simp [hj,hb,this]
   ·simp [hj,e]
  ·have:¬k=j:=by omega
   simp [hj,this]
theorem zfB:∀ (us:List Value) (l:List Value) (k:Nat) (x:Value),x ∈ zfA l k us→x ∈ l∨x ∈ us
 | [], _, _, _,h=> .inl h
 |u::us,l,k,x,h=>by
  rcases zfB us _ _ _ h with h|h
  ·rcases List.mem_or_eq_of_mem_set h with h|h
   ·exact .inl h
   ·exact .inr (by simp [h])
  ·exact .inr (by simp [h])
theorem zlp {rs:List (List AV)}{sz:Nat} (h:∀r ∈ rs,r.length=sz) (i:Nat) (hi:i<rs.length) (k:Nat) (cs:List AV) (hk:k+cs.length≤sz):
  (rs.set i (setMany rs[i] k cs)).flatten=setMany rs.flatten (i * sz+k) cs:=by
 have app:∀ (cs:List AV) (p q:List AV) (k:Nat),setMany (p++q) (p.length+k) cs=p++setMany q k cs:=by
  intro cs
  induction cs with
  |nil=>intro p q k;rfl
  |cons c cs ih=>intro p q k;rw [setMany,setMany,List.set_append_right _ _ aa,Nat.add_assoc,show p.length+k - p.length=k by omega,ih p _ (k+1)]
 have app':∀ (cs:List AV) (p q:List AV) (k:Nat),k+cs.length≤p.length→setMany (p++q) k cs=setMany p k cs++q:=by
  intro cs
  induction cs with
  |nil=>intro p q k _;rfl
  |cons c cs ih=>
   intro p q k hk
   simp only [List.length_cons] at hk
   rw [setMany,setMany,List.set_append_left _ _ aa,ih _ _ _ ak]
 induction rs generalizing i with
 |nil=>simp at hi
 |cons r rs ih=>
  have hr:r.length=sz:=h r ad
  cases i with
  |zero=>simp only [List.set_cons_zero,List.flatten_cons,List.getElem_cons_zero,Nat.zero_mul,Nat.zero_add];rw [app' _ _ _ _ aa]
  |succ i=>
   simp only [List.set_cons_succ,List.flatten_cons,List.getElem_cons_succ]
   rw [ih (fun r hr=>h r bv) i aJ]
   have e:(i+1) * sz+k=r.length+(i * sz+k):=bU
   rw [e,app]
theorem ztp:∀ (cs l:List AV),l.length=cs.length→setMany l 0 cs=cs:=by
 have key:∀ (cs l p:List AV),l.length=cs.length→setMany (p++l) p.length cs=p++cs:=by
  intro cs
  induction cs with
  |nil=>intro l p h;simp at h;subst h;simp [setMany]
  |cons c cs ih=>
   intro l p h
   cases l with
   |nil=>simp at h
   |cons x l=>
    rw [setMany,List.set_append_right _ _ aa]
    simp only [Nat.sub_self,List.set_cons_zero]
    have:=ih l (p++ [c]) aK
    simpa using this
 intro cs l h
 simpa using key cs l [] h

theorem zaE.blk {φ:zaz}{F:Nat→Prop}{w:World}{M0:Nat→Prop}{H:zaq} (hH:zaE φ F w M0 H){k:Nat} (h:Or M0 (Mut φ H) k):k<w.heap.size:=by
 rcases h with h|⟨o,g,sz,rs,g',a,bs,ho,hp,rfl⟩
 ·exact hH.m0 _ h
 ·obtain ⟨A,hA,h⟩:=hH.obj _ _ _ _ _ ho
  rw [hp] at hA
  simp only [Option.some.injEq,Prod.mk.injEq] at hA
  obtain ⟨rfl,rfl⟩:=hA
  rcases h with ⟨h, _⟩|⟨a',bs',hA, _,hb⟩
  ·cases h
  ·simp only [Option.some.injEq,Prod.mk.injEq] at hA
   obtain ⟨rfl,rfl⟩:=hA
   exact hb.blk

theorem zaE.set {φ:zaz}{F:Nat→Prop}{w:World}{M0:Nat→Prop}{H:zaq} (hH:zaE φ F w M0 H){w':World}{F':Nat→Prop}{o:Nat}{mt:Bool}{g sz:Nat}{rs:List (List AV)}
  {A:Option (Addr×Nat)} (hn:∀o,F' o→F o) (ho:¬F' o) (hsize:w.heap.size≤w'.heap.size) (hle:φ.le (upd φ o (some (g,A))))
  (hout:∀k,¬Or M0 (Mut φ H) k→k<w.heap.size→w'.heap[k]? =w.heap[k]?)
  (hoth:∀o' mt g sz rs a b,o'≠o→H o'=some (.rows mt g sz rs)→φ o'=some (g,some (a,b))→w'.heap[a.block]? =w.heap[a.block]? ∧(∀a₁ b₁,A=some (a₁,b₁)→a₁.block≠a.block))
  (hM:∀a b,A=some (a,b)→Or M0 (Mut φ H) a.block∨w.heap.size≤a.block)
  (hnew:((A=none∧rs= [])∨∃a bs es clk,A=some (a,bs)∧a.spot≠none∧¬M0 a.block∧w'.heap[a.block]? =some (.map es clk)∧es.size=rs.length∧(sz=2∧∀r ∈ rs,r.length=sz)∧
    zaJ φ w (Or M0 (Mut φ H)) rs.flatten (es.toList.flatMap fun e=> [e.key,e.val]))∨
   ∃a bs C T,A=some (a,bs)∧a.spot=none∧¬M0 a.block∧w'.heap[a.block]? =some (.cells C T (0,0))∧C.size=bs∧
   (∀r ∈ rs,r.length=sz)∧a.off+rs.length * sz≤bs∧(∀u ∈ (C.toList.drop a.off).take (rs.length * sz),zch u=true)∧
   zaJ φ w (Or M0 (Mut φ H)) rs.flatten ((C.toList.drop a.off).take (rs.length * sz))):
  zaE (upd φ o (some (g,A))) F' w' M0 (upd H o (some (.rows mt g sz rs)))∧
   (∀k,Or M0 (Mut (upd φ o (some (g,A))) (upd H o (some (.rows mt g sz rs)))) k→Or M0 (Mut φ H) k∨w.heap.size≤k)∧
   (∀k,Mut (upd φ o (some (g,A))) (upd H o (some (.rows mt g sz rs))) k→Mut φ H k∨∃a b,A=some (a,b)∧a.block=k):=by
 have hmut:∀k,Mut (upd φ o (some (g,A))) (upd H o (some (.rows mt g sz rs))) k→Mut φ H k∨∃a b,A=some (a,b)∧a.block=k:=by
  rintro k ⟨o',g',sz',rs',g'',a,bs,ho',hp,rfl⟩
  by_cases e:o'=o
  ·subst e
   rw [zax] at hp
   simp only [Option.some.injEq,Prod.mk.injEq] at hp
   exact .inr ⟨a,bs,hp.2,rfl⟩
  ·rw [zbs _ _ e] at ho' hp
   exact .inl ⟨o',g',sz',rs',g'',a,bs,ho',hp,rfl⟩
 have hor:∀k,Or M0 (Mut (upd φ o (some (g,A))) (upd H o (some (.rows mt g sz rs)))) k→Or M0 (Mut φ H) k∨w.heap.size≤k:=by
  rintro k (h|h)
  ·exact .inl (.inl h)
  ·rcases hmut k h with h|⟨a,b,hA,rfl⟩
   ·exact .inl (.inr h)
   ·exact hM a b hA
 refine ⟨⟨fun k hk=>Nat.lt_of_lt_of_le (hH.m0 k hk) hsize,fun o' ho'=> ?_, ?_, ?_,hH.glob.keep hout hor⟩,hor,hmut⟩
 ·rw [zbs _ _ (fun e:o'=o=>ho (by rw [← e];exact ho'))];exact hH.fresh o' (hn o' ho')
 ·intro o' mt' g' sz' rs' ho'
  by_cases e:o'=o
  ·subst e
   rw [zax] at ho' ⊢
   simp only [Option.some.injEq,zbp.rows.injEq] at ho'
   obtain ⟨rfl,rfl,rfl,rfl⟩:=ho'
   refine ⟨A,rfl, ?_⟩
   rcases hnew with (h|⟨a,bs,es,clk,hA,hs,h0,hb,hz,hr,hrel⟩)|⟨a,bs,C,T,hA,hs,h0,hb,hC,hr,hl,hv,hrel⟩
   ·exact .inl h
   ·exact .inr ⟨a,bs,hA,h0, .inr ⟨es,clk,hs,hb,hz,hr,hrel.keep hle hout hor⟩⟩
   ·exact .inr ⟨a,bs,hA,h0, .inl ⟨C,T,hs,hb,hC,hr,hl,hv,hrel.keep hle hout hor⟩⟩
  ·rw [zbs _ _ e] at ho' ⊢
   obtain ⟨A',hA',h⟩:=hH.obj _ _ _ _ _ ho'
   refine ⟨A',hA',h.imp id ?_⟩
   rintro ⟨a,bs,hA,h0,hd⟩
   subst hA
   exact ⟨a,bs,rfl,h0,hd.keep (hoth _ _ _ _ _ _ _ e ho' hA').1 (fun hrel=>hrel.keep hle hout hor)⟩
 ·intro o₁ o₂ mt₁ g₁ sz₁ rs₁ mt₂ g₂ sz₂ rs₂ a₁ a₂ b₁ b₂ h₁ h₂ hne hmt p₁ p₂
  by_cases e₁:o₁=o
  ·subst e₁
   rw [zax] at p₁
   rw [zbs _ _ (Ne.symm hne)] at h₂ p₂
   simp only [Option.some.injEq,Prod.mk.injEq] at p₁
   exact (hoth _ _ _ _ _ _ _ (Ne.symm hne) h₂ p₂).2 _ _ p₁.2
  ·rw [zbs _ _ e₁] at h₁ p₁
   by_cases e₂:o₂=o
   ·subst e₂
    rw [zax] at p₂
    simp only [Option.some.injEq,Prod.mk.injEq] at p₂
    exact ((hoth _ _ _ _ _ _ _ hne h₁ p₁).2 _ _ p₂.2).symm
   ·rw [zbs _ _ e₂] at h₂ p₂
    exact hH.inj _ _ _ _ _ _ _ _ _ _ _ _ _ _ h₁ h₂ hne hmt p₁ p₂
end Go.Av
end
section
namespace Go.Av
open Go

section types
variable {P:Program} {w:World} {t:TypeId}
theorem zaj {d:TypeDesc} (h:P.underlying t=some d):(underlying t).run P w= .ok d w:=by simp [underlying,h]
theorem ziq {b:Bool} (h:zjo P t=some b):(isAgg t).run P w= .ok b w:=by
 unfold zjo at h
 cases hu:P.underlying t with
 |none=>simp [hu] at h
 |some d=>
  simp only [hu,Option.map_some,Option.some.injEq] at h
  unfold isAgg
  simp only [Sem.run_bind,zaj hu,Result.andThen_ok]
  subst h
  cases d<;>simp
theorem zaY {s:Nat} (h:tsz P t=some s):(sizeOf t).run P w= .ok s w:=by
 unfold tsz at h
 cases hu:P.info? t with
 |none=>simp [hu] at h
 |some d=>simp only [hu,Option.map_some,Option.some.injEq] at h;simp [sizeOf,typeInfo,hu,h]
theorem zbx {z:List AV} (h:tz P t=some z):∃u,(zeroValue t).run P w= .ok u w∧z=u.cells.toList.map .v∧∀c ∈ u.cells.toList,zch c=true:=by
 unfold tz at h
 cases hu:P.info? t with
 |none=>simp [hu] at h
 |some d=>
  simp only [hu,Option.bind_some] at h
  cases hz:d.zero with
  |none=>simp [hz] at h
  |some u=>
   simp only [hz,Option.bind_some] at h
   split at h
   ·rename_i hall
    simp only [Option.some.injEq] at h
    exact ⟨u,by simp [zeroValue,typeInfo,hu,hz],h.symm,fun c hc=>List.all_eq_true.1 hall c hc⟩
   ·cases h
theorem zcE {e:TypeId} (h:tk P t= .sl e):P.underlying t=some (.slice e):=by
 unfold tk at h;split at h<;>simp_all
theorem zoj {n:Nat}{e:TypeId} (h:tk P t= .arr n e):P.underlying t=some (.array n e):=by
 unfold tk at h;split at h<;>simp_all
theorem zrv {k:IntKind} (h:tk P t= .int k):P.underlying t=some (.int k):=by
 unfold tk at h;split at h<;>simp_all
theorem zix (h:tk P t= .string):P.underlying t=some .string:=by
 unfold tk at h;split at h<;>simp_all
theorem tk_str (h:tk P t= .str):∃fs,P.underlying t=some (.struct fs):=by
 unfold tk at h;split at h<;>simp_all
variable {a:Addr} {C:Array Value} {T:TypeId} {fz:Nat×Nat}
theorem zem {s:Nat} (h:zjo P t=some true) (h':tsz P t=some s) (hs:a.spot=none) (hb:w.heap[a.block]? =some (.cells C T fz)) (hc:a.off+s≤C.size):
  (loadVar t a).run P w= .ok (.agg ⟨(C.toList.drop a.off).take s⟩) w:=by
 simp [loadVar,ziq h,zaY h',zdg hs hb s hc]
theorem zgp (h:zjo P t=some false) (hs:a.spot=none) (hb:w.heap[a.block]? =some (.cells C T fz)) (hc:a.off<C.size):
  (loadVar t a).run P w= .ok C[a.off] w:=by
 unfold loadVar
 simp only [Sem.run_bind,ziq h,Result.andThen_ok,Bool.false_eq_true,if_false]
 exact zmi hs hb hc
end types

section reads
variable {P:Program} {φ:zaz} {F:Nat→Prop} {w:World} {M0:Nat→Prop} {h:zaq}

theorem zaE.at_row (hH:zaE φ F w M0 h){o g sz i:Nat}{mt:Bool}{rs:List (List AV)} (ho:h o=some (.rows mt g sz rs)) (hi:i<rs.length) (hsp:∀a bs,φ o=some (g,some (a,bs))→a.spot=none):
  ∃a bs C T,φ o=some (g,some (a,bs))∧a.spot=none∧¬M0 a.block∧w.heap[a.block]? =some (.cells C T (0,0))∧C.size=bs∧(∀r ∈ rs,r.length=sz)∧
   a.off+rs.length * sz≤bs∧i * sz+sz≤rs.length * sz∧
   zaJ φ w (Or M0 (Mut φ h)) rs[i] ((C.toList.drop (a.off+i * sz)).take sz)∧(∀u ∈ (C.toList.drop (a.off+i * sz)).take sz,zch u=true):=by
 obtain ⟨A,hA,h1⟩:=hH.obj _ _ _ _ _ ho
 rcases h1 with ⟨_,h1⟩|⟨a,bs,hA',h0,hd⟩
 ·subst h1;simp at hi
 ·subst hA'
  have hs:=hsp _ _ hA
  obtain ⟨C,T,hb,hC,hr,hl,hv,hrel⟩:=hd.cells hs
  have hle:i * sz+sz≤rs.length * sz:=by
   have:=Nat.mul_le_mul_right sz (show i+1≤rs.length from hi)
   rw [Nat.add_mul] at this;omega
  have e:((C.toList.drop (a.off+i * sz)).take sz)=(((C.toList.drop a.off).take (rs.length * sz)).drop (i * sz)).take sz:=by
   rw [List.drop_take,List.drop_drop,List.take_take]
   congr 1
   omega
  refine ⟨a,bs,C,T,hA,hs,h0,hb,hC,hr,hl,hle, ?_, ?_⟩
  ·rw [e,zeW hr i hi]
   exact (hrel.drop _).take _
  ·intro u hu
   rw [e] at hu
   exact hv u (List.mem_of_mem_drop (List.mem_of_mem_take hu))
theorem zCH {x:Value}{o g sz i off:Nat}{M:Nat→Prop} (hx:Rel φ w M (.ref o g sz i off) x){a:Addr}{bs:Nat} (hp:φ o=some (g,some (a,bs))):
  x= .pointer (some ⟨a.block,a.off+i * sz+off,none⟩):=by
 cases hx with
 |ref ho hg hh=>
  rw [hp] at ho
  simp only [Option.some.injEq,Prod.mk.injEq] at ho
  obtain ⟨rfl,rfl⟩:=ho
  obtain ⟨a',bs',e, _,hv⟩:=hh rfl
  simp only [Option.some.injEq,Prod.mk.injEq] at e
  obtain ⟨rfl,rfl⟩:=e
  exact hv
theorem zuF {x:Value}{o g sz i off:Nat}{M:Nat→Prop} (hx:Rel φ w M (.ref o g sz i off) x) (a:Addr) (bs:Nat) (hp:φ o=some (g,some (a,bs))):a.spot=none:=by
 cases hx with
 |ref ho hg hh=>
  rw [hp] at ho
  simp only [Option.some.injEq,Prod.mk.injEq] at ho
  obtain ⟨rfl,rfl⟩:=ho
  obtain ⟨a',bs',e,hs,hv⟩:=hh rfl
  simp only [Option.some.injEq,Prod.mk.injEq] at e
  obtain ⟨rfl,rfl⟩:=e
  exact hs

def zbW (P:Program) (φ:zaz) (w:World) (M:Nat→Prop) (r:Res) (s:Sem Value):Prop:=
 ∃u,s.run P w= .ok u w∧Rel φ w M r.val u∧r.wr= []∧r.al=0

theorem znR (hH:zaE φ F w M0 h){t:TypeId}{x:AV}{v:Value} (hx:Rel φ w (Or M0 (Mut φ h)) x v) (hc:(zhU P t x h).cond):
  zbW P φ w (Or M0 (Mut φ h)) (zhU P t x h) (Instr.loadAt t v):=by
 unfold zhU at hc ⊢
 split at hc
 ·rename_i o g sz i off
  split at hc
  ·rename_i mt g' sz' rs ho
   by_cases hgs:g=g'∧sz=sz'
   ·simp only [hgs,and_self,if_true] at hc
    obtain ⟨rfl,rfl⟩:=hgs
    simp only [ho,and_self,if_true]
    obtain ⟨hi,hc⟩:=hc
    obtain ⟨a,bs,C,T,hp,hs, _,hb,hC,hr,hl,hle,hrow,hcv⟩:=hH.at_row ho hi (zuF hx)
    obtain rfl:=zCH hx hp
    have e0:nth rs i=rs[i]:=by simp [nth,hi]
    rw [e0] at hc ⊢
    have hlen:rs[i].length=sz:=hr _ (List.getElem_mem _)
    have hlen':((C.toList.drop (a.off+i * sz)).take sz).length=sz:=by rw [← hrow.length,hlen]
    unfold zDL at hc ⊢
    split at hc
    ·rename_i s ha hz
     try simp only [ha,hz] at hc
     try simp only [ha,hz]
     by_cases hw:off=0∧s=sz
     ·simp only [hw,and_self,if_true]
      obtain ⟨rfl,rfl⟩:=hw
      refine ⟨.agg ⟨(C.toList.drop (a.off+i * s)).take s⟩, ?_, .agg hcv hrow,rfl,rfl⟩
      simp only [Instr.loadAt,Instr.sureAddr,Sem.run_bind,Sem.run_pure,Result.andThen_ok]
      exact zem (a:=⟨a.block,a.off+i * s+0,none⟩) ha hz rfl hb ak
     ·simp only [hw,if_false] at hc ⊢
      refine ⟨.agg ⟨(C.toList.drop (a.off+i * sz+off)).take s⟩, ?_, ?_,rfl,rfl⟩
      ·simp only [Instr.loadAt,Instr.sureAddr,Sem.run_bind,Sem.run_pure,Result.andThen_ok]
       exact zem (a:=⟨a.block,a.off+i * sz+off,none⟩) ha hz rfl hb ak
      ·have e:(C.toList.drop (a.off+i * sz+off)).take s=(((C.toList.drop (a.off+i * sz)).take sz).drop off).take s:=by
        rw [List.drop_take,List.drop_drop,List.take_take];congr 1;omega
       refine .agg ?_ (by rw [e];exact (hrow.drop off).take s)
       intro u hu
       rw [e] at hu
       exact hcv u (List.mem_of_mem_drop (List.mem_of_mem_take hu))
    ·rename_i ha
     try simp only [ha] at hc
     try simp only [ha]
     have hlt:a.off+i * sz+off<C.size:=aa
     refine ⟨C[a.off+i * sz+off], ?_, ?_,rfl,rfl⟩
     ·simp only [Instr.loadAt,Instr.sureAddr,Sem.run_bind,Sem.run_pure,Result.andThen_ok]
      exact zgp (a:=⟨a.block,a.off+i * sz+off,none⟩) ha rfl hb hlt
     ·have:=hrow.get off aa aa
      simp only [List.getElem_take,List.getElem_drop,Array.getElem_toList] at this
      simpa [cel,List.getD_eq_getElem?_getD,show off<rs[i].length by omega] using this
    ·exact hc.elim
   ·simp only [hgs,if_false] at hc
  ·exact hc.elim
 ·rename_i cells
  cases hx with
  | @fp _ a C T fz hs hM hb hl hcv hrel=>
   split at hc
   ·rename_i s ha hz
    try simp only [ha,hz] at hc
    try simp only [ha,hz]
    refine ⟨.agg ⟨(C.toList.drop a.off).take s⟩, ?_, ?_,rfl,rfl⟩
    ·simp only [Instr.loadAt,Instr.sureAddr,Sem.run_bind,Sem.run_pure,Result.andThen_ok]
     exact zem ha hz hs hb aa
    ·have e:(C.toList.drop a.off).take s=((C.toList.drop a.off).take cells.length).take s:=by rw [List.take_take];congr 1;omega
     refine .agg ?_ (by rw [e];exact hrel.take s)
     intro u hu
     rw [e] at hu
     exact hcv u (List.mem_of_mem_take hu)
   ·rename_i ha
    try simp only [ha] at hc
    try simp only [ha]
    have hlt:a.off<C.size:=aa
    refine ⟨C[a.off], ?_, ?_,rfl,rfl⟩
    ·simp only [Instr.loadAt,Instr.sureAddr,Sem.run_bind,Sem.run_pure,Result.andThen_ok]
     exact zgp ha hs hb hlt
    ·have hq:0<((C.toList.drop a.off).take cells.length).length:=by rw [← hrel.length];exact hc
     have:=hrel.get 0 hc hq
     simp only [List.getElem_take,List.getElem_drop,Array.getElem_toList,Nat.add_zero] at this
     simpa [cel,List.getD_eq_getElem?_getD,hc] using this
   ·exact hc.elim
 ·exact hc.elim

theorem zm2 {s:TypeId}{fs:Array Field}{f d:Nat}{fl:Field} (_hu:P.underlying s=some (.struct fs)) (hf:fs[f]? =some fl)
  (hd:zyp P s f=some d) {a:Addr} (ha:a.spot=none):(fieldPlace a fl).run P w= .ok ⟨a.block,a.off+d,none⟩ w:=by
 unfold zyp at hd
 simp only [_hu,hf,Option.bind_some] at hd
 cases hi:P.info? fl.type with
 |none=>simp [hi] at hd
 |some i=>
  simp only [hi,Option.map_some,Option.bind_some] at hd
  by_cases h0:i.size=0
  ·simp [h0] at hd
  ·simp only [h0,if_false,Option.some.injEq] at hd
   have:(sizeOf fl.type).run P w= .ok i.size w:=by simp [sizeOf,typeInfo,hi]
   simp [fieldPlace,this,h0,zcr ha,hd]
theorem zlr {s:TypeId}{f d:Nat} (hd:zyp P s f=some d):∃fs fl,P.underlying s=some (.struct fs)∧fs[f]? =some fl∧fl.offset=d:=by
 unfold zyp at hd
 split at hd
 ·rename_i fs hu
  cases hf:fs[f]? with
  |none=>simp [hf] at hd
  |some fl=>
   refine ⟨fs,fl,hu,hf, ?_⟩
   simp only [hf,Option.bind_some] at hd
   cases hi:P.info? fl.type with
   |none=>simp [hi] at hd
   |some i=>
    simp only [hi,Option.map_some,Option.bind_some] at hd
    by_cases h0:i.size=0
    ·simp [h0] at hd
    ·simpa [h0] using hd
 ·cases hd

theorem zuG {x:Value}{o g sz i off:Nat}{M:Nat→Prop} (hx:Rel φ w M (.ref o g sz i off) x) (i' off':Nat) (u:Value)
  (hu:∀a:Addr,x= .pointer (some ⟨a.block,a.off+i * sz+off,none⟩)→u= .pointer (some ⟨a.block,a.off+i' * sz+off',none⟩)):
  Rel φ w M (.ref o g sz i' off') u:=by
 cases hx with
 |ref ho hg hh=>exact .ref ho hg fun e=>let ⟨a,bs,hA,hs,hv⟩:=hh e;⟨a,bs,hA,hs,hu a hv⟩

theorem zaE.alive_at (hH:zaE φ F w M0 h){o g sz:Nat} (ha:zcG h o g sz):∃mt rs A,h o=some (.rows mt g sz rs)∧φ o=some (g,A):=by
 unfold zcG at ha
 split at ha
 ·rename_i mt g' sz' rs ho
  obtain ⟨rfl,rfl⟩:=ha
  obtain ⟨A,hA, _⟩:=hH.obj _ _ _ _ _ ho
  exact ⟨mt,rs,A,ho,hA⟩
 ·exact ha.elim
theorem zaE.ref_alive (hH:zaE φ F w M0 h){o g sz i off:Nat} (ha:zcG h o g sz){M:Nat→Prop}{v:Value} (hx:Rel φ w M (.ref o g sz i off) v):
  ∃a:Addr,v= .pointer (some ⟨a.block,a.off+i * sz+off,none⟩):=by
 obtain ⟨mt,rs,A, _,hp⟩:=hH.alive_at ha
 cases hx with
 |ref ho hg hh=>
  rw [hp] at ho
  simp only [Option.some.injEq,Prod.mk.injEq] at ho
  obtain ⟨rfl,rfl⟩:=ho
  obtain ⟨a,bs, _, _,hv⟩:=hh rfl
  exact ⟨a,hv⟩

theorem zln (hH:zaE φ F w M0 h){s:TypeId}{x:AV}{v:Value}{f:Nat}{M:Nat→Prop}
  (hx:Rel φ w M x v) (hc:(zb8 P s x f h).cond):zbW P φ w M (zb8 P s x f h) (Instr.fieldAt s v f):=by
 unfold zb8 at hc ⊢
 split at hc
 ·rename_i d hd
  obtain ⟨fs,fl,hu,hf,hoff⟩:=zlr hd
  have hrun:∀a:Addr,a.spot=none→(Instr.fieldAt s (.pointer (some a)) f).run P w= .ok (.pointer (some ⟨a.block,a.off+d,none⟩)) w:=by
   intro a ha
   simp only [Instr.fieldAt,Sem.run_bind,zaj hu,Result.andThen_ok,hf,Instr.sureAddr,Sem.run_pure,zm2 hu hf hd ha]
  split at hc
  ·rename_i o g sz i off
   obtain ⟨a,rfl⟩:=hH.ref_alive hc hx
   exact ⟨_,hrun ⟨a.block,a.off+i * sz+off,none⟩ rfl,zuG hx i (off+d) _ (fun b hb=>by
    simp only [Value.pointer.injEq,Option.some.injEq,Addr.mk.injEq,and_true] at hb ⊢
    omega),rfl,rfl⟩
  ·rename_i cells
   cases hx with
   | @fp _ a C T fz hs hM hb hl hcv hrel=>
    refine ⟨_,hrun a hs, .fp (a:=⟨a.block,a.off+d,none⟩) rfl hM hb ?_ ?_ ?_,rfl,rfl⟩
    ·simp only [List.length_drop];omega
    ·intro u hu'
     refine hcv u ?_
     have e:(C.toList.drop (a.off+d)).take (cells.drop d).length=((C.toList.drop a.off).take cells.length).drop d:=by
      rw [List.drop_take,List.drop_drop,List.length_drop]
     simp only at hu'
     rw [e] at hu'
     exact List.mem_of_mem_drop hu'
    ·have e:(C.toList.drop (a.off+d)).take (cells.drop d).length=((C.toList.drop a.off).take cells.length).drop d:=by
      rw [List.drop_take,List.drop_drop,List.length_drop]
     simp only
     rw [e];exact hrel.drop d
  ·exact hc.elim
 ·exact hc.elim
end reads
end Go.Av
end
