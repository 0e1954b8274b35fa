/- Texts of ours, part 2: our library and contracts of functions. -/
import Derived.Test.YtnjjmmhiaaplmaaGreatDoorB01
import Derived.Laws.BytesString
set_option linter.unusedSimpArgs false
set_option linter.unusedVariables false
set_option maxRecDepth 100000
set_option maxHeartbeats 40000000
section
/- Our library, part 8: the abstract operations are sound: stores, make, append. -/
namespace Go.Av
open Go

section
variable {P:Program} {φ φ':zaz} {F:Nat→Prop} {n:Nat} {w w':World} {M0:Nat→Prop} {h h':zaq}

theorem zeB {α:Type} (f:Nat→α) (k:Nat):upd f k (f k)=f:=by
 funext j;simp only [upd];split
 ·rename_i e;rw [e]
 ·rfl
theorem zaE.of_heap (hH:zaE φ F w M0 h) (hh:w'.heap=w.heap):zaE φ F w' M0 h:=by
 refine ⟨by rw [hh];exact hH.m0,hH.fresh,fun o mt g sz rs ho=> ?_,hH.inj,hH.glob.keep (fun k _ _=>by rw [hh]) (fun k hk=> .inl hk)⟩
 obtain ⟨A,hA,h1⟩:=hH.obj o mt g sz rs ho
 refine ⟨A,hA,h1.imp id ?_⟩
 rintro ⟨a,bs,e1,e3,e4⟩
 exact ⟨a,bs,e1,e3,e4.keep (by rw [hh]) (fun e9=>e9.keep φ.le_refl (fun k _ _=>by rw [hh]) (fun k hk=> .inl hk))⟩
theorem zc8.of_heap (ho:w'.os=w.os) (ht:w'.tape=w.tape) (hp:w'.output=w.output) (hd:w.drawn≤w'.drawn) (hh:w'.heap=w.heap):zc8 φ w M0 h φ w' h:=
 ⟨φ.le_refl,fun _ h=> .inl h,⟨ho,ht,hp,hd,by rw [hh];exact Nat.le_refl _,fun k _ _=>by rw [hh]⟩,fun _ h=> .inl h⟩

theorem zaE.keepw (hH:zaE φ F w M0 h) (st:zc8 φ w M0 h φ w' h) (hall:∀k,k<w.heap.size→w'.heap[k]? =w.heap[k]?):zaE φ F w' M0 h:=by
 refine ⟨fun k hk=>Nat.lt_of_lt_of_le (hH.m0 k hk) st.fr.size,hH.fresh,fun o mt g sz rs ho=> ?_,hH.inj,hH.glob.keep (fun k _ hk=>hall k hk) (fun k hk=> .inl hk)⟩
 obtain ⟨A,hA,h1⟩:=hH.obj o mt g sz rs ho
 refine ⟨A,hA,h1.imp id ?_⟩
 rintro ⟨a,bs,e1,e3,e4⟩
 exact ⟨a,bs,e1,e3,e4.keep (hall _ e4.blk) (fun e9=>st.relL e9)⟩

theorem zwK (hH:zaE φ F w M0 h){t:TypeId}{x y:AV}{v u:Value} (hx:Rel φ w (Or M0 (Mut φ h)) x v) (hy:Rel φ w (Or M0 (Mut φ h)) y u)
  (hc:(zdq P t x y h).cond):∃w' φ',(Instr.storeAt t v u).run P w= .ok () w'∧zaE φ' F w' M0 (zam (zdq P t x y h).wr h)∧
   zc8 φ w M0 h φ' w' (zam (zdq P t x y h).wr h)∧(zdq P t x y h).val= .top:=by
 unfold zdq at hc ⊢
 split at hc
 ·rename_i o g sz i off
  split at hc
  ·rename_i mt g' sz' rs ho
   by_cases hgs:g=g'∧sz=sz'∧mt=true
   ·simp only [hgs,and_self,if_true] at hc
    obtain ⟨rfl,rfl,rfl⟩:=hgs
    simp only [ho,and_self,if_true]
    obtain ⟨hi,hsz,hle,hok⟩:=hc
    obtain ⟨a,bs,C,T,hp,hs,h0,hb,hC,hr,hl,hle',hrow,hcv⟩:=hH.at_row ho hi (zuF hx)
    obtain rfl:=zCH hx hp
    obtain ⟨h1,h2⟩:=zhO hH hy hok
    have hlen:=h1.length
    obtain ⟨A,hA,hobj⟩:=hH.obj _ _ _ _ _ ho
    rw [hp] at hA
    simp only [Option.some.injEq,Prod.mk.injEq,true_and] at hA
    subst hA
    rcases hobj with ⟨hobj, _⟩|⟨a',bs',e, _,hd⟩
    ·cases hobj
    simp only [Option.some.injEq,Prod.mk.injEq] at e
    obtain ⟨rfl,rfl⟩:=e
    obtain ⟨C',T',hb', _, _, _,hv,hrel⟩:=hd.cells hs
    rw [hb] at hb'
    simp only [Option.some.injEq,Obj.cells.injEq] at hb'
    obtain ⟨rfl,rfl, _⟩:=hb'
    obtain ⟨w',hrun,hw'⟩:=zcK (P:=P) (a:=⟨a.block,a.off+i * sz+off,none⟩) (T:=T) rfl u.cells.toList 0 w C hb ah h2
    have hrows:(if off=0∧y.cells.length=sz then y.cells else setMany (nth rs i) off y.cells)=setMany rs[i] off y.cells:=by
     have e0:nth rs i=rs[i]:=by simp [nth,hi]
     rw [e0]
     split
     ·rename_i e;rw [e.1,zjX (by rw [hr _ (List.getElem_mem _),e.2])]
     ·rfl
    rw [hrows]
    have hM:∀k,¬Or M0 (Mut φ h) k→k≠a.block:=fun k hk e=>hk (.inr ⟨o,g,sz,rs,g,a,bs,ho,hp,e.symm⟩)
    have hle0:φ.le (upd φ o (some (g,some (a,bs)))):=bf
    have hflat:(rs.set i (setMany rs[i] off y.cells)).flatten=setMany rs.flatten (i * sz+off) y.cells:=zlp hr i hi off y.cells hle
    obtain ⟨g1,g2,g3⟩:=hH.set (w':=w') (F':=F) (o:=o) (mt:=true) (g:=g) (sz:=sz) (rs:=rs.set i (setMany rs[i] off y.cells)) (A:=some (a,bs))
     (fun _ h=>h) (hH.place_old ho hp).2 aG hle0 (fun k hk _=>hw'.other k (hM k hk))
     (fun o' mt' g' sz' rs' a₁ b₁ hne ho' hp'=>by
      have:=hH.inj _ _ _ _ _ _ _ _ _ _ _ _ _ _ ho ho' (Ne.symm hne) (.inl rfl) hp hp'
      refine ⟨hw'.other _ (Ne.symm this),fun a₂ b₂ e=> ?_⟩
      simp only [Option.some.injEq,Prod.mk.injEq] at e
      obtain ⟨rfl,rfl⟩:=e
      exact this)
     (fun a₁ b₁ e=>by
      simp only [Option.some.injEq,Prod.mk.injEq] at e
      obtain ⟨rfl,rfl⟩:=e
      exact .inl (.inr ⟨o,g,sz,rs,g,a,bs,ho,hp,rfl⟩))
     (.inr ⟨a,bs, _,T,rfl,hs,h0,hw'.at_,aQ,
      fun r hm=>by
       rcases List.mem_or_eq_of_mem_set hm with h|h
       ·exact hr r h
       ·rw [h,zg7,hr _ (List.getElem_mem _)],
      by rw [List.length_set];exact hl,
      fun c hm=>by
       simp only [List.length_set,Nat.add_zero] at hm
       rw [show a.off+i * sz+off=a.off+(i * sz+off) by omega,zcb _ _ _ _ _ aa] at hm
       rcases zfB _ _ _ _ hm with h|h
       ·exact hv c h
       ·exact h2 c h,
      by
       simp only [List.length_set,Nat.add_zero]
       rw [show a.off+i * sz+off=a.off+(i * sz+off) by omega,zcb _ _ _ _ _ aa,hflat]
       exact zEG _ hrel h1⟩)
    refine ⟨w', _, ?_,g1,⟨hle0,g2,⟨hw'.os,hw'.tape,hw'.output,hw'.drawn,aG,fun k _ hu=>hw'.other k (fun e=>hu ⟨o,g,sz,rs,g,a,bs,ho,hp,e.symm⟩)⟩,fun k hk=> ?_⟩,trivial⟩
    ·have hneq:¬(u.cells.size≠y.cells.length):=by rw [← Array.length_toList,hlen];simp
     simp only [Instr.storeAt,Instr.sureAddr,storeVar,Sem.run_bind,Sem.run_pure,Result.andThen_ok,zaY hsz,hneq,if_false]
     exact hrun
    ·rcases g3 k hk with h|⟨a₁,b₁,e,rfl⟩
     ·exact .inl h
     ·simp only [Option.some.injEq,Prod.mk.injEq] at e
      obtain ⟨rfl,rfl⟩:=e
      exact .inl ⟨o,g,sz,rs,g,a,bs,ho,hp,rfl⟩
   ·simp only [hgs,if_false] at hc
  ·exact hc.elim
 ·exact hc.elim

theorem zvH {t:TypeId}{x y:AV}:(zdq P t x y h).al=0:=by
 unfold zdq
 split
 ·split
  ·split<;>rfl
  ·rfl
 ·rfl
theorem zfD {t:TypeId}{b:Nat} (hb:tby P t=some b):∃i,(typeInfo t).run P w= .ok i w∧i.bytes=b:=by
 unfold tby at hb
 cases hu:P.info? t with
 |none=>simp [hu] at hb
 |some d=>simp only [hu,Option.map_some,Option.some.injEq] at hb;exact ⟨d,by simp [typeInfo,hu],hb⟩
theorem zz1 {n:Int} (h0:0≤n) (h1:n≤17592186044416):IntKind.i64.wrap n=n:=zd0 ⟨by simp [IntKind.min,IntKind.signed,IntKind.bits];omega,cV⟩
theorem zjU {z:List AV}{u:List Value}{M:Nat→Prop} (hz:zaJ φ w M z u){l c:Nat} (hlc:l≤c):
  zaJ φ w M (List.replicate l z).flatten ((List.replicate c u).flatten.take (l * z.length)):=by
 have e:(List.replicate c u).flatten.take (l * z.length)=(List.replicate l u).flatten:=by
  obtain ⟨d,rfl⟩:∃d,c=l+d:=⟨c - l,aa⟩
  have hl:(List.replicate l u).flatten.length=l * z.length:=by simp [hz.length]
  rw [← List.replicate_append_replicate,List.flatten_append,List.take_left' hl]
 rw [e];exact zin hz l
theorem zmY (hH:zaE φ F w M0 h) (hn:F n){t:TypeId}{l c:AV}{vl vc:Value} (hl:Rel φ w (Or M0 (Mut φ h)) l vl) (hcc:Rel φ w (Or M0 (Mut φ h)) c vc)
  (hc:(zea P n t l c).cond):ztG P φ F n w M0 h (zea P n t l c) (Instr.makeSlice t vl vc):=by
 unfold zea at hc ⊢
 split at hc
 ·rename_i e l c ht
  cases hl;cases hcc
  split at hc
  ·rename_i sz z by_ hsz hz hb
   try simp only [hsz,hz,hb]
   obtain ⟨h1,h2,h3,h4,h5,h6⟩:=hc
   obtain ⟨u,hu,rfl,hcv⟩:=zbx (P:=P) (w:=w) hz
   obtain ⟨inf,hinf,rfl⟩:=zfD (P:=P) (w:=w) hb
   have hus:u.cells.size=sz:=aZ
   have hsz':u.cells.size=(u.cells.toList.map AV.v).length:=ad
   have w1:IntKind.i64.wrap l=l:=zz1 h3 aa
   have w2:IntKind.i64.wrap c=c:=zz1 aa aa
   have hC:((Array.range (c.toNat * sz)).map (u.cells[· % u.cells.size]!)).toList=(List.replicate c.toNat u.cells.toList).flatten:=by
    rw [← hus];exact zgo u.cells aa _
   have hb1:(inf.bytes:Int) * c≤2 ^ 48:=by
    have:(inf.bytes:Int) * c≤1024 * c:=Int.mul_le_mul_of_nonneg_right aa aa
    omega
   have hb2:(inf.bytes:Int) * l≤2 ^ 48:=by
    have:(inf.bytes:Int) * l≤1024 * l:=Int.mul_le_mul_of_nonneg_right aa aa
    omega
   have hlc:l.toNat≤c.toNat:=aa
   have hmul:=Nat.mul_le_mul_right sz hlc
   have hCs:((Array.range (c.toNat * sz)).map (u.cells[· % u.cells.size]!)).size=c.toNat * sz:=ad
   obtain ⟨a,b⟩:=hH.new hn (sz:=sz) (rs:=List.replicate l.toNat (u.cells.toList.map .v)) (C:=(Array.range (c.toNat * sz)).map (u.cells[· % u.cells.size]!)) (T:=e)
    (fun r hr=>by rw [(List.mem_replicate.1 hr).2];simpa using hus) (by rw [List.length_replicate,hCs];exact hmul)
    (fun x hm=>by
     have hm:=List.mem_of_mem_take hm
     rw [hC] at hm
     obtain ⟨q,hq,hm⟩:=List.mem_flatten.1 hm
     rw [(List.mem_replicate.1 hq).2] at hm
     exact hcv x hm)
    (by
     rw [List.length_replicate,hC]
     have:=zjU (zc2 (φ:=φ) (w:=w) (M:=Or M0 (Mut φ h)) u.cells.toList) hlc
     rw [h2] at this
     exact this)
   refine ⟨.slice (some ⟨w.heap.size,0,none⟩) l.toNat c.toNat, _, _, ?_, ?_,a,b⟩
   ·have hn1:(decide (c<0)||decide ((inf.bytes:Int) * c>2 ^ 48))=false:=by simp;omega
    have hneg:¬(((decide (c<0)||decide ((inf.bytes:Int) * c>2 ^ 48))||decide (l<0)||decide (l>c))=true):=by rw [hn1];simp;omega
    have hz0:(if c.toNat * sz=0 then pure #[] else do pure (← zeroValue e).cells:Sem (Array Value)).run P w= .ok (if c.toNat * sz=0 then #[] else u.cells) w:=by
     split<;>simp [hu]
    have hC0:((Array.range (c.toNat * sz)).map ((if c.toNat * sz=0 then #[] else u.cells)[· % (if c.toNat * sz=0 then (#[]:Array Value) else u.cells).size]!))=(Array.range (c.toNat * sz)).map (u.cells[· % u.cells.size]!):=by
     by_cases h0:c.toNat * sz=0
     ·rw [h0];simp
     ·simp only [h0,if_false]
    unfold Instr.makeSlice
    simp only [Sem.run_bind,zaj (zcE ht),Result.andThen_ok,asInt,zbR,Sem.run_pure,hinf,w1,w2]
    rw [Sem.run_ite,if_neg hneg]
    simp only [Sem.run_bind,run_askRoom,Result.andThen_ok,zaY hsz]
    have hz1:=hz0
    simp only [Sem.run_ite] at hz1 ⊢
    split at hz1
    ·rename_i h0
     simp only [h0,if_true,Sem.run_bind,Sem.run_pure,Result.andThen_ok,zd4]
     have e0:∀f:Nat→Value,Array.map f (Array.range 0)= #[]:=fun f=>ad
     simp only [e0]
    ·rename_i h0
     simp only [h0,if_false,Sem.run_bind,hu,Sem.run_pure,Result.andThen_ok,zd4]
   ·refine .sl (zax _ _ _) (Nat.le_refl _) fun _=> .inr (.inr ⟨_, _,c.toNat,rfl,rfl,ad,hlc, ?_⟩)
    simp only [hCs];omega
  ·exact hc.elim
 ·exact hc.elim
theorem zmh (hH:zaE φ F w M0 h){x:AV}{v:Value}{sz:Nat} (hsz:0<sz) (hx:Rel φ w (Or M0 (Mut φ h)) x v) (hc:(zat x sz h).1):
  (Builtin.lenOf v).run P w= .ok (zat x sz h).2.length w∧(∀r ∈ (zat x sz h).2,r.length=sz)∧∃X:Array Value,X.size=(zat x sz h).2.length * sz∧
   zaJ φ w (Or M0 (Mut φ h)) (zat x sz h).2.flatten X.toList∧(∀u ∈ X.toList,zch u=true)∧
   ∀w':World,w'.heap=w.heap→∀n≤(zat x sz h).2.length,(Builtin.firstCells sz n v).run P w'= .ok ⟨X.toList.take (n * sz)⟩ w':=by
 unfold zat at hc ⊢
 split at hc
 ·rename_i o g sz' i len
  split at hc
  ·rename_i mt g' sz'' rs ho
   obtain ⟨rfl,rfl,rfl,hle⟩:=hc
   have hlen:((rs.drop i).take len).length=len:=ak
   simp only [ho,hlen]
   have hal:zcG h o g sz:=bt
   obtain ⟨A,cap,rfl,hcap,hA⟩:=hH.sl_alive hal hx
   refine ⟨rfl, ?_, ?_⟩
   ·intro r hr
    obtain ⟨A', _,h1⟩:=hH.obj _ _ _ _ _ ho
    have hm:=List.mem_of_mem_drop (List.mem_of_mem_take hr)
    rcases h1 with ⟨_,rfl⟩|⟨a,bs, _, _,hrr⟩
    ·cases hm
    ·exact hrr.rows r hm
   ·rcases hA with ⟨rfl,rfl,rfl, _⟩|⟨rfl, _,hA⟩|⟨a,bs,hp,hsp,rfl,hcb⟩
    ·exact ⟨#[],ad,bo,ad,fun w' _ n hn=>by (try simp at hn);(try subst hn);simp [Builtin.firstCells]⟩
    ·obtain ⟨a',rfl⟩:=Option.isSome_iff_exists.1 hA
     exact ⟨#[],ad,bo,ad,fun w' _ n hn=>bQ⟩
    ·obtain ⟨A',hA',h1⟩:=hH.obj _ _ _ _ _ ho
     rw [hp] at hA'
     simp only [Option.some.injEq,Prod.mk.injEq,true_and] at hA'
     subst hA'
     rcases h1 with ⟨h1, _⟩|⟨a',bs',e,h0,hd⟩
     ·cases h1
     simp only [Option.some.injEq,Prod.mk.injEq] at e
     obtain ⟨rfl,rfl⟩:=e
     obtain ⟨C,T,hb,hC,hr,hl,hv,hrel⟩:=hd.cells hsp
     have hm:=Nat.mul_le_mul_right sz hle
     rw [Nat.add_mul] at hm
     have e1:(C.toList.drop (a.off+i * sz)).take (len * sz)=(((C.toList.drop a.off).take (rs.length * sz)).drop (i * sz)).take (len * sz):=by
      rw [List.drop_take,List.drop_drop,List.take_take];congr 1;omega
     refine ⟨⟨(C.toList.drop (a.off+i * sz)).take (len * sz)⟩,ak, ?_, ?_,fun w' hw' n hn=> ?_⟩
     ·simp only [e1]
      rw [zdE (fun r hr0=>hr r (List.mem_of_mem_drop hr0)),zdD hr]
      exact (hrel.drop _).take _
     ·intro u hu
      simp only [e1] at hu
      exact hv u (List.mem_of_mem_drop (List.mem_of_mem_take hu))
     ·simp only [Builtin.firstCells]
      have hnm:=Nat.mul_le_mul_right sz hn
      rw [zdg (a:=⟨a.block,a.off+i * sz,none⟩) rfl (by rw [hw'];exact hb) (n * sz) ah,List.take_take,Nat.min_eq_left hnm]
  ·exact hc.elim
 ·rename_i sz' rows
  cases hx with
  |nil _ A cap=>exact ⟨rfl,ad, #[],ad,bo,ad,fun w' _ n hn=>bC⟩
  | @lst _ _ a len cap C T fz hs hM hb hr hl hcs hcap hv hrel=>
   subst hl
   rcases hc with rfl|rfl
   ·exact ⟨rfl,ad, #[],ad,bo,ad,fun w' _ n hn=>bQ⟩
   ·exact ⟨rfl,hr,⟨(C.toList.drop a.off).take (rows.length * sz)⟩,ak,hrel,hv,fun w' hw' n hn=>by
     have hnm:=Nat.mul_le_mul_right sz hn
     simp only at hnm
     simp only [Builtin.firstCells];rw [zdg hs (by rw [hw'];exact hb) (n * sz) aa,List.take_take,Nat.min_eq_left hnm]⟩
 ·rename_i A c
  cases hx
  exact ⟨rfl,ad, #[],ad,bo,ad,fun w' _ n hn=>bC⟩
 ·exact hc.elim

theorem zd3 (hH:zaE φ F w M0 h){x:AV}{v:Value}{sz:Nat} (hsz:0<sz) (hx:Rel φ w (Or M0 (Mut φ h)) x v) (hc:(zat x sz h).1):
  (Builtin.lenOf v).run P w= .ok (zat x sz h).2.length w∧(∀r ∈ (zat x sz h).2,r.length=sz)∧∃X:Array Value,X.size=(zat x sz h).2.length * sz∧
   zaJ φ w (Or M0 (Mut φ h)) (zat x sz h).2.flatten X.toList∧(∀u ∈ X.toList,zch u=true)∧
   ∀w':World,w'.heap=w.heap→(Builtin.firstCells sz (zat x sz h).2.length v).run P w'= .ok X w':=by
 obtain ⟨h1,h2,X,h3,h4,h5,h6⟩:=zmh (P:=P) hH hsz hx hc
 refine ⟨h1,h2,X,h3,h4,h5,fun w' hw'=> ?_⟩
 rw [h6 w' hw' _ (Nat.le_refl _),List.take_of_length_le (by rw [Array.length_toList,h3];exact Nat.le_refl _)]
theorem zqF (need:Nat):∀ (k c:Nat),c<need→Builtin.growBy need k c≤2 * need+192
 |0,c,hc=>by simp [Builtin.growBy];omega
 |k+1,c,hc=>by
  simp only [Builtin.growBy]
  rw [if_neg aa]
  by_cases h:c+(c+768) / 4<need
  ·exact zqF need k _ h
  ·have:Builtin.growBy need k (c+(c+768) / 4)=c+(c+768) / 4:=by
    cases k with
    |zero=>rfl
    |succ k=>simp only [Builtin.growBy];rw [if_pos aa]
   rw [this];omega
theorem zn2 {need cap:Nat} (hc:cap<need):Builtin.nextslicecap need cap≤2 * need+192:=by
 unfold Builtin.nextslicecap
 split
 ·omega
 ·split
  ·omega
  ·exact zqF _ _ _ hc
theorem zm4 (u:Array Value) (k:Nat) (hu:0<u.size):(Builtin.zeroCells u k).toList=(List.replicate k u.toList).flatten:=zgo u hu k

theorem zcc {e st xt:TypeId}{sz len cap m:Nat}{base:Option Addr}{v:Value} (h1:P.underlying st=some (.slice e)) (h2:∃e',tk P xt= .sl e') (hsz:tsz P e=some sz)
  (hn:(Builtin.lenOf v).run P w= .ok m w) (hle:len+m≤cap) {X:Array Value} (hX:(Builtin.firstCells sz m v).run P w= .ok X w) {ty:TypeId}:
  (Builtin.append_ #[st,xt] ty #[.slice base len cap,v]).run P w=((match base with|some a=>storeCells (a.add (len * sz)) X.toList|none=>pure ()).run P w).andThen fun _ w'=> .ok (.slice base (len+m) cap) w':=by
 obtain ⟨e',h2⟩:=h2
 unfold Builtin.append_
 simp only [List.getElem?_toArray,List.getElem?_cons_zero,List.getElem?_cons_succ,Sem.run_bind,zaj h1,Result.andThen_ok,zaY hsz,zaj (zcE h2),Sem.run_pure,
  Bool.false_eq_true,if_false,hn,hle,if_true,Bool.not_false,hX]
 cases base<;>simp
theorem zeL {e st xt:TypeId}{sz len cap m by_:Nat}{base:Option Addr}{v:Value} (h1:P.underlying st=some (.slice e)) (h2:∃e',tk P xt= .sl e') (hsz:tsz P e=some sz)
  (hby:tby P e=some by_) (hn:(Builtin.lenOf v).run P w= .ok m w) (hlt:¬len+m≤cap) (hb1:by_≤1024) (hb0:0<by_) (hb2:(len+m) * by_≤17592186044416) {X Y:Array Value} {u:Value}
  (hX:∀w':World,w'.heap=w.heap→(Builtin.firstCells sz m v).run P w'= .ok X w') (hY:∀w':World,w'.heap=w.heap→(Builtin.firstCells sz len (.slice base len cap)).run P w'= .ok Y w')
  (hu:∀w':World,(zeroValue e).run P w'= .ok u w') {ty:TypeId}:
  ∃newcap d,(w.drawn≤d∧len+m≤newcap)∧(Builtin.append_ #[st,xt] ty #[.slice base len cap,v]).run P w=
   .ok (.slice (some ⟨w.heap.size,0,none⟩) (len+m) newcap) { w with heap:=w.heap.push (.cells (Y++X++Builtin.zeroCells u.cells (newcap - (len+m))) e),drawn:=d}:=by
 obtain ⟨e',h2⟩:=h2
 obtain ⟨inf,hinf,rfl⟩:=zfD (P:=P) (w:=w) hby
 have hmm:len+m≤17592186044416:=Nat.le_trans (Nat.le_mul_of_pos_right _ hb0) hb2
 have hcap:cap<len+m:=aa
 have hnext:=zn2 hcap
 have hbig:¬(Builtin.nextslicecap (len+m) cap * inf.bytes>2 ^ 48):=by
  have a1:=Nat.mul_le_mul_right inf.bytes hnext
  have a2:(2 * (len+m)+192) * inf.bytes=2 * ((len+m) * inf.bytes)+192 * inf.bytes:=by rw [Nat.add_mul,Nat.mul_assoc]
  omega
 have hmax:¬(((len+m:Nat):Int)>IntKind.i64.max∧(False∨inf.bytes=0)):=by
  rintro ⟨hh, _⟩
  simp [IntKind.max,IntKind.signed,IntKind.bits] at hh
  omega
 obtain ⟨q,hq⟩:∃q,q=(Question.appendCap (len+m) cap e).cut (w.tape w.drawn (.appendCap (len+m) cap e)):=⟨_,rfl⟩
 have hqle:len+m≤q:=by rw [hq];simp only [Question.cut];omega
 refine ⟨q,w.drawn+1,⟨Nat.le_succ _,hqle⟩, ?_⟩
 have hti:∀w':World,(typeInfo e).run P w'= .ok inf w':=by
  intro w'
  unfold typeInfo at hinf ⊢
  simp only [Sem.run_bind,run_program,Result.andThen_ok] at hinf ⊢
  cases hi:P.info? e with
  |none=>simp [hi] at hinf
  |some i=>simp [hi] at hinf ⊢;exact hinf
 have hX':=hX { w with drawn:=w.drawn+1} rfl
 have hY':=hY { w with drawn:=w.drawn+1} rfl
 have hu':=hu { w with drawn:=w.drawn+1}
 unfold Builtin.append_
 simp only [List.getElem?_toArray,List.getElem?_cons_zero,List.getElem?_cons_succ,Sem.run_bind,zaj h1,Result.andThen_ok,zaY hsz,zaj (zcE h2),Sem.run_pure,
  Bool.false_eq_true,if_false,hn,hlt,Bool.not_false,if_true,hti,hmax,hbig,run_choose,Question.forced,← hq,run_askRoom,hY',hX',hu',zd4,Sem.run_map]
theorem zkd {e st xt:TypeId}{sz by_:Nat}{l:Int}{k:IntKind} (h1:P.underlying st=some (.slice e)) (h2:P.underlying xt=some (.int k)) (hsz:tsz P e=some sz) (hsz0:0<sz)
  (hby:tby P e=some by_) (hl:0<l) (hl2:l≤17179869184) (hb1:by_≤1024) {u:Value} (hu:∀w':World,(zeroValue e).run P w'= .ok u w') {ty:TypeId}:
  ∃newcap d,(w.drawn≤d∧l.toNat≤newcap)∧(Builtin.append_ #[st,xt] ty #[.slice none 0 0, .int .i64 l]).run P w=
   .ok (.slice (some ⟨w.heap.size,0,none⟩) l.toNat newcap) { w with heap:=w.heap.push (.cells (Builtin.zeroCells u.cells l.toNat++Builtin.zeroCells u.cells (newcap - l.toNat)) e),drawn:=d}:=by
 obtain ⟨inf,hinf,rfl⟩:=zfD (P:=P) (w:=w) hby
 have hcap:0<0+l.toNat:=aa
 have hnext:=zn2 (need:=0+l.toNat) (cap:=0) hcap
 have hb2:(inf.bytes:Int) * l≤1024 * l:=Int.mul_le_mul_of_nonneg_right aa aa
 have hb3:¬(l * (inf.bytes:Int)>2 ^ 48):=by rw [Int.mul_comm];omega
 have hbig:¬(Builtin.nextslicecap (0+l.toNat) 0 * inf.bytes>2 ^ 48):=by
  have a1:=Nat.mul_le_mul_right inf.bytes hnext
  have a2:(2 * (0+l.toNat)+192) * inf.bytes≤(2 * (0+l.toNat)+192) * 1024:=Nat.mul_le_mul_left _ hb1
  omega
 have hmax:¬(((0+l.toNat:Nat):Int)>IntKind.i64.max∧(True∨inf.bytes=0)):=by
  rintro ⟨hh, _⟩
  simp [IntKind.max,IntKind.signed,IntKind.bits] at hh
  omega
 have w1:IntKind.i64.wrap l=l:=zz1 aa aa
 obtain ⟨q,hq⟩:∃q,q=(Question.appendCap (0+l.toNat) 0 e).cut (w.tape w.drawn (.appendCap (0+l.toNat) 0 e)):=⟨_,rfl⟩
 have hqle:l.toNat≤q:=by rw [hq];simp only [Question.cut];omega
 refine ⟨q,w.drawn+1,⟨Nat.le_succ _,hqle⟩, ?_⟩
 have hti:∀w':World,(typeInfo e).run P w'= .ok inf w':=by
  intro w'
  unfold typeInfo at hinf ⊢
  simp only [Sem.run_bind,run_program,Result.andThen_ok] at hinf ⊢
  cases hi:P.info? e with
  |none=>simp [hi] at hinf
  |some i=>simp [hi] at hinf ⊢;exact hinf
 have hneg:¬l<0:=aa
 have hns:¬l.toNat * sz=0:=by
  have:=Nat.mul_pos (show 0<l.toNat by omega) hsz0
  omega
 have hlt:¬0+l.toNat≤0:=aa
 unfold Builtin.append_
 simp only [List.getElem?_toArray,List.getElem?_cons_zero,List.getElem?_cons_succ,Sem.run_bind,zaj h1,Result.andThen_ok,zaY hsz,zaj h2,Sem.run_pure,
  if_true,asInt,zbR,w1,hneg,if_false,hti,hb3,hns,Bool.not_true,Bool.false_eq_true,hlt,hmax,hbig,run_choose,Question.forced,← hq,run_askRoom,Builtin.firstCells,hu,zd4,Sem.run_map]
 simp
theorem zpV (hH:zaE φ F w M0 h) (hn:F n){st xt:TypeId}{k:IntKind}{ty:TypeId}{s x:AV}{vs vx:Value} (hk:tk P xt= .int k) (hs:Rel φ w (Or M0 (Mut φ h)) s vs) (hx:Rel φ w (Or M0 (Mut φ h)) x vx)
  (hc:(zeU P n st s x).cond):ztG P φ F n w M0 h (zeU P n st s x) (Builtin.append_ #[st,xt] ty #[vs,vx]):=by
 have h2:∃k,P.underlying xt=some (.int k):=by
  unfold tk at hk
  split at hk<;>first|exact ⟨_,by assumption⟩|cases hk
 obtain ⟨k',h2⟩:=h2
 unfold zeU at hc ⊢
 split at hc
 ·rename_i e l ht
  cases hs;cases hx
  split at hc
  ·rename_i sz z by_ hsz hz hb
   try simp only [hsz,hz,hb]
   obtain ⟨h1,h3,h4,h5,h6⟩:=hc
   have hu0:=fun w':World=>zbx (P:=P) (w:=w') hz
   obtain ⟨u,hu,hzu,hcv⟩:=hu0 w
   have huall:∀w':World,(zeroValue e).run P w'= .ok u w':=by
    intro w'
    obtain ⟨u',hu',hzu', _⟩:=hu0 w'
    have:(zeroValue e).run P w'= .ok u w':=by
     unfold zeroValue typeInfo at hu ⊢
     simp only [Sem.run_bind,run_program,Result.andThen_ok] at hu ⊢
     cases hi:P.info? e with
     |none=>simp [hi] at hu
     |some i=>
      simp only [hi,Sem.run_pure,Result.andThen_ok] at hu ⊢
      cases hz':i.zero with
      |none=>simp [hz'] at hu
      |some z'=>simp [hz'] at hu ⊢;exact hu
    exact this
   subst hzu
   have hus:u.cells.size=sz:=by simpa using h3
   obtain ⟨q,d,⟨hdw,hq⟩,hrun⟩:=zkd (P:=P) (w:=w) (ty:=ty) (zcE ht) h2 hsz h1 hb h4 h6 h5 huall
   have hZ:∀m,(Builtin.zeroCells u.cells m).toList=(List.replicate m u.cells.toList).flatten:=fun m=>by
    unfold Builtin.zeroCells
    exact zgo u.cells aa _
   have hZs:∀m,(Builtin.zeroCells u.cells m).size=m * sz:=fun m=>by simp [Builtin.zeroCells,hus]
   have hH1:=hH.of_heap (w':={ w with drawn:=d}) rfl
   have hst:zc8 φ w M0 h φ { w with drawn:=d} h:= .of_heap rfl rfl rfl hdw rfl
   have htk:(Builtin.zeroCells u.cells l.toNat++Builtin.zeroCells u.cells (q - l.toNat)).toList.take (l.toNat * sz)=(List.replicate l.toNat u.cells.toList).flatten:=by
    rw [Array.toList_append,List.take_left' (by rw [Array.length_toList,hZs]),hZ]
   have hCs:(Builtin.zeroCells u.cells l.toNat++Builtin.zeroCells u.cells (q - l.toNat)).size=q * sz:=by
    rw [Array.size_append,hZs,hZs,← Nat.add_mul];congr 1;omega
   obtain ⟨a,b⟩:=hH1.new hn (sz:=sz) (rs:=List.replicate l.toNat (u.cells.toList.map .v)) (C:=Builtin.zeroCells u.cells l.toNat++Builtin.zeroCells u.cells (q - l.toNat)) (T:=e)
    (fun r hr=>by rw [(List.mem_replicate.1 hr).2];simpa using hus) (by rw [List.length_replicate,hCs];exact Nat.mul_le_mul_right _ hq)
    (fun x hm=>by
     rw [List.length_replicate] at hm
     have hm:x ∈ (List.replicate l.toNat u.cells.toList).flatten:=by rw [← htk];exact hm
     obtain ⟨q,hq,hm⟩:=List.mem_flatten.1 hm
     rw [(List.mem_replicate.1 hq).2] at hm
     exact hcv x hm)
    (by
     rw [List.length_replicate,htk]
     have:=zjU (zc2 (φ:=φ) (w:={ w with drawn:=d}) (M:=Or M0 (Mut φ h)) u.cells.toList) (Nat.le_refl l.toNat)
     have hlen:(List.replicate l.toNat u.cells.toList).flatten.length=l.toNat * sz:=by rw [← hZ,Array.length_toList,hZs]
     rw [h3,List.take_of_length_le (by rw [hlen];exact Nat.le_refl _)] at this
     exact this)
   refine ⟨_, _, _,hrun, ?_,a,hst.trans b⟩
   refine .sl (zax _ _ _) (Nat.le_refl _) fun _=> .inr (.inr ⟨_, _,q,rfl,rfl,ad,hq, ?_⟩)
   simp only [hCs];omega
  ·exact hc.elim
 ·exact hc.elim
theorem zsn (hH:zaE φ F w M0 h) (hn:F n){tys:Array TypeId}{ty:TypeId}{s x:AV}{vs vx:Value} (hs:Rel φ w (Or M0 (Mut φ h)) s vs) (hx:Rel φ w (Or M0 (Mut φ h)) x vx)
  (hc:(zdX P n tys.toList s x h).cond):ztG P φ F n w M0 h (zdX P n tys.toList s x h) (Builtin.append_ tys ty #[vs,vx]):=by
 unfold zdX at hc ⊢
 split at hc
 ·rename_i st xt htys
  obtain rfl:tys= #[st,xt]:=cp
  simp only at htys
  split at hc
  ·rename_i e e' ht ht'
   split at hc
   ·rename_i sz by_ z hsz hby hz
    have hu0:=fun w':World=>zbx (P:=P) (w:=w') hz
    obtain ⟨u,hu,hzu,hcv⟩:=hu0 w
    have huall:∀w':World,(zeroValue e).run P w'= .ok u w':=by
     intro w'
     obtain ⟨u',hu',hzu', _⟩:=hu0 w'
     have:(zeroValue e).run P w'= .ok u w':=by
      unfold zeroValue typeInfo at hu ⊢
      simp only [Sem.run_bind,run_program,Result.andThen_ok] at hu ⊢
      cases hi:P.info? e with
      |none=>simp [hi] at hu
      |some i=>
       simp only [hi,Sem.run_pure,Result.andThen_ok] at hu ⊢
       cases hz':i.zero with
       |none=>simp [hz'] at hu
       |some z'=>simp [hz'] at hu ⊢;exact hu
     exact this
    split at hc
    · -- onto nil
     cases hs
     obtain ⟨h1,h2,h3,h4,h5,h6⟩:=hc
     obtain ⟨r1,r2,X,r3,r4,r5,r6⟩:=zd3 (P:=P) hH h2 hx h1
     have hus:0<u.cells.size:=cy
     have hus':u.cells.size=sz:=cI
     by_cases h0:(zat x sz h).2.length=0
     ·have hnil:(zat x sz h).2= []:=List.eq_nil_of_length_eq_zero h0
      have hX0:X.toList= []:=by
       apply List.eq_nil_of_length_eq_zero
       rw [Array.length_toList,r3,h0];simp
      obtain ⟨a,b⟩:=hH.newNil hn sz
      refine ⟨.slice none 0 0,w, _, ?_, ?_,by simp only [zam,hnil];exact a,by simp only [zam,hnil];exact b⟩
      ·have:=zcc (P:=P) (w:=w) (len:=0) (cap:=0) (base:=none) (ty:=ty) (zcE ht) ⟨e',ht'⟩ hsz r1 aa (r6 w rfl)
       rw [this]
       simp [h0]
      ·simp only [hnil]
       exact .sl (zax _ _ _) (Nat.le_refl _) fun _=> .inl ⟨rfl,rfl,rfl,rfl⟩
     ·obtain ⟨nc,d,⟨hdw,hnc⟩,hrun⟩:=zeL (P:=P) (w:=w) (len:=0) (cap:=0) (base:=none) (ty:=ty) (Y:= #[]) (zcE ht) ⟨e',ht'⟩ hsz hby r1 aa h5 h4 (by simpa using h6) r6
       (fun w' _=>by simp [Builtin.firstCells]) huall
      simp only [Nat.zero_add] at hnc hrun
      have hH1:=hH.of_heap (w':={ w with drawn:=d}) rfl
      have hst:zc8 φ w M0 h φ { w with drawn:=d} h:= .of_heap rfl rfl rfl hdw rfl
      have hCl:(#[]++X++Builtin.zeroCells u.cells (nc - (zat x sz h).2.length)).toList.take ((zat x sz h).2.length * sz)=X.toList:=by
       have:X.toList.length=(zat x sz h).2.length * sz:=cP
       simp only [Array.toList_append,List.nil_append]
       rw [List.take_left' this]
      have hCs:(#[]++X++Builtin.zeroCells u.cells (nc - (zat x sz h).2.length)).size=nc * sz:=by
       have:(Builtin.zeroCells u.cells (nc - (zat x sz h).2.length)).size=(nc - (zat x sz h).2.length) * sz:=by
        simp [Builtin.zeroCells,hus']
       simp only [Array.size_append,this,r3]
       rw [show (#[]:Array Value).size=0 from rfl,Nat.zero_add,← Nat.add_mul]
       congr 1;omega
      obtain ⟨a,b⟩:=hH1.new hn (sz:=sz) (rs:=(zat x sz h).2) (C:= #[]++X++Builtin.zeroCells u.cells (nc - (zat x sz h).2.length)) (T:=e) r2
       (by rw [hCs];exact Nat.mul_le_mul_right _ hnc) (by rw [hCl];exact r5) (by rw [hCl];exact hst.relL r4)
      refine ⟨_, _, _,hrun, ?_,a,hst.trans b⟩
      refine .sl (zax _ _ _) (Nat.le_refl _) fun _=> .inr (.inr ⟨_, _,nc,rfl,rfl,ad,hnc, ?_⟩)
      simp only [hCs];omega
    · -- onto an owned slice
     rename_i o g sz' i len
     split at hc
     ·rename_i mt g' sz'' rs ho
      obtain ⟨h1,h2,h3,rfl,rfl,rfl,rfl,h8,h9,h5,h6⟩:=hc
      simp only [ho]
      obtain ⟨r1,r2,X,r3,r4,r5,r6⟩:=zd3 (P:=P) hH h2 hx h1
      have hus:0<u.cells.size:=cy
      have hus':u.cells.size=sz:=cI
      have hal:zcG h o g sz:=bt
      obtain ⟨A,cap,rfl,hcap,hA⟩:=hH.sl_alive hal hs
      obtain ⟨A0,hA0,hobj⟩:=hH.obj _ _ _ _ _ ho
      have hrr:∀r ∈ rs.drop i++(zat x sz h).2,r.length=sz:=by
       intro r hm
       rcases List.mem_append.1 hm with hm|hm
       ·rcases hobj with ⟨_,rfl⟩|⟨a,bs, _, _,hr⟩
        ·simp at hm
        ·exact hr.rows r (List.mem_of_mem_drop hm)
       ·exact r2 r hm
      have hol:¬F o:=fun hle=>bp
      have hold:∃Y:Array Value,Y.size=len * sz∧zaJ φ w (Or M0 (Mut φ h)) (rs.drop i).flatten Y.toList∧(∀c ∈ Y.toList,zch c=true)∧
        ∀w':World,w'.heap=w.heap→(Builtin.firstCells sz len (.slice A len cap)).run P w'= .ok Y w':=by
       have hself:=zd3 (P:=P) (x:= .sl o g sz i len) hH h2 hs (by simp [zat,ho];omega)
       obtain ⟨_, _,Y,y1,y2,y3,y4⟩:=hself
       have e1:(zat (.sl o g sz i len) sz h).2=rs.drop i:=by
        simp only [zat,ho];exact List.take_of_length_le ak
       have e2:(rs.drop i).length=len:=ak
       rw [e1,e2] at y1 y4
       rw [e1] at y2
       exact ⟨Y,y1,y2,y3,y4⟩
      obtain ⟨Y,y1,y2,y3,y4⟩:=hold
      have hdl:(rs.drop i).length=len:=ak
      by_cases hle:len+(zat x sz h).2.length≤cap
      ·rcases hA with ⟨rfl,rfl,rfl,rfl⟩|⟨rfl,rfl,hA⟩|⟨a,bs,hp,hsp,rfl,hcb⟩
       · -- a nil slice, nothing added
        have h0:(zat x sz h).2.length=0:=aa
        have hnil:(zat x sz h).2= []:=List.eq_nil_of_length_eq_zero h0
        have hdn:rs.drop 0= []:=List.eq_nil_of_length_eq_zero hdl
        have hle0:φ.le (upd φ o (some (g+1,none))):=by
         intro o' y hy
         by_cases eo:o'=o
         ·subst eo;rw [hA0] at hy;simp only [Option.some.injEq] at hy;subst hy
          exact ⟨_,zax _ _ _,ad,fun hh=>by simp at hh⟩
         ·exact ⟨y,bu,Nat.le_refl _,fun _=>rfl⟩
        obtain ⟨q1,q2,q3⟩:=hH.set (w':=w) (F':=F) (o:=o) (mt:=true) (g:=g+1) (sz:=sz) (rs:= []) (A:=none) (fun _ h=>h) hol (Nat.le_refl _) hle0
         (fun k _ hk=>rfl) (fun o' mt g sz rs a b _ ho hp=>⟨rfl,fun a₁ b₁ e=>by cases e⟩) (fun a b e=>by cases e) (.inl (.inl ⟨rfl,rfl⟩))
        refine ⟨.slice none 0 0,w, _, ?_, ?_,dl,⟨hle0,dm,Fr.refl _ _, ?_⟩⟩
        ·have:=zcc (P:=P) (w:=w) (len:=0) (cap:=0) (base:=none) (ty:=ty) (zcE ht) ⟨e',ht'⟩ hsz r1 hle (r6 w rfl)
         rw [this];simp [h0]
        ·simp only [h0]
         exact .sl (zax _ _ _) (Nat.le_refl _) fun _=> .inl ⟨rfl,rfl,rfl,rfl⟩
        ·simp only [zam,hnil,hdn,List.append_nil]
         intro k hk
         rcases q3 k hk with h|⟨a,b,e, _⟩
         ·exact .inl h
         ·cases e
       ·have h0:(zat x sz h).2.length=0:=by omega
        have hnil:(zat x sz h).2= []:=List.eq_nil_of_length_eq_zero h0
        have hdn:rs.drop i= []:=List.eq_nil_of_length_eq_zero hdl
        obtain ⟨a',rfl⟩:=Option.isSome_iff_exists.1 hA
        have hX0:X.toList= []:=by
         apply List.eq_nil_of_length_eq_zero
         rw [Array.length_toList,r3,h0];simp
        have hle0:φ.le (upd φ o (some (g+1,none))):=by
         intro o' y hy
         by_cases eo:o'=o
         ·subst eo;rw [hA0] at hy;simp only [Option.some.injEq] at hy;subst hy
          exact ⟨_,zax _ _ _,ad,fun hh=>by simp at hh⟩
         ·exact ⟨y,bu,Nat.le_refl _,fun _=>rfl⟩
        obtain ⟨q1,q2,q3⟩:=hH.set (w':=w) (F':=F) (o:=o) (mt:=true) (g:=g+1) (sz:=sz) (rs:= []) (A:=none) (fun _ h=>h) hol (Nat.le_refl _) hle0
         (fun k _ hk=>rfl) (fun o' mt g sz rs a b _ ho hp=>⟨rfl,fun a₁ b₁ e=>by cases e⟩) (fun a b e=>by cases e) (.inl (.inl ⟨rfl,rfl⟩))
        refine ⟨.slice (some a') 0 0,w, _, ?_, ?_,dl,⟨hle0,dm,Fr.refl _ _, ?_⟩⟩
        ·have:=zcc (P:=P) (w:=w) (len:=0) (cap:=0) (base:=some a') (ty:=ty) (zcE ht) ⟨e',ht'⟩ hsz r1 hle (r6 w rfl)
         rw [this];simp [h0,hX0,storeCells]
        ·simp only [h0]
         exact .sl (zax _ _ _) (Nat.le_refl _) fun _=> .inr (.inl ⟨rfl,a',rfl⟩)
        ·simp only [zam,hnil,hdn,List.append_nil]
         intro k hk
         rcases q3 k hk with h|⟨a,b,e, _⟩
         ·exact .inl h
         ·cases e
       · -- in place
        rw [hp] at hA0
        simp only [Option.some.injEq,Prod.mk.injEq,true_and] at hA0
        subst hA0
        rcases hobj with ⟨hobj, _⟩|⟨a₁,bs₁,e1,h0,hd⟩
        ·cases hobj
        simp only [Option.some.injEq,Prod.mk.injEq] at e1
        obtain ⟨rfl,rfl⟩:=e1
        obtain ⟨C,T,hb,hC,hr,hl,hv,hrel⟩:=hd.cells hsp
        have hXl:X.toList.length=(zat x sz h).2.length * sz:=cP
        have hmul:=Nat.mul_le_mul_right sz hle
        rw [Nat.add_mul] at hmul
        obtain ⟨w',hrun,hw'⟩:=zcK (P:=P) (a:=⟨a.block,a.off+i * sz+len * sz,none⟩) (T:=T) rfl X.toList 0 w C hb (by simp only [hXl];omega) r5
        have hM:∀k,¬Or M0 (Mut φ h) k→k≠a.block:=fun k hk e=>hk (.inr ⟨o,g,sz,rs,g,a,bs,ho,hp,e.symm⟩)
        have hle0:φ.le (upd φ o (some (g+1,some ((⟨a.block,a.off+i * sz,none⟩:Addr),bs)))):=by
         intro o' y hy
         by_cases eo:o'=o
         ·subst eo;rw [hp] at hy;simp only [Option.some.injEq] at hy;subst hy
          exact ⟨_,zax _ _ _,ad,fun hh=>by simp at hh⟩
         ·exact ⟨y,bu,Nat.le_refl _,fun _=>rfl⟩
        have hYe:Y.toList=(C.toList.drop (a.off+i * sz)).take (len * sz):=by
         have h1:=y4 w rfl
         simp only [Builtin.firstCells] at h1
         rw [zdg (a:=⟨a.block,a.off+i * sz,none⟩) rfl hb (len * sz) ah] at h1
         simp only [Result.ok.injEq,and_true] at h1
         rw [← h1]
        have hlen':(rs.drop i++(zat x sz h).2).length=len+(zat x sz h).2.length:=b8
        have hwin:(((⟨zfA C.toList (a.off+i * sz+len * sz) X.toList⟩:Array Value).toList.drop (a.off+i * sz)).take ((len+(zat x sz h).2.length) * sz))=Y.toList++X.toList:=by
         rw [zcb _ _ _ _ _ (by rw [hXl,Nat.add_mul];omega)]
         have e2:(C.toList.drop (a.off+i * sz)).take ((len+(zat x sz h).2.length) * sz)=Y.toList++((C.toList.drop (a.off+i * sz)).drop (len * sz)).take ((zat x sz h).2.length * sz):=by
          rw [hYe,Nat.add_mul,List.take_add]
         rw [e2]
         have happ:∀ (us p q:List Value) (k:Nat),zfA (p++q) (p.length+k) us=p++zfA q k us:=by
          intro us
          induction us with
          |nil=>intro p q k;rfl
          |cons c cs ih=>intro p q k;rw [zfA,zfA,List.set_append_right _ _ aa,Nat.add_assoc,show p.length+k - p.length=k by omega,ih p _ (k+1)]
         have hall:∀ (us l p:List Value),l.length=us.length→zfA (p++l) p.length us=p++us:=by
          intro us
          induction us with
          |nil=>intro l p hh;simp at hh;subst hh;simp [zfA]
          |cons c cs ih=>
           intro l p hh
           cases l with
           |nil=>simp at hh
           |cons y l=>
            rw [zfA,List.set_append_right _ _ aa]
            simp only [Nat.sub_self,List.set_cons_zero]
            have:=ih l (p++ [c]) (by simpa using hh)
            simpa using this
         have hYl:Y.toList.length=len * sz:=by rw [Array.length_toList,y1]
         rw [← hYl]
         apply hall
         rw [List.length_take,List.length_drop,List.length_drop,hXl,Array.length_toList,hYl]
         omega
        obtain ⟨q1,q2,q3⟩:=hH.set (w':=w') (F':=F) (o:=o) (mt:=true) (g:=g+1) (sz:=sz) (rs:=rs.drop i++(zat x sz h).2) (A:=some (⟨a.block,a.off+i * sz,none⟩,bs))
         (fun _ h=>h) hol aG hle0 (fun k hk _=>hw'.other k (hM k hk))
         (fun o' mt' g' sz' rs' a₁ b₁ hne ho' hp'=>by
          have:=hH.inj _ _ _ _ _ _ _ _ _ _ _ _ _ _ ho ho' (Ne.symm hne) (.inl rfl) hp hp'
          refine ⟨hw'.other _ (Ne.symm this),fun a₂ b₂ e=> ?_⟩
          simp only [Option.some.injEq,Prod.mk.injEq] at e
          obtain ⟨rfl,rfl⟩:=e
          exact this)
         (fun a₁ b₁ e=>by
          simp only [Option.some.injEq,Prod.mk.injEq] at e
          obtain ⟨rfl,rfl⟩:=e
          exact .inl (.inr ⟨o,g,sz,rs,g,a,bs,ho,hp,rfl⟩))
         (.inr ⟨_,bs, _,T,rfl,rfl,h0,hw'.at_,aQ,hrr,
          by rw [hlen'];simp only [Nat.add_mul];omega,
          fun c hm=>by
           rw [hlen'] at hm
           simp only [Nat.add_zero] at hm
           rw [hwin] at hm
           rcases List.mem_append.1 hm with hm|hm
           ·exact y3 c hm
           ·exact r5 c hm,
          by
           rw [hlen']
           simp only [Nat.add_zero]
           rw [hwin,List.flatten_append]
           exact y2.append r4⟩)
        refine ⟨.slice (some ⟨a.block,a.off+i * sz,none⟩) (len+(zat x sz h).2.length) cap,w', _, ?_, ?_,q1,⟨hle0,q2,⟨hw'.os,hw'.tape,hw'.output,hw'.drawn,aG,
         fun k _ hu=>hw'.other k (fun e=>hu ⟨o,g,sz,rs,g,a,bs,ho,hp,e.symm⟩)⟩,fun k hk=> ?_⟩⟩
        ·have:=zcc (P:=P) (w:=w) (len:=len) (cap:=cap) (base:=some ⟨a.block,a.off+i * sz,none⟩) (ty:=ty) (zcE ht) ⟨e',ht'⟩ hsz r1 hle (r6 w rfl)
         rw [this]
         simp only [zcr (a:=⟨a.block,a.off+i * sz,none⟩) rfl,hrun,Result.andThen_ok]
        ·refine .sl (zax _ _ _) (Nat.le_refl _) fun _=> .inr (.inr ⟨_, _,cap,rfl,rfl,ad,hle, ?_⟩)
         simp only;omega
        ·rcases q3 k hk with h|⟨a₁,b₁,e,rfl⟩
         ·exact .inl h
         ·simp only [Option.some.injEq,Prod.mk.injEq] at e
          obtain ⟨rfl,rfl⟩:=e
          exact .inl ⟨o,g,sz,rs,g,a,bs,ho,hp,rfl⟩
      · -- into a new block
       obtain ⟨nc,d,⟨hdw,hnc⟩,hrun⟩:=zeL (P:=P) (w:=w) (len:=len) (cap:=cap) (base:=A) (ty:=ty) (Y:=Y) (zcE ht) ⟨e',ht'⟩ hsz hby r1 hle h5 h9 h6 r6 y4 huall
       have hH1:=hH.of_heap (w':={ w with drawn:=d}) rfl
       have hst:zc8 φ w M0 h φ { w with drawn:=d} h:= .of_heap rfl rfl rfl hdw rfl
       obtain ⟨Z,hZ⟩:∃Z:Array Value,Z=Y++X++Builtin.zeroCells u.cells (nc - (len+(zat x sz h).2.length)):=⟨_,rfl⟩
       rw [← hZ] at hrun
       have hlen':(rs.drop i++(zat x sz h).2).length=len+(zat x sz h).2.length:=b8
       have hCl:Z.toList.take ((len+(zat x sz h).2.length) * sz)=Y.toList++X.toList:=by
        have:(Y.toList++X.toList).length=(len+(zat x sz h).2.length) * sz:=bR
        rw [hZ]
        simp only [Array.toList_append]
        rw [List.take_left' this]
       have hCs:Z.size=nc * sz:=by
        have:(Builtin.zeroCells u.cells (nc - (len+(zat x sz h).2.length))).size=(nc - (len+(zat x sz h).2.length)) * sz:=by
         simp [Builtin.zeroCells,hus']
        rw [hZ]
        simp only [Array.size_append,this,r3,y1]
        rw [← Nat.add_mul,← Nat.add_mul]
        congr 1;omega
       have hle0:φ.le (upd φ o (some (g+1,some ((⟨w.heap.size,0,none⟩:Addr),Z.size)))):=by
        intro o' y hy
        by_cases eo:o'=o
        ·subst eo;rw [hA0] at hy;simp only [Option.some.injEq] at hy;subst hy
         exact ⟨_,zax _ _ _,ad,fun hh=>by simp at hh⟩
        ·exact ⟨y,bu,Nat.le_refl _,fun _=>rfl⟩
       obtain ⟨q1,q2,q3⟩:=hH1.set (w':={ w with heap:=w.heap.push (.cells Z e),drawn:=d}) (F':=F) (o:=o) (mt:=true) (g:=g+1) (sz:=sz) (rs:=rs.drop i++(zat x sz h).2)
        (A:=some (⟨w.heap.size,0,none⟩,Z.size)) (fun _ h=>h) hol ad hle0 (fun k _ hk=>zb4 w _ k hk)
        (fun o' mt g sz rs a b _ ho hp=>by
         have:=(hH.place_old ho hp).1
         refine ⟨zb4 w _ _ this,fun a₁ b₁ e=> ?_⟩
         simp only [Option.some.injEq,Prod.mk.injEq] at e
         obtain ⟨rfl, _⟩:=e
         exact fun e=>by simp only at e;omega)
        (fun a b e=>by
         simp only [Option.some.injEq,Prod.mk.injEq] at e
         obtain ⟨rfl, _⟩:=e
         exact .inr (Nat.le_refl _))
        (.inr ⟨⟨w.heap.size,0,none⟩,Z.size,Z,e,rfl,rfl,fun hm=>bP,zdY w _,rfl,hrr,
         by rw [hlen',hCs];simp only [Nat.zero_add];exact Nat.mul_le_mul_right _ hnc,
         fun c hm=>by
          rw [hlen'] at hm
          simp only [List.drop_zero,hCl] at hm
          rcases List.mem_append.1 hm with hm|hm
          ·exact y3 c hm
          ·exact r5 c hm,
         by
          rw [hlen']
          simp only [List.drop_zero,hCl,List.flatten_append]
          exact hst.relL (y2.append r4)⟩)
       refine ⟨_, _, _,hrun, ?_,q1,⟨hle0,q2,⟨rfl,rfl,rfl,hdw,ad,fun k hk _=>zb4 w _ k hk⟩,fun k hk=> ?_⟩⟩
       ·refine .sl (zax _ _ _) (Nat.le_refl _) fun _=> .inr (.inr ⟨_, _,nc,rfl,rfl,ad,hnc, ?_⟩)
        simp only [hCs];omega
       ·rcases q3 k hk with h|⟨a₁,b₁,e,rfl⟩
        ·exact .inl h
        ·simp only [Option.some.injEq,Prod.mk.injEq] at e
         obtain ⟨rfl,rfl⟩:=e
         exact .inr (Nat.le_refl _)
     ·exact hc.elim
    ·exact hc.elim
   ·exact hc.elim
  ·exact hc.elim
 ·exact hc.elim
theorem zaE.freeze {φ:zaz}{F:Nat→Prop}{w:World}{M0:Nat→Prop}{h h':zaq} (hH:zaE φ F w M0 h) (hf:Frz h h'):zaE φ F w M0 h'∧zc8 φ w M0 h φ w h':=by
 have hmut:∀k,Mut φ h' k→Mut φ h k:=by
  rintro k ⟨o,g,sz,rs,g',a,bs,ho,hp,rfl⟩
  rcases hf o with h1|⟨g1,sz1,rs1, _,h2⟩
  ·exact ⟨o,g,sz,rs,g',a,bs,by rw [← h1];exact ho,hp,rfl⟩
  ·rw [h2] at ho;cases ho
 have hold:∀o mt g sz rs,h' o=some (.rows mt g sz rs)→∃mt',h o=some (.rows mt' g sz rs)∧(mt=true→mt'=true):=by
  intro o mt g sz rs ho
  rcases hf o with h1|⟨g1,sz1,rs1,h1,h2⟩
  ·exact ⟨mt,by rw [← h1];exact ho,id⟩
  ·rw [h2] at ho
   simp only [Option.some.injEq,zbp.rows.injEq] at ho
   obtain ⟨rfl,rfl,rfl,rfl⟩:=ho
   exact ⟨true,h1,fun _=>rfl⟩
 have st:zc8 φ w M0 h φ w h':=⟨φ.le_refl,fun k hk=> .inl (hk.imp id (hmut k)),Fr.refl _ _,fun k hk=> .inl (hmut k hk)⟩
 refine ⟨⟨hH.m0,hH.fresh,fun o mt g sz rs ho=> ?_, ?_,hH.glob.keep (fun _ _ _=>rfl) (fun k hk=> .inl (hk.imp id (hmut k)))⟩,st⟩
 ·obtain ⟨mt',ho', _⟩:=hold _ _ _ _ _ ho
  obtain ⟨A,hA,h1⟩:=hH.obj _ _ _ _ _ ho'
  refine ⟨A,hA,h1.imp id ?_⟩
  rintro ⟨a,bs,e1,e3,e4⟩
  exact ⟨a,bs,e1,e3,e4.same rfl (fun e9=>st.relL e9)⟩
 ·intro o o' mt g sz rs mt' g' sz' rs' a a' b b' h1 h2 hne hm p1 p2
  obtain ⟨m1,q1,i1⟩:=hold _ _ _ _ _ h1
  obtain ⟨m2,q2,i2⟩:=hold _ _ _ _ _ h2
  exact hH.inj _ _ _ _ _ _ _ _ _ _ _ _ _ _ q1 q2 hne (hm.imp i1 i2) p1 p2
theorem zl9:∀ (us l:List Value) (k off n:Nat),off+n≤k→((zfA l k us).drop off).take n=(l.drop off).take n
 | [],l,k,off,n, _=>rfl
 |u::us,l,k,off,n,h=>by
  rw [zfA,zl9 us _ (k+1) off n aa]
  apply List.ext_getElem?
  intro j
  simp only [List.getElem?_take,List.getElem?_drop,List.getElem?_set]
  by_cases hj:j<n
  ·have:¬k=off+j:=by omega
   simp [hj,this]
  ·simp [hj]
theorem zn0 {k o g sz:Nat}{rs:List (List AV)}{A:Option (Addr×Nat)} (hH:zaE φ F w M0 h)
  (hk:∀o' g' sz' rs' a b,o'≠o→h o'=some (.rows true g' sz' rs')→φ o'=some (g',some (a,b))→a.block≠k):
  ¬Mut (upd φ o (some (g,A))) (upd h o (some (.rows false g sz rs))) k:=by
 rintro ⟨o',g',sz',rs',g'',a,bs,h1,h2,h3⟩
 by_cases e:o'=o
 ·subst e
  rw [zax] at h1
  cases h1
 ·rw [zbs _ _ e] at h1 h2
  obtain ⟨A2,hA2, _⟩:=hH.obj _ _ _ _ _ h1
  rw [h2] at hA2
  simp only [Option.some.injEq,Prod.mk.injEq] at hA2
  obtain ⟨rfl, _⟩:=hA2
  exact hk _ _ _ _ _ _ e h1 h2 h3
theorem zpU (hH:zaE φ F w M0 h) (hn:F n){tys:Array TypeId}{ty:TypeId}{s x:AV}{vs vx:Value} (hs:Rel φ w (Or M0 (Mut φ h)) s vs) (hx:Rel φ w (Or M0 (Mut φ h)) x vx)
  (hc:(zc9 P tys.toList s x h).cond):ztG P φ F n w M0 h (zc9 P tys.toList s x h) (Builtin.append_ tys ty #[vs,vx]):=by
 unfold zc9 at hc ⊢
 split at hc
 ·rename_i st xt htys
  obtain rfl:tys= #[st,xt]:=cp
  simp only at htys
  split at hc
  ·rename_i e e' ht ht'
   split at hc
   ·rename_i sz by_ z hsz hby hz
    have hu0:=fun w':World=>zbx (P:=P) (w:=w') hz
    obtain ⟨u,hu,hzu,hcv⟩:=hu0 w
    have huall:∀w':World,(zeroValue e).run P w'= .ok u w':=by
     intro w'
     obtain ⟨u',hu',hzu', _⟩:=hu0 w'
     have:(zeroValue e).run P w'= .ok u w':=by
      unfold zeroValue typeInfo at hu ⊢
      simp only [Sem.run_bind,run_program,Result.andThen_ok] at hu ⊢
      cases hi:P.info? e with
      |none=>simp [hi] at hu
      |some i=>
       simp only [hi,Sem.run_pure,Result.andThen_ok] at hu ⊢
       cases hz':i.zero with
       |none=>simp [hz'] at hu
       |some z'=>simp [hz'] at hu ⊢;exact hu
     exact this
    split at hc
    ·rename_i o g sz' i len
     split at hc
     ·rename_i mt g' sz'' rs ho
      obtain ⟨h1,h2,h3,rfl,rfl,rfl,rfl,h8,h9,h5,h6⟩:=hc
      simp only [ho]
      obtain ⟨r1,r2,X,r3,r4,r5,r6⟩:=zd3 (P:=P) hH h2 hx h1
      have hus:0<u.cells.size:=cy
      have hus':u.cells.size=sz:=cI
      have hal:zcG h o g sz:=bt
      have hself:=zd3 (P:=P) (x:= .sl o g sz i len) hH h2 hs (by simp [zat,ho];omega)
      obtain ⟨A,cap,rfl,hcap,hA⟩:=hH.sl_alive hal hs
      obtain ⟨A0,hA0,hobj⟩:=hH.obj _ _ _ _ _ ho
      have hrr:∀r ∈ rs.drop i++(zat x sz h).2,r.length=sz:=by
       intro r hm
       rcases List.mem_append.1 hm with hm|hm
       ·rcases hobj with ⟨_,rfl⟩|⟨a,bs, _, _,hr⟩
        ·simp at hm
        ·exact hr.rows r (List.mem_of_mem_drop hm)
       ·exact r2 r hm
      have hol:¬F o:=fun hle=>bp
      have hold:∃Y:Array Value,Y.size=len * sz∧zaJ φ w (Or M0 (Mut φ h)) (rs.drop i).flatten Y.toList∧(∀c ∈ Y.toList,zch c=true)∧
        ∀w':World,w'.heap=w.heap→(Builtin.firstCells sz len (.slice A len cap)).run P w'= .ok Y w':=by
       obtain ⟨_, _,Y,y1,y2,y3,y4⟩:=hself
       have e1:(zat (.sl o g sz i len) sz h).2=rs.drop i:=by
        simp only [zat,ho];exact List.take_of_length_le ak
       have e2:(rs.drop i).length=len:=ak
       rw [e1,e2] at y1 y4
       rw [e1] at y2
       exact ⟨Y,y1,y2,y3,y4⟩
      obtain ⟨Y,y1,y2,y3,y4⟩:=hold
      have hdl:(rs.drop i).length=len:=ak
      have hlen':(rs.drop i++(zat x sz h).2).length=len+(zat x sz h).2.length:=b8
      have hfz0:Frz h (zam [(o,some (.rows false g sz rs))] h):=fun o'=>by
       simp only [zam]
       by_cases eo:o'=o
       ·subst eo;exact .inr ⟨g,sz,rs,ho,aR⟩
       ·exact .inl (by simp [upd,eo])
      have hfz1:Frz (upd h o (some (.rows true g sz rs))) (zam [(o,some (.rows false g sz rs))] h):=fun o'=>by
       simp only [zam]
       by_cases eo:o'=o
       ·subst eo;exact .inr ⟨g,sz,rs,aR,aR⟩
       ·exact .inl (by simp [upd,eo])
      have hle0:φ.le (upd φ o (some (g,A0))):=by
       intro o' y hy
       by_cases eo:o'=o
       ·subst eo;rw [hA0] at hy;simp only [Option.some.injEq] at hy;subst hy
        exact ⟨_,zax _ _ _,Nat.le_refl _,fun _=>rfl⟩
       ·exact ⟨y,bu,Nat.le_refl _,fun _=>rfl⟩
      by_cases hle:len+(zat x sz h).2.length≤cap
      ·rcases hA with ⟨rfl,rfl,rfl,rfl⟩|⟨rfl,rfl,hA⟩|⟨a,bs,hp,hsp,rfl,hcb⟩
       · -- a nil slice, nothing added
        have h0:(zat x sz h).2.length=0:=aa
        have hnil:(zat x sz h).2= []:=List.eq_nil_of_length_eq_zero h0
        have hdn:rs.drop 0= []:=List.eq_nil_of_length_eq_zero hdl
        obtain ⟨q1,q2⟩:=hH.freeze hfz0
        refine ⟨.slice none 0 0,w,φ, ?_, ?_,q1,q2⟩
        ·have:=zcc (P:=P) (w:=w) (len:=0) (cap:=0) (base:=none) (ty:=ty) (zcE ht) ⟨e',ht'⟩ hsz r1 hle (r6 w rfl)
         rw [this];simp [h0]
        ·simp only [hnil,hdn,List.append_nil]
         exact .nil _ _ _
       ·have h0:(zat x sz h).2.length=0:=by omega
        have hnil:(zat x sz h).2= []:=List.eq_nil_of_length_eq_zero h0
        have hdn:rs.drop i= []:=List.eq_nil_of_length_eq_zero hdl
        obtain ⟨a',rfl⟩:=Option.isSome_iff_exists.1 hA
        have hX0:X.toList= []:=by
         apply List.eq_nil_of_length_eq_zero
         rw [Array.length_toList,r3,h0];simp
        obtain ⟨q1,q2⟩:=hH.freeze hfz0
        refine ⟨.slice (some a') 0 0,w,φ, ?_, ?_,q1,q2⟩
        ·have:=zcc (P:=P) (w:=w) (len:=0) (cap:=0) (base:=some a') (ty:=ty) (zcE ht) ⟨e',ht'⟩ hsz r1 hle (r6 w rfl)
         rw [this];simp [h0,hX0,storeCells]
        ·simp only [hnil,hdn,List.append_nil]
         exact .nil _ _ _
       · -- in place
        rw [hp] at hA0
        simp only [Option.some.injEq,Prod.mk.injEq,true_and] at hA0
        subst hA0
        rcases hobj with ⟨hobj, _⟩|⟨a₁,bs₁,e1,h0,hd⟩
        ·cases hobj
        simp only [Option.some.injEq,Prod.mk.injEq] at e1
        obtain ⟨rfl,rfl⟩:=e1
        obtain ⟨C,T,hb,hC,hr,hl,hv,hrel⟩:=hd.cells hsp
        have hXl:X.toList.length=(zat x sz h).2.length * sz:=cP
        have hmul:=Nat.mul_le_mul_right sz hle
        rw [Nat.add_mul] at hmul
        have hrsl:rs.length * sz=i * sz+len * sz:=by rw [← h8,Nat.add_mul]
        obtain ⟨w',hrun,hw'⟩:=zcK (P:=P) (a:=⟨a.block,a.off+i * sz+len * sz,none⟩) (T:=T) rfl X.toList 0 w C hb (by simp only [hXl];omega) r5
        have hM:∀k,¬Or M0 (Mut φ h) k→k≠a.block:=fun k hk e=>hk (.inr ⟨o,g,sz,rs,g,a,bs,ho,hp,e.symm⟩)
        have hYe:Y.toList=(C.toList.drop (a.off+i * sz)).take (len * sz):=by
         have h1:=y4 w rfl
         simp only [Builtin.firstCells] at h1
         rw [zdg (a:=⟨a.block,a.off+i * sz,none⟩) rfl hb (len * sz) ah] at h1
         simp only [Result.ok.injEq,and_true] at h1
         rw [← h1]
        have hwin:(((⟨zfA C.toList (a.off+i * sz+len * sz) X.toList⟩:Array Value).toList.drop (a.off+i * sz)).take ((len+(zat x sz h).2.length) * sz))=Y.toList++X.toList:=by
         rw [zcb _ _ _ _ _ (by rw [hXl,Nat.add_mul];omega)]
         have e2:(C.toList.drop (a.off+i * sz)).take ((len+(zat x sz h).2.length) * sz)=Y.toList++((C.toList.drop (a.off+i * sz)).drop (len * sz)).take ((zat x sz h).2.length * sz):=by
          rw [hYe,Nat.add_mul,List.take_add]
         rw [e2]
         have happ:∀ (us p q:List Value) (k:Nat),zfA (p++q) (p.length+k) us=p++zfA q k us:=by
          intro us
          induction us with
          |nil=>intro p q k;rfl
          |cons c cs ih=>intro p q k;rw [zfA,zfA,List.set_append_right _ _ aa,Nat.add_assoc,show p.length+k - p.length=k by omega,ih p _ (k+1)]
         have hall:∀ (us l p:List Value),l.length=us.length→zfA (p++l) p.length us=p++us:=by
          intro us
          induction us with
          |nil=>intro l p hh;simp at hh;subst hh;simp [zfA]
          |cons c cs ih=>
           intro l p hh
           cases l with
           |nil=>simp at hh
           |cons y l=>
            rw [zfA,List.set_append_right _ _ aa]
            simp only [Nat.sub_self,List.set_cons_zero]
            have:=ih l (p++ [c]) (by simpa using hh)
            simpa using this
         have hYl:Y.toList.length=len * sz:=by rw [Array.length_toList,y1]
         rw [← hYl]
         apply hall
         rw [List.length_take,List.length_drop,List.length_drop,hXl,Array.length_toList,hYl]
         omega
        have hbef:((⟨zfA C.toList (a.off+i * sz+len * sz) X.toList⟩:Array Value).toList.drop a.off).take (rs.length * sz)=(C.toList.drop a.off).take (rs.length * sz):=
         zl9 _ _ _ _ _ aa
        obtain ⟨q1,q2,q3⟩:=hH.set (w':=w') (F':=F) (o:=o) (mt:=true) (g:=g) (sz:=sz) (rs:=rs) (A:=some (a,bs))
         (fun _ h=>h) hol aG hle0 (fun k hk _=>hw'.other k (hM k hk))
         (fun o' mt' g' sz' rs' a₁ b₁ hne ho' hp'=>by
          have:=hH.inj _ _ _ _ _ _ _ _ _ _ _ _ _ _ ho ho' (Ne.symm hne) (.inl rfl) hp hp'
          refine ⟨hw'.other _ (Ne.symm this),fun a₂ b₂ e=> ?_⟩
          simp only [Option.some.injEq,Prod.mk.injEq] at e
          obtain ⟨rfl,rfl⟩:=e
          exact this)
         (fun a₁ b₁ e=>by
          simp only [Option.some.injEq,Prod.mk.injEq] at e
          obtain ⟨rfl,rfl⟩:=e
          exact .inl (.inr ⟨o,g,sz,rs,g,a,bs,ho,hp,rfl⟩))
         (.inr ⟨a,bs, _,T,rfl,hsp,h0,hw'.at_,aQ,hr,hl,
          fun c hm=>by
           simp only [Nat.add_zero] at hm
           rw [hbef] at hm
           exact hv c hm,
          by
           simp only [Nat.add_zero]
           rw [hbef]
           exact hrel⟩)
        have st1:zc8 φ w M0 h (upd φ o (some (g,some (a,bs)))) w' (upd h o (some (.rows true g sz rs))):=
         ⟨hle0,q2,⟨hw'.os,hw'.tape,hw'.output,hw'.drawn,aG,fun k _ hu=>hw'.other k (fun e=>hu ⟨o,g,sz,rs,g,a,bs,ho,hp,e.symm⟩)⟩,fun k hk=>by
          rcases q3 k hk with h|⟨a₁,b₁,e,rfl⟩
          ·exact .inl h
          ·simp only [Option.some.injEq,Prod.mk.injEq] at e
           obtain ⟨rfl,rfl⟩:=e
           exact .inl ⟨o,g,sz,rs,g,a,bs,ho,hp,rfl⟩⟩
        obtain ⟨q4,q5⟩:=q1.freeze hfz1
        have stt:=st1.trans q5
        refine ⟨.slice (some ⟨a.block,a.off+i * sz,none⟩) (len+(zat x sz h).2.length) cap,w', _, ?_, ?_,q4,stt⟩
        ·have:=zcc (P:=P) (w:=w) (len:=len) (cap:=cap) (base:=some ⟨a.block,a.off+i * sz,none⟩) (ty:=ty) (zcE ht) ⟨e',ht'⟩ hsz r1 hle (r6 w rfl)
         rw [this]
         simp only [zcr (a:=⟨a.block,a.off+i * sz,none⟩) rfl,hrun,Result.andThen_ok]
        ·refine .lst (C:=⟨zfA C.toList (a.off+i * sz+len * sz) X.toList⟩) (T:=T) (fz:=(0,0)) rfl ?_ (by simpa using hw'.at_) hrr hlen'.symm ?_ hle ?_ ?_
         ·rintro (hk|hk)
          ·exact h0 hk
          ·exact zn0 hH (fun o' g' sz' rs' a' b' hne ho' hp' e=>hH.inj _ _ _ _ _ _ _ _ _ _ _ _ _ _ ho ho' (Ne.symm hne) (.inl rfl) hp hp' e.symm) hk
         ·rw [hlen']
          have:(⟨zfA C.toList (a.off+i * sz+len * sz) X.toList⟩:Array Value).size=bs:=aQ
          rw [this]
          simp only [Nat.add_mul];omega
         ·intro c hm
          rw [hlen'] at hm
          simp only at hm
          rw [hwin] at hm
          rcases List.mem_append.1 hm with hm|hm
          ·exact y3 c hm
          ·exact r5 c hm
         ·rw [hlen']
          simp only
          rw [hwin,List.flatten_append]
          exact stt.relL (y2.append r4)
      · -- into a new block
       obtain ⟨nc,d,⟨hdw,hnc⟩,hrun⟩:=zeL (P:=P) (w:=w) (len:=len) (cap:=cap) (base:=A) (ty:=ty) (Y:=Y) (zcE ht) ⟨e',ht'⟩ hsz hby r1 hle h5 h9 h6 r6 y4 huall
       have hH1:=hH.of_heap (w':={ w with drawn:=d}) rfl
       have hst:zc8 φ w M0 h φ { w with drawn:=d} h:= .of_heap rfl rfl rfl hdw rfl
       obtain ⟨Z,hZ⟩:∃Z:Array Value,Z=Y++X++Builtin.zeroCells u.cells (nc - (len+(zat x sz h).2.length)):=⟨_,rfl⟩
       rw [← hZ] at hrun
       have hCl:Z.toList.take ((len+(zat x sz h).2.length) * sz)=Y.toList++X.toList:=by
        have:(Y.toList++X.toList).length=(len+(zat x sz h).2.length) * sz:=bR
        rw [hZ]
        simp only [Array.toList_append]
        rw [List.take_left' this]
       have hCs:Z.size=nc * sz:=by
        have:(Builtin.zeroCells u.cells (nc - (len+(zat x sz h).2.length))).size=(nc - (len+(zat x sz h).2.length)) * sz:=by
         simp [Builtin.zeroCells,hus']
        rw [hZ]
        simp only [Array.size_append,this,r3,y1]
        rw [← Nat.add_mul,← Nat.add_mul]
        congr 1;omega
       obtain ⟨q1,q2,q3⟩:=hH1.set (w':={ w with heap:=w.heap.push (.cells Z e),drawn:=d}) (F':=F) (o:=o) (mt:=true) (g:=g) (sz:=sz) (rs:=rs)
        (A:=A0) (fun _ h=>h) hol ad hle0 (fun k _ hk=>zb4 w _ k hk)
        (fun o' mt g2 sz2 rs2 a b hne ho2 hp2=>by
         have:=(hH.place_old ho2 hp2).1
         refine ⟨zb4 w _ _ this,fun a₁ b₁ e=> ?_⟩
         subst e
         exact hH.inj _ _ _ _ _ _ _ _ _ _ _ _ _ _ ho ho2 (Ne.symm hne) (.inl rfl) hA0 hp2)
        (fun a b e=>by
         subst e
         exact .inl (.inr ⟨o,g,sz,rs,g,a,b,ho,hA0,rfl⟩))
        (by
         rcases hobj with ⟨e1,e2⟩|⟨a,bs,e1,e2,hd⟩
         ·exact .inl (.inl ⟨e1,e2⟩)
         ·have hlt:=hd.blk
          by_cases hsp:a.spot=none
          ·obtain ⟨C,T,hb,hC,hr,hl,hv,hrel⟩:=hd.cells hsp
           exact .inr ⟨a,bs,C,T,e1,hsp,e2,(zb4 w _ _ hlt).trans hb,hC,hr,hl,hv,hst.relL hrel⟩
          ·obtain ⟨es,clk,hb,hz2,hr,hrel⟩:=hd.map hsp
           exact .inl (.inr ⟨a,bs,es,clk,e1,hsp,e2,(zb4 w _ _ hlt).trans hb,hz2,hr,hst.relL hrel⟩))
       have st1:zc8 φ w M0 h (upd φ o (some (g,A0))) { w with heap:=w.heap.push (.cells Z e),drawn:=d} (upd h o (some (.rows true g sz rs))):=
        ⟨hle0,q2,⟨rfl,rfl,rfl,hdw,ad,fun k hk _=>zb4 w _ k hk⟩,fun k hk=>by
         rcases q3 k hk with h|⟨a₁,b₁,e,rfl⟩
         ·exact .inl h
         ·subst e
          exact .inl ⟨o,g,sz,rs,g,a₁,b₁,ho,hA0,rfl⟩⟩
       obtain ⟨q4,q5⟩:=q1.freeze hfz1
       have stt:=st1.trans q5
       refine ⟨_, _, _,hrun, ?_,q4,stt⟩
       refine .lst (C:=Z) (T:=e) (fz:=(0,0)) rfl ?_ (zdY w _) hrr hlen'.symm ?_ hnc ?_ ?_
       ·rintro (hk|hk)
        ·have:=hH.m0 _ hk;simp only at this;omega
        ·exact zn0 hH (fun o' g' sz' rs' a' b' hne ho' hp' e=>by have:=(hH.place_old ho' hp').1;simp only at e;omega) hk
       ·rw [hlen',hCs];simp only [Nat.zero_add];exact Nat.mul_le_mul_right _ hnc
       ·intro c hm
        rw [hlen'] at hm
        simp only [List.drop_zero,hCl] at hm
        rcases List.mem_append.1 hm with hm|hm
        ·exact y3 c hm
        ·exact r5 c hm
       ·rw [hlen']
        simp only [List.drop_zero,hCl,List.flatten_append]
        exact stt.relL (y2.append r4)
     ·exact hc.elim
    ·exact hc.elim
   ·exact hc.elim
  ·exact hc.elim
 ·exact hc.elim
theorem zAC (hH:zaE φ F w M0 h) (hn:F n){tys:Array TypeId}{ty:TypeId}{s x:AV}{vs vx:Value} (hs:Rel φ w (Or M0 (Mut φ h)) s vs) (hx:Rel φ w (Or M0 (Mut φ h)) x vx)
  (hc:(zoL P n tys.toList s x h).cond):ztG P φ F n w M0 h (zoL P n tys.toList s x h) (Builtin.append_ tys ty #[vs,vx]):=by
 unfold zoL at hc
 split at hc
 ·rename_i st xt htys
  obtain rfl:tys= #[st,xt]:=cp
  have e0:zoL P n (#[st,xt]:Array TypeId).toList s x h=bif zyE (tk P xt) then zeU P n st s x else bif zBs n s then zc9 P [st,xt] s x h else zdX P n [st,xt] s x h:=rfl
  rw [e0]
  cases hi:tk P xt with
  |int k=>
   simp only [hi,zyE,cond_true] at hc ⊢
   exact zpV hH hn hi hs hx hc
  | _=>
   simp only [hi,zyE,cond_false] at hc ⊢
   cases hq:zBs n s with
   |true=>
    simp only [hq,cond_true] at hc ⊢
    exact zpU hH hn hs hx hc
   |false=>
    simp only [hq,cond_false] at hc ⊢
    exact zsn hH hn hs hx hc
 ·exact hc.elim
theorem zxU (hH:zaE φ F w M0 h){t:TypeId}{x:AV}{v:Value}{ats:Array TypeId}{ty:TypeId} (ha:ats[0]? =some t) (hx:Rel φ w (Or M0 (Mut φ h)) x v) (hc:(zyd P t x).cond):
  zbW P φ w (Or M0 (Mut φ h)) (zyd P t x) (Builtin.cap_ ats ty #[v]):=by
 unfold zyd at hc ⊢
 split at hc
 ·rename_i e ht
  cases hx
  exact ⟨_,by simp [Builtin.cap_,ha,zaj (zcE ht),goInt], .v _,rfl,rfl⟩
 ·exact hc.elim

theorem zoa:∀ (cs l:List AV) (k:Nat),k+cs.length≤l.length→setMany l k cs=l.take k++cs++l.drop (k+cs.length)
 | [],l,k, _=>by simp [setMany]
 |c::cs,l,k,h=>by
  simp only [List.length_cons] at h
  rw [setMany,zoa cs (l.set k c) (k+1) ak]
  rw [List.drop_set_of_lt aa,List.take_succ_eq_append_getElem ak,List.take_set_of_le (Nat.le_refl _)]
  simp [Nat.add_assoc,Nat.add_comm 1]
theorem zg3 {rs xs:List (List AV)}{sz:Nat} (hr:∀r ∈ rs,r.length=sz) (hx:∀r ∈ xs,r.length=sz) (i:Nat) (h:i+xs.length≤rs.length):
  (rs.take i++xs++rs.drop (i+xs.length)).flatten=setMany rs.flatten (i * sz) xs.flatten:=by
 have hm:=Nat.mul_le_mul_right sz h
 rw [Nat.add_mul] at hm
 rw [zoa _ _ _ (by rw [zeF hx,zeF hr];exact hm),List.flatten_append,List.flatten_append,zdE hr,zdD hr,zeF hx,Nat.add_mul]
theorem zxX (hH:zaE φ F w M0 h){tys:Array TypeId}{ty:TypeId}{s x:AV}{vs vx:Value} (hs:Rel φ w (Or M0 (Mut φ h)) s vs) (hx:Rel φ w (Or M0 (Mut φ h)) x vx)
  (hc:(zjH P tys.toList s x h).cond):ztG P φ F n w M0 h (zjH P tys.toList s x h) (Builtin.copy_ tys ty #[vs,vx]):=by
 unfold zjH at hc ⊢
 split at hc
 ·rename_i st rest htys
  have h0t:tys[0]? =some st:=by rw [← Array.getElem?_toList,htys];rfl
  split at hc
  ·rename_i e ht
   split at hc
   ·rename_i sz hsz
    split at hc
    ·rename_i o g sz' i len
     split at hc
     ·rename_i mt g' sz'' rs ho
      obtain ⟨h1,h2,rfl,rfl,rfl,rfl,h8,h9⟩:=hc
      simp only [ho]
      obtain ⟨r1,r2,X,r3,r4,r5,r6⟩:=zmh (P:=P) hH h2 hx h1
      have hal:zcG h o g sz:=bt
      obtain ⟨A,cap,rfl,hcap,hA⟩:=hH.sl_alive hal hs
      generalize hm:min (zat x sz h).2.length len=m at *
      have hmx:m≤(zat x sz h).2.length:=aa
      have hml:m≤len:=aa
      have hXm:(X.toList.take (m * sz)).length=m * sz:=by
       rw [List.length_take,Array.length_toList,r3]
       exact Nat.min_eq_left (Nat.mul_le_mul_right sz hmx)
      have hrun0:(Builtin.copy_ tys ty #[.slice A len cap,vx]).run P w=((match A with|some a=>storeCells a (X.toList.take (m * sz))|none=>pure ()).run P w).andThen fun _ w'=> .ok (goInt m) w':=by
       have h6:=r6 w rfl m hmx
       have hmin:Nat.min (zat x sz h).2.length len=m:=hm
       cases A<;>simp [Builtin.copy_,h0t,zaj (zcE ht),r1,hmin,zaY hsz,h6]
      have hint:goInt m= .int .i64 m:=by simp [goInt]
      obtain ⟨A0,hA0,hobj⟩:=hH.obj _ _ _ _ _ ho
      have hol:¬F o:=fun hle=>bp
      by_cases hm0:m=0
      ·subst hm0
       have hrs:rs.take i++(zat x sz h).2.take 0++rs.drop (i+0)=rs:=ad
       have hupd:upd h o (some (.rows true g sz rs))=h:=by rw [← ho,zeB]
       refine ⟨.int .i64 0,w,φ, ?_, ?_, ?_, ?_⟩
       ·rw [hrun0];cases A<;>simp [storeCells,goInt]
       ·exact .v _
       ·simp only [zam,hrs,hupd];exact hH
       ·simp only [zam,hrs,hupd];exact .refl _ _ _ _
      ·rcases hA with ⟨rfl,rfl,rfl,rfl⟩|⟨rfl,rfl,hA⟩|⟨a,bs,hp,hsp,rfl,hcb⟩
       ·omega
       ·omega
       ·rw [hp] at hA0
        simp only [Option.some.injEq,Prod.mk.injEq,true_and] at hA0
        subst hA0
        rcases hobj with ⟨hobj, _⟩|⟨a₁,bs₁,e1,h0,hd⟩
        ·cases hobj
        simp only [Option.some.injEq,Prod.mk.injEq] at e1
        obtain ⟨rfl,rfl⟩:=e1
        obtain ⟨C,T,hb,hC,hr,hl,hv,hrel⟩:=hd.cells hsp
        have hmul:=Nat.mul_le_mul_right sz (show i+m≤rs.length by omega)
        rw [Nat.add_mul] at hmul
        obtain ⟨w',hrun,hw'⟩:=zcK (P:=P) (a:=⟨a.block,a.off+i * sz,none⟩) (T:=T) rfl (X.toList.take (m * sz)) 0 w C hb (by simp only [hXm];omega) (fun u hu=>r5 u (List.mem_of_mem_take hu))
        have hM:∀k,¬Or M0 (Mut φ h) k→k≠a.block:=fun k hk e=>hk (.inr ⟨o,g,sz,rs,g,a,bs,ho,hp,e.symm⟩)
        have hle0:φ.le (upd φ o (some (g,some (a,bs)))):=bf
        have hxt:∀r ∈ (zat x sz h).2.take m,r.length=sz:=fun r hr0=>r2 r (List.mem_of_mem_take hr0)
        have htl:((zat x sz h).2.take m).length=m:=ak
        have hflat:=zg3 hr hxt i (by rw [htl];omega)
        rw [htl] at hflat
        have hnl:(rs.take i++(zat x sz h).2.take m++rs.drop (i+m)).length=rs.length:=ak
        have hxr:zaJ φ w (Or M0 (Mut φ h)) ((zat x sz h).2.take m).flatten (X.toList.take (m * sz)):=by
         rw [zdE r2];exact r4.take _
        obtain ⟨g1,g2,g3⟩:=hH.set (w':=w') (F':=F) (o:=o) (mt:=true) (g:=g) (sz:=sz) (rs:=rs.take i++(zat x sz h).2.take m++rs.drop (i+m)) (A:=some (a,bs))
         (fun _ h=>h) hol aG hle0 (fun k hk _=>hw'.other k (hM k hk))
         (fun o' mt' g' sz' rs' a₁ b₁ hne ho' hp'=>by
          have:=hH.inj _ _ _ _ _ _ _ _ _ _ _ _ _ _ ho ho' (Ne.symm hne) (.inl rfl) hp hp'
          refine ⟨hw'.other _ (Ne.symm this),fun a₂ b₂ e=> ?_⟩
          simp only [Option.some.injEq,Prod.mk.injEq] at e
          obtain ⟨rfl,rfl⟩:=e
          exact this)
         (fun a₁ b₁ e=>by
          simp only [Option.some.injEq,Prod.mk.injEq] at e
          obtain ⟨rfl,rfl⟩:=e
          exact .inl (.inr ⟨o,g,sz,rs,g,a,bs,ho,hp,rfl⟩))
         (.inr ⟨a,bs, _,T,rfl,hsp,h0,hw'.at_,aQ,
          fun r hm=>by
           rcases List.mem_append.1 hm with hm|hm
           ·rcases List.mem_append.1 hm with hm|hm
            ·exact hr r (List.mem_of_mem_take hm)
            ·exact hxt r hm
           ·exact hr r (List.mem_of_mem_drop hm),
          by rw [hnl];exact hl,
          fun c hm=>by
           rw [hnl] at hm
           simp only [Nat.add_zero] at hm
           rw [zcb _ _ _ _ _ (by rw [hXm];omega)] at hm
           rcases zfB _ _ _ _ hm with h|h
           ·exact hv c h
           ·exact r5 c (List.mem_of_mem_take h),
          by
           rw [hnl]
           simp only [Nat.add_zero]
           rw [zcb _ _ _ _ _ (by rw [hXm];omega),hflat]
           exact zEG _ hrel hxr⟩)
        refine ⟨.int .i64 m,w', _, ?_, .v _,g1,⟨hle0,g2,⟨hw'.os,hw'.tape,hw'.output,hw'.drawn,aG,fun k _ hu=>hw'.other k (fun e=>hu ⟨o,g,sz,rs,g,a,bs,ho,hp,e.symm⟩)⟩,fun k hk=> ?_⟩⟩
        ·rw [hrun0]
         simp only
         rw [hrun]
         simp [hint]
        ·rcases g3 k hk with h|⟨a₁,b₁,e,rfl⟩
         ·exact .inl h
         ·simp only [Option.some.injEq,Prod.mk.injEq] at e
          obtain ⟨rfl,rfl⟩:=e
          exact .inl ⟨o,g,sz,rs,g,a,bs,ho,hp,rfl⟩
     ·exact hc.elim
    ·exact hc.elim
   ·exact hc.elim
  ·exact hc.elim
 ·exact hc.elim
theorem zvv (hH:zaE φ F w M0 h){tys:Array TypeId}{ty:TypeId}{s:AV}{vs:Value} (hs:Rel φ w (Or M0 (Mut φ h)) s vs)
  (hc:(zf3 P tys.toList s h).cond):ztG P φ F n w M0 h (zf3 P tys.toList s h) (Builtin.clear_ tys ty #[vs]):=by
 unfold zf3 at hc ⊢
 split at hc
 ·rename_i st rest htys
  have h0t:tys[0]? =some st:=by rw [← Array.getElem?_toList,htys];rfl
  split at hc
  ·rename_i e ht
   split at hc
   ·rename_i sz z hsz hz
    split at hc
    ·rename_i o g sz' i len
     split at hc
     ·rename_i mt g' sz'' rs ho
      obtain ⟨h2,hzl,rfl,rfl,rfl,rfl,h8,h9⟩:=hc
      simp only [ho]
      obtain ⟨u,hzv,hzc,hu1⟩:=zbx (P:=P) (w:=w) hz
      have hal:zcG h o g sz:=bt
      obtain ⟨A,cap,rfl,hcap,hA⟩:=hH.sl_alive hal hs
      obtain ⟨A0,hA0,hobj⟩:=hH.obj _ _ _ _ _ ho
      have hol:¬F o:=fun hle=>bp
      by_cases hm0:len=0
      ·subst hm0
       have hrs:rs.take i++List.replicate 0 z++rs.drop (i+0)=rs:=ad
       have hupd:upd h o (some (.rows true g sz rs))=h:=by rw [← ho,zeB]
       refine ⟨.tuple #[],w,φ, ?_, ?_, ?_, ?_⟩
       ·cases A<;>simp [Builtin.clear_,h0t,zaj (zcE ht)]
       ·exact .tup (vs:= []) .nil
       ·simp only [zam,hrs,hupd];exact hH
       ·simp only [zam,hrs,hupd];exact .refl _ _ _ _
      ·rcases hA with ⟨rfl,rfl,rfl,rfl⟩|⟨rfl,rfl,hA⟩|⟨a,bs,hp,hsp,rfl,hcb⟩
       ·omega
       ·omega
       ·rw [hp] at hA0
        simp only [Option.some.injEq,Prod.mk.injEq,true_and] at hA0
        subst hA0
        rcases hobj with ⟨hobj, _⟩|⟨a₁,bs₁,e1,h0,hd⟩
        ·cases hobj
        simp only [Option.some.injEq,Prod.mk.injEq] at e1
        obtain ⟨rfl,rfl⟩:=e1
        obtain ⟨C,T,hb,hC,hr,hl,hv,hrel⟩:=hd.cells hsp
        have hus:u.cells.size=sz:=by rw [← hzl,hzc];simp
        obtain ⟨X,hX⟩:∃X,X=(Builtin.zeroCells u.cells len).toList:=⟨_,rfl⟩
        have hXl:X=(List.replicate len u.cells.toList).flatten:=by rw [hX,zm4 _ _ aa]
        have hXm:X.length=len * sz:=by rw [hX];simp [Builtin.zeroCells,hus]
        have hX1:∀v ∈ X,zch v=true:=by
         rw [hXl]
         intro v hv'
         obtain ⟨l,hl',hv'⟩:=List.mem_flatten.1 hv'
         rw [List.eq_of_mem_replicate hl'] at hv'
         exact hu1 v hv'
        have hrun0:(Builtin.clear_ tys ty #[.slice (some ⟨a.block,a.off+i * sz,none⟩) len cap]).run P w=((storeCells ⟨a.block,a.off+i * sz,none⟩ X).run P w).andThen fun _ w'=> .ok (.tuple #[]) w':=by
         obtain ⟨m,rfl⟩:∃m,len=m+1:=⟨len - 1,aa⟩
         rw [hX]
         simp [Builtin.clear_,h0t,zaj (zcE ht),hzv]
        have hmul:=Nat.mul_le_mul_right sz (show i+len≤rs.length by omega)
        rw [Nat.add_mul] at hmul
        obtain ⟨w',hrun,hw'⟩:=zcK (P:=P) (a:=⟨a.block,a.off+i * sz,none⟩) (T:=T) rfl X 0 w C hb (by simp only [hXm];omega) hX1
        have hM:∀k,¬Or M0 (Mut φ h) k→k≠a.block:=fun k hk e=>hk (.inr ⟨o,g,sz,rs,g,a,bs,ho,hp,e.symm⟩)
        have hle0:φ.le (upd φ o (some (g,some (a,bs)))):=bf
        have hxt:∀r ∈ List.replicate len z,r.length=sz:=fun r hr0=>by rw [List.eq_of_mem_replicate hr0,hzl]
        have htl:(List.replicate len z).length=len:=ad
        have hflat:=zg3 hr hxt i (by rw [htl];omega)
        rw [htl] at hflat
        have hnl:(rs.take i++List.replicate len z++rs.drop (i+len)).length=rs.length:=ak
        have hxr:zaJ φ w (Or M0 (Mut φ h)) (List.replicate len z).flatten X:=by
         rw [hXl,hzc]
         exact zin (zc2 (φ:=φ) (w:=w) (M:=Or M0 (Mut φ h)) u.cells.toList) len
        obtain ⟨g1,g2,g3⟩:=hH.set (w':=w') (F':=F) (o:=o) (mt:=true) (g:=g) (sz:=sz) (rs:=rs.take i++List.replicate len z++rs.drop (i+len)) (A:=some (a,bs))
         (fun _ h=>h) hol aG hle0 (fun k hk _=>hw'.other k (hM k hk))
         (fun o' mt' g' sz' rs' a₁ b₁ hne ho' hp'=>by
          have:=hH.inj _ _ _ _ _ _ _ _ _ _ _ _ _ _ ho ho' (Ne.symm hne) (.inl rfl) hp hp'
          refine ⟨hw'.other _ (Ne.symm this),fun a₂ b₂ e=> ?_⟩
          simp only [Option.some.injEq,Prod.mk.injEq] at e
          obtain ⟨rfl,rfl⟩:=e
          exact this)
         (fun a₁ b₁ e=>by
          simp only [Option.some.injEq,Prod.mk.injEq] at e
          obtain ⟨rfl,rfl⟩:=e
          exact .inl (.inr ⟨o,g,sz,rs,g,a,bs,ho,hp,rfl⟩))
         (.inr ⟨a,bs, _,T,rfl,hsp,h0,hw'.at_,aQ,
          fun r hm=>by
           rcases List.mem_append.1 hm with hm|hm
           ·rcases List.mem_append.1 hm with hm|hm
            ·exact hr r (List.mem_of_mem_take hm)
            ·exact hxt r hm
           ·exact hr r (List.mem_of_mem_drop hm),
          by rw [hnl];exact hl,
          fun c hm=>by
           rw [hnl] at hm
           simp only [Nat.add_zero] at hm
           rw [zcb _ _ _ _ _ (by rw [hXm];omega)] at hm
           rcases zfB _ _ _ _ hm with h|h
           ·exact hv c h
           ·exact hX1 c h,
          by
           rw [hnl]
           simp only [Nat.add_zero]
           rw [zcb _ _ _ _ _ (by rw [hXm];omega),hflat]
           exact zEG _ hrel hxr⟩)
        refine ⟨.tuple #[],w', _, ?_, .tup (vs:= []) .nil,g1,⟨hle0,g2,⟨hw'.os,hw'.tape,hw'.output,hw'.drawn,aG,fun k _ hu=>hw'.other k (fun e=>hu ⟨o,g,sz,rs,g,a,bs,ho,hp,e.symm⟩)⟩,fun k hk=> ?_⟩⟩
        ·rw [hrun0,hrun]
         simp
        ·rcases g3 k hk with h|⟨a₁,b₁,e,rfl⟩
         ·exact .inl h
         ·simp only [Option.some.injEq,Prod.mk.injEq] at e
          obtain ⟨rfl,rfl⟩:=e
          exact .inl ⟨o,g,sz,rs,g,a,bs,ho,hp,rfl⟩
     ·exact hc.elim
    ·cases hs
     refine ⟨.tuple #[],w,φ, ?_, .tup (vs:= []) .nil,hH, .refl _ _ _ _⟩
     simp [Builtin.clear_,h0t,zaj (zcE ht)]
    ·exact hc.elim
   ·exact hc.elim
  ·exact hc.elim
 ·exact hc.elim
theorem zaE.sub (hH:zaE φ F w M0 h){F':Nat→Prop} (hs:∀o,F' o→F o):zaE φ F' w M0 h:=⟨hH.m0,fun o ho=>hH.fresh o (hs o ho),hH.obj,hH.inj,hH.glob⟩
theorem Fal_le {n:Nat} (k:Nat) (hH:zaE φ (Fal (fun o=>n≤o) n k) w M0 h):zhD φ (n+k) w M0 h:=by
 cases k with
 |zero=>exact hH
 |succ k=>exact hH.sub fun o ho=>⟨aa,aa⟩
end
end Go.Av
end
section
namespace Go.Av
open Go
section maps
variable {P:Program} {φ:zaz} {F:Nat→Prop} {w:World} {M0:Nat→Prop} {h:zaq} {n:Nat}
theorem zly {t:TypeId} (h:zCz (tk P t)=true):∃d,P.underlying t=some d∧((d= .string∧tk P t= .string)∨(d= .bool∧tk P t= .bool)∨∃k,d= .int k∧tk P t= .int k):=by
  unfold tk at *
  split at h<;>simp_all [zCz]
theorem zc1 {t:TypeId} (h:zCz (tk P t)=true) (e:Bool) (v:Value):(Instr.checkKey e 10000 t v).run P w= .ok () w:=by
  obtain ⟨d,hd,hk⟩:=zly h
  unfold Instr.checkKey
  simp only [Sem.run_bind,zaj hd,Result.andThen]
  rcases hk with ⟨rfl, _⟩|⟨rfl, _⟩|⟨k,rfl, _⟩<;>rfl
theorem ztX {a b:ByteArray} (h:(a==b)=true):a=b:=by
  have h':(a.data==b.data)=true:=h
  exact ByteArray.ext (by simpa using h')
theorem znh (a:ByteArray):(a==a)=true:=by
  show (a.data==a.data)=true
  simp
theorem zhM (a b:ByteArray):(a==b)=decide (a=b):=by
  by_cases h:a=b
  · subst h;rw [znh];simp
  · rw [decide_eq_false h]
    cases e:a==b with
    |false=>rfl
    |true=>exact absurd (ztX e) h
theorem zh9 {t:TypeId}{d:TypeDesc} (hd:(d= .string∧tk P t= .string)∨(d= .bool∧tk P t= .bool)∨∃k,d= .int k∧tk P t= .int k){φ':zaz}{M M':Nat→Prop}{w':World}{a b:AV}{u v:Value} (ha:Rel φ w M a u) (hb:Rel φ' w' M' b v){r:Bool}
    (h:zo5 (tk P t) a b=some r):Instr.sameNow d u v=some r∧(r=true→Instr.sameBits 10000 v u=true):=by
  rcases hd with ⟨rfl,ht⟩|⟨rfl,ht⟩|⟨k,rfl,ht⟩<;>rw [ht] at h<;>unfold zo5 at h<;>split at h<;>simp_all
  · cases ha;cases hb
    rename_i a b _
    refine ⟨by simp [Instr.sameNow,h],fun e=> ?_⟩
    rw [e] at h
    rw [ztX h]
    simp [Instr.sameBits,znh]
  · cases ha;cases hb
    rename_i a b _
    subst h
    refine ⟨by simp [Instr.sameNow],fun e=> ?_⟩
    simp at e
    subst e
    simp [Instr.sameBits]
  · cases ha;cases hb
    obtain ⟨rfl,h⟩:=h
    subst h
    refine ⟨by simp [Instr.sameNow],fun e=> ?_⟩
    simp at e
    subst e
    simp [Instr.sameBits]
theorem zbA.nil_inv {M:Nat→Prop}{es:List MapEntry} (h:zbA φ w M [] es):es= []:=by
  cases es with
  |nil=>rfl
  |cons e es=>exact absurd h (by unfold zbA;intro h;simp at h;cases h)
theorem zbA.cons_inv {M:Nat→Prop}{r:List AV}{rs:List (List AV)}{es:List MapEntry} (hr:r.length=2) (h:zbA φ w M (r::rs) es):∃e es' k x,es=e::es'∧r= [k,x]∧Rel φ w M k e.key∧Rel φ w M x e.val∧zbA φ w M rs es':=by
  match r,hr with
  | [k,x], _=>
    cases es with
    |nil=>unfold zbA at h;simp at h;cases h
    |cons e es=>
      unfold zbA at h
      simp only [List.flatten_cons,List.flatMap_cons,List.cons_append,List.nil_append] at h
      cases h with
      |cons h1 h=>cases h with
        |cons h2 h=>exact ⟨e,es,k,x,rfl,rfl,h1,h2,h⟩
theorem zbA.cons {M:Nat→Prop}{k x:AV}{rs:List (List AV)}{e:MapEntry}{es:List MapEntry} (h1:Rel φ w M k e.key) (h2:Rel φ w M x e.val) (h:zbA φ w M rs es):zbA φ w M ([k,x]::rs) (e::es):=by
  unfold zbA
  simp only [List.flatten_cons,List.flatMap_cons,List.cons_append,List.nil_append]
  exact .cons h1 (.cons h2 h)
theorem zlO {t:TypeId}{d:TypeDesc} (hd:(d= .string∧tk P t= .string)∨(d= .bool∧tk P t= .bool)∨∃k,d= .int k∧tk P t= .int k){M:Nat→Prop}{k:AV}{v:Value} (hk:Rel φ w M k v):
    ∀ (rs:List (List AV)) (es:List MapEntry) (i:Nat),(∀r ∈ rs,r.length=2)→zbA φ w M rs es→∀o,zds (tk P t) k rs=some o→
      ∃r,Instr.findNow d v es i=some r∧((o=none∧r=none)∨∃x j u,o=some x∧r=some (j,u)∧Rel φ w M x u)
  | [],es,i, _,he,o,h=>by
    obtain rfl:=he.nil_inv
    simp only [zds,Option.some.injEq] at h
    exact ⟨none,rfl, .inl ⟨h.symm,rfl⟩⟩
  |r::rs,es,i,hl,he,o,h=>by
    obtain ⟨e,es',k',x,rfl,rfl,h1,h2,h3⟩:=he.cons_inv (hl _ ad)
    rw [zds] at h
    split at h
    · rename_i hq
      obtain ⟨q1, _⟩:=zh9 hd hk h1 cz
      simp only [Option.some.injEq] at h
      exact ⟨some (i,e.val),by simp [Instr.findNow,q1], .inr ⟨x,i,e.val,by rw [← h];rfl,rfl,h2⟩⟩
    · rename_i hq
      obtain ⟨q1, _⟩:=zh9 hd hk h1 cz
      obtain ⟨r,g1,g2⟩:=zlO hd hk rs es' (i+1) (fun r hr=>hl r bv) h3 o h
      exact ⟨r,by simp [Instr.findNow,q1,g1],g2⟩
    · cases h
theorem znU {t:TypeId}{d:TypeDesc} (hd:(d= .string∧tk P t= .string)∨(d= .bool∧tk P t= .bool)∨∃k,d= .int k∧tk P t= .int k){M:Nat→Prop}{k x:AV}{v u:Value} (hk:Rel φ w M k v) (hx:Rel φ w M x u):
    ∀ (rs:List (List AV)) (es:List MapEntry) (i:Nat),(∀r ∈ rs,r.length=2)→zbA φ w M rs es→∀rs',zeu (tk P t) k x rs=some rs'→
      (∀r ∈ rs',r.length=2)∧
      ((Instr.findNow d v es i=some none∧rs'.length=rs.length+1∧∀b,zbA φ w M rs' (es++ [{ key:=v,val:=u,born:=b}]))∨
       ∃j a b e,es=a++e::b∧a.length=j∧Instr.findNow d v es i=some (some (i+j,e.val))∧Instr.sameBits 10000 e.key v=true∧rs'.length=rs.length∧zbA φ w M rs' (a++{ e with key:=v,val:=u}::b))
  | [],es,i, _,he,rs',h=>by
    obtain rfl:=he.nil_inv
    simp only [zeu,Option.some.injEq] at h
    subst h
    exact ⟨ad, .inl ⟨rfl,rfl,fun b=>zbA.cons hk hx (by unfold zbA;exact .nil)⟩⟩
  |r::rs,es,i,hl,he,rs',h=>by
    obtain ⟨e,es',k',x',rfl,rfl,h1,h2,h3⟩:=he.cons_inv (hl _ ad)
    have hl':∀r ∈ rs,r.length=2:=fun r hr=>hl r bv
    rw [zeu] at h
    split at h
    · rename_i hq
      obtain ⟨q1,q2⟩:=zh9 hd hk h1 cz
      simp only [Option.some.injEq] at h
      subst h
      refine ⟨fun r hr=> ?_, .inr ⟨0, [],es',e,rfl,rfl,by simp [Instr.findNow,q1],q2 rfl,rfl,zbA.cons hk hx h3⟩⟩
      rcases List.mem_cons.1 hr with rfl|hr
      · rfl
      · exact hl' r hr
    · rename_i hq
      obtain ⟨q1, _⟩:=zh9 hd hk h1 cz
      rw [Option.map_eq_some_iff] at h
      obtain ⟨rs1,hr1,rfl⟩:=h
      obtain ⟨g0,g⟩:=znU hd hk hx rs es' (i+1) hl' h3 rs1 hr1
      refine ⟨fun r hr=> ?_, ?_⟩
      · rcases List.mem_cons.1 hr with rfl|hr
        · rfl
        · exact g0 r hr
      · rcases g with ⟨g1,g2,g3⟩|⟨j,a,b,e2,g1,g2,g3,g4,g5,g6⟩
        · exact .inl ⟨by simp [Instr.findNow,q1,g1],by simp [g2],fun b=>zbA.cons h1 h2 (g3 b)⟩
        · refine .inr ⟨j+1,e::a,b,e2,by rw [g1];rfl,by simp [g2], ?_,g4,by simp [g5],zbA.cons h1 h2 g6⟩
          simp only [Instr.findNow,q1,g3]
          congr 3;omega
    · cases h
theorem zqZ (hH:zaE φ F w M0 h) (hn:F n){t:TypeId}{r:Option Operand}{vr:Option Value} (hr:r=none→vr=none) (hc:(zf5 P n t r).cond):ztG P φ F n w M0 h (zf5 P n t r) (Instr.makeMap t vr):=by
  unfold zf5 at hc ⊢
  split at hc
  · obtain rfl:=hr rfl
    obtain ⟨a,b⟩:=hH.newMap hn
    exact ⟨.map (some w.heap.size), _, _,by simp [Instr.makeMap], .mp (zax _ _ _) (fun _=>⟨_, _,rfl,ad,rfl⟩),a,b⟩
  · exact hc.elim
theorem zzy {t:TypeId}{z:Value} (h:tz1 P t=some z):(zeroValue t).run P w= .ok z w:=by
  unfold tz1 at h
  cases hu:P.info? t with
  |none=>simp [hu] at h
  |some d=>
    simp only [hu,Option.bind_some] at h
    cases hz:d.zero with
    |none=>simp [hz] at h
    |some u=>
      have hzu:u=z:=by
        simp only [hz,Option.bind_some] at h
        cases u<;>simp at h<;>exact h
      subst hzu
      simp [zeroValue,typeInfo,hu,hz]
theorem zqX (hH:zaE φ F w M0 h){t:TypeId}{m k:AV}{ok:Bool}{v u:Value} (hm:Rel φ w (Or M0 (Mut φ h)) m v) (hk:Rel φ w (Or M0 (Mut φ h)) k u) (hc:(zer P t m k ok h).cond):
    zbW P φ w (Or M0 (Mut φ h)) (zer P t m k ok h) (Instr.lookup t v u ok):=by
  unfold zer at hc ⊢
  split at hc
  · rename_i kt et o ht
    split at hc
    · rename_i mt rs ho
      obtain ⟨a,bs,es,clk,hp,hs,h0,rfl,hb,hl,⟨_,h2⟩,he⟩:=hH.mp_at ho hm
      have key:∀r,zds (tk P kt) k rs=some r→zCz (tk P kt)=true→∃rr,(Instr.findKey kt u es.toList).run P w= .ok rr w∧((r=none∧rr=none)∨∃x j z,r=some x∧rr=some (j,z)∧Rel φ w (Or M0 (Mut φ h)) x z):=by
        intro r hr hkk
        obtain ⟨d,hd,hdd⟩:=zly hkk
        obtain ⟨rr,g1,g2⟩:=zlO hdd hk rs es.toList 0 h2 he r hr
        refine ⟨rr, ?_,g2⟩
        simp [Instr.findKey,zaj hd,g1]
      split at hc
      · rename_i _ _ x hx
        obtain ⟨rr,g1,g2⟩:=key _ hx hc
        rcases g2 with ⟨h, _⟩|⟨x',j,z,e1,rfl,g2⟩
        · cases h
        cases e1
        cases ok with
        |true=>exact ⟨.tuple ⟨[z, .bool true]⟩,bK, .tup (.cons g2 (.cons (.v _) .nil)),rfl,rfl⟩
        |false=>exact ⟨z,bK,g2,rfl,rfl⟩
      · rename_i _ _ z hx hz
        obtain ⟨rr,g1,g2⟩:=key _ hx hc
        rcases g2 with ⟨_,rfl⟩|⟨x',j,z,e1,rfl,g2⟩
        · cases ok with
          |true=>exact ⟨.tuple ⟨[z, .bool false]⟩,bE, .tup (.cons (.v _) (.cons (.v _) .nil)),rfl,rfl⟩
          |false=>exact ⟨z,bE, .v _,rfl,rfl⟩
        · cases e1
      · exact hc.elim
    · exact hc.elim
  · exact hc.elim
theorem zlP (hH:zaE φ F w M0 h){o:Nat}{rs rs':List (List AV)} (ho:h o=some (.rows true 0 2 rs)){a:Addr}{bs:Nat} (hp:φ o=some (0,some (a,bs))) (hs:a.spot≠none) (h0:¬M0 a.block)
    {es:Array MapEntry} {clk:Nat} (hb:w.heap[a.block]? =some (.map es clk)) {es':Array MapEntry} {clk':Nat} (hl:es'.size=rs'.length) (h2:∀r ∈ rs',r.length=2) (he:zbA φ w (Or M0 (Mut φ h)) rs' es'.toList):
    ∃φ',zaE φ' F { w with heap:=w.heap.setIfInBounds a.block (.map es' clk')} M0 (upd h o (some (.rows true 0 2 rs')))∧
      zc8 φ w M0 h φ' { w with heap:=w.heap.setIfInBounds a.block (.map es' clk')} (upd h o (some (.rows true 0 2 rs'))):=by
  obtain ⟨q1,q2⟩:=MapKept.heap_set (o':= .map es' clk') hb
  have hM:∀k,¬Or M0 (Mut φ h) k→k≠a.block:=fun k hk e=>hk (.inr ⟨o,0,2,rs,0,a,bs,ho,hp,e.symm⟩)
  have hle0:φ.le (upd φ o (some (0,some (a,bs)))):=bf
  have hsz:(w.heap.setIfInBounds a.block (.map es' clk')).size=w.heap.size:=ad
  obtain ⟨g1,g2,g3⟩:=hH.set (w':={ w with heap:=w.heap.setIfInBounds a.block (.map es' clk')}) (F':=F) (o:=o) (mt:=true) (g:=0) (sz:=2) (rs:=rs') (A:=some (a,bs))
    (fun _ h=>h) (hH.place_old ho hp).2 ad hle0 (fun k hk _=>q2 k (hM k hk))
    (fun o' mt' g' sz' rs1 a₁ b₁ hne ho' hp'=>by
      have:=hH.inj _ _ _ _ _ _ _ _ _ _ _ _ _ _ ho ho' (Ne.symm hne) (.inl rfl) hp hp'
      refine ⟨q2 _ (Ne.symm this),fun a₂ b₂ e=> ?_⟩
      simp only [Option.some.injEq,Prod.mk.injEq] at e
      obtain ⟨rfl,rfl⟩:=e
      exact this)
    (fun a₁ b₁ e=>by
      simp only [Option.some.injEq,Prod.mk.injEq] at e
      obtain ⟨rfl,rfl⟩:=e
      exact .inl (.inr ⟨o,0,2,rs,0,a,bs,ho,hp,rfl⟩))
    (.inl (.inr ⟨a,bs,es',clk',rfl,hs,h0,q1,hl,⟨rfl,h2⟩,he⟩))
  refine ⟨_,g1,hle0,g2,⟨rfl,rfl,rfl,Nat.le_refl _,ad,fun k _ hu=>q2 k (fun e=>hu ⟨o,0,2,rs,0,a,bs,ho,hp,e.symm⟩)⟩,fun k hk=> ?_⟩
  rcases g3 k hk with h|⟨a₁,b₁,e,rfl⟩
  · exact .inl h
  · simp only [Option.some.injEq,Prod.mk.injEq] at e
    obtain ⟨rfl,rfl⟩:=e
    exact .inl ⟨o,0,2,rs,0,a,bs,ho,hp,rfl⟩
theorem znW {α:Type} (f:α→α) (e:α) (l2:List α):∀l1:List α,(l1++e::l2).modify l1.length f=l1++f e::l2
  | []=>rfl
  |a::l1=>by simp [znW f e l2 l1]
theorem zlQ (hH:zaE φ F w M0 h){t:TypeId}{m k x:AV}{v u z:Value} (hm:Rel φ w (Or M0 (Mut φ h)) m v) (hk:Rel φ w (Or M0 (Mut φ h)) k u) (hx:Rel φ w (Or M0 (Mut φ h)) x z)
    (hc:(zcQ P t m k x h).cond):∃w' φ',(Instr.mapUpdate t v u z).run P w= .ok () w'∧zaE φ' F w' M0 (zam (zcQ P t m k x h).wr h)∧
      zc8 φ w M0 h φ' w' (zam (zcQ P t m k x h).wr h)∧(zcQ P t m k x h).val= .top:=by
  unfold zcQ at hc ⊢
  split at hc
  · rename_i kt et o ht
    split at hc
    · rename_i rs ho
      obtain ⟨a,bs,es,clk,hp,hs,h0,rfl,hb,hl,⟨_,h2⟩,he⟩:=hH.mp_at ho hm
      split at hc
      · rename_i rs' hput
        obtain ⟨d,hd,hdd⟩:=zly hc
        simp only [ho,hput]
        obtain ⟨i1,i2⟩:=znU hdd hk hx rs es.toList 0 h2 he rs' hput
        rcases i2 with ⟨j1,j2,j3⟩|⟨j,l1,l2,e,j1,j2,j3,j4,j5,j6⟩
        · obtain ⟨φ',g1,g2⟩:=zlP (clk':=clk+1) hH ho hp hs h0 hb (es':=es.push { key:=u,val:=z,born:=clk}) (by simp [hl,j2]) i1 (by simpa using j3 clk)
          exact ⟨_,φ',by simp [Instr.mapUpdate,zaj (zmy ht),MapKept.run_getObj_map hb,zc1 hc,MapKept.run_findKey hd j1,MapKept.run_setObj_map _ hb,Result.andThen],g1,g2,trivial⟩
        · have hj:es[j]? =some e:=by rw [← Array.getElem?_toList,j1,← j2];simp
          have hmod:(es.modify j fun e=>{ e with key:=u,val:=z}).toList=l1++{ e with key:=u,val:=z}::l2:=by
            rw [Array.toList_modify,j1,← j2,znW]
          obtain ⟨φ',g1,g2⟩:=zlP (clk':=clk) hH ho hp hs h0 hb (es':=es.modify j fun e=>{ e with key:=u,val:=z}) (by simp [hl,j5]) i1 (by rw [hmod];exact j6)
          refine ⟨_,φ', ?_,g1,g2,trivial⟩
          rw [Nat.zero_add] at j3
          simp [Instr.mapUpdate,zaj (zmy ht),MapKept.run_getObj_map hb,zc1 hc,MapKept.run_findKey hd j3,hj,Instr.keyThatStays,j4,MapKept.run_setObj_map _ hb,Result.andThen]
      · exact hc.elim
    · exact hc.elim
  · exact hc.elim
theorem zlj {t:TypeId}{m k x:AV}:(zcQ P t m k x h).al=0:=by
  unfold zcQ
  split
  · split
    · split<;>rfl
    · rfl
  · rfl
end maps
end Go.Av
end
section
/- Our library, part 9: one operation, and a region in the text's order. -/
namespace Go.Av
open Go

section
variable {P:Program} {φ:zaz} {F:Nat→Prop} {n:Nat} {w:World} {M0:Nat→Prop} {h:zaq}

theorem zjA {φ:zaz}{w:World}{M:Nat→Prop}:∀ {rs:List (List AV)}{ns:List Int}{vs:List Value},zeD rs=some ns→zaJ φ w M rs.flatten vs→vs=ns.map (Value.int .u8)
 | [],ns,vs,h,hr=>by simp [zeD] at h;subst h;cases hr;rfl
 |r::rs,ns,vs,h,hr=>by
  unfold zeD at h
  split at h
  ·rename_i heq;cases heq
  ·rename_i n rs' heq
   cases heq
   simp only [Option.map_eq_some_iff] at h
   obtain ⟨ns',h1,rfl⟩:=h
   simp only [List.flatten_cons,List.cons_append,List.nil_append] at hr
   cases hr with
   |cons a b=>
    cases a
    rw [zjA h1 b];rfl
  ·cases h
theorem zrj (hH:zaE φ F w M0 h){x:AV}{v:Value}{sz:Nat} (hx:Rel φ w (Or M0 (Mut φ h)) x v) (hc:(zat x sz h).1):∃a l c,v= .slice a l c:=by
 unfold zat at hc
 split at hc
 ·split at hc
  ·rename_i o g sz' i len mt g' sz'' rs ho
   obtain ⟨rfl,rfl,rfl, _⟩:=hc
   obtain ⟨A,cap,rfl, _⟩:=hH.sl_alive bt hx
   exact ⟨_, _, _,rfl⟩
  ·exact hc.elim
 ·cases hx<;>exact ⟨_, _, _,rfl⟩
 ·cases hx;exact ⟨_, _, _,rfl⟩
 ·exact hc.elim
theorem zvz (hH:zaE φ F w M0 h){s d:TypeId}{x:AV}{v:Value} (hx:Rel φ w (Or M0 (Mut φ h)) x v) (hc:(zjG P s d x h).cond):zbW P φ w (Or M0 (Mut φ h)) (zjG P s d x h) (convert s d v):=by
 unfold zjG at hc ⊢
 split at hc
 ·rename_i k'' m h1 h2
  cases hx
  exact ⟨.int .u8 (m.emod 256),by simp [convert,zaj (zrv h1),zaj (zrv h2),Conv.intToInt,IntKind.wrap,IntKind.signed,IntKind.bits];rfl, .v _,rfl,rfl⟩
 ·rename_i k k' k'' m h1 h2
  cases hx
  exact ⟨_,by simp [convert,zaj (zrv h1),zaj (zrv h2),Conv.intToInt,zd0 hc], .v _,rfl,rfl⟩
 ·rename_i x2 t1 t2 x3 e h1 h2
  unfold zvI at hc ⊢
  split at hc
  ·rename_i ns he hb
   obtain ⟨r1,r2,X,r3,r4,r5,r6⟩:=zd3 (P:=P) hH Nat.one_pos hx hc
   have hX:=zjA hb r4
   have h6:=r6 w rfl
   obtain ⟨a,l,c,rfl⟩:=zrj hH hx hc
   refine ⟨_, ?_, .v _,rfl,rfl⟩
   rw [run_convert_bytes_string w s d e a l c (zcE h1) (zrv he) (zix h2)]
   have hX2:X=(ns.map (Value.int .u8)).toArray:=by rw [← hX]
   have hl:l=(zat x2 1 h).2.length:=by
    have:=r1
    simp [Builtin.lenOf,Sem.run_pure] at this
    first|exact this|omega
   cases a with
   |none=>
    have h0:X= #[]:=by
     have:=h6
     simp [Builtin.firstCells,Sem.run_pure] at this
     exact this
    have:ns= []:=by
     rw [h0] at hX
     simpa using hX.symm
    subst this
    rfl
   |some a=>
    rw [run_bytesToString w a l c ns]
    ·rfl
    ·rw [hl,← hX2]
     have:=h6
     simp only [Builtin.firstCells,Nat.mul_one] at this
     exact this
  ·exact hc.elim
 ·exact hc.elim
theorem Rel.ofV {M:Nat→Prop} (x:Value):Rel φ w M (ofV x) x:=by
 cases x with
 |agg cs=>
  simp only [Av.ofV]
  split
  ·rename_i hall
   exact .agg (vs:=cs.toList) (fun u hu=>List.all_eq_true.1 hall u hu) (zc2 _)
  ·exact .v _
 | _=>exact .v _
theorem znS {α:Type}{k:Nat}{x:α}:∀ {l:List (Nat×α)},l.lookup k=some x→(k,x) ∈ l
 |(k',y)::l,h=>by
  rw [List.lookup_cons] at h
  cases e:k==k' with
  |true=>
   rw [e] at h
   simp only [Option.some.injEq] at h
   have:k=k':=by simpa using e
   subst this h
   simp
  |false=>
   rw [e] at h
   exact List.mem_cons_of_mem _ (znS h)
theorem ziF.ev {M:Nat→Prop} (hg:ziF w M){e:Env} (g:Nat):Rel φ w M (ev e (.global g)) (.pointer (some ⟨g,0,none⟩)):=by
 simp only [Go.Av.ev]
 split
 ·rename_i cs h
  exact (hg _ (znS h)).keep (fun o x h=>by cases h) (fun _ _ _=>rfl) (fun k hk=> .inl hk)
 ·exact .v _
theorem zuH {M:Nat→Prop}{e:Env}{a:Act} (hg:ziF w M) (he:∀t,Rel φ w M (e t) (a.tmps.getD t undef)) (x:Operand):Rel φ w M (ev e x) (a.eval x):=by
 cases x with
 |tmp t=>exact he t
 |const v=>exact Rel.ofV v
 |global g=>exact hg.ev g
 |func f=>exact .fn (fs:= []) (cs:= []) .nil .nil
theorem zgP {M:Nat→Prop}{e:Env}{a:Act}:∀ {xs:List Operand},(∀x ∈ xs,Rel φ w M (ev e x) (a.eval x))→zaJ φ w M (xs.map (ev e)) (xs.map a.eval)
 | [], _=> .nil
 |x::xs,h=> .cons (h x ad) (zgP fun y hy=>h y bg)
theorem zrb {M:Nat→Prop}{e:Env}{a:Act}{ps:Array (Nat×Operand)} (h:∀x ∈ (ps.toList.map (·.2)),Rel φ w M (ev e x) (a.eval x)):
  (ps.toList.map fun p=>(p.1,ev e p.2)).length=(ps.map fun (p:Nat×Operand)=>(p.1,a.eval p.2)).toList.length∧
  ∀ (k:Nat) (hk:k<(ps.toList.map fun p=>(p.1,ev e p.2)).length) (hk':k<(ps.map fun (p:Nat×Operand)=>(p.1,a.eval p.2)).toList.length),
   (ps.toList.map fun p=>(p.1,ev e p.2))[k].1=(ps.map fun (p:Nat×Operand)=>(p.1,a.eval p.2)).toList[k].1∧
   Rel φ w M (ps.toList.map fun p=>(p.1,ev e p.2))[k].2 (ps.map fun (p:Nat×Operand)=>(p.1,a.eval p.2)).toList[k].2:=by
 refine ⟨ad,fun k hk hk'=>⟨ad, ?_⟩⟩
 simp only [List.getElem_map,Array.toList_map,Array.getElem_toList]
 refine h _ ?_
 simp only [List.mem_map]
 exact ⟨ps.toList[k]' aC,List.getElem_mem _,ad⟩

theorem zzd {M:Nat→Prop}{e:Env}{a:Act} (x:Option Operand) (h:∀y ∈ x.toArray,Rel φ w M (ev e y) (a.eval y)):
  (match x.map (ev e),x.map a.eval with|none,none=>True|some x,some v=>Rel φ w M x v| _, _=>False):=by
 cases x with
 |none=>trivial
 |some y=>exact h y ad

theorem ztQ (hH:zaE φ F w M0 h) (hn:F n){e:Env}{a:Act}{o:Oper} (he:∀x ∈ o.op.operands,Rel φ w (Or M0 (Mut φ h)) (ev e x) (a.eval x)) (hc:(aev P n o.op e h).cond):
  ∃nx v w' φ',(execOp a.eval o).run P w= .ok nx w'∧(nx= .value v∨(nx= .skip∧v=undef))∧Rel φ' w' (Or M0 (Mut φ' (zam (aev P n o.op e h).wr h))) (aev P n o.op e h).val v∧
   zaE φ' (Fal F n (aev P n o.op e h).al) w' M0 (zam (aev P n o.op e h).wr h)∧zc8 φ w M0 h φ' w' (zam (aev P n o.op e h).wr h):=by
 have fin:∀ {r:Res} {s:Sem Value},ztG P φ F n w M0 h r s→(execOp a.eval o).run P w=((do pure (.value (← s)):Sem Next)).run P w→
   ∃nx v w' φ',(execOp a.eval o).run P w= .ok nx w'∧(nx= .value v∨(nx= .skip∧v=undef))∧Rel φ' w' (Or M0 (Mut φ' (zam r.wr h))) r.val v∧
   zaE φ' (Fal F n r.al) w' M0 (zam r.wr h)∧zc8 φ w M0 h φ' w' (zam r.wr h):=by
  intro r s hg heq
  obtain ⟨u,w',φ',h1,h2,h3,h4⟩:=hg
  refine ⟨.value u,u,w',φ', ?_, .inl rfl,h2,h3,h4⟩
  rw [heq];simp [h1]
 have hmove:∀x:Operand,o.op.operands= #[x]→zbW P φ w (Or M0 (Mut φ h)) (.ok (ev e x)) (pure (a.eval x)):=
  fun x hx=>⟨_,rfl,he x bZ,rfl,rfl⟩
 unfold aev at hc ⊢
 cases hop:o.op with
 |move x=>exact fin (zEw hH (hmove x aq)) aA
 |assign x=>exact fin (zEw hH (hmove x aq)) aA
 |pick c x y=>
  simp only [hop] at hc ⊢
  exact fin (zEw hH (zwq (he c aq) (he x aq) (he y aq) hc)) aA
 |alloc t=>
  simp only [hop] at hc ⊢
  split at hc
  ·rename_i z hz
   try simp only [hz]
   exact fin (zvf (P:=P) hH hn hz) aA
  ·exact hc.elim
 |box t x=>
  simp only [hop] at hc ⊢
  exact fin (zAR (P:=P) (t:=t) hH hn (he x aq) hc) aA
 |build t ps=>
  simp only [hop] at hc ⊢
  obtain ⟨h1,h2⟩:=zrb (φ:=φ) (w:=w) (M:=Or M0 (Mut φ h)) (e:=e) (a:=a) (ps:=ps) (fun x hx=>he x (by simp [hop,Op.operands];simpa using hx))
  exact fin (zEw hH (zvo hH h1 h2 hc)) aA
 |buildSlice t len ps=>
  simp only [hop] at hc ⊢
  obtain ⟨h1,h2⟩:=zrb (φ:=φ) (w:=w) (M:=Or M0 (Mut φ h)) (e:=e) (a:=a) (ps:=ps) (fun x hx=>he x (by simp [hop,Op.operands];simpa using hx))
  exact fin (zkY hH hn h1 h2 hc) aA
 |load t x=>
  simp only [hop] at hc ⊢
  exact fin (zEw hH (znR hH (he x aq) hc)) aA
 |store t x y=>
  simp only [hop] at hc ⊢
  obtain ⟨w',φ',h1,h2,h3,h4⟩:=zwK (P:=P) hH (he x aq) (he y aq) hc
  refine ⟨.skip,undef,w',φ',by simp [execOp,hop,h1], .inr ⟨rfl,rfl⟩,by rw [h4];exact .top _,by rw [zvH];exact h2,h3⟩
 |binOp op t x y t'=>
  simp only [hop] at hc ⊢
  exact fin (zEw hH (zvn (t:=t) (xo:=x) (yo:=y) (he x aq) (he y aq) hc)) aA
 |unOp op t x=>
  simp only [hop] at hc ⊢
  exact fin (zEw hH (zCa (he x aq) hc)) aA
 |nilCheck x=>
  simp only [hop] at hc ⊢
  obtain ⟨⟨a0,hv⟩,e1,e2,e3⟩:=zza hH (he x aq) hc
  refine fin (zEw hH (s:=pure (a.eval x)) ⟨a.eval x,rfl, ?_,e2,e3⟩) (by simp [execOp,hop,hv])
  rw [e1]
  exact he x aq
 |convert s d x=>
  simp only [hop] at hc ⊢
  exact fin (zEw hH (zvz hH (he x aq) hc)) aA
 |makeFunc f xs ys=>
  have h1:=zgP (xs:=xs.toList) (fun x hx=>he x (by simp [hop,Op.operands];exact .inl aN))
  have h2:=zgP (xs:=ys.toList) (fun x hx=>he x (by simp [hop,Op.operands];exact .inr aN))
  refine fin (zEw hH (s:=Instr.makeFunc f (xs.map a.eval) (ys.map a.eval)) ⟨_,rfl, ?_,rfl,rfl⟩) aA
  have e1:xs.map a.eval=⟨xs.toList.map a.eval⟩:=cu
  have e2:ys.map a.eval=⟨ys.toList.map a.eval⟩:=cu
  rw [e1,e2]
  exact .fn h1 h2
 |makeSlice t l c=>
  simp only [hop] at hc ⊢
  exact fin (zmY hH hn (he l aq) (he c aq) hc) aA
 |slice t x lo hi mx=>
  simp only [hop] at hc ⊢
  refine fin (zEw hH (ztq (vlo:=lo.map a.eval) (vhi:=hi.map a.eval) (vmx:=mx.map a.eval) hH (he x aq)
   (zzd lo fun y hy=>he y ?_) (zzd hi fun y hy=>he y ?_) (fun hm=>by cases mx<;>simp at hm ⊢) hc)) aA
  ·simp only [hop,Op.operands,Array.mem_append];exact .inl (.inl (.inr hy))
  ·simp only [hop,Op.operands,Array.mem_append];exact .inl (.inr hy)
 |fieldAddr t x f=>
  simp only [hop] at hc ⊢
  exact fin (zEw hH (zln hH (he x aq) hc)) aA
 |field t x f=>
  simp only [hop] at hc ⊢
  exact fin (zEw hH (zsK (he x aq) hc)) aA
 |indexAddr t x i=>
  simp only [hop] at hc ⊢
  exact fin (zEw hH (zlv hH (he x aq) (he i aq) hc)) aA
 |index t x i=>
  simp only [hop] at hc ⊢
  exact fin (zEw hH (zsV (he x aq) (he i aq) hc)) aA
 |extract x i=>
  simp only [hop] at hc ⊢
  exact fin (zEw hH (zoQ (he x aq) hc)) aA
 |makeMap t r=>
  simp only [hop] at hc ⊢
  exact fin (zqZ (vr:=r.map a.eval) hH hn (fun h=>by rw [h];rfl) hc) aA
 |mapUpdate t m k x=>
  simp only [hop] at hc ⊢
  obtain ⟨w',φ',h1,h2,h3,h4⟩:=zlQ (P:=P) hH (he m aq) (he k aq) (he x aq) hc
  refine ⟨.skip,undef,w',φ',by simp [execOp,hop,h1], .inr ⟨rfl,rfl⟩,by rw [h4];exact .top _,by rw [zlj];exact h2,h3⟩
 |insert t m k x=>
  simp only [hop] at hc ⊢
  obtain ⟨w',φ',h1,h2,h3,h4⟩:=zlQ (P:=P) hH (he m aq) (he k aq) (he x aq) hc
  refine ⟨.skip,undef,w',φ',by simp [execOp,hop,h1], .inr ⟨rfl,rfl⟩,by rw [h4];exact .top _,by rw [zlj];exact h2,h3⟩
 |lookup t m k ok=>
  simp only [hop] at hc ⊢
  exact fin (zEw hH (zqX hH (he m aq) (he k aq) hc)) aA
 |call c=>
  obtain ⟨callee,args,ats⟩:=c
  cases callee with
  |builtin b=>
   cases b with
   |len=>
    simp only [hop] at hc ⊢
    split at hc
    ·rename_i x t hx ht
     have e1:args= #[x]:=aY
     have e2:ats= #[t]:=by apply Array.ext';simpa using ht
     subst e1 e2
     exact fin (zEw hH (zyV (ats:= #[t]) (ty:=o.type) hH rfl (he x ax) hc)) aM
    ·exact hc.elim
   |cap=>
    simp only [hop] at hc ⊢
    split at hc
    ·rename_i x t hx ht
     have e1:args= #[x]:=aY
     have e2:ats= #[t]:=by apply Array.ext';simpa using ht
     subst e1 e2
     exact fin (zEw hH (zxU (ats:= #[t]) (ty:=o.type) hH rfl (he x ax) hc)) aM
    ·exact hc.elim
   |append=>
    simp only [hop] at hc ⊢
    split at hc
    ·rename_i s x hx
     have e1:args= #[s,x]:=aY
     subst e1
     exact fin (zAC (tys:=ats) (ty:=o.type) hH hn (he s ax) (he x ax) hc) aM
    ·exact hc.elim
   |copy=>
    simp only [hop] at hc ⊢
    split at hc
    ·rename_i s x hx
     have e1:args= #[s,x]:=aY
     subst e1
     have hg:=zxX (tys:=ats) (ty:=o.type) (n:=n) hH (he s ax) (he x ax) hc
     exact fin hg aM
    ·exact hc.elim
   |clear=>
    simp only [hop] at hc ⊢
    split at hc
    ·rename_i s hx
     have e1:args= #[s]:=aY
     subst e1
     have hg:=zvv (tys:=ats) (ty:=o.type) (n:=n) hH (he s ax) hc
     exact fin hg aM
    ·exact hc.elim
   |min=>
    simp only [hop] at hc ⊢
    split at hc
    ·rename_i x y hx
     have e1:args= #[x,y]:=aY
     subst e1
     exact fin (zEw hH (zy6 (ats:=ats) (ty:=o.type) (he x ax) (he y ax) hc)) aM
    ·exact hc.elim
   |max=>
    simp only [hop] at hc ⊢
    split at hc
    ·rename_i x y hx
     have e1:args= #[x,y]:=aY
     subst e1
     exact fin (zEw hH (zy4 (ats:=ats) (ty:=o.type) (he x ax) (he y ax) hc)) aM
    ·exact hc.elim
   | _=>rw [hop] at hc;exact hc.elim
  | _=>rw [hop] at hc;exact hc.elim
 | _=>rw [hop] at hc;exact hc.elim
end
end Go.Av
end
