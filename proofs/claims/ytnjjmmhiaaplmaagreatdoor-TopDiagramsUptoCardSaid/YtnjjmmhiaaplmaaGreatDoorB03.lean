/- Texts of ours, part 3: our library and contracts of functions. -/
import Derived.Test.YtnjjmmhiaaplmaaGreatDoorB02
import Derived.RangeFuncLeaves
import Derived.RangeFuncRecord
set_option linter.unusedSimpArgs false
set_option linter.unusedVariables false
set_option maxRecDepth 100000
set_option maxHeartbeats 40000000
section
namespace Go.Av
open Go

section weaken
variable {φ:zaz} {n:Nat} {w:World} {M0:Nat→Prop} {h:zaq}
def zk8 (φ:zaz) (n n':Nat) (h':zaq):zaz:=fun o=>if o<n' then (if o<n then φ o else match h' o with|some (.rows _ g _ _)=>some (g,none)|none=>none) else none
theorem zhQ {φ:zaz}{n n' o:Nat}{h':zaq} (h1:o<n') (h2:o<n):zk8 φ n n' h' o=φ o:=by simp [zk8,h1,h2]

theorem Rel.cut {M M':Nat→Prop}{n':Nat}{h':zaq} (hf:∀o,n≤o→φ o=none) (hM:∀k,M' k→M k){x:AV}{v:Value} (hx:Rel φ w M x v) (hb:Bel n' x):
    Rel (zk8 φ n n' h') w M' x v:=by
  refine Rel.rec (φ:=φ) (w:=w) (M:=M) (motive_1:=fun x v _=>Bel n' x→Rel (zk8 φ n n' h') w M' x v) (motive_2:=fun xs vs _=>(∀c ∈ xs,Bel n' c)→zaJ (zk8 φ n n' h') w M' xs vs)
    ?_ ?_ ?_ ?_ ?_ ?_ ?_ ?_ ?_ ?_ ?_ ?_ ?_ ?_ hx hb
  · exact fun v _=> .top v
  · exact fun v _=> .v v
  · exact fun hv _ ih hb=>by cases hb with|agg hb=>exact .agg hv (ih hb)
  · exact fun _ ih hb=>by cases hb with|tup hb=>exact .tup (ih hb)
  · exact fun sz A cap _=> .nil sz A cap
  · intro sz rows a len cap C T fz hs hm hb hr hl hc hcap hv _ ih hbel
    cases hbel with
    |lst hbel=>
      refine .lst hs (fun hk=>hm (hM _ hk)) hb hr hl hc hcap hv (ih fun c hc=> ?_)
      obtain ⟨r,hr,hc⟩:=List.mem_flatten.1 hc
      exact hbel r hr c hc
  · intro cells a C T fz hs hm hb hc hv _ ih hbel
    cases hbel with|fp hbel=>exact .fp hs (fun hk=>hm (hM _ hk)) hb hc hv (ih hbel)
  · intro o g sz i off g' A v ho hg h hbel
    cases hbel with
    |ref hbel=>
      have:o<n:=Nat.lt_of_not_le fun hle=>cK
      exact .ref cQ hg h
  · intro o g sz i len g' A v ho hg h hbel
    cases hbel with
    |sl hbel=>
      have:o<n:=Nat.lt_of_not_le fun hle=>cK
      exact .sl cQ hg h
  · intro o g' A v ho h hbel
    cases hbel with
    |mp hbel=>
      have:o<n:=Nat.lt_of_not_le fun hle=>cK
      exact .mp cQ h
  · exact fun _ _ ih1 ih2 hb=>cT
  · exact fun _ h' ih hb=>cW
  · exact fun _=> .nil
  · exact fun _ _ ih1 ih2 hb=> .cons (ih1 (hb _ ad)) (ih2 fun c hc=>hb c bc)

theorem zeK {HH:List (Nat×zbp)}{o:Nat}{x:zbp} (ho:mkH HH o=some x):(o,x) ∈ HH:=by
  induction HH with
  |nil=>cases ho
  |cons p l ih=>
    obtain ⟨o',y⟩:=p
    simp only [mkH,upd] at ho
    split at ho
    · rename_i e;subst e;simp only [Option.some.injEq] at ho;subst ho;simp
    · simp [ih ho]
theorem zs7 {E:List (Nat×AV)} (t:Nat):mkE E t= .top∨(t,mkE E t) ∈ E:=by
  induction E with
  |nil=>exact .inl rfl
  |cons p l ih=>
    obtain ⟨t',x⟩:=p
    simp only [mkE,upd]
    split
    · rename_i e;subst e;right;simp
    · rcases ih with ih|ih
      · exact .inl ih
      · right;simp [ih]

theorem zav.length {h h':zaq}{n:Nat}:∀ {xs ys:List AV},zav h h' n xs ys→xs.length=ys.length
  | [], _, .nil=>rfl
  | _:: _, _, .cons _ t=>by simp [t.length]
theorem zav.append {h h':zaq}{n:Nat}:∀ {xs ys xs' ys':List AV},zav h h' n xs ys→zav h h' n xs' ys'→zav h h' n (xs++xs') (ys++ys')
  | [], _, _, _, .nil,h2=>h2
  | _:: _, _, _, _, .cons hx t,h2=> .cons hx (t.append h2)
theorem zaN.spec {h h':zaq}{n:Nat}:∀ {rs rs':List (List AV)},zaN h h' n rs rs'→zav h h' n rs.flatten rs'.flatten∧rs.length=rs'.length∧∀sz,(∀r ∈ rs,r.length=sz)→∀r ∈ rs',r.length=sz
  | [], _, .refl _=>⟨.nil,rfl,fun _ h=>h⟩
  | [], _, .nil=>⟨.nil,rfl,fun _ h=>h⟩
  | _:: _, _, .refl _=>⟨.refl _ _ _ _,rfl,fun _ h=>h⟩
  | _:: _, _, .cons hx t=>by
    obtain ⟨i1,i2,i3⟩:=t.spec
    refine ⟨hx.append i1,by simp [i2],fun sz hs r hr=> ?_⟩
    rcases List.mem_cons.1 hr with rfl|hr
    · rw [← hx.length];exact hs _ ad
    · exact i3 sz (fun r hr=>hs r bv) r hr
theorem zaJ.split {φ:zaz}{w:World}{M:Nat→Prop}:∀ {xs ys:List AV}{vs:List Value},zaJ φ w M (xs++ys) vs→∃us ts,vs=us++ts∧zaJ φ w M xs us∧zaJ φ w M ys ts
  | [], _,vs,h=>⟨[],vs,rfl, .nil,h⟩
  | _:: _, _, _, .cons h t=>by
    obtain ⟨us,ts,rfl,h1,h2⟩:=t.split
    exact ⟨_::us,ts,rfl, .cons h h1,h2⟩
theorem LeV.rel {F:Nat→Prop} (hH:zaE φ F w M0 h){h':zaq}{φ':zaz}{M':Nat→Prop}{n':Nat} (hcut:∀ {x:AV}{v:Value},Bel n' x→Rel φ w (Or M0 (Mut φ h)) x v→Rel φ' w M' x v)
    (hblk:∀o mt g sz rs a bs,h o=some (.rows mt g sz rs)→φ o=some (g,some (a,bs))→(∀g sz rs,h' o≠some (.rows true g sz rs))→¬M0 a.block→¬M' a.block)
    (hown:∀o g sz,n≤o→h' o=some (.rows true g sz [])→o<n'→φ' o=some (g,none)):
    ∀ {x y:AV},LeV h h' n x y→∀ {v:Value},Bel n' y→Rel φ w (Or M0 (Mut φ h)) x v→Rel φ' w M' y v:=by
  have hfrz:∀ {o g sz i len:Nat} {mt:Bool} {rs rows:List (List AV)} {v:Value},h o=some (.rows mt g sz rs)→i+len≤rs.length→(∀g sz rs,h' o≠some (.rows true g sz rs))→
      zaN h h' n ((rs.drop i).take len) rows→(∀ {vs:List Value},zaJ φ w (Or M0 (Mut φ h)) ((rs.drop i).take len).flatten vs→zaJ φ' w M' rows.flatten vs)→
      Rel φ w (Or M0 (Mut φ h)) (.sl o g sz i len) v→Rel φ' w M' (.lst sz rows) v:=by
    intro o g sz i len mt rs rows v ho hl ho' hr hb hx
    obtain ⟨A,cap,rfl,hcap,hA⟩:=hH.sl_alive bt hx
    obtain ⟨_,q2,q3⟩:=hr.spec
    have hrl:rows.length=len:=by rw [← q2];simp;omega
    rcases hA with ⟨rfl,rfl,rfl, _⟩|⟨rfl, _, _⟩|⟨a,bs,hp,hsp,rfl,hcb⟩
    · have:rows= []:=List.eq_nil_of_length_eq_zero hrl
      subst this;exact .nil _ _ _
    · have:rows= []:=List.eq_nil_of_length_eq_zero hrl
      subst this;exact .nil _ _ _
    · obtain ⟨A',hA',hobj⟩:=hH.obj _ _ _ _ _ ho
      rw [hp] at hA'
      simp only [Option.some.injEq,Prod.mk.injEq,true_and] at hA'
      subst hA'
      rcases hobj with ⟨hobj, _⟩|⟨a₁,bs₁,e1,h0,hd⟩
      · cases hobj
      simp only [Option.some.injEq,Prod.mk.injEq] at e1
      obtain ⟨rfl,rfl⟩:=e1
      obtain ⟨C,T,hcell,hC,hrr,hl',hv,hrel⟩:=hd.cells hsp
      have hm:=Nat.mul_le_mul_right sz hl
      rw [Nat.add_mul] at hm
      have e1:(C.toList.drop (a.off+i * sz)).take (len * sz)=(((C.toList.drop a.off).take (rs.length * sz)).drop (i * sz)).take (len * sz):=by
        rw [List.drop_take,List.drop_drop,List.take_take];congr 1;omega
      refine .lst (a:=⟨a.block,a.off+i * sz,none⟩) (C:=C) (T:=T) (fz:=(0,0)) rfl (hblk o mt g sz rs a bs ho hp ho' h0) hcell ?_ hrl.symm (by rw [hrl];simp only;omega) hcap ?_ ?_
      · exact q3 sz fun r hr0=>hrr r (List.mem_of_mem_drop (List.mem_of_mem_take hr0))
      · intro c hc
        rw [hrl] at hc
        simp only [e1] at hc
        exact hv c (List.mem_of_mem_drop (List.mem_of_mem_take hc))
      · rw [hrl]
        simp only [e1]
        refine hb ?_
        rw [zdE (fun r hr0=>hrr r (List.mem_of_mem_drop hr0)),zdD hrr]
        exact (hrel.drop _).take _
  have hfrzP:∀ {o g sz i off:Nat} {mt:Bool} {rs:List (List AV)} {cells:List AV} {v:Value},h o=some (.rows mt g sz rs)→i<rs.length→off<sz→(∀g sz rs,h' o≠some (.rows true g sz rs))→
      zav h h' n ((nth rs i).drop off) cells→(∀ {vs:List Value},zaJ φ w (Or M0 (Mut φ h)) ((nth rs i).drop off) vs→zaJ φ' w M' cells vs)→
      Rel φ w (Or M0 (Mut φ h)) (.ref o g sz i off) v→Rel φ' w M' (.fp cells) v:=by
    intro o g sz i off mt rs cells v ho hi hoff ho' hr hb hx
    obtain ⟨A',hA',hobj⟩:=hH.obj _ _ _ _ _ ho
    cases hx with
    |ref hp hg hh=>
      rw [hA'] at hp
      simp only [Option.some.injEq,Prod.mk.injEq] at hp
      obtain ⟨rfl,rfl⟩:=hp
      obtain ⟨a,bs,rfl,hsp,rfl⟩:=hh rfl
      rcases hobj with ⟨hobj, _⟩|⟨a₁,bs₁,e1,h0,hd⟩
      · cases hobj
      simp only [Option.some.injEq,Prod.mk.injEq] at e1
      obtain ⟨rfl,rfl⟩:=e1
      obtain ⟨C,T,hcell,hC,hrr,hl',hv,hrel⟩:=hd.cells hsp
      have hlen:((nth rs i).drop off).length=sz - off:=by
        have:(nth rs i).length=sz:=by
          have:nth rs i=rs[i]:=by simp [nth,hi]
          rw [this];exact hrr _ (List.getElem_mem hi)
        simp [this]
      have hcl:cells.length=sz - off:=by rw [← hr.length];exact hlen
      have hm:=Nat.mul_le_mul_right sz (show i+1≤rs.length from hi)
      rw [Nat.add_mul] at hm
      have e1:(C.toList.drop (a.off+i * sz+off)).take (sz - off)=(((C.toList.drop a.off).take (rs.length * sz)).drop (i * sz+off)).take (sz - off):=by
        rw [List.drop_take,List.drop_drop,List.take_take];congr 1
        · omega
        · congr 1;omega
      refine .fp (a:=⟨a.block,a.off+i * sz+off,none⟩) (C:=C) (T:=T) (fz:=(0,0)) rfl (hblk o mt g sz rs a bs ho hA' ho' h0) hcell (by rw [hcl];simp only;omega) ?_ ?_
      · intro c hc
        rw [hcl] at hc
        simp only [e1] at hc
        exact hv c (List.mem_of_mem_drop (List.mem_of_mem_take hc))
      · rw [hcl]
        simp only [e1]
        refine hb ?_
        have e2:(nth rs i).drop off=(rs.flatten.drop (i * sz+off)).take (sz - off):=by
          have e3:nth rs i=rs[i]:=by simp [nth,hi]
          have e4:=zdD hrr i
          rw [← List.drop_drop,← e4,List.drop_eq_getElem_cons hi,List.flatten_cons,e3]
          have:rs[i].length=sz:=hrr _ (List.getElem_mem hi)
          rw [List.drop_append_of_le_length aa,List.take_append_of_le_length (by simp [this]),List.take_of_length_le (by simp [this])]
        rw [e2]
        exact (hrel.drop _).take _
  intro x y hle
  refine LeV.rec (h:=h) (h':=h') (n:=n)
    (motive_1:=fun x y _=>∀ {v:Value},Bel n' y→Rel φ w (Or M0 (Mut φ h)) x v→Rel φ' w M' y v)
    (motive_2:=fun xs ys _=>∀ {vs:List Value},(∀c ∈ ys,Bel n' c)→zaJ φ w (Or M0 (Mut φ h)) xs vs→zaJ φ' w M' ys vs)
    (motive_3:=fun xs ys _=>∀ {vs:List Value},(∀r ∈ ys,∀c ∈ r,Bel n' c)→zaJ φ w (Or M0 (Mut φ h)) xs.flatten vs→zaJ φ' w M' ys.flatten vs)
    ?_ ?_ ?_ ?_ ?_ ?_ ?_ ?_ ?_ ?_ ?_ ?_ ?_ ?_ ?_ hle
  · intro x v hb hx;exact hcut hb hx
  · intro x v hb hx;exact .top _
  · intro o g sz i len mt rs rows ho hl ho' hr ih v hb hx
    exact hfrz ho hl ho' hr (fun hx=>ih (by cases hb with|lst hb=>exact hb) hx) hx
  · intro o g sz i off mt rs cells ho hi hoff ho' hr ih v hb hx
    exact hfrzP ho hi hoff ho' hr (fun hx=>ih (by cases hb with|fp hb=>exact hb) hx) hx
  · intro A c sz v hb hx;cases hx;exact .nil _ _ _
  · intro o g sz hn ho' v hb hx
    cases hx
    cases hb with
    |sl hb=>exact .sl (hown o g sz hn ho' hb) (Nat.le_refl _) fun _=> .inl ⟨rfl,rfl,rfl,rfl⟩
  · intro xs ys _ ih v hb hx
    cases hx with|agg hv hrel=>cases hb with|agg hb=>exact .agg hv (ih hb hrel)
  · intro xs ys _ ih v hb hx
    cases hx with|tup hrel=>cases hb with|tup hb=>exact .tup (ih hb hrel)
  · intro f a b a' b' _ _ ih1 ih2 v hb hx
    cases hx with|fn h1 h2=>cases hb with|fn hb hb'=>exact .fn (ih1 hb h1) (ih2 hb' h2)
  · intro sz rows rows' hr ih v hb hx
    have hbr:∀r ∈ rows',∀c ∈ r,Bel n' c:=by cases hb with|lst hb=>exact hb
    obtain ⟨_,q2,q3⟩:=hr.spec
    cases hx with
    |nil A cap=>
      have:rows'= []:=List.eq_nil_of_length_eq_zero (by rw [← q2];rfl)
      subst this
      exact .nil _ _ _
    | @lst _ _ a len cap C T fz hs hM hcell hrr hl hc hcap hv hrel=>
      have hfp:Rel φ' w M' (.fp []) (.pointer (some a)):=hcut (.fp ad) (.fp hs hM hcell (by simp only [List.length_nil];omega) ad bo)
      cases hfp with
      |fp hs2 hM2 hb2 hc2 hv2 h2=>
        exact .lst hs hM2 hcell (q3 sz hrr) (by rw [hl,q2]) (by rw [← q2];exact hc) hcap (by rw [← q2];exact hv) (by rw [← q2];exact ih hbr hrel)
  · intro vs _ hx;cases hx;exact .nil
  · intro x y xs ys _ _ ih1 ih2 vs hb hx
    cases hx with|cons h1 h2=>exact .cons (ih1 (hb _ ad) h1) (ih2 (fun c hc=>hb c bc) h2)
  · intro rs vs hb hx
    refine zEH hx.length fun k hk hk'=>hcut ?_ (hx.get k hk hk')
    obtain ⟨r,hr2,hc2⟩:=List.mem_flatten.1 (List.getElem_mem hk)
    exact hb r hr2 _ hc2
  · intro vs _ hx;cases hx;exact .nil
  · intro x y xs ys _ _ ih1 ih2 vs hb hx
    rw [List.flatten_cons] at hx ⊢
    obtain ⟨us,ts,rfl,h1,h2⟩:=hx.split
    exact (ih1 (hb _ ad) h1).append (ih2 (fun c hc=>hb c bc) h2)
theorem zav.rel {F:Nat→Prop} (hH:zaE φ F w M0 h){h':zaq}{φ':zaz}{M':Nat→Prop}{n':Nat} (hcut:∀ {x:AV}{v:Value},Bel n' x→Rel φ w (Or M0 (Mut φ h)) x v→Rel φ' w M' x v)
    (hblk:∀o mt g sz rs a bs,h o=some (.rows mt g sz rs)→φ o=some (g,some (a,bs))→(∀g sz rs,h' o≠some (.rows true g sz rs))→¬M0 a.block→¬M' a.block)
    (hown:∀o g sz,n≤o→h' o=some (.rows true g sz [])→o<n'→φ' o=some (g,none)):
    ∀ {xs ys:List AV},zav h h' n xs ys→(∀c ∈ ys,Bel n' c)→∀ {vs:List Value},zaJ φ w (Or M0 (Mut φ h)) xs vs→zaJ φ' w M' ys vs:=by
  intro xs
  induction xs with
  |nil=>intro ys hle _ vs hx;cases hle;cases hx;exact .nil
  |cons x xs ih=>
    intro ys hle hb vs hx
    cases hle with
    |cons hx0 ht=>
      cases hx with
      |cons h1 h2=>exact .cons (LeV.rel hH hcut hblk hown hx0 (hb _ ad) h1) (ih ht (fun c hc=>hb c bc) h2)
theorem Wk.sound {e:Env}{E:List (Nat×AV)}{HH:List (Nat×zbp)}{n':Nat} (hk:Wk e h n E HH n') (hH:zhD φ n w M0 h){tmps:Nat→Value}
    (he:∀t,Rel φ w (Or M0 (Mut φ h)) (e t) (tmps t)):
    ∃φ',zhD φ' n' w M0 (mkH HH)∧(∀t,Rel φ' w (Or M0 (Mut φ' (mkH HH))) (mkE E t) (tmps t))∧(∀k,Mut φ' (mkH HH) k→Mut φ h k)∧
      (∀o x,o<n'→φ o=some x→φ' o=some x):=by
  have hold:∀o mt g sz rs,mkH HH o=some (.rows mt g sz rs)→o<n'∧zCe n' (.rows mt g sz rs)∧
      ((∃mt0 rs0,h o=some (.rows mt0 g sz rs0)∧(mt=true→mt0=true)∧zaN h (mkH HH) n rs0 rs∧o<n∧zk8 φ n n' (mkH HH) o=φ o)∨
       (h o=none∧mt=true∧rs= []∧n≤o∧zk8 φ n n' (mkH HH) o=some (g,none))):=by
    intro o mt g sz rs ho
    obtain ⟨h1,h2,h3⟩:=hk.obj _ (zeK ho)
    refine ⟨h1,h3, ?_⟩
    simp only at h2 h1
    generalize hho:h o=q at h2
    cases h2 with
    |same hm hr=>
      have hlt:o<n:=by
        obtain ⟨A,hA, _⟩:=hH.obj _ _ _ _ _ hho
        exact Nat.lt_of_not_le fun hle=>by rw [hH.fresh o hle] at hA;cases hA
      exact .inl ⟨_, _,rfl,hm,hr,hlt,zhQ h1 hlt⟩
    |own hn=>exact .inr ⟨rfl,rfl,rfl,hn,by simp [zk8,h1,show ¬o<n by omega,ho]⟩
  have hmut:∀k,Mut (zk8 φ n n' (mkH HH)) (mkH HH) k→Mut φ h k:=by
    rintro k ⟨o,g,sz,rs,g',a,bs,ho,hp,rfl⟩
    obtain ⟨_, _,hc⟩:=hold _ _ _ _ _ ho
    rcases hc with ⟨mt0,rs0,ho0,hm, _, _,hcut⟩|⟨_, _, _, _,hcut⟩
    · rw [hcut] at hp
      have:=hm rfl
      subst this
      exact ⟨o,g,sz,rs0,g',a,bs,ho0,hp,rfl⟩
    · rw [hcut] at hp;cases hp
  have hor:∀k,Or M0 (Mut (zk8 φ n n' (mkH HH)) (mkH HH)) k→Or M0 (Mut φ h) k:=fun k hk=>hk.imp id (hmut k)
  have hcut0:∀ {x:AV} {v:Value},Bel n' x→Rel φ w (Or M0 (Mut φ h)) x v→Rel (zk8 φ n n' (mkH HH)) w (Or M0 (Mut (zk8 φ n n' (mkH HH)) (mkH HH))) x v:=fun hb hx=>hx.cut hH.fresh hor hb
  have hblk:∀o mt g sz rs a bs,h o=some (.rows mt g sz rs)→φ o=some (g,some (a,bs))→(∀g sz rs,mkH HH o≠some (.rows true g sz rs))→¬M0 a.block→¬Or M0 (Mut (zk8 φ n n' (mkH HH)) (mkH HH)) a.block:=by
    rintro o mt g sz rs a bs ho hp ho' h0 (hk|⟨o',g',sz',rs',g'',a',bs',ho1,hp1,he⟩)
    · exact h0 hk
    · obtain ⟨_, _,hc⟩:=hold _ _ _ _ _ ho1
      rcases hc with ⟨mt0,rs0,ho0,hm0, _, _,hcut⟩|⟨_, _, _, _,hcut⟩
      · rw [hcut] at hp1
        have hne:o'≠o:=fun e=>by subst e;exact ho' _ _ _ ho1
        have hm1:=hm0 rfl
        subst hm1
        have hg:g''=g':=by
          obtain ⟨A2,hA2, _⟩:=hH.obj _ _ _ _ _ ho0
          rw [hp1] at hA2
          simp only [Option.some.injEq,Prod.mk.injEq] at hA2
          exact hA2.1
        subst hg
        exact hH.inj _ _ _ _ _ _ _ _ _ _ _ _ _ _ ho0 ho hne (.inl rfl) hp1 hp he
      · rw [hcut] at hp1;cases hp1
  have hown:∀o g sz,n≤o→mkH HH o=some (.rows true g sz [])→o<n'→zk8 φ n n' (mkH HH) o=some (g,none):=by
    intro o g sz hn ho' hb
    simp [zk8,hb,show ¬o<n by omega,ho']
  have hval:∀ {x y:AV} {v:Value},LeV h (mkH HH) n x y→Bel n' y→Rel φ w (Or M0 (Mut φ h)) x v→Rel (zk8 φ n n' (mkH HH)) w (Or M0 (Mut (zk8 φ n n' (mkH HH)) (mkH HH))) y v:=
    fun hle hb hx=>LeV.rel hH hcut0 hblk hown hle hb hx
  have hrow:∀ {xs ys:List AV},zav h (mkH HH) n xs ys→(∀c ∈ ys,Bel n' c)→∀ {vs:List Value},zaJ φ w (Or M0 (Mut φ h)) xs vs→
      zaJ (zk8 φ n n' (mkH HH)) w (Or M0 (Mut (zk8 φ n n' (mkH HH)) (mkH HH))) ys vs:=
    fun hle hb _ hx=>zav.rel hH hcut0 hblk hown hle hb hx
  have hrows:∀ {rs rs':List (List AV)},zaN h (mkH HH) n rs rs'→zav h (mkH HH) n rs.flatten rs'.flatten∧rs.length=rs'.length∧∀sz,(∀r ∈ rs,r.length=sz)→∀r ∈ rs',r.length=sz:=fun hle=>hle.spec
  refine ⟨zk8 φ n n' (mkH HH),⟨hH.m0,fun o ho=>by simp [zk8,show ¬o<n' by omega], ?_, ?_,hH.glob.keep (fun _ _ _=>rfl) (fun k hk=> .inl (hk.imp id (hmut k)))⟩, ?_,hmut, ?_⟩
  · intro o mt g sz rs ho
    obtain ⟨hlt,hbel,hc⟩:=hold _ _ _ _ _ ho
    rcases hc with ⟨mt0,rs0,ho0,hm,hr,hlt',hcut⟩|⟨_, _,rfl, _,hcut⟩
    · obtain ⟨A,hA,hobj⟩:=hH.obj _ _ _ _ _ ho0
      obtain ⟨i1,i2,i3⟩:=hrows hr
      refine ⟨A,by rw [hcut];exact hA,hobj.imp (fun h=>⟨h.1, ?_⟩) ?_⟩
      · obtain ⟨_,rfl⟩:=h
        exact List.eq_nil_of_length_eq_zero (by rw [← i2];rfl)
      · have hrw:∀ {vs:List Value},zaJ φ w (Or M0 (Mut φ h)) rs0.flatten vs→zaJ (zk8 φ n n' (mkH HH)) w (Or M0 (Mut (zk8 φ n n' (mkH HH)) (mkH HH))) rs.flatten vs:=fun e9=>by
          refine hrow i1 (fun c hc=> ?_) e9
          obtain ⟨r,hr,hc⟩:=List.mem_flatten.1 hc
          exact hbel r hr c hc
        rintro ⟨a,bs,e1,e3,⟨C,T,e2,e4,e5,e6,e7,e8,e9⟩|⟨es,clk,e2,e4,e5,e6,e9⟩⟩
        · refine ⟨a,bs,e1,e3, .inl ⟨C,T,e2,e4,e5,i3 sz e6,by rw [← i2];exact e7,by rw [← i2];exact e8, ?_⟩⟩
          rw [← i2]
          exact hrw e9
        · exact ⟨a,bs,e1,e3, .inr ⟨es,clk,e2,e4,by rw [← i2];exact e5,⟨e6.1,i3 sz e6.2⟩,hrw e9⟩⟩
    · exact ⟨none,hcut, .inl ⟨rfl,rfl⟩⟩
  · intro o o' mt g sz rs mt' g' sz' rs' a a' b b' h1 h2 hne hmt p1 p2
    obtain ⟨_, _,c1⟩:=hold _ _ _ _ _ h1
    obtain ⟨_, _,c2⟩:=hold _ _ _ _ _ h2
    rcases c1 with ⟨mt1,rs1,ho1,hm1, _, _,hcut1⟩|⟨_, _, _, _,hcut1⟩
    · rcases c2 with ⟨mt2,rs2,ho2,hm2, _, _,hcut2⟩|⟨_, _, _, _,hcut2⟩
      · rw [hcut1] at p1
        rw [hcut2] at p2
        exact hH.inj _ _ _ _ _ _ _ _ _ _ _ _ _ _ ho1 ho2 hne (hmt.imp hm1 hm2) p1 p2
      · rw [hcut2] at p2;cases p2
    · rw [hcut1] at p1;cases p1
  · intro t
    rcases zs7 (E:=E) t with ht|ht
    · rw [ht];exact .top _
    · obtain ⟨h1,h2⟩:=hk.env _ ht
      exact hval h1 h2 (he t)
  · intro o x hlt hx
    have:o<n:=Nat.lt_of_not_le fun hle=>by rw [hH.fresh o hle] at hx;cases hx
    rw [zhQ hlt this];exact hx
end weaken
end Go.Av
end
section
/- Our library, part 11: regions in the text's order, and code, are sound. -/
namespace Go.Av
open Go

theorem zaM {φ:zaz}{k:Nat}:¬Mut φ noH k:=by rintro ⟨o,g,sz,rs,g',a,bs,ho, _⟩;cases ho
theorem ztF.rel {x:AV} (hf:ztF x){φ φ':zaz}{w w':World}{M M':Nat→Prop}:∀ {v:Value},Rel φ w M x v→Rel φ' w' M' x v:=by
 induction hf with
 |v x=>intro v h;cases h;exact .v _
 | @tup xs h ih=>
  intro v hx
  cases hx with
  |tup hr=>exact .tup (zEH hr.length fun k hk hv=>ih _ (List.getElem_mem _) (hr.get k hk hv))
 | @agg xs h ih=>
  intro v hx
  cases hx with
  |agg hcv hr=>exact .agg hcv (zEH hr.length fun k hk hv=>ih _ (List.getElem_mem _) (hr.get k hk hv))

theorem Rel.closed {φ φ':zaz}{w:World}{M M':Nat→Prop} (hM:∀k,M' k→M k){x:AV}{v:Value} (hx:Rel φ w M x v) (hb:Bel 0 x):Rel φ' w M' x v:=by
 refine Rel.rec (φ:=φ) (w:=w) (M:=M) (motive_1:=fun x v _=>Bel 0 x→Rel φ' w M' x v) (motive_2:=fun xs vs _=>(∀c ∈ xs,Bel 0 c)→zaJ φ' w M' xs vs)
  ?_ ?_ ?_ ?_ ?_ ?_ ?_ ?_ ?_ ?_ ?_ ?_ ?_ ?_ hx hb
 ·exact fun v _=> .top v
 ·exact fun v _=> .v v
 ·exact fun hv _ ih hb=>by cases hb with|agg hb=>exact .agg hv (ih hb)
 ·exact fun _ ih hb=>by cases hb with|tup hb=>exact .tup (ih hb)
 ·exact fun sz A cap _=> .nil sz A cap
 ·intro sz rows a len cap C T fz hs hm hb hr hl hc hcap hv _ ih hbel
  cases hbel with
  |lst hbel=>
   refine .lst hs (fun hk=>hm (hM _ hk)) hb hr hl hc hcap hv (ih fun c hc=> ?_)
   obtain ⟨r,hr,hc⟩:=List.mem_flatten.1 hc
   exact hbel r hr c hc
 ·intro cells a C T fz hs hm hb hc hv _ ih hbel
  cases hbel with|fp hbel=>exact .fp hs (fun hk=>hm (hM _ hk)) hb hc hv (ih hbel)
 ·intro o g sz i off g' A v ho hg h hbel
  cases hbel with|ref hbel=>exact absurd hbel (Nat.not_lt_zero _)
 ·intro o g sz i len g' A v ho hg h hbel
  cases hbel with|sl hbel=>exact absurd hbel (Nat.not_lt_zero _)
 ·intro o g' A v ho h hbel
  cases hbel with|mp hbel=>exact absurd hbel (Nat.not_lt_zero _)
 ·exact fun _ _ ih1 ih2 hb=>cT
 ·exact fun _ h' ih hb=>cW
 ·exact fun _=> .nil
 ·exact fun _ _ ih1 ih2 hb=> .cons (ih1 (hb _ ad)) (ih2 fun c hc=>hb c bc)
theorem zce {φ:zaz}{F:Nat→Prop}{n:Nat}{w:World}{M0:Nat→Prop}{h h':zaq} (hH:zaE φ F w M0 h) (hfz:∀o g sz rs,h' o=some (.rows true g sz rs)→h o=some (.rows true g sz rs))
  {args args':List AV} {vs:List Value} (hle:zav h h' n args args') (hb:∀c ∈ args',Bel 0 c) (hr:zaJ φ w (Or M0 (Mut φ h)) args vs):zaJ noP w (Or M0 (Mut φ h')) args' vs:=by
 have hmut:∀k,Mut φ h' k→Mut φ h k:=by
  rintro k ⟨o,g,sz,rs,g',a,bs,ho,hp,rfl⟩
  exact ⟨o,g,sz,rs,g',a,bs,hfz _ _ _ _ ho,hp,rfl⟩
 refine zav.rel (φ':=noP) (n':=0) hH (fun {x v} hb hx=> ?_) ?_ (fun o g sz _ _ h0=>by omega) hle hb hr
 ·exact hx.closed (fun k hk=>hk.imp id (hmut k)) hb
 ·rintro o mt g sz rs a bs ho hp ho' h0 (hk|⟨o',g',sz',rs',g'',a',bs',ho1,hp1,he⟩)
  ·exact h0 hk
  ·have hne:o'≠o:=fun e=>by subst e;exact ho' _ _ _ ho1
   have ho0:=hfz _ _ _ _ ho1
   have hg:g''=g':=by
    obtain ⟨A2,hA2, _⟩:=hH.obj _ _ _ _ _ ho0
    rw [hp1] at hA2
    simp only [Option.some.injEq,Prod.mk.injEq] at hA2
    exact hA2.1
   subst hg
   exact hH.inj _ _ _ _ _ _ _ _ _ _ _ _ _ _ ho0 ho hne (.inl rfl) hp1 hp he


theorem zah.mono {P:Program}{f:FuncId}{args:List AV}{h:zaq}{n:Nat}{K K':zcn} (hc:zah P f args h n K) (hk:∀r h n,K r h n→K' r h n):zah P f args h n K':=
 ⟨hc.1,fun M0 φ w vs h1 h2=>(hc.2 M0 φ w vs h1 h2).mono fun e w' ⟨v,φ',r,h',n',a,b,c⟩=>⟨v,φ',r,h',n',a,hk _ _ _ b,c⟩⟩
theorem zgT.mono {P:Program}{fv:AV}{args:List AV}{h:zaq}{n:Nat}{K K':zcn} (hc:zgT P fv args h n K) (hk:∀r h n,K r h n→K' r h n):zgT P fv args h n K':=by
 unfold zgT at hc ⊢
 split at hc
 ·exact zah.mono hc hk
 ·exact hc.elim
theorem zkg.mono {e:Env}{fv:AV}{args:List AV}{h:zaq}{n:Nat}{K K':Env→AV→zaq→Prop} (hc:zkg e fv args h n K) (hk:∀e r h,K e r h→K' e r h):zkg e fv args h n K':=by
 obtain ⟨l,more,rows,h1,h2,h3⟩:=hc
 refine ⟨l,more,rows,h1,h2, ?_⟩
 cases rows with
 |nil=>exact h3
 |cons xs rest=>
  obtain ⟨h',k1,k2,k3,k4,k5⟩:=h3
  exact ⟨h',k1,k2,k3,hk _ _ _ k4,hk _ _ _ k5⟩
theorem zkQ {P:Program}{ops:List Oper}{Q Q':zbV} (hq:∀x e h n,Q x e h n→Q' x e h n):∀ {rest:List Oper}{e:Env}{h:zaq}{n:Nat},zdA P ops Q rest e h n→zdA P ops Q' rest e h n:=by
 intro rest
 induction rest with
 |nil=>intro e h n hh;exact hq _ _ _ _ hh
 |cons o rest ih=>
  intro e h n hh
  unfold zdA at hh ⊢
  split at hh
  ·split at hh
   ·exact hh.imp (fun hh=>zgT.mono hh fun _ _ _ hk=>ih hk) (fun hh=>zkg.mono hh fun _ _ _ hk=>ih hk)
   ·exact ⟨hh.1,ih hh.2⟩
  ·split at hh
   ·exact hh
   ·split at hh
    ·obtain ⟨h1,⟨x,h2,h3⟩|⟨h2,h3⟩|⟨h2,h3⟩⟩:=hh
     ·exact ⟨h1, .inl ⟨x,h2,ih h3⟩⟩
     ·exact ⟨h1, .inr (.inl ⟨h2,zgT.mono h3 fun _ _ _ hk=>ih hk⟩)⟩
     ·exact ⟨h1, .inr (.inr ⟨h2,zkg.mono h3 fun _ _ _ hk=>ih hk⟩)⟩
    ·obtain ⟨h1,h2,h3⟩:=hh
     exact ⟨h1,h2,ih h3⟩
theorem zpR {P:Program}{n:Nat}{ops:List Oper}{K K':Env→zaq→List zfj→Prop} (hk:∀e h r,K e h r→K' e h r):
  ∀ {rest:List Oper} {i:Nat} {e:Env} {h:zaq} {acc:List zfj},zdn P n ops K i rest e h acc→zdn P n ops K' i rest e h acc:=by
 intro rest
 induction rest with
 |nil=>intro i e h acc hh;exact hk _ _ _ hh
 |cons o rest ih=>
  intro i e h acc hh
  unfold zdn at hh ⊢
  split at hh
  ·split at hh
   ·obtain ⟨r,h1,wr,h2,h3⟩:=hh
    exact ⟨r,h1,wr,h2,ih h3⟩
   ·exact ⟨hh.1,ih hh.2⟩
  ·split at hh
   ·exact hh
   ·split at hh
    ·obtain ⟨h1,r,S,wr,h2,h3,h4⟩:=hh
     exact ⟨h1,r,S,wr,h2,h3,ih h4⟩
    ·obtain ⟨h1,h2,h3⟩:=hh
     exact ⟨h1,h2,ih h3⟩
theorem zve {P:Program}{ops:List Oper}{Q Q':zbV} (hq:∀x e h n,Q x e h n→Q' x e h n){e:Env}{h:zaq}{n:Nat} (hh:zvd P ops Q e h n):zvd P ops Q' e h n:=
 hh.imp fun _ hh=>zpR (fun _ _ _ hk=>⟨hk.1,hk.2.imp (fun h=>⟨h.1,zkQ hq h.2⟩) (zkQ hq)⟩) hh
theorem zkG {K K':Env→zaq→Nat→Prop}{Q Q':zbV} (hk:∀e h n,K e h n→K' e h n) (hq:∀x e h n,Q x e h n→Q' x e h n):∀x e h n,zwV K Q x e h n→zwV K' Q' x e h n:=by
 intro x e h n hh
 cases x<;>first|exact hk _ _ _ hh|exact hq _ _ _ _ hh
theorem zrU {Q Q':zbV} (hq:∀x e h n,Q x e h n→Q' x e h n):∀x e h n,zhE Q x e h n→zhE Q' x e h n:=by
 intro x e h n hh
 cases x with
 |goto l=>exact hh
 | _=>exact hq _ _ _ _ hh
theorem zrQ {id:Nat}{Q Q':zbV} (hq:∀x e h n,Q x e h n→Q' x e h n):∀x e h n,zfW id Q x e h n→zfW id Q' x e h n:=by
 intro x e h n hh
 cases x with
 |exit id'=>
  simp only [zfW] at hh ⊢
  split at hh
  ·rename_i e;rw [if_pos e];exact hq _ _ _ _ hh
  ·rename_i e;rw [if_neg e];exact hq _ _ _ _ hh
 | _=>exact hq _ _ _ _ hh
theorem Fgt.mono {n0:Nat}{K K':Env→zaq→Nat→Prop} (hk:∀e h n,K e h n→K' e h n){e:Env}{h:zaq}{n:Nat} (hh:Fgt n0 K e h n):Fgt n0 K' e h n:=
 hh.imp (hk _ _ _) fun ⟨E,HH,n',h1,h2,h3⟩=>⟨E,HH,n',h1,h2,hk _ _ _ h3⟩
theorem zrS {K K':Env→zaq→Nat→Prop}{Q Q':zbV}{e0:Env} (hk:∀e h n,K e h n→K' e h n) (hq:∀x e h n,Q x e h n→Q' x e h n):∀x e h n,zkF K Q e0 x e h n→zkF K' Q' e0 x e h n:=by
 intro x e h n hh
 cases x<;>first|exact hk _ _ _ hh|exact hq _ _ _ _ hh|exact hh.elim
theorem zu0 {K K':Env→zaq→Nat→Prop} (hk:∀e h n,K e h n→K' e h n):∀x e h n,zw9 K x e h n→zw9 K' x e h n:=by
 intro x e h n hh
 cases x<;>first|exact hk _ _ _ hh|exact hh.elim
theorem zg8 {n0 more:Nat}{ps:List Tmp}{A B:Nat→zbV→Env→zaq→Nat→Prop} (hA:∀n1 Q Q' e h n,(∀x e h n,Q x e h n→Q' x e h n)→A n1 Q e h n→A n1 Q' e h n)
  (hB:∀n1 Q Q' e h n,(∀x e h n,Q x e h n→Q' x e h n)→B n1 Q e h n→B n1 Q' e h n) {Q Q':zbV} (hq:∀x e h n,Q x e h n→Q' x e h n):
  ∀ {rows:List (List AV)} {e:Env} {h:zaq} {n:Nat},zbb n0 more ps A B Q rows e h n→zbb n0 more ps A B Q' rows e h n
 | [], _, _, _,hh=>⟨hh.1,hq _ _ _ _ hh.2⟩
 |xs::rest,e,h,n,hh=>⟨hh.1,hA _ _ _ _ _ _ (zu0 fun e h n=>hB _ _ _ _ _ _ (zrS (fun e h n=>Fgt.mono fun e h n=>zg8 hA hB hq) hq)) hh.2⟩
theorem zAH {P:Program}:∀ {c:Code}{n0:Nat}{Q Q':zbV} (hq:∀x e h n,Q x e h n→Q' x e h n){e:Env}{h:zaq}{n:Nat},awp P n0 c Q e h n→awp P n0 c Q' e h n:=by
 intro c
 induction c with
 |skip=>intro n0 Q Q' hq e h n hh;exact hq _ _ _ _ hh
 |label l=>intro n0 Q Q' hq e h n hh;exact hq _ _ _ _ hh
 |region id ops draw=>
  intro n0 Q Q' hq e h n hh
  cases draw with
  |false=>exact zkQ hq hh
  |true=>
   obtain ⟨h',hf,hh⟩:=hh
   exact ⟨h',hf,zve hq hh⟩
 |seq a b iha ihb=>intro n0 Q Q' hq e h n hh;exact iha (zkG (fun e h n=>ihb hq) hq) hh
 |cond c a b iha ihb=>
  intro n0 Q Q' hq e h n hh
  unfold awp at hh ⊢
  split at hh
  ·exact ⟨fun ht=>iha hq (hh.1 ht),fun ht=>ihb hq (hh.2 ht)⟩
  ·exact hh
 |block id b ih=>intro n0 Q Q' hq e h n hh;exact ih (zrQ hq) hh
 |scope b ih=>intro n0 Q Q' hq e h n hh;exact ih (zrU hq) hh
 |loop b ih=>
  intro n0 Q Q' hq e h n hh
  exact fun X h1 h2=>hh X (fun e h n hb=>h1 e h n (ih (zkG (fun _ _ _ hx=>hx) hq) hb)) h2
 |rangeFunc g ps a b iha ihb=>
  intro n0 Q Q' hq e h n hh
  rcases hh with ⟨f,caps,caps',more,rows,h',h1,h2,h3,h4,h5,h6,h7⟩|⟨f,caps,caps',o,gn,sz,rs,rs',more,rows,h',h1,h2,h3,h4,h5,h6,h7,h8,h9⟩
  ·exact .inl ⟨f,caps,caps',more,rows,h',h1,h2,h3,h4,h5,h6,Fgt.mono (fun e h n=>zg8 (A:=fun n1=>awp P n1 a) (B:=fun n1=>awp P n1 b) (fun n1 Q Q' e h n hq hh=>iha hq hh) (fun n1 Q Q' e h n hq hh=>ihb hq hh) hq) h7⟩
  ·exact .inr ⟨f,caps,caps',o,gn,sz,rs,rs',more,rows,h',h1,h2,h3,h4,h5,h6,h7,h8,Fgt.mono (fun e h n=>zg8 (A:=fun n1=>awp P n1 a) (B:=fun n1=>awp P n1 b) (fun n1 Q Q' e h n hq hh=>iha hq hh) (fun n1 Q Q' e h n hq hh=>ihb hq hh) hq) h9⟩
 |exit id=>intro n0 Q Q' hq e h n hh;exact hq _ _ _ _ hh
 |ret=>intro n0 Q Q' hq e h n hh;exact hq _ _ _ _ hh
 | _=>intro n0 Q Q' hq e h n hh;exact hh.elim
theorem zEq {P:Program}{n0:Nat}{b:Code}{Q:zbV}{e:Env}{h:zaq}{n:Nat} (hh:awp P n0 b (zwV (zaa n0 (awp P n0 b) Q) Q) e h n):zaa n0 (awp P n0 b) Q e h n:=
 fun X h1 h2=>h1 e h n (zAH (zkG (fun e h n hx=>hx X h1 h2) (fun _ _ _ _ hq=>hq)) hh)
theorem zaa.forget {P:Program}{n0:Nat}{b:Code}{Q:zbV}{e:Env}{h:zaq}{n:Nat} (E:List (Nat×AV)) (HH:List (Nat×zbp)) (n':Nat) (hk:Wk e h n E HH n') (hn:n0≤n')
  (hh:zaa n0 (awp P n0 b) Q (mkE E) (mkH HH) n'):zaa n0 (awp P n0 b) Q e h n:=
 fun X h1 h2=>h2 e h n E HH n' hk hn (hh X h1 h2)

theorem ziM {r:Option Nat}{k:Nat}{P:Program}{f:FuncId}{args:Array Value}{w:World}{R:Ending→World→Prop} (h:Calls P f args w R):CallsIn (WF r) k P f args w R:=
 callsIn_wide.2 h

section grow
variable {M M':Nat→Prop} {w w':World} {φ:zaz} {h:zaq} {F:Nat→Prop}
theorem zj2.or (g:zj2 M w M' w'):∀k,Or M' (Mut φ h) k→Or M (Mut φ h) k∨w.heap.size≤k:=fun k hk=>hk.elim (fun hk=>(g.new k hk).imp .inl id) fun hk=> .inl (.inr hk)
theorem zj2.rel (g:zj2 M w M' w'){x:AV}{v:Value} (hx:Rel φ w (Or M (Mut φ h)) x v):Rel φ w' (Or M' (Mut φ h)) x v:=
 hx.keep φ.le_refl (fun k hn hk=>g.keep k hk (fun hm=>hn (.inl hm))) g.or
theorem zj2.relL (g:zj2 M w M' w'){xs:List AV}{vs:List Value} (hx:zaJ φ w (Or M (Mut φ h)) xs vs):zaJ φ w' (Or M' (Mut φ h)) xs vs:=
 hx.keep φ.le_refl (fun k hn hk=>g.keep k hk (fun hm=>hn (.inl hm))) g.or
theorem zj2.hrel (g:zj2 M w M' w') (hH:zaE φ F w M h):zaE φ F w' M' h:=by
 refine ⟨g.lt,hH.fresh,fun o mt g0 sz rs ho=> ?_,hH.inj,hH.glob.keep (fun k hn hk=>g.keep k hk (fun hm=>hn (.inl hm))) g.or⟩
 obtain ⟨A,hA,h1⟩:=hH.obj o mt g0 sz rs ho
 refine ⟨A,hA,h1.imp id ?_⟩
 rintro ⟨a,bs,e1,e3,e4⟩
 have hlt:=e4.blk
 exact ⟨a,bs,e1,fun hk=>(g.new _ hk).elim e3 (fun h=>by omega),e4.keep (g.keep _ hlt e3) (fun e9=>g.relL e9)⟩
end grow
def IsG (g:AV):Prop:=g= .top∨∃x,g= .gd false x
theorem zc8.anyM {φ φ':zaz}{w w':World}{M M':Nat→Prop}{h h':zaq} (st:zc8 φ w M h φ' w' h'):zc8 φ w M' h φ' w' h':=
 ⟨st.le,fun k hk=>hk.elim (fun hk=> .inl (.inl hk)) fun hk=>(st.mutd k hk).imp .inr id,st.fr,st.mutd⟩
theorem NC.mono {lo lo':Nat}{w w':World} (hn:NC lo w w') (hl:lo'≤lo):NC lo' w w':=
 ⟨hn.os,hn.tape,hn.output,hn.drawn,hn.size,fun k hk=>hn.low k aa,hn.cells,hn.maps⟩
structure zfg (P:Program) where
 n0:Nat
 lo:Nat
 round:Option Nat
 ok0:AV→zc4→zc4→zaz→World→zaq→Prop
 isG0:∀ {g M O φ w h},ok0 g M O φ w h→IsG g
 step0:∀ {g M O φ w h φ' w' h'},ok0 g M O φ w h→zc8 φ w M h φ' w' h'→ok0 g M O φ' w' h'
 forget0:∀ {g g' M O φ w h φ' h' n'},ok0 g M O φ w h→g'=g∨g'= .top→(∀k,Mut φ' h' k→Mut φ h k)→(∀o x,o<n'→φ o=some x→φ' o=some x)→n0≤n'→ok0 g' M O φ' w h'
 yld0:∀ {r m l more xs rest M O φ w h n vs},ok0 (zaR l more (xs::rest)) M O φ w h→zhD φ n w (Or M O) h→zaJ noP w (Or (Or M O) (Mut φ h)) xs vs→
  ∃fn tmps assign body,(Instr.yield l ⟨vs⟩).run P w= .ok (.round l fn tmps assign body) w∧RoundIn (WF r) m P l fn tmps assign body w fun e w'=>
   ∃b M',e= .returned (.bool b)∧zj2 M w M' w'∧ok0 (if b then zaR l more rest else zaR l 2 []) M' O φ w' h
 exh0:∀ {l M O φ w h},¬ok0 (zaR l 1 []) M O φ w h
 oth0:∀ {g M O O' φ w w' h},ok0 g M O φ w h→Fr w O w'→(∀k,O' k→O k∨w.heap.size≤k)→ok0 g M O' φ w' h
 nc0:∀ {g M O φ w w' h},ok0 g M O φ w h→NC lo w w'→ok0 g M O φ w' h
 give0:∀ {g M O O' φ w h h'},ok0 g M O φ w h→(∀k,O' k→O k∨Mut φ h k)→(∀k,Mut φ h' k→Mut φ h k)→ok0 g M O' φ w h'
 lo0:∀ {g M O φ w h},ok0 g M O φ w h→lo≤w.heap.size
 rec0:∀ {g M O φ w h l},ok0 g M O φ w h→round=some l→∃r:Loop,w.heap[l]? =some (.loop r)
def zfg.ok {P:Program} (B:zfg P) (g:AV) (M:zc4) (φ:zaz) (w:World) (h:zaq):Prop:=∃Mc O,M=Or Mc O∧B.ok0 g Mc O φ w h
section
variable {P:Program} (B:zfg P) {g g':AV} {M:zc4} {φ φ':zaz} {w w':World} {h h':zaq}
theorem zfg.isG (hk:B.ok g M φ w h):IsG g:=by
 obtain ⟨Mc,O, _,h⟩:=hk;exact B.isG0 h
theorem zfg.step (hk:B.ok g M φ w h) (st:zc8 φ w M h φ' w' h'):B.ok g M φ' w' h':=by
 obtain ⟨Mc,O,rfl,h⟩:=hk;exact ⟨Mc,O,rfl,B.step0 h st.anyM⟩
theorem zfg.forget {n':Nat} (hk:B.ok g M φ w h) (h1:g'=g∨g'= .top) (h2:∀k,Mut φ' h' k→Mut φ h k) (h3:∀o x,o<n'→φ o=some x→φ' o=some x) (h4:B.n0≤n'):B.ok g' M φ' w h':=by
 obtain ⟨Mc,O,rfl,h⟩:=hk;exact ⟨Mc,O,rfl,B.forget0 h h1 h2 h3 h4⟩
theorem zfg.exh {l:Nat}:¬B.ok (zaR l 1 []) M φ w h:=by
 rintro ⟨Mc,O,rfl,h⟩;exact B.exh0 h
theorem zfg.yld {r:Option Nat}{m l more:Nat}{xs:List AV}{rest:List (List AV)}{n:Nat}{vs:List Value} (hk:B.ok (zaR l more (xs::rest)) M φ w h) (hH:zhD φ n w M h) (hr:zaJ noP w (Or M (Mut φ h)) xs vs):
  ∃fn tmps assign body,(Instr.yield l ⟨vs⟩).run P w= .ok (.round l fn tmps assign body) w∧RoundIn (WF r) m P l fn tmps assign body w fun e w'=>
   ∃b M',e= .returned (.bool b)∧zj2 M w M' w'∧B.ok (if b then zaR l more rest else zaR l 2 []) M' φ w' h:=by
 obtain ⟨Mc,O,rfl,h⟩:=hk
 obtain ⟨fn,tmps,asg,body,h1,h2⟩:=B.yld0 (r:=r) (m:=m) h hH hr
 refine ⟨fn,tmps,asg,body,h1,h2.mono ?_⟩
 rintro e w' ⟨b,M',e1,g,h3⟩
 exact ⟨b,Or M' O,e1,⟨g.size,fun k hk hn=>g.keep k hk fun hm=>hn (.inl hm),fun k hk=>hk.elim (fun hk=>(g.new k hk).imp .inl id) fun hk=> .inl (.inr hk),
  fun k hk=>hk.elim (g.lt k) fun hk=>Nat.lt_of_lt_of_le (hH.m0 k (.inr hk)) g.size⟩,M',O,rfl,h3⟩
end
def zfU (lo:Nat) (M:Nat→Prop) (ds:List Deferred) (w:World):Prop:=ds.Pairwise (fun a b=>a≠b)∧∀d ∈ ds,∃D,d={ target:= .collected D,args:= #[]}∧lo≤D∧¬M D∧w.heap[D]? =some (.deferred (some []))
theorem zfU.nil {lo:Nat}{M:Nat→Prop}{w:World}:zfU lo M [] w:=⟨.nil,fun d hd=>by cases hd⟩
theorem zfU.step {lo:Nat}{φ φ':zaz}{w w':World}{M:Nat→Prop}{h h':zaq}{F:Nat→Prop}{ds:List Deferred} (hm:zfU lo M ds w) (hH:zaE φ F w M h) (st:zc8 φ w M h φ' w' h'):zfU lo M ds w':=by
 refine ⟨hm.1,fun d hd=> ?_⟩
 obtain ⟨D,h1,h0,h2,h3⟩:=hm.2 d hd
 refine ⟨D,h1,h0,h2,(st.fr.block D (Array.getElem?_eq_some_iff.1 h3).1 ?_).trans h3⟩
 rintro ⟨o,g,sz,rs,g',a,bs,ho,hp,he⟩
 obtain ⟨A,hA,hc⟩:=hH.obj _ _ _ _ _ ho
 rw [hp] at hA
 simp only [Option.some.injEq,Prod.mk.injEq] at hA
 obtain ⟨_,rfl⟩:=hA
 rcases hc with ⟨h, _⟩|⟨a',bs',h, _,⟨C,T, _,h2', _⟩|⟨es,clk, _,h2', _⟩⟩
 ·cases h
 ·simp only [Option.some.injEq,Prod.mk.injEq] at h
  obtain ⟨rfl,rfl⟩:=h
  rw [he,h3] at h2'
  cases h2'
 ·simp only [Option.some.injEq,Prod.mk.injEq] at h
  obtain ⟨rfl,rfl⟩:=h
  rw [he,h3] at h2'
  cases h2'
theorem zfU.grow {lo:Nat}{M M':Nat→Prop}{w w':World}{ds:List Deferred} (hm:zfU lo M ds w) (g:zj2 M w M' w'):zfU lo M' ds w':=by
 refine ⟨hm.1,fun d hd=> ?_⟩
 obtain ⟨D,h1,h0,h2,h3⟩:=hm.2 d hd
 have hlt:=(Array.getElem?_eq_some_iff.1 h3).1
 exact ⟨D,h1,h0,fun hk=>(g.new D hk).elim h2 (fun h=>by omega),(g.keep D hlt h2).trans h3⟩
structure SR {P:Program} (B:zfg P) (N:Nat) (M:Nat→Prop) (φ:zaz) (e:Env) (h:zaq) (n:Nat) (a:Act) (w:World):Prop where
 env:∀t,Rel φ w (Or M (Mut φ h)) (e t) (a.tmps.getD t undef)
 size:a.tmps.size=N
 defs:zfU B.lo M a.defers w
 heap:zhD φ n w M h
 ok:B.ok (e GH) M φ w h
 small:N≤GH
def SQ {P:Program} (B:zfg P) (N:Nat) (Q:zbV):Exit→Act→World→Prop:=
 fun x a w=>∃M φ e h n,SR B N M φ e h n a w∧Q x e h n
theorem zCG {e:Env}{N:Nat}{dst:Option Tmp} (hd:match dst with|none=>True|some d=>d<N) (hN:N≤GH) (x:AV):put e dst x GH=e GH:=by
 cases dst with
 |none=>rfl
 |some d=>
  exact zbs _ _ (fun h=>by
   have h1:d<GH:=Nat.lt_of_lt_of_le hd hN
   rw [h] at h1;exact Nat.lt_irrefl _ h1)

theorem SR.put {P:Program}{B:zfg P}{N:Nat}{M:Nat→Prop}{φ φ':zaz}{e:Env}{h h':zaq}{n n':Nat}{a:Act}{w w':World} (hs:SR B N M φ e h n a w){dst:Option Tmp} (hd:match dst with|none=>True|some d=>d<N)
  {x:AV} {v:Value} (hx:Rel φ' w' (Or M (Mut φ' h')) x v) (hH:zhD φ' n' w' M h') (st:zc8 φ w M h φ' w' h'):SR B N M φ' (put e dst x) h' n' (a.put dst v) w':=by
 cases dst with
 |none=>exact ⟨fun t=>st.rel (hs.env t),hs.size,hs.defs.step hs.heap st,hH,B.step hs.ok st,hs.small⟩
 |some d=>
  refine ⟨fun t=> ?_,by simp [Act.put,hs.size],hs.defs.step hs.heap st,hH,by rw [zCG hd hs.small];exact B.step hs.ok st,hs.small⟩
  simp only [Av.put,Act.put,upd]
  by_cases ht:t=d
  ·subst ht
   rw [if_pos rfl]
   have:t<a.tmps.size:=by rw [hs.size];exact hd
   simpa [Array.getD_eq_getD_getElem?,this] using hx
  ·rw [if_neg ht]
   have:(a.tmps.setIfInBounds d v).getD t undef=a.tmps.getD t undef:=by
    simp [Array.getD_eq_getD_getElem?,Array.getElem?_setIfInBounds,Ne.symm ht]
   rw [this]
   exact st.rel (hs.env t)

theorem zh2 {φ:zaz}{M:Nat→Prop}{e:Env}{a:Act}{w:World} (he:∀t,Rel φ w M (e t) (a.tmps.getD t undef)){ops:Array Oper}{o:Oper}{j:Nat}{want g:Bool}
  (hg:o.guard=some (j,want)) (hb:(ze8 ops.toList j).bind (fun t=>zgb (e t) want)=some g):Region.wanted o (yielded ops a.tmps)=g:=by
 unfold ze8 at hb
 simp only [Region.wanted,hg,yielded]
 cases ht:(ops[j]?).bind (·.dst) with
 |none=>simp [ht] at hb
 |some t=>
  simp only [Array.getElem?_toList,ht,Option.bind_some] at hb
  have hr:=he t
  simp only [Option.bind_some]
  have hv:∀v,a.tmps.getD t undef=v→v≠undef→a.tmps[t]? =some v:=by
   intro v hv hne
   cases hx:a.tmps[t]? with
   |none=>simp [Array.getD_eq_getD_getElem?,hx] at hv;exact absurd hv.symm hne
   |some u=>simp [Array.getD_eq_getD_getElem?,hx] at hv;rw [hv]
  unfold zgb at hb
  split at hb
  ·rename_i b hx
   rw [hx] at hr
   simp only [Option.some.injEq] at hb
   generalize hq:a.tmps.getD t undef=q at hr
   cases hr
   rw [hv _ hq (by simp [undef])]
   cases b<;>cases want<;>simp_all
  ·rename_i g' b hx
   rw [hx] at hr
   simp only [Option.some.injEq] at hb
   generalize hq:a.tmps.getD t undef=q at hr
   cases hr with
   |gd h1 h2=>
    cases g' with
    |true=>
     have:=h1 rfl
     cases this
     rw [hv _ hq (by simp [undef])]
     cases b<;>cases want<;>simp_all
    |false=>
     have:=h2 rfl
     subst this
     cases hx:a.tmps[t]? with
     |none=>simp_all
     |some u=>
      have:u=undef:=by simpa [Array.getD_eq_getD_getElem?,hx] using hq
      subst this
      simp_all [undef]
  ·cases hb

theorem zqG {P:Program}{B:zfg P}{N:Nat}{M:Nat→Prop}{φ:zaz}{e:Env}{h:zaq}{n:Nat}{a:Act}{w:World} (hs:SR B N M φ e h n a w){ops:Array Oper}{o:Oper}{j:Nat}{want g:Bool}
  (hg:o.guard=some (j,want)) (hb:(ze8 ops.toList j).bind (fun t=>zgb (e t) want)=some g):Region.wanted o (yielded ops a.tmps)=g:=zh2 hs.env hg hb

theorem zuI {P:Program}{a:Act}{w:World}{fo:Operand}{args:Array Operand}{ats:Array TypeId}{ty:TypeId}{f:FuncId}{fs cs:List Value} (hf:a.eval fo= .func (.func f) ⟨fs⟩ ⟨cs⟩)
  (he:zep P f):(do let d ← resolve a.eval { callee:= .value fo,args,argTypes:=ats} ty;invoke d.target d.args).run P w= .ok (.enter f ⟨fs++args.toList.map a.eval++cs⟩) w:=by
 have e1:(⟨fs⟩:Array Value)++args.map a.eval++⟨cs⟩=⟨fs++args.toList.map a.eval++cs⟩:=by
  apply Array.ext';simp
 simp only [resolve,hf,Deferred.ofValue,Sem.run_bind,Sem.run_pure,Result.andThen_ok,invoke]
 rw [e1,he]

theorem znd {P:Program}{B:zfg P}{N:Nat}{ops:Array Oper}{Q:zbV}{r:Option Nat}{m:Nat} (hd:∀o ∈ ops.toList,match o.dst with|none=>True|some d=>d<N):
  ∀ (k:Nat) (i:Nat),i+k=ops.size→∀ {M:Nat→Prop} {φ:zaz} {e:Env} {h:zaq} {n:Nat} {a:Act} {w:World},SR B N M φ e h n a w→zdA P ops.toList Q (ops.toList.drop i) e h n→
   wpOpsIn (WF r) m P ops (SQ B N Q) (List.range' i k) a w:=by
 intro k
 induction k with
 |zero=>
  intro i hi M φ e h n a w hs ha
  have:ops.toList.drop i= []:=List.drop_eq_nil_of_le ak
  rw [this] at ha
  exact ⟨M,φ,e,h,n,hs,ha⟩
 |succ k ih=>
  intro i hi M φ e h n a w hs ha
  have hlt:i<ops.size:=aa
  have hdrop:ops.toList.drop i=ops[i]::ops.toList.drop (i+1):=by
   rw [List.drop_eq_getElem_cons (by simpa using hlt)];simp
  rw [hdrop] at ha
  have hmem:ops[i] ∈ ops.toList:=ad
  have hdst:=hd _ hmem
  simp only [List.range'_succ,wpOpsIn,Array.getElem?_eq_getElem hlt]
  have hev:∀x,Rel φ w (Or M (Mut φ h)) (ev e x) (a.eval x):=zuH hs.heap.glob hs.env
  have habout:∀f,Oper.about P w a.eval ops[i]=some f→(WF r).fn f:=fun _ _=>trivial
  have hdepth:(WF r).depth.isSome=true→1≤m:=by intro h;simp [WF,Fence.wide] at h
  generalize ho:ops[i]=o at *
  have hcall:∀ (e':Env) (fo:Operand) (args:Array Operand) (ats:Array TypeId) (K:zcn),o.op= .call { callee:= .value fo,args,argTypes:=ats}→(∀x ∈ o.op.operands,Rel φ w (Or M (Mut φ h)) (ev e' x) (a.eval x))→
    zgT P (ev e' fo) (args.toList.map (ev e')) h n K→
    (∀v φ' x h' n' w',Rel φ' w' (Or M (Mut φ' h')) x v→zhD φ' n' w' M h'→zc8 φ w M h φ' w' h'→K x h' n'→wpOpsIn (WF r) m P ops (SQ B N Q) (List.range' (i+1) k) (a.put o.dst v) w')→
    o.wpIn (WF r) m P a w (wpOpsIn (WF r) m P ops (SQ B N Q) (List.range' (i+1) k)) (SQ B N Q):=by
   intro e' fo args ats K hop he hc hk
   refine ⟨habout, ?_⟩
   rw [Oper.semAt_eq _ _ _ (fun c=>by rw [hop];simp)]
   have hfo:=he fo ax
   have hargs:zaJ φ w (Or M (Mut φ h)) (args.toList.map (ev e')) (args.toList.map a.eval):=zgP fun x hx=>he x dG
   unfold zgT at hc
   split at hc
   ·rename_i f first caps hfv
    rw [hfv] at hfo
    generalize hval:a.eval fo=fval at hfo
    cases hfo with
    | @fn _ _ _ fs cs h1 h2=>
     have hrun:=zuI (P:=P) (w:=w) (args:=args) (ats:=ats) (ty:=o.type) hval hc.1
     have hex:execOp a.eval o=(do let d ← resolve a.eval { callee:= .value fo,args,argTypes:=ats} o.type;invoke d.target d.args):=aA
     rw [hex,hrun]
     refine ⟨hdepth,ziM ((hc.2 M φ w _ hs.heap ((h1.append hargs).append h2)).mono ?_)⟩
     rintro en w' ⟨v,φ',x,h',n',rfl,hK,hH',hx,st⟩
     exact hk v φ' x h' n' w' hx hH' st hK
   ·exact hc.elim
  have hone:∀ (e':Env),(∀x ∈ o.op.operands,Rel φ w (Or M (Mut φ h)) (ev e' x) (a.eval x))→(aev P n o.op e' h).cond→(∀c,o.op≠ .defer c)→
    (∀v φ' w',Rel φ' w' (Or M (Mut φ' (zam (aev P n o.op e' h).wr h))) (aev P n o.op e' h).val v→zhD φ' (n+(aev P n o.op e' h).al) w' M (zam (aev P n o.op e' h).wr h)→
     zc8 φ w M h φ' w' (zam (aev P n o.op e' h).wr h)→wpOpsIn (WF r) m P ops (SQ B N Q) (List.range' (i+1) k) (a.put o.dst v) w')→
    o.wpIn (WF r) m P a w (wpOpsIn (WF r) m P ops (SQ B N Q) (List.range' (i+1) k)) (SQ B N Q):=by
   intro e' he hc hnd hk
   refine ⟨habout, ?_⟩
   rw [Oper.semAt_eq _ _ _ hnd]
   obtain ⟨nx,v,w',φ',hrun,hnx,hx,hH',st⟩:=ztQ hs.heap (Nat.le_refl _) he hc
   rw [hrun]
   have hH':=Fal_le _ hH'
   rcases hnx with rfl|⟨rfl,rfl⟩
   ·exact hk v φ' w' hx hH' st
   ·exact hk undef φ' w' hx hH' st
  have hyield:∀ (e':Env) (fo:Operand) (args:Array Operand) (ats:Array TypeId) (K:Env→AV→zaq→Prop),o.op= .call { callee:= .value fo,args,argTypes:=ats}→(∀x ∈ o.op.operands,Rel φ w (Or M (Mut φ h)) (ev e' x) (a.eval x))→
    zkg e (ev e' fo) (args.toList.map (ev e')) h n K→
    (∀b M' e2 h' w',SR B N M' φ e2 h' n a w'→K e2 (.v (.bool b)) h'→wpOpsIn (WF r) m P ops (SQ B N Q) (List.range' (i+1) k) (a.put o.dst (.bool b)) w')→
    o.wpIn (WF r) m P a w (wpOpsIn (WF r) m P ops (SQ B N Q) (List.range' (i+1) k)) (SQ B N Q):=by
   intro e' fo args ats K hop he hc hk
   refine ⟨habout, ?_⟩
   rw [Oper.semAt_eq _ _ _ (fun c=>by rw [hop];simp)]
   have hfo:=he fo ax
   have hargs:zaJ φ w (Or M (Mut φ h)) (args.toList.map (ev e')) (args.toList.map a.eval):=zgP fun x hx=>he x dG
   obtain ⟨l,more,rows,hfv,hgh,hrows⟩:=hc
   rw [hfv] at hfo
   generalize hval:a.eval fo=fval at hfo
   cases hfo with
   | @fn _ _ _ fs cs h1 h2=>
    cases h1;cases h2
    have hok:=hs.ok
    rw [hgh] at hok
    cases rows with
    |nil=>simp only at hrows;subst hrows;exact absurd hok B.exh
    |cons xs rest=>
     obtain ⟨h',hfz,hle,hb,k1,k2⟩:=hrows
     obtain ⟨hH',st0⟩:=hs.heap.freeze hfz
     have hmt:∀o g sz rs,h' o=some (.rows true g sz rs)→h o=some (.rows true g sz rs):=by
      intro o g sz rs ho
      rcases hfz o with h1|⟨g1,sz1,rs1,h1,h2⟩
      ·rw [← h1];exact ho
      ·rw [h2] at ho;cases ho
     have hv:=zce hs.heap hmt hle hb hargs
     obtain ⟨fn,tmps,asg,body,hy,hround⟩:=B.yld (r:=r) (m:=m - 1) (B.step hok st0) hH' hv
     have hex:(execOp a.eval o).run P w= .ok (.round l fn tmps asg body) w:=by
      have e1:execOp a.eval o=(do let d ← resolve a.eval { callee:= .value fo,args,argTypes:=ats} o.type;invoke d.target d.args):=aA
      rw [e1]
      simp only [resolve,hval,Deferred.ofValue,Sem.run_bind,Sem.run_pure,Result.andThen_ok,invoke]
      have e2:(⟨[]⟩:Array Value)++args.map a.eval=⟨args.toList.map a.eval⟩:=cu
      rw [e2]
      exact hy
     rw [hex]
     refine ⟨hdepth,hround.mono ?_⟩
     rintro en w' ⟨b,M',rfl,hg,hok'⟩
     have hGH:∀x,SR B N M' φ (upd e GH x) h' n a w'↔B.ok x M' φ w' h'∧IsG x:=fun x=>by
      constructor
      ·intro hs'
       have:=hs'.ok
       rw [zax] at this
       exact ⟨this,B.isG this⟩
      ·rintro ⟨hx,hgx⟩
       refine ⟨fun t=> ?_,hs.size,(hs.defs.step hs.heap st0).grow hg,hg.hrel hH',by rw [zax];exact hx,hs.small⟩
       by_cases ht:t=GH
       ·subst ht
        rw [zax]
        have hu:a.tmps.getD GH undef=undef:=by
         rw [Array.getD_eq_getD_getElem?,Array.getElem?_eq_none (by have:=hs.size;have:=hs.small;omega)];rfl
        rw [hu]
        rcases hgx with rfl|⟨x,rfl⟩
        ·exact .top _
        ·exact .gd (fun h=>by cases h) (fun _=>rfl)
       ·rw [zbs _ _ ht]
        exact hg.rel (st0.rel (hs.env t))
     cases b with
     |true=>exact hk true M' _ h' w' ((hGH _).2 ⟨hok', .inr ⟨_,rfl⟩⟩) k1
     |false=>exact hk false M' _ h' w' ((hGH _).2 ⟨hok', .inr ⟨_,rfl⟩⟩) k2
  have hnd:∀e',(aev P n o.op e' h).cond→∀c,o.op≠ .defer c:=by
   intro e' hc c hop
   rw [hop] at hc
   exact hc
  unfold zdA at ha
  split at ha
  · -- no guard
   rename_i hg
   have hw:Region.wanted o (yielded ops a.tmps)=true:=by simp [Region.wanted,hg]
   rw [if_pos hw]
   split at ha
   ·rename_i fo args ats hop
    rcases ha with ha|ha
    ·exact hcall e fo args ats _ hop (fun x _=>hev x) ha fun v φ' x h' n' w' hx hH' st hK=>ih (i+1) aa (hs.put hdst hx hH' st) hK
    ·exact hyield e fo args ats _ hop (fun x _=>hev x) ha fun b M' e2 h' w' hs' hK=>ih (i+1) aa (hs'.put hdst (.v _) hs'.heap (.refl _ _ _ _)) hK
   ·exact hone e (fun x _=>hev x) ha.1 (hnd e ha.1) fun v φ' w' hx hH' st=>ih (i+1) aa (hs.put hdst hx hH' st) ha.2
  · -- guarded
   rename_i j want hg
   split at ha
   ·exact ha.elim
   ·rename_i g hb
    have hw:=zqG hs hg hb
    rw [hw]
    have hpk:∀op e,gE op e=e∧gT op= []∨gE op e=(fun t=>unG (e t))∧gT op=zcD op:=by
     intro op e;cases op<;>first|exact .inl ⟨rfl,rfl⟩|exact .inr ⟨rfl,rfl⟩
    have hung:∀ (op:Op),(∀t ∈ gT op,okG g (e t))→g=true→∀x ∈ op.operands,Rel φ w (Or M (Mut φ h)) (ev (gE op e) x) (a.eval x):=by
     intro op hok hgt x hx
     rcases hpk op e with ⟨he1, _⟩|⟨he1,he2⟩
     ·rw [he1];exact hev x
     rw [he1]
     rw [he2] at hok
     cases x with
     |tmp t=>
      have hmt:t ∈ zcD op:=by
       simp only [zcD,List.mem_filterMap]
       exact ⟨.tmp t,aN,rfl⟩
      have h1:=hok t hmt
      have h2:=hs.env t
      simp only [ev]
      show Rel φ w _ (unG (e t)) (a.tmps.getD t undef)
      generalize e t=y at h1 h2
      cases y with
      |gd g' y=>cases h2 with|gd h3 _=>exact h3 (h1 hgt)
      | _=>exact h2
     |const v=>exact hev (.const v)
     |global g=>exact hev (.global g)
     |func f=>exact hev (.func f)
    have hskip:∀x,g=false→SR B N M φ (put e o.dst (.gd g x)) h n (a.put o.dst undef) w:=fun x hgf=>
     hs.put hdst (.gd (fun h=>by rw [hgf] at h;cases h) (fun _=>rfl)) hs.heap (.refl _ _ _ _)
    split at ha
    ·rename_i fo args ats hop
     obtain ⟨hok,⟨x,hc,hrest⟩|⟨hgt,hc⟩|⟨hgt,hc⟩⟩:=ha
     rotate_right
     ·subst hgt
      rw [if_pos rfl]
      refine hyield (fun t=>unG (e t)) fo args ats _ hop dM hc fun b M' e2 h' w' hs' hK=> ?_
      exact ih (i+1) aa (hs'.put hdst (.gd (fun _=> .v _) (fun h=>by cases h)) hs'.heap (.refl _ _ _ _)) hK
     rotate_left
     ·subst hgt
      rw [if_pos rfl]
      refine hcall (fun t=>unG (e t)) fo args ats _ hop dM hc fun v φ' x' h' n' w' hx hH' st hK=> ?_
      exact ih (i+1) aa (hs.put hdst (.gd (fun _=>hx) (fun h=>by cases h)) hH' st) hK
     cases hgv:g with
     |true=>
      rw [if_pos rfl]
      refine hcall (fun t=>unG (e t)) fo args ats _ hop (by have:=hung o.op b9 hgv;rw [hop] at this ⊢;exact this) (hc hgv) fun v φ' x' h' n' w' hx hH' st hK=> ?_
      obtain ⟨rfl,rfl,rfl⟩:=hK
      rw [hgv] at hrest
      exact ih (i+1) aa (hs.put hdst (.gd (fun _=>hx) (fun h=>by cases h)) hH' st) hrest
     |false=>
      rw [if_neg ad]
      refine ⟨habout,ih (i+1) aa (hskip x hgv) hrest⟩
    ·obtain ⟨hok,hc,hrest⟩:=ha
     cases hgv:g with
     |true=>
      rw [if_pos rfl]
      refine hone (gE o.op e) (hung _ hok hgv) (hc hgv) (hnd _ (hc hgv)) fun v φ' w' hx hH' st=> ?_
      rw [hgv] at hrest
      exact ih (i+1) aa (hs.put hdst (.gd (fun _=>hx) (fun h=>by cases h)) hH' st) hrest
     |false=>
      rw [if_neg ad]
      rw [hgv] at hrest
      simp only [gW,gN,cond_false,zam,Nat.add_zero] at hrest
      rw [← hgv] at hrest
      exact ⟨habout,ih (i+1) aa (hskip _ hgv) hrest⟩

theorem NC.refl (lo:Nat) (w:World):NC lo w w:=⟨rfl,rfl,rfl,Nat.le_refl _,rfl,fun _ _=>rfl,fun _ _ _ _ _=>rfl,fun _ _ _ _=>rfl⟩
theorem NC.trans {lo:Nat}{a b c:World} (h:NC lo a b) (k:NC lo b c):NC lo a c:=
 ⟨k.os.trans h.os,k.tape.trans h.tape,k.output.trans h.output,Nat.le_trans h.drawn k.drawn,k.size.trans h.size,fun i hi=>(k.low i hi).trans (h.low i hi),
  fun i C T fz hc=>(k.cells i C T fz ((h.cells i C T fz hc).trans hc)).trans (h.cells i C T fz hc),fun i es clk hc=>(k.maps i es clk ((h.maps i es clk hc).trans hc)).trans (h.maps i es clk hc)⟩
theorem NC.putObj {lo:Nat}{w:World}{D:Nat} (o':Obj) (hlo:lo≤D){o:Obj} (h:w.heap[D]? =some o) (hn:∀C T fz,o≠ .cells C T fz) (hm:∀es clk,o≠ .map es clk):NC lo w (w.putObj D o'):=by
 refine ⟨rfl,rfl,rfl,Nat.le_refl _,by simp [World.putObj],fun k hk=>World.putObj_heap_other aa,fun k C T fz hc=>World.putObj_heap_other ?_,fun k es clk hc=>World.putObj_heap_other ?_⟩
 ·rintro rfl
  rw [h] at hc
  simp only [Option.some.injEq] at hc
  exact hn _ _ _ hc
 ·rintro rfl
  rw [h] at hc
  simp only [Option.some.injEq] at hc
  exact hm _ _ hc
theorem Rel.nc {φ:zaz}{w w':World}{M:Nat→Prop}{lo:Nat} (hn:NC lo w w'):∀ {x:AV}{v:Value},Rel φ w M x v→Rel φ w' M x v:=by
 intro x v h
 refine Rel.rec (φ:=φ) (w:=w) (M:=M) (motive_1:=fun x v _=>Rel φ w' M x v) (motive_2:=fun xs vs _=>zaJ φ w' M xs vs) ?_ ?_ ?_ ?_ ?_ ?_ ?_ ?_ ?_ ?_ ?_ ?_ ?_ ?_ h
 ·exact fun v=> .top v
 ·exact fun v=> .v v
 ·exact fun hv _ ih=> .agg hv ih
 ·exact fun _ ih=> .tup ih
 ·exact fun sz A cap=> .nil sz A cap
 ·intro sz rows a len cap C T fz hs hm hb hr hl hc hcap hv _ ih
  exact .lst hs hm ((hn.cells _ _ _ _ hb).trans hb) hr hl hc hcap hv ih
 ·intro cells a C T fz hs hm hb hc hv _ ih
  exact .fp hs hm ((hn.cells _ _ _ _ hb).trans hb) hc hv ih
 ·exact fun ho hg h=> .ref ho hg h
 ·exact fun ho hg h=> .sl ho hg h
 ·exact fun ho h=> .mp ho h
 ·exact fun _ _ ih1 ih2=> .fn ih1 ih2
 ·exact fun _ h' ih=> .gd ih h'
 ·exact .nil
 ·exact fun _ _ ih1 ih2=> .cons ih1 ih2
theorem zaJ.nc {φ:zaz}{w w':World}{M:Nat→Prop}{lo:Nat} (hn:NC lo w w'):∀ {xs:List AV}{vs:List Value},zaJ φ w M xs vs→zaJ φ w' M xs vs
 | [], _, .nil=> .nil
 | _:: _, _, .cons h t=> .cons (h.nc hn) (t.nc hn)
theorem zaE.nc {φ:zaz}{F:Nat→Prop}{w w':World}{M:Nat→Prop}{h:zaq}{lo:Nat} (hn:NC lo w w') (hH:zaE φ F w M h):zaE φ F w' M h:=by
 refine ⟨fun k hk=>by rw [hn.size];exact hH.m0 k hk,hH.fresh,fun o mt g sz rs ho=> ?_,hH.inj,fun p hp=>(hH.glob p hp).nc hn⟩
 obtain ⟨A,hA,h1⟩:=hH.obj o mt g sz rs ho
 refine ⟨A,hA,h1.imp id ?_⟩
 rintro ⟨a,bs,e1,e3,hd⟩
 have hb:w'.heap[a.block]? =w.heap[a.block]? :=by
  rcases hd with ⟨C,T, _,e4, _⟩|⟨es,clk, _,e4, _⟩
  ·exact hn.cells _ _ _ _ e4
  ·exact hn.maps _ _ _ e4
 exact ⟨a,bs,e1,e3,hd.keep hb (fun e9=>e9.nc hn)⟩
theorem zc8.nc {φ φ':zaz}{w w' w'':World}{M:Nat→Prop}{h h':zaq} (st:zc8 φ w M h φ' w' h') (hn:NC w.heap.size w' w''):zc8 φ w M h φ' w'' h':=
 ⟨st.le,st.or,⟨hn.os.trans st.fr.os,hn.tape.trans st.fr.tape,hn.output.trans st.fr.output,Nat.le_trans st.fr.drawn hn.drawn,by rw [hn.size];exact st.fr.size,fun k hk hu=>(hn.low k hk).trans (st.fr.block k hk hu)⟩,st.mutd⟩
theorem zek (M:zc4):Or M (fun _=>False)=M:=funext fun k=>propext ⟨fun h=>h.elim id False.elim, .inl⟩
theorem zl2 (A B C:zc4):Or (Or A B) C=Or A (Or B C):=funext fun k=>propext ⟨fun h=>h.elim (fun h=>h.imp id .inl) fun h=> .inr (.inr h),fun h=>h.elim (fun h=> .inl (.inl h)) fun h=>h.imp .inr id⟩
theorem Rel.lessM {φ:zaz}{w:World}{M M':Nat→Prop} (hM:∀k,M' k→M k){x:AV}{v:Value} (hx:Rel φ w M x v):Rel φ w M' x v:=
 hx.keep φ.le_refl (fun _ _ _=>rfl) fun k hk=> .inl (hM k hk)
theorem zaJ.lessM {φ:zaz}{w:World}{M M':Nat→Prop} (hM:∀k,M' k→M k){xs:List AV}{vs:List Value} (hx:zaJ φ w M xs vs):zaJ φ w M' xs vs:=
 hx.keep φ.le_refl (fun _ _ _=>rfl) fun k hk=> .inl (hM k hk)
theorem zaE.lessM {φ:zaz}{F:Nat→Prop}{w:World}{M M':Nat→Prop}{h:zaq} (hM:∀k,M' k→M k) (hH:zaE φ F w M h):zaE φ F w M' h:=by
 refine ⟨fun k hk=>hH.m0 k (hM k hk),hH.fresh,fun o mt g sz rs ho=> ?_,hH.inj,hH.glob.keep (fun _ _ _=>rfl) (fun k hk=> .inl (hk.imp (hM k) id))⟩
 obtain ⟨A,hA,h1⟩:=hH.obj o mt g sz rs ho
 refine ⟨A,hA,h1.imp id ?_⟩
 rintro ⟨a,bs,e1,e3,hd⟩
 exact ⟨a,bs,e1,fun hk=>e3 (hM _ hk),hd.keep rfl (fun e9=>e9.lessM fun k hk=>hk.imp (hM k) id)⟩
theorem zaE.mut_cells {φ:zaz}{F:Nat→Prop}{w:World}{M:Nat→Prop}{h:zaq} (hH:zaE φ F w M h){k:Nat} (hk:Mut φ h k):¬M k∧((∃C T fz,w.heap[k]? =some (.cells C T fz))∨∃es clk,w.heap[k]? =some (.map es clk)):=by
 obtain ⟨o,g,sz,rs,g',a,bs,ho,hp,rfl⟩:=hk
 obtain ⟨A,hA,hc⟩:=hH.obj _ _ _ _ _ ho
 rw [hp] at hA
 simp only [Option.some.injEq,Prod.mk.injEq] at hA
 obtain ⟨_,rfl⟩:=hA
 rcases hc with ⟨h, _⟩|⟨a',bs',h,h1,⟨C,T, _,h2, _⟩|⟨es,clk, _,h2, _⟩⟩
 ·cases h
 ·simp only [Option.some.injEq,Prod.mk.injEq] at h
  obtain ⟨rfl,rfl⟩:=h
  exact ⟨h1, .inl ⟨C,T, _,h2⟩⟩
 ·simp only [Option.some.injEq,Prod.mk.injEq] at h
  obtain ⟨rfl,rfl⟩:=h
  exact ⟨h1, .inr ⟨es,clk,h2⟩⟩
theorem zj2.add {M M' O:zc4}{w w':World} (g:zj2 M w M' w') (hO:∀k,O k→k<w.heap.size):zj2 (Or M O) w (Or M' O) w':=
 ⟨g.size,fun k hk hn=>g.keep k hk fun hm=>hn (.inl hm),fun k hk=>hk.elim (fun hk=>(g.new k hk).imp .inl id) fun hk=> .inl (.inr hk),
  fun k hk=>hk.elim (g.lt k) fun hk=>Nat.lt_of_lt_of_le (hO k hk) g.size⟩
theorem Fr.more {w w':World}{U U':zc4} (h:Fr w U w') (hU:∀k,U k→U' k):Fr w U' w':=⟨h.os,h.tape,h.output,h.drawn,h.size,fun k hk hn=>h.block k hk fun hu=>hn (hU k hu)⟩
end Go.Av
end
