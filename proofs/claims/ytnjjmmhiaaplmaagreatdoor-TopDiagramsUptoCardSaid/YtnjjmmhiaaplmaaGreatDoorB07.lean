/- Texts of ours, part 7: our library and contracts of functions. -/
import Derived.Test.YtnjjmmhiaaplmaaGreatDoorB06
set_option linter.unusedSimpArgs false
set_option linter.unusedVariables false
set_option maxRecDepth 100000
set_option maxHeartbeats 40000000
section
/- Our library, part 17: calls of functions that are given objects of ours and turn them. -/
namespace Go.Av
open Go

mutual
inductive Rn (σ:Nat→Nat):AV→AV→Prop
 |same {x:AV} (h:Bel 0 x):Rn σ x x
 |ref {o o' g sz i off:Nat} (h:o'=σ o):Rn σ (.ref o g sz i off) (.ref o' g sz i off)
 |sl {o o' g sz i len:Nat} (h:o'=σ o):Rn σ (.sl o g sz i len) (.sl o' g sz i len)
 |agg {xs ys:List AV} (h:RnL σ xs ys):Rn σ (.agg xs) (.agg ys)
 |tup {xs ys:List AV} (h:RnL σ xs ys):Rn σ (.tup xs) (.tup ys)
 |fn {f:Fn} {a b a' b':List AV} (h:RnL σ a a') (h':RnL σ b b'):Rn σ (.fn f a b) (.fn f a' b')
inductive RnL (σ:Nat→Nat):List AV→List AV→Prop
 |nil:RnL σ [] []
 |cons {x y:AV} {xs ys:List AV} (h:Rn σ x y) (t:RnL σ xs ys):RnL σ (x::xs) (y::ys)
end
inductive zwX (σ:Nat→Nat):List (List AV)→List (List AV)→Prop
 |same {rs:List (List AV)} (h:∀r ∈ rs,∀c ∈ r,Bel 0 c):zwX σ rs rs
 |nil:zwX σ [] []
 |cons {x y:List AV} {xs ys:List (List AV)} (h:RnL σ x y) (t:zwX σ xs ys):zwX σ (x::xs) (y::ys)
inductive RnO (σ:Nat→Nat):zbp→zbp→Prop
 |rows {mt:Bool} {g sz:Nat} {rs rs':List (List AV)} (h:zwX σ rs rs'):RnO σ (.rows mt g sz rs) (.rows mt g sz rs')
inductive RnH (σ:Nat→Nat):List (Nat×zbp)→List (Nat×zbp)→Prop
 |nil:RnH σ [] []
 |cons {o o':Nat} {x y:zbp} {l l':List (Nat×zbp)} (e:o'=σ o) (h:RnO σ x y) (t:RnH σ l l'):RnH σ ((o,x)::l) ((o',y)::l')
section
variable {σ:Nat→Nat} {φ φ':zaz} {w:World} {M M':Nat→Prop}
theorem Rn.rel (hφ:∀o,φ' (σ o)=φ o) (hM:∀k,M' k→M k){x y:AV} (hs:Rn σ x y):∀ {v:Value},Rel φ w M x v→Rel φ' w M' y v:=by
 refine Rn.rec (σ:=σ) (motive_1:=fun x y _=>∀ {v:Value},Rel φ w M x v→Rel φ' w M' y v) (motive_2:=fun xs ys _=>∀ {vs:List Value},zaJ φ w M xs vs→zaJ φ' w M' ys vs)
  ?_ ?_ ?_ ?_ ?_ ?_ ?_ ?_ hs
 ·intro x hb v hx;exact hx.closed hM hb
 ·intro o o' g sz i off e v hx
  subst e
  cases hx with|ref ho hg h=>exact .ref (by rw [hφ];exact ho) hg h
 ·intro o o' g sz i len e v hx
  subst e
  cases hx with|sl ho hg h=>exact .sl (by rw [hφ];exact ho) hg h
 ·intro xs ys _ ih v hx
  cases hx with|agg hv h=>exact .agg hv (ih h)
 ·intro xs ys _ ih v hx
  cases hx with|tup h=>exact .tup (ih h)
 ·intro f a b a' b' _ _ ih1 ih2 v hx
  cases hx with|fn h1 h2=>exact .fn (ih1 h1) (ih2 h2)
 ·intro vs hx;cases hx;exact .nil
 ·intro x y xs ys _ _ ih1 ih2 vs hx
  cases hx with|cons h t=>exact .cons (ih1 h) (ih2 t)
theorem Rn.back {m:Nat} (hφ:∀o,o<m→φ o=φ' (σ o)) (hM:∀k,M k→M' k){x y:AV} (hs:Rn σ x y):Bel m x→∀ {v:Value},Rel φ' w M' y v→Rel φ w M x v:=by
 refine Rn.rec (σ:=σ) (motive_1:=fun x y _=>Bel m x→∀ {v:Value},Rel φ' w M' y v→Rel φ w M x v) (motive_2:=fun xs ys _=>(∀c ∈ xs,Bel m c)→∀ {vs:List Value},zaJ φ' w M' ys vs→zaJ φ w M xs vs)
  ?_ ?_ ?_ ?_ ?_ ?_ ?_ ?_ hs
 ·intro x hb _ v hx;exact hx.closed hM hb
 ·intro o o' g sz i off e hb v hx
  subst e
  cases hb with|ref hb=>cases hx with|ref ho hg h=>exact .ref (by rw [hφ _ hb];exact ho) hg h
 ·intro o o' g sz i len e hb v hx
  subst e
  cases hb with|sl hb=>cases hx with|sl ho hg h=>exact .sl (by rw [hφ _ hb];exact ho) hg h
 ·intro xs ys _ ih hb v hx
  cases hb with|agg hb=>cases hx with|agg hv h=>exact .agg hv (ih hb h)
 ·intro xs ys _ ih hb v hx
  cases hb with|tup hb=>cases hx with|tup h=>exact .tup (ih hb h)
 ·intro f a b a' b' _ _ ih1 ih2 hb v hx
  cases hb with|fn hb hb'=>cases hx with|fn h1 h2=>exact .fn (ih1 hb h1) (ih2 hb' h2)
 ·intro _ vs hx;cases hx;exact .nil
 ·intro x y xs ys _ _ ih1 ih2 hb vs hx
  cases hx with|cons h t=>exact .cons (ih1 (hb _ ad) h) (ih2 (fun c hc=>hb c bc) t)
theorem RnL.rel (hφ:∀o,φ' (σ o)=φ o) (hM:∀k,M' k→M k):∀ {xs ys:List AV}{vs:List Value},RnL σ xs ys→zaJ φ w M xs vs→zaJ φ' w M' ys vs
 | [], _, _, .nil, .nil=> .nil
 | _:: _, _, _, .cons h t, .cons h' t'=> .cons (h.rel hφ hM h') (t.rel hφ hM t')
theorem RnL.back {m:Nat} (hφ:∀o,o<m→φ o=φ' (σ o)) (hM:∀k,M k→M' k):∀ {xs ys:List AV}{vs:List Value},RnL σ xs ys→(∀c ∈ xs,Bel m c)→zaJ φ' w M' ys vs→zaJ φ w M xs vs
 | [], _, _, .nil, _, .nil=> .nil
 | _:: _, _, _, .cons h t,hb, .cons h' t'=> .cons (h.back hφ hM (hb _ ad) h') (t.back hφ hM (fun c hc=>hb c bc) t')
theorem RnL.length:∀ {xs ys:List AV},RnL σ xs ys→ys.length=xs.length
 | [], _, .nil=>rfl
 | _:: _, _, .cons _ t=>by simp [t.length]
theorem zwX.rel (hφ:∀o,φ' (σ o)=φ o) (hM:∀k,M' k→M k){xs ys:List (List AV)} (hs:zwX σ xs ys):
  ∀ {vs:List Value},zaJ φ w M xs.flatten vs→zaJ φ' w M' ys.flatten vs:=by
 induction hs with
 |same h=>
  intro vs hx
  refine zEH hx.length fun k hk hk'=>(hx.get k hk hk').closed hM ?_
  obtain ⟨r,hr,hc⟩:=List.mem_flatten.1 (List.getElem_mem hk)
  exact h r hr _ hc
 |nil=>intro vs hx;cases hx;exact .nil
 |cons h _ ih=>
  intro vs hx
  rw [List.flatten_cons] at hx ⊢
  obtain ⟨us,ts,rfl,h1,h2⟩:=hx.split
  exact (h.rel hφ hM h1).append (ih h2)
theorem zwX.back {m:Nat} (hφ:∀o,o<m→φ o=φ' (σ o)) (hM:∀k,M k→M' k){xs ys:List (List AV)} (hs:zwX σ xs ys):
  (∀r ∈ xs,∀c ∈ r,Bel m c)→∀ {vs:List Value},zaJ φ' w M' ys.flatten vs→zaJ φ w M xs.flatten vs:=by
 induction hs with
 |same h=>
  intro _ vs hx
  refine zEH hx.length fun k hk hk'=>(hx.get k hk hk').closed hM ?_
  obtain ⟨r,hr,hc⟩:=List.mem_flatten.1 (List.getElem_mem hk)
  exact h r hr _ hc
 |nil=>intro _ vs hx;cases hx;exact .nil
 |cons h _ ih=>
  intro hb vs hx
  rw [List.flatten_cons] at hx ⊢
  obtain ⟨us,ts,rfl,h1,h2⟩:=hx.split
  exact (h.back hφ hM (hb _ ad) h1).append (ih (fun r hr=>hb r bv) h2)
theorem zwX.shape {xs ys:List (List AV)} (hs:zwX σ xs ys):ys.length=xs.length∧(∀sz,(∀r ∈ xs,r.length=sz)→∀r ∈ ys,r.length=sz)∧∀sz,(∀r ∈ ys,r.length=sz)→∀r ∈ xs,r.length=sz:=by
 induction hs with
 |same h=>exact ⟨rfl,fun _ h=>h,fun _ h=>h⟩
 |nil=>exact ⟨rfl,fun _ h=>h,fun _ h=>h⟩
 |cons h _ ih=>
  refine ⟨by simp [ih.1],fun sz hr r hm=> ?_,fun sz hr r hm=> ?_⟩
  ·rcases List.mem_cons.1 hm with rfl|hm
   ·rw [h.length];exact hr _ ad
   ·exact ih.2.1 sz (fun r hr'=>hr r (by simp [hr'])) r hm
  ·rcases List.mem_cons.1 hm with rfl|hm
   ·rw [← h.length];exact hr _ ad
   ·exact ih.2.2 sz (fun r hr'=>hr r (by simp [hr'])) r hm
theorem RnH.at {l l':List (Nat×zbp)} (hinj:∀a b,σ a=σ b→a=b) (hs:RnH σ l l'){o:Nat}{y:zbp} (ho:mkH l' o=some y):∃o0 x,o=σ o0∧mkH l o0=some x∧RnO σ x y:=by
 induction hs with
 |nil=>cases ho
 | @cons o1 o1' x1 y1 l l' e1 h _ ih=>
  simp only [mkH,upd] at ho ⊢
  split at ho
  ·rename_i e
   cases ho
   exact ⟨o1,x1,e.trans e1,ad,h⟩
  ·rename_i e
   obtain ⟨o0,x,rfl,h1,h2⟩:=ih ho
   refine ⟨o0,x,rfl, ?_,h2⟩
   rw [if_neg (fun h=>e (by rw [h,e1]))];exact h1
end
def ren (rs:List Nat) (n:Nat) (j:Nat):Nat:=if j<rs.length then rs.getD j 0 else n+(j - rs.length)
def zmI:List Nat→zaq→zaq
 | [],h=>h
 |o::l,h=>upd (zmI l h) o none
theorem zzw (h:zaq):∀ (l:List Nat) (o:Nat),zmI l h o=if o ∈ l then none else h o
 | [],o=>by simp [zmI]
 |a::l,o=>by
  simp only [zmI,upd,List.mem_cons]
  by_cases e:o=a
  ·simp [e]
  ·simp [e,zzw h l o]
theorem zjh {rs:List Nat}{n j:Nat} (h:j<rs.length):ren rs n j ∈ rs:=by
 unfold ren;rw [if_pos h,List.getD_eq_getElem?_getD,List.getElem?_eq_getElem h];exact List.getElem_mem h
theorem zD6 {rs:List Nat}{n:Nat} (hd:rs.Nodup) (hlt:∀o ∈ rs,o<n):∀a b,ren rs n a=ren rs n b→a=b:=by
 intro a b he
 by_cases ha:a<rs.length<;>by_cases hb:b<rs.length
 ·unfold ren at he
  rw [if_pos ha,if_pos hb,List.getD_eq_getElem?_getD,List.getD_eq_getElem?_getD,List.getElem?_eq_getElem ha,List.getElem?_eq_getElem hb] at he
  exact (List.getElem_inj hd).1 cD
 ·have h1:=hlt _ (zjh (n:=n) ha)
  rw [he] at h1
  unfold ren at h1
  rw [if_neg hb] at h1;omega
 ·have h1:=hlt _ (zjh (n:=n) hb)
  rw [← he] at h1
  unfold ren at h1
  rw [if_neg ha] at h1;omega
 ·unfold ren at he
  rw [if_neg ha,if_neg hb] at he;omega
def zeC (P:Program) (f:FuncId) (args:List AV) (HA:List (Nat×zbp)) (m:Nat) (R0:AV) (H0:List (Nat×zbp)) (k2:Nat):Prop:=
 zah P f args (mkH HA) m (fun r h n'=>Wk (fun _=>r) h n' [(0,R0)] H0 k2)
theorem zEE {P:Program}{f:FuncId}{args args' args0:List AV}{h:zaq}{n m k2:Nat}{K:zcn}{R0 R:AV}{HA H0 HH:List (Nat×zbp)} (rs:List Nat) (h':zaq)
  (hp:zeC P f args0 HA m R0 H0 k2) (hd:rs.Nodup) (hlt:∀o ∈ rs,o<n) (hm:rs.length=m) (hmk:m≤k2) (hfz:Frz h h')
  (hA:∀j,j<m→∃x y,mkH HA j=some x∧h' (ren rs n j)=some y∧RnO (ren rs n) x y) (hAb:∀p ∈ HA,p.1<m∧zCe m p.2)
  (hle:zav h h' n args args') (hb':∀c ∈ args',Bel n c) (hargs0:RnL (ren rs n) args0 args') (hb0:∀c ∈ args0,Bel m c)
  (hR:Rn (ren rs n) R0 R) (hHH:RnH (ren rs n) H0 HH) (hk:K R (zel HH (zmI rs h')) (n+(k2 - m))):zah P f args h n K:=by
 refine ⟨hp.1,fun M0 φ w vs hH hargs=> ?_⟩
 obtain ⟨hH',st0⟩:=hH.freeze hfz
 have hσ:=zD6 hd hlt
 have hmt:∀o g sz rs,h' o=some (.rows true g sz rs)→h o=some (.rows true g sz rs):=by
  intro o g sz rs ho
  rcases hfz o with h1|⟨g1,sz1,rs1,h1,h2⟩
  ·rw [← h1];exact ho
  ·rw [h2] at ho;cases ho
 have hmut0:∀k,Mut φ h' k→Mut φ h k:=by
  rintro k ⟨o,g,sz,rs,g',a,bs,ho,hp,rfl⟩
  exact ⟨o,g,sz,rs,g',a,bs,hmt _ _ _ _ ho,hp,rfl⟩
 have hv:zaJ φ w (Or M0 (Mut φ h')) args' vs:=by
  refine zav.rel (φ':=φ) (n':=n) hH (fun {x v} _ hx=>hx.keep φ.le_refl (fun _ _ _=>rfl) (fun k hk=> .inl (hk.imp id (hmut0 k)))) ?_ (fun o g sz h1 _ h2=>by omega) hle hb' hargs
  rintro o mt g sz rs a bs ho hp ho' h0 (hk|⟨o',g',sz',rs',g'',a',bs',ho1,hp1,he⟩)
  ·exact h0 hk
  ·have hne:o'≠o:=fun e=>by subst e;exact ho' _ _ _ ho1
   have ho0:=hmt _ _ _ _ ho1
   have hg:g''=g':=by
    obtain ⟨A2,hA2, _⟩:=hH.obj _ _ _ _ _ ho0
    rw [hp1] at hA2
    simp only [Option.some.injEq,Prod.mk.injEq] at hA2
    exact hA2.1
   subst hg
   exact hH.inj _ _ _ _ _ _ _ _ _ _ _ _ _ _ ho0 ho hne (.inl rfl) hp1 hp he
 let hr:zaq:=fun o=>if o ∈ rs then none else h' o
 have hrmut:∀k,Mut φ hr k→Mut φ h' k:=by
  rintro k ⟨o,g,sz,rs1,g',a,bs,ho,hp,rfl⟩
  simp only [hr] at ho
  split at ho
  ·cases ho
  ·exact ⟨o,g,sz,rs1,g',a,bs,ho,hp,rfl⟩
 let M1:Nat→Prop:=Or M0 (Mut φ hr)
 let φ0:zaz:=fun j=>if j<m then φ (ren rs n j) else none
 have hφ0:∀j,j<m→φ0 j=φ (ren rs n j):=fun j hj=>if_pos hj
 have hgiv:∀j mt g sz rws,mkH HA j=some (.rows mt g sz rws)→j<m∧∃rws',h' (ren rs n j)=some (.rows mt g sz rws')∧zwX (ren rs n) rws rws'∧∀r ∈ rws,∀c ∈ r,Bel m c:=by
  intro j mt g sz rws hj
  have hjm:=hAb _ (zeK hj)
  obtain ⟨x,y,h1,h2,h3⟩:=hA j hjm.1
  rw [hj] at h1
  cases h1
  cases h3 with
  |rows h3=>exact ⟨hjm.1, _,h2,h3,hjm.2⟩
 have hgmut:∀k,Mut φ0 (mkH HA) k→∃j,j<m∧∃g sz rws g' a bs,h' (ren rs n j)=some (.rows true g sz rws)∧φ (ren rs n j)=some (g',some (a,bs))∧a.block=k:=by
  rintro k ⟨j,g,sz,rws,g',a,bs,ho,hp,rfl⟩
  obtain ⟨hj,rws',h1, _⟩:=hgiv _ _ _ _ _ ho
  rw [hφ0 j hj] at hp
  exact ⟨j,hj,g,sz,rws',g',a,bs,h1,hp,rfl⟩
 have hgmut':∀k,Mut φ0 (mkH HA) k→Mut φ h' k:=fun k hk=>by
  obtain ⟨j, _,g,sz,rws,g',a,bs,h1,h2,h3⟩:=hgmut k hk
  exact ⟨_,g,sz,rws,g',a,bs,h1,h2,h3⟩
 have hgen:∀ {o mt g sz rws g' A},h' o=some (.rows mt g sz rws)→φ o=some (g',A)→g'=g:=by
  intro o mt g sz rws g' A ho hp
  obtain ⟨A2,hA2, _⟩:=hH'.obj _ _ _ _ _ ho
  rw [hp] at hA2
  simp only [Option.some.injEq,Prod.mk.injEq] at hA2
  exact hA2.1
 have hM1:∀k,Or M1 (Mut φ0 (mkH HA)) k→Or M0 (Mut φ h') k:=by
  rintro k ((hk|hk)|hk)
  ·exact .inl hk
  ·exact .inr (hrmut k hk)
  ·exact .inr (hgmut' k hk)
 have hH1:zhD φ0 m w M1 (mkH HA):=by
  refine ⟨fun k hk=>hH'.blk (hk.imp id (hrmut k)),fun o ho=>if_neg aa,fun j mt g sz rws hj=> ?_,fun o o' mt g sz rws mt' g' sz' rws' a a' b b' ho ho' hne hmm hp hp'=> ?_,hH'.glob.keep (fun _ _ _=>rfl) (fun k hk=> .inl (hM1 k hk))⟩
  ·obtain ⟨hjm,rws',h1,h2,h3⟩:=hgiv _ _ _ _ _ hj
   obtain ⟨A,hA1,hc⟩:=hH'.obj _ _ _ _ _ h1
   refine ⟨A,by rw [hφ0 j hjm];exact hA1,hc.imp (fun h=>⟨h.1, ?_⟩) ?_⟩
   ·obtain ⟨_,rfl⟩:=h
    exact List.eq_nil_of_length_eq_zero h2.shape.1.symm
   ·rintro ⟨a,bs,c1,c3,hd⟩
    refine ⟨a,bs,c1, ?_,hd.turn rfl h2.shape.1.symm (h2.shape.2.2 sz) (fun c9=>h2.back hφ0 hM1 h3 c9)⟩
    ·rintro (hk|⟨o',g1,sz1,rs1,g1',a',bs',ho1,hp1,he⟩)
     ·exact c3 hk
     ·simp only [hr] at ho1
      split at ho1
      ·cases ho1
      ·rename_i hni
       obtain rfl:=hgen ho1 hp1
       subst c1
       exact hH'.inj _ _ _ _ _ _ _ _ _ _ _ _ _ _ ho1 h1 (fun e=>hni (e▸zjh aa)) (.inl rfl) hp1 hA1 he
  ·obtain ⟨hj,r1,h1, _⟩:=hgiv _ _ _ _ _ ho
   obtain ⟨hj',r1',h1', _⟩:=hgiv _ _ _ _ _ ho'
   rw [hφ0 o hj] at hp
   rw [hφ0 o' hj'] at hp'
   exact hH'.inj _ _ _ _ _ _ _ _ _ _ _ _ _ _ h1 h1' (fun e=>hne (hσ _ _ e)) hmm hp hp'
 have hargs1:zaJ φ0 w (Or M1 (Mut φ0 (mkH HA))) args0 vs:=hargs0.back hφ0 hM1 hb0 hv
 refine (hp.2 _ φ0 w vs hH1 hargs1).mono ?_
 rintro e w' ⟨v,φ1,r,h1,n',rfl,hK,hH2,hx,st⟩
 obtain ⟨φ2,hH3,hx3,hm3,hst⟩:=hK.sound hH2 (tmps:=fun _=>v) (fun _=>hx)
 have hx3:=hx3 0
 simp only [mkE,zax] at hx3
 have hlater:∀j x,j<m→φ (ren rs n j)=some x→∃x',φ2 j=some x'∧x.1≤x'.1∧(x'.1=x.1→x'=x):=by
  intro j x hj hx
  obtain ⟨x',h1,h2,h3⟩:=st.le j x (by rw [hφ0 j hj];exact hx)
  exact ⟨x',hst j x' aa h1,h2,h3⟩
 let φ3:zaz:=fun o=>if o ∈ rs then φ2 (rs.idxOf o) else if o<n then φ o else φ2 (o - n+m)
 have hidx:∀j,j<m→rs.idxOf (ren rs n j)=j:=by
  intro j hj
  have h1:=List.idxOf_lt_length_of_mem (zjh (rs:=rs) (n:=n) (j:=j) aa)
  refine hσ _ _ ?_
  have h2:=List.getElem_idxOf h1
  unfold ren at h1 h2 ⊢
  rw [if_pos h1,List.getD_eq_getElem?_getD,List.getElem?_eq_getElem h1]
  exact h2
 have e3:∀o,φ3 (ren rs n o)=φ2 o:=by
  intro o
  by_cases ho:o<m
  ·simp only [φ3]
   rw [if_pos (zjh aa),hidx o ho]
  ·have hge:ren rs n o=n+(o - m):=by unfold ren;rw [if_neg aa,hm]
   simp only [φ3]
   rw [hge,if_neg (fun hmem=>by have:=hlt _ hmem;omega),if_neg aa]
   congr 1;omega
 have e3':∀o,o<n→o ∉ rs→φ3 o=φ o:=fun o ho hni=>by simp only [φ3];rw [if_neg hni,if_pos ho]
 have hltn:∀o x,φ o=some x→o<n:=fun o x ho=>Nat.lt_of_not_le fun hle=>cg
 have hren:∀o,o ∈ rs→∃j,j<m∧o=ren rs n j:=by
  intro o ho
  obtain ⟨j,hj,rfl⟩:=List.getElem_of_mem ho
  exact ⟨j,aa,by unfold ren;rw [if_pos hj,List.getD_eq_getElem?_getD,List.getElem?_eq_getElem hj];rfl⟩
 have hle3:φ.le φ3:=by
  intro o x ho
  by_cases hmem:o ∈ rs
  ·obtain ⟨j,hj,rfl⟩:=hren o hmem
   rw [e3];exact hlater j x hj ho
  ·exact ⟨x,by rw [e3' o (hltn _ _ ho) hmem];exact ho,Nat.le_refl _,fun _=>rfl⟩
 have hheap:∀k,k<w.heap.size→¬Mut φ0 (mkH HA) k→w'.heap[k]? =w.heap[k]? :=fun k hk hn=>st.fr.block k hk hn
 have hsrc:∀o y,zel HH (zmI rs h') o=some y→(∃o0 x,o=ren rs n o0∧mkH H0 o0=some x∧RnO (ren rs n) x y)∨(o<n∧o ∉ rs∧h' o=some y):=by
  intro o x ho
  rw [zhu] at ho
  split at ho
  ·rename_i y hy
   cases ho
   exact .inl (hHH.at hσ hy)
  ·rw [zzw] at ho
   split at ho
   ·cases ho
   ·rename_i hni
    cases x with
    |rows mt g sz rws=>
     obtain ⟨A,hA, _⟩:=hH'.obj _ _ _ _ _ ho
     exact .inr ⟨hltn _ _ hA,hni,ho⟩
 have hmut:∀k,Mut φ3 (zel HH (zmI rs h')) k→Mut φ2 (mkH H0) k∨Mut φ hr k:=by
  rintro k ⟨o,g,sz,rws,g',a,bs,ho,hp,rfl⟩
  rcases hsrc o _ ho with ⟨o0,x,rfl,h1,h2⟩|⟨h1,hni,h2⟩
  ·cases h2 with
   |rows h2=>rw [e3] at hp;exact .inl ⟨o0,g,sz, _,g',a,bs,h1,hp,rfl⟩
  ·rw [e3' o h1 hni] at hp
   exact .inr ⟨o,g,sz,rws,g',a,bs,by simp only [hr];rw [if_neg hni];exact h2,hp,rfl⟩
 have hmnew:∀k,Mut φ2 (mkH H0) k→Mut φ0 (mkH HA) k∨w.heap.size≤k:=fun k hk=>st.mutd k (hm3 k hk)
 have hsub:∀k,Or M0 (Mut φ3 (zel HH (zmI rs h'))) k→Or M1 (Mut φ2 (mkH H0)) k:=fun k hk=>hk.elim (fun h=> .inl (.inl h)) fun h=>(hmut k h).elim .inr fun h=> .inl (.inr h)
 have hmutd:∀k,Mut φ3 (zel HH (zmI rs h')) k→Mut φ h' k∨w.heap.size≤k:=fun k hk=>
  (hmut k hk).elim (fun h=>(hmnew k h).imp (hgmut' k) id) fun h=> .inl (hrmut k h)
 have hsub':∀k,Or M0 (Mut φ3 (zel HH (zmI rs h'))) k→Or M0 (Mut φ h') k∨w.heap.size≤k:=fun k hk=>hk.elim (fun h=> .inl (.inl h)) fun h=>(hmutd k h).imp .inr id
 have hblk:∀o x g' a bs,h' o=some x→φ o=some (g',some (a,bs))→a.block<w.heap.size:=by
  intro o x g' a bs ho hp
  cases x with
  |rows mt g sz rws=>
   obtain ⟨A,hA,hc⟩:=hH'.obj _ _ _ _ _ ho
   rw [hp] at hA
   simp only [Option.some.injEq,Prod.mk.injEq] at hA
   obtain ⟨rfl,rfl⟩:=hA
   rcases hc with ⟨h, _⟩|⟨a',bs',h, _,h2⟩
   ·cases h
   ·simp only [Option.some.injEq,Prod.mk.injEq] at h
    obtain ⟨rfl,rfl⟩:=h
    exact h2.blk
 have hkeep:∀o mt g sz rws g' a bs,o ∉ rs→h' o=some (.rows mt g sz rws)→φ o=some (g',some (a,bs))→¬Mut φ0 (mkH HA) a.block:=by
  intro o mt g sz rws g' a bs hni ho hp hk
  obtain ⟨j,hj,g1,sz1,rws1,g1',a1,bs1,q1,q2,q3⟩:=hgmut _ hk
  obtain rfl:=hgen ho hp
  obtain rfl:=hgen q1 q2
  exact hH'.inj _ _ _ _ _ _ _ _ _ _ _ _ _ _ q1 ho (fun e=>hni (e▸zjh aa)) (.inl rfl) q2 hp q3
 have hfar:∀o0 mt g sz rws g' a bs o' y g1 a' b',mkH H0 o0=some (.rows mt g sz rws)→φ2 o0=some (g',some (a,bs))→o' ∉ rs→h' o'=some y→φ o'=some (g1,some (a',b'))→
   (mt=true∨∃g sz rs,y= .rows true g sz rs)→a.block≠a'.block:=by
  intro o0 mt g sz rws g' a bs o' y g1 a' b' q1 q2 hni q3 q4 hmm
  have hb1:=hblk _ _ _ _ _ q3 q4
  rcases hmm with rfl|⟨g2,sz2,rs2,rfl⟩
  ·rcases hmnew a.block ⟨o0,g,sz,rws, _,a,bs,q1,q2,rfl⟩ with hk|hk
   ·intro he
    cases y with
    |rows mt1 g1' sz1 rws1=>exact hkeep _ _ _ _ _ _ _ _ hni q3 q4 (he▸hk)
   ·omega
  ·intro he
   obtain ⟨A,hA,hc⟩:=hH3.obj _ _ _ _ _ q1
   rw [q2] at hA
   simp only [Option.some.injEq,Prod.mk.injEq] at hA
   obtain ⟨_,rfl⟩:=hA
   rcases hc with ⟨h, _⟩|⟨a1,bs1,h,hn0, _⟩
   ·cases h
   ·simp only [Option.some.injEq,Prod.mk.injEq] at h
    obtain ⟨rfl,rfl⟩:=h
    exact hn0 (.inr ⟨o',g2,sz2,rs2, _,a',b',by simp only [hr];rw [if_neg hni];exact q3,q4,he.symm⟩)
 refine ⟨v,φ3,R,zel HH (zmI rs h'),n+(k2 - m),rfl,hk,⟨fun k hk=>Nat.lt_of_lt_of_le (hH.m0 k hk) st.fr.size,fun o ho=> ?_,fun o mt g sz rws ho=> ?_,fun o o' mt g sz rws mt' g' sz' rws' a a' b b' ho ho' hne hmm hp hp'=> ?_,
   hH'.glob.keep (fun k hn hk=>hheap k hk (fun hg=>hn (.inr (hgmut' k hg)))) hsub'⟩,
  hR.rel e3 hsub hx3,st0.trans ⟨hle3,hsub',⟨st.fr.os,st.fr.tape,st.fr.output,st.fr.drawn,st.fr.size,fun k hk hn=>hheap k hk (fun hg=>hn (hgmut' k hg))⟩,hmutd⟩⟩
 ·have h1:ren rs n (o - n+m)=o:=by unfold ren;rw [if_neg aa];omega
  rw [← h1,e3];exact hH3.fresh _ aa
 ·rcases hsrc o _ ho with ⟨o0,x,rfl,h1,h2⟩|⟨h1,hni,h2⟩
  ·cases h2 with
   |rows hs=>
    obtain ⟨A,hA,hc⟩:=hH3.obj _ _ _ _ _ h1
    refine ⟨A,by rw [e3];exact hA,hc.imp (fun h=>⟨h.1, ?_⟩) ?_⟩
    ·obtain ⟨_,rfl⟩:=h
     exact List.eq_nil_of_length_eq_zero hs.shape.1
    ·rintro ⟨a,bs,c1,c3,hd⟩
     exact ⟨a,bs,c1,fun hk=>c3 (.inl hk),hd.turn rfl hs.shape.1 (hs.shape.2.1 sz) (fun c9=>hs.rel e3 hsub c9)⟩
  ·obtain ⟨A,hA,hc⟩:=hH'.obj _ _ _ _ _ h2
   refine ⟨A,by rw [e3' o h1 hni];exact hA,hc.imp id ?_⟩
   rintro ⟨a,bs,c1,c3,hd⟩
   exact ⟨a,bs,c1,c3,hd.keep (hheap _ hd.blk (hkeep _ _ _ _ _ _ _ _ hni h2 (by rw [hA,c1]))) (fun c9=>c9.keep hle3 (fun k hn hk=>hheap k hk (fun hg=>hn (.inr (hgmut' k hg)))) hsub')⟩
 ·rcases hsrc o _ ho with ⟨o0,x,rfl,q1,q2⟩|⟨q1,qn,q2⟩<;>rcases hsrc o' _ ho' with ⟨o0',x',rfl,q1',q2'⟩|⟨q1',qn',q2'⟩
  ·cases q2;cases q2'
   rw [e3] at hp hp'
   exact hH3.inj _ _ _ _ _ _ _ _ _ _ _ _ _ _ q1 q1' (fun e=>hne (by rw [e])) hmm hp hp'
  ·cases q2
   rw [e3] at hp;rw [e3' o' q1' qn'] at hp'
   exact hfar _ _ _ _ _ _ _ _ _ _ _ _ _ q1 hp qn' q2' hp' (hmm.imp id fun h=>by subst h;exact ⟨_, _, _,rfl⟩)
  ·cases q2'
   rw [e3' o q1 qn] at hp;rw [e3] at hp'
   exact Ne.symm (hfar _ _ _ _ _ _ _ _ _ _ _ _ _ q1' hp' qn q2 hp (hmm.symm.imp id fun h=>by subst h;exact ⟨_, _, _,rfl⟩))
  ·rw [e3' o q1 qn] at hp;rw [e3' o' q1' qn'] at hp'
   exact hH'.inj _ _ _ _ _ _ _ _ _ _ _ _ _ _ q2 q2' hne hmm hp hp'
theorem Bel.mono {n m:Nat} (hnm:n≤m){x:AV} (h:Bel n x):Bel m x:=by
 induction h with
 |top=>exact .top
 |v x=>exact .v x
 |agg _ ih=>exact .agg ih
 |tup _ ih=>exact .tup ih
 |lst _ ih=>exact .lst ih
 |fp _ ih=>exact .fp ih
 |ref h=>exact .ref aa
 |sl h=>exact .sl aa
 |mp h=>exact .mp aa
 |fn _ _ ih1 ih2=>exact .fn ih1 ih2
 |gd _ ih=>exact .gd ih
theorem zE1 {P:Program}{n:Nat}{ops:List Oper}{Q:zbV}{m i:Nat}{rest:List Oper}{e:Env}{h:zaq}{acc:List zfj}{dst:Option Tmp}{f:FuncId}{first caps args args0:List AV}{R0 R:AV}{o:Nat}{mt:Bool}{g g' sz:Nat}{rws rws':List (List AV)}
  (hp:zeC P f args0 [(0, .rows mt g sz rws)] 1 R0 [(0, .rows true g' sz rws')] 1) (ho:h o=some (.rows mt g sz rws)) (hcl:∀r ∈ rws,∀c ∈ r,Bel 0 c) (hcl':∀r ∈ rws',∀c ∈ r,Bel 0 c)
  (hargs:∀n₁,RnL (ren [o] n₁) args0 (first++args++caps)) (hb0:∀c ∈ args0,Bel 1 c) (hb:∀n₁,o<n₁→∀c ∈ first++args++caps,Bel n₁ c)
  (hR:∀n₁,Rn (ren [o] n₁) R0 R) (hfl:ztF R∨∃g sz i len,R= .sl o g sz i len)
  (hk:adr P n ops Q m (i+1) rest (put e dst R) (upd h o (some (.rows true g' sz rws'))) (acc++ [([o], [o])])):zbq P n ops Q m i rest dst (.fn (.func f) first caps) args e h acc:=by
 refine ⟨R, [o], [(o,some (.rows true g' sz rws'))], .inr (.inr (.inl ⟨f,first,caps,rfl, ?_, ?_, ?_,fun h₁ n₁ hx hn=> ?_⟩)),hk⟩
 ·intro o' ho'
  simp only [List.mem_singleton] at ho'
  subst ho'
  exact ⟨_,ho⟩
 ·intro p hp
  simp only [List.mem_singleton] at hp
  subst hp
  exact ⟨ad,g',sz,rws',rfl,hcl'⟩
 ·exact hfl.imp id fun ⟨g,sz,i,len,h⟩=>⟨o,g,sz,i,len,h,ad⟩
 ·have hon:=hn o ad
  have r0:ren [o] n₁ 0=o:=rfl
  refine zEE (args':=first++args++caps) (HH:= [(o, .rows true g' sz rws')]) [o] h₁ hp ad (by simpa using hon) rfl (Nat.le_refl _) (.refl _) ?_ ?_ (.refl _ _ _ _) (hb n₁ hon) (hargs n₁) hb0 (hR n₁)
   (.cons r0.symm (.rows (.same hcl')) .nil) ⟨rfl, ?_,rfl⟩
  ·intro j hj
   obtain rfl:j=0:=aa
   exact ⟨.rows mt g sz rws, .rows mt g sz rws,by simp [mkH,zax],by rw [r0,← hx o ad];exact ho, .rows (.same hcl)⟩
  ·intro p hp
   simp only [List.mem_singleton] at hp
   subst hp
   refine ⟨ad,fun r hr c hc=> ?_⟩
   exact Bel.mono (Nat.zero_le _) (hcl r hr c hc)
  ·funext a
   simp only [zel,zmI,zam,upd]
   split<;>rfl
theorem zES {P:Program}{n:Nat}{ops:List Oper}{Q:zbV}{m i:Nat}{rest:List Oper}{e:Env}{h:zaq}{acc:List zfj}{dst:Option Tmp}{f:FuncId}{first caps args args':List AV}{R:Nat→AV}{HH:Nat→List (Nat×zbp)}{k2:Nat}
  (b:Nat) (hbb:b=n+ops.length+16 * i) (hp:zhb P f args' R HH k2) (hk16:k2≤16) (hnR:zfV (R 0)) (hnH:∀p ∈ HH 0,zpH p.2) (hle:∀h₁:zaq,zav h₁ noH 0 (first++args++caps) args') (hb:∀c ∈ args',Bel 0 c)
  (hnd:((HH b).map (·.1)).Nodup) (hk:adr P n ops Q m (i+1) rest (put e dst (R b)) (zel (HH b) h) (acc++ [([zdd],(HH b).map (·.1))])):zbq P n ops Q m i rest dst (.fn (.func f) first caps) args e h acc:=by
 subst hbb
 refine ⟨R _, [zdd],(HH (n+ops.length+16 * i)).map (fun p=>(p.1,some p.2)), .inr (.inr (.inr ⟨f,first,caps,args',R 0,HH 0,HH (n+ops.length+16 * i),k2,rfl,ad,hk16,hb,hp.1,hnR,hnH,(hp.2 _).1,(hp.2 _).2,hnd,rfl,fun h₁ _=>hle h₁⟩)), ?_⟩
 rw [zfo hnd,List.map_map]
 exact hk
theorem zE0 {P:Program}{n:Nat}{ops:List Oper}{Q:zbV}{m i:Nat}{rest:List Oper}{e:Env}{h:zaq}{acc:List zfj}{dst:Option Tmp}{f:FuncId}{first caps args args':List AV}{R:Nat→AV}{HH:Nat→List (Nat×zbp)}{k2:Nat}
  (S:List Nat) (b:Nat) (hbb:b=n+ops.length+16 * i) (hp:zhb P f args' R HH k2) (hk16:k2≤16) (hnR:zfV (R 0)) (hnH:∀p ∈ HH 0,zpH p.2) (hle:∀h₁:zaq,(∀o ∈ S,h o=h₁ o)→zav h₁ noH 0 (first++args++caps) args') (hb:∀c ∈ args',Bel 0 c)
  (hnd:((HH b).map (·.1)).Nodup) (hk:adr P n ops Q m (i+1) rest (put e dst (R b)) (zel (HH b) h) (acc++ [(zdd::S,(HH b).map (·.1))])):zbq P n ops Q m i rest dst (.fn (.func f) first caps) args e h acc:=by
 subst hbb
 refine ⟨R _,zdd::S,(HH (n+ops.length+16 * i)).map (fun p=>(p.1,some p.2)), .inr (.inr (.inr ⟨f,first,caps,args',R 0,HH 0,HH (n+ops.length+16 * i),k2,rfl,ad,hk16,hb,hp.1,hnR,hnH,(hp.2 _).1,(hp.2 _).2,hnd,rfl,fun h₁ h2=>hle h₁ fun o ho=>h2 o (List.mem_cons_of_mem _ ho)⟩)), ?_⟩
 rw [zfo hnd,List.map_map]
 exact hk
end Go.Av
end
section
open Go Go.Proofs
namespace Go.Av
theorem ztO (l:List StD):zeN l []=l:=rfl
theorem zxk (l more:List StD) (s:StD):zeN l (more++ [s])=if s ∈ zeN l more then zeN l more else zeN l more++ [s]:=by
 unfold zeN;rw [List.foldl_append];rfl
theorem zpP (l more:List StD){i:Nat} (h:i<more.length):zeN l (more.take (i+1))=if nth more i ∈ zeN l (more.take i) then zeN l (more.take i) else zeN l (more.take i)++ [nth more i]:=by
 rw [List.take_add_one,List.getElem?_eq_getElem h,zap _ _ h,Option.toList_some,zxk]
theorem zhG:∀ (more l:List StD),l.length≤(zeN l more).length∧(zeN l more).length≤l.length+more.length
 | [],l=>by simp [zeN]
 |s::more,l=>by
  have e:zeN l (s::more)=zeN (if s ∈ l then l else l++ [s]) more:=rfl
  rw [e]
  by_cases h:s ∈ l
  ·have:=zhG more l
   rw [if_pos h];simp;omega
  ·have:=zhG more (l++ [s])
   rw [if_neg h];simp at this ⊢;omega
theorem zki {P:StD→Prop}:∀ {more l:List StD},(∀s ∈ l,P s)→(∀s ∈ more,P s)→∀s ∈ zeN l more,P s
 | [],l,h, _=>h
 |s::more,l,h,h'=>by
  have e:zeN l (s::more)=zeN (if s ∈ l then l else l++ [s]) more:=rfl
  rw [e]
  refine zki (fun t ht=> ?_) (fun t ht=>h' t (List.mem_cons_of_mem _ ht))
  split at ht
  ·exact h t ht
  ·rcases List.mem_append.1 ht with ht|ht
   ·exact h t ht
   ·simp at ht;subst ht;exact h' _ ad
theorem zu7 (l more:List StD) (hl:l.length+more.length≤17179869184) (h1:∀s ∈ l,zaQ s.p) (h2:∀s ∈ more,zaQ s.p):
  zeC Tryz.prog 186 [.sl 0 l.length 8 0 l.length,zbX more] [(0, .rows true l.length 8 (l.map zaw))] 1 (.sl 0 (zeN l more).length 8 0 (zeN l more).length) [(0, .rows true (zeN l more).length 8 ((zeN l more).map zaw))] 1:=by
 unfold zeC
 refine aF Tryz.func186 ?_
 refine J0 ?_
 refine zEp (zEs (α:=Nat×List StD) (fun a=>⟨[(0, .sl 0 a.2.length 8 0 a.2.length),(1,zbX more),(5, .int a.1)], [(0, .rows true a.2.length 8 (a.2.map zaw))],1⟩)
  (fun d a=>a.1+d=more.length∧a.2=zeN l (more.take a.1)) ?_ more.length (0,l) ?_) ?_ ?_
 ·rintro d ⟨i,out⟩ ⟨i1,i2⟩ hrec
  simp only at i1 i2
  have hol:=zhG (more.take i) l
  rw [← i2] at hol
  have hof:∀s ∈ out,zaQ s.p:=by rw [i2];exact zki h1 (fun s hs=>h2 s (List.mem_of_mem_take hs))
  refine J0 ?_
  refine zEr (fun hi=> ?_) (fun hi=> ?_)<;>simp at hi
  ·have htl:(more.take i).length=i:=by simp;omega
   have hfi:=h2 _ (zag hi)
   have hsu:=zpP l more hi
   rw [← i2] at hsu
   refine J0 ?_
   refine zEp (zEs (α:=Nat) (fun k=>⟨[(0, .sl 0 out.length 8 0 out.length),(1,zbX more),(5, .int i),(6, .v (.bool (decide (nth more i ∈ out.take k)))),(7, .int k)], [(0, .rows true out.length 8 (out.map zaw))],1⟩)
    (fun d k=>k+d=out.length) ?_ out.length 0 ?_) ?_ ?_
   ·rintro d2 k k1 hrec2
    refine J0 ?_
    refine zEr (fun hk=> ?_) (fun hk=> ?_)<;>simp at hk
    ·have hfk:=hof _ (zag hk)
     have htk:out.take (k+1)=out.take k++ [nth out k]:=by rw [List.take_add_one,List.getElem?_eq_getElem hk,zap _ _ hk];rfl
     refine J2 hi hk ?_
     refine zEx _ (fun _=>zr3 _ _ hfk hfi) ae ?_
     refine J2 hi hk ?_
     refine zEp (hrec2 (d2 - 1) aa (k+1) aa) ?_ ad
     simp [go_sem,zad,htk,eq_comm (a:=nth more i) (b:=nth out k)]
    ·have hkl:k=out.length:=by omega
     subst hkl
     refine J0 ?_
     by_cases hm:nth more i ∈ out
     ·rw [if_pos hm] at hsu
      refine J1 hm ?_
      refine zEp (hrec (d - 1) aa (i+1,out) ⟨ah,hsu.symm⟩) ?_ ad
      simp [go_sem,zad]
     ·rw [if_neg hm] at hsu
      refine J2 hm hi ?_
      refine zEp (hrec (d - 1) aa (i+1,out++ [nth more i]) ⟨ah,hsu.symm⟩) ?_ ad
      simp [go_sem,zad]
   ·omega
   ·simp [go_sem,zad]
   ·simp
  ·have hil:i=more.length:=by omega
   subst hil
   rw [List.take_length] at i2
   rw [← i2]
   refine J0 ?_
   simp [go_sem,zad]
 ·simp [ztO]
 ·simp [go_sem,zad]
 ·simp
theorem zr0 (g:zab) (hg:GOk g) (s:StD) (hs:zfN g s) (x:Int×Int) (hx:zeP g.next.length g.kinds.length g.rights x):
  zaD Tryz.prog 187 [.agg (zac g), .agg (zaw s), .agg (zbw x)] (zbX (zbS g s x)):=by
 refine pF Tryz.func187 ?_
 have hal:=hs.p.al
 have hc0:=hs.c0
 have hc1:=hs.c1
 have hcur:s.cursor.toNat<s.p.at_.length:=aa
 have hat:=hs.p.at (i:=s.cursor.toNat) aa
 have hO:=zfX (nth s.p.at_ s.cursor.toNat)
 have hTo:=fun n=>zhF g.board hg.board s.p.side n s.cursor
 have hOn:=fun u b=>zr1 u b
 have hSl:=fun n=>zpM g hg s hs n
 have hTk:=zr4 g hg s hs
 have hPu:=fun n=>zr2 g hg s hs n
 have r0:=hg.r0
 have r4:=hg.r4
 obtain ⟨op,n⟩:=x
 obtain ⟨xo,xd,xz,xk,xr⟩:=hx
 simp only at xo xd xz xk xr
 unfold zbS
 generalize hm:zan (nth s.p.at_ s.cursor.toNat)=m at *
 obtain ⟨mk,ms⟩:=m
 refine J1 hcur ?_
 refine aP hO ?_
 rcases (show op=1∨op=2∨op=3∨op=4∨op=5∨op=6∨op=7∨op=8∨op=9∨op=10 by omega) with rfl|rfl|rfl|rfl|rfl|rfl|rfl|rfl|rfl|rfl
 ·refine J0 ?_
  refine aP (hTo n) ?_
  refine J0 ?_
  refine aP (hOn { s with cursor:=toB g.board s.p.side n s.cursor} _) ?_
  exact K0
 ·refine J0 ?_
  refine aP (hSl n) ?_
  exact K0
 ·refine J0 ?_
  refine aP (hOn s _) ?_
  exact K0
 ·refine J0 ?_
  refine aP (hOn s _) ?_
  exact K0
 ·refine J0 ?_
  refine aP (hOn s _) ?_
  exact K0
 ·refine J0 ?_
  refine aP hTk ?_
  exact K0
 ·refine J0 ?_
  refine aP (hPu n) ?_
  exact K0
 ·refine J0 ?_
  exact frX
 ·have hn:=xr aa
  refine J0 ?_
  refine dP (hOn s _) ?_
  exact K0
 ·have hn:=xr aa
  have hpn:=zkz hn.1 (show n≤4 by omega)
  refine J0 ?_
  exact frX
end Go.Av
end
section
/- Our library: ranges zel functions, and iterators: equations and steps. -/
namespace Go.Av
open Go
section
variable {P:Program} {n0:Nat} {Q:zbV} {e:Env} {h:zaq} {n:Nat} {ops rest:List Oper}
def zdj (P:Program) (n0:Nat) (ps:List Tmp) (a b:Code) (Q:zbV) (v:AV) (e:Env) (h:zaq) (n:Nat):Prop:=
 (∃f caps caps' more rows h',v= .fn (.func f) [] caps∧Frz h h'∧zav h h' n caps caps'∧(∀c ∈ caps',Bel 0 c)∧zgA P f caps' more rows∧
  (∀xs ∈ rows,xs.length=ps.length)∧Fgt n0 (zbb n0 more ps (fun n1=>awp P n1 a) (fun n1=>awp P n1 b) Q rows) e h' n)∨
 (∃f caps caps' o gn sz rs rs' more rows h',v= .fn (.func f) [] caps∧Frz h h'∧h' o=some (.rows true gn sz rs)∧zaN h h' n rs rs'∧(∀r ∈ rs',∀c ∈ r,Bel 0 c)∧
  zha h h' n o caps caps'∧zrN P f caps' [(0, .rows true gn sz rs')] 1 more rows∧
  (∀xs ∈ rows,xs.length=ps.length)∧Fgt n0 (zbb n0 more ps (fun n1=>awp P n1 a) (fun n1=>awp P n1 b) Q rows) e (upd h' o none) n)
theorem zoz (g:Operand) (ps:List Tmp) (a b:Code):awp P n0 (.rangeFunc g ps.toArray a b) Q e h n=zdj P n0 ps a b Q (ev e g) e h n:=rfl
@[congr] theorem zCi {ps:List Tmp}{a b:Code}{v v':AV} (hv:v=v'):zdj P n0 ps a b Q v e h n=zdj P n0 ps a b Q v' e h n:=by subst hv;rfl
theorem zdj.mk {ps:List Tmp}{a b:Code}{f:FuncId}{caps:List AV} (caps':List AV) (h':zaq){more:Nat}{rows:List (List AV)} (C:zgA P f caps' more rows) (hfz:Frz h h') (hle:zav h h' n caps caps') (hb:∀c ∈ caps',Bel 0 c)
  (hlen:∀xs ∈ rows,xs.length=ps.length) (hk:Fgt n0 (zbb n0 more ps (fun n1=>awp P n1 a) (fun n1=>awp P n1 b) Q rows) e h' n):zdj P n0 ps a b Q (.fn (.func f) [] caps) e h n:=
 .inl ⟨f,caps,caps',more,rows,h',rfl,hfz,hle,hb,C,hlen,hk⟩
theorem zdj.give {ps:List Tmp}{a b:Code}{f:FuncId}{caps:List AV} (caps':List AV) (h':zaq) (o:Nat){gn sz:Nat}{rs:List (List AV)} (rs':List (List AV)){more:Nat}{rows:List (List AV)}
  (C:zrN P f caps' [(0, .rows true gn sz rs')] 1 more rows) (hfz:Frz h h') (ho:h' o=some (.rows true gn sz rs)) (hr:zaN h h' n rs rs') (hbr:∀r ∈ rs',∀c ∈ r,Bel 0 c) (hg:zha h h' n o caps caps')
  (hlen:∀xs ∈ rows,xs.length=ps.length) (hk:Fgt n0 (zbb n0 more ps (fun n1=>awp P n1 a) (fun n1=>awp P n1 b) Q rows) e (upd h' o none) n):zdj P n0 ps a b Q (.fn (.func f) [] caps) e h n:=
 .inr ⟨f,caps,caps',o,gn,sz,rs,rs',more,rows,h',rfl,hfz,ho,hr,hbr,hg,C,hlen,hk⟩
theorem zEF {ps:List Tmp}{a b:Code}{more:Nat}{xs:List AV}{rs:List (List AV)} (hn:n0≤n)
  (hk:awp P n a (zw9 (awp P n b (zkF (Fgt n0 (zbb n0 more ps (fun n1=>awp P n1 a) (fun n1=>awp P n1 b) Q rs)) Q e))) (zgn ps xs e) h n):
  zbb n0 more ps (fun n1=>awp P n1 a) (fun n1=>awp P n1 b) Q (xs::rs) e h n:=⟨hn,hk⟩
theorem Fgt.to {K:Env→zaq→Nat→Prop}{E:List (Nat×AV)}{HH:List (Nat×zbp)}{n':Nat} (hk:K (mkE E) (mkH HH) n') (hw:Wk e h n E HH n') (hn:n0≤n'):Fgt n0 K e h n:= .inr ⟨E,HH,n',hw,hn,hk⟩
theorem zEA {α:Type} (S:α→List (Nat×AV)×List (Nat×zbp)×Nat) (inv:List (List AV)→α→Prop){ps:List Tmp}{A B:Nat→zbV→Env→zaq→Nat→Prop}{more:Nat}
  (h0:∀d,inv [] d→more=0∧Q .normal (mkE (S d).1) (mkH (S d).2.1) (S d).2.2)
  (h1:∀xs rs d,inv (xs::rs) d→(∀d',inv rs d'→zbb n0 more ps A B Q rs (mkE (S d').1) (mkH (S d').2.1) (S d').2.2)→zbb n0 more ps A B Q (xs::rs) (mkE (S d).1) (mkH (S d).2.1) (S d).2.2):
  ∀rows d,inv rows d→zbb n0 more ps A B Q rows (mkE (S d).1) (mkH (S d).2.1) (S d).2.2
 | [],d,hi=>h0 d hi
 |xs::rs,d,hi=>h1 xs rs d hi fun d' hi'=>zEA S inv h0 h1 rs d' hi'
theorem zpJ {K:Env→zaq→Nat→Prop}:zw9 K .normal e h n=K e h n:=rfl
theorem zor {K:Env→zaq→Nat→Prop}{e0:Env}:zkF K Q e0 .normal e h n=K (upd e0 GH (e GH)) h n:=rfl
theorem zu1 {K:Env→zaq→Nat→Prop}{e0:Env}:zkF K Q e0 .ret e h n=Q .ret (upd e0 GH (e GH)) h n:=rfl
theorem zrR {K:Env→zaq→Nat→Prop}{e0:Env}{id:Nat}:zkF K Q e0 (.exit id) e h n=Q (.exit id) (upd e0 GH (e GH)) h n:=rfl
theorem zzt {xs:List AV}:zgn [] xs e=e:=by simp [zgn]
theorem zws {t:Tmp}{ps:List Tmp}{x:AV}{xs:List AV}:zgn (t::ps) (x::xs) e=zgn ps xs (upd e t x):=rfl
theorem zsa {rs:List ResultVar}{l more:Nat}:RetI P rs l more .normal e h n=((zpy P e h rs).1∧((more=0∧e GH=zaR l 0 [])∨e GH=zaR l 2 [])):=rfl
theorem zAm {rs:List ResultVar}{l more:Nat}:RetI P rs l more .ret e h n=((zpy P e h rs).1∧((more=0∧e GH=zaR l 0 [])∨e GH=zaR l 2 [])):=rfl
theorem zfn.mk {dst:Option Tmp}{l more:Nat}{args xs:List AV}{rs:List (List AV)} (h':zaq) (hg:e GH=zaR l more (xs::rs)) (hfz:Frz h h') (hle:zav h h' n args xs) (hb:∀c ∈ xs,Bel 0 c)
  (hT:zdA P ops Q rest (put (upd e GH (zaR l more rs)) dst (.v (.bool true))) h' n) (hF:zdA P ops Q rest (put (upd e GH (zaR l 2 [])) dst (.v (.bool false))) h' n):zfn P ops Q rest dst l args e h n:=
 ⟨l,more,xs::rs,rfl,hg,h',hfz,hle,hb,hT,hF⟩
theorem zfn.exh {dst:Option Tmp}{l:Nat}{args:List AV} (hg:e GH=zaR l 1 []):zfn P ops Q rest dst l args e h n:=⟨l,1, [],rfl,hg,rfl⟩
theorem aGC.yld {dst:Option Tmp}{l more:Nat}{args xs:List AV}{rs:List (List AV)} (h':zaq) (hg:e GH=zaR l more (xs::rs)) (hfz:Frz h h') (hle:zav h h' n args xs) (hb:∀c ∈ xs,Bel 0 c)
  (hT:zdA P ops Q rest (put (upd e GH (zaR l more rs)) dst (.gd true (.v (.bool true)))) h' n) (hF:zdA P ops Q rest (put (upd e GH (zaR l 2 [])) dst (.gd true (.v (.bool false)))) h' n):
  aGC P ops Q rest dst true (.fn (.yield l) [] []) args e h n:= .inr (.inr ⟨rfl,l,more,xs::rs,rfl,hg,h',hfz,hle,hb,hT,hF⟩)
theorem aGC.exh {dst:Option Tmp}{l:Nat}{args:List AV} (hg:e GH=zaR l 1 []):aGC P ops Q rest dst true (.fn (.yield l) [] []) args e h n:= .inr (.inr ⟨rfl,l,1, [],rfl,hg,rfl⟩)
theorem zpC {h h':zaq}{o:Nat}:zha h h' n o [] []=True:=eq_true .nil
theorem zpD {h h':zaq}{o g sz i off:Nat}{xs ys:List AV}:zha h h' n o (.ref o g sz i off::xs) (.ref 0 g sz i off::ys)=zha h h' n o xs ys:=by
 refine propext ⟨fun hg=> ?_, .ref⟩
 cases hg with
 |ref t=>exact t
 |le hx hb t=>cases hb with|ref hb=>exact absurd hb (Nat.not_lt_zero _)
theorem ztH {h h':zaq}{o:Nat}{x:AV}{cells xs ys:List AV}:zha h h' n o (x::xs) (.fp cells::ys)=(LeV h h' n x (.fp cells)∧(∀c ∈ cells,Bel 0 c)∧zha h h' n o xs ys):=by
 refine propext ⟨fun hg=> ?_,fun ⟨h1,h2,h3⟩=> .le h1 (.fp h2) h3⟩
 cases hg with
 |le hx hb t=>cases hb with|fp hb=>exact ⟨hx,hb,t⟩
attribute [go_sem] zpC zpD ztH
attribute [go_sem] zoz zpJ zor zu1 zrR zzt zws zsa zAm zsf
end
end Go.Av
end
section
open Go Go.Proofs
namespace Go.Av
def zcl (b:zay) (side d:Int):Nat→Int→List Int
 |0, _=> []
 |k+1,x=>if 0≤x then x::zcl b side d k (toB b side d x) else []
def zbz (b:zay) (side d:Int):Nat→Int→Nat
 |0,x=>if 0≤x then 1 else 0
 |k+1,x=>if 0≤x then zbz b side d k (toB b side d x) else 0
theorem zmv {b:zay}{side d:Int}:∀ {k:Nat}{x:Int},zbz b side d k x≠2
 |0,x=>by unfold zbz;split<;>omega
 |k+1,x=>by unfold zbz;split;exact zmv;omega
theorem zwI (b:zay) (hb:zaP b) (side d c:Int) (k:Nat):zgA Tryz.prog 210 [.fp (zco b), .fp [.int side], .fp [.int d], .fp [.int c]]
  (zbz b side d k (toB b side d c)) ((zcl b side d k (toB b side d c)).map zaB):=by
 refine zEz ai Tryz.func210 rfl rfl (Nat.le_of_ble_eq_true rfl) ai (fun l=> ?_) (hm2:=zmv)
 have hbl:∀n,(∀c' ∈ zco b,Bel n c')=True:=fun n=>ae
 have hel:(zco b).length=3:=rfl
 have hT:∀x,zaD Tryz.prog 154 [.agg (zco b), .int side, .int d, .int x] (.int (toB b side d x)):=fun x=>zhI b hb side d x
 have hg:∀ (n k:Nat) (x:Int),Bel n (zaR l (zbz b side d k x) ((zcl b side d k x).map zaB)):=fun n k x=>by
  simp only [zaR,zhB,zfi,List.forall_mem_cons,zok,zbt]
  simp [go_sem]
 obtain ⟨eb,heb⟩:∃eb,eb=zco b:=⟨_,rfl⟩
 rw [← heb] at hbl hel hT ⊢
 have hte:eb.take 3=eb:=List.take_of_length_le aa
 refine Jg2 hel hte ?_
 refine zEt (hT c) aH ?_
 refine Jg2 hel hte ?_
 refine zEp (zEs (α:=Nat×Int) (fun a=>⟨[(0, .fn (.yield l) [] []),(1, .fp eb),(2, .fp [.int side]),(3, .fp [.int d]),(6, .int a.2),(1000000007,zaR l (zbz b side d a.1 a.2) ((zcl b side d a.1 a.2).map zaB))], [],0⟩)
  (fun f a=>f=a.1∧zbz b side d a.1 a.2=zbz b side d k (toB b side d c)) ?_ k (k,toB b side d c) ?_) ?_ ?_
 ·rintro f ⟨k',x⟩ ⟨i1,i2⟩ hrec
  simp only at i1 i2
  subst i1
  refine Jg2 hel hte ?_
  by_cases hx:0≤x
  ·simp only [hx,decide_true]
   cases f with
   |zero=>exact aGC.exh (by simp [upd,GH,zbz,zcl,hx])
   |succ f=>
    refine aGC.yld (more:=zbz b side d f (toB b side d x)) (xs:= [.int x]) (rs:=(zcl b side d f (toB b side d x)).map zaB) noH (by simp [upd,GH,zbz,zcl,hx,zaB]) (.refl _) (.refl _ _ _ _) ae ?_ ?_
    ·refine Jg2 hel hte ?_
     refine zEt (hT x) aH ?_
     refine Jg2 hel hte ?_
     rw [zbz,if_pos hx] at i2
     refine zEp (hrec f aa (f,toB b side d x) ⟨rfl,i2⟩) ?_ ad
     simp [go_sem,zad,hbl,hg,GH]
    ·exact Kg2 hel hte
  ·have hm:zbz b side d f x=0:=by cases f<;>simp [zbz,hx]
   have hr:zcl b side d f x= []:=by cases f<;>simp [zcl,hx]
   simp only [hx,decide_false]
   refine aGC.skip (.v (.bool false)) ?_
   refine Jg2 hel hte ?_
   rw [← i2,hm,hr]
   exact .inl ⟨rfl,rfl⟩
 ·exact ⟨rfl,rfl⟩
 ·simp [go_sem,zad,hbl,hg,GH]
 ·simp
def zrt (n:Nat):AV:= .fn (.func 210) [] [.ref n 0 3 0 0, .ref (n+1) 0 1 0 0, .ref (n+2) 0 1 0 0, .ref (n+3) 0 1 0 0]
def zrs (b:zay) (side d c:Int) (n:Nat):List (Nat×zbp):= [(n, .rows true 0 3 [zco b]),(n+1, .rows true 0 1 [[.int side]]),(n+2, .rows true 0 1 [[.int d]]),(n+3, .rows true 0 1 [[.int c]])]
theorem zwJ (b:zay) (side d c:Int):zhb Tryz.prog 180 [.agg (zco b), .int side, .int d, .int c] zrt (zrs b side d c) 4:=by
 refine ⟨?_,fun n=>⟨by simp [go_sem,zrt],by simp [go_sem,zrs]⟩⟩
 refine aF Tryz.func180 ?_
 repeat first|refine wV fun _=>?_|simp [go_sem,zrt,zrs]
 simp [go_sem,zad]
theorem zng (b:zay) (hb:zaP b) (side d c:Int):zaD Tryz.prog 155 [.agg (zco b), .int side, .int d, .int c] (zai (zgf b side d c)):=by
 refine pF Tryz.func155 ?_
 have hbl:∀n,(∀c' ∈ zco b,Bel n c')=True:=fun n=>ae
 have hel:(zco b).length=3:=rfl
 have hS:zhb Tryz.prog 180 [.agg (zco b), .int side, .int d, .int c] (fun n=>zrt n) (fun n=>zrs b side d c n) 4:=zwJ b side d c
 have hQ:=fun k=>zwI b hb side d c k
 simp only [zrt,zrs] at hS
 have hte:(zco b).take 3=zco b:=rfl
 obtain ⟨eb,heb⟩:∃eb,eb=zco b:=⟨_,rfl⟩
 rw [← heb] at hbl hel hS hQ hte ⊢
 have hc1:=hb.c1
 have hc0:=hb.c0
 refine Jg2 hel hte ?_
 refine zEu hS aH ?_
 refine Jg2 hel hte ?_
 refine zdj.mk [.fp eb, .fp [.int side], .fp [.int d], .fp [.int c]] (za6 _ [3,4,5,6]) (hQ (b.cells.toNat+1)) (zbf _ _) ?_ aH bA ?_
 ·refine zav.cons (.frzP rfl ?_ ?_ ?_ ?_) (zav.cons (.frzP rfl ?_ ?_ ?_ ?_) (zav.cons (.frzP rfl ?_ ?_ ?_ ?_) (zav.cons (.frzP rfl ?_ ?_ ?_ ?_) .nil)))<;>first|exact zav.refl _ _ _ _|simp [za6,zbr,upd]
 refine Fgt.to (zEA (α:=Nat×Int×List Int) (fun a=>([(7, .ref 1 0 1 0 0),(9, .ref 2 0 1 0 0)], [(1, .rows true 0 1 [[.int c]]),(2, .rows true 0 1 [[.sl 7 a.2.2.length 1 0 a.2.2.length]]),(7, .rows true a.2.2.length 1 (a.2.2.map zaB))],8))
  (fun rows a=>rows=(zcl b side d a.1 a.2.1).map zaB∧zbz b side d a.1 a.2.1=zbz b side d (b.cells.toNat+1) (toB b side d c)∧a.1+a.2.2.length=b.cells.toNat+1∧a.2.1<b.cells∧a.2.2.Nodup∧
   (∀y ∈ a.2.2,0≤y∧y<b.cells)∧zgf b side d c=zeg b side d c a.1 a.2.1 a.2.2) ?_ ?_ _ (b.cells.toNat+1,toB b side d c, []) ?_) ?_ ?_
 ·rintro ⟨f,x,seen⟩ ⟨i0,i1,i2,i3,i4,i5,i6⟩
  simp only at i0 i1 i2 i3 i4 i5 i6
  have hsl:seen.length≤b.cells.toNat:=zgM _ _ i4 (fun y hy=>by have:=i5 y hy;omega)
  obtain ⟨f,rfl⟩:∃f',f=f'+1:=⟨f - 1,aa⟩
  have hx:¬0≤x:=fun hx=>by simp [zcl,hx] at i0
  rw [zbz,if_neg hx] at i1
  rw [zeg,if_neg (fun h=>hx h.1)] at i6
  refine ⟨i1.symm, ?_⟩
  rw [i6]
  refine J1 hel ?_
  exact frX
 ·rintro xs rs ⟨f,x,seen⟩ ⟨i0,i1,i2,i3,i4,i5,i6⟩ hrec
  simp only at i0 i1 i2 i3 i4 i5 i6
  have hsl:seen.length≤b.cells.toNat:=zgM _ _ i4 (fun y hy=>by have:=i5 y hy;omega)
  cases f with
  |zero=>simp [zcl] at i0
  |succ f=>
  have hx:0≤x:=by
   by_cases hx:0≤x
   ·exact hx
   ·simp [zcl,hx] at i0
  rw [zcl,if_pos hx] at i0
  simp only [List.map_cons,List.cons.injEq] at i0
  obtain ⟨rfl,rfl⟩:=i0
  rw [zbz,if_pos hx] at i1
  rw [zeg] at i6
  refine zEF (Nat.zero_le _) ?_
  repeat first|refine wV fun _=>?_|simp [go_sem,hel,GH,zaB]
  refine zER [zai seen, .int x] (.v (.bool (decide (x ∈ seen)))) (fun _=>zoo seen x aa) (.v _) ?_ ae ?_
  ·refine zav.cons ?_ (zav.cons (.refl _) zav.nil)
   refine LeV.frz rfl ?_ ?_ (zaN.of_eq ?_)<;>simp [noH,List.take_of_length_le]
  refine Jg1 hel ?_
  refine zEr (fun hc=> ?_) (fun hc=> ?_)<;>simp at hc
  ·rw [if_neg (by rintro ⟨h1,h2,h3⟩;rcases hc with h|h<;>contradiction)] at i6
   rw [i6]
   refine Jg1 hel ?_
   exact frX
  ·rw [if_pos ⟨hx,by simpa using hc⟩] at i6
   refine Jg1 hel ?_
   refine Fgt.to (hrec (f,toB b side d x,seen++ [x]) ⟨rfl,i1,bm,zfe hb _ _ _, ?_, ?_,i6⟩) ?_ ad
   ·refine List.nodup_append.2 ⟨i4,ad, ?_⟩
    intro y hy z hz
    simp at hz
    subst hz
    rintro rfl
    exact hc.2 hy
   ·intro y hy
    rcases List.mem_append.1 hy with h|h
    ·exact i5 y h
    ·simp at h;omega
   ·simp [go_sem,zad,GH]<;>(first|done|exact blX)
 ·exact ⟨rfl,rfl,ad,zfe hb _ _ _,ad,ad,rfl⟩
 ·simp [go_sem,zad]
 ·simp
theorem zf9 (c:Int):zaD Tryz.prog 100 [.int c] (.tup [.int (zan c).1, .int (zan c).2]):=by
 refine pF Tryz.func100 ?_
 unfold zan
 by_cases h1:c<1
 ·rw [if_neg aa]
  exact K1 h1
 ·by_cases h2:12<c
  ·rw [if_neg aa]
   exact K2 h1 h2
  ·rw [if_pos aa]
   have e1:(c - 1).tdiv 2=(c - 1) / 2:=Int.tdiv_eq_ediv_of_nonneg aa
   have e2:(c - 1).tmod 2=(c - 1) % 2:=Int.tmod_eq_emod_of_nonneg aa
   have b1:0≤(c - 1).tdiv 2∧(c - 1).tdiv 2≤12:=aa
   have b2:0≤(c - 1).tmod 2∧(c - 1).tmod 2≤12:=aa
   clear e1 e2
   exact K2 h1 h2
theorem za5 (k s:Int):zaD Tryz.prog 65 [.int k, .int s] (.int (zal k s)):=by
 refine pF Tryz.func65 ?_
 unfold zal
 by_cases h1:k<0
 ·rw [if_neg aa]
  exact K1 h1
 by_cases h2:6≤k
 ·rw [if_neg aa]
  exact K2 h1 h2
 by_cases h3:s<0
 ·rw [if_neg aa]
  exact K3 h1 h2 h3
 by_cases h4:1<s
 ·rw [if_neg aa]
  exact K4 h1 h2 h3 h4
 ·rw [if_pos aa,show 2 * k+1+s=1+2 * k+s by omega]
  exact K4 h1 h2 h3 h4
theorem zgJ (x:Int):zaD Tryz.prog 116 [.int x] (.v (.bool false)):=by
 refine pF Tryz.func116 ?_
 exact K0
theorem zdW (a b:Int):zaD Tryz.prog 83 [.int a, .int b] (.int (za8 a b)):=by
 refine pF Tryz.func83 ?_
 refine J0 ?_
 refine aP (zgJ a) ?_
 refine J0 ?_
 refine aP (zgJ b) ?_
 unfold za8
 by_cases h1:a<b
 ·rw [if_pos h1]
  exact K1 h1
 ·by_cases h2:b<a
  ·rw [if_neg h1,if_pos h2]
   exact K2 h1 h2
  ·rw [if_neg h1,if_neg h2]
   exact K2 h1 h2
def orI:List Int→Int
 | []=>0
 |x::l=>if x=0 then orI l else x
theorem ztY (l:List Int) (hl:zfR l):zaD Tryz.prog 81 [zai l] (.int (orI l)):=by
 refine pF Tryz.func81 ?_
 unfold zfR at hl
 refine J0 ?_
 refine zEp (zEs (α:=Nat) (fun j=>⟨[(3, .int 0),(6,zai l),(7, .int l.length),(8, .int j)], [],0⟩)
  (fun d j=>j+d=l.length∧orI l=orI (l.drop j)) ?_ l.length 0 ?_) ?_ ?_
 ·rintro d j ⟨i1,i2⟩ hrec
  refine J0 ?_
  refine zEr (fun hj=> ?_) (fun hj=> ?_)<;>simp at hj
  ·rw [zcs hj,orI] at i2
   refine J1 hj ?_
   by_cases h0:nth l j=0
   ·rw [if_pos h0] at i2
    refine J1 h0 ?_
    refine zEp (hrec (d - 1) aa (j+1) ⟨aa,i2⟩) ?_ ad
    simp [go_sem,zad]
   ·rw [if_neg h0] at i2
    rw [i2]
    exact K1 h0
  ·rw [List.drop_eq_nil_of_le hj,orI] at i2
   rw [i2]
   exact K0
 ·simp
 ·simp [go_sem,zad]
 ·simp
theorem zfE (a b:List Int) (ha:zfR a) (hb:zfR b):zaD Tryz.prog 82 [zai a,zai b] (.int (zeR a b)):=by
 refine pF Tryz.func82 ?_
 unfold zfR at ha hb
 refine J0 ?_
 refine zEp (zEs (α:=Nat) (fun j=>⟨[(0,zai a),(1,zai b),(9,zai a),(10, .int a.length),(11, .int j)], [],0⟩)
  (fun d j=>j+d=a.length∧j≤b.length∧zeR a b=zeR (a.drop j) (b.drop j)) ?_ a.length 0 ?_) ?_ ?_
 ·rintro d j ⟨i1,i2,i3⟩ hrec
  refine J0 ?_
  refine zEr (fun hj=> ?_) (fun hj=> ?_)<;>simp at hj
  ·rw [zcs hj] at i3
   refine J1 hj ?_
   by_cases hk:j<b.length
   ·rw [zcs hk,zeR] at i3
    have hk':¬b.length≤j:=aa
    refine J3 hj hk hk' ?_
    refine aP (zdW _ _) ?_
    by_cases he:nth a j=nth b j
    ·rw [if_pos he] at i3
     have hn:za8 (nth a j) (nth b j)=0:=by simp [za8,he]
     rw [hn]
     refine J0 ?_
     refine zEp (hrec (d - 1) aa (j+1) ⟨aa,aa,i3⟩) ?_ ad
     simp [go_sem,zad]
    ·rw [if_neg he] at i3
     have hn:za8 (nth a j) (nth b j)≠0:=by unfold za8;split<;>(try split)<;>omega
     rw [i3]
     exact K1 hn
   ·have hk':b.length≤j:=by omega
    rw [List.drop_eq_nil_of_le hk',zg0] at i3
    have:zeR a b=1:=by rw [i3];unfold za8;rw [if_neg (by simp only [List.length_cons];omega),if_pos (by simp only [List.length_cons];omega)]
    rw [this]
    exact K3 hj hk hk'
  ·have hja:j=a.length:=by omega
   subst hja
   rw [List.drop_eq_nil_of_le (Nat.le_refl _),zhP] at i3
   rw [i3]
   unfold za8
   by_cases hb':a.length<b.length
   ·rw [if_pos ak]
    exact K1 hb'
   ·rw [if_neg ak,if_neg aa]
    exact K1 hb'
 ·simp
 ·simp [go_sem,zad]
 ·simp
theorem zDp (p q:zaf):orI [zeR p.at_ q.at_,zeR p.h0 q.h0,zeR p.h1 q.h1,za8 p.rights q.rights,za8 p.side q.side]=zbi p q:=by
 unfold zbi
 simp only [orI]
 repeat' split
 all_goals first|rfl|omega
theorem zbL (p q:zaf) (hp:zaQ p) (hq:zaQ q):zaD Tryz.prog 39 [.agg (zae p), .agg (zae q)] (.int (zbi p q)):=by
 refine pF Tryz.func39 ?_
 obtain ⟨p1,p2,p3⟩:=hp
 obtain ⟨q1,q2,q3⟩:=hq
 rw [← zDp]
 have c1:=zfE _ _ p1 q1
 have c2:=zfE _ _ p2 q2
 have c3:=zfE _ _ p3 q3
 have c4:=zdW p.rights q.rights
 have c5:=zdW p.side q.side
 generalize zeR p.at_ q.at_=x1 at *
 generalize zeR p.h0 q.h0=x2 at *
 generalize zeR p.h1 q.h1=x3 at *
 generalize za8 p.rights q.rights=x4 at *
 generalize za8 p.side q.side=x5 at *
 refine J0 ?_
 refine dP c1 ?_
 refine J0 ?_
 refine dP c2 ?_
 refine J0 ?_
 refine dP c3 ?_
 refine J0 ?_
 refine dP c4 ?_
 refine J0 ?_
 refine dP c5 ?_
 refine J0 ?_
 refine zbq.frz [zai [x1,x2,x3,x4,x5]] _ [31] [(31,some (.rows false 0 1 ([x1,x2,x3,x4,x5].map zaB)))] (ztY _ (by unfold zfR;simp)) ?_ ?_ ae ?_
 ·intro p hp
  simp only [List.mem_singleton] at hp
  subst hp
  exact ⟨ad,0,1, _,rfl,bB⟩
 ·intro h₁ hS
  have h7:=hS 31 ad
  simp [go_sem] at h7
  exact .cons (zak h7.symm ad cF ae) .nil
 ·exact K0
end Go.Av
end
section
/- Contracts, runs of the program: own, man, provided, and the steps. -/
open Go Go.Proofs
namespace Go.Av
def zur (n:Nat) (s:StD):AV:= .agg [.sl (n+2) 1 1 0 s.p.at_.length, .sl (n+81) 1 1 0 s.p.h0.length, .sl (n+161) 1 1 0 s.p.h1.length, .int s.p.rights, .int s.p.side, .int s.kind, .int s.cursor, .v (.bool s.took)]
def zra (n:Nat) (s:StD):List (Nat×zbp):= [(n+2, .rows true 1 1 (s.p.at_.map zaB)),(n+81, .rows true 1 1 (s.p.h0.map zaB)),(n+161, .rows true 1 1 (s.p.h1.map zaB))]
attribute [go_sem] zur zra
theorem zik (s:StD) (ha:zaQ s.p):zhb Tryz.prog 102 [.agg (zaw s)] (fun n=>zur n s) (fun n=>zra n s) 241:=by
 refine ⟨aF Tryz.func102 ?_,fun n=>⟨ae,ae⟩⟩
 obtain ⟨a1,a2,a3⟩:=ha
 have h1:=zd1 s.p.at_ a1
 have h2:=zd1 s.p.h0 a2
 have h3:=zd1 s.p.h1 a3
 refine J0 ?_
 refine zEu h1 ae ?_
 refine J0 ?_
 refine zES 81 (by rfl) (h2) am ae ae (fun _=>zav.refl _ _ _ _) ae ae ?_
 refine J0 ?_
 refine zES 161 (by rfl) (h3) am ae ae (fun _=>zav.refl _ _ _ _) ae ae ?_
 ((repeat (first|with_reducible (first|refine wL fun _=>?_|refine wD fun _=>?_|refine wZ ?_)|simp [go_sem]));refine zEW ai ?_)
 refine J0 ?_
 simp [go_sem,zad]
theorem zpa (s:StD) (hc:s.cursor.toNat<s.p.at_.length) (h0:0≤s.cursor):zaD Tryz.prog 220 [.agg (zaw s)] (.tup [.int (zan (nth s.p.at_ s.cursor.toNat)).1, .int (zan (nth s.p.at_ s.cursor.toNat)).2]):=by
 refine pF Tryz.func220 ?_
 have hO:=zf9 (nth s.p.at_ s.cursor.toNat)
 generalize zan (nth s.p.at_ s.cursor.toNat)=m at *
 refine J1 hc ?_
 refine aP hO ?_
 exact K0
theorem zcB (s:StD) (b:Bool):zaD Tryz.prog 219 [.agg (zaw s), .v (.bool b)] (zbX (zcX s b)):=by
 refine pF Tryz.func219 ?_
 cases b
 ·repeat first|refine wV fun _=>?_|simp [go_sem,zcX]
 ·repeat first|refine wV fun _=>?_|simp [go_sem,zcX]
  exact frX
abbrev zmM (f:FuncId) (g:zab) (s:StD) (n:Int) (r:List StD):Prop:=zaD Tryz.prog f [.agg (zaw s), .agg (zac g), .int n] (zbX r)
section
variable (g:zab) (hg:GOk g) (s:StD) (hs:zfN g s) (n:Int)
theorem zzW (hg:GOk g):zmM 189 g s n (zcX { s with cursor:=toB g.board s.p.side n s.cursor} (decide (0≤toB g.board s.p.side n s.cursor))):=by
 refine pF Tryz.func189 ?_
 have hT:=zhI g.board hg.board s.p.side n s.cursor
 have hP:=zcB { s with cursor:=toB g.board s.p.side n s.cursor}
 refine J0 ?_
 refine aP hT ?_
 refine J0 ?_
 refine aP (hP _) ?_
 exact K0
theorem zwB (hg:GOk g) (hs:zfN g s):zmM 190 g s n (zmq g.board s n):=by
 refine pF Tryz.func190 ?_
 have hL:=zng g.board hg.board s.p.side n s.cursor
 have hlm:=ze4 hg.board (side:=s.p.side) (d:=n) (c:=s.cursor)
 have hll:=zlJ (b:=g.board) (side:=s.p.side) (d:=n) (c:=s.cursor)
 have c9:=hg.c9
 have c1:=hg.c1
 have hal:=hs.p.al
 rw [show g.board.cells=g.cells from rfl] at hlm hll
 unfold zmq
 generalize zgf g.board s.p.side n s.cursor=line at *
 generalize hR:zby s line=R
 refine J0 ?_
 refine aP hL ?_
 refine J0 ?_
 refine zEp (zEs (α:=Nat×List StD) (fun a=>⟨[(3, .ref 0 0 8 0 0),(7, .sl 2 a.2.length 8 0 a.2.length),(19,zai line),(20, .int line.length),(21, .int a.1)], [(0, .rows true 0 8 [zaw s]),(2, .rows true a.2.length 8 (a.2.map zaw))],3⟩)
  (fun d a=>a.1+d=line.length∧a.2.length=a.1∧R=a.2++zby s (line.drop a.1)) ?_ line.length (0, []) ?_) ?_ ?_
 ·rintro d ⟨i,out⟩ ⟨i1,i2,i3⟩ hrec
  simp only at i1 i2 i3
  refine J0 ?_
  refine zEr (fun hi=> ?_) (fun hi=> ?_)<;>simp at hi
  ·have hli:=hlm _ (zag hi)
   have hlt:(nth line i).toNat<s.p.at_.length:=aa
   rw [zas hi,zby] at i3
   refine J2 hi hlt ?_
   refine zEr (fun hz=> ?_) (fun hz=> ?_)<;>simp at hz
   ·rw [if_neg bq] at i3
    refine J0 ?_
    rw [i3]
    exact frX
   ·rw [if_pos bq] at i3
    refine J0 ?_
    refine zEp (hrec (d - 1) aa (i+1,out++ [{ s with cursor:=nth line i}]) ⟨ah,ak,by simpa using i3⟩) ?_ ad
    simp [go_sem,zad]
  ·rw [List.drop_eq_nil_of_le hi,zby] at i3
   refine J0 ?_
   rw [i3]
   exact frX
 ·simp [hR]
 ·simp [go_sem,zad]
 ·simp
theorem zq0 (hg:GOk g) (hs:zfN g s):s.cursor.toNat<s.p.at_.length∧0≤s.cursor∧(nth s.p.at_ s.cursor.toNat=0∧zan (nth s.p.at_ s.cursor.toNat)=(-1, -1)∨nth s.p.at_ s.cursor.toNat≠0∧0≤(zan (nth s.p.at_ s.cursor.toNat)).1∧(zan (nth s.p.at_ s.cursor.toNat)).1<g.kinds.length∧
  ((zan (nth s.p.at_ s.cursor.toNat)).2=0∨(zan (nth s.p.at_ s.cursor.toNat)).2=1))∧(s.p.side=0∨s.p.side=1):=by
 have hal:=hs.p.al
 have hc0:=hs.c0
 have hc1:=hs.c1
 have hcur:s.cursor.toNat<s.p.at_.length:=aa
 have hat:=hs.p.at (i:=s.cursor.toNat) aa
 have hman:=zaO hat.1 hat.2 hg.k6
 refine ⟨hcur,hc0, ?_,hs.p.s⟩
 rcases hman with ⟨h1,h2⟩|⟨h1,h2,h3,h4, _⟩
 ·exact .inl ⟨h1,h2⟩
 ·exact .inr ⟨h1,h2,h3,h4⟩
theorem zvD (hg:GOk g) (hs:zfN g s):zmM 191 g s n (zcX s (decide ((zan (nth s.p.at_ s.cursor.toNat)).1<0))):=by
 refine pF Tryz.func191 ?_
 obtain ⟨hcur,h0,hm,hsd⟩:=zq0 g s hg hs
 have e:decide ((zan (nth s.p.at_ s.cursor.toNat)).1<0)=decide (nth s.p.at_ s.cursor.toNat=0):=by
  rcases hm with ⟨h1,h2⟩|⟨h1,h2, _, _⟩
  ·rw [h2];simp [h1]
  ·simp;omega
 rw [e]
 have hP:=zcB s
 refine J1 hcur ?_
 refine dP (hP _) ?_
 exact K0
theorem zvG (hg:GOk g) (hs:zfN g s):zmM 192 g s n (zcX s (decide (0≤(zan (nth s.p.at_ s.cursor.toNat)).1∧(zan (nth s.p.at_ s.cursor.toNat)).2≠s.p.side))):=by
 refine pF Tryz.func192 ?_
 obtain ⟨hcur,h0,hm,hsd⟩:=zq0 g s hg hs
 have hO:=zpa s hcur h0
 have hP:=zcB s
 have e:decide (0≤(zan (nth s.p.at_ s.cursor.toNat)).1∧(zan (nth s.p.at_ s.cursor.toNat)).2≠s.p.side)=decide ((zan (nth s.p.at_ s.cursor.toNat)).2=1 - s.p.side):=by
  rcases hm with ⟨h1,h2⟩|⟨h1,h2, _, _⟩
  ·rw [h2];simp;omega
  ·simp only [decide_eq_decide];omega
 rw [e]
 generalize zan (nth s.p.at_ s.cursor.toNat)=m at *
 refine J0 ?_
 refine aP hO ?_
 refine J0 ?_
 refine aP (hP _) ?_
 exact K0
theorem zsO (hg:GOk g) (hs:zfN g s):zmM 193 g s n (zcX s (decide (0≤(zan (nth s.p.at_ s.cursor.toNat)).1∧(zan (nth s.p.at_ s.cursor.toNat)).2=s.p.side))):=by
 refine pF Tryz.func193 ?_
 obtain ⟨hcur,h0,hm,hsd⟩:=zq0 g s hg hs
 have hO:=zpa s hcur h0
 have hP:=zcB s
 have e:decide (0≤(zan (nth s.p.at_ s.cursor.toNat)).1∧(zan (nth s.p.at_ s.cursor.toNat)).2=s.p.side)=decide ((zan (nth s.p.at_ s.cursor.toNat)).2=s.p.side):=by
  rcases hm with ⟨h1,h2⟩|⟨h1,h2, _, _⟩
  ·rw [h2];simp;omega
  ·simp only [decide_eq_decide];omega
 rw [e]
 generalize zan (nth s.p.at_ s.cursor.toNat)=m at *
 refine J0 ?_
 refine aP hO ?_
 refine J0 ?_
 refine aP (hP _) ?_
 exact K0
theorem zzJ (hg:GOk g) (hs:zfN g s):zmM 194 g s n (zm3 g s):=by
 refine pF Tryz.func194 ?_
 obtain ⟨hcur,h0,hm,hsd⟩:=zq0 g s hg hs
 have hO:=zpa s hcur h0
 have hP:=zcB
 have hcp:=zik s (hs.p.fits hg)
 unfold zm3
 generalize hme:zan (nth s.p.at_ s.cursor.toNat)=m at *
 obtain ⟨mk,ms⟩:=m
 simp only [Prod.mk.injEq] at hm
 refine J0 ?_
 refine aP hO ?_
 refine J0 ?_
 refine zEr (fun hc=> ?_) (fun hc=> ?_)<;>simp at hc
 ·rw [if_pos aa]
  exact K0
 ·rw [if_neg aa]
  refine J0 ?_
  refine zEu hcp ae ?_
  have hmk:mk.toNat<g.kinds.length:=aa
  have hmk':0≤mk:=aa
  refine J2 hcur hmk ?_
  refine zEr (fun hk=> ?_) (fun hk=> ?_)
  ·rw [if_neg aC]
   repeat first|refine wV fun _=>?_|simp [go_sem,clr]
   (first|done|exact dpX)
  ·rw [if_pos aC]
   have hl0:=hs.p.h0.len
   have hl1:=hs.p.h1.len
   rcases hsd with hsd|hsd
   ·have hmk0:mk.toNat<s.p.h0.length:=by omega
    have hv:=hs.p.h0.v _ hmk0
    obtain ⟨u,hu⟩:∃u:StD,u={ s with p:=(clr s.p s.cursor).withHand s.p.side ((s.p.hand s.p.side).set mk.toNat (nth (s.p.hand s.p.side) mk.toNat+1)),took:=true}:=⟨_,rfl⟩
    have hres:(if 8<nth (s.p.hand s.p.side) mk.toNat+1 then [] else [u])=zcX u (decide (nth s.p.h0 mk.toNat+1≤8)):=by
     have:s.p.hand s.p.side=s.p.h0:=by simp [zaf.hand,hsd]
     rw [this]
     unfold zcX
     by_cases h8:8<nth s.p.h0 mk.toNat+1
     ·rw [if_pos h8,if_neg ak]
     ·rw [if_neg h8,if_pos ak]
    rw [← hu,hres]
    have hue:zaw u= [.lst 1 ((s.p.at_.map zaB).set s.cursor.toNat [.int 0]), .lst 1 ((s.p.h0.map zaB).set mk.toNat [.int (nth s.p.h0 mk.toNat+1)]), .lst 1 (s.p.h1.map zaB), .int s.p.rights, .int s.p.side, .int s.kind, .int s.cursor, .v (.bool true)]:=by
     rw [hu];simp [zaw,zaf.withHand,zaf.hand,clr,hsd,zai,zaB,List.map_set]
    have hP':=hP u
    rw [hue,hsd] at hP'
    (repeat (first|with_reducible (first|refine wL fun _=>?_|refine wD fun _=>?_|refine wE ?_)|simp [go_sem,hsd,hmk0,hcur]))
    refine zrE.frz (za6 _ [4,83,163]) (zbf _ _) ?_
    repeat first|refine wV fun _=>?_|simp [go_sem,hsd,hmk0,hcur,za6,zbr]
    refine zbq.frz _ _ [4,83,163] [] (hP' (decide (nth s.p.h0 mk.toNat+1≤8))) ad ?_ ae ?_
    ·intro h₁ hS
     have e4:=hS 4 ad
     have e5:=hS 83 ad
     have e6:=hS 163 ad
     simp [upd,za6,zbr] at e4 e5 e6
     refine .cons (.agg (.cons (zak e4.symm ad (by simp [zam,← e4]) dE) (.cons (zak e5.symm ad (by simp [zam,← e5]) dE) (.cons (zak e6.symm ad (by simp [zam,← e6]) dE) (.refl _ _ _ _))))) (.refl _ _ _ _)
    ·exact K0
   ·have hmk0:mk.toNat<s.p.h1.length:=by omega
    have hv:=hs.p.h1.v _ hmk0
    obtain ⟨u,hu⟩:∃u:StD,u={ s with p:=(clr s.p s.cursor).withHand s.p.side ((s.p.hand s.p.side).set mk.toNat (nth (s.p.hand s.p.side) mk.toNat+1)),took:=true}:=⟨_,rfl⟩
    have hres:(if 8<nth (s.p.hand s.p.side) mk.toNat+1 then [] else [u])=zcX u (decide (nth s.p.h1 mk.toNat+1≤8)):=by
     have:s.p.hand s.p.side=s.p.h1:=by simp [zaf.hand,hsd]
     rw [this]
     unfold zcX
     by_cases h8:8<nth s.p.h1 mk.toNat+1
     ·rw [if_pos h8,if_neg ak]
     ·rw [if_neg h8,if_pos ak]
    rw [← hu,hres]
    have hue:zaw u= [.lst 1 ((s.p.at_.map zaB).set s.cursor.toNat [.int 0]), .lst 1 (s.p.h0.map zaB), .lst 1 ((s.p.h1.map zaB).set mk.toNat [.int (nth s.p.h1 mk.toNat+1)]), .int s.p.rights, .int s.p.side, .int s.kind, .int s.cursor, .v (.bool true)]:=by
     rw [hu];simp [zaw,zaf.withHand,zaf.hand,clr,hsd,zai,zaB,List.map_set]
    have hP':=hP u
    rw [hue,hsd] at hP'
    (repeat (first|with_reducible (first|refine wL fun _=>?_|refine wD fun _=>?_|refine wE ?_)|simp [go_sem,hsd,hmk0,hcur]))
    refine zrE.frz (za6 _ [4,83,163]) (zbf _ _) ?_
    repeat first|refine wV fun _=>?_|simp [go_sem,hsd,hmk0,hcur,za6,zbr]
    refine zbq.frz _ _ [4,83,163] [] (hP' (decide (nth s.p.h1 mk.toNat+1≤8))) ad ?_ ae ?_
    ·intro h₁ hS
     have e4:=hS 4 ad
     have e5:=hS 83 ad
     have e6:=hS 163 ad
     simp [upd,za6,zbr] at e4 e5 e6
     refine .cons (.agg (.cons (zak e4.symm ad (by simp [zam,← e4]) dE) (.cons (zak e5.symm ad (by simp [zam,← e5]) dE) (.cons (zak e6.symm ad (by simp [zam,← e6]) dE) (.refl _ _ _ _))))) (.refl _ _ _ _)
    ·exact K0
theorem zzs (hg:GOk g) (hs:zfN g s):zmM 195 g s n (zm1 g s n):=by
 refine pF Tryz.func195 ?_
 have hT:=zhI g.board hg.board s.p.side n s.cursor
 have hal:=hs.p.al
 have hc0:=hs.c0
 have hc1:=hs.c1
 have hcur:s.cursor.toNat<s.p.at_.length:=aa
 have hcp:=zik s (hs.p.fits hg)
 have hto:=zfe hg.board s.p.side n s.cursor
 rw [show g.board.cells=g.cells from rfl] at hto
 unfold zm1
 generalize toB g.board s.p.side n s.cursor=to at *
 refine J0 ?_
 refine aP hT ?_
 by_cases ht:to<0
 ·rw [if_pos (.inr (.inl ht))]
  have ht0:to.toNat=0:=aa
  have h0l:0<s.p.at_.length:=aa
  exact K4 hcur ht ht0 h0l
 ·have htl:to.toNat<s.p.at_.length:=by omega
  have ht':0≤to:=aa
  refine J3 hcur ht htl ?_
  refine zEr (fun hc=> ?_) (fun hc=> ?_)<;>simp at hc
  ·rw [if_pos bL]
   exact K0
  ·rw [if_neg (by rintro (h|h);exact hc.1 h;exact h hc.2)]
   refine J1 hcur ?_
   refine zEu hcp ae ?_
   refine J2 hcur htl ?_
   (first|done|exact dpX)
theorem zsp:zmM 196 g s n [{ s with kind:=n}]:=by
 refine pF Tryz.func196 ?_
 refine J0 ?_
 exact frX
theorem zy9 (h0:0≤n) (h4:n<64):zmM 197 g s n (zcX s (decide (ziI .i64 (s.p.rights.fdiv (2 ^ n.toNat)) 1=1))):=by
 refine pF Tryz.func197 ?_
 have hP:=zcB s
 refine J0 ?_
 refine dP (hP _) ?_
 exact K0
theorem zy0 (h0:0≤n) (h4:n≤4):zmM 198 g s n [{ s with p:={ s.p with rights:=zbg .i64 s.p.rights (2 ^ n.toNat)}}]:=by
 refine pF Tryz.func198 ?_
 have hpn:=zkz h0 h4
 refine J0 ?_
 exact frX
end
end Go.Av
end
section
open Go Go.Proofs
namespace Go.Av
theorem zzH (g:zab) (hg:GOk g) (s:StD) (hs:zfN g s) (x:Int×Int) (hx:zeP g.next.length g.kinds.length g.rights x):
  zaD Tryz.prog 171 [.agg (zac g), .agg (zaw s), .agg (zbw x)] (zbX (zbS g s x)):=by
 refine pF Tryz.func171 ?_
 have r4:=hg.r4
 obtain ⟨op,n⟩:=x
 obtain ⟨xo,xd,xz,xk,xr⟩:=hx
 simp only at xo xd xz xk xr
 rcases (show op=1∨op=2∨op=3∨op=4∨op=5∨op=6∨op=7∨op=8∨op=9∨op=10 by omega) with rfl|rfl|rfl|rfl|rfl|rfl|rfl|rfl|rfl|rfl
 ·have hS:=zzW g s n hg
  refine J0 ?_
  refine dP hS ?_
  refine J0 ?_
  exact LeV.of_eq aS
 ·have hS:=zwB g s n hg hs
  refine J0 ?_
  refine dP hS ?_
  refine J0 ?_
  exact LeV.of_eq aS
 ·have hS:=zvD g s n hg hs
  refine J0 ?_
  refine dP hS ?_
  refine J0 ?_
  exact LeV.of_eq aS
 ·have hS:=zvG g s n hg hs
  refine J0 ?_
  refine dP hS ?_
  refine J0 ?_
  exact LeV.of_eq aS
 ·have hS:=zsO g s n hg hs
  refine J0 ?_
  refine dP hS ?_
  refine J0 ?_
  exact LeV.of_eq aS
 ·have hS:=zzJ g s n hg hs
  refine J0 ?_
  refine dP hS ?_
  refine J0 ?_
  exact LeV.of_eq aS
 ·have hS:=zzs g s n hg hs
  refine J0 ?_
  refine dP hS ?_
  refine J0 ?_
  exact LeV.of_eq aS
 ·have hS:=zsp g s n
  refine J0 ?_
  refine dP hS ?_
  refine J0 ?_
  exact LeV.of_eq aS
 ·have hn:=xr aa
  have hS:=zy9 g s n hn.1 aa
  refine J0 ?_
  refine dP hS ?_
  refine J0 ?_
  exact LeV.of_eq aS
 ·have hn:=xr aa
  have hS:=zy0 g s n hn.1 aa
  refine J0 ?_
  refine dP hS ?_
  refine J0 ?_
  exact LeV.of_eq aS
end Go.Av
end
section
namespace Go.Av
open Go
theorem zah.clear {P:Program}{f:FuncId}{args:List AV}{h:zaq}{n:Nat}{K:zcn}
  (hc:zah P f args h n (fun r h' n'=>∃o mt g sz rs,sz≠2∧h' o=some (.rows mt g sz rs)∧K r (upd h' o (some (.rows mt g sz []))) n')):zah P f args h n K:=by
 refine ⟨hc.1,fun M0 φ w vs hH hargs=>(hc.2 M0 φ w vs hH hargs).mono ?_⟩
 rintro e w' ⟨v,φ',r,h',n',rfl,⟨o,mt,g,sz,rs,hsz,ho,hK⟩,hH',hx,st⟩
 have hmut:Mut φ' (upd h' o (some (.rows mt g sz [])))=Mut φ' h':=by
  funext k
  refine propext ⟨?_, ?_⟩
  ·rintro ⟨o1,g1,sz1,rs1,g',a,bs,h1,h2,h3⟩
   by_cases he:o1=o
   ·subst he
    rw [zax] at h1
    simp only [Option.some.injEq,zbp.rows.injEq] at h1
    obtain ⟨rfl,rfl,rfl, _⟩:=h1
    exact ⟨o1,g,sz,rs,g',a,bs,ho,h2,h3⟩
   ·rw [zbs _ _ he] at h1
    exact ⟨o1,g1,sz1,rs1,g',a,bs,h1,h2,h3⟩
  ·rintro ⟨o1,g1,sz1,rs1,g',a,bs,h1,h2,h3⟩
   by_cases he:o1=o
   ·subst he
    rw [ho] at h1
    simp only [Option.some.injEq,zbp.rows.injEq] at h1
    obtain ⟨rfl,rfl,rfl, _⟩:=h1
    exact ⟨o1,g,sz, [],g',a,bs,by rw [zax],h2,h3⟩
   ·exact ⟨o1,g1,sz1,rs1,g',a,bs,by rw [zbs _ _ he];exact h1,h2,h3⟩
 have hold:∀o1 mt1 g1 sz1 rs1,upd h' o (some (.rows mt g sz [])) o1=some (.rows mt1 g1 sz1 rs1)→∃rs2,h' o1=some (.rows mt1 g1 sz1 rs2)∧(rs1=rs2∨rs1= []):=by
  intro o1 mt1 g1 sz1 rs1 h1
  by_cases he:o1=o
  ·subst he
   rw [zax] at h1
   simp only [Option.some.injEq,zbp.rows.injEq] at h1
   obtain ⟨rfl,rfl,rfl,rfl⟩:=h1
   exact ⟨rs,ho, .inr rfl⟩
  ·rw [zbs _ _ he] at h1
   exact ⟨rs1,h1, .inl rfl⟩
 refine ⟨v,φ',r, _,n',rfl,hK,⟨hH'.m0,hH'.fresh,fun o1 mt1 g1 sz1 rs1 h1=> ?_,fun o1 o2 mt1 g1 sz1 rs1 mt2 g2 sz2 rs2 a a' b b' h1 h2=> ?_,by rw [hmut];exact hH'.glob⟩,by rw [hmut];exact hx,st.le,by rw [hmut];exact st.or,st.fr,by rw [hmut];exact st.mutd⟩
 ·obtain ⟨rs2,h2,h3⟩:=hold _ _ _ _ _ h1
  obtain ⟨A,hA,hobj⟩:=hH'.obj _ _ _ _ _ h2
  rcases h3 with rfl|rfl
  ·rw [hmut];exact ⟨A,hA,hobj⟩
  ·by_cases he:o1=o
   ·subst he
    rw [ho] at h2
    simp only [Option.some.injEq,zbp.rows.injEq] at h2
    obtain ⟨rfl,rfl,rfl,rfl⟩:=h2
    refine ⟨A,hA,hobj.imp (fun h=>⟨h.1,rfl⟩) ?_⟩
    rintro ⟨a,bs,e1,e3,⟨C,T,e2,e4,e5,e6,e7,e8,e9⟩|⟨es,clk,e2,e4,e5,e6,e9⟩⟩
    ·exact ⟨a,bs,e1,e3, .inl ⟨C,T,e2,e4,e5,ad,ak,ad,by simpa using zaJ.nil⟩⟩
    ·exact absurd e6.1 hsz
   ·rw [zbs _ _ he] at h1
    rw [h1] at h2
    simp only [Option.some.injEq,zbp.rows.injEq] at h2
    obtain ⟨_, _, _,rfl⟩:=h2
    rw [hmut];exact ⟨A,hA,hobj⟩
 ·obtain ⟨rs3,h3, _⟩:=hold _ _ _ _ _ h1
  obtain ⟨rs4,h4, _⟩:=hold _ _ _ _ _ h2
  exact hH'.inj _ _ _ _ _ _ _ _ _ _ _ _ _ _ h3 h4
end Go.Av
end
section
open Go Go.Proofs
namespace Go.Av
theorem zuT (m:Int) (h0:0≤m) (h1:m≤17179869184):zhb Tryz.prog 98 [AV.nils, .int m] (fun n=> .sl n 0 1 0 0) (fun n=> [(n, .rows true 0 1 [])]) 1:=by
 refine ⟨?_,fun n=>⟨ae,ae⟩⟩
 by_cases hm:m=0
 ·subst hm
  refine aF Tryz.func98 ?_
  refine J0 ?_
  simp [go_sem,zad]
 ·refine zah.clear ?_
  refine aF Tryz.func98 ?_
  refine J0 ?_
  refine FxF ?_
  refine J0 ?_
  refine FxT ?_
  refine J0 ?_
  refine ⟨0,0,1,am,⟨rfl,rfl,rfl⟩, ?_⟩
  simp [go_sem,zad]
theorem zpA (a b c d:List Int) (ha:a.length≤1000) (hb:b.length≤1000) (hc:c.length≤1000) (hd:d.length≤1000):zaD Tryz.prog 51 [.lst 1 [[zai a], [zai b], [zai c], [zai d]]] (zai (a++b++c++d)):=by
 refine pF Tryz.func51 ?_
 refine J0 ?_
 refine zEq ?_
 refine J0 ?_
 refine FxF ?_
 refine J0 ?_
 refine zEq ?_
 refine J0 ?_
 refine FxF ?_
 refine J0 ?_
 refine zEq ?_
 refine J0 ?_
 refine FxF ?_
 refine J0 ?_
 refine zEq ?_
 refine J0 ?_
 refine FxF ?_
 refine J0 ?_
 refine zEq ?_
 refine J0 ?_
 refine zEu (zuT _ aa aa) ae ?_
 refine J0 ?_
 refine zEq ?_
 refine J0 ?_
 refine zEq ?_
 refine J0 ?_
 refine zEq ?_
 refine J0 ?_
 refine zEq ?_
 refine J0 ?_
 refine zEq ?_
 refine J0 ?_
 exact frX

theorem zpY:∀l:List Int,zeD (l.map zqd)=some l
 | []=>rfl
 |n::l=>by rw [List.map_cons,zqd,zeD,zpY l];rfl
def zpw (p:zaf):List Int:=p.at_++p.h0++p.h1++ [p.rights,p.side]
def zgU (p:zaf):ByteArray:=zfc (zpw p)
theorem ztI (p:zaf) (ha:p.at_.length≤100) (hb:p.h0.length≤100) (hc:p.h1.length≤100) (hv:∀x ∈ zpw p,0≤x∧x≤255):zaD Tryz.prog 24 [.agg (zae p)] (.v (.string (zgU p))):=by
 refine pF Tryz.func24 ?_
 have hC:zaD Tryz.prog 51 [.lst 1 [[.lst 1 (p.at_.map zaB)], [.lst 1 (p.h0.map zaB)], [.lst 1 (p.h1.map zaB)], [.lst 1 [[.int p.rights], [.int p.side]]]]] (zai (p.at_++p.h0++p.h1++ [p.rights,p.side])):=
  zpA p.at_ p.h0 p.h1 [p.rights,p.side] aa aa aa ad
 have hll:(zpw p).length≤302:=by simp [zpw];omega
 unfold zgU
 rw [show p.at_++p.h0++p.h1++ [p.rights,p.side]=zpw p from rfl] at hC
 generalize zpw p=l at *
 refine J0 ?_
 refine zEv [1,2] hC ?_ ae ?_
 ·(first|done|exact leX)
 refine J0 ?_
 refine zEp (zEs (α:=Nat) (fun i=>⟨[(3, .sl 3 i 1 0 i),(20,zai l),(21, .int l.length),(22, .int i)], [(3, .rows true i 1 ((l.take i).map zqd))],4⟩)
  (fun d i=>i+d=l.length) ?_ l.length 0 ?_) ?_ ?_
 ·rintro d i i1 hrec
  refine J0 ?_
  refine zEr (fun hi=> ?_) (fun hi=> ?_)<;>simp at hi
  ·have hx:=hv _ (zag hi)
   have hem:(nth l i).emod 256=nth l i:=Int.emod_eq_of_lt hx.1 aa
   have hem2:nth l i % 256=nth l i:=hem
   refine J3 hi hem hem2 ?_
   refine zEp (hrec (d - 1) aa (i+1) aa) ?_ ad
   rw [List.take_add_one,List.getElem?_eq_getElem hi,← zap _ _ hi]
   simp [go_sem,zad,zqd,hem,hem2]
   intro x hx c hc
   obtain ⟨y, _,rfl⟩:=List.mem_map.1 (List.mem_of_mem_take hx)
   simp only [zqd,List.mem_singleton] at hc
   subst hc
   exact .v _
  ·have hb:zeD (List.take i (List.map zqd l))=some l:=by rw [List.take_of_length_le ak];exact zpY l
   have hb2:zeD (List.take i (List.take i (List.map zqd l)))=some l:=by rw [List.take_take,Nat.min_self];exact hb
   exact K2 hb hb2
 ·omega
 ·simp [go_sem,zad]
 ·simp
def zlb (n:Int):ByteArray:=zfc [48+n]
theorem zto (n:Int) (h0:0≤n) (h1:n<10):zaD Tryz.prog 240 [.int n] (.v (.string (zlb n))):=by
 refine pF Tryz.func240 ?_
 rcases (show n=0∨n=1∨n=2∨n=3∨n=4∨n=5∨n=6∨n=7∨n=8∨n=9 by omega) with rfl|rfl|rfl|rfl|rfl|rfl|rfl|rfl|rfl|rfl<;>((repeat (first|refine wV fun _=>?_|simp [go_sem])))<;>exact LeV.of_eq ai
theorem zrl (n:Int) (h0:0≤n) (h1:n<10):zaD Tryz.prog 235 [.int n, .int 10] (.v (.string (zlb n))):=by
 refine pF Tryz.func235 ?_
 have hS:=zto n h0 h1
 have h1':n<100:=aa
 refine J2 h0 h1' ?_
 refine aP hS ?_
 exact K0
theorem zwz (n:Int) (h0:0≤n) (h1:n<10):zaD Tryz.prog 221 [.int n] (.v (.string (zlb n))):=by
 refine pF Tryz.func221 ?_
 have hS:=zrl n h0 h1
 refine J0 ?_
 refine aP hS ?_
 exact K0
theorem zpE (n:Int) (h0:0≤n) (h1:n<10):zaD Tryz.prog 199 [.int n] (.v (.string (zlb n))):=by
 refine pF Tryz.func199 ?_
 have hS:=zwz n h0 h1
 refine J0 ?_
 refine aP hS ?_
 exact K0
theorem zwy (b:Bool):zaD Tryz.prog 222 [.v (.bool b)] (.v (.string (if b then zfc [116,114,117,101] else zfc [102,97,108,115,101]))):=by
 refine pF Tryz.func222 ?_
 cases b
 ·refine J0 ?_
  exact LeV.of_eq ai
 ·refine J0 ?_
  exact LeV.of_eq ai
theorem zw4 (b:Bool):zaD Tryz.prog 200 [.v (.bool b)] (.v (.string (if b then zfc [116,114,117,101] else zfc [102,97,108,115,101]))):=by
 refine pF Tryz.func200 ?_
 have hS:=zwy b
 refine J0 ?_
 refine aP hS ?_
 exact K0
theorem zjY:∀ (l:List Int) (r:ByteArray),(l.foldl (fun r n=>r.push (UInt8.ofNat n.toNat)) r).data.toList=r.data.toList++l.map fun n=>UInt8.ofNat n.toNat
 | [],r=>ad
 |n::l,r=>by
  rw [List.foldl_cons,zjY l]
  simp [ByteArray.push]
theorem zgr (l:List Int):(zfc l).data.toList=l.map fun n=>UInt8.ofNat n.toNat:=by
 unfold zfc;rw [zjY];rfl
theorem zgS (l:List Int):(zfc l).size=l.length:=by
 rw [← ByteArray.size_data,← Array.length_toList,zgr,List.length_map]
def zkb (s:StD):ByteArray:=zlb s.kind++zfc [32]++zlb s.cursor++zfc [32]++(if s.took then zfc [116,114,117,101] else zfc [102,97,108,115,101])++zfc [32]++zgU s.p
theorem zBu (s:StD) (hk:0≤s.kind∧s.kind<10) (hc:0≤s.cursor∧s.cursor<10) (h1:s.p.at_.length≤100) (h2:s.p.h0.length≤100) (h3:s.p.h1.length≤100) (hv:∀x ∈ zpw s.p,0≤x∧x≤255):
  zaD Tryz.prog 172 [.agg (zaw s)] (.v (.string (zkb s))):=by
 refine pF Tryz.func172 ?_
 have hK:=zpE s.kind hk.1 hk.2
 have hC:=zpE s.cursor hc.1 hc.2
 have hB:=zw4 s.took
 have hP:=ztI s.p h1 h2 h3 hv
 have hdk:(zlb s.kind).size=1:=zgS _
 have hdc:(zlb s.cursor).size=1:=zgS _
 have hdb:(if s.took then zfc [116,114,117,101] else zfc [102,97,108,115,101]).size≤5:=by split<;>simp [zgS]
 have hdp:(zgU s.p).size≤302:=by unfold zgU;rw [zgS];simp [zpw];omega
 have h32:(ByteArray.mk ⟨[32]⟩).size=1:=rfl
 unfold zkb
 rw [show zfc [32]=ByteArray.mk ⟨[32]⟩ from rfl]
 generalize zlb s.kind=dk at *
 generalize zlb s.cursor=dc at *
 generalize (if s.took then zfc [116,114,117,101] else zfc [102,97,108,115,101])=db at *
 generalize zgU s.p=dp at *
 generalize ByteArray.mk ⟨[32]⟩=sp at *
 refine J0 ?_
 refine dP hK ?_
 refine J0 ?_
 refine dP hC ?_
 refine J0 ?_
 refine dP hB ?_
 refine J0 ?_
 refine dP hP ?_
 exact K0
def zbT (g:zab) (p:zaf) (cell:Int) (prog:List (Int×Int)) (n:Nat):List StD:=(prog.take n).foldl (zht g) [zfb p cell]
theorem zhA (g:zab) (p:zaf) (cell:Int) (prog:List (Int×Int)):zbT g p cell prog 0= [zfb p cell]:=rfl
theorem zhz (g:zab) (p:zaf) (cell:Int) (prog:List (Int×Int)){n:Nat} (h:n<prog.length):zbT g p cell prog (n+1)=zht g (zbT g p cell prog n) (nth prog n):=by
 unfold zbT
 rw [List.take_add_one,List.getElem?_eq_getElem h,zap _ _ h,Option.toList_some,List.foldl_append];rfl
theorem zhy (g:zab) (p:zaf) (cell:Int) (prog:List (Int×Int)):zbT g p cell prog prog.length=zeJ g p cell prog:=by
 unfold zbT zeJ;rw [List.take_length]
def zdf (g:zab) (now:List StD) (x:Int×Int) (n:Nat):List StD:=(now.take n).foldl (fun next s=>zeN next (zbS g s x)) []
theorem zn4 (g:zab) (now:List StD) (x:Int×Int):zdf g now x 0= []:=rfl
theorem zjc (g:zab) (now:List StD) (x:Int×Int){n:Nat} (h:n<now.length):zdf g now x (n+1)=zeN (zdf g now x n) (zbS g (nth now n) x):=by
 unfold zdf
 rw [List.take_add_one,List.getElem?_eq_getElem h,zap _ _ h,Option.toList_some,List.foldl_append];rfl
theorem zl6 (g:zab) (now:List StD) (x:Int×Int):zdf g now x now.length=zht g now x:=by
 unfold zdf zht;rw [List.take_length]
theorem zpj {g:zab} (hg:GOk g){now:List StD}{x:Int×Int} (hx:zeP g.next.length g.kinds.length g.rights x){side:Int} (hn:∀s ∈ now,zfN g s∧s.p.side=side):
  ∀n,n≤now.length→(∀s ∈ zdf g now x n,zfN g s∧s.p.side=side)∧(zdf g now x n).length≤10 * n:=by
 intro n
 induction n with
 |zero=>intro _;simp [zdf]
 |succ n ih=>
  intro h
  obtain ⟨h1,h2⟩:=ih aa
  have hs:=hn _ (zag (show n<now.length by omega))
  rw [zjc g now x aa]
  refine ⟨zki h1 (fun s hs'=> ?_), ?_⟩
  ·obtain ⟨k1,k2⟩:=ziw hg hs.1 hx s hs'
   exact ⟨k1,k2.trans hs.2⟩
  ·have k1:=(zhG (zbS g (nth now n) x) (zdf g now x n)).2
   have k2:=zmx hg (nth now n) x
   omega
theorem zmu {g:zab} (hg:GOk g){p:zaf} (hp:POk g p){cell:Int} (h0:0≤cell) (h1:cell<g.cells) (hm:0≤(zan (nth p.at_ cell.toNat)).1):zfN g (zfb p cell)∧(zfb p cell).p.side=p.side:=by
 have hat:=hp.at (i:=cell.toNat) aa
 have hk:=zaO hat.1 hat.2 hg.k6
 refine ⟨⟨hp.clr _,h0,h1, ?_⟩,rfl⟩
 simp only [zfb]
 rcases hk with ⟨_,e⟩|⟨_,a,b, _⟩
 ·rw [e] at hm;simp at hm
 ·exact ⟨a,b⟩
theorem ziv {g:zab} (hg:GOk g){p:zaf} (hp:POk g p){cell:Int} (h0:0≤cell) (h1:cell<g.cells) (hm:0≤(zan (nth p.at_ cell.toNat)).1)
  {prog:List (Int×Int)} (hpr:∀x ∈ prog,zeP g.next.length g.kinds.length g.rights x):
  ∀n,n≤prog.length→(∀s ∈ zbT g p cell prog n,zfN g s∧s.p.side=p.side)∧(zbT g p cell prog n).length≤10 ^ n:=by
 intro n
 induction n with
 |zero=>intro _;rw [zhA];exact ⟨fun s hs=>by simp at hs;subst hs;exact zmu hg hp h0 h1 hm,ad⟩
 |succ n ih=>
  intro h
  obtain ⟨k1,k2⟩:=ih aa
  rw [zhz g p cell prog aa,← zl6]
  obtain ⟨j1,j2⟩:=zpj hg (hpr _ (zag (show n<prog.length by omega))) k1 _ (Nat.le_refl _)
  refine ⟨j1, ?_⟩
  rw [Nat.pow_succ]
  omega
theorem zky {n:Nat} (h:n≤8):10 ^ n≤100000000:=by
 have:=Nat.pow_le_pow_right (n:=10) aa h
 exact this
def stR (g:zab) (p:zaf) (cell:Int) (prog:List (Int×Int)) (n:Nat):List (List AV):=(List.range n).map fun j=> [zbX (zbT g p cell prog j)]
theorem zB5 (g:zab) (p:zaf) (cell:Int) (prog:List (Int×Int)) (n:Nat):stR g p cell prog (n+1)=stR g p cell prog n++ [[zbX (zbT g p cell prog n)]]:=by simp [stR,List.range_succ]
@[go_sem] theorem ztu (g:zab) (p:zaf) (cell:Int) (prog:List (Int×Int)) (n:Nat):(stR g p cell prog n).length=n:=by simp [stR]
@[go_sem ↓] theorem bel_stR {m:Nat}{g:zab}{p:zaf}{cell:Int}{prog:List (Int×Int)}{n:Nat}:(∀r ∈ stR g p cell prog n,∀c ∈ r,Bel m c)=True:=by
 refine eq_true fun r hr c hc=> ?_
 obtain ⟨j, _,rfl⟩:=List.mem_map.1 hr
 simp only [List.mem_cons,List.not_mem_nil,or_false] at hc
 subst hc
 exact of_eq_true zss
theorem zDV (g:zab) (p:zaf) (cell:Int) (prog:List (Int×Int)){n j:Nat} (h:j<n):nth (stR g p cell prog n) j= [zbX (zbT g p cell prog j)]:=by
 unfold stR;rw [za9 _ _ _ aK];simp [nth,h]
theorem zxH {n:Nat} (l:List StD):Bel n (zbX l):=of_eq_true zss
structure zcj (g:zab) (p:zaf) (cell i:Int):Prop where
 c0:0≤cell
 c1:cell<g.cells
 man:0≤(zan (nth p.at_ cell.toNat)).1
 side:(zan (nth p.at_ cell.toNat)).2=p.side
 i0:0≤i
 i1:i<(nth g.kinds (zan (nth p.at_ cell.toNat)).1.toNat).progs.length
def zfx (side:Int) (x:Int×Int) (s:StD) (l:List zcq):List zcq:=if x.1=0 then l++(zgX side s).toList else l
def zBG (p:zaf) (l:List zcq):List (Nat×zbp):= [(0, .rows true 0 5 [zae p]),(1, .rows true 0 1 [[.sl 2 l.length 6 0 l.length]]),(2, .rows true l.length 6 (l.map zaS))]
theorem zyX (g:zab) (hg:GOk g) (p:zaf) (hp:POk g p) (s:StD) (hs:zfN g s) (hsd:s.p.side=p.side) (x:Int×Int) (l:List zcq) (hl:l.length≤100000000):
  zeC Tryz.prog 136 [.agg (zaw s), .agg (zbw x), .ref 0 0 5 0 0, .ref 1 0 1 0 0] (zBG p l) 3 (.tup []) (zBG p (zfx p.side x s l)) 3:=by
 unfold zeC zBG
 refine aF Tryz.func136 ?_
 obtain ⟨hcur,h0,hm, _⟩:=zq0 g s hg hs
 have hcp:=zik s (hs.p.fits hg)
 have hC:=za5 s.kind p.side
 have hps:=hp.s
 obtain ⟨op,xn⟩:=x
 refine J1 hcur ?_
 refine zEr (fun hc=> ?_) (fun hc=> ?_)<;>simp at hc
 ·have e:zfx p.side (op,xn) s l=l:=by
   unfold zfx zgX
   by_cases h:op=0
   ·rw [if_pos h,if_neg (hc.resolve_left fun hn=>hn h)];simp
   ·rw [if_neg h]
  rw [e]
  refine J0 ?_
  simp [go_sem,zad]
 ·have e:zfx p.side (op,xn) s l=l++ [⟨{ s.p with at_:=s.p.at_.set s.cursor.toNat (zal s.kind p.side),side:=1 - p.side},s.took⟩]:=by
   unfold zfx zgX
   rw [if_pos hc.1,if_pos hc.2];rfl
  rw [e]
  generalize zal s.kind p.side=code at *
  refine J1 hcur ?_
  refine zEu hcp ae ?_
  refine J1 hcur ?_
  refine dP hC ?_
  refine J1 hcur ?_
  simp [go_sem,zad]
  (first|done|exact rwX)
theorem zcT {n:Nat} (l:List zcq):∀r ∈ l.map zaS,∀c ∈ r,Bel n c:=by
 intro r hr c hc
 obtain ⟨x, _,rfl⟩:=List.mem_map.1 hr
 revert c
 simp [go_sem]
def zqV (h:zaq) (a b c:Nat) (p:zaf) (l:List zcq):zaq:=upd (upd (upd h a (some (.rows true 0 5 [zae p]))) b (some (.rows true 0 1 [[.sl c l.length 6 0 l.length]]))) c (some (.rows true l.length 6 (l.map zaS)))
theorem zqW (g:zab) (hg:GOk g) (p:zaf) (hp:POk g p) (s:StD) (hs:zfN g s) (hsd:s.p.side=p.side) (x:Int×Int) (l:List zcq) (hl:l.length≤100000000){h:zaq}{n a b c:Nat}
  (hd: [a,b,c].Nodup) (hlt:∀j ∈ [a,b,c],j<n) (ha:h a=some (.rows true 0 5 [zae p])) (hb:h b=some (.rows true 0 1 [[.sl c l.length 6 0 l.length]])) (hc:h c=some (.rows true l.length 6 (l.map zaS))) {K:zcn}
  (hK:K (.tup []) (zqV h a b c p (zfx p.side x s l)) n):
  zah Tryz.prog 136 [.agg (zaw s), .agg (zbw x), .ref a 0 5 0 0, .ref b 0 1 0 0] h n K:=by
 have hbs:∀m,Bel m (.agg (zaw s)):=fun m=>ae
 have hbx:∀m,Bel m (.agg (zbw x)):=fun m=>ae
 have hbp:∀m,∀c ∈ zae p,Bel m c:=fun m=>ae
 refine zEE (args':= [.agg (zaw s), .agg (zbw x), .ref a 0 5 0 0, .ref b 0 1 0 0])
  (HH:= [(a, .rows true 0 5 [zae p]),(b, .rows true 0 1 [[.sl c (zfx p.side x s l).length 6 0 (zfx p.side x s l).length]]),(c, .rows true (zfx p.side x s l).length 6 ((zfx p.side x s l).map zaS))])
  [a,b,c] h (zyX g hg p hp s hs hsd x l hl) hd hlt rfl (Nat.le_refl _) (.refl _) ?_ ?_ (.refl _ _ _ _) ?_ ?_ ?_ (.same ?_) ?_ ?_
 ·intro j hj
  rcases (show j=0∨j=1∨j=2 by omega) with rfl|rfl|rfl
  ·exact ⟨_, _,rfl,ha, .rows (.same bd)⟩
  ·exact ⟨_, _,rfl,hb, .rows (.cons (.cons (.sl rfl) .nil) .nil)⟩
  ·exact ⟨_, _,rfl,hc, .rows (.same (zcT _))⟩
 ·intro q hq
  simp only [zBG,List.mem_cons,List.not_mem_nil,or_false] at hq
  rcases hq with rfl|rfl|rfl
  ·exact ⟨Nat.le_of_ble_eq_true rfl,bd⟩
  ·exact ⟨Nat.le_of_ble_eq_true rfl,by simp [go_sem,zCe]⟩
  ·exact ⟨Nat.le_of_ble_eq_true rfl,zcT _⟩
 ·intro y hy
  simp only [List.mem_cons,List.not_mem_nil,or_false] at hy
  rcases hy with rfl|rfl|rfl|rfl
  ·exact hbs _
  ·exact hbx _
  ·exact .ref (hlt a ad)
  ·exact .ref (hlt b ad)
 ·exact .cons (.same (hbs _)) (.cons (.same (hbx _)) (.cons (.ref rfl) (.cons (.ref rfl) .nil)))
 ·intro y hy
  simp only [List.mem_cons,List.not_mem_nil,or_false] at hy
  rcases hy with rfl|rfl|rfl|rfl
  ·exact hbs _
  ·exact hbx _
  ·exact .ref am
  ·exact .ref am
 ·exact .tup ad
 ·exact .cons rfl (.rows (.same bd)) (.cons rfl (.rows (.cons (.cons (.sl rfl) .nil) .nil)) (.cons rfl (.rows (.same (zcT _))) .nil))
 ·have e:zel [(a, .rows true 0 5 [zae p]),(b, .rows true 0 1 [[.sl c (zfx p.side x s l).length 6 0 (zfx p.side x s l).length]]),(c, .rows true (zfx p.side x s l).length 6 ((zfx p.side x s l).map zaS))] (zmI [a,b,c] h)=zqV h a b c p (zfx p.side x s l):=by
   simp only [List.nodup_cons,List.mem_cons,List.not_mem_nil,or_false,not_or,List.nodup_nil,and_true,not_false_eq_true] at hd
   obtain ⟨⟨d1,d2⟩,d3⟩:=hd
   funext j
   simp only [zel,zmI,zqV,upd]
   by_cases j1:j=a
   ·subst j1;simp [d1,d2]
   ·by_cases j2:j=b
    ·subst j2;simp [d3,j1]
    ·by_cases j3:j=c
     ·subst j3;simp [j1,j2]
     ·simp [j1,j2,j3]
  rw [e]
  exact hK
def zDI (s:StD):List Int:= [48+s.kind,32,48+s.cursor,32]++((if s.took then [116,114,117,101] else [102,97,108,115,101])++([32]++zpw s.p))
theorem zlA (s:StD):(zkb s).data.toList=(zDI s).map fun n=>UInt8.ofNat n.toNat:=by
 unfold zkb zlb zgU zDI
 cases s.took<;>simp [ByteArray.data_append,zgr]
theorem u8_inj {x y:Int} (hx:0≤x∧x≤255) (hy:0≤y∧y≤255) (h:UInt8.ofNat x.toNat=UInt8.ofNat y.toNat):x=y:=by
 have h1:=congrArg UInt8.toNat h
 rw [UInt8.toNat_ofNat',UInt8.toNat_ofNat'] at h1
 omega
theorem zi7:∀ {l l':List Int},(∀x ∈ l,0≤x∧x≤255)→(∀x ∈ l',0≤x∧x≤255)→(l.map fun n=>UInt8.ofNat n.toNat)=(l'.map fun n=>UInt8.ofNat n.toNat)→l=l'
 | [], [], _, _, _=>rfl
 | [], _:: _, _, _,h=>by simp at h
 | _:: _, [], _, _,h=>by simp at h
 |x::l,y::l',h1,h2,h=>by
  simp only [List.map_cons,List.cons.injEq] at h
  rw [u8_inj (h1 x ad) (h2 y ad) h.1,zi7 (fun z hz=>h1 z cU) (fun z hz=>h2 z cU) h.2]
theorem zkP {g:zab} (hg:GOk g){p:zaf} (hp:POk g p):∀x ∈ zpw p,0≤x∧x≤255:=by
 have k6:=hg.k6
 have r0:=hp.r0
 have r1:=hp.r1
 have hr:(2:Int) ^ g.rights.toNat≤16:=by
  have h1:=hg.r0
  have h2:=hg.r4
  rcases (show g.rights=0∨g.rights=1∨g.rights=2∨g.rights=3∨g.rights=4 by omega) with h|h|h|h|h<;>rw [h]<;>decide
 have hh:∀l,zfI g l→∀x ∈ l,0≤x∧x≤255:=by
  intro l hl x hx
  obtain ⟨i,hi,rfl⟩:=List.mem_iff_getElem.1 hx
  have:=hl.v i hi
  rw [zap _ _ hi] at this
  omega
 intro x hx
 simp only [zpw,List.mem_append,List.mem_cons,List.not_mem_nil,or_false] at hx
 rcases hx with ((hx|hx)|hx)|hx|hx
 ·have:=hp.av x hx;omega
 ·exact hh _ hp.h0 x hx
 ·exact hh _ hp.h1 x hx
 ·omega
 ·have:=hp.s;omega
theorem zBt {g:zab} (hg:GOk g){a b:StD} (ha:zfN g a) (hb:zfN g b) (h:zkb a=zkb b):a=b:=by
 have k6:=hg.k6
 have c9:=hg.c9
 have hv:∀s,zfN g s→∀x ∈ zDI s,0≤x∧x≤255:=by
  intro s hs x hx
  have hk:=hs.k
  have h0:=hs.c0
  have h1:=hs.c1
  unfold zDI at hx
  rcases List.mem_append.1 hx with hx|hx
  ·simp at hx;omega
  rcases List.mem_append.1 hx with hx|hx
  ·by_cases ht:s.took=true<;>simp [ht] at hx<;>omega
  rcases List.mem_append.1 hx with hx|hx
  ·simp at hx;omega
  ·exact zkP hg hs.p x hx
 have h1:zDI a=zDI b:=zi7 (hv a ha) (hv b hb) (by rw [← zlA,← zlA,h])
 obtain ⟨pa,ka,ca,ta⟩:=a
 obtain ⟨pb,kb,cb,tb⟩:=b
 unfold zDI at h1
 simp only [List.cons_append,List.nil_append,List.cons.injEq,true_and] at h1
 obtain ⟨e1,e2,h1⟩:=h1
 obtain rfl:ka=kb:=aa
 obtain rfl:ca=cb:=aa
 have h2:ta=tb∧zpw pa=zpw pb:=by
  cases ta<;>cases tb<;>simp at h1 ⊢
  ·exact h1
  ·exact h1
 obtain ⟨rfl,h2⟩:=h2
 have a1:=ha.p.al
 have b1:=hb.p.al
 have a2:=ha.p.h0.len
 have b2:=hb.p.h0.len
 have a3:=ha.p.h1.len
 have b3:=hb.p.h1.len
 obtain ⟨pat,ph0,ph1,pr,ps⟩:=pa
 obtain ⟨qat,qh0,qh1,qr,qs⟩:=pb
 simp only [zpw,List.append_assoc] at h2 a1 b1 a2 b2 a3 b3
 obtain ⟨e3,h3⟩:=List.append_inj h2 aa
 obtain ⟨e4,h4⟩:=List.append_inj h3 aa
 obtain ⟨e5,h5⟩:=List.append_inj h4 aa
 simp only [List.cons.injEq,and_true] at h5
 rw [e3,e4,e5,h5.1,h5.2]
def zfJ (s:StD):List AV:= [.v (.string (zkb s)), .v (.bool true)]
theorem zAO {n:Nat}{l:List StD}:(∀r ∈ l.map zfJ,∀c ∈ r,Bel n c)=True:=by
 refine eq_true ?_
 intro r hr c hc
 obtain ⟨x, _,rfl⟩:=List.mem_map.1 hr
 simp only [zfJ,List.mem_cons,List.not_mem_nil,or_false] at hc
 rcases hc with rfl|rfl<;>exact .v _
attribute [go_sem ↓] zAO
theorem zqt (t:StD):∀ (next:List StD),(∀s ∈ next,zkb t=zkb s→t=s)→zds .string (.v (.string (zkb t))) (next.map zfJ)=some (if t ∈ next then some (.v (.bool true)) else none)
 | [], _=>by simp [zds]
 |s::next,h=>by
  rw [List.map_cons,zds]
  have e:zo5 .string (.v (.string (zkb t))) (cel (zfJ s) 0)=some (zkb t==zkb s):=rfl
  rw [e,zhM]
  by_cases hk:zkb t=zkb s
  ·have:=h s ad hk
   subst this
   simp [zfJ,cel]
  ·have hne:t≠s:=fun e=>hk (by rw [e])
   rw [decide_eq_false hk]
   simp only
   rw [zqt t next (fun u hu=>h u (by simp [hu]))]
   simp [hne]
theorem zuA (t:StD):∀ (next:List StD),(∀s ∈ next,zkb t=zkb s→t=s)→t ∉ next→zeu .string (.v (.string (zkb t))) (.v (.bool true)) (next.map zfJ)=some ((next++ [t]).map zfJ)
 | [], _, _=>by simp [zeu,zfJ]
 |s::next,h,hn=>by
  rw [List.map_cons,zeu]
  have e:zo5 .string (.v (.string (zkb t))) (cel (zfJ s) 0)=some (zkb t==zkb s):=rfl
  rw [e,zhM]
  have hk:zkb t≠zkb s:=fun e=>hn (by rw [h s ad e];simp)
  rw [decide_eq_false hk]
  simp only
  rw [zuA t next (fun u hu=>h u (by simp [hu])) (fun hm=>hn (by simp [hm]))]
  simp
def zdO (g:zab) (p:zaf) (cell i:Int):List zcq:=(zeJ g p cell (za1 g p cell i)).filterMap (zgX p.side)
theorem zB1 (g:zab) (hg:GOk g) (p:zaf) (hp:POk g p) (cell i:Int) (hc:zcj g p cell i):
  zeC Tryz.prog 135 [.agg (zac g), .agg (zae p), .int cell, .int i, .fn (.func 136) [] [.ref 0 0 5 0 0, .ref 1 0 1 0 0]]
   [(0, .rows true 0 5 [zae p]),(1, .rows true 0 1 [[AV.nils]])] 2 (.int 0)
   [(0, .rows true 0 5 [zae p]),(1, .rows true 0 1 [[.sl 247 (zdO g p cell i).length 6 0 (zdO g p cell i).length]]),(247, .rows true (zdO g p cell i).length 6 ((zdO g p cell i).map zaS))] 248:=by
 unfold zeC
 refine aF Tryz.func135 ?_
 have hal:=hp.al
 obtain ⟨c0,c1,cm,cs,i0,i1⟩:=hc
 have hcur:cell.toNat<p.at_.length:=aa
 have hat:=hp.at (i:=cell.toNat) aa
 have hO:=zf9 (nth p.at_ cell.toNat)
 have hman:=zaO hat.1 hat.2 hg.k6
 have hV:=zm9 g cM ⟨hg.r0,by have:=hg.r4;omega⟩ p (hp.fits hg)
 rw [zpi.2 hp] at hV
 have hkl:(zan (nth p.at_ cell.toNat)).1.toNat<g.kinds.length:=by
  rcases hman with ⟨_,e⟩|⟨_,a,b, _⟩
  ·rw [e] at cm;simp at cm
  ·omega
 have hil:i.toNat<(nth g.kinds (zan (nth p.at_ cell.toNat)).1.toNat).progs.length:=aa
 have hpg:=hg.pr _ (zag hkl) _ (zag hil)
 have hst:=fun n hn=>ziv hg hp c0 c1 cm (prog:=za1 g p cell i) hpg.st n hn
 have hz:=zhA g p cell (za1 g p cell i)
 have hsu:=fun n hn=>zhz g p cell (za1 g p cell i) (n:=n) hn
 have hla:=zhy g p cell (za1 g p cell i)
 have hp8:=hpg.len
 have hpst:=hpg.st
 have hpe:za1 g p cell i=nth (nth g.kinds (zan (nth p.at_ cell.toNat)).1.toNat).progs i.toNat:=rfl
 rw [← hpe] at hp8 hpst
 have hlo:zdO g p cell i=(zeJ g p cell (za1 g p cell i)).filterMap (zgX p.side):=rfl
 rw [hlo]
 obtain ⟨prog,hprog⟩:∃q,q=za1 g p cell i:=⟨_,rfl⟩
 rw [← hprog] at hst hz hsu hp8 hpst hpe hla ⊢
 have hcp:=zik ⟨p,(zan (nth p.at_ cell.toNat)).1,cell,false⟩ (hp.fits hg)
 generalize hm:zan (nth p.at_ cell.toNat)=m at *
 obtain ⟨mk,ms⟩:=m
 simp only at cm cs i1 hkl hil hpe hcp
 refine J0 ?_
 refine aP hV ?_
 refine J1 hcur ?_
 refine FxF ?_
 refine J1 hcur ?_
 refine aP hO ?_
 refine J3 hkl hil cs ?_
 refine FxF ?_
 refine J0 ?_
 refine zEu hcp ae ?_
 refine J3 hcur hkl hil ?_
 rw [← hpe]
 have hsz:∀n,n≤prog.length→(zbT g p cell prog n).length≤100000000:=fun n hn=>Nat.le_trans (hst n hn).2 (zky aa)
 have hst0:zbX (zbT g p cell prog 0)= .lst 8 [[.lst 1 ((p.at_.map zaB).set cell.toNat [.int 0]),zai p.h0,zai p.h1, .int p.rights, .int p.side, .int mk, .int cell, .v (.bool false)]]:=by
  rw [hz];simp [zbX,zfb,zaw,clr,hm,zai,zaB,List.map_set]
 refine zEp (zEs (α:=Nat) (fun k=>⟨[(4, .fn (.func 136) [] [.ref 0 0 5 0 0, .ref 1 0 1 0 0]),(5, .ref 2 0 9 0 0),(14,zbX (zbT g p cell prog k)),(87,zaW prog),(88, .int prog.length),(89, .int k)],
   [(0, .rows true 0 5 [zae p]),(1, .rows true 0 1 [[.sl 247 0 6 0 0]]),(2, .rows true 0 9 [zac g]),(247, .rows true 0 6 [])],248⟩)
  (fun d k=>k+d=prog.length) ?_ prog.length 0 ?_) ?_ ?_
 ·rintro d k k1 hrec
  refine J0 ?_
  refine zEr (fun hk=> ?_) (fun hk=> ?_)<;>simp at hk
  ·have hkk:=hst k aa
   have hks:=hsz k aa
   have hks':=hsz (k+1) aa
   have hsk:=hsu k hk
   have hxs:=hpst _ (zag hk)
   have hpo:=fun n hn=>zpj hg hxs hkk.1 n hn
   have hpa:=zl6 g (zbT g p cell prog k) (nth prog k)
   have hpz:=zn4 g (zbT g p cell prog k) (nth prog k)
   have hps:=fun n hn=>zjc g (zbT g p cell prog k) (nth prog k) (n:=n) hn
   rw [← hsk] at hpa
   obtain ⟨now,hnow⟩:∃now,now=zbT g p cell prog k:=⟨_,rfl⟩
   rw [← hnow] at hkk hks hpo hpa hpz hps ⊢
   obtain ⟨x,hx⟩:∃x,x=nth prog k:=⟨_,rfl⟩
   rw [← hx] at hxs hpo hpa hpz hps
   repeat first|refine wV fun _=>?_|simp [go_sem,hk,← hx]
   refine zEp (zEs (α:=Nat) (fun n=>⟨[(4, .fn (.func 136) [] [.ref 0 0 5 0 0, .ref 1 0 1 0 0]),(5, .ref 2 0 9 0 0),(16, .ref 248 0 2 0 0),(17, .sl 250 (zdf g now x n).length 8 0 (zdf g now x n).length),(18, .mp 249),(87,zaW prog),(88, .int prog.length),(89, .int k),(94,zbX now),(95, .int now.length),(96, .int n)],
     [(0, .rows true 0 5 [zae p]),(1, .rows true 0 1 [[.sl 247 0 6 0 0]]),(2, .rows true 0 9 [zac g]),(247, .rows true 0 6 []),(248, .rows true 0 2 [zbw x]),(249, .rows true 0 2 ((zdf g now x n).map zfJ)),(250, .rows true (zdf g now x n).length 8 ((zdf g now x n).map zaw))],251⟩)
    (fun d n=>n+d=now.length) ?_ now.length 0 ?_) ?_ ?_
   ·rintro d2 n n1 hrec2
    refine J0 ?_
    refine zEr (fun hn=> ?_) (fun hn=> ?_)<;>simp at hn
    ·have hsn:=hkk.1 _ (zag hn)
     have hpn:=hps n hn
     have hpoN:=hpo n aa
     have hpoS:=hpo (n+1) aa
     have hSt:=zzH g hg (nth now n) hsn.1 x hxs
     have hsl:=zmx hg (nth now n) x
     have hso:=ziw hg hsn.1 hxs
     have hlk:zfx p.side x (nth now n) []= []:=by unfold zfx;rw [if_neg (by have:=hxs.1;omega)]
     obtain ⟨s,hs⟩:∃s,s=nth now n:=⟨_,rfl⟩
     rw [← hs] at hsn hpn hSt hsl hso hlk
     obtain ⟨more,hmore⟩:∃more,more=zbS g s x:=⟨_,rfl⟩
     rw [← hmore] at hpn hSt hsl hso
     have hat:=fun j hj=>zpP (zdf g now x n) more (i:=j) hj
     have hal':=fun j=>zhG (more.take j) (zdf g now x n)
     have haok:∀j,∀u ∈ zeN (zdf g now x n) (more.take j),zfN g u:=fun j=>zki (fun u hu=>(hpoN.1 u hu).1) (fun u hu=>(hso u (List.mem_of_mem_take hu)).1)
     have haz:zeN (zdf g now x n) (more.take 0)=zdf g now x n:=by simp [ztO]
     have haa:zeN (zdf g now x n) (more.take more.length)=zdf g now x (n+1):=by rw [List.take_length,hpn]
     obtain ⟨nx,hnx⟩:∃nx:Nat→List StD,nx=fun j=>zeN (zdf g now x n) (more.take j):=⟨_,rfl⟩
     have hnx':∀j,zeN (zdf g now x n) (more.take j)=nx j:=fun j=>by rw [hnx]
     simp only [hnx'] at hat hal' haok haz haa
     clear hnx hnx'
     repeat first|refine wV fun _=>?_|simp [go_sem,hn,← hs]
     refine zqW g hg p hp s hsn.1 hsn.2 x [] ad (a:=0) (b:=1) (c:=247) am ad (by simp [upd,zae,zai]) aR aR ?_
     rw [hlk]
     simp only [zqV]
     refine J0 ?_
     refine aP hSt ?_
     refine J0 ?_
     refine zEp (zEs (α:=Nat) (fun j=>⟨[(4, .fn (.func 136) [] [.ref 0 0 5 0 0, .ref 1 0 1 0 0]),(5, .ref 2 0 9 0 0),(16, .ref 248 0 2 0 0),(17, .sl 250 (nx j).length 8 0 (nx j).length),(18, .mp 249),(87,zaW prog),(88, .int prog.length),(89, .int k),(94,zbX now),(95, .int now.length),(96, .int n),(107,zbX more),(108, .int more.length),(109, .int j)],
       [(0, .rows true 0 5 [zae p]),(1, .rows true 0 1 [[.sl 247 0 6 0 0]]),(2, .rows true 0 9 [zac g]),(247, .rows true 0 6 []),(248, .rows true 0 2 [zbw x]),(249, .rows true 0 2 ((nx j).map zfJ)),(250, .rows true (nx j).length 8 ((nx j).map zaw))],252⟩)
      (fun d j=>j+d=more.length) ?_ more.length 0 ?_) ?_ ?_
     ·rintro d3 j j1 hrec3
      refine J0 ?_
      refine zEr (fun hj=> ?_) (fun hj=> ?_)<;>simp at hj
      ·have htj:=(hso _ (zag hj)).1
       have hatj:=hat j hj
       have halj:=hal' j
       have hmj:(more.take j).length≤10:=by rw [List.length_take];omega
       obtain ⟨t,ht⟩:∃t,t=nth more j:=⟨_,rfl⟩
       rw [← ht] at htj hatj
       have hk6:=hg.k6
       have hc9:=hg.c9
       have hta:=htj.p.al
       have ht0:=htj.p.h0.len
       have ht1:=htj.p.h1.len
       have htk:=htj.k
       have htc0:=htj.c0
       have htc1:=htj.c1
       have hKey:=zBu t aa aa aa aa aa (zkP hg htj.p)
       have hin:∀u ∈ nx j,zkb t=zkb u→t=u:=fun u hu e=>zBt hg htj (haok j u hu) e
       have hfind:=zqt t (nx j) hin
       have hput:=zuA t (nx j) hin
       repeat first|refine wV fun _=>?_|simp [go_sem,hj,← ht]
       refine aP hKey ?_
       by_cases hmem:t ∈ nx j
       ·rw [if_pos hmem] at hatj hfind
        refine J1 hfind ?_
        refine zEp (hrec3 (d3 - 1) aa (j+1) aa) ?_ ad
        simp [go_sem,zad,hatj]
       ·rw [if_neg hmem] at hatj hfind
        have hput:=hput hmem
        refine J2 hfind hput ?_
        refine zEp (hrec3 (d3 - 1) aa (j+1) aa) ?_ ad
        simp [go_sem,zad,hatj]
        intro c hc
        simp only [zfJ,List.mem_cons,List.not_mem_nil,or_false] at hc
        rcases hc with rfl|rfl<;>exact .v _
      ·have hnl:j=more.length:=by omega
       subst hnl
       rw [haa]
       refine J0 ?_
       refine zEp (hrec2 (d2 - 1) aa (n+1) aa) ?_ ad
       simp [go_sem,zad]
     ·omega
     ·simp [go_sem,zad,haz]
     ·simp
    ·have hnl:n=now.length:=by omega
     subst hnl
     rw [hpa]
     refine J0 ?_
     refine zEp (hrec (d - 1) aa (k+1) aa) ?_ ad
     simp [go_sem,zad]
     exact frX
   ·omega
   ·simp [go_sem,zad,hpz]
   ·simp
  ·have hkl':k=prog.length:=by omega
   subst hkl'
   rw [hla]
   have hl8:=hsz prog.length (Nat.le_refl _)
   have hlok:=(hst prog.length (Nat.le_refl _)).1
   rw [hla] at hl8 hlok
   generalize zeJ g p cell prog=last at *
   refine J0 ?_
   refine zEp (zEs (α:=Nat) (fun j=>⟨[(4, .fn (.func 136) [] [.ref 0 0 5 0 0, .ref 1 0 1 0 0]),(129,zbX last),(130, .int last.length),(131, .int j)],
     [(0, .rows true 0 5 [zae p]),(1, .rows true 0 1 [[.sl 247 ((last.take j).filterMap (zgX p.side)).length 6 0 ((last.take j).filterMap (zgX p.side)).length]]),(247, .rows true ((last.take j).filterMap (zgX p.side)).length 6 (((last.take j).filterMap (zgX p.side)).map zaS))],248⟩)
    (fun d j=>j+d=last.length) ?_ last.length 0 ?_) ?_ ?_
   ·rintro d4 j j1 hrec4
    refine J0 ?_
    refine zEr (fun hj=> ?_) (fun hj=> ?_)<;>simp at hj
    ·have hsj:=hlok _ (zag hj)
     have hol:((last.take j).filterMap (zgX p.side)).length≤100000000:=Nat.le_trans (List.length_filterMap_le _ _) (by rw [List.length_take];omega)
     have hse:(last.take (j+1)).filterMap (zgX p.side)=zfx p.side (0,0) (nth last j) ((last.take j).filterMap (zgX p.side)):=by
      rw [List.take_add_one,List.getElem?_eq_getElem hj,zap _ _ hj,List.filterMap_append]
      simp only [Option.toList_some,List.filterMap_cons,List.filterMap_nil,zfx,if_true]
      cases zgX p.side last[j]<;>rfl
     obtain ⟨out,hout⟩:∃out,out=(last.take j).filterMap (zgX p.side):=⟨_,rfl⟩
     rw [← hout] at hol hse ⊢
     obtain ⟨t,ht⟩:∃t,t=nth last j:=⟨_,rfl⟩
     rw [← ht] at hsj hse
     repeat first|refine wV fun _=>?_|simp [go_sem,hj,← ht]
     refine zqW g hg p hp t hsj.1 hsj.2 (0,0) out hol (a:=0) (b:=1) (c:=247) am ad (by simp [upd,zae,zai]) aR aR ?_
     rw [← hse]
     simp only [zqV]
     refine J0 ?_
     refine zEp (hrec4 (d4 - 1) aa (j+1) aa) ?_ ad
     simp [go_sem,zad]
    ·have hnl:j=last.length:=by omega
     subst hnl
     rw [List.take_length]
     refine J0 ?_
     simp [go_sem,zad]
   ·omega
   ·simp [go_sem,zad]
   ·simp
 ·omega
 ·simp [go_sem,zad]
  rw [show AV.lst 8 (List.map zaw (zbT g p cell prog 0))= _ from hst0]
  (first|done|exact dpX)
 ·simp
theorem zu6 (g:zab) (hg:GOk g) (p:zaf) (hp:POk g p) (cell i:Int) (hc:zcj g p cell i):
  zaD Tryz.prog 169 [.agg (zac g), .agg (zae p), .int cell, .int i]
   (.agg [.lst 1 (stR g p cell (za1 g p cell i) ((za1 g p cell i).length+1)), .int 0]):=by
 refine pF Tryz.func169 ?_
 have hal:=hp.al
 obtain ⟨c0,c1,cm,cs,i0,i1⟩:=hc
 have hcur:cell.toNat<p.at_.length:=aa
 have hat:=hp.at (i:=cell.toNat) aa
 have hO:=zfX (nth p.at_ cell.toNat)
 have hman:=zaO hat.1 hat.2 hg.k6
 have hcp:=zd8 p (hp.fits hg)
 have hV:=zr8 g cM ⟨hg.r0,by have:=hg.r4;omega⟩ p (hp.fits hg)
 rw [zpi.2 hp] at hV
 have hkl:(zan (nth p.at_ cell.toNat)).1.toNat<g.kinds.length:=by
  rcases hman with ⟨_,e⟩|⟨_,a,b, _⟩
  ·rw [e] at cm;simp at cm
  ·omega
 have hil:i.toNat<(nth g.kinds (zan (nth p.at_ cell.toNat)).1.toNat).progs.length:=aa
 have hpg:=hg.pr _ (zag hkl) _ (zag hil)
 have hst:=fun n hn=>ziv hg hp c0 c1 cm (prog:=za1 g p cell i) hpg.st n hn
 have hz:=zhA g p cell (za1 g p cell i)
 have hsu:=fun n hn=>zhz g p cell (za1 g p cell i) (n:=n) hn
 have hR:=fun n=>zB5 g p cell (za1 g p cell i) n
 have hp8:=hpg.len
 have hpst:=hpg.st
 have hpe:za1 g p cell i=nth (nth g.kinds (zan (nth p.at_ cell.toNat)).1.toNat).progs i.toNat:=rfl
 rw [← hpe] at hp8 hpst
 obtain ⟨prog,hprog⟩:∃q,q=za1 g p cell i:=⟨_,rfl⟩
 rw [← hprog] at hst hz hsu hR hp8 hpst hpe ⊢
 generalize hm:zan (nth p.at_ cell.toNat)=m at *
 obtain ⟨mk,ms⟩:=m
 simp only at cm cs i1 hkl hil hpe
 refine J0 ?_
 refine aP hV ?_
 refine J0 ?_
 refine FxF ?_
 refine J1 hcur ?_
 refine aP hO ?_
 refine J2 hkl hil ?_
 refine zEr (fun hF=>by simp at hF;omega) (fun hF=> ?_)
 clear hF
 refine J0 ?_
 refine zES 28 (by rfl) (hcp) am ae ae (fun _=>zav.refl _ _ _ _) ae ae ?_
 ((repeat (first|with_reducible (first|refine wL fun _=>?_|refine wD fun _=>?_|refine wZ ?_)|simp [go_sem]));refine zEW ai ?_)
 refine J3 hcur hkl hil ?_
 rw [← hpe]
 have hsz:∀n,n≤prog.length→(zbT g p cell prog n).length≤100000000:=fun n hn=>Nat.le_trans (hst n hn).2 (zky aa)
 have hst0:zbX (zbT g p cell prog 0)= .lst 8 [[.lst 1 ((p.at_.map zaB).set cell.toNat [.int 0]),zai p.h0,zai p.h1, .int p.rights, .int p.side, .int mk, .int cell, .v (.bool false)]]:=by
  rw [hz];simp [zbX,zfb,zaw,clr,hm,zai,zaB,List.map_set]
 have hR0:stR g p cell prog 1= [[zbX (zbT g p cell prog 0)]]:=rfl
 refine zEp (zEs (α:=Nat) (fun k=>⟨[(4, .ref 0 0 9 0 0),(8, .ref 2 0 2 0 0),(11, .ref 146 0 2 0 0),(12,zbX (zbT g p cell prog k)),(13,zaW prog),(14, .int k)],
   [(0, .rows true 0 9 [zac g]),(2, .rows true 0 2 [[AV.nils, .int 0]]),(142, .rows true k 1 (stR g p cell prog (k+1))),(146, .rows true 0 2 [[.sl 142 k 1 0 (k+1), .int 0]])],148⟩)
  (fun d k=>k+d=prog.length) ?_ prog.length 0 ?_) ?_ ?_
 ·rintro d k k1 hrec
  refine J0 ?_
  refine zEr (fun hk=> ?_) (fun hk=> ?_)<;>simp at hk
  ·have hkk:=hst k aa
   have hks:=hsz k aa
   have hks':=hsz (k+1) aa
   have hsk:=hsu k hk
   have hxs:=hpst _ (zag hk)
   have hpo:=fun n hn=>zpj hg hxs hkk.1 n hn
   have hpa:=zl6 g (zbT g p cell prog k) (nth prog k)
   have hpz:=zn4 g (zbT g p cell prog k) (nth prog k)
   have hps:=fun n hn=>zjc g (zbT g p cell prog k) (nth prog k) (n:=n) hn
   rw [← hsk] at hpa
   obtain ⟨now,hnow⟩:∃now,now=zbT g p cell prog k:=⟨_,rfl⟩
   rw [← hnow] at hkk hks hpo hpa hpz hps ⊢
   obtain ⟨x,hx⟩:∃x,x=nth prog k:=⟨_,rfl⟩
   rw [← hx] at hxs hpo hpa hpz hps
   refine J0 ?_
   refine zEp (zEs (α:=Nat) (fun n=>⟨[(4, .ref 0 0 9 0 0),(8, .ref 2 0 2 0 0),(11, .ref 146 0 2 0 0),(12,zbX now),(13,zaW prog),(14, .int k),(15, .sl 148 (zdf g now x n).length 8 0 (zdf g now x n).length),(16, .int n)],
     [(0, .rows true 0 9 [zac g]),(2, .rows true 0 2 [[AV.nils, .int 0]]),(142, .rows true k 1 (stR g p cell prog (k+1))),(146, .rows true 0 2 [[.sl 142 k 1 0 (k+1), .int 0]]),(148, .rows true (zdf g now x n).length 8 ((zdf g now x n).map zaw))],149⟩)
    (fun d n=>n+d=now.length) ?_ now.length 0 ?_) ?_ ?_
   ·rintro d2 n n1 hrec2
    refine J0 ?_
    refine zEr (fun hn=> ?_) (fun hn=> ?_)<;>simp at hn
    ·have hsn:=hkk.1 _ (zag hn)
     have hpn:=hps n hn
     have hpoN:=hpo n aa
     have hpoS:=hpo (n+1) aa
     have hSt:=zr0 g hg (nth now n) hsn.1 x hxs
     have hsl:=zmx hg (nth now n) x
     have hso:=ziw hg hsn.1 hxs
     have hAd:=zu7 (zdf g now x n) (zbS g (nth now n) x) aa (fun s hs=>(hpoN.1 s hs).1.p.fits hg) (fun s hs=>(hso s hs).1.p.fits hg)
     rw [← hpn] at hAd
     repeat first|refine wV fun _=>?_|simp [go_sem,hn,hk,← hx]
     refine dP hSt ?_
     refine J0 ?_
     refine zE1 (o:=148) hAd rfl (of_eq_true ztU) (of_eq_true ztU) (fun _=> .cons (.sl rfl) (.cons (.same (zxH _)) .nil)) ae (fun n₁ hn₁=>by simp [go_sem,hn₁]) (fun _=> .sl rfl) (.inr ⟨_, _, _, _,rfl⟩) ?_
     refine J0 ?_
     refine zEp (hrec2 (d2 - 1) aa (n+1) aa) ?_ ad
     simp [go_sem,zad]
    ·have hnl:n=now.length:=by omega
     subst hnl
     rw [hpa]
     refine J0 ?_
     have hRk:=hR (k+1)
     refine zEp (hrec (d - 1) aa (k+1) aa) ?_ ad
     simp [go_sem,zad,hRk]
     refine ⟨?_,za7 (.refl _) (.cons (.cons ?_ .nil) .nil)⟩<;>exact frX
   ·omega
   ·simp [go_sem,zad,hpz]
   ·simp
  ·have hkl':k=prog.length:=by omega
   subst hkl'
   refine J0 ?_
   exact zak rfl (by rw [ztu];omega) aB (by rw [List.drop_zero,List.take_of_length_le (by rw [ztu];omega)])
 ·omega
 ·simp [go_sem,zad,hR0]
  rw [show AV.lst 8 (List.map zaw (zbT g p cell prog 0))= _ from hst0]
  refine ⟨?_, ?_⟩
  ·(first|done|exact dpX)
  ·(first|done|exact dpX)
 ·simp
theorem zkL (a b:zcq) (ha:zaQ a.pos) (hb:zaQ b.pos):zaD Tryz.prog 188 [.agg (zaS a), .agg (zaS b)] (.v (.bool (zqQ a b))):=by
 refine pF Tryz.func188 ?_
 have hC:=zcY _ _ ha hb
 unfold zqQ
 obtain ⟨pa,ta⟩:=a
 obtain ⟨pb,tb⟩:=b
 simp only at hC ⊢
 generalize zbi pa pb=c at *
 refine J0 ?_
 refine aP hC ?_
 by_cases c1:c<0
 ·exact K1 c1
 ·by_cases c2:c=0
  ·subst c2
   cases ta<;>cases tb<;>(repeat (first|refine wV fun _=>?_|simp [go_sem]))
  ·cases ta<;>cases tb<;>(repeat (first|refine wV fun _=>?_|simp [go_sem,c1,c2]))
def zmV (x:zcq) (l:List zcq) (dn:Bool):List zcq:=if dn then l else zbP x l
theorem zot (l:List zcq) (x:zcq) (hl:l.length≤17179869184) (h1:∀o ∈ l,zaQ o.pos) (h2:zaQ x.pos):zaD Tryz.prog 170 [zhR l, .agg (zaS x)] (zhR (zbP x l)):=by
 refine pF Tryz.func170 ?_
 obtain ⟨R,hR⟩:∃R,R=zbP x l:=⟨_,rfl⟩
 rw [← hR]
 refine J0 ?_
 refine zEp (zEs (α:=Nat×List zcq×Bool) (fun a=>⟨[(0,zhR l),(3, .ref 0 0 6 0 0),(5, .sl 1 a.2.1.length 6 0 a.2.1.length),(6, .v (.bool a.2.2)),(7, .int a.1)], [(0, .rows true 0 6 [zaS x]),(1, .rows true a.2.1.length 6 (a.2.1.map zaS))],2⟩)
  (fun d a=>a.1+d=l.length∧a.2.1.length≤a.1+a.2.2.toNat∧R=a.2.1++zmV x (l.drop a.1) a.2.2) ?_ l.length (0, [],false) ?_) ?_ ?_
 ·rintro d ⟨i,out,dn⟩ ⟨i1,i2,i3⟩ hrec
  simp only at i1 i2 i3
  refine J0 ?_
  refine zEr (fun hi=> ?_) (fun hi=> ?_)<;>simp at hi
  ·have f1:=h1 _ (zag hi)
   have hL1:=zkL (nth l i) x f1 h2
   have hL2:=zkL x (nth l i) h2 f1
   rw [zas hi] at i3
   cases dn
   ·simp only [zmV,zbP] at i3
    simp only [Bool.toNat_false] at i2
    refine J1 hi ?_
    refine zEx _ (fun _=>hL1) ae ?_
    refine J1 hi ?_
    by_cases l1:zqQ (nth l i) x=true
    ·rw [if_pos l1] at i3
     refine J2 hi l1 ?_
     refine zEp (hrec (d - 1) aa (i+1,out++ [nth l i],false) ⟨ah,ak,cA⟩) ?_ ad
     simp [go_sem,zad]
    ·rw [if_neg l1] at i3
     refine J2 hi l1 ?_
     refine dP hL2 ?_
     refine J1 hi ?_
     by_cases l2:zqQ x (nth l i)=true
     ·rw [if_pos l2] at i3
      refine J2 hi l2 ?_
      refine zEp (hrec (d - 1) aa (i+1,out++ [x]++ [nth l i],true) ⟨ah,ak,cA⟩) ?_ ad
      simp [go_sem,zad]
     ·rw [if_neg l2] at i3
      refine J2 hi l2 ?_
      refine zEp (hrec (d - 1) aa (i+1,out++ [nth l i],true) ⟨ah,ak,cA⟩) ?_ ad
      simp [go_sem,zad]
   ·simp only [zmV,if_true] at i3
    simp only [Bool.toNat_true] at i2
    refine J1 hi ?_
    refine dGC.skip (.v (.bool true)) ?_
    refine J1 hi ?_
    refine zEp (hrec (d - 1) aa (i+1,out++ [nth l i],true) ⟨ah,ak,cA⟩) ?_ ad
    simp [go_sem,zad]
  ·rw [List.drop_eq_nil_of_le hi] at i3
   cases dn
   ·simp [zmV,zbP] at i3
    simp only [Bool.toNat_false] at i2
    refine J0 ?_
    rw [i3]
    exact frX
   ·simp [zmV] at i3
    simp only [Bool.toNat_true] at i2
    refine J0 ?_
    rw [i3]
    exact frX
 ·simp [zmV,hR]
 ·simp [go_sem,zad]
 ·simp
theorem zAZ (a b:zcq):orI [zbi a.pos b.pos,za8 (if a.took then 1 else 0) (if b.took then 1 else 0)]=zjC a b:=by
 unfold zjC zDQ
 simp only [orI]
 repeat' split
 all_goals first|rfl|omega
theorem zhw (a b:zcq) (ha:zaQ a.pos) (hb:zaQ b.pos):zaD Tryz.prog 138 [.agg (zaS a), .agg (zaS b)] (.int (zjC a b)):=by
 refine pF Tryz.func138 ?_
 rw [← zAZ]
 have c1:=zbL _ _ ha hb
 obtain ⟨pa,ta⟩:=a
 obtain ⟨pb,tb⟩:=b
 have c4:=zdW (if ta then 1 else 0) (if tb then 1 else 0)
 simp only at c1 c4 ⊢
 generalize hx1:zbi pa pb=x1 at *
 generalize hx2:za8 (if ta then 1 else 0) (if tb then 1 else 0)=x2 at *
 cases ta<;>cases tb<;>simp only [if_true,Bool.false_eq_true,if_false] at c4<;>
 ·refine J0 ?_
  refine dP c1 ?_
  refine J0 ?_
  refine dP c4 ?_
  refine J0 ?_
  refine zbq.frz [zai [x1,x2]] _ [17] [(17,some (.rows false 0 1 ([x1,x2].map zaB)))] (ztY _ (by unfold zfR;simp)) ?_ ?_ ae ?_
  ·intro p hp
   simp only [List.mem_singleton] at hp
   subst hp
   exact ⟨ad,0,1, _,rfl,bB⟩
  ·intro h₁ hS
   have h7:=hS 17 ad
   simp [go_sem] at h7
   exact .cons (zak h7.symm ad cF ae) .nil
  ·exact K0
theorem zww (a b:zcq) (ha:zaQ a.pos) (hb:zaQ b.pos):zaD Tryz.prog 140 [.agg (zaS a), .agg (zaS b)] (.v (.bool (decide (a=b)))):=by
 refine pF Tryz.func140 ?_
 have c1:=zhw a b ha hb
 have e:decide (a=b)=decide (zjC a b=0):=by rw [decide_eq_decide];exact (zci.eq a b).symm
 rw [e]
 generalize zjC a b=x at *
 refine J0 ?_
 refine aP c1 ?_
 exact K0
theorem zti (a b:zaf) (ha:zaQ a) (hb:zaQ b):zaD Tryz.prog 58 [.agg (zae a), .agg (zae b)] (.v (.bool (decide (a=b)))):=by
 refine pF Tryz.func58 ?_
 have c1:=zbL a b ha hb
 have e:decide (a=b)=decide (zbi a b=0):=by rw [decide_eq_decide];exact (zaU.eq a b).symm
 rw [e]
 generalize zbi a b=x at *
 refine J0 ?_
 refine aP c1 ?_
 exact K0
end Go.Av
end
