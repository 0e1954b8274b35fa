/- Texts of ours, part 6: our library and contracts of functions. -/
import Derived.Test.YtnjjmmhiaaplmaaGreatDoorB05
set_option linter.unusedSimpArgs false
set_option linter.unusedVariables false
set_option maxRecDepth 100000
set_option maxHeartbeats 40000000
section
open Go Go.Proofs
namespace Go.Av
theorem zhL {n:Nat}{α:Type}{f:α→List AV}{l:List α}{sz:Nat} (h:∀x,∀c ∈ f x,Bel n c):Bel n (.lst sz (l.map f)):=by
 refine .lst fun r hr c hc=> ?_
 obtain ⟨x, _,rfl⟩:=List.mem_map.1 hr
 exact h x c hc
theorem zxK {n:Nat}{l:List zfM}:Bel n (.lst 3 (l.map zaV))=True:=eq_true (zhL fun k c hc=>by
 simp only [zaV,List.mem_cons,List.mem_nil_iff,or_false] at hc
 rcases hc with rfl|rfl|rfl
 ·exact .v _
 ·refine zhL fun p c hc=> ?_
  simp only [List.mem_cons,List.mem_nil_iff,or_false] at hc
  subst hc
  exact zhL fun s c hc=>by
   simp only [zbw,List.mem_cons,List.mem_nil_iff,or_false] at hc
   rcases hc with rfl|rfl<;>exact .v _
 ·exact .v _)
theorem zst {n:Nat}{l:List (Int×Int×Int×Int)}:Bel n (.lst 4 (l.map za0))=True:=eq_true (zhL fun k c hc=>by
 simp only [za0,List.mem_cons,List.mem_nil_iff,or_false] at hc
 rcases hc with rfl|rfl|rfl|rfl<;>exact .v _)
theorem zDj {n:Nat}{l:List (List Int)}:Bel n (.lst 1 (l.map fun l=> [.lst 1 (l.map zaB)]))=True:=eq_true (zhL fun k c hc=>by
 simp only [List.mem_cons,List.mem_nil_iff,or_false] at hc
 subst hc
 exact of_eq_true zhJ)
attribute [go_sem high] zxK zst zDj
def znm (g:zab) (x:Int):Bool:=decide (0≤x) && decide (x≤2 * g.kinds.length)
def ziE (g:zab):Prop:=g.kinds.length≤1000000
theorem zp7 (g:zab) (hg:ziE g) (x:Int):zaD Tryz.prog 122 [.agg (zac g), .int x] (.v (.bool (znm g x))):=by
 refine pF Tryz.func122 ?_
 unfold ziE at hg
 simp [go_sem]
 refine zEL aa fun _=> ?_
 simp [go_sem,znm]
theorem zlY (g:zab) (hg:ziE g) (x:Int):zaD Tryz.prog 123 [.int x, .fp [.fn (.func 122) [.agg (zac g)] []]] (.v (.bool !znm g x)):=by
 refine pF Tryz.func123 ?_
 simp [go_sem]
 refine aP (zp7 g hg x) ?_
 simp [go_sem]
def zck:List Int→List zfM→Bool
 |x::l,k::ks=>decide (0≤x) && decide (x≤8) && (!decide (0<x)||k.keep) && zck l ks
 | _, _=>true
def zed (g:zab) (l:List Int):Bool:=decide (l.length=g.kinds.length) && zck l g.kinds
theorem zqH (g:zab) (hg:ziE g) (l:List Int) (hl:zfR l):zaD Tryz.prog 124 [.agg (zac g),zai l] (.v (.bool (zed g l))):=by
 refine pF Tryz.func124 ?_
 unfold ziE at hg
 unfold zfR at hl
 simp [go_sem]
 refine zEr (fun hn=> ?_) (fun hn=> ?_)
 ·simp at hn
  have hn':l.length≠g.kinds.length:=aa
  simp [go_sem,zed,hn']
 ·simp at hn
  have hn':l.length=g.kinds.length:=aa
  simp [go_sem]
  have hk:zed g l=zck l g.kinds:=by simp [zed,hn']
  rw [hk]
  refine zEp (zEs (α:=Nat) (fun j=>⟨[(2, .ref 0 0 9 0 0),(14,zai l),(15, .int l.length),(16, .int j)], [(0, .rows true 0 9 [zac g])],1⟩)
   (fun d j=>j+d=l.length∧zck l g.kinds=zck (l.drop j) (g.kinds.drop j)) ?_ l.length 0 ?_) ?_ ?_
  ·rintro d j ⟨i1,i2⟩ hrec
   simp [go_sem]
   refine zEr (fun hj=> ?_) (fun hj=> ?_)
   ·simp at hj
    have hj2:j<g.kinds.length:=aa
    rw [zcs hj,show g.kinds.drop j=nth g.kinds j::g.kinds.drop (j+1) by rw [List.drop_eq_getElem_cons hj2,zap _ _ hj2],zck] at i2
    simp [go_sem]
    refine zEL hj fun _=> ?_
    simp [go_sem,hj]
    refine zEL (by intros;omega) fun _=> ?_
    simp [go_sem,hj2]
    refine zEL (by intros;omega) fun _=> ?_
    simp [go_sem]
    refine zEr (fun hb=> ?_) (fun hb=> ?_)
    ·have:zck l g.kinds=false:=by
      rw [i2];generalize nth l j=x at *;generalize (nth g.kinds j).keep=y at *
      cases y<;>simp at hb ⊢<;>omega
     simp [go_sem,this]
    ·have:zck l g.kinds=zck (List.drop (j+1) l) (List.drop (j+1) g.kinds):=by
      rw [i2];generalize nth l j=x at *;generalize (nth g.kinds j).keep=y at *
      cases y<;>simp at hb ⊢<;>omega
     simp [go_sem]
     refine zEL aa fun _=> ?_
     simp [go_sem]
     refine zEp (hrec (d - 1) aa (j+1) ⟨aa,this⟩) ?_ ad
     simp [go_sem,zad]
   ·simp at hj
    rw [List.drop_eq_nil_of_le hj] at i2
    have:zck l g.kinds=true:=dd
    simp [go_sem,this]
  ·simp
  ·simp [go_sem,zad]
  ·simp
def zgl (g:zab) (p:zaf):Bool:=
 decide ((p.at_.length:Int)=g.cells) && !(p.at_.any fun x=> !znm g x) && zed g p.h0 && zed g p.h1 && decide (0≤p.rights) && decide (p.rights<2 ^ g.rights.toNat) && (decide (p.side=0)||decide (p.side=1))
def FitsR (g:zab):Prop:=0≤g.rights∧g.rights≤60
theorem zm9 (g:zab) (hg:ziE g) (hr:FitsR g) (p:zaf) (hp:zaQ p):zaD Tryz.prog 88 [.agg (zac g), .agg (zae p)] (.v (.bool (zgl g p))):=by
 refine pF Tryz.func88 ?_
 obtain ⟨p1,p2,p3⟩:=hp
 obtain ⟨r1,r2⟩:=hr
 simp [go_sem]
 try ((with_reducible refine wZ ?_);(try simp [go_sem]))
 refine zE5 [zai p.at_, .fn (.func 123) [] [.fp [.fn (.func 122) [.agg (zac g)] []]]] (.v (.bool (p.at_.any fun x=> !znm g x))) [3]
  (fun _=>zeO _ p1 _ [] _ _ (fun x _=>zlY g hg x) ad ae) (.v _) (fun h₁ hS=> ?_) ae ?_
 ·have:=hS 3 ad
  simp [go_sem] at this
  simp only [List.nil_append,List.append_nil,zai]
  exact .cons (.refl _) (.cons (.fn .nil (.cons (.frzP this.symm ad ad aV (by simp [nth,go_sem])) .nil)) .nil)
 simp [go_sem]
 try ((with_reducible refine wZ ?_);(try simp [go_sem]))
 refine zEx _ (fun _=>zqH g hg p.h0 p2) ae ?_
 simp [go_sem]
 try ((with_reducible refine wZ ?_);(try simp [go_sem]))
 refine zEx _ (fun _=>zqH g hg p.h1 p3) ae ?_
 simp [go_sem]
 have hpow:(0:Int)≤2 ^ g.rights.toNat∧(2:Int) ^ g.rights.toNat≤1152921504606846976:=by
  have h1:g.rights.toNat≤60:=aa
  have h2:(2:Int) ^ g.rights.toNat≤2 ^ 60:=dK
  exact ⟨Int.pow_nonneg aa,aZ⟩
 try ((with_reducible refine wZ ?_);(try simp [go_sem]))
 refine zET (by intros;omega) fun _=> ?_
 simp [go_sem]
 try ((with_reducible refine wZ ?_);(try simp [go_sem]))
 refine zET (fun a1 a2 a3 a4 a5 a6=>⟨⟨⟨⟨⟨⟨a1,a2⟩,a3⟩,a4⟩,a5⟩,a6⟩,fun a7=>⟨⟨⟨⟨⟨⟨a1,a2⟩,a3⟩,a4⟩,a5⟩,a6⟩,a7⟩⟩) fun _=> ?_
 simp [go_sem]
 try ((with_reducible refine wZ ?_);(try simp [go_sem]))
 refine zmR.mk ai ?_
 simp [go_sem]
 exact LeV.of_eq (by simp [zgl])
theorem za7 {h h':zaq}{n:Nat}:∀ {xs xs' ys ys':List (List AV)},zaN h h' n xs xs'→zaN h h' n ys ys'→zaN h h' n (xs++ys) (xs'++ys')
 | [], _, _, _, .refl _,h2=>h2
 | [], _, _, _, .nil,h2=>h2
 |x::xs, _, _, _, .refl _,h2=> .cons (.refl _ _ _ _) (za7 (.refl xs) h2)
 | _:: _, _, _, _, .cons a b,h2=> .cons a (za7 b h2)
theorem zaN.of_eq {h h':zaq}{n:Nat}{xs ys:List (List AV)} (e:xs=ys):zaN h h' n xs ys:=e▸ .refl _
def zbr:Option zbp→Option zbp
 |some (.rows _ g sz rs)=>some (.rows false g sz rs)
 |none=>none
def za6 (h:zaq) (os:List Nat):zaq:=fun o=>if os.contains o then zbr (h o) else h o
theorem zvS (h:zaq) (os:List Nat) (o:Nat):za6 h os o=if os.contains o then zbr (h o) else h o:=rfl
theorem zys (mt:Bool) (g sz:Nat) (rs:List (List AV)):zbr (some (.rows mt g sz rs))=some (.rows false g sz rs):=rfl
theorem zbf (h:zaq) (os:List Nat):Frz h (za6 h os):=by
 intro o
 unfold za6
 split
 ·cases ho:h o with
  |none=>exact .inl rfl
  |some x=>
   cases x with
   |rows mt g sz rs=>
    cases mt with
    |true=>exact .inr ⟨g,sz,rs,rfl,rfl⟩
    |false=>exact .inl rfl
 ·exact .inl rfl
theorem zEv {P:Program}{f:FuncId}{args args':List AV}{r:AV}{h:zaq}{n:Nat}{K:zcn} (os:List Nat) (hp:zaD P f args' r) (hle:zav h (za6 h os) n args args') (hb:∀c ∈ args',Bel 0 c)
  (hk:K r (za6 h os) n):zah P f args h n K:=zah.pure (za6 h os) hp (zbf h os) hle hb hk
attribute [go_sem] zvS zys
def zqd (n:Int):List AV:= [.v (.int .u8 n)]
def zvE (l:List Int):AV:= .lst 1 (l.map zqd)
theorem bel_U {n:Nat}{l:List Int}:(∀r ∈ l.map zqd,∀c ∈ r,Bel n c)=True:=by
 refine eq_true ?_
 intro r hr c hc
 obtain ⟨x, _,rfl⟩:=List.mem_map.1 hr
 simp only [zqd,List.mem_singleton] at hc
 subst hc;exact .v _
theorem bel_Us {n:Nat}{l:List Int}:Bel n (.lst 1 (l.map zqd))=True:=by rw [zbt,bel_U]
attribute [go_sem] zqd zvE
attribute [go_sem high] bel_Us
theorem zil {g:zab}{p:zaf}:zgl g p=true↔((p.at_.length:Int)=g.cells∧(∀x ∈ p.at_,0≤x∧x≤2 * g.kinds.length)∧zed g p.h0=true∧zed g p.h1=true∧0≤p.rights∧p.rights<2 ^ g.rights.toNat∧(p.side=0∨p.side=1)):=by
 unfold zgl
 simp [znm,and_assoc]
theorem zq7 {α:Type} [Inhabited α] {l:List α}{c:Nat}{x:α} (h:c<l.length):nth (l.set c x) c=x:=by simp [nth,h]
attribute [go_sem] zq7
theorem zas {α:Type} [Inhabited α] {l:List α}{j:Nat} (h:j<l.length):l.drop j=nth l j::l.drop (j+1):=bH
theorem znC (g:zab) (hg:ziE g) (l:List Int) (hl:l.length≤9223372036854775807):zaD Tryz.prog 213 [.agg (zac g),zai l] (.v (.bool (zed g l))):=by
 refine pF Tryz.func213 ?_
 unfold ziE at hg
 refine J0 ?_
 refine zEr (fun hn=> ?_) (fun hn=> ?_)<;>simp at hn
 ·have e:zed g l=false:=by simp [zed];intro h;omega
  rw [e]
  exact K0
 ·refine J0 ?_
  have e:zed g l=zck l g.kinds:=by simp [zed];intro;omega
  rw [e]
  refine zEp (zEs (α:=Nat) (fun j=>⟨[(1,zai l),(2, .ref 0 0 9 0 0),(5, .int j)], [(0, .rows true 0 9 [zac g])],1⟩)
   (fun d j=>j+d=l.length∧zck l g.kinds=zck (l.drop j) (g.kinds.drop j)) ?_ l.length 0 ?_) ?_ ?_
  ·rintro d j ⟨i1,i2⟩ hrec
   refine J0 ?_
   refine zEr (fun hj=> ?_) (fun hj=> ?_)<;>simp at hj
   ·have hjk:j<g.kinds.length:=by omega
    rw [zas hj,zas hjk,zck] at i2
    generalize hR:zck (List.drop (j+1) l) (List.drop (j+1) g.kinds)=R at *
    cases hkp:(nth g.kinds j).keep
    ·rw [hkp] at i2
     refine J3 hj hjk hkp ?_
     refine zEr (fun hb=> ?_) (fun hb=> ?_)<;>simp at hb
     ·have e2:zck l g.kinds=false:=by rw [i2];simp;intros;omega
      rw [e2]
      exact K0
     ·have e2:zck l g.kinds=R:=by
       rw [i2]
       simp [show 0≤nth l j by omega,show nth l j≤8 by omega,show ¬0<nth l j by omega]
      refine J0 ?_
      refine zEp (hrec (d - 1) aa (j+1) ⟨aa,by rw [e2,hR]⟩) ?_ ad
      simp [go_sem,zad]
    ·rw [hkp] at i2
     refine J3 hj hjk hkp ?_
     refine zEr (fun hb=> ?_) (fun hb=> ?_)<;>simp at hb
     ·have e2:zck l g.kinds=false:=by rw [i2];simp;intros;omega
      rw [e2]
      exact K0
     ·have e2:zck l g.kinds=R:=by
       rw [i2]
       simp [show 0≤nth l j by omega,show nth l j≤8 by omega]
      refine J0 ?_
      refine zEp (hrec (d - 1) aa (j+1) ⟨aa,by rw [e2,hR]⟩) ?_ ad
      simp [go_sem,zad]
   ·rw [List.drop_eq_nil_of_le hj,show ∀ks,zck [] ks=true from fun ks=>by simp [zck]] at i2
    rw [i2]
    exact K0
  ·exact ⟨ad,rfl⟩
  ·simp [go_sem,zad]
  ·simp
theorem zr8 (g:zab) (hg:ziE g) (hr:FitsR g) (p:zaf) (hp:zaQ p):zaD Tryz.prog 185 [.agg (zac g), .agg (zae p)] (.v (.bool (zgl g p))):=by
 refine pF Tryz.func185 ?_
 obtain ⟨p1,p2,p3⟩:=hp
 obtain ⟨r1,r2⟩:=hr
 have hpow:(0:Int)≤2 ^ g.rights.toNat∧(2:Int) ^ g.rights.toNat≤1152921504606846976:=by
  have h1:g.rights.toNat≤60:=aa
  have h2:(2:Int) ^ g.rights.toNat≤2 ^ 60:=dK
  exact ⟨Int.pow_nonneg aa,aZ⟩
 unfold ziE at hg
 refine J0 ?_
 refine zEx _ (fun _=>znC g hg p.h0 (by unfold zfR at p2;omega)) ae ?_
 refine J0 ?_
 refine zEx _ (fun _=>znC g hg p.h1 (by unfold zfR at p3;omega)) ae ?_
 generalize hpw:(2:Int) ^ g.rights.toNat=pw at *
 refine J1 hpw ?_
 unfold zfR at p1
 refine zEr (fun hv=> ?_) (fun hv=> ?_)<;>simp at hv
 ·have e:zgl g p=false:=by
   rw [Bool.eq_false_iff]
   intro h
   obtain ⟨a1,a2,a3,a4,a5,a6,a7⟩:=zil.1 h
   rw [hpw] at a6
   rw [a3,a4] at hv
   simp at hv
   omega
  rw [e]
  exact K0
 ·have hn:∀x:Int,(∀y ∈ p.at_,0≤y∧y≤2 * g.kinds.length)→zgl g p=true:=fun _ h=>by
   rw [zil,hpw]
   obtain ⟨⟨⟨⟨⟨⟨b1,b2⟩,b3⟩,b4⟩,b5⟩,b6⟩,b7⟩:=hv
   exact ⟨b1,h,b2,b3,b4,b5,aa⟩
  refine J0 ?_
  refine zEp (zEs (α:=Nat) (fun j=>⟨[(2, .ref 0 0 9 0 0),(3, .ref 1 0 5 0 0),(5, .int j)], [(0, .rows true 0 9 [zac g]),(1, .rows true 0 5 [zae p])],2⟩)
   (fun d j=>j+d=p.at_.length∧∀i,i<j→0≤nth p.at_ i∧nth p.at_ i≤2 * g.kinds.length) ?_ p.at_.length 0 ?_) ?_ ?_
  ·rintro d j ⟨i1,i2⟩ hrec
   refine J0 ?_
   refine zEr (fun hj=> ?_) (fun hj=> ?_)<;>simp at hj
   ·refine J1 hj ?_
    refine zEr (fun hb=> ?_) (fun hb=> ?_)<;>simp at hb
    ·have e:zgl g p=false:=by
      rw [Bool.eq_false_iff]
      intro h
      have:=(zil.1 h).2.1 _ (zag hj)
      omega
     rw [e]
     exact K0
    ·refine J0 ?_
     refine zEp (hrec (d - 1) aa (j+1) ⟨aa,fun i hi=> ?_⟩) ?_ ad
     ·rcases Nat.lt_or_ge i j with h|h
      ·exact i2 i h
      ·obtain rfl:i=j:=by omega
       exact hb
     ·simp [go_sem,zad]
   ·have e:=hn 0 (fun y hy=>by
     obtain ⟨i,hi,rfl⟩:=List.getElem_of_mem hy
     rw [← zap _ _ hi]
     exact i2 i aa)
    rw [e]
    exact K0
  ·exact ⟨ad,fun i hi=>aa⟩
  ·simp [go_sem,zad]
  ·simp
def zaC (l:List zaf):AV:= .lst 5 (l.map zae)
attribute [go_sem] zaC
instance:Inhabited zaf:=⟨⟨[], [], [],0,0⟩⟩
theorem zDg {n:Nat}{p:zaf}:∀c ∈ zae p,Bel n c:=ae
theorem zvm {n:Nat}{l:List zaf}:(∀r ∈ l.map zae,∀c ∈ r,Bel n c)=True:=by
 refine eq_true ?_
 intro r hr c hc
 obtain ⟨x, _,rfl⟩:=List.mem_map.1 hr
 exact zDg c hc
theorem zxF {n:Nat}{l:List zaf}:Bel n (.lst 5 (l.map zae))=True:=by rw [zbt,zvm]
attribute [go_sem high] zxF
def zen:List zaf→Bool
 |a::b::l=>decide (zbi a b<0) && zen (b::l)
 | _=>true
theorem zsc (l:List zaf) (hl:l.length≤1099511627776) (hf:∀p ∈ l,zaQ p):zaD Tryz.prog 18 [zaC l] (.v (.bool (zen l))):=by
 refine pF Tryz.func18 ?_
 refine J0 ?_
 refine zEp (zEs (α:=Nat) (fun j=>⟨[(0,zaC l),(3, .int ((j:Int)+1))], [],0⟩)
  (fun d j=>j+d=l.length∧zen l=zen (l.drop j)) ?_ l.length 0 ?_) ?_ ?_
 ·rintro d j ⟨i1,i2⟩ hrec
  refine J0 ?_
  refine zEr (fun hj=> ?_) (fun hj=> ?_)<;>simp at hj
  ·have h0:j<l.length:=by omega
   have h1:j+1<l.length:=aa
   rw [zas h0,zas h1,zen,← zas h1] at i2
   have e1:((j:Int)+1).toNat=j+1:=aa
   refine J3 h0 h1 e1 ?_
   refine dP (zcY (nth l j) (nth l (j+1)) (hf _ (zag h0)) (hf _ (zag h1))) ?_
   generalize hc:zbi (nth l j) (nth l (j+1))=c at *
   refine J0 ?_
   refine zEr (fun hb=> ?_) (fun hb=> ?_)<;>simp at hb
   ·have e:zen l=false:=by rw [i2];simp;omega
    rw [e]
    exact K0
   ·have e:zen l=zen (l.drop (j+1)):=by rw [i2];simp;omega
    refine J0 ?_
    refine zEp (hrec (d - 1) aa (j+1) ⟨aa,e⟩) ?_ ad
    simp [go_sem,zad]
  ·have e:zen l=true:=by
    rw [i2]
    cases h:l.drop j with
    |nil=>rfl
    |cons a t=>
     have:(l.drop j).length=(a::t).length:=by rw [h]
     simp at this
     have:t= []:=List.eq_nil_of_length_eq_zero aa
     subst this;rfl
   rw [e]
   exact K0
 ·exact ⟨ad,rfl⟩
 ·simp [go_sem,zad]
 ·simp
def zhY (l:List zaf) (p:zaf):Nat→Nat→Nat→Int
 |0, _, _=> -1
 |f+1,lo,hi=>if lo<hi then (if zbi p (nth l ((lo+hi) / 2))=0 then (((lo+hi) / 2:Nat):Int) else if zbi p (nth l ((lo+hi) / 2))<0 then zhY l p f lo ((lo+hi) / 2) else zhY l p f ((lo+hi) / 2+1) hi) else -1
def zBg (l:List zaf) (p:zaf):Int:=zhY l p (l.length+1) 0 l.length
theorem zw5 (l:List zaf) (p:zaf) (hl:l.length≤1099511627776) (hf:∀q ∈ l,zaQ q) (hp:zaQ p):zaD Tryz.prog 13 [zaC l, .agg (zae p)] (.int (zBg l p)):=by
 refine pF Tryz.func13 ?_
 refine J0 ?_
 refine zEp (zEs (α:=Nat×Nat) (fun a=>⟨[(0,zaC l),(3, .ref 0 0 5 0 0),(5, .int a.1),(6, .int a.2)], [(0, .rows true 0 5 [zae p])],1⟩)
  (fun d a=>a.2≤l.length∧a.2 - a.1<d∧zBg l p=zhY l p d a.1 a.2) ?_ (l.length+1) (0,l.length) ?_) ?_ ?_
 ·rintro d ⟨lo,hi⟩ ⟨i1,i2,i3⟩ hrec
  simp only at i1 i2 i3
  obtain ⟨d,rfl⟩:∃d',d=d'+1:=⟨d - 1,aa⟩
  rw [zhY] at i3
  have hdiv:((lo:Int)+hi).tdiv 2=((lo+hi) / 2:Nat):=by rw [Int.tdiv_eq_ediv_of_nonneg aa];omega
  refine J0 ?_
  refine zEr (fun hlt=> ?_) (fun hlt=> ?_)<;>simp at hlt
  ·rw [if_pos hlt] at i3
   have hm:(lo+hi) / 2<l.length:=aa
   have hm2:lo≤(lo+hi) / 2∧(lo+hi) / 2<hi:=aa
   generalize hmid:(lo+hi) / 2=mid at *
   refine J2 hdiv hm ?_
   refine dP (zcY p (nth l mid) hp (hf _ (zag hm))) ?_
   generalize hc:zbi p (nth l mid)=c at *
   refine J0 ?_
   refine zEr (fun hz=> ?_) (fun hz=> ?_)<;>simp at hz
   ·rw [if_pos hz] at i3
    rw [i3]
    exact K0
   ·rw [if_neg hz] at i3
    refine J0 ?_
    refine zEr (fun hn=> ?_) (fun hn=> ?_)<;>simp at hn
    ·rw [if_pos hn] at i3
     refine J0 ?_
     refine zEp (hrec d aa (lo,mid) ⟨ah,ah,i3⟩) ?_ ad
     simp [go_sem,zad]
    ·rw [if_neg aa] at i3
     refine J0 ?_
     refine zEp (hrec d aa (mid+1,hi) ⟨ah,ah,i3⟩) ?_ ad
     simp [go_sem,zad]
  ·rw [if_neg aa] at i3
   rw [i3]
   exact K0
 ·exact ⟨ad,ad,rfl⟩
 ·simp [go_sem,zad]
 ·simp
end Go.Av
end
section
open Go Go.Proofs
namespace Go.Av
structure Cmp {α:Type} (c:α→α→Int):Prop where
 swap:∀a b,c b a= - c a b
 eq:∀a b,c a b=0↔a=b
 tr:∀a b d,c a b≤0→c b d≤0→c a d≤0
theorem zb2:Cmp za8:=by
 refine ⟨fun a b=> ?_,fun a b=> ?_,fun a b d=> ?_⟩<;>unfold za8<;>(repeat' split)<;>omega
def zDQ (x y:Int):Int:=if x≠0 then x else y
theorem Cmp.prod {α β:Type}{c:α→α→Int}{d:β→β→Int} (hc:Cmp c) (hd:Cmp d):Cmp (fun (p q:α×β)=>zDQ (c p.1 q.1) (d p.2 q.2)):=by
 refine ⟨fun p q=> ?_,fun p q=> ?_,fun p q r=> ?_⟩
 ·have h1:=hc.swap p.1 q.1
  have h2:=hd.swap p.2 q.2
  simp only [zDQ]
  split<;>split<;>omega
 ·have h1:=hc.eq p.1 q.1
  have h2:=hd.eq p.2 q.2
  simp only [zDQ]
  constructor
  ·intro h
   split at h
   ·contradiction
   ·rename_i h0
    exact Prod.ext (h1.1 aa) (h2.1 h)
  ·rintro rfl
   have a:=h1.2 rfl
   have b:=h2.2 rfl
   split<;>omega
 ·intro h1 h2
  simp only [zDQ] at h1 h2 ⊢
  have e1:=hc.eq p.1 q.1
  have e2:=hc.eq q.1 r.1
  have e3:=hc.eq p.1 r.1
  have s1:=hc.swap p.1 q.1
  have s2:=hc.swap q.1 r.1
  have s3:=hc.swap p.1 r.1
  have t1:=hc.tr p.1 q.1 r.1
  have t2:=hd.tr p.2 q.2 r.2
  split at h1
  ·rename_i n1
   split at h2
   ·rename_i n2
    split
    ·omega
    ·rename_i n3
     have:=e3.1 aa
     rw [this] at h1 n1
     omega
   ·rename_i n2
    have:=e2.1 aa
    rw [this] at h1 n1
    rw [if_pos n1];exact h1
  ·rename_i n1
   have:=e1.1 aa
   split at h2
   ·rename_i n2
    rw [← this] at h2 n2
    rw [if_pos n2];exact h2
   ·rename_i n2
    rw [← this] at n2
    rw [if_neg n2]
    exact t2 h1 h2
theorem Cmp.pull {α β:Type}{c:β→β→Int} (hc:Cmp c) (f:α→β) (hf:∀a b,f a=f b→a=b):Cmp (fun a b=>c (f a) (f b)):=
 ⟨fun a b=>hc.swap _ _,fun a b=>⟨fun h=>hf _ _ ((hc.eq _ _).1 h),fun h=>(hc.eq _ _).2 (by rw [h])⟩,fun a b d=>hc.tr _ _ _⟩
theorem zoD:Cmp zeR:=by
 refine ⟨?_, ?_, ?_⟩
 ·intro a
  induction a with
  |nil=>intro b;cases b with
   |nil=>rfl
   |cons y b=>simp only [zeR];exact zb2.swap _ _
  |cons x a ih=>intro b;cases b with
   |nil=>simp only [zeR];exact zb2.swap _ _
   |cons y b=>
    have:=zb2.swap x y
    simp only [zeR]
    split
    ·rename_i h;rw [if_pos h.symm];exact ih b
    ·rename_i h;rw [if_neg (fun e=>h e.symm)];exact this
 ·intro a
  induction a with
  |nil=>intro b;cases b with
   |nil=>simp [zeR,za8]
   |cons y b=>simp [zeR,za8]
  |cons x a ih=>intro b;cases b with
   |nil=>simp [zeR,za8];split<;>(try split)<;>omega
   |cons y b=>
    have:=zb2.eq x y
    simp only [zeR]
    split
    ·rename_i h;rw [ih b];simp [h]
    ·rename_i h;rw [this];simp [h]
 ·intro a
  induction a with
  |nil=>intro b d _ _;cases d with
   |nil=>simp [zeR,za8]
   |cons z d=>simp [zeR,za8]
  |cons x a ih=>
   intro b d h1 h2
   cases b with
   |nil=>simp [zeR,za8] at h1;split at h1<;>(try split at h1)<;>omega
   |cons y b=>
    cases d with
    |nil=>simp [zeR,za8] at h2;split at h2<;>(try split at h2)<;>omega
    |cons z d=>
     simp only [zeR] at h1 h2 ⊢
     have t:=zb2.tr x y z
     have e1:=zb2.eq x z
     have s1:=zb2.swap y z
     have e2:=zb2.eq x y
     split at h1
     ·rename_i xy
      subst xy
      split at h2
      ·rename_i yz;subst yz;rw [if_pos rfl];exact ih _ _ h1 h2
      ·rename_i yz;rw [if_neg yz];exact h2
     ·rename_i xy
      split at h2
      ·rename_i yz;subst yz;rw [if_neg xy];exact h1
      ·rename_i yz
       by_cases xz:x=z
       ·subst xz;omega
       ·rw [if_neg xz];exact t h1 h2
def tupP (p:zaf):List Int×List Int×List Int×Int×Int:=(p.at_,p.h0,p.h1,p.rights,p.side)
theorem zaU:Cmp zbi:=
 Cmp.pull (zoD.prod (zoD.prod (zoD.prod (zb2.prod zb2)))) tupP (fun a b h=>by cases a;cases b;simp [tupP] at h;simp [h])
theorem zhi {p q:zaf}:zbi p q=0↔p=q:=zaU.eq p q
section sort
variable {α:Type} {c:α→α→Int} (hc:Cmp c)
def leC (c:α→α→Int) (a b:α):Bool:=decide (c a b≤0)
def zcM (c:α→α→Int) (l:List α):List α:=l.mergeSort (leC c)
include hc
theorem zCA (a b d:α) (h1:leC c a b=true) (h2:leC c b d=true):leC c a d=true:=by
 simp only [leC,decide_eq_true_eq] at *
 exact hc.tr _ _ _ h1 h2
theorem zyS (a b:α):(leC c a b||leC c b a)=true:=by
 have:=hc.swap a b
 simp only [leC,Bool.or_eq_true,decide_eq_true_eq]
 omega
theorem zBz {a b:α} (h1:leC c a b=true) (h2:leC c b a=true):a=b:=by
 have:=hc.swap a b
 simp only [leC,decide_eq_true_eq] at *
 exact (hc.eq _ _).1 aa
theorem zkB (l:List α):(zcM c l).Pairwise (fun a b=>leC c a b=true):=List.pairwise_mergeSort (zCA hc) (zyS hc) l
theorem zgq {l r:List α} (hp:r.Perm l) (hs:r.Pairwise (fun a b=>leC c a b=true)):zcM c l=r:=
 List.Perm.eq_of_pairwise (fun a b _ _ h1 h2=>zBz hc h1 h2) (zkB hc l) hs ((List.mergeSort_perm l _).trans hp.symm)
theorem zts (a b:List α):List.merge (zcM c a) (zcM c b) (leC c)=zcM c (a++b):=
 (zgq hc ((List.merge_perm_append (le:=leC c)).trans ((List.mergeSort_perm a _).append (List.mergeSort_perm b _)))
  (List.pairwise_merge (zCA hc) (zyS hc) _ _ (zkB hc a) (zkB hc b))).symm
omit hc in
theorem zog (l:List α):(zcM c l).Perm l:=List.mergeSort_perm l _
omit hc in
theorem ze9 (l:List α):(zcM c l).length=l.length:=(zog l).length_eq
omit hc in
theorem zfa {l:List α}{x:α}:x ∈ zcM c l↔x ∈ l:=(zog l).mem_iff
omit hc in
theorem zzB:zcM c []= []:=by simp [zcM]
omit hc in
theorem zzC (a:α):zcM c [a]= [a]:=by simp [zcM]
omit hc in
theorem zmr {l:List α} (h:l.length<2):zcM c l=l:=by
 match l,h with
 | [], _=>exact zzB
 | [a], _=>exact zzC a
end sort
section once
variable {α:Type} [DecidableEq α]
def zaZ:α→List α→List α
 | _, []=> []
 |a,b::l=>if b=a then zaZ a l else b::zaZ b l
def zbj:List α→List α
 | []=> []
 |a::l=>a::zaZ a l
theorem zfq:∀ {l:List α}{a x:α},(x=a∨x ∈ zaZ a l)↔(x=a∨x ∈ l)
 | [],a,x=>by simp [zaZ]
 |b::l,a,x=>by
  simp only [zaZ]
  split
  ·rename_i h;subst h
   rw [zfq (l:=l)]
   simp
  ·have:=zfq (l:=l) (a:=b) (x:=x)
   simp only [List.mem_cons]
   rw [this]
theorem zla {l:List α}{x:α}:x ∈ zbj l↔x ∈ l:=by
 cases l with
 |nil=>simp [zbj]
 |cons a l=>simp only [zbj,List.mem_cons];exact zfq
theorem ziO:∀ (l:List α) (a:α),(zaZ a l).length≤l.length
 | [],a=>by simp [zaZ]
 |b::l,a=>by
  simp only [zaZ]
  split
  ·have:=ziO l a;simp;omega
  ·have:=ziO l b;simp;omega
theorem zA5 (l:List α):(zbj l).length≤l.length:=by
 cases l with
 |nil=>simp [zbj]
 |cons a l=>simp [zbj];exact ziO l a
theorem ziP {c:α→α→Int} (hc:Cmp c):∀ {l:List α}{a:α},(a::l).Pairwise (fun a b=>leC c a b=true)→(a::zaZ a l).Pairwise (fun a b=>c a b<0)
 | [],a, _=>by simp [zaZ]
 |b::l,a,h=>by
  simp only [zaZ]
  rw [List.pairwise_cons] at h
  obtain ⟨h1,h2⟩:=h
  split
  ·rename_i e;subst e;exact ziP hc h2
  ·rename_i e
   have ih:=ziP hc h2
   rw [List.pairwise_cons]
   refine ⟨fun x hx=> ?_,ih⟩
   have hx':x=b∨x ∈ l:=zfq.1 aN
   have hax:c a x≤0:=by
    have:=h1 x (by simpa using hx')
    simpa [leC] using this
   have hab:c a b≤0:=by
    have:=h1 b ad
    simpa [leC] using this
   have hbx:c b x≤0:=by
    rcases hx' with rfl|hm
    ·have:=(hc.eq x x).2 rfl;omega
    ·rw [List.pairwise_cons] at h2
     have:=h2.1 x hm
     simpa [leC] using this
   rcases Int.lt_or_eq_of_le hax with h|h
   ·exact h
   ·have ex:=(hc.eq _ _).1 h
    subst ex
    have:=hc.swap a b
    exact absurd ((hc.eq b a).1 aa) e
def za3 (c:α→α→Int) (l:List α):List α:=zbj (zcM c l)
theorem zaG {c:α→α→Int}{l:List α}{x:α}:x ∈ za3 c l↔x ∈ l:=by rw [za3,zla,zfa]
theorem zcR {c:α→α→Int} (hc:Cmp c) (l:List α):(za3 c l).Pairwise (fun a b=>c a b<0):=by
 have h:=zkB hc l
 unfold za3
 cases hs:zcM c l with
 |nil=>simp [zbj]
 |cons a m=>rw [hs] at h;exact ziP hc h
theorem zdz (c:α→α→Int) (l:List α):(za3 c l).length≤l.length:=by
 have:=zA5 (zcM c l)
 rw [ze9] at this
 exact this
omit [DecidableEq α] in
theorem zoh {c:α→α→Int} (hc:Cmp c):∀ {l r:List α},l.Pairwise (fun a b=>c a b<0)→r.Pairwise (fun a b=>c a b<0)→(∀x,x ∈ l↔x ∈ r)→l=r
 | [],r, _, _,h=>by
  cases r with
  |nil=>rfl
  |cons b r=>have:=(h b).2 ad;simp at this
 |a::l, [], _, _,h=>by have:=(h a).1 ad;simp at this
 |a::l,b::r,h1,h2,h=>by
  rw [List.pairwise_cons] at h1 h2
  have irr:∀x:α,¬c x x<0:=fun x hx=>by have:=(hc.eq x x).2 rfl;omega
  have ab:a=b:=by
   rcases List.mem_cons.1 ((h a).1 ad) with e|m
   ·exact e
   ·rcases List.mem_cons.1 ((h b).2 ad) with e|m'
    ·exact e.symm
    ·have k1:=h2.1 a m
     have k2:=h1.1 b m'
     have:=hc.swap a b
     omega
  subst ab
  rw [zoh hc h1.2 h2.2 (fun x=> ?_)]
  constructor
  ·intro hx
   rcases List.mem_cons.1 ((h x).1 (List.mem_cons_of_mem _ hx)) with e|m
   ·subst e;exact absurd (h1.1 _ hx) (irr _)
   ·exact m
  ·intro hx
   rcases List.mem_cons.1 ((h x).2 (List.mem_cons_of_mem _ hx)) with e|m
   ·subst e;exact absurd (h2.1 _ hx) (irr _)
   ·exact m
theorem zeA {c:α→α→Int} (hc:Cmp c){l r:List α} (hr:r.Pairwise (fun a b=>c a b<0)) (h:∀x,x ∈ l↔x ∈ r):za3 c l=r:=
 zoh hc (zcR hc l) hr (fun x=>by rw [zaG];exact h x)
theorem ztt {c:α→α→Int} (hc:Cmp c){l r:List α} (h:∀x,x ∈ l↔x ∈ r):za3 c l=za3 c r:=
 zeA hc (zcR hc r) (fun x=>by rw [zaG];exact h x)
end once
end Go.Av
end
section
open Go Go.Proofs
namespace Go.Av
structure zay where
 cells:Int
 next:List (List Int)
 turn:List Int
 deriving DecidableEq
def zco (b:zay):List AV:= [.int b.cells,zbe b.next,zai b.turn]
attribute [go_sem] zco
def zab.board (g:zab):zay:=⟨g.cells,g.next,g.turn⟩
structure zaP (b:zay):Prop where
 tl:b.turn.length=b.next.length
 tv:∀t ∈ b.turn,0≤t∧t<b.next.length
 nl:∀l ∈ b.next,(l.length:Int)=b.cells
 nv:∀l ∈ b.next,∀x ∈ l, -1≤x∧x<b.cells
 c0:0≤b.cells
 c1:b.cells≤1048576
 n1:b.next.length≤1048576
def toB (b:zay) (side d c:Int):Int:=
 if side<0∨1<side∨d<0∨(b.next.length:Int)≤d∨c<0∨b.cells≤c then -1 else nth (nth b.next (if side=1 then (nth b.turn d.toNat) else d).toNat) c.toNat
theorem zzL {b:zay} (hb:zaP b) (side d c:Int): -1≤toB b side d c∧toB b side d c<b.cells∨toB b side d c= -1:=by
 unfold toB
 split
 ·exact .inr rfl
 ·rename_i h
  left
  have hd:(if side=1 then (nth b.turn d.toNat) else d).toNat<b.next.length:=by
   split
   ·have:=hb.tv _ (zag (l:=b.turn) (i:=d.toNat) (by have:=hb.tl;omega))
    omega
   ·omega
  have hl:=hb.nl _ (zag hd)
  exact hb.nv _ (zag hd) _ (zag aa)
theorem zhF (b:zay) (hb:zaP b) (side d c:Int):zaD Tryz.prog 95 [.agg (zco b), .int side, .int d, .int c] (.int (toB b side d c)):=by
 refine pF Tryz.func95 ?_
 obtain ⟨tl,tv,nl,nv,c0,c1,n1⟩:=hb
 refine J0 ?_
 refine zEr (fun hs=> ?_) (fun hs=> ?_)<;>simp at hs
 ·have e:toB b side d c= -1:=by unfold toB;rw [if_pos aa]
  rw [e]
  exact K0
 ·have hdt:d.toNat<b.next.length:=by omega
  have hdu:d.toNat<b.turn.length:=aa
  have e:toB b side d c=nth (nth b.next (if side=1 then (nth b.turn d.toNat) else d).toNat) c.toNat:=by unfold toB;rw [if_neg aa]
  refine J0 ?_
  refine zEr (fun h1=> ?_) (fun h1=> ?_)<;>simp at h1
  ·rw [if_pos h1] at e
   have ht:=tv _ (zag hdu)
   have hn:(nth b.turn d.toNat).toNat<b.next.length:=aa
   have hl:=nl _ (zag hn)
   have hc:c.toNat<(nth b.next (nth b.turn d.toNat).toNat).length:=aa
   rw [e]
   exact K3 hdu hn hc
  ·rw [if_neg h1] at e
   have hl:=nl _ (zag hdt)
   have hc:c.toNat<(nth b.next d.toNat).length:=aa
   rw [e]
   exact K2 hdt hc
theorem zhI (b:zay) (hb:zaP b) (side d c:Int):zaD Tryz.prog 154 [.agg (zco b), .int side, .int d, .int c] (.int (toB b side d c)):=by
 refine pF Tryz.func154 ?_
 obtain ⟨tl,tv,nl,nv,c0,c1,n1⟩:=hb
 refine J0 ?_
 refine zEr (fun hs=> ?_) (fun hs=> ?_)<;>simp at hs
 ·have e:toB b side d c= -1:=by unfold toB;rw [if_pos aa]
  rw [e]
  exact K0
 ·have hdt:d.toNat<b.next.length:=by omega
  have hdu:d.toNat<b.turn.length:=aa
  have e:toB b side d c=nth (nth b.next (if side=1 then (nth b.turn d.toNat) else d).toNat) c.toNat:=by unfold toB;rw [if_neg aa]
  refine J0 ?_
  refine zEr (fun h1=> ?_) (fun h1=> ?_)<;>simp at h1
  ·rw [if_pos h1] at e
   have ht:=tv _ (zag hdu)
   have hn:(nth b.turn d.toNat).toNat<b.next.length:=aa
   have hl:=nl _ (zag hn)
   have hc:c.toNat<(nth b.next (nth b.turn d.toNat).toNat).length:=aa
   rw [e]
   exact K3 hdu hn hc
  ·rw [if_neg h1] at e
   have hl:=nl _ (zag hdt)
   have hc:c.toNat<(nth b.next d.toNat).length:=aa
   rw [e]
   exact K2 hdt hc
theorem zu3 (l:List Int) (n:Int) (hl:l.length≤1099511627776):zaD Tryz.prog 134 [zai l, .int n] (.v (.bool (decide (n ∈ l)))):=by
 refine pF Tryz.func134 ?_
 generalize hr:decide (n ∈ l)=res
 refine J0 ?_
 refine zEp (zEs (α:=Nat) (fun j=>⟨[(0,zai l),(1, .int n),(5, .int j)], [],0⟩)
  (fun d j=>j+d=l.length∧res=decide (n ∈ l.drop j)) ?_ l.length 0 ?_) ?_ ?_
 ·rintro d j ⟨i1,i2⟩ hrec
  refine J0 ?_
  refine zEr (fun hj=> ?_) (fun hj=> ?_)<;>simp at hj
  ·rw [zcs hj] at i2
   refine J1 hj ?_
   refine zEr (fun he=> ?_) (fun he=> ?_)<;>simp at he
   ·have e:res=true:=by rw [i2,he];simp
    rw [e]
    exact K0
   ·have e:res=decide (n ∈ l.drop (j+1)):=by rw [i2];simp [Ne.symm he]
    refine J0 ?_
    refine zEp (hrec (d - 1) aa (j+1) ⟨aa,e⟩) ?_ ad
    simp [go_sem,zad]
  ·have e:res=false:=by rw [i2,List.drop_eq_nil_of_le hj];simp
   rw [e]
   exact K0
 ·exact ⟨ad,hr.symm⟩
 ·simp [go_sem,zad]
 ·simp
def zjL (l:List Int) (n:Int):Int:=match l.findIdx? (·==n) with|some i=>(i:Int)|none=> -1
theorem zyD {n:Int}{l:List Int}{j:Nat} (hj:j<l.length) (h:∀i,i<j→nth l i≠n) (hp:nth l j=n):zjL l n=j:=by
 have:l.findIdx? (·==n)=some j:=by
  rw [List.findIdx?_eq_some_iff_getElem]
  refine ⟨hj,by rw [← zap _ _ hj,hp];simp,fun i hi=> ?_⟩
  have:=h i hi
  rw [zap _ _ aa] at this
  simp [this]
 simp [zjL,this]
theorem zsU {n:Int}{l:List Int} (h:∀i,i<l.length→nth l i≠n):zjL l n= -1:=by
 have:l.findIdx? (·==n)=none:=by
  rw [List.findIdx?_eq_none_iff]
  intro x hx
  obtain ⟨i,hi,rfl⟩:=List.getElem_of_mem hx
  have:=h i hi
  rw [zap _ _ hi] at this
  simp [this]
 simp [zjL,this]
theorem zvW {l:List Int}{n:Int}:decide (0≤zjL l n)=decide (n ∈ l):=by
 by_cases h:n ∈ l
 ·cases hf:l.findIdx? (·==n) with
  |none=>
   rw [List.findIdx?_eq_none_iff] at hf
   have:=hf n h
   simp at this
  |some i=>simp [zjL,hf,h]
 ·have:l.findIdx? (·==n)=none:=by
   rw [List.findIdx?_eq_none_iff]
   intro x hx
   have:x≠n:=fun e=>h (e▸hx)
   simp [this]
  simp [zjL,this,h]
theorem zuU (l:List Int) (n:Int) (hl:l.length≤1099511627776):zaD Tryz.prog 211 [zai l, .int n] (.int (zjL l n)):=by
 refine pF Tryz.func211 ?_
 refine J0 ?_
 refine zEp (zEs (α:=Nat) (fun j=>⟨[(0,zai l),(1, .int n),(7, .int l.length),(8, .int j)], [],0⟩)
  (fun d j=>j+d=l.length∧∀i,i<j→nth l i≠n) ?_ l.length 0 ?_) ?_ ?_
 ·rintro d j ⟨i1,i2⟩ hrec
  refine J0 ?_
  refine zEr (fun hj=> ?_) (fun hj=> ?_)<;>simp at hj
  ·refine J1 hj ?_
   refine zEr (fun he=> ?_) (fun he=> ?_)<;>simp at he
   ·rw [zyD hj i2 he.symm]
    exact K0
   ·refine J0 ?_
    refine zEp (hrec (d - 1) aa (j+1) ⟨aa,fun i hi=> ?_⟩) ?_ ad
    ·rcases Nat.lt_or_ge i j with h|h
     ·exact i2 i h
     ·obtain rfl:i=j:=by omega
      exact fun e=>he e.symm
    ·simp [go_sem,zad]
  ·rw [zsU (fun i hi=>i2 i aa)]
   exact K0
 ·exact ⟨ad,fun i hi=>aa⟩
 ·simp [go_sem,zad]
 ·simp
theorem zoo (l:List Int) (n:Int) (hl:l.length≤1099511627776):zaD Tryz.prog 181 [zai l, .int n] (.v (.bool (decide (n ∈ l)))):=by
 refine pF Tryz.func181 ?_
 refine J0 ?_
 refine aP (zuU l n hl) ?_
 rw [← zvW]
 exact K0
def zeg (b:zay) (side d c:Int):Nat→Int→List Int→List Int
 |0, _,seen=>seen
 |f+1,x,seen=>if 0≤x∧x≠c∧¬x ∈ seen then zeg b side d c f (toB b side d x) (seen++ [x]) else seen
def zgf (b:zay) (side d c:Int):List Int:=zeg b side d c (b.cells.toNat+1) (toB b side d c) []
theorem zgM:∀ (n:Nat) (l:List Int),l.Nodup→(∀x ∈ l,0≤x∧x<n)→l.length≤n
 |0,l, _,h=>by
  cases l with
  |nil=>simp
  |cons x l=>have:=h x ad;omega
 |n+1,l,hn,h=>by
  by_cases hm:(n:Int) ∈ l
  ·have:=zgM n (l.erase n) (hn.erase _) (fun x hx=>by
    have h1:=(hn.mem_erase_iff).1 hx
    have:=h x h1.2
    have:=h1.1
    omega)
   rw [List.length_erase_of_mem hm] at this
   omega
  ·have:=zgM n l hn (fun x hx=>by
    have:=h x hx
    have:x≠n:=fun e=>hm (e▸hx)
    omega)
   omega
theorem zfe {b:zay} (hb:zaP b) (side d c:Int):toB b side d c<b.cells:=by
 have:=hb.c0
 rcases zzL hb side d c with h|h<;>omega
theorem zkH (b:zay) (hb:zaP b) (side d c:Int):zaD Tryz.prog 97 [.agg (zco b), .int side, .int d, .int c] (zai (zgf b side d c)):=by
 refine pF Tryz.func97 ?_
 have hbl:∀n,(∀c' ∈ zco b,Bel n c')=True:=fun n=>ae
 have hel:(zco b).length=3:=rfl
 have hT:∀x,zaD Tryz.prog 95 [.agg (zco b), .int side, .int d, .int x] (.int (toB b side d x)):=fun x=>zhF b hb side d x
 obtain ⟨eb,heb⟩:∃eb,eb=zco b:=⟨_,rfl⟩
 rw [← heb] at hbl hel hT ⊢
 have hc1:=hb.c1
 have hc0:=hb.c0
 refine J1 hel ?_
 refine zEt (hT c) aH ?_
 refine J1 hel ?_
 refine zEp (zEs (α:=Int×List Int) (fun a=>⟨[(1, .int side),(2, .int d),(3, .int c),(4, .ref 0 0 3 0 0),(9, .sl 1 a.2.length 1 0 a.2.length),(10, .int a.1)],
   [(0, .rows true 0 3 [eb]),(1, .rows true a.2.length 1 (a.2.map zaB))],2⟩)
  (fun f a=>f+a.2.length=b.cells.toNat+1∧a.1<b.cells∧a.2.Nodup∧(∀y ∈ a.2,0≤y∧y<b.cells)∧zgf b side d c=zeg b side d c f a.1 a.2) ?_ (b.cells.toNat+1) (toB b side d c, []) ?_) ?_ ?_
 ·rintro f ⟨x,seen⟩ ⟨i1,i2,i3,i4,i5⟩ hrec
  simp only at i1 i2 i3 i4 i5
  have hsl:seen.length≤b.cells.toNat:=zgM _ _ i3 (fun y hy=>by have:=i4 y hy;omega)
  obtain ⟨f,rfl⟩:∃f',f=f'+1:=⟨f - 1,aa⟩
  rw [zeg] at i5
  refine J1 hel ?_
  refine zER [zai seen, .int x] (.v (.bool (decide (x ∈ seen)))) (fun _=>zu3 seen x aa) (.v _) ?_ ae ?_
  ·refine zav.cons ?_ (zav.cons (.refl _) zav.nil)
   refine LeV.frz rfl ?_ ?_ (zaN.of_eq ?_)<;>simp [noH,List.take_of_length_le]
  ·refine J1 hel ?_
   refine zEr (fun hx=> ?_) (fun hx=> ?_)<;>simp at hx
   ·rw [if_pos (by simpa [and_assoc] using hx)] at i5
    refine J1 hel ?_
    refine zEt (hT x) aH ?_
    refine J1 hel ?_
    refine zEp (hrec f aa (toB b side d x,seen++ [x]) ⟨bm,zfe hb _ _ _, ?_, ?_,i5⟩) ?_ ad
    ·refine List.nodup_append.2 ⟨i3,ad, ?_⟩
     intro y hy z hz
     simp at hz
     subst hz
     rintro rfl
     exact hx.2 hy
    ·intro y hy
     rcases List.mem_append.1 hy with h|h
     ·exact i4 y h
     ·simp at h;omega
    ·simp [go_sem,zad,hbl]
     (first|done|exact blX)
   ·rw [if_neg (by simpa [and_assoc] using hx)] at i5
    rw [i5]
    refine J1 hel ?_
    exact frX
 ·exact ⟨ad,zfe hb _ _ _,ad,ad,rfl⟩
 ·simp [go_sem,zad,hbl]
 ·simp
def dxL:List Int:= [0,1,1,1,0, -1, -1, -1]
def dyL:List Int:= [-1, -1,0,1,1,1,0, -1]
def zgI (w h:Int) (d:Nat) (c:Nat):Int:=
  if (0≤(c:Int).tmod w+nth dxL d∧(c:Int).tmod w+nth dxL d<w)∧0≤(c:Int).tdiv w+nth dyL d∧(c:Int).tdiv w+nth dyL d<h then ((c:Int).tdiv w+nth dyL d) * w+((c:Int).tmod w+nth dxL d) else -1
def zec (w h:Nat) (d:Nat) (n:Nat):List Int:=(List.range n).map (zgI w h d)
def zbZ (w h:Nat) (d:Nat):List (List Int):=(List.range d).map fun d=>zec w h d (w * h)
def zb0 (d:Nat):List Int:=(List.range d).map fun i:Nat=>Int.tmod ((i:Int)+4) 8
def zdr (w h:Nat):zay:=⟨w * h,zbZ w h 8,zb0 8⟩
theorem zjK (w h d n:Nat):zec w h d (n+1)=zec w h d n++ [zgI w h d n]:=by simp [zec,List.range_succ]
theorem zoY (w h d:Nat):zbZ w h (d+1)=zbZ w h d++ [zec w h d (w * h)]:=by simp [zbZ,List.range_succ]
theorem zoZ (d:Nat):zb0 (d+1)=zb0 d++ [Int.tmod ((d:Int)+4) 8]:=by simp [zb0,List.range_succ]
theorem zrW (w h:Nat) (hw:1≤w∧w≤8) (hh:1≤h∧h≤8):zaD Tryz.prog 125 [.int w, .int h] (.tup [.agg (zco (zdr w h)), .int 0]):=by
  refine pF Tryz.func125 ?_
  have hwh:(w:Int) * h≤64:=by
    have:w * h≤8 * 8:=Nat.mul_le_mul hw.2 hh.2
    exact_mod_cast this
  have hwh0:(1:Int)≤(w:Int) * h:=by
    have:1 * 1≤w * h:=Nat.mul_le_mul hw.1 hh.1
    exact_mod_cast this
  obtain ⟨D,hD⟩:∃D:Nat,D=w * h:=⟨_,rfl⟩
  have hD':(w:Int) * h=D:=by rw [hD];simp
  rw [hD'] at hwh hwh0
  have e1:(zco (zdr w h))= [.int D,zbe (zbZ w h 8),zai (zb0 8)]:=by simp [zco,zdr,hD']
  rw [e1]
  have hdx:∀x ∈ dxL, -1≤x∧x≤1:=am
  have hdy:∀x ∈ dyL, -1≤x∧x≤1:=am
  have ldx:dxL.length=8:=rfl
  have ldy:dyL.length=8:=rfl
  have edx:dxL.map zaB= [[.int 0], [.int 1], [.int 1], [.int 1], [.int 0], [.int (-1)], [.int (-1)], [.int (-1)]]:=rfl
  have edy:dyL.map zaB= [[.int (-1)], [.int (-1)], [.int 0], [.int 1], [.int 1], [.int 1], [.int 0], [.int (-1)]]:=rfl
  have hst:∀d c,zgI w h d c=zgI w h d c:=fun _ _=>rfl
  refine J1 hD' ?_
  refine FxF ?_
  refine J1 hD' ?_
  refine zEp (zEs (α:=Nat) (fun d=>⟨[(0, .int w),(1, .int h),(4, .ref 0 0 3 0 0),(6, .sl 1 0 1 0 8),(7, .sl 2 0 1 0 8),(8, .ref 3 0 3 0 0),(9, .int d)],
      [(0, .rows true 0 3 [[.int 0, .v (.slice none 0 0), .v (.slice none 0 0)]]),(1, .rows true 0 1 (dxL.map zaB)),(2, .rows true 0 1 (dyL.map zaB)),
       (3, .rows true 0 3 [[.int D, .sl 4 d 1 0 d, .sl 5 d 1 0 d]]),(4, .rows true d 1 ((zbZ w h d).map fun l=> [zai l])),(5, .rows true d 1 ((zb0 d).map zaB))],6⟩)
    (fun r d=>d+r=8) ?_ 8 0 ?_) ?_ ?_
  · rintro r d i1 hrec
    have lgn:(zbZ w h d).length=d:=by simp [zbZ]
    have lgt:(zb0 d).length=d:=by simp [zb0]
    refine J0 ?_
    refine zEr (fun hd=> ?_) (fun hd=> ?_)<;>simp at hd
    · have hd1:d<dxL.length:=by omega
      have hd2:d<dyL.length:=aa
      have bx:=hdx _ (zag hd1)
      have by_:=hdy _ (zag hd2)
      have hgs:∀c,zgI w h d c=if (0≤(c:Int).tmod w+nth dxL d∧(c:Int).tmod w+nth dxL d<w)∧0≤(c:Int).tdiv w+nth dyL d∧(c:Int).tdiv w+nth dyL d<h then ((c:Int).tdiv w+nth dyL d) * w+((c:Int).tmod w+nth dxL d) else -1:=fun _=>rfl
      refine J0 ?_
      refine zEp (zEs (α:=Nat) (fun c=>⟨[(0, .int w),(1, .int h),(4, .ref 0 0 3 0 0),(6, .sl 1 0 1 0 8),(7, .sl 2 0 1 0 8),(8, .ref 3 0 3 0 0),(9, .int d),(10, .sl 6 c 1 0 c),(11, .int c)],
          [(0, .rows true 0 3 [[.int 0, .v (.slice none 0 0), .v (.slice none 0 0)]]),(1, .rows true 0 1 (dxL.map zaB)),(2, .rows true 0 1 (dyL.map zaB)),
           (3, .rows true 0 3 [[.int D, .sl 4 d 1 0 d, .sl 5 d 1 0 d]]),(4, .rows true d 1 ((zbZ w h d).map fun l=> [zai l])),(5, .rows true d 1 ((zb0 d).map zaB)),(6, .rows true c 1 ((zec w h d c).map zaB))],7⟩)
        (fun s c=>c+s=D) ?_ D 0 ?_) ?_ ?_
      · rintro s c j1 hrec2
        have lgr:(zec w h d c).length=c:=by simp [zec]
        refine J1 hD' ?_
        refine zEr (fun hc=> ?_) (fun hc=> ?_)<;>simp at hc
        · have m0:=Int.tmod_nonneg (w:Int) (show (0:Int)≤c by omega)
          have m1:=Int.tmod_lt_of_pos (c:Int) (show (0:Int)<w by omega)
          have q0:0≤(c:Int).tdiv w:=Int.tdiv_nonneg aa aa
          have q1:(c:Int).tdiv w≤c:=by rw [Int.tdiv_eq_ediv_of_nonneg aa];exact Int.ediv_le_self _ aa
          have hgs:=hgs c
          generalize hmv:(c:Int).tmod w=mv at *
          generalize hqv:(c:Int).tdiv w=qv at *
          generalize hvx:nth dxL d=vx at *
          generalize hvy:nth dyL d=vy at *
          have hp:0≤qv+vy→qv+vy<h→0≤(qv+vy) * w∧(qv+vy) * w≤64:=fun k1 k2=>
            ⟨Int.mul_nonneg k1 aa,by have:=Int.mul_le_mul (show qv+vy≤8 by omega) (show (w:Int)≤8 by omega) aa aa;omega⟩
          refine J7 hd1 hd2 hmv hqv hD' hvx hvy ?_
          refine zEr (fun hg=> ?_) (fun hg=> ?_)<;>simp at hg
          · rw [if_pos aa] at hgs
            have hp:=hp aa aa
            generalize hpw:(qv+vy) * (w:Int)=pw at *
            refine J1 hpw ?_
            refine zEp (hrec2 (s - 1) aa (c+1) aa) ?_ ad
            simp [go_sem,zad,zjK,hgs]
            (first|done|exact blX)
          · rw [if_neg aa] at hgs
            refine J0 ?_
            refine zEp (hrec2 (s - 1) aa (c+1) aa) ?_ ad
            simp [go_sem,zad,zjK,hgs]
            (first|done|exact blX)
        · have hcD:c=w * h:=by omega
          subst hcD
          have hgn:=zoY w h d
          have hgt:=zoZ d
          refine J0 ?_
          refine zEp (hrec (r - 1) aa (d+1) aa) ?_ ad
          simp [go_sem,zad,hgn,hgt]
          refine ⟨⟨?_, ?_⟩, ?_⟩
          · refine za7 (.refl _) ?_
            refine zaN.cons (zav.cons ?_ zav.nil) zaN.nil
            refine LeV.frz rfl ?_ ?_ (zaN.of_eq ?_)<;>simp [mkH,upd,lgr,List.take_of_length_le]
          · rintro r (⟨a, _,rfl⟩|rfl) c hc<;>simp at hc<;>subst hc<;>exact of_eq_true zhJ
          · (first|done|exact blX)
      · simp
      · simp [go_sem,zad,zec]
      · simp
    · have hd8:d=8:=by omega
      subst hd8
      refine J0 ?_
      refine ⟨?_, ?_⟩<;>(refine LeV.frz rfl ?_ ?_ (zaN.of_eq ?_)<;>simp [noH,lgn,lgt,List.take_of_length_le])
  · simp
  · simp [go_sem,zad,edx,edy,zbZ,zb0]
  · simp
def zfH (b:zay) (c:Int) (d x:Nat):Int:=if (x:Int)=c∨nth (nth b.next d) x=c then -1 else nth (nth b.next d) x
def zb7 (b:zay) (c:Int) (d n:Nat):List Int:=(List.range n).map (zfH b c d)
def zba (b:zay) (c:Int) (d:Nat):List (List Int):=(List.range d).map fun d=>zb7 b c d b.cells.toNat
def zcm (b:zay) (c:Int):zay:=⟨b.cells,zba b c b.next.length,b.turn⟩
theorem zgx (b:zay) (c:Int) (d n:Nat):zb7 b c d (n+1)=zb7 b c d n++ [zfH b c d n]:=by simp [zb7,List.range_succ]
theorem zkf (b:zay) (c:Int) (d:Nat):zba b c (d+1)=zba b c d++ [zb7 b c d b.cells.toNat]:=by simp [zba,List.range_succ]
theorem zmL (b:zay) (hb:zaP b) (c:Int) (h0:0≤c) (h1:c<b.cells):zaD Tryz.prog 126 [.agg (zco b), .int c] (.tup [.agg (zco (zcm b c)), .int 0]):=by
  refine pF Tryz.func126 ?_
  obtain ⟨tl,tv,nl,nv,c0,c1,n1⟩:=hb
  have e1:(zco (zcm b c))= [.int b.cells,zbe (zba b c b.next.length),zai b.turn]:=rfl
  rw [e1]
  refine J0 ?_
  refine FxF ?_
  refine J0 ?_
  refine zEp (zEs (α:=Nat) (fun d=>⟨[(1, .int c),(2, .ref 0 0 3 0 0),(4, .ref 1 0 3 0 0),(6, .ref 9 0 3 0 0),(7, .int d)],
      [(0, .rows true 0 3 [zco b]),(1, .rows true 0 3 [[.int 0, .v (.slice none 0 0), .v (.slice none 0 0)]]),(4, .rows true 1 1 (b.turn.map zaB)),
       (9, .rows true 0 3 [[.int b.cells, .sl 11 d 1 0 d, .sl 4 1 1 0 b.turn.length]]),(11, .rows true d 1 ((zba b c d).map fun l=> [zai l]))],12⟩)
    (fun r d=>d+r=b.next.length) ?_ b.next.length 0 ?_) ?_ ?_
  · rintro r d i1 hrec
    have lgn:(zba b c d).length=d:=by simp [zba]
    refine J0 ?_
    refine zEr (fun hd=> ?_) (fun hd=> ?_)<;>simp at hd
    · have hlen:=nl _ (zag hd)
      refine J0 ?_
      refine zEp (zEs (α:=Nat) (fun x=>⟨[(1, .int c),(2, .ref 0 0 3 0 0),(4, .ref 1 0 3 0 0),(6, .ref 9 0 3 0 0),(7, .int d),(8, .sl 12 x 1 0 x),(9, .int x)],
          [(0, .rows true 0 3 [zco b]),(1, .rows true 0 3 [[.int 0, .v (.slice none 0 0), .v (.slice none 0 0)]]),(4, .rows true 1 1 (b.turn.map zaB)),
           (9, .rows true 0 3 [[.int b.cells, .sl 11 d 1 0 d, .sl 4 1 1 0 b.turn.length]]),(11, .rows true d 1 ((zba b c d).map fun l=> [zai l])),(12, .rows true x 1 ((zb7 b c d x).map zaB))],13⟩)
        (fun s x=>x+s=b.cells.toNat) ?_ b.cells.toNat 0 ?_) ?_ ?_
      · rintro s x j1 hrec2
        have lgr:(zb7 b c d x).length=x:=by simp [zb7]
        refine J0 ?_
        refine zEr (fun hx=> ?_) (fun hx=> ?_)<;>simp at hx
        · have hxl:x<(nth b.next d).length:=by omega
          have hgs:zfH b c d x=if (x:Int)=c∨nth (nth b.next d) x=c then -1 else nth (nth b.next d) x:=rfl
          refine J2 hd hxl ?_
          refine zEr (fun hg=> ?_) (fun hg=> ?_)<;>simp at hg
          · rw [if_pos aa] at hgs
            refine J0 ?_
            refine zEp (hrec2 (s - 1) aa (x+1) aa) ?_ ad
            simp [go_sem,zad,zgx,hgs]
            (first|done|exact blX)
          · rw [if_neg aa] at hgs
            refine J0 ?_
            refine zEp (hrec2 (s - 1) aa (x+1) aa) ?_ ad
            simp [go_sem,zad,zgx,hgs]
            (first|done|exact blX)
        · have hcD:x=b.cells.toNat:=by omega
          subst hcD
          have hgn:=zkf b c d
          refine J0 ?_
          refine zEp (hrec (r - 1) aa (d+1) aa) ?_ ad
          simp [go_sem,zad,hgn]
          refine ⟨?_, ?_⟩
          · refine za7 (.refl _) ?_
            refine zaN.cons (zav.cons ?_ zav.nil) zaN.nil
            refine LeV.frz rfl ?_ ?_ (zaN.of_eq ?_)<;>simp [mkH,upd,lgr,List.take_of_length_le]
          · rintro r (⟨a, _,rfl⟩|rfl) c hc<;>simp at hc<;>subst hc<;>exact of_eq_true zhJ
      · simp
      · simp [go_sem,zad,zb7]
      · simp
    · have hd8:d=b.next.length:=by omega
      subst hd8
      refine J0 ?_
      refine ⟨?_, ?_⟩<;>(refine LeV.frz rfl ?_ ?_ (zaN.of_eq ?_)<;>simp [noH,lgn,List.take_of_length_le])
  · simp
  · simp [go_sem,zad,zba]
  · simp
theorem zjy {w h:Nat} (hw:1≤w∧w≤8) (hh:1≤h∧h≤8):zaP (zdr w h):=by
 have hwh:w * h≤64:=Nat.mul_le_mul hw.2 hh.2
 have e:((w:Int) * h)=((w * h:Nat):Int):=ad
 refine ⟨by simp [zdr,zb0,zbZ], ?_, ?_, ?_, ?_, ?_,by simp [zdr,zbZ]⟩
 ·intro t ht
  simp only [zdr,zb0,List.mem_map,List.mem_range] at ht
  obtain ⟨i,hi,rfl⟩:=ht
  have h1:=Int.tmod_nonneg 8 (show (0:Int)≤(i:Int)+4 by omega)
  have h2:=Int.tmod_lt_of_pos ((i:Int)+4) (show (0:Int)<8 by decide)
  simp [zdr,zbZ];omega
 ·intro l hl
  simp only [zdr,zbZ,List.mem_map,List.mem_range] at hl
  obtain ⟨i,hi,rfl⟩:=hl
  simp [zec,zdr]
 ·intro l hl x hx
  simp only [zdr,zbZ,List.mem_map,List.mem_range] at hl
  obtain ⟨i,hi,rfl⟩:=hl
  simp only [zec,List.mem_map,List.mem_range] at hx
  obtain ⟨c,hc,rfl⟩:=hx
  simp only [zdr,zgI]
  split
  ·rename_i hg
   obtain ⟨⟨g1,g2⟩,g3,g4⟩:=hg
   generalize (c:Int).tmod w+nth dxL i=x at *
   generalize (c:Int).tdiv w+nth dyL i=y at *
   have k1:0≤y * w:=Int.mul_nonneg g3 aa
   have k2:y * w≤(h - 1) * w:=Int.mul_le_mul_of_nonneg_right aa aa
   have k3:((h:Int) - 1) * w=w * h - w:=by rw [Int.sub_mul,Int.mul_comm];simp
   omega
  ·omega
 ·simp [zdr];omega
 ·simp only [zdr];omega
theorem zkX {b:zay} (hb:zaP b) (c:Int):zaP (zcm b c):=by
 have hl:(zba b c b.next.length).length=b.next.length:=by simp [zba]
 have hc0:=hb.c0
 refine ⟨by simp only [zcm,hl];exact hb.tl, ?_, ?_, ?_,hb.c0,hb.c1,by simp only [zcm,hl];exact hb.n1⟩
 ·intro t ht
  simp only [zcm,hl]
  exact hb.tv t ht
 ·intro l hl
  simp only [zcm,zba,List.mem_map,List.mem_range] at hl
  obtain ⟨i,hi,rfl⟩:=hl
  simp [zb7,zcm];omega
 ·intro l hl x hx
  simp only [zcm,zba,List.mem_map,List.mem_range] at hl
  obtain ⟨i,hi,rfl⟩:=hl
  simp only [zb7,List.mem_map,List.mem_range] at hx
  obtain ⟨k,hk,rfl⟩:=hx
  simp only [zcm,zfH]
  split
  ·omega
  ·have h1:=hb.nl _ (zag hi)
   exact hb.nv _ (zag hi) _ (zag aa)
def zfQ (w h cut:Int):zay:=
 if 200<cut then zcm (zdr (1+w.tmod 3).toNat (1+h.tmod 3).toNat) (cut.tmod (zdr (1+w.tmod 3).toNat (1+h.tmod 3).toNat).cells) else zdr (1+w.tmod 3).toNat (1+h.tmod 3).toNat
theorem zjz {w h:Int} (hw:0≤w) (hh:0≤h) (cut:Int):zaP (zfQ w h cut):=by
 have a0:=Int.tmod_nonneg 3 hw
 have a1:=Int.tmod_lt_of_pos w (show (0:Int)<3 by decide)
 have b0:=Int.tmod_nonneg 3 hh
 have b1:=Int.tmod_lt_of_pos h (show (0:Int)<3 by decide)
 have hg:zaP (zdr (1+w.tmod 3).toNat (1+h.tmod 3).toNat):=zjy aa aa
 unfold zfQ
 split
 ·exact zkX hg _
 ·exact hg
theorem zrX (w h cut:Int) (hw:0≤w∧w≤255) (hh:0≤h∧h≤255) (hc:0≤cut∧cut≤255):zaD Tryz.prog 89 [.v (.int .u8 w), .v (.int .u8 h), .v (.int .u8 cut)] (.agg (zco (zfQ w h cut))):=by
 refine pF Tryz.func89 ?_
 have a0:=Int.tmod_nonneg 3 hw.1
 have a1:=Int.tmod_lt_of_pos w (show (0:Int)<3 by decide)
 have b0:=Int.tmod_nonneg 3 hh.1
 have b1:=Int.tmod_lt_of_pos h (show (0:Int)<3 by decide)
 obtain ⟨W,hW⟩:∃W:Nat,1+w.tmod 3=W:=⟨(1+w.tmod 3).toNat,aa⟩
 obtain ⟨H,hH⟩:∃H:Nat,1+h.tmod 3=H:=⟨(1+h.tmod 3).toNat,aa⟩
 have e:zfQ w h cut=if 200<cut then zcm (zdr W H) (cut.tmod (zdr W H).cells) else zdr W H:=by unfold zfQ;rw [hW,hH];rfl
 rw [e]
 have hG:=zrW W H aa aa
 have hok:zaP (zdr W H):=zjy aa aa
 have hcl:1≤(zdr W H).cells:=by
  have:1 * 1≤W * H:=Nat.mul_le_mul aa aa
  simp only [zdr];exact_mod_cast this
 generalize zdr W H=b at *
 have m0:=Int.tmod_nonneg b.cells hc.1
 have m1:=Int.tmod_lt_of_pos cut (show (0:Int)<b.cells by omega)
 have hWo:=zmL b hok (cut.tmod b.cells) m0 m1
 have hel:(zco b).length=3:=rfl
 have hbl:∀n,(∀c' ∈ zco b,Bel n c')=True:=fun n=>ae
 refine J2 hW hH ?_
 refine aP hG ?_
 refine J0 ?_
 refine zEr (fun hcut=> ?_) (fun hcut=> ?_)<;>simp at hcut
 ·rw [if_pos hcut]
  refine J0 ?_
  refine dP hWo ?_
  exact K0
 ·rw [if_neg aa]
  exact K0
def zaW (p:List (Int×Int)):AV:= .lst 2 (p.map zbw)
theorem bel_S {n:Nat}{l:List (Int×Int)}:(∀r ∈ l.map zbw,∀c ∈ r,Bel n c)=True:=by
  refine eq_true ?_
  intro r hr c hc
  obtain ⟨x, _,rfl⟩:=List.mem_map.1 hr
  simp only [zbw,List.mem_cons,List.mem_nil_iff,or_false] at hc
  rcases hc with rfl|rfl<;>exact .v _
theorem zoA {n:Nat}{l:List (Int×Int)}:Bel n (.lst 2 (l.map zbw))=True:=by rw [zbt,bel_S]
attribute [go_sem] zaW
attribute [go_sem high] zoA
theorem zxb (l:List Int) (i:Nat) (hi:i≤1000) (hl:l.length≤9223372036854775807) (hv:∀x ∈ l,0≤x∧x≤255):zaD Tryz.prog 166 [zvE l, .int i] (.int (if i<l.length then nth l i else 0)):=by
  refine pF Tryz.func166 ?_
  refine J0 ?_
  refine zEr (fun h=> ?_) (fun h=> ?_)<;>simp at h
  · have hb:=hv _ (zag h)
    rw [if_pos h]
    exact K1 h
  · rw [if_neg aa]
    exact K0
def zrI (d e k r:Int):List (List (Int×Int)):=
  [[(1,d),(3,0)], [(1,d),(4,0),(6,0)], [(2,d)], [(2,d),(4,0),(6,0)], [(1,d),(4,0),(6,0),(1,d)], [(1,d),(1,e)], [(1,d),(7,d)], [(1,d),(3,0),(8,k)],
   [(9,r),(1,d),(1,d),(10,r)], [(1,d),(5,0),(1,d),(3,0)], [(10,r),(1,d)], [(1,d),(4,0),(6,0),(1,(d+4).tmod 8)], [(1,d),(4,0),(6,0),(1,e),(4,0),(6,0)], [(2,d),(5,0),(1,d)], [(1,d),(4,0),(6,0),(8,k)], [(1,d),(7,d),(1,e)]]
theorem zu5 (a b c d e:Int) (hv:∀x ∈ [a,b,c,d,e],0≤x∧x≤255):zaD Tryz.prog 128 [zvE [a,b,c,d,e]] (zaW (nth (zrI (b.tmod 8) (c.tmod 8) (d.tmod 6) (e.tmod 4)) (a.tmod 16).toNat)):=by
  refine pF Tryz.func128 ?_
  have hA:=fun (i:Nat) (hi:i<5)=>zxb [a,b,c,d,e] i aa ad hv
  have h0:=hA 0 aa
  have h1:=hA 1 aa
  have h2:=hA 2 aa
  have h3:=hA 3 aa
  have h4:=hA 4 aa
  clear hA
  simp [nth] at h0 h1 h2 h3 h4 hv
  obtain ⟨v0,v1,v2,v3,v4⟩:=hv
  have b0:=Int.tmod_nonneg 8 v1.1
  have b1:=Int.tmod_lt_of_pos b (show (0:Int)<8 by decide)
  have a0:=Int.tmod_nonneg 16 v0.1
  have a1:=Int.tmod_lt_of_pos a (show (0:Int)<16 by decide)
  refine J0 ?_
  refine aP h1 ?_
  refine J0 ?_
  refine aP h2 ?_
  refine J0 ?_
  refine aP h3 ?_
  refine J0 ?_
  refine aP h4 ?_
  generalize hbv:b.tmod 8=B at *
  generalize hcv:c.tmod 8=C at *
  generalize hdv:d.tmod 6=D at *
  generalize hev:e.tmod 4=E at *
  refine J4 hbv hcv hdv hev ?_
  refine aP h0 ?_
  refine J0 ?_
  obtain ⟨i,hi⟩:∃i:Nat,a.tmod 16=i:=⟨(a.tmod 16).toNat,aa⟩
  rw [hi] at a0 a1 ⊢
  rcases (show i=0∨i=1∨i=2∨i=3∨i=4∨i=5∨i=6∨i=7∨i=8∨i=9∨i=10∨i=11∨i=12∨i=13∨i=14∨i=15 by omega) with rfl|rfl|rfl|rfl|rfl|rfl|rfl|rfl|rfl|rfl|rfl|rfl|rfl|rfl|rfl|rfl<;>
    (simp [nth,cel,zrI,zbw];refine LeV.frz rfl ?_ ?_ (zaN.of_eq ?_)<;>simp [noH])
def zbG (dirs kinds rights:Int) (x:Int×Int):Option (Int×Int):=
 if x.1=1∨x.1=2∨x.1=7 then some (x.1,x.2.tmod dirs) else if x.1=8 then some (x.1,x.2.tmod kinds)
 else if x.1=9∨x.1=10 then (if rights=0 then none else some (x.1,x.2.tmod rights)) else some x
def zCt (dirs kinds rights:Int) (p:List (Int×Int)):List (Int×Int):=if p.filterMap (zbG dirs kinds rights)= [] then [(3,0)] else p.filterMap (zbG dirs kinds rights)
theorem zyo {α β:Type} [Inhabited α] (f:α→Option β) (l:List α) (j:Nat) (h:j<l.length):(l.take (j+1)).filterMap f=(l.take j).filterMap f++(f (nth l j)).toList:=by
 rw [List.take_add_one,List.filterMap_append,List.getElem?_eq_getElem h,zap _ _ h]
 cases hf:f l[j]<;>simp [hf]
theorem zu4 (p:List (Int×Int)) (hp:p.length≤1048576) (dirs kinds rights:Int) (hd:1≤dirs) (hk:1≤kinds) (hr:0≤rights):
  zaD Tryz.prog 127 [zaW p, .int dirs, .int kinds, .int rights] (zaW (zCt dirs kinds rights p)):=by
 refine pF Tryz.func127 ?_
 refine J0 ?_
 refine zEp (zEs (α:=Nat×List (Int×Int)) (fun a=>⟨[(0,zaW p),(1, .int dirs),(2, .int kinds),(3, .int rights),(9, .sl 0 a.2.length 2 0 a.2.length),(10, .int a.1)], [(0, .rows true a.2.length 2 (a.2.map zbw))],1⟩)
  (fun d a=>a.1+d=p.length∧a.2=(p.take a.1).filterMap (zbG dirs kinds rights)∧a.2.length≤a.1) ?_ p.length (0, []) ?_) ?_ ?_
 ·rintro d ⟨j,out⟩ ⟨i1,i2,i3⟩ hrec
  simp only at i1 i2 i3
  refine J0 ?_
  refine zEr (fun hj=> ?_) (fun hj=> ?_)<;>simp at hj
  ·have hs:=zyo (zbG dirs kinds rights) p j hj
   rw [← i2] at hs
   generalize hx:nth p j=x at *
   obtain ⟨op,n⟩:=x
   have hgo:∀y,zbG dirs kinds rights (op,n)=some y→out++ [y]=(p.take (j+1)).filterMap (zbG dirs kinds rights)∧(out++ [y]).length≤j+1:=fun y hy=>by rw [hs,hy];simp;omega
   have hbel:∀y:Int×Int,∀r ∈ (out++ [y]).map zbw,∀c ∈ r,Bel 1 c:=fun y=>of_eq_true bel_S
   rcases (show (op=1∨op=2∨op=7)∨op=8∨(op=9∨op=10)∨(op≠1∧op≠2∧op≠7∧op≠8∧op≠9∧op≠10) by omega) with c1|c1|c1|⟨c1,c2,c3,c4,c5,c6⟩
   ·have hf:zbG dirs kinds rights (op,n)=some (op,n.tmod dirs):=by unfold zbG;rw [if_pos c1]
    obtain ⟨k1,k2⟩:=hgo _ hf
    have hb:=hbel (op,n.tmod dirs)
    rcases c1 with rfl|rfl|rfl<;>
    ·refine J2 hj hx ?_
     refine zEp (hrec (d - 1) aa (j+1,out++ [(_,n.tmod dirs)]) ⟨ah,k1,k2⟩) ?_ ad
     simp [go_sem,zad] at hb ⊢
     try exact hb
   ·have hf:zbG dirs kinds rights (op,n)=some (op,n.tmod kinds):=by unfold zbG;rw [if_neg aa,if_pos c1]
    obtain ⟨k1,k2⟩:=hgo _ hf
    have hb:=hbel (op,n.tmod kinds)
    subst c1
    refine J2 hj hx ?_
    refine zEp (hrec (d - 1) aa (j+1,out++ [(_,n.tmod kinds)]) ⟨ah,k1,k2⟩) ?_ ad
    simp [go_sem,zad] at hb ⊢
    try exact hb
   ·by_cases hr0:rights=0
    ·have hf:zbG dirs kinds rights (op,n)=none:=by unfold zbG;rw [if_neg aa,if_neg aa,if_pos c1,if_pos hr0]
     rw [hf,Option.toList_none,List.append_nil] at hs
     have hb:=hbel (op,n)
     subst hr0
     rcases c1 with rfl|rfl<;>
     ·refine J2 hj hx ?_
      refine zEp (hrec (d - 1) aa (j+1,out) ⟨ah,hs.symm,ah⟩) ?_ ad
      simp [go_sem,zad]
      rintro r x y _ rfl c hc
      simp at hc
      rcases hc with rfl|rfl<;>exact .v _
    ·have hf:zbG dirs kinds rights (op,n)=some (op,n.tmod rights):=by unfold zbG;rw [if_neg aa,if_neg aa,if_pos c1,if_neg hr0]
     obtain ⟨k1,k2⟩:=hgo _ hf
     have hb:=hbel (op,n.tmod rights)
     rcases c1 with rfl|rfl<;>
     ·refine J3 hj hx hr0 ?_
      refine zEp (hrec (d - 1) aa (j+1,out++ [(_,n.tmod rights)]) ⟨ah,k1,k2⟩) ?_ ad
      simp [go_sem,zad] at hb ⊢
      try exact hb
   ·have hf:zbG dirs kinds rights (op,n)=some (op,n):=by unfold zbG;rw [if_neg aa,if_neg aa,if_neg aa]
    obtain ⟨k1,k2⟩:=hgo _ hf
    have hb:=hbel (op,n)
    refine J8 hj hx c1 c2 c3 c4 c5 c6 ?_
    refine zEp (hrec (d - 1) aa (j+1,out++ [(op,n)]) ⟨ah,k1,k2⟩) ?_ ad
    simp [go_sem,zad] at hb ⊢
    try exact hb
  ·have hout:zCt dirs kinds rights p=if out= [] then [(3,0)] else out:=by
    unfold zCt
    rw [i2,List.take_of_length_le hj]
   rw [hout]
   refine J0 ?_
   refine zEr (fun ho=> ?_) (fun ho=> ?_)<;>simp at ho
   ·rw [if_pos ho]
    refine J0 ?_
    refine LeV.frz rfl ?_ ?_ (zaN.of_eq ?_)<;>simp [noH]
   ·rw [if_neg ho]
    refine J0 ?_
    refine LeV.frz rfl ?_ ?_ (zaN.of_eq ?_)<;>simp [noH,List.take_of_length_le]
 ·simp
 ·simp [go_sem,zad]
 ·simp
def zmX (n dirs kinds rights:Int):List (Int×Int):=
 zCt dirs kinds rights (nth (zrI ((n.tdiv 16).tmod 8) ((n.tdiv 16+n.tmod 5).tmod 8) ((n.tdiv 3).tmod 6) (n.tmod 4)) (n.tmod 16).toNat)
theorem zBF (d e k r:Int) (i:Nat):(nth (zrI d e k r) i).length≤6:=by
 rcases Nat.lt_or_ge i 16 with h|h
 ·have:∀l ∈ zrI d e k r,l.length≤6:=by simp [zrI]
  exact this _ (zag h)
 ·have:nth (zrI d e k r) i= []:=by
   unfold nth
   rw [List.getD_eq_getElem?_getD,List.getElem?_eq_none (by exact h)];rfl
  rw [this];simp
theorem zfk (n dirs kinds rights:Int) (hn:0≤n∧n≤255) (hd:1≤dirs) (hk:1≤kinds) (hr:0≤rights):
  zaD Tryz.prog 90 [.v (.int .u8 n), .int dirs, .int kinds, .int rights] (zaW (zmX n dirs kinds rights)):=by
 refine pF Tryz.func90 ?_
 have q0:0≤n.tdiv 16∧n.tdiv 16≤15:=by rw [Int.tdiv_eq_ediv_of_nonneg hn.1];omega
 have q1:0≤n.tdiv 3∧n.tdiv 3≤255:=by rw [Int.tdiv_eq_ediv_of_nonneg hn.1];omega
 have m0:=Int.tmod_nonneg 5 hn.1
 have m1:=Int.tmod_lt_of_pos n (show (0:Int)<5 by decide)
 have hL:=zu5 n (n.tdiv 16) (n.tdiv 16+n.tmod 5) (n.tdiv 3) n ak
 unfold zmX
 have hpl:=zBF ((n.tdiv 16).tmod 8) ((n.tdiv 16+n.tmod 5).tmod 8) ((n.tdiv 3).tmod 6) (n.tmod 4) (n.tmod 16).toNat
 generalize nth (zrI ((n.tdiv 16).tmod 8) ((n.tdiv 16+n.tmod 5).tmod 8) ((n.tdiv 3).tmod 6) (n.tmod 4)) (n.tmod 16).toNat=p at *
 have hF:=zu4 p aa dirs kinds rights hd hk hr
 generalize hqa:n.tdiv 16=qa at *
 generalize hqb:n.tdiv 3=qb at *
 generalize hmc:n.tmod 5=mc at *
 refine J3 hqa hqb hmc ?_
 refine zEv [0] hL ?_ ae ?_
 ·refine zav.cons ?_ zav.nil
  refine LeV.frz rfl ?_ ?_ (zaN.of_eq ?_)<;>simp [za6,zbr,upd,zqd]
 ·refine J0 ?_
  refine aP hF ?_
  exact K0
theorem zkI (n a b:Int):zaD Tryz.prog 168 [.int n, .int a, .int b] (.v (.bool (decide (a≤n∧n≤b)))):=by
 refine pF Tryz.func168 ?_
 exact K0
def zan (c:Int):Int×Int:=if 1≤c∧c≤12 then ((c - 1).tdiv 2,(c - 1).tmod 2) else (-1, -1)
theorem zfX (c:Int):zaD Tryz.prog 130 [.int c] (.agg [.int (zan c).1, .int (zan c).2]):=by
 refine pF Tryz.func130 ?_
 refine J0 ?_
 refine aP (zkI c 1 12) ?_
 by_cases h:1≤c∧c≤12
 ·have e:zan c=((c - 1).tdiv 2,(c - 1).tmod 2):=by unfold zan;rw [if_pos h]
  have q:(c - 1).tdiv 2=(c - 1) / 2:=Int.tdiv_eq_ediv_of_nonneg aa
  rw [e]
  exact K2 h q
 ·have e:zan c=(-1, -1):=by unfold zan;rw [if_neg h]
  rw [e]
  exact K1 h
def zal (k s:Int):Int:=if (0≤k∧k≤5)∧0≤s∧s≤1 then 2 * k+1+s else 0
theorem zfl (k s:Int):zaD Tryz.prog 133 [.int k, .int s] (.int (zal k s)):=by
 refine pF Tryz.func133 ?_
 refine J0 ?_
 refine aP (zkI k 0 5) ?_
 refine J0 ?_
 refine zEy _ (fun _=>zkI s 0 1) ae ?_
 refine J0 ?_
 refine zEr (fun h=> ?_) (fun h=> ?_)<;>simp at h
 ·have e:zal k s=0:=by unfold zal;rw [if_neg aa]
  rw [e]
  exact K0
 ·have e:zal k s=2 * k+1+s:=by unfold zal;rw [if_pos aa]
  rw [e]
  refine J0 ?_
  exact LeV.of_eq (by congr 2;omega)
structure StD where
 p:zaf
 kind:Int
 cursor:Int
 took:Bool
 deriving DecidableEq
structure zcq where
 pos:zaf
 took:Bool
 deriving DecidableEq
instance:Inhabited StD:=⟨⟨default,0,0,false⟩⟩
instance:Inhabited zcq:=⟨⟨default,false⟩⟩
def zaw (s:StD):List AV:= [zai s.p.at_,zai s.p.h0,zai s.p.h1, .int s.p.rights, .int s.p.side, .int s.kind, .int s.cursor, .v (.bool s.took)]
def zbX (l:List StD):AV:= .lst 8 (l.map zaw)
def zaS (o:zcq):List AV:= [zai o.pos.at_,zai o.pos.h0,zai o.pos.h1, .int o.pos.rights, .int o.pos.side, .v (.bool o.took)]
def zhR (l:List zcq):AV:= .lst 6 (l.map zaS)
attribute [go_sem] zaw zbX zaS zhR
theorem ztU {n:Nat}{l:List StD}:(∀r ∈ l.map zaw,∀c ∈ r,Bel n c)=True:=by
 refine eq_true ?_
 intro r hr c hc
 obtain ⟨x, _,rfl⟩:=List.mem_map.1 hr
 revert c
 simp [go_sem]
theorem zss {n:Nat}{l:List StD}:Bel n (.lst 8 (l.map zaw))=True:=by rw [zbt,ztU]
theorem ztT {n:Nat}{l:List zcq}:(∀r ∈ l.map zaS,∀c ∈ r,Bel n c)=True:=by
 refine eq_true ?_
 intro r hr c hc
 obtain ⟨x, _,rfl⟩:=List.mem_map.1 hr
 revert c
 simp [go_sem]
theorem zDf {n:Nat}{l:List zcq}:Bel n (.lst 6 (l.map zaS))=True:=by rw [zbt,ztT]
attribute [go_sem high] zss zDf
def zaf.hand (p:zaf) (side:Int):List Int:=if side=0 then p.h0 else p.h1
def zaf.withHand (p:zaf) (side:Int) (l:List Int):zaf:=if side=0 then { p with h0:=l} else { p with h1:=l}
structure zeP (dirs kinds rights:Int) (x:Int×Int):Prop where
 op:1≤x.1∧x.1≤10
 dir:x.1=1∨x.1=2∨x.1=7→0≤x.2∧x.2<dirs
 zero:x.1=3∨x.1=4∨x.1=5∨x.1=6→x.2=0
 kind:x.1=8→0≤x.2∧x.2<kinds
 right:x.1=9∨x.1=10→0≤x.2∧x.2<rights
def zaF (p:List (Int×Int)) (op:Int):Nat:=p.countP (fun x=>x.1==op)
structure zpI (dirs kinds rights:Int) (p:List (Int×Int)):Prop where
 ne:1≤p.length
 len:p.length≤8
 st:∀x ∈ p,zeP dirs kinds rights x
 take:zaF p 6≤2
 push:zaF p 7≤1
 become:zaF p 8≤1
structure zgy (cells kinds:Int) (c:Int×Int×Int×Int):Prop where
 cond:c.1=1∨c.1=2∨c.1=3
 kind:0≤c.2.1∧c.2.1<kinds
 n:0≤c.2.2.1∧(c.1=2→c.2.2.1<cells)∧(c.1=1→c.2.2.1=0)∧c.2.2.1≤64
 then_:1≤c.2.2.2∧c.2.2.2≤3
 few:c.1=3→c.2.1=0
structure GOk (g:zab):Prop where
 board:zaP g.board
 c1:1≤g.cells
 c9:g.cells≤9
 d1:1≤g.next.length
 d8:g.next.length≤8
 turn:∀d,d<g.turn.length→nth g.turn (nth g.turn d).toNat=d
 k1:1≤g.kinds.length
 k6:g.kinds.length≤6
 pn:∀k ∈ g.kinds,k.progs.length≤8
 pr:∀k ∈ g.kinds,∀p ∈ k.progs,zpI g.next.length g.kinds.length g.rights p
 r0:0≤g.rights
 r4:g.rights≤4
 cl:∀c ∈ g.clauses,zgy g.cells g.kinds.length c
 cn:g.clauses.length≤6
 bl:1≤g.blocked∧g.blocked≤3
 en:1≤g.endless∧g.endless≤3
def zby (s:StD):List Int→List StD
 | []=> []
 |c::l=>{ s with cursor:=c}::(if nth s.p.at_ c.toNat=0 then zby s l else [])
def zmq (b:zay) (s:StD) (n:Int):List StD:=zby s (zgf b s.p.side n s.cursor)
def clr (p:zaf) (c:Int):zaf:={ p with at_:=p.at_.set c.toNat 0}
def zm3 (g:zab) (s:StD):List StD:=
 let m:=zan (nth s.p.at_ s.cursor.toNat)
 if m.1<0∨m.2=s.p.side then [] else
 if (nth g.kinds m.1.toNat).keep=true then
  if 8<nth (s.p.hand s.p.side) m.1.toNat+1 then []
  else [{ s with p:=(clr s.p s.cursor).withHand s.p.side ((s.p.hand s.p.side).set m.1.toNat (nth (s.p.hand s.p.side) m.1.toNat+1)),took:=true}]
 else [{ s with p:=clr s.p s.cursor,took:=true}]
def zm1 (g:zab) (s:StD) (n:Int):List StD:=
 let to:=toB g.board s.p.side n s.cursor
 if nth s.p.at_ s.cursor.toNat=0∨to<0∨nth s.p.at_ to.toNat≠0 then []
 else [{ s with p:={ s.p with at_:=(s.p.at_.set to.toNat (nth s.p.at_ s.cursor.toNat)).set s.cursor.toNat 0}}]
def zcX (s:StD) (b:Bool):List StD:=if b then [s] else []
def zbS (g:zab) (s:StD) (x:Int×Int):List StD:=
 let m:=zan (nth s.p.at_ s.cursor.toNat)
 if x.1=1 then zcX { s with cursor:=toB g.board s.p.side x.2 s.cursor} (decide (0≤toB g.board s.p.side x.2 s.cursor))
 else if x.1=2 then zmq g.board s x.2
 else if x.1=3 then zcX s (decide (m.1<0))
 else if x.1=4 then zcX s (decide (0≤m.1∧m.2≠s.p.side))
 else if x.1=5 then zcX s (decide (0≤m.1∧m.2=s.p.side))
 else if x.1=6 then zm3 g s
 else if x.1=7 then zm1 g s x.2
 else if x.1=8 then [{ s with kind:=x.2}]
 else if x.1=9 then zcX s (decide (ziI .i64 (s.p.rights.fdiv (2 ^ x.2.toNat)) 1=1))
 else if x.1=10 then [{ s with p:={ s.p with rights:=zbg .i64 s.p.rights (2 ^ x.2.toNat)}}]
 else [s]
def zeN (l:List StD) (more:List StD):List StD:=more.foldl (fun l s=>if s ∈ l then l else l++ [s]) l
def zht (g:zab) (now:List StD) (x:Int×Int):List StD:=now.foldl (fun next s=>zeN next (zbS g s x)) []
def zfb (p:zaf) (cell:Int):StD:=⟨clr p cell,(zan (nth p.at_ cell.toNat)).1,cell,false⟩
def zeJ (g:zab) (p:zaf) (cell:Int) (prog:List (Int×Int)):List StD:=prog.foldl (zht g) [zfb p cell]
def za1 (g:zab) (p:zaf) (cell i:Int):List (Int×Int):=nth (nth g.kinds (zan (nth p.at_ cell.toNat)).1.toNat).progs i.toNat
def zgX (side:Int) (s:StD):Option zcq:=
 if nth s.p.at_ s.cursor.toNat=0 then some ⟨{ s.p with at_:=s.p.at_.set s.cursor.toNat (zal s.kind side),side:=1 - side},s.took⟩ else none
def zjC (a b:zcq):Int:=zDQ (zbi a.pos b.pos) (za8 (if a.took then 1 else 0) (if b.took then 1 else 0))
theorem zci:Cmp zjC:=by
 have h:Cmp (fun (a b:Bool)=>za8 (if a then 1 else 0) (if b then 1 else 0)):=
  zb2.pull (fun b:Bool=>if b then (1:Int) else 0) (fun a b=>by cases a<;>cases b<;>simp)
 exact (zaU.prod h).pull (fun o:zcq=>(o.pos,o.took)) (fun a b e=>by cases a;cases b;simp at e;simp [e])
def zqQ (a b:zcq):Bool:=decide (zbi a.pos b.pos<0)||(decide (zbi a.pos b.pos=0) && !a.took && b.took)
theorem zo9 (a b:zcq):zqQ a b=decide (zjC a b<0):=by
 unfold zqQ zjC zDQ
 by_cases h:zbi a.pos b.pos=0
 ·rw [if_neg aK]
  simp only [h]
  cases a.took<;>cases b.took<;>simp [za8]
 ·rw [if_pos h]
  simp [h]
def zbP (x:zcq):List zcq→List zcq
 | []=> [x]
 |y::l=>if zqQ y x then y::zbP x l else if zqQ x y then x::y::l else y::l
theorem zfv {x z:zcq}:∀ {l:List zcq},z ∈ zbP x l↔z=x∨z ∈ l
 | []=>by simp [zbP]
 |y::l=>by
  simp only [zbP]
  split
  ·rw [List.mem_cons,zfv,List.mem_cons]
   exact ⟨fun h=>cE,fun h=>cE⟩
  ·split
   ·simp
   ·rename_i h1 h2
    rw [zo9] at h1 h2
    have:=zci.swap x y
    have e:=(zci.eq x y).1 (by simp at h1 h2;omega)
    subst e
    simp
theorem znF {x:zcq}:∀ {l:List zcq},l.Pairwise (fun a b=>zjC a b<0)→(zbP x l).Pairwise (fun a b=>zjC a b<0)
 | [], _=>by simp [zbP]
 |y::l,h=>by
  rw [List.pairwise_cons] at h
  simp only [zbP]
  split
  ·rename_i h1
   rw [zo9] at h1
   rw [List.pairwise_cons]
   refine ⟨fun z hz=> ?_,znF h.2⟩
   rcases zfv.1 hz with rfl|hz
   ·simpa using h1
   ·exact h.1 z hz
  ·split
   ·rename_i h1
    rw [zo9] at h1
    have hxy:zjC x y<0:=bi
    refine List.pairwise_cons.2 ⟨fun z hz=> ?_,List.pairwise_cons.2 h⟩
    rcases List.mem_cons.1 hz with rfl|hz
    ·exact hxy
    ·have hyz:=h.1 z hz
     have t:=zci.tr x y z aa aa
     rcases Int.lt_or_eq_of_le t with h|h
     ·exact h
     ·have e:=(zci.eq _ _).1 h
      subst e
      have:=zci.swap x y
      omega
   ·exact List.pairwise_cons.2 h
theorem zgc:∀ (l acc:List zcq),acc.Pairwise (fun a b=>zjC a b<0)→
  (l.foldl (fun a x=>zbP x a) acc).Pairwise (fun a b=>zjC a b<0)∧∀z,z ∈ l.foldl (fun a x=>zbP x a) acc↔z ∈ l∨z ∈ acc
 | [],acc,h=>⟨h,fun z=>ad⟩
 |x::l,acc,h=>by
  obtain ⟨h1,h2⟩:=zgc l (zbP x acc) (znF h)
  refine ⟨h1,fun z=> ?_⟩
  rw [List.foldl_cons,h2,zfv,List.mem_cons]
  exact ⟨fun h=>cE,fun h=>by rcases h with (h|h)|h<;>simp [h]⟩
theorem zsW (l:List zcq):l.foldl (fun a x=>zbP x a) []=za3 zjC l:=
 (zeA zci (zgc l [] ad).1 (fun z=>by rw [(zgc l [] ad).2];simp)).symm
def zdu (g:zab) (p:zaf) (cell i:Int):List zcq:=za3 zjC ((zeJ g p cell (za1 g p cell i)).filterMap (zgX p.side))
def zf2 (g:zab) (p:zaf) (k c:Nat):Option zaf:=
 if nth (p.hand p.side) k=0∨nth p.at_ c≠0 then none
 else some {({ p with at_:=p.at_.set c (zal k p.side)}.withHand p.side ((p.hand p.side).set k (nth (p.hand p.side) k - 1))) with side:=1 - p.side}
def zx8 (g:zab) (p:zaf):List zaf:=(List.range g.kinds.length).flatMap fun k=>(List.range p.at_.length).filterMap fun c=>zf2 g p k c
def zcI (g:zab) (p:zaf):List zaf:=za3 zbi (zx8 g p)
def zeZ (p:zaf) (side kind:Int) (c:Int):Bool:=decide (0≤(zan c).1) && decide ((zan c).2=side) && (decide (kind<0)||decide ((zan c).1=kind))
def zwZ (p:zaf) (side kind:Int):Nat:=p.at_.countP (zeZ p side kind)
def zd7 (c:Int×Int×Int×Int) (p:zaf):Bool:=
 if c.1=1 then decide (zwZ p p.side c.2.1=0)
 else if c.1=2 then decide (nth p.at_ c.2.2.1.toNat=zal c.2.1 (1 - p.side))
 else decide ((zwZ p p.side (-1):Int)≤c.2.2.1)
def zdl (g:zab) (p:zaf):Int:=match g.clauses.findIdx? (fun c=>zd7 c p) with|some i=>(i:Int)|none=> -1
def zdm (g:zab) (p:zaf) (c:Nat):List zcq:=
 if 0≤(zan (nth p.at_ c)).1∧(zan (nth p.at_ c)).2=p.side then
  (List.range (nth g.kinds (zan (nth p.at_ c)).1.toNat).progs.length).flatMap fun (i:Nat)=>zdu g p c i
 else []
def zdJ (g:zab) (p:zaf):List zcq:=(List.range p.at_.length).flatMap (zdm g p)
def zgV (g:zab) (p:zaf):Bool:=g.must && (zdJ g p).any (·.took)
def zdR (g:zab) (p:zaf):List zaf:=((zdJ g p).filter fun o=> !zgV g p||o.took).map (·.pos)++(if zgV g p then [] else zcI g p)
def zar (g:zab) (p:zaf):List zaf:=if 0≤zdl g p then [] else za3 zbi (zdR g p)
def zgv (g:zab):zaf→List Int→List zaf
 |p, []=> [p]
 |p,k::l=>if zar g p= [] then [p] else p::zgv g (nth (zar g p) (k.emod (zar g p).length).toNat) l
structure zj4 where
 w:Int
 h:Int
 cut:Int
 k0:List Int
 k1:List Int
 c:List (Int×Int×Int)
 f0:Int
 f1:Int
 f2:Int
 f3:Int
 f4:Int
 f5:Int
def U8 (n:Int):Prop:=0≤n∧n≤255
structure zu9 (x:zj4):Prop where
 w:U8 x.w
 h:U8 x.h
 cut:U8 x.cut
 k0:∀n ∈ x.k0,U8 n
 k1:∀n ∈ x.k1,U8 n
 c:∀t ∈ x.c,U8 t.1∧U8 t.2.1∧U8 t.2.2
 f0:U8 x.f0
 f1:U8 x.f1
 f2:U8 x.f2
 f3:U8 x.f3
 f4:U8 x.f4
 f5:U8 x.f5
def zx9 (c:Int×Int×Int):List AV:= [.v (.int .u8 c.1), .v (.int .u8 c.2.1), .v (.int .u8 c.2.2)]
def zdk (x:zj4):List AV:= [.v (.int .u8 x.w), .v (.int .u8 x.h), .v (.int .u8 x.cut),zvE x.k0,zvE x.k1, .lst 3 (x.c.map zx9),
 .v (.int .u8 x.f0), .v (.int .u8 x.f1), .v (.int .u8 x.f2), .v (.int .u8 x.f3), .v (.int .u8 x.f4), .v (.int .u8 x.f5)]
attribute [go_sem] zx9 zdk
theorem zCm {n:Nat}{l:List (Int×Int×Int)}:(∀r ∈ l.map zx9,∀c ∈ r,Bel n c)=True:=by
 refine eq_true ?_
 intro r hr c hc
 obtain ⟨x, _,rfl⟩:=List.mem_map.1 hr
 revert c
 simp [go_sem]
theorem zDc {n:Nat}{l:List (Int×Int×Int)}:Bel n (.lst 3 (l.map zx9))=True:=by rw [zbt,zCm]
theorem zDe {n:Nat}{l:List zfM}:(∀r ∈ l.map zaV,∀c ∈ r,Bel n c)=True:=by
 refine eq_true ?_
 intro r hr c hc
 obtain ⟨x, _,rfl⟩:=List.mem_map.1 hr
 simp only [zaV,List.mem_cons,List.not_mem_nil,or_false] at hc
 rcases hc with rfl|rfl|rfl
 ·exact .v _
 ·refine .lst fun r hr c hc=> ?_
  obtain ⟨p, _,rfl⟩:=List.mem_map.1 hr
  simp only [List.mem_cons,List.not_mem_nil,or_false] at hc
  subst hc
  exact of_eq_true zoA
 ·exact .v _
theorem bel_Ks {n:Nat}{l:List zfM}:Bel n (.lst 3 (l.map zaV))=True:=by rw [zbt,zDe]
theorem zxD {n:Nat}{l:List (Int×Int×Int×Int)}:(∀r ∈ l.map za0,∀c ∈ r,Bel n c)=True:=by
 refine eq_true ?_
 intro r hr c hc
 obtain ⟨x, _,rfl⟩:=List.mem_map.1 hr
 revert c
 simp [go_sem]
theorem zDd {n:Nat}{l:List (Int×Int×Int×Int)}:Bel n (.lst 4 (l.map za0))=True:=by rw [zbt,zxD]
theorem zxE {n:Nat}{l:List (List (Int×Int))}:(∀r ∈ l.map (fun p=> [zaW p]),∀c ∈ r,Bel n c)=True:=by
 refine eq_true ?_
 intro r hr c hc
 obtain ⟨p, _,rfl⟩:=List.mem_map.1 hr
 simp only [List.mem_cons,List.not_mem_nil,or_false] at hc
 subst hc
 exact of_eq_true zoA
theorem zDh {n:Nat}{l:List (List (Int×Int))}:Bel n (.lst 1 (l.map (fun p=> [zaW p])))=True:=by rw [zbt,zxE]
attribute [go_sem high] zDc bel_Ks zDd zDh
attribute [go_sem ↓] zCm zDe zxD zxE zvm zAL ztU ztT List.forall_mem_append
def zlU:ByteArray:=⟨#[97]⟩
def zmZ:ByteArray:=⟨#[98,101,101]⟩
def zxO (f:Int) (i:Nat):Bool:=decide (ziI .u8 (f.fdiv (2 ^ i)) 1=1)
def zdb (x:zj4):Nat:=if x.k1= [] then 1 else 2
def zj4.board (x:zj4):zay:=zfQ x.w x.h x.cut
def zj4.rights (x:zj4):Int:=x.f0.tmod 3
def zj4.ks (x:zj4) (i:Nat):List Int:=if i=0 then x.k0 else x.k1
def zfK (x:zj4) (i:Nat):zfM:=
 ⟨if i=0 then zlU else zmZ,((x.ks i).take 4).map (fun n=>zmX n x.board.next.length (zdb x) x.rights),zxO x.f2 i⟩
def zbm (cells kinds:Int) (c:Int×Int×Int):Int×Int×Int×Int:=
 (1+c.1.tmod 3,(if 1+c.1.tmod 3≠3 then c.2.1.tmod kinds else 0),(if 1+c.1.tmod 3=2 then c.2.2.tmod cells else if 1+c.1.tmod 3=3 then c.2.2.tmod 3 else 0),1+(c.1.tdiv 4).tmod 3)
def zig (x:zj4):zab:=
 { cells:=x.board.cells,next:=x.board.next,turn:=x.board.turn,kinds:=(List.range (zdb x)).map (zfK x),rights:=x.rights,must:=decide (x.f1.tmod 4=3),clauses:=(x.c.take 3).map (zbm x.board.cells (zdb x)),blocked:=if x.f3.tmod 4=3 then 1+(x.f3.tdiv 4).tmod 3 else 3,endless:=if x.f4.tmod 4=3 then 1+(x.f4.tdiv 4).tmod 3 else 2}
@[go_sem] theorem zAa (s:ByteArray):(Value.string s).oneCell'=true:=rfl
def ksR (x:zj4) (i:Nat):List (List AV):=((List.range i).map (zfK x)).map zaV
def zz8 (k:zfM):List AV:=zaV k
theorem zku (x:zj4) (i:Nat):ksR x (i+1)=ksR x i++ [zz8 (zfK x i)]:=by simp [ksR,List.range_succ,zz8]
@[go_sem] theorem ksR_zero (x:zj4):ksR x 0= []:=rfl
@[go_sem] theorem zyO (x:zj4) (i:Nat):(ksR x i).length=i:=by simp [ksR]
@[go_sem ↓] theorem bel_ksR {n:Nat}{x:zj4}{i:Nat}:(∀r ∈ ksR x i,∀c ∈ r,Bel n c)=True:=zDe
def psR (f:Int→List (Int×Int)) (l:List Int) (n:Nat):List (List AV):=((l.take n).map f).map fun p=> [zaW p]
theorem zkA (f:Int→List (Int×Int)) (l:List Int){n:Nat} (h:n<l.length):psR f l (n+1)=psR f l n++ [[zaW (f (nth l n))]]:=by
 unfold psR
 rw [List.take_add_one,List.getElem?_eq_getElem h,zap _ _ h,Option.toList_some,List.map_append,List.map_append]
 rfl
theorem zgm (f:Int→List (Int×Int)) (l:List Int){n:Nat} (h:n≤l.length):(psR f l n).length=n:=by simp [psR];omega
@[go_sem] theorem psR_zero (f:Int→List (Int×Int)) (l:List Int):psR f l 0= []:=rfl
@[go_sem ↓] theorem bel_psR {m:Nat}{f:Int→List (Int×Int)}{l:List Int}{n:Nat}:(∀r ∈ psR f l n,∀c ∈ r,Bel m c)=True:=zxE
def clR (cells kinds:Int) (l:List (Int×Int×Int)) (n:Nat):List (List AV):=((l.take n).map (zbm cells kinds)).map za0
def zvr (c:Int×Int×Int×Int):List AV:=za0 c
theorem zt1 (cells kinds:Int) (l:List (Int×Int×Int)){n:Nat} (h:n<l.length):clR cells kinds l (n+1)=clR cells kinds l n++ [zvr (zbm cells kinds (nth l n))]:=by
 unfold clR
 rw [List.take_add_one,List.getElem?_eq_getElem h,zap _ _ h,Option.toList_some,List.map_append,List.map_append]
 rfl
theorem zoC (cells kinds:Int) (l:List (Int×Int×Int)){n:Nat} (h:n≤l.length):(clR cells kinds l n).length=n:=by simp [clR];omega
@[go_sem] theorem clR_zero (cells kinds:Int) (l:List (Int×Int×Int)):clR cells kinds l 0= []:=rfl
@[go_sem ↓] theorem bel_clR {m:Nat}{cells kinds:Int}{l:List (Int×Int×Int)}{n:Nat}:(∀r ∈ clR cells kinds l n,∀c ∈ r,Bel m c)=True:=zxD
theorem znT (w h cut:Int):(zfQ w h cut).next.length=8:=by
 unfold zfQ
 split<;>simp [zcm,zba,zdr,zbZ]
theorem zlN {w h:Int} (hw:0≤w) (hh:0≤h) (cut:Int):1≤(zfQ w h cut).cells∧(zfQ w h cut).cells≤9:=by
 have a0:=Int.tmod_nonneg 3 hw
 have a1:=Int.tmod_lt_of_pos w (show (0:Int)<3 by decide)
 have b0:=Int.tmod_nonneg 3 hh
 have b1:=Int.tmod_lt_of_pos h (show (0:Int)<3 by decide)
 have e:(zfQ w h cut).cells=((1+w.tmod 3).toNat:Int) * ((1+h.tmod 3).toNat:Int):=by
  unfold zfQ
  split<;>simp [zcm,zdr]
 rw [e]
 obtain ⟨W,hW⟩:∃W:Nat,1+w.tmod 3=W:=⟨(1+w.tmod 3).toNat,aa⟩
 obtain ⟨H,hH⟩:∃H:Nat,1+h.tmod 3=H:=⟨(1+h.tmod 3).toNat,aa⟩
 rw [hW,hH,Int.toNat_natCast,Int.toNat_natCast]
 rcases (show W=1∨W=2∨W=3 by omega) with rfl|rfl|rfl<;>omega
@[go_sem ↓] theorem bel_setI {n k:Nat}{l:List Int}{v:Value}:(∀r ∈ (l.map zaB).set k [.v v],∀c ∈ r,Bel n c)=True:=by
 refine eq_true fun r hr c hc=> ?_
 rcases List.mem_or_eq_of_mem_set hr with hr|rfl
 ·exact of_eq_true zAL r hr c hc
 ·simp only [List.mem_cons,List.not_mem_nil,or_false] at hc;subst hc;exact .v _
structure zmE where
 cell:List Int
 kind:List Int
 hand:List Int
 rights:Int
 side:Int
structure zjx (x:zmE):Prop where
 c6:x.cell.length=6
 k6:x.kind.length=6
 h4:x.hand.length=4
 cv:∀n ∈ x.cell,U8 n
 kv:∀n ∈ x.kind,U8 n
 hv:∀n ∈ x.hand,U8 n
 r:U8 x.rights
 s:U8 x.side
def zcV (x:zmE):List AV:=x.cell.map (fun n=> .v (.int .u8 n))++(x.kind.map (fun n=> .v (.int .u8 n))++(x.hand.map (fun n=> .v (.int .u8 n))++ [.v (.int .u8 x.rights), .v (.int .u8 x.side)]))
theorem zxV (l:List Int) (r:List AV) (i:Nat) (h:i<l.length):cel (l.map (fun n=>AV.v (.int .u8 n))++r) i= .v (.int .u8 (nth l i)):=by
 unfold cel nth
 rw [List.getD_eq_getElem?_getD,List.getD_eq_getElem?_getD,List.getElem?_append_left aK,List.getElem?_map,List.getElem?_eq_getElem h]
 rfl
theorem zsv (l:List Int) (r:List AV) (i:Nat):cel (l.map (fun n=>AV.v (.int .u8 n))++r) (l.length+i)=cel r i:=by
 unfold cel
 rw [List.getD_eq_getElem?_getD,List.getD_eq_getElem?_getD,List.getElem?_append_right ad]
 simp
structure RawRow (x:zmE) (er:List AV):Prop where
 len:er.length=18
 c:∀i,i<6→cel er i= .v (.int .u8 (nth x.cell i))
 k:∀i,i<6→cel er (6+i)= .v (.int .u8 (nth x.kind i))
 h:∀i,i<4→cel er (12+i)= .v (.int .u8 (nth x.hand i))
 r:cel er 16= .v (.int .u8 x.rights)
 s:cel er 17= .v (.int .u8 x.side)
 b:∀n,(∀c ∈ er,Bel n c)=True
theorem zri {x:zmE} (hx:zjx x):RawRow x (zcV x):=by
 obtain ⟨a,b,c, _, _, _, _, _⟩:=hx
 have e1:∀i,cel (zcV x) (6+i)=cel (x.kind.map (fun n=>AV.v (.int .u8 n))++(x.hand.map (fun n=>AV.v (.int .u8 n))++ [.v (.int .u8 x.rights), .v (.int .u8 x.side)])) i:=fun i=>by
  have:=zsv x.cell (x.kind.map (fun n=> .v (.int .u8 n))++(x.hand.map (fun n=> .v (.int .u8 n))++ [.v (.int .u8 x.rights), .v (.int .u8 x.side)])) i
  rw [a] at this;exact this
 have e2:∀i,cel (zcV x) (12+i)=cel (x.hand.map (fun n=>AV.v (.int .u8 n))++ [.v (.int .u8 x.rights), .v (.int .u8 x.side)]) i:=fun i=>by
  have:=zsv x.kind (x.hand.map (fun n=> .v (.int .u8 n))++ [.v (.int .u8 x.rights), .v (.int .u8 x.side)]) i
  rw [b] at this
  rw [show 12+i=6+(6+i) by omega,e1,this]
 have e3:∀i,cel (zcV x) (16+i)=cel [AV.v (.int .u8 x.rights), .v (.int .u8 x.side)] i:=fun i=>by
  have:=zsv x.hand [.v (.int .u8 x.rights), .v (.int .u8 x.side)] i
  rw [c] at this
  rw [show 16+i=12+(4+i) by omega,e2,this]
 refine ⟨by simp [zcV,a,b,c],fun i hi=>zxV x.cell _ i aa,fun i hi=> ?_,fun i hi=> ?_,e3 0,e3 1,fun n=>eq_true ?_⟩
 ·rw [e1];exact zxV x.kind _ i aa
 ·rw [e2];exact zxV x.hand _ i aa
 ·intro c hc
  simp only [zcV,List.mem_append,List.mem_map,List.mem_cons,List.not_mem_nil,or_false] at hc
  rcases hc with ⟨_, _,rfl⟩|⟨_, _,rfl⟩|⟨_, _,rfl⟩|rfl|rfl<;>exact .v _
def znf (g:zab) (x:zmE) (l:List Int) (i:Nat):List Int:=
 if (nth x.cell i).tmod (g.cells+1)<g.cells then l.set ((nth x.cell i).tmod (g.cells+1)).toNat (1+2 * (nth x.kind i).tmod g.kinds.length+(i:Int).tmod 2) else l
def zeh (g:zab) (x:zmE) (n:Nat):List Int:=(List.range n).foldl (znf g x) (List.replicate g.cells.toNat 0)
theorem zhs (g:zab) (x:zmE) (n:Nat):zeh g x (n+1)=znf g x (zeh g x n) n:=by simp [zeh,List.range_succ]
theorem zvi (g:zab) (x:zmE) (l:List Int) (i:Nat):(znf g x l i).length=l.length:=by unfold znf;split<;>simp
theorem zi5 (g:zab) (x:zmE) (n:Nat):(zeh g x n).length=g.cells.toNat:=by
 induction n with
 |zero=>simp [zeh]
 |succ n ih=>rw [zhs,zvi,ih]
def zsR (g:zab) (x:zmE) (s k:Nat):Int:=
 if (nth g.kinds k).keep=true then (if 250<nth x.hand (2 * s+k) then 8 else (nth x.hand (2 * s+k)).tmod 3) else 0
def zeH (g:zab) (x:zmE) (s n:Nat):List Int:=(List.range g.kinds.length).map fun j=>if j<n then zsR g x s j else 0
theorem zdG (g:zab) (x:zmE) (s n:Nat):(zeH g x s n).length=g.kinds.length:=by simp [zeH]
theorem znA (g:zab) (x:zmE) (s:Nat):zeH g x s 0=List.replicate g.kinds.length 0:=by
 unfold zeH
 apply List.ext_getElem<;>simp
theorem znz (g:zab) (x:zmE) (s n:Nat):zeH g x s (n+1)=(zeH g x s n).set n (zsR g x s n):=by
 apply List.ext_getElem
 ·simp [zeH]
 ·intro i h1 h2
  simp only [zeH,List.getElem_map,List.getElem_range,List.getElem_set]
  by_cases h:n=i
  ·subst h;simp
  ·rw [if_neg h]
   by_cases h':i<n
   ·rw [if_pos h',if_pos aa]
   ·rw [if_neg h',if_neg aa]
theorem zny (g:zab) (x:zmE) (s n:Nat) (h:zsR g x s n=0):zeH g x s (n+1)=zeH g x s n:=by
 unfold zeH
 apply List.map_congr_left
 intro j _
 by_cases h':j<n
 ·rw [if_pos h',if_pos aa]
 ·rw [if_neg h']
  split
  ·obtain rfl:j=n:=by omega
   exact h
  ·rfl
def zei (g:zab) (x:zmE):zaf:=⟨zeh g x 6,zeH g x 0 (min g.kinds.length 2),zeH g x 1 (min g.kinds.length 2),x.rights.tmod (2 ^ g.rights.toNat),x.side.tmod 2⟩
theorem nth_z {α:Type} [Inhabited α] (x:α) (l:List α):nth (x::l) 0=x:=rfl
theorem zbo {α:Type} [Inhabited α] (l:List α) (i j:Nat) (v:α):nth (l.set i v) j=if i=j∧j<l.length then v else nth l j:=by
 unfold nth
 rw [List.getD_eq_getElem?_getD,List.getD_eq_getElem?_getD,List.getElem?_set]
 by_cases h:i=j
 ·subst h
  by_cases h2:i<l.length
  ·simp [h2]
  ·simp [h2,List.getElem?_eq_none (Nat.not_lt.1 h2)]
 ·simp [h]
structure zfI (g:zab) (l:List Int):Prop where
 len:l.length=g.kinds.length
 v:∀i,i<l.length→0≤nth l i∧nth l i≤8∧(0<nth l i→(nth g.kinds i).keep=true)
theorem zi2:∀ (l:List Int) (ks:List zfM),l.length=ks.length→(zck l ks=true↔∀i,i<l.length→0≤nth l i∧nth l i≤8∧(0<nth l i→(nth ks i).keep=true))
 | [], [], _=>by simp [zck]
 |x::l,k::ks,h=>by
  have ih:=zi2 l ks aK
  rw [zck]
  simp only [Bool.and_eq_true,decide_eq_true_eq,Bool.or_eq_true,Bool.not_eq_true']
  rw [ih]
  constructor
  ·rintro ⟨⟨⟨h1,h2⟩,h3⟩,h4⟩ i hi
   cases i with
   |zero=>
    refine ⟨h1,h2,fun h=> ?_⟩
    rcases h3 with h3|h3
    ·rw [nth_z] at h;simp at h3;omega
    ·exact h3
   |succ i=>exact h4 i aJ
  ·intro h
   have h0:=h 0 ad
   refine ⟨⟨⟨h0.1,h0.2.1⟩, ?_⟩,fun i hi=>h (i+1) aJ⟩
   by_cases hx:0<x
   ·exact .inr (h0.2.2 hx)
   ·exact .inl aN
theorem znB {g:zab}{l:List Int}:zed g l=true↔zfI g l:=by
 unfold zed
 rw [Bool.and_eq_true,decide_eq_true_eq]
 exact ⟨fun ⟨a,b⟩=>⟨a,(zi2 _ _ a).1 b⟩,fun ⟨a,b⟩=>⟨a,(zi2 _ _ a).2 b⟩⟩
structure POk (g:zab) (p:zaf):Prop where
 al:(p.at_.length:Int)=g.cells
 av:∀c ∈ p.at_,0≤c∧c≤2 * g.kinds.length
 h0:zfI g p.h0
 h1:zfI g p.h1
 r0:0≤p.rights
 r1:p.rights<2 ^ g.rights.toNat
 s:p.side=0∨p.side=1
theorem zpi {g:zab}{p:zaf}:zgl g p=true↔POk g p:=by
 rw [zil,znB,znB]
 exact ⟨fun ⟨a,b,c,d,e,f,g⟩=>⟨a,b,c,d,e,f,g⟩,fun ⟨a,b,c,d,e,f,g⟩=>⟨a,b,c,d,e,f,g⟩⟩
theorem POk.fits {g:zab} (hg:GOk g){p:zaf} (h:POk g p):zaQ p:=by
 have:=hg.c9
 have:=hg.k6
 have a:=h.al
 have b:=h.h0.len
 have c:=h.h1.len
 unfold zaQ zfR
 omega
structure zfN (g:zab) (s:StD):Prop where
 p:POk g s.p
 c0:0≤s.cursor
 c1:s.cursor<g.cells
 k:0≤s.kind∧s.kind<g.kinds.length
theorem zaO {c:Int}{K:Nat} (h0:0≤c) (h1:c≤2 * K) (hK:K≤6):
  (c=0∧zan c=(-1, -1))∨(c≠0∧0≤(zan c).1∧(zan c).1<K∧((zan c).2=0∨(zan c).2=1)∧c=1+2 * (zan c).1+(zan c).2):=by
 unfold zan
 by_cases hc:c=0
 ·left;rw [if_neg aa];exact ⟨hc,rfl⟩
 ·right
  rw [if_pos aa]
  have e1:(c - 1).tdiv 2=(c - 1) / 2:=Int.tdiv_eq_ediv_of_nonneg aa
  have e2:(c - 1).tmod 2=(c - 1) % 2:=Int.tmod_eq_emod_of_nonneg aa
  simp only [e1,e2]
  omega
theorem zp2 {k s:Int}{K:Nat} (hk:0≤k∧k<K) (hK:K≤6) (hs:s=0∨s=1):zal k s=1+2 * k+s:=by
 unfold zal
 rw [if_pos aa];omega
theorem zpT:∀ (r:Fin 16) (m:Fin 4),0≤zbg .i64 (r.val:Int) (2 ^ m.val)∧zbg .i64 (r.val:Int) (2 ^ m.val)≤(r.val:Int):=am
theorem zpS {r:Int}{m:Nat} (h0:0≤r) (h1:r<16) (hm:m<4):0≤zbg .i64 r (2 ^ m)∧zbg .i64 r (2 ^ m)≤r:=by
 have:=zpT ⟨r.toNat,aa⟩ ⟨m,hm⟩
 simp only [Int.toNat_of_nonneg h0] at this
 exact this
theorem zkz {r:Int} (h0:0≤r) (h4:r≤4):(1:Int)≤2 ^ r.toNat∧(2:Int) ^ r.toNat≤16:=by
 rcases (show r.toNat=0∨r.toNat=1∨r.toNat=2∨r.toNat=3∨r.toNat=4 by omega) with h|h|h|h|h<;>rw [h]<;>decide
theorem znQ {b:zay} (hb:zaP b){side d c:Int}:∀ (f:Nat) (x:Int) (seen:List Int),x<b.cells→(∀y ∈ seen,0≤y∧y<b.cells)→∀y ∈ zeg b side d c f x seen,0≤y∧y<b.cells
 |0,x,seen, _,h,y,hy=>h y hy
 |f+1,x,seen,hx,h,y,hy=>by
  rw [zeg] at hy
  split at hy
  ·rename_i hc
   refine znQ hb f _ _ (zfe hb _ _ _) (fun z hz=> ?_) y hy
   rcases List.mem_append.1 hz with hz|hz
   ·exact h z hz
   ·simp at hz;omega
  ·exact h y hy
theorem ze4 {b:zay} (hb:zaP b){side d c:Int}:∀y ∈ zgf b side d c,0≤y∧y<b.cells:=
 znQ hb _ _ _ (zfe hb _ _ _) ad
theorem znP {b:zay}{side d c:Int}:∀ (f:Nat) (x:Int) (seen:List Int),(zeg b side d c f x seen).length≤seen.length+f
 |0,x,seen=>by simp [zeg]
 |f+1,x,seen=>by
  rw [zeg]
  split
  ·have:=znP (b:=b) (side:=side) (d:=d) (c:=c) f (toB b side d x) (seen++ [x])
   simp at this;omega
  ·omega
theorem zlJ {b:zay}{side d c:Int}:(zgf b side d c).length≤b.cells.toNat+1:=by
 have:=znP (b:=b) (side:=side) (d:=d) (c:=c) (b.cells.toNat+1) (toB b side d c) []
 simpa [zgf] using this
theorem POk.setAt {g:zab}{p:zaf} (h:POk g p) (i:Nat){v:Int} (hv:0≤v∧v≤2 * g.kinds.length):POk g { p with at_:=p.at_.set i v}:=
 ⟨by simpa using h.al,fun c hc=>by rcases List.mem_or_eq_of_mem_set hc with hc|rfl;exact h.av c hc;exact hv,h.h0,h.h1,h.r0,h.r1,h.s⟩
theorem POk.hand {g:zab}{p:zaf} (h:POk g p) (side:Int):zfI g (p.hand side):=by unfold zaf.hand;split;exact h.h0;exact h.h1
theorem POk.withHand {g:zab}{p:zaf} (h:POk g p) (side:Int){l:List Int} (hl:zfI g l):POk g (p.withHand side l):=by
 unfold zaf.withHand
 split
 ·exact ⟨h.al,h.av,hl,h.h1,h.r0,h.r1,h.s⟩
 ·exact ⟨h.al,h.av,h.h0,hl,h.r0,h.r1,h.s⟩
theorem zfI.set {g:zab}{l:List Int} (h:zfI g l) (i:Nat){v:Int} (hv:0≤v∧v≤8) (hk:0<v→(nth g.kinds i).keep=true):zfI g (l.set i v):=by
 refine ⟨by simpa using h.len,fun j hj=> ?_⟩
 have hj':j<l.length:=bz
 rw [zbo]
 split
 ·rename_i e
  obtain ⟨rfl, _⟩:=e
  exact ⟨hv.1,hv.2,hk⟩
 ·exact h.v j hj'
theorem POk.at {g:zab}{p:zaf} (h:POk g p){i:Nat} (hi:(i:Int)<g.cells):0≤nth p.at_ i∧nth p.at_ i≤2 * g.kinds.length:=
 h.av _ (zag (by have:=h.al;omega))
theorem POk.side {g:zab}{p:zaf} (h:POk g p){s:Int} (hs:s=0∨s=1):POk g { p with side:=s}:=⟨h.al,h.av,h.h0,h.h1,h.r0,h.r1,hs⟩
theorem zpq (p:zaf) (s:Int) (l:List Int):(p.withHand s l).side=p.side:=aI
theorem POk.clr {g:zab}{p:zaf} (h:POk g p) (c:Int):POk g (clr p c):=h.setAt _ aa
theorem zoe {g:zab}{s:StD} (h:zfN g s):∀ {l:List Int},(∀y ∈ l,0≤y∧y<g.cells)→∀t ∈ zby s l,zfN g t∧t.p.side=s.p.side
 | [], _,t,ht=>by simp [zby] at ht
 |c::l,hl,t,ht=>by
  rw [zby,List.mem_cons] at ht
  rcases ht with rfl|ht
  ·have:=hl c ad
   exact ⟨⟨h.p,this.1,this.2,h.k⟩,rfl⟩
  ·split at ht
   ·exact zoe h (fun y hy=>hl y (List.mem_cons_of_mem _ hy)) t ht
   ·simp at ht
theorem zmp {s:StD}:∀ (l:List Int),(zby s l).length≤l.length
 | []=>by simp [zby]
 |c::l=>by
  rw [zby]
  have:=zmp (s:=s) l
  split<;>simp<;>omega
theorem ziw {g:zab} (hg:GOk g){s:StD} (h:zfN g s){x:Int×Int} (hx:zeP g.next.length g.kinds.length g.rights x):∀t ∈ zbS g s x,zfN g t∧t.p.side=s.p.side:=by
 intro t ht
 have hb:=hg.board
 have hcur:(s.cursor.toNat:Int)<g.cells:=by have:=h.c0;have:=h.c1;omega
 have hat:=h.p.at hcur
 have only:∀ {u:StD} {b:Bool},t ∈ zcX u b→b=true∧t=u:=fun {u b} hu=>by
  unfold zcX at hu
  split at hu
  ·rename_i hb';exact ⟨hb',by simpa using hu⟩
  ·simp at hu
 have hbc:g.board.cells=g.cells:=rfl
 unfold zbS at ht
 simp only at ht
 split at ht
 ·obtain ⟨h1,rfl⟩:=only ht
  have:=zfe hb s.p.side x.2 s.cursor
  exact ⟨⟨h.p,bi,by rw [hbc] at this;exact this,h.k⟩,rfl⟩
 split at ht
 ·exact zoe h (fun y hy=>ze4 hb y hy) t ht
 split at ht
 ·obtain ⟨h1,rfl⟩:=only ht;exact ⟨h,rfl⟩
 split at ht
 ·obtain ⟨h1,rfl⟩:=only ht;exact ⟨h,rfl⟩
 split at ht
 ·obtain ⟨h1,rfl⟩:=only ht;exact ⟨h,rfl⟩
 split at ht
 ·unfold zm3 at ht
  simp only at ht
  split at ht
  ·simp at ht
  ·rename_i hm
   split at ht
   ·rename_i hkeep
    split at ht
    ·simp at ht
    ·rename_i h8
     simp only [List.mem_singleton] at ht
     subst ht
     refine ⟨⟨(h.p.clr _).withHand _ ((h.p.hand _).set _ ?_ (fun _=>hkeep)),h.c0,h.c1,h.k⟩,zpq _ _ _⟩
     have hh:=h.p.hand s.p.side
     rcases zaO hat.1 hat.2 hg.k6 with ⟨e,e2⟩|⟨e,e2,e3, _⟩
     ·rw [e2] at hm;simp at hm
     ·have:=hh.v (zan (nth s.p.at_ s.cursor.toNat)).1.toNat (by rw [hh.len];omega)
      omega
   ·simp only [List.mem_singleton] at ht
    subst ht
    exact ⟨⟨h.p.clr _,h.c0,h.c1,h.k⟩,rfl⟩
 split at ht
 ·unfold zm1 at ht
  simp only at ht
  split at ht
  ·simp at ht
  ·simp only [List.mem_singleton] at ht
   subst ht
   exact ⟨⟨(h.p.setAt _ hat).setAt _ aa,h.c0,h.c1,h.k⟩,rfl⟩
 split at ht
 ·rename_i e
  simp only [List.mem_singleton] at ht
  subst ht
  exact ⟨⟨h.p,h.c0,h.c1,hx.kind e⟩,rfl⟩
 split at ht
 ·obtain ⟨h1,rfl⟩:=only ht;exact ⟨h,rfl⟩
 split at ht
 ·rename_i e
  simp only [List.mem_singleton] at ht
  subst ht
  have hr:=hx.right (.inr e)
  have hp:=zkz hg.r0 hg.r4
  have a:=h.p.r0
  have b:=h.p.r1
  have c:=hg.r4
  obtain ⟨k1,k2⟩:=zpS (r:=s.p.rights) (m:=x.2.toNat) a aa aa
  exact ⟨⟨⟨h.p.al,h.p.av,h.p.h0,h.p.h1,k1,ah,h.p.s⟩,h.c0,h.c1,h.k⟩,rfl⟩
 ·simp only [List.mem_singleton] at ht
  subst ht
  exact ⟨h,rfl⟩
theorem zmx {g:zab} (hg:GOk g) (s:StD) (x:Int×Int):(zbS g s x).length≤10:=by
 have c9:=hg.c9
 have on:∀ (u:StD) (b:Bool),(zcX u b).length≤10:=fun u b=>by unfold zcX;split<;>simp
 unfold zbS
 simp only
 split;exact on _ _
 split
 ·have h1:=zmp (s:=s) (zgf g.board s.p.side x.2 s.cursor)
  have h2:=zlJ (b:=g.board) (side:=s.p.side) (d:=x.2) (c:=s.cursor)
  have:g.board.cells=g.cells:=rfl
  unfold zmq;omega
 split;exact on _ _
 split;exact on _ _
 split;exact on _ _
 split
 ·unfold zm3;simp only;(repeat' split)<;>simp
 split
 ·unfold zm1;simp only;(repeat' split)<;>simp
 split;simp
 split;exact on _ _
 split<;>simp
theorem zr3 (a b:StD) (ha:zaQ a.p) (hb:zaQ b.p):zaD Tryz.prog 214 [.agg (zaw a), .agg (zaw b)] (.v (.bool (decide (a=b)))):=by
 refine pF Tryz.func214 ?_
 have hC:=zcY _ _ ha hb
 have he:=zhi (p:=a.p) (q:=b.p)
 obtain ⟨pa,ka,ca,ta⟩:=a
 obtain ⟨pb,kb,cb,tb⟩:=b
 simp only at hC he
 refine J0 ?_
 refine zEy _ (fun _=>hC) ae ?_
 refine J0 ?_
 refine LeV.of_eq ?_
 by_cases h1:pa=pb<;>by_cases h2:ka=kb<;>by_cases h3:ca=cb<;>cases ta<;>cases tb<;>simp_all
theorem zr1 (s:StD) (b:Bool):zaD Tryz.prog 215 [.agg (zaw s), .v (.bool b)] (zbX (zcX s b)):=by
 refine pF Tryz.func215 ?_
 cases b
 ·repeat first|refine wV fun _=>?_|simp [go_sem,zcX]
  exact frX
 ·repeat first|refine wV fun _=>?_|simp [go_sem,zcX]
  exact frX
theorem zpM (g:zab) (hg:GOk g) (s:StD) (hs:zfN g s) (n:Int):zaD Tryz.prog 216 [.agg (zac g), .agg (zaw s), .int n] (zbX (zmq g.board s n)):=by
 refine pF Tryz.func216 ?_
 have hL:=zkH g.board hg.board s.p.side n s.cursor
 have hlm:=ze4 hg.board (side:=s.p.side) (d:=n) (c:=s.cursor)
 have hll:=zlJ (b:=g.board) (side:=s.p.side) (d:=n) (c:=s.cursor)
 have c9:=hg.c9
 have c1:=hg.c1
 have hal:=hs.p.al
 rw [show g.board.cells=g.cells from rfl] at hlm hll
 unfold zmq
 generalize zgf g.board s.p.side n s.cursor=line at *
 generalize hR:zby s line=R
 refine J0 ?_
 refine aP hL ?_
 refine J0 ?_
 refine zEp (zEs (α:=Nat×List StD) (fun a=>⟨[(4, .ref 1 0 8 0 0),(7, .sl 2 a.2.length 8 0 a.2.length),(8,zai line),(9, .int a.1)], [(1, .rows true 0 8 [zaw s]),(2, .rows true a.2.length 8 (a.2.map zaw))],3⟩)
  (fun d a=>a.1+d=line.length∧a.2.length=a.1∧R=a.2++zby s (line.drop a.1)) ?_ line.length (0, []) ?_) ?_ ?_
 ·rintro d ⟨i,out⟩ ⟨i1,i2,i3⟩ hrec
  simp only at i1 i2 i3
  refine J0 ?_
  refine zEr (fun hi=> ?_) (fun hi=> ?_)<;>simp at hi
  ·have hli:=hlm _ (zag hi)
   have hlt:(nth line i).toNat<s.p.at_.length:=aa
   rw [zas hi,zby] at i3
   refine J2 hi hlt ?_
   refine zEr (fun hz=> ?_) (fun hz=> ?_)<;>simp at hz
   ·rw [if_neg bq] at i3
    refine J0 ?_
    rw [i3]
    exact frX
   ·rw [if_pos bq] at i3
    refine J0 ?_
    refine zEp (hrec (d - 1) aa (i+1,out++ [{ s with cursor:=nth line i}]) ⟨ah,ak,by simpa using i3⟩) ?_ ad
    simp [go_sem,zad]
  ·rw [List.drop_eq_nil_of_le hi,zby] at i3
   refine J0 ?_
   rw [i3]
   exact frX
 ·simp [hR]
 ·simp [go_sem,zad]
 ·simp
theorem zr4 (g:zab) (hg:GOk g) (s:StD) (hs:zfN g s):zaD Tryz.prog 217 [.agg (zac g), .agg (zaw s)] (zbX (zm3 g s)):=by
 refine pF Tryz.func217 ?_
 have hal:=hs.p.al
 have hc0:=hs.c0
 have hc1:=hs.c1
 have hcur:s.cursor.toNat<s.p.at_.length:=aa
 have hO:=zfX (nth s.p.at_ s.cursor.toNat)
 have hat:=hs.p.at (i:=s.cursor.toNat) aa
 have hman:=zaO hat.1 hat.2 hg.k6
 have hcp:=zd8 s.p (hs.p.fits hg)
 unfold zm3
 generalize hm:zan (nth s.p.at_ s.cursor.toNat)=m at *
 obtain ⟨mk,ms⟩:=m
 simp only [Prod.mk.injEq] at hman
 refine J1 hcur ?_
 refine aP hO ?_
 refine J0 ?_
 refine zEr (fun hc=> ?_) (fun hc=> ?_)<;>simp at hc
 ·rw [if_pos hc]
  refine J0 ?_
  exact frX
 ·rw [if_neg aa]
  refine J0 ?_
  refine zEu hcp ae ?_
  have hmk:mk.toNat<g.kinds.length:=aa
  refine J2 hcur hmk ?_
  refine zEr (fun hk=> ?_) (fun hk=> ?_)
  ·rw [if_pos hk]
   have hl0:=hs.p.h0.len
   have hl1:=hs.p.h1.len
   rcases hs.p.s with hsd|hsd
   ·have hmk0:mk.toNat<s.p.h0.length:=by omega
    have hmk':0≤mk:=aa
    have hv:=hs.p.h0.v _ hmk0
    refine J3 hsd hmk0 hcur ?_
    refine zEr (fun h8=> ?_) (fun h8=> ?_)<;>simp at h8
    ·rw [if_pos bD]
     refine J0 ?_
     exact frX
    ·rw [if_neg bD]
     repeat first|refine wV fun _=>?_|simp [go_sem,hsd,zaf.withHand,zaf.hand,clr]
     (first|done|exact dpX)
   ·have hmk0:mk.toNat<s.p.h1.length:=by omega
    have hmk':0≤mk:=aa
    have hv:=hs.p.h1.v _ hmk0
    refine J3 hsd hmk0 hcur ?_
    refine zEr (fun h8=> ?_) (fun h8=> ?_)<;>simp at h8
    ·rw [if_pos bD]
     refine J0 ?_
     exact frX
    ·rw [if_neg bD]
     repeat first|refine wV fun _=>?_|simp [go_sem,hsd,zaf.withHand,zaf.hand,clr]
     (first|done|exact dpX)
  ·rw [if_neg aC]
   repeat first|refine wV fun _=>?_|simp [go_sem,clr]
   (first|done|exact dpX)
theorem zr2 (g:zab) (hg:GOk g) (s:StD) (hs:zfN g s) (n:Int):zaD Tryz.prog 218 [.agg (zac g), .agg (zaw s), .int n] (zbX (zm1 g s n)):=by
 refine pF Tryz.func218 ?_
 have hT:=zhF g.board hg.board s.p.side n s.cursor
 refine J0 ?_
 refine aP hT ?_
 have hal:=hs.p.al
 have hc0:=hs.c0
 have hc1:=hs.c1
 have hcur:s.cursor.toNat<s.p.at_.length:=aa
 have hcp:=zd8 s.p (hs.p.fits hg)
 have hto:=zfe hg.board s.p.side n s.cursor
 rw [show g.board.cells=g.cells from rfl] at hto
 unfold zm1
 generalize toB g.board s.p.side n s.cursor=to at *
 by_cases ht:to<0
 ·rw [if_pos (.inr (.inl ht))]
  have ht0:to.toNat=0:=aa
  have h0l:0<s.p.at_.length:=aa
  refine J4 hcur ht ht0 h0l ?_
  exact frX
 ·have htl:to.toNat<s.p.at_.length:=by omega
  have ht':0≤to:=aa
  refine J3 hcur ht htl ?_
  refine zEr (fun hc=> ?_) (fun hc=> ?_)<;>simp at hc
  ·rw [if_pos bL]
   refine J0 ?_
   exact frX
  ·rw [if_neg (by rintro (h|h);exact hc.1 h;exact h hc.2)]
   refine J1 hcur ?_
   refine zEu hcp ae ?_
   refine J2 hcur htl ?_
   (first|done|exact dpX)
end Go.Av
end
