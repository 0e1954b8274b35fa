/- Texts of ours, part 8: our library and contracts of functions. -/
import Derived.Test.YtnjjmmhiaaplmaaGreatDoorB07
import Derived.Shelf.SlSortCmp.NoneTotal
import Derived.Test.YtnjjmmhiaaplmaaGreatDoorProg
set_option linter.unusedSimpArgs false
set_option linter.unusedVariables false
set_option maxRecDepth 100000
set_option maxHeartbeats 40000000
section
open Go Go.Proofs
namespace Go.Av
structure zCP (p:List (Int×Int)):Prop where
 len:p.length≤6
 st:∀x ∈ p,1≤x.1∧x.1≤10∧0≤x.2∧(x.1=3∨x.1=4∨x.1=5∨x.1=6→x.2=0)
 take:zaF p 6≤2
 push:zaF p 7≤1
 become:zaF p 8≤1
theorem zDR {d e k r:Int} (hd:0≤d) (he:0≤e) (hk:0≤k) (hr:0≤r) (i:Nat):zCP (nth (zrI d e k r) i):=by
 have h4:=Int.tmod_nonneg 8 (show 0≤d+4 by omega)
 rcases Nat.lt_or_ge i 16 with h|h
 ·have:∀p ∈ zrI d e k r,zCP p:=by
   intro p hp
   simp only [zrI,List.mem_cons,List.not_mem_nil,or_false] at hp
   rcases hp with rfl|rfl|rfl|rfl|rfl|rfl|rfl|rfl|rfl|rfl|rfl|rfl|rfl|rfl|rfl|rfl<;>
    exact ⟨ad,by simp<;>omega,bn,bn,bn⟩
  exact this _ (zag h)
 ·have e:nth (zrI d e k r) i= []:=by
   unfold nth
   rw [List.getD_eq_getElem?_getD,List.getElem?_eq_none (by exact h)];rfl
  rw [e]
  exact ⟨ad,ad,bn,bn,bn⟩
theorem zvM {dirs kinds rights:Int}{x y:Int×Int} (h:zbG dirs kinds rights x=some y):y.1=x.1:=by
 unfold zbG at h
 split at h
 ·simp only [Option.some.injEq] at h;rw [← h]
 ·split at h
  ·simp only [Option.some.injEq] at h;rw [← h]
  ·split at h
   ·split at h
    ·cases h
    ·simp only [Option.some.injEq] at h;rw [← h]
   ·simp only [Option.some.injEq] at h;rw [← h]
theorem zf8 {dirs kinds rights:Int} (op:Int):∀p:List (Int×Int),zaF (p.filterMap (zbG dirs kinds rights)) op≤zaF p op
 | []=>bn
 |x::p=>by
  have ih:=zf8 (dirs:=dirs) (kinds:=kinds) (rights:=rights) op p
  unfold zaF at *
  rw [List.filterMap_cons]
  cases hf:zbG dirs kinds rights x with
  |none=>simp only [List.countP_cons];omega
  |some y=>
   have:=zvM hf
   simp only [List.countP_cons,this]
   omega
theorem zDA {dirs kinds rights:Int} (hd:1≤dirs) (hk:1≤kinds) (hr:0≤rights){p:List (Int×Int)} (hp:zCP p):zpI dirs kinds rights (zCt dirs kinds rights p):=by
 have h0:zpI dirs kinds rights [(3,0)]:=by
  refine ⟨ad,ad,fun x hx=> ?_,bn,bn,bn⟩
  simp only [List.mem_singleton] at hx
  subst hx
  exact ⟨ad,ad,ad,ad,ad⟩
 unfold zCt
 split
 ·exact h0
 ·rename_i hne
  have hl:(p.filterMap (zbG dirs kinds rights)).length≤p.length:=List.length_filterMap_le _ _
  have hpos:=List.length_pos_iff.2 hne
  refine ⟨aa,by have:=hp.len;omega,fun y hy=> ?_,Nat.le_trans (zf8 6 p) hp.take,Nat.le_trans (zf8 7 p) hp.push,Nat.le_trans (zf8 8 p) hp.become⟩
  obtain ⟨x,hx,hf⟩:=List.mem_filterMap.1 hy
  obtain ⟨a,b,c,d⟩:=hp.st x hx
  have m1:=Int.tmod_nonneg dirs c
  have m2:=Int.tmod_lt_of_pos x.2 (show 0<dirs by omega)
  have m3:=Int.tmod_nonneg kinds c
  have m4:=Int.tmod_lt_of_pos x.2 (show 0<kinds by omega)
  have m5:=Int.tmod_nonneg rights c
  unfold zbG at hf
  split at hf
  ·simp only [Option.some.injEq] at hf;subst hf
   exact ⟨ah,ah,ah,ah,ah⟩
  ·split at hf
   ·simp only [Option.some.injEq] at hf;subst hf
    exact ⟨ah,ah,ah,ah,ah⟩
   ·split at hf
    ·split at hf
     ·cases hf
     ·rename_i hr0
      have m6:=Int.tmod_lt_of_pos x.2 (show 0<rights by omega)
      simp only [Option.some.injEq] at hf;subst hf
      exact ⟨ah,ah,ah,ah,ah⟩
    ·simp only [Option.some.injEq] at hf;subst hf
     exact ⟨aa,aa,aa,aa,aa⟩
theorem zBI {n dirs kinds rights:Int} (hn:U8 n) (hd:1≤dirs) (hk:1≤kinds) (hr:0≤rights):zpI dirs kinds rights (zmX n dirs kinds rights):=by
 obtain ⟨n0,n1⟩:=hn
 have q0:0≤n.tdiv 16:=by rw [Int.tdiv_eq_ediv_of_nonneg n0];omega
 have q1:0≤n.tdiv 3:=by rw [Int.tdiv_eq_ediv_of_nonneg n0];omega
 have q2:=Int.tmod_nonneg 5 n0
 exact zDA hd hk hr (zDR (Int.tmod_nonneg _ q0) (Int.tmod_nonneg _ aa) (Int.tmod_nonneg _ q1) (Int.tmod_nonneg _ n0) _)
theorem zv8 (w h cut:Int) (d:Nat) (hd:d<(zfQ w h cut).turn.length):nth (zfQ w h cut).turn (nth (zfQ w h cut).turn d).toNat=d:=by
 have ht:(zfQ w h cut).turn=zb0 8:=by unfold zfQ;split<;>rfl
 rw [ht] at hd ⊢
 have h8:d<8:=by simpa [zb0] using hd
 have:∀d:Fin 8,nth (zb0 8) (nth (zb0 8) d.val).toNat=(d.val:Int):=am
 exact this ⟨d,h8⟩
theorem zBH {x:zj4} (hx:zu9 x):GOk (zig x):=by
 have hb:zaP x.board:=zjz hx.w.1 hx.h.1 x.cut
 have hc:=zlN hx.w.1 hx.h.1 x.cut
 have hd:x.board.next.length=8:=znT x.w x.h x.cut
 have hK:zdb x=1∨zdb x=2:=by unfold zdb;split<;>simp
 have hkl:(zig x).kinds.length=zdb x:=by simp [zig]
 have r0:0≤x.rights:=Int.tmod_nonneg 3 hx.f0.1
 have r1:x.rights<3:=Int.tmod_lt_of_pos x.f0 (show (0:Int)<3 by decide)
 have t:∀n:Int,U8 n→0≤(n.tdiv 4).tmod 3∧(n.tdiv 4).tmod 3<3:=fun n hn=>by
  have:0≤n.tdiv 4:=by rw [Int.tdiv_eq_ediv_of_nonneg hn.1];have:=hn.1;omega
  exact ⟨Int.tmod_nonneg 3 this,Int.tmod_lt_of_pos _ am⟩
 have t3:=t _ hx.f3
 have t4:=t _ hx.f4
 have hcl:x.board.cells=(zig x).cells:=rfl
 have hc':1≤x.board.cells∧x.board.cells≤9:=hc
 refine ⟨hb,hc'.1,hc'.2,by show 1≤x.board.next.length;omega,by show x.board.next.length≤8;omega,zv8 x.w x.h x.cut,aa,aa,fun k hk=> ?_,fun k hk p hp=> ?_,r0, ?_,fun c hcm=> ?_, ?_, ?_, ?_⟩
 ·obtain ⟨i, _,rfl⟩:=List.mem_map.1 hk
  simp only [zfK,List.length_map,List.length_take];omega
 ·rw [hkl]
  obtain ⟨i, _,rfl⟩:=List.mem_map.1 hk
  obtain ⟨n,hn,rfl⟩:=List.mem_map.1 hp
  have hn':=List.mem_of_mem_take hn
  have hu:U8 n:=by
   unfold zj4.ks at hn'
   split at hn'
   ·exact hx.k0 n hn'
   ·exact hx.k1 n hn'
  exact zBI hu (show (1:Int)≤x.board.next.length by omega) (show (1:Int)≤zdb x by omega) r0
 ·show x.rights≤4;omega
 ·rw [hkl]
  obtain ⟨c0,h0,rfl⟩:=List.mem_map.1 hcm
  obtain ⟨u0,u1,u2⟩:=hx.c _ (List.mem_of_mem_take h0)
  have a0:=Int.tmod_nonneg 3 u0.1
  have a1:=Int.tmod_lt_of_pos c0.1 (show (0:Int)<3 by decide)
  have b0:=Int.tmod_nonneg (zdb x:Int) u1.1
  have b1:=Int.tmod_lt_of_pos c0.2.1 (show (0:Int)<zdb x by omega)
  have d0:=Int.tmod_nonneg x.board.cells u2.1
  have d1:=Int.tmod_lt_of_pos c0.2.2 (show (0:Int)<x.board.cells by omega)
  have e0:=Int.tmod_nonneg 3 u2.1
  have e1:=Int.tmod_lt_of_pos c0.2.2 (show (0:Int)<3 by decide)
  have t0:=t _ u0
  rw [← hcl]
  refine ⟨?_, ?_, ?_, ?_, ?_⟩<;>simp only [zbm]
  ·omega
  ·split<;>omega
  ·split
   ·omega
   ·split<;>omega
  ·omega
  ·intro h;rw [if_neg aa]
 ·show ((x.c.take 3).map _).length≤6
  simp;omega
 ·show 1≤(if x.f3.tmod 4=3 then 1+(x.f3.tdiv 4).tmod 3 else 3)∧(if x.f3.tmod 4=3 then 1+(x.f3.tdiv 4).tmod 3 else 3)≤3
  split<;>omega
 ·show 1≤(if x.f4.tmod 4=3 then 1+(x.f4.tdiv 4).tmod 3 else 2)∧(if x.f4.tmod 4=3 then 1+(x.f4.tdiv 4).tmod 3 else 2)≤3
  split<;>omega
theorem zi6 {g:zab} (hg:GOk g){x:zmE} (hx:zjx x):POk g (zei g x):=by
 have c1:=hg.c1
 have k1:=hg.k1
 have hat:∀n,n≤6→∀c ∈ zeh g x n,0≤c∧c≤2 * g.kinds.length:=by
  intro n
  induction n with
  |zero=>intro _ c hc;simp [zeh] at hc;omega
  |succ n ih=>
   intro hn c hc
   rw [zhs] at hc
   unfold znf at hc
   split at hc
   ·rcases List.mem_or_eq_of_mem_set hc with hc|rfl
    ·exact ih aa c hc
    ·have hkv:U8 (nth x.kind n):=hx.kv _ (zag (by rw [hx.k6];omega))
     have a:=Int.tmod_nonneg (g.kinds.length:Int) hkv.1
     have b:=Int.tmod_lt_of_pos (nth x.kind n) (show (0:Int)<g.kinds.length by omega)
     have c:=Int.tmod_nonneg 2 (show (0:Int)≤n by omega)
     have d:=Int.tmod_lt_of_pos (n:Int) (show (0:Int)<2 by decide)
     omega
   ·exact ih aa c hc
 have hh:∀s,s<2→zfI g (zeH g x s (min g.kinds.length 2)):=by
  intro s hs
  refine ⟨zdG _ _ _ _,fun i hi=> ?_⟩
  rw [zdG] at hi
  have e:nth (zeH g x s (min g.kinds.length 2)) i=if i<min g.kinds.length 2 then zsR g x s i else 0:=by
   unfold zeH
   rw [za9 _ _ _ aJ]
   simp [nth,hi]
  rw [e]
  split
  ·have hv:U8 (nth x.hand (2 * s+i)):=hx.hv _ (zag (by rw [hx.h4];omega))
   have a:=Int.tmod_nonneg 3 hv.1
   have b:=Int.tmod_lt_of_pos (nth x.hand (2 * s+i)) (show (0:Int)<3 by decide)
   unfold zsR
   split
   ·rename_i hk
    split<;>exact ⟨aa,aa,fun _=>hk⟩
   ·exact ⟨aa,aa,fun h=>aa⟩
  ·exact ⟨aa,aa,fun h=>aa⟩
 have hp:=zkz hg.r0 hg.r4
 refine ⟨?_,hat 6 (Nat.le_refl _),hh 0 aa,hh 1 aa,Int.tmod_nonneg _ hx.r.1,Int.tmod_lt_of_pos _ aa, ?_⟩
 ·show ((zeh g x 6).length:Int)=g.cells
  rw [zi5];omega
 ·have a:=Int.tmod_nonneg 2 hx.s.1
  have b:=Int.tmod_lt_of_pos x.side (show (0:Int)<2 by decide)
  show x.side.tmod 2=0∨x.side.tmod 2=1
  omega
abbrev zc7:=Int×Int×Int
structure zaT where
 acts:List zc7
 to:Int
 deriving DecidableEq
instance:Inhabited zaT:=⟨⟨[],0⟩⟩
def zcC (a:zc7):List AV:= [.int a.1, .int a.2.1, .int a.2.2]
def zdi (l:List zc7):AV:= .lst 3 (l.map zcC)
def zaK (p:zaT):List AV:= [zdi p.acts, .int p.to]
def zc5 (l:List zaT):AV:= .lst 2 (l.map zaK)
def zbv (l:List (List zaT)):AV:= .lst 1 (l.map fun x=> [zc5 x])
def zaI (l:List (List (List zaT))):AV:= .lst 1 (l.map fun x=> [zbv x])
abbrev zkD:=List (List (List zaT))×List (List (List zaT))
def zbO (c:zkD):List AV:= [zaI c.1,zaI c.2]
attribute [go_sem] zcC zdi zaK zc5 zbv zaI zbO
theorem bel_A {n:Nat}{l:List zc7}:(∀r ∈ l.map zcC,∀c ∈ r,Bel n c)=True:=by
 refine eq_true ?_
 intro r hr c hc
 obtain ⟨x, _,rfl⟩:=List.mem_map.1 hr
 revert c
 simp [go_sem]
theorem zCl {n:Nat}{l:List zc7}:Bel n (.lst 3 (l.map zcC))=True:=by rw [zbt,bel_A]
theorem zCo {n:Nat}{l:List zaT}:(∀r ∈ l.map zaK,∀c ∈ r,Bel n c)=True:=by
 refine eq_true ?_
 intro r hr c hc
 obtain ⟨x, _,rfl⟩:=List.mem_map.1 hr
 simp only [zaK,zdi,List.mem_cons,List.not_mem_nil,or_false] at hc
 rcases hc with rfl|rfl
 ·exact of_eq_true zCl
 ·exact .v _
theorem ziK {n:Nat}{l:List zaT}:Bel n (.lst 2 (l.map zaK))=True:=by rw [zbt,zCo]
theorem zCn {n:Nat}{l:List (List zaT)}:(∀r ∈ l.map (fun x=> [AV.lst 2 (x.map zaK)]),∀c ∈ r,Bel n c)=True:=by
 refine eq_true ?_
 intro r hr c hc
 obtain ⟨x, _,rfl⟩:=List.mem_map.1 hr
 simp only [List.mem_cons,List.not_mem_nil,or_false] at hc
 subst hc
 exact of_eq_true ziK
theorem zxC {n:Nat}{l:List (List zaT)}:Bel n (.lst 1 (l.map (fun x=> [AV.lst 2 (x.map zaK)])))=True:=by rw [zbt,zCn]
theorem zCp {n:Nat}{l:List (List (List zaT))}:(∀r ∈ l.map (fun x=> [AV.lst 1 (x.map (fun x=> [AV.lst 2 (x.map zaK)]))]),∀c ∈ r,Bel n c)=True:=by
 refine eq_true ?_
 intro r hr c hc
 obtain ⟨x, _,rfl⟩:=List.mem_map.1 hr
 simp only [List.mem_cons,List.not_mem_nil,or_false] at hc
 subst hc
 exact of_eq_true zxC
theorem zDi {n:Nat}{l:List (List (List zaT))}:Bel n (.lst 1 (l.map (fun x=> [AV.lst 1 (x.map (fun x=> [AV.lst 2 (x.map zaK)]))])))=True:=by rw [zbt,zCp]
attribute [go_sem high] zCl ziK zxC zDi
attribute [go_sem ↓] bel_A zCo zCn zCp
def onP (p:zaT) (to:Int) (more:List zc7):zaT:=⟨p.acts++more,to⟩
def zcd (p:zaT):List Int→List zc7→List zaT
 | [], _=> []
 |c::l,passed=>onP p c passed::zcd p l (passed++ [(3,c,0)])
def zko (b:zay) (side:Int) (p:zaT) (x:Int×Int):List zaT:=
 if x.1=1∨x.1=7 then
  if toB b side x.2 p.to<0 then [] else if x.1=1 then [onP p (toB b side x.2 p.to) []] else [onP p p.to [(7,p.to,toB b side x.2 p.to)]]
 else if x.1=2 then zcd p (zgf b side x.2 p.to) []
 else if x.1=8∨x.1=9∨x.1=10 then [onP p p.to [(x.1,x.2,0)]]
 else [onP p p.to [(x.1,p.to,0)]]
def zmw (b:zay) (side:Int) (now:List zaT) (x:Int×Int):List zaT:=now.flatMap fun w=>zko b side w x
def zbC (b:zay) (side:Int) (prog:List (Int×Int)) (cell:Int):List zaT:=prog.foldl (zmw b side) [⟨[],cell⟩]
def zbH (b:zay) (side:Int) (progs:List (List (Int×Int))) (cell:Int):List zaT:=progs.flatMap fun p=>zbC b side p cell
def zf0 (b:zay) (side:Int) (progs:List (List (Int×Int))):List (List zaT):=(List.range b.cells.toNat).map fun (c:Nat)=>zbH b side progs c
def zbM (g:zab) (side:Int):List (List (List zaT)):=g.kinds.map fun k=>zf0 g.board side k.progs
def zcy (g:zab):zkD:=(zbM g 0,zbM g 1)
theorem zjP {b:zay}{side d c:Int}:∀ (f:Nat) (x:Int) (seen:List Int),seen.Nodup→(zeg b side d c f x seen).Nodup
 |0,x,seen,h=>by simpa [zeg] using h
 |f+1,x,seen,h=>by
  rw [zeg]
  split
  ·rename_i hc
   refine zjP f _ _ (List.nodup_append.2 ⟨h,ad, ?_⟩)
   intro y hy z hz
   simp at hz
   subst hz
   rintro rfl
   exact hc.2.2 hy
  ·exact h
theorem zkw {b:zay} (hb:zaP b){side d c:Int}:(zgf b side d c).length≤b.cells.toNat:=
 zgM _ _ (zjP _ _ _ ad) (fun y hy=>by have:=ze4 hb y hy;have:=hb.c0;omega)
theorem zjm (p:zaT):∀ (l:List Int) (passed:List zc7),(zcd p l passed).length=l.length
 | [], _=>rfl
 |c::l,passed=>by simp [zcd,zjm p l]
theorem zgR {p w:zaT}:∀ {l:List Int}{passed:List zc7},w ∈ zcd p l passed→∃more,w.acts=p.acts++passed++more∧more.length≤l.length∧w.to ∈ l∧∀a ∈ more,∃c ∈ l,a=(3,c,0)
 | [], _,h=>by simp [zcd] at h
 |c::l,passed,h=>by
  simp only [zcd,List.mem_cons] at h
  rcases h with rfl|h
  ·exact ⟨[],by simp [onP],ad,by simp [onP],ad⟩
  ·obtain ⟨more,h1,h2,h3,h4⟩:=zgR h
   refine ⟨(3,c,0)::more,by rw [h1];simp,ak,List.mem_cons_of_mem _ h3,fun a ha=> ?_⟩
   rcases List.mem_cons.1 ha with rfl|ha
   ·exact ⟨c,ad,rfl⟩
   ·obtain ⟨c',hc,e⟩:=h4 a ha
    exact ⟨c',List.mem_cons_of_mem _ hc,e⟩
theorem zBd {b:zay} (hb:zaP b) (h1:1≤b.cells) (side:Int) (p:zaT) (x:Int×Int):(zko b side p x).length≤if x.1=2 then b.cells.toNat else 1:=by
 unfold zko
 by_cases h2:x.1=2
 ·rw [if_neg aa,if_pos h2,if_pos h2,zjm]
  exact zkw hb
 ·rw [if_neg h2,if_neg h2]
  split
  ·split
   ·simp
   ·split<;>simp
  ·split<;>simp
theorem zgG {α β:Type} (f:α→List β) (m:Nat):∀ (l:List α),(∀x ∈ l,(f x).length≤m)→(l.flatMap f).length≤l.length * m
 | [], _=>ad
 |x::l,h=>by
  have a:=h x ad
  have b:=zgG f m l (fun y hy=>h y bg)
  simp only [List.flatMap_cons,List.length_append,List.length_cons,Nat.add_mul,Nat.one_mul]
  omega
theorem zzF {b:zay} (hb:zaP b) (h1:1≤b.cells) (side:Int) (now:List zaT) (x:Int×Int):(zmw b side now x).length≤now.length * if x.1=2 then b.cells.toNat else 1:=
 zgG _ _ _ (fun w _=>zBd hb h1 side w x)
theorem zqy {b:zay} (hb:zaP b) (h1:1≤b.cells) (side:Int):∀ (prog:List (Int×Int)) (now:List zaT),(prog.foldl (zmw b side) now).length≤now.length * b.cells.toNat ^ zaF prog 2
 | [],now=>bn
 |x::prog,now=>by
  have h:=zqy hb h1 side prog (zmw b side now x)
  have k:=zzF hb h1 side now x
  rw [List.foldl_cons]
  refine Nat.le_trans h ?_
  refine Nat.le_trans (Nat.mul_le_mul_right _ k) ?_
  unfold zaF at *
  rw [List.countP_cons,Nat.mul_assoc]
  refine Nat.mul_le_mul_left _ ?_
  by_cases h2:x.1=2
  ·simp [h2,Nat.pow_succ,Nat.mul_comm]
  ·simp [h2]
theorem zgO {b:zay} (hb:zaP b) (h1:1≤b.cells) (side:Int) (prog:List (Int×Int)) (cell:Int):(zbC b side prog cell).length≤b.cells.toNat ^ zaF prog 2:=by
 have:=zqy hb h1 side prog [⟨[],cell⟩]
 simpa [zbC] using this
def zjs (n:Nat) (l:List zaT):Prop:=∀w ∈ l,w.acts.length≤n
theorem zyh {b:zay} (hb:zaP b) (h9:b.cells≤9) (side:Int) (p:zaT) (x:Int×Int):zjs (p.acts.length+10) (zko b side p x):=by
 intro w hw
 unfold zko at hw
 split at hw
 ·split at hw
  ·simp at hw
  ·split at hw<;>simp only [List.mem_singleton] at hw<;>subst hw<;>simp [onP]
 ·split at hw
  ·obtain ⟨more,e1,e2, _, _⟩:=zgR hw
   have:=zkw hb (side:=side) (d:=x.2) (c:=p.to)
   rw [e1];simp;omega
  ·split at hw<;>simp only [List.mem_singleton] at hw<;>subst hw<;>simp [onP]
theorem zwG {b:zay} (hb:zaP b) (h9:b.cells≤9) (side:Int){n:Nat}{now:List zaT} (hn:zjs n now) (x:Int×Int):zjs (n+10) (zmw b side now x):=by
 intro w hw
 obtain ⟨p,hp,hw⟩:=List.mem_flatMap.1 hw
 have:=zyh hb h9 side p x w hw
 have:=hn p hp
 omega
def zc3 (cells kinds rights:Int) (a:zc7):Prop:=
 (3≤a.1∧a.1≤6∧(0≤a.2.1∧a.2.1<cells)∧a.2.2=0)∨(a.1=7∧(0≤a.2.1∧a.2.1<cells)∧(0≤a.2.2∧a.2.2<cells))∨
 (a.1=8∧(0≤a.2.1∧a.2.1<kinds)∧a.2.2=0)∨((a.1=9∨a.1=10)∧(0≤a.2.1∧a.2.1<rights)∧a.2.2=0)
def zbB (l:List zc7) (op:Int):Nat:=l.countP (fun a=>a.1==op)
structure zm8 (cells kinds rights:Int) (w:zaT) (t p b:Nat):Prop where
 to:0≤w.to∧w.to<cells
 acts:∀a ∈ w.acts,zc3 cells kinds rights a
 take:zbB w.acts 6≤t
 push:zbB w.acts 7≤p
 become:zbB w.acts 8≤b
theorem zbK (l m:List zc7) (op:Int):zbB (l++m) op=zbB l op+zbB m op:=by simp [zbB]
theorem zjE {l:List Int}{m:List zc7} (h:∀a ∈ m,∃c ∈ l,a=(3,c,0)){op:Int} (ho:op≠3):zbB m op=0:=by
 unfold zbB
 rw [List.countP_eq_zero]
 intro a ha
 obtain ⟨c, _,rfl⟩:=h a ha
 simpa using ho.symm
theorem zd2 (a:zc7) (op:Int):zbB [a] op=if a.1=op then 1 else 0:=by simp [zbB,List.countP_cons]
def zvX (x:Int×Int) (op:Int):Nat:=if x.1=op then 1 else 0
theorem zDz {b:zay} (hb:zaP b){kinds rights:Int}{side:Int}{w:zaT}{t p be:Nat} (hw:zm8 b.cells kinds rights w t p be){x:Int×Int} (hx:zeP b.next.length kinds rights x):
  ∀v ∈ zko b side w x,zm8 b.cells kinds rights v (t+zvX x 6) (p+zvX x 7) (be+zvX x 8):=by
 intro v hv
 obtain ⟨w1,w2,w3,w4,w5⟩:=hw
 obtain ⟨x1,x2,x3,x4,x5⟩:=hx
 have ht:=zfe hb side x.2 w.to
 unfold zko at hv
 unfold zvX
 split at hv
 ·rename_i h17
  split at hv
  ·simp at hv
  ·split at hv
   ·simp only [List.mem_singleton] at hv
    subst hv
    refine ⟨by simp only [onP];omega,by simpa [onP] using w2, ?_, ?_, ?_⟩<;>simp only [onP,List.append_nil]<;>omega
   ·have e7:x.1=7:=by omega
    simp only [List.mem_singleton] at hv
    subst hv
    refine ⟨w1,fun a ha=> ?_, ?_, ?_, ?_⟩
    ·simp only [onP,List.mem_append,List.mem_singleton] at ha
     rcases ha with ha|rfl
     ·exact w2 a ha
     ·exact .inr (.inl ⟨rfl,w1,ah⟩)
    all_goals simp only [onP,zbK,zd2,e7];simp only [show ((7:Int)=6)=False by decide,show ((7:Int)=8)=False by decide,if_true,if_false];omega
 ·split at hv
  ·rename_i h2
   obtain ⟨more,e1,e2,e3,e4⟩:=zgR hv
   rw [List.append_nil] at e1
   refine ⟨ze4 hb _ e3,fun a ha=> ?_, ?_, ?_, ?_⟩
   ·rw [e1,List.mem_append] at ha
    rcases ha with ha|ha
    ·exact w2 a ha
    ·obtain ⟨c,hc,rfl⟩:=e4 a ha
     exact .inl ⟨ad,ad,ze4 hb _ hc,rfl⟩
   all_goals rw [e1,zbK,zjE e4 aa];omega
  ·split at hv
   ·rename_i h17 h2 h8
    simp only [List.mem_singleton] at hv
    subst hv
    refine ⟨w1,fun a ha=> ?_, ?_, ?_, ?_⟩
    ·simp only [onP,List.mem_append,List.mem_singleton] at ha
     rcases ha with ha|rfl
     ·exact w2 a ha
     ·rcases h8 with h|h|h
      ·exact .inr (.inr (.inl ⟨h,x4 h,rfl⟩))
      ·exact .inr (.inr (.inr ⟨.inl h,x5 (.inl h),rfl⟩))
      ·exact .inr (.inr (.inr ⟨.inr h,x5 (.inr h),rfl⟩))
    all_goals simp only [onP,zbK,zd2];omega
   ·rename_i h17 h2 h8
    simp only [List.mem_singleton] at hv
    subst hv
    refine ⟨w1,fun a ha=> ?_, ?_, ?_, ?_⟩
    ·simp only [onP,List.mem_append,List.mem_singleton] at ha
     rcases ha with ha|rfl
     ·exact w2 a ha
     ·exact .inl ⟨ah,ah,w1,rfl⟩
    all_goals simp only [onP,zbK,zd2];omega
theorem zua {b:zay} (hb:zaP b){kinds rights:Int}{side:Int}:∀ {prog:List (Int×Int)}{now:List zaT}{t p be:Nat},(∀w ∈ now,zm8 b.cells kinds rights w t p be)→(∀x ∈ prog,zeP b.next.length kinds rights x)→
  ∀w ∈ prog.foldl (zmw b side) now,zm8 b.cells kinds rights w (t+zaF prog 6) (p+zaF prog 7) (be+zaF prog 8)
 | [],now,t,p,be,h, _,w,hw=>by simpa [zaF] using h w hw
 |x::prog,now,t,p,be,h,hx,w,hw=>by
  rw [List.foldl_cons] at hw
  have:=zua hb (side:=side) (prog:=prog) (now:=zmw b side now x) (t:=t+zvX x 6) (p:=p+zvX x 7) (be:=be+zvX x 8) (fun v hv=>by
   obtain ⟨u,hu,hv⟩:=List.mem_flatMap.1 hv
   exact zDz hb (h u hu) (hx x ad) v hv) (fun y hy=>hx y bg) w hw
  have e:∀op,zaF (x::prog) op=zaF prog op+zvX x op:=fun op=>by simp [zaF,List.countP_cons,zvX]
  rw [e,e,e]
  simpa [Nat.add_assoc,Nat.add_comm,Nat.add_left_comm] using this
theorem zzn {b:zay} (hb:zaP b){kinds rights side:Int}{prog:List (Int×Int)} (hp:∀x ∈ prog,zeP b.next.length kinds rights x){cell:Int} (hc:0≤cell∧cell<b.cells):
  ∀w ∈ zbC b side prog cell,zm8 b.cells kinds rights w (zaF prog 6) (zaF prog 7) (zaF prog 8):=by
 intro w hw
 have:=zua hb (side:=side) (kinds:=kinds) (rights:=rights) (prog:=prog) (now:= [⟨[],cell⟩]) (t:=0) (p:=0) (be:=0) (fun v hv=>by
  simp only [List.mem_singleton] at hv
  subst hv
  exact ⟨hc,ad,by simp [zbB],by simp [zbB],by simp [zbB]⟩) hp w hw
 simpa using this
theorem zgK {g:zab} (hg:GOk g){side:Int}{k:zfM} (hk:k ∈ g.kinds){cell:Int} (hc:0≤cell∧cell<g.cells):∀w ∈ zbH g.board side k.progs cell,zm8 g.cells g.kinds.length g.rights w 2 1 1:=by
 intro w hw
 obtain ⟨p,hp,hw⟩:=List.mem_flatMap.1 hw
 have ok:=hg.pr k hk p hp
 obtain ⟨a,b,c,d,e⟩:=zzn hg.board (side:=side) ok.st hc w hw
 exact ⟨a,b,Nat.le_trans c ok.take,Nat.le_trans d ok.push,Nat.le_trans e ok.become⟩
def zcO (l:List (List zaT)):Nat:=(l.map (·.length)).sum
def zb3 (l:List (List (List zaT))):Nat:=(l.map zcO).sum
def zk5 (c:zkD):Nat:=zb3 c.1+zb3 c.2
def zth (b:zay) (side:Int) (p:List (Int×Int)):Nat:=((List.range b.cells.toNat).map fun (c:Nat)=>(zbC b side p c).length).sum
theorem zfG {α:Type} (f g:α→Nat):∀l:List α,(l.map fun x=>f x+g x).sum=(l.map f).sum+(l.map g).sum
 | []=>rfl
 |x::l=>by simp [zfG f g l];omega
theorem zjZ {α:Type}:∀l:List α,(l.map fun _=>0).sum=0
 | []=>rfl
 |x::l=>by simpa using zjZ l
theorem zfd {α:Type} (f:α→Nat) (m:Nat):∀l:List α,(∀x ∈ l,f x≤m)→(l.map f).sum≤l.length * m
 | [], _=>ad
 |x::l,h=>by
  have:=zfd f m l (fun y hy=>h y bg)
  have:=h x ad
  simp [Nat.add_mul];omega
theorem zk3 (b:zay) (side:Int):∀progs:List (List (Int×Int)),zcO (zf0 b side progs)=(progs.map (zth b side)).sum
 | []=>by
  unfold zcO zf0 zbH
  simp only [List.flatMap_nil,List.map_map,List.map_nil,List.sum_nil]
  exact zjZ _
 |p::progs=>by
  have ih:=zk3 b side progs
  unfold zcO zf0 zbH at *
  rw [List.map_map] at ih ⊢
  simp only [List.flatMap_cons,List.map_cons,List.sum_cons,← ih]
  unfold zth
  rw [← zfG]
  congr 1
  refine List.map_congr_left fun c _=> ?_
  simp
theorem zni (g:zab) (side:Int):zb3 (zbM g side)=(g.kinds.map fun k=>(k.progs.map (zth g.board side)).sum).sum:=by
 unfold zb3 zbM
 rw [List.map_map]
 congr 1
 refine List.map_congr_left fun k _=> ?_
 exact zk3 _ _ _
def zBU (g:zab) (p:List (Int×Int)):Nat:=zth g.board 0 p+zth g.board 1 p
theorem zxY (g:zab):zk5 (zcy g)=(g.kinds.map fun k=>(k.progs.map (zBU g)).sum).sum:=by
 unfold zk5 zcy
 rw [zni,zni,← zfG]
 congr 1
 refine List.map_congr_left fun k _=> ?_
 rw [← zfG]
 rfl
def zcx (g:zab):Prop:=∀k ∈ g.kinds,∀p ∈ k.progs,zaF p 2≤1
theorem zuw {g:zab} (hg:GOk g) (side:Int){p:List (Int×Int)} (hs:zaF p 2≤1):zth g.board side p≤81:=by
 have c9:=hg.c9
 have c1:=hg.c1
 have:=zfd (fun (c:Nat)=>(zbC g.board side p c).length) 9 (List.range g.board.cells.toNat) (fun c _=>by
  have h:=zgO hg.board hg.c1 side p c
  have h2:g.board.cells.toNat≤9:=bX
  rcases (show zaF p 2=0∨zaF p 2=1 by omega) with e|e<;>rw [e] at h<;>simp at h<;>omega)
 have h2:g.board.cells.toNat≤9:=bX
 rw [List.length_range] at this
 unfold zth
 omega
theorem zxZ {g:zab} (hg:GOk g) (hs:zcx g):zk5 (zcy g)≤10000:=by
 rw [zxY]
 have:=zfd (fun k:zfM=>(k.progs.map (zBU g)).sum) 1296 g.kinds (fun k hk=>by
  have:=zfd (zBU g) 162 k.progs (fun p hp=>by
   have a:=zuw hg 0 (hs k hk p hp)
   have b:=zuw hg 1 (hs k hk p hp)
   unfold zBU;omega)
  have:=hg.pn k hk
  omega)
 have:=hg.k6
 omega
structure TkD where
 p:zaf
 kind:Int
 took:Bool
 deriving DecidableEq
instance:Inhabited TkD:=⟨⟨default,0,false⟩⟩
def zjp (g:zab) (side:Int) (t:TkD) (a:Int):TkD×Bool:=
 let m:=zan (nth t.p.at_ a.toNat)
 if m.2≠1 - side then (t,false) else
 if (nth g.kinds m.1.toNat).keep=true then
  (⟨(clr t.p a).withHand side ((t.p.hand side).set m.1.toNat (nth (t.p.hand side) m.1.toNat+1)),t.kind,true⟩,decide (nth (t.p.hand side) m.1.toNat+1≤8))
 else (⟨clr t.p a,t.kind,true⟩,true)
def zjg (t:TkD) (a b:Int):TkD×Bool:=
 if nth t.p.at_ a.toNat=0∨nth t.p.at_ b.toNat≠0 then (t,false)
 else (⟨{ t.p with at_:=(t.p.at_.set b.toNat (nth t.p.at_ a.toNat)).set a.toNat 0},t.kind,t.took⟩,true)
def doA (g:zab) (side:Int) (t:TkD) (x:zc7):TkD×Bool:=
 if x.1=3 then (t,decide (nth t.p.at_ x.2.1.toNat=0))
 else if x.1=4 then (t,decide ((zan (nth t.p.at_ x.2.1.toNat)).2=1 - side))
 else if x.1=5 then (t,decide ((zan (nth t.p.at_ x.2.1.toNat)).2=side))
 else if x.1=6 then zjp g side t x.2.1
 else if x.1=7 then zjg t x.2.1 x.2.2
 else if x.1=8 then (⟨t.p,x.2.1,t.took⟩,true)
 else if x.1=9 then (t,decide (ziI .i64 (t.p.rights.fdiv (2 ^ x.2.1.toNat)) 1=1))
 else if x.1=10 then (⟨{ t.p with rights:=zbg .i64 t.p.rights (2 ^ x.2.1.toNat)},t.kind,t.took⟩,true)
 else (t,true)
def zeq (g:zab) (side:Int):TkD→List zc7→Option TkD
 |t, []=>some t
 |t,x::l=>if (doA g side t x).2=true then zeq g side (doA g side t x).1 l else none
theorem zfr (g:zab) (side:Int):∀ (l m:List zc7) (t:TkD),zeq g side t (l++m)=(zeq g side t l).bind fun t=>zeq g side t m
 | [],m,t=>rfl
 |x::l,m,t=>by
  simp only [List.cons_append,zeq]
  split
  ·exact zfr g side l m _
  ·rfl
def stT (t:TkD) (c:Int):StD:=⟨t.p,t.kind,c,t.took⟩
def stW (g:zab) (side:Int) (t:TkD) (w:zaT):Option StD:=(zeq g side t w.acts).map fun t=>stT t w.to
theorem zpm (g:zab) (side:Int) (t:TkD) (w:zaT) (to:Int) (more:List zc7):
  stW g side t (onP w to more)=((zeq g side t w.acts).bind fun t=>zeq g side t more).map fun t=>stT t to:=by
 unfold stW onP
 rw [zfr]
theorem zx3 (g:zab) (side:Int) (t:TkD) (c:Int):doA g side t (3,c,0)=(t,decide (nth t.p.at_ c.toNat=0)):=by simp [doA]
theorem zjn {g:zab}{side:Int}{t:TkD}{w:zaT}:∀ {l:List Int}{passed:List zc7},((zeq g side t w.acts).bind fun t=>zeq g side t passed)=none→(zcd w l passed).filterMap (stW g side t)= []
 | [], _, _=>rfl
 |c::l,passed,h=>by
  rw [zcd,List.filterMap_cons,zpm,h]
  refine zjn ?_
  cases hd:zeq g side t w.acts with
  |none=>rfl
  |some u=>
   rw [hd] at h
   simp only [Option.bind_some] at h ⊢
   rw [zfr,h];rfl
theorem zof {g:zab}{side:Int}{t u:TkD}{w:zaT} (hd:zeq g side t w.acts=some u):∀ {l:List Int}{passed:List zc7},zeq g side u passed=some u→
  (zcd w l passed).filterMap (stW g side t)=zby (stT u w.to) l
 | [], _, _=>rfl
 |c::l,passed,h=>by
  rw [zcd,List.filterMap_cons,zpm,hd,Option.bind_some,h,zby]
  simp only [Option.map_some]
  congr 1
  have he:zeq g side u (passed++ [(3,c,0)])=if nth u.p.at_ c.toNat=0 then some u else none:=by
   rw [zfr,h,Option.bind_some]
   simp only [zeq,zx3,decide_eq_true_eq]
  show _=if nth u.p.at_ c.toNat=0 then _ else _
  split
  ·rename_i h0
   rw [if_pos h0] at he
   exact zof hd he
  ·rename_i h0
   rw [if_neg h0] at he
   refine zjn ?_
   rw [hd,Option.bind_some,he]
theorem zyj {g:zab}{side:Int}{t:TkD}{w:zaT} (h:zeq g side t w.acts=none) (x:Int×Int):(zko g.board side w x).filterMap (stW g side t)= []:=by
 have ho:∀to more,stW g side t (onP w to more)=none:=fun to more=>by rw [zpm,h];rfl
 unfold zko
 split
 ·split
  ·rfl
  ·split<;>simp [ho]
 ·split
  ·exact zjn (by rw [h];rfl)
  ·split<;>simp [ho]
theorem zqm {g:zab} (hg:GOk g){side:Int}{t u:TkD}{w:zaT} (hd:zeq g side t w.acts=some u) (hs:zfN g (stT u w.to)) (hside:u.p.side=side){x:Int×Int}
  (hx:zeP g.next.length g.kinds.length g.rights x):(zko g.board side w x).filterMap (stW g side t)=zbS g (stT u w.to) x:=by
 have ho:∀to more,stW g side t (onP w to more)=(zeq g side u more).map fun t=>stT t to:=fun to more=>by rw [zpm,hd];rfl
 have one:∀to a,stW g side t (onP w to [a])=if (doA g side u a).2=true then some (stT (doA g side u a).1 to) else none:=fun to a=>by
  rw [ho];simp only [zeq];split<;>rfl
 have hsl:=hs.p.s
 have hat:=hs.p.at (i:=w.to.toNat) (by have:=hs.c0;have:=hs.c1;simp only [stT] at *;omega)
 have hm:=zaO hat.1 hat.2 hg.k6
 have hto:=zfe hg.board side x.2 w.to
 have ht:=hx.op
 simp only [stT] at hsl hat hm
 rw [hside] at hsl
 unfold zbS zko
 simp only [show (stT u w.to).p=u.p from rfl,show (stT u w.to).cursor=w.to from rfl,hside]
 by_cases h1:x.1=1
 ·simp only [h1,true_or,if_true]
  by_cases hn:toB g.board side x.2 w.to<0
  ·rw [if_pos hn,show decide (0≤toB g.board side x.2 w.to)=false by simpa using hn];rfl
  ·rw [if_neg hn,show decide (0≤toB g.board side x.2 w.to)=true by simpa using hn]
   simp only [List.filterMap_cons,ho,zeq,Option.map_some,List.filterMap_nil,zcX,if_true,stT]
 by_cases h7:x.1=7
 ·simp only [h7,or_true,if_true,show ((7:Int)=1)=False by decide,show ((7:Int)=2)=False by decide,show ((7:Int)=3)=False by decide,show ((7:Int)=4)=False by decide,
   show ((7:Int)=5)=False by decide,show ((7:Int)=6)=False by decide,if_false,zm1]
  simp only [show (stT u w.to).p=u.p from rfl,show (stT u w.to).cursor=w.to from rfl,hside]
  by_cases hn:toB g.board side x.2 w.to<0
  ·rw [if_pos hn,if_pos (.inr (.inl hn))];rfl
  ·rw [if_neg hn]
   simp only [List.filterMap_cons,List.filterMap_nil,one,doA,show ((7:Int)=3)=False by decide,show ((7:Int)=4)=False by decide,show ((7:Int)=5)=False by decide,
    show ((7:Int)=6)=False by decide,if_false,if_true,zjg]
   by_cases hc:nth u.p.at_ w.to.toNat=0∨nth u.p.at_ (toB g.board side x.2 w.to).toNat≠0
   ·have hc':nth u.p.at_ w.to.toNat=0∨toB g.board side x.2 w.to<0∨nth u.p.at_ (toB g.board side x.2 w.to).toNat≠0:=by rcases hc with h|h;exact .inl h;exact .inr (.inr h)
    simp only [if_pos hc,if_pos hc',Bool.false_eq_true,if_false]
   ·have hc':¬(nth u.p.at_ w.to.toNat=0∨toB g.board side x.2 w.to<0∨nth u.p.at_ (toB g.board side x.2 w.to).toNat≠0):=by rintro (h|h|h);exact hc (.inl h);exact hn h;exact hc (.inr h)
    simp only [if_neg hc,if_neg hc',if_true,stT,hside]
 rw [if_neg aa]
 by_cases h2:x.1=2
 ·simp only [h2,show ((2:Int)=1)=False by decide,if_true,if_false,zmq]
  simp only [show (stT u w.to).p=u.p from rfl,show (stT u w.to).cursor=w.to from rfl,hside]
  exact zof hd rfl
 rw [if_neg h2,if_neg h1,if_neg h2]
 by_cases h8:x.1=8
 ·simp [h8,one,doA,stT]
 by_cases h9:x.1=9
 ·simp only [h9,one,doA,zcX,show ((9:Int)=8)=False by decide,show ((9:Int)=10)=False by decide,show ((9:Int)=3)=False by decide,show ((9:Int)=4)=False by decide,show ((9:Int)=5)=False by decide,
   show ((9:Int)=6)=False by decide,show ((9:Int)=7)=False by decide,if_true,if_false,or_true,true_or,false_or,or_false,List.filterMap_cons,List.filterMap_nil]
  split<;>simp_all [stT]
 by_cases h10:x.1=10
 ·simp [h10,one,doA,stT,hside]
 rw [if_neg aa]
 simp only [one,List.filterMap_cons,List.filterMap_nil]
 by_cases h3:x.1=3
 ·simp only [h3,if_true,doA,zcX]
  rcases hm with ⟨h0,e⟩|⟨h0,e1,e2,e3,e4⟩
  ·rw [e];simp [h0,stT]
  ·rw [if_neg (by simpa using h0),if_neg ak]
 by_cases h4:x.1=4
 ·simp only [h4,show ((4:Int)=3)=False by decide,if_true,if_false,doA,zcX]
  rcases hm with ⟨h0,e⟩|⟨h0,e1,e2,e3,e4⟩
  ·rw [e,if_neg ak,if_neg ad]
  ·by_cases hs':(zan (nth u.p.at_ w.to.toNat)).2=1 - side
   ·rw [if_pos dq,if_pos ak]
   ·rw [if_neg dq,if_neg ak]
 by_cases h5:x.1=5
 ·simp only [h5,show ((5:Int)=3)=False by decide,show ((5:Int)=4)=False by decide,if_true,if_false,doA,zcX]
  rcases hm with ⟨h0,e⟩|⟨h0,e1,e2,e3,e4⟩
  ·rw [e,if_neg ak,if_neg ad]
  ·by_cases hs':(zan (nth u.p.at_ w.to.toNat)).2=side
   ·rw [if_pos dq,if_pos ak]
   ·rw [if_neg dq,if_neg ak]
 have h6:x.1=6:=aa
 simp only [h6,show ((6:Int)=3)=False by decide,show ((6:Int)=4)=False by decide,show ((6:Int)=5)=False by decide,if_true,if_false,doA,zjp,zm3]
 simp only [show (stT u w.to).p=u.p from rfl,show (stT u w.to).cursor=w.to from rfl,hside]
 rcases hm with ⟨h0,e⟩|⟨h0,e1,e2,e3,e4⟩
 ·have hne:(-1:Int)≠1 - side:=by omega
  rw [e]
  simp [hne]
 ·by_cases hs':(zan (nth u.p.at_ w.to.toNat)).2=1 - side
  ·rw [if_neg (not_not_intro hs'),if_neg (show ¬((zan (nth u.p.at_ w.to.toNat)).1<0∨(zan (nth u.p.at_ w.to.toNat)).2=side) by omega)]
   by_cases hk:(nth g.kinds (zan (nth u.p.at_ w.to.toNat)).1.toNat).keep=true
   ·rw [if_pos hk,if_pos hk]
    by_cases h9:nth (u.p.hand side) (zan (nth u.p.at_ w.to.toNat)).1.toNat+1≤8
    ·have h9':¬8<nth (u.p.hand side) (zan (nth u.p.at_ w.to.toNat)).1.toNat+1:=by omega
     simp only [h9,h9',decide_true,if_true,if_false,stT]
    ·have h9':8<nth (u.p.hand side) (zan (nth u.p.at_ w.to.toNat)).1.toNat+1:=by omega
     simp only [h9,h9',decide_false,if_true,Bool.false_eq_true,if_false]
   ·rw [if_neg hk,if_neg hk];simp [stT]
  ·rw [if_pos hs',if_pos (show (zan (nth u.p.at_ w.to.toNat)).1<0∨(zan (nth u.p.at_ w.to.toNat)).2=side by omega)];simp
theorem ztN:∀ {more l:List StD}{s:StD},s ∈ zeN l more↔s ∈ l∨s ∈ more
 | [],l,s=>by simp [zeN]
 |m::more,l,s=>by
  show s ∈ zeN (if m ∈ l then l else l++ [m]) more↔ _
  rw [ztN]
  split
  ·rename_i h
   simp only [List.mem_cons]
   exact ⟨fun h=>by rcases h with h|h<;>simp [h],fun h=>by rcases h with h|rfl|h;exact .inl h;exact .inl ‹_›;exact .inr h⟩
  ·simp only [List.mem_append,List.mem_cons,List.mem_singleton,List.not_mem_nil,or_false]
   exact or_assoc
theorem zn1 (g:zab) (x:Int×Int):∀ (now acc:List StD) (s:StD),s ∈ now.foldl (fun next s=>zeN next (zbS g s x)) acc↔s ∈ acc∨∃r ∈ now,s ∈ zbS g r x
 | [],acc,s=>ad
 |r::now,acc,s=>by
  rw [List.foldl_cons,zn1 g x now,ztN]
  simp only [List.mem_cons,exists_eq_or_imp]
  exact or_assoc
theorem zq6 (g:zab) (x:Int×Int) (now:List StD) (s:StD):s ∈ zht g now x↔∃r ∈ now,s ∈ zbS g r x:=by
 unfold zht
 rw [zn1];simp
theorem zux {g:zab} (hg:GOk g){side:Int}{t:TkD}:∀ (prog:List (Int×Int)) (nowP:List zaT) (nowS:List StD),(∀x ∈ prog,zeP g.next.length g.kinds.length g.rights x)→
  (∀s,s ∈ nowP.filterMap (stW g side t)↔s ∈ nowS)→(∀s ∈ nowS,zfN g s∧s.p.side=side)→
  ∀s,s ∈ (prog.foldl (zmw g.board side) nowP).filterMap (stW g side t)↔s ∈ prog.foldl (zht g) nowS
 | [],nowP,nowS, _,h, _,s=>h s
 |x::prog,nowP,nowS,hp,h,hk,s=>by
  rw [List.foldl_cons,List.foldl_cons]
  have hx:=hp x ad
  refine zux hg prog _ _ (fun y hy=>hp y bg) (fun s=> ?_) (fun s hs=> ?_) s
  ·rw [zq6]
   unfold zmw
   rw [List.filterMap_flatMap,List.mem_flatMap]
   constructor
   ·rintro ⟨w,hw,hs⟩
    cases hd:zeq g side t w.acts with
    |none=>rw [zyj hd] at hs;simp at hs
    |some u=>
     have hu:stT u w.to ∈ nowS:=(h _).1 (List.mem_filterMap.2 ⟨w,hw,by simp [stW,hd]⟩)
     rw [zqm hg hd (hk _ hu).1 (hk _ hu).2 hx] at hs
     exact ⟨_,hu,hs⟩
   ·rintro ⟨r,hr,hs⟩
    obtain ⟨w,hw,e⟩:=List.mem_filterMap.1 ((h r).2 hr)
    unfold stW at e
    cases hd:zeq g side t w.acts with
    |none=>rw [hd] at e;simp at e
    |some u=>
     rw [hd] at e
     simp only [Option.map_some,Option.some.injEq] at e
     subst e
     exact ⟨w,hw,by rw [zqm hg hd (hk _ hr).1 (hk _ hr).2 hx];exact hs⟩
  ·obtain ⟨r,hr,hs⟩:=(zq6 g x nowS s).1 hs
   obtain ⟨k1,k2⟩:=ziw hg (hk r hr).1 hx s hs
   exact ⟨k1,k2.trans (hk r hr).2⟩
def zcN (p:zaf) (cell:Int):TkD:=⟨clr p cell,(zan (nth p.at_ cell.toNat)).1,false⟩
def zwg (g:zab) (side:Int) (t:TkD) (w:zaT):Option zcq:=(stW g side t w).bind (zgX side)
def zpk (g:zab) (p:zaf) (cell:Int):List zaT:=
 zbH g.board (zan (nth p.at_ cell.toNat)).2 (nth g.kinds (zan (nth p.at_ cell.toNat)).1.toNat).progs cell
def zzi (g:zab) (p:zaf) (cell:Int):List zcq:=(zpk g p cell).filterMap (zwg g (zan (nth p.at_ cell.toNat)).2 (zcN p cell))
def runO (g:zab) (p:zaf) (cell:Int):List zcq:=if nth p.at_ cell.toNat=0 then [] else za3 zjC (zzi g p cell)
def zbN (p:zaf) (s:Int):zaf:={ p with side:=s}
def zuy (g:zab) (p:zaf) (cell:Int):List zcq:=
 if (zan (nth p.at_ cell.toNat)).1<0 then [] else
 za3 zjC ((List.range (nth g.kinds (zan (nth p.at_ cell.toNat)).1.toNat).progs.length).flatMap fun (i:Nat)=>zdu g (zbN p (zan (nth p.at_ cell.toNat)).2) cell i)
def TkD.sd (t:TkD) (s:Int):TkD:={ t with p:=zbN t.p s}
theorem zDF (p:zaf) (s side:Int):(zbN p s).hand side=p.hand side:=rfl
theorem ztD (p:zaf) (s side:Int) (l:List Int):(zbN p s).withHand side l=zbN (p.withHand side l) s:=aI
theorem doA_sd (g:zab) (side:Int) (t:TkD) (s:Int) (x:zc7):doA g side (t.sd s) x=((doA g side t x).1.sd s,(doA g side t x).2):=by
 unfold doA zjp zjg
 simp only [TkD.sd,show (zbN t.p s).at_=t.p.at_ from rfl,show (zbN t.p s).rights=t.p.rights from rfl,zDF]
 have hc:clr (zbN t.p s) x.2.1=zbN (clr t.p x.2.1) s:=rfl
 rw [hc,ztD]
 split;· rfl
 split;· rfl
 split;· rfl
 split
 ·split;· rfl
  split<;>rfl
 split
 ·split<;>rfl
 split;· rfl
 split;· rfl
 split<;>rfl
theorem zx5 (g:zab) (side:Int) (s:Int):∀ (l:List zc7) (t:TkD),zeq g side (t.sd s) l=(zeq g side t l).map fun t=>t.sd s
 | [],t=>rfl
 |x::l,t=>by
  simp only [zeq,doA_sd]
  split
  ·exact zx5 g side s l _
  ·rfl
theorem zD4 (g:zab) (side:Int) (t:TkD) (s:Int) (w:zaT):zwg g side (t.sd s) w=zwg g side t w:=by
 unfold zwg stW
 rw [zx5]
 cases zeq g side t w.acts with
 |none=>rfl
 |some u=>rfl
theorem zrk {g:zab} (hg:GOk g){p:zaf} (hp:POk g p){cell:Int} (h0:0≤cell) (h1:cell<g.cells):runO g p cell=zuy g p cell:=by
 have hat:=hp.at (i:=cell.toNat) aa
 unfold runO zuy
 rcases zaO hat.1 hat.2 hg.k6 with ⟨hz,e⟩|⟨hz,e1,e2,e3,e4⟩
 ·rw [if_pos hz,e,if_pos am]
 rw [if_neg hz,if_neg aa]
 generalize hs:(zan (nth p.at_ cell.toNat)).2=side at e3 e4
 refine ztt zci fun o=> ?_
 have hq:POk g (zbN p side):=hp.side e3
 have hst:zcN p cell=zcN p cell:=rfl
 have hout:∀w,zwg g side (zcN p cell) w=zwg g side ((zcN p cell).sd side) w:=fun w=>(zD4 g side _ side w).symm
 obtain ⟨progs,hpg⟩:∃l,l=(nth g.kinds (zan (nth p.at_ cell.toNat)).1.toNat).progs:=⟨_,rfl⟩
 have hkm:nth g.kinds (zan (nth p.at_ cell.toNat)).1.toNat ∈ g.kinds:=zag aa
 have key:∀prog ∈ progs,∀o,o ∈ (zbC g.board side prog cell).filterMap (zwg g side (zcN p cell))↔o ∈ (zeJ g (zbN p side) cell prog).filterMap (zgX side):=by
  intro prog hm o
  have hok:=hg.pr _ hkm prog (hpg▸hm)
  have hs0:=zmu hg hq h0 h1 (show 0≤(zan (nth (zbN p side).at_ cell.toNat)).1 from e1)
  have hmem:=zux hg (side:=side) (t:=(zcN p cell).sd side) prog [⟨[],cell⟩] [zfb (zbN p side) cell] hok.st (fun s=>by simp [stW,zeq,zcN,stT,zfb,TkD.sd,zbN,clr])
   (fun s hs=>by rw [List.mem_singleton] at hs;subst hs;exact ⟨hs0.1,hs0.2⟩)
  rw [show zwg g side (zcN p cell)=zwg g side ((zcN p cell).sd side) from funext hout]
  simp only [List.mem_filterMap,zwg,Option.bind_eq_some_iff]
  constructor
  ·rintro ⟨w,hw,s,h3,h4⟩
   exact ⟨s,(hmem s).1 (List.mem_filterMap.2 ⟨w,hw,h3⟩),h4⟩
  ·rintro ⟨s,h3,h4⟩
   obtain ⟨w,hw,h5⟩:=List.mem_filterMap.1 ((hmem s).2 h3)
   exact ⟨w,hw,s,h5,h4⟩
 have e5:zzi g p cell=progs.flatMap fun prog=>(zbC g.board side prog cell).filterMap (zwg g side (zcN p cell)):=by
  unfold zzi zpk zbH
  rw [hs,← hpg,List.filterMap_flatMap]
 have hr:∀i,i<progs.length→zdu g (zbN p side) cell (i:Int)=za3 zjC ((zeJ g (zbN p side) cell (nth progs i)).filterMap (zgX side)):=fun i _=>by
  unfold zdu za1
  rw [show nth (zbN p side).at_ cell.toNat=nth p.at_ cell.toNat from rfl,← hpg]
  rfl
 rw [e5,List.mem_flatMap,List.mem_flatMap]
 rw [← hpg]
 constructor
 ·rintro ⟨prog,hm,h⟩
  obtain ⟨i,hi,rfl⟩:=List.mem_iff_getElem.1 hm
  refine ⟨i,List.mem_range.2 hi, ?_⟩
  rw [hr i hi,zaG,zap _ _ hi]
  exact (key _ hm o).1 h
 ·rintro ⟨i,hi,h⟩
  have hi':=List.mem_range.1 hi
  rw [hr i hi',zaG,zap _ _ hi'] at h
  exact ⟨_,List.getElem_mem hi',(key _ (List.getElem_mem hi') o).2 h⟩
def zps:List AV:= [.v (.slice none 0 0), .v (.slice none 0 0), .v (.slice none 0 0), .int 0, .int 0, .v (.bool false)]
theorem zhl {α:Type} [DecidableEq α] {l:List α} (h:l.length<2):zbj l=l:=by
 match l,h with
 | [], _=>rfl
 | [a], _=>rfl
 |a::b::l,h=>simp only [List.length_cons] at h;omega
end Go.Av
end
section
namespace Go.Av
open Go Go.Sort Go.Shelf Go.Proofs
structure El (w:World) (M:Nat→Prop){α:Type} (en:α→List AV) (Q:α→Prop) where
 x:α
 vs:List Value
 q:Q x
 rel:zaJ noP w M (en x) vs
 cells:∀v ∈ vs,zch v=true
theorem zvC {w:World}{M:Nat→Prop}{α:Type}{en:α→List AV}{Q:α→Prop}:∀ {l:List α}{W:List Value},(∀x ∈ l,Q x)→zaJ noP w M (l.map en).flatten W→(∀v ∈ W,zch v=true)→
  ∃ls:List (El w M en Q),ls.map (·.x)=l∧(ls.map (·.vs)).flatten=W
 | [],W, _,h, _=>by cases h;exact ⟨[],rfl,rfl⟩
 |x::l,W,hq,h,hc=>by
  rw [List.map_cons,List.flatten_cons] at h
  obtain ⟨us,ts,rfl,h1,h2⟩:=h.split
  obtain ⟨ls,e1,e2⟩:=zvC (fun y hy=>hq y bg) h2 (fun v hv=>hc v (by simp [hv]))
  exact ⟨⟨x,us,hq x ad,h1,fun v hv=>hc v (by simp [hv])⟩::ls,by simp [e1],by simp [e2]⟩
theorem zt7 {k:Nat} (hk:0<k):∀ (ls:List (List Value)) (t:Nat),(∀r ∈ ls,r.length=k)→t<ls.length * k→ls.flatten[t]? =(ls[t / k]?).bind (·[t % k]?)
 | [],t, _,h=>by simp at h
 |r::ls,t,hr,h=>by
  have hl:r.length=k:=hr r ad
  rw [List.flatten_cons]
  by_cases ht:t<k
  ·rw [List.getElem?_append_left aa,Nat.div_eq_of_lt ht,Nat.mod_eq_of_lt ht];rfl
  ·obtain ⟨s,rfl⟩:∃s,t=s+k:=⟨t - k,aa⟩
   have hs:s<ls.length * k:=by simp only [List.length_cons,Nat.add_mul,Nat.one_mul] at h;omega
   rw [List.getElem?_append_right aa,hl,Nat.add_sub_cancel,zt7 hk ls s (fun r hr'=>hr r (by simp [hr'])) hs,Nat.add_div_right _ hk,Nat.add_mod_right,List.getElem?_cons_succ]
theorem zvN {β:Type} [Inhabited β] (enc:β→List Value){k:Nat} (hk0:0<k) (hk:∀x,(enc x).length=k) (d:Array β):(flatK enc k d).toList=(d.toList.map enc).flatten:=by
 refine List.ext_getElem? fun t=> ?_
 have hr:∀r ∈ d.toList.map enc,r.length=k:=fun r hr=>by obtain ⟨x, _,rfl⟩:=List.mem_map.1 hr;exact hk x
 have hlen:((d.toList.map enc).flatten).length=d.size * k:=by
  have:∀ls:List (List Value),(∀r ∈ ls,r.length=k)→ls.flatten.length=ls.length * k:=by
   intro ls
   induction ls with
   |nil=>intro _;simp
   |cons r ls ih=>intro h;rw [List.flatten_cons,List.length_append,ih (fun r hr=>h r bv),h r ad,List.length_cons,Nat.add_mul];omega
  rw [this _ hr];simp
 by_cases ht:t<d.size * k
 ·have h1:=get_flatK enc k d t ht
  have hq:t / k<d.size:=Nat.div_lt_of_lt_mul (by rw [Nat.mul_comm];exact ht)
  have hm:t % k<k:=Nat.mod_lt _ hk0
  have hs:t<(flatK enc k d).size:=by rw [size_flatK];exact ht
  rw [zt7 hk0 _ t hr (by simpa using ht),Array.getElem?_toList,Array.getElem?_eq_getElem hs,← getElem!_pos (flatK enc k d) t hs,h1,List.getElem?_map,Array.getElem?_toList,Array.getElem?_eq_getElem hq,
   getElem!_pos d (t / k) hq]
  simp only [Option.map_some,Option.bind_some]
  rw [List.getElem?_eq_getElem (by rw [hk];exact hm),getElem!_pos _ _ (by rw [hk];exact hm)]
 ·rw [List.getElem?_eq_none (by rw [Array.length_toList,size_flatK];omega),List.getElem?_eq_none aa]
theorem zwF {w:World}{blk off:Nat}{C:Array Value}{T:TypeId} (hb:w.heap[blk]? =some (.cells C T (0,0))){F:Array Value} (hF:off+F.size≤C.size) (n:Nat) (os:Array Obj):
  ∃C',(grow (putRow id (Sort.ahead w n) blk off F) os).heap[blk]? =some (.cells C' T (0,0))∧C'.size=C.size∧(C'.toList.drop off).take F.size=F.toList∧
   (∀j,j≠blk→j<w.heap.size→(grow (putRow id (Sort.ahead w n) blk off F) os).heap[j]? =w.heap[j]?)∧w.heap.size≤(grow (putRow id (Sort.ahead w n) blk off F) os).heap.size:=by
 have hlt:blk<w.heap.size:=(Array.getElem?_eq_some_iff.1 hb).1
 have hsz:(putRow id (Sort.ahead w n) blk off F).heap.size=w.heap.size:=by rw [Sort.size_putRow];rfl
 have hold:∀j,j<w.heap.size→(grow (putRow id (Sort.ahead w n) blk off F) os).heap[j]? =(w.heap.modify blk (onCells (putCells id off F)))[j]? :=by
  intro j hj
  show (_++os)[j]? = _
  rw [Array.getElem?_append_left (by rw [hsz];exact hj)]
  rfl
 refine ⟨putCells id off F C, ?_,by simp [putCells], ?_,fun j hj hjl=> ?_, ?_⟩
 ·rw [hold blk hlt,Array.getElem?_modify]
  simp [hb,onCells]
 ·refine List.ext_getElem? fun j=> ?_
  by_cases hj:j<F.size
  ·rw [List.getElem?_take,if_pos hj,List.getElem?_drop,Array.getElem?_toList,Array.getElem?_toList]
   simp only [putCells,Array.getElem?_mapIdx]
   rw [Array.getElem?_eq_getElem (show off+j<C.size by omega),Array.getElem?_eq_getElem hj]
   simp only [Option.map_some]
   rw [if_pos ⟨aa,aa⟩,show off+j - off=j by omega,getElem!_pos F j hj]
   rfl
  ·rw [List.getElem?_eq_none ak,List.getElem?_eq_none bz]
 ·rw [hold j hjl,Array.getElem?_modify,if_neg (Ne.symm hj)]
 ·rw [size_grow,hsz];omega
theorem zmt {w:World}{blk off:Nat}{C:Array Value}{T:TypeId} (hb:w.heap[blk]? =some (.cells C T (0,0))){β:Type} [Inhabited β] (enc:β→List Value) (k:Nat) (d:Array β) (hF:off+d.size * k≤C.size) (n:Nat) (os:Array Obj):
  ∃C',(sortWorldK enc k w blk off n d os).heap[blk]? =some (.cells C' T (0,0))∧C'.size=C.size∧(C'.toList.drop off).take (d.size * k)=(flatK enc k d).toList∧
   (∀j,j≠blk→j<w.heap.size→(sortWorldK enc k w blk off n d os).heap[j]? =w.heap[j]?)∧w.heap.size≤(sortWorldK enc k w blk off n d os).heap.size∧
   (sortWorldK enc k w blk off n d os).os=w.os∧(sortWorldK enc k w blk off n d os).tape=w.tape∧(sortWorldK enc k w blk off n d os).output=w.output∧w.drawn≤(sortWorldK enc k w blk off n d os).drawn:=by
 obtain ⟨C',h1,h2,h3,h4,h5⟩:=zwF hb (F:=flatK enc k d) (by rw [size_flatK];exact hF) n os
 unfold sortWorldK putRowK
 rw [size_flatK] at h3
 exact ⟨C',h1,h2,h3,h4,h5,rfl,rfl,rfl,Nat.le_add_right _ _⟩
theorem zB7 {α β:Type}{lt:α→α→Bool} (h:SWO lt) (f:β→α):SWO (fun a b=>lt (f a) (f b)):=⟨fun _=>h.irrefl _,fun _ _ _=>h.trans _ _ _,fun _ _ _=>h.ntrans _ _ _⟩
theorem zEM {P:Program}{ρ:Ren} (L:SlLaysF0.n6 P ρ){α:Type}{k:Nat} (hk0:0<k) (aE:∀w,(isAgg (ρ.t 24)).run P w= .ok true w) (zE:∀w,(Go.sizeOf (ρ.t 24)).run P w= .ok k w)
  (en:α→List AV) (henl:∀x,(en x).length=k) (henb:∀x,∀c ∈ en x,Bel 0 c) (Q:α→Prop) (cf:α→α→Int) (hO:SWO (fun a b:α=>decide (cf a b<0))) (g:FuncId)
  (hC:∀x y,Q x→Q y→zaD P g [.agg (en x), .agg (en y)] (.v (.int .i64 (cf x y)))) (hg:zep P g) (l:List α) (hQ:∀x ∈ l,Q x) (hl:l.length<4611686018427387904) {h:zaq} {n o gn:Nat}
  (ho:h o=some (.rows true gn k (l.map en))) {K:zcn} (hK:∀l':List α,l'.Perm l→l'.Pairwise (fun a b=>¬cf b a<0)→K (.tup []) (upd h o (some (.rows true gn k (l'.map en)))) n):
  zah P (ρ.f 6) [.sl o gn k 0 l.length, .fn (.func g) [] []] h n K:=by
 have e6:zep P (ρ.f 6):=L.f6.enters rfl
 refine ⟨e6,fun M0 φ w vs hH hargs=> ?_⟩
 cases hargs with
 |cons hs ht=>
 cases ht with
 |cons hf ht=>
 cases ht
 cases hf with
 | @fn _ _ _ fs cs q1 q2=>
 cases q1;cases q2
 have hal:zcG h o gn k:=bt
 obtain ⟨A,cap,rfl,hcap,hA⟩:=hH.sl_alive hal hs
 have hnone:l= []→Calls P (ρ.f 6) ⟨[.slice A l.length cap, .func (.func g) ⟨[]⟩ ⟨[]⟩]⟩ w fun e w'=>∃v φ' r h' n',e= .returned v∧K r h' n'∧zhD φ' n' w' M0 h'∧Rel φ' w' (Or M0 (Mut φ' h')) r v∧zc8 φ w M0 h φ' w' h':=by
  intro he
  subst he
  refine (AnyF.slices_SortFunc_none L A cap _ w).mono ?_
  rintro e w' ⟨rfl,rfl⟩
  have:=hK [] (.refl _) .nil
  rw [← ho,zeB] at this
  exact ⟨_,φ, .tup [],h,n,rfl,this,hH, .tup (vs:= []) .nil, .refl _ _ _ _⟩
 by_cases he:l= []
 ·exact hnone he
 have hlp:0<l.length:=List.length_pos_iff.2 he
 rcases hA with ⟨rfl, _,h0, _⟩|⟨h0,rfl, _⟩|⟨a,bs,hp,hsp,rfl,hcb⟩
 ·omega
 ·omega
 obtain ⟨A0,hA0,hobj⟩:=hH.obj _ _ _ _ _ ho
 rw [hp] at hA0
 simp only [Option.some.injEq,Prod.mk.injEq,true_and] at hA0
 subst hA0
 rcases hobj with ⟨hobj, _⟩|⟨a₁,bs₁,e1,h0,hd⟩
 ·cases hobj
 simp only [Option.some.injEq,Prod.mk.injEq] at e1
 obtain ⟨rfl,rfl⟩:=e1
 obtain ⟨C,T,hb,hCs,hr,hle,hv,hrel⟩:=hd.cells hsp
 rw [List.length_map] at hle hv hrel
 have hrel0:zaJ noP w (Or M0 (Mut φ h)) (l.map en).flatten ((C.toList.drop a.off).take (l.length * k)):=zhx (fun _ hk=>hk) (fun c hc=>by
  obtain ⟨r,hr,hc⟩:=List.mem_flatten.1 hc
  obtain ⟨x, _,rfl⟩:=List.mem_map.1 hr
  exact henb x c hc) hrel
 obtain ⟨ls,hlx,hlv⟩:=zvC (Q:=Q) hQ hrel0 hv
 have hlen:ls.length=l.length:=by rw [← hlx,List.length_map]
 obtain ⟨d,hd⟩:∃d:Array (El w (Or M0 (Mut φ h)) en Q),d=ls.toArray:=⟨_,rfl⟩
 have hds:d.size=l.length:=by rw [hd];simpa using hlen
 haveI:Inhabited (El w (Or M0 (Mut φ h)) en Q):=⟨ls[0]' aa⟩
 have hkE:∀x:El w (Or M0 (Mut φ h)) en Q,x.vs.length=k:=fun x=>by rw [← x.rel.length,henl]
 have hMb:Or M0 (Mut φ h) a.block:= .inr ⟨o,gn,k, _,gn,a,bs,ho,hp,rfl⟩
 have hblk:a.block<w.heap.size:=(Array.getElem?_eq_some_iff.1 hb).1
 have hfl:∀d':Array (El w (Or M0 (Mut φ h)) en Q),(flatK (fun x=>x.vs) k d').toList=(d'.toList.map fun x=>x.vs).flatten:=fun d'=>zvN _ hk0 hkE d'
 have hCal:Calls P (ρ.f 6) ⟨[.slice (some ⟨a.block,a.off+0 * k,none⟩) l.length cap, .func (.func g) ⟨[]⟩ ⟨[]⟩]⟩ w fun e w'=>
   e= .returned (.tuple #[])∧∃d' n os,PermIn 0 d.size d d'∧SortedIn (ltOf fun x y:El w (Or M0 (Mut φ h)) en Q=>cf x.x y.x) 0 d.size d'∧w'=sortWorldK (fun x=>x.vs) k w a.block a.off n d' os:=by
  rw [Nat.zero_mul,Nat.add_zero,← hds]
  refine AnyQ.slices_SortFunc L k aE zE (fun x:El w (Or M0 (Mut φ h)) en Q=>x.vs) hkE (fun x=>x.cells) (fun x y=>cf x.x y.x) (zB7 hO fun x:El w (Or M0 (Mut φ h)) en Q=>x.x) g #[] a.block a.off cap d w hg ?_ ?_ hblk aa
  ·intro m os dk hdk x y
   obtain ⟨hx1,hx2⟩:=hC x.x y.x x.q y.q
   obtain ⟨C',k1,k2,k3,k4,k5,k6,k7,k8,k9⟩:=zmt (off:=a.off) hb (fun x:El w (Or M0 (Mut φ h)) en Q=>x.vs) k dk (by rw [hdk,hds];omega) m os
   generalize sortWorldK (fun x:El w (Or M0 (Mut φ h)) en Q=>x.vs) k w a.block a.off m dk os=X at *
   have hkeep:∀z:El w (Or M0 (Mut φ h)) en Q,zaJ noP X (Or M0 (Mut φ h)) (en z.x) z.vs:=fun z=>
    z.rel.keep noP.le_refl (fun j hj hjl=>k4 j (fun e=>hj (e▸hMb)) hjl) (fun j hj=> .inl hj)
   have hag:∀z:El w (Or M0 (Mut φ h)) en Q,Rel noP X (Or M0 (Mut φ h)) (.agg (en z.x)) (.agg z.vs.toArray):=fun z=> .agg z.cells (hkeep z)
   refine (hx2 (Or M0 (Mut φ h)) X [.agg x.vs.toArray, .agg y.vs.toArray] (fun j hj=>Nat.lt_of_lt_of_le (hH.blk hj) k5) (hH.glob.keep (fun j hj hjl=>k4 j (fun e=>hj (e▸hMb)) hjl) (fun j hj=> .inl hj)) (.cons (hag x) (.cons (hag y) .nil))).mono ?_
   rintro e w' ⟨v,rfl,hrv,hfr⟩
   cases hrv
   refine ⟨rfl,w'.drawn - X.drawn,w'.heap.extract X.heap.size w'.heap.size, ?_⟩
   have hheap:X.heap++w'.heap.extract X.heap.size w'.heap.size=w'.heap:=by
    refine Array.ext_getElem? fun j=> ?_
    by_cases hj:j<X.heap.size
    ·rw [Array.getElem?_append_left hj,hfr.block j hj (fun h=>h)]
    ·rw [Array.getElem?_append_right aa,Array.getElem?_extract]
     have:=hfr.size
     split
     ·congr 1;omega
     ·rw [Array.getElem?_eq_none aa]
   have hdr:X.drawn+(w'.drawn - X.drawn)=w'.drawn:=by have:=hfr.drawn;omega
   cases w' with
   |mk hp tp dr os' out=>
    have e1:=hfr.os;have e2:=hfr.tape;have e3:=hfr.output
    simp only at e1 e2 e3 hheap hdr
    subst e1 e2 e3
    simp only [grow,World.drewN,hheap,hdr]
  ·intro j hj
   have hjl:j<((C.toList.drop a.off).take (l.length * k)).length:=by
    rw [← hlv,← show (d.toList.map fun x=>x.vs)=ls.map (·.vs) by rw [hd],← hfl,Array.length_toList];exact hj
   have hget:(flatK (fun x:El w (Or M0 (Mut φ h)) en Q=>x.vs) k d)[j]! =C[a.off+j]! :=by
    have e1:(flatK (fun x:El w (Or M0 (Mut φ h)) en Q=>x.vs) k d).toList=(C.toList.drop a.off).take (l.length * k):=by rw [hfl,hd];exact hlv
    have hjC:a.off+j<C.size:=by simp at hjl;omega
    rw [getElem!_pos _ j hj,getElem!_pos C _ hjC,← Array.getElem_toList,← Array.getElem_toList (xs:=C)]
    simp only [e1,List.getElem_take,List.getElem_drop]
   have hjC:a.off+j<C.size:=by simp at hjl;omega
   refine ⟨?_, ?_⟩
   ·simp only [World.cell?,hb]
    rw [hget]
    simp [hjC]
   ·simp [World.frozen?,hb]
 refine hCal.mono ?_
 rintro e w' ⟨rfl,d',n',os,hperm,hsort,rfl⟩
 obtain ⟨hps, _,hpp⟩:=hperm
 obtain ⟨C',k1,k2,k3,k4,k5,k6,k7,k8,k9⟩:=zmt (off:=a.off) hb (fun x:El w (Or M0 (Mut φ h)) en Q=>x.vs) k d' (by rw [hps,hds];omega) n' os
 generalize sortWorldK (fun x:El w (Or M0 (Mut φ h)) en Q=>x.vs) k w a.block a.off n' d' os=X at *
 obtain ⟨l',hl'⟩:∃l':List α,l'=d'.toList.map fun x=>x.x:=⟨_,rfl⟩
 have hl'l:l'.length=l.length:=by rw [hl',List.length_map,Array.length_toList,hps,hds]
 have hpl:l'.Perm l:=by
  have h1:(d'.extract 0 d.size).toList=d'.toList:=by rw [← hps];simp
  have h2:(d.extract 0 d.size).toList=d.toList:=ad
  rw [h1,h2] at hpp
  have:=hpp.map fun x=>x.x
  rw [hl',← hlx]
  simpa [hd] using this
 have hpw:l'.Pairwise (fun x y=>¬cf y x<0):=by
  rw [hl',List.pairwise_map,List.pairwise_iff_getElem]
  intro i j hi hj hij
  have hi':i<d'.size:=aJ
  have hj':j<d'.size:=bz
  have:=hsort i j (Nat.zero_le _) hij aa
  rw [getElem!_pos d' i hi',getElem!_pos d' j hj'] at this
  simpa [ltOf] using this
 have hwin:(C'.toList.drop a.off).take (l'.length * k)=(d'.toList.map fun x=>x.vs).flatten:=by
  rw [hps,hds,hfl] at k3
  rw [hl'l];exact k3
 have hrel':zaJ φ w (Or M0 (Mut φ h)) (l'.map en).flatten ((C'.toList.drop a.off).take (l'.length * k)):=by
  rw [hwin,hl']
  generalize d'.toList=ds
  induction ds with
  |nil=>exact .nil
  |cons z ds ih=>
   simp only [List.map_cons,List.flatten_cons]
   exact (z.rel.keep (fun o x ho=>by cases ho) (fun _ _ _=>rfl) (fun k hk=> .inl hk)).append ih
 have hle0:φ.le (upd φ o (some (gn,some (a,bs)))):=bf
 have hol:¬n≤o:=fun hle=>by rw [hH.fresh o hle] at hp;cases hp
 obtain ⟨g1,g2,g3⟩:=hH.set (w':=X) (F':=fun o=>n≤o) (o:=o) (mt:=true) (g:=gn) (sz:=k) (rs:=l'.map en) (A:=some (a,bs))
  (fun _ h=>h) hol k5 hle0 (fun j hj hjl=>k4 j (fun e=>hj (e▸hMb)) hjl)
  (fun o' mt' g' sz' rs' a₁ b₁ hne ho' hp'=>by
   have:=hH.inj _ _ _ _ _ _ _ _ _ _ _ _ _ _ ho ho' (Ne.symm hne) (.inl rfl) hp hp'
   have hlt:a₁.block<w.heap.size:=by
    obtain ⟨A1,hA1,hc1⟩:=hH.obj _ _ _ _ _ ho'
    rw [hp'] at hA1
    simp only [Option.some.injEq,Prod.mk.injEq,true_and] at hA1
    subst hA1
    rcases hc1 with ⟨hc1, _⟩|⟨a2,b2,e2, _,hb2⟩
    ·cases hc1
    ·simp only [Option.some.injEq,Prod.mk.injEq] at e2
     obtain ⟨rfl,rfl⟩:=e2
     exact hb2.blk
   refine ⟨k4 _ (Ne.symm this) hlt,fun a₂ b₂ e=> ?_⟩
   simp only [Option.some.injEq,Prod.mk.injEq] at e
   obtain ⟨rfl,rfl⟩:=e
   exact this)
  (fun a₁ b₁ e=>by
   simp only [Option.some.injEq,Prod.mk.injEq] at e
   obtain ⟨rfl,rfl⟩:=e
   exact .inl hMb)
  (.inr ⟨a,bs,C',T,rfl,hsp,h0,k1,by rw [k2];exact hCs,fun r hr=>by
    obtain ⟨x, _,rfl⟩:=List.mem_map.1 hr
    exact henl x,by rw [List.length_map,hl'l];exact hle,fun c hm=>by
    rw [List.length_map,hwin] at hm
    obtain ⟨r,hr,hm⟩:=List.mem_flatten.1 hm
    obtain ⟨z, _,rfl⟩:=List.mem_map.1 hr
    exact z.cells c hm,by rw [List.length_map];exact hrel'⟩)
 refine ⟨_, _, .tup [], _,n,rfl,hK l' hpl hpw,g1, .tup (vs:= []) .nil,⟨hle0,g2,⟨k6,k7,k8,k9,k5,fun j hj hu=>k4 j (fun e=>hu ⟨o,gn,k, _,gn,a,bs,ho,hp,e.symm⟩) hj⟩,fun j hj=> ?_⟩⟩
 rcases g3 j hj with h|⟨a₁,b₁,e,rfl⟩
 ·exact .inl h
 ·simp only [Option.some.injEq,Prod.mk.injEq] at e
  obtain ⟨rfl,rfl⟩:=e
  exact .inl ⟨o,gn,k, _,gn,a,bs,ho,hp,rfl⟩
end Go.Av
end
section
namespace Go.Proofs
open Go.Shelf
def zz2:Go.Shelf.Ren:=⟨fun|6=>137|15=>104|14=>173|28=>150|29=>151|20=>201|21=>202|22=>203|23=>204|24=>205|25=>206|26=>207|27=>208|46=>223|47=>175|48=>176|49=>224|50=>225|57=>236|n=>n,fun|22=>164|24=>128|25=>214|3=>3|39=>151|0=>0|53=>226|55=>228|4=>4|46=>220|45=>219|50=>109|5=>5|9=>9|66=>253|70=>257|76=>277|77=>174|n=>n,fun n=>n⟩
theorem zsort:Go.Proofs.SlLaysF0.n6 Tryz.prog zz2:={
 mixed:=ai
 f6:=⟨Tryz.f137.name,am,Tryz.func137.trans (congrArg some ai)⟩
 f14:=⟨Tryz.f173.name,am,Tryz.func173.trans (congrArg some ai)⟩
 f15:=Tryz.func104.trans (congrArg some ai)
 f20:=⟨Tryz.f201.name,am,Tryz.func201.trans (congrArg some ai)⟩
 f21:=⟨Tryz.f202.name,am,Tryz.func202.trans (congrArg some ai)⟩
 f22:=⟨Tryz.f203.name,am,Tryz.func203.trans (congrArg some ai)⟩
 f23:=⟨Tryz.f204.name,am,Tryz.func204.trans (congrArg some ai)⟩
 f24:=⟨Tryz.f205.name,am,Tryz.func205.trans (congrArg some ai)⟩
 f25:=⟨Tryz.f206.name,am,Tryz.func206.trans (congrArg some ai)⟩
 f26:=⟨Tryz.f207.name,am,Tryz.func207.trans (congrArg some ai)⟩
 f27:=⟨Tryz.f208.name,am,Tryz.func208.trans (congrArg some ai)⟩
 f28:=Tryz.func150.trans (congrArg some ai)
 f29:=Tryz.func151.trans (congrArg some ai)
 f46:=⟨Tryz.f223.name,am,Tryz.func223.trans (congrArg some ai)⟩
 f47:=Tryz.func175.trans (congrArg some ai)
 f48:=Tryz.func176.trans (congrArg some ai)
 f49:=⟨Tryz.f224.name,am,Tryz.func224.trans (congrArg some ai)⟩
 f50:=⟨Tryz.f225.name,am,Tryz.func225.trans (congrArg some ai)⟩
 f57:=⟨Tryz.f236.name,am,Tryz.func236.trans (congrArg some ai)⟩
 t0:=Tryz.underlying0
 a0:=Tryz.isAgg0
 z0:=Tryz.sizeOf0
 v0:=Tryz.zeroValue0
 t3:=Tryz.underlying3
 a3:=Tryz.isAgg3
 z3:=Tryz.sizeOf3
 v3:=Tryz.zeroValue3
 t4:=Tryz.underlying4
 a4:=Tryz.isAgg4
 z4:=Tryz.sizeOf4
 v4:=Tryz.zeroValue4
 t5:=Tryz.underlying5
 a5:=Tryz.isAgg5
 z5:=Tryz.sizeOf5
 v5:=Tryz.zeroValue5
 t9:=Tryz.underlying9
 a9:=Tryz.isAgg9
 z9:=Tryz.sizeOf9
 v9:=Tryz.zeroValue9
 t22:=Tryz.underlying164
 a22:=Tryz.isAgg164
 z22:=Tryz.sizeOf164
 v22:=Tryz.zeroValue164
 t25:=Tryz.underlying214
 a25:=Tryz.isAgg214
 z25:=Tryz.sizeOf214
 v25:=Tryz.zeroValue214
 t39:=Tryz.underlying151
 a39:=Tryz.isAgg151
 z39:=Tryz.sizeOf151
 v39:=Tryz.zeroValue151
 t45:=Tryz.underlying219
 a45:=Tryz.isAgg219
 z45:=Tryz.sizeOf219
 v45:=Tryz.zeroValue219
 t46:=Tryz.underlying220
 a46:=Tryz.isAgg220
 z46:=Tryz.sizeOf220
 v46:=Tryz.zeroValue220
 t50:=Tryz.underlying109
 a50:=Tryz.isAgg109
 z50:=Tryz.sizeOf109
 v50:=Tryz.zeroValue109
 t53:=Tryz.underlying226
 a53:=Tryz.isAgg226
 z53:=Tryz.sizeOf226
 v53:=Tryz.zeroValue226
 t55:=Tryz.underlying228
 a55:=Tryz.isAgg228
 z55:=Tryz.sizeOf228
 v55:=Tryz.zeroValue228
 t66:=Tryz.underlying253
 a66:=Tryz.isAgg253
 z66:=Tryz.sizeOf253
 v66:=Tryz.zeroValue253
 t70:=Tryz.underlying257
 a70:=Tryz.isAgg257
 z70:=Tryz.sizeOf257
 v70:=Tryz.zeroValue257
 t76:=Tryz.underlying277
 a76:=Tryz.isAgg277
 z76:=Tryz.sizeOf277
 v76:=Tryz.zeroValue277
 t77:=Tryz.underlying174
 a77:=Tryz.isAgg174
 z77:=Tryz.sizeOf174
 v77:=Tryz.zeroValue174}
end Go.Proofs
end
section
open Go Go.Proofs
namespace Go.Av
theorem zom (l:List zcq) (gn:Nat) (hl:l.length≤17179869184) (hf:∀o ∈ l,zaQ o.pos):
  zeC Tryz.prog 139 [.sl 0 gn 6 0 l.length, .fn (.func 140) [] []] [(0, .rows true gn 6 (l.map zaS))] 1
   (.sl 0 gn 6 0 (zbj l).length) [(0, .rows true gn 6 ((zbj l).map zaS++List.replicate (l.length - (zbj l).length) zps))] 1:=by
 unfold zeC
 by_cases h2:l.length<2
 ·rw [zhl h2]
  refine aF Tryz.func139 ?_
  refine J0 ?_
  refine FxT ?_
  refine J0 ?_
  simp [go_sem,zad]
 obtain ⟨D,hD⟩:∃D,D=zbj l:=⟨_,rfl⟩
 rw [← hD]
 have hE:∀i j,i<l.length→j<l.length→zaD Tryz.prog 140 [.agg (zaS (nth l i)), .agg (zaS (nth l j))] (.v (.bool (decide (nth l i=nth l j)))):=
  fun i j hi hj=>zww _ _ (hf _ (zag hi)) (hf _ (zag hj))
 refine aF Tryz.func139 ?_
 refine J0 ?_
 refine FxF ?_
 refine J0 ?_
 refine zEp (zEs (α:=Nat) (fun j=>⟨[(0, .sl 0 gn 6 0 l.length),(1, .fn (.func 140) [] []),(5, .int j)], [(0, .rows true gn 6 (l.map zaS))],1⟩)
  (fun d j=>1≤j∧j+d=l.length∧D=l.take j++zaZ (nth l (j - 1)) (l.drop j)) ?_ (l.length - 1) 1 ?_) ?_ ?_
 ·rintro d j ⟨i1,i2,i3⟩ hrec
  have e1:((j:Int) - 1).toNat=j - 1:=aa
  refine J0 ?_
  refine zEr (fun hj=> ?_) (fun hj=> ?_)<;>simp at hj
  ·have hj':j - 1<l.length:=by omega
   rw [zas hj,zaZ] at i3
   refine J3 hj hj' e1 ?_
   refine dP (hE j (j - 1) hj hj') ?_
   refine J3 hj hj' e1 ?_
   by_cases he:nth l j=nth l (j - 1)
   ·rw [if_pos he] at i3
    refine J4 he hj hj' e1 ?_
    refine zEp (zEs (α:=Nat×List zcq×Nat) (fun a=>⟨[(0, .sl 0 gn 6 0 l.length),(1, .fn (.func 140) [] []),(5, .int a.2.2),(6, .sl 0 gn 6 j (l.length - j)),(7, .int a.1)], [(0, .rows true gn 6 (a.2.1.map zaS))],1⟩)
     (fun d a=>1≤a.1∧j+a.1+d=l.length∧a.2.1.length=l.length∧a.2.2≤j+a.1 - 1∧a.2.1.drop (j+a.1 - 1)=l.drop (j+a.1 - 1)∧D=a.2.1.take a.2.2++zaZ (nth l (j+a.1 - 1)) (l.drop (j+a.1))) ?_ (l.length - j - 1) (1,l,j) ?_) ?_ ?_
    ·rintro d2 ⟨k2,R,k⟩ ⟨j1,j2,j3,j4,j5,j6⟩ hrec2
     simp only at j1 j2 j3 j4 j5 j6
     have e2:((k2:Int) - 1).toNat=k2 - 1:=aa
     have e3:j+(k2 - 1)=j+k2 - 1:=aa
     have hRn:∀m,j+k2 - 1≤m→m<l.length→nth R m=nth l m:=fun m h1 h2=>by
      have h3:(R.drop (j+k2 - 1))[m - (j+k2 - 1)]? =(l.drop (j+k2 - 1))[m - (j+k2 - 1)]? :=by rw [j5]
      rw [List.getElem?_drop,List.getElem?_drop,show j+k2 - 1+(m - (j+k2 - 1))=m by omega,List.getElem?_eq_getElem aa,List.getElem?_eq_getElem h2] at h3
      rw [zap _ _ aa,zap _ _ h2]
      exact Option.some.inj h3
     refine J1 j3 ?_
     refine zEr (fun hk=> ?_) (fun hk=> ?_)<;>simp at hk
     ·have hk1:j+k2<l.length:=by omega
      have hk0:j+k2 - 1<l.length:=aa
      have hr1:=hRn (j+k2) aa hk1
      have hr0:=hRn (j+k2 - 1) aa hk0
      rw [zas hk1,zaZ] at j6
      have hk2:k2 - 1<l.length - j:=aa
      have hk3:k<l.length:=aa
      refine J9 j3 hk hk1 hk0 hr1 hr0 e2 e3 hk2 ?_
      refine dP (hE (j+k2) (j+k2 - 1) hk1 hk0) ?_
      refine J9 j3 hk hk1 hk0 hr1 hr0 e2 e3 hk2 ?_
      by_cases hc:nth l (j+k2)=nth l (j+k2 - 1)
      ·rw [if_pos hc] at j6
       refine J1 hc ?_
       refine zEp (hrec2 (d2 - 1) aa (k2+1,R,k) ⟨ah,ah,j3,ah, ?_, ?_⟩) ?_ ad
       ·have:=congrArg (List.drop 1) j5
        rw [List.drop_drop,List.drop_drop] at this
        rw [show j+(k2+1) - 1=j+k2 - 1+1 by omega]
        exact this
       ·simp only
        rw [show j+(k2+1) - 1=j+k2 by omega,hc]
        exact j6
       ·simp [go_sem,zad]
      ·rw [if_neg hc] at j6
       refine J11 hc j3 hk hk1 hk0 hr1 hr0 e2 e3 hk2 hk3 ?_
       refine zEp (hrec2 (d2 - 1) aa (k2+1,R.set k (nth l (j+k2)),k+1) ⟨ah,ah,by simpa using j3,ah, ?_, ?_⟩) ?_ ad
       ·have:=congrArg (List.drop 1) j5
        rw [List.drop_drop,List.drop_drop] at this
        simp only
        rw [show j+(k2+1) - 1=j+k2 - 1+1 by omega,List.drop_set,if_pos aa]
        exact this
       ·simp only
        rw [show j+(k2+1) - 1=j+k2 by omega,List.take_add_one,List.take_set_of_le aa,List.getElem?_set_self aa,Option.toList_some,List.append_assoc]
        exact j6
       ·have hb:∀n,∀r ∈ ((R.set k (nth l (j+k2))).map zaS),∀c ∈ r,Bel n c:=fun n=>of_eq_true ztT
        rw [List.map_set] at hb
        simp [go_sem,zad,List.map_set]
        exact hb 1
     ·rw [List.drop_eq_nil_of_le aa,zaZ,List.append_nil] at j6
      have hDl:D.length=k:=cG
      have hd0:List.drop (k+(l.length - k)) (R.map zaS)= []:=List.drop_eq_nil_of_le ak
      have hDm:D.map zaS=List.take k (R.map zaS):=by rw [j6,List.map_take]
      refine J0 ?_
      simp [go_sem,zad,hd0,hDl,hDm,zps]
      exact fun x hx=>of_eq_true (ztT (n:=1) (l:=R)) x (List.mem_of_mem_take hx)
    ·refine ⟨Nat.le_refl _,ah,rfl,ah,rfl, ?_⟩
     simp only
     rw [Nat.add_sub_cancel,he]
     exact i3
    ·simp [go_sem,zad]
    ·simp
   ·rw [if_neg he] at i3
    refine J4 he hj hj' e1 ?_
    refine zEp (hrec (d - 1) aa (j+1) ⟨aa,aa, ?_⟩) ?_ ad
    ·rw [i3,Nat.add_sub_cancel,List.take_add_one,List.getElem?_eq_getElem hj,zap _ _ hj,Option.toList_some,List.append_assoc];rfl
    ·simp [go_sem,zad]
  ·rw [List.drop_eq_nil_of_le hj,List.take_of_length_le hj,zaZ,List.append_nil] at i3
   rw [i3]
   refine J0 ?_
   simp [go_sem,zad]
 ·refine ⟨Nat.le_refl _,aa, ?_⟩
  cases l with
  |nil=>simp at h2
  |cons a l=>rw [hD];rfl
 ·simp [go_sem,zad]
 ·simp
theorem zoH (l:List zcq) (gn:Nat) (hl:l.length≤17179869184) (hf:∀o ∈ l,zaQ o.pos){h:zaq}{n o:Nat} (ho:h o=some (.rows true gn 6 (l.map zaS))) (hon:o<n){K:zcn}
  (hK:K (.sl o gn 6 0 (zbj l).length) (upd h o (some (.rows true gn 6 ((zbj l).map zaS++List.replicate (l.length - (zbj l).length) zps)))) n):
  zah Tryz.prog 139 [.sl o gn 6 0 l.length, .fn (.func 140) [] []] h n K:=by
 have hz:∀m,∀r ∈ (zbj l).map zaS++List.replicate (l.length - (zbj l).length) zps,∀c ∈ r,Bel m c:=by
  intro m r hr c hc
  rcases List.mem_append.1 hr with hr|hr
  ·exact zcT _ r hr c hc
  ·rw [List.eq_of_mem_replicate hr] at hc
   simp only [zps,List.mem_cons,List.not_mem_nil,or_false] at hc
   rcases hc with rfl|rfl|rfl|rfl|rfl|rfl<;>exact .v _
 refine zEE (args':= [.sl o gn 6 0 l.length, .fn (.func 140) [] []]) (HH:= [(o, .rows true gn 6 ((zbj l).map zaS++List.replicate (l.length - (zbj l).length) zps))])
  [o] h (zom l gn hl hf) ad (by simpa using hon) rfl (Nat.le_refl _) (.refl _) ?_ ?_ (.refl _ _ _ _) ?_ ?_ ?_ (.sl rfl) ?_ ?_
 ·intro j hj
  obtain rfl:j=0:=aa
  exact ⟨_, _,rfl,ho, .rows (.same (zcT _))⟩
 ·intro p hp
  simp only [List.mem_singleton] at hp
  subst hp
  exact ⟨Nat.le_of_ble_eq_true rfl,zcT _⟩
 ·intro y hy
  simp only [List.mem_cons,List.not_mem_nil,or_false] at hy
  rcases hy with rfl|rfl
  ·exact .sl hon
  ·simp [go_sem]
 ·exact .cons (.sl rfl) (.cons (.same ae) .nil)
 ·intro y hy
  simp only [List.mem_cons,List.not_mem_nil,or_false] at hy
  rcases hy with rfl|rfl
  ·exact .sl am
  ·simp [go_sem]
 ·exact .cons rfl (.rows (.same (hz 0))) .nil
 ·have e:zel [(o, .rows true gn 6 ((zbj l).map zaS++List.replicate (l.length - (zbj l).length) zps))] (zmI [o] h)=upd h o (some (.rows true gn 6 ((zbj l).map zaS++List.replicate (l.length - (zbj l).length) zps))):=by
   funext j
   simp only [zel,zmI,upd]
   by_cases j1:j=o
   ·simp [j1]
   ·simp [j1]
  rw [e,Nat.sub_self,Nat.add_zero]
  exact hK
theorem zmP (l:List zcq) (gn m:Nat) (hm:l.length=m) (hl:m≤17179869184) (hf:∀o ∈ l,zaQ o.pos){h:zaq}{n o:Nat} (ho:h o=some (.rows true gn 6 (l.map zaS))) (hon:o<n){K:zcn}
  (hK:K (.sl o gn 6 0 (zbj l).length) (upd h o (some (.rows true gn 6 ((zbj l).map zaS++List.replicate (l.length - (zbj l).length) zps)))) n):
  zah Tryz.prog 139 [.sl o gn 6 0 m, .fn (.func 140) [] []] h n K:=by
 subst hm
 exact zoH l gn hl hf ho hon hK
theorem zB6:Go.Sort.SWO (fun a b:zcq=>decide (zjC a b<0)):=by
 refine ⟨fun x=> ?_,fun x y z h1 h2=> ?_,fun x y z h1 h2=> ?_⟩
 ·have:=zci.swap x x
  simp;omega
 ·simp only [decide_eq_true_eq] at h1 h2 ⊢
  have t:=zci.tr x y z aa aa
  rcases Int.lt_or_eq_of_le t with h|h
  ·exact h
  ·have e:=(zci.eq _ _).1 h
   subst e
   have:=zci.swap x y
   omega
 ·simp only [decide_eq_false_iff_not] at h1 h2 ⊢
  have s1:=zci.swap x y
  have s2:=zci.swap y z
  have s3:=zci.swap x z
  have t:=zci.tr z y x aa aa
  omega
theorem zwD (l:List zcq) (hf:∀o ∈ l,zaQ o.pos) (hl:l.length<4611686018427387904){h:zaq}{n o gn:Nat} (ho:h o=some (.rows true gn 6 (l.map zaS))){K:zcn}
  (hK:K (.tup []) (upd h o (some (.rows true gn 6 ((zcM zjC l).map zaS)))) n):
  zah Tryz.prog 137 [.sl o gn 6 0 l.length, .fn (.func 138) [] []] h n K:=by
 refine zEM zsort (k:=6) aa Tryz.isAgg128 Tryz.sizeOf128 zaS (fun _=>rfl) ?_ (fun o=>zaQ o.pos) zjC zB6 _ (fun x y hx hy=>zhw x y hx hy) ?_ l hf hl ho ?_
 ·intro x
  simp [go_sem]
 ·exact (zhw default default cw cw).1
 ·intro l' hp hs
  have:zcM zjC l=l':=zgq zci hp (hs.imp fun {a b} hab=>by
   have:=zci.swap a b
   simp only [leC,decide_eq_true_eq]
   omega)
  rw [← this]
  exact hK
end Go.Av
end
section
namespace Go.Proofs
open Go.Shelf
def zwU:Go.Shelf.Ren:=⟨fun|6=>56|15=>104|14=>103|28=>150|29=>151|20=>142|21=>143|22=>144|23=>145|24=>146|25=>147|26=>148|27=>149|46=>174|47=>175|48=>176|49=>177|50=>178|57=>209|n=>n,fun|22=>46|24=>45|25=>103|3=>3|39=>151|0=>0|53=>226|55=>228|4=>4|46=>220|45=>219|50=>109|5=>5|9=>9|66=>253|70=>257|76=>277|77=>174|n=>n,fun n=>n⟩
theorem zsortP:Go.Proofs.SlLaysF0.n6 Tryz.prog zwU:={
 mixed:=ai
 f6:=⟨Tryz.f56.name,am,Tryz.func56.trans (congrArg some ai)⟩
 f14:=⟨Tryz.f103.name,am,Tryz.func103.trans (congrArg some ai)⟩
 f15:=Tryz.func104.trans (congrArg some ai)
 f20:=⟨Tryz.f142.name,am,Tryz.func142.trans (congrArg some ai)⟩
 f21:=⟨Tryz.f143.name,am,Tryz.func143.trans (congrArg some ai)⟩
 f22:=⟨Tryz.f144.name,am,Tryz.func144.trans (congrArg some ai)⟩
 f23:=⟨Tryz.f145.name,am,Tryz.func145.trans (congrArg some ai)⟩
 f24:=⟨Tryz.f146.name,am,Tryz.func146.trans (congrArg some ai)⟩
 f25:=⟨Tryz.f147.name,am,Tryz.func147.trans (congrArg some ai)⟩
 f26:=⟨Tryz.f148.name,am,Tryz.func148.trans (congrArg some ai)⟩
 f27:=⟨Tryz.f149.name,am,Tryz.func149.trans (congrArg some ai)⟩
 f28:=Tryz.func150.trans (congrArg some ai)
 f29:=Tryz.func151.trans (congrArg some ai)
 f46:=⟨Tryz.f174.name,am,Tryz.func174.trans (congrArg some ai)⟩
 f47:=Tryz.func175.trans (congrArg some ai)
 f48:=Tryz.func176.trans (congrArg some ai)
 f49:=⟨Tryz.f177.name,am,Tryz.func177.trans (congrArg some ai)⟩
 f50:=⟨Tryz.f178.name,am,Tryz.func178.trans (congrArg some ai)⟩
 f57:=⟨Tryz.f209.name,am,Tryz.func209.trans (congrArg some ai)⟩
 t0:=Tryz.underlying0
 a0:=Tryz.isAgg0
 z0:=Tryz.sizeOf0
 v0:=Tryz.zeroValue0
 t3:=Tryz.underlying3
 a3:=Tryz.isAgg3
 z3:=Tryz.sizeOf3
 v3:=Tryz.zeroValue3
 t4:=Tryz.underlying4
 a4:=Tryz.isAgg4
 z4:=Tryz.sizeOf4
 v4:=Tryz.zeroValue4
 t5:=Tryz.underlying5
 a5:=Tryz.isAgg5
 z5:=Tryz.sizeOf5
 v5:=Tryz.zeroValue5
 t9:=Tryz.underlying9
 a9:=Tryz.isAgg9
 z9:=Tryz.sizeOf9
 v9:=Tryz.zeroValue9
 t22:=Tryz.underlying46
 a22:=Tryz.isAgg46
 z22:=Tryz.sizeOf46
 v22:=Tryz.zeroValue46
 t25:=Tryz.underlying103
 a25:=Tryz.isAgg103
 z25:=Tryz.sizeOf103
 v25:=Tryz.zeroValue103
 t39:=Tryz.underlying151
 a39:=Tryz.isAgg151
 z39:=Tryz.sizeOf151
 v39:=Tryz.zeroValue151
 t45:=Tryz.underlying219
 a45:=Tryz.isAgg219
 z45:=Tryz.sizeOf219
 v45:=Tryz.zeroValue219
 t46:=Tryz.underlying220
 a46:=Tryz.isAgg220
 z46:=Tryz.sizeOf220
 v46:=Tryz.zeroValue220
 t50:=Tryz.underlying109
 a50:=Tryz.isAgg109
 z50:=Tryz.sizeOf109
 v50:=Tryz.zeroValue109
 t53:=Tryz.underlying226
 a53:=Tryz.isAgg226
 z53:=Tryz.sizeOf226
 v53:=Tryz.zeroValue226
 t55:=Tryz.underlying228
 a55:=Tryz.isAgg228
 z55:=Tryz.sizeOf228
 v55:=Tryz.zeroValue228
 t66:=Tryz.underlying253
 a66:=Tryz.isAgg253
 z66:=Tryz.sizeOf253
 v66:=Tryz.zeroValue253
 t70:=Tryz.underlying257
 a70:=Tryz.isAgg257
 z70:=Tryz.sizeOf257
 v70:=Tryz.zeroValue257
 t76:=Tryz.underlying277
 a76:=Tryz.isAgg277
 z76:=Tryz.sizeOf277
 v76:=Tryz.zeroValue277
 t77:=Tryz.underlying174
 a77:=Tryz.isAgg174
 z77:=Tryz.sizeOf174
 v77:=Tryz.zeroValue174}
end Go.Proofs
end
section
open Go Go.Proofs
namespace Go.Av
def zpt:List AV:= [.v (.slice none 0 0), .v (.slice none 0 0), .v (.slice none 0 0), .int 0, .int 0]
theorem zol (l:List zaf) (gn:Nat) (hl:l.length≤17179869184) (hf:∀o ∈ l,zaQ o):
  zeC Tryz.prog 57 [.sl 0 gn 5 0 l.length, .fn (.func 58) [] []] [(0, .rows true gn 5 (l.map zae))] 1
   (.sl 0 gn 5 0 (zbj l).length) [(0, .rows true gn 5 ((zbj l).map zae++List.replicate (l.length - (zbj l).length) zpt))] 1:=by
 unfold zeC
 by_cases h2:l.length<2
 ·rw [zhl h2]
  refine aF Tryz.func57 ?_
  refine J0 ?_
  refine FxT ?_
  refine J0 ?_
  simp [go_sem,zad]
 obtain ⟨D,hD⟩:∃D,D=zbj l:=⟨_,rfl⟩
 rw [← hD]
 have hE:∀i j,i<l.length→j<l.length→zaD Tryz.prog 58 [.agg (zae (nth l i)), .agg (zae (nth l j))] (.v (.bool (decide (nth l i=nth l j)))):=
  fun i j hi hj=>zti _ _ (hf _ (zag hi)) (hf _ (zag hj))
 refine aF Tryz.func57 ?_
 refine J0 ?_
 refine FxF ?_
 refine J0 ?_
 refine zEp (zEs (α:=Nat) (fun j=>⟨[(0, .sl 0 gn 5 0 l.length),(1, .fn (.func 58) [] []),(5, .int j)], [(0, .rows true gn 5 (l.map zae))],1⟩)
  (fun d j=>1≤j∧j+d=l.length∧D=l.take j++zaZ (nth l (j - 1)) (l.drop j)) ?_ (l.length - 1) 1 ?_) ?_ ?_
 ·rintro d j ⟨i1,i2,i3⟩ hrec
  have e1:((j:Int) - 1).toNat=j - 1:=aa
  refine J0 ?_
  refine zEr (fun hj=> ?_) (fun hj=> ?_)<;>simp at hj
  ·have hj':j - 1<l.length:=by omega
   rw [zas hj,zaZ] at i3
   refine J3 hj hj' e1 ?_
   refine dP (hE j (j - 1) hj hj') ?_
   refine J3 hj hj' e1 ?_
   by_cases he:nth l j=nth l (j - 1)
   ·rw [if_pos he] at i3
    refine J4 he hj hj' e1 ?_
    refine zEp (zEs (α:=Nat×List zaf×Nat) (fun a=>⟨[(0, .sl 0 gn 5 0 l.length),(1, .fn (.func 58) [] []),(5, .int a.2.2),(6, .sl 0 gn 5 j (l.length - j)),(7, .int a.1)], [(0, .rows true gn 5 (a.2.1.map zae))],1⟩)
     (fun d a=>1≤a.1∧j+a.1+d=l.length∧a.2.1.length=l.length∧a.2.2≤j+a.1 - 1∧a.2.1.drop (j+a.1 - 1)=l.drop (j+a.1 - 1)∧D=a.2.1.take a.2.2++zaZ (nth l (j+a.1 - 1)) (l.drop (j+a.1))) ?_ (l.length - j - 1) (1,l,j) ?_) ?_ ?_
    ·rintro d2 ⟨k2,R,k⟩ ⟨j1,j2,j3,j4,j5,j6⟩ hrec2
     simp only at j1 j2 j3 j4 j5 j6
     have e2:((k2:Int) - 1).toNat=k2 - 1:=aa
     have e3:j+(k2 - 1)=j+k2 - 1:=aa
     have hRn:∀m,j+k2 - 1≤m→m<l.length→nth R m=nth l m:=fun m h1 h2=>by
      have h3:(R.drop (j+k2 - 1))[m - (j+k2 - 1)]? =(l.drop (j+k2 - 1))[m - (j+k2 - 1)]? :=by rw [j5]
      rw [List.getElem?_drop,List.getElem?_drop,show j+k2 - 1+(m - (j+k2 - 1))=m by omega,List.getElem?_eq_getElem aa,List.getElem?_eq_getElem h2] at h3
      rw [zap _ _ aa,zap _ _ h2]
      exact Option.some.inj h3
     refine J1 j3 ?_
     refine zEr (fun hk=> ?_) (fun hk=> ?_)<;>simp at hk
     ·have hk1:j+k2<l.length:=by omega
      have hk0:j+k2 - 1<l.length:=aa
      have hr1:=hRn (j+k2) aa hk1
      have hr0:=hRn (j+k2 - 1) aa hk0
      rw [zas hk1,zaZ] at j6
      have hk2:k2 - 1<l.length - j:=aa
      have hk3:k<l.length:=aa
      refine J9 j3 hk hk1 hk0 hr1 hr0 e2 e3 hk2 ?_
      refine dP (hE (j+k2) (j+k2 - 1) hk1 hk0) ?_
      refine J9 j3 hk hk1 hk0 hr1 hr0 e2 e3 hk2 ?_
      by_cases hc:nth l (j+k2)=nth l (j+k2 - 1)
      ·rw [if_pos hc] at j6
       refine J1 hc ?_
       refine zEp (hrec2 (d2 - 1) aa (k2+1,R,k) ⟨ah,ah,j3,ah, ?_, ?_⟩) ?_ ad
       ·have:=congrArg (List.drop 1) j5
        rw [List.drop_drop,List.drop_drop] at this
        rw [show j+(k2+1) - 1=j+k2 - 1+1 by omega]
        exact this
       ·simp only
        rw [show j+(k2+1) - 1=j+k2 by omega,hc]
        exact j6
       ·simp [go_sem,zad]
      ·rw [if_neg hc] at j6
       refine J11 hc j3 hk hk1 hk0 hr1 hr0 e2 e3 hk2 hk3 ?_
       refine zEp (hrec2 (d2 - 1) aa (k2+1,R.set k (nth l (j+k2)),k+1) ⟨ah,ah,by simpa using j3,ah, ?_, ?_⟩) ?_ ad
       ·have:=congrArg (List.drop 1) j5
        rw [List.drop_drop,List.drop_drop] at this
        simp only
        rw [show j+(k2+1) - 1=j+k2 - 1+1 by omega,List.drop_set,if_pos aa]
        exact this
       ·simp only
        rw [show j+(k2+1) - 1=j+k2 by omega,List.take_add_one,List.take_set_of_le aa,List.getElem?_set_self aa,Option.toList_some,List.append_assoc]
        exact j6
       ·have hb:∀n,∀r ∈ ((R.set k (nth l (j+k2))).map zae),∀c ∈ r,Bel n c:=fun n=>of_eq_true zvm
        rw [List.map_set] at hb
        simp [go_sem,zad,List.map_set]
        exact hb 1
     ·rw [List.drop_eq_nil_of_le aa,zaZ,List.append_nil] at j6
      have hDl:D.length=k:=cG
      have hd0:List.drop (k+(l.length - k)) (R.map zae)= []:=List.drop_eq_nil_of_le ak
      have hDm:D.map zae=List.take k (R.map zae):=by rw [j6,List.map_take]
      refine J0 ?_
      simp [go_sem,zad,hd0,hDl,hDm,zpt]
      exact fun x hx=>of_eq_true (zvm (n:=1) (l:=R)) x (List.mem_of_mem_take hx)
    ·refine ⟨Nat.le_refl _,ah,rfl,ah,rfl, ?_⟩
     simp only
     rw [Nat.add_sub_cancel,he]
     exact i3
    ·simp [go_sem,zad]
    ·simp
   ·rw [if_neg he] at i3
    refine J4 he hj hj' e1 ?_
    refine zEp (hrec (d - 1) aa (j+1) ⟨aa,aa, ?_⟩) ?_ ad
    ·rw [i3,Nat.add_sub_cancel,List.take_add_one,List.getElem?_eq_getElem hj,zap _ _ hj,Option.toList_some,List.append_assoc];rfl
    ·simp [go_sem,zad]
  ·rw [List.drop_eq_nil_of_le hj,List.take_of_length_le hj,zaZ,List.append_nil] at i3
   rw [i3]
   refine J0 ?_
   simp [go_sem,zad]
 ·refine ⟨Nat.le_refl _,aa, ?_⟩
  cases l with
  |nil=>simp at h2
  |cons a l=>rw [hD];rfl
 ·simp [go_sem,zad]
 ·simp
theorem zhh {n:Nat} (l:List zaf):∀r ∈ l.map zae,∀c ∈ r,Bel n c:=of_eq_true zvm
theorem zoG (l:List zaf) (gn:Nat) (hl:l.length≤17179869184) (hf:∀o ∈ l,zaQ o){h:zaq}{n o:Nat} (ho:h o=some (.rows true gn 5 (l.map zae))) (hon:o<n){K:zcn}
  (hK:K (.sl o gn 5 0 (zbj l).length) (upd h o (some (.rows true gn 5 ((zbj l).map zae++List.replicate (l.length - (zbj l).length) zpt)))) n):
  zah Tryz.prog 57 [.sl o gn 5 0 l.length, .fn (.func 58) [] []] h n K:=by
 have hz:∀m,∀r ∈ (zbj l).map zae++List.replicate (l.length - (zbj l).length) zpt,∀c ∈ r,Bel m c:=by
  intro m r hr c hc
  rcases List.mem_append.1 hr with hr|hr
  ·exact zhh _ r hr c hc
  ·rw [List.eq_of_mem_replicate hr] at hc
   simp only [zpt,List.mem_cons,List.not_mem_nil,or_false] at hc
   rcases hc with rfl|rfl|rfl|rfl|rfl<;>exact .v _
 refine zEE (args':= [.sl o gn 5 0 l.length, .fn (.func 58) [] []]) (HH:= [(o, .rows true gn 5 ((zbj l).map zae++List.replicate (l.length - (zbj l).length) zpt))])
  [o] h (zol l gn hl hf) ad (by simpa using hon) rfl (Nat.le_refl _) (.refl _) ?_ ?_ (.refl _ _ _ _) ?_ ?_ ?_ (.sl rfl) ?_ ?_
 ·intro j hj
  obtain rfl:j=0:=aa
  exact ⟨_, _,rfl,ho, .rows (.same (zhh _))⟩
 ·intro p hp
  simp only [List.mem_singleton] at hp
  subst hp
  exact ⟨Nat.le_of_ble_eq_true rfl,zhh _⟩
 ·intro y hy
  simp only [List.mem_cons,List.not_mem_nil,or_false] at hy
  rcases hy with rfl|rfl
  ·exact .sl hon
  ·simp [go_sem]
 ·exact .cons (.sl rfl) (.cons (.same ae) .nil)
 ·intro y hy
  simp only [List.mem_cons,List.not_mem_nil,or_false] at hy
  rcases hy with rfl|rfl
  ·exact .sl am
  ·simp [go_sem]
 ·exact .cons rfl (.rows (.same (hz 0))) .nil
 ·have e:zel [(o, .rows true gn 5 ((zbj l).map zae++List.replicate (l.length - (zbj l).length) zpt))] (zmI [o] h)=upd h o (some (.rows true gn 5 ((zbj l).map zae++List.replicate (l.length - (zbj l).length) zpt))):=by
   funext j
   simp only [zel,zmI,upd]
   by_cases j1:j=o
   ·simp [j1]
   ·simp [j1]
  rw [e,Nat.sub_self,Nat.add_zero]
  exact hK
theorem zmO (l:List zaf) (gn m:Nat) (hm:l.length=m) (hl:m≤17179869184) (hf:∀o ∈ l,zaQ o){h:zaq}{n o:Nat} (ho:h o=some (.rows true gn 5 (l.map zae))) (hon:o<n){K:zcn}
  (hK:K (.sl o gn 5 0 (zbj l).length) (upd h o (some (.rows true gn 5 ((zbj l).map zae++List.replicate (l.length - (zbj l).length) zpt)))) n):
  zah Tryz.prog 57 [.sl o gn 5 0 m, .fn (.func 58) [] []] h n K:=by
 subst hm
 exact zoG l gn hl hf ho hon hK
theorem zEa:Go.Sort.SWO (fun a b:zaf=>decide (zbi a b<0)):=by
 refine ⟨fun x=> ?_,fun x y z h1 h2=> ?_,fun x y z h1 h2=> ?_⟩
 ·have:=zaU.swap x x
  simp;omega
 ·simp only [decide_eq_true_eq] at h1 h2 ⊢
  have t:=zaU.tr x y z aa aa
  rcases Int.lt_or_eq_of_le t with h|h
  ·exact h
  ·have e:=(zaU.eq _ _).1 h
   subst e
   have:=zaU.swap x y
   omega
 ·simp only [decide_eq_false_iff_not] at h1 h2 ⊢
  have s1:=zaU.swap x y
  have s2:=zaU.swap y z
  have s3:=zaU.swap x z
  have t:=zaU.tr z y x aa aa
  omega
theorem zwC (l:List zaf) (hf:∀o ∈ l,zaQ o) (hl:l.length<4611686018427387904){h:zaq}{n o gn:Nat} (ho:h o=some (.rows true gn 5 (l.map zae))){K:zcn}
  (hK:K (.tup []) (upd h o (some (.rows true gn 5 ((zcM zbi l).map zae)))) n):
  zah Tryz.prog 56 [.sl o gn 5 0 l.length, .fn (.func 39) [] []] h n K:=by
 refine zEM zsortP (k:=5) aa Tryz.isAgg45 Tryz.sizeOf45 zae (fun _=>rfl) ?_ (fun o=>zaQ o) zbi zEa _ (fun x y hx hy=>zbL x y hx hy) ?_ l hf hl ho ?_
 ·intro x
  simp [go_sem]
 ·exact (zbL default default cw cw).1
 ·intro l' hp hs
  have:zcM zbi l=l':=zgq zaU hp (hs.imp fun {a b} hab=>by
   have:=zaU.swap a b
   simp only [leC,decide_eq_true_eq]
   omega)
  rw [← this]
  exact hK
theorem zkK (a b:zaf) (ha:zaQ a) (hb:zaQ b):zaD Tryz.prog 27 [.agg (zae a), .agg (zae b)] (.v (.bool (decide (zbi a b=0)))):=by
 refine pF Tryz.func27 ?_
 refine J0 ?_
 refine aP (zcY a b ha hb) ?_
 exact K0
attribute [go_sem ↓] zvm zAL List.forall_mem_append
theorem zsr {x:AV} (h:Bel 0 x):∀c ∈ [x],Bel 0 c:=aK
theorem zbk {n:Nat} (l:List zaf):Bel n (zaC l):=of_eq_true zxF
theorem zyy:∀ (f:Nat) (l:List zaf),l.length≤f+1→l.length≤68719476736→(∀p ∈ l,zaQ p)→zaD Tryz.prog 94 [zaC l] (zaC (zcM zbi l)):=by
 intro f
 induction f with
 |zero=>
  intro l h1 h2 h3
  rw [zmr aa]
  refine pF Tryz.func94 ?_
  refine J0 ?_
  refine FxT ?_
  exact K0
 |succ f ih=>
  intro l h1 h2 h3
  by_cases hs:l.length<2
  ·rw [zmr hs]
   refine pF Tryz.func94 ?_
   refine J0 ?_
   refine FxT ?_
   exact K0
  ·have hm:=zts zaU (l.take (l.length / 2)) (l.drop (l.length / 2))
   rw [List.take_append_drop] at hm
   have hA:=ih (l.take (l.length / 2)) ak ak (fun p hp=>h3 p (List.mem_of_mem_take hp))
   have hB:=ih (l.drop (l.length / 2)) ak ak (fun p hp=>h3 p (List.mem_of_mem_drop hp))
   have fA:∀p ∈ zcM zbi (l.take (l.length / 2)),zaQ p:=fun p hp=>h3 p (List.mem_of_mem_take (zfa.1 hp))
   have fB:∀p ∈ zcM zbi (l.drop (l.length / 2)),zaQ p:=fun p hp=>h3 p (List.mem_of_mem_drop (zfa.1 hp))
   have lA:(zcM zbi (l.take (l.length / 2))).length=l.length / 2:=by rw [ze9];simp;omega
   have lB:(zcM zbi (l.drop (l.length / 2))).length=l.length - l.length / 2:=by rw [ze9];simp
   rw [← hm]
   generalize zcM zbi (l.take (l.length / 2))=xs at *
   generalize zcM zbi (l.drop (l.length / 2))=ys at *
   have hq:((l.length:Int) / 2).toNat=l.length / 2:=aa
   have eA:AV.lst 5 (List.take (l.length / 2) (l.map zae))=zaC (l.take (l.length / 2)):=by simp [zaC,List.map_take]
   have eB:AV.lst 5 (List.take (l.length - l.length / 2) (List.drop (l.length / 2) (l.map zae)))=zaC (l.drop (l.length / 2)):=by rw [List.take_of_length_le ad];simp [zaC,List.map_drop]
   generalize hR:List.merge xs ys (leC zbi)=R
   refine pF Tryz.func94 ?_
   refine J0 ?_
   refine FxF ?_
   refine J1 hq ?_
   rw [eA]
   refine zEt hA (zsr (zbk _)) ?_
   refine J1 hq ?_
   rw [eB]
   refine zEt hB (zsr (zbk _)) ?_
   refine J1 hq ?_
   refine zEp (zEs (α:=Nat×Nat×List zaf) (fun a=>⟨[(3,zaC xs),(4,zaC ys),(5, .sl 0 a.2.2.length 5 0 a.2.2.length),(6, .int a.1),(7, .int a.2.1)], [(0, .rows true a.2.2.length 5 (a.2.2.map zae))],1⟩)
    (fun d a=>a.1+a.2.1+d=xs.length+ys.length∧a.1≤xs.length∧a.2.1≤ys.length∧a.2.2.length=a.1+a.2.1∧R=a.2.2++List.merge (xs.drop a.1) (ys.drop a.2.1) (leC zbi)) ?_ (xs.length+ys.length) (0,0, []) ?_) ?_ ?_
   ·rintro d ⟨i,k,out⟩ ⟨i1,i2,i3,i4,i5⟩ hrec
    simp only at i1 i2 i3 i4 i5
    refine J0 ?_
    refine zEr (fun hj=> ?_) (fun hj=> ?_)<;>simp at hj
    ·by_cases hk:k<ys.length
     ·by_cases hi:i<xs.length
      ·have fa:=fA _ (zag hi)
       have fb:=fB _ (zag hk)
       rw [zas hi,zas hk,List.cons_merge_cons,← zas hi,← zas hk] at i5
       have hk':=Nat.not_le.2 hk
       refine J3 hk hk' hi ?_
       refine zEx _ (fun _=>zcY _ _ fa fb) ae ?_
       refine J3 hk hk' hi ?_
       refine zEr (fun hc=> ?_) (fun hc=> ?_)<;>simp at hc
       ·rw [if_pos (by simpa [leC] using hc)] at i5
        refine J2 hk hi ?_
        refine zEp (hrec (d - 1) aa (i+1,k,out++ [nth xs i]) ⟨ah,ah,i3,ak,by simpa using i5⟩) ?_ ad
        simp [go_sem,zad]
       ·rw [if_neg (by simpa [leC] using hc)] at i5
        refine J2 hk hi ?_
        refine zEp (hrec (d - 1) aa (i,k+1,out++ [nth ys k]) ⟨ah,i2,ah,ak,by simpa using i5⟩) ?_ ad
        simp [go_sem,zad]
      ·rw [List.drop_eq_nil_of_le (show xs.length≤i by omega),List.nil_merge,zas hk] at i5
       have hk':=Nat.not_le.2 hk
       refine J3 hk hk' hi ?_
       refine dGC.skip (.int 0) ?_
       refine J3 hk hk' hi ?_
       refine zEp (hrec (d - 1) aa (i,k+1,out++ [nth ys k]) ⟨ah,i2,ah,ak,by simp [List.drop_eq_nil_of_le (show xs.length≤i by omega),i5]⟩) ?_ ad
       simp [go_sem,zad]
     ·have hi:i<xs.length:=by omega
      rw [List.drop_eq_nil_of_le (show ys.length≤k by omega),List.merge_right,zas hi] at i5
      have hk':=Nat.not_lt.1 hk
      refine J3 hk hk' hi ?_
      refine dGC.skip (.int 0) ?_
      refine J3 hk hk' hi ?_
      refine zEp (hrec (d - 1) aa (i+1,k,out++ [nth xs i]) ⟨ah,ah,i3,ak,by simp [List.drop_eq_nil_of_le (show ys.length≤k by omega),i5]⟩) ?_ ad
      simp [go_sem,zad]
    ·rw [List.drop_eq_nil_of_le (show xs.length≤i by omega),List.drop_eq_nil_of_le (show ys.length≤k by omega)] at i5
     refine J0 ?_
     rw [i5]
     exact frX
   ·simp [hR]
   ·simp [go_sem,zad]
   ·simp
def zz5 (all:List zaf) (i:Nat):List zaf:=if i=0 then zbj all else zaZ (nth all (i - 1)) (all.drop i)
theorem zx2 (all:List zaf):zz5 all 0=zbj all:=rfl
theorem zA4 {all:List zaf}{i:Nat} (h:all.length≤i):zz5 all i= []:=by
 unfold zz5
 split
 ·cases all with
  |nil=>rfl
  |cons a l=>simp at h;omega
 ·rw [List.drop_eq_nil_of_le h];rfl
theorem zp9 {all:List zaf}{i:Nat} (h:i<all.length) (hk:i=0∨nth all i≠nth all (i - 1)):zz5 all i=nth all i::zz5 all (i+1):=by
 unfold zz5
 rw [if_neg (show ¬i+1=0 by omega),Nat.add_sub_cancel]
 split
 ·rename_i h0
  subst h0
  cases all with
  |nil=>simp at h
  |cons a l=>rfl
 ·rw [zas h,zaZ,if_neg (by rcases hk with h|h;omega;exact h)]
theorem zx1 {all:List zaf}{i:Nat} (h:i<all.length) (hi:i≠0) (hk:nth all i=nth all (i - 1)):zz5 all i=zz5 all (i+1):=by
 unfold zz5
 rw [if_neg (show ¬i+1=0 by omega),Nat.add_sub_cancel,if_neg hi,zas h,zaZ,if_pos hk,hk]
theorem zfm (l:List zaf) (hl:l.length≤68719476736) (hf:∀p ∈ l,zaQ p):zaD Tryz.prog 49 [zaC l] (zaC (za3 zbi l)):=by
 have hH:=zyy l.length l aa hl hf
 unfold za3
 have fA:∀p ∈ zcM zbi l,zaQ p:=fun p hp=>hf p (zfa.1 hp)
 have lA:(zcM zbi l).length=l.length:=ze9 l
 generalize zcM zbi l=all at *
 generalize hR:zbj all=R
 refine pF Tryz.func49 ?_
 refine J0 ?_
 refine zEt hH (zsr (zbk _)) ?_
 refine J0 ?_
 refine zEp (zEs (α:=Nat×List zaf) (fun a=>⟨[(3,zaC all),(4, .sl 0 a.2.length 5 0 a.2.length),(5, .int a.1)], [(0, .rows true a.2.length 5 (a.2.map zae))],1⟩)
  (fun d a=>a.1+d=all.length∧a.2.length≤a.1∧R=a.2++zz5 all a.1) ?_ all.length (0, []) ?_) ?_ ?_
 ·rintro d ⟨i,out⟩ ⟨i1,i2,i3⟩ hrec
  simp only at i1 i2 i3
  refine J0 ?_
  refine zEr (fun hi=> ?_) (fun hi=> ?_)<;>simp at hi
  ·by_cases h0:i=0
   ·rw [zp9 hi (.inl h0)] at i3
    subst h0
    refine J1 hi ?_
    refine dGC.skip (.v (.bool true)) ?_
    refine J1 hi ?_
    refine zEp (hrec (d - 1) aa (0+1,out++ [nth all 0]) ⟨ah,bm,by simpa using i3⟩) ?_ ad
    simp [go_sem,zad]
   ·have fa:=fA _ (zag hi)
    have hi':i - 1<all.length:=aa
    have e1:((i:Int) - 1).toNat=i - 1:=aa
    have fb:=fA _ (zag hi')
    refine J4 hi h0 e1 hi' ?_
    refine zEx _ (fun _=>zkK _ _ fa fb) ae ?_
    refine J2 hi h0 ?_
    refine zEr (fun hc=> ?_) (fun hc=> ?_)<;>simp at hc
    ·rw [zhi] at hc
     rw [zp9 hi (.inr hc)] at i3
     refine J1 hi ?_
     refine zEp (hrec (d - 1) aa (i+1,out++ [nth all i]) ⟨ah,ak,by simpa using i3⟩) ?_ ad
     simp [go_sem,zad]
    ·rw [zhi] at hc
     rw [zx1 hi h0 hc] at i3
     refine J1 hi ?_
     refine zEp (hrec (d - 1) aa (i+1,out) ⟨ah,ah,i3⟩) ?_ ad
     simp [go_sem,zad]
  ·rw [zA4 hi] at i3
   refine J0 ?_
   rw [i3]
   exact frX
 ·simp [hR,zx2]
 ·simp [go_sem,zad]
 ·simp
def zij (side:Int) (l:List StD) (n:Nat):List zcq:=((l.take n).filterMap (zgX side)).foldl (fun a x=>zbP x a) []
@[go_sem] theorem zEo (side:Int) (l:List StD):zij side l 0= []:=rfl
theorem zjb (side:Int) (l:List StD){n:Nat} (h:n<l.length):zij side l (n+1)=match zgX side (nth l n) with|some o=>zbP o (zij side l n)|none=>zij side l n:=by
 unfold zij
 rw [zyo _ _ _ h,List.foldl_append]
 cases zgX side (nth l n)<;>rfl
theorem znE (x:zcq):∀l:List zcq,(zbP x l).length≤l.length+1
 | []=>by simp [zbP]
 |y::l=>by
  rw [zbP]
  split
  ·have:=znE x l;simp;omega
  ·split<;>simp
theorem zzf (side:Int) (l:List StD):∀n,n≤l.length→(zij side l n).length≤n:=by
 intro n
 induction n with
 |zero=>intro _;simp [zij]
 |succ n ih=>
  intro h
  have:=ih aa
  rw [zjb side l aa]
  split
  ·rename_i o _
   have:=znE o (zij side l n)
   omega
  ·omega
theorem zrf {g:zab} (hg:GOk g){s:StD} (hs:zfN g s){side:Int}{o:zcq} (h:zgX side s=some o):zaQ o.pos:=by
 have hf:=hs.p.fits hg
 unfold zgX at h
 split at h
 ·simp only [Option.some.injEq] at h
  subst h
  obtain ⟨a,b,c⟩:=hf
  exact ⟨by unfold zfR at *;simpa using a,b,c⟩
 ·cases h
theorem zwi {g:zab} (hg:GOk g){side:Int}{l:List StD} (hl:∀s ∈ l,zfN g s):∀n,n≤l.length→∀o ∈ zij side l n,zaQ o.pos:=by
 intro n
 induction n with
 |zero=>intro _ o ho;simp [zij] at ho
 |succ n ih=>
  intro h o ho
  rw [zjb side l aa] at ho
  cases hp:zgX side (nth l n) with
  |none=>rw [hp] at ho;exact ih aa o ho
  |some q=>
   rw [hp] at ho
   rcases zfv.1 ho with rfl|ho
   ·exact zrf hg (hl _ (zag aa)) hp
   ·exact ih aa o ho
theorem zze (g:zab) (p:zaf) (cell i:Int):zij p.side (zeJ g p cell (za1 g p cell i)) (zeJ g p cell (za1 g p cell i)).length=zdu g p cell i:=by
 unfold zij zdu
 rw [List.take_length,zsW]
theorem zrZ (g:zab) (hg:GOk g) (p:zaf) (hp:POk g p) (cell i:Int) (hc:zcj g p cell i):
  zaD Tryz.prog 131 [.agg (zac g), .agg (zae p), .int cell, .int i] (.tup [zhR (zdu g p cell i), .int 0]):=by
 refine pF Tryz.func131 ?_
 have hRun:=zu6 g hg p hp cell i hc
 have hal:=hp.al
 have hat:=hp.at (i:=cell.toNat) (by have:=hc.c0;have:=hc.c1;omega)
 have hkl:(zan (nth p.at_ cell.toNat)).1.toNat<g.kinds.length:=by
  have cm:=hc.man
  rcases zaO hat.1 hat.2 hg.k6 with ⟨_,e⟩|⟨_,a,b, _⟩
  ·rw [e] at cm;simp at cm
  ·omega
 have hil:i.toNat<(nth g.kinds (zan (nth p.at_ cell.toNat)).1.toNat).progs.length:=by have:=hc.i0;have:=hc.i1;omega
 have hpg:=hg.pr _ (zag hkl) _ (zag hil)
 have hpe:za1 g p cell i=nth (nth g.kinds (zan (nth p.at_ cell.toNat)).1.toNat).progs i.toNat:=rfl
 rw [← hpe] at hpg
 have hst:=ziv hg hp hc.c0 hc.c1 hc.man hpg.st _ (Nat.le_refl _)
 have hlen:=Nat.le_trans hst.2 (zky hpg.len)
 have hstR:=ztu g p cell (za1 g p cell i) ((za1 g p cell i).length+1)
 have hnS:=zDV g p cell (za1 g p cell i) (n:=(za1 g p cell i).length+1) (j:=(za1 g p cell i).length) aa
 have hal':=zze g p cell i
 rw [zhy] at hnS hlen hst
 have hps:=hp.s
 obtain ⟨m,hm⟩:∃m,m=(za1 g p cell i).length:=⟨_,rfl⟩
 have hm8:=hpg.len
 rw [← hm] at hRun hstR hnS hm8
 generalize stR g p cell (za1 g p cell i) (m+1)=sr at *
 generalize zeJ g p cell (za1 g p cell i)=last at *
 obtain ⟨R,hR⟩:∃R,R=zdu g p cell i:=⟨_,rfl⟩
 rw [← hR] at hal' ⊢
 refine J0 ?_
 refine aP hRun ?_
 refine J2 hstR hnS ?_
 refine zEp (zEs (α:=Nat) (fun k=>⟨[(5, .ref 1 0 5 0 0),(11,zhR (zij p.side last k)),(12,zbX last),(13, .int k)], [(1, .rows true 0 5 [zae p])],2⟩)
  (fun d k=>k+d=last.length) ?_ last.length 0 ?_) ?_ ?_
 ·rintro d k k1 hrec
  refine J0 ?_
  refine zEr (fun hk=> ?_) (fun hk=> ?_)<;>simp at hk
  ·have hsk:=hst.1 _ (zag hk)
   have hsu:=zjb p.side last hk
   have hol:=zzf p.side last k aa
   have hof:=zwi hg (fun s hs=>(hst.1 s hs).1) (side:=p.side) k aa
   have hpf:=fun o=>zrf hg hsk.1 (side:=p.side) (o:=o)
   have hps':zgX p.side (nth last k)=if nth (nth last k).p.at_ (nth last k).cursor.toNat=0 then some ⟨{(nth last k).p with at_:=(nth last k).p.at_.set (nth last k).cursor.toNat (zal (nth last k).kind p.side),side:=1 - p.side},(nth last k).took⟩ else none:=rfl
   have hcp:=zd8 (nth last k).p (hsk.1.p.fits hg)
   have hal2:=hsk.1.p.al
   have hc0:=hsk.1.c0
   have hc1:=hsk.1.c1
   have hcc:=zfl (nth last k).kind p.side
   have hcur:(nth last k).cursor.toNat<(nth last k).p.at_.length:=aa
   by_cases hz:nth (nth last k).p.at_ (nth last k).cursor.toNat=0
   ·rw [if_pos hz] at hps'
    simp only [hps'] at hsu
    have hfo:=hpf _ hps'
    have hIns:=zot (zij p.side last k) _ aa hof hfo
    refine J3 hk hcur hz ?_
    refine zEu hcp ae ?_
    refine J1 hcur ?_
    refine dP hcc ?_
    refine J1 hcur ?_
    refine zEv [5,6,11] hIns ?_ ae ?_
    ·(first|done|exact agX)
    ·rw [← hsu]
     refine J0 ?_
     refine zEp (hrec (d - 1) aa (k+1) aa) ?_ ad
     simp [go_sem,zad,za6,zbr,upd]
   ·rw [if_neg hz] at hps'
    simp only [hps'] at hsu
    refine J3 hk hcur hz ?_
    refine zEp (hrec (d - 1) aa (k+1) aa) ?_ ad
    simp [go_sem,zad,hsu]
  ·have hkl:k=last.length:=by omega
   subst hkl
   rw [hal']
   exact K0
 ·omega
 ·simp [go_sem,zad]
  exact frX
 ·simp
def zbF (g:zab) (p:zaf) (k:Nat):List zaf:=(List.range k).flatMap fun k=>(List.range p.at_.length).filterMap fun c=>zf2 g p k c
def zcH (g:zab) (p:zaf) (k c:Nat):List zaf:=zbF g p k++(List.range c).filterMap fun c=>zf2 g p k c
theorem ziQ (g:zab) (p:zaf) (k:Nat):zcH g p k p.at_.length=zbF g p (k+1):=by simp [zcH,zbF,List.range_succ,List.flatMap_append]
theorem zhn (g:zab) (p:zaf) (k:Nat):zcH g p k 0=zbF g p k:=by simp [zcH]
theorem zct (g:zab) (p:zaf) (k c:Nat):zcH g p k (c+1)=zcH g p k c++(zf2 g p k c).toList:=by
 simp only [zcH,List.range_succ,List.filterMap_append,List.append_assoc]
 cases h:zf2 g p k c<;>simp [h]
theorem zgD (g:zab) (p:zaf):zbF g p g.kinds.length=zx8 g p:=rfl
theorem zeV {α:Type} (f:Nat→List α) (m:Nat) (hf:∀k,(f k).length≤m):∀n,((List.range n).flatMap f).length≤n * m
 |0=>ad
 |n+1=>by
  have:=zeV f m hf n
  have:=hf n
  simp only [List.range_succ,List.flatMap_append,List.length_append,List.flatMap_cons,List.flatMap_nil,List.append_nil,Nat.add_mul,Nat.one_mul]
  omega
theorem zeT (g:zab) (p:zaf) (k:Nat):(zbF g p k).length≤k * p.at_.length:=
 zeV _ _ (fun k=>Nat.le_trans (List.length_filterMap_le _ _) ad) k
theorem zgC (g:zab) (p:zaf) (k c:Nat):(zcH g p k c).length≤k * p.at_.length+c:=by
 have h1:=zeT g p k
 have h2:((List.range c).filterMap fun c=>zf2 g p k c).length≤c:=Nat.le_trans (List.length_filterMap_le _ _) ad
 simp only [zcH,List.length_append]
 omega
theorem zkm {g:zab} (hg:GOk g){p:zaf} (hp:POk g p){k c:Nat} (hk:k<g.kinds.length){q:zaf} (h:zf2 g p k c=some q):POk g q∧q.side=1 - p.side:=by
 unfold zf2 at h
 split at h
 ·cases h
 ·rename_i hc
  simp only [Option.some.injEq] at h
  subst h
  have k6:=hg.k6
  have hcode:zal k p.side=1+2 * k+p.side:=zp2 (K:=g.kinds.length) ⟨aa,aa⟩ k6 hp.s
  have hs:=hp.s
  have hh:=hp.hand p.side
  have hl:=hh.len
  have hv:=hh.v k aa
  refine ⟨POk.side (POk.withHand (hp.setAt c (by rw [hcode];omega)) _ (hh.set k ?_ ?_)) aa,rfl⟩
  ·simp only [not_or] at hc;omega
  ·intro _;exact hv.2.2 (by simp only [not_or] at hc;omega)
theorem zpL (g:zab) (hg:GOk g) (p:zaf) (hp:POk g p):zaD Tryz.prog 93 [.agg (zac g), .agg (zae p)] (zaC (zcI g p)):=by
 refine pF Tryz.func93 ?_
 have hal:=hp.al
 have c9:=hg.c9
 have k6:=hg.k6
 have hcp:=zd8 p (hp.fits hg)
 obtain ⟨gk,hgk⟩:∃gk,gk=g.kinds.length:=⟨_,rfl⟩
 have hl0:=hp.h0.len
 have hl1:=hp.h1.len
 refine J0 ?_
 refine zEp (zEs (α:=Nat) (fun k=>⟨[(2, .ref 0 0 9 0 0),(3, .ref 1 0 5 0 0),(5, .sl 2 (zbF g p k).length 5 0 (zbF g p k).length),(6, .int k)], [(0, .rows true 0 9 [zac g]),(1, .rows true 0 5 [zae p]),(2, .rows true (zbF g p k).length 5 ((zbF g p k).map zae))],3⟩)
  (fun d k=>k+d=g.kinds.length) ?_ g.kinds.length 0 ?_) ?_ ?_
 ·rintro d k k1 hrec
  refine J0 ?_
  refine zEr (fun hk=> ?_) (fun hk=> ?_)<;>simp at hk
  ·have hz:=zhn g p k
   have ha:=ziQ g p k
   refine J0 ?_
   refine zEp (zEs (α:=Nat) (fun c=>⟨[(2, .ref 0 0 9 0 0),(3, .ref 1 0 5 0 0),(5, .sl 2 (zcH g p k c).length 5 0 (zcH g p k c).length),(6, .int k),(7, .int c)], [(0, .rows true 0 9 [zac g]),(1, .rows true 0 5 [zae p]),(2, .rows true (zcH g p k c).length 5 ((zcH g p k c).map zae))],3⟩)
    (fun d c=>c+d=p.at_.length) ?_ p.at_.length 0 ?_) ?_ ?_
   ·rintro d2 c c1 hrec2
    refine J0 ?_
    refine zEr (fun hci=> ?_) (fun hci=> ?_)<;>simp at hci
    ·have hD:zf2 g p k c=if nth (p.hand p.side) k=0∨nth p.at_ c≠0 then none
      else some {({ p with at_:=p.at_.set c (zal k p.side)}.withHand p.side ((p.hand p.side).set k (nth (p.hand p.side) k - 1))) with side:=1 - p.side}:=rfl
     rcases hp.s with hsd|hsd
     ·have hsn:p.side.toNat=0:=by omega
      have hkh:k<p.h0.length:=aa
      have hhv:=hp.h0.v k hkh
      have hD':zf2 g p k c=if nth p.h0 k=0∨nth p.at_ c≠0 then none else some { p with at_:=p.at_.set c (zal k p.side),h0:=p.h0.set k (nth p.h0 k - 1),side:=1 - p.side}:=by
       rw [hD];simp [zaf.hand,zaf.withHand,hsd]
      refine J3 hsn hkh hci ?_
      refine zEr (fun hcc=> ?_) (fun hcc=> ?_)<;>simp at hcc
      ·rw [if_pos aa] at hD'
       have hsu:=zct g p k c
       rw [hD'] at hsu
       simp only [Option.toList_none,List.append_nil] at hsu
       refine J0 ?_
       refine zEp (hrec2 (d2 - 1) aa (c+1) aa) ?_ ad
       simp [go_sem,zad,hsu]
      ·rw [if_neg aa] at hD'
       have hsu:=zct g p k c
       rw [hD'] at hsu
       simp only [Option.toList_some] at hsu
       have hcl:=zgC g p k c
       have hkm:k * p.at_.length≤6 * 9:=Nat.mul_le_mul aa aa
       refine J1 hci ?_
       refine zEu hcp ae ?_
       refine J1 hci ?_
       refine dP (zfl (k:Int) p.side) ?_
       refine J3 hsn hci hkh ?_
       refine zEp (hrec2 (d2 - 1) aa (c+1) aa) ?_ ad
       simp [go_sem,zad,hsu]
       (first|done|exact rwX)
     ·have hsn:p.side.toNat=1:=by omega
      have hkh:k<p.h1.length:=aa
      have hhv:=hp.h1.v k hkh
      have hD':zf2 g p k c=if nth p.h1 k=0∨nth p.at_ c≠0 then none else some { p with at_:=p.at_.set c (zal k p.side),h1:=p.h1.set k (nth p.h1 k - 1),side:=1 - p.side}:=by
       rw [hD];simp [zaf.hand,zaf.withHand,hsd]
      refine J3 hsn hkh hci ?_
      refine zEr (fun hcc=> ?_) (fun hcc=> ?_)<;>simp at hcc
      ·rw [if_pos aa] at hD'
       have hsu:=zct g p k c
       rw [hD'] at hsu
       simp only [Option.toList_none,List.append_nil] at hsu
       refine J0 ?_
       refine zEp (hrec2 (d2 - 1) aa (c+1) aa) ?_ ad
       simp [go_sem,zad,hsu]
      ·rw [if_neg aa] at hD'
       have hsu:=zct g p k c
       rw [hD'] at hsu
       simp only [Option.toList_some] at hsu
       have hcl:=zgC g p k c
       have hkm:k * p.at_.length≤6 * 9:=Nat.mul_le_mul aa aa
       refine J1 hci ?_
       refine zEu hcp ae ?_
       refine J1 hci ?_
       refine dP (zfl (k:Int) p.side) ?_
       refine J3 hsn hci hkh ?_
       refine zEp (hrec2 (d2 - 1) aa (c+1) aa) ?_ ad
       simp [go_sem,zad,hsu]
       (first|done|exact rwX)
    ·have hcl:c=p.at_.length:=by omega
     subst hcl
     rw [ha]
     refine J0 ?_
     refine zEp (hrec (d - 1) aa (k+1) aa) ?_ ad
     simp [go_sem,zad]
   ·omega
   ·simp [go_sem,zad,hz]
   ·simp
  ·have hkl:k=g.kinds.length:=by omega
   subst hkl
   have hdl:=zeT g p g.kinds.length
   have hkm:g.kinds.length * p.at_.length≤6 * 9:=Nat.mul_le_mul k6 aa
   have hS:=zfm (zbF g p g.kinds.length) aa (fun q hq=>by
    rw [zgD] at hq
    obtain ⟨k,hk,hq⟩:=List.mem_flatMap.1 hq
    obtain ⟨c,hc,hq⟩:=List.mem_filterMap.1 hq
    exact (zkm hg hp aC hq).1.fits hg)
   rw [show za3 zbi (zbF g p g.kinds.length)=zcI g p from rfl] at hS
   generalize zbF g p g.kinds.length=l at *
   generalize zcI g p=r at *
   refine J0 ?_
   refine zEv [2] hS ?_ (zsr (zbk _)) ?_
   ·(first|done|exact agX)
   ·exact K0
 ·omega
 ·simp [go_sem,zad,show zbF g p 0= [] from rfl]
 ·simp
theorem zo7 {g:zab} (hg:GOk g){p:zaf} (hp:POk g p){cell:Int} (h0:0≤cell) (h1:cell<g.cells) (hm:0≤(zan (nth p.at_ cell.toNat)).1):
  (zan (nth p.at_ cell.toNat)).1.toNat<g.kinds.length:=by
 have hat:=hp.at (i:=cell.toNat) aa
 rcases zaO hat.1 hat.2 hg.k6 with ⟨_,e⟩|⟨_,a,b, _⟩
 ·rw [e] at hm;simp at hm
 ·omega
theorem zzr {g:zab} (hg:GOk g){p:zaf} (hp:POk g p){cell i:Int} (hc:zcj g p cell i):zpI g.next.length g.kinds.length g.rights (za1 g p cell i):=
 hg.pr _ (zag (zo7 hg hp hc.c0 hc.c1 hc.man)) _ (zag (by have:=hc.i0;have:=hc.i1;omega))
theorem zkv {g:zab} (hg:GOk g){p:zaf} (hp:POk g p){cell i:Int} (hc:zcj g p cell i):
  (∀s ∈ zeJ g p cell (za1 g p cell i),zfN g s∧s.p.side=p.side)∧(zeJ g p cell (za1 g p cell i)).length≤100000000:=by
 have hpg:=zzr hg hp hc
 have h:=ziv hg hp hc.c0 hc.c1 hc.man hpg.st _ (Nat.le_refl _)
 rw [zhy] at h
 exact ⟨h.1,Nat.le_trans h.2 (zky hpg.len)⟩
theorem zzu {g:zab} (hg:GOk g){s:StD} (hs:zfN g s){side:Int} (hsd:side=0∨side=1){o:zcq} (h:zgX side s=some o):POk g o.pos∧o.pos.side=1 - side:=by
 unfold zgX at h
 split at h
 ·simp only [Option.some.injEq] at h
  subst h
  have hc:zal s.kind side=1+2 * s.kind+side:=zp2 (K:=g.kinds.length) hs.k hg.k6 hsd
  have hk:=hs.k
  exact ⟨POk.side (hs.p.setAt _ (by rw [hc];omega)) aa,rfl⟩
 ·cases h
theorem zB2 {g:zab} (hg:GOk g){p:zaf} (hp:POk g p){cell i:Int} (hc:zcj g p cell i):∀o ∈ zdu g p cell i,POk g o.pos∧o.pos.side=1 - p.side:=by
 intro o ho
 unfold zdu at ho
 rw [zaG] at ho
 obtain ⟨s,hs,h⟩:=List.mem_filterMap.1 ho
 exact zzu hg ((zkv hg hp hc).1 s hs).1 hp.s h
theorem zmj {g:zab} (hg:GOk g){p:zaf} (hp:POk g p){cell i:Int} (hc:zcj g p cell i):(zdu g p cell i).length≤100000000:=by
 unfold zdu
 have h1:=zdz zjC ((zeJ g p cell (za1 g p cell i)).filterMap (zgX p.side))
 have h2:((zeJ g p cell (za1 g p cell i)).filterMap (zgX p.side)).length≤(zeJ g p cell (za1 g p cell i)).length:=List.length_filterMap_le _ _
 have h3:=(zkv hg hp hc).2
 omega
theorem zf1 {g:zab}{p:zaf}{c i:Nat} (hp:POk g p) (hc:c<p.at_.length) (hm:0≤(zan (nth p.at_ c)).1∧(zan (nth p.at_ c)).2=p.side)
  (hi:i<(nth g.kinds (zan (nth p.at_ c)).1.toNat).progs.length):zcj g p c i:=by
 have:=hp.al
 exact ⟨aa,aa,hm.1,hm.2,aa,by simp only [Int.toNat_natCast];omega⟩
theorem zq2 {g:zab}{p:zaf} (hp:POk g p){o:zcq}:o ∈ zdJ g p↔∃c i:Nat,zcj g p c i∧o ∈ zdu g p c i:=by
 have hal:=hp.al
 unfold zdJ
 rw [List.mem_flatMap]
 constructor
 ·rintro ⟨c,hc,ho⟩
  rw [List.mem_range] at hc
  unfold zdm at ho
  split at ho
  ·rename_i hm
   obtain ⟨i,hi,ho⟩:=List.mem_flatMap.1 ho
   rw [List.mem_range] at hi
   exact ⟨c,i,zf1 hp hc hm hi,ho⟩
  ·simp at ho
 ·rintro ⟨c,i,hc,ho⟩
  refine ⟨c, ?_, ?_⟩
  ·have:=hc.c1;rw [List.mem_range];omega
  ·have h1:=hc.man
   have h2:=hc.side
   have h3:=hc.i1
   simp only [Int.toNat_natCast] at h1 h2 h3
   unfold zdm
   rw [if_pos ⟨h1,h2⟩]
   exact List.mem_flatMap.2 ⟨i,by rw [List.mem_range];omega,ho⟩
theorem zuq {g:zab} (hg:GOk g){p:zaf} (hp:POk g p):∀o ∈ zdJ g p,POk g o.pos∧o.pos.side=1 - p.side:=by
 intro o ho
 obtain ⟨c,i,hc,ho⟩:=(zq2 hp).1 ho
 exact zB2 hg hp hc o ho
theorem zbJ {α:Type} (f:Nat→List α) (m:Nat):∀n,(∀k,k<n→(f k).length≤m)→((List.range n).flatMap f).length≤n * m
 |0, _=>ad
 |n+1,hf=>by
  have:=zbJ f m n (fun k hk=>hf k aa)
  have:=hf n aa
  simp only [List.range_succ,List.flatMap_append,List.length_append,List.flatMap_cons,List.flatMap_nil,List.append_nil,Nat.add_mul,Nat.one_mul]
  omega
theorem zwh {g:zab} (hg:GOk g){p:zaf} (hp:POk g p){c:Nat} (hc:c<p.at_.length):(zdm g p c).length≤800000000:=by
 unfold zdm
 split
 ·rename_i hm
  have hal:=hp.al
  have hk:=zo7 hg hp (cell:=c) aa aa (by simpa using hm.1)
  simp only [Int.toNat_natCast] at hk
  have h8:=hg.pn _ (zag hk)
  have h1:=zbJ (fun (i:Nat)=>zdu g p c i) 100000000 (nth g.kinds (zan (nth p.at_ c)).1.toNat).progs.length (fun i hi=>zmj hg hp (zf1 hp hc hm hi))
  have h2:(nth g.kinds (zan (nth p.at_ c)).1.toNat).progs.length * 100000000≤8 * 100000000:=Nat.mul_le_mul_right _ h8
  omega
 ·simp
theorem zq9 {g:zab} (hg:GOk g){p:zaf} (hp:POk g p){k:Nat} (hk:k≤p.at_.length):((List.range k).flatMap (zdm g p)).length≤7200000000:=by
 have hal:=hp.al
 have c9:=hg.c9
 have h1:=zbJ (zdm g p) 800000000 k (fun c hc=>zwh hg hp aa)
 have h2:k * 800000000≤9 * 800000000:=Nat.mul_le_mul_right _ aa
 omega
theorem zl4 {g:zab} (hg:GOk g){p:zaf} (hp:POk g p):(zdJ g p).length≤7200000000:=zq9 hg hp (Nat.le_refl _)
theorem zqb {g:zab} (hg:GOk g){p:zaf} (hp:POk g p):∀q ∈ zcI g p,POk g q∧q.side=1 - p.side:=by
 intro q hq
 unfold zcI at hq
 rw [zaG] at hq
 obtain ⟨k,hk,hq⟩:=List.mem_flatMap.1 hq
 obtain ⟨c,hc,hq⟩:=List.mem_filterMap.1 hq
 exact zkm hg hp aC hq
theorem zgE {g:zab} (hg:GOk g){p:zaf} (hp:POk g p):(zcI g p).length≤54:=by
 have h1:=zdz zbi (zx8 g p)
 have h2:=zeT g p g.kinds.length
 rw [zgD] at h2
 have hal:=hp.al
 have c9:=hg.c9
 have h3:g.kinds.length * p.at_.length≤6 * 9:=Nat.mul_le_mul hg.k6 aa
 unfold zcI
 omega
theorem zq3 {g:zab} (hg:GOk g){p:zaf} (hp:POk g p):∀q ∈ zdR g p,POk g q∧q.side=1 - p.side:=by
 intro q hq
 unfold zdR at hq
 rcases List.mem_append.1 hq with hq|hq
 ·obtain ⟨o,ho,rfl⟩:=List.mem_map.1 hq
  exact zuq hg hp o (List.mem_filter.1 ho).1
 ·split at hq
  ·simp at hq
  ·exact zqb hg hp q hq
theorem znY {g:zab} (hg:GOk g){p:zaf} (hp:POk g p):(zdR g p).length≤7200000054:=by
 have h1:=zl4 hg hp
 have h2:=zgE hg hp
 have h3:((zdJ g p).filter fun o=> !zgV g p||o.took).length≤(zdJ g p).length:=List.length_filter_le _ _
 unfold zdR
 rw [List.length_append,List.length_map]
 split<;>simp<;>omega
theorem zcu {g:zab} (hg:GOk g){p:zaf} (hp:POk g p):∀q ∈ zar g p,POk g q∧q.side=1 - p.side:=by
 intro q hq
 unfold zar at hq
 split at hq
 ·simp at hq
 ·exact zq3 hg hp q (zaG.1 hq)
theorem znZ {g:zab} (hg:GOk g){p:zaf} (hp:POk g p):(zar g p).length≤7200000054:=by
 unfold zar
 split
 ·simp
 ·exact Nat.le_trans (zdz _ _) (znY hg hp)
theorem zuO {g:zab} (hg:GOk g):∀ (l:List Int){p:zaf},POk g p→∀q ∈ zgv g p l,POk g q
 | [],p,hp,q,hq=>by simp [zgv] at hq;subst hq;exact hp
 |k::l,p,hp,q,hq=>by
  rw [zgv] at hq
  split at hq
  ·simp at hq;subst hq;exact hp
  ·rename_i hne
   rcases List.mem_cons.1 hq with rfl|hq
   ·exact hp
   ·refine zuO hg l ((zcu hg hp) _ (zag ?_)).1 q hq
    have hpos:0<(zar g p).length:=List.length_pos_iff.2 hne
    have h1:0≤k.emod (zar g p).length:=Int.emod_nonneg k (show ((zar g p).length:Int)≠0 by omega)
    have h2:k.emod (zar g p).length<(zar g p).length:=Int.emod_lt_of_pos k (show (0:Int)<(zar g p).length by omega)
    omega
theorem zuN (g:zab) (p:zaf) (l:List Int):zgv g p l≠ []:=by
 cases l with
 |nil=>simp [zgv]
 |cons k l=>rw [zgv];split<;>simp
theorem zrC (g:zab):∀ (l:List Int) (p:zaf),(zgv g p l).length≤l.length+1
 | [],p=>by simp [zgv]
 |k::l,p=>by
  rw [zgv]
  split
  ·simp
  ·have:=zrC g l (nth (zar g p) (k.emod (zar g p).length).toNat)
   simp;omega
end Go.Av
end
