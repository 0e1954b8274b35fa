/- Texts of ours, part 13: our library and contracts of functions. -/
import Derived.Test.YtnjjmmhiaaplmaaGreatDoorB12
set_option linter.unusedSimpArgs false
set_option linter.unusedVariables false
set_option maxRecDepth 100000
set_option maxHeartbeats 40000000
section
open Go Go.Proofs
namespace Go.Av
def zbU (m:Nat) (ws:List Int) (ns:List Int) (i:Nat):List Int:=if (i:Int) ∈ ns then ws else List.replicate m 0
theorem zbD {m:Nat}{ws ns:List Int} (h:ws.length=m){i:Nat}:(zbU m ws ns i).length=m:=by
  unfold zbU
  split
  · exact h
  · simp
theorem zrD {m:Nat}{ws ns:List Int}{i:Nat} (hi:i<ns.length) (k:Nat):zbU m ws (ns.take (i+1)) k=if (k:Int)=nth ns i then ws else zbU m ws (ns.take i) k:=by
  unfold zbU
  rw [List.take_add_one,List.getElem?_eq_getElem hi,zap _ _ hi,Option.toList_some]
  simp only [List.mem_append,List.mem_singleton]
  by_cases h1:(k:Int) ∈ ns.take i
  · simp [h1]
  · by_cases h2:(k:Int)=ns[i]
    · simp [h2]
    · simp [h1,h2]
def zaX (g:zab) (md:Int) (ws ns:List Int):zbh:=⟨md,(List.range (2 * g.kinds.length+1)).map (zbU g.cells.toNat ws ns),List.replicate g.kinds.length 0,List.replicate g.kinds.length 0,List.replicate g.rights.toNat 0,0⟩
theorem ziC (g:zab) (hg:GOk g) (hk:g.kinds.length=1) (md:Int) (ws ns:List Int) (hws:(ws.length:Int)=g.cells) (hns:∀n ∈ ns,1≤n∧n≤2) (hnl:ns.length≤100):
    zaD Tryz.prog 66 [.agg (zac g), .int md,zai ws,zai ns] (.agg (zaH (zaX g md ws ns))):=by
  have hc1:=hg.c1
  have hc9:=hg.c9
  have hr0:=hg.r0
  have hr4:=hg.r4
  obtain ⟨m,hm⟩:∃m,m=g.cells.toNat:=⟨_,rfl⟩
  have hws':ws.length=m:=aa
  have hlen:∀k i,(zbU m ws (ns.take i) k).length=m:=fun k i=>zbD hws'
  have hres:zaH (zaX g md ws ns)= [.int md, .lst 1 [[zai (zbU m ws ns 0)], [zai (zbU m ws ns 1)], [zai (zbU m ws ns 2)]],zai (List.replicate 1 0),zai (List.replicate 1 0),zai (List.replicate g.rights.toNat 0), .int 0]:=by
    unfold zaX zaH
    rw [hk,hm]
    rfl
  rw [hres]
  refine pF Tryz.func66 ?_
  refine J1 hk ?_
  refine aF Tryz.func64 ?_
  refine J1 hk ?_
  refine zEq ?_
  refine J1 hk ?_
  refine zEq ?_
  refine J1 hk ?_
  refine zEq ?_
  refine J1 hk ?_
  refine zEq ?_
  refine J1 hk ?_
  rw [← hm]
  refine zEp (zEs (α:=Nat) (fun i=>⟨[(2,zai ws),(8, .ref 1 0 6 0 0),(9, .ref 46 0 6 0 0),(15,zai ns),(16, .int ns.length),(17, .int i)],
    [(1, .rows true 0 6 [[.int 0, .v (.slice none 0 0), .v (.slice none 0 0), .v (.slice none 0 0), .v (.slice none 0 0), .int 0]]),(6, .rows true 0 1 [[.int 0]]),(8, .rows true 0 1 [[.int 0]]),(12, .rows true 0 1 (List.replicate g.rights.toNat [.int 0])),
     (23, .rows true 2 1 [[.sl 21 0 1 0 m], [.sl 31 0 1 0 m], [.sl 41 0 1 0 m]]),(21, .rows true 0 1 ((zbU m ws (ns.take i) 0).map zaB)),(31, .rows true 0 1 ((zbU m ws (ns.take i) 1).map zaB)),(41, .rows true 0 1 ((zbU m ws (ns.take i) 2).map zaB)),(46, .rows true 0 6 [[.int md, .sl 23 2 1 0 3, .sl 6 0 1 0 1, .sl 8 0 1 0 1, .sl 12 0 1 0 g.rights.toNat, .int 0]])],47⟩)
    (fun d i=>i+d=ns.length) ?_ ns.length 0 ?_) ?_ ?_
  · rintro d i i1 hrec
    refine J0 ?_
    refine zEr (fun hi=> ?_) (fun hi=> ?_)<;>simp at hi
    · obtain ⟨n,hn⟩:∃n,nth ns i=n:=⟨_,rfl⟩
      have hnr:=hns n (by rw [← hn];exact zag hi)
      have hsu:=fun k=>zrD (m:=m) (ws:=ws) hi k
      simp only [hn] at hsu
      rcases (show n=1∨n=2 by omega) with rfl|rfl
      · have hle:=hlen 1 i
        have e0:zbU m ws (ns.take (i+1)) 0=zbU m ws (ns.take i) 0:=bM
        have e1:zbU m ws (ns.take (i+1)) 1=ws:=bN
        have e2:zbU m ws (ns.take (i+1)) 2=zbU m ws (ns.take i) 2:=bO
        generalize zbU m ws (ns.take i)=L at *
        refine J4 hi hn hws' hle ?_
        refine zEp (hrec (d - 1) aa (i+1) aa) ?_ ad
        have q1:List.drop m (List.map zaB (L 1))= []:=List.drop_eq_nil_of_le cO
        have q2:List.take m (List.map zaB ws)=List.map zaB ws:=List.take_of_length_le cB
        simp [go_sem,zad,e0,e1,e2,q1,q2,hws']
      · have hle:=hlen 2 i
        have e0:zbU m ws (ns.take (i+1)) 0=zbU m ws (ns.take i) 0:=bM
        have e1:zbU m ws (ns.take (i+1)) 1=zbU m ws (ns.take i) 1:=bN
        have e2:zbU m ws (ns.take (i+1)) 2=ws:=bO
        generalize zbU m ws (ns.take i)=L at *
        refine J4 hi hn hws' hle ?_
        refine zEp (hrec (d - 1) aa (i+1) aa) ?_ ad
        have q1:List.drop m (List.map zaB (L 2))= []:=List.drop_eq_nil_of_le cO
        have q2:List.take m (List.map zaB ws)=List.map zaB ws:=List.take_of_length_le cB
        simp [go_sem,zad,e0,e1,e2,q1,q2,hws']
    · obtain rfl:i=ns.length:=by omega
      rw [List.take_length]
      refine J0 ?_
      (repeat' (with_reducible apply And.intro))<;>first|(refine zak rfl ad aB ?_;first|(rw [List.drop_zero,List.take_of_length_le ad];done)|(simp [zaB];done))|(refine LeV.frz rfl ad aB ?_;simp only [List.drop_zero,List.take_succ_cons,List.take_zero];exact .cons (.cons (zak rfl aL aB dD) .nil) (.cons (.cons (zak rfl aL aB dD) .nil) (.cons (.cons (zak rfl aL aB dD) .nil) (.nil))))
  · simp
  · simp [go_sem,zad,zbU,hws',hm]
  · simp
theorem ziD (g:zab) (hg:GOk g) (hk:g.kinds.length=2) (md:Int) (ws ns:List Int) (hws:(ws.length:Int)=g.cells) (hns:∀n ∈ ns,1≤n∧n≤4) (hnl:ns.length≤100):
    zaD Tryz.prog 66 [.agg (zac g), .int md,zai ws,zai ns] (.agg (zaH (zaX g md ws ns))):=by
  have hc1:=hg.c1
  have hc9:=hg.c9
  have hr0:=hg.r0
  have hr4:=hg.r4
  obtain ⟨m,hm⟩:∃m,m=g.cells.toNat:=⟨_,rfl⟩
  have hws':ws.length=m:=aa
  have hlen:∀k i,(zbU m ws (ns.take i) k).length=m:=fun k i=>zbD hws'
  have hres:zaH (zaX g md ws ns)= [.int md, .lst 1 [[zai (zbU m ws ns 0)], [zai (zbU m ws ns 1)], [zai (zbU m ws ns 2)], [zai (zbU m ws ns 3)], [zai (zbU m ws ns 4)]],zai (List.replicate 2 0),zai (List.replicate 2 0),zai (List.replicate g.rights.toNat 0), .int 0]:=by
    unfold zaX zaH
    rw [hk,hm]
    rfl
  rw [hres]
  refine pF Tryz.func66 ?_
  refine J1 hk ?_
  refine aF Tryz.func64 ?_
  refine J1 hk ?_
  refine zEq ?_
  refine J1 hk ?_
  refine zEq ?_
  refine J1 hk ?_
  refine zEq ?_
  refine J1 hk ?_
  refine zEq ?_
  refine J1 hk ?_
  refine zEq ?_
  refine J1 hk ?_
  refine zEq ?_
  refine J1 hk ?_
  rw [← hm]
  refine zEp (zEs (α:=Nat) (fun i=>⟨[(2,zai ws),(8, .ref 1 0 6 0 0),(9, .ref 66 0 6 0 0),(15,zai ns),(16, .int ns.length),(17, .int i)],
    [(1, .rows true 0 6 [[.int 0, .v (.slice none 0 0), .v (.slice none 0 0), .v (.slice none 0 0), .v (.slice none 0 0), .int 0]]),(6, .rows true 0 1 [[.int 0], [.int 0]]),(8, .rows true 0 1 [[.int 0], [.int 0]]),(12, .rows true 0 1 (List.replicate g.rights.toNat [.int 0])),
     (23, .rows true 4 1 [[.sl 21 0 1 0 m], [.sl 31 0 1 0 m], [.sl 41 0 1 0 m], [.sl 51 0 1 0 m], [.sl 61 0 1 0 m]]),(21, .rows true 0 1 ((zbU m ws (ns.take i) 0).map zaB)),(31, .rows true 0 1 ((zbU m ws (ns.take i) 1).map zaB)),(41, .rows true 0 1 ((zbU m ws (ns.take i) 2).map zaB)),(51, .rows true 0 1 ((zbU m ws (ns.take i) 3).map zaB)),(61, .rows true 0 1 ((zbU m ws (ns.take i) 4).map zaB)),(66, .rows true 0 6 [[.int md, .sl 23 4 1 0 5, .sl 6 0 1 0 2, .sl 8 0 1 0 2, .sl 12 0 1 0 g.rights.toNat, .int 0]])],67⟩)
    (fun d i=>i+d=ns.length) ?_ ns.length 0 ?_) ?_ ?_
  · rintro d i i1 hrec
    refine J0 ?_
    refine zEr (fun hi=> ?_) (fun hi=> ?_)<;>simp at hi
    · obtain ⟨n,hn⟩:∃n,nth ns i=n:=⟨_,rfl⟩
      have hnr:=hns n (by rw [← hn];exact zag hi)
      have hsu:=fun k=>zrD (m:=m) (ws:=ws) hi k
      simp only [hn] at hsu
      rcases (show n=1∨n=2∨n=3∨n=4 by omega) with rfl|rfl|rfl|rfl
      · have hle:=hlen 1 i
        have e0:zbU m ws (ns.take (i+1)) 0=zbU m ws (ns.take i) 0:=bM
        have e1:zbU m ws (ns.take (i+1)) 1=ws:=bN
        have e2:zbU m ws (ns.take (i+1)) 2=zbU m ws (ns.take i) 2:=bO
        have e3:zbU m ws (ns.take (i+1)) 3=zbU m ws (ns.take i) 3:=dt
        have e4:zbU m ws (ns.take (i+1)) 4=zbU m ws (ns.take i) 4:=du
        generalize zbU m ws (ns.take i)=L at *
        refine J4 hi hn hws' hle ?_
        refine zEp (hrec (d - 1) aa (i+1) aa) ?_ ad
        have q1:List.drop m (List.map zaB (L 1))= []:=List.drop_eq_nil_of_le cO
        have q2:List.take m (List.map zaB ws)=List.map zaB ws:=List.take_of_length_le cB
        simp [go_sem,zad,e0,e1,e2,e3,e4,q1,q2,hws']
      · have hle:=hlen 2 i
        have e0:zbU m ws (ns.take (i+1)) 0=zbU m ws (ns.take i) 0:=bM
        have e1:zbU m ws (ns.take (i+1)) 1=zbU m ws (ns.take i) 1:=bN
        have e2:zbU m ws (ns.take (i+1)) 2=ws:=bO
        have e3:zbU m ws (ns.take (i+1)) 3=zbU m ws (ns.take i) 3:=dt
        have e4:zbU m ws (ns.take (i+1)) 4=zbU m ws (ns.take i) 4:=du
        generalize zbU m ws (ns.take i)=L at *
        refine J4 hi hn hws' hle ?_
        refine zEp (hrec (d - 1) aa (i+1) aa) ?_ ad
        have q1:List.drop m (List.map zaB (L 2))= []:=List.drop_eq_nil_of_le cO
        have q2:List.take m (List.map zaB ws)=List.map zaB ws:=List.take_of_length_le cB
        simp [go_sem,zad,e0,e1,e2,e3,e4,q1,q2,hws']
      · have hle:=hlen 3 i
        have e0:zbU m ws (ns.take (i+1)) 0=zbU m ws (ns.take i) 0:=bM
        have e1:zbU m ws (ns.take (i+1)) 1=zbU m ws (ns.take i) 1:=bN
        have e2:zbU m ws (ns.take (i+1)) 2=zbU m ws (ns.take i) 2:=bO
        have e3:zbU m ws (ns.take (i+1)) 3=ws:=dt
        have e4:zbU m ws (ns.take (i+1)) 4=zbU m ws (ns.take i) 4:=du
        generalize zbU m ws (ns.take i)=L at *
        refine J4 hi hn hws' hle ?_
        refine zEp (hrec (d - 1) aa (i+1) aa) ?_ ad
        have q1:List.drop m (List.map zaB (L 3))= []:=List.drop_eq_nil_of_le cO
        have q2:List.take m (List.map zaB ws)=List.map zaB ws:=List.take_of_length_le cB
        simp [go_sem,zad,e0,e1,e2,e3,e4,q1,q2,hws']
      · have hle:=hlen 4 i
        have e0:zbU m ws (ns.take (i+1)) 0=zbU m ws (ns.take i) 0:=bM
        have e1:zbU m ws (ns.take (i+1)) 1=zbU m ws (ns.take i) 1:=bN
        have e2:zbU m ws (ns.take (i+1)) 2=zbU m ws (ns.take i) 2:=bO
        have e3:zbU m ws (ns.take (i+1)) 3=zbU m ws (ns.take i) 3:=dt
        have e4:zbU m ws (ns.take (i+1)) 4=ws:=du
        generalize zbU m ws (ns.take i)=L at *
        refine J4 hi hn hws' hle ?_
        refine zEp (hrec (d - 1) aa (i+1) aa) ?_ ad
        have q1:List.drop m (List.map zaB (L 4))= []:=List.drop_eq_nil_of_le cO
        have q2:List.take m (List.map zaB ws)=List.map zaB ws:=List.take_of_length_le cB
        simp [go_sem,zad,e0,e1,e2,e3,e4,q1,q2,hws']
    · obtain rfl:i=ns.length:=by omega
      rw [List.take_length]
      refine J0 ?_
      (repeat' (with_reducible apply And.intro))<;>first|(refine zak rfl ad aB ?_;first|(rw [List.drop_zero,List.take_of_length_le ad];done)|(simp [zaB];done))|(refine LeV.frz rfl ad aB ?_;simp only [List.drop_zero,List.take_succ_cons,List.take_zero];exact .cons (.cons (zak rfl aL aB dD) .nil) (.cons (.cons (zak rfl aL aB dD) .nil) (.cons (.cons (zak rfl aL aB dD) .nil) (.cons (.cons (zak rfl aL aB dD) .nil) (.cons (.cons (zak rfl aL aB dD) .nil) (.nil))))))
  · simp
  · simp [go_sem,zad,zbU,hws',hm]
  · simp
def zao (g:zab):List Int:=List.replicate g.cells.toNat 0
def zjR (g:zab) (n c i:Nat):List Int:=if i=n then (zao g).set c 1 else zao g
def zb5 (g:zab) (n c:Nat):zbh:=⟨2,(List.range (2 * g.kinds.length+1)).map (zjR g n c),List.replicate g.kinds.length 0,List.replicate g.kinds.length 0,List.replicate g.rights.toNat 0,0⟩
def zfL (g:zab) (r:Nat):zbh:=⟨2,List.replicate (2 * g.kinds.length+1) (zao g),List.replicate g.kinds.length 0,List.replicate g.kinds.length 0,(List.replicate g.rights.toNat 0).set r 1,0⟩
def zl8 (g:zab) (n:Nat):List zbh:=(List.range g.cells.toNat).map (zb5 g (n+1))
def zdP (g:zab):List zbh:=(List.range (2 * g.kinds.length)).flatMap (zl8 g)++(List.range g.rights.toNat).map (zfL g)
def zbl (x:zbh):List AV:= [.agg (zaH x)]
theorem zbc {n:Nat}{l:List zbh}:(∀r ∈ l.map zbl,∀c ∈ r,Bel n c)=True:=by
 refine eq_true ?_
 intro r hr c hc
 obtain ⟨x, _,rfl⟩:=List.mem_map.1 hr
 simp only [zbl,List.mem_singleton] at hc
 subst hc
 exact .agg (zdp x)
attribute [go_sem ↓] zbc
def plP (g:zab) (i:Nat):List zbh:=((List.range (2 * g.kinds.length)).drop i).flatMap (zl8 g)++(List.range g.rights.toNat).map (zfL g)
def plQ (g:zab) (i c:Nat):List zbh:=((List.range g.cells.toNat).drop c).map (zb5 g (i+1))++plP g (i+1)
def plR (g:zab) (r:Nat):List zbh:=((List.range g.rights.toNat).drop r).map (zfL g)
theorem zut (g:zab):zdP g=plP g 0:=rfl
theorem zus {g:zab}{i:Nat} (h:i<2 * g.kinds.length):plP g i=plQ g i 0:=by
 unfold plP plQ
 rw [List.drop_eq_getElem_cons aK]
 simp [zl8,plP]
theorem zuu {g:zab}{i c:Nat} (h:c<g.cells.toNat):plQ g i c=zb5 g (i+1) c::plQ g i (c+1):=by
 unfold plQ
 rw [List.drop_eq_getElem_cons aK]
 simp
theorem zzp (g:zab) (i:Nat):plQ g i g.cells.toNat=plP g (i+1):=by
 unfold plQ
 rw [List.drop_eq_nil_of_le ad]
 rfl
theorem zzo (g:zab):plP g (2 * g.kinds.length)=plR g 0:=by
 unfold plP plR
 rw [List.drop_eq_nil_of_le ad]
 rfl
theorem zuv {g:zab}{r:Nat} (h:r<g.rights.toNat):plR g r=zfL g r::plR g (r+1):=by
 unfold plR
 rw [List.drop_eq_getElem_cons aK]
 simp
theorem zzq (g:zab):plR g g.rights.toNat= []:=by
 unfold plR
 rw [List.drop_eq_nil_of_le ad]
 rfl
theorem zte (g:zab) (hg:GOk g) (hk:g.kinds.length=1):zgA Tryz.prog 67 [.fp (zac g)] 0 ((zdP g).map zbl):=by
 have hc1:=hg.c1
 have hc9:=hg.c9
 have hr0:=hg.r0
 have hr4:=hg.r4
 refine zEz ai Tryz.func67 rfl rfl (Nat.le_of_ble_eq_true rfl) ai (fun l=> ?_) (hm2:=by decide)
 have hgb:∀ (n:Nat) (L:List zbh),Bel n (zaR l 0 (L.map zbl)):=fun n L=>by
  simp only [zaR,zhB,zfi,List.forall_mem_cons,zok,zbt]
  simp [go_sem]
 rw [zut]
 have hPs:=fun i h=>zus (g:=g) (i:=i) h
 have hPe:=zzo g
 have hQe:=zzp g
 rw [hk] at hPs hPe
 refine Jg1 hk ?_
 refine zEp (zEs (α:=Nat) (fun i=>⟨[(0, .fn (.yield l) [] []),(1, .fp (zac g)),(3, .int ((i:Int)+1)),(1000000007,zaR l 0 ((plP g i).map zbl))], [],0⟩)
  (fun d i=>i+d=2) ?_ 2 0 ?_) ?_ ?_
 ·rintro d i i1 hrec
  refine Jg1 hk ?_
  refine zEr (fun hi=> ?_) (fun hi=> ?_)<;>simp at hi
  ·rw [hPs i aa]
   refine Jg1 hk ?_
   refine zEp (zEs (α:=Nat) (fun c=>⟨[(0, .fn (.yield l) [] []),(1, .fp (zac g)),(3, .int ((i:Int)+1)),(18, .int g.cells),(19, .int c),(1000000007,zaR l 0 ((plQ g i c).map zbl))], [],0⟩)
    (fun d2 c=>c+d2=g.cells.toNat) ?_ g.cells.toNat 0 ?_) ?_ ?_
   ·rintro d2 c j1 hrec2
    refine Jg1 hk ?_
    refine zEr (fun hc=> ?_) (fun hc=> ?_)<;>simp at hc
    ·have hcc:c<g.cells.toNat:=by omega
     rw [zuu hcc,List.map_cons]
     refine Jg1 hk ?_
     refine aF Tryz.func64 ?_
     refine J1 hk ?_
     refine zEq ?_
     refine J1 hk ?_
     refine zEq ?_
     refine J1 hk ?_
     refine zEq ?_
     refine J1 hk ?_
     refine zEq ?_
     refine J1 hk ?_
     rcases (show i=0∨i=1 by omega) with rfl|rfl
     ·have hI:zbl (zb5 g (0+1) c)= [.agg [.int 2, .lst 1 [[zai (zao g)], [zai ((zao g).set c 1)], [zai (zao g)]], .lst 1 [[.int 0]], .lst 1 [[.int 0]],zai (List.replicate g.rights.toNat 0), .int 0]]:=by
       unfold zbl zb5 zaH
       rw [hk]
       simp [zjR,List.range_succ,zbe,zai,zaB,List.replicate]
      refine J1 hcc ?_
      have hbx:∀e ∈ zbl (zb5 g (0+1) c),Bel 0 e:=of_eq_true (zbc (n:=0) (l:= [zb5 g (0+1) c])) _ ad
      rw [hI] at hbx ⊢
      refine zfn.mk (more:=0) (xs:= [.agg [.int 2, .lst 1 [[zai (zao g)], [zai ((zao g).set c 1)], [zai (zao g)]], .lst 1 [[.int 0]], .lst 1 [[.int 0]],zai (List.replicate g.rights.toNat 0), .int 0]]) (rs:=(plQ g 0 (c+1)).map zbl) (za6 _ [21,19,29,39,4,6,10]) ay (zbf _ _) (.cons (.agg (.cons (.refl _) (.cons (LeV.frz rfl ad aj dQ) (.cons (LeV.frz rfl ad aj af) (.cons (LeV.frz rfl ad aj af) (.cons (zak rfl ad aj dB) (.cons (.refl _) .nil))))))) .nil) hbx ?_ ?_
      ·refine Jg0 ?_
       refine zEp (hrec2 (d2 - 1) aa (c+1) aa) ?_ ad
       simp [go_sem,zad,hgb]
      ·exact Kg0
     ·have hI:zbl (zb5 g (1+1) c)= [.agg [.int 2, .lst 1 [[zai (zao g)], [zai (zao g)], [zai ((zao g).set c 1)]], .lst 1 [[.int 0]], .lst 1 [[.int 0]],zai (List.replicate g.rights.toNat 0), .int 0]]:=by
       unfold zbl zb5 zaH
       rw [hk]
       simp [zjR,List.range_succ,zbe,zai,zaB,List.replicate]
      refine J1 hcc ?_
      have hbx:∀e ∈ zbl (zb5 g (1+1) c),Bel 0 e:=of_eq_true (zbc (n:=0) (l:= [zb5 g (1+1) c])) _ ad
      rw [hI] at hbx ⊢
      refine zfn.mk (more:=0) (xs:= [.agg [.int 2, .lst 1 [[zai (zao g)], [zai (zao g)], [zai ((zao g).set c 1)]], .lst 1 [[.int 0]], .lst 1 [[.int 0]],zai (List.replicate g.rights.toNat 0), .int 0]]) (rs:=(plQ g 1 (c+1)).map zbl) (za6 _ [21,19,29,39,4,6,10]) ay (zbf _ _) (.cons (.agg (.cons (.refl _) (.cons (LeV.frz rfl ad aj dQ) (.cons (LeV.frz rfl ad aj af) (.cons (LeV.frz rfl ad aj af) (.cons (zak rfl ad aj dB) (.cons (.refl _) .nil))))))) .nil) hbx ?_ ?_
      ·refine Jg0 ?_
       refine zEp (hrec2 (d2 - 1) aa (c+1) aa) ?_ ad
       simp [go_sem,zad,hgb]
      ·exact Kg0
    ·obtain rfl:c=g.cells.toNat:=by omega
     rw [hQe]
     refine Jg0 ?_
     refine zEp (hrec (d - 1) aa (i+1) aa) ?_ ad
     simp [go_sem,zad,hgb]
   ·simp
   ·simp [go_sem,zad,hgb]
   ·simp
  ·obtain rfl:i=2:=by omega
   rw [hPe]
   refine Jg0 ?_
   refine zEp (zEs (α:=Nat) (fun r=>⟨[(0, .fn (.yield l) [] []),(1, .fp (zac g)),(37, .int g.rights),(38, .int r),(1000000007,zaR l 0 ((plR g r).map zbl))], [],0⟩)
    (fun d2 r=>r+d2=g.rights.toNat) ?_ g.rights.toNat 0 ?_) ?_ ?_
   ·rintro d2 r j1 hrec2
    refine Jg1 hk ?_
    refine zEr (fun hr=> ?_) (fun hr=> ?_)<;>simp at hr
    ·have hrr:r<g.rights.toNat:=by omega
     rw [zuv hrr,List.map_cons]
     refine Jg1 hk ?_
     refine aF Tryz.func64 ?_
     refine J1 hk ?_
     refine zEq ?_
     refine J1 hk ?_
     refine zEq ?_
     refine J1 hk ?_
     refine zEq ?_
     refine J1 hk ?_
     refine zEq ?_
     refine J1 hk ?_
     have hI:zbl (zfL g r)= [.agg [.int 2, .lst 1 [[zai (zao g)], [zai (zao g)], [zai (zao g)]], .lst 1 [[.int 0]], .lst 1 [[.int 0]],zai ((List.replicate g.rights.toNat 0).set r 1), .int 0]]:=by
      unfold zbl zfL zaH
      rw [hk]
      simp [zbe,zai,zaB,List.replicate]
     refine J1 hrr ?_
     have hbx:∀e ∈ zbl (zfL g r),Bel 0 e:=of_eq_true (zbc (n:=0) (l:= [zfL g r])) _ ad
     rw [hI] at hbx ⊢
     refine zfn.mk (more:=0) (xs:= [.agg [.int 2, .lst 1 [[zai (zao g)], [zai (zao g)], [zai (zao g)]], .lst 1 [[.int 0]], .lst 1 [[.int 0]],zai ((List.replicate g.rights.toNat 0).set r 1), .int 0]]) (rs:=(plR g (r+1)).map zbl) (za6 _ [21,19,29,39,4,6,10]) ay (zbf _ _) (.cons (.agg (.cons (.refl _) (.cons (LeV.frz rfl ad aj (by simp only [List.drop_zero,List.take_succ_cons,List.take_zero];exact .cons (.cons (zak rfl ap aj dC) .nil) (.cons (.cons (zak rfl ap aj dC) .nil) (.cons (.cons (zak rfl ap aj dC) .nil) (.nil))))) (.cons (LeV.frz rfl ad aj af) (.cons (LeV.frz rfl ad aj af) (.cons (zak rfl ad aj dH) (.cons (.refl _) .nil))))))) .nil) hbx ?_ ?_
     ·refine Jg0 ?_
      refine zEp (hrec2 (d2 - 1) aa (r+1) aa) ?_ ad
      simp [go_sem,zad,hgb]
     ·exact Kg0
    ·obtain rfl:r=g.rights.toNat:=by omega
     rw [zzq]
     exact Kg0
   ·simp
   ·simp [go_sem,zad,hgb]
   ·simp
 ·rfl
 ·simp [go_sem,zad,hgb]
 ·simp
theorem ztf (g:zab) (hg:GOk g) (hk:g.kinds.length=2):zgA Tryz.prog 67 [.fp (zac g)] 0 ((zdP g).map zbl):=by
 have hc1:=hg.c1
 have hc9:=hg.c9
 have hr0:=hg.r0
 have hr4:=hg.r4
 refine zEz ai Tryz.func67 rfl rfl (Nat.le_of_ble_eq_true rfl) ai (fun l=> ?_) (hm2:=by decide)
 have hgb:∀ (n:Nat) (L:List zbh),Bel n (zaR l 0 (L.map zbl)):=fun n L=>by
  simp only [zaR,zhB,zfi,List.forall_mem_cons,zok,zbt]
  simp [go_sem]
 rw [zut]
 have hPs:=fun i h=>zus (g:=g) (i:=i) h
 have hPe:=zzo g
 have hQe:=zzp g
 rw [hk] at hPs hPe
 refine Jg1 hk ?_
 refine zEp (zEs (α:=Nat) (fun i=>⟨[(0, .fn (.yield l) [] []),(1, .fp (zac g)),(3, .int ((i:Int)+1)),(1000000007,zaR l 0 ((plP g i).map zbl))], [],0⟩)
  (fun d i=>i+d=4) ?_ 4 0 ?_) ?_ ?_
 ·rintro d i i1 hrec
  refine Jg1 hk ?_
  refine zEr (fun hi=> ?_) (fun hi=> ?_)<;>simp at hi
  ·rw [hPs i aa]
   refine Jg1 hk ?_
   refine zEp (zEs (α:=Nat) (fun c=>⟨[(0, .fn (.yield l) [] []),(1, .fp (zac g)),(3, .int ((i:Int)+1)),(18, .int g.cells),(19, .int c),(1000000007,zaR l 0 ((plQ g i c).map zbl))], [],0⟩)
    (fun d2 c=>c+d2=g.cells.toNat) ?_ g.cells.toNat 0 ?_) ?_ ?_
   ·rintro d2 c j1 hrec2
    refine Jg1 hk ?_
    refine zEr (fun hc=> ?_) (fun hc=> ?_)<;>simp at hc
    ·have hcc:c<g.cells.toNat:=by omega
     rw [zuu hcc,List.map_cons]
     refine Jg1 hk ?_
     refine aF Tryz.func64 ?_
     refine J1 hk ?_
     refine zEq ?_
     refine J1 hk ?_
     refine zEq ?_
     refine J1 hk ?_
     refine zEq ?_
     refine J1 hk ?_
     refine zEq ?_
     refine J1 hk ?_
     refine zEq ?_
     refine J1 hk ?_
     refine zEq ?_
     refine J1 hk ?_
     rcases (show i=0∨i=1∨i=2∨i=3 by omega) with rfl|rfl|rfl|rfl
     ·have hI:zbl (zb5 g (0+1) c)= [.agg [.int 2, .lst 1 [[zai (zao g)], [zai ((zao g).set c 1)], [zai (zao g)], [zai (zao g)], [zai (zao g)]], .lst 1 [[.int 0], [.int 0]], .lst 1 [[.int 0], [.int 0]],zai (List.replicate g.rights.toNat 0), .int 0]]:=by
       unfold zbl zb5 zaH
       rw [hk]
       simp [zjR,List.range_succ,zbe,zai,zaB,List.replicate]
      refine J1 hcc ?_
      have hbx:∀e ∈ zbl (zb5 g (0+1) c),Bel 0 e:=of_eq_true (zbc (n:=0) (l:= [zb5 g (0+1) c])) _ ad
      rw [hI] at hbx ⊢
      refine zfn.mk (more:=0) (xs:= [.agg [.int 2, .lst 1 [[zai (zao g)], [zai ((zao g).set c 1)], [zai (zao g)], [zai (zao g)], [zai (zao g)]], .lst 1 [[.int 0], [.int 0]], .lst 1 [[.int 0], [.int 0]],zai (List.replicate g.rights.toNat 0), .int 0]]) (rs:=(plQ g 0 (c+1)).map zbl) (za6 _ [21,19,29,39,49,59,4,6,10]) ay (zbf _ _) (.cons (.agg (.cons (.refl _) (.cons (LeV.frz rfl ad aj dN) (.cons (LeV.frz rfl ad aj af) (.cons (LeV.frz rfl ad aj af) (.cons (zak rfl ad aj dB) (.cons (.refl _) .nil))))))) .nil) hbx ?_ ?_
      ·refine Jg0 ?_
       refine zEp (hrec2 (d2 - 1) aa (c+1) aa) ?_ ad
       simp [go_sem,zad,hgb]
      ·exact Kg0
     ·have hI:zbl (zb5 g (1+1) c)= [.agg [.int 2, .lst 1 [[zai (zao g)], [zai (zao g)], [zai ((zao g).set c 1)], [zai (zao g)], [zai (zao g)]], .lst 1 [[.int 0], [.int 0]], .lst 1 [[.int 0], [.int 0]],zai (List.replicate g.rights.toNat 0), .int 0]]:=by
       unfold zbl zb5 zaH
       rw [hk]
       simp [zjR,List.range_succ,zbe,zai,zaB,List.replicate]
      refine J1 hcc ?_
      have hbx:∀e ∈ zbl (zb5 g (1+1) c),Bel 0 e:=of_eq_true (zbc (n:=0) (l:= [zb5 g (1+1) c])) _ ad
      rw [hI] at hbx ⊢
      refine zfn.mk (more:=0) (xs:= [.agg [.int 2, .lst 1 [[zai (zao g)], [zai (zao g)], [zai ((zao g).set c 1)], [zai (zao g)], [zai (zao g)]], .lst 1 [[.int 0], [.int 0]], .lst 1 [[.int 0], [.int 0]],zai (List.replicate g.rights.toNat 0), .int 0]]) (rs:=(plQ g 1 (c+1)).map zbl) (za6 _ [21,19,29,39,49,59,4,6,10]) ay (zbf _ _) (.cons (.agg (.cons (.refl _) (.cons (LeV.frz rfl ad aj dN) (.cons (LeV.frz rfl ad aj af) (.cons (LeV.frz rfl ad aj af) (.cons (zak rfl ad aj dB) (.cons (.refl _) .nil))))))) .nil) hbx ?_ ?_
      ·refine Jg0 ?_
       refine zEp (hrec2 (d2 - 1) aa (c+1) aa) ?_ ad
       simp [go_sem,zad,hgb]
      ·exact Kg0
     ·have hI:zbl (zb5 g (2+1) c)= [.agg [.int 2, .lst 1 [[zai (zao g)], [zai (zao g)], [zai (zao g)], [zai ((zao g).set c 1)], [zai (zao g)]], .lst 1 [[.int 0], [.int 0]], .lst 1 [[.int 0], [.int 0]],zai (List.replicate g.rights.toNat 0), .int 0]]:=by
       unfold zbl zb5 zaH
       rw [hk]
       simp [zjR,List.range_succ,zbe,zai,zaB,List.replicate]
      refine J1 hcc ?_
      have hbx:∀e ∈ zbl (zb5 g (2+1) c),Bel 0 e:=of_eq_true (zbc (n:=0) (l:= [zb5 g (2+1) c])) _ ad
      rw [hI] at hbx ⊢
      refine zfn.mk (more:=0) (xs:= [.agg [.int 2, .lst 1 [[zai (zao g)], [zai (zao g)], [zai (zao g)], [zai ((zao g).set c 1)], [zai (zao g)]], .lst 1 [[.int 0], [.int 0]], .lst 1 [[.int 0], [.int 0]],zai (List.replicate g.rights.toNat 0), .int 0]]) (rs:=(plQ g 2 (c+1)).map zbl) (za6 _ [21,19,29,39,49,59,4,6,10]) ay (zbf _ _) (.cons (.agg (.cons (.refl _) (.cons (LeV.frz rfl ad aj dN) (.cons (LeV.frz rfl ad aj af) (.cons (LeV.frz rfl ad aj af) (.cons (zak rfl ad aj dB) (.cons (.refl _) .nil))))))) .nil) hbx ?_ ?_
      ·refine Jg0 ?_
       refine zEp (hrec2 (d2 - 1) aa (c+1) aa) ?_ ad
       simp [go_sem,zad,hgb]
      ·exact Kg0
     ·have hI:zbl (zb5 g (3+1) c)= [.agg [.int 2, .lst 1 [[zai (zao g)], [zai (zao g)], [zai (zao g)], [zai (zao g)], [zai ((zao g).set c 1)]], .lst 1 [[.int 0], [.int 0]], .lst 1 [[.int 0], [.int 0]],zai (List.replicate g.rights.toNat 0), .int 0]]:=by
       unfold zbl zb5 zaH
       rw [hk]
       simp [zjR,List.range_succ,zbe,zai,zaB,List.replicate]
      refine J1 hcc ?_
      have hbx:∀e ∈ zbl (zb5 g (3+1) c),Bel 0 e:=of_eq_true (zbc (n:=0) (l:= [zb5 g (3+1) c])) _ ad
      rw [hI] at hbx ⊢
      refine zfn.mk (more:=0) (xs:= [.agg [.int 2, .lst 1 [[zai (zao g)], [zai (zao g)], [zai (zao g)], [zai (zao g)], [zai ((zao g).set c 1)]], .lst 1 [[.int 0], [.int 0]], .lst 1 [[.int 0], [.int 0]],zai (List.replicate g.rights.toNat 0), .int 0]]) (rs:=(plQ g 3 (c+1)).map zbl) (za6 _ [21,19,29,39,49,59,4,6,10]) ay (zbf _ _) (.cons (.agg (.cons (.refl _) (.cons (LeV.frz rfl ad aj dN) (.cons (LeV.frz rfl ad aj af) (.cons (LeV.frz rfl ad aj af) (.cons (zak rfl ad aj dB) (.cons (.refl _) .nil))))))) .nil) hbx ?_ ?_
      ·refine Jg0 ?_
       refine zEp (hrec2 (d2 - 1) aa (c+1) aa) ?_ ad
       simp [go_sem,zad,hgb]
      ·exact Kg0
    ·obtain rfl:c=g.cells.toNat:=by omega
     rw [hQe]
     refine Jg0 ?_
     refine zEp (hrec (d - 1) aa (i+1) aa) ?_ ad
     simp [go_sem,zad,hgb]
   ·simp
   ·simp [go_sem,zad,hgb]
   ·simp
  ·obtain rfl:i=4:=by omega
   rw [hPe]
   refine Jg0 ?_
   refine zEp (zEs (α:=Nat) (fun r=>⟨[(0, .fn (.yield l) [] []),(1, .fp (zac g)),(37, .int g.rights),(38, .int r),(1000000007,zaR l 0 ((plR g r).map zbl))], [],0⟩)
    (fun d2 r=>r+d2=g.rights.toNat) ?_ g.rights.toNat 0 ?_) ?_ ?_
   ·rintro d2 r j1 hrec2
    refine Jg1 hk ?_
    refine zEr (fun hr=> ?_) (fun hr=> ?_)<;>simp at hr
    ·have hrr:r<g.rights.toNat:=by omega
     rw [zuv hrr,List.map_cons]
     refine Jg1 hk ?_
     refine aF Tryz.func64 ?_
     refine J1 hk ?_
     refine zEq ?_
     refine J1 hk ?_
     refine zEq ?_
     refine J1 hk ?_
     refine zEq ?_
     refine J1 hk ?_
     refine zEq ?_
     refine J1 hk ?_
     refine zEq ?_
     refine J1 hk ?_
     refine zEq ?_
     refine J1 hk ?_
     have hI:zbl (zfL g r)= [.agg [.int 2, .lst 1 [[zai (zao g)], [zai (zao g)], [zai (zao g)], [zai (zao g)], [zai (zao g)]], .lst 1 [[.int 0], [.int 0]], .lst 1 [[.int 0], [.int 0]],zai ((List.replicate g.rights.toNat 0).set r 1), .int 0]]:=by
      unfold zbl zfL zaH
      rw [hk]
      simp [zbe,zai,zaB,List.replicate]
     refine J1 hrr ?_
     have hbx:∀e ∈ zbl (zfL g r),Bel 0 e:=of_eq_true (zbc (n:=0) (l:= [zfL g r])) _ ad
     rw [hI] at hbx ⊢
     refine zfn.mk (more:=0) (xs:= [.agg [.int 2, .lst 1 [[zai (zao g)], [zai (zao g)], [zai (zao g)], [zai (zao g)], [zai (zao g)]], .lst 1 [[.int 0], [.int 0]], .lst 1 [[.int 0], [.int 0]],zai ((List.replicate g.rights.toNat 0).set r 1), .int 0]]) (rs:=(plR g (r+1)).map zbl) (za6 _ [21,19,29,39,49,59,4,6,10]) ay (zbf _ _) (.cons (.agg (.cons (.refl _) (.cons (LeV.frz rfl ad aj (by simp only [List.drop_zero,List.take_succ_cons,List.take_zero];exact .cons (.cons (zak rfl ap aj dC) .nil) (.cons (.cons (zak rfl ap aj dC) .nil) (.cons (.cons (zak rfl ap aj dC) .nil) (.cons (.cons (zak rfl ap aj dC) .nil) (.cons (.cons (zak rfl ap aj dC) .nil) (.nil))))))) (.cons (LeV.frz rfl ad aj af) (.cons (LeV.frz rfl ad aj af) (.cons (zak rfl ad aj dH) (.cons (.refl _) .nil))))))) .nil) hbx ?_ ?_
     ·refine Jg0 ?_
      refine zEp (hrec2 (d2 - 1) aa (r+1) aa) ?_ ad
      simp [go_sem,zad,hgb]
     ·exact Kg0
    ·obtain rfl:r=g.rights.toNat:=by omega
     rw [zzq]
     exact Kg0
   ·simp
   ·simp [go_sem,zad,hgb]
   ·simp
 ·rfl
 ·simp [go_sem,zad,hgb]
 ·simp
def colF (g:zab) (ws ns:List Int):List zbh:= [{ zaX g 2 ws ns with side:=0},{ zaX g 2 ws ns with side:=1}]
def zcP (g:zab) (L:List (List Int)):List zbh:=L.flatMap (colF g (zdN g.board))
def clP (g:zab) (ws:List Int) (L:List (List Int)) (j:Nat):List zbh:=(L.drop j).flatMap (colF g ws)
theorem zt0 (g:zab) (ws:List Int) (L:List (List Int)):clP g ws L 0=L.flatMap (colF g ws):=rfl
theorem ztZ {g:zab}{ws:List Int}{L:List (List Int)}{j:Nat} (h:j<L.length):clP g ws L j={ zaX g 2 ws (nth L j) with side:=0}::{ zaX g 2 ws (nth L j) with side:=1}::clP g ws L (j+1):=by
 unfold clP
 rw [List.drop_eq_getElem_cons h,List.flatMap_cons,zap _ _ h]
 rfl
theorem zp4 (g:zab) (hg:GOk g) (hk:g.kinds.length=1):zgA Tryz.prog 68 [.fp (zac g)] 0 ((zcP g [[1], [2], [1,2]]).map zbl):=by
 have hc1:=hg.c1
 have hc9:=hg.c9
 have hco:=zk4 g.board hg.board hg.d8 hc9
 have hcl:(zdN g.board).length=g.cells.toNat:=by simp [zdN,zab.board]
 unfold zcP
 generalize zdN g.board=ws at *
 have hW:=fun ns h1 h2=>ziC g hg hk 2 ws ns aa h1 h2
 obtain ⟨L,hL⟩:∃L:List (List Int),L= [[1], [2], [1,2]]:=⟨_,rfl⟩
 have hLl:L.length=3:=by rw [hL];rfl
 have hLn:∀ns ∈ L,(∀n ∈ ns,1≤n∧n≤2)∧ns.length≤100:=by rw [hL];decide
 rw [← hL]
 refine zEz ai Tryz.func68 rfl rfl (Nat.le_of_ble_eq_true rfl) ai (fun l=> ?_) (hm2:=by decide)
 have hgb:∀ (n:Nat) (L:List zbh),Bel n (zaR l 0 (L.map zbl)):=fun n L=>by
  simp only [zaR,zhB,zfi,List.forall_mem_cons,zok,zbt]
  simp [go_sem]
 rw [← zt0]
 refine Jg0 ?_
 refine aP hco ?_
 refine Jg1 hk ?_
 refine zEq ?_
 refine Jg1 hk ?_
 refine zEq ?_
 refine Jg1 hk ?_
 refine zEq ?_
 refine Jg1 hk ?_
 have hLe:zbe L= .lst 1 [[zai [1]], [zai [2]], [zai [1,2]]]:=by rw [hL];rfl
 refine zEp (zEs (α:=Nat) (fun j=>⟨[(0, .fn (.yield l) [] []),(1, .fp (zac g)),(3,zai ws),(34,zbe L),(35, .int 3),(36, .int j),(1000000007,zaR l 0 ((clP g ws L j).map zbl))], [],0⟩)
  (fun d j=>j+d=3) ?_ 3 0 ?_) ?_ ?_
 ·rintro d j i1 hrec
  refine Jg0 ?_
  refine zEr (fun hj=> ?_) (fun hj=> ?_)<;>simp at hj
  ·have hjL:j<L.length:=by omega
   obtain ⟨ns,hns⟩:∃ns,nth L j=ns:=⟨_,rfl⟩
   obtain ⟨n1,n2⟩:=hLn ns (by rw [← hns];exact zag hjL)
   rw [ztZ hjL,hns,List.map_cons,List.map_cons]
   have hWn:=hW ns n1 n2
   generalize hwi:zaX g 2 ws ns=x at hWn ⊢
   refine Jg2 hjL hns ?_
   refine zEq ?_
   refine Jg0 ?_
   refine aP hWn ?_
   refine Jg0 ?_
   refine zfn.mk (more:=0) (xs:=zbl { x with side:=0}) (rs:=zbl { x with side:=1}::(clP g ws L (j+1)).map zbl) _ ay (.refl _) (.cons (.refl _) .nil) (of_eq_true (zbc (n:=0) (l:= [{ x with side:=0}])) _ ad) ?_ ?_
   ·refine Jg0 ?_
    refine zEq ?_
    refine Jg0 ?_
    refine aP hWn ?_
    refine Jg0 ?_
    refine zfn.mk (more:=0) (xs:=zbl { x with side:=1}) (rs:=(clP g ws L (j+1)).map zbl) _ ay (.refl _) (.cons (.refl _) .nil) (of_eq_true (zbc (n:=0) (l:= [{ x with side:=1}])) _ ad) ?_ ?_
    ·refine Jg0 ?_
     refine zEq ?_
     refine Jg0 ?_
     refine zEp (hrec (d - 1) aa (j+1) aa) ?_ ad
     simp [go_sem,zad,hgb]
    ·exact Kg0
   ·exact Kg0
  ·obtain rfl:j=3:=by omega
   rw [show clP g ws L 3= [] by unfold clP;rw [List.drop_eq_nil_of_le aa];rfl]
   exact Kg0
 ·rfl
 ·simp [go_sem,zad,hgb]
  rw [hL]
  simp only [List.map_cons,List.map_nil,zaB]
  exact LeV.frz rfl ad ad (by simp only [List.drop_zero,List.take_succ_cons,List.take_zero];exact .cons (.cons (LeV.frz rfl ad ad af) .nil) (.cons (.cons (LeV.frz rfl ad ad af) .nil) (.cons (.cons (LeV.frz rfl ad ad af) .nil) (.nil))))
 ·simp
theorem zp5 (g:zab) (hg:GOk g) (hk:g.kinds.length=2):zgA Tryz.prog 68 [.fp (zac g)] 0 ((zcP g [[1], [2], [3], [4], [1,2,3,4]]).map zbl):=by
 have hc1:=hg.c1
 have hc9:=hg.c9
 have hco:=zk4 g.board hg.board hg.d8 hc9
 have hcl:(zdN g.board).length=g.cells.toNat:=by simp [zdN,zab.board]
 unfold zcP
 generalize zdN g.board=ws at *
 have hW:=fun ns h1 h2=>ziD g hg hk 2 ws ns aa h1 h2
 obtain ⟨L,hL⟩:∃L:List (List Int),L= [[1], [2], [3], [4], [1,2,3,4]]:=⟨_,rfl⟩
 have hLl:L.length=5:=by rw [hL];rfl
 have hLn:∀ns ∈ L,(∀n ∈ ns,1≤n∧n≤4)∧ns.length≤100:=by rw [hL];decide
 rw [← hL]
 refine zEz ai Tryz.func68 rfl rfl (Nat.le_of_ble_eq_true rfl) ai (fun l=> ?_) (hm2:=by decide)
 have hgb:∀ (n:Nat) (L:List zbh),Bel n (zaR l 0 (L.map zbl)):=fun n L=>by
  simp only [zaR,zhB,zfi,List.forall_mem_cons,zok,zbt]
  simp [go_sem]
 rw [← zt0]
 refine Jg0 ?_
 refine aP hco ?_
 refine Jg1 hk ?_
 refine zEq ?_
 refine Jg1 hk ?_
 refine zEq ?_
 refine Jg1 hk ?_
 refine zEq ?_
 refine Jg1 hk ?_
 refine zEq ?_
 refine Jg1 hk ?_
 refine zEq ?_
 refine Jg1 hk ?_
 have hLe:zbe L= .lst 1 [[zai [1]], [zai [2]], [zai [3]], [zai [4]], [zai [1,2,3,4]]]:=by rw [hL];rfl
 refine zEp (zEs (α:=Nat) (fun j=>⟨[(0, .fn (.yield l) [] []),(1, .fp (zac g)),(3,zai ws),(34,zbe L),(35, .int 5),(36, .int j),(1000000007,zaR l 0 ((clP g ws L j).map zbl))], [],0⟩)
  (fun d j=>j+d=5) ?_ 5 0 ?_) ?_ ?_
 ·rintro d j i1 hrec
  refine Jg0 ?_
  refine zEr (fun hj=> ?_) (fun hj=> ?_)<;>simp at hj
  ·have hjL:j<L.length:=by omega
   obtain ⟨ns,hns⟩:∃ns,nth L j=ns:=⟨_,rfl⟩
   obtain ⟨n1,n2⟩:=hLn ns (by rw [← hns];exact zag hjL)
   rw [ztZ hjL,hns,List.map_cons,List.map_cons]
   have hWn:=hW ns n1 n2
   generalize hwi:zaX g 2 ws ns=x at hWn ⊢
   refine Jg2 hjL hns ?_
   refine zEq ?_
   refine Jg0 ?_
   refine aP hWn ?_
   refine Jg0 ?_
   refine zfn.mk (more:=0) (xs:=zbl { x with side:=0}) (rs:=zbl { x with side:=1}::(clP g ws L (j+1)).map zbl) _ ay (.refl _) (.cons (.refl _) .nil) (of_eq_true (zbc (n:=0) (l:= [{ x with side:=0}])) _ ad) ?_ ?_
   ·refine Jg0 ?_
    refine zEq ?_
    refine Jg0 ?_
    refine aP hWn ?_
    refine Jg0 ?_
    refine zfn.mk (more:=0) (xs:=zbl { x with side:=1}) (rs:=(clP g ws L (j+1)).map zbl) _ ay (.refl _) (.cons (.refl _) .nil) (of_eq_true (zbc (n:=0) (l:= [{ x with side:=1}])) _ ad) ?_ ?_
    ·refine Jg0 ?_
     refine zEq ?_
     refine Jg0 ?_
     refine zEp (hrec (d - 1) aa (j+1) aa) ?_ ad
     simp [go_sem,zad,hgb]
    ·exact Kg0
   ·exact Kg0
  ·obtain rfl:j=5:=by omega
   rw [show clP g ws L 5= [] by unfold clP;rw [List.drop_eq_nil_of_le aa];rfl]
   exact Kg0
 ·rfl
 ·simp [go_sem,zad,hgb]
  rw [hL]
  simp only [List.map_cons,List.map_nil,zaB]
  exact LeV.frz rfl ad ad (by simp only [List.drop_zero,List.take_succ_cons,List.take_zero];exact .cons (.cons (LeV.frz rfl ad ad af) .nil) (.cons (.cons (LeV.frz rfl ad ad af) .nil) (.cons (.cons (LeV.frz rfl ad ad af) .nil) (.cons (.cons (LeV.frz rfl ad ad af) .nil) (.cons (.cons (LeV.frz rfl ad ad af) .nil) (.nil))))))
 ·simp
theorem zED {P:Program}{f:FuncId} (xs ys:List AV){o g sz i len n:Nat}{mt:Bool}{rs rows:List (List AV)}{r:AV}{h:zaq}{K:zcn} (hp:zaD P f (xs++ .lst sz rows::ys) r) (ho:h o=some (.rows mt g sz rs)) (hl:i+len≤rs.length)
  (hr:(rs.drop i).take len=rows) (hbx:∀c ∈ xs,Bel 0 c) (hby:∀c ∈ .lst sz rows::ys,Bel 0 c) (hk:K r (za6 h [o]) n):zah P f (xs++ .sl o g sz i len::ys) h n K:=by
 refine zah.pure (za6 h [o]) hp (zbf _ _) ?_ (fun c hc=> ?_) hk
 ·have h1:zav h (za6 h [o]) n (.sl o g sz i len::ys) (.lst sz rows::ys):=
   .cons (zak ho hl (fun g sz rs e=>by simp [za6,ho,zbr] at e) hr) (.refl _ _ _ _)
  have h2:∀a:List AV,zav h (za6 h [o]) n (a++ .sl o g sz i len::ys) (a++ .lst sz rows::ys):=fun a=>by
   induction a with
   |nil=>exact h1
   |cons y a ih=>exact .cons (.refl y) ih
  exact h2 xs
 ·rcases List.mem_append.1 hc with hc|hc
  ·exact hbx c hc
  ·exact hby c hc
def zz6 (h:zaq):zaq:=fun o=>zbr (h o)
@[go_sem] theorem zEn (h:zaq) (o:Nat):zz6 h o=zbr (h o):=rfl
theorem zhZ (h:zaq):Frz h (zz6 h):=fun o=>by
 unfold zz6
 cases ho:h o with
 |none=>exact .inl rfl
 |some x=>
  cases x with
  |rows mt g sz rs=>
   cases mt
   ·exact .inl rfl
   ·exact .inr ⟨g,sz,rs,rfl,rfl⟩
theorem zaA (h:zaq) (o g sz:Nat) (rs:List (List AV)):(zz6 h o=some (.rows true g sz rs))=False:=by
 refine eq_false fun e=> ?_
 unfold zz6 at e
 cases ho:h o with
 |none=>rw [ho] at e;cases e
 |some x=>cases x with|rows=>rw [ho] at e;simp [zbr] at e
def zmQ (g:zab) (k:Nat):zbh:={ zaX g 128 (List.replicate g.cells.toNat 1) [2 * (k:Int)+1,2 * (k:Int)+2] with h0:=(List.replicate g.kinds.length 0).set k 1,h1:=(List.replicate g.kinds.length 0).set k 1}
def zsC (g:zab):zbh:={ zaX g 128 (List.replicate g.cells.toNat 1) ((List.range (2 * g.kinds.length)).map fun (i:Nat)=>(i:Int)+1) with h0:=List.replicate g.kinds.length 1,h1:=List.replicate g.kinds.length 1}
def zcU (g:zab):List zbh:=(List.range (2 * g.kinds.length)).map (fun (i:Nat)=>zaX g 128 (List.replicate g.cells.toNat 1) [(i:Int)+1])++((List.range g.kinds.length).map (zmQ g)++ [zsC g])
theorem zsz (g:zab) (hg:GOk g) (hk:g.kinds.length=1):zgA Tryz.prog 62 [.fp (zac g)] 0 ((zcU g).map zbl):=by
 have hc1:=hg.c1
 have hc9:=hg.c9
 have hr0:=hg.r0
 have hr4:=hg.r4
 obtain ⟨m,hm⟩:∃m,m=g.cells.toNat:=⟨_,rfl⟩
 have hmc:g.cells=m:=aa
 have hRp:=zkN 1 m aa
 rw [← hmc] at hRp
 have hmt:g.cells.toNat=m:=hm.symm
 obtain ⟨ws,hws⟩:∃ws,ws=List.replicate m (1:Int):=⟨_,rfl⟩
 have hwl:ws.length=m:=by rw [hws];simp
 rw [← hws] at hRp
 have hW:=fun ns h1 h2=>ziC g hg hk 128 ws ns aa h1 h2
 have hC0:=za5 0 0
 have hC1:=za5 0 1
 have hC2:=za5 1 0
 have hC3:=za5 1 1
 rw [show zal 0 0=1 from rfl] at hC0
 rw [show zal 0 1=2 from rfl] at hC1
 rw [show zal 1 0=3 from rfl] at hC2
 rw [show zal 1 1=4 from rfl] at hC3
 refine zEz ai Tryz.func62 rfl rfl (Nat.le_of_ble_eq_true rfl) ai (fun l=> ?_) (hm2:=by decide)
 have hq1:List.take m (List.map zaB ws)=List.map zaB ws:=List.take_of_length_le aw
 have hq0:List.drop m (List.replicate m [AV.v (.int .i64 0)])= []:=List.drop_eq_nil_of_le ad
 obtain ⟨XV0,hV0⟩:∃X,X=zbl (zmQ g 0):=⟨_,rfl⟩
 have hX0:XV0= [.agg [.int 128, .lst 1 [[zai (List.replicate m 0)], [zai ws], [zai ws]], .lst 1 [[.int 1]], .lst 1 [[.int 1]],zai (List.replicate g.rights.toNat 0), .int 0]]:=by
  rw [hV0]
  unfold zbl zmQ zaX zaH
  rw [hk,← hm,← hws]
  simp [zbU,List.range_succ,zbe,zai,zaB,List.replicate]
 have hbX0:∀e ∈ XV0,Bel 0 e:=dL
 obtain ⟨XV1,hV1⟩:∃X,X=zbl (zsC g):=⟨_,rfl⟩
 have hX1:XV1= [.agg [.int 128, .lst 1 [[zai (List.replicate m 0)], [zai ws], [zai ws]], .lst 1 [[.int 1]], .lst 1 [[.int 1]],zai (List.replicate g.rights.toNat 0), .int 0]]:=by
  rw [hV1]
  unfold zbl zsC zaX zaH
  rw [hk,← hm,← hws]
  simp [zbU,List.range_succ,zbe,zai,zaB,List.replicate]
 have hbX1:∀e ∈ XV1,Bel 0 e:=by rw [hV1];exact of_eq_true (zbc (n:=0) (l:= [zsC g])) _ ad
 obtain ⟨w1,hw1⟩:∃w,w=zaX g 128 ws [1]:=⟨_,rfl⟩
 have hW1:=hW [1] ad ad
 rw [← hw1] at hW1
 obtain ⟨w2,hw2⟩:∃w,w=zaX g 128 ws [2]:=⟨_,rfl⟩
 have hW2:=hW [2] ad ad
 rw [← hw2] at hW2
 have hCI:(zcU g).map zbl= [zbl w1,zbl w2,XV0,XV1]:=by
  unfold zcU
  rw [hk,← hm,← hws,List.map_append,List.map_append]
  simp [List.range_succ,hV0,hV1,hw1,hw2,List.map]
 rw [hCI]
 clear hCI hV0 hV1
 refine Jg1 hmt ?_
 refine zED [] [.int g.cells] hRp rfl ad bA ad ae ?_
 refine Jg1 hmt ?_
 refine aF Tryz.func64 ?_
 refine Jg2 hk hmt ?_
 refine zEq ?_
 refine Jg2 hk hmt ?_
 refine zEq ?_
 refine Jg2 hk hmt ?_
 refine zEq ?_
 refine Jg2 hk hmt ?_
 refine zEq ?_
 refine Jg2 hk hmt ?_
 refine zEq ?_
 refine Jg5 hk hmt hwl hq0 hq1 ?_
 refine aP hC0 ?_
 refine Jg5 hk hmt hwl hq0 hq1 ?_
 refine aP hC1 ?_
 refine Jg5 hk hmt hwl hq0 hq1 ?_
 refine aF Tryz.func66 ?_
 refine Jg5 hk hmt hwl hq0 hq1 ?_
 refine aF Tryz.func64 ?_
 refine Jg5 hk hmt hwl hq0 hq1 ?_
 refine zEq ?_
 refine Jg5 hk hmt hwl hq0 hq1 ?_
 refine zEq ?_
 refine Jg5 hk hmt hwl hq0 hq1 ?_
 refine zEq ?_
 refine Jg5 hk hmt hwl hq0 hq1 ?_
 refine zEq ?_
 refine Jg5 hk hmt hwl hq0 hq1 ?_
 refine zEq ?_
 refine Jg5 hk hmt hwl hq0 hq1 ?_
 refine zEq ?_
 refine Jg5 hk hmt hwl hq0 hq1 ?_
 refine zEq ?_
 refine Jg5 hk hmt hwl hq0 hq1 ?_
 refine zEq ?_
 refine Jg5 hk hmt hwl hq0 hq1 ?_
 refine zED [.agg (zac g), .int 128,zai ws] [] hW1 rfl ad bA ae ae ?_
 refine Jg5 hk hmt hwl hq0 hq1 ?_
 refine zfn.mk (more:=0) (xs:=zbl w1) (rs:= [zbl w2,XV0,XV1]) _ ay (.refl _) (.cons (.refl _) .nil) (of_eq_true (zbc (n:=0) (l:= [w1])) _ ad) ?_ ?_
 rotate_left
 ·exact Kg0
 refine Jg5 hk hmt hwl hq0 hq1 ?_
 refine zEq ?_
 refine Jg5 hk hmt hwl hq0 hq1 ?_
 refine zED [.agg (zac g), .int 128,zai ws] [] hW2 rfl ad bA ae ae ?_
 refine Jg5 hk hmt hwl hq0 hq1 ?_
 refine zfn.mk (more:=0) (xs:=zbl w2) (rs:= [XV0,XV1]) _ ay (.refl _) (.cons (.refl _) .nil) (of_eq_true (zbc (n:=0) (l:= [w2])) _ ad) ?_ ?_
 rotate_left
 ·exact Kg0
 refine Jg5 hk hmt hwl hq0 hq1 ?_
 refine zEq ?_
 refine Jg5 hk hmt hwl hq0 hq1 ?_
 refine zEq ?_
 refine Jg5 hk hmt hwl hq0 hq1 ?_
 refine zEq ?_
 refine Jg5 hk hmt hwl hq0 hq1 ?_
 refine zfn.mk (more:=0) (xs:=XV0) (rs:= [XV1]) (zz6 _) ay (zhZ _) (by rw [hX0];exact .cons (.agg (.cons (.refl _) (.cons (LeV.frz rfl ad az dR) (.cons (LeV.frz rfl ad az af) (.cons (LeV.frz rfl ad az af) (.cons (zak rfl ad az dB) (.cons (.refl _) .nil))))))) .nil) hbX0 ?_ ?_
 rotate_left
 ·exact Kg0
 refine Jg5 hk hmt hwl hq0 hq1 ?_
 refine zEq ?_
 refine Jg5 hk hmt hwl hq0 hq1 ?_
 refine zfn.mk (more:=0) (xs:=XV1) (rs:= []) (zz6 _) ay (zhZ _) (by rw [hX1];exact .cons (.agg (.cons (.refl _) (.cons (LeV.frz rfl ad az dR) (.cons (LeV.frz rfl ad az af) (.cons (LeV.frz rfl ad az af) (.cons (zak rfl ad az dB) (.cons (.refl _) .nil))))))) .nil) hbX1 ?_ ?_
 rotate_left
 ·exact Kg0
 refine Jg5 hk hmt hwl hq0 hq1 ?_
 refine zEq ?_
 exact Kg5 hk hmt hwl hq0 hq1
theorem zsA (g:zab) (hg:GOk g) (hk:g.kinds.length=2):zgA Tryz.prog 62 [.fp (zac g)] 0 ((zcU g).map zbl):=by
 have hc1:=hg.c1
 have hc9:=hg.c9
 have hr0:=hg.r0
 have hr4:=hg.r4
 obtain ⟨m,hm⟩:∃m,m=g.cells.toNat:=⟨_,rfl⟩
 have hmc:g.cells=m:=aa
 have hRp:=zkN 1 m aa
 rw [← hmc] at hRp
 have hmt:g.cells.toNat=m:=hm.symm
 obtain ⟨ws,hws⟩:∃ws,ws=List.replicate m (1:Int):=⟨_,rfl⟩
 have hwl:ws.length=m:=by rw [hws];simp
 rw [← hws] at hRp
 have hW:=fun ns h1 h2=>ziD g hg hk 128 ws ns aa h1 h2
 have hC0:=za5 0 0
 have hC1:=za5 0 1
 have hC2:=za5 1 0
 have hC3:=za5 1 1
 rw [show zal 0 0=1 from rfl] at hC0
 rw [show zal 0 1=2 from rfl] at hC1
 rw [show zal 1 0=3 from rfl] at hC2
 rw [show zal 1 1=4 from rfl] at hC3
 refine zEz ai Tryz.func62 rfl rfl (Nat.le_of_ble_eq_true rfl) ai (fun l=> ?_) (hm2:=by decide)
 have hq1:List.take m (List.map zaB ws)=List.map zaB ws:=List.take_of_length_le aw
 have hq0:List.drop m (List.replicate m [AV.v (.int .i64 0)])= []:=List.drop_eq_nil_of_le ad
 obtain ⟨XV0,hV0⟩:∃X,X=zbl (zmQ g 0):=⟨_,rfl⟩
 have hX0:XV0= [.agg [.int 128, .lst 1 [[zai (List.replicate m 0)], [zai ws], [zai ws], [zai (List.replicate m 0)], [zai (List.replicate m 0)]], .lst 1 [[.int 1], [.int 0]], .lst 1 [[.int 1], [.int 0]],zai (List.replicate g.rights.toNat 0), .int 0]]:=by
  rw [hV0]
  unfold zbl zmQ zaX zaH
  rw [hk,← hm,← hws]
  simp [zbU,List.range_succ,zbe,zai,zaB,List.replicate]
 have hbX0:∀e ∈ XV0,Bel 0 e:=dL
 obtain ⟨XV1,hV1⟩:∃X,X=zbl (zmQ g 1):=⟨_,rfl⟩
 have hX1:XV1= [.agg [.int 128, .lst 1 [[zai (List.replicate m 0)], [zai (List.replicate m 0)], [zai (List.replicate m 0)], [zai ws], [zai ws]], .lst 1 [[.int 0], [.int 1]], .lst 1 [[.int 0], [.int 1]],zai (List.replicate g.rights.toNat 0), .int 0]]:=by
  rw [hV1]
  unfold zbl zmQ zaX zaH
  rw [hk,← hm,← hws]
  simp [zbU,List.range_succ,zbe,zai,zaB,List.replicate]
 have hbX1:∀e ∈ XV1,Bel 0 e:=by rw [hV1];exact of_eq_true (zbc (n:=0) (l:= [zmQ g 1])) _ ad
 obtain ⟨XV2,hV2⟩:∃X,X=zbl (zsC g):=⟨_,rfl⟩
 have hX2:XV2= [.agg [.int 128, .lst 1 [[zai (List.replicate m 0)], [zai ws], [zai ws], [zai ws], [zai ws]], .lst 1 [[.int 1], [.int 1]], .lst 1 [[.int 1], [.int 1]],zai (List.replicate g.rights.toNat 0), .int 0]]:=by
  rw [hV2]
  unfold zbl zsC zaX zaH
  rw [hk,← hm,← hws]
  simp [zbU,List.range_succ,zbe,zai,zaB,List.replicate]
 have hbX2:∀e ∈ XV2,Bel 0 e:=by rw [hV2];exact of_eq_true (zbc (n:=0) (l:= [zsC g])) _ ad
 obtain ⟨w1,hw1⟩:∃w,w=zaX g 128 ws [1]:=⟨_,rfl⟩
 have hW1:=hW [1] ad ad
 rw [← hw1] at hW1
 obtain ⟨w2,hw2⟩:∃w,w=zaX g 128 ws [2]:=⟨_,rfl⟩
 have hW2:=hW [2] ad ad
 rw [← hw2] at hW2
 obtain ⟨w3,hw3⟩:∃w,w=zaX g 128 ws [3]:=⟨_,rfl⟩
 have hW3:=hW [3] ad ad
 rw [← hw3] at hW3
 obtain ⟨w4,hw4⟩:∃w,w=zaX g 128 ws [4]:=⟨_,rfl⟩
 have hW4:=hW [4] ad ad
 rw [← hw4] at hW4
 have hCI:(zcU g).map zbl= [zbl w1,zbl w2,zbl w3,zbl w4,XV0,XV1,XV2]:=by
  unfold zcU
  rw [hk,← hm,← hws,List.map_append,List.map_append]
  simp [List.range_succ,hV0,hV1,hV2,hw1,hw2,hw3,hw4,List.map]
 rw [hCI]
 clear hCI hV0 hV1 hV2
 refine Jg1 hmt ?_
 refine zED [] [.int g.cells] hRp rfl ad bA ad ae ?_
 refine Jg1 hmt ?_
 refine aF Tryz.func64 ?_
 refine Jg2 hk hmt ?_
 refine zEq ?_
 refine Jg2 hk hmt ?_
 refine zEq ?_
 refine Jg2 hk hmt ?_
 refine zEq ?_
 refine Jg2 hk hmt ?_
 refine zEq ?_
 refine Jg2 hk hmt ?_
 refine zEq ?_
 refine Jg2 hk hmt ?_
 refine zEq ?_
 refine Jg2 hk hmt ?_
 refine zEq ?_
 refine Jg5 hk hmt hwl hq0 hq1 ?_
 refine aP hC0 ?_
 refine Jg5 hk hmt hwl hq0 hq1 ?_
 refine aP hC1 ?_
 refine Jg5 hk hmt hwl hq0 hq1 ?_
 refine aF Tryz.func66 ?_
 refine Jg5 hk hmt hwl hq0 hq1 ?_
 refine aF Tryz.func64 ?_
 refine Jg5 hk hmt hwl hq0 hq1 ?_
 refine zEq ?_
 refine Jg5 hk hmt hwl hq0 hq1 ?_
 refine zEq ?_
 refine Jg5 hk hmt hwl hq0 hq1 ?_
 refine zEq ?_
 refine Jg5 hk hmt hwl hq0 hq1 ?_
 refine zEq ?_
 refine Jg5 hk hmt hwl hq0 hq1 ?_
 refine zEq ?_
 refine Jg5 hk hmt hwl hq0 hq1 ?_
 refine zEq ?_
 refine Jg5 hk hmt hwl hq0 hq1 ?_
 refine zEq ?_
 refine Jg5 hk hmt hwl hq0 hq1 ?_
 refine zEq ?_
 refine Jg5 hk hmt hwl hq0 hq1 ?_
 refine zEq ?_
 refine Jg5 hk hmt hwl hq0 hq1 ?_
 refine zEq ?_
 refine Jg5 hk hmt hwl hq0 hq1 ?_
 refine zED [.agg (zac g), .int 128,zai ws] [] hW1 rfl ad bA ae ae ?_
 refine Jg5 hk hmt hwl hq0 hq1 ?_
 refine zfn.mk (more:=0) (xs:=zbl w1) (rs:= [zbl w2,zbl w3,zbl w4,XV0,XV1,XV2]) _ ay (.refl _) (.cons (.refl _) .nil) (of_eq_true (zbc (n:=0) (l:= [w1])) _ ad) ?_ ?_
 rotate_left
 ·exact Kg0
 refine Jg5 hk hmt hwl hq0 hq1 ?_
 refine zEq ?_
 refine Jg5 hk hmt hwl hq0 hq1 ?_
 refine zED [.agg (zac g), .int 128,zai ws] [] hW2 rfl ad bA ae ae ?_
 refine Jg5 hk hmt hwl hq0 hq1 ?_
 refine zfn.mk (more:=0) (xs:=zbl w2) (rs:= [zbl w3,zbl w4,XV0,XV1,XV2]) _ ay (.refl _) (.cons (.refl _) .nil) (of_eq_true (zbc (n:=0) (l:= [w2])) _ ad) ?_ ?_
 rotate_left
 ·exact Kg0
 refine Jg5 hk hmt hwl hq0 hq1 ?_
 refine zEq ?_
 refine Jg5 hk hmt hwl hq0 hq1 ?_
 refine zEq ?_
 refine Jg5 hk hmt hwl hq0 hq1 ?_
 refine aP hC2 ?_
 refine Jg5 hk hmt hwl hq0 hq1 ?_
 refine aP hC3 ?_
 refine Jg5 hk hmt hwl hq0 hq1 ?_
 refine aF Tryz.func66 ?_
 refine Jg5 hk hmt hwl hq0 hq1 ?_
 refine aF Tryz.func64 ?_
 refine Jg5 hk hmt hwl hq0 hq1 ?_
 refine zEq ?_
 refine Jg5 hk hmt hwl hq0 hq1 ?_
 refine zEq ?_
 refine Jg5 hk hmt hwl hq0 hq1 ?_
 refine zEq ?_
 refine Jg5 hk hmt hwl hq0 hq1 ?_
 refine zEq ?_
 refine Jg5 hk hmt hwl hq0 hq1 ?_
 refine zEq ?_
 refine Jg5 hk hmt hwl hq0 hq1 ?_
 refine zEq ?_
 refine Jg5 hk hmt hwl hq0 hq1 ?_
 refine zEq ?_
 refine Jg5 hk hmt hwl hq0 hq1 ?_
 refine zEq ?_
 refine Jg5 hk hmt hwl hq0 hq1 ?_
 refine zEq ?_
 refine Jg5 hk hmt hwl hq0 hq1 ?_
 refine zEq ?_
 refine Jg5 hk hmt hwl hq0 hq1 ?_
 refine zED [.agg (zac g), .int 128,zai ws] [] hW3 rfl ad bA ae ae ?_
 refine Jg5 hk hmt hwl hq0 hq1 ?_
 refine zfn.mk (more:=0) (xs:=zbl w3) (rs:= [zbl w4,XV0,XV1,XV2]) _ ay (.refl _) (.cons (.refl _) .nil) (of_eq_true (zbc (n:=0) (l:= [w3])) _ ad) ?_ ?_
 rotate_left
 ·exact Kg0
 refine Jg5 hk hmt hwl hq0 hq1 ?_
 refine zEq ?_
 refine Jg5 hk hmt hwl hq0 hq1 ?_
 refine zED [.agg (zac g), .int 128,zai ws] [] hW4 rfl ad bA ae ae ?_
 refine Jg5 hk hmt hwl hq0 hq1 ?_
 refine zfn.mk (more:=0) (xs:=zbl w4) (rs:= [XV0,XV1,XV2]) _ ay (.refl _) (.cons (.refl _) .nil) (of_eq_true (zbc (n:=0) (l:= [w4])) _ ad) ?_ ?_
 rotate_left
 ·exact Kg0
 refine Jg5 hk hmt hwl hq0 hq1 ?_
 refine zEq ?_
 refine Jg5 hk hmt hwl hq0 hq1 ?_
 refine zEq ?_
 refine Jg5 hk hmt hwl hq0 hq1 ?_
 refine zEq ?_
 refine Jg5 hk hmt hwl hq0 hq1 ?_
 refine zfn.mk (more:=0) (xs:=XV0) (rs:= [XV1,XV2]) (zz6 _) ay (zhZ _) (by rw [hX0];exact .cons (.agg (.cons (.refl _) (.cons (LeV.frz rfl ad az dO) (.cons (LeV.frz rfl ad az af) (.cons (LeV.frz rfl ad az af) (.cons (zak rfl ad az dB) (.cons (.refl _) .nil))))))) .nil) hbX0 ?_ ?_
 rotate_left
 ·exact Kg0
 refine Jg5 hk hmt hwl hq0 hq1 ?_
 refine zEq ?_
 refine Jg5 hk hmt hwl hq0 hq1 ?_
 refine zfn.mk (more:=0) (xs:=XV1) (rs:= [XV2]) (zz6 _) ay (zhZ _) (by rw [hX1];exact .cons (.agg (.cons (.refl _) (.cons (LeV.frz rfl ad az dO) (.cons (LeV.frz rfl ad az af) (.cons (LeV.frz rfl ad az af) (.cons (zak rfl ad az dB) (.cons (.refl _) .nil))))))) .nil) hbX1 ?_ ?_
 rotate_left
 ·exact Kg0
 refine Jg5 hk hmt hwl hq0 hq1 ?_
 refine zEq ?_
 refine Jg5 hk hmt hwl hq0 hq1 ?_
 refine zfn.mk (more:=0) (xs:=XV2) (rs:= []) (zz6 _) ay (zhZ _) (by rw [hX2];exact .cons (.agg (.cons (.refl _) (.cons (LeV.frz rfl ad az dO) (.cons (LeV.frz rfl ad az af) (.cons (LeV.frz rfl ad az af) (.cons (zak rfl ad az dB) (.cons (.refl _) .nil))))))) .nil) hbX2 ?_ ?_
 rotate_left
 ·exact Kg0
 refine Jg5 hk hmt hwl hq0 hq1 ?_
 refine zEq ?_
 exact Kg5 hk hmt hwl hq0 hq1
def Sm (n:Nat) (l:List Int):Prop:=l.length=n∧∀e ∈ l,0≤e∧e≤1
theorem Sm.zero (n:Nat):Sm n (List.replicate n 0):=⟨ad,fun e he=>by have:=List.eq_of_mem_replicate he;omega⟩
theorem Sm.one (n:Nat):Sm n (List.replicate n 1):=⟨ad,fun e he=>by have:=List.eq_of_mem_replicate he;omega⟩
theorem Sm.set {n:Nat}{l:List Int} (h:Sm n l) (i:Nat):Sm n (l.set i 1):=⟨by simp [h.1],fun e he=>by
  rcases List.mem_or_eq_of_mem_set he with he|rfl
  · exact h.2 e he
  · omega⟩
theorem zhr {g:zab} (hg:GOk g){md:Int}{men:List (List Int)}{h0 h1 rt:List Int}{sd:Int} (m2:2≤md) (m1:md≤1000) (ml:men.length=2 * g.kinds.length+1) (hm:∀l ∈ men,Sm g.cells.toNat l)
    (a0:Sm g.kinds.length h0) (a1:Sm g.kinds.length h1) (ar:Sm g.rights.toNat rt) (hs:0≤sd∧sd≤1):zkE g ⟨md,men,h0,h1,rt,sd⟩:=by
  have hc:=hg.c1
  have hr:=hg.r0
  refine ⟨m2,m1,ml,hs.1,ah,fun l hl=> ?_,fun l hl e he=> ?_,a0.1,fun e he=> ?_,a1.1,fun e he=> ?_, ?_,fun e he=> ?_⟩
  · have:=(hm l hl).1;omega
  · have:=(hm l hl).2 e he;simp only;omega
  · have:=a0.2 e he;simp only;omega
  · have:=a1.2 e he;simp only;omega
  · have:=ar.1;simp only;omega
  · have:=ar.2 e he;simp only;omega
theorem zEd {m:Nat}{ws ns:List Int} (h:Sm m ws) (i:Nat):Sm m (zbU m ws ns i):=by
  unfold zbU
  split
  · exact h
  · exact .zero m
theorem zdM {g:zab}{ws ns:List Int} (h:Sm g.cells.toNat ws):∀l ∈ (List.range (2 * g.kinds.length+1)).map (zbU g.cells.toNat ws ns),Sm g.cells.toNat l:=fun l hl=>by
  obtain ⟨i, _,rfl⟩:=List.mem_map.1 hl
  exact zEd h i
theorem zp8 {g:zab} (hg:GOk g):∀x ∈ zcU g,zkE g x:=by
  intro x hx
  have hw:∀ns,(zaX g 128 (List.replicate g.cells.toNat 1) ns).men.length=2 * g.kinds.length+1:=fun ns=>by simp [zaX]
  unfold zcU at hx
  rcases List.mem_append.1 hx with hx|hx
  · obtain ⟨i, _,rfl⟩:=List.mem_map.1 hx
    exact zhr hg (md:=128) (sd:=0) am am (hw _) (zdM (.one _)) (.zero _) (.zero _) (.zero _) am
  rcases List.mem_append.1 hx with hx|hx
  · obtain ⟨k, _,rfl⟩:=List.mem_map.1 hx
    exact zhr hg (md:=128) (sd:=0) am am (hw _) (zdM (.one _)) ((Sm.zero _).set k) ((Sm.zero _).set k) (.zero _) am
  · simp only [List.mem_singleton] at hx
    subst hx
    exact zhr hg (md:=128) (sd:=0) am am (hw _) (zdM (.one _)) (.one _) (.one _) (.zero _) am
theorem zrd {g:zab} (hg:GOk g):∀x ∈ zdP g,zkE g x:=by
  intro x hx
  unfold zdP at hx
  rcases List.mem_append.1 hx with hx|hx
  · obtain ⟨n, _,hx⟩:=List.mem_flatMap.1 hx
    obtain ⟨c, _,rfl⟩:=List.mem_map.1 hx
    refine zhr hg am am ad (fun l hl=> ?_) (.zero _) (.zero _) (.zero _) am
    obtain ⟨i, _,rfl⟩:=List.mem_map.1 hl
    unfold zjR
    split
    · exact (Sm.zero _).set c
    · exact .zero _
  · obtain ⟨r, _,rfl⟩:=List.mem_map.1 hx
    exact zhr hg am am ad (fun l hl=>by rw [List.eq_of_mem_replicate hl];exact .zero _) (.zero _) (.zero _) ((Sm.zero _).set r) am
theorem znl (b:zay):Sm b.cells.toNat (zdN b):=⟨by simp [zdN],fun e he=>by
  obtain ⟨c, _,rfl⟩:=List.mem_map.1 he
  exact zAY _ _ _⟩
theorem znk {g:zab} (hg:GOk g) (L:List (List Int)):∀x ∈ zcP g L,zkE g x:=by
  intro x hx
  obtain ⟨ns, _,hx⟩:=List.mem_flatMap.1 hx
  simp only [colF,List.mem_cons,List.not_mem_nil,or_false] at hx
  have hw:(zaX g 2 (zdN g.board) ns).men.length=2 * g.kinds.length+1:=by simp [zaX]
  rcases hx with rfl|rfl
  · exact zhr hg (md:=2) (sd:=0) am am hw (zdM (znl g.board)) (.zero _) (.zero _) (.zero _) am
  · exact zhr hg (md:=2) (sd:=1) am am hw (zdM (znl g.board)) (.zero _) (.zero _) (.zero _) am
def zg4 (g:zab):List (List Int):=if g.kinds.length=1 then [[1], [2], [1,2]] else [[1], [2], [3], [4], [1,2,3,4]]
def zvK (g:zab):List zbh:=(zcU g).filter (zca g)++((zdP g).filter (zca g)++(zcP g (zg4 g)).filter (zca g))
def ac (g:zab) (A l:List zbh) (k:Nat):List zbh:=A++(l.take k).filter (zca g)
theorem zsi (g:zab) (A l:List zbh):ac g A l 0=A:=by simp [ac]
theorem zxi (g:zab) (A l:List zbh):ac g A l l.length=A++l.filter (zca g):=by simp [ac]
theorem zsh {g:zab}{A l:List zbh}{k:Nat} (h:k<l.length) (ht:zca g (nth l k)=true):ac g A l (k+1)=ac g A l k++ [nth l k]:=by
  unfold ac
  rw [zap _ _ h] at *
  rw [List.take_add_one,List.getElem?_eq_getElem h,Option.toList_some,List.filter_append]
  simp [ht]
theorem zsg {g:zab}{A l:List zbh}{k:Nat} (h:k<l.length) (ht:zca g (nth l k)=false):ac g A l (k+1)=ac g A l k:=by
  unfold ac
  rw [zap _ _ h] at *
  rw [List.take_add_one,List.getElem?_eq_getElem h,Option.toList_some,List.filter_append]
  simp [ht]
theorem zxj (g:zab) (A l:List zbh) (k:Nat):(ac g A l k).length≤A.length+l.length:=by
  unfold ac
  have:=List.length_filter_le (zca g) (l.take k)
  simp at *
  omega
theorem zsB (g:zab):zaD Tryz.prog 29 [.agg (zac g)] (.fn (.func 62) [] [.fp (zac g)]):=by
  refine pF Tryz.func29 ?_
  refine J0 ?_
  exact .fn .nil (.cons (.frzP rfl ad ad aV (.refl _ _ _ _)) .nil)
theorem ztg (g:zab):zaD Tryz.prog 30 [.agg (zac g)] (.fn (.func 67) [] [.fp (zac g)]):=by
  refine pF Tryz.func30 ?_
  refine J0 ?_
  exact .fn .nil (.cons (.frzP rfl ad ad aV (.refl _ _ _ _)) .nil)
theorem zp6 (g:zab):zaD Tryz.prog 31 [.agg (zac g)] (.fn (.func 68) [] [.fp (zac g)]):=by
  refine pF Tryz.func31 ?_
  refine J0 ?_
  exact .fn .nil (.cons (.frzP rfl ad ad aV (.refl _ _ _ _)) .nil)
theorem zqu {g:zab} (hg:GOk g) (hk:g.kinds.length=1∨g.kinds.length=2):(zcU g).length≤90000∧(zdP g).length≤90000∧(zcP g (zg4 g)).length≤90000:=by
  have n1:(zcU g).length≤90000:=by unfold zcU;simp;omega
  have n2:(zdP g).length≤90000:=by
    have h1:=hg.c9
    have h2:=hg.r4
    have e:∀n,(zl8 g n).length=g.cells.toNat:=fun n=>by simp [zl8]
    unfold zdP
    rw [List.length_append,List.length_flatMap,List.length_map,List.length_range]
    simp only [e]
    rcases hk with h|h<;>rw [h]<;>simp [List.range_succ]<;>omega
  have n3:(zcP g (zg4 g)).length≤90000:=by
    unfold zcP zg4
    split<;>simp [colF]
  exact ⟨n1,n2,n3⟩
theorem zqI (g:zab) (hg:GOk g) (hos:zcx g) (hk:g.kinds.length=1∨g.kinds.length=2):zaD Tryz.prog 11 [.agg (zac g)] (zeE (zvK g)):=by
  have hCo:=zfS g hg
  have hkp:=fun x hx=>zqM g hg hos x hx
  obtain ⟨ec,hec⟩:∃ec,ec=zbO (zcy g):=⟨_,rfl⟩
  have hecl:ec.length=2:=by rw [hec];rfl
  have hecb:∀n,(∀c ∈ ec,Bel n c)=True:=fun n=>eq_true (by
    have:=zkU (n:=n) (zcy g)
    rw [← hec] at this
    cases this
    assumption)
  simp only [← hec] at hCo hkp
  have hq1:zgA Tryz.prog 62 [.fp (zac g)] 0 ((zcU g).map zbl):=by rcases hk with h|h;exact zsz g hg h;exact zsA g hg h
  have hq2:zgA Tryz.prog 67 [.fp (zac g)] 0 ((zdP g).map zbl):=by rcases hk with h|h;exact zte g hg h;exact ztf g hg h
  have hq3:zgA Tryz.prog 68 [.fp (zac g)] 0 ((zcP g (zg4 g)).map zbl):=by
    unfold zg4
    rcases hk with h|h
    · rw [if_pos h];exact zp4 g hg h
    · rw [if_neg aa];exact zp5 g hg h
  have o1:=zp8 hg
  have o2:=zrd hg
  have o3:=znk hg (zg4 g)
  have hc1:=zsB g
  have hc2:=ztg g
  have hc3:=zp6 g
  unfold zvK
  obtain ⟨n1,n2,n3⟩:=zqu hg hk
  generalize zcU g=l1 at *
  generalize zdP g=l2 at *
  generalize zcP g (zg4 g)=l3 at *
  refine pF Tryz.func11 ?_
  refine J0 ?_
  refine aP hCo ?_
  refine J2 hecl hecb ?_
  refine dP hc1 ?_
  refine J0 ?_
  refine dP hc2 ?_
  refine J0 ?_
  refine dP hc3 ?_
  refine J0 ?_
  refine zEq ?_
  refine J2 hecl hecb ?_
  refine zdj.mk [.fp (zac g)] _ hq1 (.refl _) (.refl _ _ _ _) ae (fun xs hx=>by obtain ⟨y, _,rfl⟩:=List.mem_map.1 hx;rfl) ?_
  obtain ⟨al1,hal⟩:∃al:Nat→List zbh,al=fun k=>ac g ([]:List zbh) l1 k:=⟨_,rfl⟩
  have hall:∀k,(al1 k).length≤100000:=fun k=>by
    have:=zxj g ([]:List zbh) l1 k
    rw [hal]
    simp at *
    omega
  have hak:∀k,k<l1.length→zca g (nth l1 k)=true→al1 (k+1)=al1 k++ [nth l1 k]:=fun k h1 h2=>df
  have had:∀k,k<l1.length→zca g (nth l1 k)=false→al1 (k+1)=al1 k:=fun k h1 h2=>dg
  have hal0:al1 0=([]:List zbh):=dh
  have halE:al1 l1.length=([]:List zbh)++l1.filter (zca g):=di
  clear hal
  refine Fgt.to (zEA (α:=Nat) (fun k=>([(1, .ref 0 0 9 0 0),(3, .ref 1 0 2 0 0),(4, .ref 2 0 1 0 0),(16, .sl 9 0 1 0 3),(17, .int 3),(18, .int 0)],
      [(0, .rows true 0 9 [zac g]),(1, .rows true 0 2 [ec]),(2, .rows true 0 1 [[.sl 12 (al1 k).length 6 0 (al1 k).length]]),
       (9, .rows true 0 1 [[.fn (.func 62) [] [.fp (zac g)]], [.fn (.func 67) [] [.fp (zac g)]], [.fn (.func 68) [] [.fp (zac g)]]]),
       (12, .rows true (al1 k).length 6 ((al1 k).map zaH))],13))
    (fun rows k=>rows=(l1.drop k).map zbl∧k≤l1.length) ?_ ?_ _ 0 ?_) ?_ ?_
  rotate_left
  · rintro xs rs k ⟨i1,i2⟩ hrec
    have hk:k<l1.length:=by
      have:=congrArg List.length i1
      simp at this
      omega
    rw [zas hk,List.map_cons,List.cons.injEq] at i1
    obtain ⟨rfl,rfl⟩:=i1
    have hkx:=hkp _ (o1 _ (zag hk))
    have hak:=hak k hk
    have had:=had k hk
    have h1:=hall k
    have h2:=hall (k+1)
    have hrec1:=fun h=>hrec (k+1) ⟨rfl,h⟩
    generalize hrs:(l1.drop (k+1)).map zbl=rs at *
    generalize nth l1 k=x at *
    generalize hkt:zca g x=kt at *
    obtain ⟨ex,hex⟩:∃ex,ex=zaH x:=⟨_,rfl⟩
    have hie:ex.length=6:=cr
    have hib:∀n,(∀c ∈ ex,Bel n c)=True:=fun n=>eq_true (by rw [hex];exact zdp x)
    have hr:zbl x= [.agg ex]:=cr
    rw [← hex] at hkx
    clear hrec
    refine zEF (Nat.zero_le _) ?_
    refine Jg5 hr hie hib hecl hecb ?_
    refine zEt hkx (by simp [go_sem,hecb,hib]) ?_
    cases kt
    · (repeat (first|refine wV fun _=>?_|simp [go_sem,GH,hecl,hecb]))
      refine Fgt.to (hrec1 aa) ?_ ad
      simp [go_sem,zad,had rfl,GH,hecl,hecb]
    · (repeat (first|refine wV fun _=>?_|simp [go_sem,GH,hecl,hecb,hie,hib]))
      refine Fgt.to (hrec1 aa) ?_ ad
      simp [go_sem,zad,hak rfl,GH,hecl,hecb,hie,hib]
      subst hex
      exact .of_eq rfl
  · exact ⟨rfl,Nat.zero_le _⟩
  · simp [go_sem,zad,hal0,hecl,hecb]
  · simp
  rintro k ⟨i1,i2⟩
  have hk:k=l1.length:=by
    have:=congrArg List.length i1
    simp at this
    omega
  subst hk
  refine ⟨rfl, ?_⟩
  have hla:=hall l1.length
  rw [halE] at hla ⊢
  clear halE hal0 hak had hall
  generalize hA1:([]:List zbh)++l1.filter (zca g)=A1 at *
  refine J2 hecl hecb ?_
  refine zEq ?_
  refine J2 hecl hecb ?_
  refine zdj.mk [.fp (zac g)] _ hq2 (.refl _) (.refl _ _ _ _) ae (fun xs hx=>by obtain ⟨y, _,rfl⟩:=List.mem_map.1 hx;rfl) ?_
  obtain ⟨al2,hal⟩:∃al:Nat→List zbh,al=fun k=>ac g A1 l2 k:=⟨_,rfl⟩
  have hall:∀k,(al2 k).length≤200000:=fun k=>by
    have:=zxj g A1 l2 k
    rw [hal]
    simp at *
    omega
  have hak:∀k,k<l2.length→zca g (nth l2 k)=true→al2 (k+1)=al2 k++ [nth l2 k]:=fun k h1 h2=>df
  have had:∀k,k<l2.length→zca g (nth l2 k)=false→al2 (k+1)=al2 k:=fun k h1 h2=>dg
  have hal0:al2 0=A1:=dh
  have halE:al2 l2.length=A1++l2.filter (zca g):=di
  clear hal
  refine Fgt.to (zEA (α:=Nat) (fun k=>([(1, .ref 0 0 9 0 0),(3, .ref 1 0 2 0 0),(4, .ref 2 0 1 0 0),(16, .sl 9 0 1 0 3),(17, .int 3),(18, .int 1)],
      [(0, .rows true 0 9 [zac g]),(1, .rows true 0 2 [ec]),(2, .rows true 0 1 [[.sl 12 (al2 k).length 6 0 (al2 k).length]]),
       (9, .rows true 0 1 [[.fn (.func 62) [] [.fp (zac g)]], [.fn (.func 67) [] [.fp (zac g)]], [.fn (.func 68) [] [.fp (zac g)]]]),
       (12, .rows true (al2 k).length 6 ((al2 k).map zaH))],13))
    (fun rows k=>rows=(l2.drop k).map zbl∧k≤l2.length) ?_ ?_ _ 0 ?_) ?_ ?_
  rotate_left
  · rintro xs rs k ⟨i1,i2⟩ hrec
    have hk:k<l2.length:=by
      have:=congrArg List.length i1
      simp at this
      omega
    rw [zas hk,List.map_cons,List.cons.injEq] at i1
    obtain ⟨rfl,rfl⟩:=i1
    have hkx:=hkp _ (o2 _ (zag hk))
    have hak:=hak k hk
    have had:=had k hk
    have h1:=hall k
    have h2:=hall (k+1)
    have hrec1:=fun h=>hrec (k+1) ⟨rfl,h⟩
    generalize hrs:(l2.drop (k+1)).map zbl=rs at *
    generalize nth l2 k=x at *
    generalize hkt:zca g x=kt at *
    obtain ⟨ex,hex⟩:∃ex,ex=zaH x:=⟨_,rfl⟩
    have hie:ex.length=6:=cr
    have hib:∀n,(∀c ∈ ex,Bel n c)=True:=fun n=>eq_true (by rw [hex];exact zdp x)
    have hr:zbl x= [.agg ex]:=cr
    rw [← hex] at hkx
    clear hrec
    refine zEF (Nat.zero_le _) ?_
    refine Jg5 hr hie hib hecl hecb ?_
    refine zEt hkx (by simp [go_sem,hecb,hib]) ?_
    cases kt
    · (repeat (first|refine wV fun _=>?_|simp [go_sem,GH,hecl,hecb]))
      refine Fgt.to (hrec1 aa) ?_ ad
      simp [go_sem,zad,had rfl,GH,hecl,hecb]
    · (repeat (first|refine wV fun _=>?_|simp [go_sem,GH,hecl,hecb,hie,hib]))
      refine Fgt.to (hrec1 aa) ?_ ad
      simp [go_sem,zad,hak rfl,GH,hecl,hecb,hie,hib]
      subst hex
      exact .of_eq rfl
  · exact ⟨rfl,Nat.zero_le _⟩
  · simp [go_sem,zad,hal0,hecl,hecb]
  · simp
  rintro k ⟨i1,i2⟩
  have hk:k=l2.length:=by
    have:=congrArg List.length i1
    simp at this
    omega
  subst hk
  refine ⟨rfl, ?_⟩
  have hla:=hall l2.length
  rw [halE] at hla ⊢
  clear halE hal0 hak had hall
  generalize hA2:A1++l2.filter (zca g)=A2 at *
  refine J2 hecl hecb ?_
  refine zEq ?_
  refine J2 hecl hecb ?_
  refine zdj.mk [.fp (zac g)] _ hq3 (.refl _) (.refl _ _ _ _) ae (fun xs hx=>by obtain ⟨y, _,rfl⟩:=List.mem_map.1 hx;rfl) ?_
  obtain ⟨al3,hal⟩:∃al:Nat→List zbh,al=fun k=>ac g A2 l3 k:=⟨_,rfl⟩
  have hall:∀k,(al3 k).length≤300000:=fun k=>by
    have:=zxj g A2 l3 k
    rw [hal]
    simp at *
    omega
  have hak:∀k,k<l3.length→zca g (nth l3 k)=true→al3 (k+1)=al3 k++ [nth l3 k]:=fun k h1 h2=>df
  have had:∀k,k<l3.length→zca g (nth l3 k)=false→al3 (k+1)=al3 k:=fun k h1 h2=>dg
  have hal0:al3 0=A2:=dh
  have halE:al3 l3.length=A2++l3.filter (zca g):=di
  clear hal
  refine Fgt.to (zEA (α:=Nat) (fun k=>([(1, .ref 0 0 9 0 0),(3, .ref 1 0 2 0 0),(4, .ref 2 0 1 0 0),(16, .sl 9 0 1 0 3),(17, .int 3),(18, .int 2)],
      [(0, .rows true 0 9 [zac g]),(1, .rows true 0 2 [ec]),(2, .rows true 0 1 [[.sl 12 (al3 k).length 6 0 (al3 k).length]]),
       (9, .rows true 0 1 [[.fn (.func 62) [] [.fp (zac g)]], [.fn (.func 67) [] [.fp (zac g)]], [.fn (.func 68) [] [.fp (zac g)]]]),
       (12, .rows true (al3 k).length 6 ((al3 k).map zaH))],13))
    (fun rows k=>rows=(l3.drop k).map zbl∧k≤l3.length) ?_ ?_ _ 0 ?_) ?_ ?_
  rotate_left
  · rintro xs rs k ⟨i1,i2⟩ hrec
    have hk:k<l3.length:=by
      have:=congrArg List.length i1
      simp at this
      omega
    rw [zas hk,List.map_cons,List.cons.injEq] at i1
    obtain ⟨rfl,rfl⟩:=i1
    have hkx:=hkp _ (o3 _ (zag hk))
    have hak:=hak k hk
    have had:=had k hk
    have h1:=hall k
    have h2:=hall (k+1)
    have hrec1:=fun h=>hrec (k+1) ⟨rfl,h⟩
    generalize hrs:(l3.drop (k+1)).map zbl=rs at *
    generalize nth l3 k=x at *
    generalize hkt:zca g x=kt at *
    obtain ⟨ex,hex⟩:∃ex,ex=zaH x:=⟨_,rfl⟩
    have hie:ex.length=6:=cr
    have hib:∀n,(∀c ∈ ex,Bel n c)=True:=fun n=>eq_true (by rw [hex];exact zdp x)
    have hr:zbl x= [.agg ex]:=cr
    rw [← hex] at hkx
    clear hrec
    refine zEF (Nat.zero_le _) ?_
    refine Jg5 hr hie hib hecl hecb ?_
    refine zEt hkx (by simp [go_sem,hecb,hib]) ?_
    cases kt
    · (repeat (first|refine wV fun _=>?_|simp [go_sem,GH,hecl,hecb]))
      refine Fgt.to (hrec1 aa) ?_ ad
      simp [go_sem,zad,had rfl,GH,hecl,hecb]
    · (repeat (first|refine wV fun _=>?_|simp [go_sem,GH,hecl,hecb,hie,hib]))
      refine Fgt.to (hrec1 aa) ?_ ad
      simp [go_sem,zad,hak rfl,GH,hecl,hecb,hie,hib]
      subst hex
      exact .of_eq rfl
  · exact ⟨rfl,Nat.zero_le _⟩
  · simp [go_sem,zad,hal0,hecl,hecb]
  · simp
  rintro k ⟨i1,i2⟩
  have hk:k=l3.length:=by
    have:=congrArg List.length i1
    simp at this
    omega
  subst hk
  refine ⟨rfl, ?_⟩
  have hla:=hall l3.length
  rw [halE] at hla ⊢
  clear halE hal0 hak had hall
  generalize hA3:A2++l3.filter (zca g)=A3 at *
  refine J2 hecl hecb ?_
  refine zEq ?_
  refine J2 hecl hecb ?_
  refine zak (by rfl) ad aV ?_
  rw [List.drop_zero,List.take_of_length_le ad,← hA3,← hA2,← hA1]
  simp
def orOne:Bool:=(List.range 5).all fun (r:Nat)=>(List.range (2 ^ r)).all fun (a:Nat)=>(List.range r).all fun (n:Nat)=>decide (0≤orN .i64 (a:Int) (2 ^ n)∧orN .i64 (a:Int) (2 ^ n)<2 ^ r)
theorem zwf:orOne=true:=ai
theorem or_in {r:Nat} (hr:r≤4){a:Int} (h0:0≤a) (h1:a<2 ^ r){n:Nat} (hn:n<r):0≤orN .i64 a (2 ^ n)∧orN .i64 a (2 ^ n)<2 ^ r:=by
 have key:=zwf
 unfold orOne at key
 have hp:(2:Int) ^ r=((2 ^ r:Nat):Int):=by
  rcases (show r=0∨r=1∨r=2∨r=3∨r=4 by omega) with h|h|h|h|h<;>subst h<;>decide
 have k1:=List.all_eq_true.1 key r (List.mem_range.2 aa)
 have k2:=List.all_eq_true.1 k1 a.toNat (List.mem_range.2 aa)
 have k3:=of_decide_eq_true (List.all_eq_true.1 k2 n (List.mem_range.2 hn))
 rwa [Int.toNat_of_nonneg h0] at k3
theorem zjD {g:zab} (hg:GOk g){k:Nat} (hk:k<g.kinds.length){s:Int} (hs:s=0∨s=1):1≤zal k s∧zal k s≤2 * g.kinds.length:=by
 have:=hg.k6
 unfold zal
 rw [if_pos ⟨⟨aa,aa⟩,aa,aa⟩]
 omega
def tkP (g:zab) (side:Int) (p:zaf) (a k:Nat):zaf:=
 if (nth g.kinds k).keep=true then ({ p with at_:=p.at_.set a (zal k (1 - side))}:zaf).withHand side ((p.hand side).set k (nth (p.hand side) k - 1)) else { p with at_:=p.at_.set a (zal k (1 - side))}
def tkL (g:zab) (side:Int) (p:zaf) (a k:Nat):List zaf:=if nth p.at_ a=0∧0≤nth ((tkP g side p a k).hand side) k then [tkP g side p a k] else []
theorem zjq {g:zab}{side:Int}{p:zaf}{x:zc7} (h:x.1=6):zgu g side p x=(List.range g.kinds.length).flatMap (tkL g side p x.2.1.toNat):=by
 unfold zgu
 rw [if_pos h]
 rfl
theorem zuK {g:zab} (hg:GOk g){side:Int} (hs:side=0∨side=1){p:zaf} (hp:POk g p){x:zc7} (hx:zc3 g.cells g.kinds.length g.rights x):∀q ∈ zgu g side p x,POk g q∧q.side=p.side:=by
 obtain ⟨op,a,b⟩:=x
 unfold zc3 at hx
 simp only at hx
 have hal:=hp.al
 have hws:∀ (P:zaf) (s:Int) (l:List Int),(P.withHand s l).side=P.side:=fun P s l=>aI
 intro q hq
 by_cases h6:op=6
 ·rw [zjq h6] at hq
  obtain ⟨k,hk,hq⟩:=List.mem_flatMap.1 hq
  have hk:=List.mem_range.1 hk
  have hc:=zjD hg hk (s:=1 - side) aa
  have h1:POk g { p with at_:=p.at_.set a.toNat (zal k (1 - side))}:=hp.setAt _ aa
  have hh:=hp.hand side
  have hkl:k<(p.hand side).length:=by rw [hh.len];exact hk
  have hv:=hh.v k hkl
  unfold tkL at hq
  simp only at hq
  split at hq
  ·rename_i hcond
   rw [List.mem_singleton] at hq
   subst hq
   have h2:=hcond.2
   unfold tkP at h2 ⊢
   by_cases hkeep:(nth g.kinds k).keep=true
   ·rw [if_pos hkeep] at h2 ⊢
    rw [zh3,zbo,if_pos ⟨rfl,hkl⟩] at h2
    exact ⟨h1.withHand side (hh.set k ⟨h2,aa⟩ fun _=>hkeep),hws _ _ _⟩
   ·rw [if_neg hkeep]
    exact ⟨h1,rfl⟩
  ·cases hq
 unfold zgu at hq
 rw [if_neg h6] at hq
 by_cases h7:op=7
 ·rw [if_pos h7] at hq
  split at hq
  ·simp only [List.mem_singleton] at hq
   subst hq
   have hb:=hp.at (i:=b.toNat) aa
   exact ⟨(hp.setAt a.toNat hb).setAt b.toNat aa,rfl⟩
  ·cases hq
 rw [if_neg h7] at hq
 by_cases h10:op=10
 ·rw [if_pos h10] at hq
  split at hq
  ·simp only [List.mem_cons,List.not_mem_nil,or_false] at hq
   rcases hq with rfl|rfl
   ·exact ⟨hp,rfl⟩
   ·have h4:=hg.r4
    obtain ⟨o1,o2⟩:=or_in (r:=g.rights.toNat) aa hp.r0 hp.r1 (n:=a.toNat) aa
    exact ⟨⟨hp.al,hp.av,hp.h0,hp.h1,o1,o2,hp.s⟩,rfl⟩
  ·cases hq
 rw [if_neg h10] at hq
 simp only [List.mem_singleton] at hq
 subst hq
 exact ⟨hp,rfl⟩
theorem zzP {g:zab} (hg:GOk g) (side:Int) (p:zaf) (x:zc7):(zgu g side p x).length≤if x.1=6 then 6 else if x.1=10 then 2 else 1:=by
 have hk:=hg.k6
 by_cases h6:x.1=6
 ·rw [if_pos h6,zjq h6,List.length_flatMap]
  have:=zfd (fun (k:Nat)=>(tkL g side p x.2.1.toNat k).length) 1 (List.range g.kinds.length) (fun k _=>by simp only [tkL];split<;>simp)
  rw [List.length_range] at this
  omega
 unfold zgu
 rw [if_neg h6,if_neg h6]
 by_cases h7:x.1=7
 ·rw [if_pos h7,if_neg (show ¬x.1=10 by omega)]
  split<;>simp
 rw [if_neg h7]
 by_cases h10:x.1=10
 ·rw [if_pos h10,if_pos h10]
  split<;>simp
 rw [if_neg h10,if_neg h10]
 simp
theorem zpp {g:zab} (hg:GOk g){side:Int} (hs:side=0∨side=1):∀ {l:List zc7}{p:zaf},POk g p→(∀a ∈ l,zc3 g.cells g.kinds.length g.rights a)→∀q ∈ zdx g side p l,POk g q∧q.side=p.side
 | [],p,hp, _,q,hq=>by
  simp only [zdx,List.mem_singleton] at hq
  subst hq
  exact ⟨hp,rfl⟩
 |x::l,p,hp,hl,q,hq=>by
  rw [zdx] at hq
  obtain ⟨r,hr,hq⟩:=List.mem_flatMap.1 hq
  obtain ⟨h1,h2⟩:=zuK hg hs hp (hl x ad) r hr
  obtain ⟨h3,h4⟩:=zpp hg hs h1 (fun a ha=>hl a (by simp [ha])) q hq
  exact ⟨h3,h4.trans h2⟩
theorem zcf {α β:Type} (f:α→List β) (b:Nat):∀l:List α,(∀a ∈ l,(f a).length≤b)→(l.flatMap f).length≤l.length * b
 | [], _=>ad
 |a::l,h=>by
  rw [List.flatMap_cons,List.length_append,List.length_cons,Nat.add_mul,Nat.one_mul]
  have h1:=h a ad
  have h2:=zcf f b l fun x hx=>h x bZ
  omega
theorem zry {g:zab} (hg:GOk g) (side:Int):∀ (l:List zc7) (p:zaf),(zdx g side p l).length≤6 ^ zbB l 6 * 2 ^ zbB l 10
 | [],p=>by simp [zdx,zbB]
 |x::l,p=>by
  rw [zdx]
  have h1:=zcf (fun q=>zdx g side q l) (6 ^ zbB l 6 * 2 ^ zbB l 10) (zgu g side p x) fun q _=>zry hg side l q
  have h2:=zzP hg side p x
  have hc:∀op,zbB (x::l) op=zbB l op+if x.1=op then 1 else 0:=fun op=>by
   unfold zbB
   rw [List.countP_cons]
   by_cases h:x.1=op<;>simp [h]
  rw [hc,hc]
  refine Nat.le_trans h1 (Nat.le_trans (Nat.mul_le_mul_right _ h2) ?_)
  by_cases h6:x.1=6
  ·rw [if_pos h6,if_pos h6,if_neg aa,Nat.pow_succ,Nat.add_zero,Nat.mul_comm 6,Nat.mul_assoc,Nat.mul_comm _ 6,← Nat.mul_assoc]
   exact Nat.le_refl _
  ·rw [if_neg h6,if_neg h6,Nat.add_zero]
   by_cases h10:x.1=10
   ·rw [if_pos h10,if_pos h10,Nat.pow_succ,Nat.mul_comm 2,Nat.mul_assoc]
    exact Nat.le_refl _
   ·rw [if_neg h10,if_neg h10,Nat.one_mul,Nat.add_zero]
    exact Nat.le_refl _
theorem zyi {b:zay}{side:Int}{w:zaT}{x:Int×Int}:∀v ∈ zko b side w x,zbB v.acts 10≤zbB w.acts 10+zvX x 10:=by
 intro v hv
 unfold zko at hv
 unfold zvX
 split at hv
 ·rename_i h17
  split at hv
  ·simp at hv
  ·split at hv
   ·simp only [List.mem_singleton] at hv
    subst hv
    simp only [onP,List.append_nil]
    omega
   ·simp only [List.mem_singleton] at hv
    subst hv
    simp only [onP,zbK,zd2]
    rw [if_neg am]
    omega
 ·split at hv
  ·obtain ⟨more,e1,e2,e3,e4⟩:=zgR hv
   rw [List.append_nil] at e1
   rw [e1,zbK,zjE e4 aa]
   omega
  ·split at hv
   ·simp only [List.mem_singleton] at hv
    subst hv
    simp only [onP,zbK,zd2]
    omega
   ·simp only [List.mem_singleton] at hv
    subst hv
    simp only [onP,zbK,zd2]
    omega
theorem znr {b:zay}{side:Int}:∀ {prog:List (Int×Int)}{now:List zaT}{t:Nat},(∀w ∈ now,zbB w.acts 10≤t)→∀w ∈ prog.foldl (zmw b side) now,zbB w.acts 10≤t+prog.length
 | [],now,t,h,w,hw=>by simpa using h w hw
 |x::prog,now,t,h,w,hw=>by
  rw [List.foldl_cons] at hw
  have:=znr (prog:=prog) (now:=zmw b side now x) (t:=t+1) (fun v hv=>by
   obtain ⟨u,hu,hv⟩:=List.mem_flatMap.1 hv
   have h1:=zyi v hv
   have h2:=h u hu
   have h3:zvX x 10≤1:=by unfold zvX;split<;>omega
   omega) w hw
  simp only [List.length_cons]
  omega
theorem zv2 {g:zab} (hg:GOk g){side:Int}{k:zfM} (hk:k ∈ g.kinds){cell:Int}:∀w ∈ zbH g.board side k.progs cell,zbB w.acts 10≤8:=by
 intro w hw
 obtain ⟨p,hp,hw⟩:=List.mem_flatMap.1 hw
 have ok:=(hg.pr k hk p hp).len
 have:=znr (b:=g.board) (side:=side) (prog:=p) (now:= [⟨[],cell⟩]) (t:=0) (fun v hv=>by
  simp only [List.mem_singleton] at hv
  subst hv
  simp [zbB]) w hw
 omega
theorem zn5 {a m n:Nat} (ha:1≤a) (h:m≤n):a ^ m≤a ^ n:=Nat.pow_le_pow_right ha h
theorem zxQ {g:zab} (hg:GOk g){side:Int}{p:zaf}{k c:Nat} (hk:k<g.kinds.length) (hc:(c:Int)<g.cells):∀w ∈ zbH g.board side (nth g.kinds k).progs c,(zdx g side { p with at_:=p.at_.set w.to.toNat 0,side:=side} w.acts.reverse).length≤9216:=by
 intro w hw
 have h1:=(zgK hg (side:=side) (zag hk) (cell:=(c:Int)) ⟨aa,hc⟩ w hw).take
 have h2:=zv2 hg (side:=side) (zag hk) (cell:=(c:Int)) w hw
 have hr:∀op,zbB w.acts.reverse op=zbB w.acts op:=fun op=>by unfold zbB;exact List.countP_reverse ..
 have h3:=zry hg side w.acts.reverse { p with at_:=p.at_.set w.to.toNat 0,side:=side}
 rw [hr,hr] at h3
 exact Nat.le_trans h3 (Nat.mul_le_mul (zn5 (n:=2) aa h1) (zn5 (n:=8) aa h2))
theorem zAT {g:zab} (hg:GOk g){side:Int} (hs:side=0∨side=1){p:zaf} (hp:POk g p):∀q ∈ zj7 g side p,POk g q:=by
 intro q hq
 unfold zj7 at hq
 obtain ⟨k,hk,hq⟩:=List.mem_flatMap.1 hq
 obtain ⟨c,hc,hq⟩:=List.mem_flatMap.1 hq
 obtain ⟨w,hw,hq⟩:=List.mem_flatMap.1 hq
 have hk:=List.mem_range.1 hk
 have hc:=List.mem_range.1 hc
 unfold zj8 at hq
 split at hq
 ·obtain ⟨r,hr,rfl⟩:=List.mem_map.1 hq
  have hr:=(List.mem_filter.1 hr).1
  have hpo:=zgK hg (side:=side) (zag hk) (cell:=(c:Int)) ⟨aa,aa⟩ w hw
  have h1:POk g { p with at_:=p.at_.set w.to.toNat 0,side:=side}:=by
   have:=hp.setAt w.to.toNat (v:=0) aa
   exact ⟨this.al,this.av,this.h0,this.h1,this.r0,this.r1,hs⟩
  obtain ⟨h2, _⟩:=zpp hg hs h1 (l:=w.acts.reverse) (fun a ha=>hpo.acts a (List.mem_reverse.1 ha)) r hr
  have hcd:=zjD hg hk hs
  exact h2.setAt c aa
 ·cases hq
theorem zv1 {g:zab} (hg:GOk g) (hs:zcx g) (side:Int){k:Nat} (hk:k<g.kinds.length) (c:Int):(zbH g.board side (nth g.kinds k).progs c).length≤72:=by
 have hkm:=zag hk
 have c9:=hg.c9
 have c1:=hg.c1
 have:=zcf (fun p=>zbC g.board side p c) 9 (nth g.kinds k).progs fun p hp=>by
  have h:=zgO hg.board hg.c1 side p c
  have h2:g.board.cells.toNat≤9:=bX
  have h1:=hs _ hkm p hp
  rcases (show zaF p 2=0∨zaF p 2=1 by omega) with e|e<;>rw [e] at h<;>simp at h<;>omega
 have h8:=hg.pn _ hkm
 unfold zbH
 omega
theorem zvs {g:zab} (hg:GOk g) (hs:zcx g){p:zaf} (hp:POk g p):(zdB g p).length≤35831817:=by
 have c9:=hg.c9
 have c1:=hg.c1
 have k6:=hg.k6
 have hal:=hp.al
 have h1:(zj7 g (1 - p.side) p).length≤35831808:=by
  have:=zcf (fun (k:Nat)=>(List.range g.cells.toNat).flatMap fun (c:Nat)=>(zbH g.board (1 - p.side) (nth g.kinds k).progs c).flatMap (zj8 g (1 - p.side) p k c)) (9 * (72 * 9216)) (List.range g.kinds.length) fun k hk=>by
   have hk:=List.mem_range.1 hk
   have:=zcf (fun (c:Nat)=>(zbH g.board (1 - p.side) (nth g.kinds k).progs c).flatMap (zj8 g (1 - p.side) p k c)) (72 * 9216) (List.range g.cells.toNat) fun c hc=>by
    have hc:=List.mem_range.1 hc
    have h2:=zv1 hg hs (1 - p.side) hk c
    have:=zcf (zj8 g (1 - p.side) p k c) 9216 (zbH g.board (1 - p.side) (nth g.kinds k).progs c) fun w hw=>by
     have h3:=zxQ hg (side:=1 - p.side) (p:=p) hk (show (c:Int)<g.cells by omega) w hw
     unfold zj8
     split
     ·rw [List.length_map]
      exact Nat.le_trans (List.length_filter_le _ _) h3
     ·simp
    refine Nat.le_trans this ?_
    omega
   rw [List.length_range] at this
   refine Nat.le_trans this ?_
   omega
  rw [List.length_range] at this
  unfold zj7
  omega
 have h2:(zkZ g (1 - p.side) p).length≤9:=by
  unfold zkZ
  rw [List.length_map]
  have:=List.length_filter_le (fun c=>decide ((zan (nth p.at_ c)).2=1 - p.side) && (nth g.kinds (zan (nth p.at_ c)).1.toNat).keep) (List.range p.at_.length)
  rw [List.length_range] at this
  omega
 unfold zdB
 rw [List.length_append]
 omega
def SzP (g:zab) (q:zaf):Prop:=(q.at_.length:Int)=g.cells∧q.h0.length=g.kinds.length∧q.h1.length=g.kinds.length
theorem zui {g:zab}{p:zaf} (hp:POk g p) (side:Int) (c:Nat):SzP g (zqR side p c):=by
 have h1:=hp.al
 have h2:=hp.h0.len
 have h3:=hp.h1.len
 unfold zqR SzP zaf.withHand zaf.hand
 simp only
 split<;>simp [List.length_set,h1,h2,h3]
theorem zAV {g:zab} (hg:GOk g){p:zaf} (hp:POk g p):(∀q ∈ zdB g p,SzP g q)∧∀q ∈ candsR g p,SzP g q:=by
 have hs:=hp.s
 have hA:∀q ∈ zj7 g (1 - p.side) p,SzP g q:=fun q hq=>by
  have:=zAT hg (side:=1 - p.side) aa hp q hq
  exact ⟨this.al,this.h0.len,this.h1.len⟩
 refine ⟨fun q hq=> ?_,fun q hq=> ?_⟩
 ·rcases List.mem_append.1 hq with h|h
  ·exact hA q h
  ·obtain ⟨c, _,rfl⟩:=List.mem_map.1 h
   exact zui hp _ _
 ·rcases List.mem_append.1 hq with h|h
  ·exact hA q h
  ·obtain ⟨c, _,rfl⟩:=List.mem_map.1 h
   exact zui hp _ _
def zxz (g:zab) (p:zaf) (l:List zaf) (i:Nat):List zaf:=(l.take i).filter fun q=>zgl g q && decide (p ∈ zar g q)
theorem zxB (g:zab) (p:zaf) (l:List zaf):zxz g p l 0= []:=by simp [zxz]
theorem zxA {g:zab}{p:zaf}{l:List zaf}{i:Nat} (hi:i<l.length):zxz g p l (i+1)=if zgl g (nth l i)=true∧p ∈ zar g (nth l i) then zxz g p l i++ [nth l i] else zxz g p l i:=by
 unfold zxz
 rw [List.take_add_one,List.getElem?_eq_getElem hi,← zap _ _ hi,Option.toList_some,List.filter_append]
 by_cases h:zgl g (nth l i)=true∧p ∈ zar g (nth l i)
 ·rw [if_pos h]
  simp [h.1,h.2]
 ·rw [if_neg h]
  have:(zgl g (nth l i) && decide (p ∈ zar g (nth l i)))=false:=by
   rw [Bool.eq_false_iff]
   intro h2
   rw [Bool.and_eq_true,decide_eq_true_eq] at h2
   exact h h2
  simp [this]
theorem zAJ (g:zab) (p:zaf):zxz g p (za3 zbi (zdB g p)) (za3 zbi (zdB g p)).length=zdo g p:=by
 unfold zxz zdo
 rw [List.take_length]
theorem zAK (g:zab) (p:zaf) (l:List zaf) (i:Nat):(zxz g p l i).length≤l.length:=by
 unfold zxz
 have h1:=List.length_filter_le (fun q=>zgl g q && decide (p ∈ zar g q)) (l.take i)
 rw [List.length_take] at h1
 omega
def tkF (g:zab) (side:Int) (p:zaf) (a i:Nat):List zaf:=((List.range g.kinds.length).drop i).flatMap (tkL g side p a)
theorem zB8 {g:zab} (side:Int) (p:zaf) (a:Nat){i:Nat} (hi:i<g.kinds.length):tkF g side p a i=tkL g side p a i++tkF g side p a (i+1):=by
 unfold tkF
 have e:(List.range g.kinds.length).drop i=i::(List.range g.kinds.length).drop (i+1):=by
  rw [List.drop_eq_getElem_cons aJ];simp
 rw [e,List.flatMap_cons]
theorem zEb (g:zab) (side:Int) (p:zaf) (a:Nat):tkF g side p a g.kinds.length= []:=by
 unfold tkF
 rw [List.drop_eq_nil_of_le ad]
 rfl
def za2 (q:zaf):List AV:= [.agg (zae q)]
theorem zxL {n:Nat}{L:List zaf}:(∀r ∈ L.map za2,∀c ∈ r,Bel n c)=True:=by
 refine eq_true ?_
 intro r hr c hc
 obtain ⟨x, _,rfl⟩:=List.mem_map.1 hr
 simp only [za2,List.mem_cons,List.not_mem_nil,or_false] at hc
 subst hc
 simp [go_sem]
attribute [go_sem ↓] zxL
theorem zxI {n l more:Nat}{L:List zaf}:Bel n (zaR l more (L.map za2)):=by
 simp only [zaR,zhB,zfi,List.forall_mem_cons,zok,zbt]
 simp [go_sem]
theorem zff (p:zaf) (hf:zaQ p) (c v:Int) (h0:0≤c) (hc:c.toNat<p.at_.length):zaD Tryz.prog 119 [.agg (zae p), .int c, .int v] (.agg (zae { p with at_:=p.at_.set c.toNat v})):=by
 refine pF Tryz.func119 ?_
 have hC:=zd1 p.at_ hf.1
 refine J0 ?_
 refine zEu hC ae ?_
 refine J1 hc ?_
 exact frX
theorem zjF (p:zaf) (hf:zaQ p) (s k by_:Int) (hs:s=0∨s=1) (h0:0≤k) (hk:k.toNat<(p.hand s).length) (hb: -1000≤nth (p.hand s) k.toNat+by_∧nth (p.hand s) k.toNat+by_≤1000):zaD Tryz.prog 121 [.agg (zae p), .int s, .int k, .int by_] (.agg (zae (p.withHand s ((p.hand s).set k.toNat (nth (p.hand s) k.toNat+by_))))):=by
 refine pF Tryz.func121 ?_
 rcases hs with rfl|rfl
 ·have hC:=zd1 p.h0 hf.2.1
  rw [show p.hand 0=p.h0 from rfl] at hk hb ⊢
  refine J0 ?_
  refine zEu hC ae ?_
  simp only [zaf.withHand]
  refine J1 hk ?_
  (repeat' (first|(with_reducible apply And.intro)|((refine LeV.frz rfl ?_ ?_ (zaN.of_eq ?_))<;>first|(simp [noH];done)|(rw [List.drop_zero,List.take_of_length_le ad]))))
 ·have hC:=zd1 p.h1 hf.2.2
  rw [show p.hand 1=p.h1 from rfl] at hk hb ⊢
  refine J0 ?_
  refine zEu hC ae ?_
  simp only [zaf.withHand]
  refine J1 hk ?_
  (repeat' (first|(with_reducible apply And.intro)|((refine LeV.frz rfl ?_ ?_ (zaN.of_eq ?_))<;>first|(simp [noH];done)|(rw [List.drop_zero,List.take_of_length_le ad]))))
def zzN (n:Nat):AV:= .fn (.func 184) [] [.ref (n+2) 0 3 0 0, .ref n 0 9 0 0, .ref (n+1) 0 5 0 0]
def zzO (g:zab) (p:zaf) (x:zc7) (n:Nat):List (Nat×zbp):= [(n, .rows true 0 9 [zac g]),(n+1, .rows true 0 5 [zae p]),(n+2, .rows true 0 3 [zcC x])]
theorem zzR (g:zab) (p:zaf) (x:zc7):zhb Tryz.prog 165 [.agg (zac g), .agg (zae p), .agg (zcC x)] zzN (zzO g p x) 3:=by
 refine ⟨?_,fun n=>⟨by simp [go_sem,zzN],by simp [go_sem,zzO]⟩⟩
 refine aF Tryz.func165 ?_
 repeat first|refine wV fun _=>?_|simp [go_sem,zzN,zzO]
 simp [go_sem,zad]
theorem zzS (g:zab) (hg:GOk g) (p:zaf) (hp:POk g p) (x:zc7) (hx:zc3 g.cells g.kinds.length g.rights x):
  zrN Tryz.prog 184 [.fp (zcC x), .fp (zac g), .ref 0 0 5 0 0] [(0, .rows true 0 5 [zae p])] 1 0 ((zgu g p.side p x).map za2):=by
 refine zEY ai Tryz.func184 rfl rfl (Nat.le_of_ble_eq_true rfl) ai (fun l=> ?_) (hm2:=by decide)
 obtain ⟨op,a,b⟩:=x
 unfold zc3 at hx
 simp only at hx
 have hf:=hp.fits hg
 have hal:=hp.al
 have hk6:=hg.k6
 have hs:=hp.s
 have hgh:∀ (n:Nat) (L:List zaf),Bel n (zaR l 0 (L.map za2))=True:=fun n (L:List zaf)=>eq_true zxI
 have hegl:(zac g).length=9:=rfl
 have hegk:cel (zac g) 3= .lst 3 (g.kinds.map zaV):=rfl
 have hegb:∀n,(∀c ∈ zac g,Bel n c)=True:=fun n=>ae
 by_cases h6:op=6
 ·subst h6
  obtain ⟨hx1,hx2⟩:0≤a∧a.toNat<p.at_.length:=aa
  rw [zjq rfl]
  have hz:(List.range g.kinds.length).flatMap (tkL g p.side p a.toNat)=tkF g p.side p a.toNat 0:=rfl
  have hts:=fun i (hi:i<g.kinds.length)=>zB8 (g:=g) p.side p a.toNat hi
  have hte:=zEb g p.side p a.toNat
  have hCo:=fun (k:Nat)=>za5 k (1 - p.side)
  have hW:=fun (k:Nat)=>zff p hf a (zal k (1 - p.side)) hx1 hx2
  have hCt:=fun (k:Nat) (hk:k<g.kinds.length)=>zjF { p with at_:=p.at_.set a.toNat (zal k (1 - p.side))} ⟨by simpa [zfR] using hf.1,hf.2⟩ p.side k (-1) hs aa (by have:=(hp.hand p.side).len;simpa [zaf.hand] using (show k<(p.hand p.side).length by omega))
  simp only at hz ⊢
  rw [hz]
  refine Jg1 hegl ?_
  refine zEp (zEs (α:=Nat) (fun k=>⟨[(0, .fn (.yield l) [] []),(1, .fp (zcC (6,a,b))),(2, .fp (zac g)),(3, .ref 0 0 5 0 0),(17, .int g.kinds.length),(18, .int k),(1000000007,zaR l 0 ((tkF g p.side p a.toNat k).map za2))], [(0, .rows true 0 5 [zae p])],1⟩)
   (fun d k=>k+d=g.kinds.length) ?_ g.kinds.length 0 ?_) ?_ ?_
  ·rintro d k k1 hrec
   refine Jg1 hegl ?_
   refine zEr (fun hk=> ?_) (fun hk=> ?_)<;>simp at hk
   ·have hts:=hts k hk
    have hCo:=hCo k
    have hW:=hW k
    have hkh:k<(p.hand p.side).length:=by have:=(hp.hand p.side).len;omega
    have hv:=(hp.hand p.side).v k hkh
    have hCt:=hCt k hk (by
     show -1000≤nth (p.hand p.side) ((k:Int)).toNat+ -1∧nth (p.hand p.side) ((k:Int)).toNat+ -1≤1000
     rw [Int.toNat_natCast];omega)
    unfold tkL tkP at hts
    generalize hcd:zal k (1 - p.side)=cd at *
    try simp only at hts
    try simp only at hW
    try simp only at hCt
    generalize hA:p.at_.set a.toNat cd=A at *
    refine Jg1 hegl ?_
    refine dP hCo ?_
    refine Jg1 hegl ?_
    refine dP hW ?_
    refine Jg1 hegl ?_
    have hgk:nth (g.kinds.map zaV) k=zaV (nth g.kinds k):=za9 _ _ _ hk
    have hax:0≤a:=hx1
    refine Jg3 hegl hk hgk ?_
    refine zEr (fun hkp=> ?_) (fun hkp=> ?_)
    ·rw [if_pos hkp] at hts
     simp only [Int.toNat_natCast] at hCt
     obtain ⟨Q,hQ⟩:∃Q,Q=(⟨A,p.h0,p.h1,p.rights,p.side⟩:zaf).withHand p.side ((p.hand p.side).set k (nth (p.hand p.side) k - 1)):=⟨_,rfl⟩
     rw [← hQ] at hts
     replace hCt:zaD Tryz.prog 121 [.agg (zae ⟨A,p.h0,p.h1,p.rights,p.side⟩), .int p.side, .int k, .int (-1)] (.agg (zae Q)):=by rw [hQ];exact hCt
     refine Jg1 hegl ?_
     refine aP hCt ?_
     rcases hs with hs|hs
     ·have hqh:Q.hand p.side=Q.h0:=by rw [hs];rfl
      have hql:k<Q.h0.length:=by rw [← hqh,hQ,zh3,List.length_set];exact hkh
      rw [hqh] at hts
      by_cases hz0:nth p.at_ a.toNat=0
      ·by_cases hz1:0≤nth Q.h0 k
       ·rw [if_pos ⟨hz0,hz1⟩] at hts
        rw [hts]
        refine Jg6 hegl hs hx2 hz0 hz1 hql ?_
        refine aGC.yld (more:=0) (xs:=za2 Q) (rs:=(tkF g p.side p a.toNat (k+1)).map za2) _ da (.refl _) (.refl _ _ _ _) aU ?_ ?_
        ·refine Jg1 hegl ?_
         refine zEp (hrec (d - 1) aa (k+1) aa) ?_ ad
         simp [go_sem,zad,GH,hgh,hs]
        ·exact Kg1 hegl
       ·rw [if_neg (fun h=>hz1 h.2),List.nil_append] at hts
        rw [hts]
        have hz2:nth Q.h0 k<0:=aa
        refine Jg7 hegl hs hx2 hz0 hz1 hql hz2 ?_
        refine aGC.skip (.v (.bool true)) ?_
        refine Jg1 hegl ?_
        refine zEp (hrec (d - 1) aa (k+1) aa) ?_ ad
        simp [go_sem,zad,GH,hgh,hs]
      ·rw [if_neg (fun h=>hz0 h.1),List.nil_append] at hts
       rw [hts]
       refine Jg5 hegl hs hx2 hz0 hql ?_
       refine aGC.skip (.v (.bool true)) ?_
       refine Jg1 hegl ?_
       refine zEp (hrec (d - 1) aa (k+1) aa) ?_ ad
       simp [go_sem,zad,GH,hgh,hs]
     ·have hqh:Q.hand p.side=Q.h1:=by rw [hs];rfl
      have hql:k<Q.h1.length:=by rw [← hqh,hQ,zh3,List.length_set];exact hkh
      rw [hqh] at hts
      by_cases hz0:nth p.at_ a.toNat=0
      ·by_cases hz1:0≤nth Q.h1 k
       ·rw [if_pos ⟨hz0,hz1⟩] at hts
        rw [hts]
        refine Jg6 hegl hs hx2 hz0 hz1 hql ?_
        refine aGC.yld (more:=0) (xs:=za2 Q) (rs:=(tkF g p.side p a.toNat (k+1)).map za2) _ da (.refl _) (.refl _ _ _ _) aU ?_ ?_
        ·refine Jg1 hegl ?_
         refine zEp (hrec (d - 1) aa (k+1) aa) ?_ ad
         simp [go_sem,zad,GH,hgh,hs]
        ·exact Kg1 hegl
       ·rw [if_neg (fun h=>hz1 h.2),List.nil_append] at hts
        rw [hts]
        have hz2:nth Q.h1 k<0:=aa
        refine Jg7 hegl hs hx2 hz0 hz1 hql hz2 ?_
        refine aGC.skip (.v (.bool true)) ?_
        refine Jg1 hegl ?_
        refine zEp (hrec (d - 1) aa (k+1) aa) ?_ ad
        simp [go_sem,zad,GH,hgh,hs]
      ·rw [if_neg (fun h=>hz0 h.1),List.nil_append] at hts
       rw [hts]
       refine Jg5 hegl hs hx2 hz0 hql ?_
       refine aGC.skip (.v (.bool true)) ?_
       refine Jg1 hegl ?_
       refine zEp (hrec (d - 1) aa (k+1) aa) ?_ ad
       simp [go_sem,zad,GH,hgh,hs]
    ·rw [if_neg (show ¬(nth g.kinds k).keep=true by simp [hkp])] at hts
     obtain ⟨Q,hQ⟩:∃Q:zaf,Q=⟨A,p.h0,p.h1,p.rights,p.side⟩:=⟨_,rfl⟩
     have hq0:p.h0=Q.h0:=by rw [hQ]
     have hq1:p.h1=Q.h1:=by rw [hQ]
     have hqx:AV.agg [.lst 1 (A.map zaB), .lst 1 (p.h0.map zaB), .lst 1 (p.h1.map zaB), .int p.rights, .int p.side]= .agg (zae Q):=by rw [hQ];rfl
     rw [← hQ] at hts
     rcases hs with hs|hs
     ·have hqh:Q.hand p.side=Q.h0:=by rw [hs];rfl
      have hql:k<Q.h0.length:=by rw [← hqh,hQ];exact hkh
      rw [hqh] at hts
      by_cases hz0:nth p.at_ a.toNat=0
      ·by_cases hz1:0≤nth Q.h0 k
       ·rw [if_pos ⟨hz0,hz1⟩] at hts
        rw [hts]
        refine Jg8 hegl hs hx2 hz0 hz1 hql hq0 hq1 ?_
        refine aGC.yld (more:=0) (xs:=za2 Q) (rs:=(tkF g p.side p a.toNat (k+1)).map za2) _ da (.refl _) cS aU ?_ ?_
        ·refine Jg1 hegl ?_
         refine zEp (hrec (d - 1) aa (k+1) aa) ?_ ad
         simp [go_sem,zad,GH,hgh,hs,hq0,hq1]
        ·exact Kg1 hegl
       ·rw [if_neg (fun h=>hz1 h.2),List.nil_append] at hts
        rw [hts]
        have hz2:nth Q.h0 k<0:=aa
        refine Jg9 hegl hs hx2 hz0 hz1 hql hz2 hq0 hq1 ?_
        refine aGC.skip (.v (.bool true)) ?_
        refine Jg1 hegl ?_
        refine zEp (hrec (d - 1) aa (k+1) aa) ?_ ad
        simp [go_sem,zad,GH,hgh,hs,hq0,hq1]
      ·rw [if_neg (fun h=>hz0 h.1),List.nil_append] at hts
       rw [hts]
       refine Jg7 hegl hs hx2 hz0 hql hq0 hq1 ?_
       refine aGC.skip (.v (.bool true)) ?_
       refine Jg1 hegl ?_
       refine zEp (hrec (d - 1) aa (k+1) aa) ?_ ad
       simp [go_sem,zad,GH,hgh,hs,hq0,hq1]
     ·have hqh:Q.hand p.side=Q.h1:=by rw [hs];rfl
      have hql:k<Q.h1.length:=by rw [← hqh,hQ];exact hkh
      rw [hqh] at hts
      by_cases hz0:nth p.at_ a.toNat=0
      ·by_cases hz1:0≤nth Q.h1 k
       ·rw [if_pos ⟨hz0,hz1⟩] at hts
        rw [hts]
        refine Jg8 hegl hs hx2 hz0 hz1 hql hq0 hq1 ?_
        refine aGC.yld (more:=0) (xs:=za2 Q) (rs:=(tkF g p.side p a.toNat (k+1)).map za2) _ da (.refl _) cS aU ?_ ?_
        ·refine Jg1 hegl ?_
         refine zEp (hrec (d - 1) aa (k+1) aa) ?_ ad
         simp [go_sem,zad,GH,hgh,hs,hq0,hq1]
        ·exact Kg1 hegl
       ·rw [if_neg (fun h=>hz1 h.2),List.nil_append] at hts
        rw [hts]
        have hz2:nth Q.h1 k<0:=aa
        refine Jg9 hegl hs hx2 hz0 hz1 hql hz2 hq0 hq1 ?_
        refine aGC.skip (.v (.bool true)) ?_
        refine Jg1 hegl ?_
        refine zEp (hrec (d - 1) aa (k+1) aa) ?_ ad
        simp [go_sem,zad,GH,hgh,hs,hq0,hq1]
      ·rw [if_neg (fun h=>hz0 h.1),List.nil_append] at hts
       rw [hts]
       refine Jg7 hegl hs hx2 hz0 hql hq0 hq1 ?_
       refine aGC.skip (.v (.bool true)) ?_
       refine Jg1 hegl ?_
       refine zEp (hrec (d - 1) aa (k+1) aa) ?_ ad
       simp [go_sem,zad,GH,hgh,hs,hq0,hq1]
   ·obtain rfl:k=g.kinds.length:=by omega
    rw [hte]
    exact Kg1 hegl
  ·omega
  ·simp [go_sem,zad,GH,hgh]
  ·simp
 have hz6:¬op=6:=h6
 unfold zgu
 rw [if_neg h6]
 by_cases h7:op=7
 ·subst h7
  obtain ⟨hx1,hx2,hx3,hx4⟩:0≤a∧a.toNat<p.at_.length∧0≤b∧b.toNat<p.at_.length:=aa
  rw [if_pos rfl]
  have hW1:=zff p hf a (nth p.at_ b.toNat) hx1 hx2
  have hW2:=zff { p with at_:=p.at_.set a.toNat (nth p.at_ b.toNat)} ⟨by simpa [zfR] using hf.1,hf.2⟩ b 0 hx3 (by simpa using hx4)
  simp only at hW2 ⊢
  obtain ⟨A,hA⟩:∃A,A=p.at_.set a.toNat (nth p.at_ b.toNat):=⟨_,rfl⟩
  rw [← hA] at hW1 hW2 ⊢
  obtain ⟨B,hB⟩:∃B,B=A.set b.toNat 0:=⟨_,rfl⟩
  rw [← hB] at hW2 ⊢
  by_cases hz:nth p.at_ b.toNat≠0∧nth p.at_ a.toNat=0
  ·rw [if_pos hz]
   obtain ⟨z1,z2⟩:=hz
   have z3:¬nth p.at_ b.toNat=0:=z1
   (repeat (first|with_reducible (first|refine wL fun _=>?_|refine wD fun _=>?_|refine wE ?_)|simp [go_sem,GH,hegl,hx2,hx4,z3,z2]))
   refine zrE.split 14 ?_
   refine Jg5 hegl hx2 hx4 z3 z2 ?_
   refine dP hW1 ?_
   refine Jg5 hegl hx2 hx4 z3 z2 ?_
   refine dP hW2 ?_
   refine Jg1 hegl ?_
   refine zfn.mk (more:=0) (xs:=za2 ⟨B,p.h0,p.h1,p.rights,p.side⟩) (rs:= []) _ ay (.refl _) (.refl _ _ _ _) aU ?_ ?_
   ·exact Kg1 hegl
   ·exact Kg1 hegl
  ·rw [if_neg hz]
   have z4:nth p.at_ b.toNat=0∨¬nth p.at_ a.toNat=0:=by
    by_cases h:nth p.at_ b.toNat=0
    ·exact .inl h
    ·exact .inr fun h2=>hz ⟨h,h2⟩
   rcases z4 with z4|z4
   ·exact Kg4 hegl hx2 hx4 z4
   ·exact Kg4 hegl hx2 hx4 z4
 rw [if_neg h7]
 by_cases h10:op=10
 ·subst h10
  rw [if_pos rfl]
  have hr4:=hg.r4
  have hx1:0≤a∧a<4:=aa
  have hpw:(1:Int)≤2 ^ a.toNat∧(2:Int) ^ a.toNat≤8:=by
   rcases (show a.toNat=0∨a.toNat=1∨a.toNat=2∨a.toNat=3 by omega) with h|h|h|h<;>rw [h]<;>decide
  unfold zy1
  generalize hgp:(2:Int) ^ a.toNat=pw at *
  by_cases hz:ziI .i64 p.rights pw=0
  ·rw [if_pos bq]
   have ha0:0≤a:=hx1.1
   have ha1:a≤64:=aa
   refine Jg3 hegl hz hgp ?_
   refine aGC.yld (more:=0) (xs:=za2 p) (rs:= [za2 { p with rights:=orN .i64 p.rights pw}]) _ ay (.refl _) (.refl _ _ _ _) aU ?_ ?_
   ·refine Jg2 hegl hgp ?_
    refine zfn.mk (more:=0) (xs:=za2 { p with rights:=orN .i64 p.rights pw}) (rs:= []) _ ay (.refl _) (.refl _ _ _ _) aU ?_ ?_
    ·exact Kg1 hegl
    ·exact Kg1 hegl
   ·exact Kg1 hegl
  ·rw [if_neg bq]
   refine Jg3 hegl hz hgp ?_
   refine aGC.skip (.v (.bool true)) ?_
   exact Kg1 hegl
 ·rw [if_neg h10]
  refine Jg4 hegl h6 h7 h10 ?_
  refine zfn.mk (more:=0) (xs:=za2 p) (rs:= []) _ ay (.refl _) (.refl _ _ _ _) aU ?_ ?_
  ·exact Kg1 hegl
  ·exact Kg1 hegl
end Go.Av
end
