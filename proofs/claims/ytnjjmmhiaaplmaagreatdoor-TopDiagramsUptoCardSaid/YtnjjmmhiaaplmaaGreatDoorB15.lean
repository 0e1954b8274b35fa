/- Texts of ours, part 15: our library and contracts of functions. -/
import Derived.Test.YtnjjmmhiaaplmaaGreatDoorB14
set_option linter.unusedSimpArgs false
set_option linter.unusedVariables false
set_option maxRecDepth 100000
set_option maxHeartbeats 40000000
section
open Go Go.Proofs Go.Av
namespace Go.Av
open Go.Proofs.YtnjjmmhiaaplmaaGreatDoor
abbrev UpB:{H:Type}→DataW H→Nat:=fun d=>Rows.uptoBulk d
abbrev G3T:=Int×Int×Int×List (List Int)×List (List Int)×List Int×Unit
def zCs (x:G3T):List AV:= [.v (.int .u8 x.1)]++([.v (.int .u8 x.2.1)]++([.v (.int .u8 x.2.2.1)]++((x.2.2.2.1.map fun l=> [AV.lst 1 (l.map fun n=> [.v (.int .u8 n)])]).flatten++
 ([AV.lst 3 (x.2.2.2.2.1.map fun l=>(l.map fun n=> [AV.v (.int .u8 n)]).flatten)]++((x.2.2.2.2.2.1.map fun n=> [AV.v (.int .u8 n)]).flatten++ [])))))
abbrev P4T:=List Int×List Int×List Int×Int×Int×Unit
def zya (x:P4T):List AV:=(x.1.map fun n=> [AV.v (.int .u8 n)]).flatten++((x.2.1.map fun n=> [AV.v (.int .u8 n)]).flatten++((x.2.2.1.map fun n=> [AV.v (.int .u8 n)]).flatten++([.v (.int .u8 x.2.2.2.1)]++([.v (.int .u8 x.2.2.2.2.1)]++ []))))
abbrev U8W (n:Int):Prop:=(Lit.int .u8 n).wf=true
theorem zg5:Opn Tryz.prog 1048576 UpB 5 (fun n:Int=> [.v (.int .u8 n)]) U8W:=Opn.int Tryz.underlying5 ai
theorem zzc:Opn Tryz.prog 1048576 UpB 22 (fun l:List Int=> [.lst 1 (l.map fun n=> [.v (.int .u8 n)])]) (fun l=>l.length≤1048576∧∀x ∈ l,U8W x):=
 Opn.slice (sz:=1) zpu.upto Tryz.underlying22 ai ai Nat.one_pos zg5
theorem opn_g3:Opn Tryz.prog 1048576 UpB 27 zdk (fun x=>zu9 x∧x.k0.length≤1048576∧x.k1.length≤1048576∧x.c.length≤1048576):=by
 have hK:Opn Tryz.prog 1048576 UpB 23 (fun l:List (List Int)=>(l.map fun l=> [AV.lst 1 (l.map fun n=> [.v (.int .u8 n)])]).flatten) (fun l=>l.length=2∧∀x ∈ l,x.length≤1048576∧∀y ∈ x,U8W y):=
  Opn.array (sz:=1) (n:=2) zpu.upto Tryz.underlying23 ai ai zzc
 have h3:Opn Tryz.prog 1048576 UpB 160 (fun l:List Int=>(l.map fun n=> [AV.v (.int .u8 n)]).flatten) (fun l=>l.length=3∧∀x ∈ l,U8W x):=
  Opn.array (sz:=1) (n:=3) zpu.upto Tryz.underlying160 ai ai zg5
 have hC:Opn Tryz.prog 1048576 UpB 24 (fun l:List (List Int)=> [.lst 3 (l.map fun l=>(l.map fun n=> [AV.v (.int .u8 n)]).flatten)]) (fun l=>l.length≤1048576∧∀x ∈ l,x.length=3∧∀y ∈ x,U8W y):=
  Opn.slice (sz:=3) zpu.upto Tryz.underlying24 ai ai am h3
 have hFF:Opn Tryz.prog 1048576 UpB 25 (fun l:List Int=>(l.map fun n=> [AV.v (.int .u8 n)]).flatten) (fun l=>l.length=6∧∀x ∈ l,U8W x):=
  Opn.array (sz:=1) (n:=6) zpu.upto Tryz.underlying25 ai ai zg5
 have hF:zju Tryz.prog 1048576 UpB [5,5,5,23,24,25] zCs (fun x=>U8W x.1∧U8W x.2.1∧U8W x.2.2.1∧(x.2.2.2.1.length=2∧∀z ∈ x.2.2.2.1,z.length≤1048576∧∀y ∈ z,U8W y)∧
   (x.2.2.2.2.1.length≤1048576∧∀z ∈ x.2.2.2.2.1,z.length=3∧∀y ∈ z,U8W y)∧(x.2.2.2.2.2.1.length=6∧∀y ∈ x.2.2.2.2.2.1,U8W y)∧True):=
  zju.cons zg5 (zju.cons zg5 (zju.cons zg5 (zju.cons hK (zju.cons hC (zju.cons hFF zju.nil)))))
 have hT:Opn Tryz.prog 1048576 UpB 27 zCs (fun x=>U8W x.1∧U8W x.2.1∧U8W x.2.2.1∧(x.2.2.2.1.length=2∧∀z ∈ x.2.2.2.1,z.length≤1048576∧∀y ∈ z,U8W y)∧
   (x.2.2.2.2.1.length≤1048576∧∀z ∈ x.2.2.2.2.1,z.length=3∧∀y ∈ z,U8W y)∧(x.2.2.2.2.2.1.length=6∧∀y ∈ x.2.2.2.2.2.1,U8W y)∧True):=Opn.struct zpu.upto ai hF
 intro H enc w fuel cs d ps k1 k2
 obtain ⟨x,r1,r2,r3,hx⟩:=hT enc w fuel cs d ps k1 k2
 obtain ⟨W,Hh,cut,K,C,F,⟨⟩⟩:=x
 obtain ⟨h1,h2,h3',⟨h4,h4'⟩,⟨h5,h5'⟩,⟨h6,h6'⟩, _⟩:=hx
 simp only at h1 h2 h3' h4 h4' h5 h5' h6 h6'
 match K,h4 with
 | [ka,kb], _=>
  match F,h6 with
  | [f0,f1,f2,f3,f4,f5], _=>
   have hCl:∀ (C:List (List Int)),(∀z ∈ C,z.length=3)→(C.map fun l=>(nth l 0,nth l 1,nth l 2)).map zx9=C.map fun l=>(l.map fun n=> [AV.v (.int .u8 n)]).flatten:=by
    intro C hC
    rw [List.map_map]
    refine List.map_congr_left fun l hl=> ?_
    have:=hC l hl
    match l,this with
    | [a,b,c], _=>rfl
   refine ⟨⟨W,Hh,cut,ka,kb,C.map fun l=>(nth l 0,nth l 1,nth l 2),f0,f1,f2,f3,f4,f5⟩, ?_,r2,r3,⟨bounds_u8 h1,bounds_u8 h2,bounds_u8 h3',fun n hn=>bounds_u8 ((h4' ka ad).2 n hn),fun n hn=>bounds_u8 ((h4' kb ad).2 n hn), ?_,
    bounds_u8 (h6' f0 ad),bounds_u8 (h6' f1 ad),bounds_u8 (h6' f2 ad),bounds_u8 (h6' f3 ad),bounds_u8 (h6' f4 ad),bounds_u8 (h6' f5 ad)⟩,(h4' ka ad).1,(h4' kb ad).1,by simpa using h5⟩
   ·unfold zdk
    simp only
    rw [hCl C (fun z hz=>(h5' z hz).1)]
    exact r1
   ·intro t ht
    obtain ⟨z,hz,rfl⟩:=List.mem_map.1 ht
    obtain ⟨q1,q2⟩:=h5' z hz
    match z,q1 with
    | [a,b,c], _=>exact ⟨bounds_u8 (q2 a ad),bounds_u8 (q2 b ad),bounds_u8 (q2 c ad)⟩
theorem zCE:Opn Tryz.prog 1048576 UpB 30 zcV zjx:=by
 have hFF:Opn Tryz.prog 1048576 UpB 25 (fun l:List Int=>(l.map fun n=> [AV.v (.int .u8 n)]).flatten) (fun l=>l.length=6∧∀x ∈ l,U8W x):=
  Opn.array (sz:=1) (n:=6) zpu.upto Tryz.underlying25 ai ai zg5
 have h4:Opn Tryz.prog 1048576 UpB 28 (fun l:List Int=>(l.map fun n=> [AV.v (.int .u8 n)]).flatten) (fun l=>l.length=4∧∀x ∈ l,U8W x):=
  Opn.array (sz:=1) (n:=4) zpu.upto Tryz.underlying28 ai ai zg5
 have hF:zju Tryz.prog 1048576 UpB [25,25,28,5,5] zya (fun x=>(x.1.length=6∧∀y ∈ x.1,U8W y)∧(x.2.1.length=6∧∀y ∈ x.2.1,U8W y)∧(x.2.2.1.length=4∧∀y ∈ x.2.2.1,U8W y)∧U8W x.2.2.2.1∧U8W x.2.2.2.2.1∧True):=
  zju.cons hFF (zju.cons hFF (zju.cons h4 (zju.cons zg5 (zju.cons zg5 zju.nil))))
 have hT:Opn Tryz.prog 1048576 UpB 30 zya (fun x=>(x.1.length=6∧∀y ∈ x.1,U8W y)∧(x.2.1.length=6∧∀y ∈ x.2.1,U8W y)∧(x.2.2.1.length=4∧∀y ∈ x.2.2.1,U8W y)∧U8W x.2.2.2.1∧U8W x.2.2.2.2.1∧True):=Opn.struct zpu.upto ai hF
 intro H enc w fuel cs d ps k1 k2
 obtain ⟨x,r1,r2,r3,hx⟩:=hT enc w fuel cs d ps k1 k2
 obtain ⟨c,k,h,r,s,⟨⟩⟩:=x
 obtain ⟨⟨a1,a2⟩,⟨b1,b2⟩,⟨c1,c2⟩,d1,e1, _⟩:=hx
 simp only at a1 a2 b1 b2 c1 c2 d1 e1
 have hfl:∀l:List Int,(l.map fun n=> [AV.v (.int .u8 n)]).flatten=l.map fun n=>AV.v (.int .u8 n):=fun l=>by
  induction l with
  |nil=>rfl
  |cons x l ih=>simp only [List.map_cons,List.flatten_cons,ih];rfl
 refine ⟨⟨c,k,h,r,s⟩, ?_,r2,r3,⟨a1,b1,c1,fun n hn=>bounds_u8 (a2 n hn),fun n hn=>bounds_u8 (b2 n hn),fun n hn=>bounds_u8 (c2 n hn),bounds_u8 d1,bounds_u8 e1⟩⟩
 unfold zya at r1
 rw [hfl,hfl,hfl] at r1
 exact r1
end Go.Av
end
section
open Go Go.Proofs Go.Av
namespace Go.Av
open Go.Proofs.YtnjjmmhiaaplmaaGreatDoor
theorem zBT:Opn Tryz.prog 1048576 UpB 32 zd9 zjw:=by
 have hF:zju Tryz.prog 1048576 UpB [27,30,22] (fun x:zj4×zmE×List Int×Unit=>zdk x.1++(zcV x.2.1++([.lst 1 (x.2.2.1.map fun n=> [.v (.int .u8 n)])]++ [])))
   (fun x=>(zu9 x.1∧x.1.k0.length≤1048576∧x.1.k1.length≤1048576∧x.1.c.length≤1048576)∧zjx x.2.1∧(x.2.2.1.length≤1048576∧∀y ∈ x.2.2.1,U8W y)∧True):=zju.cons opn_g3 (zju.cons zCE (zju.cons zzc zju.nil))
 have hT:Opn Tryz.prog 1048576 UpB 32 (fun x:zj4×zmE×List Int×Unit=>zdk x.1++(zcV x.2.1++([.lst 1 (x.2.2.1.map fun n=> [.v (.int .u8 n)])]++ [])))
   (fun x=>(zu9 x.1∧x.1.k0.length≤1048576∧x.1.k1.length≤1048576∧x.1.c.length≤1048576)∧zjx x.2.1∧(x.2.2.1.length≤1048576∧∀y ∈ x.2.2.1,U8W y)∧True):=Opn.struct zpu.upto ai hF
 intro H enc w fuel cs d ps k1 k2
 obtain ⟨x,r1,r2,r3,hx⟩:=hT enc w fuel cs d ps k1 k2
 obtain ⟨g,p,k,⟨⟩⟩:=x
 obtain ⟨⟨a1,a2,a3,a4⟩,b1,⟨c1,c2⟩, _⟩:=hx
 simp only at a1 a2 a3 a4 b1 c1 c2
 exact ⟨⟨g,p,k⟩,r1,r2,r3,⟨a1,b1,fun n hn=>bounds_u8 (c2 n hn),ah,ah,ah,ah⟩⟩
end Go.Av
end
