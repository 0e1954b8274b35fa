/- Texts of ours, part 11: our library and contracts of functions. -/
import Derived.Test.YtnjjmmhiaaplmaaGreatDoorB10
set_option linter.unusedSimpArgs false
set_option linter.unusedVariables false
set_option maxRecDepth 100000
set_option maxHeartbeats 40000000
section
open Go Go.Proofs
namespace Go.Av
def itK (g:zab):Nat→List zaf→List zaf→List zaf×List zaf
 |0,k,n=>(k,n)
 |i+1,k,n=>itK g i (k++zbY g k n) (za3 zbi (zbY g k n))
theorem zo3 (g:zab):∀ (i:Nat) (k n:List zaf),itK g (i+1) k n=((itK g i k n).1++zbY g (itK g i k n).1 (itK g i k n).2,za3 zbi (zbY g (itK g i k n).1 (itK g i k n).2))
 |0,k,n=>rfl
 |i+1,k,n=>by
  rw [itK,zo3 g i]
  rfl
theorem zCy {g:zab} (hg:GOk g):∀ (i:Nat){k n:List zaf},zbu g k n→zbu g (itK g i k n).1 (itK g i k n).2
 |0,k,n,h=>h
 |i+1,k,n,h=>zCy hg i (h.next hg)
theorem zlH (g:zab) (b:Int):∀ (f:Nat) (k n:List zaf) (i:Nat),i<(zaL g b f k n).length→(nth (zaL g b f k n) i).1=(itK g i k n).2
 |0,k,n,i,h=>by simp [zaL] at h
 |f+1,k,n,i,h=>by
  rw [zaL] at h ⊢
  split at h
  ·rename_i hk
   rw [if_pos hk]
   simp only [List.length_singleton] at h
   obtain rfl:i=0:=aa
   rfl
  ·rename_i hk
   rw [if_neg hk]
   split at h
   ·rename_i hz
    rw [if_pos hz]
    simp only [List.length_singleton] at h
    obtain rfl:i=0:=aa
    rfl
   ·rename_i hz
    rw [if_neg hz]
    cases i with
    |zero=>rfl
    |succ i=>
     rw [zb1,itK]
     exact zlH g b f _ _ i aK
theorem zlG (g:zab) (b:Int) (hb:0≤b):∀ (f:Nat) (k n:List zaf) (i:Nat),b.toNat+2≤f+k.length→i+1=(zaL g b f k n).length→
  ((nth (zaL g b f k n) i).2=true∧((itK g i k n).1.length:Int)≤b∧zbY g (itK g i k n).1 (itK g i k n).2= [])∨((nth (zaL g b f k n) i).2=false∧b<((itK g i k n).1.length:Int))
 |0,k,n,i,hf,h=>by simp [zaL] at h
 |f+1,k,n,i,hf,h=>by
  rw [zaL] at h ⊢
  split at h
  ·rename_i hk
   rw [if_pos hk]
   simp only [List.length_singleton] at h
   obtain rfl:i=0:=aa
   exact .inr ⟨rfl,hk⟩
  ·rename_i hk
   rw [if_neg hk]
   split at h
   ·rename_i hz
    rw [if_pos hz]
    simp only [List.length_singleton] at h
    obtain rfl:i=0:=aa
    exact .inl ⟨rfl,by simpa [itK] using hk,hz⟩
   ·rename_i hz
    rw [if_neg hz]
    have hnl:=List.length_pos_iff.2 hz
    have hf2:b.toNat+2≤f+(k++zbY g k n).length:=by rw [List.length_append];omega
    have h0:0<(zaL g b f (k++zbY g k n) (za3 zbi (zbY g k n))).length:=by
     cases f with
     |zero=>omega
     |succ f=>exact List.length_pos_iff.2 (znM g b f _ _)
    simp only [List.length_cons] at h
    cases i with
    |zero=>omega
    |succ i=>
     rw [zb1,itK]
     exact zlG g b hb f _ _ i hf2 aa
def zee (g:zab) (p:zaf) (i:Nat):List zaf:=(itK g i [p] [p]).2
def zfh (g:zab) (p:zaf) (i:Nat):List zaf:=(itK g i [p] [p]).1
def zld (g:zab) (p:zaf) (n:Int):Nat:=(zau g p n).length - 1
theorem zgF (g:zab) (p:zaf) (n:Int):(zau g p n).length=zld g p n+1:=by
 have:=List.length_pos_iff.2 (ze7 g p n)
 unfold zld
 omega
theorem zd5 {g:zab}{p:zaf}{n:Int}{i:Nat} (h:i≤zld g p n):(nth (zau g p n) i).1=zee g p i:=by
 have:=zgF g p n
 exact zlH g _ _ _ _ i (show i<(zau g p n).length by omega)
theorem zvT (g:zab) (p:zaf) (n:Int):zc6 (zau g p n)=(nth (zau g p n) (zld g p n)).2:=zh0 (ze7 g p n)
theorem zn9 (g:zab) (p:zaf) (n:Int):
  (zc6 (zau g p n)=true∧((zfh g p (zld g p n)).length:Int)≤zgZ n∧zbY g (zfh g p (zld g p n)) (zee g p (zld g p n))= [])∨(zc6 (zau g p n)=false∧zgZ n<((zfh g p (zld g p n)).length:Int)):=by
 rw [zvT]
 exact zlG g (zgZ n) (zeQ n).1 _ [p] [p] _ ad (zgF g p n).symm
theorem ze2 (g:zab) (p:zaf):zee g p 0= [p]:=rfl
theorem zyN (g:zab) (p:zaf):zfh g p 0= [p]:=rfl
theorem zib (g:zab) (p:zaf) (i:Nat):zee g p (i+1)=za3 zbi (zbY g (zfh g p i) (zee g p i)):=congrArg Prod.snd (zo3 g i [p] [p])
theorem zlB (g:zab) (p:zaf) (i:Nat):zfh g p (i+1)=zfh g p i++zbY g (zfh g p i) (zee g p i):=congrArg Prod.fst (zo3 g i [p] [p])
theorem zlD {g:zab} (hg:GOk g){p:zaf} (hp:POk g p) (i:Nat):zbu g (zfh g p i) (zee g p i):=zCy hg i (zEK hp)
theorem zes {g:zab}{p q:zaf}{i:Nat}:q ∈ zee g p (i+1)↔(∃r ∈ zee g p i,q ∈ zar g r)∧q ∉ zfh g p i:=by rw [zib,zaG,zii]
theorem zo8 {g:zab}{p q:zaf}{i:Nat}:q ∈ zfh g p (i+1)↔q ∈ zfh g p i∨q ∈ zee g p (i+1):=by rw [zlB,zib,zaG,List.mem_append]
theorem zbn {g:zab}{p q:zaf}:∀ {i:Nat},q ∈ zfh g p i↔∃j,j≤i∧q ∈ zee g p j
 |0=>by
  constructor
  ·intro h;exact ⟨0,aa,h⟩
  ·rintro ⟨j,hj,h⟩
   obtain rfl:j=0:=aa
   exact h
 |i+1=>by
  rw [zo8,zbn (i:=i)]
  constructor
  ·rintro (⟨j,hj,h⟩|h)
   ·exact ⟨j,aa,h⟩
   ·exact ⟨i+1,aa,h⟩
  ·rintro ⟨j,hj,h⟩
   by_cases e:j=i+1
   ·subst e;exact .inr h
   ·exact .inl ⟨j,aa,h⟩
theorem zqO {g:zab}{p q:zaf}{i j:Nat} (h:i≤j) (hq:q ∈ zfh g p i):q ∈ zfh g p j:=by
 obtain ⟨k,hk,hq⟩:=zbn.1 hq
 exact zbn.2 ⟨k,aa,hq⟩
theorem zBx {g:zab}{p q:zaf}{i j:Nat} (hi:q ∈ zee g p i) (hj:q ∈ zee g p j):i=j:=by
 have hlt:∀ {i j:Nat},i<j→q ∈ zee g p i→q ∈ zee g p j→False:=by
  intro i j h hi hj
  cases j with
  |zero=>omega
  |succ j=>exact (zes.1 hj).2 (zbn.2 ⟨i,aa,hi⟩)
 by_cases h1:i<j
 ·exact (hlt h1 hi hj).elim
 ·by_cases h2:j<i
  ·exact (hlt h2 hj hi).elim
  ·omega
theorem zyL {g:zab}{p q r:zaf}{i:Nat} (hr:r ∈ zfh g p i) (hq:q ∈ zar g r):q ∈ zfh g p (i+1):=by
 obtain ⟨j,hj,hr⟩:=zbn.1 hr
 refine zqO (show j+1≤i+1 by omega) ?_
 rw [zo8]
 by_cases h:q ∈ zfh g p j
 ·exact .inl h
 ·exact .inr (zes.2 ⟨⟨r,hr,hq⟩,h⟩)
def zCf (g:zab) (l:List zaf):Prop:=∀j,j+1<l.length→nth l (j+1) ∈ zar g (nth l j)
theorem zlu {g:zab}{p:zaf}{n:Int} (hf:zc6 (zau g p n)=true){q r:zaf} (hr:r ∈ zfh g p (zld g p n)) (hq:q ∈ zar g r):q ∈ zfh g p (zld g p n):=by
 have h1:zbY g (zfh g p (zld g p n)) (zee g p (zld g p n))= []:=by
  rcases zn9 g p n with h|h
  ·exact h.2.2
  ·rw [hf] at h;simp at h
 have:=zyL hr hq
 rwa [zlB,h1,List.append_nil] at this
theorem znu {g:zab}{p:zaf}{n:Int} (hf:zc6 (zau g p n)=true){l:List zaf} (hc:zCf g l) (h0:nth l 0=p):∀j,j<l.length→nth l j ∈ zfh g p (zld g p n)
 |0, _=>by rw [h0];exact zbn.2 ⟨0,aa,by rw [ze2];simp⟩
 |j+1,h=>zlu hf (znu hf hc h0 j aa) (hc j h)
theorem zxn {g:zab}{p q:zaf}{n:Int}:q ∈ zdV (zau g p n)↔q ∈ zfh g p (zld g p n):=by
 unfold zdV
 rw [List.mem_flatMap,zbn]
 have hl:=zgF g p n
 constructor
 ·rintro ⟨x,hx,hq⟩
  obtain ⟨i,hi,rfl⟩:=zlT hx
  rw [zd5 aa] at hq
  exact ⟨i,aa,hq⟩
 ·rintro ⟨j,hj,hq⟩
  exact ⟨nth (zau g p n) j,zag aa,by rwa [zd5 hj]⟩
theorem zb6 {g:zab}{p q:zaf}{n:Int}:q ∈ zbE g p n↔q ∈ zfh g p (zld g p n):=by rw [zbE,zaG,zxn]
theorem zdL (g:zab) (p:zaf) (n:Int):Inc (zbE g p n):=zcR zaU _
theorem zh6 {l:List zaf} (h:Inc l):l.Nodup:=List.Pairwise.imp (fun {a b} hab e=>by
 have:=(zaU.eq a b).2 e
 omega) h
theorem zzz {g:zab} (hg:GOk g){p:zaf} (hp:POk g p) (n:Int):(zbE g p n).length=(zfh g p (zld g p n)).length:=
 Nat.le_antisymm (zdc (zh6 (zdL g p n)) fun q hq=>zb6.1 hq) (zdc (zlD hg hp _).nd fun q hq=>zb6.2 hq)
def ze3 (g:zab) (p:zaf) (d:Nat):List (List zaf):=(List.range (d+1)).map (zee g p)
theorem zdH (g:zab) (p:zaf) (d:Nat):(ze3 g p d).length=d+1:=by simp [ze3]
theorem zge {g:zab}{p:zaf}{d i:Nat} (h:i≤d):nth (ze3 g p d) i=zee g p i:=by
 unfold ze3
 rw [za9 _ _ _ ak,zap _ _ ak]
 simp
theorem zBy {g:zab}{p:zaf}{n:Int}{d:Nat} (h:d≤zld g p n):((zau g p n).take (d+1)).map (·.1)=ze3 g p d:=by
 have hl:=zgF g p n
 refine List.ext_getElem (by simp [ze3];omega) fun i h1 h2=> ?_
 have hi:i<d+1:=by simpa [ze3] using h2
 have h3:=zd5 (g:=g) (p:=p) (n:=n) (i:=i) aa
 rw [zap _ _ aa] at h3
 simp [ze3,h3]
theorem zs0 (g:zab) (p:zaf) (d:Nat):zg9 g (ze3 g p d):=by
 refine ⟨by simp [ze3],⟨p,by rw [zge aa];rfl⟩,fun i hi q hq=> ?_⟩
 rw [zdH] at hi
 rw [zge aa] at hq ⊢
 exact (zes.1 hq).1
theorem zv4 {g:zab}{p goal:zaf}{d:Nat} (h:goal ∈ zee g p d):goal ∈ nth (ze3 g p d) ((ze3 g p d).length - 1):=by
 rw [zdH,Nat.add_sub_cancel,zge (Nat.le_refl d)]
 exact h
theorem zi1 {g:zab}{p goal:zaf}{n:Int}{d:Nat} (hd:d≤zld g p n) (h:goal ∈ zee g p d):zcW g p goal n=(zgt g (ze3 g p d) goal,0):=by
 have hl:=zgF g p n
 rw [zuc (d:=d) aa (by rwa [zd5 hd]) (fun j hj=>by
  rw [zd5 aa]
  intro h2
  have:=zBx h h2
  omega),zBy hd]
theorem znv {g:zab}{p goal:zaf}{n:Int} (h:goal ∉ zfh g p (zld g p n)):zcW g p goal n=([],if zc6 (zau g p n) then 270 else 2):=by
 have hl:=zgF g p n
 refine zud fun j hj h2=>h ?_
 rw [zd5 aa] at h2
 exact zbn.2 ⟨j,aa,h2⟩
theorem zga {g:zab}{p goal:zaf}{n:Int}:(zcW g p goal n).2=0↔goal ∈ zfh g p (zld g p n):=by
 constructor
 ·intro h
  refine Classical.byContradiction fun h2=> ?_
  rw [znv h2] at h
  simp only at h
  split at h<;>omega
 ·intro h
  obtain ⟨d,hd,h⟩:=zbn.1 h
  rw [zi1 hd h]
section Ways
variable {g:zab} (hg:GOk g) {p:zaf} (hp:POk g p)
def zDC (g:zab) (p:zaf) (d:Nat) (goal:zaf) (i:Nat):List zaf:=nth (zeX g (ze3 g p d) goal) i
def zAc (g:zab) (p:zaf) (d:Nat) (goal:zaf) (i:Nat):zaf:=zAd g (ze3 g p d) goal i
theorem zyw (g:zab) (p:zaf) (d:Nat) (goal:zaf):zDC g p d goal d= [goal]:=by
 have:=zeY g goal (ze3 g p d) (by simp [ze3])
 rwa [zdH,Nat.add_sub_cancel] at this
theorem zBp {g:zab}{p:zaf}{d:Nat}{goal:zaf}{i:Nat} (h:i<d){q:zaf}:q ∈ zDC g p d goal i↔q ∈ zee g p i∧∃r ∈ zDC g p d goal (i+1),r ∈ zar g q:=by
 unfold zDC
 rw [zgH g goal (ze3 g p d) i (by rw [zdH];omega),List.mem_filter,zge aa,decide_eq_true_eq,zlt]
theorem zuP {g:zab}{p:zaf}{d:Nat}{goal:zaf} (hgo:goal ∈ zee g p d){i:Nat} (h:i≤d):zAc g p d goal i ∈ zDC g p d goal i:=
 ziB (zs0 g p d) (zv4 hgo) i (by rw [zdH];omega)
theorem zz0 (g:zab) (p:zaf) (d:Nat) (goal:zaf):zAc g p d goal 0=p:=by
 unfold zAc zAd
 rw [zge aa]
 rfl
theorem zzX {g:zab}{p:zaf}{d:Nat}{goal:zaf} (hgo:goal ∈ zee g p d):zAc g p d goal d=goal:=by
 have:=zuP hgo (Nat.le_refl d)
 rw [zyw] at this
 simpa using this
theorem zzZ (g:zab) (p:zaf) (d:Nat) (goal:zaf) (i:Nat):zAc g p d goal (i+1)=nth (zDC g p d goal (i+1)) (zeG g (zAc g p d goal i) (zDC g p d goal (i+1))).toNat:=rfl
theorem zzY {g:zab}{p:zaf}{d:Nat}{goal:zaf} (hgo:goal ∈ zee g p d){i:Nat} (h:i<d):zAc g p d goal (i+1) ∈ zar g (zAc g p d goal i):=by
 obtain ⟨r,hr,hm⟩:=((zBp h).1 (zuP hgo (Nat.le_of_lt h))).2
 rw [zzZ]
 exact (ziZ (zlt.2 ⟨r,hr,hm⟩)).2.1
theorem ziy (g:zab) (p:zaf) (d:Nat) (goal:zaf):(zgt g (ze3 g p d) goal).length=d+1:=by simp [zgt,zdH]
theorem ziz {g:zab}{p:zaf}{d:Nat}{goal:zaf}{i:Nat} (h:i≤d):nth (zgt g (ze3 g p d) goal) i=zAc g p d goal i:=by
 unfold zgt
 rw [za9 _ _ _ (by rw [List.length_range,zdH];omega),zap _ _ (by rw [List.length_range,zdH];omega)]
 simp [zAc]
end Ways
theorem zi0 {g:zab}{p goal:zaf}{n:Int} (h:(zcW g p goal n).2=0):zk2 g p goal (zcW g p goal n).1=true:=by
 obtain ⟨d,hd,hgo⟩:=zbn.1 (zga.1 h)
 rw [zi1 hd hgo]
 unfold zk2
 simp only
 refine decide_eq_true ⟨?_, ?_, ?_,fun j hj=> ?_⟩
 ·intro h
  have:=congrArg List.length h
  rw [ziy] at this
  simp at this
 ·rw [ziz aa,zz0]
 ·rw [ziy,Nat.add_sub_cancel,ziz (Nat.le_refl d),zzX hgo]
 ·rw [ziy,Nat.add_sub_cancel] at hj
  rw [ziz aa,ziz aa]
  exact zzY hgo hj
theorem zyu {g:zab}{p goal:zaf}{n:Int}{d:Nat} (hd:d≤zld g p n) (h:goal ∈ zee g p d):(zcW g p goal n).1.length=d+1:=by
 rw [zi1 hd h]
 exact ziy g p d goal
end Go.Av
end
section
open Go Go.Proofs
namespace Go.Av
def ze1 (g:zab) (s p:zaf) (n:Int):List zaf×Int:=
 if zc6 (zau g s n)=false then ([],2) else if p ∈ zbE g s n then ((zbE g s n).filter fun q=>decide (p ∈ zar g q),0) else ([],270)
def mn (side kind:Int) (c:Int):Bool:=zeZ default side kind c
def cnt (l:List Int) (side kind:Int):Nat:=l.countP (mn side kind)
theorem zi8 (side kind:Int):mn side kind 0=false:=by
 unfold mn zeZ zan
 simp
theorem zhj:∀ (l:List Int){i:Nat} (hi:i<l.length) (v side kind:Int),cnt (l.set i v) side kind+(if mn side kind (nth l i) then 1 else 0)=cnt l side kind+(if mn side kind v then 1 else 0)
 | [],i,hi, _, _, _=>by simp at hi
 |a::l,0, _,v,side,kind=>by
  simp only [cnt,List.set_cons_zero,List.countP_cons,zdy]
  exact Nat.add_right_comm _ _ _
 |a::l,i+1,hi,v,side,kind=>by
  have:=zhj l (i:=i) aJ v side kind
  simp only [cnt,List.set_cons_succ,List.countP_cons,zb1] at this ⊢
  revert this
  cases mn side kind a<;>cases mn side kind v<;>cases mn side kind (nth l i)<;>simp<;>omega
theorem mn_own {side c kind:Int} (h:(zan c).2=side):mn (1 - side) kind c=false:=by
 unfold mn zeZ
 have:¬(zan c).2=1 - side:=aa
 simp [this]
theorem mn_foe {side c kind:Int} (h:(zan c).2≠side):mn side kind c=false:=by
 unfold mn zeZ
 simp [h]
theorem mn_any {side c:Int} (h:(zan c).2=side) (h0:0≤(zan c).1):mn side (-1) c=true:=by
 unfold mn zeZ
 simp [h,h0]
structure zw8 (a:List Int) (side:Int) (l:List Int):Prop where
 len:l.length=a.length
 own:cnt l side (-1)+1=cnt a side (-1)
 foe:∀k,cnt l (1 - side) k≤cnt a (1 - side) k
theorem zE7 {a:List Int}{i:Nat} (hi:i<a.length){side:Int} (h0:0≤(zan (nth a i)).1) (h:(zan (nth a i)).2=side):zw8 a side (a.set i 0):=by
 refine ⟨ad, ?_,fun k=> ?_⟩
 ·have:=zhj a hi 0 side (-1)
  rw [zi8,mn_any h h0] at this
  simpa using this
 ·have:=zhj a hi 0 (1 - side) k
  rw [zi8,mn_own h] at this
  simp at this
  omega
theorem zw8.take {a l:List Int}{side:Int} (h:zw8 a side l){i:Nat} (hi:i<l.length) (hs:(zan (nth l i)).2≠side):zw8 a side (l.set i 0):=by
 refine ⟨by simpa using h.len, ?_,fun k=> ?_⟩
 ·have:=zhj l hi 0 side (-1)
  rw [zi8,mn_foe hs] at this
  have:=h.own
  simp at *
  omega
 ·have:=zhj l hi 0 (1 - side) k
  rw [zi8] at this
  have:=h.foe k
  simp at *
  omega
theorem zt2 {l:List Int}{i j:Nat} (hi:i<l.length) (hj:j<l.length) (h0:nth l j=0) (h1:nth l i≠0) (side kind:Int):cnt ((l.set j (nth l i)).set i 0) side kind=cnt l side kind:=by
 have hij:j≠i:=fun e=>h1 (e▸h0)
 have a1:=zhj l hj (nth l i) side kind
 have a2:=zhj (l.set j (nth l i)) (i:=i) aJ 0 side kind
 rw [h0,zi8] at a1
 have e:=zbo l j i (nth l i)
 rw [if_neg (fun h=>hij h.1)] at e
 rw [e,zi8] at a2
 revert a1 a2
 cases mn side kind (nth l i)<;>simp<;>omega
theorem zw8.push {a l:List Int}{side:Int} (h:zw8 a side l){i j:Nat} (hi:i<l.length) (hj:j<l.length) (h0:nth l j=0) (h1:nth l i≠0):zw8 a side ((l.set j (nth l i)).set i 0):=
 ⟨by simpa using h.len,by rw [zt2 hi hj h0 h1];exact h.own,fun k=>by rw [zt2 hi hj h0 h1];exact h.foe k⟩
theorem zod {s:StD}:∀ {l:List Int},∀t ∈ zby s l,t.p=s.p
 | [],t,h=>by simp [zby] at h
 |c::l,t,h=>by
  rw [zby,List.mem_cons] at h
  rcases h with rfl|h
  ·rfl
  ·split at h
   ·exact zod t h
   ·simp at h
theorem ztC (p:zaf) (side:Int) (l:List Int):(p.withHand side l).at_=p.at_:=by
 unfold zaf.withHand
 split<;>rfl
theorem zw8.step {g:zab} (hg:GOk g){a:List Int}{s:StD} (hs:zfN g s) (h:zw8 a s.p.side s.p.at_){x:Int×Int}:∀t ∈ zbS g s x,zw8 a s.p.side t.p.at_:=by
 intro t ht
 have hal:=hs.p.al
 have c0:=hs.c0
 have c1:=hs.c1
 have hcl:s.cursor.toNat<s.p.at_.length:=aa
 unfold zbS at ht
 simp only at ht
 repeat' split at ht
 ·have:=zcJ ht;subst this;exact h
 ·have:=zod t ht;rw [this];exact h
 ·have:=zcJ ht;subst this;exact h
 ·have:=zcJ ht;subst this;exact h
 ·have:=zcJ ht;subst this;exact h
 ·unfold zm3 at ht
  simp only at ht
  split at ht
  ·simp at ht
  ·rename_i hm
   have hm2:(zan (nth s.p.at_ s.cursor.toNat)).2≠s.p.side:=fun e=>hm (.inr e)
   have key:=h.take hcl hm2
   split at ht
   ·split at ht
    ·simp at ht
    ·simp only [List.mem_singleton] at ht
     subst ht
     simp only [ztC]
     exact key
   ·simp only [List.mem_singleton] at ht
    subst ht
    exact key
 ·unfold zm1 at ht
  simp only at ht
  split at ht
  ·simp at ht
  ·rename_i hm
   simp only [not_or,Decidable.not_not,Int.not_lt] at hm
   simp only [List.mem_singleton] at ht
   subst ht
   have hto:=zfe hg.board s.p.side x.2 s.cursor
   have e:g.board.cells=g.cells:=rfl
   exact h.push hcl aa hm.2.2 hm.1
 ·simp only [List.mem_singleton] at ht;subst ht;exact h
 ·have:=zcJ ht;subst this;exact h
 ·simp only [List.mem_singleton] at ht;subst ht;exact h
 ·simp only [List.mem_singleton] at ht;subst ht;exact h
theorem zBv {g:zab}{s p:zaf}{n:Int}:(ze1 g s p n).2=0↔zc6 (zau g s n)=true∧p ∈ zbE g s n:=by
 unfold ze1
 split
 ·rename_i h;simp [h]
 ·rename_i h
  simp only [Bool.not_eq_false] at h
  split
  ·rename_i h2;simp [h,h2]
  ·rename_i h2;simp [h,h2]
theorem zyR {g:zab}{s p:zaf}{n:Int}{q:zaf} (hq:q ∈ (ze1 g s p n).1):q ∈ zbE g s n∧p ∈ zar g q:=by
 unfold ze1 at hq
 split at hq
 ·simp at hq
 ·split at hq
  ·simpa using List.mem_filter.1 hq
  ·simp at hq
theorem zyQ (g:zab) (s p:zaf) (n:Int):Inc (ze1 g s p n).1:=by
 unfold ze1
 split
 ·simp [Inc]
 ·split
  ·exact List.Pairwise.filter _ (zdL g s n)
  ·simp [Inc]
theorem zsZ {g:zab}{s p:zaf}{n:Int} (hf:zc6 (zau g s n)=true) (h:(zcW g s p n).2=0) (h2:2≤(zcW g s p n).1.length):nth (zcW g s p n).1 ((zcW g s p n).1.length - 2) ∈ (ze1 g s p n).1:=by
 obtain ⟨d,hd,hgo⟩:=zbn.1 (zga.1 h)
 have hc:=zi0 h
 unfold zk2 at hc
 obtain ⟨c1,c2,c3,c4⟩:=of_decide_eq_true hc
 have hm:=c4 ((zcW g s p n).1.length - 2) aa
 rw [show (zcW g s p n).1.length - 2+1=(zcW g s p n).1.length - 1 by omega,c3] at hm
 have hch:zCf g (zcW g s p n).1:=fun j hj=>c4 j aa
 have hs:=znu hf hch c2 ((zcW g s p n).1.length - 2) aa
 unfold ze1
 rw [if_neg (by rw [hf];simp),if_pos (zb6.2 (zbn.2 ⟨d,hd,hgo⟩))]
 exact List.mem_filter.2 ⟨zb6.2 hs,by simpa using hm⟩
def zcL:zab:=⟨3, [[1,2, -1], [-1,0,1]], [1,0], [⟨⟨⟨[97]⟩⟩, [[(1,0),(3,0)], [(1,0),(4,0),(6,0)]],false⟩],0,false, [],3,2⟩
def at9 (a b c side:Int):zaf:=⟨[a,b,c], [0], [0],0,side⟩
theorem zyz:zfI zcL [0]:=⟨rfl,fun i hi=>by
 obtain rfl:i=0:=aJ
 exact ⟨am,am,am⟩⟩
theorem zCk (a b c side:Int) (ha:0≤a∧a≤2) (hb:0≤b∧b≤2) (hc:0≤c∧c≤2) (hs:side=0∨side=1):POk zcL (at9 a b c side):=
 ⟨rfl,by
  intro x hx
  simp only [at9,List.mem_cons,List.not_mem_nil,or_false] at hx
  have:(zcL.kinds.length:Int)=1:=rfl
  rcases hx with rfl|rfl|rfl<;>omega,zyz,zyz,by simp [at9],by simp [at9,zcL],hs⟩
theorem ziu:GOk zcL:=by
 refine ⟨?_,am,am,am,am, ?_,am,am, ?_, ?_,am,am, ?_,am,am,am⟩
 ·refine ⟨?_, ?_, ?_, ?_, ?_, ?_, ?_⟩<;>first|decide|skip
 ·intro d hd
  have:d=0∨d=1:=by
   have:zcL.turn.length=2:=rfl
   omega
  rcases this with rfl|rfl<;>decide
 ·intro k hk
  simp only [zcL,List.mem_singleton] at hk
  subst hk
  decide
 ·intro k hk q hq
  simp only [zcL,List.mem_singleton] at hk
  subst hk
  simp only [List.mem_cons,List.not_mem_nil,or_false] at hq
  rcases hq with rfl|rfl
  ·refine ⟨am,am,fun x hx=> ?_,am,am,am⟩
   simp only [List.mem_cons,List.not_mem_nil,or_false] at hx
   rcases hx with rfl|rfl<;>exact ⟨am,am,am,am,am⟩
  ·refine ⟨am,am,fun x hx=> ?_,am,am,am⟩
   simp only [List.mem_cons,List.not_mem_nil,or_false] at hx
   rcases hx with rfl|rfl|rfl<;>exact ⟨am,am,am,am,am⟩
 ·intro c hc
  simp [zcL] at hc
theorem zo1 {l m:List zaf} (hl:Inc l) (hm:Inc m) (h:∀q,q ∈ l↔q ∈ m):l=m:=by
 rw [← zwE hl]
 exact zeA zaU hm h
theorem zgd {g:zab} (hg:GOk g){s p:zaf} (hs:POk g s){n:Int} (hf:zc6 (zau g s n)=true) (hp:p ∈ zbE g s n):
  (ze1 g s p n).1=(zdo g p).filter fun q=>decide (q ∈ zbE g s n):=by
 unfold ze1
 rw [if_neg (by simp [hf]),if_pos hp]
 refine zo1 (List.Pairwise.filter _ (zdL g s n)) (List.Pairwise.filter _ (zhg g p)) fun q=> ?_
 rw [List.mem_filter,List.mem_filter,zlS hg]
 simp only [decide_eq_true_eq]
 exact ⟨fun ⟨h1,h2⟩=>⟨⟨zoy hg hs n q (zaG.1 h1),h2⟩,h1⟩,fun ⟨⟨_,h2⟩,h1⟩=>⟨h1,h2⟩⟩
def zqU (m:Int) (l:List Int) (n:Nat):Bool:=decide (l.length=n) && l.all fun e=>decide (0≤e∧e<m)
def ziA (g:zab) (x:zbh):Bool:=
 decide (2≤x.mod∧x.mod≤1000) && decide (x.men.length=2 * g.kinds.length+1) && decide (0≤x.side∧x.side<x.mod) && x.men.all (fun l=>zqU x.mod l g.cells.toNat) &&
  zqU x.mod x.h0 g.kinds.length && zqU x.mod x.h1 g.kinds.length && zqU x.mod x.rights g.rights.toNat
theorem zie {m:Int}{l:List Int}{n:Nat} (h:zqU m l n=true):l.length=n∧∀i,0<m→0≤nth l i:=by
 unfold zqU at h
 rw [Bool.and_eq_true,decide_eq_true_eq] at h
 refine ⟨h.1,fun i hm=> ?_⟩
 by_cases hi:i<l.length
 ·have:=of_decide_eq_true (List.all_eq_true.1 h.2 _ (zag hi))
  exact this.1
 ·have:nth l i=0:=by
   unfold nth
   rw [List.getD_eq_getElem?_getD,List.getElem?_eq_none aa]
   rfl
  omega
theorem zrB {g:zab}{x:zbh} (h:ziA g x=true):zAg g x∧0≤x.side∧(∀n c,0≤wgt x n c)∧(∀k,0≤nth x.h0 k)∧(∀k,0≤nth x.h1 k)∧∀r,0≤nth x.rights r:=by
 unfold ziA at h
 simp only [Bool.and_eq_true,decide_eq_true_eq] at h
 obtain ⟨⟨⟨⟨⟨⟨h1,h2⟩,h3⟩,h4⟩,h5⟩,h6⟩,h7⟩:=h
 have hm:0<x.mod:=aa
 refine ⟨⟨hm,h2,(zie h7).1⟩,h3.1,fun n c=> ?_,fun k=>(zie h5).2 k hm,fun k=>(zie h6).2 k hm,fun r=>(zie h7).2 r hm⟩
 unfold wgt
 by_cases hi:n.toNat<x.men.length
 ·exact (zie (List.all_eq_true.1 h4 _ (zag hi))).2 c hm
 ·have:nth x.men n.toNat= []:=by
   unfold nth
   rw [List.getD_eq_getElem?_getD,List.getElem?_eq_none aa]
   rfl
  rw [this]
  exact Int.le_refl _
theorem zsu {a:Int} (h0:0≤a) (h1:a<16){r:Nat} (hr:r<4):0≤zmF a r:=by
 have:=(ziL h0 h1 (n:=0) (r:=r) aa hr).2
 omega
theorem zmd {g:zab} (hg:GOk g){x:zbh} (hv:ziA g x=true){p:zaf} (hp:POk g p):0≤zex x p:=by
 obtain ⟨hx,h1,h2,h3,h4,h5⟩:=zrB hv
 have h6:=zio hg hp
 have h7:=hg.r4
 have h8:=hx.rights
 have a1:0≤x.side * p.side:=Int.mul_nonneg h1 (by rcases hp.s with h|h<;>omega)
 have a2:0≤atI x p.at_:=zeo fun i _=>h2 _ _
 have hh:∀ {l:List Int},zfI g l→∀k,k<l.length→0≤nth l k:=fun h k hk=>(h.v k hk).1
 have a3:0≤hdI x.h0 p.h0:=zeo fun k hk=>Int.mul_nonneg (h3 k) (hh hp.h0 k hk)
 have a4:0≤hdI x.h1 p.h1:=zeo fun k hk=>Int.mul_nonneg (h4 k) (hh hp.h1 k hk)
 have a5:0≤rtI x.rights p.rights:=zeo fun r hr=>Int.mul_nonneg (h5 r) (zsu hp.r0 h6 aa)
 unfold zex
 omega
theorem zzU {g:zab} (hg:GOk g){x:zbh} (hv:ziA g x=true) (hk:zca g x=true){q p:zaf} (hq:POk g q) (hp:p ∈ zar g q):zrA x p=zrA x q:=by
 have hd:=zyI hg (zrB hv).1 hk hq hp
 have h1:=zmd hg hv hq
 have h2:=zmd hg hv (zcu hg hq p hp).1
 unfold zrA
 rw [Int.tmod_eq_emod_of_nonneg h1,Int.tmod_eq_emod_of_nonneg h2]
 exact Int.emod_eq_emod_iff_emod_sub_eq_zero.2 (Int.emod_eq_zero_of_dvd hd)
theorem zuh {g:zab} (hg:GOk g){x:zbh} (hv:ziA g x=true) (hk:zca g x=true){s:zaf} (hs:POk g s):∀ (i:Nat){q:zaf},q ∈ zee g s i→zrA x q=zrA x s
 |0,q,hq=>by
  rw [ze2] at hq
  simp only [List.mem_singleton] at hq
  rw [hq]
 |i+1,q,hq=>by
  obtain ⟨u,hu,hm⟩:=(zes.1 hq).1
  rw [zzU hg hv hk ((zlD hg hs i).now_ok u hu) hm]
  exact zuh hg hv hk hs i hu
theorem zzA {g:zab} (hg:GOk g){x:zbh} (hv:ziA g x=true) (hk:zca g x=true){s:zaf} (hs:POk g s){n:Int}{q:zaf} (hq:q ∈ zbE g s n):zrA x q=zrA x s:=by
 obtain ⟨i, _,hi⟩:=zbn.1 (zb6.1 hq)
 exact zuh hg hv hk hs i hi
def zme (g:zab) (s goal:zaf) (x:zbh):Bool:=ziA g x && (!decide (zrA x s=zrA x goal) && zca g x)
def zfC (g:zab) (s goal:zaf):Nat→List zbh→Int×Int
 | _, []=>(0,270)
 |i,x::l=>if zme g s goal x=true then (i,0) else zfC g s goal (i+1) l
theorem zmf {g:zab} (hg:GOk g){s:zaf} (hs:POk g s){n:Int}{goal:zaf} (h:goal ∈ zbE g s n):∀ (l:List zbh) (i:Nat),zfC g s goal i l=(0,270)
 | [],i=>rfl
 |x::l,i=>by
  have hb:¬zme g s goal x=true:=by
   unfold zme
   intro h2
   simp only [Bool.and_eq_true,Bool.not_eq_true',decide_eq_false_iff_not] at h2
   exact h2.2.1 (zzA hg h2.1 h2.2.2 hs h).symm
  rw [zfC,if_neg hb]
  exact zmf hg hs h l (i+1)
theorem zlC {g:zab}{p:zaf}{i:Nat} (h:zee g p i= []):∀k,zee g p (i+k)= []
 |0=>h
 |k+1=>by
  refine List.eq_nil_iff_forall_not_mem.2 fun q hq=> ?_
  obtain ⟨⟨r,hr, _⟩, _⟩:=zes.1 (show q ∈ zee g p ((i+k)+1) from hq)
  rw [zlC h k] at hr
  cases hr
theorem zyM {g:zab}{p:zaf}{i:Nat} (h:zee g p i= []){j:Nat}{q:zaf} (hq:q ∈ zfh g p j):q ∈ zfh g p i:=by
 obtain ⟨k, _,hk⟩:=zbn.1 hq
 refine zbn.2 ⟨k, ?_,hk⟩
 refine Nat.le_of_not_lt fun hlt=> ?_
 obtain ⟨d,rfl⟩:=Nat.exists_eq_add_of_le (show i≤k by omega)
 rw [zlC h d] at hk
 cases hk
theorem zqD {g:zab} (hg:GOk g){p:zaf} (hp:POk g p){i:Nat} (h:zee g p i= []){n:Int} (h0:0≤n) (h1:n≤4000) (hl:((zfh g p i).length:Int)≤n):
  zc6 (zau g p n)=true∧∀q,q ∈ zbE g p n↔q ∈ zfh g p i:=by
 have hbn:zgZ n=n:=by unfold zgZ;(repeat' split)<;>omega
 have hsub:∀q,q ∈ zfh g p (zld g p n)→q ∈ zfh g p i:=fun q hq=>zyM h hq
 have hf:zc6 (zau g p n)=true:=by
  rcases zn9 g p n with h2|h2
  ·exact h2.1
  ·exfalso
   have h3:=zdc (zlD hg hp _).nd hsub
   have h4:=h2.2
   rw [hbn] at h4
   omega
 refine ⟨hf,fun q=> ?_⟩
 rw [zb6]
 refine ⟨hsub q,fun hq=> ?_⟩
 obtain ⟨k, _,hk⟩:=zbn.1 hq
 have key:∀ (k:Nat) {q:zaf},q ∈ zee g p k→q ∈ zfh g p (zld g p n):=by
  intro k
  induction k with
  |zero=>
   intro q hq
   exact zbn.2 ⟨0,aa,hq⟩
  |succ k ih=>
   intro q hq
   obtain ⟨⟨r,hr,hm⟩, _⟩:=zes.1 hq
   exact zlu hf (ih hr) hm
 exact key k hk
def zdh (g:zab) (most:Int):Nat→List zaf→List zaf→List zaf×Int
 |0, _, _=>([],2)
 |f+1,all,last=>
  if last= [] then (all,0) else
  let last':=(za3 zbi (last.flatMap (zar g))).filter fun q=>decide (q ∉ all)
  let all':=za3 zbi (all++last')
  if most<(all'.length:Int) then ([],2) else zdh g most f all' last'
def zeM (g:zab) (p:zaf) (most:Int):List zaf×Int:=zdh g most (most.toNat+3) [p] [p]
theorem zwP (g:zab) (p:zaf) (i:Nat){all:List zaf} (ha:∀q,q ∈ all↔q ∈ zfh g p i):
  (za3 zbi ((zee g p i).flatMap (zar g))).filter (fun q=>decide (q ∉ all))=zee g p (i+1):=by
 refine zo1 (List.Pairwise.filter _ (zcR zaU _)) (by rw [zib];exact zcR zaU _) fun q=> ?_
 rw [List.mem_filter,zaG,List.mem_flatMap,decide_eq_true_eq,ha,zes]
theorem zmC {g:zab}{most:Int}{p:zaf}:∀ (f:Nat) (i:Nat){all:List zaf},Inc all→(∀q,q ∈ all↔q ∈ zfh g p i)→((all.length:Int)≤most∨i=0)→(zdh g most f all (zee g p i)).2=0→
  ∃j,i≤j∧zee g p j= []∧Inc (zdh g most f all (zee g p i)).1∧(∀q,q ∈ (zdh g most f all (zee g p i)).1↔q ∈ zfh g p j)∧(((zdh g most f all (zee g p i)).1.length:Int)≤most∨j=0)
 |0,i,all, _, _, _,h=>by simp [zdh] at h
 |f+1,i,all,hi,ha,hl,h=>by
  rw [zdh] at h ⊢
  by_cases hz:zee g p i= []
  ·rw [if_pos hz]
   exact ⟨i,Nat.le_refl _,hz,hi,ha,hl⟩
  ·rw [if_neg hz] at h ⊢
   simp only at h ⊢
   rw [zwP g p i ha] at h ⊢
   split at h
   ·simp at h
   ·rename_i hm
    rw [if_neg hm]
    obtain ⟨j,h1,h2⟩:=zmC f (i+1) (zcR zaU (all++zee g p (i+1))) (fun q=>by rw [zaG,List.mem_append,ha,zo8]) (.inl aa) h
    exact ⟨j,aa,h2⟩
theorem ztE {g:zab} (hg:GOk g){p:zaf} (hp:POk g p){most:Int} (h0:0≤most) (h1:most≤4000) (h:(zeM g p most).2=0):
  zc6 (zau g p most)=true∧(zeM g p most).1=zbE g p most∧((zbE g p most).length:Int)≤most:=by
 unfold zeM at h ⊢
 rw [show [p]=zee g p 0 from rfl] at h ⊢
 obtain ⟨j, _,h2,h3,h4,h5⟩:=zmC (most.toNat+3) 0 (all:=zee g p 0) (by rw [ze2];exact List.pairwise_singleton _ _) (fun q=>Iff.rfl) (.inr rfl) h
 have hj:j≠0:=by
  rintro rfl
  rw [ze2] at h2
  cases h2
 have h5:=h5.resolve_right hj
 have hlen:((zfh g p j).length:Int)≤most:=by
  have:=zdc (zlD hg hp j).nd fun q hq=>(h4 q).2 hq
  omega
 obtain ⟨hf,hmem⟩:=zqD hg hp h2 h0 h1 hlen
 have he:=zo1 h3 (zdL g p most) fun q=>by rw [h4,hmem]
 refine ⟨hf,he, ?_⟩
 rw [← he]
 exact h5
def zsj (l:List zaf) (q:zaf):List zaf:=if q ∈ l then l else l++ [q]
def zsm (g:zab):Nat→Nat→List zaf→List zaf×Int
 |0, _, _=>([],2)
 |f+1,i,l=>if i<l.length then (if 4000<((zar g (nth l i)).foldl zsj l).length then ([],2) else zsm g f (i+1) ((zar g (nth l i)).foldl zsj l)) else (za3 zbi l,0)
def allV (g:zab) (p:zaf):List zaf×Int:=zsm g 4002 0 [p]
theorem zgB:∀ (m l:List zaf){q:zaf},q ∈ m.foldl zsj l↔q ∈ l∨q ∈ m
 | [],l,q=>ad
 |r::m,l,q=>by
  rw [List.foldl_cons,zgB m]
  unfold zsj
  split
  ·rename_i h
   simp only [List.mem_cons]
   constructor
   ·rintro (h1|h1)
    ·exact .inl h1
    ·exact .inr (.inr h1)
   ·rintro (h1|rfl|h1)
    ·exact .inl h1
    ·exact .inl h
    ·exact .inr h1
  ·simp only [List.mem_append,List.mem_cons,List.not_mem_nil,or_false]
   exact or_assoc
theorem znb:∀ (m l:List zaf),l.Nodup→(m.foldl zsj l).Nodup
 | [],l,h=>h
 |r::m,l,h=>by
  rw [List.foldl_cons]
  refine znb m _ ?_
  unfold zsj
  split
  ·exact h
  ·rename_i hr
   refine List.nodup_append.2 ⟨h,ad, ?_⟩
   intro a ha b hb e
   simp only [List.mem_singleton] at hb
   subst hb;subst e
   exact hr ha
theorem ztM:∀ (m l:List zaf),∃r,m.foldl zsj l=l++r
 | [],l=>⟨[],ad⟩
 |x::m,l=>by
  rw [List.foldl_cons]
  obtain ⟨r,hr⟩:=ztM m (zsj l x)
  unfold zsj at hr
  unfold zsj
  split at hr
  ·rename_i h
   rw [if_pos h]
   exact ⟨r,hr⟩
  ·rename_i h
   rw [if_neg h]
   exact ⟨x::r,by rw [hr];simp⟩
theorem ztR {g:zab}{p:zaf}{n:Int} (hf:zc6 (zau g p n)=true) (hn:((zbE g p n).length:Int)≤4000):∀ (f i:Nat) (l:List zaf),l.Nodup→p ∈ l→(∀q ∈ l,q ∈ zbE g p n)→(∀j,j<i→j<l.length→∀q ∈ zar g (nth l j),q ∈ l)→
  i≤l.length→(zbE g p n).length+1≤f+i→zsm g f i l=(zbE g p n,0)
 |0,i,l,h1,h2,h3,h4,h5,h6=>by
  have:=zdc h1 h3
  omega
 |f+1,i,l,h1,h2,h3,h4,h5,h6=>by
  rw [zsm]
  split
  ·rename_i hi
   have hmem:∀q ∈ (zar g (nth l i)).foldl zsj l,q ∈ zbE g p n:=fun q hq=>by
    rcases (zgB _ _).1 hq with h|h
    ·exact h3 q h
    ·exact zb6.2 (zlu hf (zb6.1 (h3 _ (zag hi))) h)
   have hnd:=znb (zar g (nth l i)) l h1
   have hle:=zdc hnd hmem
   rw [if_neg aa]
   obtain ⟨r,hr⟩:=ztM (zar g (nth l i)) l
   have hnth:∀j,j<l.length→nth ((zar g (nth l i)).foldl zsj l) j=nth l j:=fun j hj=>by
    rw [hr]
    unfold nth
    rw [List.getD_eq_getElem?_getD,List.getD_eq_getElem?_getD,List.getElem?_append_left hj]
   refine ztR hf hn f (i+1) _ hnd ((zgB _ _).2 (.inl h2)) hmem (fun j hj hjl q hq=> ?_) ?_ aa
   ·rw [hnth j aa] at hq
    by_cases e:j=i
    ·subst e
     exact (zgB _ _).2 (.inr hq)
    ·exact (zgB _ _).2 (.inl (h4 j aa aa q hq))
   ·rw [hr,List.length_append]
    omega
  ·rename_i hi
   refine Prod.ext ?_ rfl
   refine zo1 (zcR zaU _) (zdL g p n) fun q=> ?_
   rw [zaG]
   refine ⟨h3 q,fun hq=> ?_⟩
   obtain ⟨k, _,hk⟩:=zbn.1 (zb6.1 hq)
   have key:∀ (k:Nat) {q:zaf},q ∈ zee g p k→q ∈ l:=by
    intro k
    induction k with
    |zero=>
     intro q hq
     rw [ze2] at hq
     simp only [List.mem_singleton] at hq
     rw [hq]
     exact h2
    |succ k ih=>
     intro q hq
     obtain ⟨⟨r,hr,hm⟩, _⟩:=zes.1 hq
     obtain ⟨j,hj,rfl⟩:=zlT (ih hr)
     exact h4 j aa hj q hm
   exact key k hk
theorem zxo {g:zab}{p:zaf}{n:Int} (hf:zc6 (zau g p n)=true) (hn:((zbE g p n).length:Int)≤4000) (hp:p ∈ zbE g p n):allV g p=(zbE g p n,0):=
 ztR hf hn 4002 0 [p] ad ad (fun q hq=>by simp only [List.mem_singleton] at hq;rw [hq];exact hp) (fun j hj=>by omega) ad aa
def lp (p:zaf) (t:List zaf):List zaf:=p::t
theorem zul (p:zaf) (t:List zaf):(lp p t).length=t.length+1:=rfl
theorem lp_app (p:zaf) (t:List zaf) (q:zaf):lp p (t++ [q])=lp p t++ [q]:=rfl
theorem zCD (p:zaf):lp p []= [p]:=rfl
def zox (p:zaf) (t:List zaf) (q:zaf):List zaf:=if q ∈ lp p t then t else t++ [q]
theorem zC7 (p:zaf) (t:List zaf) (q:zaf):zsj (lp p t) q=lp p (zox p t q):=by
 unfold zsj zox
 split
 ·rfl
 ·rfl
theorem zoV (p:zaf):∀ (m t:List zaf),m.foldl zsj (lp p t)=lp p (m.foldl (zox p) t)
 | [],t=>rfl
 |q::m,t=>by
  rw [List.foldl_cons,List.foldl_cons,zC7,zoV p m]
theorem zvR (p:zaf) (t l:List zaf){j:Nat} (hj:j<l.length):(l.take (j+1)).foldl (zox p) t=zox p ((l.take j).foldl (zox p) t) (nth l j):=by
 rw [List.take_add_one,List.getElem?_eq_getElem hj,zap _ _ hj,Option.toList_some,List.foldl_append]
 rfl
theorem zqz (p:zaf):∀ (m t:List zaf),(m.foldl (zox p) t).length≤t.length+m.length
 | [],t=>ad
 |q::m,t=>by
  rw [List.foldl_cons]
  have h1:=zqz p m (zox p t q)
  have h2:(zox p t q).length≤t.length+1:=by unfold zox;split<;>simp
  simp only [List.length_cons]
  omega
theorem zns (p:zaf):∀ (m t:List zaf),t.length≤(m.foldl (zox p) t).length
 | [],t=>ad
 |q::m,t=>by
  rw [List.foldl_cons]
  have h1:=zns p m (zox p t q)
  have h2:t.length≤(zox p t q).length:=by unfold zox;split<;>simp
  omega
theorem zyq (p:zaf) (m t:List zaf){q:zaf}:q ∈ lp p (m.foldl (zox p) t)↔q ∈ lp p t∨q ∈ m:=by
 rw [← zoV,zgB]
theorem zAe (g:zab) (hg:GOk g) (p:zaf) (hp:POk g p):zaD Tryz.prog 8 [.agg (zac g), .agg (zae p)] (.tup [zaC (allV g p).1, .int (allV g p).2]):=by
 have hK0:=zh7 hg hp
 obtain ⟨R,hR⟩:∃R,R=allV g p:=⟨_,rfl⟩
 rw [← hR]
 have hR0:R=zsm g 4002 0 (lp p []):=hR
 clear hR
 have hegl:(zac g).length=9:=rfl
 have hegb:∀n,(∀c ∈ zac g,Bel n c)=True:=fun n=>ae
 refine pF Tryz.func8 ?_
 refine J0 ?_
 refine aP hK0 ?_
 repeat first|refine wV fun _=>?_|simp [go_sem,zeu]
 refine zEp (zEs (α:=Nat×List zaf) (fun a=>⟨[(2, .ref 0 0 9 0 0),(6, .mp 2),(7, .sl 3 a.2.length 5 0 (a.2.length+1)),(8, .int a.1)], [(0, .rows true 0 9 [zac g]),(2, .rows true 0 2 ((lp p a.2).map zfP)),(3, .rows true a.2.length 5 ((lp p a.2).map zae))],4⟩)
  (fun d a=>a.1+d=4002∧a.2.length≤3999∧a.1≤a.2.length+1∧(∀q ∈ lp p a.2,POk g q)∧R=zsm g d a.1 (lp p a.2)) ?_ 4002 (0, []) ?_) ?_ ?_
 rotate_left
 ·refine ⟨rfl,ad,ad,fun q hq=> ?_,hR0⟩
  rw [zCD,List.mem_singleton] at hq
  rw [hq]
  exact hp
 ·simp [go_sem,zad,zCD,zfP]
 ·simp
 rintro d ⟨i,t⟩ ⟨i1,i2,i3,i4,i5⟩ hrec
 simp only at i1 i2 i3 i4 i5
 obtain ⟨d,rfl⟩:∃d',d=d'+1:=⟨d - 1,aa⟩
 have hl:=zul p t
 rw [zsm,zoV] at i5
 refine J1 hl ?_
 refine zEr (fun hi=> ?_) (fun hi=> ?_)<;>simp at hi
 ·have hil:i<(lp p t).length:=by omega
  rw [if_pos hil,zul] at i5
  have hp0:=i4 _ (zag hil)
  have hM:=zgz g hg _ hp0
  have hml:=zej hg hp0
  have hmo:=fun m hm=>(zcu hg hp0 m hm).1
  generalize hn:nth (lp p t) i=p0 at *
  generalize hmv:zar g p0=mv at *
  obtain ⟨T,hT⟩:∃T:Nat→List zaf,∀j,T j=(mv.take j).foldl (zox p) t:=⟨_,fun _=>rfl⟩
  have hT0:T 0=t:=by rw [hT];rfl
  have hTs:∀j,j<mv.length→T (j+1)=zox p (T j) (nth mv j):=fun j hj=>by rw [hT,hT,zvR p t mv hj]
  have hTn:T mv.length=mv.foldl (zox p) t:=by rw [hT,List.take_length]
  have hTl:∀j,(T j).length≤3999+472446:=fun j=>by
   rw [hT]
   have h1:=zqz p (mv.take j) t
   have h2:(mv.take j).length≤mv.length:=ak
   omega
  have hTg:∀j,t.length≤(T j).length:=fun j=>by rw [hT];exact zns p _ t
  have hTo:∀j,∀q ∈ lp p (T j),POk g q:=fun j q hq=>by
   rw [hT,zyq] at hq
   rcases hq with h|h
   ·exact i4 q h
   ·exact hmo q (List.mem_of_mem_take h)
  rw [← hTn] at i5
  clear hT
  have hnm:nth ((lp p t).map zae) i=zae p0:=by rw [za9 _ _ _ hil,hn]
  refine J2 hl hnm ?_
  refine dP hM ?_
  refine J1 hl ?_
  refine zEp (zEs (α:=Nat) (fun j=>⟨[(2, .ref 0 0 9 0 0),(6, .mp 2),(7, .sl 3 (T j).length 5 0 ((T j).length+1)),(8, .int i),(29,zaC mv),(30, .int mv.length),(31, .int j)], [(0, .rows true 0 9 [zac g]),(2, .rows true 0 2 ((lp p (T j)).map zfP)),(3, .rows true (T j).length 5 ((lp p (T j)).map zae))],4⟩)
   (fun d j=>j+d=mv.length) ?_ mv.length 0 ?_) ?_ ?_
  ·rintro d3 j j1 hrec3
   refine J0 ?_
   refine zEr (fun hj=> ?_) (fun hj=> ?_)<;>simp at hj
   ·have hqo:=hmo _ (zag hj)
    have hKq:=zh7 hg hqo
    have hTj:=hTs j hj
    have hTb:=hTl j
    have hin:∀u ∈ lp p (T j),zgU (nth mv j)=zgU u→nth mv j=u:=fun u hu e=>zo6 hg hqo (hTo j u hu) e
    have hfind:=ziX _ _ hin
    have hput:=zma _ _ hin
    unfold zox at hTj
    generalize hq:nth mv j=q at *
    generalize T j=tj at *
    have hl2:=zul p tj
    have hla:=lp_app p tj q
    rw [← hla] at hput
    refine J2 hj hq ?_
    refine aP hKq ?_
    by_cases hmem:q ∈ lp p tj
    ·rw [if_pos hmem] at hTj hfind
     refine J1 hfind ?_
     refine zEp (hrec3 (d3 - 1) aa (j+1) aa) ?_ ad
     simp [go_sem,zad,hTj]
    ·rw [if_neg hmem] at hTj hfind
     have hput:=hput hmem
     refine J3 hfind hput hl2 ?_
     refine zEp (hrec3 (d3 - 1) aa (j+1) aa) ?_ ad
     simp [go_sem,zad,hTj,hla]
     intro c hc
     simp only [zfP,List.mem_cons,List.not_mem_nil,or_false] at hc
     rcases hc with rfl|rfl<;>exact .v _
   ·obtain rfl:j=mv.length:=by omega
    have hb:=hTl mv.length
    have ho:=hTo mv.length
    have hgr:=hTg mv.length
    generalize T mv.length=t2 at *
    have hl2:=zul p t2
    refine J1 hl2 ?_
    refine zEr (fun h4=> ?_) (fun h4=> ?_)<;>simp at h4
    ·rw [if_pos aa] at i5
     rw [i5]
     exact K0
    ·rw [if_neg aa] at i5
     refine J0 ?_
     refine zEp (hrec d aa (i+1,t2) ⟨ah,ah,ah,ho,i5⟩) ?_ ad
     simp [go_sem,zad]
  ·simp
  ·simp [go_sem,zad,hT0]
  ·simp
 ·rw [if_neg aa] at i5
  have hSo:=zc0 (lp p t) aa (fun q hq=>(i4 q hq).fits hg)
  rw [i5]
  generalize lp p t=l at *
  refine J1 hl ?_
  rw [← hl]
  refine zEv [3] hSo ?_ (zsr (zbk _)) ?_
  ·(first|done|exact agX)
  ·exact K0
def zke (g:zab) (all last:List zaf):List zaf:=(za3 zbi (last.flatMap (zar g))).filter fun q=>decide (q ∉ all)
theorem zpr (g:zab) (most:Int) (f:Nat) (all last:List zaf):zdh g most (f+1) all last=if last= [] then (all,0) else if most<((za3 zbi (all++zke g all last)).length:Int) then ([],2) else zdh g most f (za3 zbi (all++zke g all last)) (zke g all last):=rfl
structure WOk (g:zab) (most:Int) (all last:List zaf):Prop where
 inc:Inc all
 ok:∀q ∈ all,POk g q
 len:all.length≤4000
 sub:∀q ∈ last,q ∈ all
 nd:last.Nodup
theorem zyn {g:zab} (hg:GOk g){l:List zaf} (h:∀q ∈ l,POk g q):∀q ∈ l.flatMap (zar g),POk g q:=fun q hq=>by
 obtain ⟨r,hr,hm⟩:=List.mem_flatMap.1 hq
 exact (zcu hg (h r hr) q hm).1
theorem zuM {g:zab} (hg:GOk g){l:List zaf} (h:∀q ∈ l,POk g q) (all:List zaf):∀q ∈ zke g all l,POk g q:=fun q hq=>by
 have:=(List.mem_filter.1 hq).1
 rw [zaG] at this
 exact zyn hg h q this
theorem zzV {g:zab}{all l:List zaf}{q:zaf} (h:q ∈ zke g all l):q ∉ all:=by
 simpa using (List.mem_filter.1 h).2
theorem WOk.next {g:zab} (hg:GOk g){most:Int}{all last:List zaf} (h:WOk g most all last) (hl:(za3 zbi (all++zke g all last)).length≤4000):WOk g most (za3 zbi (all++zke g all last)) (zke g all last):=by
 refine ⟨zcR zaU _,fun q hq=> ?_,hl,fun q hq=> ?_,(zh6 (zcR zaU _)).filter _⟩
 ·rw [zaG,List.mem_append] at hq
  rcases hq with hq|hq
  ·exact h.ok q hq
  ·exact zuM hg (fun r hr=>h.ok r (h.sub r hr)) all q hq
 ·rw [zaG,List.mem_append]
  exact .inr hq
theorem zwN {g:zab}{all last:List zaf} (hi:all.Nodup) (h:zke g all last≠ []):all.length+1≤(za3 zbi (all++zke g all last)).length:=by
 obtain ⟨q,hq⟩:=List.exists_mem_of_ne_nil _ h
 have:=zdc (l:=q::all) (r:=za3 zbi (all++zke g all last)) (List.nodup_cons.2 ⟨zzV hq,hi⟩) fun x hx=>by
  rw [zaG,List.mem_append]
  rcases List.mem_cons.1 hx with rfl|hx
  ·exact .inr hq
  ·exact .inl hx
 simpa using this
theorem zsd (g:zab) (hg:GOk g) (p:zaf) (hp:POk g p) (most:Int) (hm:0≤most∧most≤4000):
  zaD Tryz.prog 22 [.agg (zac g), .agg (zae p), .int most] (.agg [zaC (zeM g p most).1, .int (zeM g p most).2]):=by
 obtain ⟨R,hR⟩:∃R,R=zeM g p most:=⟨_,rfl⟩
 rw [← hR]
 unfold zeM at hR
 have hegl:(zac g).length=9:=rfl
 have hegb:∀n,(∀c ∈ zac g,Bel n c)=True:=fun n=>ae
 refine pF Tryz.func22 ?_
 refine J0 ?_
 refine zEp (zEs (α:=List zaf×List zaf) (fun a=>⟨[(2, .int most),(3, .ref 0 0 9 0 0),(6, .ref 2 0 2 0 0),(7,zaC a.1),(8,zaC a.2)], [(0, .rows true 0 9 [zac g]),(2, .rows true 0 2 [[.v (.slice none 0 0), .int 0]])],3⟩)
  (fun d a=>WOk g most a.1 a.2∧((a.1.length:Int)≤most∨a.1.length=1)∧(if a.2= [] then 1≤d else most+4≤d+a.1.length)∧R=zdh g most d a.1 a.2) ?_ (most.toNat+3) ([p], [p]) ?_) ?_ ?_
 rotate_left
 ·refine ⟨⟨by simp [Inc],by simp [hp],ad,ad,ad⟩, .inr rfl, ?_,hR⟩
  simp
  omega
 ·simp [go_sem,zad]
  refine ⟨zak rfl ad aB ad,zak rfl ad aB ad⟩
 ·simp
 rintro d ⟨all,last⟩ ⟨i1,i2,i3,i4⟩ hrec
 simp only at i1 i2 i3 i4
 obtain ⟨d,rfl⟩:∃d',d=d'+1:=by
  by_cases h:last= []
  ·rw [if_pos h] at i3;exact ⟨d - 1,aa⟩
  ·rw [if_neg h] at i3;exact ⟨d - 1,aa⟩
 rw [zpr] at i4
 have hal:=i1.len
 have hll:last.length≤4000:=Nat.le_trans (zdc i1.nd i1.sub) hal
 refine J0 ?_
 refine zEr (fun hz=> ?_) (fun hz=> ?_)<;>simp at hz
 ·have hne:last≠ []:=fun e=>by rw [e] at hz;simp at hz
  rw [if_neg hne] at i3 i4
  have hlo:∀q ∈ last,POk g q:=fun q hq=>i1.ok q (i1.sub q hq)
  obtain ⟨A,hA⟩:∃A:Nat→List zaf,∀i,A i=(last.take i).flatMap (zar g):=⟨_,fun _=>rfl⟩
  have hAl:∀i,(A i).length≤4000 * 472446:=fun i=>by
   rw [hA]
   have h2:=zcA hg (now:=last.take i) (fun q hq=>hlo q (List.mem_of_mem_take hq))
   have h3:(last.take i).length * 472446≤4000 * 472446:=Nat.mul_le_mul_right _ ak
   exact Nat.le_trans h2 h3
  have hA0:A 0= []:=by rw [hA];rfl
  have hAs:∀i,i<last.length→A (i+1)=A i++zar g (nth last i):=fun i hi=>by
   rw [hA,hA,List.take_add_one,List.getElem?_eq_getElem hi,zap _ _ hi,Option.toList_some,List.flatMap_append]
   simp
  have hAn:A last.length=last.flatMap (zar g):=by rw [hA,List.take_length]
  clear hA
  refine J0 ?_
  refine zEp (zEs (α:=Nat) (fun i=>⟨[(2, .int most),(3, .ref 0 0 9 0 0),(6, .ref 2 0 2 0 0),(7,zaC all),(8,zaC last),(9, .sl 3 i 5 0 (A i).length),(10, .int i)], [(0, .rows true 0 9 [zac g]),(2, .rows true 0 2 [[.v (.slice none 0 0), .int 0]]),(3, .rows true i 5 ((A i).map zae))],4⟩)
   (fun d i=>i+d=last.length) ?_ last.length 0 ?_) ?_ ?_
  rotate_left
  ·simp
  ·simp [go_sem,zad,hA0]
  ·simp
  rintro d2 i j1 hrec2
  refine J0 ?_
  refine zEr (fun hi=> ?_) (fun hi=> ?_)<;>simp at hi
  ·have hM:=zjv g hg _ (hlo _ (zag hi))
   have hml:=zej hg (hlo _ (zag hi))
   have hAs:=hAs i hi
   have hAi:=hAl i
   have hnm:nth (last.map zae) i=zae (nth last i):=za9 _ _ _ hi
   generalize nth last i=p0 at *
   generalize zar g p0=mv at *
   generalize A i=a0 at *
   refine J1 hnm ?_
   refine dP hM ?_
   refine J1 hnm ?_
   refine zEp (hrec2 (d2 - 1) aa (i+1) aa) ?_ ad
   simp [go_sem,zad,hAs]
  ·obtain rfl:i=last.length:=by omega
   rw [hAn]
   have hfo:=zyn hg hlo
   have hfl:=hAl last.length
   rw [hAn] at hfl
   have hSo:=zfm (last.flatMap (zar g)) aa (fun q hq=>(hfo q hq).fits hg)
   have hwo:=zuM hg hlo all
   have hwn:=i1.next hg
   have hwg:=zwN (g:=g) (last:=last) (zh6 i1.inc)
   unfold zke at hwo hwn hwg i4
   have hso:∀q ∈ za3 zbi (last.flatMap (zar g)),POk g q:=fun q hq=>hfo q (zaG.1 hq)
   have hsl:(za3 zbi (last.flatMap (zar g))).length≤4000 * 472446:=Nat.le_trans (zdz _ _) hfl
   generalize last.flatMap (zar g)=fl at *
   generalize za3 zbi fl=nx at *
   refine J0 ?_
   refine zEv [3] hSo ?_ (zsr (zbk _)) ?_
   ·(first|done|exact agX)
   refine J0 ?_
   obtain ⟨B,hB⟩:∃B:Nat→List zaf,∀j,B j=(nx.take j).filter fun q=>decide (q ∉ all):=⟨_,fun _=>rfl⟩
   have hBl:∀j,(B j).length≤4000 * 472446:=fun j=>by
    rw [hB]
    refine Nat.le_trans (List.length_filter_le _ _) (Nat.le_trans ?_ hsl)
    simp
    omega
   have hB0:B 0= []:=by rw [hB];rfl
   have hBs:∀j,j<nx.length→B (j+1)=if nth nx j ∈ all then B j else B j++ [nth nx j]:=fun j hj=>by
    rw [hB,hB,List.take_add_one,List.getElem?_eq_getElem hj,zap _ _ hj,Option.toList_some,List.filter_append]
    by_cases h:nx[j] ∈ all<;>simp [h]
   have hBn:B nx.length=nx.filter fun q=>decide (q ∉ all):=by rw [hB,List.take_length]
   clear hB
   refine zEp (zEs (α:=Nat) (fun j=>⟨[(2, .int most),(3, .ref 0 0 9 0 0),(6, .ref 2 0 2 0 0),(7,zaC all),(8, .sl 4 (B j).length 5 0 (B j).length),(9,zaC nx),(11, .int j)], [(0, .rows true 0 9 [zac g]),(2, .rows true 0 2 [[.v (.slice none 0 0), .int 0]]),(4, .rows true (B j).length 5 ((B j).map zae))],5⟩)
    (fun d j=>j+d=nx.length) ?_ nx.length 0 ?_) ?_ ?_
   rotate_left
   ·simp
   ·simp [go_sem,zad,hB0]
   ·simp
   rintro d3 j k1 hrec3
   have hBj:=hBl j
   refine J0 ?_
   refine zEr (fun hj=> ?_) (fun hj=> ?_)<;>simp at hj
   ·have hF:=zdt all i1.inc aa (fun q hq=>(i1.ok q hq).fits hg) _ ((hso _ (zag hj)).fits hg)
    have hFm:=zfu i1.inc (p:=nth nx j)
    have hBs:=hBs j hj
    have hnm:nth (nx.map zae) j=zae (nth nx j):=za9 _ _ _ hj
    generalize nth nx j=q at *
    generalize zrH all q=fi at *
    generalize B j=bj at *
    refine J1 hnm ?_
    refine aP hF ?_
    refine J1 hnm ?_
    refine zEr (fun hfi=> ?_) (fun hfi=> ?_)<;>simp at hfi
    ·rw [if_neg (fun h=>by have:=hFm.2 h;omega)] at hBs
     refine J1 hnm ?_
     refine zEp (hrec3 (d3 - 1) aa (j+1) aa) ?_ ad
     simp [go_sem,zad,hBs]
    ·rw [if_pos (hFm.1 aa)] at hBs
     refine J1 hnm ?_
     refine zEp (hrec3 (d3 - 1) aa (j+1) aa) ?_ ad
     simp [go_sem,zad,hBs]
   ·obtain rfl:j=nx.length:=by omega
    rw [hBn] at hBj ⊢
    have hao:=i1.ok
    generalize (nx.filter fun q=>decide (q ∉ all))=la at *
    have hS2:=zfm (all++la) ak (fun q hq=>by
     rcases List.mem_append.1 hq with hq|hq
     ·exact (hao q hq).fits hg
     ·exact (hwo q hq).fits hg)
    have hta:List.take la.length (la.map zae)=la.map zae:=List.take_of_length_le ad
    have hsl2:=zdz zbi (all++la)
    rw [List.length_append] at hsl2
    refine J1 hta ?_
    refine zEv [5] hS2 ?_ (zsr (zbk _)) ?_
    ·(first|done|exact agX)
    generalize za3 zbi (all++la)=al2 at *
    refine J0 ?_
    refine zEr (fun hmo=> ?_) (fun hmo=> ?_)<;>simp at hmo
    ·rw [if_pos aa] at i4
     rw [i4]
     exact K0
    ·rw [if_neg aa] at i4
     refine J0 ?_
     refine zEp (hrec d aa (al2,la) ⟨hwn aa, .inl ah, ?_,i4⟩) ?_ ad
     ·simp only
      by_cases hla:la= []
      ·rw [if_pos hla];omega
      ·rw [if_neg hla]
       have:=hwg hla
       omega
     ·simp [go_sem,zad]
      exact zak rfl ad aB (by rw [List.drop_zero,hta])
 ·have hne:last= []:=by simpa using hz
  rw [if_pos hne] at i4
  rw [i4]
  exact K0
def zoK (g:zab) (p:zaf) (w:List zaf×Int):List AV:=zac g++(zae p++ [zaC w.1, .v (.bool (decide (w.2=0)))])
theorem zr7 (x:zwW) (hx:zjw x) (most:Int) (hm:0≤most∧most≤4000) (hg:GOk (zcp x)) (hp:POk (zcp x) (zAb x)):
  zaD Tryz.prog 5 [.agg (zd9 x), .int most] (.agg (zoK (zcp x) (zAb x) (zeM (zcp x) (zAb x) most))):=by
 have hM:=zr5 x hx
 have hW:=zsd (zcp x) hg (zAb x) hp most hm
 unfold zoK
 have hr6:∃er,er=zd9 x:=⟨_,rfl⟩
 obtain ⟨er,her⟩:=hr6
 have herl:er.length=31:=by rw [her];exact zuD hx
 have herb:∀n,(∀c ∈ er,Bel n c)=True:=fun n=>by rw [her];exact zuC hx n
 rw [← her] at hM ⊢
 generalize zcp x=g at *
 generalize zAb x=p at *
 generalize zeM g p most=w at *
 refine pF Tryz.func5 ?_
 have hegl:(zac g).length=9:=rfl
 have hegb:∀n,(∀c ∈ zac g,Bel n c)=True:=fun n=>ae
 refine J2 herl herb ?_
 refine zEt hM (by simp [go_sem,herb]) ?_
 refine J2 herl herb ?_
 refine aP hW ?_
 exact K2 herl herb
theorem ztW {n:Nat}{l:List (List AV)}{i:Nat}{v:Value} (h:∀r ∈ l,∀c ∈ r,Bel n c):∀r ∈ l.set i [.v v],∀c ∈ r,Bel n c:=by
 intro r hr c hc
 rcases List.mem_or_eq_of_mem_set hr with hr|rfl
 ·exact h r hr c hc
 ·simp only [List.mem_singleton] at hc
  subst hc
  exact .v _
theorem za4 {n:Nat} (l:List Int):∀r ∈ l.map zaB,∀c ∈ r,Bel n c:=by
 intro r hr c hc
 obtain ⟨x, _,rfl⟩:=List.mem_map.1 hr
 simp only [zaB,List.mem_singleton] at hc
 subst hc
 exact .v _
theorem nofz_A {l:List zc7}:(∀r ∈ l.map zcC,∀c ∈ r,zfV c)=True:=by
 refine eq_true ?_
 intro r hr c hc
 obtain ⟨x, _,rfl⟩:=List.mem_map.1 hr
 revert c
 simp [go_sem]
attribute [go_sem ↓] nofz_A
theorem zw6 (m:Int) (h0:0≤m) (h1:m≤17179869184):zhb Tryz.prog 179 [AV.nils, .int m] (fun n=> .sl n 0 3 0 0) (fun n=> [(n, .rows true 0 3 [])]) 1:=by
 refine ⟨?_,fun n=>⟨ae,ae⟩⟩
 by_cases hm:m=0
 ·subst hm
  refine aF Tryz.func179 ?_
  refine J0 ?_
  simp [go_sem,zad]
 ·refine zah.clear ?_
  refine aF Tryz.func179 ?_
  refine J0 ?_
  refine FxF ?_
  refine J0 ?_
  refine FxT ?_
  refine J0 ?_
  refine ⟨0,0,3,am,⟨rfl,rfl,rfl⟩, ?_⟩
  simp [go_sem,zad]
theorem zrL (a b:List zc7) (ha:a.length≤1048576) (hb:b.length≤1048576):zhb Tryz.prog 153 [.lst 1 [[zdi a], [zdi b]]]
  (fun n=> .sl n 2 3 0 (a.length+b.length)) (fun n=> [(n, .rows true 2 3 ((a++b).map zcC))]) 1:=by
 refine ⟨?_,fun n=>⟨ae,ae⟩⟩
 refine aF Tryz.func153 ?_
 refine J0 ?_
 refine zEq ?_
 refine J0 ?_
 refine FxF ?_
 refine J0 ?_
 refine zEq ?_
 refine J0 ?_
 refine FxF ?_
 refine J0 ?_
 refine zEq ?_
 refine J0 ?_
 refine zEu (zw6 _ aa aa) ae ?_
 refine J0 ?_
 refine zEq ?_
 refine J0 ?_
 refine zEq ?_
 refine J0 ?_
 refine zEq ?_
 refine J0 ?_
 simp [go_sem,zad]
theorem zyg (p:zaT) (to:Int) (more:List zc7) (ha:p.acts.length≤1048576) (hb:more.length≤1048576):zhb Tryz.prog 152 [.int to,zdi more, .fp (zaK p)]
  (fun n=> .agg [.sl (n+2) 2 3 0 (p.acts.length+more.length), .int to]) (fun n=> [(n+2, .rows true 2 3 ((p.acts++more).map zcC))]) 3:=by
 refine ⟨?_,fun n=>⟨ae,ae⟩⟩
 refine aF Tryz.func152 ?_
 refine J0 ?_
 refine zEC (zrL p.acts more ha hb) ae ae ?_ ae ?_
 ·simp only [zdi]
  refine zav.cons ?_ zav.nil
  refine zak rfl ad aB ?_
  simp [go_sem]
 ·refine J0 ?_
  simp [go_sem,zad]
theorem zit (p:zaT):∀ (l:List Int) (passed:List zc7) (c:Int),zcd p (l++ [c]) passed=zcd p l passed++ [onP p c (passed++l.map fun c=>(3,c,0))]
 | [],passed,c=>by simp [zcd,onP]
 |d::l,passed,c=>by simp [zcd,zit p l]
def zje (l:List Int):List zc7:=l.map fun c=>(3,c,0)
theorem zrc (l:List Int) (c:Int):zje (l++ [c])=zje l++ [(3,c,0)]:=by simp [zje]
theorem zzm (l:List Int):(zje l).length=l.length:=by simp [zje]
theorem ztr (p:zaT) (l:List Int){i:Nat} (h:i<l.length):zcd p (l.take (i+1)) []=zcd p (l.take i) []++ [onP p (nth l i) (zje (l.take i))]∧zje (l.take (i+1))=zje (l.take i)++ [(3,nth l i,0)]:=by
 rw [List.take_add_one,List.getElem?_eq_getElem h,zap _ _ h,Option.toList_some,zit,zrc]
 exact ⟨by simp [zje],rfl⟩
theorem zsJ (b:zay) (hb:zaP b) (h9:b.cells≤9) (side:Int) (p:zaT) (hp:p.acts.length≤1000000) (x:Int×Int):
  zaD Tryz.prog 107 [.agg (zco b), .int side, .agg (zaK p), .agg [.int x.1, .int x.2]] (zc5 (zko b side p x)):=by
 refine pF Tryz.func107 ?_
 obtain ⟨op,N⟩:=x
 have hT:=zhI b hb side N p.to
 have hL:=zng b hb side N p.to
 have hll:=zkw hb (side:=side) (d:=N) (c:=p.to)
 have hO:=fun to more (h:more.length≤1048576)=>zyg p to more aa h
 have hE:zko b side p (op,N)=if op=1∨op=7 then
  if toB b side N p.to<0 then [] else if op=1 then [onP p (toB b side N p.to) []] else [onP p p.to [(7,p.to,toB b side N p.to)]]
  else if op=2 then zcd p (zgf b side N p.to) []
  else if op=8∨op=9∨op=10 then [onP p p.to [(op,N,0)]]
  else [onP p p.to [(op,p.to,0)]]:=rfl
 generalize toB b side N p.to=to at *
 generalize zgf b side N p.to=line at *
 generalize zko b side p (op,N)=R at *
 have hbl:∀n,(∀c' ∈ zco b,Bel n c')=True:=fun n=>ae
 have hel:(zco b).length=3:=rfl
 have hte:(zco b).take 3=zco b:=rfl
 obtain ⟨eb,heb⟩:∃eb,eb=zco b:=⟨_,rfl⟩
 rw [← heb] at hbl hel hT hL hte ⊢
 refine J2 hel hte ?_
 refine zEr (fun h1=> ?_) (fun h1=> ?_)<;>simp at h1
 ·subst h1
  refine J2 hel hte ?_
  refine zEt hT aH ?_
  refine J2 hel hte ?_
  refine zEr (fun ht=> ?_) (fun ht=> ?_)<;>simp at ht
  ·rw [if_pos aa,if_pos ht] at hE
   rw [hE]
   exact K2 hel hte
  ·rw [if_pos aa,if_neg aa,if_pos rfl] at hE
   rw [hE]
   refine J2 hel hte ?_
   refine zEC (hO to [] ad) ae ae ?_ ae ?_
   ·(first|done|exact leX)
   ·repeat first|refine wV fun _=>?_|simp [go_sem,hel,hte,onP]
    (first|done|exact leX)
 ·refine J2 hel hte ?_
  refine zEr (fun h7=> ?_) (fun h7=> ?_)<;>simp at h7
  ·subst h7
   refine J2 hel hte ?_
   refine zEt hT aH ?_
   refine J2 hel hte ?_
   refine zEr (fun ht=> ?_) (fun ht=> ?_)<;>simp at ht
   ·rw [if_pos aa,if_pos ht] at hE
    rw [hE]
    exact K2 hel hte
   ·rw [if_pos aa,if_neg aa,if_neg aa] at hE
    rw [hE]
    refine J2 hel hte ?_
    refine zEC (hO p.to [(7,p.to,to)] ad) ae ae ?_ ae ?_
    ·(first|done|exact leX)
    ·repeat first|refine wV fun _=>?_|simp [go_sem,hel,hte,onP]
     (first|done|exact leX)
  ·rw [if_neg aa] at hE
   refine J2 hel hte ?_
   refine zEr (fun h2=> ?_) (fun h2=> ?_)<;>simp at h2
   ·subst h2
    rw [if_pos rfl] at hE
    refine J2 hel hte ?_
    refine zEt hL aH ?_
    refine J2 hel hte ?_
    refine zEp (zEs (α:=Nat) (fun i=>⟨[(9, .fn (.func 152) [] [.ref 1 0 2 0 0]),(11, .sl 3 i 2 0 i),(12, .sl 4 i 3 0 i),(55,zai line),(56, .int line.length),(57, .int i)],
      [(1, .rows true 0 2 [zaK p]),(3, .rows true i 2 ((zcd p (line.take i) []).map zaK)),(4, .rows true i 3 ((zje (line.take i)).map zcC))],5⟩)
     (fun d i=>i+d=line.length) ?_ line.length 0 ?_) ?_ ?_
    ·rintro d i i1 hrec
     have hsl:(zcd p (line.take i) []).length=i:=by rw [zjm];simp;omega
     have hpl:(zje (line.take i)).length=i:=by rw [zzm];simp;omega
     refine J2 hel hte ?_
     refine zEr (fun hi=> ?_) (fun hi=> ?_)<;>simp at hi
     ·obtain ⟨s1,s2⟩:=ztr p line hi
      refine J1 hi ?_
      refine zEC (hO (nth line i) (zje (line.take i)) aa) ae ae ?_ ae ?_
      ·(first|done|exact Lx1 hpl)
      ·refine J3 hi hsl hpl ?_
       refine zEp (hrec (d - 1) aa (i+1) aa) ?_ ad
       simp [go_sem,zad,s1,s2,onP,hpl]
       (first|done|exact Lx1 hpl)
     ·have hil:i=line.length:=by omega
      subst hil
      rw [List.take_length] at hsl ⊢
      rw [hE]
      refine J1 hsl ?_
      (first|done|exact Lx1 hsl)
    ·simp
    ·simp [go_sem,zad,zcd,zje]
    ·simp
   ·rw [if_neg h2] at hE
    refine J2 hel hte ?_
    refine zEr (fun h8=> ?_) (fun h8=> ?_)<;>simp at h8
    ·subst h8
     rw [if_pos aa] at hE
     rw [hE]
     refine J2 hel hte ?_
     refine zEC (hO p.to [(8,N,0)] ad) ae ae ?_ ae ?_
     ·(first|done|exact leX)
     ·repeat first|refine wV fun _=>?_|simp [go_sem,hel,hte,onP]
      (first|done|exact leX)
    ·refine J2 hel hte ?_
     refine zEr (fun h99=> ?_) (fun h99=> ?_)<;>simp at h99
     ·subst h99
      rw [if_pos aa] at hE
      rw [hE]
      refine J2 hel hte ?_
      refine zEC (hO p.to [(9,N,0)] ad) ae ae ?_ ae ?_
      ·(first|done|exact leX)
      ·repeat first|refine wV fun _=>?_|simp [go_sem,hel,hte,onP]
       (first|done|exact leX)
     ·refine J2 hel hte ?_
      refine zEr (fun h10=> ?_) (fun h10=> ?_)<;>simp at h10
      ·subst h10
       rw [if_pos aa] at hE
       rw [hE]
       refine J2 hel hte ?_
       refine zEC (hO p.to [(10,N,0)] ad) ae ae ?_ ae ?_
       ·(first|done|exact leX)
       ·repeat first|refine wV fun _=>?_|simp [go_sem,hel,hte,onP]
        (first|done|exact leX)
      ·rw [if_neg aa] at hE
       rw [hE]
       refine J2 hel hte ?_
       refine zEC (hO p.to [(op,p.to,0)] ad) ae ae ?_ ae ?_
       ·(first|done|exact leX)
       ·repeat first|refine wV fun _=>?_|simp [go_sem,hel,hte,onP]
        (first|done|exact leX)
def zsM {α β:Type} (F:α→List β) (l:List α) (i:Nat):List β:=(l.take i).flatMap F
theorem zqw {α β:Type} [Inhabited α] (F:α→List β) (l:List α){i:Nat} (h:i<l.length):zsM F l (i+1)=zsM F l i++F (nth l i):=by
 unfold zsM
 rw [List.take_add_one,List.getElem?_eq_getElem h,zap _ _ h,Option.toList_some,List.flatMap_append]
 simp
theorem zqx {α β:Type} (F:α→List β) (l:List α):zsM F l 0= []:=by simp [zsM]
theorem zkp {α β:Type} (F:α→List β) (l:List α):zsM F l l.length=l.flatMap F:=by simp [zsM]
theorem zoT {α β:Type} (F:α→List β) (l:List α) (i:Nat):(zsM F l i).length≤(l.flatMap F).length:=by
 unfold zsM
 conv=>rhs;rw [← List.take_append_drop i l]
 rw [List.flatMap_append,List.length_append]
 omega
theorem zvP (l:List (List (Int×Int))) (hl:l.length≤1048576) (f:FuncId) (caps:List AV) (F:List (Int×Int)→List zaT) (hF:∀x ∈ l,zaD Tryz.prog f (zaW x::caps) (zc5 (F x))) (hb:∀c ∈ caps,Bel 0 c)
  (hn:(l.flatMap F).length≤8589934592):zaD Tryz.prog 59 [.lst 1 (l.map fun p=> [zaW p]), .fn (.func f) [] caps] (zc5 (l.flatMap F)):=by
 refine pF Tryz.func59 ?_
 rw [← zkp F l] at hn ⊢
 refine J0 ?_
 refine zEp (zEs (α:=Nat) (fun i=>⟨[(1, .fn (.func f) [] caps),(5, .sl 0 i 2 0 (zsM F l i).length),(8, .lst 1 (l.map fun p=> [zaW p])),(9, .int l.length),(10, .int i)], [(0, .rows true i 2 ((zsM F l i).map zaK))],1⟩)
  (fun d i=>i+d=l.length) ?_ l.length 0 ?_) ?_ ?_
 ·rintro d i i1 hrec
  have hni:=zoT F l i
  refine J0 ?_
  refine zEr (fun hi=> ?_) (fun hi=> ?_)<;>simp at hi
  ·have hs:=zqw F l hi
   have hns:=zoT F l (i+1)
   rw [hs,List.length_append] at hns
   rw [zkp] at hn
   refine J1 hi ?_
   refine zEt (hF _ (zag hi)) (by simp [go_sem];exact hb) ?_
   refine J1 hi ?_
   refine zEp (hrec (d - 1) aa (i+1) aa) ?_ ad
   simp [go_sem,zad,hs]
   exact fun c hc=>(hb c hc).mono (Nat.zero_le _)
  ·have hil:i=l.length:=by omega
   subst hil
   generalize zsM F l l.length=R at *
   refine J0 ?_
   (first|done|exact leX)
 ·simp
 ·simp [go_sem,zad,zqx]
  exact fun c hc=>(hb c hc).mono (Nat.zero_le _)
 ·simp
theorem zvO (l:List zaT) (hl:l.length≤1073741824) (f:FuncId) (caps:List AV) (F:zaT→List zaT) (hF:∀x ∈ l,zaD Tryz.prog f (.agg (zaK x)::caps) (zc5 (F x))) (hb:∀c ∈ caps,Bel 0 c)
  (hn:(l.flatMap F).length≤8589934592):zaD Tryz.prog 105 [zc5 l, .fn (.func f) [] caps] (zc5 (l.flatMap F)):=by
 refine pF Tryz.func105 ?_
 rw [← zkp F l] at hn ⊢
 refine J0 ?_
 refine zEp (zEs (α:=Nat) (fun i=>⟨[(1, .fn (.func f) [] caps),(5, .sl 0 i 2 0 (zsM F l i).length),(8,zc5 l),(9, .int l.length),(10, .int i)], [(0, .rows true i 2 ((zsM F l i).map zaK))],1⟩)
  (fun d i=>i+d=l.length) ?_ l.length 0 ?_) ?_ ?_
 ·rintro d i i1 hrec
  have hni:=zoT F l i
  refine J0 ?_
  refine zEr (fun hi=> ?_) (fun hi=> ?_)<;>simp at hi
  ·have hs:=zqw F l hi
   have hns:=zoT F l (i+1)
   rw [hs,List.length_append] at hns
   rw [zkp] at hn
   refine J1 hi ?_
   refine zEt (hF _ (zag hi)) (by simp [go_sem];exact hb) ?_
   refine J1 hi ?_
   refine zEp (hrec (d - 1) aa (i+1) aa) ?_ ad
   simp [go_sem,zad,hs]
   exact fun c hc=>(hb c hc).mono (Nat.zero_le _)
  ·have hil:i=l.length:=by omega
   subst hil
   generalize zsM F l l.length=R at *
   refine J0 ?_
   (first|done|exact leX)
 ·simp
 ·simp [go_sem,zad,zqx]
  exact fun c hc=>(hb c hc).mono (Nat.zero_le _)
 ·simp
theorem ztd (b:zay) (hb:zaP b) (h9:b.cells≤9) (side:Int) (p:zaT) (hp:p.acts.length≤1000000) (x:Int×Int):
  zaD Tryz.prog 106 [.agg (zaK p), .fp (zco b), .fp [.int side], .fp [.int x.1, .int x.2]] (zc5 (zko b side p x)):=by
 refine pF Tryz.func106 ?_
 have hE:=zsJ b hb h9 side p hp x
 generalize zko b side p x=R at *
 refine J0 ?_
 refine aP hE ?_
 exact K0
def zdK (b:zay) (side:Int) (prog:List (Int×Int)) (cell:Int) (i:Nat):List zaT:=zbC b side (prog.take i) cell
theorem zhv (b:zay) (side:Int) (prog:List (Int×Int)) (cell:Int){i:Nat} (h:i<prog.length):zdK b side prog cell (i+1)=(zdK b side prog cell i).flatMap fun w=>zko b side w (nth prog i):=by
 unfold zdK zbC
 rw [List.take_add_one,List.getElem?_eq_getElem h,zap _ _ h,Option.toList_some,List.foldl_append]
 rfl
theorem zfz {b:zay} (hb:zaP b) (h9:b.cells≤9) (side:Int) (prog:List (Int×Int)) (cell:Int):∀i,i≤prog.length→zjs (10 * i) (zdK b side prog cell i)
 |0, _=>by
  intro w hw
  simp [zdK,zbC] at hw
  subst hw
  simp
 |i+1,h=>by
  rw [zhv b side prog cell aa]
  exact zwG hb h9 side (zfz hb h9 side prog cell i aa) _
theorem zjf {b:zay} (hb:zaP b) (h1:1≤b.cells) (h9:b.cells≤9) (side:Int) (prog:List (Int×Int)) (hp:prog.length≤8) (cell:Int) (i:Nat):(zdK b side prog cell i).length≤43046721:=by
 have h:=zgO hb h1 side (prog.take i) cell
 have hc:zaF (prog.take i) 2≤8:=by
  unfold zaF
  have:=List.countP_le_length (p:=fun x:Int×Int=>x.1==2) (l:=prog.take i)
  simp at this
  omega
 have h2:b.cells.toNat ^ zaF (prog.take i) 2≤9 ^ zaF (prog.take i) 2:=Nat.pow_le_pow_left aa _
 have h3:9 ^ zaF (prog.take i) 2≤9 ^ 8:=Nat.pow_le_pow_right aa hc
 unfold zdK
 omega
theorem zwp (b:zay) (hb:zaP b) (h1:1≤b.cells) (h9:b.cells≤9) (side:Int) (prog:List (Int×Int)) (hp:prog.length≤8) (cell:Int):
  zaD Tryz.prog 61 [.agg (zco b), .int side,zaW prog, .int cell] (zc5 (zbC b side prog cell)):=by
 refine pF Tryz.func61 ?_
 have hR:zbC b side prog cell=zdK b side prog cell prog.length:=by unfold zdK;rw [List.take_length]
 have hl:=zjf hb h1 h9 side prog hp cell
 have ha:=zfz hb h9 side prog cell
 have hs:=fun (i:Nat) (h:i<prog.length)=>zhv b side prog cell h
 have h0:zdK b side prog cell 0= [⟨[],cell⟩]:=rfl
 rw [hR]
 have hP:=fun w hw x=>ztd b hb h9 side w hw x
 generalize zdK b side prog cell=K at *
 generalize hXb:zko b side=E at *
 have hbl:∀n,(∀c' ∈ zco b,Bel n c')=True:=fun n=>ae
 have hel:(zco b).length=3:=rfl
 have hte:(zco b).take 3=zco b:=rfl
 obtain ⟨eb,heb⟩:∃eb,eb=zco b:=⟨_,rfl⟩
 rw [← heb] at hbl hel hte ⊢
 have hP':∀w:zaT,w.acts.length≤1000000→∀x:Int×Int,zaD Tryz.prog 106 [.agg (zaK w), .fp eb, .fp [.int side], .fp [.int x.1, .int x.2]] (zc5 (E w x)):=fun w hw x=>by rw [heb];exact hP w hw x
 clear hP
 refine J2 hel hte ?_
 refine zEp (zEs (α:=Nat) (fun i=>⟨[(4, .ref 0 0 3 0 0),(5, .ref 1 0 1 0 0),(9,zc5 (K i)),(15,zaW prog),(16, .int prog.length),(17, .int i)], [(0, .rows false 0 3 [eb]),(1, .rows false 0 1 [[.int side]])],2⟩)
  (fun d i=>i+d=prog.length) ?_ prog.length 0 ?_) ?_ ?_
 ·rintro d i i1 hrec
  have hli:=hl i
  refine J2 hel hte ?_
  refine zEr (fun hi=> ?_) (fun hi=> ?_)<;>simp at hi
  ·have hsi:=hs i hi
   have hls:=hl (i+1)
   have hai:=ha i aa
   refine J3 hel hte hi ?_
   refine zEv [2] (zvO (K i) aa 106 [.fp eb, .fp [.int side], .fp [.int (nth prog i).1, .int (nth prog i).2]] (fun w=>E w (nth prog i)) (fun w hw=>hP' w (by have:=hai w hw;omega) _) aH (by rw [← hsi];omega)) ?_ aH ?_
   ·(first|done|exact leX)
   ·rw [← hsi]
    refine J2 hel hte ?_
    refine zEp (hrec (d - 1) aa (i+1) aa) ?_ ad
    simp [go_sem,zad,hbl]
  ·have hil:i=prog.length:=by omega
   subst hil
   generalize K prog.length=R at *
   exact K0
 ·simp
 ·simp [go_sem,zad,h0,hbl]
  (first|done|exact leX)
 ·simp
theorem zoI (g:zab) (hg:GOk g) (side:Int) (cell:Int) (prog:List (Int×Int)) (hp:prog.length≤8):
    zaD Tryz.prog 60 [zaW prog, .fp (zac g), .fp [.int side], .fp [.int cell]] (zc5 (zbC g.board side prog cell)):=by
  refine pF Tryz.func60 ?_
  have hP:=zwp g.board hg.board hg.c1 hg.c9 side prog hp cell
  generalize zbC g.board side prog cell=R at *
  rw [show zco g.board= [.int g.cells,zbe g.next,zai g.turn] from rfl] at hP
  refine J0 ?_
  refine aP hP ?_
  exact K0
def ziW (f:Nat→List AV) (z:List AV) (n c:Nat):List (List AV):=(List.range n).map fun i=>if i<c then f i else z
theorem zqr (f:Nat→List AV) (z:List AV) (n c:Nat):(ziW f z n c).length=n:=by simp [ziW]
theorem znq (f:Nat→List AV) (z:List AV) (n:Nat):List.replicate n z=ziW f z n 0:=by
  unfold ziW
  refine List.ext_getElem ad fun i h1 h2=> ?_
  simp
theorem zqs (f:Nat→List AV) (z:List AV) (n c:Nat):(ziW f z n c).set c (f c)=ziW f z n (c+1):=by
  unfold ziW
  refine List.ext_getElem ad fun i h1 h2=> ?_
  simp only [List.getElem_set,List.getElem_map,List.getElem_range]
  by_cases h:c=i
  · subst h;simp
  · rw [if_neg h]
    by_cases hi:i<c
    · rw [if_pos hi,if_pos aa]
    · rw [if_neg hi,if_neg aa]
theorem zqq (f:Nat→List AV) (z:List AV) (n:Nat):ziW f z n n=(List.range n).map f:=by
  unfold ziW
  refine List.map_congr_left fun i hi=> ?_
  rw [if_pos (List.mem_range.1 hi)]
theorem zhX {f:Nat→List AV}{z:List AV}{n c m:Nat} (hf:∀i,∀x ∈ f i,Bel m x) (hz:∀x ∈ z,Bel m x):∀r ∈ ziW f z n c,∀x ∈ r,Bel m x:=by
  intro r hr x hx
  unfold ziW at hr
  obtain ⟨i, _,rfl⟩:=List.mem_map.1 hr
  split at hx
  · exact hf i x hx
  · exact hz x hx
theorem zub (h:zaq) (o:Nat) (x:Option zbp):za6 (upd h o x) [o]=upd h o (zbr x):=by
  funext a
  unfold za6 upd
  by_cases e:a=o
  · subst e;simp
  · simp [e]
def zjl (g:zab) (side:Int) (j:Nat):List (List (List zaT)):=(g.kinds.take j).map fun k=>zf0 g.board side k.progs
theorem zob (g:zab) (side:Int){j:Nat} (h:j<g.kinds.length):zjl g side (j+1)=zjl g side j++ [zf0 g.board side (nth g.kinds j).progs]:=by
  unfold zjl
  rw [List.take_add_one,List.getElem?_eq_getElem h,zap _ _ h,Option.toList_some,List.map_append]
  rfl
theorem zrn (g:zab) (side:Int):zjl g side g.kinds.length=zbM g side:=by unfold zjl zbM;rw [List.take_length]
theorem zoc (g:zab) (side:Int):zjl g side 0= []:=by simp [zjl]
theorem zmm (g:zab) (side:Int){j:Nat} (h:j≤g.kinds.length):(zjl g side j).length=j:=by simp [zjl];omega
theorem zia {g:zab} (hg:GOk g) (side:Int){k:zfM} (hk:k ∈ g.kinds) (cell:Int):(zbH g.board side k.progs cell).length≤8589934592:=by
  have h:=zgG (fun p=>zbC g.board side p cell) 43046721 k.progs (fun p hp=>by
    have:=zjf hg.board hg.c1 hg.c9 side p (hg.pr k hk p hp).len cell p.length
    unfold zdK at this
    rwa [List.take_length] at this)
  have:=hg.pn k hk
  have h2:k.progs.length * 43046721≤8 * 43046721:=Nat.mul_le_mul_right _ this
  unfold zbH
  omega
theorem zi3 {g:zab} (hg:GOk g) (s:Int){k:zfM} (hk:k ∈ g.kinds) (c:Int):zjs 1048576 (zbH g.board s k.progs c):=by
  intro w hw
  obtain ⟨p,hp,hw⟩:=List.mem_flatMap.1 hw
  have:=zfz hg.board hg.c9 s p c p.length (Nat.le_refl _) w (by unfold zdK;rwa [List.take_length])
  have:=(hg.pr k hk p hp).len
  omega
theorem zfS (g:zab) (hg:GOk g):zaD Tryz.prog 28 [.agg (zac g)] (.agg (zbO (zcy g))):=by
  refine pF Tryz.func28 ?_
  have hc9:=hg.c9
  have hc1:=hg.c1
  have hk6:=hg.k6
  have hF:=fun (s:Int) (c:Int) (k:zfM) (hk:k ∈ g.kinds)=>zvP k.progs (by have:=hg.pn k hk;omega) 60 [.fp (zac g), .fp [.int s], .fp [.int c]] (fun p=>zbC g.board s p c)
    (fun p hp=>zoI g hg s c p (hg.pr k hk p hp).len) ae (zia hg s hk c)
  have hkb:∀ (s:Int) (k:zfM) (c:Nat),c<g.cells.toNat→True:=fun _ _ _ _=>trivial
  have hR:zbO (zcy g)= [zaI (zbM g 0),zaI (zbM g 1)]:=rfl
  rw [hR]
  clear hR
  have hsk:=fun (s:Int) (j:Nat) (h:j<g.kinds.length)=>zob g s h
  have hsa:=fun s=>zrn g s
  have hsz:=fun s=>zoc g s
  have hsl:=fun (s:Int) (j:Nat) (h:j≤g.kinds.length)=>zmm g s h
  obtain ⟨C,hC⟩:∃C:Nat,g.cells=C:=⟨g.cells.toNat,aa⟩
  have hcells:∀ (s:Int) (j:Nat),zf0 g.board s (nth g.kinds j).progs=(List.range C).map fun (c:Nat)=>zbH g.board s (nth g.kinds j).progs c:=fun s j=>by
    unfold zf0
    rw [show g.board.cells.toNat=C by have:g.board.cells=g.cells:=rfl;omega]
  generalize zjl g=K at *
  have heg:zac g= [.int (C:Int),zbe g.next,zai g.turn, .lst 3 (g.kinds.map zaV), .int g.rights, .v (.bool g.must), .lst 4 (g.clauses.map za0), .int g.blocked, .int g.endless]:=by rw [← hC];rfl
  rw [heg] at hF
  have hbl:∀n,(∀c' ∈ zac g,Bel n c')=True:=fun n=>ae
  have hel:(zac g).length=9:=rfl
  refine J1 hel ?_
  refine zEp (zEs (α:=Nat) (fun s=>⟨[(1, .ref 0 0 9 0 0),(2, .ref 1 0 2 0 0),(3, .ref 2 0 2 0 0),(9, .int s)],
      [(0, .rows false 0 9 [zac g]),(1, .rows true 0 2 [[AV.v (.slice none 0 0),AV.v (.slice none 0 0)]]),(2, .rows true 0 2 [[if s=0 then AV.v (.slice none 0 0) else zaI (zbM g 0),if s<2 then AV.v (.slice none 0 0) else zaI (zbM g 1)]])],3⟩)
    (fun d s=>s+d=2) ?_ 2 0 ?_) ?_ ?_
  · rintro d0 s s1 hrec
    rcases (show s=0∨s=1∨s=2 by omega) with rfl|rfl|rfl
    · have hFs:=hF 0
      have hsk:=hsk 0
      have hsa:=hsa 0
      have hsz:=hsz 0
      have hsl:=hsl 0
      have hcells:=hcells 0
      refine J2 hel hC ?_
      refine zEp (zEs (α:=Nat) (fun j=>⟨[(1, .ref 0 0 9 0 0),(2, .ref 1 0 2 0 0),(3, .ref 2 0 2 0 0),(4, .ref 3 0 1 0 0),(9, .int 0),(13, .lst 3 (g.kinds.map zaV)),(14, .int g.kinds.length),(15, .int j)],
          [(0, .rows false 0 9 [zac g]),(1, .rows true 0 2 [[AV.v (.slice none 0 0),AV.v (.slice none 0 0)]]),(2, .rows true 0 2 [[.sl 4 j 1 0 j,AV.v (.slice none 0 0)]]),(3, .rows false 0 1 [[.int 0]]),(4, .rows true j 1 ((K 0 j).map fun x=> [zbv x]))],5⟩)
        (fun d j=>j+d=g.kinds.length) ?_ g.kinds.length 0 ?_) ?_ ?_
      · rintro d j j1 hrec2
        have hlj:=hsl j aa
        refine J3 hel hC hlj ?_
        refine zEr (fun hj=> ?_) (fun hj=> ?_)<;>simp at hj
        · have hkm:=zag hj
          have hpn:=hg.pn _ hkm
          have hFk:=fun (c:Nat)=>hFs c _ hkm
          have hsj:=hsk j hj
          have hcj:=hcells j
          have hlj1:=hsl (j+1) aa
          have hkp:∀c:Int,(nth g.kinds j).progs.flatMap (fun p=>zbC g.board 0 p c)=zbH g.board 0 (nth g.kinds j).progs c:=fun c=>rfl
          simp only [hkp] at hFk
          generalize zbH g.board 0 (nth g.kinds j).progs=KP at *
          refine J3 hel hC hj ?_
          rw [znq (fun (i:Nat)=> [.lst 2 ((KP i).map zaK)])]
          refine zEp (zEs (α:=Nat) (fun c=>⟨[(1, .ref 0 0 9 0 0),(2, .ref 1 0 2 0 0),(3, .ref 2 0 2 0 0),(4, .ref 3 0 1 0 0),(6, .ref 5 0 3 0 0),(7, .sl 6 0 1 0 C),(9, .int 0),(13, .lst 3 (g.kinds.map zaV)),(14, .int g.kinds.length),(15, .int j),(24, .int C),(25, .int c)],
              [(0, .rows false 0 9 [zac g]),(1, .rows true 0 2 [[AV.v (.slice none 0 0),AV.v (.slice none 0 0)]]),(2, .rows true 0 2 [[.sl 4 j 1 0 j,AV.v (.slice none 0 0)]]),(3, .rows false 0 1 [[.int 0]]),(4, .rows true j 1 ((K 0 j).map fun x=> [zbv x])),
               (5, .rows true 0 3 [zaV (nth g.kinds j)]),(6, .rows true 0 1 (ziW (fun (i:Nat)=> [.lst 2 ((KP i).map zaK)]) [AV.v (.slice none 0 0)] C c))],7⟩)
            (fun d c=>c+d=C) ?_ C 0 ?_) ?_ ?_
          · rintro d2 c c1' hrec3
            have hfl:=zqr (fun (i:Nat)=> [.lst 2 ((KP i).map zaK)]) [AV.v (.slice none 0 0)] C c
            have hfs:=zqs (fun (i:Nat)=> [.lst 2 ((KP i).map zaK)]) [AV.v (.slice none 0 0)] C c
            refine J4 hel hC hlj hfl ?_
            refine zEr (fun hc=> ?_) (fun hc=> ?_)<;>simp at hc
            · (repeat (first|with_reducible (first|refine wL fun _=>?_|refine wD fun _=>?_|refine wE ?_)|simp [go_sem,hel,hC,hj,hfl]))
              refine zrE.frz (za6 _ [7]) (zbf _ _) ?_
              simp only [zub]
              refine J4 hel hC hj hfl ?_
              refine zbq.frz [.lst 1 ((nth g.kinds j).progs.map fun p=> [zaW p]), _] _ [0,3,7] [] (hFk c) ad ?_ ae ?_
              · intro h₁ hS
                have h0:=hS 0 ad
                have h3:=hS 3 ad
                have h7:=hS 7 ad
                simp [upd,za6,zbr] at h0 h3 h7
                refine .cons (.refl _) (.cons (.fn .nil (.cons (.frzP h0.symm ad ad cx (.refl _ _ _ _)) (.cons (.frzP h3.symm ad ad (by simp [zam,upd,← h3]) (.refl _ _ _ _)) (.cons (.frzP h7.symm ad ad (by simp [zam,upd,← h7]) (.refl _ _ _ _)) .nil)))) .nil)
              · (repeat (first|refine wV fun _=>?_|simp [go_sem,hel,hC,hj,hfl]))
                refine zEp (hrec3 (d2 - 1) aa (c+1) aa) ?_ ad
                simp [go_sem,zad,hfs,hC]
                exact zhX (fun i x hx=>by simp only [List.mem_singleton] at hx;subst hx;exact of_eq_true ziK) (fun x hx=>by simp only [List.mem_singleton] at hx;subst hx;exact .v _)
            · have hcC:c=C:=by omega
              subst hcC
              rw [zqq]
              refine J3 hel hC hj ?_
              refine zEp (hrec2 (d - 1) aa (j+1) aa) ?_ ad
              simp [go_sem,zad,hsj,hcj,hC]
              (first|done|exact leX)
          · simp
          · simp [go_sem,zad,hC]
            exact zhX (fun i x hx=>by simp only [List.mem_singleton] at hx;subst hx;exact of_eq_true ziK) (fun x hx=>by simp only [List.mem_singleton] at hx;subst hx;exact .v _)
          · simp
        · have hjl:j=g.kinds.length:=by omega
          subst hjl
          rw [hsa]
          refine J2 hel hC ?_
          refine zEp (hrec (d0 - 1) aa (1) aa) ?_ ad
          have hsl':(zbM g 0).length=g.kinds.length:=by simp [zbM]
          simp [go_sem,zad,hC]
          (first|done|exact Lx1 hsl')
      · simp
      · simp [go_sem,zad,hsz,hC]
      · simp
    · have hFs:=hF 1
      have hsk:=hsk 1
      have hsa:=hsa 1
      have hsz:=hsz 1
      have hsl:=hsl 1
      have hcells:=hcells 1
      refine J2 hel hC ?_
      refine zEp (zEs (α:=Nat) (fun j=>⟨[(1, .ref 0 0 9 0 0),(2, .ref 1 0 2 0 0),(3, .ref 2 0 2 0 0),(4, .ref 3 0 1 0 0),(9, .int 1),(13, .lst 3 (g.kinds.map zaV)),(14, .int g.kinds.length),(15, .int j)],
          [(0, .rows false 0 9 [zac g]),(1, .rows true 0 2 [[AV.v (.slice none 0 0),AV.v (.slice none 0 0)]]),(2, .rows true 0 2 [[zaI (zbM g 0), .sl 4 j 1 0 j]]),(3, .rows false 0 1 [[.int 1]]),(4, .rows true j 1 ((K 1 j).map fun x=> [zbv x]))],5⟩)
        (fun d j=>j+d=g.kinds.length) ?_ g.kinds.length 0 ?_) ?_ ?_
      · rintro d j j1 hrec2
        have hlj:=hsl j aa
        refine J3 hel hC hlj ?_
        refine zEr (fun hj=> ?_) (fun hj=> ?_)<;>simp at hj
        · have hkm:=zag hj
          have hpn:=hg.pn _ hkm
          have hFk:=fun (c:Nat)=>hFs c _ hkm
          have hsj:=hsk j hj
          have hcj:=hcells j
          have hlj1:=hsl (j+1) aa
          have hkp:∀c:Int,(nth g.kinds j).progs.flatMap (fun p=>zbC g.board 1 p c)=zbH g.board 1 (nth g.kinds j).progs c:=fun c=>rfl
          simp only [hkp] at hFk
          generalize zbH g.board 1 (nth g.kinds j).progs=KP at *
          refine J3 hel hC hj ?_
          rw [znq (fun (i:Nat)=> [.lst 2 ((KP i).map zaK)])]
          refine zEp (zEs (α:=Nat) (fun c=>⟨[(1, .ref 0 0 9 0 0),(2, .ref 1 0 2 0 0),(3, .ref 2 0 2 0 0),(4, .ref 3 0 1 0 0),(6, .ref 5 0 3 0 0),(7, .sl 6 0 1 0 C),(9, .int 1),(13, .lst 3 (g.kinds.map zaV)),(14, .int g.kinds.length),(15, .int j),(24, .int C),(25, .int c)],
              [(0, .rows false 0 9 [zac g]),(1, .rows true 0 2 [[AV.v (.slice none 0 0),AV.v (.slice none 0 0)]]),(2, .rows true 0 2 [[zaI (zbM g 0), .sl 4 j 1 0 j]]),(3, .rows false 0 1 [[.int 1]]),(4, .rows true j 1 ((K 1 j).map fun x=> [zbv x])),
               (5, .rows true 0 3 [zaV (nth g.kinds j)]),(6, .rows true 0 1 (ziW (fun (i:Nat)=> [.lst 2 ((KP i).map zaK)]) [AV.v (.slice none 0 0)] C c))],7⟩)
            (fun d c=>c+d=C) ?_ C 0 ?_) ?_ ?_
          · rintro d2 c c1' hrec3
            have hfl:=zqr (fun (i:Nat)=> [.lst 2 ((KP i).map zaK)]) [AV.v (.slice none 0 0)] C c
            have hfs:=zqs (fun (i:Nat)=> [.lst 2 ((KP i).map zaK)]) [AV.v (.slice none 0 0)] C c
            refine J4 hel hC hlj hfl ?_
            refine zEr (fun hc=> ?_) (fun hc=> ?_)<;>simp at hc
            · (repeat (first|with_reducible (first|refine wL fun _=>?_|refine wD fun _=>?_|refine wE ?_)|simp [go_sem,hel,hC,hj,hfl]))
              refine zrE.frz (za6 _ [7]) (zbf _ _) ?_
              simp only [zub]
              refine J4 hel hC hj hfl ?_
              refine zbq.frz [.lst 1 ((nth g.kinds j).progs.map fun p=> [zaW p]), _] _ [0,3,7] [] (hFk c) ad ?_ ae ?_
              · intro h₁ hS
                have h0:=hS 0 ad
                have h3:=hS 3 ad
                have h7:=hS 7 ad
                simp [upd,za6,zbr] at h0 h3 h7
                refine .cons (.refl _) (.cons (.fn .nil (.cons (.frzP h0.symm ad ad cx (.refl _ _ _ _)) (.cons (.frzP h3.symm ad ad (by simp [zam,upd,← h3]) (.refl _ _ _ _)) (.cons (.frzP h7.symm ad ad (by simp [zam,upd,← h7]) (.refl _ _ _ _)) .nil)))) .nil)
              · (repeat (first|refine wV fun _=>?_|simp [go_sem,hel,hC,hj,hfl]))
                refine zEp (hrec3 (d2 - 1) aa (c+1) aa) ?_ ad
                simp [go_sem,zad,hfs,hC]
                exact zhX (fun i x hx=>by simp only [List.mem_singleton] at hx;subst hx;exact of_eq_true ziK) (fun x hx=>by simp only [List.mem_singleton] at hx;subst hx;exact .v _)
            · have hcC:c=C:=by omega
              subst hcC
              rw [zqq]
              refine J3 hel hC hj ?_
              refine zEp (hrec2 (d - 1) aa (j+1) aa) ?_ ad
              simp [go_sem,zad,hsj,hcj,hC]
              (first|done|exact leX)
          · simp
          · simp [go_sem,zad,hC]
            exact zhX (fun i x hx=>by simp only [List.mem_singleton] at hx;subst hx;exact of_eq_true ziK) (fun x hx=>by simp only [List.mem_singleton] at hx;subst hx;exact .v _)
          · simp
        · have hjl:j=g.kinds.length:=by omega
          subst hjl
          rw [hsa]
          refine J2 hel hC ?_
          refine zEp (hrec (d0 - 1) aa (2) aa) ?_ ad
          have hsl':(zbM g 1).length=g.kinds.length:=by simp [zbM]
          simp [go_sem,zad,hC]
          (first|done|exact Lx1 hsl')
      · simp
      · simp [go_sem,zad,hsz,hC]
      · simp
    · (repeat (first|refine wV fun _=>?_|simp [go_sem]))
  · simp
  · simp [go_sem,zad]
  · simp
theorem zxG {n:Nat}{l:List (Int×Int)}:(∀r ∈ l.map zbw,∀c ∈ r,Bel n c)=True:=by
 refine eq_true ?_
 intro r hr c hc
 obtain ⟨x, _,rfl⟩:=List.mem_map.1 hr
 revert c
 simp [go_sem]
attribute [go_sem ↓] zxG
theorem zoE (l:List (List zaT)){i:Nat} (h:i<l.length):zcO (l.drop i)=(nth l i).length+zcO (l.drop (i+1)):=by
 unfold zcO
 rw [zas h,List.map_cons,List.sum_cons]
theorem zp1 (l:List (List (List zaT))){i:Nat} (h:i<l.length):zb3 (l.drop i)=zcO (nth l i)+zb3 (l.drop (i+1)):=by
 unfold zb3
 rw [zas h,List.map_cons,List.sum_cons]
structure zov (g:zab) (c:zkD):Prop where
 l1:c.1.length=g.kinds.length
 l2:c.2.length=g.kinds.length
 c1:∀x ∈ c.1,(x.length:Int)=g.cells
 c2:∀x ∈ c.2,(x.length:Int)=g.cells
theorem zov.side {g:zab}{c:zkD} (h:zov g c){s:Nat} (hs:s<2):∃l,cel [zaI c.1,zaI c.2] s=zaI l∧l.length=g.kinds.length∧∀x ∈ l,(x.length:Int)=g.cells:=by
 rcases (show s=0∨s=1 by omega) with rfl|rfl
 ·exact ⟨_,rfl,h.l1,h.c1⟩
 ·exact ⟨_,rfl,h.l2,h.c2⟩
theorem zml {g:zab} (hg:GOk g):zov g (zcy g):=by
 have h:∀s,∀x ∈ zbM g s,(x.length:Int)=g.cells:=by
  intro s x hx
  obtain ⟨k, _,rfl⟩:=List.mem_map.1 hx
  have:g.board.cells=g.cells:=rfl
  have:=hg.c1
  simp [zf0]
  omega
 exact ⟨by simp [zcy,zbM],by simp [zcy,zbM],h 0,h 1⟩
theorem zro (g:zab) (s:Int){k c:Nat} (hk:k<g.kinds.length) (hc:c<g.cells.toNat):nth (nth (zbM g s) k) c=zbH g.board s (nth g.kinds k).progs c:=by
 unfold zbM
 rw [za9 _ _ _ hk]
 have hc':c<(List.range g.board.cells.toNat).length:=by rw [List.length_range];exact hc
 show nth ((List.range g.board.cells.toNat).map fun (c:Nat)=>zbH g.board s (nth g.kinds k).progs c) c= _
 rw [za9 _ _ _ hc',zap _ _ hc',List.getElem_range]
structure FitC (g:zab) (c:zkD):Prop where
 sh:zov g c
 len:∀l ∈ c.1++c.2,∀x ∈ l,x.length≤1099511627776∧zjs 1048576 x
theorem zqv {g:zab} (hg:GOk g):FitC g (zcy g):=by
 refine ⟨zml hg, ?_⟩
 have h:∀s,∀l ∈ zbM g s,∀x ∈ l,x.length≤1099511627776∧zjs 1048576 x:=by
  intro s l hl x hx
  obtain ⟨k,hk,rfl⟩:=List.mem_map.1 hl
  obtain ⟨c, _,rfl⟩:=List.mem_map.1 hx
  exact ⟨by have:=zia hg s hk (c:Nat);omega,zi3 hg s hk _⟩
 intro l hl
 rcases List.mem_append.1 hl with hl|hl
 ·exact h 0 l hl
 ·exact h 1 l hl
theorem FitC.side {g:zab}{c:zkD} (h:FitC g c){s:Nat} (hs:s<2):∃l,cel [zaI c.1,zaI c.2] s=zaI l∧l.length=g.kinds.length∧(∀x ∈ l,(x.length:Int)=g.cells)∧∀x ∈ l,∀y ∈ x,y.length≤1099511627776∧zjs 1048576 y:=by
 rcases (show s=0∨s=1 by omega) with rfl|rfl
 ·exact ⟨_,rfl,h.sh.l1,h.sh.c1,fun x hx=>h.len x bZ⟩
 ·exact ⟨_,rfl,h.sh.l2,h.sh.c2,fun x hx=>h.len x bZ⟩
theorem zv6 (d e k r:Int) (i:Nat):zaF (nth (zrI d e k r) i) 2≤1:=by
 rcases Nat.lt_or_ge i 16 with h|h
 ·have:∀p ∈ zrI d e k r,zaF p 2≤1:=by
   intro p hp
   simp only [zrI,List.mem_cons,List.not_mem_nil,or_false] at hp
   rcases hp with rfl|rfl|rfl|rfl|rfl|rfl|rfl|rfl|rfl|rfl|rfl|rfl|rfl|rfl|rfl|rfl<;>simp [zaF]
  exact this _ (zag h)
 ·have e:nth (zrI d e k r) i= []:=by
   unfold nth
   rw [List.getD_eq_getElem?_getD,List.getElem?_eq_none (by exact h)];rfl
  rw [e]
  simp [zaF]
theorem zvL {dirs kinds rights:Int}{p:List (Int×Int)} (h:zaF p 2≤1):zaF (zCt dirs kinds rights p) 2≤1:=by
 unfold zCt
 split
 ·simp [zaF]
 ·exact Nat.le_trans (zf8 2 p) h
theorem zs6 (x:zj4):zcx (zig x):=by
 intro k hk p hp
 obtain ⟨i, _,rfl⟩:=List.mem_map.1 hk
 obtain ⟨n, _,rfl⟩:=List.mem_map.1 hp
 exact zvL (zv6 _ _ _ _ _)
structure CodeOk (g:zab) (c:zkD):Prop where
 l0:c.1.length=g.kinds.length
 l1:c.2.length=g.kinds.length
 k0:∀k ∈ c.1,(k.length:Int)=g.cells
 k1:∀k ∈ c.2,(k.length:Int)=g.cells
 p0:∀k ∈ c.1,∀l ∈ k,l.length≤1000000000∧∀w ∈ l,(0≤w.to∧w.to<g.cells)∧w.acts.length≤1048576∧∀a ∈ w.acts,zc3 g.cells g.kinds.length g.rights a
 p1:∀k ∈ c.2,∀l ∈ k,l.length≤1000000000∧∀w ∈ l,(0≤w.to∧w.to<g.cells)∧w.acts.length≤1048576∧∀a ∈ w.acts,zc3 g.cells g.kinds.length g.rights a
theorem zyK {g:zab} (hg:GOk g) (hs:zcx g) (side:Int){k:zfM} (hk:k ∈ g.kinds) (c:Int):(zbH g.board side k.progs c).length≤100:=by
 have h9:g.board.cells.toNat≤9:=by have:g.board.cells=g.cells:=rfl;have:=hg.c9;omega
 have h:=zgG (fun p=>zbC g.board side p c) 9 k.progs (fun p hp=>by
  have h:=zgO hg.board hg.c1 side p c
  have:=hs k hk p hp
  rcases (show zaF p 2=0∨zaF p 2=1 by omega) with e|e<;>rw [e] at h<;>simp at h<;>omega)
 have:=hg.pn k hk
 unfold zbH
 omega
theorem zp3 {g:zab} (hg:GOk g) (hs:zcx g):CodeOk g (zcy g):=by
 have hF:=zml hg
 have hp:∀s:Int,∀k ∈ zbM g s,∀l ∈ k,l.length≤1000000000∧∀w ∈ l,(0≤w.to∧w.to<g.cells)∧w.acts.length≤1048576∧∀a ∈ w.acts,zc3 g.cells g.kinds.length g.rights a:=by
  intro s k hk l hl
  obtain ⟨kd,hkd,rfl⟩:=List.mem_map.1 hk
  obtain ⟨c,hc,rfl⟩:=List.mem_map.1 hl
  have hc':=List.mem_range.1 hc
  have hgc:g.board.cells=g.cells:=rfl
  refine ⟨Nat.le_trans (zyK hg hs s hkd c) aa,fun w hw=> ?_⟩
  have h1:=zgK hg hkd (side:=s) (cell:=(c:Int)) ⟨aa,aa⟩ w hw
  exact ⟨h1.to,zi3 hg s hkd c w hw,h1.acts⟩
 exact ⟨hF.l1,hF.l2,hF.c1,hF.c2,hp 0,hp 1⟩
def zaH (x:zbh):List AV:= [.int x.mod,zbe x.men,zai x.h0,zai x.h1,zai x.rights, .int x.side]
attribute [go_sem] zaH
def zdQ (g:zab) (x:zbh) (s now:Int):List AV:=zac g++(zaH x++ [.int s, .int now, .top])
attribute [go_sem] zdQ
structure zkE (g:zab) (x:zbh):Prop where
 m2:2≤x.mod
 m1:x.mod≤1000
 ml:x.men.length=2 * g.kinds.length+1
 s0:0≤x.side
 s1:x.side<x.mod
 row:∀l ∈ x.men,(l.length:Int)=g.cells
 mv:∀l ∈ x.men,∀e ∈ l,0≤e∧e<x.mod
 hl0:x.h0.length=g.kinds.length
 hv0:∀e ∈ x.h0,0≤e∧e<x.mod
 hl1:x.h1.length=g.kinds.length
 hv1:∀e ∈ x.h1,0≤e∧e<x.mod
 rl:(x.rights.length:Int)=g.rights
 rv:∀e ∈ x.rights,0≤e∧e<x.mod
theorem zkE.wgt {g:zab}{x:zbh} (hx:zkE g x){n:Nat}{c:Nat} (hn:n<x.men.length) (hc:(c:Int)<g.cells):c<(nth x.men n).length∧0≤nth (nth x.men n) c∧nth (nth x.men n) c<x.mod:=by
 have h1:=hx.row _ (zag hn)
 have h2:c<(nth x.men n).length:=aa
 exact ⟨h2,hx.mv _ (zag hn) _ (zag h2)⟩
theorem zqS (g:zab) (hg:GOk g) (x:zbh) (hx:zkE g x) (s now n c:Int) (hn:0≤n∧n≤2 * g.kinds.length) (hc:0≤c∧c<g.cells):
  zaD Tryz.prog 111 [.fp (zdQ g x s now), .int n, .int c] (.int (zbQ x n c.toNat)):=by
 have hm:=hx.ml
 have hm1:=hx.m1
 have h0:0<x.men.length:=aa
 have h1:n.toNat<x.men.length:=aa
 obtain ⟨a1,a2,a3⟩:=hx.wgt h0 (c:=c.toNat) aa
 obtain ⟨b1,b2,b3⟩:=hx.wgt h1 (c:=c.toNat) aa
 have e:zbQ x n c.toNat=nth (nth x.men 0) c.toNat - nth (nth x.men n.toNat) c.toNat:=rfl
 rw [e]
 refine pF Tryz.func111 ?_
 exact K4 h0 h1 a1 b1
theorem zef {g:zab}{x:zbh} (hx:zkE g x){n:Int}{c:Nat} (hn:0≤n∧n≤2 * g.kinds.length) (hc:(c:Int)<g.cells): -1000≤zbQ x n c∧zbQ x n c≤1000:=by
 have hm:=hx.ml
 have hm1:=hx.m1
 obtain ⟨a1,a2,a3⟩:=hx.wgt (n:=0) aa hc
 obtain ⟨b1,b2,b3⟩:=hx.wgt (n:=n.toNat) aa hc
 have e:zbQ x n c=nth (nth x.men 0) c - nth (nth x.men n.toNat) c:=rfl
 omega
theorem zuB (g:zab) (hg:GOk g) (x:zbh) (hx:zkE g x) (s now n c:Int) (hn:0≤n∧n≤2 * g.kinds.length) (hc:0≤c∧c<g.cells):
  zaD Tryz.prog 114 [.fp (zdQ g x s now), .int n, .int c] (.int (zjS x n c.toNat)):=by
 have hb:=zef hx hn (c:=c.toNat) aa
 have hl:=zqS g hg x hx s now n c hn hc
 have e:zjS x n c.toNat= - zbQ x n c.toNat:=rfl
 rw [e]
 generalize zbQ x n c.toNat=r at *
 refine pF Tryz.func114 ?_
 refine J0 ?_
 refine aP hl ?_
 exact K0
theorem ztx {g:zab}{x:zbh} (hx:zkE g x){s:Int} (hs:s=0∨s=1): -1000≤zdw x s∧zdw x s≤1000:=by
 have:=hx.m1
 have:=hx.s0
 have:=hx.s1
 unfold zdw
 rcases hs with rfl|rfl<;>omega
theorem zrx (g:zab) (hg:GOk g) (x:zbh) (hx:zkE g x) (s now:Int) (hs:s=0∨s=1):
  zaD Tryz.prog 112 [.fp (zdQ g x s now)] (.int (zdw x s)):=by
 have h1:=hx.m1
 have h2:=hx.s0
 have h3:=hx.s1
 unfold zdw
 refine pF Tryz.func112 ?_
 rcases hs with rfl|rfl
 ·exact K0
 ·exact K0
def zy8 (g:zab) (x:zbh) (s now:Int) (l n:Nat):List AV:=zac g++(zaH x++ [.int s, .int now, .sl l 0 1 0 n])
attribute [go_sem] zy8
theorem znX {h:zaq}{n o l k:Nat}{mt:Bool}{g:zab}{x:zbh}{s now:Int} (ho:h o=some (.rows mt 0 18 [zy8 g x s now l k])):LeV h noH n (.ref o 0 18 0 0) (.fp (zdQ g x s now)):=by
 refine .frzP ho ad ad (fun g sz rs e=>by cases e) ?_
 simp only [zdy,List.drop_zero,zy8,zdQ]
 have h1:∀ {a b c:List AV},zav h noH n b c→zav h noH n (a++b) (a++c):=fun {a b c} hbc=>by
  induction a with
  |nil=>exact hbc
  |cons y a ih=>exact .cons (.refl y) ih
 exact h1 (h1 (.cons (.refl _) (.cons (.refl _) (.cons (.top _) .nil))))
theorem zdC {k s:Int}{K:Nat} (hk:0≤k∧k<K) (hs:s=0∨s=1):0≤zal k s∧zal k s≤2 * K:=by
 unfold zal
 split<;>omega
theorem zgj {l:List Int}{m:Int} (h:∀e ∈ l,0≤e∧e<m){i:Nat} (hi:i<l.length):0≤nth l i∧nth l i<m:=h _ (zag hi)
theorem zC6 {g:zab} (hg:GOk g){x:zbh} (hx:zkE g x){s now:Int} (hs:s=0∨s=1) (hnow:0≤now∧now≤2 * g.kinds.length){last:List Int}{a:zc7} (ha:zc3 g.cells g.kinds.length g.rights a):
  (∀n ∈ (zhe g x s now last a).1, -3000≤n∧n≤3000)∧(0≤(zhe g x s now last a).2.1∧(zhe g x s now last a).2.1≤2 * g.kinds.length)∧(zhe g x s now last a).2.2.length=last.length:=by
 obtain ⟨op,a,b⟩:=a
 unfold zc3 at ha
 simp only at ha
 have hm1:=hx.m1
 have hml:=hx.ml
 have hrl:=hx.rl
 have hs1:1 - s=0∨1 - s=1:=aa
 rcases (show op=3∨op=4∨op=5∨op=6∨op=7∨op=8∨op=9∨op=10 by omega) with rfl|rfl|rfl|rfl|rfl|rfl|rfl|rfl
 ·exact ⟨fun n hn=>(by cases hn),hnow,rfl⟩
 ·exact ⟨fun n hn=>(by cases hn),hnow,rfl⟩
 ·exact ⟨fun n hn=>(by cases hn),hnow,rfl⟩
 ·refine ⟨fun n hn=> ?_,hnow,rfl⟩
  obtain ⟨k,hk,rfl⟩:=List.mem_map.1 hn
  have hk:=List.mem_range.1 hk
  have h1:=zef hx (zdC (K:=g.kinds.length) (k:=(k:Int)) ⟨aa,aa⟩ hs1) (c:=a.toNat) aa
  have h2:0≤nth (x.hand s) k∧nth (x.hand s) k<x.mod:=by
   unfold zbh.hand
   split
   ·exact zgj hx.hv0 (by have:=hx.hl0;omega)
   ·exact zgj hx.hv1 (by have:=hx.hl1;omega)
  dsimp only
  split<;>omega
 ·refine ⟨fun n hn=> ?_,hnow,rfl⟩
  obtain ⟨k,hk,rfl⟩:=List.mem_map.1 hn
  have hk:=List.mem_range.1 hk
  have h1:=zef hx (n:=(k:Int)+1) ⟨aa,aa⟩ (c:=a.toNat) aa
  have h2:=zef hx (n:=(k:Int)+1) ⟨aa,aa⟩ (c:=b.toNat) aa
  unfold zjS
  dsimp only
  omega
 ·refine ⟨fun n hn=>(by cases hn),zdC (K:=g.kinds.length) (k:=a) ?_ hs,rfl⟩
  omega
 ·exact ⟨fun n hn=>(by cases hn),hnow,by show (last.set _ _).length= _;simp⟩
 ·have h2:=zgj hx.rv (i:=a.toNat) aa
  have e:zhe g x s now last (10,a,b)=(if nth last a.toNat=9 then [- nth x.rights a.toNat] else if nth last a.toNat=10 then [0] else [- nth x.rights a.toNat,0],now,last.set a.toNat 10):=rfl
  rw [e]
  refine ⟨fun n hn=> ?_,hnow,by show (last.set _ _).length= _;simp⟩
  simp only at hn
  split at hn
  ·simp only [List.mem_singleton] at hn;omega
  ·split at hn
   ·simp only [List.mem_singleton] at hn;omega
   ·simp only [List.mem_cons,List.not_mem_nil,or_false] at hn;omega
theorem zAw {g:zab} (hg:GOk g){x:zbh} (hx:zkE g x){s now:Int}{last:List Int}{a:zc7} (ha:zc3 g.cells g.kinds.length g.rights a):(zhe g x s now last a).1.length≤100:=by
 obtain ⟨op,a,b⟩:=a
 unfold zc3 at ha
 simp only at ha
 have hml:=hx.ml
 have hk:=hg.k6
 rcases (show op=3∨op=4∨op=5∨op=6∨op=7∨op=8∨op=9∨op=10 by omega) with rfl|rfl|rfl|rfl|rfl|rfl|rfl|rfl
 ·exact Nat.zero_le _
 ·exact Nat.zero_le _
 ·exact Nat.zero_le _
 ·show (List.map _ _).length≤ _
  simp
  omega
 ·show (List.map _ _).length≤ _
  simp
  omega
 ·exact Nat.zero_le _
 ·exact Nat.zero_le _
 ·have e:zhe g x s now last (10,a,b)=(if nth last a.toNat=9 then [- nth x.rights a.toNat] else if nth last a.toNat=10 then [0] else [- nth x.rights a.toNat,0],now,last.set a.toNat 10):=rfl
  rw [e]
  simp only
  (repeat' split)<;>simp
def zEh:List AV:= [.v .nilFunc, .v .nilFunc, .v .nilFunc, .v .nilFunc, .v .nilFunc, .v .nilFunc, .fn (.func 159) [.ref 0 0 18 0 0] [], .fn (.func 160) [.ref 0 0 18 0 0] [],
 .fn (.func 163) [] [.ref 3 0 1 0 0], .fn (.func 162) [] [.ref 3 0 1 0 0], .fn (.func 161) [.ref 0 0 18 0 0] []]
attribute [go_sem] zEh
theorem zv0 (g:zab) (hg:GOk g) (x:zbh) (hx:zkE g x) (s now c:Int) (hs:s=0∨s=1) (hnow:0≤now∧now≤2 * g.kinds.length) (hc:0≤c∧c<g.cells) (last:List Int) (hll:(last.length:Int)=g.rights)
  (w:zaT) (hw:0≤w.to∧w.to<g.cells) (hwl:w.acts.length≤1048576) (hwa:∀a ∈ w.acts,zc3 g.cells g.kinds.length g.rights a):
  zeC Tryz.prog 70 [.ref 0 0 18 0 0, .int c, .agg (zaK w)] [(0, .rows true 0 18 [zy8 g x s now 1 last.length]),(1, .rows true 0 1 (last.map zaB))] 2
   (.v (.bool (ze0 g x s w.to.toNat now last (zbQ x now c.toNat+zdw x s) w.acts))) [] 2:=by
 unfold zeC
 have hL:=fun (now n c:Int) hn hc=>zqS g hg x hx s now n c hn hc
 have hP:=fun (now n c:Int) hn hc=>zuB g hg x hx s now n c hn hc
 have hT:=fun now=>zrx g hg x hx s now hs
 have hlb:=zef hx hnow (c:=c.toNat) aa
 have htb:=ztx hx hs
 obtain ⟨B,hB⟩:∃B,B=ze0 g x s w.to.toNat now last (zbQ x now c.toNat+zdw x s) w.acts:=⟨_,rfl⟩
 rw [← hB]
 refine aF Tryz.func70 ?_
 refine J0 ?_
 refine zEJ (hL now now c hnow hc) (.v _) (.cons (znX (l:=1) (k:=last.length) rfl) (.refl _ _ _ _)) ae ?_
 refine J0 ?_
 refine zEJ (hT now) (.v _) (.cons (znX (l:=1) (k:=last.length) rfl) (.refl _ _ _ _)) ae ?_
 refine J0 ?_
 refine aF Tryz.func113 ?_
 refine J0 ?_
 have hK:=hg.k6
 have hml:=hx.ml
 have hm1:=hx.m1
 obtain ⟨al,hal⟩:∃al,al=w.acts:=⟨_,rfl⟩
 rw [← hal] at hwl hwa hB ⊢
 refine zEp (zEs (α:=Nat×Int×List Int×Int) (fun q=>⟨[(0, .ref 0 0 18 0 0),(5, .ref 2 0 2 0 0),(7, .int q.2.2.2),(8, .ref 5 0 11 0 0),(28,zdi al),(29, .int al.length),(30, .int q.1)],
  [(0, .rows true 0 18 [zy8 g x s q.2.1 1 q.2.2.1.length]),(1, .rows true 0 1 (q.2.2.1.map zaB)),(2, .rows true 0 2 [[zdi al, .int w.to]]),(3, .rows true 0 1 [[.ref 0 0 18 0 0]]),(5, .rows true 0 11 [zEh])],6⟩)
  (fun d q=>q.1+d=al.length∧(0≤q.2.1∧q.2.1≤2 * g.kinds.length)∧(q.2.2.1.length:Int)=g.rights∧(-(3000 * ((q.1:Int)+1))≤q.2.2.2∧q.2.2.2≤3000 * ((q.1:Int)+1))∧B=ze0 g x s w.to.toNat q.2.1 q.2.2.1 q.2.2.2 (al.drop q.1)) ?_ al.length (0,now,last,zbQ x now c.toNat+zdw x s) ?_) ?_ ?_
 ·rintro d ⟨j,now,last,sum⟩ ⟨i1,i2,i3,i4,i5⟩ hrec
  simp only at i1 i2 i3 i4 i5
  refine J0 ?_
  refine zEr (fun hj=> ?_) (fun hj=> ?_)<;>simp at hj
  ·obtain ⟨a,ha⟩:∃a,nth al j=a:=⟨_,rfl⟩
   have hok:=hwa a (by rw [← ha];exact zag hj)
   rw [zas hj,ha] at i5
   obtain ⟨q1,q2,q3⟩:=zC6 hg hx hs i2 (last:=last) hok
   have q4:=zAw hg hx (s:=s) (now:=now) (last:=last) hok
   rw [ze0] at i5
   have hm2:=hx.m2
   have hm3:¬x.mod=0:=aa
   obtain ⟨op,a,b⟩:=a
   unfold zc3 at hok
   simp only at hok
   have hfn:zo2 Tryz.prog 190=true:=ai
   by_cases hop:op=3∨op=4∨op=5
   ·have hact:zhe g x s now last (op,a,b)=([],now,last):=by rcases hop with rfl|rfl|rfl<;>rfl
    rw [hact] at i5
    rcases hop with rfl|rfl|rfl
    ·refine J3 hj ha hfn ?_
     refine zEp (hrec (d - 1) aa (j+1,now,last,sum) ⟨ah,i2,i3,ah,i5⟩) ?_ ad
     simp [go_sem,zad]
    ·refine J3 hj ha hfn ?_
     refine zEp (hrec (d - 1) aa (j+1,now,last,sum) ⟨ah,i2,i3,ah,i5⟩) ?_ ad
     simp [go_sem,zad]
    ·refine J3 hj ha hfn ?_
     refine zEp (hrec (d - 1) aa (j+1,now,last,sum) ⟨ah,i2,i3,ah,i5⟩) ?_ ad
     simp [go_sem,zad]
   ·obtain ⟨cl,nw,ls,hact⟩:∃cl nw ls,zhe g x s now last (op,a,b)=(cl,nw,ls):=⟨_, _, _,rfl⟩
    rw [hact] at i5 q1 q2 q3 q4
    simp only at i5 q1 q2 q3 q4
    rcases (show op=6∨op=7∨op=8∨op=9∨op=10 by omega) with rfl|rfl|rfl|rfl|rfl
    case' inl=>
     obtain ⟨ch,hch⟩:∃ch:Nat→List Int,ch=fun n=>(List.range n).map fun (k:Nat)=>if (nth g.kinds k).keep=true then zbQ x (zal k (1 - s)) a.toNat+nth (x.hand s) k else zbQ x (zal k (1 - s)) a.toNat:=⟨_,rfl⟩
     have hA:zhe g x s now last (6,a,b)=(ch g.kinds.length,now,last):=by rw [hch];rfl
     have hcs:∀n,ch (n+1)=ch n++ [if (nth g.kinds n).keep=true then zbQ x (zal n (1 - s)) a.toNat+nth (x.hand s) n else zbQ x (zal n (1 - s)) a.toNat]:=fun n=>cJ
     have hc0:ch 0= []:=by rw [hch];rfl
     rw [hA] at hact
     simp only [Prod.mk.injEq] at hact
     obtain ⟨hcl,hnw,hls⟩:=hact
     replace hcl:=hcl.symm
     replace hnw:=hnw.symm
     replace hls:=hls.symm
     clear hch hA
     refine J3 hj ha hfn ?_
     refine aF Tryz.func159 ?_
     refine J0 ?_
     have hs1:1 - s=0∨1 - s=1:=aa
     refine zEp (zEs (α:=Nat) (fun i=>⟨[(0, .ref 0 0 18 0 0),(3, .ref 7 0 3 0 0),(5, .sl 8 (ch i).length 1 0 (ch i).length),(13, .lst 3 (g.kinds.map zaV)),(14, .int g.kinds.length),(15, .int i)],
      [(0, .rows true 0 18 [zy8 g x s now 1 last.length]),(1, .rows true 0 1 (last.map zaB)),(2, .rows true 0 2 [[zdi al, .int w.to]]),(3, .rows true 0 1 [[.ref 0 0 18 0 0]]),(5, .rows true 0 11 [zEh]),(7, .rows true 0 3 [[.int 6, .int a, .int b]]),(8, .rows true (ch i).length 1 ((ch i).map zaB))],9⟩)
      (fun d i=>i+d=g.kinds.length∧(ch i).length=i) ?_ g.kinds.length 0 ?_) ?_ ?_
     rotate_left
     ·exact ⟨ad,by rw [hc0];rfl⟩
     ·simp [go_sem,zad,hc0]
     ·simp
     rintro d2 i ⟨l1,l2⟩ hrec2
     refine J0 ?_
     refine zEr (fun hi=> ?_) (fun hi=> ?_)<;>simp at hi
     ·have hci:=hcs i
      have hlf:=hL now (zal i (1 - s)) a (zdC (K:=g.kinds.length) ⟨aa,aa⟩ hs1) aa
      have hlfb:=zef hx (zdC (K:=g.kinds.length) (k:=(i:Int)) ⟨aa,aa⟩ hs1) (c:=a.toNat) aa
      have hcd:=za5 i (1 - s)
      have hl0:=hx.hl0
      have hl1:=hx.hl1
      generalize zbQ x (zal i (1 - s)) a.toNat=lv at *
      generalize zal i (1 - s)=cv at *
      refine J1 hi ?_
      refine dP hcd ?_
      refine J0 ?_
      refine zEI [.fp (zdQ g x s now), .int cv, .int a] (.int lv) [0] hlf (.v _) (fun h₁ hS=> .cons (znX (l:=1) (k:=last.length) dI) (.refl _ _ _ _)) ae ?_
      refine J1 hi ?_
      refine zEr (fun hkp=> ?_) (fun hkp=> ?_)
      ·rw [if_pos hkp] at hci
       rcases hs with rfl|rfl
       ·have hi0:i<x.h0.length:=by omega
        have hv:=zgj hx.hv0 hi0
        have e:x.hand 0=x.h0:=rfl
        rw [e] at hci
        refine J2 hi hi0 ?_
        refine zEp (hrec2 (d2 - 1) aa (i+1) ⟨aa,cN⟩) ?_ ad
        simp [go_sem,zad,hci]
       ·have hi0:i<x.h1.length:=by omega
        have hv:=zgj hx.hv1 hi0
        have e:x.hand 1=x.h1:=rfl
        rw [e] at hci
        refine J2 hi hi0 ?_
        refine zEp (hrec2 (d2 - 1) aa (i+1) ⟨aa,cN⟩) ?_ ad
        simp [go_sem,zad,hci]
      ·rw [if_neg (by simpa using hkp)] at hci
       refine J0 ?_
       refine zEp (hrec2 (d2 - 1) aa (i+1) ⟨aa,cN⟩) ?_ ad
       simp [go_sem,zad,hci]
     obtain rfl:i=g.kinds.length:=aa
     have hlsl:ls.length=last.length:=by rw [hls]
     clear hcs hc0 hrec2
     refine J0 ?_
    case' inr.inl=>
     obtain ⟨ch,hch⟩:∃ch:Nat→List Int,ch=fun n=>(List.range n).map fun (i:Nat)=>zbQ x ((i:Int)+1) a.toNat+zjS x ((i:Int)+1) b.toNat:=⟨_,rfl⟩
     have hA:zhe g x s now last (7,a,b)=(ch (x.men.length - 1),now,last):=by rw [hch];rfl
     have hcs:∀n,ch (n+1)=ch n++ [zbQ x ((n:Int)+1) a.toNat+zjS x ((n:Int)+1) b.toNat]:=fun n=>cJ
     have hc0:ch 0= []:=by rw [hch];rfl
     rw [hA] at hact
     simp only [Prod.mk.injEq] at hact
     obtain ⟨hcl,hnw,hls⟩:=hact
     replace hcl:=hcl.symm
     replace hnw:=hnw.symm
     replace hls:=hls.symm
     clear hch hA
     refine J3 hj ha hfn ?_
     refine aF Tryz.func160 ?_
     refine J0 ?_
     refine zEp (zEs (α:=Nat) (fun i=>⟨[(0, .ref 0 0 18 0 0),(3, .ref 7 0 3 0 0),(5, .sl 8 (ch i).length 1 0 (ch i).length),(6, .int ((i:Int)+1))],
      [(0, .rows true 0 18 [zy8 g x s now 1 last.length]),(1, .rows true 0 1 (last.map zaB)),(2, .rows true 0 2 [[zdi al, .int w.to]]),(3, .rows true 0 1 [[.ref 0 0 18 0 0]]),(5, .rows true 0 11 [zEh]),(7, .rows true 0 3 [[.int 7, .int a, .int b]]),(8, .rows true (ch i).length 1 ((ch i).map zaB))],9⟩)
      (fun d i=>i+d=x.men.length - 1∧(ch i).length=i) ?_ (x.men.length - 1) 0 ?_) ?_ ?_
     rotate_left
     ·exact ⟨ad,by rw [hc0];rfl⟩
     ·simp [go_sem,zad,hc0]
     ·simp
     rintro d2 i ⟨l1,l2⟩ hrec2
     refine J0 ?_
     refine zEr (fun hi=> ?_) (fun hi=> ?_)<;>simp at hi
     ·have hci:=hcs i
      have hlf:=hL now ((i:Int)+1) a ⟨aa,aa⟩ aa
      have hpf:=hP now ((i:Int)+1) b ⟨aa,aa⟩ aa
      have hlfb:=zef hx (n:=(i:Int)+1) ⟨aa,aa⟩ (c:=a.toNat) aa
      have hpfb:=zef hx (n:=(i:Int)+1) ⟨aa,aa⟩ (c:=b.toNat) aa
      have hpe:zjS x ((i:Int)+1) b.toNat= - zbQ x ((i:Int)+1) b.toNat:=rfl
      have hil:(ch i).length≤1000:=aa
      rw [← Int.neg_neg (zbQ x ((i:Int)+1) b.toNat),← hpe] at hpfb
      clear hpe
      generalize zbQ x ((i:Int)+1) a.toNat=lv at *
      generalize zjS x ((i:Int)+1) b.toNat=pv at *
      refine J1 hi ?_
      refine zEI [.fp (zdQ g x s now), .int ((i:Int)+1), .int a] (.int lv) [0] hlf (.v _) (fun h₁ hS=> .cons (znX (l:=1) (k:=last.length) dI) (.refl _ _ _ _)) ae ?_
      refine J0 ?_
      refine zEI [.fp (zdQ g x s now), .int ((i:Int)+1), .int b] (.int pv) [0] hpf (.v _) (fun h₁ hS=> .cons (znX (l:=1) (k:=last.length) dI) (.refl _ _ _ _)) ae ?_
      refine J0 ?_
      refine zEp (hrec2 (d2 - 1) aa (i+1) ⟨aa,cN⟩) ?_ ad
      simp [go_sem,zad,hci]
     obtain rfl:i=x.men.length - 1:=aa
     have hlsl:ls.length=last.length:=by rw [hls]
     clear hcs hc0 hrec2
     refine J0 ?_
    case' inr.inr.inl=>
     have hA:zhe g x s now last (8,a,b)=([],zal a s,last):=rfl
     rw [hA] at hact
     simp only [Prod.mk.injEq] at hact
     obtain ⟨hcl,hnw,hls⟩:=hact
     replace hcl:=hcl.symm
     replace hnw:=hnw.symm
     replace hls:=hls.symm
     have hcd:=za5 a s
     refine J3 hj ha hfn ?_
     refine aF Tryz.func163 ?_
     refine J0 ?_
     refine dP hcd ?_
     have hlsl:ls.length=last.length:=by rw [hls]
     refine J0 ?_
    case' inr.inr.inr.inl=>
     have hA:zhe g x s now last (9,a,b)=([],now,last.set a.toNat 9):=rfl
     rw [hA] at hact
     simp only [Prod.mk.injEq] at hact
     obtain ⟨hcl,hnw,hls⟩:=hact
     replace hcl:=hcl.symm
     replace hnw:=hnw.symm
     replace hls:=hls.symm
     have hall:a.toNat<last.length:=aa
     refine J3 hj ha hfn ?_
     refine aF Tryz.func162 ?_
     refine J1 hall ?_
     have hse:(last.map zaB).set a.toNat [.int 9]=(last.set a.toNat 9).map zaB:=by rw [List.map_set];rfl
     simp only [hse]
     have hlsl:ls.length=last.length:=by rw [hls];simp
     refine J0 ?_
    case' inr.inr.inr.inr=>
     have hA:zhe g x s now last (10,a,b)=(if nth last a.toNat=9 then [- nth x.rights a.toNat] else if nth last a.toNat=10 then [0] else [- nth x.rights a.toNat,0],now,last.set a.toNat 10):=rfl
     rw [hA] at hact
     simp only [Prod.mk.injEq] at hact
     obtain ⟨hcl,hnw,hls⟩:=hact
     replace hcl:=hcl.symm
     replace hnw:=hnw.symm
     replace hls:=hls.symm
     have hall:a.toNat<last.length:=aa
     have hrl:=hx.rl
     have har:a.toNat<x.rights.length:=aa
     have hav:=zgj hx.rv har
     refine J3 hj ha hfn ?_
     refine aF Tryz.func161 ?_
     have hlsl:ls.length=last.length:=by rw [hls];simp
     have hse:(last.map zaB).set a.toNat [.int 10]=(last.set a.toNat 10).map zaB:=by rw [List.map_set];rfl
     by_cases h9:nth last a.toNat=9
     case' pos=>
      rw [if_pos h9] at hcl
      refine J3 hall har h9 ?_
      simp only [hse]
     case' neg=>
      rw [if_neg h9] at hcl
      by_cases h10:nth last a.toNat=10
      case' pos=>
       rw [if_pos h10] at hcl
       refine J3 hall har h10 ?_
       simp only [hse]
      case' neg=>
       rw [if_neg h10] at hcl
       refine J4 hall har h9 h10 ?_
       simp only [hse]
    all_goals
     obtain ⟨KK,hKK⟩:∃KK,KK=ze0 g x s w.to.toNat nw ls (if cl= [] then sum else sum+nth cl 0) (al.drop (j+1)):=⟨_,rfl⟩
     rw [← hKK] at i5
     refine zEp (zEs (α:=Nat) (fun i=>⟨[(0, .ref 0 0 18 0 0),(5, .ref 2 0 2 0 0),(7, .int sum),(8, .ref 5 0 11 0 0),(12,zai cl),(28,zdi al),(29, .int al.length),(30, .int j),(43,zai cl),(44, .int cl.length),(45, .int i)], [(0, .rows true 0 18 [zy8 g x s nw 1 ls.length]),(1, .rows true 0 1 (ls.map zaB)),(2, .rows true 0 2 [[zdi al, .int w.to]]),(3, .rows true 0 1 [[.ref 0 0 18 0 0]]),(5, .rows true 0 11 [zEh])],6⟩)
      (fun d2 i=>i+d2=cl.length∧∀k,k<i→(nth cl k - nth cl 0).tmod x.mod=0) ?_ cl.length 0 ?_) ?_ ?_
     rotate_left
     ·exact ⟨ad,fun k hk=>aa⟩
     ·simp [go_sem,zad,hnw,hls,hcl]
      all_goals refine zak rfl ad aR ?_
      all_goals first|(rw [List.drop_zero,List.take_of_length_le ad])|(simp [zaB])
     ·simp
     rintro d2 i ⟨l1,l2⟩ hrec2
     refine J0 ?_
     refine zEr (fun hi=> ?_) (fun hi=> ?_)<;>simp at hi
     ·have h0:0<cl.length:=by omega
      have b1:=q1 _ (zag hi)
      have b2:=q1 _ (zag h0)
      refine J3 hi h0 hm3 ?_
      refine zEr (fun hne=> ?_) (fun hne=> ?_)
      ·have hBf:B=false:=by
        rw [i5,Bool.and_eq_false_iff]
        refine .inl (Bool.eq_false_iff.2 fun hall=> ?_)
        have:=of_decide_eq_true (List.all_eq_true.1 hall _ (zag hi))
        simp [this] at hne
       rw [hBf]
       refine J0 ?_
       simp [go_sem,zad]
      ·have he:(nth cl i - nth cl 0).tmod x.mod=0:=by simpa using hne
       refine J0 ?_
       refine zEp (hrec2 (d2 - 1) aa (i+1) ⟨aa,fun k hk=> ?_⟩) ?_ ad
       ·by_cases e:k=i
        ·subst e;exact he
        ·exact l2 k aa
       ·simp [go_sem,zad]
     ·have hall:cl.all (fun n=>decide ((n - nth cl 0).tmod x.mod=0))=true:=by
       refine List.all_eq_true.2 fun n hn=> ?_
       obtain ⟨k,hk,rfl⟩:=List.getElem_of_mem hn
       have:=l2 k aa
       rw [zap _ _ hk] at this
       simpa using this
      rw [hall,Bool.true_and] at i5
      refine J0 ?_
      refine zEr (fun hpos=> ?_) (fun hpos=> ?_)<;>simp at hpos
      ·have hne:cl≠ []:=fun e=>by rw [e] at hpos;simp at hpos
       have b2:=q1 _ (zag hpos)
       rw [if_neg hne] at hKK
       refine J1 hpos ?_
       refine zEp (hrec (d - 1) aa (j+1,nw,ls,sum+nth cl 0) ⟨ah,q2,ah,ah,by rw [i5,hKK]⟩) ?_ ad
       simp [go_sem,zad]
      ·have hne:cl= []:=by first|exact hpos|exact List.eq_nil_of_length_eq_zero aa
       rw [if_pos hne] at hKK
       refine J0 ?_
       refine zEp (hrec (d - 1) aa (j+1,nw,ls,sum) ⟨ah,q2,ah,ah,by rw [i5,hKK]⟩) ?_ ad
       simp [go_sem,zad]
  ·rw [List.drop_eq_nil_of_le hj] at i5
   have hpb:=zef hx i2 (c:=w.to.toNat) aa
   have hpe:zjS x now w.to.toNat= - zbQ x now w.to.toNat:=rfl
   have hm2:=hx.m2
   have hm3:¬x.mod=0:=aa
   have hput:=hP now now w.to i2 hw
   rw [ze0] at i5
   generalize zjS x now w.to.toNat=pv at *
   refine J0 ?_
   refine zEI [.fp (zdQ g x s now), .int now, .int w.to] (.int pv) [0] hput (.v _) (fun h₁ hS=> .cons (znX (l:=1) (k:=last.length) dI) (.refl _ _ _ _)) ae ?_
   rw [i5]
   refine J1 hm3 ?_
   simp [go_sem,zad]
 ·refine ⟨ad,hnow,hll,⟨ah,ah⟩,hB⟩
 ·simp [go_sem,zad,zEh]
 ·simp
end Go.Av
end
