/- Texts of ours, part 9: contracts and facts for this claim. -/
import Derived.Test.YtedhfmmlhfmomaaGreatDoorB09
import Derived.Test.YtedhfmmlhfmomaaGreatDoorSNx08
set_option linter.unusedSimpArgs false
set_option linter.unusedVariables false
set_option maxRecDepth 100000
set_option maxHeartbeats 40000000
section
open Go Go.Proofs
namespace Go.Av
theorem zt4 (of at_ : List Int) (name : Int) (k : Nat) : zeU of at_ name (k + 1) = zeU of at_ name k ++ [if nth of k = name then nth at_ k else 0] := by simp [zeU, List.range_succ]
theorem znV (of : List Int) (p : zal) (name : Int) (hof : of.length = p.at_.length) (hp : p.at_.length ≤ 1048576) :
    zaJ Tryz.prog 80 [zaj of, .agg (zag p), .v (.int .i64 name)] (.agg (zag (za4 of p name))) := by
  refine pF Tryz.func80 ?_
  unfold za4
  obtain ⟨at_, h0, h1, rt, sd⟩ := p
  simp only at hof hp ⊢
  repeat first|refine wV fun _=>?_|simp [go_sem]
  refine zBh (zBk (α := Nat) (fun c => ⟨[(0, zaj of), (2, .v (.int .i64 name)), (4, .ref 0 0 5 0 0), (6, .ref 1 0 5 0 0), (7, .ref 2 0 5 0 0), (8, .v (.int .i64 c))],
      [(0, .rows true 0 5 [[zaj at_, zaj h0, zaj h1, .v (.int .i64 rt), .v (.int .i64 sd)]]), (1, .rows true 0 5 [[.v (.slice none 0 0), .v (.slice none 0 0), .v (.slice none 0 0), .v (.int .i64 0), .v (.int .i64 0)]]),
       (2, .rows true 0 5 [[.sl 3 c 1 0 c, zaj h0, zaj h1, .v (.int .i64 rt), .v (.int .i64 sd)]]), (3, .rows true c 1 ((zeU of at_ name c).map zbd))], 4⟩)
    (fun d c => c + d = at_.length) ?_ at_.length 0 ?_) ?_ ?_
  · rintro d c i1 hrec
    have hs := zt4 of at_ name c
    have hn := zku of at_ name c
    repeat first|refine wV fun _=>?_|simp [go_sem, hn]
    refine zBj (fun hc => ?_) (fun hc => ?_) <;> simp at hc
    · have hc' : c < of.length := by omega
      repeat first|refine wV fun _=>?_|simp [go_sem, hc, hc', hn]
      refine zBj (fun he => ?_) (fun he => ?_) <;> simp at he
      · rw [if_pos he] at hs
        repeat first|refine wV fun _=>?_|simp [go_sem, hn, hc, hc']
        refine zBh (hrec (d - 1) (by omega) (c + 1) (by omega)) ?_ (by simp)
        simp [go_sem, zaf, hs]
      · rw [if_neg he] at hs
        repeat first|refine wV fun _=>?_|simp [go_sem, hn]
        refine zBh (hrec (d - 1) (by omega) (c + 1) (by omega)) ?_ (by simp)
        simp [go_sem, zaf, hs]
    · have hil : c = at_.length := by omega
      subst hil
      repeat first|refine wV fun _=>?_|simp [go_sem, hn]
      ((try simp only [zaq, zaE, zbt, zcG, zaw, zbm, zaM, zar, zag, zdC, zbz, zaV, zaj, zad, List.map_cons, List.map_nil, List.nil_append, List.append_nil, List.cons_append]); (repeat (first | (with_reducible first|exact zam.nil|exact zak.nil|exact LeV.refl _|exact zam.refl _ _ _ _|exact zak.refl _|refine zam.cons ?_ ?_|refine zak.cons ?_ ?_|refine LeV.agg ?_|refine LeV.tup ?_|refine LeV.fn ?_ ?_|exact LeV.nil _|refine zao (zak.refl _) ?_) | ((refine zaL rfl (by simp [hn]) (by simp [zbB, zb5, upd, noH]) ?_); (first | (simp [go_sem, hn]; done) | (simp [go_sem, hn]; exact List.take_of_length_le (by simp [hn])))) | ((refine LeV.frz rfl (by simp [hn]) (by simp [zbB, zb5, upd, noH]) ?_); (simp only [List.drop_zero, List.take_succ_cons, List.take_zero, List.map_cons, List.map_nil])) | ((refine LeV.frzP rfl (by simp [hn]) (by simp) (by simp [zbB, zb5, upd, noH]) ?_); (simp only [zbe, List.drop_zero])))))
  · simp
  · simp [go_sem, zaf, zeU]
  · simp
theorem zws {α : Type} [DecidableEq α] : ∀ {l r : List α}, l.Nodup → (∀ x ∈ l, x ∈ r) → l.length ≤ r.length
 | [], r, _, _ => by simp
 | x :: l, r, hn, hs => by
  rw [List.nodup_cons] at hn
  have hx := hs x (by simp)
  have := zws (l := l) (r := r.erase x) hn.2 (fun y hy => by
   have hne : y ≠ x := fun h => hn.1 (h ▸ hy)
   exact (List.mem_erase_of_ne hne).2 (hs y (by simp [hy])))
  rw [List.length_erase_of_mem hx] at this
  have := List.length_pos_of_mem hx
  simp only [List.length_cons]
  omega
theorem znW : ∀ {more l : List StD} {s : StD}, s ∈ zfg l more ↔ s ∈ l ∨ s ∈ more
 | [], l, s => by simp [zfg]
 | x :: more, l, s => by
  show s ∈ zfg (if x ∈ l then l else l ++ [x]) more ↔ _
  rw [znW]
  split
  ·rename_i h
   simp only [List.mem_cons]
   exact ⟨fun h => by rcases h with h | h <;> simp [h], fun h' => by rcases h' with h' | rfl | h' <;> simp [*]⟩
  ·simp [or_assoc]
theorem zhK : ∀ {more l : List StD}, l.Nodup → (zfg l more).Nodup
 | [], l, h => h
 | x :: more, l, h => by
  show (zfg (if x ∈ l then l else l ++ [x]) more).Nodup
  split
  ·exact zhK h
  ·rename_i hx
   refine zhK (List.nodup_append.2 ⟨h, by simp, ?_⟩)
   intro a ha b hb e
   simp only [List.mem_singleton] at hb
   subst hb; subst e
   exact hx ha
theorem zki (g : zac) (x : Int × Int) : ∀ (now acc : List StD) (s : StD), s ∈ now.foldl (fun next s => zfg next (zbV g s x)) acc ↔ s ∈ acc ∨ ∃ r ∈ now, s ∈ zbV g r x
 | [], acc, s => by simp
 | r :: now, acc, s => by
  rw [List.foldl_cons, zki g x now, znW]
  simp [or_assoc]
theorem zia {g : zac} {x : Int × Int} {now : List StD} {s : StD} : s ∈ zgN g now x ↔ ∃ r ∈ now, s ∈ zbV g r x := by
 unfold zgN
 rw [zki]
 simp
theorem ziD (g : zac) (x : Int × Int) : ∀ (now acc : List StD), acc.Nodup → (now.foldl (fun next s => zfg next (zbV g s x)) acc).Nodup
 | [], acc, h => h
 | r :: now, acc, h => ziD g x now _ (zhK h)
theorem zq3 (g : zac) (now : List StD) (x : Int × Int) : (zgN g now x).Nodup := ziD g x now [] (by simp)
theorem zlQ (g : zac) : ∀ (prog : List (Int × Int)) (now : List StD), now.Nodup → (prog.foldl (zgN g) now).Nodup
 | [], now, h => h
 | x :: prog, now, _ => zlQ g prog _ (zq3 g now x)
def zyh (s : StD) (c : Int) : StD := { s with cursor := c }
def FewS (n : Nat) (l : List StD) : Prop := ∃ B : List StD, B.length ≤ n ∧ ∀ s ∈ l, ∃ t ∈ B, s = zyh t s.cursor
theorem zkH {s : StD} : ∀ {l : List Int}, ∀ t ∈ zcf s l, t = zyh s t.cursor
 | [], t, h => by simp [zcf] at h
 | c :: l, t, h => by
  rw [zcf, List.mem_cons] at h
  rcases h with rfl | h
  ·rfl
  ·split at h
   ·exact zkH t h
   ·simp at h
def zde (x : Int × Int) : Bool := x.1 == 6 || x.1 == 7
theorem zfF {s t : StD} {b : Bool} (h : t ∈ zcT s b) : t = s := by
 unfold zcT at h
 split at h <;> simp at h
 exact h
theorem zuq (g : zac) (x : Int × Int) (hx : zde x = false) : ∃ f : StD → StD, ∀ t c, ∀ u ∈ zbV g (zyh t c) x, u = zyh (f t) u.cursor := by
 simp only [zde, Bool.or_eq_false_iff, beq_eq_false_iff_ne] at hx
 by_cases h8 : x.1 = 8
 ·refine ⟨fun t => { t with kind := x.2 }, fun t c u hu => ?_⟩
  simp [zbV, h8] at hu
  subst hu; rfl
 by_cases h10 : x.1 = 10
 ·refine ⟨fun t => { t with p := { t.p with rights := zdh .i64 t.p.rights (2 ^ x.2.toNat) } }, fun t c u hu => ?_⟩
  simp [zbV, h10] at hu
  subst hu; rfl
 refine ⟨id, fun t c u hu => ?_⟩
 unfold zbV at hu
 simp only [h8, h10, hx.1, hx.2, if_false] at hu
 repeat' split at hu
 ·have := zfF hu; subst this; rfl
 ·have := zkH u hu
  rw [this]; rfl
 ·have := zfF hu; subst this; rfl
 ·have := zfF hu; subst this; rfl
 ·have := zfF hu; subst this; rfl
 ·have := zfF hu; subst this; rfl
 ·simp at hu; subst hu; rfl
theorem zxi (g : zac) (s : StD) (x : Int × Int) (hx : zde x = true) : (zbV g s x).length ≤ 1 := by
 simp only [zde, Bool.or_eq_true, beq_iff_eq] at hx
 unfold zbV
 rcases hx with h | h
 ·simp only [h]
  rw [if_neg (by decide), if_neg (by decide), if_neg (by decide), if_neg (by decide), if_neg (by decide), if_pos trivial]
  unfold zrt
  simp only
  split
  ·simp
  ·split
   ·split <;> simp
   ·simp
 ·simp only [h]
  rw [if_neg (by decide), if_neg (by decide), if_neg (by decide), if_neg (by decide), if_neg (by decide), if_neg (by decide), if_pos trivial]
  unfold zrh
  simp only
  split <;> simp
theorem zeN {α β : Type} (f : α → List β) (m : Nat) : ∀ (l : List α), (∀ x ∈ l, (f x).length ≤ m) → (l.flatMap f).length ≤ l.length * m
 | [], _ => by simp
 | x :: l, h => by
  have := zeN f m l (fun y hy => h y (by simp [hy]))
  have := h x (by simp)
  rw [List.flatMap_cons, List.length_append, List.length_cons, Nat.succ_mul]
  omega
theorem zv1 {g : zac} {now : List StD} {x : Int × Int} {n : Nat} (hc : ∀ s ∈ now, 0 ≤ s.cursor ∧ s.cursor < 9) (h : FewS n now) : FewS (n * (if zde x then 9 else 1)) (zgN g now x) := by
 obtain ⟨B, hB, hs⟩ := h
 by_cases hx : zde x = true
 ·refine ⟨B.flatMap fun t => (List.range 9).flatMap fun (c : Nat) => zbV g (zyh t c) x, ?_, fun u hu => ?_⟩
  ·have h1 := zeN (fun t : StD => (List.range 9).flatMap fun (c : Nat) => zbV g (zyh t c) x) 9 B (fun t _ => by
    have := zeN (fun (c : Nat) => zbV g (zyh t c) x) 1 (List.range 9) (fun c _ => zxi g _ x hx)
    simpa using this)
   rw [if_pos hx]
   exact Nat.le_trans h1 (Nat.mul_le_mul_right 9 hB)
  ·obtain ⟨r, hr, hu⟩ := zia.1 hu
   obtain ⟨t, ht, e⟩ := hs r hr
   have := hc r hr
   refine ⟨u, List.mem_flatMap.2 ⟨t, ht, List.mem_flatMap.2 ⟨r.cursor.toNat, by simp; omega, ?_⟩⟩, rfl⟩
   rw [show ((r.cursor.toNat : Nat) : Int) = r.cursor by omega, ← e]
   exact hu
 ·simp only [Bool.not_eq_true] at hx
  obtain ⟨f, hf⟩ := zuq g x hx
  refine ⟨B.map f, by simp [hx]; exact hB, fun u hu => ?_⟩
  obtain ⟨r, hr, hu⟩ := zia.1 hu
  obtain ⟨t, ht, e⟩ := hs r hr
  rw [e] at hu
  exact ⟨f t, List.mem_map_of_mem ht, hf t _ u hu⟩
theorem zAK {g : zac} (hg : GOk g) {now : List StD} {x : Int × Int} (hx : zeg g.next.length g.kinds.length g.rights x) (hn : ∀ s ∈ now, zgS g s) : ∀ s ∈ zgN g now x, zgS g s := by
 intro s hs
 obtain ⟨r, hr, hs⟩ := zia.1 hs
 exact (zjl hg (hn r hr) hx s hs).1
theorem zoC {g : zac} (hg : GOk g) : ∀ (prog : List (Int × Int)) (now : List StD) (n : Nat), (∀ x ∈ prog, zeg g.next.length g.kinds.length g.rights x) → (∀ s ∈ now, zgS g s) → FewS n now →
  FewS (n * 9 ^ prog.countP zde) (prog.foldl (zgN g) now)
 | [], now, n, _, _, h => by simpa using h
 | x :: prog, now, n, hp, hn, h => by
  have h9 := hg.c9
  have h1 := zv1 (g := g) (x := x) (fun s hs => ⟨(hn s hs).c0, by have := (hn s hs).c1; omega⟩) h
  have h2 := zoC hg prog _ _ (fun y hy => hp y (by simp [hy])) (zAK hg (hp x (by simp)) hn) h1
  rw [List.foldl_cons, List.countP_cons]
  have e : n * (if zde x = true then 9 else 1) * 9 ^ prog.countP zde = n * 9 ^ (prog.countP zde + if zde x = true then 1 else 0) := by
   by_cases hx : zde x = true
   ·rw [if_pos hx, if_pos hx, Nat.pow_succ, Nat.mul_assoc, Nat.mul_comm 9]
   ·rw [if_neg hx, if_neg hx, Nat.mul_one, Nat.add_zero]
  rw [← e]
  exact h2
theorem zyp {l : List StD} {n : Nat} (hn : l.Nodup) (hc : ∀ s ∈ l, 0 ≤ s.cursor ∧ s.cursor < 9) (h : FewS n l) : l.length ≤ n * 9 := by
 obtain ⟨B, hB, hs⟩ := h
 have h1 := zws (r := B.flatMap fun t => (List.range 9).map fun (c : Nat) => zyh t c) hn (fun s h => by
  obtain ⟨t, ht, e⟩ := hs s h
  have := hc s h
  refine List.mem_flatMap.2 ⟨t, ht, List.mem_map.2 ⟨s.cursor.toNat, by simp; omega, ?_⟩⟩
  rw [show ((s.cursor.toNat : Nat) : Int) = s.cursor by omega, ← e])
 have h2 := zeN (fun t : StD => (List.range 9).map fun (c : Nat) => zyh t c) 9 B (fun t _ => by simp)
 exact Nat.le_trans h1 (Nat.le_trans h2 (Nat.mul_le_mul_right 9 hB))
theorem zqy (prog : List (Int × Int)) : prog.countP zde ≤ zat prog 6 + zat prog 7 := by
 unfold zat
 induction prog with
 | nil => simp
 | cons x l ih =>
  simp only [List.countP_cons, zde]
  by_cases h6 : x.1 = 6
  ·simp [h6]; omega
  ·by_cases h7 : x.1 = 7
   ·simp [h7]; omega
   ·simp [h6, h7]; omega
theorem zwn {g : zac} (hg : GOk g) {p : zal} (hp : POk g p) {cell i : Int} (hc : zct g p cell i) : (zfh g p cell (zbI g p cell i)).length ≤ 6561 := by
 have hpg := zw0 hg hp hc
 have hst := (zkP hg hp hc.c0 hc.c1 hc.man).1
 have h1 := zoC hg (zbI g p cell i) [zfd p cell] 1 hpg.st (fun s hs => by simp at hs; subst hs; exact hst) ⟨[zfd p cell], by simp, fun s hs => ⟨s, hs, rfl⟩⟩
 have h9 := hg.c9
 have h2 := zyp (zlQ g (zbI g p cell i) [zfd p cell] (by simp)) (fun s hs => by
  have := ((zjd hg hp hc).1 s hs).1
  exact ⟨this.c0, by have := this.c1; omega⟩) h1
 have h3 : (zbI g p cell i).countP zde ≤ 3 := by
  have := zqy (zbI g p cell i)
  have := hpg.take
  have := hpg.push
  omega
 have h4 : 9 ^ (zbI g p cell i).countP zde ≤ 9 ^ 3 := Nat.pow_le_pow_right (by omega) h3
 have h5 : (zfh g p cell (zbI g p cell i)).length ≤ 1 * 9 ^ (zbI g p cell i).countP zde * 9 := h2
 omega
theorem zui {g : zac} (hg : GOk g) {p : zal} (hp : POk g p) {cell i : Int} (hc : zct g p cell i) : (ze0 g p cell i).length ≤ 6561 := by
 unfold ze0
 have h1 := zhE znM ((zfh g p cell (zbI g p cell i)).filterMap (zhz p.side))
 have h2 : ((zfh g p cell (zbI g p cell i)).filterMap (zhz p.side)).length ≤ (zfh g p cell (zbI g p cell i)).length := List.length_filterMap_le _ _
 have h3 := zwn hg hp hc
 omega
theorem zq7 {g : zac} (hg : GOk g) {p : zal} (hp : POk g p) {c : Nat} (hc : c < p.at_.length) : (zdK g p c).length ≤ 52488 := by
 unfold zdK
 split
 ·rename_i hm
  have hal := hp.al
  have hk := zqS hg hp (cell := c) (by omega) (by omega) (by simpa using hm.1)
  have hpn := hg.pn _ (zah (by simpa using hk))
  have := zbS (fun (i : Nat) => ze0 g p c i) 6561 (nth g.kinds (zav (nth p.at_ c)).1.toNat).progs.length (fun i hi => zui hg hp (zjK hp hc hm hi))
  omega
 ·simp
theorem zt1 {g : zac} (hg : GOk g) {p : zal} (hp : POk g p) {k : Nat} (hk : k ≤ p.at_.length) : ((List.range k).flatMap (zdK g p)).length ≤ 472392 := by
 have := zbS (zdK g p) 52488 k (fun c hc => zq7 hg hp (by omega))
 have h9 := hg.c9
 have hal := hp.al
 omega
theorem zt2 {g : zac} (hg : GOk g) {p : zal} (hp : POk g p) : (zgg g p).length ≤ 472392 := zt1 hg hp (Nat.le_refl _)
theorem zqY {g : zac} (hg : GOk g) {p : zal} (hp : POk g p) : (zhr g p).length ≤ 472446 := by
 unfold zhr
 have h1 := zt2 hg hp
 have h2 := zlK hg hp
 have h3 : ((zgg g p).filter fun o => !ziT g p || o.took).length ≤ (zgg g p).length := List.length_filter_le _ _
 rw [List.length_append, List.length_map]
 split <;> simp <;> omega
theorem zc1 {g : zac} (hg : GOk g) {p : zal} (hp : POk g p) : (zaN g p).length ≤ 472446 := by
 unfold zaN
 split
 ·simp
 ·exact Nat.le_trans (zhE zcK _) (zqY hg hp)
end Go.Av
end
section
open Go Go.Proofs
namespace Go.Av
theorem zyW {s : Nat → Bool} {a b c : List Int} : zjf s a (zjf s c b) = zjf s a b := by
 refine za3 (by simp [zbb]) fun i hi => ?_
 have hi : i < b.length := by simpa [zbb] using hi
 rw [zcR (by rw [zbb]; exact hi), zcR hi, zcR hi]
 by_cases e : s i = true
 ·simp [e]
 ·simp [e]
theorem zAX {s : Nat → Bool} {a b : List Int} (h : a.length = b.length) (he : ∀ z, z < b.length → s z = true → nth a z = nth b z) : zjf s a b = a := by
 refine za3 (by simp [zbb, h]) fun i hi => ?_
 have hi : i < b.length := by simpa [zbb] using hi
 rw [zcR hi]
 split
 ·rename_i e; exact (he i hi e).symm
 ·rfl
section
variable {s : Nat → Bool} {a : List Int}
end
end Go.Av
end
section
open Go Go.Proofs
namespace Go.Av
def zdN (p : zal) : zal := { p with side := 1 - p.side }
theorem zso {g : zac} {p : zal} (hp : POk g p) : POk g (zdN p) := ⟨hp.al, hp.av, hp.h0, hp.h1, hp.r0, hp.r1, by rcases hp.s with h | h <;> simp [zdN, h]⟩
theorem zAZ {s : Nat → Bool} {a c : List Int} (p : zal) : (p.pt s c).pt s a = p.pt s a := by
 unfold zal.pt
 simp only [zyW]
theorem zh9 {g : zac} (hg : GOk g) (hn : zff g) {p : zal} (hp : POk g p) {m : zal} (hm : m ∈ zaN g p) : m.side = 1 - p.side := by
 obtain ⟨c, c1, h0, hs, o, ho, rfl⟩ := (zhs hg hn hp).1 hm
 have := (zpq ho).1
 simp only [Int.toNat_natCast] at this
 rw [this, hs]
theorem zwD {g : zac} (hg : GOk g) {p : zal} (hp : POk g p) {m : zal} (hm : m ∈ zaN g p) : m.at_.length = p.at_.length := by
 have h1 := (zcN hg hp m hm).1.al
 have h2 := hp.al
 omega
def zh6 (g : zac) (p : zal) (r : Int) (m : zal) : Bool := !decide (za4 (ofG g) m r = zdN (za4 (ofG g) p r))
def zbr (g : zac) (p : zal) (r : Int) : List zal := ((zaN g p).filter (zh6 g p r)).map fun m => za4 (ofG g) m r
theorem zgL {g : zac} {p : zal} {r : Int} {x : zal} : x ∈ zbr g p r ↔ ∃ m ∈ zaN g p, za4 (ofG g) m r = x ∧ x ≠ zdN (za4 (ofG g) p r) := by
 unfold zbr
 rw [List.mem_map]
 constructor
 ·rintro ⟨m, hm, rfl⟩
  obtain ⟨h1, h2⟩ := List.mem_filter.1 hm
  exact ⟨m, h1, rfl, by simpa [zh6] using h2⟩
 ·rintro ⟨m, hm, rfl, h⟩
  exact ⟨m, List.mem_filter.2 ⟨hm, by simpa [zh6] using h⟩, rfl⟩
theorem zlT {g : zac} (h : znL g) (hn : zff g) {p q : zal} (hp : POk g p) (hq : POk g q) (hs : q.side = p.side) {r : Int} (he : ∀ z, z < p.at_.length → nth (ofG g) z = r → nth q.at_ z = nth p.at_ z) {x : zal}
  (hx : x ∈ zbr g p r) : x ∈ zbr g q r := by
 have hal := hp.al
 have hal2 := hq.al
 have hlen := zic g
 have hll : q.at_.length = p.at_.length := by omega
 obtain ⟨a1, a2, a3⟩ := hp.zero hn.nh
 obtain ⟨b1, b2, b3⟩ := hq.zero hn.nh
 have e1 : ∀ (m : zal) (s : Nat → Bool) (a : List Int), m.pt s a = ⟨zjf s a m.at_, m.h0, m.h1, m.rights, m.side⟩ := fun _ _ _ => rfl
 have e2 : q = ⟨q.at_, q.h0, q.h1, q.rights, q.side⟩ := rfl
 have eq : p.pt (inR g r) q.at_ = q := by
  have e : zjf (inR g r) q.at_ p.at_ = q.at_ := zAX hll fun z hz hsz => he z hz (by simpa [inR] using hsz)
  rw [e1, e, a1.trans b1.symm, a2.trans b2.symm, a3.trans b3.symm, ← hs]
 have epart : za4 (ofG g) q r = za4 (ofG g) p r := by rw [← eq, zdY, zdY]; exact zAZ (s := inR g r) p
 obtain ⟨m, hm, hmx, hne⟩ := zgL.1 hx
 have hml := zwD h.ok hp hm
 have hms := zh9 h.ok hn hp hm
 obtain ⟨c1', c2', c3'⟩ := (zcN h.ok hp m hm).1.zero hn.nh
 obtain ⟨c, c1, h0, hsd, o, ho, rfl⟩ := (zhs h.ok hn hp).1 hm
 by_cases hc : nth (ofG g) c = r
 ·subst hc
  have key := (zjj (a := q.at_) h hp c1 h0 (o.pt (inR g (nth (ofG g) c)) q.at_)).2 ⟨o, ho, rfl⟩
  rw [eq] at key
  have hqc : nth q.at_ c = nth p.at_ c := he c (by omega) rfl
  refine zgL.2 ⟨o.pos.pt (inR g (nth (ofG g) c)) q.at_, (zhs h.ok hn hq).2 ⟨c, c1, by rw [hqc]; exact h0, by rw [hqc, hs]; exact hsd, _, key, rfl⟩, ?_, by rw [epart]; exact hne⟩
  rw [← hmx, zdY, zdY]
  exact zAZ (s := inR g (nth (ofG g) c)) o.pos
 ·exfalso
  refine hne ?_
  rw [← hmx]
  have e : zeU (ofG g) o.pos.at_ r o.pos.at_.length = zeU (ofG g) p.at_ r p.at_.length := by
   rw [hml]
   refine List.map_congr_left fun z hz => ?_
   by_cases e : nth (ofG g) z = r
   ·rw [if_pos e, if_pos e, zrk h hp c1 ho (by rw [e]; exact fun h => hc h.symm)]
   ·rw [if_neg e, if_neg e]
  have e3 : za4 (ofG g) o.pos r = ⟨zeU (ofG g) o.pos.at_ r o.pos.at_.length, o.pos.h0, o.pos.h1, o.pos.rights, o.pos.side⟩ := rfl
  have e4 : zdN (za4 (ofG g) p r) = ⟨zeU (ofG g) p.at_ r p.at_.length, p.h0, p.h1, p.rights, 1 - p.side⟩ := rfl
  rw [e3, e4, e, c1', c2', c3', hms, a1, a2, a3]
theorem zqM {g : zac} (h : znL g) (hn : zff g) {p q : zal} (hp : POk g p) (hq : POk g q) (hs : q.side = p.side) {r : Int} (he : ∀ z, z < p.at_.length → nth (ofG g) z = r → nth q.at_ z = nth p.at_ z) :
  zcI zcK (zbr g p r) = zcI zcK (zbr g q r) := by
 have h1 := hp.al
 have h2 := hq.al
 refine zkK zbo fun x => ⟨zlT h hn hp hq hs he, zlT h hn hq hp hs.symm fun z hz e => (he z (by omega) e).symm⟩
end Go.Av
end
