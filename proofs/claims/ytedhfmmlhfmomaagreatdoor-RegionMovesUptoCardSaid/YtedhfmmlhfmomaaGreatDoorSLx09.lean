/- Texts of ours, part 9: contracts and facts for this claim. -/
import Derived.Test.YtedhfmmlhfmomaaGreatDoorB09
import Derived.Test.YtedhfmmlhfmomaaGreatDoorSLx08
set_option linter.unusedSimpArgs false
set_option linter.unusedVariables false
set_option maxRecDepth 100000
set_option maxHeartbeats 40000000
section
open Go Go.Proofs
namespace Go.Av
theorem zdX (of : List Int) (n : Nat) : (zaO of n).Nodup := by
 unfold zaO
 have h : ((List.range n).filter fun (c : Nat) => decide (nth of c = (c : Int))).Nodup := List.Pairwise.filter _ List.nodup_range
 rw [List.Nodup, List.pairwise_map]
 exact h.imp fun hne e => hne (by omega)
theorem zht {l : List Int} (h : l.Nodup) {i j : Nat} (hi : i < l.length) (hj : j < l.length) (e : nth l i = nth l j) : i = j := by
 rw [zaA _ _ hi, zaA _ _ hj] at e
 have hp := List.pairwise_iff_getElem.1 h
 rcases Nat.lt_trichotomy i j with h1 | h1 | h1
 ·exact absurd e (hp i j hi hj h1)
 ·exact h1
 ·exact absurd e.symm (hp j i hj hi h1)
theorem zhu (of at_ : List Int) (name : Int) {k c : Nat} (h : c < k) : nth (zeU of at_ name k) c = if nth of c = name then nth at_ c else 0 := zbL _ h
theorem zmd (of : List Int) (p : zal) (name : Int) : za4 of (za4 of p name) name = za4 of p name := by
 unfold za4
 simp only [zku]
 congr 1
 refine List.map_congr_left fun c hc => ?_
 rw [zhu _ _ _ (List.mem_range.1 hc)]
 split <;> rfl
def refA (of names : List Int) (l : List zal) : Nat → Nat → Int
 | 0, _ => 0
 | k + 1, c => if nth of c = nth names k then nth (nth l k).at_ c else refA of names l k c
theorem okJ_at {of : List Int} {l : List zal} {k i : Nat} (h : okJ of l k = true) (hi : i < k) : (nth l i).side = (nth l 0).side ∧ nth l i = za4 of (nth l i) (nth (zaO of of.length) i) := by
 have := List.all_eq_true.1 h i (List.mem_range.2 hi)
 simp only [Bool.and_eq_true, decide_eq_true_eq] at this
 exact ⟨this.1, zhQ.1 this.2⟩
theorem zr2 {of : List Int} {l : List zal} {k i : Nat} (h : okJ of l k = true) (hi : i < k) {c : Nat} (hc : c < (nth l i).at_.length) : nth (nth l i).at_ c = if nth of c = nth (zaO of of.length) i then nth (nth l i).at_ c else 0 := by
 have e := congrArg zal.at_ (okJ_at h hi).2
 conv => lhs; rw [e]
 exact zhu of _ _ hc
theorem zpA {of : List Int} {l : List zal} {k n : Nat} (h : okJ of l k = true) (hl : ∀ p ∈ l, p.at_.length = n) (hk : k ≤ l.length) {c : Nat} (hc : c < n) :
  ∀ i, i ≤ k → (∀ j, j < i → nth of c ≠ nth (zaO of of.length) j) → zrs l i c = 0
 | 0, _, _ => rfl
 | i + 1, hi, hne => by
  have hlen := hl _ (zah (show i < l.length by omega))
  rw [zrs, zpA h hl hk hc i (by omega) (fun j hj => hne j (by omega)), zr2 h (show i < k by omega) (by omega), if_neg (hne i (by omega))]
  rfl
theorem zsn {of : List Int} {l : List zal} {n : Nat} (hof : of.length = n) (hll : l.length ≤ (zaO of of.length).length) (h : okJ of l l.length = true) (hl : ∀ p ∈ l, p.at_.length = n) {c : Nat} (hc : c < n) :
  ∀ k, k ≤ l.length → zrs l k c = refA of (zaO of of.length) l k c
 | 0, _ => rfl
 | k + 1, hk => by
  have hlen := hl _ (zah (show k < l.length by omega))
  have ih := zsn hof hll h hl hc k (by omega)
  rw [zrs, refA, zr2 h (show k < l.length by omega) (by omega)]
  split
  ·rename_i e
   rw [zpA h hl (Nat.le_refl _) hc k (by omega) (fun j hj e' => ?_)]
   ·omega
   ·have := zht (zdX of of.length) (i := k) (j := j) (by omega) (by omega) (e.symm.trans e')
    omega
  ·rw [ih]; omega
theorem zw7 {of names : List Int} {l : List zal} (hnd : names.Nodup) {c : Nat} {i : Nat} (hn : i < names.length) (e : nth of c = nth names i) : ∀ k, i < k → k ≤ names.length → refA of names l k c = nth (nth l i).at_ c
 | 0, h, _ => by omega
 | k + 1, h, hk => by
  rw [refA]
  by_cases hik : i = k
  ·subst hik; rw [if_pos e]
  ·rw [if_neg, zw7 hnd hn e k (by omega) (by omega)]
   intro e'
   exact hik (zht hnd hn (by omega) (e.symm.trans e'))
theorem zes {of : List Int} {p : zal} {i : Nat} (hi : i < (zaO of of.length).length) : nth (zaW of p) i = za4 of p (nth (zaO of of.length) i) := zcb _ _ _ hi
theorem zhx {g : zac} {p : zal} (hp : POk g p) (of : List Int) : zhJ g of (zaW of p) p.side := by
 refine ⟨by simp [zaW], fun q hq => ?_, fun q hq => ?_, fun i hi => ?_⟩
 ·obtain ⟨x, _, rfl⟩ := List.mem_map.1 hq; exact zci hp of x
 ·obtain ⟨x, _, rfl⟩ := List.mem_map.1 hq; rfl
 ·have hi' : i < (zaO of of.length).length := by simpa [zaW] using hi
  rw [zes hi', zmd]
theorem zrZ {g : zac} {of : List Int} (ho : zuK of) (hof : (of.length : Int) = g.cells) {l : List zal} {side : Int} (h : zhJ g of l side) {c i : Nat} (hc : c < of.length) (hi : i < (zaO of of.length).length)
  (e : nth of c = nth (zaO of of.length) i) : nth (zdq l of.length) c = nth (nth l i).at_ c := by
 unfold zdq
 rw [zbL _ hc, zsn rfl (by rw [h.len]; omega) h.okJ (fun p hp => by have := (h.ok p hp).al; omega) hc _ (Nat.le_refl _)]
 exact zw7 (zdX _ _) hi e _ (by rw [h.len]; exact hi) (by rw [h.len]; omega)
theorem zuK.idx {of : List Int} (ho : zuK of) {c : Nat} (hc : c < of.length) : ∃ i, i < (zaO of of.length).length ∧ nth of c = nth (zaO of of.length) i := by
 obtain ⟨i, hi, e⟩ := List.getElem_of_mem (ho.mem hc)
 exact ⟨i, hi, by rw [zaA _ _ hi, e]⟩
theorem zyx {g : zac} {of : List Int} (ho : zuK of) (hof : (of.length : Int) = g.cells) (h1 : 1 ≤ of.length) {l : List zal} {side : Int} (h : zhJ g of l side) : POk g (znp l of.length) := by
 have hpos : 0 < l.length := by rw [h.len]; have := ho.pos h1; omega
 have hp := h.ok _ (zah hpos)
 refine ⟨?_, fun x hx => ?_, hp.h0, hp.h1, hp.r0, hp.r1, hp.s⟩
 ·show ((zdq l of.length).length : Int) = g.cells
  simp [zdq]; exact hof
 ·obtain ⟨c, hc, rfl⟩ := List.getElem_of_mem hx
  have hc' : c < of.length := by
   have : (znp l of.length).at_.length = of.length := by simp [znp, zdq]
   omega
  obtain ⟨i, hi, e⟩ := ho.idx hc'
  have := zrZ ho hof h hc' hi e
  rw [zaA _ _ (by simpa [zdq] using hc')] at this
  show 0 ≤ (zdq l of.length)[c]'(by simpa [zdq] using hc') ∧ (zdq l of.length)[c]'(by simpa [zdq] using hc') ≤ 2 * g.kinds.length
  rw [this]
  have hq := h.ok _ (zah (show i < l.length by rw [h.len]; exact hi))
  exact hq.av _ (zah (by have := hq.al; omega))
theorem zws {α : Type} [DecidableEq α] : ∀ {l r : List α}, l.Nodup → (∀ x ∈ l, x ∈ r) → l.length ≤ r.length
 | [], r, _, _ => by simp
 | x :: l, r, hn, hs => by
  rw [List.nodup_cons] at hn
  have hx := hs x (by simp)
  have := zws (l := l) (r := r.erase x) hn.2 (fun y hy => by
   have hne : y ≠ x := fun h => hn.1 (h ▸ hy)
   exact (List.mem_erase_of_ne hne).2 (hs y (by simp [hy])))
  rw [List.length_erase_of_mem hx] at this
  have := List.length_pos_of_mem hx
  simp only [List.length_cons]
  omega
theorem znW : ∀ {more l : List StD} {s : StD}, s ∈ zfg l more ↔ s ∈ l ∨ s ∈ more
 | [], l, s => by simp [zfg]
 | x :: more, l, s => by
  show s ∈ zfg (if x ∈ l then l else l ++ [x]) more ↔ _
  rw [znW]
  split
  ·rename_i h
   simp only [List.mem_cons]
   exact ⟨fun h => by rcases h with h | h <;> simp [h], fun h' => by rcases h' with h' | rfl | h' <;> simp [*]⟩
  ·simp [or_assoc]
theorem zhK : ∀ {more l : List StD}, l.Nodup → (zfg l more).Nodup
 | [], l, h => h
 | x :: more, l, h => by
  show (zfg (if x ∈ l then l else l ++ [x]) more).Nodup
  split
  ·exact zhK h
  ·rename_i hx
   refine zhK (List.nodup_append.2 ⟨h, by simp, ?_⟩)
   intro a ha b hb e
   simp only [List.mem_singleton] at hb
   subst hb; subst e
   exact hx ha
theorem zki (g : zac) (x : Int × Int) : ∀ (now acc : List StD) (s : StD), s ∈ now.foldl (fun next s => zfg next (zbV g s x)) acc ↔ s ∈ acc ∨ ∃ r ∈ now, s ∈ zbV g r x
 | [], acc, s => by simp
 | r :: now, acc, s => by
  rw [List.foldl_cons, zki g x now, znW]
  simp [or_assoc]
theorem zia {g : zac} {x : Int × Int} {now : List StD} {s : StD} : s ∈ zgN g now x ↔ ∃ r ∈ now, s ∈ zbV g r x := by
 unfold zgN
 rw [zki]
 simp
theorem ziD (g : zac) (x : Int × Int) : ∀ (now acc : List StD), acc.Nodup → (now.foldl (fun next s => zfg next (zbV g s x)) acc).Nodup
 | [], acc, h => h
 | r :: now, acc, h => ziD g x now _ (zhK h)
theorem zq3 (g : zac) (now : List StD) (x : Int × Int) : (zgN g now x).Nodup := ziD g x now [] (by simp)
theorem zlQ (g : zac) : ∀ (prog : List (Int × Int)) (now : List StD), now.Nodup → (prog.foldl (zgN g) now).Nodup
 | [], now, h => h
 | x :: prog, now, _ => zlQ g prog _ (zq3 g now x)
def zyh (s : StD) (c : Int) : StD := { s with cursor := c }
def FewS (n : Nat) (l : List StD) : Prop := ∃ B : List StD, B.length ≤ n ∧ ∀ s ∈ l, ∃ t ∈ B, s = zyh t s.cursor
theorem zkH {s : StD} : ∀ {l : List Int}, ∀ t ∈ zcf s l, t = zyh s t.cursor
 | [], t, h => by simp [zcf] at h
 | c :: l, t, h => by
  rw [zcf, List.mem_cons] at h
  rcases h with rfl | h
  ·rfl
  ·split at h
   ·exact zkH t h
   ·simp at h
def zde (x : Int × Int) : Bool := x.1 == 6 || x.1 == 7
theorem zfF {s t : StD} {b : Bool} (h : t ∈ zcT s b) : t = s := by
 unfold zcT at h
 split at h <;> simp at h
 exact h
theorem zuq (g : zac) (x : Int × Int) (hx : zde x = false) : ∃ f : StD → StD, ∀ t c, ∀ u ∈ zbV g (zyh t c) x, u = zyh (f t) u.cursor := by
 simp only [zde, Bool.or_eq_false_iff, beq_eq_false_iff_ne] at hx
 by_cases h8 : x.1 = 8
 ·refine ⟨fun t => { t with kind := x.2 }, fun t c u hu => ?_⟩
  simp [zbV, h8] at hu
  subst hu; rfl
 by_cases h10 : x.1 = 10
 ·refine ⟨fun t => { t with p := { t.p with rights := zdh .i64 t.p.rights (2 ^ x.2.toNat) } }, fun t c u hu => ?_⟩
  simp [zbV, h10] at hu
  subst hu; rfl
 refine ⟨id, fun t c u hu => ?_⟩
 unfold zbV at hu
 simp only [h8, h10, hx.1, hx.2, if_false] at hu
 repeat' split at hu
 ·have := zfF hu; subst this; rfl
 ·have := zkH u hu
  rw [this]; rfl
 ·have := zfF hu; subst this; rfl
 ·have := zfF hu; subst this; rfl
 ·have := zfF hu; subst this; rfl
 ·have := zfF hu; subst this; rfl
 ·simp at hu; subst hu; rfl
theorem zxi (g : zac) (s : StD) (x : Int × Int) (hx : zde x = true) : (zbV g s x).length ≤ 1 := by
 simp only [zde, Bool.or_eq_true, beq_iff_eq] at hx
 unfold zbV
 rcases hx with h | h
 ·simp only [h]
  rw [if_neg (by decide), if_neg (by decide), if_neg (by decide), if_neg (by decide), if_neg (by decide), if_pos trivial]
  unfold zrt
  simp only
  split
  ·simp
  ·split
   ·split <;> simp
   ·simp
 ·simp only [h]
  rw [if_neg (by decide), if_neg (by decide), if_neg (by decide), if_neg (by decide), if_neg (by decide), if_neg (by decide), if_pos trivial]
  unfold zrh
  simp only
  split <;> simp
theorem zeN {α β : Type} (f : α → List β) (m : Nat) : ∀ (l : List α), (∀ x ∈ l, (f x).length ≤ m) → (l.flatMap f).length ≤ l.length * m
 | [], _ => by simp
 | x :: l, h => by
  have := zeN f m l (fun y hy => h y (by simp [hy]))
  have := h x (by simp)
  rw [List.flatMap_cons, List.length_append, List.length_cons, Nat.succ_mul]
  omega
theorem zv1 {g : zac} {now : List StD} {x : Int × Int} {n : Nat} (hc : ∀ s ∈ now, 0 ≤ s.cursor ∧ s.cursor < 9) (h : FewS n now) : FewS (n * (if zde x then 9 else 1)) (zgN g now x) := by
 obtain ⟨B, hB, hs⟩ := h
 by_cases hx : zde x = true
 ·refine ⟨B.flatMap fun t => (List.range 9).flatMap fun (c : Nat) => zbV g (zyh t c) x, ?_, fun u hu => ?_⟩
  ·have h1 := zeN (fun t : StD => (List.range 9).flatMap fun (c : Nat) => zbV g (zyh t c) x) 9 B (fun t _ => by
    have := zeN (fun (c : Nat) => zbV g (zyh t c) x) 1 (List.range 9) (fun c _ => zxi g _ x hx)
    simpa using this)
   rw [if_pos hx]
   exact Nat.le_trans h1 (Nat.mul_le_mul_right 9 hB)
  ·obtain ⟨r, hr, hu⟩ := zia.1 hu
   obtain ⟨t, ht, e⟩ := hs r hr
   have := hc r hr
   refine ⟨u, List.mem_flatMap.2 ⟨t, ht, List.mem_flatMap.2 ⟨r.cursor.toNat, by simp; omega, ?_⟩⟩, rfl⟩
   rw [show ((r.cursor.toNat : Nat) : Int) = r.cursor by omega, ← e]
   exact hu
 ·simp only [Bool.not_eq_true] at hx
  obtain ⟨f, hf⟩ := zuq g x hx
  refine ⟨B.map f, by simp [hx]; exact hB, fun u hu => ?_⟩
  obtain ⟨r, hr, hu⟩ := zia.1 hu
  obtain ⟨t, ht, e⟩ := hs r hr
  rw [e] at hu
  exact ⟨f t, List.mem_map_of_mem ht, hf t _ u hu⟩
theorem zAK {g : zac} (hg : GOk g) {now : List StD} {x : Int × Int} (hx : zeg g.next.length g.kinds.length g.rights x) (hn : ∀ s ∈ now, zgS g s) : ∀ s ∈ zgN g now x, zgS g s := by
 intro s hs
 obtain ⟨r, hr, hs⟩ := zia.1 hs
 exact (zjl hg (hn r hr) hx s hs).1
theorem zoC {g : zac} (hg : GOk g) : ∀ (prog : List (Int × Int)) (now : List StD) (n : Nat), (∀ x ∈ prog, zeg g.next.length g.kinds.length g.rights x) → (∀ s ∈ now, zgS g s) → FewS n now →
  FewS (n * 9 ^ prog.countP zde) (prog.foldl (zgN g) now)
 | [], now, n, _, _, h => by simpa using h
 | x :: prog, now, n, hp, hn, h => by
  have h9 := hg.c9
  have h1 := zv1 (g := g) (x := x) (fun s hs => ⟨(hn s hs).c0, by have := (hn s hs).c1; omega⟩) h
  have h2 := zoC hg prog _ _ (fun y hy => hp y (by simp [hy])) (zAK hg (hp x (by simp)) hn) h1
  rw [List.foldl_cons, List.countP_cons]
  have e : n * (if zde x = true then 9 else 1) * 9 ^ prog.countP zde = n * 9 ^ (prog.countP zde + if zde x = true then 1 else 0) := by
   by_cases hx : zde x = true
   ·rw [if_pos hx, if_pos hx, Nat.pow_succ, Nat.mul_assoc, Nat.mul_comm 9]
   ·rw [if_neg hx, if_neg hx, Nat.mul_one, Nat.add_zero]
  rw [← e]
  exact h2
theorem zyp {l : List StD} {n : Nat} (hn : l.Nodup) (hc : ∀ s ∈ l, 0 ≤ s.cursor ∧ s.cursor < 9) (h : FewS n l) : l.length ≤ n * 9 := by
 obtain ⟨B, hB, hs⟩ := h
 have h1 := zws (r := B.flatMap fun t => (List.range 9).map fun (c : Nat) => zyh t c) hn (fun s h => by
  obtain ⟨t, ht, e⟩ := hs s h
  have := hc s h
  refine List.mem_flatMap.2 ⟨t, ht, List.mem_map.2 ⟨s.cursor.toNat, by simp; omega, ?_⟩⟩
  rw [show ((s.cursor.toNat : Nat) : Int) = s.cursor by omega, ← e])
 have h2 := zeN (fun t : StD => (List.range 9).map fun (c : Nat) => zyh t c) 9 B (fun t _ => by simp)
 exact Nat.le_trans h1 (Nat.le_trans h2 (Nat.mul_le_mul_right 9 hB))
theorem zqy (prog : List (Int × Int)) : prog.countP zde ≤ zat prog 6 + zat prog 7 := by
 unfold zat
 induction prog with
 | nil => simp
 | cons x l ih =>
  simp only [List.countP_cons, zde]
  by_cases h6 : x.1 = 6
  ·simp [h6]; omega
  ·by_cases h7 : x.1 = 7
   ·simp [h7]; omega
   ·simp [h6, h7]; omega
theorem zwn {g : zac} (hg : GOk g) {p : zal} (hp : POk g p) {cell i : Int} (hc : zct g p cell i) : (zfh g p cell (zbI g p cell i)).length ≤ 6561 := by
 have hpg := zw0 hg hp hc
 have hst := (zkP hg hp hc.c0 hc.c1 hc.man).1
 have h1 := zoC hg (zbI g p cell i) [zfd p cell] 1 hpg.st (fun s hs => by simp at hs; subst hs; exact hst) ⟨[zfd p cell], by simp, fun s hs => ⟨s, hs, rfl⟩⟩
 have h9 := hg.c9
 have h2 := zyp (zlQ g (zbI g p cell i) [zfd p cell] (by simp)) (fun s hs => by
  have := ((zjd hg hp hc).1 s hs).1
  exact ⟨this.c0, by have := this.c1; omega⟩) h1
 have h3 : (zbI g p cell i).countP zde ≤ 3 := by
  have := zqy (zbI g p cell i)
  have := hpg.take
  have := hpg.push
  omega
 have h4 : 9 ^ (zbI g p cell i).countP zde ≤ 9 ^ 3 := Nat.pow_le_pow_right (by omega) h3
 have h5 : (zfh g p cell (zbI g p cell i)).length ≤ 1 * 9 ^ (zbI g p cell i).countP zde * 9 := h2
 omega
theorem zui {g : zac} (hg : GOk g) {p : zal} (hp : POk g p) {cell i : Int} (hc : zct g p cell i) : (ze0 g p cell i).length ≤ 6561 := by
 unfold ze0
 have h1 := zhE znM ((zfh g p cell (zbI g p cell i)).filterMap (zhz p.side))
 have h2 : ((zfh g p cell (zbI g p cell i)).filterMap (zhz p.side)).length ≤ (zfh g p cell (zbI g p cell i)).length := List.length_filterMap_le _ _
 have h3 := zwn hg hp hc
 omega
theorem zq7 {g : zac} (hg : GOk g) {p : zal} (hp : POk g p) {c : Nat} (hc : c < p.at_.length) : (zdK g p c).length ≤ 52488 := by
 unfold zdK
 split
 ·rename_i hm
  have hal := hp.al
  have hk := zqS hg hp (cell := c) (by omega) (by omega) (by simpa using hm.1)
  have hpn := hg.pn _ (zah (by simpa using hk))
  have := zbS (fun (i : Nat) => ze0 g p c i) 6561 (nth g.kinds (zav (nth p.at_ c)).1.toNat).progs.length (fun i hi => zui hg hp (zjK hp hc hm hi))
  omega
 ·simp
theorem zt1 {g : zac} (hg : GOk g) {p : zal} (hp : POk g p) {k : Nat} (hk : k ≤ p.at_.length) : ((List.range k).flatMap (zdK g p)).length ≤ 472392 := by
 have := zbS (zdK g p) 52488 k (fun c hc => zq7 hg hp (by omega))
 have h9 := hg.c9
 have hal := hp.al
 omega
theorem zt2 {g : zac} (hg : GOk g) {p : zal} (hp : POk g p) : (zgg g p).length ≤ 472392 := zt1 hg hp (Nat.le_refl _)
theorem zqY {g : zac} (hg : GOk g) {p : zal} (hp : POk g p) : (zhr g p).length ≤ 472446 := by
 unfold zhr
 have h1 := zt2 hg hp
 have h2 := zlK hg hp
 have h3 : ((zgg g p).filter fun o => !ziT g p || o.took).length ≤ (zgg g p).length := List.length_filter_le _ _
 rw [List.length_append, List.length_map]
 split <;> simp <;> omega
theorem zc1 {g : zac} (hg : GOk g) {p : zal} (hp : POk g p) : (zaN g p).length ≤ 472446 := by
 unfold zaN
 split
 ·simp
 ·exact Nat.le_trans (zhE zcK _) (zqY hg hp)
theorem zqV {α : Type} [Inhabited α] {l : List α} {x : α} (h : x ∈ l) : ∃ j, j < l.length ∧ nth l j = x := by
 obtain ⟨j, hj, rfl⟩ := List.getElem_of_mem h
 exact ⟨j, hj, zaA _ _ hj⟩
theorem ztV (g : zac) (p : zal) : Inc (zaN g p) := by
 unfold zaN
 split
 ·exact .nil
 ·exact znA zbo _
end Go.Av
end
section
open Go Go.Proofs
namespace Go.Av
theorem zyW {s : Nat → Bool} {a b c : List Int} : zjf s a (zjf s c b) = zjf s a b := by
 refine za3 (by simp [zbb]) fun i hi => ?_
 have hi : i < b.length := by simpa [zbb] using hi
 rw [zcR (by rw [zbb]; exact hi), zcR hi, zcR hi]
 by_cases e : s i = true
 ·simp [e]
 ·simp [e]
section
variable {s : Nat → Bool} {a : List Int}
end
theorem zjb (g : zac) (c : Nat) : inR g (nth (ofG g) c) c = true := by simp [inR]
theorem zgM {g : zac} (h : znL g) (hn : zff g) {p : zal} (hp : POk g p) {q : zal} :
  q ∈ zaN g p ↔ ∃ r ∈ zaO (ofG g) (ofG g).length, ∃ m ∈ zaN g (za4 (ofG g) p r), q = m.pt (inR g r) p.at_ := by
 have hal := hp.al
 have hlen := zic g
 rw [zhs h.ok hn hp]
 constructor
 ·rintro ⟨c, c1, h0, hs, o, ho, rfl⟩
  have hcl : c < (ofG g).length := by omega
  refine ⟨nth (ofG g) c, h.of.mem hcl, o.pos.pt (inR g (nth (ofG g) c)) [], ?_, ?_⟩
  ·rw [zhs h.ok hn (zci hp _ _), zdY]
   refine ⟨c, c1, ?_, ?_, o.pt (inR g (nth (ofG g) c)) [], ?_, rfl⟩
   ·show nth (zjf (inR g (nth (ofG g) c)) [] p.at_) c ≠ 0
    rw [zfH (zjb g c)]; exact h0
   ·show (zav (nth (zjf (inR g (nth (ofG g) c)) [] p.at_) c)).2 = p.side
    rw [zfH (zjb g c)]; exact hs
   ·exact (zjj h hp c1 h0 _).2 ⟨o, ho, rfl⟩
  ·have hol : o.pos.at_.length = p.at_.length := by
    have := (zcN h.ok hp o.pos ((zhs h.ok hn hp).2 ⟨c, c1, h0, hs, o, ho, rfl⟩)).1.al
    omega
   have e : zjf (inR g (nth (ofG g) c)) p.at_ (zjf (inR g (nth (ofG g) c)) [] o.pos.at_) = o.pos.at_ := by
    refine za3 (by rw [zbb, zbb]) fun z hz => ?_
    rw [zbb, zbb] at hz
    rw [zcR (by rw [zbb]; exact hz), zcR hz]
    by_cases e : inR g (nth (ofG g) c) z = true
    ·simp [e]
    ·rw [if_neg e]
     refine (zrk h hp c1 ho fun e2 => e ?_).symm
     simp [inR, e2]
   unfold zal.pt
   simp only [e]
 ·rintro ⟨r, hr, m, hm, rfl⟩
  rw [zhs h.ok hn (zci hp _ _), zdY] at hm
  obtain ⟨c, c1, h0, hs, o, ho, rfl⟩ := hm
  have hcl : c < p.at_.length := by omega
  have hin : inR g r c = true := by
   refine Classical.byContradiction fun hno => h0 ?_
   show nth (zjf (inR g r) [] p.at_) c = 0
   rw [zcR hcl, if_neg hno]
   rfl
  have hrc : nth (ofG g) c = r := by simpa [inR] using hin
  subst hrc
  have hat : nth (p.pt (fun z => decide (nth (ofG g) z = nth (ofG g) c)) []).at_ c = nth p.at_ c := zfH (s := inR g (nth (ofG g) c)) (zjb g c)
  rw [hat] at h0 hs
  obtain ⟨o', ho', rfl⟩ := (zjj (a := []) h hp c1 h0 o).1 ho
  refine ⟨c, c1, h0, hs, o', ho', ?_⟩
  have hol : o'.pos.at_.length = p.at_.length := by
   have := (zcN h.ok hp o'.pos ((zhs h.ok hn hp).2 ⟨c, c1, h0, hs, o', ho', rfl⟩)).1.al
   omega
  have e : zjf (inR g (nth (ofG g) c)) p.at_ (zjf (inR g (nth (ofG g) c)) [] o'.pos.at_) = o'.pos.at_ := by
   refine za3 (by rw [zbb, zbb]) fun z hz => ?_
   rw [zbb, zbb] at hz
   rw [zcR (by rw [zbb]; exact hz), zcR hz]
   by_cases e : inR g (nth (ofG g) c) z = true
   ·simp [e]
   ·rw [if_neg e]
    refine (zrk h hp c1 ho' fun e2 => e ?_).symm
    simp [inR, e2]
  unfold zcU.pt zal.pt
  simp only [e]
end Go.Av
end
section
open Go Go.Proofs
namespace Go.Av
def zdN (p : zal) : zal := { p with side := 1 - p.side }
theorem zso {g : zac} {p : zal} (hp : POk g p) : POk g (zdN p) := ⟨hp.al, hp.av, hp.h0, hp.h1, hp.r0, hp.r1, by rcases hp.s with h | h <;> simp [zdN, h]⟩
theorem zAZ {s : Nat → Bool} {a c : List Int} (p : zal) : (p.pt s c).pt s a = p.pt s a := by
 unfold zal.pt
 simp only [zyW]
theorem zh9 {g : zac} (hg : GOk g) (hn : zff g) {p : zal} (hp : POk g p) {m : zal} (hm : m ∈ zaN g p) : m.side = 1 - p.side := by
 obtain ⟨c, c1, h0, hs, o, ho, rfl⟩ := (zhs hg hn hp).1 hm
 have := (zpq ho).1
 simp only [Int.toNat_natCast] at this
 rw [this, hs]
theorem zwB {g : zac} (h : znL g) (hn : zff g) {p : zal} (hp : POk g p) {r : Int} {m : zal} (hm : m ∈ zaN g (za4 (ofG g) p r)) : m = za4 (ofG g) m r := by
 have hlen := zic g
 have hal := hp.al
 rw [zhs h.ok hn (zci hp _ _), zdY] at hm
 obtain ⟨c, c1, h0, hs, o, ho, rfl⟩ := hm
 have hcl : c < p.at_.length := by omega
 have hin : inR g r c = true := by
  refine Classical.byContradiction fun hno => h0 ?_
  show nth (zjf (inR g r) [] p.at_) c = 0
  rw [zcR hcl, if_neg hno]
  rfl
 have hrc : nth (ofG g) c = r := by simpa [inR] using hin
 subst hrc
 have hat : nth (p.pt (fun z => decide (nth (ofG g) z = nth (ofG g) c)) []).at_ c = nth p.at_ c := zfH (s := inR g (nth (ofG g) c)) (zjb g c)
 rw [hat] at h0 hs
 obtain ⟨o', ho', rfl⟩ := (zjj (a := []) h hp c1 h0 o).1 ho
 rw [zdY]
 exact (zAZ (s := inR g (nth (ofG g) c)) o'.pos).symm
def zb2 (of : List Int) (p : zal) (i : Nat) (m : zal) : List zal := ((zaW of p).map zdN).set i m
theorem zdw (of : List Int) (p : zal) (i : Nat) (m : zal) : (zb2 of p i m).length = (zaO of of.length).length := by simp [zb2, zaW]
theorem zf4 {of : List Int} {p : zal} {i : Nat} {m : zal} {j : Nat} (hj : j < (zaO of of.length).length) : nth (zb2 of p i m) j = if i = j then m else zdN (za4 of p (nth (zaO of of.length) j)) := by
 unfold zb2
 have hpl : (zaW of p).length = (zaO of of.length).length := by simp [zaW]
 rw [zbP, zcb _ _ _ (by omega), zes hj]
 by_cases e : i = j
 ·rw [if_pos ⟨e, by simp; omega⟩, if_pos e]
 ·rw [if_neg (fun h => e h.1), if_neg e]
theorem zkk {g : zac} (h : znL g) (hn : zff g) {p : zal} (hp : POk g p) {i : Nat} (hi : i < (zaO (ofG g) (ofG g).length).length) {m : zal}
  (hm : m ∈ zaN g (za4 (ofG g) p (nth (zaO (ofG g) (ofG g).length) i))) : zhJ g (ofG g) (zb2 (ofG g) p i m) (1 - p.side) := by
 have hpp := zci hp (ofG g) (nth (zaO (ofG g) (ofG g).length) i)
 have hmo := (zcN h.ok hpp m hm).1
 have hms := zh9 h.ok hn hpp hm
 have hall : ∀ j, j < (zb2 (ofG g) p i m).length → POk g (nth (zb2 (ofG g) p i m) j) ∧ (nth (zb2 (ofG g) p i m) j).side = 1 - p.side := fun j hj => by
  rw [zdw] at hj
  rw [zf4 hj]
  split
  ·exact ⟨hmo, hms⟩
  ·exact ⟨zso (zci hp _ _), rfl⟩
 refine ⟨zdw _ _ _ _, fun q hq => ?_, fun q hq => ?_, fun j hj => ?_⟩
 ·obtain ⟨j, hj, rfl⟩ := zqV hq; exact (hall j hj).1
 ·obtain ⟨j, hj, rfl⟩ := zqV hq; exact (hall j hj).2
 ·rw [zdw] at hj
  rw [zf4 hj]
  split
  ·rename_i e
   subst e
   exact zwB h hn hp hm
  ·show zdN (za4 (ofG g) p _) = zdN (za4 (ofG g) (za4 (ofG g) p _) _)
   rw [zmd]
theorem zkj {g : zac} (h : znL g) (hn : zff g) {p : zal} (hp : POk g p) {i : Nat} (hi : i < (zaO (ofG g) (ofG g).length).length) {m : zal}
  (hm : m ∈ zaN g (za4 (ofG g) p (nth (zaO (ofG g) (ofG g).length) i))) : znp (zb2 (ofG g) p i m) (ofG g).length = m.pt (inR g (nth (zaO (ofG g) (ofG g).length) i)) p.at_ := by
 have hpo := zkk h hn hp hi hm
 have hlen := zic g
 have hal := hp.al
 have hof : ((ofG g).length : Int) = g.cells := by have := h.ok.c1; omega
 have hpp := zci hp (ofG g) (nth (zaO (ofG g) (ofG g).length) i)
 have hmo := (zcN h.ok hpp m hm).1
 have hms := zh9 h.ok hn hpp hm
 have hml := hmo.al
 have h0l : 0 < (zb2 (ofG g) p i m).length := by rw [zdw]; omega
 obtain ⟨a1, a2, a3⟩ := (hpo.ok _ (zah h0l)).zero hn.nh
 obtain ⟨b1, b2, b3⟩ := hmo.zero hn.nh
 have hs0 := hpo.sd _ (zah h0l)
 have eat : zdq (zb2 (ofG g) p i m) (ofG g).length = zjf (inR g (nth (zaO (ofG g) (ofG g).length) i)) p.at_ m.at_ := by
  refine za3 (by simp [zdq, zbb]; omega) fun c hc => ?_
  have hc : c < (ofG g).length := by simpa [zdq] using hc
  obtain ⟨j, hj, e⟩ := h.of.idx hc
  rw [zrZ h.of hof hpo hc hj e, zf4 hj, zcR (by omega)]
  by_cases eij : i = j
  ·subst eij
   rw [if_pos rfl, if_pos (by simp [inR, e])]
  ·rw [if_neg eij, if_neg (by
    unfold inR
    rw [decide_eq_true_eq, e]
    exact fun h2 => eij (zht (zdX _ _) hi hj h2.symm))]
   show nth (zeU (ofG g) p.at_ _ p.at_.length) c = _
   rw [zhu _ _ _ (by omega), if_pos e]
 have e0 : ∀ L : List zal, ∀ k, znp L k = ⟨zdq L k, (nth L 0).h0, (nth L 0).h1, (nth L 0).rights, (nth L 0).side⟩ := fun _ _ => rfl
 have e1 : ∀ (s : Nat → Bool) (a : List Int), m.pt s a = ⟨zjf s a m.at_, m.h0, m.h1, m.rights, m.side⟩ := fun _ _ => rfl
 rw [e0, e1, eat, a1, a2, a3, hs0, b1, b2, b3, hms]
 rfl
def zh7 (g : zac) (p : zal) : List zal := (List.range (zaO (ofG g) (ofG g).length).length).flatMap fun i => (zaN g (za4 (ofG g) p (nth (zaO (ofG g) (ofG g).length) i))).map fun m => znp (zb2 (ofG g) p i m) (ofG g).length
theorem znq {g : zac} (h : znL g) (hn : zff g) {p : zal} (hp : POk g p) : zcI zcK (zh7 g p) = zaN g p := by
 refine ziJ zbo (ztV g p) fun q => ?_
 rw [zgM h hn hp]
 unfold zh7
 rw [List.mem_flatMap]
 constructor
 ·rintro ⟨i, hi, hq⟩
  have hi := List.mem_range.1 hi
  obtain ⟨m, hm, rfl⟩ := List.mem_map.1 hq
  exact ⟨_, zah hi, m, hm, zkj h hn hp hi hm⟩
 ·rintro ⟨r, hr, m, hm, rfl⟩
  obtain ⟨i, hi, rfl⟩ := zqV hr
  exact ⟨i, List.mem_range.2 hi, List.mem_map.2 ⟨m, hm, zkj h hn hp hi hm⟩⟩
end Go.Av
end
