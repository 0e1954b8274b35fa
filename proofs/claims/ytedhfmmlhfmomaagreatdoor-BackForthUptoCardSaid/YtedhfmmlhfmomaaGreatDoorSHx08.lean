/- Texts of ours, part 8: contracts and facts for this claim. -/
import Derived.Test.YtedhfmmlhfmomaaGreatDoorB08
set_option linter.unusedSimpArgs false
set_option linter.unusedVariables false
set_option maxRecDepth 100000
set_option maxHeartbeats 40000000
section
open Go Go.Proofs
namespace Go.Av
theorem zvE {α : Type} [DecidableEq α] : ∀ {l r : List α}, l.Nodup → (∀ x ∈ l, x ∈ r) → l.length ≤ r.length
 | [], r, _, _ => by simp
 | x :: l, r, hn, hs => by
  rw [List.nodup_cons] at hn
  have hx := hs x (by simp)
  have := zvE (l := l) (r := r.erase x) hn.2 (fun y hy => by
   have hne : y ≠ x := fun h => hn.1 (h ▸ hy)
   exact (List.mem_erase_of_ne hne).2 (hs y (by simp [hy])))
  rw [List.length_erase_of_mem hx] at this
  have := List.length_pos_of_mem hx
  simp only [List.length_cons]
  omega
theorem znj : ∀ {more l : List StD} {s : StD}, s ∈ zee l more ↔ s ∈ l ∨ s ∈ more
 | [], l, s => by simp [zee]
 | x :: more, l, s => by
  show s ∈ zee (if x ∈ l then l else l ++ [x]) more ↔ _
  rw [znj]
  split
  ·rename_i h
   simp only [List.mem_cons]
   exact ⟨fun h => by rcases h with h | h <;> simp [h], fun h' => by rcases h' with h' | rfl | h' <;> simp [*]⟩
  ·simp [or_assoc]
theorem zhn : ∀ {more l : List StD}, l.Nodup → (zee l more).Nodup
 | [], l, h => h
 | x :: more, l, h => by
  show (zee (if x ∈ l then l else l ++ [x]) more).Nodup
  split
  ·exact zhn h
  ·rename_i hx
   refine zhn (List.nodup_append.2 ⟨h, by simp, ?_⟩)
   intro a ha b hb e
   simp only [List.mem_singleton] at hb
   subst hb; subst e
   exact hx ha
theorem zjR (g : zae) (x : Int × Int) : ∀ (now acc : List StD) (s : StD), s ∈ now.foldl (fun next s => zee next (zbU g s x)) acc ↔ s ∈ acc ∨ ∃ r ∈ now, s ∈ zbU g r x
 | [], acc, s => by simp
 | r :: now, acc, s => by
  rw [List.foldl_cons, zjR g x now, znj]
  simp [or_assoc]
theorem zhH {g : zae} {x : Int × Int} {now : List StD} {s : StD} : s ∈ zgx g now x ↔ ∃ r ∈ now, s ∈ zbU g r x := by
 unfold zgx
 rw [zjR]
 simp
theorem zie (g : zae) (x : Int × Int) : ∀ (now acc : List StD), acc.Nodup → (now.foldl (fun next s => zee next (zbU g s x)) acc).Nodup
 | [], acc, h => h
 | r :: now, acc, h => zie g x now _ (zhn h)
theorem zqt (g : zae) (now : List StD) (x : Int × Int) : (zgx g now x).Nodup := zie g x now [] (by simp)
theorem zlm (g : zae) : ∀ (prog : List (Int × Int)) (now : List StD), now.Nodup → (prog.foldl (zgx g) now).Nodup
 | [], now, h => h
 | x :: prog, now, _ => zlm g prog _ (zqt g now x)
def zxw (s : StD) (c : Int) : StD := { s with cursor := c }
def FewS (n : Nat) (l : List StD) : Prop := ∃ B : List StD, B.length ≤ n ∧ ∀ s ∈ l, ∃ t ∈ B, s = zxw t s.cursor
theorem zka {s : StD} : ∀ {l : List Int}, ∀ t ∈ zbL s l, t = zxw s t.cursor
 | [], t, h => by simp [zbL] at h
 | c :: l, t, h => by
  rw [zbL, List.mem_cons] at h
  rcases h with rfl | h
  ·rfl
  ·split at h
   ·exact zka t h
   ·simp at h
def zdm (x : Int × Int) : Bool := x.1 == 6 || x.1 == 7
theorem zfv {s t : StD} {b : Bool} (h : t ∈ zcJ s b) : t = s := by
 unfold zcJ at h
 split at h <;> simp at h
 exact h
theorem ztK (g : zae) (x : Int × Int) (hx : zdm x = false) : ∃ f : StD → StD, ∀ t c, ∀ u ∈ zbU g (zxw t c) x, u = zxw (f t) u.cursor := by
 simp only [zdm, Bool.or_eq_false_iff, beq_eq_false_iff_ne] at hx
 by_cases h8 : x.1 = 8
 ·refine ⟨fun t => { t with kind := x.2 }, fun t c u hu => ?_⟩
  simp [zbU, h8] at hu
  subst hu; rfl
 by_cases h10 : x.1 = 10
 ·refine ⟨fun t => { t with p := { t.p with rights := zbZ .i64 t.p.rights (2 ^ x.2.toNat) } }, fun t c u hu => ?_⟩
  simp [zbU, h10] at hu
  subst hu; rfl
 refine ⟨id, fun t c u hu => ?_⟩
 unfold zbU at hu
 simp only [h8, h10, hx.1, hx.2, if_false] at hu
 repeat' split at hu
 ·have := zfv hu; subst this; rfl
 ·have := zka u hu
  rw [this]; rfl
 ·have := zfv hu; subst this; rfl
 ·have := zfv hu; subst this; rfl
 ·have := zfv hu; subst this; rfl
 ·have := zfv hu; subst this; rfl
 ·simp at hu; subst hu; rfl
theorem zwn (g : zae) (s : StD) (x : Int × Int) (hx : zdm x = true) : (zbU g s x).length ≤ 1 := by
 simp only [zdm, Bool.or_eq_true, beq_iff_eq] at hx
 unfold zbU
 rcases hx with h | h
 ·simp only [h]
  rw [if_neg (by decide), if_neg (by decide), if_neg (by decide), if_neg (by decide), if_neg (by decide), if_pos trivial]
  unfold zmZ
  simp only
  split
  ·simp
  ·split
   ·split <;> simp
   ·simp
 ·simp only [h]
  rw [if_neg (by decide), if_neg (by decide), if_neg (by decide), if_neg (by decide), if_neg (by decide), if_neg (by decide), if_pos trivial]
  unfold zmV
  simp only
  split <;> simp
theorem zeL {α β : Type} (f : α → List β) (m : Nat) : ∀ (l : List α), (∀ x ∈ l, (f x).length ≤ m) → (l.flatMap f).length ≤ l.length * m
 | [], _ => by simp
 | x :: l, h => by
  have := zeL f m l (fun y hy => h y (by simp [hy]))
  have := h x (by simp)
  rw [List.flatMap_cons, List.length_append, List.length_cons, Nat.succ_mul]
  omega
theorem zvl {g : zae} {now : List StD} {x : Int × Int} {n : Nat} (hc : ∀ s ∈ now, 0 ≤ s.cursor ∧ s.cursor < 9) (h : FewS n now) : FewS (n * (if zdm x then 9 else 1)) (zgx g now x) := by
 obtain ⟨B, hB, hs⟩ := h
 by_cases hx : zdm x = true
 ·refine ⟨B.flatMap fun t => (List.range 9).flatMap fun (c : Nat) => zbU g (zxw t c) x, ?_, fun u hu => ?_⟩
  ·have h1 := zeL (fun t : StD => (List.range 9).flatMap fun (c : Nat) => zbU g (zxw t c) x) 9 B (fun t _ => by
    have := zeL (fun (c : Nat) => zbU g (zxw t c) x) 1 (List.range 9) (fun c _ => zwn g _ x hx)
    simpa using this)
   rw [if_pos hx]
   exact Nat.le_trans h1 (Nat.mul_le_mul_right 9 hB)
  ·obtain ⟨r, hr, hu⟩ := zhH.1 hu
   obtain ⟨t, ht, e⟩ := hs r hr
   have := hc r hr
   refine ⟨u, List.mem_flatMap.2 ⟨t, ht, List.mem_flatMap.2 ⟨r.cursor.toNat, by simp; omega, ?_⟩⟩, rfl⟩
   rw [show ((r.cursor.toNat : Nat) : Int) = r.cursor by omega, ← e]
   exact hu
 ·simp only [Bool.not_eq_true] at hx
  obtain ⟨f, hf⟩ := ztK g x hx
  refine ⟨B.map f, by simp [hx]; exact hB, fun u hu => ?_⟩
  obtain ⟨r, hr, hu⟩ := zhH.1 hu
  obtain ⟨t, ht, e⟩ := hs r hr
  rw [e] at hu
  exact ⟨f t, List.mem_map_of_mem ht, hf t _ u hu⟩
theorem zz0 {g : zae} (hg : GOk g) {now : List StD} {x : Int × Int} (hx : zeg g.next.length g.kinds.length g.rights x) (hn : ∀ s ∈ now, ze7 g s) : ∀ s ∈ zgx g now x, ze7 g s := by
 intro s hs
 obtain ⟨r, hr, hs⟩ := zhH.1 hs
 exact (zhh hg (hn r hr) hx s hs).1
theorem zn9 {g : zae} (hg : GOk g) : ∀ (prog : List (Int × Int)) (now : List StD) (n : Nat), (∀ x ∈ prog, zeg g.next.length g.kinds.length g.rights x) → (∀ s ∈ now, ze7 g s) → FewS n now →
  FewS (n * 9 ^ prog.countP zdm) (prog.foldl (zgx g) now)
 | [], now, n, _, _, h => by simpa using h
 | x :: prog, now, n, hp, hn, h => by
  have h9 := hg.c9
  have h1 := zvl (g := g) (x := x) (fun s hs => ⟨(hn s hs).c0, by have := (hn s hs).c1; omega⟩) h
  have h2 := zn9 hg prog _ _ (fun y hy => hp y (by simp [hy])) (zz0 hg (hp x (by simp)) hn) h1
  rw [List.foldl_cons, List.countP_cons]
  have e : n * (if zdm x = true then 9 else 1) * 9 ^ prog.countP zdm = n * 9 ^ (prog.countP zdm + if zdm x = true then 1 else 0) := by
   by_cases hx : zdm x = true
   ·rw [if_pos hx, if_pos hx, Nat.pow_succ, Nat.mul_assoc, Nat.mul_comm 9]
   ·rw [if_neg hx, if_neg hx, Nat.mul_one, Nat.add_zero]
  rw [← e]
  exact h2
theorem zxH {l : List StD} {n : Nat} (hn : l.Nodup) (hc : ∀ s ∈ l, 0 ≤ s.cursor ∧ s.cursor < 9) (h : FewS n l) : l.length ≤ n * 9 := by
 obtain ⟨B, hB, hs⟩ := h
 have h1 := zvE (r := B.flatMap fun t => (List.range 9).map fun (c : Nat) => zxw t c) hn (fun s h => by
  obtain ⟨t, ht, e⟩ := hs s h
  have := hc s h
  refine List.mem_flatMap.2 ⟨t, ht, List.mem_map.2 ⟨s.cursor.toNat, by simp; omega, ?_⟩⟩
  rw [show ((s.cursor.toNat : Nat) : Int) = s.cursor by omega, ← e])
 have h2 := zeL (fun t : StD => (List.range 9).map fun (c : Nat) => zxw t c) 9 B (fun t _ => by simp)
 exact Nat.le_trans h1 (Nat.le_trans h2 (Nat.mul_le_mul_right 9 hB))
theorem zpZ (prog : List (Int × Int)) : prog.countP zdm ≤ zaB prog 6 + zaB prog 7 := by
 unfold zaB
 induction prog with
 | nil => simp
 | cons x l ih =>
  simp only [List.countP_cons, zdm]
  by_cases h6 : x.1 = 6
  ·simp [h6]; omega
  ·by_cases h7 : x.1 = 7
   ·simp [h7]; omega
   ·simp [h6, h7]; omega
theorem zvz {g : zae} (hg : GOk g) {p : zah} (hp : POk g p) {cell i : Int} (hc : zcf g p cell i) : (zd9 g p cell (za2 g p cell i)).length ≤ 6561 := by
 have hpg := zwa hg hp hc
 have hst := (zkf hg hp hc.c0 hc.c1 hc.man).1
 have h1 := zn9 hg (za2 g p cell i) [zev p cell] 1 hpg.st (fun s hs => by simp at hs; subst hs; exact hst) ⟨[zev p cell], by simp, fun s hs => ⟨s, hs, rfl⟩⟩
 have h9 := hg.c9
 have h2 := zxH (zlm g (za2 g p cell i) [zev p cell] (by simp)) (fun s hs => by
  have := ((ziN hg hp hc).1 s hs).1
  exact ⟨this.c0, by have := this.c1; omega⟩) h1
 have h3 : (za2 g p cell i).countP zdm ≤ 3 := by
  have := zpZ (za2 g p cell i)
  have := hpg.take
  have := hpg.push
  omega
 have h4 : 9 ^ (za2 g p cell i).countP zdm ≤ 9 ^ 3 := Nat.pow_le_pow_right (by omega) h3
 have h5 : (zd9 g p cell (za2 g p cell i)).length ≤ 1 * 9 ^ (za2 g p cell i).countP zdm * 9 := h2
 omega
theorem ztC {g : zae} (hg : GOk g) {p : zah} (hp : POk g p) {cell i : Int} (hc : zcf g p cell i) : (zdc g p cell i).length ≤ 6561 := by
 unfold zdc
 have h1 := zdw zh2 ((zd9 g p cell (za2 g p cell i)).filterMap (zgd p.side))
 have h2 : ((zd9 g p cell (za2 g p cell i)).filterMap (zgd p.side)).length ≤ (zd9 g p cell (za2 g p cell i)).length := List.length_filterMap_le _ _
 have h3 := zvz hg hp hc
 omega
theorem zqu {g : zae} (hg : GOk g) {p : zah} (hp : POk g p) {c : Nat} (hc : c < p.at_.length) : (zc3 g p c).length ≤ 52488 := by
 unfold zc3
 split
 ·rename_i hm
  have hal := hp.al
  have hk := zmL hg hp (cell := c) (by omega) (by omega) (by simpa using hm.1)
  have hpn := hg.pn _ (zaj (by simpa using hk))
  have := zbD (fun (i : Nat) => zdc g p c i) 6561 (nth g.kinds (zao (nth p.at_ c)).1.toNat).progs.length (fun i hi => ztC hg hp (zfg hp hc hm hi))
  omega
 ·simp
theorem ztp {g : zae} (hg : GOk g) {p : zah} (hp : POk g p) {k : Nat} (hk : k ≤ p.at_.length) : ((List.range k).flatMap (zc3 g p)).length ≤ 472392 := by
 have := zbD (zc3 g p) 52488 k (fun c hc => zqu hg hp (by omega))
 have h9 := hg.c9
 have hal := hp.al
 omega
theorem zts {g : zae} (hg : GOk g) {p : zah} (hp : POk g p) : (zdo g p).length ≤ 472392 := ztp hg hp (Nat.le_refl _)
theorem zqm {g : zae} (hg : GOk g) {p : zah} (hp : POk g p) : (zds g p).length ≤ 472446 := by
 unfold zds
 have h1 := zts hg hp
 have h2 := zfO hg hp
 have h3 : ((zdo g p).filter fun o => !zf4 g p || o.took).length ≤ (zdo g p).length := List.length_filter_le _ _
 rw [List.length_append, List.length_map]
 split <;> simp <;> omega
theorem zqn {g : zae} (hg : GOk g) {p : zah} (hp : POk g p) : (zaK g p).length ≤ 472446 := by
 unfold zaK
 split
 ·simp
 ·exact Nat.le_trans (zdw zbx _) (zqm hg hp)
def zyJ (l : List zah) (p : zah) : Int := match l.findIdx? (fun q => decide (q = p)) with | some i => (i : Int) | none => -1
theorem zvn {l : List zah} (h : Inc l) {j : Nat} (hj : j < l.length) : zyJ l (nth l j) = j := by
 have : l.findIdx? (fun q => decide (q = nth l j)) = some j := by
  rw [List.findIdx?_eq_some_iff_getElem]
  refine ⟨hj, by rw [← zaC _ _ hj]; simp, fun i hi => ?_⟩
  rw [← zaC _ _ (by omega)]
  simp only [decide_eq_true_eq]
  intro e
  have := h.inj (by omega) hj e
  omega
 unfold zyJ
 rw [this]
theorem zoh {l : List zah} {p : zah} (h : p ∉ l) : zyJ l p = -1 := by
 have : l.findIdx? (fun q => decide (q = p)) = none := by
  rw [List.findIdx?_eq_none_iff]
  intro x hx
  simp only [decide_eq_false_iff_not]
  intro e
  exact h (e ▸ hx)
 unfold zyJ
 rw [this]
theorem zxJ {l : List zah} (h : Inc l) {p : zah} : 0 ≤ zyJ l p ↔ p ∈ l := by
 by_cases hp : p ∈ l
 ·obtain ⟨j, hj, rfl⟩ := zjQ hp
  rw [zvn h hj]
  exact ⟨fun _ => hp, fun _ => by omega⟩
 ·rw [zoh hp]
  exact ⟨fun h => by omega, fun h => absurd h hp⟩
def zmN : List zah → zah → Nat
 | [], _ => 0
 | q :: l, p => if zbx q p < 0 then zmN l p + 1 else 0
theorem zvM : ∀ (l : List zah) (p : zah), zmN l p ≤ l.length
 | [], p => by simp [zmN]
 | q :: l, p => by
  have := zvM l p
  rw [zmN, List.length_cons]
  split <;> omega
theorem zqk {p : zah} : ∀ {l : List zah} {h : Nat}, h < zmN l p → zbx (nth l h) p < 0
 | [], h, hl => by simp [zmN] at hl
 | q :: l, h, hl => by
  rw [zmN] at hl
  split at hl
  ·cases h with
   | zero => rw [zaP]; assumption
   | succ h => rw [ziP]; exact zqk (by omega)
  ·omega
theorem zvL {p : zah} : ∀ {l : List zah}, Inc l → ∀ {h : Nat}, zmN l p ≤ h → h < l.length → ¬ zbx (nth l h) p < 0
 | [], _, h, _, hl => by simp at hl
 | q :: l, hi, h, hl, hn => by
  have hi := List.pairwise_cons.1 hi
  rw [zmN] at hl
  split at hl
  ·cases h with
   | zero => omega
   | succ h => rw [ziP]; exact zvL hi.2 (by omega) (by simpa using hn)
  ·rename_i hq
   cases h with
   | zero => rw [zaP]; exact hq
   | succ h =>
    rw [ziP]
    intro hr
    have hm : nth l h ∈ l := zaj (by simpa using hn)
    have h1 := hi.1 _ hm
    have h2 := za7.tr q (nth l h) p (by omega) (by omega)
    have e := (za7.eq q p).1 (by omega)
    subst e
    have := za7.swap q (nth l h)
    omega
theorem zrn {l : List zah} (hi : Inc l) (p : zah) {h : Nat} (hn : h < l.length) : zbx (nth l h) p < 0 ↔ h < zmN l p := by
 constructor
 ·intro hc
  rcases Nat.lt_or_ge h (zmN l p) with h' | h'
  ·exact h'
  ·exact absurd hc (zvL hi h' hn)
 ·exact zqk
theorem zro {l : List zah} (hi : Inc l) (p : zah) : p ∈ l ↔ zmN l p < l.length ∧ nth l (zmN l p) = p := by
 constructor
 ·intro hp
  obtain ⟨j, hj, rfl⟩ := zjQ hp
  have h0 := (za7.eq (nth l j) (nth l j)).2 rfl
  have h1 : ¬ j < zmN l (nth l j) := fun h => by
   have := zqk h
   omega
  rcases Nat.lt_or_ge (zmN l (nth l j)) j with h' | h'
  ·have h2 := hi.lt h' hj
   have h3 := (zrn hi (nth l j) (by omega)).1 h2
   omega
  ·have e : zmN l (nth l j) = j := by omega
   rw [e]
   exact ⟨hj, rfl⟩
 ·rintro ⟨h1, h2⟩
  rw [← h2]
  exact zaj h1
theorem zxI {l : List zah} (hi : Inc l) (p : zah) : zyJ l p = if p ∈ l then (zmN l p : Int) else -1 := by
 split
 ·rename_i hp
  obtain ⟨h1, h2⟩ := (zro hi p).1 hp
  have := zvn hi h1
  rwa [h2] at this
 ·rename_i hp
  exact zoh hp
end Go.Av
end
