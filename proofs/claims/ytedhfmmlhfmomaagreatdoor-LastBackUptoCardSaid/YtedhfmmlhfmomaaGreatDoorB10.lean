/- Texts of ours, part 10: our library and contracts of functions. -/
import Derived.Test.YtedhfmmlhfmomaaGreatDoorB09
set_option linter.unusedSimpArgs false
set_option linter.unusedVariables false
set_option maxRecDepth 100000
set_option maxHeartbeats 40000000
section
open Go Go.Proofs
namespace Go.Av
theorem zmC {g : zad} (hg : GOk g) {p : zag} (hp : POk g p) {cell : Int} (h0 : 0 ≤ cell) (h1 : cell < g.cells) (hm : 0 ≤ (zak (nth p.at_ cell.toNat)).1) :
  (zak (nth p.at_ cell.toNat)).1.toNat < g.kinds.length := by
 have hat := hp.at (i := cell.toNat) (by omega)
 rcases zaR hat.1 hat.2 hg.k6 with ⟨_, e⟩ | ⟨_, a, b, _⟩
 ·rw [e] at hm; simp at hm
 ·omega
theorem zv4 {g : zad} (hg : GOk g) {p : zag} (hp : POk g p) {cell i : Int} (hc : zb4 g p cell i) : zm9 g.next.length g.kinds.length g.rights (za0 g p cell i) :=
 hg.pr _ (zaj (zmC hg hp hc.c0 hc.c1 hc.man)) _ (zaj (by have := hc.i0; have := hc.i1; omega))
theorem zik {g : zad} (hg : GOk g) {p : zag} (hp : POk g p) {cell i : Int} (hc : zb4 g p cell i) :
  (∀ s ∈ zd4 g p cell (za0 g p cell i), zeS g s ∧ s.p.side = p.side) ∧ (zd4 g p cell (za0 g p cell i)).length ≤ 100000000 := by
 have hpg := zv4 hg hp hc
 have h := zgP hg hp hc.c0 hc.c1 hc.man hpg.st _ (Nat.le_refl _)
 rw [zgf] at h
 exact ⟨h.1, Nat.le_trans h.2 (zil hpg.len)⟩
theorem zv7 {g : zad} (hg : GOk g) {s : StD} (hs : zeS g s) {side : Int} (hsd : side = 0 ∨ side = 1) {o : zb8} (h : zfQ side s = some o) : POk g o.pos ∧ o.pos.side = 1 - side := by
 unfold zfQ at h
 split at h
 ·simp only [Option.some.injEq] at h
  subst h
  have hc : zaL s.kind side = 1 + 2 * s.kind + side := znF (K := g.kinds.length) hs.k hg.k6 hsd
  have hk := hs.k
  exact ⟨POk.side (hs.p.setAt _ (by rw [hc]; omega)) (by omega), rfl⟩
 ·cases h
theorem zyv {g : zad} (hg : GOk g) {p : zag} (hp : POk g p) {cell i : Int} (hc : zb4 g p cell i) : ∀ o ∈ zc5 g p cell i, POk g o.pos ∧ o.pos.side = 1 - p.side := by
 intro o ho
 unfold zc5 at ho
 rw [zaS] at ho
 obtain ⟨s, hs, h⟩ := List.mem_filterMap.1 ho
 exact zv7 hg ((zik hg hp hc).1 s hs).1 hp.s h
theorem zjO {g : zad} (hg : GOk g) {p : zag} (hp : POk g p) {cell i : Int} (hc : zb4 g p cell i) : (zc5 g p cell i).length ≤ 100000000 := by
 unfold zc5
 have h1 := zda zhA ((zd4 g p cell (za0 g p cell i)).filterMap (zfQ p.side))
 have h2 : ((zd4 g p cell (za0 g p cell i)).filterMap (zfQ p.side)).length ≤ (zd4 g p cell (za0 g p cell i)).length := List.length_filterMap_le _ _
 have h3 := (zik hg hp hc).2
 omega
theorem ze5 {g : zad} {p : zag} {c i : Nat} (hp : POk g p) (hc : c < p.at_.length) (hm : 0 ≤ (zak (nth p.at_ c)).1 ∧ (zak (nth p.at_ c)).2 = p.side)
  (hi : i < (nth g.kinds (zak (nth p.at_ c)).1.toNat).progs.length) : zb4 g p c i := by
 have := hp.al
 exact ⟨by omega, by omega, hm.1, hm.2, by omega, by simp only [Int.toNat_natCast]; omega⟩
theorem zoq {g : zad} {p : zag} (hp : POk g p) {o : zb8} : o ∈ zdj g p ↔ ∃ c i : Nat, zb4 g p c i ∧ o ∈ zc5 g p c i := by
 have hal := hp.al
 unfold zdj
 rw [List.mem_flatMap]
 constructor
 ·rintro ⟨c, hc, ho⟩
  rw [List.mem_range] at hc
  unfold zcW at ho
  split at ho
  ·rename_i hm
   obtain ⟨i, hi, ho⟩ := List.mem_flatMap.1 ho
   rw [List.mem_range] at hi
   exact ⟨c, i, ze5 hp hc hm hi, ho⟩
  ·simp at ho
 ·rintro ⟨c, i, hc, ho⟩
  refine ⟨c, ?_, ?_⟩
  ·have := hc.c1; rw [List.mem_range]; omega
  ·have h1 := hc.man
   have h2 := hc.side
   have h3 := hc.i1
   simp only [Int.toNat_natCast] at h1 h2 h3
   unfold zcW
   rw [if_pos ⟨h1, h2⟩]
   exact List.mem_flatMap.2 ⟨i, by rw [List.mem_range]; omega, ho⟩
theorem zre {g : zad} (hg : GOk g) {p : zag} (hp : POk g p) : ∀ o ∈ zdj g p, POk g o.pos ∧ o.pos.side = 1 - p.side := by
 intro o ho
 obtain ⟨c, i, hc, ho⟩ := (zoq hp).1 ho
 exact zyv hg hp hc o ho
theorem zbx {α : Type} (f : Nat → List α) (m : Nat) : ∀ n, (∀ k, k < n → (f k).length ≤ m) → ((List.range n).flatMap f).length ≤ n * m
 | 0, _ => by simp
 | n + 1, hf => by
  have := zbx f m n (fun k hk => hf k (by omega))
  have := hf n (by omega)
  simp only [List.range_succ, List.flatMap_append, List.length_append, List.flatMap_cons, List.flatMap_nil, List.append_nil, Nat.add_mul, Nat.one_mul]
  omega
theorem zs2 {g : zad} (hg : GOk g) {p : zag} (hp : POk g p) {c : Nat} (hc : c < p.at_.length) : (zcW g p c).length ≤ 800000000 := by
 unfold zcW
 split
 ·rename_i hm
  have hal := hp.al
  have hk := zmC hg hp (cell := c) (by omega) (by omega) (by simpa using hm.1)
  simp only [Int.toNat_natCast] at hk
  have h8 := hg.pn _ (zaj hk)
  have h1 := zbx (fun (i : Nat) => zc5 g p c i) 100000000 (nth g.kinds (zak (nth p.at_ c)).1.toNat).progs.length (fun i hi => zjO hg hp (ze5 hp hc hm hi))
  have h2 : (nth g.kinds (zak (nth p.at_ c)).1.toNat).progs.length * 100000000 ≤ 8 * 100000000 := Nat.mul_le_mul_right _ h8
  omega
 ·simp
theorem zou {g : zad} (hg : GOk g) {p : zag} (hp : POk g p) {k : Nat} (hk : k ≤ p.at_.length) : ((List.range k).flatMap (zcW g p)).length ≤ 7200000000 := by
 have hal := hp.al
 have c9 := hg.c9
 have h1 := zbx (zcW g p) 800000000 k (fun c hc => zs2 hg hp (by omega))
 have h2 : k * 800000000 ≤ 9 * 800000000 := Nat.mul_le_mul_right _ (by omega)
 omega
theorem zjD {g : zad} (hg : GOk g) {p : zag} (hp : POk g p) : (zdj g p).length ≤ 7200000000 := zou hg hp (Nat.le_refl _)
theorem znK {g : zad} (hg : GOk g) {p : zag} (hp : POk g p) : ∀ q ∈ zcF g p, POk g q ∧ q.side = 1 - p.side := by
 intro q hq
 unfold zcF at hq
 rw [zaS] at hq
 obtain ⟨k, hk, hq⟩ := List.mem_flatMap.1 hq
 obtain ⟨c, hc, hq⟩ := List.mem_filterMap.1 hq
 exact zie hg hp (by simpa using hk) hq
theorem zfy {g : zad} (hg : GOk g) {p : zag} (hp : POk g p) : (zcF g p).length ≤ 54 := by
 have h1 := zda za7 (zu1 g p)
 have h2 := zed g p g.kinds.length
 rw [zfx] at h2
 have hal := hp.al
 have c9 := hg.c9
 have h3 : g.kinds.length * p.at_.length ≤ 6 * 9 := Nat.mul_le_mul hg.k6 (by omega)
 unfold zcF
 omega
theorem zor {g : zad} (hg : GOk g) {p : zag} (hp : POk g p) : ∀ q ∈ zcV g p, POk g q ∧ q.side = 1 - p.side := by
 intro q hq
 unfold zcV at hq
 rcases List.mem_append.1 hq with hq | hq
 ·obtain ⟨o, ho, rfl⟩ := List.mem_map.1 hq
  exact zre hg hp o (List.mem_filter.1 ho).1
 ·split at hq
  ·simp at hq
  ·exact znK hg hp q hq
theorem zlq {g : zad} (hg : GOk g) {p : zag} (hp : POk g p) : (zcV g p).length ≤ 7200000054 := by
 have h1 := zjD hg hp
 have h2 := zfy hg hp
 have h3 : ((zdj g p).filter fun o => !zfJ g p || o.took).length ≤ (zdj g p).length := List.length_filter_le _ _
 unfold zcV
 rw [List.length_append, List.length_map]
 split <;> simp <;> omega
theorem zdi {g : zad} (hg : GOk g) {p : zag} (hp : POk g p) : ∀ q ∈ zaC g p, POk g q ∧ q.side = 1 - p.side := by
 intro q hq
 unfold zaC at hq
 split at hq
 ·simp at hq
 ·exact zor hg hp q (zaS.1 hq)
theorem zlr {g : zad} (hg : GOk g) {p : zag} (hp : POk g p) : (zaC g p).length ≤ 7200000054 := by
 unfold zaC
 split
 ·simp
 ·exact Nat.le_trans (zda _ _) (zlq hg hp)
theorem zmU {g : zad} (hg : GOk g) : ∀ (l : List Int) {p : zag}, POk g p → ∀ q ∈ zdu g p l, POk g q
 | [], p, hp, q, hq => by simp [zdu] at hq; subst hq; exact hp
 | k :: l, p, hp, q, hq => by
  rw [zdu] at hq
  split at hq
  ·simp at hq; subst hq; exact hp
  ·rename_i hne
   rcases List.mem_cons.1 hq with rfl | hq
   ·exact hp
   ·refine zmU hg l ((zdi hg hp) _ (zaj ?_)).1 q hq
    have hpos : 0 < (zaC g p).length := List.length_pos_iff.2 hne
    have h1 : 0 ≤ k.emod (zaC g p).length := Int.emod_nonneg k (show ((zaC g p).length : Int) ≠ 0 by omega)
    have h2 : k.emod (zaC g p).length < (zaC g p).length := Int.emod_lt_of_pos k (show (0 : Int) < (zaC g p).length by omega)
    omega
theorem ziq (g : zad) (p : zag) (l : List Int) : zdu g p l ≠ [] := by
 cases l with
 | nil => simp [zdu]
 | cons k l => rw [zdu]; split <;> simp
theorem zj7 (g : zad) : ∀ (l : List Int) (p : zag), (zdu g p l).length ≤ l.length + 1
 | [], p => by simp [zdu]
 | k :: l, p => by
  rw [zdu]
  split
  ·simp
  ·have := zj7 g l (nth (zaC g p) (k.emod (zaC g p).length).toNat)
   simp; omega
theorem zoS (l : List zag) (hl : l.length ≤ 17179869184) : zgS Tryz.prog 128 [zaI l] (fun n => .sl n 1 5 0 l.length) (fun n => [(n, .rows true 1 5 (l.map zac))]) 1 := by
 refine ⟨?_, fun n => ⟨by simp [go_sem], by simp [go_sem]⟩⟩
 refine zA5 (fun hne => ?_) (fun he A c => ?_)
 ·obtain ⟨x, l, rfl⟩ := List.exists_cons_of_ne_nil (show l ≠ [] by intro h; subst h; exact hne rfl)
  simp only [List.length_cons] at hl
  refine zAJ (by kernel_rfl) Tryz.func128 rfl rfl (Nat.le_of_ble_eq_true rfl) (by kernel_rfl) ?_
  repeat first|refine wV fun _=>?_|simp [go_sem]
  simp [go_sem, zaf]
 ·obtain rfl : l = [] := by simpa using he
  refine zAJ (by kernel_rfl) Tryz.func128 rfl rfl (Nat.le_of_ble_eq_true rfl) (by kernel_rfl) ?_
  repeat first|refine wV fun _=>?_|simp [go_sem]
  refine zAE (fun h => ?_) (fun h => ?_)
  ·simp at h
   subst h
   simp [go_sem, zaf]
  ·simp [go_sem, zaf]
theorem zc3 (l : List zag) (hl : l.length ≤ 17179869184) (hf : ∀ p ∈ l, zaK p) : zaP Tryz.prog 72 [zaI l] (zaI (zaU za7 l)) := by
 refine pF Tryz.func72 ?_
 have hC := zoS l hl
 repeat first|refine wV fun _=>?_|simp [go_sem]
 refine zAH hC (by simp [go_sem]) ?_
 repeat first|refine wV fun _=>?_|simp [go_sem]
 refine zts l hf (by omega) (o := 0) (gn := 1) (by simp [upd]) ?_
 repeat first|refine wV fun _=>?_|simp [go_sem]
 refine zkr (zcu za7 l) 1 l.length (zen l) (by omega) (fun p hp => hf p (zeo.1 hp)) (o := 0) (by simp [upd]) (by omega) ?_
 repeat first|refine wV fun _=>?_|simp [go_sem]
 exact zaB rfl (by simp) (by simp [noH, upd]) (by rw [List.drop_zero]; exact List.take_left' (by simp))
theorem zv8 (g : zad) (hg : GOk g) (p : zag) (hp : POk g p) (cell i : Int) (hc : zb4 g p cell i) {h : zao} {n a b : Nat} (hd : [a, b].Nodup) (hlt : ∀ j ∈ [a, b], j < n)
  (ha : h a = some (.rows true 0 5 [zac p])) (hb : h b = some (.rows true 0 1 [[zAI]])) {K : zcy}
  (hK : K (.v (.int .i64 0)) (upd (upd (upd h a (some (.rows true 0 5 [zac p]))) b (some (.rows true 0 1 [[.sl (n + 245) (zdl g p cell i).length 6 0 (zdl g p cell i).length]]))) (n + 245) (some (.rows true (zdl g p cell i).length 6 ((zdl g p cell i).map zaF)))) (n + 246)) :
  zaa Tryz.prog 183 [.agg (zae g), .agg (zac p), .v (.int .i64 cell), .v (.int .i64 i), .fn (.func 184) [] [.ref a 0 5 0 0, .ref b 0 1 0 0]] h n K := by
 have hbg : ∀ m, Bel m (.agg (zae g)) := fun m => by simp [go_sem]
 have hbp : ∀ m, ∀ c ∈ zac p, Bel m c := fun m => by simp [go_sem]
 have hbq : ∀ m, Bel m (.agg (zac p)) := fun m => by simp [go_sem]
 have han := hlt a (by simp)
 have hbn := hlt b (by simp)
 have hrows : ∀ m, ∀ r ∈ [zac p], ∀ c ∈ r, Bel m c := fun m r hr => by simp only [List.mem_singleton] at hr; subst hr; exact hbp m
 refine zAX (args' := [.agg (zae g), .agg (zac p), .v (.int .i64 cell), .v (.int .i64 i), .fn (.func 184) [] [.ref a 0 5 0 0, .ref b 0 1 0 0]])
  (HH := [(a, .rows true 0 5 [zac p]), (b, .rows true 0 1 [[.sl (n + 245) (zdl g p cell i).length 6 0 (zdl g p cell i).length]]), (n + 245, .rows true (zdl g p cell i).length 6 ((zdl g p cell i).map zaF))])
  [a, b] h (zyu g hg p hp cell i hc) hd hlt rfl (by omega) (.refl _) ?_ ?_ (.refl _ _ _ _) ?_ ?_ ?_ (.same (.v _)) ?_ ?_
 ·intro j hj
  rcases (show j = 0 ∨ j = 1 by omega) with rfl | rfl
  ·exact ⟨_, _, rfl, ha, .rows (.same (hrows _))⟩
  ·exact ⟨_, _, rfl, hb, .rows (.same (by simp [go_sem]))⟩
 ·intro q hq
  simp only [List.mem_cons, List.not_mem_nil, or_false] at hq
  rcases hq with rfl | rfl
  ·exact ⟨Nat.le_of_ble_eq_true rfl, hrows _⟩
  ·exact ⟨Nat.le_of_ble_eq_true rfl, by simp [go_sem, zy4]⟩
 ·simp [go_sem, han, hbn]
 ·exact .cons (.same (hbg _)) (.cons (.same (hbq _)) (.cons (.same (.v _)) (.cons (.same (.v _)) (.cons (.fn .nil (.cons (.ref rfl) (.cons (.ref rfl) .nil))) .nil))))
 ·simp [go_sem]
 ·exact .cons rfl (.rows (.same (hrows _))) (.cons rfl (.rows (.cons (.cons (.sl rfl) .nil) .nil)) (.cons rfl (.rows (.same (zcA _))) .nil))
 ·have e : zdV [(a, .rows true 0 5 [zac p]), (b, .rows true 0 1 [[.sl (n + 245) (zdl g p cell i).length 6 0 (zdl g p cell i).length]]), (n + 245, .rows true (zdl g p cell i).length 6 ((zdl g p cell i).map zaF))] (zlA [a, b] h) =
    upd (upd (upd h a (some (.rows true 0 5 [zac p]))) b (some (.rows true 0 1 [[.sl (n + 245) (zdl g p cell i).length 6 0 (zdl g p cell i).length]]))) (n + 245) (some (.rows true (zdl g p cell i).length 6 ((zdl g p cell i).map zaF))) := by
   simp only [List.nodup_cons, List.mem_cons, List.not_mem_nil, or_false, not_or, List.nodup_nil, and_true, not_false_eq_true] at hd
   have na : a ≠ n + 245 := by omega
   have nb : b ≠ n + 245 := by omega
   funext j
   simp only [zdV, zlA, upd]
   by_cases j1 : j = a
   ·subst j1; simp [hd, na]
   ·by_cases j2 : j = b
    ·subst j2; simp [j1, nb]
    ·by_cases j3 : j = n + 245
     ·subst j3; simp [j1, j2]
     ·simp [j1, j2, j3]
  rw [e]
  exact hK
theorem ztf (g : zad) (hg : GOk g) (p : zag) (hp : POk g p) (cell i : Int) (hc : zb4 g p cell i) :
  zaP Tryz.prog 127 [.agg (zae g), .agg (zac p), .v (.int .i64 cell), .v (.int .i64 i)] (.tup [zcS (zc5 g p cell i), .v (.int .i64 0)]) := by
 refine pF Tryz.func127 ?_
 have hl := (zik hg hp hc)
 have hll : (zdl g p cell i).length ≤ 100000000 := Nat.le_trans (List.length_filterMap_le _ _) hl.2
 have hf : ∀ o ∈ zdl g p cell i, zaK o.pos := by
  intro o ho
  obtain ⟨s, hs, h⟩ := List.mem_filterMap.1 ho
  exact (zv7 hg (hl.1 s hs).1 hp.s h).1.fits hg
 have hr : zc5 g p cell i = zaU zhA (zdl g p cell i) := rfl
 rw [hr]
 repeat first|refine wV fun _=>?_|simp [go_sem]
 refine zv8 g hg p hp cell i hc (a := 1) (b := 2) (by decide) (by simp) (by simp [upd, zac, zap]) (by simp [upd]) ?_
 generalize zdl g p cell i = l at *
 repeat first|refine wV fun _=>?_|simp [go_sem]
 refine ztt l hf (by omega) (o := 248) (gn := l.length) (by simp [upd]) ?_
 repeat first|refine wV fun _=>?_|simp [go_sem]
 refine zks (zcu zhA l) l.length l.length (zen l) (by omega) (fun o ho => hf o (zeo.1 ho)) (o := 248) (by simp [upd]) (by omega) ?_
 repeat first|refine wV fun _=>?_|simp [go_sem]
 exact zaB rfl (by simp) (by simp [noH, upd]) (by rw [List.drop_zero]; exact List.take_left' (by simp))
theorem zqq (g : zad) (hg : GOk g) (p : zag) (hp : POk g p) : zaP Tryz.prog 73 [.agg (zae g), .agg (zac p)] (zaI (zcF g p)) := by
 refine pF Tryz.func73 ?_
 have hal := hp.al
 have c9 := hg.c9
 have k6 := hg.k6
 have hcp := zgJ ⟨p, 0, 0, false⟩ (hp.fits hg)
 have hl0 := hp.h0.len
 have hl1 := hp.h1.len
 have hps := hp.s
 rcases hp.s with hsd | hsd
 ·have hsn : p.side.toNat = 0 := by omega
  repeat first|refine wV fun _=>?_|simp [go_sem, hsn, hsd]
  refine zAC (zAG (α := Nat) (fun k => ⟨[(3, .ref 1 0 5 0 0), (5, .sl 2 (zbu g p k).length 5 0 (zbu g p k).length), (15, zap p.h0), (16, .v (.int .i64 p.h0.length)), (17, .v (.int .i64 k))], [(1, .rows true 0 5 [zac p]), (2, .rows true (zbu g p k).length 5 ((zbu g p k).map zac))], 3⟩)
   (fun d k => k + d = g.kinds.length) ?_ g.kinds.length 0 ?_) ?_ ?_
  ·rintro d k k1 hrec
   repeat first|refine wV fun _=>?_|simp [go_sem]
   refine zAE (fun hk => ?_) (fun hk => ?_) <;> simp at hk
   ·have hz := zf3 g p k
    have ha := zg4 g p k
    have hkh : k < p.h0.length := by omega
    have hhv := hp.h0.v k hkh
    repeat first|refine wV fun _=>?_|simp [go_sem, hkh]
    refine zAC (zAG (α := Nat) (fun c => ⟨[(3, .ref 1 0 5 0 0), (5, .sl 2 (zco g p k c).length 5 0 (zco g p k c).length), (6, .v (.int .i64 k)), (7, .v (.int .i64 (nth p.h0 k))), (15, zap p.h0), (16, .v (.int .i64 p.h0.length)), (17, .v (.int .i64 k)), (23, zap p.at_), (24, .v (.int .i64 p.at_.length)), (25, .v (.int .i64 c))], [(1, .rows true 0 5 [zac p]), (2, .rows true (zco g p k c).length 5 ((zco g p k c).map zac))], 3⟩)
     (fun d c => c + d = p.at_.length) ?_ p.at_.length 0 ?_) ?_ ?_
    ·rintro d2 c c1 hrec2
     repeat first|refine wV fun _=>?_|simp [go_sem]
     refine zAE (fun hci => ?_) (fun hci => ?_) <;> simp at hci
     ·have hD : zfI g p k c = if nth (p.hand p.side) k = 0 ∨ nth p.at_ c ≠ 0 then none
       else some { ({ p with at_ := p.at_.set c (zaL k p.side) }.withHand p.side ((p.hand p.side).set k (nth (p.hand p.side) k - 1))) with side := 1 - p.side } := rfl
      have hD' : zfI g p k c = if nth p.h0 k = 0 ∨ nth p.at_ c ≠ 0 then none else some { p with at_ := p.at_.set c (zaL k p.side), h0 := p.h0.set k (nth p.h0 k - 1), side := 1 - p.side } := by
       rw [hD]; simp [zag.hand, zag.withHand, hsd]
      have hCd := zdx (k : Int) p.side
      rw [hsd] at hCd hD'
      repeat first|refine wV fun _=>?_|simp [go_sem, hci]
      refine zAE (fun hcc => ?_) (fun hcc => ?_) <;> simp at hcc
      ·rw [if_pos (by omega)] at hD'
       have hsu := zca g p k c
       rw [hD'] at hsu
       simp only [Option.toList_none, List.append_nil] at hsu
       repeat first|refine wV fun _=>?_|simp [go_sem]
       refine zAC (hrec2 (d2 - 1) (by omega) (c + 1) (by omega)) ?_ (by simp)
       simp [go_sem, zaf, hsd, hsu]
      ·rw [if_neg (by omega)] at hD'
       have hsu := zca g p k c
       rw [hD'] at hsu
       simp only [Option.toList_some] at hsu
       have hcl := zfw g p k c
       have hkm : k * p.at_.length ≤ 6 * 9 := Nat.mul_le_mul (by omega) (by omega)
       repeat first|refine wV fun _=>?_|simp [go_sem, hci]
       refine zAH hcp (by simp [go_sem]) ?_
       repeat first|refine wV fun _=>?_|simp [go_sem, hci, hsd]
       refine zAF hCd (by simp [go_sem]) ?_
       repeat first|refine wV fun _=>?_|simp [go_sem, hsn, hsd, hci, hkh]
       refine zAC (hrec2 (d2 - 1) (by omega) (c + 1) (by omega)) ?_ (by simp)
       simp [go_sem, zaf, hsd, hsu]
       (first|done|exact rwX)
     ·have hcl : c = p.at_.length := by omega
      subst hcl
      rw [ha]
      repeat first|refine wV fun _=>?_|simp [go_sem]
      refine zAC (hrec (d - 1) (by omega) (k + 1) (by omega)) ?_ (by simp)
      simp [go_sem, zaf, hsd]
    ·omega
    ·simp [go_sem, zaf, hsd, hz]
    ·simp
   ·have hkl : k = g.kinds.length := by omega
    subst hkl
    have hdl := zed g p g.kinds.length
    have hkm : g.kinds.length * p.at_.length ≤ 6 * 9 := Nat.mul_le_mul k6 (by omega)
    have hS := zc3 (zbu g p g.kinds.length) (by omega) (fun q hq => by
     rw [zfx] at hq
     obtain ⟨k, hk, hq⟩ := List.mem_flatMap.1 hq
     obtain ⟨c, hc, hq⟩ := List.mem_filterMap.1 hq
     exact (zie hg hp (by simpa using hk) hq).1.fits hg)
    rw [show zaU za7 (zbu g p g.kinds.length) = zcF g p from rfl] at hS
    generalize zbu g p g.kinds.length = l at *
    generalize zcF g p = r at *
    repeat first|refine wV fun _=>?_|simp [go_sem]
    refine zAL [2] hS ?_ (zqS (zbi _)) ?_
    ·(first|done|exact agX)
    ·repeat first|refine wV fun _=>?_|simp [go_sem]
  ·omega
  ·simp [go_sem, zaf, hsd, show zbu g p 0 = [] from rfl]
  ·simp
 ·have hsn : p.side.toNat = 1 := by omega
  repeat first|refine wV fun _=>?_|simp [go_sem, hsn, hsd]
  refine zAC (zAG (α := Nat) (fun k => ⟨[(3, .ref 1 0 5 0 0), (5, .sl 2 (zbu g p k).length 5 0 (zbu g p k).length), (15, zap p.h1), (16, .v (.int .i64 p.h1.length)), (17, .v (.int .i64 k))], [(1, .rows true 0 5 [zac p]), (2, .rows true (zbu g p k).length 5 ((zbu g p k).map zac))], 3⟩)
   (fun d k => k + d = g.kinds.length) ?_ g.kinds.length 0 ?_) ?_ ?_
  ·rintro d k k1 hrec
   repeat first|refine wV fun _=>?_|simp [go_sem]
   refine zAE (fun hk => ?_) (fun hk => ?_) <;> simp at hk
   ·have hz := zf3 g p k
    have ha := zg4 g p k
    have hkh : k < p.h1.length := by omega
    have hhv := hp.h1.v k hkh
    repeat first|refine wV fun _=>?_|simp [go_sem, hkh]
    refine zAC (zAG (α := Nat) (fun c => ⟨[(3, .ref 1 0 5 0 0), (5, .sl 2 (zco g p k c).length 5 0 (zco g p k c).length), (6, .v (.int .i64 k)), (7, .v (.int .i64 (nth p.h1 k))), (15, zap p.h1), (16, .v (.int .i64 p.h1.length)), (17, .v (.int .i64 k)), (23, zap p.at_), (24, .v (.int .i64 p.at_.length)), (25, .v (.int .i64 c))], [(1, .rows true 0 5 [zac p]), (2, .rows true (zco g p k c).length 5 ((zco g p k c).map zac))], 3⟩)
     (fun d c => c + d = p.at_.length) ?_ p.at_.length 0 ?_) ?_ ?_
    ·rintro d2 c c1 hrec2
     repeat first|refine wV fun _=>?_|simp [go_sem]
     refine zAE (fun hci => ?_) (fun hci => ?_) <;> simp at hci
     ·have hD : zfI g p k c = if nth (p.hand p.side) k = 0 ∨ nth p.at_ c ≠ 0 then none
       else some { ({ p with at_ := p.at_.set c (zaL k p.side) }.withHand p.side ((p.hand p.side).set k (nth (p.hand p.side) k - 1))) with side := 1 - p.side } := rfl
      have hD' : zfI g p k c = if nth p.h1 k = 0 ∨ nth p.at_ c ≠ 0 then none else some { p with at_ := p.at_.set c (zaL k p.side), h1 := p.h1.set k (nth p.h1 k - 1), side := 1 - p.side } := by
       rw [hD]; simp [zag.hand, zag.withHand, hsd]
      have hCd := zdx (k : Int) p.side
      rw [hsd] at hCd hD'
      repeat first|refine wV fun _=>?_|simp [go_sem, hci]
      refine zAE (fun hcc => ?_) (fun hcc => ?_) <;> simp at hcc
      ·rw [if_pos (by omega)] at hD'
       have hsu := zca g p k c
       rw [hD'] at hsu
       simp only [Option.toList_none, List.append_nil] at hsu
       repeat first|refine wV fun _=>?_|simp [go_sem]
       refine zAC (hrec2 (d2 - 1) (by omega) (c + 1) (by omega)) ?_ (by simp)
       simp [go_sem, zaf, hsd, hsu]
      ·rw [if_neg (by omega)] at hD'
       have hsu := zca g p k c
       rw [hD'] at hsu
       simp only [Option.toList_some] at hsu
       have hcl := zfw g p k c
       have hkm : k * p.at_.length ≤ 6 * 9 := Nat.mul_le_mul (by omega) (by omega)
       repeat first|refine wV fun _=>?_|simp [go_sem, hci]
       refine zAH hcp (by simp [go_sem]) ?_
       repeat first|refine wV fun _=>?_|simp [go_sem, hci, hsd]
       refine zAF hCd (by simp [go_sem]) ?_
       repeat first|refine wV fun _=>?_|simp [go_sem, hsn, hsd, hci, hkh]
       refine zAC (hrec2 (d2 - 1) (by omega) (c + 1) (by omega)) ?_ (by simp)
       simp [go_sem, zaf, hsd, hsu]
       (first|done|exact rwX)
     ·have hcl : c = p.at_.length := by omega
      subst hcl
      rw [ha]
      repeat first|refine wV fun _=>?_|simp [go_sem]
      refine zAC (hrec (d - 1) (by omega) (k + 1) (by omega)) ?_ (by simp)
      simp [go_sem, zaf, hsd]
    ·omega
    ·simp [go_sem, zaf, hsd, hz]
    ·simp
   ·have hkl : k = g.kinds.length := by omega
    subst hkl
    have hdl := zed g p g.kinds.length
    have hkm : g.kinds.length * p.at_.length ≤ 6 * 9 := Nat.mul_le_mul k6 (by omega)
    have hS := zc3 (zbu g p g.kinds.length) (by omega) (fun q hq => by
     rw [zfx] at hq
     obtain ⟨k, hk, hq⟩ := List.mem_flatMap.1 hq
     obtain ⟨c, hc, hq⟩ := List.mem_filterMap.1 hq
     exact (zie hg hp (by simpa using hk) hq).1.fits hg)
    rw [show zaU za7 (zbu g p g.kinds.length) = zcF g p from rfl] at hS
    generalize zbu g p g.kinds.length = l at *
    generalize zcF g p = r at *
    repeat first|refine wV fun _=>?_|simp [go_sem]
    refine zAL [2] hS ?_ (zqS (zbi _)) ?_
    ·(first|done|exact agX)
    ·repeat first|refine wV fun _=>?_|simp [go_sem]
  ·omega
  ·simp [go_sem, zaf, hsd, show zbu g p 0 = [] from rfl]
  ·simp
theorem ziU (f : Int → Bool) (l : List Int) {i : Nat} (h : i < l.length) : (l.take (i + 1)).countP f = (l.take i).countP f + (if f (nth l i) then 1 else 0) := by
 rw [List.take_add_one, List.getElem?_eq_getElem h, zau _ _ h, Option.toList_some, List.countP_append]
 simp [List.countP_cons]
theorem zrG (p : zag) (hp : zaK p) (side kind : Int) : zaP Tryz.prog 292 [.agg (zac p), .v (.int .i64 side), .v (.int .i64 kind)] (.v (.int .i64 (ztI p side kind))) := by
 refine pF Tryz.func292 ?_
 obtain ⟨f1, _, _⟩ := hp
 unfold zeY at f1
 repeat first|refine wV fun _=>?_|simp [go_sem]
 refine zAC (zAG (α := Nat) (fun i => ⟨[(1, .v (.int .i64 side)), (2, .v (.int .i64 kind)), (3, .ref 0 0 5 0 0), (7, .v (.int .i64 ((p.at_.take i).countP (zeh p side kind) : Nat))), (8, .v (.int .i64 i))], [(0, .rows true 0 5 [zac p])], 1⟩)
  (fun d i => i + d = p.at_.length) ?_ p.at_.length 0 ?_) ?_ ?_
 ·rintro d i i1 hrec
  repeat first|refine wV fun _=>?_|simp [go_sem]
  refine zAE (fun hi => ?_) (fun hi => ?_) <;> simp at hi
  ·have hO := ze2 (nth p.at_ i)
   have hcs := ziU (zeh p side kind) p.at_ hi
   have hle : (p.at_.take i).countP (zeh p side kind) ≤ i := Nat.le_trans List.countP_le_length (by simp; omega)
   have hM : zeh p side kind (nth p.at_ i) = (decide (0 ≤ (zak (nth p.at_ i)).1) && decide ((zak (nth p.at_ i)).2 = side) && (decide (kind < 0) || decide ((zak (nth p.at_ i)).1 = kind))) := rfl
   generalize zak (nth p.at_ i) = m at *
   repeat first|refine wV fun _=>?_|simp [go_sem, hi]
   refine zAD hO (by simp [go_sem]) ?_
   repeat first|refine wV fun _=>?_|simp [go_sem]
   by_cases hm : zeh p side kind (nth p.at_ i) = true
   ·have hm' := hm
    rw [hM] at hm'
    rw [if_pos hm] at hcs
    simp only [hm']
    repeat first|refine wV fun _=>?_|simp [go_sem]
    refine zAC (hrec (d - 1) (by omega) (i + 1) (by omega)) ?_ (by simp)
    simp [go_sem, zaf, hcs]
   ·have hm' := hm
    rw [hM] at hm'
    rw [if_neg hm] at hcs
    simp only [Bool.not_eq_true] at hm'
    simp only [hm']
    repeat first|refine wV fun _=>?_|simp [go_sem]
    refine zAC (hrec (d - 1) (by omega) (i + 1) (by omega)) ?_ (by simp)
    simp [go_sem, zaf, hcs]
  ·have hil : i = p.at_.length := by omega
   subst hil
   have hM : ztI p side kind = (p.at_.take p.at_.length).countP (zeh p side kind) := by rw [List.take_length]; rfl
   rw [hM]
   repeat first|refine wV fun _=>?_|simp [go_sem]
 ·omega
 ·simp [go_sem, zaf]
 ·simp
theorem zhX (g : zad) (hg : GOk g) (p : zag) (hp : POk g p) (c : Int × Int × Int × Int) (hc : zfs g.cells g.kinds.length c) :
  zaP Tryz.prog 245 [.agg (zaZ c), .agg (zac p)] (.v (.bool (zdA c p))) := by
 refine pF Tryz.func245 ?_
 have hps := hp.s
 have hal := hp.al
 have hM := fun s k => zrG p (hp.fits hg) s k
 have hml : ∀ s k, ztI p s k ≤ 9 := fun s k => Nat.le_trans List.countP_le_length (by have := hg.c9; omega)
 obtain ⟨c0, c1, c2, c3⟩ := c
 obtain ⟨k1, k2, k3, k4, k5⟩ := hc
 simp only at k1 k2 k3 k4 k5
 unfold zdA
 rcases k1 with rfl | rfl | rfl
 ·have h1 := hM p.side c1
  repeat first|refine wV fun _=>?_|simp [go_sem]
  refine zAD h1 (by simp [go_sem]) ?_
  repeat first|refine wV fun _=>?_|simp [go_sem]
 ·have hci : c2.toNat < p.at_.length := by omega
  repeat first|refine wV fun _=>?_|simp [go_sem, hci]
  refine zAF (zev c1 (1 - p.side)) (by simp [go_sem]) ?_
  repeat first|refine wV fun _=>?_|simp [go_sem, hci]
 ·have h1 := hM p.side (-1)
  have := hml p.side (-1)
  repeat first|refine wV fun _=>?_|simp [go_sem]
  refine zAF h1 (by simp [go_sem]) ?_
  repeat first|refine wV fun _=>?_|simp [go_sem]
theorem zhG {α : Type} [Inhabited α] (f : α → Bool) (l : List α) {i : Nat} (hi : i < l.length) (hb : ∀ j, j < i → f (nth l j) = false) (h : f (nth l i) = true) : l.findIdx? f = some i := by
 rw [List.findIdx?_eq_some_iff_getElem]
 refine ⟨hi, by rw [← zau _ _ hi]; exact h, fun j hj => ?_⟩
 have := hb j hj
 rw [zau _ _ (by omega)] at this
 simp [this]
theorem zhF {α : Type} [Inhabited α] (f : α → Bool) (l : List α) (hb : ∀ j, j < l.length → f (nth l j) = false) : l.findIdx? f = none := by
 rw [List.findIdx?_eq_none_iff]
 intro x hx
 obtain ⟨j, hj, rfl⟩ := List.getElem_of_mem hx
 have := hb j hj
 rwa [zau _ _ hj] at this
theorem zne (g : zad) (hg : GOk g) (p : zag) (hp : POk g p) : zaP Tryz.prog 195 [.agg (zae g), .agg (zac p)] (.v (.int .i64 (zcU g p))) := by
 refine pF Tryz.func195 ?_
 have hcn := hg.cn
 repeat first|refine wV fun _=>?_|simp [go_sem]
 refine zAC (zAG (α := Nat) (fun i => ⟨[(2, .ref 0 0 9 0 0), (3, .ref 1 0 5 0 0), (5, .v (.int .i64 i))], [(0, .rows true 0 9 [zae g]), (1, .rows true 0 5 [zac p])], 2⟩)
  (fun d i => i + d = g.clauses.length ∧ ∀ j, j < i → zdA (nth g.clauses j) p = false) ?_ g.clauses.length 0 ?_) ?_ ?_
 ·rintro d i ⟨i1, i2⟩ hrec
  repeat first|refine wV fun _=>?_|simp [go_sem]
  refine zAE (fun hi => ?_) (fun hi => ?_) <;> simp at hi
  ·have hC := zhX g hg p hp _ (hg.cl _ (zaj hi))
   repeat first|refine wV fun _=>?_|simp [go_sem, hi]
   refine zAF hC (by simp [go_sem]) ?_
   repeat first|refine wV fun _=>?_|simp [go_sem]
   by_cases hc : zdA (nth g.clauses i) p = true
   ·have he : zcU g p = i := by unfold zcU; rw [zhG (fun c => zdA c p) g.clauses hi i2 hc]
    repeat first|refine wV fun _=>?_|simp [go_sem, hc, he]
   ·repeat first|refine wV fun _=>?_|simp [go_sem, hc]
    refine zAC (hrec (d - 1) (by omega) (i + 1) ⟨by omega, fun j hj => ?_⟩) ?_ (by simp)
    ·rcases Nat.lt_or_ge j i with h | h
     ·exact i2 j h
     ·obtain rfl : j = i := by omega
      simpa using hc
    ·simp [go_sem, zaf]
  ·have he : zcU g p = -1 := by unfold zcU; rw [zhF (fun c => zdA c p) g.clauses (fun j hj => i2 j (by omega))]
   repeat first|refine wV fun _=>?_|simp [go_sem, he]
 ·exact ⟨by simp, fun j hj => by omega⟩
 ·simp [go_sem, zaf]
 ·simp
def zj9 (p : zag) (side : Int) (K : Nat) (j : Nat) : List Int := (List.range K).map fun (k : Nat) => (((p.at_.take j).countP (zeh p side k) : Nat) : Int)
theorem zmi (p : zag) (side : Int) (K j : Nat) : (zj9 p side K j).length = K := by simp [zj9]
theorem zmK (p : zag) (side : Int) (K j : Nat) {k : Nat} (hk : k < K) : nth (zj9 p side K j) k = (((p.at_.take j).countP (zeh p side k) : Nat) : Int) := by
 rw [zau _ _ (by rw [zmi]; exact hk)]; simp [zj9]
theorem znE {p : zag} {side : Int} {K j : Nat} (hj : j < p.at_.length) : zj9 p side K (j + 1) = (List.range K).map fun (k : Nat) => (((p.at_.take j).countP (zeh p side k) + (if zeh p side k (nth p.at_ j) then 1 else 0) : Nat) : Int) := by
 unfold zj9
 refine List.map_congr_left fun k _ => ?_
 rw [ziU _ _ hj]
theorem zzN {p : zag} {side : Int} {K j : Nat} (hj : j < p.at_.length) (h : ∀ k : Nat, zeh p side k (nth p.at_ j) = false) : zj9 p side K (j + 1) = zj9 p side K j := by
 rw [znE hj]
 unfold zj9
 refine List.map_congr_left fun k _ => ?_
 rw [h k]; simp
theorem zxv {p : zag} {side : Int} {K j m : Nat} (hj : j < p.at_.length) (hm : m < K) (h : ∀ k : Nat, zeh p side k (nth p.at_ j) = decide (k = m)) :
  zj9 p side K (j + 1) = (zj9 p side K j).set m (nth (zj9 p side K j) m + 1) := by
 rw [znE hj]
 refine List.ext_getElem (by simp [zj9]) fun k h1 h2 => ?_
 have hk : k < K := by simpa using h1
 rw [List.getElem_set]
 by_cases e : m = k
 ·subst e
  rw [if_pos rfl, zmK _ _ _ _ hk]
  simp [h]
 ·rw [if_neg e]
  simp [zj9, h, Ne.symm e]
def zey (g : zad) (p : zag) (side : Int) : List Int := zj9 p side g.kinds.length p.at_.length
theorem zjz (g : zad) (p : zag) (side : Int) {k : Nat} (hk : k < g.kinds.length) : nth (zey g p side) k = ztI p side k := by
 unfold zey; rw [zmK _ _ _ _ hk, List.take_length]; rfl
theorem zwt {m s : Int} (h0 : 0 ≤ m) (hs : s = 0 ∨ s = 1) : (1 + 2 * m + s - 1).tmod 2 = s ∧ (1 + 2 * m + s - 1).tdiv 2 = m := by
 rw [Int.tmod_eq_emod_of_nonneg (by omega), Int.tdiv_eq_ediv_of_nonneg (by omega)]
 omega
theorem zkF (g : zad) (hg : GOk g) (p : zag) (hp : POk g p) (side : Int) (hsd : side = 0 ∨ side = 1) :
  zaP Tryz.prog 360 [.agg (zae g), .agg (zac p), .v (.int .i64 side)] (zap (zey g p side)) := by
 refine pF Tryz.func360 ?_
 have hal := hp.al
 have c9 := hg.c9
 have k6 := hg.k6
 have hall := fun j => zmi p side g.kinds.length j
 have hz : List.replicate g.kinds.length [AV.v (.int .i64 0)] = (zj9 p side g.kinds.length 0).map zbB := by
  refine List.ext_getElem (by simp [zj9]) fun k h1 h2 => ?_
  simp [zj9, zbB]
 repeat first|refine wV fun _=>?_|simp [go_sem]
 refine zAC (zAG (α := Nat) (fun j => ⟨[(2, .v (.int .i64 side)), (7, .sl 2 0 1 0 g.kinds.length), (15, zap p.at_), (16, .v (.int .i64 p.at_.length)), (17, .v (.int .i64 j))], [(2, .rows true 0 1 ((zj9 p side g.kinds.length j).map zbB))], 3⟩)
  (fun d j => j + d = p.at_.length) ?_ p.at_.length 0 ?_) ?_ ?_
 ·rintro d j j1 hrec
  repeat first|refine wV fun _=>?_|simp [go_sem]
  refine zAE (fun hj => ?_) (fun hj => ?_) <;> simp at hj
  ·have hat := hp.at (i := j) (by omega)
   have hman := zaR hat.1 hat.2 hg.k6
   have hM : ∀ k : Nat, zeh p side k (nth p.at_ j) = (decide (0 ≤ (zak (nth p.at_ j)).1) && decide ((zak (nth p.at_ j)).2 = side) && (decide ((k : Int) < 0) || decide ((zak (nth p.at_ j)).1 = k))) := fun k => rfl
   have hno := zzN (p := p) (side := side) (K := g.kinds.length) hj
   have hyes := fun m => zxv (p := p) (side := side) (K := g.kinds.length) (m := m) hj
   rcases hman with ⟨h0, hm⟩ | ⟨h0, hm0, hmk, hms, he⟩
   ·rw [hm] at hM
    have hno := hno (fun k => by rw [hM]; simp)
    repeat first|refine wV fun _=>?_|simp [go_sem, hj, h0]
    refine zAC (hrec (d - 1) (by omega) (j + 1) (by omega)) ?_ (by simp)
    simp [go_sem, zaf, hno]
   ·have ht := zwt hm0 hms
    rw [← he] at ht
    have hpos : 0 < nth p.at_ j := by omega
    by_cases hs : (zak (nth p.at_ j)).2 = side
    ·obtain ⟨m, hmm⟩ : ∃ m : Nat, (zak (nth p.at_ j)).1 = m := ⟨(zak (nth p.at_ j)).1.toNat, by omega⟩
     rw [hmm] at ht hmk
     have hmk' : m < g.kinds.length := by omega
     have hyes := hyes m hmk' (fun k => by rw [hM, hmm, decide_eq_true hs]; by_cases e : k = m <;> simp [e] <;> omega)
     have hb : 0 ≤ nth (zj9 p side g.kinds.length j) m ∧ nth (zj9 p side g.kinds.length j) m ≤ 9 := by
      rw [zmK _ _ _ _ hmk']
      have : (p.at_.take j).countP (zeh p side m) ≤ (p.at_.take j).length := List.countP_le_length
      rw [List.length_take] at this
      omega
     have hlm : m < (zj9 p side g.kinds.length j).length := by rw [hall]; exact hmk'
     rw [hs] at ht
     repeat first|refine wV fun _=>?_|simp [go_sem, hj, hpos, ht.1, ht.2, hlm, hall, hmk']
     refine zAC (hrec (d - 1) (by omega) (j + 1) (by omega)) ?_ (by simp)
     simp [go_sem, zaf, hyes, List.map_set, zbB]
    ·have hno := hno (fun k => by rw [hM, decide_eq_false hs]; simp)
     repeat first|refine wV fun _=>?_|simp [go_sem, hj, hpos, ht.1, ht.2, hs]
     refine zAC (hrec (d - 1) (by omega) (j + 1) (by omega)) ?_ (by simp)
     simp [go_sem, zaf, hno]
  ·have e : j = p.at_.length := by omega
   subst e
   repeat first|refine wV fun _=>?_|simp [go_sem]
   exact zaB rfl (by simp [hall]) (by simp [noH, upd]) (by simp [zey]; exact List.take_of_length_le (by simp [hall]))
 ·omega
 ·simp [go_sem, zaf, hz]
 ·simp
end Go.Av
end
section
/- Contracts: play.conditions, play.ended. -/
open Go Go.Proofs
namespace Go.Av
theorem zAb {g : zad} (hg : GOk g) {p : zag} (hp : POk g p) (s k : Int) : ztI p s k ≤ 9 := Nat.le_trans List.countP_le_length (by have := hg.c9; have := hp.al; omega)
theorem ziV (g : zad) (p : zag) (side : Int) : (zey g p side).length = g.kinds.length := zmi _ _ _ _
theorem zrd (m : Int) (s side : Int) : ∀ K : Nat, 0 ≤ m → ((List.range K).map fun (k : Nat) => if (decide (0 ≤ m) && decide (s = side) && (decide ((k : Int) < 0) || decide (m = k))) = true then (1 : Nat) else 0).sum = if m < K ∧ s = side then 1 else 0
 | 0, h => by simp; omega
 | K + 1, h => by
  rw [List.range_succ, List.map_append, List.sum_append, zrd m s side K h]
  have e : (if (decide (0 ≤ m) && decide (s = side) && (decide ((K : Int) < 0) || decide (m = K))) = true then (1 : Nat) else 0) = if s = side ∧ m = K then 1 else 0 := by
   have : ¬ (K : Int) < 0 := by omega
   simp [h, this]
  simp only [List.map_cons, List.map_nil, List.sum_cons, List.sum_nil, e, Nat.add_zero]
  by_cases hs : s = side
  ·by_cases h1 : m < K
   ·rw [if_pos ⟨h1, hs⟩, if_neg (by omega), if_pos ⟨by omega, hs⟩]
   ·by_cases h2 : m = K
    ·rw [if_neg (by omega), if_pos ⟨hs, h2⟩, if_pos ⟨by omega, hs⟩, Nat.zero_add]
    ·rw [if_neg (by omega), if_neg (by omega), if_neg (by omega)]
  ·rw [if_neg (by simp [hs]), if_neg (by simp [hs]), if_neg (by simp [hs])]
theorem zmS : ∀ l : List Nat, (l.map fun _ => 0).sum = 0
 | [] => rfl
 | _ :: l => by simp [zmS l]
theorem zwr (f h : Nat → Nat) : ∀ l : List Nat, (l.map fun k => f k + h k).sum = (l.map f).sum + (l.map h).sum
 | [] => rfl
 | k :: l => by simp [zwr f h l]; omega
theorem zvI {K : Nat} (hK : K ≤ 6) (side : Int) : ∀ l : List Int, (∀ c ∈ l, 0 ≤ c ∧ c ≤ 2 * K) →
  ((List.range K).map fun (k : Nat) => l.countP fun c => decide (0 ≤ (zak c).1) && decide ((zak c).2 = side) && (decide ((k : Int) < 0) || decide ((zak c).1 = k))).sum =
   l.countP fun c => decide (0 ≤ (zak c).1) && decide ((zak c).2 = side) && (decide ((-1 : Int) < 0) || decide ((zak c).1 = -1))
 | [], _ => by simp [zmS]
 | c :: l, h => by
  have ih := zvI hK side l (fun x hx => h x (by simp [hx]))
  simp only [List.countP_cons]
  rw [zwr, ih]
  congr 1
  have hc := h c (by simp)
  rcases zaR hc.1 hc.2 hK with ⟨h0, hm⟩ | ⟨h0, hm0, hmk, hms, he⟩
  ·rw [hm]; simp [zmS]
  ·rw [zrd _ _ _ _ hm0]
   by_cases hs : (zak c).2 = side
   ·simp [hs, hm0, hmk]
   ·simp [hs]
theorem zAc {g : zad} (hg : GOk g) {p : zag} (hp : POk g p) (side : Int) : ((List.range g.kinds.length).map fun (k : Nat) => ztI p side k).sum = ztI p side (-1) :=
 zvI hg.k6 side p.at_ hp.av
section
variable (g : zad) (hg : GOk g) (p : zag) (hp : POk g p) (c : Int × Int × Int × Int) (hc : zfs g.cells g.kinds.length c)
theorem zsn (hg : GOk g) (hp : POk g p) (hc : zfs g.cells g.kinds.length c) (h1 : c.1 = 1) : zaP Tryz.prog 359 [.agg (zae g), .agg (zac p), .agg (zaZ c)] (.v (.bool (zdA c p))) := by
 refine pF Tryz.func359 ?_
 have hC := zkF g hg p hp p.side hp.s
 have hl := ziV g p p.side
 have hk := hc.kind
 have hck : c.2.1.toNat < (zey g p p.side).length := by omega
 have hn := zjz g p p.side (k := c.2.1.toNat) (by omega)
 rw [show ((c.2.1.toNat : Nat) : Int) = c.2.1 by omega] at hn
 have he : zdA c p = decide (nth (zey g p p.side) c.2.1.toNat = 0) := by
  unfold zdA; rw [if_pos h1, hn]; simp
 rw [he]
 generalize zey g p p.side = l at *
 obtain ⟨c0, c1, c2, c3⟩ := c
 simp only at hk hck
 repeat first|refine wV fun _=>?_|simp [go_sem]
 refine zAF hC (by simp [go_sem]) ?_
 repeat first|refine wV fun _=>?_|simp [go_sem, hck]
theorem zso (hg : GOk g) (hp : POk g p) (hc : zfs g.cells g.kinds.length c) (h1 : c.1 = 2) : zaP Tryz.prog 361 [.agg (zae g), .agg (zac p), .agg (zaZ c)] (.v (.bool (zdA c p))) := by
 refine pF Tryz.func361 ?_
 have hal := hp.al
 have hps := hp.s
 have hn := hc.n
 have hcd := hn.2.1 h1
 have hci : c.2.2.1.toNat < p.at_.length := by omega
 have he : zdA c p = decide (nth p.at_ c.2.2.1.toNat = zaL c.2.1 (1 - p.side)) := by
  unfold zdA; rw [if_neg (by omega), if_pos h1]
 rw [he]
 have hC := zdx c.2.1 (1 - p.side)
 obtain ⟨c0, c1, c2, c3⟩ := c
 simp only at hcd hci hC hn
 generalize zaL c1 (1 - p.side) = code at *
 repeat first|refine wV fun _=>?_|simp [go_sem, hci]
 refine zAF hC (by simp [go_sem]) ?_
 repeat first|refine wV fun _=>?_|simp [go_sem, hci]
theorem zsp (hg : GOk g) (hp : POk g p) (hc : zfs g.cells g.kinds.length c) (h1 : c.1 = 3) : zaP Tryz.prog 362 [.agg (zae g), .agg (zac p), .agg (zaZ c)] (.v (.bool (zdA c p))) := by
 refine pF Tryz.func362 ?_
 have hC := zkF g hg p hp p.side hp.s
 have hl := ziV g p p.side
 have k6 := hg.k6
 have hnn := fun (k : Nat) hk => zjz g p p.side (k := k) hk
 have hle := fun k : Nat => zAb hg hp p.side k
 have hall := zAc hg hp p.side
 obtain ⟨S, hS⟩ : ∃ S : Nat → Nat, S = fun i => ((List.range i).map fun (k : Nat) => ztI p p.side k).sum := ⟨_, rfl⟩
 have hS0 : S 0 = 0 := by rw [hS]; rfl
 have hSs : ∀ i, S (i + 1) = S i + ztI p p.side i := fun i => by rw [hS]; simp [List.range_succ]
 have hSK : S g.kinds.length = ztI p p.side (-1) := by rw [hS]; exact hall
 have hSb : ∀ i, S i ≤ 9 * i := fun i => by
  induction i with
  | zero => omega
  | succ i ih => rw [hSs]; have := hle i; omega
 have he : zdA c p = decide ((S g.kinds.length : Int) ≤ c.2.2.1) := by
  unfold zdA; rw [if_neg (by omega), if_neg (by omega), hSK]
 rw [he]
 clear hS
 generalize zey g p p.side = l at *
 obtain ⟨c0, c1, c2, c3⟩ := c
 repeat first|refine wV fun _=>?_|simp [go_sem]
 refine zAD hC (by simp [go_sem]) ?_
 repeat first|refine wV fun _=>?_|simp [go_sem]
 refine zAC (zAG (α := Nat) (fun i => ⟨[(5, .ref 2 0 4 0 0), (7, .v (.int .i64 (S i))), (14, zap l), (15, .v (.int .i64 l.length)), (16, .v (.int .i64 i))], [(2, .rows true 0 4 [zaZ (c0, c1, c2, c3)])], 3⟩)
  (fun d i => i + d = l.length) ?_ l.length 0 ?_) ?_ ?_
 ·rintro d i i1 hrec
  repeat first|refine wV fun _=>?_|simp [go_sem]
  refine zAE (fun hi => ?_) (fun hi => ?_) <;> simp at hi
  ·have h2 := hnn i (by omega)
   have h3 := hle i
   have h4 := hSb i
   have h5 := hSs i
   repeat first|refine wV fun _=>?_|simp [go_sem, hi]
   refine zAC (hrec (d - 1) (by omega) (i + 1) (by omega)) ?_ (by simp)
   simp [go_sem, zaf, h5, h2]
  ·have e : i = l.length := by omega
   subst e
   rw [hl]
   repeat first|refine wV fun _=>?_|simp [go_sem]
 ·omega
 ·simp [go_sem, zaf, hS0]
 ·simp
end
def zgw (g : zad) (p : zag) : Int × Bool := if 0 ≤ zcU g p then ((nth g.clauses (zcU g p).toNat).2.2.2, true) else (0, false)
theorem zmx : glbs.lookup 0 = some [.v .nilFunc, .fn (.func 359) [] [], .fn (.func 361) [] [], .fn (.func 362) [] []] := rfl
theorem zsu (g : zad) (hg : GOk g) (p : zag) (hp : POk g p) : zaP Tryz.prog 70 [.agg (zae g), .agg (zac p)] (.tup [.v (.int .i64 (zgw g p).1), .v (.bool (zgw g p).2)]) := by
 refine pF Tryz.func70 ?_
 have hcn := hg.cn
 repeat first|refine wV fun _=>?_|simp [go_sem]
 refine zAC (zAG (α := Nat) (fun i => ⟨[(2, .ref 0 0 9 0 0), (3, .ref 1 0 5 0 0), (9, .lst 4 (g.clauses.map zaZ)), (10, .v (.int .i64 g.clauses.length)), (11, .v (.int .i64 i))], [(0, .rows true 0 9 [zae g]), (1, .rows true 0 5 [zac p])], 2⟩)
  (fun d i => i + d = g.clauses.length ∧ ∀ j, j < i → zdA (nth g.clauses j) p = false) ?_ g.clauses.length 0 ?_) ?_ ?_
 ·rintro d i ⟨i1, i2⟩ hrec
  repeat first|refine wV fun _=>?_|simp [go_sem]
  refine zAE (fun hi => ?_) (fun hi => ?_) <;> simp at hi
  ·have hcl := hg.cl _ (zaj hi)
   have hfi : zdA (nth g.clauses i) p = true → zgw g p = ((nth g.clauses i).2.2.2, true) := fun hc => by
    have he : zcU g p = i := by unfold zcU; rw [zhG (fun c => zdA c p) g.clauses hi i2 hc]
    unfold zgw
    rw [he, if_pos (by omega)]; simp
   have h1 := zsn g p _ hg hp hcl
   have h2 := zso g p _ hg hp hcl
   have h3 := zsp g p _ hg hp hcl
   have hcond := hcl.cond
   obtain ⟨c, hcc⟩ : ∃ c, c = nth g.clauses i := ⟨_, rfl⟩
   rw [← hcc] at hfi h1 h2 h3 hcond
   have fin : ∀ b, zdA c p = b → b = false → ∀ j, j < i + 1 → zdA (nth g.clauses j) p = false := by
    intro b hb hf j hj
    rcases Nat.lt_or_ge j i with h | h
    ·exact i2 j h
    ·obtain rfl : j = i := by omega
     rw [← hcc, hb, hf]
   obtain ⟨c0, c1, c2, c3⟩ := c
   generalize hcb : zdA (c0, c1, c2, c3) p = b at *
   simp only at hcond hfi
   rcases hcond with rfl | rfl | rfl
   ·have hC := h1 rfl
    repeat first|refine wV fun _=>?_|simp [go_sem, hi, ← hcc, zmx]
    refine zAF hC (by simp [go_sem]) ?_
    repeat first|refine wV fun _=>?_|simp [go_sem]
    cases b
    ·repeat first|refine wV fun _=>?_|simp [go_sem]
     refine zAC (hrec (d - 1) (by omega) (i + 1) ⟨by omega, fin _ rfl rfl⟩) ?_ (by simp)
     simp [go_sem, zaf]
    ·rw [hfi rfl]
     repeat first|refine wV fun _=>?_|simp [go_sem]
   ·have hC := h2 rfl
    repeat first|refine wV fun _=>?_|simp [go_sem, hi, ← hcc, zmx]
    refine zAF hC (by simp [go_sem]) ?_
    repeat first|refine wV fun _=>?_|simp [go_sem]
    cases b
    ·repeat first|refine wV fun _=>?_|simp [go_sem]
     refine zAC (hrec (d - 1) (by omega) (i + 1) ⟨by omega, fin _ rfl rfl⟩) ?_ (by simp)
     simp [go_sem, zaf]
    ·rw [hfi rfl]
     repeat first|refine wV fun _=>?_|simp [go_sem]
   ·have hC := h3 rfl
    repeat first|refine wV fun _=>?_|simp [go_sem, hi, ← hcc, zmx]
    refine zAF hC (by simp [go_sem]) ?_
    repeat first|refine wV fun _=>?_|simp [go_sem]
    cases b
    ·repeat first|refine wV fun _=>?_|simp [go_sem]
     refine zAC (hrec (d - 1) (by omega) (i + 1) ⟨by omega, fin _ rfl rfl⟩) ?_ (by simp)
     simp [go_sem, zaf]
    ·rw [hfi rfl]
     repeat first|refine wV fun _=>?_|simp [go_sem]
  ·have he : zcU g p = -1 := by unfold zcU; rw [zhF (fun c => zdA c p) g.clauses (fun j hj => i2 j (by omega))]
   have he' : zgw g p = (0, false) := by unfold zgw; rw [he]; rfl
   rw [he']
   repeat first|refine wV fun _=>?_|simp [go_sem]
 ·exact ⟨by simp, fun j hj => by omega⟩
 ·simp [go_sem, zaf]
 ·simp
end Go.Av
end
section
open Go Go.Proofs
namespace Go.Av
def zjC (g : zad) (p : zag) (c : Nat) : List zb8 := (List.range c).flatMap (zcW g p)
theorem zs7 (g : zad) (p : zag) (c : Nat) : zjC g p (c + 1) = zjC g p c ++ zcW g p c := by simp [zjC, List.range_succ, List.flatMap_append]
theorem zs8 (g : zad) (p : zag) : zjC g p 0 = [] := rfl
def zkz (g : zad) (p : zag) (c i : Nat) : List zb8 := zjC g p c ++ (List.range i).flatMap fun (i : Nat) => zc5 g p c i
theorem zs5 (g : zad) (p : zag) (c : Nat) : zkz g p c 0 = zjC g p c := by simp [zkz]
theorem zs4 (g : zad) (p : zag) (c i : Nat) : zkz g p c (i + 1) = zkz g p c i ++ zc5 g p c i := by simp [zkz, List.range_succ, List.flatMap_append]
theorem ziz (g : zad) (hg : GOk g) (p : zag) (hp : POk g p) : zaP Tryz.prog 196 [.agg (zae g), .agg (zac p)] (zcS (zdj g p)) := by
 refine pF Tryz.func196 ?_
 have hal := hp.al
 have c9 := hg.c9
 have k6 := hg.k6
 have hU : ∀ c i, c < p.at_.length → 0 ≤ (zak (nth p.at_ c)).1 ∧ (zak (nth p.at_ c)).2 = p.side → i ≤ (nth g.kinds (zak (nth p.at_ c)).1.toNat).progs.length → (zkz g p c i).length ≤ 8000000000 := fun c i hc hm hi => by
  have h1 : (zjC g p c).length ≤ 7200000000 := zou hg hp (by omega)
  have hk := zmC hg hp (cell := c) (by omega) (by omega) (by simpa using hm.1)
  simp only [Int.toNat_natCast] at hk
  have h8 := hg.pn _ (zaj hk)
  have h2 := zbx (fun (i : Nat) => zc5 g p c i) 100000000 i (fun j hj => zjO hg hp (ze5 hp hc hm (by omega)))
  have h3 : i * 100000000 ≤ 8 * 100000000 := Nat.mul_le_mul_right _ (by omega)
  simp only [zkz, List.length_append]
  omega
 repeat first|refine wV fun _=>?_|simp [go_sem]
 refine zAC (zAG (α := Nat × Nat) (fun a => ⟨[(2, .ref 0 0 9 0 0), (3, .ref 1 0 5 0 0), (5, .sl 2 a.2 6 0 (zjC g p a.1).length), (6, .v (.int .i64 a.1))], [(0, .rows true 0 9 [zae g]), (1, .rows true 0 5 [zac p]), (2, .rows true a.2 6 ((zjC g p a.1).map zaF))], 3⟩)
  (fun d a => a.1 + d = p.at_.length) ?_ p.at_.length (0, 0) ?_) ?_ ?_
 ·rintro d ⟨c, G⟩ c1 hrec
  simp only at c1
  repeat first|refine wV fun _=>?_|simp [go_sem]
  refine zAE (fun hc => ?_) (fun hc => ?_) <;> simp at hc
  ·have hO := ze2 (nth p.at_ c)
   have hsu := zs7 g p c
   have hat := hp.at (i := c) (by omega)
   have hman := zaR hat.1 hat.2 hg.k6
   have hAt : zcW g p c = if 0 ≤ (zak (nth p.at_ c)).1 ∧ (zak (nth p.at_ c)).2 = p.side then (List.range (nth g.kinds (zak (nth p.at_ c)).1.toNat).progs.length).flatMap fun (i : Nat) => zc5 g p c i else [] := rfl
   have hU' := fun i => hU c i hc
   have hCh := fun i => ze5 (g := g) (i := i) hp hc
   generalize zak (nth p.at_ c) = m at *
   obtain ⟨mk, ms⟩ := m
   simp only [Prod.mk.injEq] at hman hAt hU' hCh
   repeat first|refine wV fun _=>?_|simp [go_sem, hc]
   refine zAD hO (by simp [go_sem]) ?_
   repeat first|refine wV fun _=>?_|simp [go_sem]
   refine zAE (fun hm => ?_) (fun hm => ?_) <;> simp at hm
   ·rw [if_neg (by omega)] at hAt
    rw [hAt, List.append_nil] at hsu
    repeat first|refine wV fun _=>?_|simp [go_sem]
    refine zAC (hrec (d - 1) (by omega) (c + 1, G) (by simp only; omega)) ?_ (by simp)
    simp [go_sem, zaf, hsu]
   ·have hm' : 0 ≤ mk ∧ ms = p.side := by omega
    rw [if_pos hm'] at hAt
    have hkl : mk.toNat < g.kinds.length := by omega
    have hpn := hg.pn _ (zaj hkl)
    have hz := zs5 g p c
    repeat first|refine wV fun _=>?_|simp [go_sem]
    refine zAC (zAG (α := Nat × Nat) (fun a => ⟨[(2, .ref 0 0 9 0 0), (3, .ref 1 0 5 0 0), (5, .sl 2 a.2 6 0 (zkz g p c a.1).length), (6, .v (.int .i64 c)), (7, .ref 3 0 2 0 0), (8, .v (.int .i64 a.1))],
      [(0, .rows true 0 9 [zae g]), (1, .rows true 0 5 [zac p]), (2, .rows true a.2 6 ((zkz g p c a.1).map zaF)), (3, .rows true 0 2 [[.v (.int .i64 mk), .v (.int .i64 ms)]])], 4⟩)
     (fun d a => a.1 + d = (nth g.kinds mk.toNat).progs.length) ?_ (nth g.kinds mk.toNat).progs.length (0, G) ?_) ?_ ?_
    ·rintro d2 ⟨i, G'⟩ i1 hrec2
     simp only at i1
     repeat first|refine wV fun _=>?_|simp [go_sem, hkl]
     refine zAE (fun hi => ?_) (fun hi => ?_) <;> simp at hi
     ·have hR := zpa g hg p hp c i (hCh i hm' hi)
      have hsi := zs4 g p c i
      have hUi := hU' i hm' (by omega)
      have hUj := hU' (i + 1) hm' (by omega)
      rw [hsi, List.length_append] at hUj
      repeat first|refine wV fun _=>?_|simp [go_sem]
      refine zAD hR (by simp [go_sem]) ?_
      repeat first|refine wV fun _=>?_|simp [go_sem]
      refine zAC (hrec2 (d2 - 1) (by omega) (i + 1, G' + 1) (by simp only; omega)) ?_ (by simp)
      simp [go_sem, zaf, hsi]
     ·have hil : i = (nth g.kinds mk.toNat).progs.length := by omega
      subst hil
      have hfin : zkz g p c (nth g.kinds mk.toNat).progs.length = zjC g p (c + 1) := by rw [hsu, hAt]; rfl
      rw [hfin]
      repeat first|refine wV fun _=>?_|simp [go_sem]
      refine zAC (hrec (d - 1) (by omega) (c + 1, G') (by simp only; omega)) ?_ (by simp)
      simp [go_sem, zaf]
    ·simp
    ·simp [go_sem, zaf, hz]
    ·simp
  ·have hcl : c = p.at_.length := by omega
   subst hcl
   have e : zdj g p = zjC g p p.at_.length := rfl
   rw [e]
   repeat first|refine wV fun _=>?_|simp [go_sem]
   exact frX
 ·simp
 ·simp [go_sem, zaf, zs8]
 ·simp
def zth (o : zb8) : List AV := [.agg (zaF o)]
theorem zkY {n j : Nat} (h : j < n) : (List.range n).drop j = j :: (List.range n).drop (j + 1) := by
 rw [List.drop_eq_getElem_cons (by simpa using h)]; simp
theorem zvW (g : zad) (hg : GOk g) (p : zag) (hp : POk g p) : zlQ Tryz.prog 125 [.fp (zac p), .fp (zae g)] 0 ((zdj g p).map zth) := by
 refine zAV (by kernel_rfl) Tryz.func125 rfl rfl (Nat.le_of_ble_eq_true rfl) (by kernel_rfl) (fun l => ?_) (hm2 := by decide)
 have hal := hp.al
 have c9 := hg.c9
 have k6 := hg.k6
 have hgb : ∀ (n : Nat) (L : List zb8), Bel n (za2 l 0 (L.map zth)) := fun n L => by
  simp only [za2, zm2, zir, List.forall_mem_cons, ztM, zbR]
  simp [go_sem, zth]
 obtain ⟨oF, hoF⟩ : ∃ oF : Nat → List zb8, oF = fun j => ((List.range p.at_.length).drop j).flatMap (zcW g p) := ⟨_, rfl⟩
 have ho0 : zdj g p = oF 0 := by rw [hoF]; rfl
 have hos : ∀ j, j < p.at_.length → oF j = zcW g p j ++ oF (j + 1) := fun j hj => by rw [hoF]; simp only; rw [zkY hj, List.flatMap_cons]
 have hon : oF p.at_.length = [] := by rw [hoF]; simp only; rw [List.drop_eq_nil_of_le (by simp)]; rfl
 rw [ho0]
 clear hoF ho0
 repeat first|refine wV fun _=>?_|simp [go_sem, GH]
 refine zAC (zAG (α := Nat) (fun j => ⟨[(0, .fn (.yield l) [] []), (1, .fp (zac p)), (2, .fp (zae g)), (14, zap p.at_), (15, .v (.int .i64 p.at_.length)), (16, .v (.int .i64 j)), (1000000007, za2 l 0 ((oF j).map zth))], [], 0⟩)
  (fun d j => j + d = p.at_.length) ?_ p.at_.length 0 ?_) ?_ ?_
 ·rintro d j j1 hrec
  repeat first|refine wV fun _=>?_|simp [go_sem, GH]
  refine zAE (fun hj => ?_) (fun hj => ?_) <;> simp at hj
  ·have hat := hp.at (i := j) (by omega)
   have hman := zaR hat.1 hat.2 hg.k6
   have hO := zfd (nth p.at_ j)
   have hoj := hos j hj
   have hoa : zcW g p j = if 0 ≤ (zak (nth p.at_ j)).1 ∧ (zak (nth p.at_ j)).2 = p.side then (List.range (nth g.kinds (zak (nth p.at_ j)).1.toNat).progs.length).flatMap fun (i : Nat) => zc5 g p j i else [] := rfl
   have hrp : ∀ i : Nat, i < (nth g.kinds (zak (nth p.at_ j)).1.toNat).progs.length → 0 ≤ (zak (nth p.at_ j)).1 → (zak (nth p.at_ j)).2 = p.side → zb4 g p j i := fun i hi h1 h2 =>
    ⟨by omega, by omega, h1, h2, by omega, by simpa using hi⟩
   have hRun : ∀ i : Nat, i < (nth g.kinds (zak (nth p.at_ j)).1.toNat).progs.length → 0 ≤ (zak (nth p.at_ j)).1 → (zak (nth p.at_ j)).2 = p.side → _ := fun i hi h1 h2 => ztf g hg p hp j i (hrp i hi h1 h2)
   have hrl := fun (i : Nat) hi h1 h2 => zjO hg hp (hrp i hi h1 h2)
   clear hrp
   generalize zak (nth p.at_ j) = m at *
   obtain ⟨mk, ms⟩ := m
   simp only at hoa hRun hman hO hrl
   repeat first|refine wV fun _=>?_|simp [go_sem, hj, GH]
   refine zAD hO (by simp [go_sem]) ?_
   repeat first|refine wV fun _=>?_|simp [go_sem, GH]
   refine zAE (fun hc => ?_) (fun hc => ?_) <;> simp at hc
   ·have hz : zcW g p j = [] := by rw [hoa, if_neg (by omega)]
    rw [hz, List.nil_append] at hoj
    rw [hoj]
    repeat first|refine wV fun _=>?_|simp [go_sem, GH]
    refine zAC (hrec (d - 1) (by omega) (j + 1) (by omega)) ?_ (by simp)
    simp [go_sem, zaf, hgb, GH]
   ·rw [if_pos (by omega)] at hoa
    have hmk : mk.toNat < g.kinds.length := by
     simp only [Prod.mk.injEq] at hman
     omega
    have hn8 := hg.pn _ (zaj hmk)
    obtain ⟨np, hnp⟩ : ∃ np, np = (nth g.kinds mk.toNat).progs.length := ⟨_, rfl⟩
    rw [← hnp] at hoa hRun hn8 hrl
    obtain ⟨pF, hpF⟩ : ∃ pF : Nat → List zb8, pF = fun i => ((List.range np).drop i).flatMap (fun (i : Nat) => zc5 g p j i) ++ oF (j + 1) := ⟨_, rfl⟩
    have hp0 : oF j = pF 0 := by rw [hpF, hoj, hoa]; rfl
    have hps : ∀ i, i < np → pF i = zc5 g p j i ++ pF (i + 1) := fun i hi => by rw [hpF]; simp only; rw [zkY hi, List.flatMap_cons, List.append_assoc]
    have hpn : pF np = oF (j + 1) := by rw [hpF]; simp only; rw [List.drop_eq_nil_of_le (by simp)]; rfl
    rw [hp0]
    clear hpF hp0 hoa hoj
    repeat first|refine wV fun _=>?_|simp [go_sem, GH, hmk, ← hnp]
    refine zAC (zAG (α := Nat) (fun i => ⟨[(0, .fn (.yield l) [] []), (1, .fp (zac p)), (2, .fp (zae g)), (4, .v (.int .i64 j)), (14, zap p.at_), (15, .v (.int .i64 p.at_.length)), (16, .v (.int .i64 j)), (40, .v (.int .i64 np)), (41, .v (.int .i64 i)), (1000000007, za2 l 0 ((pF i).map zth))], [], 0⟩)
     (fun d i => i + d = np) ?_ np 0 ?_) ?_ ?_
    ·rintro d2 i i1 hrec2
     repeat first|refine wV fun _=>?_|simp [go_sem, GH]
     refine zAE (fun hi => ?_) (fun hi => ?_) <;> simp at hi
     ·have hR := hRun i hi (by omega) (by omega)
      have hpi := hps i hi
      obtain ⟨rs, hrs⟩ : ∃ rs, rs = zc5 g p j i := ⟨_, rfl⟩
      have hrl' := hrl i hi (by omega) (by omega)
      rw [← hrs] at hR hpi hrl'
      obtain ⟨rF, hrF⟩ : ∃ rF : Nat → List zb8, rF = fun t => rs.drop t ++ pF (i + 1) := ⟨_, rfl⟩
      have hr0 : pF i = rF 0 := by rw [hrF, hpi]; rfl
      have hrt : ∀ t, t < rs.length → rF t = nth rs t :: rF (t + 1) := fun t ht => by rw [hrF]; simp only; rw [zaQ ht]; rfl
      have hrn : rF rs.length = pF (i + 1) := by rw [hrF]; simp
      rw [hr0]
      clear hrF hr0
      repeat first|refine wV fun _=>?_|simp [go_sem, GH]
      refine zAD hR (by simp [go_sem]) ?_
      repeat first|refine wV fun _=>?_|simp [go_sem, GH]
      refine zAC (zAG (α := Nat) (fun t => ⟨[(0, .fn (.yield l) [] []), (1, .fp (zac p)), (2, .fp (zae g)), (4, .v (.int .i64 j)), (14, zap p.at_), (15, .v (.int .i64 p.at_.length)), (16, .v (.int .i64 j)), (40, .v (.int .i64 np)), (41, .v (.int .i64 i)), (52, zcS rs), (53, .v (.int .i64 rs.length)), (54, .v (.int .i64 t)), (1000000007, za2 l 0 ((rF t).map zth))], [], 0⟩)
       (fun d t => t + d = rs.length) ?_ rs.length 0 ?_) ?_ ?_
      ·rintro d3 t t1 hrec3
       repeat first|refine wV fun _=>?_|simp [go_sem, GH]
       refine zAE (fun ht => ?_) (fun ht => ?_) <;> simp at ht
       ·rw [hrt t ht]
        repeat first|refine wV fun _=>?_|simp [go_sem, GH, ht]
        refine zoP.mk (more := 0) (xs := zth (nth rs t)) (rs := (rF (t + 1)).map zth) _ (by simp [upd, GH]) (.refl _) (.refl _ _ _ _) (by simp [go_sem, zth]) ?_ ?_
        ·repeat first|refine wV fun _=>?_|simp [go_sem, GH]
         refine zAC (hrec3 (d3 - 1) (by omega) (t + 1) (by omega)) ?_ (by simp)
         simp [go_sem, zaf, hgb, GH]
        ·repeat first|refine wV fun _=>?_|simp [go_sem, GH]
       ·have e : t = rs.length := by omega
        subst e
        rw [hrn]
        repeat first|refine wV fun _=>?_|simp [go_sem, GH]
        refine zAC (hrec2 (d2 - 1) (by omega) (i + 1) (by omega)) ?_ (by simp)
        simp [go_sem, zaf, hgb, GH]
      ·omega
      ·simp [go_sem, zaf, hgb, GH]
      ·simp
     ·have e : i = np := by omega
      subst e
      rw [hpn]
      repeat first|refine wV fun _=>?_|simp [go_sem, GH]
      refine zAC (hrec (d - 1) (by omega) (j + 1) (by omega)) ?_ (by simp)
      simp [go_sem, zaf, hgb, GH]
    ·omega
    ·simp [go_sem, zaf, hgb, GH]
    ·simp
  ·have e : j = p.at_.length := by omega
   subst e
   rw [hon]
   repeat first|refine wV fun _=>?_|simp [go_sem, GH]
 ·omega
 ·simp [go_sem, zaf, hgb, GH]
 ·simp
def zvY (n : Nat) : AV := .fn (.func 125) [] [.ref (n + 1) 0 5 0 0, .ref n 0 9 0 0]
def zvX (g : zad) (p : zag) (n : Nat) : List (Nat × zbn) := [(n, .rows true 0 9 [zae g]), (n + 1, .rows true 0 5 [zac p])]
theorem zmL (g : zad) (p : zag) : zgS Tryz.prog 71 [.agg (zae g), .agg (zac p)] zvY (zvX g p) 2 := by
 refine ⟨?_, fun n => ⟨by simp [go_sem, zvY], by simp [go_sem, zvX]⟩⟩
 refine zAJ (by kernel_rfl) Tryz.func71 rfl rfl (Nat.le_of_ble_eq_true rfl) (by kernel_rfl) ?_
 repeat first|refine wV fun _=>?_|simp [go_sem, zvY, zvX]
 simp [go_sem, zaf]
theorem zxI (g : zad) (p : zag) : (zgw g p).2 = decide (0 ≤ zcU g p) := by
 unfold zgw; split <;> simp_all
theorem zuh {α : Type} (f : α → Bool) : ∀ l : List α, l.any f = decide (0 < (l.filter f).length)
 | [] => rfl
 | x :: l => by cases h : f x <;> simp [h, zuh f l]
theorem zkJ (g : zad) (hg : GOk g) (p : zag) (hp : POk g p) : zaP Tryz.prog 20 [.agg (zae g), .agg (zac p)] (zaI (zaC g p)) := by
 refine pF Tryz.func20 ?_
 have hE := zsu g hg p hp
 have hD := zqq g hg p hp
 have hdl := zfy hg hp
 have hdo := fun q hq => ((znK hg hp) q hq).1.fits hg
 have hol := zjD hg hp
 have hoo := fun o ho => ((zre hg hp) o ho).1.fits hg
 have hS : zgS Tryz.prog 71 [.agg (zae g), .agg (zac p)] (fun n => zvY n) (fun n => zvX g p n) 2 := zmL g p
 have hQ := zvW g hg p hp
 simp only [zvY, zvX] at hS
 have e2 := zxI g p
 have hMv : zaC g p = if 0 ≤ zcU g p then [] else zaU za7 (zcV g p) := rfl
 have hML : zcV g p = ((zdj g p).filter fun o => !zfJ g p || o.took).map (·.pos) ++ (if zfJ g p then [] else zcF g p) := rfl
 have hMu : zfJ g p = (g.must && (zdj g p).any (·.took)) := rfl
 rw [e2] at hE
 rw [hMv]
 generalize zcU g p = ep at *
 generalize (zgw g p).1 = ev1 at *
 generalize zdj g p = outs at *
 generalize zcF g p = drops at *
 generalize zfJ g p = must at *
 generalize zcV g p = mvl at *
 clear hMv e2
 repeat first|refine wV fun _=>?_|simp [go_sem]
 refine zAD hE (by simp [go_sem]) ?_
 repeat first|refine wV fun _=>?_|simp [go_sem]
 refine zAE (fun he => ?_) (fun he => ?_) <;> simp at he
 ·rw [if_pos he]
  repeat first|refine wV fun _=>?_|simp [go_sem]
 ·rw [if_neg (by omega)]
  repeat first|refine wV fun _=>?_|simp [go_sem, GH]
  refine zAH hS (by simp [go_sem]) ?_
  repeat first|refine wV fun _=>?_|simp [go_sem, GH]
  refine zdP.mk [.fp (zac p), .fp (zae g)] (zbt _ [4, 5]) hQ (zcw _ _) ?_ (by simp [go_sem]) (by simp [zth]) ?_
  ·refine zan.cons (.frzP rfl ?_ ?_ ?_ ?_) (zan.cons (.frzP rfl ?_ ?_ ?_ ?_) .nil) <;> first | exact zan.refl _ _ _ _ | simp [zbt, zbV, upd]
  obtain ⟨al, hal⟩ : ∃ al : Nat → List zag, al = fun k => (outs.take k).map (·.pos) := ⟨_, rfl⟩
  obtain ⟨tk, htk⟩ : ∃ tk : Nat → List zag, tk = fun k => ((outs.take k).filter (·.took)).map (·.pos) := ⟨_, rfl⟩
  have hall : ∀ k, (al k).length ≤ 7200000000 := fun k => by rw [hal]; simp; omega
  have htkl : ∀ k, (tk k).length ≤ 7200000000 := fun k => by rw [htk]; simp only [List.length_map]; have := List.length_filter_le (·.took) (outs.take k); simp at this; omega
  have hals : ∀ k, k < outs.length → al (k + 1) = al k ++ [(nth outs k).pos] := fun k hk => by rw [hal]; simp only; rw [List.take_add_one, List.getElem?_eq_getElem hk, zau _ _ hk, Option.toList_some, List.map_append]; rfl
  have htks : ∀ k, k < outs.length → tk (k + 1) = if (nth outs k).took = true then tk k ++ [(nth outs k).pos] else tk k := fun k hk => by
   rw [htk]; simp only; rw [List.take_add_one, List.getElem?_eq_getElem hk, zau _ _ hk, Option.toList_some, List.filter_append]
   cases hq : outs[k].took <;> simp [hq]
  have hal0 : al 0 = [] := by rw [hal]; rfl
  have htk0 : tk 0 = [] := by rw [htk]; rfl
  have halE : al outs.length = outs.map (·.pos) := by rw [hal]; simp
  have htkE : tk outs.length = (outs.filter (·.took)).map (·.pos) := by rw [htk]; simp
  clear hal htk
  refine Fgt.to (zAU (α := Nat) (fun k => ([(2, .ref 0 0 9 0 0), (3, .ref 1 0 5 0 0), (7, .ref 2 0 1 0 0), (8, .ref 3 0 1 0 0)], [(0, .rows true 0 9 [zae g]), (1, .rows true 0 5 [zac p]), (2, .rows true 0 1 [[.sl 6 (al k).length 5 0 (al k).length]]), (3, .rows true 0 1 [[.sl 7 (tk k).length 5 0 (tk k).length]]),
    (6, .rows true (al k).length 5 ((al k).map zac)), (7, .rows true (tk k).length 5 ((tk k).map zac))], 8))
   (fun rows k => rows = (outs.drop k).map zth ∧ k ≤ outs.length) ?_ ?_ _ 0 ?_) ?_ ?_
  ·rintro k ⟨i1, i2⟩
   have hk : k = outs.length := by
    have := congrArg List.length i1
    simp at this
    omega
   subst hk
   refine ⟨rfl, ?_⟩
   have hmu : must = (g.must && decide (0 < (tk outs.length).length)) := by
    rw [hMu, htkE, zuh, List.length_map]
   have hft : ∀ q ∈ tk outs.length, zaK q := fun q hq => by
    rw [htkE] at hq
    obtain ⟨o, ho, rfl⟩ := List.mem_map.1 hq
    exact hoo o (List.mem_filter.1 ho).1
   have hfa : ∀ q ∈ al outs.length, zaK q := fun q hq => by
    rw [halE] at hq
    obtain ⟨o, ho, rfl⟩ := List.mem_map.1 hq
    exact hoo o ho
   have hla := hall outs.length
   have hlt := htkl outs.length
   by_cases hm : must = true
   ·rw [hm] at hmu hML
    have hgm : g.must = true := by cases h : g.must <;> simp [h] at hmu ⊢
    have hpos : 0 < (tk outs.length).length := by rw [hgm] at hmu; simpa using hmu
    have hpos' : (0 : Int) < (tk outs.length).length := by omega
    have e : mvl = tk outs.length := by rw [hML, htkE]; simp
    rw [e]
    generalize tk outs.length = tks at *
    have hS1 := zc3 tks (by omega) hft
    repeat first|refine wV fun _=>?_|simp [go_sem, GH, ← hmu]
    refine zAL [7] hS1 ?_ (zqS (zbi _)) ?_
    ·(first|done|exact agX)
    ·repeat first|refine wV fun _=>?_|simp [go_sem, GH]
   ·have e : mvl = al outs.length ++ drops := by
     simp only [Bool.not_eq_true] at hm
     rw [hML, hm, halE, List.filter_eq_self.2 (by simp)]; simp
    rw [e]
    have hS1 := zc3 (al outs.length ++ drops) (by rw [List.length_append]; omega) (fun q hq => by
     rcases List.mem_append.1 hq with h | h
     ·exact hfa q h
     ·exact hdo q h)
    simp only [Bool.not_eq_true] at hm
    rw [hm] at hmu
    generalize al outs.length = als at *
    generalize tk outs.length = tks at *
    generalize zaU za7 (als ++ drops) = res at *
    repeat first|refine wV fun _=>?_|simp [go_sem, GH, ← hmu]
    refine zAF hD (by simp [go_sem]) ?_
    repeat first|refine wV fun _=>?_|simp [go_sem, GH]
    refine zaw.frz [zaI (als ++ drops)] _ [6] [(6, some (.rows false (als.length + 1) 5 ((als ++ drops).map zac)))] hS1 ?_ ?_ (zqS (zbi _)) ?_
    ·intro q hq
     simp only [List.mem_singleton] at hq
     subst hq
     exact ⟨by simp, als.length + 1, 5, _, rfl, by simp [upd]⟩
    ·intro h₁ hS
     have h6 := hS 6 (by simp)
     simp [upd] at h6
     exact .cons (zaB h6.symm (by simp) (by simp [zai, upd]) (by simp; exact List.take_of_length_le (by simp))) .nil
    ·repeat first|refine wV fun _=>?_|simp [go_sem, GH]
  ·rintro xs rs k ⟨i1, i2⟩ hrec
   have hk : k < outs.length := by
    have := congrArg List.length i1
    simp at this
    omega
   rw [zaQ hk, List.map_cons, List.cons.injEq] at i1
   obtain ⟨rfl, rfl⟩ := i1
   have hals := hals k hk
   have htks := htks k hk
   have h1 := hall k
   have h2 := htkl k
   obtain ⟨o, ho⟩ : ∃ o, o = nth outs k := ⟨_, rfl⟩
   rw [← ho] at hals htks ⊢
   obtain ⟨op, ot⟩ := o
   simp only at hals htks
   generalize hrs : (outs.drop (k + 1)).map zth = rs at *
   refine zAY (Nat.zero_le _) ?_
   repeat first|refine wV fun _=>?_|simp [go_sem, GH, zth]
   cases ot
   ·rw [if_neg (by simp)] at htks
    repeat first|refine wV fun _=>?_|simp [go_sem, GH]
    refine Fgt.to (hrec (k + 1) ⟨hrs.symm, by omega⟩) ?_ (by simp)
    simp [go_sem, zaf, GH, hals, htks]
   ·rw [if_pos rfl] at htks
    repeat first|refine wV fun _=>?_|simp [go_sem, GH]
    refine Fgt.to (hrec (k + 1) ⟨hrs.symm, by omega⟩) ?_ (by simp)
    simp [go_sem, zaf, GH, hals, htks]
  ·exact ⟨rfl, Nat.zero_le _⟩
  ·simp [go_sem, zaf, hal0, htk0]
  ·simp
def zjf (p : zag → Bool) (l : List zag) : Int := match l.findIdx? p with | some i => (i : Int) | none => -1
theorem zvn {p : zag → Bool} {l : List zag} {j : Nat} (hj : j < l.length) (h : ∀ i, i < j → p (nth l i) = false) (hp : p (nth l j) = true) : zjf p l = j := by
 have : l.findIdx? p = some j := by
  rw [List.findIdx?_eq_some_iff_getElem]
  refine ⟨hj, by rw [← zau _ _ hj]; exact hp, fun i hi => ?_⟩
  have := h i hi
  rw [zau _ _ (by omega)] at this
  simp [this]
 simp [zjf, this]
theorem zp1 {p : zag → Bool} {l : List zag} (h : ∀ i, i < l.length → p (nth l i) = false) : zjf p l = -1 := by
 have : l.findIdx? p = none := by
  rw [List.findIdx?_eq_none_iff]
  intro x hx
  obtain ⟨i, hi, rfl⟩ := List.getElem_of_mem hx
  have := h i hi
  rw [zau _ _ hi] at this
  exact this
 simp [zjf, this]
theorem zsG {p : zag → Bool} {l : List zag} : decide (0 ≤ zjf p l) = l.any p := by
 unfold zjf
 cases h : l.findIdx? p with
 | none =>
  rw [List.findIdx?_eq_none_iff] at h
  simp
  simpa using h
 | some i =>
  have := List.findIdx?_isSome (xs := l) (p := p)
  rw [h] at this
  simp at this ⊢
  exact this
theorem zis (l : List zag) (hl : l.length ≤ 17179869184) (f : FuncId) (first caps : List AV) (p : zag → Bool) (hp : ∀ x ∈ l, zaP Tryz.prog f (first ++ .agg (zac x) :: caps) (.v (.bool (p x)))) (hb : ∀ c ∈ first, Bel 0 c) (hb' : ∀ c ∈ caps, Bel 0 c) :
  zaP Tryz.prog 146 [zaI l, .fn (.func f) first caps] (.v (.int .i64 (zjf p l))) := by
 refine pF Tryz.func146 ?_
 simp [go_sem]
 refine zAC (zAG (α := Nat) (fun j => ⟨[(0, zaI l), (1, .fn (.func f) first caps), (7, .v (.int .i64 l.length)), (8, .v (.int .i64 j))], [], 0⟩)
  (fun d j => j + d = l.length ∧ (∀ i < j, p (nth l i) = false)) ?_ l.length 0 ?_) ?_ ?_
 ·rintro d j ⟨i1, i2⟩ hrec
  simp [go_sem]
  refine zAE (fun hj => ?_) (fun hj => ?_)
  ·simp at hj
   simp [go_sem]
   refine zAZ hj fun _ => ?_
   simp [go_sem, hj]
   refine zAD (hp _ (zaj hj)) (fun c hc => by
    rcases List.mem_append.1 hc with h | h
    ·exact hb c h
    ·rcases List.mem_cons.1 h with rfl | h
     ·exact of_eq_true (by simp [go_sem])
     ·exact hb' c h) ?_
   simp [go_sem]
   refine zAE (fun h => ?_) (fun h => ?_)
   ·simp [go_sem, zvn hj i2 h]
   ·simp [go_sem]
    refine zAZ (by omega) fun _ => ?_
    simp [go_sem]
    refine zAC (hrec (d - 1) (by omega) (j + 1) ⟨by omega, fun i hi => ?_⟩) ?_ (by simp)
    ·rcases Nat.lt_or_ge i j with h' | h'
     ·exact i2 i h'
     ·obtain rfl : i = j := by omega
      exact h
    ·simp [go_sem, zaf]
     exact ⟨hb, hb'⟩
  ·simp at hj
   simp [go_sem, zp1 fun i hi => i2 i (by omega)]
 ·simp
 ·simp [go_sem, zaf]
  exact ⟨hb, hb'⟩
 ·simp
theorem zgj (l : List zag) (hl : l.length ≤ 17179869184) (f : FuncId) (first caps : List AV) (p : zag → Bool) (hp : ∀ x ∈ l, zaP Tryz.prog f (first ++ .agg (zac x) :: caps) (.v (.bool (p x)))) (hb : ∀ c ∈ first, Bel 0 c) (hb' : ∀ c ∈ caps, Bel 0 c) :
  zaP Tryz.prog 88 [zaI l, .fn (.func f) first caps] (.v (.bool (l.any p))) := by
 refine pF Tryz.func88 ?_
 simp [go_sem]
 refine zAD (zis l hl f first caps p hp hb hb') (by simp [go_sem]; exact ⟨hb, hb'⟩) ?_
 simp [go_sem, zsG]
theorem zqa (m q : zag) (hm : zaK m) (hq : zaK q) : zaP Tryz.prog 89 [.agg (zac m), .fp (zac q)] (.v (.bool (decide (m = q)))) := by
 refine pF Tryz.func89 ?_
 have c1 := zbz m q hm hq
 have e : decide (m = q) = decide (za7 m q = 0) := by rw [decide_eq_decide]; exact (zaM.eq m q).symm
 rw [e]
 generalize za7 m q = x at *
 repeat first|refine wV fun _=>?_|simp [go_sem]
 refine zAD c1 (by simp [go_sem]) ?_
 repeat first|refine wV fun _=>?_|simp [go_sem]
theorem zkH (g : zad) (hg : GOk g) (p : zag) (hp : POk g p) (q : zag) (hq : zaK q) : zaP Tryz.prog 36 [.agg (zae g), .agg (zac p), .agg (zac q)] (.v (.bool (decide (q ∈ zaC g p)))) := by
 refine pF Tryz.func36 ?_
 have hM := zkJ g hg p hp
 have hml := zlr hg hp
 have hmf := fun m hm => ((zdi hg hp) m hm).1.fits hg
 generalize zaC g p = l at *
 have hC := zgj l (by omega) 89 [] [.fp (zac q)] (fun m => decide (m = q)) (fun m hm => zqa m q (hmf m hm) hq) (by simp) (by simp [go_sem])
 have e : l.any (fun m => decide (m = q)) = decide (q ∈ l) := by
  rw [Bool.eq_iff_iff]
  simp
 rw [e] at hC
 repeat first|refine wV fun _=>?_|simp [go_sem]
 refine zAD hM (by simp [go_sem]) ?_
 repeat first|refine wV fun _=>?_|simp [go_sem]
 refine zAL [2] hC ?_ (by simp [go_sem]) ?_
 ·(first|done|exact leX)
 ·repeat first|refine wV fun _=>?_|simp [go_sem]
theorem zmD {α : Type} [DecidableEq α] : ∀ {l r : List α}, l.Nodup → (∀ x ∈ l, x ∈ r) → l.length ≤ r.length
 | [], r, _, _ => by simp
 | x :: l, r, hn, hs => by
  rw [List.nodup_cons] at hn
  have hx := hs x (by simp)
  have := zmD (l := l) (r := r.erase x) hn.2 (fun y hy => by
   have hne : y ≠ x := fun h => hn.1 (h ▸ hy)
   exact (List.mem_erase_of_ne hne).2 (hs y (by simp [hy])))
  rw [List.length_erase_of_mem hx] at this
  have := List.length_pos_of_mem hx
  simp only [List.length_cons]
  omega
theorem znf : ∀ {more l : List StD} {s : StD}, s ∈ zd9 l more ↔ s ∈ l ∨ s ∈ more
 | [], l, s => by simp [zd9]
 | x :: more, l, s => by
  show s ∈ zd9 (if x ∈ l then l else l ++ [x]) more ↔ _
  rw [znf]
  split
  ·rename_i h
   simp only [List.mem_cons]
   exact ⟨fun h => by rcases h with h | h <;> simp [h], fun h' => by rcases h' with h' | rfl | h' <;> simp [*]⟩
  ·simp [or_assoc]
theorem zgW : ∀ {more l : List StD}, l.Nodup → (zd9 l more).Nodup
 | [], l, h => h
 | x :: more, l, h => by
  show (zd9 (if x ∈ l then l else l ++ [x]) more).Nodup
  split
  ·exact zgW h
  ·rename_i hx
   refine zgW (List.nodup_append.2 ⟨h, by simp, ?_⟩)
   intro a ha b hb e
   simp only [List.mem_singleton] at hb
   subst hb; subst e
   exact hx ha
theorem zjx (g : zad) (x : Int × Int) : ∀ (now acc : List StD) (s : StD), s ∈ now.foldl (fun next s => zd9 next (zbG g s x)) acc ↔ s ∈ acc ∨ ∃ r ∈ now, s ∈ zbG g r x
 | [], acc, s => by simp
 | r :: now, acc, s => by
  rw [List.foldl_cons, zjx g x now, znf]
  simp [or_assoc]
theorem zhg {g : zad} {x : Int × Int} {now : List StD} {s : StD} : s ∈ zga g now x ↔ ∃ r ∈ now, s ∈ zbG g r x := by
 unfold zga
 rw [zjx]
 simp
theorem zhM (g : zad) (x : Int × Int) : ∀ (now acc : List StD), acc.Nodup → (now.foldl (fun next s => zd9 next (zbG g s x)) acc).Nodup
 | [], acc, h => h
 | r :: now, acc, h => zhM g x now _ (zgW h)
theorem zqk (g : zad) (now : List StD) (x : Int × Int) : (zga g now x).Nodup := zhM g x now [] (by simp)
theorem zk4 (g : zad) : ∀ (prog : List (Int × Int)) (now : List StD), now.Nodup → (prog.foldl (zga g) now).Nodup
 | [], now, h => h
 | x :: prog, now, _ => zk4 g prog _ (zqk g now x)
def zxx (s : StD) (c : Int) : StD := { s with cursor := c }
def FewS (n : Nat) (l : List StD) : Prop := ∃ B : List StD, B.length ≤ n ∧ ∀ s ∈ l, ∃ t ∈ B, s = zxx t s.cursor
theorem zjS {s : StD} : ∀ {l : List Int}, ∀ t ∈ zbl s l, t = zxx s t.cursor
 | [], t, h => by simp [zbl] at h
 | c :: l, t, h => by
  rw [zbl, List.mem_cons] at h
  rcases h with rfl | h
  ·rfl
  ·split at h
   ·exact zjS t h
   ·simp at h
def zdh (x : Int × Int) : Bool := x.1 == 6 || x.1 == 7
theorem zcq {s t : StD} {b : Bool} (h : t ∈ zcD s b) : t = s := by
 unfold zcD at h
 split at h <;> simp at h
 exact h
theorem ztx (g : zad) (x : Int × Int) (hx : zdh x = false) : ∃ f : StD → StD, ∀ t c, ∀ u ∈ zbG g (zxx t c) x, u = zxx (f t) u.cursor := by
 simp only [zdh, Bool.or_eq_false_iff, beq_eq_false_iff_ne] at hx
 by_cases h8 : x.1 = 8
 ·refine ⟨fun t => { t with kind := x.2 }, fun t c u hu => ?_⟩
  simp [zbG, h8] at hu
  subst hu; rfl
 by_cases h10 : x.1 = 10
 ·refine ⟨fun t => { t with p := { t.p with rights := zbS .i64 t.p.rights (2 ^ x.2.toNat) } }, fun t c u hu => ?_⟩
  simp [zbG, h10] at hu
  subst hu; rfl
 refine ⟨id, fun t c u hu => ?_⟩
 unfold zbG at hu
 simp only [h8, h10, hx.1, hx.2, if_false] at hu
 repeat' split at hu
 ·have := zcq hu; subst this; rfl
 ·have := zjS u hu
  rw [this]; rfl
 ·have := zcq hu; subst this; rfl
 ·have := zcq hu; subst this; rfl
 ·have := zcq hu; subst this; rfl
 ·have := zcq hu; subst this; rfl
 ·simp at hu; subst hu; rfl
theorem zwp (g : zad) (s : StD) (x : Int × Int) (hx : zdh x = true) : (zbG g s x).length ≤ 1 := by
 simp only [zdh, Bool.or_eq_true, beq_iff_eq] at hx
 unfold zbG
 rcases hx with h | h
 ·simp only [h]
  rw [if_neg (by decide), if_neg (by decide), if_neg (by decide), if_neg (by decide), if_neg (by decide), if_pos trivial]
  unfold zkD
  simp only
  split
  ·simp
  ·split
   ·split <;> simp
   ·simp
 ·simp only [h]
  rw [if_neg (by decide), if_neg (by decide), if_neg (by decide), if_neg (by decide), if_neg (by decide), if_neg (by decide), if_pos trivial]
  unfold zkA
  simp only
  split <;> simp
theorem zeC {α β : Type} (f : α → List β) (m : Nat) : ∀ (l : List α), (∀ x ∈ l, (f x).length ≤ m) → (l.flatMap f).length ≤ l.length * m
 | [], _ => by simp
 | x :: l, h => by
  have := zeC f m l (fun y hy => h y (by simp [hy]))
  have := h x (by simp)
  rw [List.flatMap_cons, List.length_append, List.length_cons, Nat.succ_mul]
  omega
theorem zve {g : zad} {now : List StD} {x : Int × Int} {n : Nat} (hc : ∀ s ∈ now, 0 ≤ s.cursor ∧ s.cursor < 9) (h : FewS n now) : FewS (n * (if zdh x then 9 else 1)) (zga g now x) := by
 obtain ⟨B, hB, hs⟩ := h
 by_cases hx : zdh x = true
 ·refine ⟨B.flatMap fun t => (List.range 9).flatMap fun (c : Nat) => zbG g (zxx t c) x, ?_, fun u hu => ?_⟩
  ·have h1 := zeC (fun t : StD => (List.range 9).flatMap fun (c : Nat) => zbG g (zxx t c) x) 9 B (fun t _ => by
    have := zeC (fun (c : Nat) => zbG g (zxx t c) x) 1 (List.range 9) (fun c _ => zwp g _ x hx)
    simpa using this)
   rw [if_pos hx]
   exact Nat.le_trans h1 (Nat.mul_le_mul_right 9 hB)
  ·obtain ⟨r, hr, hu⟩ := zhg.1 hu
   obtain ⟨t, ht, e⟩ := hs r hr
   have := hc r hr
   refine ⟨u, List.mem_flatMap.2 ⟨t, ht, List.mem_flatMap.2 ⟨r.cursor.toNat, by simp; omega, ?_⟩⟩, rfl⟩
   rw [show ((r.cursor.toNat : Nat) : Int) = r.cursor by omega, ← e]
   exact hu
 ·simp only [Bool.not_eq_true] at hx
  obtain ⟨f, hf⟩ := ztx g x hx
  refine ⟨B.map f, by simp [hx]; exact hB, fun u hu => ?_⟩
  obtain ⟨r, hr, hu⟩ := zhg.1 hu
  obtain ⟨t, ht, e⟩ := hs r hr
  rw [e] at hu
  exact ⟨f t, List.mem_map_of_mem ht, hf t _ u hu⟩
theorem zAe {g : zad} (hg : GOk g) {now : List StD} {x : Int × Int} (hx : zea g.next.length g.kinds.length g.rights x) (hn : ∀ s ∈ now, zeS g s) : ∀ s ∈ zga g now x, zeS g s := by
 intro s hs
 obtain ⟨r, hr, hs⟩ := zhg.1 hs
 exact (zgQ hg (hn r hr) hx s hs).1
theorem znV {g : zad} (hg : GOk g) : ∀ (prog : List (Int × Int)) (now : List StD) (n : Nat), (∀ x ∈ prog, zea g.next.length g.kinds.length g.rights x) → (∀ s ∈ now, zeS g s) → FewS n now →
  FewS (n * 9 ^ prog.countP zdh) (prog.foldl (zga g) now)
 | [], now, n, _, _, h => by simpa using h
 | x :: prog, now, n, hp, hn, h => by
  have h9 := hg.c9
  have h1 := zve (g := g) (x := x) (fun s hs => ⟨(hn s hs).c0, by have := (hn s hs).c1; omega⟩) h
  have h2 := znV hg prog _ _ (fun y hy => hp y (by simp [hy])) (zAe hg (hp x (by simp)) hn) h1
  rw [List.foldl_cons, List.countP_cons]
  have e : n * (if zdh x = true then 9 else 1) * 9 ^ prog.countP zdh = n * 9 ^ (prog.countP zdh + if zdh x = true then 1 else 0) := by
   by_cases hx : zdh x = true
   ·rw [if_pos hx, if_pos hx, Nat.pow_succ, Nat.mul_assoc, Nat.mul_comm 9]
   ·rw [if_neg hx, if_neg hx, Nat.mul_one, Nat.add_zero]
  rw [← e]
  exact h2
theorem zxK {l : List StD} {n : Nat} (hn : l.Nodup) (hc : ∀ s ∈ l, 0 ≤ s.cursor ∧ s.cursor < 9) (h : FewS n l) : l.length ≤ n * 9 := by
 obtain ⟨B, hB, hs⟩ := h
 have h1 := zmD (r := B.flatMap fun t => (List.range 9).map fun (c : Nat) => zxx t c) hn (fun s h => by
  obtain ⟨t, ht, e⟩ := hs s h
  have := hc s h
  refine List.mem_flatMap.2 ⟨t, ht, List.mem_map.2 ⟨s.cursor.toNat, by simp; omega, ?_⟩⟩
  rw [show ((s.cursor.toNat : Nat) : Int) = s.cursor by omega, ← e])
 have h2 := zeC (fun t : StD => (List.range 9).map fun (c : Nat) => zxx t c) 9 B (fun t _ => by simp)
 exact Nat.le_trans h1 (Nat.le_trans h2 (Nat.mul_le_mul_right 9 hB))
theorem zpQ (prog : List (Int × Int)) : prog.countP zdh ≤ zaA prog 6 + zaA prog 7 := by
 unfold zaA
 induction prog with
 | nil => simp
 | cons x l ih =>
  simp only [List.countP_cons, zdh]
  by_cases h6 : x.1 = 6
  ·simp [h6]; omega
  ·by_cases h7 : x.1 = 7
   ·simp [h7]; omega
   ·simp [h6, h7]; omega
theorem zvt {g : zad} (hg : GOk g) {p : zag} (hp : POk g p) {cell i : Int} (hc : zb4 g p cell i) : (zd4 g p cell (za0 g p cell i)).length ≤ 6561 := by
 have hpg := zv4 hg hp hc
 have hst := (zjY hg hp hc.c0 hc.c1 hc.man).1
 have h1 := znV hg (za0 g p cell i) [zep p cell] 1 hpg.st (fun s hs => by simp at hs; subst hs; exact hst) ⟨[zep p cell], by simp, fun s hs => ⟨s, hs, rfl⟩⟩
 have h9 := hg.c9
 have h2 := zxK (zk4 g (za0 g p cell i) [zep p cell] (by simp)) (fun s hs => by
  have := ((zik hg hp hc).1 s hs).1
  exact ⟨this.c0, by have := this.c1; omega⟩) h1
 have h3 : (za0 g p cell i).countP zdh ≤ 3 := by
  have := zpQ (za0 g p cell i)
  have := hpg.take
  have := hpg.push
  omega
 have h4 : 9 ^ (za0 g p cell i).countP zdh ≤ 9 ^ 3 := Nat.pow_le_pow_right (by omega) h3
 have h5 : (zd4 g p cell (za0 g p cell i)).length ≤ 1 * 9 ^ (za0 g p cell i).countP zdh * 9 := h2
 omega
theorem ztj {g : zad} (hg : GOk g) {p : zag} (hp : POk g p) {cell i : Int} (hc : zb4 g p cell i) : (zc5 g p cell i).length ≤ 6561 := by
 unfold zc5
 have h1 := zda zhA ((zd4 g p cell (za0 g p cell i)).filterMap (zfQ p.side))
 have h2 : ((zd4 g p cell (za0 g p cell i)).filterMap (zfQ p.side)).length ≤ (zd4 g p cell (za0 g p cell i)).length := List.length_filterMap_le _ _
 have h3 := zvt hg hp hc
 omega
theorem zqm {g : zad} (hg : GOk g) {p : zag} (hp : POk g p) {c : Nat} (hc : c < p.at_.length) : (zcW g p c).length ≤ 52488 := by
 unfold zcW
 split
 ·rename_i hm
  have hal := hp.al
  have hk := zmC hg hp (cell := c) (by omega) (by omega) (by simpa using hm.1)
  have hpn := hg.pn _ (zaj (by simpa using hk))
  have := zbx (fun (i : Nat) => zc5 g p c i) 6561 (nth g.kinds (zak (nth p.at_ c)).1.toNat).progs.length (fun i hi => ztj hg hp (ze5 hp hc hm hi))
  omega
 ·simp
theorem zs6 {g : zad} (hg : GOk g) {p : zag} (hp : POk g p) {k : Nat} (hk : k ≤ p.at_.length) : ((List.range k).flatMap (zcW g p)).length ≤ 472392 := by
 have := zbx (zcW g p) 52488 k (fun c hc => zqm hg hp (by omega))
 have h9 := hg.c9
 have hal := hp.al
 omega
theorem zs9 {g : zad} (hg : GOk g) {p : zag} (hp : POk g p) : (zdj g p).length ≤ 472392 := zs6 hg hp (Nat.le_refl _)
theorem zqg {g : zad} (hg : GOk g) {p : zag} (hp : POk g p) : (zcV g p).length ≤ 472446 := by
 unfold zcV
 have h1 := zs9 hg hp
 have h2 := zfy hg hp
 have h3 : ((zdj g p).filter fun o => !zfJ g p || o.took).length ≤ (zdj g p).length := List.length_filter_le _ _
 rw [List.length_append, List.length_map]
 split <;> simp <;> omega
theorem zju {g : zad} (hg : GOk g) {p : zag} (hp : POk g p) : (zaC g p).length ≤ 472446 := by
 unfold zaC
 split
 ·simp
 ·exact Nat.le_trans (zda za7 _) (zqg hg hp)
abbrev Inc (l : List zag) : Prop := l.Pairwise (fun a b => za7 a b < 0)
theorem Inc.lt {l : List zag} (h : Inc l) {i j : Nat} (hij : i < j) (hj : j < l.length) : za7 (nth l i) (nth l j) < 0 := by
 rw [zau _ _ (by omega), zau _ _ hj]
 exact List.pairwise_iff_getElem.1 h _ _ _ _ hij
theorem Inc.sign {l : List zag} (h : Inc l) {i j : Nat} (hi : i < l.length) (hj : j < l.length) : (za7 (nth l i) (nth l j) = 0 ↔ i = j) ∧ (za7 (nth l i) (nth l j) < 0 ↔ i < j) := by
 have hs := zaM.swap (nth l i) (nth l j)
 rcases Nat.lt_trichotomy i j with h' | h' | h'
 ·have := h.lt h' hj
  exact ⟨⟨by omega, by omega⟩, ⟨by omega, by omega⟩⟩
 ·subst h'
  have := (zaM.eq (nth l i) (nth l i)).2 rfl
  exact ⟨⟨by omega, by omega⟩, ⟨by omega, by omega⟩⟩
 ·have := h.lt h' hi
  exact ⟨⟨by omega, by omega⟩, ⟨by omega, by omega⟩⟩
theorem Inc.inj {l : List zag} (h : Inc l) {i j : Nat} (hi : i < l.length) (hj : j < l.length) (e : nth l i = nth l j) : i = j :=
 (h.sign hi hj).1.1 ((zaM.eq _ _).2 e)
def zq4 (l : List zag) (p : zag) : Int := match l.findIdx? (fun q => decide (q = p)) with | some i => (i : Int) | none => -1
theorem zvi {l : List zag} (h : Inc l) {j : Nat} (hj : j < l.length) : zq4 l (nth l j) = j := by
 have : l.findIdx? (fun q => decide (q = nth l j)) = some j := by
  rw [List.findIdx?_eq_some_iff_getElem]
  refine ⟨hj, by rw [← zau _ _ hj]; simp, fun i hi => ?_⟩
  rw [← zau _ _ (by omega)]
  simp only [decide_eq_true_eq]
  intro e
  have := h.inj (by omega) hj e
  omega
 unfold zq4
 rw [this]
theorem zn3 {l : List zag} {p : zag} (h : p ∉ l) : zq4 l p = -1 := by
 have : l.findIdx? (fun q => decide (q = p)) = none := by
  rw [List.findIdx?_eq_none_iff]
  intro x hx
  simp only [decide_eq_false_iff_not]
  intro e
  exact h (e ▸ hx)
 unfold zq4
 rw [this]
theorem zqe {α : Type} [Inhabited α] {l : List α} {x : α} (h : x ∈ l) : ∃ j, j < l.length ∧ nth l j = x := by
 obtain ⟨j, hj, rfl⟩ := List.getElem_of_mem h
 exact ⟨j, hj, zau _ _ hj⟩
theorem zxM {l : List zag} (h : Inc l) {p : zag} : 0 ≤ zq4 l p ↔ p ∈ l := by
 by_cases hp : p ∈ l
 ·obtain ⟨j, hj, rfl⟩ := zqe hp
  rw [zvi h hj]
  exact ⟨fun _ => hp, fun _ => by omega⟩
 ·rw [zn3 hp]
  exact ⟨fun h => by omega, fun h => absurd h hp⟩
theorem zi9 {l : List zag} {p : zag} {r : Nat} (hc : ∀ i, i < l.length → (za7 p (nth l i) = 0 ↔ r = i) ∧ (za7 p (nth l i) < 0 ↔ r < i)) : ∀ f lo hi, hi ≤ l.length → lo ≤ r → r < hi → hi - lo < f → zgB l p f lo hi = r
 | 0, lo, hi, _, _, _, h => by omega
 | f + 1, lo, hi, h1, h2, h3, h4 => by
  rw [zgB, if_pos (by omega)]
  have hm := hc ((lo + hi) / 2) (by omega)
  split
  ·rename_i hz
   have := hm.1.1 hz
   omega
  ·rename_i hz
   split
   ·rename_i hn
    exact zi9 hc f lo ((lo + hi) / 2) (by omega) h2 (hm.2.1 hn) (by omega)
   ·rename_i hn
    refine zi9 hc f ((lo + hi) / 2 + 1) hi h1 ?_ h3 (by omega)
    have a1 : r ≠ (lo + hi) / 2 := fun h => hz (hm.1.2 h)
    have a2 : ¬ r < (lo + hi) / 2 := fun h => hn (hm.2.2 h)
    omega
theorem zf4 {l : List zag} {p : zag} (h : p ∉ l) : ∀ f lo hi, hi ≤ l.length → zgB l p f lo hi = -1
 | 0, lo, hi, _ => rfl
 | f + 1, lo, hi, h1 => by
  rw [zgB]
  split
  ·rename_i hlt
   have hm : (lo + hi) / 2 < l.length := by omega
   have hne : ¬ za7 p (nth l ((lo + hi) / 2)) = 0 := fun e => h ((zaM.eq _ _).1 e ▸ zaj hm)
   rw [if_neg hne]
   split
   ·exact zf4 h f lo _ (by omega)
   ·exact zf4 h f _ hi h1
  ·rfl
theorem zvf {l : List zag} (h : Inc l) (p : zag) : zxL l p = zq4 l p := by
 unfold zxL
 by_cases hp : p ∈ l
 ·obtain ⟨j, hj, rfl⟩ := zqe hp
  rw [zvi h hj]
  exact zi9 (fun i hi => by
   have := h.sign hj hi
   exact this) _ _ _ (Nat.le_refl _) (Nat.zero_le _) hj (by omega)
 ·rw [zn3 hp, zf4 hp _ _ _ (Nat.le_refl _)]
def zll : List zag → zag → Nat
 | [], _ => 0
 | q :: l, p => if za7 q p < 0 then zll l p + 1 else 0
theorem zvF : ∀ (l : List zag) (p : zag), zll l p ≤ l.length
 | [], p => by simp [zll]
 | q :: l, p => by
  have := zvF l p
  rw [zll, List.length_cons]
  split <;> omega
theorem zqc {p : zag} : ∀ {l : List zag} {h : Nat}, h < zll l p → za7 (nth l h) p < 0
 | [], h, hl => by simp [zll] at hl
 | q :: l, h, hl => by
  rw [zll] at hl
  split at hl
  ·cases h with
   | zero => rw [zbg]; assumption
   | succ h => rw [zfB]; exact zqc (by omega)
  ·omega
theorem zvE {p : zag} : ∀ {l : List zag}, Inc l → ∀ {h : Nat}, zll l p ≤ h → h < l.length → ¬ za7 (nth l h) p < 0
 | [], _, h, _, hl => by simp at hl
 | q :: l, hi, h, hl, hn => by
  have hi := List.pairwise_cons.1 hi
  rw [zll] at hl
  split at hl
  ·cases h with
   | zero => omega
   | succ h => rw [zfB]; exact zvE hi.2 (by omega) (by simpa using hn)
  ·rename_i hq
   cases h with
   | zero => rw [zbg]; exact hq
   | succ h =>
    rw [zfB]
    intro hr
    have hm : nth l h ∈ l := zaj (by simpa using hn)
    have h1 := hi.1 _ hm
    have h2 := zaM.tr q (nth l h) p (by omega) (by omega)
    have e := (zaM.eq q p).1 (by omega)
    subst e
    have := zaM.swap q (nth l h)
    omega
theorem zrb {l : List zag} (hi : Inc l) (p : zag) {h : Nat} (hn : h < l.length) : za7 (nth l h) p < 0 ↔ h < zll l p := by
 constructor
 ·intro hc
  rcases Nat.lt_or_ge h (zll l p) with h' | h'
  ·exact h'
  ·exact absurd hc (zvE hi h' hn)
 ·exact zqc
theorem zx3 {l : List zag} (hi : Inc l) (p : zag) : p ∈ l ↔ zll l p < l.length ∧ nth l (zll l p) = p := by
 constructor
 ·intro hp
  obtain ⟨j, hj, rfl⟩ := zqe hp
  have h0 := (zaM.eq (nth l j) (nth l j)).2 rfl
  have h1 : ¬ j < zll l (nth l j) := fun h => by
   have := zqc h
   omega
  rcases Nat.lt_or_ge (zll l (nth l j)) j with h' | h'
  ·have h2 := hi.lt h' hj
   have h3 := (zrb hi (nth l j) (by omega)).1 h2
   omega
  ·have e : zll l (nth l j) = j := by omega
   rw [e]
   exact ⟨hj, rfl⟩
 ·rintro ⟨h1, h2⟩
  rw [← h2]
  exact zaj h1
theorem zsW {g : zad} {p q : zag} : q ∈ zaC g p ↔ zcU g p < 0 ∧ ((∃ o ∈ zdj g p, (zfJ g p = true → o.took = true) ∧ o.pos = q) ∨ (zfJ g p = false ∧ q ∈ zcF g p)) := by
 unfold zaC
 split
 ·rename_i h
  simp only [List.not_mem_nil, false_iff, not_and]
  intro h'
  omega
 ·rename_i h
  rw [zaS]
  unfold zcV
  rw [List.mem_append, List.mem_map]
  constructor
  ·rintro (⟨o, ho, rfl⟩ | hq)
   ·obtain ⟨h1, h2⟩ := List.mem_filter.1 ho
    refine ⟨by omega, .inl ⟨o, h1, fun hm => ?_, rfl⟩⟩
    rw [hm] at h2
    simpa using h2
   ·split at hq
    ·simp at hq
    ·rename_i hm
     exact ⟨by omega, .inr ⟨by simpa using hm, hq⟩⟩
  ·rintro ⟨_, ⟨o, h1, h2, rfl⟩ | ⟨hm, hq⟩⟩
   ·refine .inl ⟨o, List.mem_filter.2 ⟨h1, ?_⟩, rfl⟩
    cases hm : zfJ g p
    ·rfl
    ·simpa using h2 hm
   ·refine .inr ?_
    rw [hm]
    exact hq
def zmY (known nx : List zag) (q : zag) : List zag := if q ∈ known ++ nx then nx else nx ++ [q]
def zbw (g : zad) (known now : List zag) : List zag := (now.flatMap (zaC g)).foldl (zmY known) []
def za9 (g : zad) (b : Int) : Nat → List zag → List zag → List (List zag × Bool)
 | 0, _, _ => []
 | f + 1, known, now => if b < known.length then [(now, false)] else if zbw g known now = [] then [(now, true)] else (now, false) :: za9 g b f (known ++ zbw g known now) (zaU za7 (zbw g known now))
def zmf (n : Int) : Int := if n < 0 then 0 else if 4000 < n then 4000 else n
def zba (g : zad) (p : zag) (n : Int) : List (List zag × Bool) := za9 g (zmf n) ((zmf n).toNat + 2) [p] [p]
theorem zgZ (n : Int) : 0 ≤ zmf n ∧ zmf n ≤ 4000 := by
 unfold zmf
 split <;> (try split) <;> omega
theorem zdp (known : List zag) : ∀ (l nx : List zag) (q : zag), q ∈ l.foldl (zmY known) nx ↔ q ∈ nx ∨ q ∈ l ∧ q ∉ known
 | [], nx, q => by simp
 | r :: l, nx, q => by
  rw [List.foldl_cons, zdp known l]
  unfold zmY
  by_cases hr : r ∈ known ++ nx
  ·rw [if_pos hr]
   rw [List.mem_append] at hr
   constructor
   ·rintro (h | ⟨h1, h2⟩)
    ·exact .inl h
    ·exact .inr ⟨List.mem_cons_of_mem _ h1, h2⟩
   ·rintro (h | ⟨h1, h2⟩)
    ·exact .inl h
    ·rcases List.mem_cons.1 h1 with rfl | h1
     ·rcases hr with hr | hr
      ·exact absurd hr h2
      ·exact .inl hr
     ·exact .inr ⟨h1, h2⟩
  ·rw [if_neg hr]
   rw [List.mem_append, not_or] at hr
   constructor
   ·rintro (h | ⟨h1, h2⟩)
    ·rcases List.mem_append.1 h with h | h
     ·exact .inl h
     ·simp only [List.mem_singleton] at h
      subst h
      exact .inr ⟨by simp, hr.1⟩
    ·exact .inr ⟨List.mem_cons_of_mem _ h1, h2⟩
   ·rintro (h | ⟨h1, h2⟩)
    ·exact .inl (List.mem_append.2 (.inl h))
    ·rcases List.mem_cons.1 h1 with rfl | h1
     ·exact .inl (by simp)
     ·exact .inr ⟨h1, h2⟩
theorem ze3 (known : List zag) : ∀ (l nx : List zag), nx.Nodup → (l.foldl (zmY known) nx).Nodup
 | [], nx, h => h
 | r :: l, nx, h => by
  rw [List.foldl_cons]
  refine ze3 known l _ ?_
  unfold zmY
  split
  ·exact h
  ·rename_i hr
   rw [List.mem_append, not_or] at hr
   refine List.nodup_append.2 ⟨h, by simp, ?_⟩
   intro a ha b hb e
   simp only [List.mem_singleton] at hb
   subst hb; subst e
   exact hr.2 ha
theorem zdo (known : List zag) : ∀ (l nx : List zag), (l.foldl (zmY known) nx).length ≤ nx.length + l.length
 | [], nx => by simp
 | r :: l, nx => by
  rw [List.foldl_cons]
  have := zdo known l (zmY known nx r)
  have h2 : (zmY known nx r).length ≤ nx.length + 1 := by unfold zmY; split <;> simp
  simp only [List.length_cons]
  omega
theorem zjw {g : zad} {known now : List zag} {q : zag} : q ∈ zbw g known now ↔ (∃ r ∈ now, q ∈ zaC g r) ∧ q ∉ known := by
 unfold zbw
 rw [zdp, List.mem_flatMap]
 simp
theorem zf9 (g : zad) (known now : List zag) : (zbw g known now).Nodup := ze3 known _ [] (by simp)
theorem zp5 {g : zad} {known now : List zag} (h : known.Nodup) : (known ++ zbw g known now).Nodup :=
 List.nodup_append.2 ⟨h, zf9 g known now, fun a ha b hb e => (zjw.1 hb).2 (e ▸ ha)⟩
theorem zmJ {g : zad} (hg : GOk g) {known now : List zag} (hn : ∀ p ∈ now, POk g p) : ∀ q ∈ zbw g known now, POk g q := fun q hq => by
 obtain ⟨⟨r, hr, hm⟩, _⟩ := zjw.1 hq
 exact (zdi hg (hn r hr) q hm).1
theorem zcf {g : zad} (hg : GOk g) : ∀ {now : List zag}, (∀ p ∈ now, POk g p) → (now.flatMap (zaC g)).length ≤ now.length * 472446
 | [], _ => by simp
 | p :: now, h => by
  have h1 := zcf hg (now := now) fun q hq => h q (by simp [hq])
  have h2 := zju hg (h p (by simp))
  rw [List.flatMap_cons, List.length_append, List.length_cons, Nat.succ_mul]
  omega
theorem zjv {g : zad} (hg : GOk g) {known now : List zag} (hn : ∀ p ∈ now, POk g p) : (zbw g known now).length ≤ now.length * 472446 := by
 have h1 := zdo known (now.flatMap (zaC g)) []
 have h2 := zcf hg hn
 unfold zbw
 simp only [List.length_nil] at h1
 omega
theorem zdM {l : List zag} (h : l.Nodup) : (zaU za7 l).length = l.length := by
 refine Nat.le_antisymm (zda _ _) (zmD h fun x hx => zaS.2 hx)
structure zbs (g : zad) (known now : List zag) : Prop where
 nd : known.Nodup
 sub : ∀ q ∈ now, q ∈ known
 inc : Inc now
 ok : ∀ q ∈ known, POk g q
theorem zAW {g : zad} {p : zag} (hp : POk g p) : zbs g [p] [p] :=
 ⟨by simp, fun q hq => hq, by simp [Inc], fun q hq => by simp only [List.mem_singleton] at hq; subst hq; exact hp⟩
theorem zbs.next {g : zad} (hg : GOk g) {known now : List zag} (h : zbs g known now) : zbs g (known ++ zbw g known now) (zaU za7 (zbw g known now)) :=
 ⟨zp5 h.nd, fun q hq => List.mem_append.2 (.inr (zaS.1 hq)), zdY zaM _, fun q hq => by
  rcases List.mem_append.1 hq with hq | hq
  ·exact h.ok q hq
  ·exact zmJ hg (fun r hr => h.ok r (h.sub r hr)) q hq⟩
theorem zbs.now_len {g : zad} {known now : List zag} (h : zbs g known now) : now.length ≤ known.length := zmD (by
  refine List.Pairwise.imp ?_ h.inc
  intro a b hab e
  have := (zaM.eq a b).2 e
  omega) h.sub
theorem zbs.now_ok {g : zad} {known now : List zag} (h : zbs g known now) : ∀ q ∈ now, POk g q := fun q hq => h.ok q (h.sub q hq)
def zdF : List (List zag × Bool) → Bool
 | [] => false
 | [x] => x.2
 | _ :: l => zdF l
theorem zn8 : ∀ {L : List (List zag × Bool)}, L ≠ [] → zdF L = (nth L (L.length - 1)).2
 | [], h => absurd rfl h
 | [x], _ => rfl
 | x :: y :: l, _ => by
  have := zn8 (L := y :: l) (by simp)
  rw [zdF, this]
  ·simp only [List.length_cons, Nat.add_sub_cancel]
   rw [zfB]
  ·simp
theorem zsP (g : zad) (b : Int) (f : Nat) (known now : List zag) : za9 g b (f + 1) known now ≠ [] := by
 rw [za9]
 split
 ·simp
 ·split <;> simp
theorem zlg {g : zad} (hg : GOk g) (b : Int) : ∀ (f : Nat) {known now : List zag}, zbs g known now → ∀ x ∈ za9 g b f known now, Inc x.1 ∧ ∀ q ∈ x.1, POk g q
 | 0, known, now, h, x, hx => by simp [za9] at hx
 | f + 1, known, now, h, x, hx => by
  rw [za9] at hx
  split at hx
  ·simp only [List.mem_singleton] at hx
   subst hx
   exact ⟨h.inc, h.now_ok⟩
  ·split at hx
   ·simp only [List.mem_singleton] at hx
    subst hx
    exact ⟨h.inc, h.now_ok⟩
   ·rcases List.mem_cons.1 hx with rfl | hx
    ·exact ⟨h.inc, h.now_ok⟩
    ·exact zlg hg b f (h.next hg) x hx
def zex (L : List (List zag × Bool)) : List zag := L.flatMap (·.1)
theorem zjl {g : zad} (hg : GOk g) {b : Int} (hb : b ≤ 4000) : ∀ (f : Nat) {known now : List zag}, zbs g known now →
  (zex (za9 g b f known now)).length ≤ now.length + (if known.length ≤ b.toNat then 1889784000 + (b.toNat - known.length) else 0)
 | 0, known, now, h => by simp [za9, zex]
 | f + 1, known, now, h => by
  rw [za9]
  split
  ·simp [zex]
  ·rename_i hk
   split
   ·simp [zex]
   ·have ih := zjl hg hb f (h.next hg)
    have e : zex ((now, false) :: za9 g b f (known ++ zbw g known now) (zaU za7 (zbw g known now))) = now ++ zex (za9 g b f (known ++ zbw g known now) (zaU za7 (zbw g known now))) := rfl
    rw [e, List.length_append]
    have hs := zdM (zf9 g known now)
    have hl : (known ++ zbw g known now).length = known.length + (zbw g known now).length := List.length_append
    have hn := zjv hg (known := known) h.now_ok
    have hnl := h.now_len
    have h4 : now.length * 472446 ≤ 1889784000 := by omega
    rw [hs, hl] at ih
    rw [if_pos (by omega)]
    split at ih <;> omega
theorem zjP {g : zad} (hg : GOk g) {p : zag} (hp : POk g p) (n : Int) : (zex (zba g p n)).length ≤ 1889788001 := by
 have hb := zgZ n
 have := zjl hg hb.2 ((zmf n).toNat + 2) (zAW hp)
 unfold zba
 generalize za9 g (zmf n) ((zmf n).toNat + 2) [p] [p] = L at *
 simp only [List.length_singleton] at this
 split at this <;> omega
theorem ztn {g : zad} (hg : GOk g) {p : zag} (hp : POk g p) (n : Int) : ∀ x ∈ zba g p n, Inc x.1 ∧ ∀ q ∈ x.1, POk g q := zlg hg _ _ (zAW hp)
theorem ztm (g : zad) (p : zag) (n : Int) : zba g p n ≠ [] := zsP g _ _ _ _
theorem zl5 {g : zad} (hg : GOk g) {p : zag} (hp : POk g p) (n : Int) : ∀ q ∈ zex (zba g p n), POk g q := fun q hq => by
 obtain ⟨x, hx, hq⟩ := List.mem_flatMap.1 hq
 exact (ztn hg hp n x hx).2 q hq
def zcs (g : zad) (p : zag) (n : Int) : List zag := zaU za7 (zex (zba g p n))
theorem zm1 (l : List zag) (hi : Inc l) (hl : l.length ≤ 17179869184) (hf : ∀ q ∈ l, zaK q) (p : zag) (hp : zaK p) :
  zaP Tryz.prog 93 [zaI l, .agg (zac p), .fn (.func 37) [] []] (.tup [.v (.int .i64 (zll l p)), .v (.bool (decide (p ∈ l)))]) := by
 refine pF Tryz.func93 ?_
 have hle := zvF l p
 have hmem := zx3 hi p
 have hiff := fun h hn => zrb hi p (h := h) hn
 generalize zll l p = w at *
 repeat first|refine wV fun _=>?_|simp [go_sem]
 refine zAC (zAG (α := Nat × Nat) (fun a => ⟨[(0, zaI l), (2, .fn (.func 37) [] []), (4, .ref 0 0 5 0 0), (8, .v (.int .i64 l.length)), (9, .v (.int .i64 a.1)), (10, .v (.int .i64 a.2))], [(0, .rows true 0 5 [zac p])], 1⟩)
  (fun d a => a.2 - a.1 ≤ d ∧ a.1 ≤ w ∧ w ≤ a.2 ∧ a.2 ≤ l.length) ?_ l.length (0, l.length) ?_) ?_ ?_
 ·rintro d ⟨i, j⟩ ⟨i1, i2, i3, i4⟩ hrec
  simp only at i1 i2 i3 i4
  have hdiv : ((i : Int) + j).fdiv 2 = ((i + j) / 2 : Nat) := by rw [Int.fdiv_eq_ediv_of_nonneg _ (by omega)]; omega
  repeat first|refine wV fun _=>?_|simp [go_sem]
  refine zAE (fun hlt => ?_) (fun hlt => ?_) <;> simp at hlt
  ·have hm : (i + j) / 2 < l.length := by omega
   have hm2 : i ≤ (i + j) / 2 ∧ (i + j) / 2 < j := by omega
   generalize hmid : (i + j) / 2 = mid at *
   repeat first|refine wV fun _=>?_|simp [go_sem, hdiv, hm]
   refine zAF (zbz (nth l mid) p (hf _ (zaj hm)) hp) (by simp [go_sem]) ?_
   have hi2 := hiff mid hm
   generalize za7 (nth l mid) p = c at *
   repeat first|refine wV fun _=>?_|simp [go_sem]
   refine zAE (fun hc => ?_) (fun hc => ?_) <;> simp at hc
   ·have := hi2.1 hc
    repeat first|refine wV fun _=>?_|simp [go_sem]
    refine zAC (hrec (d - 1) (by omega) (mid + 1, j) ⟨by simp only; omega, by simp only; omega, by simp only; omega, by simp only; omega⟩) ?_ (by simp)
    simp [go_sem, zaf]
   ·have : ¬ mid < w := fun h => by have := hi2.2 h; omega
    repeat first|refine wV fun _=>?_|simp [go_sem]
    refine zAC (hrec (d - 1) (by omega) (i, mid) ⟨by simp only; omega, by simp only; omega, by simp only; omega, by simp only; omega⟩) ?_ (by simp)
    simp [go_sem, zaf]
  ·obtain rfl : i = w := by omega
   by_cases hw : i < l.length
   ·have hC := zbz (nth l i) p (hf _ (zaj hw)) hp
    have e : decide (p ∈ l) = decide (za7 (nth l i) p = 0) := by
     rw [decide_eq_decide, hmem, zaM.eq]
     exact ⟨fun h => h.2, fun h => ⟨hw, h⟩⟩
    rw [e]
    generalize za7 (nth l i) p = c at *
    repeat first|refine wV fun _=>?_|simp [go_sem, hw]
    refine zAO _ (fun _ => hC) (by simp [go_sem]) ?_
    repeat first|refine wV fun _=>?_|simp [go_sem, hw]
   ·have e : decide (p ∈ l) = false := decide_eq_false fun h => hw (hmem.1 h).1
    rw [e]
    repeat first|refine wV fun _=>?_|simp [go_sem, hw]
    refine dGC.skip (.v (.int .i64 0)) ?_
    repeat first|refine wV fun _=>?_|simp [go_sem, hw]
 ·exact ⟨by simp, by simp, hle, by simp⟩
 ·simp [go_sem, zaf]
 ·simp
theorem zte (l : List zag) (hi : Inc l) (hl : l.length ≤ 17179869184) (hf : ∀ q ∈ l, zaK q) (p : zag) (hp : zaK p) :
  zaP Tryz.prog 57 [zaI l, .agg (zac p)] (.v (.int .i64 (zq4 l p))) := by
 rw [← zvf hi]
 exact ztP l p (by omega) hf hp
theorem zji (p : zag) : (zf6 p).data.toList = (zmZ p).map fun n => UInt8.ofNat n.toNat := by
 unfold zf6
 simp [zfo]
theorem zq9 {g : zad} (hg : GOk g) {a b : zag} (ha : POk g a) (hb : POk g b) (h : zf6 a = zf6 b) : a = b := by
 have h2 : zmZ a = zmZ b := zhe (ziG hg ha) (ziG hg hb) (by rw [← zji, ← zji, h])
 have a1 := ha.al
 have b1 := hb.al
 have a2 := ha.h0.len
 have b2 := hb.h0.len
 have a3 := ha.h1.len
 have b3 := hb.h1.len
 obtain ⟨pat, ph0, ph1, pr, ps⟩ := a
 obtain ⟨qat, qh0, qh1, qr, qs⟩ := b
 simp only [zmZ, List.append_assoc] at h2 a1 b1 a2 b2 a3 b3
 obtain ⟨e3, h3⟩ := List.append_inj h2 (by omega)
 obtain ⟨e4, h4⟩ := List.append_inj h3 (by omega)
 obtain ⟨e5, h5⟩ := List.append_inj h4 (by omega)
 simp only [List.cons.injEq, and_true] at h5
 rw [e3, e4, e5, h5.1, h5.2]
def zgF (q : zag) : List AV := [.v (.string (zf6 q)), .v (.bool true)]
theorem zuD {n : Nat} {l : List zag} : (∀ r ∈ l.map zgF, ∀ c ∈ r, Bel n c) = True := by
 refine eq_true ?_
 intro r hr c hc
 obtain ⟨x, _, rfl⟩ := List.mem_map.1 hr
 simp only [zgF, List.mem_cons, List.not_mem_nil, or_false] at hc
 rcases hc with rfl | rfl <;> exact .v _
attribute [go_sem ↓] zuD
theorem zk2 (t : zag) : ∀ (next : List zag), (∀ s ∈ next, zf6 t = zf6 s → t = s) → zc2 .string (.v (.string (zf6 t))) (next.map zgF) = some (if t ∈ next then some (.v (.bool true)) else none)
 | [], _ => by simp [zc2]
 | s :: next, h => by
  rw [List.map_cons, zc2]
  have e : zmB .string (.v (.string (zf6 t))) (cel (zgF s) 0) = some (zf6 t == zf6 s) := rfl
  rw [e, zgs]
  by_cases hk : zf6 t = zf6 s
  ·have := h s (by simp) hk
   subst this
   simp [zgF, cel]
  ·have hne : t ≠ s := fun e => hk (by rw [e])
   rw [decide_eq_false hk]
   simp only
   rw [zk2 t next (fun u hu => h u (by simp [hu]))]
   simp [hne]
theorem zoA (t : zag) : ∀ (next : List zag), (∀ s ∈ next, zf6 t = zf6 s → t = s) → t ∉ next → zej .string (.v (.string (zf6 t))) (.v (.bool true)) (next.map zgF) = some ((next ++ [t]).map zgF)
 | [], _, _ => by simp [zej, zgF]
 | s :: next, h, hn => by
  rw [List.map_cons, zej]
  have e : zmB .string (.v (.string (zf6 t))) (cel (zgF s) 0) = some (zf6 t == zf6 s) := rfl
  rw [e, zgs]
  have hk : zf6 t ≠ zf6 s := fun e => hn (by rw [h s (by simp) e]; simp)
  rw [decide_eq_false hk]
  simp only
  rw [zoA t next (fun u hu => h u (by simp [hu])) (fun hm => hn (by simp [hm]))]
  simp
def zoC (x : List zag × Bool) : List AV := [zaI x.1, .v (.bool x.2)]
theorem zxl {n : Nat} {L : List (List zag × Bool)} : (∀ r ∈ L.map zoC, ∀ c ∈ r, Bel n c) = True := by
 refine eq_true ?_
 intro r hr c hc
 obtain ⟨x, _, rfl⟩ := List.mem_map.1 hr
 simp only [zoC, List.mem_cons, List.not_mem_nil, or_false] at hc
 rcases hc with rfl | rfl
 ·exact of_eq_true zuy
 ·exact .v _
attribute [go_sem ↓] zxl
def nxI (g : zad) (known now : List zag) (i : Nat) : List zag := ((now.take i).flatMap (zaC g)).foldl (zmY known) []
theorem zx9 (g : zad) (known now : List zag) {i : Nat} (hi : i < now.length) : nxI g known now (i + 1) = (zaC g (nth now i)).foldl (zmY known) (nxI g known now i) := by
 unfold nxI
 rw [List.take_add_one, List.getElem?_eq_getElem hi, zau _ _ hi, Option.toList_some, List.flatMap_append, List.foldl_append]
 simp
theorem zAg (g : zad) (known now : List zag) : nxI g known now now.length = zbw g known now := by
 unfold nxI zbw
 rw [List.take_length]
theorem zsD (known nx : List zag) (l : List zag) {j : Nat} (hj : j < l.length) : (l.take (j + 1)).foldl (zmY known) nx = zmY known ((l.take j).foldl (zmY known) nx) (nth l j) := by
 rw [List.take_add_one, List.getElem?_eq_getElem hj, zau _ _ hj, Option.toList_some, List.foldl_append]
 rfl
theorem zof {g : zad} (hg : GOk g) {p : zag} (hp : POk g p) : zaP Tryz.prog 107 [.agg (zac p)] (.v (.string (zf6 p))) := by
 have := hp.al
 have := hg.c9
 have := hg.k6
 have := hp.h0.len
 have := hp.h1.len
 exact zqJ p (by omega) (by omega) (by omega) (ziG hg hp)
theorem zp6 (g : zad) (hg : GOk g) (p : zag) (hp : POk g p) (b : Int) (hb : 0 ≤ b ∧ b ≤ 4000) :
  zlQ Tryz.prog 153 [.fp (zac p), .fp [.v (.int .i64 b)], .fp (zae g)] 0 ((za9 g b (b.toNat + 2) [p] [p]).map zoC) := by
 refine zAV (by kernel_rfl) Tryz.func153 rfl rfl (Nat.le_of_ble_eq_true rfl) (by kernel_rfl) (fun l => ?_) (hm2 := by decide)
 have hgb : ∀ (n : Nat) (L : List (List zag × Bool)), Bel n (za2 l 0 (L.map zoC)) := fun n L => by
  simp only [za2, zm2, zir, List.forall_mem_cons, ztM, zbR]
  simp [go_sem]
 have hK0 := zof hg hp
 repeat first|refine wV fun _=>?_|simp [go_sem, GH]
 refine zAF hK0 (by simp [go_sem]) ?_
 repeat first|refine wV fun _=>?_|simp [go_sem, GH, zej]
 refine zAC (zAG (α := List zag × List zag × List (List zag × Bool)) (fun a => ⟨[(0, .fn (.yield l) [] []), (2, .fp [.v (.int .i64 b)]), (3, .fp (zae g)), (5, .mp 0), (6, zaI a.2.1), (1000000007, za2 l 0 (a.2.2.map zoC))], [(0, .rows true 0 2 (a.1.map zgF))], 1⟩)
  (fun d a => zbs g a.1 a.2.1 ∧ 1 ≤ d ∧ b.toNat + 2 ≤ a.1.length + d ∧ a.1.length ≤ 4000 + 4000 * 472446 ∧ a.2.2 = za9 g b d a.1 a.2.1) ?_ (b.toNat + 2) ([p], [p], za9 g b (b.toNat + 2) [p] [p]) ?_) ?_ ?_
 ·rintro d ⟨known, now, L⟩ ⟨i1, i2, i3, i4, i5⟩ hrec
  simp only at i1 i2 i3 i4 i5
  obtain ⟨d, rfl⟩ : ∃ d', d = d' + 1 := ⟨d - 1, by omega⟩
  rw [za9] at i5
  repeat first|refine wV fun _=>?_|simp [go_sem, GH]
  refine zAE (fun hk => ?_) (fun hk => ?_) <;> simp at hk
  ·rw [if_pos hk] at i5
   subst i5
   repeat first|refine wV fun _=>?_|simp [go_sem, GH]
   refine zoP.mk (more := 0) (xs := zoC (now, false)) (rs := []) _ (by simp [upd, GH]) (.refl _) (.refl _ _ _ _) (by simp [go_sem, zoC]) ?_ ?_
   ·repeat first|refine wV fun _=>?_|simp [go_sem, GH]
   ·repeat first|refine wV fun _=>?_|simp [go_sem, GH]
  ·rw [if_neg (by omega)] at i5
   have hn2 := i1.next hg
   have hnl := i1.now_len
   have hok := i1.now_ok
   have hnx := zjv hg (known := known) hok
   have hnb : now.length * 472446 ≤ 4000 * 472446 := Nat.mul_le_mul_right _ (by omega)
   have hnd : (known ++ zbw g known now).length = known.length + (zbw g known now).length := List.length_append
   obtain ⟨A, hA⟩ : ∃ A : Nat → List zag, ∀ i, A i = nxI g known now i := ⟨_, fun _ => rfl⟩
   have hAl : ∀ i, (A i).length ≤ 4000 * 472446 := fun i => by
    rw [hA]
    have h1 := zdo known ((now.take i).flatMap (zaC g)) []
    have h2 := zcf hg (now := now.take i) (fun q hq => hok q (List.mem_of_mem_take hq))
    have h3 : (now.take i).length * 472446 ≤ 4000 * 472446 := Nat.mul_le_mul_right _ (by simp; omega)
    unfold nxI
    simp only [List.length_nil] at h1
    omega
   have hAo : ∀ i, ∀ q ∈ A i, POk g q := fun i q hq => by
    rw [hA] at hq
    unfold nxI at hq
    rw [zdp, List.mem_flatMap] at hq
    rcases hq with h | ⟨⟨r, hr, hm⟩, _⟩
    ·simp at h
    ·exact (zdi hg (hok r (List.mem_of_mem_take hr)) q hm).1
   have hA0 : A 0 = [] := by rw [hA]; rfl
   have hAs : ∀ i, i < now.length → A (i + 1) = (zaC g (nth now i)).foldl (zmY known) (A i) := fun i hi => by rw [hA, hA, zx9 g known now hi]
   have hAn : A now.length = zbw g known now := by rw [hA, zAg]
   repeat first|refine wV fun _=>?_|simp [go_sem, GH]
   refine zAC (zAG (α := Nat) (fun i => ⟨[(0, .fn (.yield l) [] []), (2, .fp [.v (.int .i64 b)]), (3, .fp (zae g)), (5, .mp 0), (6, zaI now), (7, .sl 1 (A i).length 5 0 (A i).length), (26, zaI now), (27, .v (.int .i64 now.length)), (28, .v (.int .i64 i)), (1000000007, za2 l 0 (L.map zoC))], [(0, .rows true 0 2 ((known ++ A i).map zgF)), (1, .rows true (A i).length 5 ((A i).map zac))], 2⟩)
    (fun d i => i + d = now.length) ?_ now.length 0 ?_) ?_ ?_
   ·rintro d2 i i1' hrec2
    repeat first|refine wV fun _=>?_|simp [go_sem, GH]
    refine zAE (fun hi => ?_) (fun hi => ?_) <;> simp at hi
    ·have hp0 := hok _ (zaj hi)
     have hM := zkJ g hg _ hp0
     have hml := zju hg hp0
     have hmo := fun m hm => (zdi hg hp0 m hm).1
     have hAs := hAs i hi
     repeat first|refine wV fun _=>?_|simp [go_sem, GH, hi]
     refine zAD hM (by simp [go_sem]) ?_
     repeat first|refine wV fun _=>?_|simp [go_sem, GH, hi]
     generalize hmv : zaC g (nth now i) = mv at *
     have hAi := hAo i
     have hAil := hAl i
     generalize A i = a0 at *
     obtain ⟨C, hC⟩ : ∃ C : Nat → List zag, ∀ j, C j = (mv.take j).foldl (zmY known) a0 := ⟨_, fun _ => rfl⟩
     have hC0 : C 0 = a0 := by rw [hC]; rfl
     have hCs : ∀ j, j < mv.length → C (j + 1) = zmY known (C j) (nth mv j) := fun j hj => by rw [hC, hC, zsD known a0 mv hj]
     have hCn : C mv.length = A (i + 1) := by rw [hC, List.take_length, hAs]
     have hCl : ∀ j, (C j).length ≤ 4000 * 472446 + 472446 := fun j => by
      rw [hC]
      have h1 := zdo known (mv.take j) a0
      have h2 : (mv.take j).length ≤ mv.length := by simp; omega
      omega
     have hCo : ∀ j, ∀ q ∈ C j, POk g q := fun j q hq => by
      rw [hC, zdp] at hq
      rcases hq with h | ⟨h, _⟩
      ·exact hAi q h
      ·exact hmo q (List.mem_of_mem_take h)
     have hA0' : ∀ q ∈ mv, POk g q := hmo
     refine zAC (zAG (α := Nat) (fun j => ⟨[(0, .fn (.yield l) [] []), (2, .fp [.v (.int .i64 b)]), (3, .fp (zae g)), (5, .mp 0), (6, zaI now), (7, .sl 1 (C j).length 5 0 (C j).length), (26, zaI now), (27, .v (.int .i64 now.length)), (28, .v (.int .i64 i)), (34, zaI mv), (35, .v (.int .i64 mv.length)), (36, .v (.int .i64 j)), (1000000007, za2 l 0 (L.map zoC))], [(0, .rows true 0 2 ((known ++ C j).map zgF)), (1, .rows true (C j).length 5 ((C j).map zac))], 2⟩)
      (fun d j => j + d = mv.length) ?_ mv.length 0 ?_) ?_ ?_
     ·rintro d3 j j1 hrec3
      repeat first|refine wV fun _=>?_|simp [go_sem, GH]
      refine zAE (fun hj => ?_) (fun hj => ?_) <;> simp at hj
      ·have hqo := hmo _ (zaj hj)
       have hKq := zof hg hqo
       have hCj := hCs j hj
       have hCb := hCl j
       have hin : ∀ u ∈ known ++ C j, zf6 (nth mv j) = zf6 u → nth mv j = u := fun u hu e => by
        rcases List.mem_append.1 hu with h | h
        ·exact zq9 hg hqo (i1.ok u h) e
        ·exact zq9 hg hqo (hCo j u h) e
       have hfind := zk2 _ _ hin
       have hput := zoA _ _ hin
       rw [List.map_append] at hfind hput
       unfold zmY at hCj
       generalize hq : nth mv j = q at *
       generalize C j = cj at *
       repeat first|refine wV fun _=>?_|simp [go_sem, GH, hj, hq]
       refine zAD hKq (by simp [go_sem]) ?_
       by_cases hmem : q ∈ known ++ cj
       ·rw [if_pos hmem] at hCj hfind
        repeat first|refine wV fun _=>?_|simp [go_sem, GH, hfind]
        refine zAC (hrec3 (d3 - 1) (by omega) (j + 1) (by omega)) ?_ (by simp)
        simp [go_sem, zaf, hgb, GH, hCj]
       ·rw [if_neg hmem] at hCj hfind
        have hput := hput hmem
        repeat first|refine wV fun _=>?_|simp [go_sem, GH, hfind, hput]
        refine zAC (hrec3 (d3 - 1) (by omega) (j + 1) (by omega)) ?_ (by simp)
        simp [go_sem, zaf, hgb, GH, hCj]
        intro c hc
        simp only [zgF, List.mem_cons, List.not_mem_nil, or_false] at hc
        rcases hc with rfl | rfl <;> exact .v _
      ·obtain rfl : j = mv.length := by omega
       rw [hCn]
       repeat first|refine wV fun _=>?_|simp [go_sem, GH]
       refine zAC (hrec2 (d2 - 1) (by omega) (i + 1) (by omega)) ?_ (by simp)
       simp [go_sem, zaf, hgb, GH]
     ·simp
     ·simp [go_sem, zaf, hgb, GH, hC0]
     ·simp
    ·obtain rfl : i = now.length := by omega
     rw [hAn]
     have hfit : ∀ q ∈ zbw g known now, zaK q := fun q hq => (zmJ hg hok q hq).fits hg
     have hSo := zc3 (zbw g known now) (by omega) hfit
     generalize zbw g known now = nx at *
     by_cases hz : nx = []
     ·rw [if_pos hz] at i5
      subst hz
      subst i5
      repeat first|refine wV fun _=>?_|simp [go_sem, GH]
      refine zoP.mk (more := 0) (xs := zoC (now, true)) (rs := []) _ (by simp [upd, GH]) (.refl _) (.refl _ _ _ _) (by simp [go_sem, zoC]) ?_ ?_
      ·repeat first|refine wV fun _=>?_|simp [go_sem, GH]
      ·repeat first|refine wV fun _=>?_|simp [go_sem, GH]
     ·rw [if_neg hz] at i5
      have hzl : 0 < nx.length := List.length_pos_iff.2 hz
      have hz2 : (nx = []) = False := eq_false hz
      subst i5
      repeat first|refine wV fun _=>?_|simp [go_sem, GH, hz2]
      refine zoP.mk (more := 0) (xs := zoC (now, false)) (rs := (za9 g b d (known ++ nx) (zaU za7 nx)).map zoC) _ (by simp [upd, GH]) (.refl _) (.refl _ _ _ _) (by simp [go_sem, zoC]) ?_ ?_
      ·repeat first|refine wV fun _=>?_|simp [go_sem, GH, hz2]
       refine zAL [1] hSo ?_ (zqS (zbi _)) ?_
       ·(first|done|exact agX)
       repeat first|refine wV fun _=>?_|simp [go_sem, GH]
       refine zAC (hrec d (by omega) (known ++ nx, zaU za7 nx, za9 g b d (known ++ nx) (zaU za7 nx)) ⟨hn2, by omega, by simp only; omega, by simp only; omega, rfl⟩) ?_ (by simp)
       simp [go_sem, zaf, hgb, GH]
      ·repeat first|refine wV fun _=>?_|simp [go_sem, GH, hz2]
   ·simp
   ·simp [go_sem, zaf, hgb, GH, hA0]
   ·simp
 ·exact ⟨zAW hp, by omega, by simp only [List.length_singleton]; omega, by simp, rfl⟩
 ·simp [go_sem, zaf, hgb, GH, zgF]
  exact zaB rfl (by simp) (by simp [noH, upd]) (by simp)
 ·simp
def layR (n : Nat) : AV := .fn (.func 153) [] [.ref (n + 1) 0 5 0 0, .ref (n + 2) 0 1 0 0, .ref n 0 9 0 0]
def layH (g : zad) (p : zag) (b : Int) (n : Nat) : List (Nat × zbn) := [(n, .rows true 0 9 [zae g]), (n + 1, .rows true 0 5 [zac p]), (n + 2, .rows true 0 1 [[.v (.int .i64 (zmf b))]])]
theorem zp7 (g : zad) (p : zag) (b : Int) : zgS Tryz.prog 101 [.agg (zae g), .agg (zac p), .v (.int .i64 b)] layR (layH g p b) 3 := by
 refine ⟨?_, fun n => ⟨by simp [go_sem, layR], by simp [go_sem, layH]⟩⟩
 have e : zmf b = if 0 < (if 4000 < b then 4000 else b) then (if 4000 < b then 4000 else b) else 0 := by
  unfold zmf
  split <;> split <;> (try split) <;> omega
 refine zAJ (by kernel_rfl) Tryz.func101 rfl rfl (Nat.le_of_ble_eq_true rfl) (by kernel_rfl) ?_
 repeat first|refine wV fun _=>?_|simp [go_sem, layR, layH]
 simp [go_sem, zaf, e]
theorem ziD (g : zad) (hg : GOk g) (p : zag) (hp : POk g p) (b : Int) : zaP Tryz.prog 48 [.agg (zae g), .agg (zac p), .v (.int .i64 b)] (.tup [zaI (zcs g p b), .v (.bool (zdF (zba g p b)))]) := by
 refine pF Tryz.func48 ?_
 have hS : zgS Tryz.prog 101 [.agg (zae g), .agg (zac p), .v (.int .i64 b)] (fun n => layR n) (fun n => layH g p b n) 3 := zp7 g p b
 have hQ := zp6 g hg p hp (zmf b) (zgZ b)
 simp only [layR, layH] at hS
 have hlen := zjP hg hp b
 have hok := zl5 hg hp b
 have hne := ztm g p b
 rw [show za9 g (zmf b) ((zmf b).toNat + 2) [p] [p] = zba g p b from rfl] at hQ
 unfold zcs
 have hfull := zn8 hne
 generalize zba g p b = L at *
 repeat first|refine wV fun _=>?_|simp [go_sem, GH]
 refine zAH hS (by simp [go_sem]) ?_
 repeat first|refine wV fun _=>?_|simp [go_sem, GH]
 refine zdP.mk [.fp (zac p), .fp [.v (.int .i64 (zmf b))], .fp (zae g)] (zbt _ [4, 5, 6]) hQ (zcw _ _) ?_ (by simp [go_sem]) (fun xs hx => by obtain ⟨y, _, rfl⟩ := List.mem_map.1 hx; rfl) ?_
 ·refine zan.cons (.frzP rfl ?_ ?_ ?_ ?_) (zan.cons (.frzP rfl ?_ ?_ ?_ ?_) (zan.cons (.frzP rfl ?_ ?_ ?_ ?_) .nil)) <;> first | exact zan.refl _ _ _ _ | simp [zbt, zbV, upd]
 obtain ⟨al, hal⟩ : ∃ al : Nat → List zag, al = fun k => zex (L.take k) := ⟨_, rfl⟩
 have hall : ∀ k, (al k).length ≤ 1889788001 := fun k => by
  have e : zex L = zex (L.take k) ++ zex (L.drop k) := by
   unfold zex
   rw [← List.flatMap_append, List.take_append_drop]
  rw [e, List.length_append] at hlen
  rw [hal]
  simp only
  omega
 have hals : ∀ k, k < L.length → al (k + 1) = al k ++ (nth L k).1 := fun k hk => by rw [hal]; simp only; unfold zex; rw [List.take_add_one, List.getElem?_eq_getElem hk, zau _ _ hk, Option.toList_some, List.flatMap_append]; simp
 have hal0 : al 0 = [] := by rw [hal]; rfl
 have halE : al L.length = zex L := by rw [hal]; simp
 obtain ⟨fl, hfl⟩ : ∃ fl : Nat → Bool, fl = fun k => if k = 0 then false else (nth L (k - 1)).2 := ⟨_, rfl⟩
 have hfl0 : fl 0 = false := by rw [hfl]; rfl
 have hfls : ∀ k, fl (k + 1) = (nth L k).2 := fun k => by rw [hfl]; rfl
 have hflE : fl L.length = zdF L := by
  have := List.length_pos_iff.2 hne
  rw [hfull, hfl]
  simp only
  rw [if_neg (by omega)]
 clear hal hfl
 refine Fgt.to (zAU (α := Nat) (fun k => ([(8, .ref 2 0 1 0 0), (9, .ref 3 0 1 0 0)], [(2, .rows true 0 1 [[.sl 7 k 5 0 (al k).length]]), (3, .rows true 0 1 [[.v (.bool (fl k))]]), (7, .rows true k 5 ((al k).map zac))], 8))
  (fun rows k => rows = (L.drop k).map zoC ∧ k ≤ L.length) ?_ ?_ _ 0 ?_) ?_ ?_
 ·rintro k ⟨i1, i2⟩
  have hk : k = L.length := by
   have := congrArg List.length i1
   simp at this
   omega
  subst hk
  refine ⟨rfl, ?_⟩
  have hla := hall L.length
  rw [halE, hflE] at *
  have hSo := zc3 (zex L) (by omega) (fun q hq => (hok q hq).fits hg)
  generalize zex L = all at *
  generalize zdF L = full at *
  repeat first|refine wV fun _=>?_|simp [go_sem, GH]
  refine zaw.frz [zaI all] _ [7] [(7, some (.rows false L.length 5 (all.map zac)))] hSo ?_ ?_ (zqS (zbi _)) ?_
  ·intro q hq
   simp only [List.mem_singleton] at hq
   subst hq
   exact ⟨by simp, L.length, 5, _, rfl, by simp [upd]⟩
  ·intro h₁ hS
   have h6 := hS 7 (by simp)
   simp [upd] at h6
   exact .cons (zaB h6.symm (by simp) (by simp [zai, upd]) (by simp; exact List.take_of_length_le (by simp))) .nil
  ·repeat first|refine wV fun _=>?_|simp [go_sem, GH]
 ·rintro xs rs k ⟨i1, i2⟩ hrec
  have hk : k < L.length := by
   have := congrArg List.length i1
   simp at this
   omega
  rw [zaQ hk, List.map_cons, List.cons.injEq] at i1
  obtain ⟨rfl, rfl⟩ := i1
  have hals := hals k hk
  have hfls := hfls k
  have h1 := hall k
  have h2 := hall (k + 1)
  have h3 : (al k).length + (nth L k).1.length ≤ 1889788001 := by rw [hals, List.length_append] at h2; exact h2
  generalize hrs : (L.drop (k + 1)).map zoC = rs at *
  refine zAY (Nat.zero_le _) ?_
  repeat first|refine wV fun _=>?_|simp [go_sem, GH, zoC]
  refine Fgt.to (hrec (k + 1) ⟨hrs.symm, by omega⟩) ?_ (by simp)
  simp [go_sem, zaf, GH, hals, hfls]
 ·exact ⟨rfl, Nat.zero_le _⟩
 ·simp [go_sem, zaf, hal0, hfl0]
 ·simp
end Go.Av
end
