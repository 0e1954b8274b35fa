/- Texts of ours, part 9: contracts and facts for this claim. -/
import Derived.Test.YtedhfmmlhfmomaaGreatDoorB09
set_option linter.unusedSimpArgs false
set_option linter.unusedVariables false
set_option maxRecDepth 100000
set_option maxHeartbeats 40000000
section
open Go Go.Proofs
namespace Go.Av
theorem zsD {g : zae} (hg : GOk g) (p : zah) : (zbh zbx (zc1 g p)).filter (fun q => zer g q && decide (p ∈ zaK g q)) = zaM g p := by
 refine zhU za7 (List.Pairwise.filter _ (zhf za7 _)) (zc6 g p) fun q => ?_
 rw [zdb hg, List.mem_filter, za9, Bool.and_eq_true, decide_eq_true_eq, zfy]
 constructor
 ·rintro ⟨_, h⟩; exact h
 ·rintro ⟨h1, h2⟩
  refine ⟨?_, h1, h2⟩
  unfold zc1
  refine List.mem_append.2 ((znN hg h1 h2).imp id fun h => ?_)
  unfold zgo at h
  unfold zxp
  obtain ⟨c, hc, rfl⟩ := List.mem_map.1 h
  obtain ⟨h3, h4⟩ := List.mem_filter.1 hc
  rw [Bool.and_eq_true] at h4
  exact List.mem_map.2 ⟨c, List.mem_filter.2 ⟨h3, h4.1⟩, rfl⟩
theorem zsJ {g : zae} (hg : GOk g) (hs : zbm g) {p : zah} (hp : POk g p) : (zc1 g p).length ≤ 35831817 := by
 have h0 := zhr hg hs hp
 have c9 := hg.c9
 have c1 := hg.c1
 have k6 := hg.k6
 have hal := hp.al
 have h1 : (zeG g (1 - p.side) p).length ≤ 35831808 := by
  have := za1 (fun (k : Nat) => (List.range g.cells.toNat).flatMap fun (c : Nat) => (zbw g.board (1 - p.side) (nth g.kinds k).progs c).flatMap (zfe g (1 - p.side) p k c)) (9 * (72 * 9216)) (List.range g.kinds.length) fun k hk => by
   have hk := List.mem_range.1 hk
   have := za1 (fun (c : Nat) => (zbw g.board (1 - p.side) (nth g.kinds k).progs c).flatMap (zfe g (1 - p.side) p k c)) (72 * 9216) (List.range g.cells.toNat) fun c hc => by
    have hc := List.mem_range.1 hc
    have h2 := zlx hg hs (1 - p.side) hk c
    have := za1 (zfe g (1 - p.side) p k c) 9216 (zbw g.board (1 - p.side) (nth g.kinds k).progs c) fun w hw => by
     have h3 := zjj hg (side := 1 - p.side) (p := p) hk (show (c : Int) < g.cells by omega) w hw
     unfold zfe
     split
     ·rw [List.length_map]
      exact Nat.le_trans (List.length_filter_le _ _) h3
     ·simp
    refine Nat.le_trans this ?_
    omega
   rw [List.length_range] at this
   refine Nat.le_trans this ?_
   omega
  rw [List.length_range] at this
  unfold zeG
  omega
 have h2 : (zxp (1 - p.side) p).length ≤ 9 := by
  unfold zxp
  rw [List.length_map]
  have := List.length_filter_le (fun c => decide ((zao (nth p.at_ c)).2 = 1 - p.side)) (List.range p.at_.length)
  rw [List.length_range] at this
  omega
 unfold zc1
 rw [List.length_append]
 omega
theorem zuC {g : zae} (hg : GOk g) (p : zah) : zq7 g p (zbh zbx (zc1 g p)) (zbh zbx (zc1 g p)).length = zaM g p := by
 unfold zq7
 rw [List.take_length]
 exact zsD hg p
def zvJ : Bool := (List.range 16).all fun (a : Nat) => (List.range 4).all fun (n : Nat) => zqj (a : Int) n == !decide (zit .i64 ((a : Int).fdiv (2 ^ n)) 1 = 1)
theorem zow : zvJ = true := by kernel_rfl
theorem zvK {a : Int} (h0 : 0 ≤ a) (h1 : a < 16) {n : Nat} (hn : n < 4) : zqj a n = !decide (zit .i64 (a.fdiv (2 ^ n)) 1 = 1) := by
 have key := zow
 unfold zvJ at key
 have k1 := List.all_eq_true.1 key a.toNat (List.mem_range.2 (by omega))
 have k2 := List.all_eq_true.1 k1 n (List.mem_range.2 hn)
 rw [Int.toNat_of_nonneg h0, beq_iff_eq] at k2
 exact k2
def zxZ (g : zae) (side : Int) (p : zah) (acts : List zcq) (j : Nat) : List zah := zcx g side p (acts.reverse.take j)
theorem zvQ (g : zae) (side : Int) (p : zah) (acts : List zcq) : zxZ g side p acts 0 = [p] := rfl
theorem zvP {g : zae} {side : Int} {p : zah} {acts : List zcq} {j : Nat} (hj : j < acts.length) : zxZ g side p acts (j + 1) = (zxZ g side p acts j).flatMap fun q => zde g side q (nth acts (acts.length - 1 - j)) := by
 unfold zxZ
 have hl : j < acts.reverse.length := by rw [List.length_reverse]; exact hj
 rw [List.take_add_one, List.getElem?_eq_getElem hl, Option.toList_some, zfF]
 congr 1
 funext q
 rw [zoY, List.getElem_reverse, zaC _ _ (by omega)]
theorem zx0 (g : zae) (side : Int) (p : zah) (acts : List zcq) : zxZ g side p acts acts.length = zcx g side p acts.reverse := by
 unfold zxZ
 rw [List.take_of_length_le (by rw [List.length_reverse]; exact Nat.le_refl _)]
theorem zzX {g : zae} (hg : GOk g) {side : Int} (hs : side = 0 ∨ side = 1) {p : zah} (hp : POk g p) {acts : List zcq} (ha : ∀ a ∈ acts, zdO g.cells g.kinds.length g.rights a) (j : Nat) : ∀ q ∈ zxZ g side p acts j, POk g q ∧ q.side = p.side :=
 zhj hg hs hp fun a h => ha a (List.mem_reverse.1 (List.mem_of_mem_take h))
theorem zjn (l : List zcq) (j : Nat) (op : Int) : za4 (l.take j) op ≤ za4 l op := by
 unfold za4
 exact (List.take_sublist j l).countP_le
theorem zx1 {g : zae} (hg : GOk g) (side : Int) (p : zah) {acts : List zcq} (h6 : za4 acts 6 ≤ 2) (h10 : za4 acts 10 ≤ 8) (j : Nat) : (zxZ g side p acts j).length ≤ 9216 := by
 have hr : ∀ op, za4 acts.reverse op = za4 acts op := fun op => by unfold za4; exact List.countP_reverse ..
 have h1 := zkp hg side (acts.reverse.take j) p
 have h2 := zjn acts.reverse j 6
 have h3 := zjn acts.reverse j 10
 rw [hr] at h2 h3
 exact Nat.le_trans h1 (Nat.mul_le_mul (zfR (n := 2) (by omega) (by omega)) (zfR (n := 8) (by omega) (by omega)))
def zwH (g : zae) (side : Int) (l : List zah) (x : zcq) (i : Nat) : List zah := (l.take i).flatMap fun q => zde g side q x
theorem zvO (g : zae) (side : Int) (l : List zah) (x : zcq) : zwH g side l x 0 = [] := rfl
theorem zvN {g : zae} {side : Int} {l : List zah} {x : zcq} {i : Nat} (hi : i < l.length) : zwH g side l x (i + 1) = zwH g side l x i ++ zde g side (nth l i) x := by
 unfold zwH
 rw [List.take_add_one, List.getElem?_eq_getElem hi, ← zaC _ _ hi, Option.toList_some, List.flatMap_append]
 simp
theorem zxX (g : zae) (side : Int) (l : List zah) (x : zcq) : zwH g side l x l.length = l.flatMap fun q => zde g side q x := by
 unfold zwH
 rw [List.take_length]
theorem zxY {g : zae} (hg : GOk g) (side : Int) (l : List zah) (x : zcq) (i : Nat) : (zwH g side l x i).length ≤ l.length * 6 := by
 unfold zwH
 have := za1 (fun q => zde g side q x) 6 (l.take i) fun q _ => by
  have := zko hg side q x
  revert this
  (repeat' split) <;> omega
 rw [List.length_take] at this
 exact Nat.le_trans this (Nat.mul_le_mul_right _ (Nat.min_le_right _ _))
theorem zAg {g : zae} {side : Int} {p : zah} {a : Nat} (h : nth p.at_ a ≠ 0) (k : Nat) : tkL g side p a k = [] := by
 unfold tkL
 rw [if_neg fun h2 => h h2.1]
def tkI (g : zae) (side : Int) (p : zah) (a i : Nat) : List zah := (List.range i).flatMap (tkL g side p a)
theorem zyn (g : zae) (side : Int) (p : zah) (a i : Nat) : tkI g side p a (i + 1) = tkI g side p a i ++ tkL g side p a i := by
 unfold tkI
 rw [List.range_succ, List.flatMap_append]
 simp
theorem zAf (g : zae) (side : Int) (p : zah) (a i : Nat) : (tkI g side p a i).length ≤ i := by
 unfold tkI
 have := za1 (tkL g side p a) 1 (List.range i) fun k _ => by unfold tkL; split <;> simp
 rw [List.length_range] at this
 omega
end Go.Av
end
