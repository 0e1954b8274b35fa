/- Texts of ours, part 6: contracts and facts for this claim. -/
import Derived.Test.YtkahkcakggflaaaGreatDoorB06
set_option linter.unusedSimpArgs false
set_option linter.unusedVariables false
set_option maxRecDepth 100000
set_option maxHeartbeats 40000000
section
open Go Go.Proofs
namespace Go.Av
theorem zdX (p : zaj) (ha : zaW p) : zgf Tryz.prog 169 [.agg (zad p)] (fun n => zor n p) (fun n => zj8 n p) 9 := by
 refine ⟨zyL (by kernel_rfl) Tryz.func169 rfl rfl (Nat.le_of_ble_eq_true rfl) (by kernel_rfl) ?_, fun n => ⟨?_, ?_⟩⟩
 ·obtain ⟨a1, a2, a3⟩ := ha
  unfold zeR at a1 a2 a3
  simp [go_sem]
  refine zy6 (by omega) fun _ => ?_
  simp [go_sem]
  try ((with_reducible refine wZ ?_); (try simp [go_sem]))
  refine zza (by omega) fun _ => ?_
  simp [go_sem]
  try ((with_reducible refine wZ ?_); (try simp [go_sem]))
  refine zza (by omega) fun _ => ?_
  simp [go_sem]
  try ((with_reducible refine wZ ?_); (try simp [go_sem]))
  refine zkR.mk (by kernel_rfl) ?_
  simp [go_sem, zah]
 ·simp [go_sem]
 ·simp [go_sem]
theorem zlv (g : zaf) (hg : zfo g) (l : List Int) (hl : l.length ≤ 9223372036854775807) : zaC Tryz.prog 91 [.agg (zab g), zas l] (.v (.bool (zd1 g l))) := by
 refine pF Tryz.func91 ?_
 unfold zfo at hg
 repeat first|with_reducible refine wV fun _=>?_|simp [go_sem]
 refine zyK (fun hn => ?_) (fun hn => ?_) <;> simp at hn
 ·have e : zd1 g l = false := by simp [zd1]; intro h; omega
  rw [e]
  repeat first|with_reducible refine wV fun _=>?_|simp [go_sem]
 ·repeat first|with_reducible refine wV fun _=>?_|simp [go_sem]
  have e : zd1 g l = zck l g.kinds := by simp [zd1]; intro; omega
  rw [e]
  refine zyI (zyN (α := Nat) (fun j => ⟨[(1, zas l), (2, .ref 0 0 9 0 0), (5, .v (.int .i64 j))], [(0, .rows true 0 9 [zab g])], 1⟩)
   (fun d j => j + d = l.length ∧ zck l g.kinds = zck (l.drop j) (g.kinds.drop j)) ?_ l.length 0 ?_) ?_ ?_
  ·rintro d j ⟨i1, i2⟩ hrec
   repeat first|with_reducible refine wV fun _=>?_|simp [go_sem]
   refine zyK (fun hj => ?_) (fun hj => ?_) <;> simp at hj
   ·have hjk : j < g.kinds.length := by omega
    rw [zaM hj, zaM hjk, zck] at i2
    generalize hR : zck (List.drop (j + 1) l) (List.drop (j + 1) g.kinds) = R at *
    cases hkp : (nth g.kinds j).keep
    ·rw [hkp] at i2
     repeat first|with_reducible refine wV fun _=>?_|simp [go_sem, hj, hjk, hkp]
     refine zyK (fun hb => ?_) (fun hb => ?_) <;> simp at hb
     ·have e2 : zck l g.kinds = false := by rw [i2]; simp; intros; omega
      rw [e2]
      repeat first|with_reducible refine wV fun _=>?_|simp [go_sem]
     ·have e2 : zck l g.kinds = R := by
       rw [i2]
       simp [show 0 ≤ nth l j by omega, show nth l j ≤ 8 by omega, show ¬ 0 < nth l j by omega]
      repeat first|with_reducible refine wV fun _=>?_|simp [go_sem]
      refine zyI (hrec (d - 1) (by omega) (j + 1) ⟨by omega, by rw [e2, hR]⟩) ?_ (by simp)
      simp [go_sem, zah]
    ·rw [hkp] at i2
     repeat first|with_reducible refine wV fun _=>?_|simp [go_sem, hj, hjk, hkp]
     refine zyK (fun hb => ?_) (fun hb => ?_) <;> simp at hb
     ·have e2 : zck l g.kinds = false := by rw [i2]; simp; intros; omega
      rw [e2]
      repeat first|with_reducible refine wV fun _=>?_|simp [go_sem]
     ·have e2 : zck l g.kinds = R := by
       rw [i2]
       simp [show 0 ≤ nth l j by omega, show nth l j ≤ 8 by omega]
      repeat first|with_reducible refine wV fun _=>?_|simp [go_sem]
      refine zyI (hrec (d - 1) (by omega) (j + 1) ⟨by omega, by rw [e2, hR]⟩) ?_ (by simp)
      simp [go_sem, zah]
   ·rw [List.drop_eq_nil_of_le hj, show ∀ ks, zck [] ks = true from fun ks => by simp [zck]] at i2
    rw [i2]
    repeat first|with_reducible refine wV fun _=>?_|simp [go_sem]
  ·exact ⟨by simp, rfl⟩
  ·simp [go_sem, zah]
  ·simp
theorem zdU (g : zaf) (hg : zfo g) (hr : FitsR g) (p : zaj) (hp : zaW p) : zaC Tryz.prog 39 [.agg (zab g), .agg (zad p)] (.v (.bool (zeH g p))) := by
 refine pF Tryz.func39 ?_
 obtain ⟨p1, p2, p3⟩ := hp
 obtain ⟨r1, r2⟩ := hr
 have hpow : (0 : Int) ≤ 2 ^ g.rights.toNat ∧ (2 : Int) ^ g.rights.toNat ≤ 1152921504606846976 := by
  have h1 : g.rights.toNat ≤ 60 := by omega
  have h2 : (2 : Int) ^ g.rights.toNat ≤ 2 ^ 60 := by have := Nat.pow_le_pow_right (n := 2) (by omega) h1; exact_mod_cast this
  exact ⟨Int.pow_nonneg (by omega), by simpa using h2⟩
 unfold zfo at hg
 repeat first|with_reducible refine wV fun _=>?_|simp [go_sem]
 refine zyV _ (fun _ => zlv g hg p.h0 (by unfold zeR at p2; omega)) (by simp [go_sem]) ?_
 repeat first|with_reducible refine wV fun _=>?_|simp [go_sem]
 refine zyV _ (fun _ => zlv g hg p.h1 (by unfold zeR at p3; omega)) (by simp [go_sem]) ?_
 generalize hpw : (2 : Int) ^ g.rights.toNat = pw at *
 repeat first|with_reducible refine wV fun _=>?_|simp [go_sem, hpw]
 unfold zeR at p1
 refine zyK (fun hv => ?_) (fun hv => ?_) <;> simp at hv
 ·have e : zeH g p = false := by
   rw [Bool.eq_false_iff]
   intro h
   obtain ⟨a1, a2, a3, a4, a5, a6, a7⟩ := zhi.1 h
   rw [hpw] at a6
   rw [a3, a4] at hv
   simp at hv
   omega
  rw [e]
  repeat first|with_reducible refine wV fun _=>?_|simp [go_sem]
 ·have hn : ∀ x : Int, (∀ y ∈ p.at_, 0 ≤ y ∧ y ≤ 2 * g.kinds.length) → zeH g p = true := fun _ h => by
   rw [zhi, hpw]
   obtain ⟨⟨⟨⟨⟨⟨b1, b2⟩, b3⟩, b4⟩, b5⟩, b6⟩, b7⟩ := hv
   exact ⟨b1, h, b2, b3, b4, b5, by omega⟩
  repeat first|with_reducible refine wV fun _=>?_|simp [go_sem]
  refine zyI (zyN (α := Nat) (fun j => ⟨[(2, .ref 0 0 9 0 0), (3, .ref 1 0 5 0 0), (5, .v (.int .i64 j))], [(0, .rows true 0 9 [zab g]), (1, .rows true 0 5 [zad p])], 2⟩)
   (fun d j => j + d = p.at_.length ∧ ∀ i, i < j → 0 ≤ nth p.at_ i ∧ nth p.at_ i ≤ 2 * g.kinds.length) ?_ p.at_.length 0 ?_) ?_ ?_
  ·rintro d j ⟨i1, i2⟩ hrec
   repeat first|with_reducible refine wV fun _=>?_|simp [go_sem]
   refine zyK (fun hj => ?_) (fun hj => ?_) <;> simp at hj
   ·repeat first|with_reducible refine wV fun _=>?_|simp [go_sem, hj]
    refine zyK (fun hb => ?_) (fun hb => ?_) <;> simp at hb
    ·have e : zeH g p = false := by
      rw [Bool.eq_false_iff]
      intro h
      have := (zhi.1 h).2.1 _ (zan hj)
      omega
     rw [e]
     repeat first|with_reducible refine wV fun _=>?_|simp [go_sem]
    ·repeat first|with_reducible refine wV fun _=>?_|simp [go_sem]
     refine zyI (hrec (d - 1) (by omega) (j + 1) ⟨by omega, fun i hi => ?_⟩) ?_ (by simp)
     ·rcases Nat.lt_or_ge i j with h | h
      ·exact i2 i h
      ·obtain rfl : i = j := by omega
       exact hb
     ·simp [go_sem, zah]
   ·have e := hn 0 (fun y hy => by
     obtain ⟨i, hi, rfl⟩ := List.getElem_of_mem hy
     rw [← zaJ _ _ hi]
     exact i2 i (by omega))
    rw [e]
    repeat first|with_reducible refine wV fun _=>?_|simp [go_sem]
  ·exact ⟨by simp, fun i hi => by omega⟩
  ·simp [go_sem, zah]
  ·simp
theorem zgR (b : zaL) (hb : za2 b) (side d c : Int) : zaC Tryz.prog 241 [.agg (zde b), .v (.int .i64 side), .v (.int .i64 d), .v (.int .i64 c)] (.v (.int .i64 (toB b side d c))) := by
 refine pF Tryz.func241 ?_
 obtain ⟨tl, tv, nl, nv, c0, c1, n1⟩ := hb
 repeat first|with_reducible refine wV fun _=>?_|simp [go_sem]
 refine zyK (fun hs => ?_) (fun hs => ?_) <;> simp at hs
 ·have e : toB b side d c = -1 := by unfold toB; rw [if_pos (by omega)]
  rw [e]
  repeat first|with_reducible refine wV fun _=>?_|simp [go_sem]
 ·have hdt : d.toNat < b.next.length := by omega
  have hdu : d.toNat < b.turn.length := by omega
  have e : toB b side d c = nth (nth b.next (if side = 1 then (nth b.turn d.toNat) else d).toNat) c.toNat := by unfold toB; rw [if_neg (by omega)]
  repeat first|with_reducible refine wV fun _=>?_|simp [go_sem]
  refine zyK (fun h1 => ?_) (fun h1 => ?_) <;> simp at h1
  ·rw [if_pos h1] at e
   have ht := tv _ (zan hdu)
   have hn : (nth b.turn d.toNat).toNat < b.next.length := by omega
   have hl := nl _ (zan hn)
   have hc : c.toNat < (nth b.next (nth b.turn d.toNat).toNat).length := by omega
   rw [e]
   repeat first|with_reducible refine wV fun _=>?_|simp [go_sem, hdu, hn, hc]
  ·rw [if_neg h1] at e
   have hl := nl _ (zan hdt)
   have hc : c.toNat < (nth b.next d.toNat).length := by omega
   rw [e]
   repeat first|with_reducible refine wV fun _=>?_|simp [go_sem, hdt, hc]
theorem zrt (l : List Int) (n : Int) (hl : l.length ≤ 1099511627776) : zaC Tryz.prog 277 [zas l, .v (.int .i64 n)] (.v (.bool (decide (n ∈ l)))) := by
 refine pF Tryz.func277 ?_
 generalize hr : decide (n ∈ l) = res
 repeat first|with_reducible refine wV fun _=>?_|simp [go_sem]
 refine zyI (zyN (α := Nat) (fun j => ⟨[(0, zas l), (1, .v (.int .i64 n)), (5, .v (.int .i64 j))], [], 0⟩)
  (fun d j => j + d = l.length ∧ res = decide (n ∈ l.drop j)) ?_ l.length 0 ?_) ?_ ?_
 ·rintro d j ⟨i1, i2⟩ hrec
  repeat first|with_reducible refine wV fun _=>?_|simp [go_sem]
  refine zyK (fun hj => ?_) (fun hj => ?_) <;> simp at hj
  ·rw [zfy hj] at i2
   repeat first|with_reducible refine wV fun _=>?_|simp [go_sem, hj]
   refine zyK (fun he => ?_) (fun he => ?_) <;> simp at he
   ·have e : res = true := by rw [i2, he]; simp
    rw [e]
    repeat first|with_reducible refine wV fun _=>?_|simp [go_sem]
   ·have e : res = decide (n ∈ l.drop (j + 1)) := by rw [i2]; simp [Ne.symm he]
    repeat first|with_reducible refine wV fun _=>?_|simp [go_sem]
    refine zyI (hrec (d - 1) (by omega) (j + 1) ⟨by omega, e⟩) ?_ (by simp)
    simp [go_sem, zah]
  ·have e : res = false := by rw [i2, List.drop_eq_nil_of_le hj]; simp
   rw [e]
   repeat first|with_reducible refine wV fun _=>?_|simp [go_sem]
 ·exact ⟨by simp, hr.symm⟩
 ·simp [go_sem, zah]
 ·simp
theorem zi7 (b : zaL) (hb : za2 b) (side d c : Int) : zaC Tryz.prog 243 [.agg (zde b), .v (.int .i64 side), .v (.int .i64 d), .v (.int .i64 c)] (zas (zfH b side d c)) := by
 refine pF Tryz.func243 ?_
 have hbl : ∀ n, (∀ c' ∈ zde b, Bel n c') = True := fun n => by simp [go_sem]
 have hel : (zde b).length = 3 := rfl
 have hT : ∀ x, zaC Tryz.prog 241 [.agg (zde b), .v (.int .i64 side), .v (.int .i64 d), .v (.int .i64 x)] (.v (.int .i64 (toB b side d x))) := fun x => zgR b hb side d x
 obtain ⟨eb, heb⟩ : ∃ eb, eb = zde b := ⟨_, rfl⟩
 rw [← heb] at hbl hel hT ⊢
 have hc1 := hb.c1
 have hc0 := hb.c0
 repeat first|with_reducible refine wV fun _=>?_|simp [go_sem, hel]
 refine zyJ (hT c) (by simp [go_sem, hbl]) ?_
 repeat first|with_reducible refine wV fun _=>?_|simp [go_sem, hel]
 refine zyI (zyN (α := Int × List Int) (fun a => ⟨[(1, .v (.int .i64 side)), (2, .v (.int .i64 d)), (3, .v (.int .i64 c)), (4, .ref 0 0 3 0 0), (9, .sl 1 a.2.length 1 0 a.2.length), (10, .v (.int .i64 a.1))],
   [(0, .rows true 0 3 [eb]), (1, .rows true a.2.length 1 (a.2.map zb3))], 2⟩)
  (fun f a => f + a.2.length = b.cells.toNat + 1 ∧ a.1 < b.cells ∧ a.2.Nodup ∧ (∀ y ∈ a.2, 0 ≤ y ∧ y < b.cells) ∧ zfH b side d c = zd3 b side d c f a.1 a.2) ?_ (b.cells.toNat + 1) (toB b side d c, []) ?_) ?_ ?_
 ·rintro f ⟨x, seen⟩ ⟨i1, i2, i3, i4, i5⟩ hrec
  simp only at i1 i2 i3 i4 i5
  have hsl : seen.length ≤ b.cells.toNat := zf3 _ _ i3 (fun y hy => by have := i4 y hy; omega)
  obtain ⟨f, rfl⟩ : ∃ f', f = f' + 1 := ⟨f - 1, by omega⟩
  rw [zd3] at i5
  repeat first|with_reducible refine wV fun _=>?_|simp [go_sem, hel]
  refine zzl [zas seen, .v (.int .i64 x)] (.v (.bool (decide (x ∈ seen)))) (fun _ => zrt seen x (by omega)) (.v _) ?_ (by simp [go_sem]) ?_
  ·refine zai.cons ?_ (zai.cons (.refl _) zai.nil)
   refine LeV.frz rfl ?_ ?_ (zyT ?_) <;> simp [noH, List.take_of_length_le]
  ·repeat first|with_reducible refine wV fun _=>?_|simp [go_sem, hel]
   refine zyK (fun hx => ?_) (fun hx => ?_) <;> simp at hx
   ·rw [if_pos (by simpa [and_assoc] using hx)] at i5
    repeat first|with_reducible refine wV fun _=>?_|simp [go_sem, hel]
    refine zyJ (hT x) (by simp [go_sem, hbl]) ?_
    repeat first|with_reducible refine wV fun _=>?_|simp [go_sem, hel]
    refine zyI (hrec f (by omega) (toB b side d x, seen ++ [x]) ⟨by simp only [List.length_append, List.length_singleton]; omega, zfQ hb _ _ _, ?_, ?_, i5⟩) ?_ (by simp)
    ·refine List.nodup_append.2 ⟨i3, by simp, ?_⟩
     intro y hy z hz
     simp at hz
     subst hz
     rintro rfl
     exact hx.2 hy
    ·intro y hy
     rcases List.mem_append.1 hy with h | h
     ·exact i4 y h
     ·simp at h; omega
    ·simp [go_sem, zah, hbl]
     (first|done|exact blX)
   ·rw [if_neg (by simpa [and_assoc] using hx)] at i5
    rw [i5]
    repeat first|with_reducible refine wV fun _=>?_|simp [go_sem, hel]
    exact frX
 ·exact ⟨by simp, zfQ hb _ _ _, by simp, by simp, rfl⟩
 ·simp [go_sem, zah, hbl]
 ·simp
theorem zi9 (n a b : Int) : zaC Tryz.prog 196 [.v (.int .i64 n), .v (.int .i64 a), .v (.int .i64 b)] (.v (.bool (decide (a ≤ n ∧ n ≤ b)))) := by
 refine pF Tryz.func196 ?_
 repeat first|with_reducible refine wV fun _=>?_|simp [go_sem]
theorem zdS (c : Int) : zaC Tryz.prog 150 [.v (.int .i64 c)] (.agg [.v (.int .i64 (zaq c).1), .v (.int .i64 (zaq c).2)]) := by
 refine pF Tryz.func150 ?_
 repeat first|with_reducible refine wV fun _=>?_|simp [go_sem]
 refine zyJ (zi9 c 1 12) (by simp [go_sem]) ?_
 by_cases h : 1 ≤ c ∧ c ≤ 12
 ·have e : zaq c = ((c - 1).tdiv 2, (c - 1).tmod 2) := by unfold zaq; rw [if_pos h]
  have q : (c - 1).tdiv 2 = (c - 1) / 2 := Int.tdiv_eq_ediv_of_nonneg (by omega)
  rw [e]
  repeat first|with_reducible refine wV fun _=>?_|simp [go_sem, h, q]
 ·have e : zaq c = (-1, -1) := by unfold zaq; rw [if_neg h]
  rw [e]
  repeat first|with_reducible refine wV fun _=>?_|simp [go_sem, h]
theorem zdk (k s : Int) : zaC Tryz.prog 153 [.v (.int .i64 k), .v (.int .i64 s)] (.v (.int .i64 (zaD k s))) := by
 refine pF Tryz.func153 ?_
 repeat first|with_reducible refine wV fun _=>?_|simp [go_sem]
 refine zyJ (zi9 k 0 5) (by simp [go_sem]) ?_
 repeat first|with_reducible refine wV fun _=>?_|simp [go_sem]
 refine zzc _ (fun _ => zi9 s 0 1) (by simp [go_sem]) ?_
 repeat first|with_reducible refine wV fun _=>?_|simp [go_sem]
 refine zyK (fun h => ?_) (fun h => ?_) <;> simp at h
 ·have e : zaD k s = 0 := by unfold zaD; rw [if_neg (by omega)]
  rw [e]
  repeat first|with_reducible refine wV fun _=>?_|simp [go_sem]
 ·have e : zaD k s = 2 * k + 1 + s := by unfold zaD; rw [if_pos (by omega)]
  rw [e]
  repeat first|with_reducible refine wV fun _=>?_|simp [go_sem]
  exact zyW (by congr 2; omega)
theorem zmE (a b : zco) : zn6 a b = decide (zif a b < 0) := by
 unfold zn6 zif zyg
 by_cases h : zbw a.pos b.pos = 0
 ·rw [if_neg (by simpa using h)]
  simp only [h]
  cases a.took <;> cases b.took <;> simp [zba]
 ·rw [if_pos h]
  simp [h]
theorem ze2 {x z : zco} : ∀ {l : List zco}, z ∈ zbL x l ↔ z = x ∨ z ∈ l
 | [] => by simp [zbL]
 | y :: l => by
  simp only [zbL]
  split
  ·rw [List.mem_cons, ze2, List.mem_cons]
   exact ⟨fun h => by rcases h with h | h | h <;> simp [h], fun h => by rcases h with h | h | h <;> simp [h]⟩
  ·split
   ·simp
   ·rename_i h1 h2
    rw [zmE] at h1 h2
    have := zch.swap x y
    have e := (zch.eq x y).1 (by simp at h1 h2; omega)
    subst e
    simp
theorem zlx {x : zco} : ∀ {l : List zco}, l.Pairwise (fun a b => zif a b < 0) → (zbL x l).Pairwise (fun a b => zif a b < 0)
 | [], _ => by simp [zbL]
 | y :: l, h => by
  rw [List.pairwise_cons] at h
  simp only [zbL]
  split
  ·rename_i h1
   rw [zmE] at h1
   rw [List.pairwise_cons]
   refine ⟨fun z hz => ?_, zlx h.2⟩
   rcases ze2.1 hz with rfl | hz
   ·simpa using h1
   ·exact h.1 z hz
  ·split
   ·rename_i h1
    rw [zmE] at h1
    have hxy : zif x y < 0 := by simpa using h1
    refine List.pairwise_cons.2 ⟨fun z hz => ?_, List.pairwise_cons.2 h⟩
    rcases List.mem_cons.1 hz with rfl | hz
    ·exact hxy
    ·have hyz := h.1 z hz
     have t := zch.tr x y z (by omega) (by omega)
     rcases Int.lt_or_eq_of_le t with h | h
     ·exact h
     ·have e := (zch.eq _ _).1 h
      subst e
      have := zch.swap x y
      omega
   ·exact List.pairwise_cons.2 h
theorem zfF : ∀ (l acc : List zco), acc.Pairwise (fun a b => zif a b < 0) →
  (l.foldl (fun a x => zbL x a) acc).Pairwise (fun a b => zif a b < 0) ∧ ∀ z, z ∈ l.foldl (fun a x => zbL x a) acc ↔ z ∈ l ∨ z ∈ acc
 | [], acc, h => ⟨h, fun z => by simp⟩
 | x :: l, acc, h => by
  obtain ⟨h1, h2⟩ := zfF l (zbL x acc) (zlx h)
  refine ⟨h1, fun z => ?_⟩
  rw [List.foldl_cons, h2, ze2, List.mem_cons]
  exact ⟨fun h => by rcases h with h | h | h <;> simp [h], fun h => by rcases h with (h | h) | h <;> simp [h]⟩
theorem zpF (l : List zco) : l.foldl (fun a x => zbL x a) [] = zbk zif l :=
 (zek zch (zfF l [] (by simp)).1 (fun z => by rw [(zfF l [] (by simp)).2]; simp)).symm
def zfS (g : zaf) : zaj → List Int → List zaj
 | p, [] => [p]
 | p, k :: l => if zaH g p = [] then [p] else p :: zfS g (nth (zaH g p) (k.emod (zaH g p).length).toNat) l
structure zkJ where
 cell : List Int
 kind : List Int
 hand : List Int
 rights : Int
 side : Int
structure zjd (x : zkJ) : Prop where
 c6 : x.cell.length = 6
 k6 : x.kind.length = 6
 h4 : x.hand.length = 4
 cv : ∀ n ∈ x.cell, U8 n
 kv : ∀ n ∈ x.kind, U8 n
 hv : ∀ n ∈ x.hand, U8 n
 r : U8 x.rights
 s : U8 x.side
def zdo (x : zkJ) : List AV := x.cell.map (fun n => .v (.int .u8 n)) ++ (x.kind.map (fun n => .v (.int .u8 n)) ++ (x.hand.map (fun n => .v (.int .u8 n)) ++ [.v (.int .u8 x.rights), .v (.int .u8 x.side)]))
theorem ztR (l : List Int) (r : List AV) (i : Nat) (h : i < l.length) : cel (l.map (fun n => AV.v (.int .u8 n)) ++ r) i = .v (.int .u8 (nth l i)) := by
 unfold cel nth
 rw [List.getD_eq_getElem?_getD, List.getD_eq_getElem?_getD, List.getElem?_append_left (by simpa using h), List.getElem?_map, List.getElem?_eq_getElem h]
 rfl
theorem zpl (l : List Int) (r : List AV) (i : Nat) : cel (l.map (fun n => AV.v (.int .u8 n)) ++ r) (l.length + i) = cel r i := by
 unfold cel
 rw [List.getD_eq_getElem?_getD, List.getD_eq_getElem?_getD, List.getElem?_append_right (by simp)]
 simp
structure RawRow (x : zkJ) (er : List AV) : Prop where
 len : er.length = 18
 c : ∀ i, i < 6 → cel er i = .v (.int .u8 (nth x.cell i))
 k : ∀ i, i < 6 → cel er (6 + i) = .v (.int .u8 (nth x.kind i))
 h : ∀ i, i < 4 → cel er (12 + i) = .v (.int .u8 (nth x.hand i))
 r : cel er 16 = .v (.int .u8 x.rights)
 s : cel er 17 = .v (.int .u8 x.side)
 b : ∀ n, (∀ c ∈ er, Bel n c) = True
theorem zq9 {x : zkJ} (hx : zjd x) : RawRow x (zdo x) := by
 obtain ⟨a, b, c, _, _, _, _, _⟩ := hx
 have e1 : ∀ i, cel (zdo x) (6 + i) = cel (x.kind.map (fun n => AV.v (.int .u8 n)) ++ (x.hand.map (fun n => AV.v (.int .u8 n)) ++ [.v (.int .u8 x.rights), .v (.int .u8 x.side)])) i := fun i => by
  have := zpl x.cell (x.kind.map (fun n => .v (.int .u8 n)) ++ (x.hand.map (fun n => .v (.int .u8 n)) ++ [.v (.int .u8 x.rights), .v (.int .u8 x.side)])) i
  rw [a] at this; exact this
 have e2 : ∀ i, cel (zdo x) (12 + i) = cel (x.hand.map (fun n => AV.v (.int .u8 n)) ++ [.v (.int .u8 x.rights), .v (.int .u8 x.side)]) i := fun i => by
  have := zpl x.kind (x.hand.map (fun n => .v (.int .u8 n)) ++ [.v (.int .u8 x.rights), .v (.int .u8 x.side)]) i
  rw [b] at this
  rw [show 12 + i = 6 + (6 + i) by omega, e1, this]
 have e3 : ∀ i, cel (zdo x) (16 + i) = cel [AV.v (.int .u8 x.rights), .v (.int .u8 x.side)] i := fun i => by
  have := zpl x.hand [.v (.int .u8 x.rights), .v (.int .u8 x.side)] i
  rw [c] at this
  rw [show 16 + i = 12 + (4 + i) by omega, e2, this]
 refine ⟨by simp [zdo, a, b, c], fun i hi => ztR x.cell _ i (by omega), fun i hi => ?_, fun i hi => ?_, e3 0, e3 1, fun n => eq_true ?_⟩
 ·rw [e1]; exact ztR x.kind _ i (by omega)
 ·rw [e2]; exact ztR x.hand _ i (by omega)
 ·intro c hc
  simp only [zdo, List.mem_append, List.mem_map, List.mem_cons, List.not_mem_nil, or_false] at hc
  rcases hc with ⟨_, _, rfl⟩ | ⟨_, _, rfl⟩ | ⟨_, _, rfl⟩ | rfl | rfl <;> exact .v _
def zlb (g : zaf) (x : zkJ) (l : List Int) (i : Nat) : List Int :=
 if (nth x.cell i).tmod (g.cells + 1) < g.cells then l.set ((nth x.cell i).tmod (g.cells + 1)).toNat (1 + 2 * (nth x.kind i).tmod g.kinds.length + (i : Int).tmod 2) else l
def zd4 (g : zaf) (x : zkJ) (n : Nat) : List Int := (List.range n).foldl (zlb g x) (List.replicate g.cells.toNat 0)
theorem zgy (g : zaf) (x : zkJ) (n : Nat) : zd4 g x (n + 1) = zlb g x (zd4 g x n) n := by simp [zd4, List.range_succ]
theorem zrR (g : zaf) (x : zkJ) (l : List Int) (i : Nat) : (zlb g x l i).length = l.length := by unfold zlb; split <;> simp
theorem zhQ (g : zaf) (x : zkJ) (n : Nat) : (zd4 g x n).length = g.cells.toNat := by
 induction n with
 | zero => simp [zd4]
 | succ n ih => rw [zgy, zrR, ih]
def zpB (g : zaf) (x : zkJ) (s k : Nat) : Int :=
 if (nth g.kinds k).keep = true then (if 250 < nth x.hand (2 * s + k) then 8 else (nth x.hand (2 * s + k)).tmod 3) else 0
def zep (g : zaf) (x : zkJ) (s n : Nat) : List Int := (List.range g.kinds.length).map fun j => if j < n then zpB g x s j else 0
theorem zdA (g : zaf) (x : zkJ) (s n : Nat) : (zep g x s n).length = g.kinds.length := by simp [zep]
theorem zlt (g : zaf) (x : zkJ) (s : Nat) : zep g x s 0 = List.replicate g.kinds.length 0 := by
 unfold zep
 apply List.ext_getElem <;> simp
theorem zls (g : zaf) (x : zkJ) (s n : Nat) : zep g x s (n + 1) = (zep g x s n).set n (zpB g x s n) := by
 apply List.ext_getElem
 ·simp [zep]
 ·intro i h1 h2
  simp only [zep, List.getElem_map, List.getElem_range, List.getElem_set]
  by_cases h : n = i
  ·subst h; simp
  ·rw [if_neg h]
   by_cases h' : i < n
   ·rw [if_pos h', if_pos (by omega)]
   ·rw [if_neg h', if_neg (by omega)]
theorem zlr (g : zaf) (x : zkJ) (s n : Nat) (h : zpB g x s n = 0) : zep g x s (n + 1) = zep g x s n := by
 unfold zep
 apply List.map_congr_left
 intro j _
 by_cases h' : j < n
 ·rw [if_pos h', if_pos (by omega)]
 ·rw [if_neg h']
  split
  ·obtain rfl : j = n := by omega
   exact h
  ·rfl
def zer (g : zaf) (x : zkJ) : zaj := ⟨zd4 g x 6, zep g x 0 (min g.kinds.length 2), zep g x 1 (min g.kinds.length 2), x.rights.tmod (2 ^ g.rights.toNat), x.side.tmod 2⟩
end Go.Av
end
