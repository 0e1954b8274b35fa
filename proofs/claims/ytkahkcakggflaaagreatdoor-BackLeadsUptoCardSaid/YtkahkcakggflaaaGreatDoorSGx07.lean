/- Texts of ours, part 7: contracts and facts for this claim. -/
import Derived.Test.YtkahkcakggflaaaGreatDoorB07
import Derived.Test.YtkahkcakggflaaaGreatDoorSGx06
set_option linter.unusedSimpArgs false
set_option linter.unusedVariables false
set_option maxRecDepth 100000
set_option maxHeartbeats 40000000
section
open Go Go.Proofs
namespace Go.Av
theorem zlI {g : zaf} (hg : GOk g) {x : zkJ} (hx : zjd x) : POk g (zer g x) := by
 have c1 := hg.c1
 have k1 := hg.k1
 have hat : ∀ n, n ≤ 6 → ∀ c ∈ zd4 g x n, 0 ≤ c ∧ c ≤ 2 * g.kinds.length := by
  intro n
  induction n with
  | zero => intro _ c hc; simp [zd4] at hc; omega
  | succ n ih =>
   intro hn c hc
   rw [zgy] at hc
   unfold zlb at hc
   split at hc
   ·rcases List.mem_or_eq_of_mem_set hc with hc | rfl
    ·exact ih (by omega) c hc
    ·have hkv : U8 (nth x.kind n) := hx.kv _ (zan (by rw [hx.k6]; omega))
     have a := Int.tmod_nonneg (g.kinds.length : Int) hkv.1
     have b := Int.tmod_lt_of_pos (nth x.kind n) (show (0 : Int) < g.kinds.length by omega)
     have c := Int.tmod_nonneg 2 (show (0 : Int) ≤ n by omega)
     have d := Int.tmod_lt_of_pos (n : Int) (show (0 : Int) < 2 by decide)
     omega
   ·exact ih (by omega) c hc
 have hh : ∀ s, s < 2 → zew g (zep g x s (min g.kinds.length 2)) := by
  intro s hs
  refine ⟨zdA _ _ _ _, fun i hi => ?_⟩
  rw [zdA] at hi
  have e : nth (zep g x s (min g.kinds.length 2)) i = if i < min g.kinds.length 2 then zpB g x s i else 0 := by
   unfold zep
   rw [zbb _ _ _ (by simpa using hi)]
   simp [nth, hi]
  rw [e]
  split
  ·have hv : U8 (nth x.hand (2 * s + i)) := hx.hv _ (zan (by rw [hx.h4]; omega))
   have a := Int.tmod_nonneg 3 hv.1
   have b := Int.tmod_lt_of_pos (nth x.hand (2 * s + i)) (show (0 : Int) < 3 by decide)
   unfold zpB
   split
   ·rename_i hk
    split <;> exact ⟨by omega, by omega, fun _ => hk⟩
   ·exact ⟨by omega, by omega, fun h => by omega⟩
  ·exact ⟨by omega, by omega, fun h => by omega⟩
 have hp := zi0 hg.r0 hg.r4
 refine ⟨?_, hat 6 (Nat.le_refl _), hh 0 (by omega), hh 1 (by omega), Int.tmod_nonneg _ hx.r.1, Int.tmod_lt_of_pos _ (by omega), ?_⟩
 ·show ((zd4 g x 6).length : Int) = g.cells
  rw [zhQ]; omega
 ·have a := Int.tmod_nonneg 2 hx.s.1
  have b := Int.tmod_lt_of_pos x.side (show (0 : Int) < 2 by decide)
  show x.side.tmod 2 = 0 ∨ x.side.tmod 2 = 1
  omega
def zcJ (l : List (List zaZ)) : Nat := (l.map (·.length)).sum
def zbT (l : List (List (List zaZ))) : Nat := (l.map zcJ).sum
def zea (c : zl6) : Nat := zbT c.1 + zbT c.2
def zpZ (b : zaL) (side : Int) (p : List (Int × Int)) : Nat := ((List.range b.cells.toNat).map fun (c : Nat) => (zbB b side p c).length).sum
theorem zfd {α : Type} (f g : α → Nat) : ∀ l : List α, (l.map fun x => f x + g x).sum = (l.map f).sum + (l.map g).sum
 | [] => rfl
 | x :: l => by simp [zfd f g l]; omega
theorem ziy {α : Type} : ∀ l : List α, (l.map fun _ => 0).sum = 0
 | [] => rfl
 | x :: l => by simpa using ziy l
theorem zjt (b : zaL) (side : Int) : ∀ progs : List (List (Int × Int)), zcJ (zfu b side progs) = (progs.map (zpZ b side)).sum
 | [] => by
  unfold zcJ zfu zbu
  simp only [List.flatMap_nil, List.map_map, List.map_nil, List.sum_nil]
  exact ziy _
 | p :: progs => by
  have ih := zjt b side progs
  unfold zcJ zfu zbu at *
  rw [List.map_map] at ih ⊢
  simp only [List.flatMap_cons, List.map_cons, List.sum_cons, ← ih]
  unfold zpZ
  rw [← zfd]
  congr 1
  refine List.map_congr_left fun c _ => ?_
  simp
theorem zlh (g : zaf) (side : Int) : zbT (zby g side) = (g.kinds.map fun k => (k.progs.map (zpZ g.board side)).sum).sum := by
 unfold zbT zby
 rw [List.map_map]
 congr 1
 refine List.map_congr_left fun k _ => ?_
 exact zjt _ _ _
def zwM (g : zaf) (p : List (Int × Int)) : Nat := zpZ g.board 0 p + zpZ g.board 1 p
theorem ztV (g : zaf) : zea (zbD g) = (g.kinds.map fun k => (k.progs.map (zwM g)).sum).sum := by
 unfold zea zbD
 rw [zlh, zlh, ← zfd]
 congr 1
 refine List.map_congr_left fun k _ => ?_
 rw [← zfd]
 rfl
theorem zq3 {g : zaf} (hg : GOk g) (side : Int) {p : List (Int × Int)} (hs : zaI p 2 ≤ 1) : zpZ g.board side p ≤ 81 := by
 have c9 := hg.c9
 have c1 := hg.c1
 have := zeO (fun (c : Nat) => (zbB g.board side p c).length) 9 (List.range g.board.cells.toNat) (fun c _ => by
  have h := zhY hg.board hg.c1 side p c
  have h2 : g.board.cells.toNat ≤ 9 := by have : g.board.cells = g.cells := rfl; omega
  rcases (show zaI p 2 = 0 ∨ zaI p 2 = 1 by omega) with e | e <;> rw [e] at h <;> simp at h <;> omega)
 have h2 : g.board.cells.toNat ≤ 9 := by have : g.board.cells = g.cells := rfl; omega
 rw [List.length_range] at this
 unfold zpZ
 omega
theorem ztW {g : zaf} (hg : GOk g) (hs : zbg g) : zea (zbD g) ≤ 10000 := by
 rw [ztV]
 have := zeO (fun k : zgp => (k.progs.map (zwM g)).sum) 1296 g.kinds (fun k hk => by
  have := zeO (zwM g) 162 k.progs (fun p hp => by
   have a := zq3 hg 0 (hs k hk p hp)
   have b := zq3 hg 1 (hs k hk p hp)
   unfold zwM; omega)
  have := hg.pn k hk
  omega)
 have := hg.k6
 omega
theorem zo3 (a b : StD) (ha : zaW a.p) (hb : zaW b.p) : zaC Tryz.prog 300 [.agg (zal a), .agg (zal b)] (.v (.bool (decide (a = b)))) := by
 refine pF Tryz.func300 ?_
 have hC := zd8 _ _ ha hb
 have he := zpo (p := a.p) (q := b.p)
 obtain ⟨pa, ka, ca, ta⟩ := a
 obtain ⟨pb, kb, cb, tb⟩ := b
 simp only at hC he
 repeat first|with_reducible refine wV fun _=>?_|simp [go_sem]
 refine zzc _ (fun _ => hC) (by simp [go_sem]) ?_
 repeat first|with_reducible refine wV fun _=>?_|simp [go_sem]
 refine zyW ?_
 by_cases h1 : pa = pb <;> by_cases h2 : ka = kb <;> by_cases h3 : ca = cb <;> cases ta <;> cases tb <;> simp_all
theorem zo1 (s : StD) (b : Bool) : zaC Tryz.prog 301 [.agg (zal s), .v (.bool b)] (zaO (zcQ s b)) := by
 refine pF Tryz.func301 ?_
 cases b
 ·repeat first|with_reducible refine wV fun _=>?_|simp [go_sem, zcQ]
  exact frX
 ·repeat first|with_reducible refine wV fun _=>?_|simp [go_sem, zcQ]
  exact frX
theorem zm8 (g : zaf) (hg : GOk g) (s : StD) (hs : zfn g s) (n : Int) : zaC Tryz.prog 302 [.agg (zab g), .agg (zal s), .v (.int .i64 n)] (zaO (zkn g.board s n)) := by
 refine pF Tryz.func302 ?_
 have hL := zi7 g.board hg.board s.p.side n s.cursor
 have hlm := zeF hg.board (side := s.p.side) (d := n) (c := s.cursor)
 have hll := zjT (b := g.board) (side := s.p.side) (d := n) (c := s.cursor)
 have c9 := hg.c9
 have c1 := hg.c1
 have hal := hs.p.al
 rw [show g.board.cells = g.cells from rfl] at hlm hll
 unfold zkn
 generalize zfH g.board s.p.side n s.cursor = line at *
 generalize hR : zbN s line = R
 repeat first|with_reducible refine wV fun _=>?_|simp [go_sem]
 refine zyJ hL (by simp [go_sem]) ?_
 repeat first|with_reducible refine wV fun _=>?_|simp [go_sem]
 refine zyI (zyN (α := Nat × List StD) (fun a => ⟨[(4, .ref 1 0 8 0 0), (7, .sl 2 a.2.length 8 0 a.2.length), (8, zas line), (9, .v (.int .i64 a.1))], [(1, .rows true 0 8 [zal s]), (2, .rows true a.2.length 8 (a.2.map zal))], 3⟩)
  (fun d a => a.1 + d = line.length ∧ a.2.length = a.1 ∧ R = a.2 ++ zbN s (line.drop a.1)) ?_ line.length (0, []) ?_) ?_ ?_
 ·rintro d ⟨i, out⟩ ⟨i1, i2, i3⟩ hrec
  simp only at i1 i2 i3
  repeat first|with_reducible refine wV fun _=>?_|simp [go_sem]
  refine zyK (fun hi => ?_) (fun hi => ?_) <;> simp at hi
  ·have hli := hlm _ (zan hi)
   have hlt : (nth line i).toNat < s.p.at_.length := by omega
   rw [zaM hi, zbN] at i3
   repeat first|with_reducible refine wV fun _=>?_|simp [go_sem, hi, hlt]
   refine zyK (fun hz => ?_) (fun hz => ?_) <;> simp at hz
   ·rw [if_neg (by simpa using hz)] at i3
    repeat first|with_reducible refine wV fun _=>?_|simp [go_sem]
    rw [i3]
    exact frX
   ·rw [if_pos (by simpa using hz)] at i3
    repeat first|with_reducible refine wV fun _=>?_|simp [go_sem]
    refine zyI (hrec (d - 1) (by omega) (i + 1, out ++ [{ s with cursor := nth line i }]) ⟨by simp only; omega, by simp; omega, by simpa using i3⟩) ?_ (by simp)
    simp [go_sem, zah]
  ·rw [List.drop_eq_nil_of_le hi, zbN] at i3
   repeat first|with_reducible refine wV fun _=>?_|simp [go_sem]
   rw [i3]
   exact frX
 ·simp [hR]
 ·simp [go_sem, zah]
 ·simp
theorem zo4 (g : zaf) (hg : GOk g) (s : StD) (hs : zfn g s) : zaC Tryz.prog 303 [.agg (zab g), .agg (zal s)] (zaO (zmS g s)) := by
 refine pF Tryz.func303 ?_
 have hal := hs.p.al
 have hc0 := hs.c0
 have hc1 := hs.c1
 have hcur : s.cursor.toNat < s.p.at_.length := by omega
 have hO := zdS (nth s.p.at_ s.cursor.toNat)
 have hat := hs.p.at (i := s.cursor.toNat) (by omega)
 have hman := zaS hat.1 hat.2 hg.k6
 have hcp := zdX s.p (hs.p.fits hg)
 unfold zmS
 generalize hm : zaq (nth s.p.at_ s.cursor.toNat) = m at *
 obtain ⟨mk, ms⟩ := m
 simp only [Prod.mk.injEq] at hman
 repeat first|with_reducible refine wV fun _=>?_|simp [go_sem, hcur]
 refine zyJ hO (by simp [go_sem]) ?_
 repeat first|with_reducible refine wV fun _=>?_|simp [go_sem]
 refine zyK (fun hc => ?_) (fun hc => ?_) <;> simp at hc
 ·rw [if_pos hc]
  repeat first|with_reducible refine wV fun _=>?_|simp [go_sem]
  exact frX
 ·rw [if_neg (by omega)]
  repeat first|with_reducible refine wV fun _=>?_|simp [go_sem]
  refine zyO hcp (by simp [go_sem]) ?_
  have hmk : mk.toNat < g.kinds.length := by omega
  repeat first|with_reducible refine wV fun _=>?_|simp [go_sem, hcur, hmk]
  refine zyK (fun hk => ?_) (fun hk => ?_)
  ·rw [if_pos hk]
   have hl0 := hs.p.h0.len
   have hl1 := hs.p.h1.len
   rcases hs.p.s with hsd | hsd
   ·have hmk0 : mk.toNat < s.p.h0.length := by omega
    have hmk' : 0 ≤ mk := by omega
    have hv := hs.p.h0.v _ hmk0
    repeat first|with_reducible refine wV fun _=>?_|simp [go_sem, hsd, hmk0, hcur]
    refine zyK (fun h8 => ?_) (fun h8 => ?_) <;> simp at h8
    ·rw [if_pos (by simpa [zaj.hand, hsd] using h8)]
     repeat first|with_reducible refine wV fun _=>?_|simp [go_sem]
     exact frX
    ·rw [if_neg (by simpa [zaj.hand, hsd] using h8)]
     repeat first|with_reducible refine wV fun _=>?_|simp [go_sem, hsd, zaj.withHand, zaj.hand, clr]
     (first|done|exact dpX)
   ·have hmk0 : mk.toNat < s.p.h1.length := by omega
    have hmk' : 0 ≤ mk := by omega
    have hv := hs.p.h1.v _ hmk0
    repeat first|with_reducible refine wV fun _=>?_|simp [go_sem, hsd, hmk0, hcur]
    refine zyK (fun h8 => ?_) (fun h8 => ?_) <;> simp at h8
    ·rw [if_pos (by simpa [zaj.hand, hsd] using h8)]
     repeat first|with_reducible refine wV fun _=>?_|simp [go_sem]
     exact frX
    ·rw [if_neg (by simpa [zaj.hand, hsd] using h8)]
     repeat first|with_reducible refine wV fun _=>?_|simp [go_sem, hsd, zaj.withHand, zaj.hand, clr]
     (first|done|exact dpX)
  ·rw [if_neg (by simpa using hk)]
   repeat first|with_reducible refine wV fun _=>?_|simp [go_sem, clr]
   (first|done|exact dpX)
theorem zo2 (g : zaf) (hg : GOk g) (s : StD) (hs : zfn g s) (n : Int) : zaC Tryz.prog 304 [.agg (zab g), .agg (zal s), .v (.int .i64 n)] (zaO (zmN g s n)) := by
 refine pF Tryz.func304 ?_
 have hT := zgR g.board hg.board s.p.side n s.cursor
 repeat first|with_reducible refine wV fun _=>?_|simp [go_sem]
 refine zyJ hT (by simp [go_sem]) ?_
 have hal := hs.p.al
 have hc0 := hs.c0
 have hc1 := hs.c1
 have hcur : s.cursor.toNat < s.p.at_.length := by omega
 have hcp := zdX s.p (hs.p.fits hg)
 have hto := zfQ hg.board s.p.side n s.cursor
 rw [show g.board.cells = g.cells from rfl] at hto
 unfold zmN
 generalize toB g.board s.p.side n s.cursor = to at *
 by_cases ht : to < 0
 ·rw [if_pos (.inr (.inl ht))]
  have ht0 : to.toNat = 0 := by omega
  have h0l : 0 < s.p.at_.length := by omega
  repeat first|with_reducible refine wV fun _=>?_|simp [go_sem, hcur, ht, ht0, h0l]
  exact frX
 ·have htl : to.toNat < s.p.at_.length := by omega
  have ht' : 0 ≤ to := by omega
  repeat first|with_reducible refine wV fun _=>?_|simp [go_sem, hcur, ht, htl]
  refine zyK (fun hc => ?_) (fun hc => ?_) <;> simp at hc
  ·rw [if_pos (by by_cases h : nth s.p.at_ s.cursor.toNat = 0; exact .inl h; exact .inr (hc.resolve_left h))]
   repeat first|with_reducible refine wV fun _=>?_|simp [go_sem]
   exact frX
  ·rw [if_neg (by rintro (h | h); exact hc.1 h; exact h hc.2)]
   repeat first|with_reducible refine wV fun _=>?_|simp [go_sem, hcur]
   refine zyO hcp (by simp [go_sem]) ?_
   repeat first|with_reducible refine wV fun _=>?_|simp [go_sem, hcur, htl]
   (first|done|exact dpX)
theorem zrx (l more : List StD) (hl : l.length + more.length ≤ 17179869184) (h1 : ∀ s ∈ l, zaW s.p) (h2 : ∀ s ∈ more, zaW s.p) :
  ziC Tryz.prog 293 [.sl 0 l.length 8 0 l.length, zaO more] [(0, .rows true l.length 8 (l.map zal))] 1 (.sl 0 (zev l more).length 8 0 (zev l more).length) [(0, .rows true (zev l more).length 8 ((zev l more).map zal))] 1 := by
 unfold ziC
 refine zyL (by kernel_rfl) Tryz.func293 rfl rfl (Nat.le_of_ble_eq_true rfl) (by kernel_rfl) ?_
 repeat first|with_reducible refine wV fun _=>?_|simp [go_sem]
 refine zyI (zyN (α := Nat × List StD) (fun a => ⟨[(0, .sl 0 a.2.length 8 0 a.2.length), (1, zaO more), (5, .v (.int .i64 a.1))], [(0, .rows true a.2.length 8 (a.2.map zal))], 1⟩)
  (fun d a => a.1 + d = more.length ∧ a.2 = zev l (more.take a.1)) ?_ more.length (0, l) ?_) ?_ ?_
 ·rintro d ⟨i, out⟩ ⟨i1, i2⟩ hrec
  simp only at i1 i2
  have hol := zgU (more.take i) l
  rw [← i2] at hol
  have hof : ∀ s ∈ out, zaW s.p := by rw [i2]; exact ziM h1 (fun s hs => h2 s (List.mem_of_mem_take hs))
  repeat first|with_reducible refine wV fun _=>?_|simp [go_sem]
  refine zyK (fun hi => ?_) (fun hi => ?_) <;> simp at hi
  ·have htl : (more.take i).length = i := by simp; omega
   have hfi := h2 _ (zan hi)
   have hsu := znd l more hi
   rw [← i2] at hsu
   repeat first|with_reducible refine wV fun _=>?_|simp [go_sem]
   refine zyI (zyN (α := Nat) (fun k => ⟨[(0, .sl 0 out.length 8 0 out.length), (1, zaO more), (5, .v (.int .i64 i)), (6, .v (.bool (decide (nth more i ∈ out.take k)))), (7, .v (.int .i64 k))], [(0, .rows true out.length 8 (out.map zal))], 1⟩)
    (fun d k => k + d = out.length) ?_ out.length 0 ?_) ?_ ?_
   ·rintro d2 k k1 hrec2
    repeat first|with_reducible refine wV fun _=>?_|simp [go_sem]
    refine zyK (fun hk => ?_) (fun hk => ?_) <;> simp at hk
    ·have hfk := hof _ (zan hk)
     have htk : out.take (k + 1) = out.take k ++ [nth out k] := by rw [List.take_add_one, List.getElem?_eq_getElem hk, zaJ _ _ hk]; rfl
     repeat first|with_reducible refine wV fun _=>?_|simp [go_sem, hi, hk]
     refine zyV _ (fun _ => zo3 _ _ hfk hfi) (by simp [go_sem]) ?_
     repeat first|with_reducible refine wV fun _=>?_|simp [go_sem, hi, hk]
     refine zyI (hrec2 (d2 - 1) (by omega) (k + 1) (by omega)) ?_ (by simp)
     simp [go_sem, zah, htk, eq_comm (a := nth more i) (b := nth out k)]
    ·have hkl : k = out.length := by omega
     subst hkl
     repeat first|with_reducible refine wV fun _=>?_|simp [go_sem]
     by_cases hm : nth more i ∈ out
     ·rw [if_pos hm] at hsu
      repeat first|with_reducible refine wV fun _=>?_|simp [go_sem, hm]
      refine zyI (hrec (d - 1) (by omega) (i + 1, out) ⟨by simp only; omega, hsu.symm⟩) ?_ (by simp)
      simp [go_sem, zah]
     ·rw [if_neg hm] at hsu
      repeat first|with_reducible refine wV fun _=>?_|simp [go_sem, hm, hi]
      refine zyI (hrec (d - 1) (by omega) (i + 1, out ++ [nth more i]) ⟨by simp only; omega, hsu.symm⟩) ?_ (by simp)
      simp [go_sem, zah]
   ·omega
   ·simp [go_sem, zah]
   ·simp
  ·have hil : i = more.length := by omega
   subst hil
   rw [List.take_length] at i2
   rw [← i2]
   repeat first|with_reducible refine wV fun _=>?_|simp [go_sem]
   simp [go_sem, zah]
 ·simp [zqr]
 ·simp [go_sem, zah]
 ·simp
theorem zo0 (g : zaf) (hg : GOk g) (s : StD) (hs : zfn g s) (x : Int × Int) (hx : zex g.next.length g.kinds.length g.rights x) :
  zaC Tryz.prog 294 [.agg (zab g), .agg (zal s), .agg (zau x)] (zaO (zbV g s x)) := by
 refine pF Tryz.func294 ?_
 have hal := hs.p.al
 have hc0 := hs.c0
 have hc1 := hs.c1
 have hcur : s.cursor.toNat < s.p.at_.length := by omega
 have hat := hs.p.at (i := s.cursor.toNat) (by omega)
 have hO := zdS (nth s.p.at_ s.cursor.toNat)
 have hTo := fun n => zgR g.board hg.board s.p.side n s.cursor
 have hOn := fun u b => zo1 u b
 have hSl := fun n => zm8 g hg s hs n
 have hTk := zo4 g hg s hs
 have hPu := fun n => zo2 g hg s hs n
 have r0 := hg.r0
 have r4 := hg.r4
 obtain ⟨op, n⟩ := x
 obtain ⟨xo, xd, xz, xk, xr⟩ := hx
 simp only at xo xd xz xk xr
 unfold zbV
 generalize hm : zaq (nth s.p.at_ s.cursor.toNat) = m at *
 obtain ⟨mk, ms⟩ := m
 repeat first|with_reducible refine wV fun _=>?_|simp [go_sem, hcur]
 refine zyJ hO (by simp [go_sem]) ?_
 rcases (show op = 1 ∨ op = 2 ∨ op = 3 ∨ op = 4 ∨ op = 5 ∨ op = 6 ∨ op = 7 ∨ op = 8 ∨ op = 9 ∨ op = 10 by omega) with rfl | rfl | rfl | rfl | rfl | rfl | rfl | rfl | rfl | rfl
 ·repeat first|with_reducible refine wV fun _=>?_|simp [go_sem]
  refine zyJ (hTo n) (by simp [go_sem]) ?_
  repeat first|with_reducible refine wV fun _=>?_|simp [go_sem]
  refine zyJ (hOn { s with cursor := toB g.board s.p.side n s.cursor } _) (by simp [go_sem]) ?_
  repeat first|with_reducible refine wV fun _=>?_|simp [go_sem]
 ·repeat first|with_reducible refine wV fun _=>?_|simp [go_sem]
  refine zyJ (hSl n) (by simp [go_sem]) ?_
  repeat first|with_reducible refine wV fun _=>?_|simp [go_sem]
 ·repeat first|with_reducible refine wV fun _=>?_|simp [go_sem]
  refine zyJ (hOn s _) (by simp [go_sem]) ?_
  repeat first|with_reducible refine wV fun _=>?_|simp [go_sem]
 ·repeat first|with_reducible refine wV fun _=>?_|simp [go_sem]
  refine zyJ (hOn s _) (by simp [go_sem]) ?_
  repeat first|with_reducible refine wV fun _=>?_|simp [go_sem]
 ·repeat first|with_reducible refine wV fun _=>?_|simp [go_sem]
  refine zyJ (hOn s _) (by simp [go_sem]) ?_
  repeat first|with_reducible refine wV fun _=>?_|simp [go_sem]
 ·repeat first|with_reducible refine wV fun _=>?_|simp [go_sem]
  refine zyJ hTk (by simp [go_sem]) ?_
  repeat first|with_reducible refine wV fun _=>?_|simp [go_sem]
 ·repeat first|with_reducible refine wV fun _=>?_|simp [go_sem]
  refine zyJ (hPu n) (by simp [go_sem]) ?_
  repeat first|with_reducible refine wV fun _=>?_|simp [go_sem]
 ·repeat first|with_reducible refine wV fun _=>?_|simp [go_sem]
  exact frX
 ·have hn := xr (by omega)
  repeat first|with_reducible refine wV fun _=>?_|simp [go_sem]
  refine zyM (hOn s _) (by simp [go_sem]) ?_
  repeat first|with_reducible refine wV fun _=>?_|simp [go_sem]
 ·have hn := xr (by omega)
  have hpn := zi0 hn.1 (show n ≤ 4 by omega)
  repeat first|with_reducible refine wV fun _=>?_|simp [go_sem]
  exact frX
theorem zwU (g : zaf) (p : zaj) (cell : Int) (prog : List (Int × Int)) (n : Nat) : stR g p cell prog (n + 1) = stR g p cell prog n ++ [[zaO (zbO g p cell prog n)]] := by simp [stR, List.range_succ]
theorem zym (g : zaf) (p : zaj) (cell : Int) (prog : List (Int × Int)) {n j : Nat} (h : j < n) : nth (stR g p cell prog n) j = [zaO (zbO g p cell prog j)] := by
 unfold stR; rw [zbb _ _ _ (by simpa using h)]; simp [nth, h]
theorem ztG {n : Nat} (l : List StD) : Bel n (zaO l) := of_eq_true zpj
theorem zrw (g : zaf) (hg : GOk g) (p : zaj) (hp : POk g p) (cell i : Int) (hc : zci g p cell i) :
  zaC Tryz.prog 285 [.agg (zab g), .agg (zad p), .v (.int .i64 cell), .v (.int .i64 i)]
   (.agg [.lst 1 (stR g p cell (za5 g p cell i) ((za5 g p cell i).length + 1)), .v (.int .i64 0)]) := by
 refine pF Tryz.func285 ?_
 have hal := hp.al
 obtain ⟨c0, c1, cm, cs, i0, i1⟩ := hc
 have hcur : cell.toNat < p.at_.length := by omega
 have hat := hp.at (i := cell.toNat) (by omega)
 have hO := zdS (nth p.at_ cell.toNat)
 have hman := zaS hat.1 hat.2 hg.k6
 have hcp := zdX p (hp.fits hg)
 have hV := zdU g (by have := hg.k6; unfold zfo; omega) ⟨hg.r0, by have := hg.r4; omega⟩ p (hp.fits hg)
 rw [ze7.2 hp] at hV
 have hkl : (zaq (nth p.at_ cell.toNat)).1.toNat < g.kinds.length := by
  rcases hman with ⟨_, e⟩ | ⟨_, a, b, _⟩
  ·rw [e] at cm; simp at cm
  ·omega
 have hil : i.toNat < (nth g.kinds (zaq (nth p.at_ cell.toNat)).1.toNat).progs.length := by omega
 have hpg := hg.pr _ (zan hkl) _ (zan hil)
 have hst := fun n hn => zhq hg hp c0 c1 cm (prog := za5 g p cell i) hpg.st n hn
 have hz := zgK g p cell (za5 g p cell i)
 have hsu := fun n hn => zgJ g p cell (za5 g p cell i) (n := n) hn
 have hR := fun n => zwU g p cell (za5 g p cell i) n
 have hp8 := hpg.len
 have hpst := hpg.st
 have hpe : za5 g p cell i = nth (nth g.kinds (zaq (nth p.at_ cell.toNat)).1.toNat).progs i.toNat := rfl
 rw [← hpe] at hp8 hpst
 obtain ⟨prog, hprog⟩ : ∃ q, q = za5 g p cell i := ⟨_, rfl⟩
 rw [← hprog] at hst hz hsu hR hp8 hpst hpe ⊢
 generalize hm : zaq (nth p.at_ cell.toNat) = m at *
 obtain ⟨mk, ms⟩ := m
 simp only at cm cs i1 hkl hil hpe
 repeat first|with_reducible refine wV fun _=>?_|simp [go_sem]
 refine zyJ hV (by simp [go_sem]) ?_
 repeat first|with_reducible refine wV fun _=>?_|simp [go_sem]
 (refine zyK (fun hF => by first | omega | (simp at hF; omega)) (fun hF => ?_); clear hF)
 repeat first|with_reducible refine wV fun _=>?_|simp [go_sem, hcur]
 refine zyJ hO (by simp [go_sem]) ?_
 repeat first|with_reducible refine wV fun _=>?_|simp [go_sem, hkl, hil]
 refine zyK (fun hF => by simp at hF; omega) (fun hF => ?_)
 clear hF
 repeat first|with_reducible refine wV fun _=>?_|simp [go_sem]
 refine zy9 28 (by rfl) (hcp) (by decide) (by simp [go_sem]) (by simp [go_sem]) (fun _ => zai.refl _ _ _ _) (by simp [go_sem]) (by simp [go_sem]) ?_
 ((repeat (first|with_reducible (first|refine wL fun _=>?_|refine wD fun _=>?_|refine wZ ?_)|simp [go_sem])); refine zzb (by kernel_rfl) ?_)
 repeat first|with_reducible refine wV fun _=>?_|simp [go_sem, hcur, hkl, hil]
 rw [← hpe]
 have hsz : ∀ n, n ≤ prog.length → (zbO g p cell prog n).length ≤ 100000000 := fun n hn => Nat.le_trans (hst n hn).2 (ziZ (by omega))
 have hst0 : zaO (zbO g p cell prog 0) = .lst 8 [[.lst 1 ((p.at_.map zb3).set cell.toNat [.v (.int .i64 0)]), zas p.h0, zas p.h1, .v (.int .i64 p.rights), .v (.int .i64 p.side), .v (.int .i64 mk), .v (.int .i64 cell), .v (.bool false)]] := by
  rw [hz]; simp [zaO, zeL, zal, clr, hm, zas, zb3, List.map_set]
 have hR0 : stR g p cell prog 1 = [[zaO (zbO g p cell prog 0)]] := rfl
 refine zyI (zyN (α := Nat) (fun k => ⟨[(4, .ref 0 0 9 0 0), (8, .ref 2 0 2 0 0), (11, .ref 146 0 2 0 0), (12, zaO (zbO g p cell prog k)), (13, zar prog), (14, .v (.int .i64 k))],
   [(0, .rows true 0 9 [zab g]), (2, .rows true 0 2 [[zyQ, .v (.int .i64 0)]]), (142, .rows true k 1 (stR g p cell prog (k + 1))), (146, .rows true 0 2 [[.sl 142 k 1 0 (k + 1), .v (.int .i64 0)]])], 148⟩)
  (fun d k => k + d = prog.length) ?_ prog.length 0 ?_) ?_ ?_
 ·rintro d k k1 hrec
  repeat first|with_reducible refine wV fun _=>?_|simp [go_sem]
  refine zyK (fun hk => ?_) (fun hk => ?_) <;> simp at hk
  ·have hkk := hst k (by omega)
   have hks := hsz k (by omega)
   have hks' := hsz (k + 1) (by omega)
   have hsk := hsu k hk
   have hxs := hpst _ (zan hk)
   have hpo := fun n hn => zmL hg hxs hkk.1 n hn
   have hpa := zkb g (zbO g p cell prog k) (nth prog k)
   have hpz := zlS g (zbO g p cell prog k) (nth prog k)
   have hps := fun n hn => zhV g (zbO g p cell prog k) (nth prog k) (n := n) hn
   rw [← hsk] at hpa
   obtain ⟨now, hnow⟩ : ∃ now, now = zbO g p cell prog k := ⟨_, rfl⟩
   rw [← hnow] at hkk hks hpo hpa hpz hps ⊢
   obtain ⟨x, hx⟩ : ∃ x, x = nth prog k := ⟨_, rfl⟩
   rw [← hx] at hxs hpo hpa hpz hps
   repeat first|with_reducible refine wV fun _=>?_|simp [go_sem]
   refine zyI (zyN (α := Nat) (fun n => ⟨[(4, .ref 0 0 9 0 0), (8, .ref 2 0 2 0 0), (11, .ref 146 0 2 0 0), (12, zaO now), (13, zar prog), (14, .v (.int .i64 k)), (15, .sl 148 (zda g now x n).length 8 0 (zda g now x n).length), (16, .v (.int .i64 n))],
     [(0, .rows true 0 9 [zab g]), (2, .rows true 0 2 [[zyQ, .v (.int .i64 0)]]), (142, .rows true k 1 (stR g p cell prog (k + 1))), (146, .rows true 0 2 [[.sl 142 k 1 0 (k + 1), .v (.int .i64 0)]]), (148, .rows true (zda g now x n).length 8 ((zda g now x n).map zal))], 149⟩)
    (fun d n => n + d = now.length) ?_ now.length 0 ?_) ?_ ?_
   ·rintro d2 n n1 hrec2
    repeat first|with_reducible refine wV fun _=>?_|simp [go_sem]
    refine zyK (fun hn => ?_) (fun hn => ?_) <;> simp at hn
    ·have hsn := hkk.1 _ (zan hn)
     have hpn := hps n hn
     have hpoN := hpo n (by omega)
     have hpoS := hpo (n + 1) (by omega)
     have hSt := zo0 g hg (nth now n) hsn.1 x hxs
     have hsl := zku hg (nth now n) x
     have hso := zhr hg hsn.1 hxs
     have hAd := zrx (zda g now x n) (zbV g (nth now n) x) (by omega) (fun s hs => (hpoN.1 s hs).1.p.fits hg) (fun s hs => (hso s hs).1.p.fits hg)
     rw [← hpn] at hAd
     repeat first|with_reducible refine wV fun _=>?_|simp [go_sem, hn, hk, ← hx]
     refine zyM hSt (by simp [go_sem]) ?_
     repeat first|with_reducible refine wV fun _=>?_|simp [go_sem]
     refine zzn (o := 148) hAd rfl (of_eq_true zqC) (of_eq_true zqC) (fun _ => .cons (.sl rfl) (.cons (.same (ztG _)) .nil)) (by simp [go_sem]) (fun n₁ hn₁ => by simp [go_sem, hn₁]) (fun _ => .sl rfl) (.inr ⟨_, _, _, _, rfl⟩) ?_
     repeat first|with_reducible refine wV fun _=>?_|simp [go_sem]
     refine zyI (hrec2 (d2 - 1) (by omega) (n + 1) (by omega)) ?_ (by simp)
     simp [go_sem, zah]
    ·have hnl : n = now.length := by omega
     subst hnl
     rw [hpa]
     repeat first|with_reducible refine wV fun _=>?_|simp [go_sem]
     have hRk := hR (k + 1)
     refine zyI (hrec (d - 1) (by omega) (k + 1) (by omega)) ?_ (by simp)
     simp [go_sem, zah, hRk]
     refine ⟨?_, zag (.refl _) (.cons (.cons ?_ .nil) .nil)⟩ <;> exact frX
   ·omega
   ·simp [go_sem, zah, hpz]
   ·simp
  ·have hkl' : k = prog.length := by omega
   subst hkl'
   repeat first|with_reducible refine wV fun _=>?_|simp [go_sem]
   exact zam rfl (by rw [zqb]; omega) (by simp [noH, upd]) (by rw [List.drop_zero, List.take_of_length_le (by rw [zqb]; omega)])
 ·omega
 ·simp [go_sem, zah, hR0]
  rw [show AV.lst 8 (List.map zal (zbO g p cell prog 0)) = _ from hst0]
  refine ⟨?_, ?_⟩
  ·(first|done|exact dpX)
  ·(first|done|exact dpX)
 ·simp
theorem zja (a b : zco) (ha : zaW a.pos) (hb : zaW b.pos) : zaC Tryz.prog 295 [.agg (zat a), .agg (zat b)] (.v (.bool (zn6 a b))) := by
 refine pF Tryz.func295 ?_
 have hC := zd8 _ _ ha hb
 unfold zn6
 obtain ⟨pa, ta⟩ := a
 obtain ⟨pb, tb⟩ := b
 simp only at hC ⊢
 generalize zbw pa pb = c at *
 repeat first|with_reducible refine wV fun _=>?_|simp [go_sem]
 refine zyJ hC (by simp [go_sem]) ?_
 by_cases c1 : c < 0
 ·repeat first|with_reducible refine wV fun _=>?_|simp [go_sem, c1]
 ·by_cases c2 : c = 0
  ·subst c2
   cases ta <;> cases tb <;> (repeat (first|with_reducible refine wV fun _=>?_|simp [go_sem]))
  ·cases ta <;> cases tb <;> (repeat (first|with_reducible refine wV fun _=>?_|simp [go_sem, c1, c2]))
def zkV (x : zco) (l : List zco) (dn : Bool) : List zco := if dn then l else zbL x l
theorem zma (l : List zco) (x : zco) (hl : l.length ≤ 17179869184) (h1 : ∀ o ∈ l, zaW o.pos) (h2 : zaW x.pos) : zaC Tryz.prog 286 [za3 l, .agg (zat x)] (za3 (zbL x l)) := by
 refine pF Tryz.func286 ?_
 obtain ⟨R, hR⟩ : ∃ R, R = zbL x l := ⟨_, rfl⟩
 rw [← hR]
 repeat first|with_reducible refine wV fun _=>?_|simp [go_sem]
 refine zyI (zyN (α := Nat × List zco × Bool) (fun a => ⟨[(0, za3 l), (3, .ref 0 0 6 0 0), (5, .sl 1 a.2.1.length 6 0 a.2.1.length), (6, .v (.bool a.2.2)), (7, .v (.int .i64 a.1))], [(0, .rows true 0 6 [zat x]), (1, .rows true a.2.1.length 6 (a.2.1.map zat))], 2⟩)
  (fun d a => a.1 + d = l.length ∧ a.2.1.length ≤ a.1 + a.2.2.toNat ∧ R = a.2.1 ++ zkV x (l.drop a.1) a.2.2) ?_ l.length (0, [], false) ?_) ?_ ?_
 ·rintro d ⟨i, out, dn⟩ ⟨i1, i2, i3⟩ hrec
  simp only at i1 i2 i3
  repeat first|with_reducible refine wV fun _=>?_|simp [go_sem]
  refine zyK (fun hi => ?_) (fun hi => ?_) <;> simp at hi
  ·have f1 := h1 _ (zan hi)
   have hL1 := zja (nth l i) x f1 h2
   have hL2 := zja x (nth l i) h2 f1
   rw [zaM hi] at i3
   cases dn
   ·simp only [zkV, zbL] at i3
    simp only [Bool.toNat_false] at i2
    repeat first|with_reducible refine wV fun _=>?_|simp [go_sem, hi]
    refine zyV _ (fun _ => hL1) (by simp [go_sem]) ?_
    repeat first|with_reducible refine wV fun _=>?_|simp [go_sem, hi]
    by_cases l1 : zn6 (nth l i) x = true
    ·rw [if_pos l1] at i3
     repeat first|with_reducible refine wV fun _=>?_|simp [go_sem, hi, l1]
     refine zyI (hrec (d - 1) (by omega) (i + 1, out ++ [nth l i], false) ⟨by simp only; omega, by simp; omega, by simpa [zkV] using i3⟩) ?_ (by simp)
     simp [go_sem, zah]
    ·rw [if_neg l1] at i3
     repeat first|with_reducible refine wV fun _=>?_|simp [go_sem, hi, l1]
     refine zyM hL2 (by simp [go_sem]) ?_
     repeat first|with_reducible refine wV fun _=>?_|simp [go_sem, hi]
     by_cases l2 : zn6 x (nth l i) = true
     ·rw [if_pos l2] at i3
      repeat first|with_reducible refine wV fun _=>?_|simp [go_sem, hi, l2]
      refine zyI (hrec (d - 1) (by omega) (i + 1, out ++ [x] ++ [nth l i], true) ⟨by simp only; omega, by simp; omega, by simpa [zkV] using i3⟩) ?_ (by simp)
      simp [go_sem, zah]
     ·rw [if_neg l2] at i3
      repeat first|with_reducible refine wV fun _=>?_|simp [go_sem, hi, l2]
      refine zyI (hrec (d - 1) (by omega) (i + 1, out ++ [nth l i], true) ⟨by simp only; omega, by simp; omega, by simpa [zkV] using i3⟩) ?_ (by simp)
      simp [go_sem, zah]
   ·simp only [zkV, if_true] at i3
    simp only [Bool.toNat_true] at i2
    repeat first|with_reducible refine wV fun _=>?_|simp [go_sem, hi]
    refine dGC.skip (.v (.bool true)) ?_
    repeat first|with_reducible refine wV fun _=>?_|simp [go_sem, hi]
    refine zyI (hrec (d - 1) (by omega) (i + 1, out ++ [nth l i], true) ⟨by simp only; omega, by simp; omega, by simpa [zkV] using i3⟩) ?_ (by simp)
    simp [go_sem, zah]
  ·rw [List.drop_eq_nil_of_le hi] at i3
   cases dn
   ·simp [zkV, zbL] at i3
    simp only [Bool.toNat_false] at i2
    repeat first|with_reducible refine wV fun _=>?_|simp [go_sem]
    rw [i3]
    exact frX
   ·simp [zkV] at i3
    simp only [Bool.toNat_true] at i2
    repeat first|with_reducible refine wV fun _=>?_|simp [go_sem]
    rw [i3]
    exact frX
 ·simp [zkV, hR]
 ·simp [go_sem, zah]
 ·simp
theorem zuj : ∀ (f : Nat) (l : List zaj), l.length ≤ f + 1 → l.length ≤ 68719476736 → (∀ p ∈ l, zaW p) → zaC Tryz.prog 79 [zaz l] (zaz (zcI zbw l)) := by
 intro f
 induction f with
 | zero =>
  intro l h1 h2 h3
  rw [zko (by omega)]
  refine pF Tryz.func79 ?_
  repeat first|with_reducible refine wV fun _=>?_|simp [go_sem]
  (refine zyK (fun hT => ?_) (fun hT => by first | omega | (simp at hT; omega)); clear hT)
  repeat first|with_reducible refine wV fun _=>?_|simp [go_sem]
 | succ f ih =>
  intro l h1 h2 h3
  by_cases hs : l.length < 2
  ·rw [zko hs]
   refine pF Tryz.func79 ?_
   repeat first|with_reducible refine wV fun _=>?_|simp [go_sem]
   (refine zyK (fun hT => ?_) (fun hT => by first | omega | (simp at hT; omega)); clear hT)
   repeat first|with_reducible refine wV fun _=>?_|simp [go_sem]
  ·have hm := zp9 za8 (l.take (l.length / 2)) (l.drop (l.length / 2))
   rw [List.take_append_drop] at hm
   have hA := ih (l.take (l.length / 2)) (by simp; omega) (by simp; omega) (fun p hp => h3 p (List.mem_of_mem_take hp))
   have hB := ih (l.drop (l.length / 2)) (by simp; omega) (by simp; omega) (fun p hp => h3 p (List.mem_of_mem_drop hp))
   have fA : ∀ p ∈ zcI zbw (l.take (l.length / 2)), zaW p := fun p hp => h3 p (List.mem_of_mem_take (zeK.1 hp))
   have fB : ∀ p ∈ zcI zbw (l.drop (l.length / 2)), zaW p := fun p hp => h3 p (List.mem_of_mem_drop (zeK.1 hp))
   have lA : (zcI zbw (l.take (l.length / 2))).length = l.length / 2 := by rw [zeJ]; simp; omega
   have lB : (zcI zbw (l.drop (l.length / 2))).length = l.length - l.length / 2 := by rw [zeJ]; simp
   rw [← hm]
   generalize zcI zbw (l.take (l.length / 2)) = xs at *
   generalize zcI zbw (l.drop (l.length / 2)) = ys at *
   have hq : ((l.length : Int) / 2).toNat = l.length / 2 := by omega
   have eA : AV.lst 5 (List.take (l.length / 2) (l.map zad)) = zaz (l.take (l.length / 2)) := by simp [zaz, List.map_take]
   have eB : AV.lst 5 (List.take (l.length - l.length / 2) (List.drop (l.length / 2) (l.map zad))) = zaz (l.drop (l.length / 2)) := by rw [List.take_of_length_le (by simp)]; simp [zaz, List.map_drop]
   generalize hR : List.merge xs ys (leC zbw) = R
   refine pF Tryz.func79 ?_
   repeat first|with_reducible refine wV fun _=>?_|simp [go_sem]
   (refine zyK (fun hF => by first | omega | (simp at hF; omega)) (fun hF => ?_); clear hF)
   repeat first|with_reducible refine wV fun _=>?_|simp [go_sem, hq]
   rw [eA]
   refine zyJ hA (zvA (zcD _)) ?_
   repeat first|with_reducible refine wV fun _=>?_|simp [go_sem, hq]
   rw [eB]
   refine zyJ hB (zvA (zcD _)) ?_
   repeat first|with_reducible refine wV fun _=>?_|simp [go_sem, hq]
   refine zyI (zyN (α := Nat × Nat × List zaj) (fun a => ⟨[(3, zaz xs), (4, zaz ys), (5, .sl 0 a.2.2.length 5 0 a.2.2.length), (6, .v (.int .i64 a.1)), (7, .v (.int .i64 a.2.1))], [(0, .rows true a.2.2.length 5 (a.2.2.map zad))], 1⟩)
    (fun d a => a.1 + a.2.1 + d = xs.length + ys.length ∧ a.1 ≤ xs.length ∧ a.2.1 ≤ ys.length ∧ a.2.2.length = a.1 + a.2.1 ∧ R = a.2.2 ++ List.merge (xs.drop a.1) (ys.drop a.2.1) (leC zbw)) ?_ (xs.length + ys.length) (0, 0, []) ?_) ?_ ?_
   ·rintro d ⟨i, k, out⟩ ⟨i1, i2, i3, i4, i5⟩ hrec
    simp only at i1 i2 i3 i4 i5
    repeat first|with_reducible refine wV fun _=>?_|simp [go_sem]
    refine zyK (fun hj => ?_) (fun hj => ?_) <;> simp at hj
    ·by_cases hk : k < ys.length
     ·by_cases hi : i < xs.length
      ·have fa := fA _ (zan hi)
       have fb := fB _ (zan hk)
       rw [zaM hi, zaM hk, List.cons_merge_cons, ← zaM hi, ← zaM hk] at i5
       have hk' := Nat.not_le.2 hk
       repeat first|with_reducible refine wV fun _=>?_|simp [go_sem, hk, hk', hi]
       refine zyV _ (fun _ => zd8 _ _ fa fb) (by simp [go_sem]) ?_
       repeat first|with_reducible refine wV fun _=>?_|simp [go_sem, hk, hk', hi]
       refine zyK (fun hc => ?_) (fun hc => ?_) <;> simp at hc
       ·rw [if_pos (by simpa [leC] using hc)] at i5
        repeat first|with_reducible refine wV fun _=>?_|simp [go_sem, hk, hi]
        refine zyI (hrec (d - 1) (by omega) (i + 1, k, out ++ [nth xs i]) ⟨by simp only; omega, by simp only; omega, i3, by simp; omega, by simpa using i5⟩) ?_ (by simp)
        simp [go_sem, zah]
       ·rw [if_neg (by simpa [leC] using hc)] at i5
        repeat first|with_reducible refine wV fun _=>?_|simp [go_sem, hk, hi]
        refine zyI (hrec (d - 1) (by omega) (i, k + 1, out ++ [nth ys k]) ⟨by simp only; omega, i2, by simp only; omega, by simp; omega, by simpa using i5⟩) ?_ (by simp)
        simp [go_sem, zah]
      ·rw [List.drop_eq_nil_of_le (show xs.length ≤ i by omega), List.nil_merge, zaM hk] at i5
       have hk' := Nat.not_le.2 hk
       repeat first|with_reducible refine wV fun _=>?_|simp [go_sem, hk, hk', hi]
       refine dGC.skip (.v (.int .i64 0)) ?_
       repeat first|with_reducible refine wV fun _=>?_|simp [go_sem, hk, hk', hi]
       refine zyI (hrec (d - 1) (by omega) (i, k + 1, out ++ [nth ys k]) ⟨by simp only; omega, i2, by simp only; omega, by simp; omega, by simp [List.drop_eq_nil_of_le (show xs.length ≤ i by omega), i5]⟩) ?_ (by simp)
       simp [go_sem, zah]
     ·have hi : i < xs.length := by omega
      rw [List.drop_eq_nil_of_le (show ys.length ≤ k by omega), List.merge_right, zaM hi] at i5
      have hk' := Nat.not_lt.1 hk
      repeat first|with_reducible refine wV fun _=>?_|simp [go_sem, hk, hk', hi]
      refine dGC.skip (.v (.int .i64 0)) ?_
      repeat first|with_reducible refine wV fun _=>?_|simp [go_sem, hk, hk', hi]
      refine zyI (hrec (d - 1) (by omega) (i + 1, k, out ++ [nth xs i]) ⟨by simp only; omega, by simp only; omega, i3, by simp; omega, by simp [List.drop_eq_nil_of_le (show ys.length ≤ k by omega), i5]⟩) ?_ (by simp)
      simp [go_sem, zah]
    ·rw [List.drop_eq_nil_of_le (show xs.length ≤ i by omega), List.drop_eq_nil_of_le (show ys.length ≤ k by omega)] at i5
     repeat first|with_reducible refine wV fun _=>?_|simp [go_sem]
     rw [i5]
     exact frX
   ·simp [hR]
   ·simp [go_sem, zah]
   ·simp
def zvC (all : List zaj) (i : Nat) : List zaj := if i = 0 then zbq all else zbi (nth all (i - 1)) (all.drop i)
theorem ztY (all : List zaj) : zvC all 0 = zbq all := rfl
theorem zwc {all : List zaj} {i : Nat} (h : all.length ≤ i) : zvC all i = [] := by
 unfold zvC
 split
 ·cases all with
  | nil => rfl
  | cons a l => simp at h; omega
 ·rw [List.drop_eq_nil_of_le h]; rfl
theorem zny {all : List zaj} {i : Nat} (h : i < all.length) (hk : i = 0 ∨ nth all i ≠ nth all (i - 1)) : zvC all i = nth all i :: zvC all (i + 1) := by
 unfold zvC
 rw [if_neg (show ¬ i + 1 = 0 by omega), Nat.add_sub_cancel]
 split
 ·rename_i h0
  subst h0
  cases all with
  | nil => simp at h
  | cons a l => rfl
 ·rw [zaM h, zbi, if_neg (by rcases hk with h | h; omega; exact h)]
theorem ztX {all : List zaj} {i : Nat} (h : i < all.length) (hi : i ≠ 0) (hk : nth all i = nth all (i - 1)) : zvC all i = zvC all (i + 1) := by
 unfold zvC
 rw [if_neg (show ¬ i + 1 = 0 by omega), Nat.add_sub_cancel, if_neg hi, zaM h, zbi, if_pos hk, hk]
theorem zeT (l : List zaj) (hl : l.length ≤ 68719476736) (hf : ∀ p ∈ l, zaW p) : zaC Tryz.prog 27 [zaz l] (zaz (zbk zbw l)) := by
 have hH := zuj l.length l (by omega) hl hf
 unfold zbk
 have fA : ∀ p ∈ zcI zbw l, zaW p := fun p hp => hf p (zeK.1 hp)
 have lA : (zcI zbw l).length = l.length := zeJ l
 generalize zcI zbw l = all at *
 generalize hR : zbq all = R
 refine pF Tryz.func27 ?_
 repeat first|with_reducible refine wV fun _=>?_|simp [go_sem]
 refine zyJ hH (zvA (zcD _)) ?_
 repeat first|with_reducible refine wV fun _=>?_|simp [go_sem]
 refine zyI (zyN (α := Nat × List zaj) (fun a => ⟨[(3, zaz all), (4, .sl 0 a.2.length 5 0 a.2.length), (5, .v (.int .i64 a.1))], [(0, .rows true a.2.length 5 (a.2.map zad))], 1⟩)
  (fun d a => a.1 + d = all.length ∧ a.2.length ≤ a.1 ∧ R = a.2 ++ zvC all a.1) ?_ all.length (0, []) ?_) ?_ ?_
 ·rintro d ⟨i, out⟩ ⟨i1, i2, i3⟩ hrec
  simp only at i1 i2 i3
  repeat first|with_reducible refine wV fun _=>?_|simp [go_sem]
  refine zyK (fun hi => ?_) (fun hi => ?_) <;> simp at hi
  ·by_cases h0 : i = 0
   ·rw [zny hi (.inl h0)] at i3
    subst h0
    repeat first|with_reducible refine wV fun _=>?_|simp [go_sem, hi]
    refine dGC.skip (.v (.bool true)) ?_
    repeat first|with_reducible refine wV fun _=>?_|simp [go_sem, hi]
    refine zyI (hrec (d - 1) (by omega) (0 + 1, out ++ [nth all 0]) ⟨by simp only; omega, by simp only [List.length_append, List.length_singleton]; omega, by simpa using i3⟩) ?_ (by simp)
    simp [go_sem, zah]
   ·have fa := fA _ (zan hi)
    have hi' : i - 1 < all.length := by omega
    have e1 : ((i : Int) - 1).toNat = i - 1 := by omega
    have fb := fA _ (zan hi')
    repeat first|with_reducible refine wV fun _=>?_|simp [go_sem, hi, h0, e1, hi']
    refine zyV _ (fun _ => zgq _ _ fa fb) (by simp [go_sem]) ?_
    repeat first|with_reducible refine wV fun _=>?_|simp [go_sem, hi, h0]
    refine zyK (fun hc => ?_) (fun hc => ?_) <;> simp at hc
    ·rw [zpo] at hc
     rw [zny hi (.inr hc)] at i3
     repeat first|with_reducible refine wV fun _=>?_|simp [go_sem, hi]
     refine zyI (hrec (d - 1) (by omega) (i + 1, out ++ [nth all i]) ⟨by simp only; omega, by simp; omega, by simpa using i3⟩) ?_ (by simp)
     simp [go_sem, zah]
    ·rw [zpo] at hc
     rw [ztX hi h0 hc] at i3
     repeat first|with_reducible refine wV fun _=>?_|simp [go_sem, hi]
     refine zyI (hrec (d - 1) (by omega) (i + 1, out) ⟨by simp only; omega, by simp only; omega, i3⟩) ?_ (by simp)
     simp [go_sem, zah]
  ·rw [zwc hi] at i3
   repeat first|with_reducible refine wV fun _=>?_|simp [go_sem]
   rw [i3]
   exact frX
 ·simp [hR, ztY]
 ·simp [go_sem, zah]
 ·simp
theorem zhU (side : Int) (l : List StD) {n : Nat} (h : n < l.length) : zhf side l (n + 1) = match zgc side (nth l n) with | some o => zbL o (zhf side l n) | none => zhf side l n := by
 unfold zhf
 rw [zuf _ _ _ h, List.foldl_append]
 cases zgc side (nth l n) <;> rfl
theorem zlw (x : zco) : ∀ l : List zco, (zbL x l).length ≤ l.length + 1
 | [] => by simp [zbL]
 | y :: l => by
  rw [zbL]
  split
  ·have := zlw x l; simp; omega
  ·split <;> simp
theorem zuW (side : Int) (l : List StD) : ∀ n, n ≤ l.length → (zhf side l n).length ≤ n := by
 intro n
 induction n with
 | zero => intro _; simp [zhf]
 | succ n ih =>
  intro h
  have := ih (by omega)
  rw [zhU side l (by omega)]
  split
  ·rename_i o _
   have := zlw o (zhf side l n)
   omega
  ·omega
theorem zow {g : zaf} (hg : GOk g) {s : StD} (hs : zfn g s) {side : Int} {o : zco} (h : zgc side s = some o) : zaW o.pos := by
 have hf := hs.p.fits hg
 unfold zgc at h
 split at h
 ·simp only [Option.some.injEq] at h
  subst h
  obtain ⟨a, b, c⟩ := hf
  exact ⟨by unfold zeR at *; simpa using a, b, c⟩
 ·cases h
theorem zsB {g : zaf} (hg : GOk g) {side : Int} {l : List StD} (hl : ∀ s ∈ l, zfn g s) : ∀ n, n ≤ l.length → ∀ o ∈ zhf side l n, zaW o.pos := by
 intro n
 induction n with
 | zero => intro _ o ho; simp [zhf] at ho
 | succ n ih =>
  intro h o ho
  rw [zhU side l (by omega)] at ho
  cases hp : zgc side (nth l n) with
  | none => rw [hp] at ho; exact ih (by omega) o ho
  | some q =>
   rw [hp] at ho
   rcases ze2.1 ho with rfl | ho
   ·exact zow hg (hl _ (zan (by omega))) hp
   ·exact ih (by omega) o ho
theorem zuV (g : zaf) (p : zaj) (cell i : Int) : zhf p.side (zeq g p cell (za5 g p cell i)) (zeq g p cell (za5 g p cell i)).length = zdr g p cell i := by
 unfold zhf zdr
 rw [List.take_length, zpF]
theorem zoZ (g : zaf) (hg : GOk g) (p : zaj) (hp : POk g p) (cell i : Int) (hc : zci g p cell i) :
  zaC Tryz.prog 257 [.agg (zab g), .agg (zad p), .v (.int .i64 cell), .v (.int .i64 i)] (.tup [za3 (zdr g p cell i), .v (.int .i64 0)]) := by
 refine pF Tryz.func257 ?_
 have hRun := zrw g hg p hp cell i hc
 have hal := hp.al
 have hat := hp.at (i := cell.toNat) (by have := hc.c0; have := hc.c1; omega)
 have hkl : (zaq (nth p.at_ cell.toNat)).1.toNat < g.kinds.length := by
  have cm := hc.man
  rcases zaS hat.1 hat.2 hg.k6 with ⟨_, e⟩ | ⟨_, a, b, _⟩
  ·rw [e] at cm; simp at cm
  ·omega
 have hil : i.toNat < (nth g.kinds (zaq (nth p.at_ cell.toNat)).1.toNat).progs.length := by have := hc.i0; have := hc.i1; omega
 have hpg := hg.pr _ (zan hkl) _ (zan hil)
 have hpe : za5 g p cell i = nth (nth g.kinds (zaq (nth p.at_ cell.toNat)).1.toNat).progs i.toNat := rfl
 rw [← hpe] at hpg
 have hst := zhq hg hp hc.c0 hc.c1 hc.man hpg.st _ (Nat.le_refl _)
 have hlen := Nat.le_trans hst.2 (ziZ hpg.len)
 have hstR := zqb g p cell (za5 g p cell i) ((za5 g p cell i).length + 1)
 have hnS := zym g p cell (za5 g p cell i) (n := (za5 g p cell i).length + 1) (j := (za5 g p cell i).length) (by omega)
 have hal' := zuV g p cell i
 rw [zgI] at hnS hlen hst
 have hps := hp.s
 obtain ⟨m, hm⟩ : ∃ m, m = (za5 g p cell i).length := ⟨_, rfl⟩
 have hm8 := hpg.len
 rw [← hm] at hRun hstR hnS hm8
 generalize stR g p cell (za5 g p cell i) (m + 1) = sr at *
 generalize zeq g p cell (za5 g p cell i) = last at *
 obtain ⟨R, hR⟩ : ∃ R, R = zdr g p cell i := ⟨_, rfl⟩
 rw [← hR] at hal' ⊢
 repeat first|with_reducible refine wV fun _=>?_|simp [go_sem]
 refine zyJ hRun (by simp [go_sem]) ?_
 repeat first|with_reducible refine wV fun _=>?_|simp [go_sem, hstR, hnS]
 refine zyI (zyN (α := Nat) (fun k => ⟨[(5, .ref 1 0 5 0 0), (11, za3 (zhf p.side last k)), (12, zaO last), (13, .v (.int .i64 k))], [(1, .rows true 0 5 [zad p])], 2⟩)
  (fun d k => k + d = last.length) ?_ last.length 0 ?_) ?_ ?_
 ·rintro d k k1 hrec
  repeat first|with_reducible refine wV fun _=>?_|simp [go_sem]
  refine zyK (fun hk => ?_) (fun hk => ?_) <;> simp at hk
  ·have hsk := hst.1 _ (zan hk)
   have hsu := zhU p.side last hk
   have hol := zuW p.side last k (by omega)
   have hof := zsB hg (fun s hs => (hst.1 s hs).1) (side := p.side) k (by omega)
   have hpf := fun o => zow hg hsk.1 (side := p.side) (o := o)
   have hps' : zgc p.side (nth last k) = if nth (nth last k).p.at_ (nth last k).cursor.toNat = 0 then some ⟨{ (nth last k).p with at_ := (nth last k).p.at_.set (nth last k).cursor.toNat (zaD (nth last k).kind p.side), side := 1 - p.side }, (nth last k).took⟩ else none := rfl
   have hcp := zdX (nth last k).p (hsk.1.p.fits hg)
   have hal2 := hsk.1.p.al
   have hc0 := hsk.1.c0
   have hc1 := hsk.1.c1
   have hcc := zdk (nth last k).kind p.side
   have hcur : (nth last k).cursor.toNat < (nth last k).p.at_.length := by omega
   by_cases hz : nth (nth last k).p.at_ (nth last k).cursor.toNat = 0
   ·rw [if_pos hz] at hps'
    simp only [hps'] at hsu
    have hfo := hpf _ hps'
    have hIns := zma (zhf p.side last k) _ (by omega) hof hfo
    repeat first|with_reducible refine wV fun _=>?_|simp [go_sem, hk, hcur, hz]
    refine zyO hcp (by simp [go_sem]) ?_
    repeat first|with_reducible refine wV fun _=>?_|simp [go_sem, hcur]
    refine zyM hcc (by simp [go_sem]) ?_
    repeat first|with_reducible refine wV fun _=>?_|simp [go_sem, hcur]
    refine zyP [5, 6, 11] hIns ?_ (by simp [go_sem]) ?_
    ·(first|done|exact agX)
    ·rw [← hsu]
     repeat first|with_reducible refine wV fun _=>?_|simp [go_sem]
     refine zyI (hrec (d - 1) (by omega) (k + 1) (by omega)) ?_ (by simp)
     simp [go_sem, zah, zaK, zaR, upd]
   ·rw [if_neg hz] at hps'
    simp only [hps'] at hsu
    repeat first|with_reducible refine wV fun _=>?_|simp [go_sem, hk, hcur, hz]
    refine zyI (hrec (d - 1) (by omega) (k + 1) (by omega)) ?_ (by simp)
    simp [go_sem, zah, hsu]
  ·have hkl : k = last.length := by omega
   subst hkl
   rw [hal']
   repeat first|with_reducible refine wV fun _=>?_|simp [go_sem]
 ·omega
 ·simp [go_sem, zah]
  exact frX
 ·simp
theorem zm7 (g : zaf) (hg : GOk g) (p : zaj) (hp : POk g p) : zaC Tryz.prog 195 [.agg (zab g), .agg (zad p)] (zaz (zcF g p)) := by
 refine pF Tryz.func195 ?_
 have hal := hp.al
 have c9 := hg.c9
 have k6 := hg.k6
 have hcp := zdX p (hp.fits hg)
 obtain ⟨gk, hgk⟩ : ∃ gk, gk = g.kinds.length := ⟨_, rfl⟩
 have hl0 := hp.h0.len
 have hl1 := hp.h1.len
 repeat first|with_reducible refine wV fun _=>?_|simp [go_sem]
 refine zyI (zyN (α := Nat) (fun k => ⟨[(2, .ref 0 0 9 0 0), (3, .ref 1 0 5 0 0), (5, .sl 2 (zbA g p k).length 5 0 (zbA g p k).length), (6, .v (.int .i64 k))], [(0, .rows true 0 9 [zab g]), (1, .rows true 0 5 [zad p]), (2, .rows true (zbA g p k).length 5 ((zbA g p k).map zad))], 3⟩)
  (fun d k => k + d = g.kinds.length) ?_ g.kinds.length 0 ?_) ?_ ?_
 ·rintro d k k1 hrec
  repeat first|with_reducible refine wV fun _=>?_|simp [go_sem]
  refine zyK (fun hk => ?_) (fun hk => ?_) <;> simp at hk
  ·have hz := zgv g p k
   have ha := zhH g p k
   repeat first|with_reducible refine wV fun _=>?_|simp [go_sem]
   refine zyI (zyN (α := Nat) (fun c => ⟨[(2, .ref 0 0 9 0 0), (3, .ref 1 0 5 0 0), (5, .sl 2 (zcE g p k c).length 5 0 (zcE g p k c).length), (6, .v (.int .i64 k)), (7, .v (.int .i64 c))], [(0, .rows true 0 9 [zab g]), (1, .rows true 0 5 [zad p]), (2, .rows true (zcE g p k c).length 5 ((zcE g p k c).map zad))], 3⟩)
    (fun d c => c + d = p.at_.length) ?_ p.at_.length 0 ?_) ?_ ?_
   ·rintro d2 c c1 hrec2
    repeat first|with_reducible refine wV fun _=>?_|simp [go_sem]
    refine zyK (fun hci => ?_) (fun hci => ?_) <;> simp at hci
    ·have hD : zfx g p k c = if nth (p.hand p.side) k = 0 ∨ nth p.at_ c ≠ 0 then none
      else some { ({ p with at_ := p.at_.set c (zaD k p.side) }.withHand p.side ((p.hand p.side).set k (nth (p.hand p.side) k - 1))) with side := 1 - p.side } := rfl
     rcases hp.s with hsd | hsd
     ·have hsn : p.side.toNat = 0 := by omega
      have hkh : k < p.h0.length := by omega
      have hhv := hp.h0.v k hkh
      have hD' : zfx g p k c = if nth p.h0 k = 0 ∨ nth p.at_ c ≠ 0 then none else some { p with at_ := p.at_.set c (zaD k p.side), h0 := p.h0.set k (nth p.h0 k - 1), side := 1 - p.side } := by
       rw [hD]; simp [zaj.hand, zaj.withHand, hsd]
      repeat first|with_reducible refine wV fun _=>?_|simp [go_sem, hsn, hkh, hci]
      refine zyK (fun hcc => ?_) (fun hcc => ?_) <;> simp at hcc
      ·rw [if_pos (by omega)] at hD'
       have hsu := zcq g p k c
       rw [hD'] at hsu
       simp only [Option.toList_none, List.append_nil] at hsu
       repeat first|with_reducible refine wV fun _=>?_|simp [go_sem]
       refine zyI (hrec2 (d2 - 1) (by omega) (c + 1) (by omega)) ?_ (by simp)
       simp [go_sem, zah, hsu]
      ·rw [if_neg (by omega)] at hD'
       have hsu := zcq g p k c
       rw [hD'] at hsu
       simp only [Option.toList_some] at hsu
       have hcl := zfX g p k c
       have hkm : k * p.at_.length ≤ 6 * 9 := Nat.mul_le_mul (by omega) (by omega)
       repeat first|with_reducible refine wV fun _=>?_|simp [go_sem, hci]
       refine zyO hcp (by simp [go_sem]) ?_
       repeat first|with_reducible refine wV fun _=>?_|simp [go_sem, hci]
       refine zyM (zdk (k : Int) p.side) (by simp [go_sem]) ?_
       repeat first|with_reducible refine wV fun _=>?_|simp [go_sem, hsn, hci, hkh]
       refine zyI (hrec2 (d2 - 1) (by omega) (c + 1) (by omega)) ?_ (by simp)
       simp [go_sem, zah, hsu]
       (first|done|exact rwX)
     ·have hsn : p.side.toNat = 1 := by omega
      have hkh : k < p.h1.length := by omega
      have hhv := hp.h1.v k hkh
      have hD' : zfx g p k c = if nth p.h1 k = 0 ∨ nth p.at_ c ≠ 0 then none else some { p with at_ := p.at_.set c (zaD k p.side), h1 := p.h1.set k (nth p.h1 k - 1), side := 1 - p.side } := by
       rw [hD]; simp [zaj.hand, zaj.withHand, hsd]
      repeat first|with_reducible refine wV fun _=>?_|simp [go_sem, hsn, hkh, hci]
      refine zyK (fun hcc => ?_) (fun hcc => ?_) <;> simp at hcc
      ·rw [if_pos (by omega)] at hD'
       have hsu := zcq g p k c
       rw [hD'] at hsu
       simp only [Option.toList_none, List.append_nil] at hsu
       repeat first|with_reducible refine wV fun _=>?_|simp [go_sem]
       refine zyI (hrec2 (d2 - 1) (by omega) (c + 1) (by omega)) ?_ (by simp)
       simp [go_sem, zah, hsu]
      ·rw [if_neg (by omega)] at hD'
       have hsu := zcq g p k c
       rw [hD'] at hsu
       simp only [Option.toList_some] at hsu
       have hcl := zfX g p k c
       have hkm : k * p.at_.length ≤ 6 * 9 := Nat.mul_le_mul (by omega) (by omega)
       repeat first|with_reducible refine wV fun _=>?_|simp [go_sem, hci]
       refine zyO hcp (by simp [go_sem]) ?_
       repeat first|with_reducible refine wV fun _=>?_|simp [go_sem, hci]
       refine zyM (zdk (k : Int) p.side) (by simp [go_sem]) ?_
       repeat first|with_reducible refine wV fun _=>?_|simp [go_sem, hsn, hci, hkh]
       refine zyI (hrec2 (d2 - 1) (by omega) (c + 1) (by omega)) ?_ (by simp)
       simp [go_sem, zah, hsu]
       (first|done|exact rwX)
    ·have hcl : c = p.at_.length := by omega
     subst hcl
     rw [ha]
     repeat first|with_reducible refine wV fun _=>?_|simp [go_sem]
     refine zyI (hrec (d - 1) (by omega) (k + 1) (by omega)) ?_ (by simp)
     simp [go_sem, zah]
   ·omega
   ·simp [go_sem, zah, hz]
   ·simp
  ·have hkl : k = g.kinds.length := by omega
   subst hkl
   have hdl := zeA g p g.kinds.length
   have hkm : g.kinds.length * p.at_.length ≤ 6 * 9 := Nat.mul_le_mul k6 (by omega)
   have hS := zeT (zbA g p g.kinds.length) (by omega) (fun q hq => by
    rw [zfY] at hq
    obtain ⟨k, hk, hq⟩ := List.mem_flatMap.1 hq
    obtain ⟨c, hc, hq⟩ := List.mem_filterMap.1 hq
    exact (ziQ hg hp (by simpa using hk) hq).1.fits hg)
   rw [show zbk zbw (zbA g p g.kinds.length) = zcF g p from rfl] at hS
   generalize zbA g p g.kinds.length = l at *
   generalize zcF g p = r at *
   repeat first|with_reducible refine wV fun _=>?_|simp [go_sem]
   refine zyP [2] hS ?_ (zvA (zcD _)) ?_
   ·(first|done|exact agX)
   ·repeat first|with_reducible refine wV fun _=>?_|simp [go_sem]
 ·omega
 ·simp [go_sem, zah, show zbA g p 0 = [] from rfl]
 ·simp
theorem zrk {g : zaf} (hg : GOk g) : ∀ (l : List Int) {p : zaj}, POk g p → ∀ q ∈ zfS g p l, POk g q
 | [], p, hp, q, hq => by simp [zfS] at hq; subst hq; exact hp
 | k :: l, p, hp, q, hq => by
  rw [zfS] at hq
  split at hq
  ·simp at hq; subst hq; exact hp
  ·rename_i hne
   rcases List.mem_cons.1 hq with rfl | hq
   ·exact hp
   ·refine zrk hg l ((zc7 hg hp) _ (zan ?_)).1 q hq
    have hpos : 0 < (zaH g p).length := List.length_pos_iff.2 hne
    have h1 : 0 ≤ k.emod (zaH g p).length := Int.emod_nonneg k (show ((zaH g p).length : Int) ≠ 0 by omega)
    have h2 : k.emod (zaH g p).length < (zaH g p).length := Int.emod_lt_of_pos k (show (0 : Int) < (zaH g p).length by omega)
    omega
theorem zrj (g : zaf) (p : zaj) (l : List Int) : zfS g p l ≠ [] := by
 cases l with
 | nil => simp [zfS]
 | cons k l => rw [zfS]; split <;> simp
theorem zoJ (g : zaf) : ∀ (l : List Int) (p : zaj), (zfS g p l).length ≤ l.length + 1
 | [], p => by simp [zfS]
 | k :: l, p => by
  rw [zfS]
  split
  ·simp
  ·have := zoJ g l (nth (zaH g p) (k.emod (zaH g p).length).toNat)
   simp; omega
theorem zgz {g : zaf} {p : zaj} (h : 0 ≤ zcj g p) : zaH g p = [] := if_pos h
end Go.Av
end
