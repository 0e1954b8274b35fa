/- Texts of ours, part 8: our library and contracts of functions. -/
import Derived.Test.YtedhfmmlhfmomaaGreatDoorB07
set_option linter.unusedSimpArgs false
set_option linter.unusedVariables false
set_option maxRecDepth 100000
set_option maxHeartbeats 40000000
section
open Go Go.Proofs
namespace Go.Av
def zdO (cells kinds rights : Int) (a : zcq) : Prop :=
 (3 ≤ a.1 ∧ a.1 ≤ 6 ∧ (0 ≤ a.2.1 ∧ a.2.1 < cells) ∧ a.2.2 = 0) ∨ (a.1 = 7 ∧ (0 ≤ a.2.1 ∧ a.2.1 < cells) ∧ (0 ≤ a.2.2 ∧ a.2.2 < cells)) ∨
 (a.1 = 8 ∧ (0 ≤ a.2.1 ∧ a.2.1 < kinds) ∧ a.2.2 = 0) ∨ ((a.1 = 9 ∨ a.1 = 10) ∧ (0 ≤ a.2.1 ∧ a.2.1 < rights) ∧ a.2.2 = 0)
def za4 (l : List zcq) (op : Int) : Nat := l.countP (fun a => a.1 == op)
structure zk1 (cells kinds rights : Int) (w : zaV) (t p b : Nat) : Prop where
 to : 0 ≤ w.to ∧ w.to < cells
 acts : ∀ a ∈ w.acts, zdO cells kinds rights a
 take : za4 w.acts 6 ≤ t
 push : za4 w.acts 7 ≤ p
 become : za4 w.acts 8 ≤ b
theorem zbF (l m : List zcq) (op : Int) : za4 (l ++ m) op = za4 l op + za4 m op := by simp [za4]
theorem zh5 {l : List Int} {m : List zcq} (h : ∀ a ∈ m, ∃ c ∈ l, a = (3, c, 0)) {op : Int} (ho : op ≠ 3) : za4 m op = 0 := by
 unfold za4
 rw [List.countP_eq_zero]
 intro a ha
 obtain ⟨c, _, rfl⟩ := h a ha
 simpa using ho.symm
theorem zdy (a : zcq) (op : Int) : za4 [a] op = if a.1 = op then 1 else 0 := by simp [za4, List.countP_cons]
def zs7 (x : Int × Int) (op : Int) : Nat := if x.1 = op then 1 else 0
theorem zzK {b : zaE} (hb : zaY b) {kinds rights : Int} {side : Int} {w : zaV} {t p be : Nat} (hw : zk1 b.cells kinds rights w t p be) {x : Int × Int} (hx : zeg b.next.length kinds rights x) :
  ∀ v ∈ ziJ b side w x, zk1 b.cells kinds rights v (t + zs7 x 6) (p + zs7 x 7) (be + zs7 x 8) := by
 intro v hv
 obtain ⟨w1, w2, w3, w4, w5⟩ := hw
 obtain ⟨x1, x2, x3, x4, x5⟩ := hx
 have ht := zfE hb side x.2 w.to
 unfold ziJ at hv
 unfold zs7
 split at hv
 ·rename_i h17
  split at hv
  ·simp at hv
  ·split at hv
   ·simp only [List.mem_singleton] at hv
    subst hv
    refine ⟨by simp only [onP]; omega, by simpa [onP] using w2, ?_, ?_, ?_⟩ <;> simp only [onP, List.append_nil] <;> omega
   ·have e7 : x.1 = 7 := by omega
    simp only [List.mem_singleton] at hv
    subst hv
    refine ⟨w1, fun a ha => ?_, ?_, ?_, ?_⟩
    ·simp only [onP, List.mem_append, List.mem_singleton] at ha
     rcases ha with ha | rfl
     ·exact w2 a ha
     ·exact .inr (.inl ⟨rfl, w1, by simp only; omega⟩)
    all_goals simp only [onP, zbF, zdy, e7]; simp only [show ((7 : Int) = 6) = False by decide, show ((7 : Int) = 8) = False by decide, if_true, if_false]; omega
 ·split at hv
  ·rename_i h2
   obtain ⟨more, e1, e2, e3, e4⟩ := zfV hv
   rw [List.append_nil] at e1
   refine ⟨zeq hb _ e3, fun a ha => ?_, ?_, ?_, ?_⟩
   ·rw [e1, List.mem_append] at ha
    rcases ha with ha | ha
    ·exact w2 a ha
    ·obtain ⟨c, hc, rfl⟩ := e4 a ha
     exact .inl ⟨by simp, by simp, zeq hb _ hc, rfl⟩
   all_goals rw [e1, zbF, zh5 e4 (by omega)]; omega
  ·split at hv
   ·rename_i h17 h2 h8
    simp only [List.mem_singleton] at hv
    subst hv
    refine ⟨w1, fun a ha => ?_, ?_, ?_, ?_⟩
    ·simp only [onP, List.mem_append, List.mem_singleton] at ha
     rcases ha with ha | rfl
     ·exact w2 a ha
     ·rcases h8 with h | h | h
      ·exact .inr (.inr (.inl ⟨h, x4 h, rfl⟩))
      ·exact .inr (.inr (.inr ⟨.inl h, x5 (.inl h), rfl⟩))
      ·exact .inr (.inr (.inr ⟨.inr h, x5 (.inr h), rfl⟩))
    all_goals simp only [onP, zbF, zdy]; omega
   ·rename_i h17 h2 h8
    simp only [List.mem_singleton] at hv
    subst hv
    refine ⟨w1, fun a ha => ?_, ?_, ?_, ?_⟩
    ·simp only [onP, List.mem_append, List.mem_singleton] at ha
     rcases ha with ha | rfl
     ·exact w2 a ha
     ·exact .inl ⟨by simp only; omega, by simp only; omega, w1, rfl⟩
    all_goals simp only [onP, zbF, zdy]; omega
theorem zrk {b : zaE} (hb : zaY b) {kinds rights : Int} {side : Int} : ∀ {prog : List (Int × Int)} {now : List zaV} {t p be : Nat}, (∀ w ∈ now, zk1 b.cells kinds rights w t p be) → (∀ x ∈ prog, zeg b.next.length kinds rights x) →
  ∀ w ∈ prog.foldl (zki b side) now, zk1 b.cells kinds rights w (t + zaB prog 6) (p + zaB prog 7) (be + zaB prog 8)
 | [], now, t, p, be, h, _, w, hw => by simpa [zaB] using h w hw
 | x :: prog, now, t, p, be, h, hx, w, hw => by
  rw [List.foldl_cons] at hw
  have := zrk hb (side := side) (prog := prog) (now := zki b side now x) (t := t + zs7 x 6) (p := p + zs7 x 7) (be := be + zs7 x 8) (fun v hv => by
   obtain ⟨u, hu, hv⟩ := List.mem_flatMap.1 hv
   exact zzK hb (h u hu) (hx x (by simp)) v hv) (fun y hy => hx y (by simp [hy])) w hw
  have e : ∀ op, zaB (x :: prog) op = zaB prog op + zs7 x op := fun op => by simp [zaB, List.countP_cons, zs7]
  rw [e, e, e]
  simpa [Nat.add_assoc, Nat.add_comm, Nat.add_left_comm] using this
theorem zv9 {b : zaE} (hb : zaY b) {kinds rights side : Int} {prog : List (Int × Int)} (hp : ∀ x ∈ prog, zeg b.next.length kinds rights x) {cell : Int} (hc : 0 ≤ cell ∧ cell < b.cells) :
  ∀ w ∈ zbB b side prog cell, zk1 b.cells kinds rights w (zaB prog 6) (zaB prog 7) (zaB prog 8) := by
 intro w hw
 have := zrk hb (side := side) (kinds := kinds) (rights := rights) (prog := prog) (now := [⟨[], cell⟩]) (t := 0) (p := 0) (be := 0) (fun v hv => by
  simp only [List.mem_singleton] at hv
  subst hv
  exact ⟨hc, by simp, by simp [za4], by simp [za4], by simp [za4]⟩) hp w hw
 simpa using this
theorem zg5 {g : zae} (hg : GOk g) {side : Int} {k : zfZ} (hk : k ∈ g.kinds) {cell : Int} (hc : 0 ≤ cell ∧ cell < g.cells) : ∀ w ∈ zbw g.board side k.progs cell, zk1 g.cells g.kinds.length g.rights w 2 1 1 := by
 intro w hw
 obtain ⟨p, hp, hw⟩ := List.mem_flatMap.1 hw
 have ok := hg.pr k hk p hp
 obtain ⟨a, b, c, d, e⟩ := zv9 hg.board (side := side) ok.st hc w hw
 exact ⟨a, b, Nat.le_trans c ok.take, Nat.le_trans d ok.push, Nat.le_trans e ok.become⟩
def zcD (l : List (List zaV)) : Nat := (l.map (·.length)).sum
def zbS (l : List (List (List zaV))) : Nat := (l.map zcD).sum
def zek (c : zl0) : Nat := zbS c.1 + zbS c.2
def zqz (b : zaE) (side : Int) (p : List (Int × Int)) : Nat := ((List.range b.cells.toNat).map fun (c : Nat) => (zbB b side p c).length).sum
theorem zeX {α : Type} (f g : α → Nat) : ∀ l : List α, (l.map fun x => f x + g x).sum = (l.map f).sum + (l.map g).sum
 | [] => rfl
 | x :: l => by simp [zeX f g l]; omega
theorem zil {α : Type} : ∀ l : List α, (l.map fun _ => 0).sum = 0
 | [] => rfl
 | x :: l => by simpa using zil l
theorem zex {α : Type} (f : α → Nat) (m : Nat) : ∀ l : List α, (∀ x ∈ l, f x ≤ m) → (l.map f).sum ≤ l.length * m
 | [], _ => by simp
 | x :: l, h => by
  have := zex f m l (fun y hy => h y (by simp [hy]))
  have := h x (by simp)
  simp [Nat.add_mul]; omega
theorem zjm (b : zaE) (side : Int) : ∀ progs : List (List (Int × Int)), zcD (zff b side progs) = (progs.map (zqz b side)).sum
 | [] => by
  unfold zcD zff zbw
  simp only [List.flatMap_nil, List.map_map, List.map_nil, List.sum_nil]
  exact zil _
 | p :: progs => by
  have ih := zjm b side progs
  unfold zcD zff zbw at *
  rw [List.map_map] at ih ⊢
  simp only [List.flatMap_cons, List.map_cons, List.sum_cons, ← ih]
  unfold zqz
  rw [← zeX]
  congr 1
  refine List.map_congr_left fun c _ => ?_
  simp
theorem zld (g : zae) (side : Int) : zbS (zbz g side) = (g.kinds.map fun k => (k.progs.map (zqz g.board side)).sum).sum := by
 unfold zbS zbz
 rw [List.map_map]
 congr 1
 refine List.map_congr_left fun k _ => ?_
 exact zjm _ _ _
def zx9 (g : zae) (p : List (Int × Int)) : Nat := zqz g.board 0 p + zqz g.board 1 p
theorem zuZ (g : zae) : zek (zbE g) = (g.kinds.map fun k => (k.progs.map (zx9 g)).sum).sum := by
 unfold zek zbE
 rw [zld, zld, ← zeX]
 congr 1
 refine List.map_congr_left fun k _ => ?_
 rw [← zeX]
 rfl
def zbm (g : zae) : Prop := ∀ k ∈ g.kinds, ∀ p ∈ k.progs, zaB p 2 ≤ 1
theorem zry {g : zae} (hg : GOk g) (side : Int) {p : List (Int × Int)} (hs : zaB p 2 ≤ 1) : zqz g.board side p ≤ 81 := by
 have c9 := hg.c9
 have c1 := hg.c1
 have := zex (fun (c : Nat) => (zbB g.board side p c).length) 9 (List.range g.board.cells.toNat) (fun c _ => by
  have h := zhN hg.board hg.c1 side p c
  have h2 : g.board.cells.toNat ≤ 9 := by have : g.board.cells = g.cells := rfl; omega
  rcases (show zaB p 2 = 0 ∨ zaB p 2 = 1 by omega) with e | e <;> rw [e] at h <;> simp at h <;> omega)
 have h2 : g.board.cells.toNat ≤ 9 := by have : g.board.cells = g.cells := rfl; omega
 rw [List.length_range] at this
 unfold zqz
 omega
theorem zu0 {g : zae} (hg : GOk g) (hs : zbm g) : zek (zbE g) ≤ 10000 := by
 rw [zuZ]
 have := zex (fun k : zfZ => (k.progs.map (zx9 g)).sum) 1296 g.kinds (fun k hk => by
  have := zex (zx9 g) 162 k.progs (fun p hp => by
   have a := zry hg 0 (hs k hk p hp)
   have b := zry hg 1 (hs k hk p hp)
   unfold zx9; omega)
  have := hg.pn k hk
  omega)
 have := hg.k6
 omega
theorem zpo (a b : StD) (ha : zaU a.p) (hb : zaU b.p) : zaL Tryz.prog 314 [.agg (zan a), .agg (zan b)] (.v (.bool (decide (a = b)))) := by
 refine pF Tryz.func314 ?_
 have hC := zdQ _ _ ha hb
 have he := zpX (p := a.p) (q := b.p)
 obtain ⟨pa, ka, ca, ta⟩ := a
 obtain ⟨pb, kb, cb, tb⟩ := b
 simp only at hC he
 repeat first|refine wV fun _=>?_|simp [go_sem]
 refine zAV _ (fun _ => hC) (by simp [go_sem]) ?_
 repeat first|refine wV fun _=>?_|simp [go_sem]
 refine zAE ?_
 by_cases h1 : pa = pb <;> by_cases h2 : ka = kb <;> by_cases h3 : ca = cb <;> cases ta <;> cases tb <;> simp_all
theorem zpm (s : StD) (b : Bool) : zaL Tryz.prog 315 [.agg (zan s), .v (.bool b)] (za0 (zcJ s b)) := by
 refine pF Tryz.func315 ?_
 cases b
 ·repeat first|refine wV fun _=>?_|simp [go_sem, zcJ]
  exact frX
 ·repeat first|refine wV fun _=>?_|simp [go_sem, zcJ]
  exact frX
theorem zng (g : zae) (hg : GOk g) (s : StD) (hs : ze7 g s) (n : Int) : zaL Tryz.prog 316 [.agg (zac g), .agg (zan s), .v (.int .i64 n)] (za0 (zkc g.board s n)) := by
 refine pF Tryz.func316 ?_
 have hL := zi0 g.board hg.board s.p.side n s.cursor
 have hlm := zeq hg.board (side := s.p.side) (d := n) (c := s.cursor)
 have hll := zjJ (b := g.board) (side := s.p.side) (d := n) (c := s.cursor)
 have c9 := hg.c9
 have c1 := hg.c1
 have hal := hs.p.al
 rw [show g.board.cells = g.cells from rfl] at hlm hll
 unfold zkc
 generalize zft g.board s.p.side n s.cursor = line at *
 generalize hR : zbL s line = R
 repeat first|refine wV fun _=>?_|simp [go_sem]
 refine zAs hL (by simp [go_sem]) ?_
 repeat first|refine wV fun _=>?_|simp [go_sem]
 refine zAr (zAv (α := Nat × List StD) (fun a => ⟨[(4, .ref 1 0 8 0 0), (7, .sl 2 a.2.length 8 0 a.2.length), (8, zap line), (9, .v (.int .i64 a.1))], [(1, .rows true 0 8 [zan s]), (2, .rows true a.2.length 8 (a.2.map zan))], 3⟩)
  (fun d a => a.1 + d = line.length ∧ a.2.length = a.1 ∧ R = a.2 ++ zbL s (line.drop a.1)) ?_ line.length (0, []) ?_) ?_ ?_
 ·rintro d ⟨i, out⟩ ⟨i1, i2, i3⟩ hrec
  simp only at i1 i2 i3
  repeat first|refine wV fun _=>?_|simp [go_sem]
  refine zAt (fun hi => ?_) (fun hi => ?_) <;> simp at hi
  ·have hli := hlm _ (zaj hi)
   have hlt : (nth line i).toNat < s.p.at_.length := by omega
   rw [zaH hi, zbL] at i3
   repeat first|refine wV fun _=>?_|simp [go_sem, hi, hlt]
   refine zAt (fun hz => ?_) (fun hz => ?_) <;> simp at hz
   ·rw [if_neg (by simpa using hz)] at i3
    repeat first|refine wV fun _=>?_|simp [go_sem]
    rw [i3]
    exact frX
   ·rw [if_pos (by simpa using hz)] at i3
    repeat first|refine wV fun _=>?_|simp [go_sem]
    refine zAr (hrec (d - 1) (by omega) (i + 1, out ++ [{ s with cursor := nth line i }]) ⟨by simp only; omega, by simp; omega, by simpa using i3⟩) ?_ (by simp)
    simp [go_sem, zaf]
  ·rw [List.drop_eq_nil_of_le hi, zbL] at i3
   repeat first|refine wV fun _=>?_|simp [go_sem]
   rw [i3]
   exact frX
 ·simp [hR]
 ·simp [go_sem, zaf]
 ·simp
theorem zpp (g : zae) (hg : GOk g) (s : StD) (hs : ze7 g s) : zaL Tryz.prog 317 [.agg (zac g), .agg (zan s)] (za0 (zmZ g s)) := by
 refine pF Tryz.func317 ?_
 have hal := hs.p.al
 have hc0 := hs.c0
 have hc1 := hs.c1
 have hcur : s.cursor.toNat < s.p.at_.length := by omega
 have hO := zdD (nth s.p.at_ s.cursor.toNat)
 have hat := hs.p.at (i := s.cursor.toNat) (by omega)
 have hman := zaR hat.1 hat.2 hg.k6
 have hcp := zdF s.p (hs.p.fits hg)
 unfold zmZ
 generalize hm : zao (nth s.p.at_ s.cursor.toNat) = m at *
 obtain ⟨mk, ms⟩ := m
 simp only [Prod.mk.injEq] at hman
 repeat first|refine wV fun _=>?_|simp [go_sem, hcur]
 refine zAs hO (by simp [go_sem]) ?_
 repeat first|refine wV fun _=>?_|simp [go_sem]
 refine zAt (fun hc => ?_) (fun hc => ?_) <;> simp at hc
 ·rw [if_pos hc]
  repeat first|refine wV fun _=>?_|simp [go_sem]
  exact frX
 ·rw [if_neg (by omega)]
  repeat first|refine wV fun _=>?_|simp [go_sem]
  refine zAx hcp (by simp [go_sem]) ?_
  have hmk : mk.toNat < g.kinds.length := by omega
  repeat first|refine wV fun _=>?_|simp [go_sem, hcur, hmk]
  refine zAt (fun hk => ?_) (fun hk => ?_)
  ·rw [if_pos hk]
   have hl0 := hs.p.h0.len
   have hl1 := hs.p.h1.len
   rcases hs.p.s with hsd | hsd
   ·have hmk0 : mk.toNat < s.p.h0.length := by omega
    have hmk' : 0 ≤ mk := by omega
    have hv := hs.p.h0.v _ hmk0
    repeat first|refine wV fun _=>?_|simp [go_sem, hsd, hmk0, hcur]
    refine zAt (fun h8 => ?_) (fun h8 => ?_) <;> simp at h8
    ·rw [if_pos (by simpa [zah.hand, hsd] using h8)]
     repeat first|refine wV fun _=>?_|simp [go_sem]
     exact frX
    ·rw [if_neg (by simpa [zah.hand, hsd] using h8)]
     repeat first|refine wV fun _=>?_|simp [go_sem, hsd, zah.withHand, zah.hand, clr]
     (first|done|exact dpX)
   ·have hmk0 : mk.toNat < s.p.h1.length := by omega
    have hmk' : 0 ≤ mk := by omega
    have hv := hs.p.h1.v _ hmk0
    repeat first|refine wV fun _=>?_|simp [go_sem, hsd, hmk0, hcur]
    refine zAt (fun h8 => ?_) (fun h8 => ?_) <;> simp at h8
    ·rw [if_pos (by simpa [zah.hand, hsd] using h8)]
     repeat first|refine wV fun _=>?_|simp [go_sem]
     exact frX
    ·rw [if_neg (by simpa [zah.hand, hsd] using h8)]
     repeat first|refine wV fun _=>?_|simp [go_sem, hsd, zah.withHand, zah.hand, clr]
     (first|done|exact dpX)
  ·rw [if_neg (by simpa using hk)]
   repeat first|refine wV fun _=>?_|simp [go_sem, clr]
   (first|done|exact dpX)
theorem zpn (g : zae) (hg : GOk g) (s : StD) (hs : ze7 g s) (n : Int) : zaL Tryz.prog 318 [.agg (zac g), .agg (zan s), .v (.int .i64 n)] (za0 (zmV g s n)) := by
 refine pF Tryz.func318 ?_
 have hT := zgK g.board hg.board s.p.side n s.cursor
 repeat first|refine wV fun _=>?_|simp [go_sem]
 refine zAs hT (by simp [go_sem]) ?_
 have hal := hs.p.al
 have hc0 := hs.c0
 have hc1 := hs.c1
 have hcur : s.cursor.toNat < s.p.at_.length := by omega
 have hcp := zdF s.p (hs.p.fits hg)
 have hto := zfE hg.board s.p.side n s.cursor
 rw [show g.board.cells = g.cells from rfl] at hto
 unfold zmV
 generalize toB g.board s.p.side n s.cursor = to at *
 by_cases ht : to < 0
 ·rw [if_pos (.inr (.inl ht))]
  have ht0 : to.toNat = 0 := by omega
  have h0l : 0 < s.p.at_.length := by omega
  repeat first|refine wV fun _=>?_|simp [go_sem, hcur, ht, ht0, h0l]
  exact frX
 ·have htl : to.toNat < s.p.at_.length := by omega
  have ht' : 0 ≤ to := by omega
  repeat first|refine wV fun _=>?_|simp [go_sem, hcur, ht, htl]
  refine zAt (fun hc => ?_) (fun hc => ?_) <;> simp at hc
  ·rw [if_pos (by by_cases h : nth s.p.at_ s.cursor.toNat = 0; exact .inl h; exact .inr (hc.resolve_left h))]
   repeat first|refine wV fun _=>?_|simp [go_sem]
   exact frX
  ·rw [if_neg (by rintro (h | h); exact hc.1 h; exact h hc.2)]
   repeat first|refine wV fun _=>?_|simp [go_sem, hcur]
   refine zAx hcp (by simp [go_sem]) ?_
   repeat first|refine wV fun _=>?_|simp [go_sem, hcur, htl]
   (first|done|exact dpX)
end Go.Av
end
section
/- Our library, part 17: calls of functions that are given objects of ours and turn them. -/
namespace Go.Av
open Go

mutual
inductive Rn (σ : Nat → Nat) : AV → AV → Prop
 | same {x : AV} (h : Bel 0 x) : Rn σ x x
 | ref {o o' g sz i off : Nat} (h : o' = σ o) : Rn σ (.ref o g sz i off) (.ref o' g sz i off)
 | sl {o o' g sz i len : Nat} (h : o' = σ o) : Rn σ (.sl o g sz i len) (.sl o' g sz i len)
 | agg {xs ys : List AV} (h : RnL σ xs ys) : Rn σ (.agg xs) (.agg ys)
 | tup {xs ys : List AV} (h : RnL σ xs ys) : Rn σ (.tup xs) (.tup ys)
 | fn {f : Fn} {a b a' b' : List AV} (h : RnL σ a a') (h' : RnL σ b b') : Rn σ (.fn f a b) (.fn f a' b')
inductive RnL (σ : Nat → Nat) : List AV → List AV → Prop
 | nil : RnL σ [] []
 | cons {x y : AV} {xs ys : List AV} (h : Rn σ x y) (t : RnL σ xs ys) : RnL σ (x :: xs) (y :: ys)
end
inductive ztV (σ : Nat → Nat) : List (List AV) → List (List AV) → Prop
 | same {rs : List (List AV)} (h : ∀ r ∈ rs, ∀ c ∈ r, Bel 0 c) : ztV σ rs rs
 | nil : ztV σ [] []
 | cons {x y : List AV} {xs ys : List (List AV)} (h : RnL σ x y) (t : ztV σ xs ys) : ztV σ (x :: xs) (y :: ys)
inductive RnO (σ : Nat → Nat) : zbq → zbq → Prop
 | rows {mt : Bool} {g sz : Nat} {rs rs' : List (List AV)} (h : ztV σ rs rs') : RnO σ (.rows mt g sz rs) (.rows mt g sz rs')
inductive RnH (σ : Nat → Nat) : List (Nat × zbq) → List (Nat × zbq) → Prop
 | nil : RnH σ [] []
 | cons {o o' : Nat} {x y : zbq} {l l' : List (Nat × zbq)} (e : o' = σ o) (h : RnO σ x y) (t : RnH σ l l') : RnH σ ((o, x) :: l) ((o', y) :: l')
section
variable {σ : Nat → Nat} {φ φ' : zaw} {w : World} {M M' : Nat → Prop}
theorem Rn.rel (hφ : ∀ o, φ' (σ o) = φ o) (hM : ∀ k, M' k → M k) {x y : AV} (hs : Rn σ x y) : ∀ {v : Value}, Rel φ w M x v → Rel φ' w M' y v := by
 refine Rn.rec (σ := σ) (motive_1 := fun x y _ => ∀ {v : Value}, Rel φ w M x v → Rel φ' w M' y v) (motive_2 := fun xs ys _ => ∀ {vs : List Value}, zaI φ w M xs vs → zaI φ' w M' ys vs)
  ?_ ?_ ?_ ?_ ?_ ?_ ?_ ?_ hs
 ·intro x hb v hx; exact hx.closed hM hb
 ·intro o o' g sz i off e v hx
  subst e
  cases hx with | ref ho hg h => exact .ref (by rw [hφ]; exact ho) hg h
 ·intro o o' g sz i len e v hx
  subst e
  cases hx with | sl ho hg h => exact .sl (by rw [hφ]; exact ho) hg h
 ·intro xs ys _ ih v hx
  cases hx with | agg hv h => exact .agg hv (ih h)
 ·intro xs ys _ ih v hx
  cases hx with | tup h => exact .tup (ih h)
 ·intro f a b a' b' _ _ ih1 ih2 v hx
  cases hx with | fn h1 h2 => exact .fn (ih1 h1) (ih2 h2)
 ·intro vs hx; cases hx; exact .nil
 ·intro x y xs ys _ _ ih1 ih2 vs hx
  cases hx with | cons h t => exact .cons (ih1 h) (ih2 t)
theorem Rn.back {m : Nat} (hφ : ∀ o, o < m → φ o = φ' (σ o)) (hM : ∀ k, M k → M' k) {x y : AV} (hs : Rn σ x y) : Bel m x → ∀ {v : Value}, Rel φ' w M' y v → Rel φ w M x v := by
 refine Rn.rec (σ := σ) (motive_1 := fun x y _ => Bel m x → ∀ {v : Value}, Rel φ' w M' y v → Rel φ w M x v) (motive_2 := fun xs ys _ => (∀ c ∈ xs, Bel m c) → ∀ {vs : List Value}, zaI φ' w M' ys vs → zaI φ w M xs vs)
  ?_ ?_ ?_ ?_ ?_ ?_ ?_ ?_ hs
 ·intro x hb _ v hx; exact hx.closed hM hb
 ·intro o o' g sz i off e hb v hx
  subst e
  cases hb with | ref hb => cases hx with | ref ho hg h => exact .ref (by rw [hφ _ hb]; exact ho) hg h
 ·intro o o' g sz i len e hb v hx
  subst e
  cases hb with | sl hb => cases hx with | sl ho hg h => exact .sl (by rw [hφ _ hb]; exact ho) hg h
 ·intro xs ys _ ih hb v hx
  cases hb with | agg hb => cases hx with | agg hv h => exact .agg hv (ih hb h)
 ·intro xs ys _ ih hb v hx
  cases hb with | tup hb => cases hx with | tup h => exact .tup (ih hb h)
 ·intro f a b a' b' _ _ ih1 ih2 hb v hx
  cases hb with | fn hb hb' => cases hx with | fn h1 h2 => exact .fn (ih1 hb h1) (ih2 hb' h2)
 ·intro _ vs hx; cases hx; exact .nil
 ·intro x y xs ys _ _ ih1 ih2 hb vs hx
  cases hx with | cons h t => exact .cons (ih1 (hb _ (by simp)) h) (ih2 (fun c hc => hb c (by simp [hc])) t)
theorem RnL.rel (hφ : ∀ o, φ' (σ o) = φ o) (hM : ∀ k, M' k → M k) : ∀ {xs ys : List AV} {vs : List Value}, RnL σ xs ys → zaI φ w M xs vs → zaI φ' w M' ys vs
 | [], _, _, .nil, .nil => .nil
 | _ :: _, _, _, .cons h t, .cons h' t' => .cons (h.rel hφ hM h') (t.rel hφ hM t')
theorem RnL.back {m : Nat} (hφ : ∀ o, o < m → φ o = φ' (σ o)) (hM : ∀ k, M k → M' k) : ∀ {xs ys : List AV} {vs : List Value}, RnL σ xs ys → (∀ c ∈ xs, Bel m c) → zaI φ' w M' ys vs → zaI φ w M xs vs
 | [], _, _, .nil, _, .nil => .nil
 | _ :: _, _, _, .cons h t, hb, .cons h' t' => .cons (h.back hφ hM (hb _ (by simp)) h') (t.back hφ hM (fun c hc => hb c (by simp [hc])) t')
theorem RnL.length : ∀ {xs ys : List AV}, RnL σ xs ys → ys.length = xs.length
 | [], _, .nil => rfl
 | _ :: _, _, .cons _ t => by simp [t.length]
theorem ztV.rel (hφ : ∀ o, φ' (σ o) = φ o) (hM : ∀ k, M' k → M k) {xs ys : List (List AV)} (hs : ztV σ xs ys) :
  ∀ {vs : List Value}, zaI φ w M xs.flatten vs → zaI φ' w M' ys.flatten vs := by
 induction hs with
 | same h =>
  intro vs hx
  refine zAI hx.length fun k hk hk' => (hx.get k hk hk').closed hM ?_
  obtain ⟨r, hr, hc⟩ := List.mem_flatten.1 (List.getElem_mem hk)
  exact h r hr _ hc
 | nil => intro vs hx; cases hx; exact .nil
 | cons h _ ih =>
  intro vs hx
  rw [List.flatten_cons] at hx ⊢
  obtain ⟨us, ts, rfl, h1, h2⟩ := hx.split
  exact (h.rel hφ hM h1).append (ih h2)
theorem ztV.back {m : Nat} (hφ : ∀ o, o < m → φ o = φ' (σ o)) (hM : ∀ k, M k → M' k) {xs ys : List (List AV)} (hs : ztV σ xs ys) :
  (∀ r ∈ xs, ∀ c ∈ r, Bel m c) → ∀ {vs : List Value}, zaI φ' w M' ys.flatten vs → zaI φ w M xs.flatten vs := by
 induction hs with
 | same h =>
  intro _ vs hx
  refine zAI hx.length fun k hk hk' => (hx.get k hk hk').closed hM ?_
  obtain ⟨r, hr, hc⟩ := List.mem_flatten.1 (List.getElem_mem hk)
  exact h r hr _ hc
 | nil => intro _ vs hx; cases hx; exact .nil
 | cons h _ ih =>
  intro hb vs hx
  rw [List.flatten_cons] at hx ⊢
  obtain ⟨us, ts, rfl, h1, h2⟩ := hx.split
  exact (h.back hφ hM (hb _ (by simp)) h1).append (ih (fun r hr => hb r (by simp [hr])) h2)
theorem ztV.shape {xs ys : List (List AV)} (hs : ztV σ xs ys) : ys.length = xs.length ∧ (∀ sz, (∀ r ∈ xs, r.length = sz) → ∀ r ∈ ys, r.length = sz) ∧ ∀ sz, (∀ r ∈ ys, r.length = sz) → ∀ r ∈ xs, r.length = sz := by
 induction hs with
 | same h => exact ⟨rfl, fun _ h => h, fun _ h => h⟩
 | nil => exact ⟨rfl, fun _ h => h, fun _ h => h⟩
 | cons h _ ih =>
  refine ⟨by simp [ih.1], fun sz hr r hm => ?_, fun sz hr r hm => ?_⟩
  ·rcases List.mem_cons.1 hm with rfl | hm
   ·rw [h.length]; exact hr _ (by simp)
   ·exact ih.2.1 sz (fun r hr' => hr r (by simp [hr'])) r hm
  ·rcases List.mem_cons.1 hm with rfl | hm
   ·rw [← h.length]; exact hr _ (by simp)
   ·exact ih.2.2 sz (fun r hr' => hr r (by simp [hr'])) r hm
theorem RnH.at {l l' : List (Nat × zbq)} (hinj : ∀ a b, σ a = σ b → a = b) (hs : RnH σ l l') {o : Nat} {y : zbq} (ho : mkH l' o = some y) : ∃ o0 x, o = σ o0 ∧ mkH l o0 = some x ∧ RnO σ x y := by
 induction hs with
 | nil => cases ho
 | @cons o1 o1' x1 y1 l l' e1 h _ ih =>
  simp only [mkH, upd] at ho ⊢
  split at ho
  ·rename_i e
   cases ho
   exact ⟨o1, x1, e.trans e1, by simp, h⟩
  ·rename_i e
   obtain ⟨o0, x, rfl, h1, h2⟩ := ih ho
   refine ⟨o0, x, rfl, ?_, h2⟩
   rw [if_neg (fun h => e (by rw [h, e1]))]; exact h1
end
def ren (rs : List Nat) (n : Nat) (j : Nat) : Nat := if j < rs.length then rs.getD j 0 else n + (j - rs.length)
def zlO : List Nat → zar → zar
 | [], h => h
 | o :: l, h => upd (zlO l h) o none
theorem zwf (h : zar) : ∀ (l : List Nat) (o : Nat), zlO l h o = if o ∈ l then none else h o
 | [], o => by simp [zlO]
 | a :: l, o => by
  simp only [zlO, upd, List.mem_cons]
  by_cases e : o = a
  ·simp [e]
  ·simp [e, zwf h l o]
theorem zhO {rs : List Nat} {n j : Nat} (h : j < rs.length) : ren rs n j ∈ rs := by
 unfold ren; rw [if_pos h, List.getD_eq_getElem?_getD, List.getElem?_eq_getElem h]; exact List.getElem_mem h
theorem zAa {rs : List Nat} {n : Nat} (hd : rs.Nodup) (hlt : ∀ o ∈ rs, o < n) : ∀ a b, ren rs n a = ren rs n b → a = b := by
 intro a b he
 by_cases ha : a < rs.length <;> by_cases hb : b < rs.length
 ·unfold ren at he
  rw [if_pos ha, if_pos hb, List.getD_eq_getElem?_getD, List.getD_eq_getElem?_getD, List.getElem?_eq_getElem ha, List.getElem?_eq_getElem hb] at he
  exact (List.getElem_inj hd).1 (by simpa using he)
 ·have h1 := hlt _ (zhO (n := n) ha)
  rw [he] at h1
  unfold ren at h1
  rw [if_neg hb] at h1; omega
 ·have h1 := hlt _ (zhO (n := n) hb)
  rw [← he] at h1
  unfold ren at h1
  rw [if_neg ha] at h1; omega
 ·unfold ren at he
  rw [if_neg ha, if_neg hb] at he; omega
def ziq (P : Program) (f : FuncId) (args : List AV) (HA : List (Nat × zbq)) (m : Nat) (R0 : AV) (H0 : List (Nat × zbq)) (k2 : Nat) : Prop :=
 zaa P f args (mkH HA) m (fun r h n' => Wk (fun _ => r) h n' [(0, R0)] H0 k2)
theorem zAL {P : Program} {f : FuncId} {args args' args0 : List AV} {h : zar} {n m k2 : Nat} {K : zcF} {R0 R : AV} {HA H0 HH : List (Nat × zbq)} (rs : List Nat) (h' : zar)
  (hp : ziq P f args0 HA m R0 H0 k2) (hd : rs.Nodup) (hlt : ∀ o ∈ rs, o < n) (hm : rs.length = m) (hmk : m ≤ k2) (hfz : Frz h h')
  (hA : ∀ j, j < m → ∃ x y, mkH HA j = some x ∧ h' (ren rs n j) = some y ∧ RnO (ren rs n) x y) (hAb : ∀ p ∈ HA, p.1 < m ∧ zyU m p.2)
  (hle : zam h h' n args args') (hb' : ∀ c ∈ args', Bel n c) (hargs0 : RnL (ren rs n) args0 args') (hb0 : ∀ c ∈ args0, Bel m c)
  (hR : Rn (ren rs n) R0 R) (hHH : RnH (ren rs n) H0 HH) (hk : K R (zdP HH (zlO rs h')) (n + (k2 - m))) : zaa P f args h n K := by
 refine ⟨hp.1, fun M0 φ w vs hH hargs => ?_⟩
 obtain ⟨hH', st0⟩ := hH.freeze hfz
 have hσ := zAa hd hlt
 have hmt : ∀ o g sz rs, h' o = some (.rows true g sz rs) → h o = some (.rows true g sz rs) := by
  intro o g sz rs ho
  rcases hfz o with h1 | ⟨g1, sz1, rs1, h1, h2⟩
  ·rw [← h1]; exact ho
  ·rw [h2] at ho; cases ho
 have hmut0 : ∀ k, Mut φ h' k → Mut φ h k := by
  rintro k ⟨o, g, sz, rs, g', a, bs, ho, hp, rfl⟩
  exact ⟨o, g, sz, rs, g', a, bs, hmt _ _ _ _ ho, hp, rfl⟩
 have hv : zaI φ w (Or M0 (Mut φ h')) args' vs := by
  refine zam.rel (φ' := φ) (n' := n) hH (fun {x v} _ hx => hx.keep φ.le_refl (fun _ _ _ => rfl) (fun k hk => .inl (hk.imp id (hmut0 k)))) ?_ (fun o g sz h1 _ h2 => by omega) hle hb' hargs
  rintro o mt g sz rs a bs ho hp ho' h0 (hk | ⟨o', g', sz', rs', g'', a', bs', ho1, hp1, he⟩)
  ·exact h0 hk
  ·have hne : o' ≠ o := fun e => by subst e; exact ho' _ _ _ ho1
   have ho0 := hmt _ _ _ _ ho1
   have hg : g'' = g' := by
    obtain ⟨A2, hA2, _⟩ := hH.obj _ _ _ _ _ ho0
    rw [hp1] at hA2
    simp only [Option.some.injEq, Prod.mk.injEq] at hA2
    exact hA2.1
   subst hg
   exact hH.inj _ _ _ _ _ _ _ _ _ _ _ _ _ _ ho0 ho hne (.inl rfl) hp1 hp he
 let hr : zar := fun o => if o ∈ rs then none else h' o
 have hrmut : ∀ k, Mut φ hr k → Mut φ h' k := by
  rintro k ⟨o, g, sz, rs1, g', a, bs, ho, hp, rfl⟩
  simp only [hr] at ho
  split at ho
  ·cases ho
  ·exact ⟨o, g, sz, rs1, g', a, bs, ho, hp, rfl⟩
 let M1 : Nat → Prop := Or M0 (Mut φ hr)
 let φ0 : zaw := fun j => if j < m then φ (ren rs n j) else none
 have hφ0 : ∀ j, j < m → φ0 j = φ (ren rs n j) := fun j hj => if_pos hj
 have hgiv : ∀ j mt g sz rws, mkH HA j = some (.rows mt g sz rws) → j < m ∧ ∃ rws', h' (ren rs n j) = some (.rows mt g sz rws') ∧ ztV (ren rs n) rws rws' ∧ ∀ r ∈ rws, ∀ c ∈ r, Bel m c := by
  intro j mt g sz rws hj
  have hjm := hAb _ (zec hj)
  obtain ⟨x, y, h1, h2, h3⟩ := hA j hjm.1
  rw [hj] at h1
  cases h1
  cases h3 with
  | rows h3 => exact ⟨hjm.1, _, h2, h3, hjm.2⟩
 have hgmut : ∀ k, Mut φ0 (mkH HA) k → ∃ j, j < m ∧ ∃ g sz rws g' a bs, h' (ren rs n j) = some (.rows true g sz rws) ∧ φ (ren rs n j) = some (g', some (a, bs)) ∧ a.block = k := by
  rintro k ⟨j, g, sz, rws, g', a, bs, ho, hp, rfl⟩
  obtain ⟨hj, rws', h1, _⟩ := hgiv _ _ _ _ _ ho
  rw [hφ0 j hj] at hp
  exact ⟨j, hj, g, sz, rws', g', a, bs, h1, hp, rfl⟩
 have hgmut' : ∀ k, Mut φ0 (mkH HA) k → Mut φ h' k := fun k hk => by
  obtain ⟨j, _, g, sz, rws, g', a, bs, h1, h2, h3⟩ := hgmut k hk
  exact ⟨_, g, sz, rws, g', a, bs, h1, h2, h3⟩
 have hgen : ∀ {o mt g sz rws g' A}, h' o = some (.rows mt g sz rws) → φ o = some (g', A) → g' = g := by
  intro o mt g sz rws g' A ho hp
  obtain ⟨A2, hA2, _⟩ := hH'.obj _ _ _ _ _ ho
  rw [hp] at hA2
  simp only [Option.some.injEq, Prod.mk.injEq] at hA2
  exact hA2.1
 have hM1 : ∀ k, Or M1 (Mut φ0 (mkH HA)) k → Or M0 (Mut φ h') k := by
  rintro k ((hk | hk) | hk)
  ·exact .inl hk
  ·exact .inr (hrmut k hk)
  ·exact .inr (hgmut' k hk)
 have hH1 : zgI φ0 m w M1 (mkH HA) := by
  refine ⟨fun k hk => hH'.blk (hk.imp id (hrmut k)), fun o ho => if_neg (by omega), fun j mt g sz rws hj => ?_, fun o o' mt g sz rws mt' g' sz' rws' a a' b b' ho ho' hne hmm hp hp' => ?_, hH'.glob.keep (fun _ _ _ => rfl) (fun k hk => .inl (hM1 k hk))⟩
  ·obtain ⟨hjm, rws', h1, h2, h3⟩ := hgiv _ _ _ _ _ hj
   obtain ⟨A, hA1, hc⟩ := hH'.obj _ _ _ _ _ h1
   refine ⟨A, by rw [hφ0 j hjm]; exact hA1, hc.imp (fun h => ⟨h.1, ?_⟩) ?_⟩
   ·obtain ⟨_, rfl⟩ := h
    exact List.eq_nil_of_length_eq_zero h2.shape.1.symm
   ·rintro ⟨a, bs, c1, c3, hd⟩
    refine ⟨a, bs, c1, ?_, hd.turn rfl h2.shape.1.symm (h2.shape.2.2 sz) (fun c9 => h2.back hφ0 hM1 h3 c9)⟩
    ·rintro (hk | ⟨o', g1, sz1, rs1, g1', a', bs', ho1, hp1, he⟩)
     ·exact c3 hk
     ·simp only [hr] at ho1
      split at ho1
      ·cases ho1
      ·rename_i hni
       obtain rfl := hgen ho1 hp1
       subst c1
       exact hH'.inj _ _ _ _ _ _ _ _ _ _ _ _ _ _ ho1 h1 (fun e => hni (e ▸ zhO (by omega))) (.inl rfl) hp1 hA1 he
  ·obtain ⟨hj, r1, h1, _⟩ := hgiv _ _ _ _ _ ho
   obtain ⟨hj', r1', h1', _⟩ := hgiv _ _ _ _ _ ho'
   rw [hφ0 o hj] at hp
   rw [hφ0 o' hj'] at hp'
   exact hH'.inj _ _ _ _ _ _ _ _ _ _ _ _ _ _ h1 h1' (fun e => hne (hσ _ _ e)) hmm hp hp'
 have hargs1 : zaI φ0 w (Or M1 (Mut φ0 (mkH HA))) args0 vs := hargs0.back hφ0 hM1 hb0 hv
 refine (hp.2 _ φ0 w vs hH1 hargs1).mono ?_
 rintro e w' ⟨v, φ1, r, h1, n', rfl, hK, hH2, hx, st⟩
 obtain ⟨φ2, hH3, hx3, hm3, hst⟩ := hK.sound hH2 (tmps := fun _ => v) (fun _ => hx)
 have hx3 := hx3 0
 simp only [mkE, zax] at hx3
 have hlater : ∀ j x, j < m → φ (ren rs n j) = some x → ∃ x', φ2 j = some x' ∧ x.1 ≤ x'.1 ∧ (x'.1 = x.1 → x' = x) := by
  intro j x hj hx
  obtain ⟨x', h1, h2, h3⟩ := st.le j x (by rw [hφ0 j hj]; exact hx)
  exact ⟨x', hst j x' (by omega) h1, h2, h3⟩
 let φ3 : zaw := fun o => if o ∈ rs then φ2 (rs.idxOf o) else if o < n then φ o else φ2 (o - n + m)
 have hidx : ∀ j, j < m → rs.idxOf (ren rs n j) = j := by
  intro j hj
  have h1 := List.idxOf_lt_length_of_mem (zhO (rs := rs) (n := n) (j := j) (by omega))
  refine hσ _ _ ?_
  have h2 := List.getElem_idxOf h1
  unfold ren at h1 h2 ⊢
  rw [if_pos h1, List.getD_eq_getElem?_getD, List.getElem?_eq_getElem h1]
  exact h2
 have e3 : ∀ o, φ3 (ren rs n o) = φ2 o := by
  intro o
  by_cases ho : o < m
  ·simp only [φ3]
   rw [if_pos (zhO (by omega)), hidx o ho]
  ·have hge : ren rs n o = n + (o - m) := by unfold ren; rw [if_neg (by omega), hm]
   simp only [φ3]
   rw [hge, if_neg (fun hmem => by have := hlt _ hmem; omega), if_neg (by omega)]
   congr 1; omega
 have e3' : ∀ o, o < n → o ∉ rs → φ3 o = φ o := fun o ho hni => by simp only [φ3]; rw [if_neg hni, if_pos ho]
 have hltn : ∀ o x, φ o = some x → o < n := fun o x ho => Nat.lt_of_not_le fun hle => by rw [hH.fresh o hle] at ho; cases ho
 have hren : ∀ o, o ∈ rs → ∃ j, j < m ∧ o = ren rs n j := by
  intro o ho
  obtain ⟨j, hj, rfl⟩ := List.getElem_of_mem ho
  exact ⟨j, by omega, by unfold ren; rw [if_pos hj, List.getD_eq_getElem?_getD, List.getElem?_eq_getElem hj]; rfl⟩
 have hle3 : φ.le φ3 := by
  intro o x ho
  by_cases hmem : o ∈ rs
  ·obtain ⟨j, hj, rfl⟩ := hren o hmem
   rw [e3]; exact hlater j x hj ho
  ·exact ⟨x, by rw [e3' o (hltn _ _ ho) hmem]; exact ho, Nat.le_refl _, fun _ => rfl⟩
 have hheap : ∀ k, k < w.heap.size → ¬ Mut φ0 (mkH HA) k → w'.heap[k]? = w.heap[k]? := fun k hk hn => st.fr.block k hk hn
 have hsrc : ∀ o y, zdP HH (zlO rs h') o = some y → (∃ o0 x, o = ren rs n o0 ∧ mkH H0 o0 = some x ∧ RnO (ren rs n) x y) ∨ (o < n ∧ o ∉ rs ∧ h' o = some y) := by
  intro o x ho
  rw [zgy] at ho
  split at ho
  ·rename_i y hy
   cases ho
   exact .inl (hHH.at hσ hy)
  ·rw [zwf] at ho
   split at ho
   ·cases ho
   ·rename_i hni
    cases x with
    | rows mt g sz rws =>
     obtain ⟨A, hA, _⟩ := hH'.obj _ _ _ _ _ ho
     exact .inr ⟨hltn _ _ hA, hni, ho⟩
 have hmut : ∀ k, Mut φ3 (zdP HH (zlO rs h')) k → Mut φ2 (mkH H0) k ∨ Mut φ hr k := by
  rintro k ⟨o, g, sz, rws, g', a, bs, ho, hp, rfl⟩
  rcases hsrc o _ ho with ⟨o0, x, rfl, h1, h2⟩ | ⟨h1, hni, h2⟩
  ·cases h2 with
   | rows h2 => rw [e3] at hp; exact .inl ⟨o0, g, sz, _, g', a, bs, h1, hp, rfl⟩
  ·rw [e3' o h1 hni] at hp
   exact .inr ⟨o, g, sz, rws, g', a, bs, by simp only [hr]; rw [if_neg hni]; exact h2, hp, rfl⟩
 have hmnew : ∀ k, Mut φ2 (mkH H0) k → Mut φ0 (mkH HA) k ∨ w.heap.size ≤ k := fun k hk => st.mutd k (hm3 k hk)
 have hsub : ∀ k, Or M0 (Mut φ3 (zdP HH (zlO rs h'))) k → Or M1 (Mut φ2 (mkH H0)) k := fun k hk => hk.elim (fun h => .inl (.inl h)) fun h => (hmut k h).elim .inr fun h => .inl (.inr h)
 have hmutd : ∀ k, Mut φ3 (zdP HH (zlO rs h')) k → Mut φ h' k ∨ w.heap.size ≤ k := fun k hk =>
  (hmut k hk).elim (fun h => (hmnew k h).imp (hgmut' k) id) fun h => .inl (hrmut k h)
 have hsub' : ∀ k, Or M0 (Mut φ3 (zdP HH (zlO rs h'))) k → Or M0 (Mut φ h') k ∨ w.heap.size ≤ k := fun k hk => hk.elim (fun h => .inl (.inl h)) fun h => (hmutd k h).imp .inr id
 have hblk : ∀ o x g' a bs, h' o = some x → φ o = some (g', some (a, bs)) → a.block < w.heap.size := by
  intro o x g' a bs ho hp
  cases x with
  | rows mt g sz rws =>
   obtain ⟨A, hA, hc⟩ := hH'.obj _ _ _ _ _ ho
   rw [hp] at hA
   simp only [Option.some.injEq, Prod.mk.injEq] at hA
   obtain ⟨rfl, rfl⟩ := hA
   rcases hc with ⟨h, _⟩ | ⟨a', bs', h, _, h2⟩
   ·cases h
   ·simp only [Option.some.injEq, Prod.mk.injEq] at h
    obtain ⟨rfl, rfl⟩ := h
    exact h2.blk
 have hkeep : ∀ o mt g sz rws g' a bs, o ∉ rs → h' o = some (.rows mt g sz rws) → φ o = some (g', some (a, bs)) → ¬ Mut φ0 (mkH HA) a.block := by
  intro o mt g sz rws g' a bs hni ho hp hk
  obtain ⟨j, hj, g1, sz1, rws1, g1', a1, bs1, q1, q2, q3⟩ := hgmut _ hk
  obtain rfl := hgen ho hp
  obtain rfl := hgen q1 q2
  exact hH'.inj _ _ _ _ _ _ _ _ _ _ _ _ _ _ q1 ho (fun e => hni (e ▸ zhO (by omega))) (.inl rfl) q2 hp q3
 have hfar : ∀ o0 mt g sz rws g' a bs o' y g1 a' b', mkH H0 o0 = some (.rows mt g sz rws) → φ2 o0 = some (g', some (a, bs)) → o' ∉ rs → h' o' = some y → φ o' = some (g1, some (a', b')) →
   (mt = true ∨ ∃ g sz rs, y = .rows true g sz rs) → a.block ≠ a'.block := by
  intro o0 mt g sz rws g' a bs o' y g1 a' b' q1 q2 hni q3 q4 hmm
  have hb1 := hblk _ _ _ _ _ q3 q4
  rcases hmm with rfl | ⟨g2, sz2, rs2, rfl⟩
  ·rcases hmnew a.block ⟨o0, g, sz, rws, _, a, bs, q1, q2, rfl⟩ with hk | hk
   ·intro he
    cases y with
    | rows mt1 g1' sz1 rws1 => exact hkeep _ _ _ _ _ _ _ _ hni q3 q4 (he ▸ hk)
   ·omega
  ·intro he
   obtain ⟨A, hA, hc⟩ := hH3.obj _ _ _ _ _ q1
   rw [q2] at hA
   simp only [Option.some.injEq, Prod.mk.injEq] at hA
   obtain ⟨_, rfl⟩ := hA
   rcases hc with ⟨h, _⟩ | ⟨a1, bs1, h, hn0, _⟩
   ·cases h
   ·simp only [Option.some.injEq, Prod.mk.injEq] at h
    obtain ⟨rfl, rfl⟩ := h
    exact hn0 (.inr ⟨o', g2, sz2, rs2, _, a', b', by simp only [hr]; rw [if_neg hni]; exact q3, q4, he.symm⟩)
 refine ⟨v, φ3, R, zdP HH (zlO rs h'), n + (k2 - m), rfl, hk, ⟨fun k hk => Nat.lt_of_lt_of_le (hH.m0 k hk) st.fr.size, fun o ho => ?_, fun o mt g sz rws ho => ?_, fun o o' mt g sz rws mt' g' sz' rws' a a' b b' ho ho' hne hmm hp hp' => ?_,
   hH'.glob.keep (fun k hn hk => hheap k hk (fun hg => hn (.inr (hgmut' k hg)))) hsub'⟩,
  hR.rel e3 hsub hx3, st0.trans ⟨hle3, hsub', ⟨st.fr.os, st.fr.tape, st.fr.output, st.fr.drawn, st.fr.size, fun k hk hn => hheap k hk (fun hg => hn (hgmut' k hg))⟩, hmutd⟩⟩
 ·have h1 : ren rs n (o - n + m) = o := by unfold ren; rw [if_neg (by omega)]; omega
  rw [← h1, e3]; exact hH3.fresh _ (by omega)
 ·rcases hsrc o _ ho with ⟨o0, x, rfl, h1, h2⟩ | ⟨h1, hni, h2⟩
  ·cases h2 with
   | rows hs =>
    obtain ⟨A, hA, hc⟩ := hH3.obj _ _ _ _ _ h1
    refine ⟨A, by rw [e3]; exact hA, hc.imp (fun h => ⟨h.1, ?_⟩) ?_⟩
    ·obtain ⟨_, rfl⟩ := h
     exact List.eq_nil_of_length_eq_zero hs.shape.1
    ·rintro ⟨a, bs, c1, c3, hd⟩
     exact ⟨a, bs, c1, fun hk => c3 (.inl hk), hd.turn rfl hs.shape.1 (hs.shape.2.1 sz) (fun c9 => hs.rel e3 hsub c9)⟩
  ·obtain ⟨A, hA, hc⟩ := hH'.obj _ _ _ _ _ h2
   refine ⟨A, by rw [e3' o h1 hni]; exact hA, hc.imp id ?_⟩
   rintro ⟨a, bs, c1, c3, hd⟩
   exact ⟨a, bs, c1, c3, hd.keep (hheap _ hd.blk (hkeep _ _ _ _ _ _ _ _ hni h2 (by rw [hA, c1]))) (fun c9 => c9.keep hle3 (fun k hn hk => hheap k hk (fun hg => hn (.inr (hgmut' k hg)))) hsub')⟩
 ·rcases hsrc o _ ho with ⟨o0, x, rfl, q1, q2⟩ | ⟨q1, qn, q2⟩ <;> rcases hsrc o' _ ho' with ⟨o0', x', rfl, q1', q2'⟩ | ⟨q1', qn', q2'⟩
  ·cases q2; cases q2'
   rw [e3] at hp hp'
   exact hH3.inj _ _ _ _ _ _ _ _ _ _ _ _ _ _ q1 q1' (fun e => hne (by rw [e])) hmm hp hp'
  ·cases q2
   rw [e3] at hp; rw [e3' o' q1' qn'] at hp'
   exact hfar _ _ _ _ _ _ _ _ _ _ _ _ _ q1 hp qn' q2' hp' (hmm.imp id fun h => by subst h; exact ⟨_, _, _, rfl⟩)
  ·cases q2'
   rw [e3' o q1 qn] at hp; rw [e3] at hp'
   exact Ne.symm (hfar _ _ _ _ _ _ _ _ _ _ _ _ _ q1' hp' qn q2 hp (hmm.symm.imp id fun h => by subst h; exact ⟨_, _, _, rfl⟩))
  ·rw [e3' o q1 qn] at hp; rw [e3' o' q1' qn'] at hp'
   exact hH'.inj _ _ _ _ _ _ _ _ _ _ _ _ _ _ q2 q2' hne hmm hp hp'
theorem Bel.mono {n m : Nat} (hnm : n ≤ m) {x : AV} (h : Bel n x) : Bel m x := by
 induction h with
 | top => exact .top
 | v x => exact .v x
 | agg _ ih => exact .agg ih
 | tup _ ih => exact .tup ih
 | lst _ ih => exact .lst ih
 | fp _ ih => exact .fp ih
 | ref h => exact .ref (by omega)
 | sl h => exact .sl (by omega)
 | mp h => exact .mp (by omega)
 | fn _ _ ih1 ih2 => exact .fn ih1 ih2
 | gd _ ih => exact .gd ih
theorem zA6 {P : Program} {n : Nat} {ops : List Oper} {Q : zbW} {m i : Nat} {rest : List Oper} {e : Env} {h : zar} {acc : List ze1} {dst : Option Tmp} {f : FuncId} {first caps args args0 : List AV} {R0 R : AV} {o : Nat} {mt : Bool} {g g' sz : Nat} {rws rws' : List (List AV)}
  (hp : ziq P f args0 [(0, .rows mt g sz rws)] 1 R0 [(0, .rows true g' sz rws')] 1) (ho : h o = some (.rows mt g sz rws)) (hcl : ∀ r ∈ rws, ∀ c ∈ r, Bel 0 c) (hcl' : ∀ r ∈ rws', ∀ c ∈ r, Bel 0 c)
  (hargs : ∀ n₁, RnL (ren [o] n₁) args0 (first ++ args ++ caps)) (hb0 : ∀ c ∈ args0, Bel 1 c) (hb : ∀ n₁, o < n₁ → ∀ c ∈ first ++ args ++ caps, Bel n₁ c)
  (hR : ∀ n₁, Rn (ren [o] n₁) R0 R) (hfl : zqT R ∨ ∃ g sz i len, R = .sl o g sz i len)
  (hk : adr P n ops Q m (i + 1) rest (put e dst R) (upd h o (some (.rows true g' sz rws'))) (acc ++ [([o], [o])])) : zav P n ops Q m i rest dst (.fn (.func f) first caps) args e h acc := by
 refine ⟨R, [o], [(o, some (.rows true g' sz rws'))], .inr (.inr (.inl ⟨f, first, caps, rfl, ?_, ?_, ?_, fun h₁ n₁ hx hn => ?_⟩)), hk⟩
 ·intro o' ho'
  simp only [List.mem_singleton] at ho'
  subst ho'
  exact ⟨_, ho⟩
 ·intro p hp
  simp only [List.mem_singleton] at hp
  subst hp
  exact ⟨by simp, g', sz, rws', rfl, hcl'⟩
 ·exact hfl.imp id fun ⟨g, sz, i, len, h⟩ => ⟨o, g, sz, i, len, h, by simp⟩
 ·have hon := hn o (by simp)
  have r0 : ren [o] n₁ 0 = o := rfl
  refine zAL (args' := first ++ args ++ caps) (HH := [(o, .rows true g' sz rws')]) [o] h₁ hp (by simp) (by simpa using hon) rfl (Nat.le_refl _) (.refl _) ?_ ?_ (.refl _ _ _ _) (hb n₁ hon) (hargs n₁) hb0 (hR n₁)
   (.cons r0.symm (.rows (.same hcl')) .nil) ⟨rfl, ?_, rfl⟩
  ·intro j hj
   obtain rfl : j = 0 := by omega
   exact ⟨.rows mt g sz rws, .rows mt g sz rws, by simp [mkH, zax], by rw [r0, ← hx o (by simp)]; exact ho, .rows (.same hcl)⟩
  ·intro p hp
   simp only [List.mem_singleton] at hp
   subst hp
   refine ⟨by simp, fun r hr c hc => ?_⟩
   exact Bel.mono (Nat.zero_le _) (hcl r hr c hc)
  ·funext a
   simp only [zdP, zlO, zal, upd]
   split <;> rfl
theorem zAS {P : Program} {n : Nat} {ops : List Oper} {Q : zbW} {m i : Nat} {rest : List Oper} {e : Env} {h : zar} {acc : List ze1} {dst : Option Tmp} {f : FuncId} {first caps args args' : List AV} {R : Nat → AV} {HH : Nat → List (Nat × zbq)} {k2 : Nat}
  (b : Nat) (hbb : b = n + ops.length + 16 * i) (hp : zgi P f args' R HH k2) (hk16 : k2 ≤ 16) (hnR : zfa (R 0)) (hnH : ∀ p ∈ HH 0, zna p.2) (hle : ∀ h₁ : zar, zam h₁ noH 0 (first ++ args ++ caps) args') (hb : ∀ c ∈ args', Bel 0 c)
  (hnd : ((HH b).map (·.1)).Nodup) (hk : adr P n ops Q m (i + 1) rest (put e dst (R b)) (zdP (HH b) h) (acc ++ [([zcV], (HH b).map (·.1))])) : zav P n ops Q m i rest dst (.fn (.func f) first caps) args e h acc := by
 subst hbb
 refine ⟨R _, [zcV], (HH (n + ops.length + 16 * i)).map (fun p => (p.1, some p.2)), .inr (.inr (.inr ⟨f, first, caps, args', R 0, HH 0, HH (n + ops.length + 16 * i), k2, rfl, by simp, hk16, hb, hp.1, hnR, hnH, (hp.2 _).1, (hp.2 _).2, hnd, rfl, fun h₁ _ => hle h₁⟩)), ?_⟩
 rw [zeF hnd, List.map_map]
 exact hk
theorem zA3 {P : Program} {n : Nat} {ops : List Oper} {Q : zbW} {m i : Nat} {rest : List Oper} {e : Env} {h : zar} {acc : List ze1} {dst : Option Tmp} {f : FuncId} {first caps args args' : List AV} {R : Nat → AV} {HH : Nat → List (Nat × zbq)} {k2 : Nat}
  (S : List Nat) (b : Nat) (hbb : b = n + ops.length + 16 * i) (hp : zgi P f args' R HH k2) (hk16 : k2 ≤ 16) (hnR : zfa (R 0)) (hnH : ∀ p ∈ HH 0, zna p.2) (hle : ∀ h₁ : zar, (∀ o ∈ S, h o = h₁ o) → zam h₁ noH 0 (first ++ args ++ caps) args') (hb : ∀ c ∈ args', Bel 0 c)
  (hnd : ((HH b).map (·.1)).Nodup) (hk : adr P n ops Q m (i + 1) rest (put e dst (R b)) (zdP (HH b) h) (acc ++ [(zcV :: S, (HH b).map (·.1))])) : zav P n ops Q m i rest dst (.fn (.func f) first caps) args e h acc := by
 subst hbb
 refine ⟨R _, zcV :: S, (HH (n + ops.length + 16 * i)).map (fun p => (p.1, some p.2)), .inr (.inr (.inr ⟨f, first, caps, args', R 0, HH 0, HH (n + ops.length + 16 * i), k2, rfl, by simp, hk16, hb, hp.1, hnR, hnH, (hp.2 _).1, (hp.2 _).2, hnd, rfl, fun h₁ h2 => hle h₁ fun o ho => h2 o (List.mem_cons_of_mem _ ho)⟩)), ?_⟩
 rw [zeF hnd, List.map_map]
 exact hk
end Go.Av
end
section
open Go Go.Proofs
namespace Go.Av
theorem zq0 (l : List StD) : zee l [] = l := rfl
theorem zua (l more : List StD) (s : StD) : zee l (more ++ [s]) = if s ∈ zee l more then zee l more else zee l more ++ [s] := by
 unfold zee; rw [List.foldl_append]; rfl
theorem znk (l more : List StD) {i : Nat} (h : i < more.length) : zee l (more.take (i + 1)) = if nth more i ∈ zee l (more.take i) then zee l (more.take i) else zee l (more.take i) ++ [nth more i] := by
 rw [List.take_add_one, List.getElem?_eq_getElem h, zaC _ _ h, Option.toList_some, zua]
theorem zgN : ∀ (more l : List StD), l.length ≤ (zee l more).length ∧ (zee l more).length ≤ l.length + more.length
 | [], l => by simp [zee]
 | s :: more, l => by
  have e : zee l (s :: more) = zee (if s ∈ l then l else l ++ [s]) more := rfl
  rw [e]
  by_cases h : s ∈ l
  ·have := zgN more l
   rw [if_pos h]; simp; omega
  ·have := zgN more (l ++ [s])
   rw [if_neg h]; simp at this ⊢; omega
theorem ziC {P : StD → Prop} : ∀ {more l : List StD}, (∀ s ∈ l, P s) → (∀ s ∈ more, P s) → ∀ s ∈ zee l more, P s
 | [], l, h, _ => h
 | s :: more, l, h, h' => by
  have e : zee l (s :: more) = zee (if s ∈ l then l else l ++ [s]) more := rfl
  rw [e]
  refine ziC (fun t ht => ?_) (fun t ht => h' t (List.mem_cons_of_mem _ ht))
  split at ht
  ·exact h t ht
  ·rcases List.mem_append.1 ht with ht | ht
   ·exact h t ht
   ·simp at ht; subst ht; exact h' _ (by simp)
theorem zr3 (l more : List StD) (hl : l.length + more.length ≤ 17179869184) (h1 : ∀ s ∈ l, zaU s.p) (h2 : ∀ s ∈ more, zaU s.p) :
  ziq Tryz.prog 308 [.sl 0 l.length 8 0 l.length, za0 more] [(0, .rows true l.length 8 (l.map zan))] 1 (.sl 0 (zee l more).length 8 0 (zee l more).length) [(0, .rows true (zee l more).length 8 ((zee l more).map zan))] 1 := by
 unfold ziq
 refine zAw (by kernel_rfl) Tryz.func308 rfl rfl (Nat.le_of_ble_eq_true rfl) (by kernel_rfl) ?_
 repeat first|refine wV fun _=>?_|simp [go_sem]
 refine zAr (zAv (α := Nat × List StD) (fun a => ⟨[(0, .sl 0 a.2.length 8 0 a.2.length), (1, za0 more), (5, .v (.int .i64 a.1))], [(0, .rows true a.2.length 8 (a.2.map zan))], 1⟩)
  (fun d a => a.1 + d = more.length ∧ a.2 = zee l (more.take a.1)) ?_ more.length (0, l) ?_) ?_ ?_
 ·rintro d ⟨i, out⟩ ⟨i1, i2⟩ hrec
  simp only at i1 i2
  have hol := zgN (more.take i) l
  rw [← i2] at hol
  have hof : ∀ s ∈ out, zaU s.p := by rw [i2]; exact ziC h1 (fun s hs => h2 s (List.mem_of_mem_take hs))
  repeat first|refine wV fun _=>?_|simp [go_sem]
  refine zAt (fun hi => ?_) (fun hi => ?_) <;> simp at hi
  ·have htl : (more.take i).length = i := by simp; omega
   have hfi := h2 _ (zaj hi)
   have hsu := znk l more hi
   rw [← i2] at hsu
   repeat first|refine wV fun _=>?_|simp [go_sem]
   refine zAr (zAv (α := Nat) (fun k => ⟨[(0, .sl 0 out.length 8 0 out.length), (1, za0 more), (5, .v (.int .i64 i)), (6, .v (.bool (decide (nth more i ∈ out.take k)))), (7, .v (.int .i64 k))], [(0, .rows true out.length 8 (out.map zan))], 1⟩)
    (fun d k => k + d = out.length) ?_ out.length 0 ?_) ?_ ?_
   ·rintro d2 k k1 hrec2
    repeat first|refine wV fun _=>?_|simp [go_sem]
    refine zAt (fun hk => ?_) (fun hk => ?_) <;> simp at hk
    ·have hfk := hof _ (zaj hk)
     have htk : out.take (k + 1) = out.take k ++ [nth out k] := by rw [List.take_add_one, List.getElem?_eq_getElem hk, zaC _ _ hk]; rfl
     repeat first|refine wV fun _=>?_|simp [go_sem, hi, hk]
     refine zAD _ (fun _ => zpo _ _ hfk hfi) (by simp [go_sem]) ?_
     repeat first|refine wV fun _=>?_|simp [go_sem, hi, hk]
     refine zAr (hrec2 (d2 - 1) (by omega) (k + 1) (by omega)) ?_ (by simp)
     simp [go_sem, zaf, htk, eq_comm (a := nth more i) (b := nth out k)]
    ·have hkl : k = out.length := by omega
     subst hkl
     repeat first|refine wV fun _=>?_|simp [go_sem]
     by_cases hm : nth more i ∈ out
     ·rw [if_pos hm] at hsu
      repeat first|refine wV fun _=>?_|simp [go_sem, hm]
      refine zAr (hrec (d - 1) (by omega) (i + 1, out) ⟨by simp only; omega, hsu.symm⟩) ?_ (by simp)
      simp [go_sem, zaf]
     ·rw [if_neg hm] at hsu
      repeat first|refine wV fun _=>?_|simp [go_sem, hm, hi]
      refine zAr (hrec (d - 1) (by omega) (i + 1, out ++ [nth more i]) ⟨by simp only; omega, hsu.symm⟩) ?_ (by simp)
      simp [go_sem, zaf]
   ·omega
   ·simp [go_sem, zaf]
   ·simp
  ·have hil : i = more.length := by omega
   subst hil
   rw [List.take_length] at i2
   rw [← i2]
   repeat first|refine wV fun _=>?_|simp [go_sem]
   simp [go_sem, zaf]
 ·simp [zq0]
 ·simp [go_sem, zaf]
 ·simp
theorem zpl (g : zae) (hg : GOk g) (s : StD) (hs : ze7 g s) (x : Int × Int) (hx : zeg g.next.length g.kinds.length g.rights x) :
  zaL Tryz.prog 309 [.agg (zac g), .agg (zan s), .agg (zaA x)] (za0 (zbU g s x)) := by
 refine pF Tryz.func309 ?_
 have hal := hs.p.al
 have hc0 := hs.c0
 have hc1 := hs.c1
 have hcur : s.cursor.toNat < s.p.at_.length := by omega
 have hat := hs.p.at (i := s.cursor.toNat) (by omega)
 have hO := zdD (nth s.p.at_ s.cursor.toNat)
 have hTo := fun n => zgK g.board hg.board s.p.side n s.cursor
 have hOn := fun u b => zpm u b
 have hSl := fun n => zng g hg s hs n
 have hTk := zpp g hg s hs
 have hPu := fun n => zpn g hg s hs n
 have r0 := hg.r0
 have r4 := hg.r4
 obtain ⟨op, n⟩ := x
 obtain ⟨xo, xd, xz, xk, xr⟩ := hx
 simp only at xo xd xz xk xr
 unfold zbU
 generalize hm : zao (nth s.p.at_ s.cursor.toNat) = m at *
 obtain ⟨mk, ms⟩ := m
 repeat first|refine wV fun _=>?_|simp [go_sem, hcur]
 refine zAs hO (by simp [go_sem]) ?_
 rcases (show op = 1 ∨ op = 2 ∨ op = 3 ∨ op = 4 ∨ op = 5 ∨ op = 6 ∨ op = 7 ∨ op = 8 ∨ op = 9 ∨ op = 10 by omega) with rfl | rfl | rfl | rfl | rfl | rfl | rfl | rfl | rfl | rfl
 ·repeat first|refine wV fun _=>?_|simp [go_sem]
  refine zAs (hTo n) (by simp [go_sem]) ?_
  repeat first|refine wV fun _=>?_|simp [go_sem]
  refine zAs (hOn { s with cursor := toB g.board s.p.side n s.cursor } _) (by simp [go_sem]) ?_
  repeat first|refine wV fun _=>?_|simp [go_sem]
 ·repeat first|refine wV fun _=>?_|simp [go_sem]
  refine zAs (hSl n) (by simp [go_sem]) ?_
  repeat first|refine wV fun _=>?_|simp [go_sem]
 ·repeat first|refine wV fun _=>?_|simp [go_sem]
  refine zAs (hOn s _) (by simp [go_sem]) ?_
  repeat first|refine wV fun _=>?_|simp [go_sem]
 ·repeat first|refine wV fun _=>?_|simp [go_sem]
  refine zAs (hOn s _) (by simp [go_sem]) ?_
  repeat first|refine wV fun _=>?_|simp [go_sem]
 ·repeat first|refine wV fun _=>?_|simp [go_sem]
  refine zAs (hOn s _) (by simp [go_sem]) ?_
  repeat first|refine wV fun _=>?_|simp [go_sem]
 ·repeat first|refine wV fun _=>?_|simp [go_sem]
  refine zAs hTk (by simp [go_sem]) ?_
  repeat first|refine wV fun _=>?_|simp [go_sem]
 ·repeat first|refine wV fun _=>?_|simp [go_sem]
  refine zAs (hPu n) (by simp [go_sem]) ?_
  repeat first|refine wV fun _=>?_|simp [go_sem]
 ·repeat first|refine wV fun _=>?_|simp [go_sem]
  exact frX
 ·have hn := xr (by omega)
  repeat first|refine wV fun _=>?_|simp [go_sem]
  refine zAu (hOn s _) (by simp [go_sem]) ?_
  repeat first|refine wV fun _=>?_|simp [go_sem]
 ·have hn := xr (by omega)
  have hpn := ziR hn.1 (show n ≤ 4 by omega)
  repeat first|refine wV fun _=>?_|simp [go_sem]
  exact frX
def zbM (g : zae) (p : zah) (cell : Int) (prog : List (Int × Int)) (n : Nat) : List StD := (prog.take n).foldl (zgx g) [zev p cell]
theorem zgF (g : zae) (p : zah) (cell : Int) (prog : List (Int × Int)) : zbM g p cell prog 0 = [zev p cell] := rfl
theorem zgE (g : zae) (p : zah) (cell : Int) (prog : List (Int × Int)) {n : Nat} (h : n < prog.length) : zbM g p cell prog (n + 1) = zgx g (zbM g p cell prog n) (nth prog n) := by
 unfold zbM
 rw [List.take_add_one, List.getElem?_eq_getElem h, zaC _ _ h, Option.toList_some, List.foldl_append]; rfl
theorem zgD (g : zae) (p : zah) (cell : Int) (prog : List (Int × Int)) : zbM g p cell prog prog.length = zd9 g p cell prog := by
 unfold zbM zd9; rw [List.take_length]
def zcX (g : zae) (now : List StD) (x : Int × Int) (n : Nat) : List StD := (now.take n).foldl (fun next s => zee next (zbU g s x)) []
theorem zlM (g : zae) (now : List StD) (x : Int × Int) : zcX g now x 0 = [] := rfl
theorem zhK (g : zae) (now : List StD) (x : Int × Int) {n : Nat} (h : n < now.length) : zcX g now x (n + 1) = zee (zcX g now x n) (zbU g (nth now n) x) := by
 unfold zcX
 rw [List.take_add_one, List.getElem?_eq_getElem h, zaC _ _ h, Option.toList_some, List.foldl_append]; rfl
theorem zj0 (g : zae) (now : List StD) (x : Int × Int) : zcX g now x now.length = zgx g now x := by
 unfold zcX zgx; rw [List.take_length]
theorem zmT {g : zae} (hg : GOk g) {now : List StD} {x : Int × Int} (hx : zeg g.next.length g.kinds.length g.rights x) {side : Int} (hn : ∀ s ∈ now, ze7 g s ∧ s.p.side = side) :
  ∀ n, n ≤ now.length → (∀ s ∈ zcX g now x n, ze7 g s ∧ s.p.side = side) ∧ (zcX g now x n).length ≤ 10 * n := by
 intro n
 induction n with
 | zero => intro _; simp [zcX]
 | succ n ih =>
  intro h
  obtain ⟨h1, h2⟩ := ih (by omega)
  have hs := hn _ (zaj (show n < now.length by omega))
  rw [zhK g now x (by omega)]
  refine ⟨ziC h1 (fun s hs' => ?_), ?_⟩
  ·obtain ⟨k1, k2⟩ := zhh hg hs.1 hx s hs'
   exact ⟨k1, k2.trans hs.2⟩
  ·have k1 := (zgN (zbU g (nth now n) x) (zcX g now x n)).2
   have k2 := zkj hg (nth now n) x
   omega
theorem zkf {g : zae} (hg : GOk g) {p : zah} (hp : POk g p) {cell : Int} (h0 : 0 ≤ cell) (h1 : cell < g.cells) (hm : 0 ≤ (zao (nth p.at_ cell.toNat)).1) : ze7 g (zev p cell) ∧ (zev p cell).p.side = p.side := by
 have hat := hp.at (i := cell.toNat) (by omega)
 have hk := zaR hat.1 hat.2 hg.k6
 refine ⟨⟨hp.clr _, h0, h1, ?_⟩, rfl⟩
 simp only [zev]
 rcases hk with ⟨_, e⟩ | ⟨_, a, b, _⟩
 ·rw [e] at hm; simp at hm
 ·exact ⟨a, b⟩
theorem zhg {g : zae} (hg : GOk g) {p : zah} (hp : POk g p) {cell : Int} (h0 : 0 ≤ cell) (h1 : cell < g.cells) (hm : 0 ≤ (zao (nth p.at_ cell.toNat)).1)
  {prog : List (Int × Int)} (hpr : ∀ x ∈ prog, zeg g.next.length g.kinds.length g.rights x) :
  ∀ n, n ≤ prog.length → (∀ s ∈ zbM g p cell prog n, ze7 g s ∧ s.p.side = p.side) ∧ (zbM g p cell prog n).length ≤ 10 ^ n := by
 intro n
 induction n with
 | zero => intro _; rw [zgF]; exact ⟨fun s hs => by simp at hs; subst hs; exact zkf hg hp h0 h1 hm, by simp⟩
 | succ n ih =>
  intro h
  obtain ⟨k1, k2⟩ := ih (by omega)
  rw [zgE g p cell prog (by omega), ← zj0]
  obtain ⟨j1, j2⟩ := zmT hg (hpr _ (zaj (show n < prog.length by omega))) k1 _ (Nat.le_refl _)
  refine ⟨j1, ?_⟩
  rw [Nat.pow_succ]
  omega
theorem ziQ {n : Nat} (h : n ≤ 8) : 10 ^ n ≤ 100000000 := by
 have := Nat.pow_le_pow_right (n := 10) (by omega) h
 exact this
def stR (g : zae) (p : zah) (cell : Int) (prog : List (Int × Int)) (n : Nat) : List (List AV) := (List.range n).map fun j => [za0 (zbM g p cell prog j)]
theorem zyj (g : zae) (p : zah) (cell : Int) (prog : List (Int × Int)) (n : Nat) : stR g p cell prog (n + 1) = stR g p cell prog n ++ [[za0 (zbM g p cell prog n)]] := by simp [stR, List.range_succ]
@[go_sem] theorem zqL (g : zae) (p : zah) (cell : Int) (prog : List (Int × Int)) (n : Nat) : (stR g p cell prog n).length = n := by simp [stR]
@[go_sem ↓] theorem bel_stR {m : Nat} {g : zae} {p : zah} {cell : Int} {prog : List (Int × Int)} {n : Nat} : (∀ r ∈ stR g p cell prog n, ∀ c ∈ r, Bel m c) = True := by
 refine eq_true fun r hr c hc => ?_
 obtain ⟨j, _, rfl⟩ := List.mem_map.1 hr
 simp only [List.mem_cons, List.not_mem_nil, or_false] at hc
 subst hc
 exact of_eq_true zpS
theorem zz1 (g : zae) (p : zah) (cell : Int) (prog : List (Int × Int)) {n j : Nat} (h : j < n) : nth (stR g p cell prog n) j = [za0 (zbM g p cell prog j)] := by
 unfold stR; rw [zbl _ _ _ (by simpa using h)]; simp [nth, h]
theorem zuK {n : Nat} (l : List StD) : Bel n (za0 l) := of_eq_true zpS
structure zcf (g : zae) (p : zah) (cell i : Int) : Prop where
 c0 : 0 ≤ cell
 c1 : cell < g.cells
 man : 0 ≤ (zao (nth p.at_ cell.toNat)).1
 side : (zao (nth p.at_ cell.toNat)).2 = p.side
 i0 : 0 ≤ i
 i1 : i < (nth g.kinds (zao (nth p.at_ cell.toNat)).1.toNat).progs.length
structure TkD where
 p : zah
 kind : Int
 took : Bool
 deriving DecidableEq
instance : Inhabited TkD := ⟨⟨default, 0, false⟩⟩
def zkk (g : zae) (side : Int) (t : TkD) (a : Int) : TkD × Bool :=
 let m := zao (nth t.p.at_ a.toNat)
 if m.2 ≠ 1 - side then (t, false) else
 if (nth g.kinds m.1.toNat).keep = true then
  (⟨(clr t.p a).withHand side ((t.p.hand side).set m.1.toNat (nth (t.p.hand side) m.1.toNat + 1)), t.kind, true⟩, decide (nth (t.p.hand side) m.1.toNat + 1 ≤ 8))
 else (⟨clr t.p a, t.kind, true⟩, true)
def zj2 (t : TkD) (a b : Int) : TkD × Bool :=
 if nth t.p.at_ a.toNat = 0 ∨ nth t.p.at_ b.toNat ≠ 0 then (t, false)
 else (⟨{ t.p with at_ := (t.p.at_.set b.toNat (nth t.p.at_ a.toNat)).set a.toNat 0 }, t.kind, t.took⟩, true)
def doA (g : zae) (side : Int) (t : TkD) (x : zcq) : TkD × Bool :=
 if x.1 = 3 then (t, decide (nth t.p.at_ x.2.1.toNat = 0))
 else if x.1 = 4 then (t, decide ((zao (nth t.p.at_ x.2.1.toNat)).2 = 1 - side))
 else if x.1 = 5 then (t, decide ((zao (nth t.p.at_ x.2.1.toNat)).2 = side))
 else if x.1 = 6 then zkk g side t x.2.1
 else if x.1 = 7 then zj2 t x.2.1 x.2.2
 else if x.1 = 8 then (⟨t.p, x.2.1, t.took⟩, true)
 else if x.1 = 9 then (t, decide (zit .i64 (t.p.rights.fdiv (2 ^ x.2.1.toNat)) 1 = 1))
 else if x.1 = 10 then (⟨{ t.p with rights := zbZ .i64 t.p.rights (2 ^ x.2.1.toNat) }, t.kind, t.took⟩, true)
 else (t, true)
def zeA (g : zae) (side : Int) : TkD → List zcq → Option TkD
 | t, [] => some t
 | t, x :: l => if (doA g side t x).2 = true then zeA g side (doA g side t x).1 l else none
theorem zeJ (g : zae) (side : Int) : ∀ (l m : List zcq) (t : TkD), zeA g side t (l ++ m) = (zeA g side t l).bind fun t => zeA g side t m
 | [], m, t => rfl
 | x :: l, m, t => by
  simp only [List.cons_append, zeA]
  split
  ·exact zeJ g side l m _
  ·rfl
def stT (t : TkD) (c : Int) : StD := ⟨t.p, t.kind, c, t.took⟩
def stW (g : zae) (side : Int) (t : TkD) (w : zaV) : Option StD := (zeA g side t w.acts).map fun t => stT t w.to
theorem zmW (g : zae) (side : Int) (t : TkD) (w : zaV) (to : Int) (more : List zcq) :
  stW g side t (onP w to more) = ((zeA g side t w.acts).bind fun t => zeA g side t more).map fun t => stT t to := by
 unfold stW onP
 rw [zeJ]
theorem zu5 (g : zae) (side : Int) (t : TkD) (c : Int) : doA g side t (3, c, 0) = (t, decide (nth t.p.at_ c.toNat = 0)) := by simp [doA]
theorem zhT {g : zae} {side : Int} {t : TkD} {w : zaV} : ∀ {l : List Int} {passed : List zcq}, ((zeA g side t w.acts).bind fun t => zeA g side t passed) = none → (zb9 w l passed).filterMap (stW g side t) = []
 | [], _, _ => rfl
 | c :: l, passed, h => by
  rw [zb9, List.filterMap_cons, zmW, h]
  refine zhT ?_
  cases hd : zeA g side t w.acts with
  | none => rfl
  | some u =>
   rw [hd] at h
   simp only [Option.bind_some] at h ⊢
   rw [zeJ, h]; rfl
theorem zlU {g : zae} {side : Int} {t u : TkD} {w : zaV} (hd : zeA g side t w.acts = some u) : ∀ {l : List Int} {passed : List zcq}, zeA g side u passed = some u →
  (zb9 w l passed).filterMap (stW g side t) = zbL (stT u w.to) l
 | [], _, _ => rfl
 | c :: l, passed, h => by
  rw [zb9, List.filterMap_cons, zmW, hd, Option.bind_some, h, zbL]
  simp only [Option.map_some]
  congr 1
  have he : zeA g side u (passed ++ [(3, c, 0)]) = if nth u.p.at_ c.toNat = 0 then some u else none := by
   rw [zeJ, h, Option.bind_some]
   simp only [zeA, zu5, decide_eq_true_eq]
  show _ = if nth u.p.at_ c.toNat = 0 then _ else _
  split
  ·rename_i h0
   rw [if_pos h0] at he
   exact zlU hd he
  ·rename_i h0
   rw [if_neg h0] at he
   refine zhT ?_
   rw [hd, Option.bind_some, he]
theorem zvk {g : zae} {side : Int} {t : TkD} {w : zaV} (h : zeA g side t w.acts = none) (x : Int × Int) : (ziJ g.board side w x).filterMap (stW g side t) = [] := by
 have ho : ∀ to more, stW g side t (onP w to more) = none := fun to more => by rw [zmW, h]; rfl
 unfold ziJ
 split
 ·split
  ·rfl
  ·split <;> simp [ho]
 ·split
  ·exact zhT (by rw [h]; rfl)
  ·split <;> simp [ho]
theorem zn7 {g : zae} (hg : GOk g) {side : Int} {t u : TkD} {w : zaV} (hd : zeA g side t w.acts = some u) (hs : ze7 g (stT u w.to)) (hside : u.p.side = side) {x : Int × Int}
  (hx : zeg g.next.length g.kinds.length g.rights x) : (ziJ g.board side w x).filterMap (stW g side t) = zbU g (stT u w.to) x := by
 have ho : ∀ to more, stW g side t (onP w to more) = (zeA g side u more).map fun t => stT t to := fun to more => by rw [zmW, hd]; rfl
 have one : ∀ to a, stW g side t (onP w to [a]) = if (doA g side u a).2 = true then some (stT (doA g side u a).1 to) else none := fun to a => by
  rw [ho]; simp only [zeA]; split <;> rfl
 have hsl := hs.p.s
 have hat := hs.p.at (i := w.to.toNat) (by have := hs.c0; have := hs.c1; simp only [stT] at *; omega)
 have hm := zaR hat.1 hat.2 hg.k6
 have hto := zfE hg.board side x.2 w.to
 have ht := hx.op
 simp only [stT] at hsl hat hm
 rw [hside] at hsl
 unfold zbU ziJ
 simp only [show (stT u w.to).p = u.p from rfl, show (stT u w.to).cursor = w.to from rfl, hside]
 by_cases h1 : x.1 = 1
 ·simp only [h1, true_or, if_true]
  by_cases hn : toB g.board side x.2 w.to < 0
  ·rw [if_pos hn, show decide (0 ≤ toB g.board side x.2 w.to) = false by simpa using hn]; rfl
  ·rw [if_neg hn, show decide (0 ≤ toB g.board side x.2 w.to) = true by simpa using hn]
   simp only [List.filterMap_cons, ho, zeA, Option.map_some, List.filterMap_nil, zcJ, if_true, stT]
 by_cases h7 : x.1 = 7
 ·simp only [h7, or_true, if_true, show ((7 : Int) = 1) = False by decide, show ((7 : Int) = 2) = False by decide, show ((7 : Int) = 3) = False by decide, show ((7 : Int) = 4) = False by decide,
   show ((7 : Int) = 5) = False by decide, show ((7 : Int) = 6) = False by decide, if_false, zmV]
  simp only [show (stT u w.to).p = u.p from rfl, show (stT u w.to).cursor = w.to from rfl, hside]
  by_cases hn : toB g.board side x.2 w.to < 0
  ·rw [if_pos hn, if_pos (.inr (.inl hn))]; rfl
  ·rw [if_neg hn]
   simp only [List.filterMap_cons, List.filterMap_nil, one, doA, show ((7 : Int) = 3) = False by decide, show ((7 : Int) = 4) = False by decide, show ((7 : Int) = 5) = False by decide,
    show ((7 : Int) = 6) = False by decide, if_false, if_true, zj2]
   by_cases hc : nth u.p.at_ w.to.toNat = 0 ∨ nth u.p.at_ (toB g.board side x.2 w.to).toNat ≠ 0
   ·have hc' : nth u.p.at_ w.to.toNat = 0 ∨ toB g.board side x.2 w.to < 0 ∨ nth u.p.at_ (toB g.board side x.2 w.to).toNat ≠ 0 := by rcases hc with h | h; exact .inl h; exact .inr (.inr h)
    simp only [if_pos hc, if_pos hc', Bool.false_eq_true, if_false]
   ·have hc' : ¬ (nth u.p.at_ w.to.toNat = 0 ∨ toB g.board side x.2 w.to < 0 ∨ nth u.p.at_ (toB g.board side x.2 w.to).toNat ≠ 0) := by rintro (h | h | h); exact hc (.inl h); exact hn h; exact hc (.inr h)
    simp only [if_neg hc, if_neg hc', if_true, stT, hside]
 rw [if_neg (by omega)]
 by_cases h2 : x.1 = 2
 ·simp only [h2, show ((2 : Int) = 1) = False by decide, if_true, if_false, zkc]
  simp only [show (stT u w.to).p = u.p from rfl, show (stT u w.to).cursor = w.to from rfl, hside]
  exact zlU hd rfl
 rw [if_neg h2, if_neg h1, if_neg h2]
 by_cases h8 : x.1 = 8
 ·simp [h8, one, doA, stT]
 by_cases h9 : x.1 = 9
 ·simp only [h9, one, doA, zcJ, show ((9 : Int) = 8) = False by decide, show ((9 : Int) = 10) = False by decide, show ((9 : Int) = 3) = False by decide, show ((9 : Int) = 4) = False by decide, show ((9 : Int) = 5) = False by decide,
   show ((9 : Int) = 6) = False by decide, show ((9 : Int) = 7) = False by decide, if_true, if_false, or_true, true_or, false_or, or_false, List.filterMap_cons, List.filterMap_nil]
  split <;> simp_all [stT]
 by_cases h10 : x.1 = 10
 ·simp [h10, one, doA, stT, hside]
 rw [if_neg (by omega)]
 simp only [one, List.filterMap_cons, List.filterMap_nil]
 by_cases h3 : x.1 = 3
 ·simp only [h3, if_true, doA, zcJ]
  rcases hm with ⟨h0, e⟩ | ⟨h0, e1, e2, e3, e4⟩
  ·rw [e]; simp [h0, stT]
  ·rw [if_neg (by simpa using h0), if_neg (by simp; omega)]
 by_cases h4 : x.1 = 4
 ·simp only [h4, show ((4 : Int) = 3) = False by decide, if_true, if_false, doA, zcJ]
  rcases hm with ⟨h0, e⟩ | ⟨h0, e1, e2, e3, e4⟩
  ·rw [e, if_neg (by simp; omega), if_neg (by simp)]
  ·by_cases hs' : (zao (nth u.p.at_ w.to.toNat)).2 = 1 - side
   ·rw [if_pos (by simpa using hs'), if_pos (by simp; omega)]
   ·rw [if_neg (by simpa using hs'), if_neg (by simp; omega)]
 by_cases h5 : x.1 = 5
 ·simp only [h5, show ((5 : Int) = 3) = False by decide, show ((5 : Int) = 4) = False by decide, if_true, if_false, doA, zcJ]
  rcases hm with ⟨h0, e⟩ | ⟨h0, e1, e2, e3, e4⟩
  ·rw [e, if_neg (by simp; omega), if_neg (by simp)]
  ·by_cases hs' : (zao (nth u.p.at_ w.to.toNat)).2 = side
   ·rw [if_pos (by simpa using hs'), if_pos (by simp; omega)]
   ·rw [if_neg (by simpa using hs'), if_neg (by simp; omega)]
 have h6 : x.1 = 6 := by omega
 simp only [h6, show ((6 : Int) = 3) = False by decide, show ((6 : Int) = 4) = False by decide, show ((6 : Int) = 5) = False by decide, if_true, if_false, doA, zkk, zmZ]
 simp only [show (stT u w.to).p = u.p from rfl, show (stT u w.to).cursor = w.to from rfl, hside]
 rcases hm with ⟨h0, e⟩ | ⟨h0, e1, e2, e3, e4⟩
 ·have hne : (-1 : Int) ≠ 1 - side := by omega
  rw [e]
  simp [hne]
 ·by_cases hs' : (zao (nth u.p.at_ w.to.toNat)).2 = 1 - side
  ·rw [if_neg (not_not_intro hs'), if_neg (show ¬ ((zao (nth u.p.at_ w.to.toNat)).1 < 0 ∨ (zao (nth u.p.at_ w.to.toNat)).2 = side) by omega)]
   by_cases hk : (nth g.kinds (zao (nth u.p.at_ w.to.toNat)).1.toNat).keep = true
   ·rw [if_pos hk, if_pos hk]
    by_cases h9 : nth (u.p.hand side) (zao (nth u.p.at_ w.to.toNat)).1.toNat + 1 ≤ 8
    ·have h9' : ¬ 8 < nth (u.p.hand side) (zao (nth u.p.at_ w.to.toNat)).1.toNat + 1 := by omega
     simp only [h9, h9', decide_true, if_true, if_false, stT]
    ·have h9' : 8 < nth (u.p.hand side) (zao (nth u.p.at_ w.to.toNat)).1.toNat + 1 := by omega
     simp only [h9, h9', decide_false, if_true, Bool.false_eq_true, if_false]
   ·rw [if_neg hk, if_neg hk]; simp [stT]
  ·rw [if_pos hs', if_pos (show (zao (nth u.p.at_ w.to.toNat)).1 < 0 ∨ (zao (nth u.p.at_ w.to.toNat)).2 = side by omega)]; simp
theorem zqZ : ∀ {more l : List StD} {s : StD}, s ∈ zee l more ↔ s ∈ l ∨ s ∈ more
 | [], l, s => by simp [zee]
 | m :: more, l, s => by
  show s ∈ zee (if m ∈ l then l else l ++ [m]) more ↔ _
  rw [zqZ]
  split
  ·rename_i h
   simp only [List.mem_cons]
   exact ⟨fun h => by rcases h with h | h <;> simp [h], fun h => by rcases h with h | rfl | h; exact .inl h; exact .inl ‹_›; exact .inr h⟩
  ·simp only [List.mem_append, List.mem_cons, List.mem_singleton, List.not_mem_nil, or_false]
   exact or_assoc
theorem zlK (g : zae) (x : Int × Int) : ∀ (now acc : List StD) (s : StD), s ∈ now.foldl (fun next s => zee next (zbU g s x)) acc ↔ s ∈ acc ∨ ∃ r ∈ now, s ∈ zbU g r x
 | [], acc, s => by simp
 | r :: now, acc, s => by
  rw [List.foldl_cons, zlK g x now, zqZ]
  simp only [List.mem_cons, exists_eq_or_imp]
  exact or_assoc
theorem zoC (g : zae) (x : Int × Int) (now : List StD) (s : StD) : s ∈ zgx g now x ↔ ∃ r ∈ now, s ∈ zbU g r x := by
 unfold zgx
 rw [zlK]; simp
theorem zrz {g : zae} (hg : GOk g) {side : Int} {t : TkD} : ∀ (prog : List (Int × Int)) (nowP : List zaV) (nowS : List StD), (∀ x ∈ prog, zeg g.next.length g.kinds.length g.rights x) →
  (∀ s, s ∈ nowP.filterMap (stW g side t) ↔ s ∈ nowS) → (∀ s ∈ nowS, ze7 g s ∧ s.p.side = side) →
  ∀ s, s ∈ (prog.foldl (zki g.board side) nowP).filterMap (stW g side t) ↔ s ∈ prog.foldl (zgx g) nowS
 | [], nowP, nowS, _, h, _, s => h s
 | x :: prog, nowP, nowS, hp, h, hk, s => by
  rw [List.foldl_cons, List.foldl_cons]
  have hx := hp x (by simp)
  refine zrz hg prog _ _ (fun y hy => hp y (by simp [hy])) (fun s => ?_) (fun s hs => ?_) s
  ·rw [zoC]
   unfold zki
   rw [List.filterMap_flatMap, List.mem_flatMap]
   constructor
   ·rintro ⟨w, hw, hs⟩
    cases hd : zeA g side t w.acts with
    | none => rw [zvk hd] at hs; simp at hs
    | some u =>
     have hu : stT u w.to ∈ nowS := (h _).1 (List.mem_filterMap.2 ⟨w, hw, by simp [stW, hd]⟩)
     rw [zn7 hg hd (hk _ hu).1 (hk _ hu).2 hx] at hs
     exact ⟨_, hu, hs⟩
   ·rintro ⟨r, hr, hs⟩
    obtain ⟨w, hw, e⟩ := List.mem_filterMap.1 ((h r).2 hr)
    unfold stW at e
    cases hd : zeA g side t w.acts with
    | none => rw [hd] at e; simp at e
    | some u =>
     rw [hd] at e
     simp only [Option.map_some, Option.some.injEq] at e
     subst e
     exact ⟨w, hw, by rw [zn7 hg hd (hk _ hr).1 (hk _ hr).2 hx]; exact hs⟩
  ·obtain ⟨r, hr, hs⟩ := (zoC g x nowS s).1 hs
   obtain ⟨k1, k2⟩ := zhh hg (hk r hr).1 hx s hs
   exact ⟨k1, k2.trans (hk r hr).2⟩
def zdN (p : zah) (cell : Int) : TkD := ⟨clr p cell, (zao (nth p.at_ cell.toNat)).1, false⟩
def ztW (g : zae) (side : Int) (t : TkD) (w : zaV) : Option zcl := (stW g side t w).bind (zgd side)
def zqy (g : zae) (p : zah) (cell : Int) : List zaV :=
 zbw g.board (zao (nth p.at_ cell.toNat)).2 (nth g.kinds (zao (nth p.at_ cell.toNat)).1.toNat).progs cell
def zx8 (g : zae) (p : zah) (cell : Int) : List zcl := (zqy g p cell).filterMap (ztW g (zao (nth p.at_ cell.toNat)).2 (zdN p cell))
def runO (g : zae) (p : zah) (cell : Int) : List zcl := if nth p.at_ cell.toNat = 0 then [] else zbh zh2 (zx8 g p cell)
def zbH (p : zah) (s : Int) : zah := { p with side := s }
def zrA (g : zae) (p : zah) (cell : Int) : List zcl :=
 if (zao (nth p.at_ cell.toNat)).1 < 0 then [] else
 zbh zh2 ((List.range (nth g.kinds (zao (nth p.at_ cell.toNat)).1.toNat).progs.length).flatMap fun (i : Nat) => zdc g (zbH p (zao (nth p.at_ cell.toNat)).2) cell i)
def TkD.sd (t : TkD) (s : Int) : TkD := { t with p := zbH t.p s }
theorem zzM (p : zah) (s side : Int) : (zbH p s).hand side = p.hand side := rfl
theorem zqR (p : zah) (s side : Int) (l : List Int) : (zbH p s).withHand side l = zbH (p.withHand side l) s := by unfold zah.withHand; split <;> rfl
theorem doA_sd (g : zae) (side : Int) (t : TkD) (s : Int) (x : zcq) : doA g side (t.sd s) x = ((doA g side t x).1.sd s, (doA g side t x).2) := by
 unfold doA zkk zj2
 simp only [TkD.sd, show (zbH t.p s).at_ = t.p.at_ from rfl, show (zbH t.p s).rights = t.p.rights from rfl, zzM]
 have hc : clr (zbH t.p s) x.2.1 = zbH (clr t.p x.2.1) s := rfl
 rw [hc, zqR]
 split; · rfl
 split; · rfl
 split; · rfl
 split
 ·split; · rfl
  split <;> rfl
 split
 ·split <;> rfl
 split; · rfl
 split; · rfl
 split <;> rfl
theorem zu7 (g : zae) (side : Int) (s : Int) : ∀ (l : List zcq) (t : TkD), zeA g side (t.sd s) l = (zeA g side t l).map fun t => t.sd s
 | [], t => rfl
 | x :: l, t => by
  simp only [zeA, doA_sd]
  split
  ·exact zu7 g side s l _
  ·rfl
theorem zz9 (g : zae) (side : Int) (t : TkD) (s : Int) (w : zaV) : ztW g side (t.sd s) w = ztW g side t w := by
 unfold ztW stW
 rw [zu7]
 cases zeA g side t w.acts with
 | none => rfl
 | some u => rfl
theorem zoQ {g : zae} (hg : GOk g) {p : zah} (hp : POk g p) {cell : Int} (h0 : 0 ≤ cell) (h1 : cell < g.cells) : runO g p cell = zrA g p cell := by
 have hat := hp.at (i := cell.toNat) (by omega)
 unfold runO zrA
 rcases zaR hat.1 hat.2 hg.k6 with ⟨hz, e⟩ | ⟨hz, e1, e2, e3, e4⟩
 ·rw [if_pos hz, e, if_pos (by decide)]
 rw [if_neg hz, if_neg (by omega)]
 generalize hs : (zao (nth p.at_ cell.toNat)).2 = side at e3 e4
 refine zqK zce fun o => ?_
 have hq : POk g (zbH p side) := hp.side e3
 have hst : zdN p cell = zdN p cell := rfl
 have hout : ∀ w, ztW g side (zdN p cell) w = ztW g side ((zdN p cell).sd side) w := fun w => (zz9 g side _ side w).symm
 obtain ⟨progs, hpg⟩ : ∃ l, l = (nth g.kinds (zao (nth p.at_ cell.toNat)).1.toNat).progs := ⟨_, rfl⟩
 have hkm : nth g.kinds (zao (nth p.at_ cell.toNat)).1.toNat ∈ g.kinds := zaj (by omega)
 have key : ∀ prog ∈ progs, ∀ o, o ∈ (zbB g.board side prog cell).filterMap (ztW g side (zdN p cell)) ↔ o ∈ (zd9 g (zbH p side) cell prog).filterMap (zgd side) := by
  intro prog hm o
  have hok := hg.pr _ hkm prog (hpg ▸ hm)
  have hs0 := zkf hg hq h0 h1 (show 0 ≤ (zao (nth (zbH p side).at_ cell.toNat)).1 from e1)
  have hmem := zrz hg (side := side) (t := (zdN p cell).sd side) prog [⟨[], cell⟩] [zev (zbH p side) cell] hok.st (fun s => by simp [stW, zeA, zdN, stT, zev, TkD.sd, zbH, clr])
   (fun s hs => by rw [List.mem_singleton] at hs; subst hs; exact ⟨hs0.1, hs0.2⟩)
  rw [show ztW g side (zdN p cell) = ztW g side ((zdN p cell).sd side) from funext hout]
  simp only [List.mem_filterMap, ztW, Option.bind_eq_some_iff]
  constructor
  ·rintro ⟨w, hw, s, h3, h4⟩
   exact ⟨s, (hmem s).1 (List.mem_filterMap.2 ⟨w, hw, h3⟩), h4⟩
  ·rintro ⟨s, h3, h4⟩
   obtain ⟨w, hw, h5⟩ := List.mem_filterMap.1 ((hmem s).2 h3)
   exact ⟨w, hw, s, h5, h4⟩
 have e5 : zx8 g p cell = progs.flatMap fun prog => (zbB g.board side prog cell).filterMap (ztW g side (zdN p cell)) := by
  unfold zx8 zqy zbw
  rw [hs, ← hpg, List.filterMap_flatMap]
 have hr : ∀ i, i < progs.length → zdc g (zbH p side) cell (i : Int) = zbh zh2 ((zd9 g (zbH p side) cell (nth progs i)).filterMap (zgd side)) := fun i _ => by
  unfold zdc za2
  rw [show nth (zbH p side).at_ cell.toNat = nth p.at_ cell.toNat from rfl, ← hpg]
  rfl
 rw [e5, List.mem_flatMap, List.mem_flatMap]
 rw [← hpg]
 constructor
 ·rintro ⟨prog, hm, h⟩
  obtain ⟨i, hi, rfl⟩ := List.mem_iff_getElem.1 hm
  refine ⟨i, List.mem_range.2 hi, ?_⟩
  rw [hr i hi, za9, zaC _ _ hi]
  exact (key _ hm o).1 h
 ·rintro ⟨i, hi, h⟩
  have hi' := List.mem_range.1 hi
  rw [hr i hi', za9, zaC _ _ hi'] at h
  exact ⟨_, List.getElem_mem hi', (key _ (List.getElem_mem hi') o).2 h⟩
theorem zr2 (g : zae) (hg : GOk g) (p : zah) (hp : POk g p) (cell i : Int) (hc : zcf g p cell i) :
  zaL Tryz.prog 293 [.agg (zac g), .agg (zad p), .v (.int .i64 cell), .v (.int .i64 i)]
   (.agg [.lst 1 (stR g p cell (za2 g p cell i) ((za2 g p cell i).length + 1)), .v (.int .i64 0)]) := by
 refine pF Tryz.func293 ?_
 have hal := hp.al
 obtain ⟨c0, c1, cm, cs, i0, i1⟩ := hc
 have hcur : cell.toNat < p.at_.length := by omega
 have hat := hp.at (i := cell.toNat) (by omega)
 have hO := zdD (nth p.at_ cell.toNat)
 have hman := zaR hat.1 hat.2 hg.k6
 have hcp := zdF p (hp.fits hg)
 have hV := zeE g (by have := hg.k6; unfold zfY; omega) ⟨hg.r0, by have := hg.r4; omega⟩ p (hp.fits hg)
 rw [zfy.2 hp] at hV
 have hkl : (zao (nth p.at_ cell.toNat)).1.toNat < g.kinds.length := by
  rcases hman with ⟨_, e⟩ | ⟨_, a, b, _⟩
  ·rw [e] at cm; simp at cm
  ·omega
 have hil : i.toNat < (nth g.kinds (zao (nth p.at_ cell.toNat)).1.toNat).progs.length := by omega
 have hpg := hg.pr _ (zaj hkl) _ (zaj hil)
 have hst := fun n hn => zhg hg hp c0 c1 cm (prog := za2 g p cell i) hpg.st n hn
 have hz := zgF g p cell (za2 g p cell i)
 have hsu := fun n hn => zgE g p cell (za2 g p cell i) (n := n) hn
 have hR := fun n => zyj g p cell (za2 g p cell i) n
 have hp8 := hpg.len
 have hpst := hpg.st
 have hpe : za2 g p cell i = nth (nth g.kinds (zao (nth p.at_ cell.toNat)).1.toNat).progs i.toNat := rfl
 rw [← hpe] at hp8 hpst
 obtain ⟨prog, hprog⟩ : ∃ q, q = za2 g p cell i := ⟨_, rfl⟩
 rw [← hprog] at hst hz hsu hR hp8 hpst hpe ⊢
 generalize hm : zao (nth p.at_ cell.toNat) = m at *
 obtain ⟨mk, ms⟩ := m
 simp only at cm cs i1 hkl hil hpe
 repeat first|refine wV fun _=>?_|simp [go_sem]
 refine zAs hV (by simp [go_sem]) ?_
 repeat first|refine wV fun _=>?_|simp [go_sem]
 (refine zAt (fun hF => by first | omega | (simp at hF; omega)) (fun hF => ?_); clear hF)
 repeat first|refine wV fun _=>?_|simp [go_sem, hcur]
 refine zAs hO (by simp [go_sem]) ?_
 repeat first|refine wV fun _=>?_|simp [go_sem, hkl, hil]
 refine zAt (fun hF => by simp at hF; omega) (fun hF => ?_)
 clear hF
 repeat first|refine wV fun _=>?_|simp [go_sem]
 refine zAS 28 (by rfl) (hcp) (by decide) (by simp [go_sem]) (by simp [go_sem]) (fun _ => zam.refl _ _ _ _) (by simp [go_sem]) (by simp [go_sem]) ?_
 ((repeat (first|with_reducible (first|refine wL fun _=>?_|refine wD fun _=>?_|refine wZ ?_)|simp [go_sem])); refine zAU (by kernel_rfl) ?_)
 repeat first|refine wV fun _=>?_|simp [go_sem, hcur, hkl, hil]
 rw [← hpe]
 have hsz : ∀ n, n ≤ prog.length → (zbM g p cell prog n).length ≤ 100000000 := fun n hn => Nat.le_trans (hst n hn).2 (ziQ (by omega))
 have hst0 : za0 (zbM g p cell prog 0) = .lst 8 [[.lst 1 ((p.at_.map zb5).set cell.toNat [.v (.int .i64 0)]), zap p.h0, zap p.h1, .v (.int .i64 p.rights), .v (.int .i64 p.side), .v (.int .i64 mk), .v (.int .i64 cell), .v (.bool false)]] := by
  rw [hz]; simp [za0, zev, zan, clr, hm, zap, zb5, List.map_set]
 have hR0 : stR g p cell prog 1 = [[za0 (zbM g p cell prog 0)]] := rfl
 refine zAr (zAv (α := Nat) (fun k => ⟨[(4, .ref 0 0 9 0 0), (8, .ref 2 0 2 0 0), (11, .ref 146 0 2 0 0), (12, za0 (zbM g p cell prog k)), (13, zau prog), (14, .v (.int .i64 k))],
   [(0, .rows true 0 9 [zac g]), (2, .rows true 0 2 [[zAz, .v (.int .i64 0)]]), (142, .rows true k 1 (stR g p cell prog (k + 1))), (146, .rows true 0 2 [[.sl 142 k 1 0 (k + 1), .v (.int .i64 0)]])], 148⟩)
  (fun d k => k + d = prog.length) ?_ prog.length 0 ?_) ?_ ?_
 ·rintro d k k1 hrec
  repeat first|refine wV fun _=>?_|simp [go_sem]
  refine zAt (fun hk => ?_) (fun hk => ?_) <;> simp at hk
  ·have hkk := hst k (by omega)
   have hks := hsz k (by omega)
   have hks' := hsz (k + 1) (by omega)
   have hsk := hsu k hk
   have hxs := hpst _ (zaj hk)
   have hpo := fun n hn => zmT hg hxs hkk.1 n hn
   have hpa := zj0 g (zbM g p cell prog k) (nth prog k)
   have hpz := zlM g (zbM g p cell prog k) (nth prog k)
   have hps := fun n hn => zhK g (zbM g p cell prog k) (nth prog k) (n := n) hn
   rw [← hsk] at hpa
   obtain ⟨now, hnow⟩ : ∃ now, now = zbM g p cell prog k := ⟨_, rfl⟩
   rw [← hnow] at hkk hks hpo hpa hpz hps ⊢
   obtain ⟨x, hx⟩ : ∃ x, x = nth prog k := ⟨_, rfl⟩
   rw [← hx] at hxs hpo hpa hpz hps
   repeat first|refine wV fun _=>?_|simp [go_sem]
   refine zAr (zAv (α := Nat) (fun n => ⟨[(4, .ref 0 0 9 0 0), (8, .ref 2 0 2 0 0), (11, .ref 146 0 2 0 0), (12, za0 now), (13, zau prog), (14, .v (.int .i64 k)), (15, .sl 148 (zcX g now x n).length 8 0 (zcX g now x n).length), (16, .v (.int .i64 n))],
     [(0, .rows true 0 9 [zac g]), (2, .rows true 0 2 [[zAz, .v (.int .i64 0)]]), (142, .rows true k 1 (stR g p cell prog (k + 1))), (146, .rows true 0 2 [[.sl 142 k 1 0 (k + 1), .v (.int .i64 0)]]), (148, .rows true (zcX g now x n).length 8 ((zcX g now x n).map zan))], 149⟩)
    (fun d n => n + d = now.length) ?_ now.length 0 ?_) ?_ ?_
   ·rintro d2 n n1 hrec2
    repeat first|refine wV fun _=>?_|simp [go_sem]
    refine zAt (fun hn => ?_) (fun hn => ?_) <;> simp at hn
    ·have hsn := hkk.1 _ (zaj hn)
     have hpn := hps n hn
     have hpoN := hpo n (by omega)
     have hpoS := hpo (n + 1) (by omega)
     have hSt := zpl g hg (nth now n) hsn.1 x hxs
     have hsl := zkj hg (nth now n) x
     have hso := zhh hg hsn.1 hxs
     have hAd := zr3 (zcX g now x n) (zbU g (nth now n) x) (by omega) (fun s hs => (hpoN.1 s hs).1.p.fits hg) (fun s hs => (hso s hs).1.p.fits hg)
     rw [← hpn] at hAd
     repeat first|refine wV fun _=>?_|simp [go_sem, hn, hk, ← hx]
     refine zAu hSt (by simp [go_sem]) ?_
     repeat first|refine wV fun _=>?_|simp [go_sem]
     refine zA6 (o := 148) hAd rfl (of_eq_true zrb) (of_eq_true zrb) (fun _ => .cons (.sl rfl) (.cons (.same (zuK _)) .nil)) (by simp [go_sem]) (fun n₁ hn₁ => by simp [go_sem, hn₁]) (fun _ => .sl rfl) (.inr ⟨_, _, _, _, rfl⟩) ?_
     repeat first|refine wV fun _=>?_|simp [go_sem]
     refine zAr (hrec2 (d2 - 1) (by omega) (n + 1) (by omega)) ?_ (by simp)
     simp [go_sem, zaf]
    ·have hnl : n = now.length := by omega
     subst hnl
     rw [hpa]
     repeat first|refine wV fun _=>?_|simp [go_sem]
     have hRk := hR (k + 1)
     refine zAr (hrec (d - 1) (by omega) (k + 1) (by omega)) ?_ (by simp)
     simp [go_sem, zaf, hRk]
     refine ⟨?_, zak (.refl _) (.cons (.cons ?_ .nil) .nil)⟩ <;> exact frX
   ·omega
   ·simp [go_sem, zaf, hpz]
   ·simp
  ·have hkl' : k = prog.length := by omega
   subst hkl'
   repeat first|refine wV fun _=>?_|simp [go_sem]
   exact zas rfl (by rw [zqL]; omega) (by simp [noH, upd]) (by rw [List.drop_zero, List.take_of_length_le (by rw [zqL]; omega)])
 ·omega
 ·simp [go_sem, zaf, hR0]
  rw [show AV.lst 8 (List.map zan (zbM g p cell prog 0)) = _ from hst0]
  refine ⟨?_, ?_⟩
  ·(first|done|exact dpX)
  ·(first|done|exact dpX)
 ·simp
theorem zi2 (a b : zcl) (ha : zaU a.pos) (hb : zaU b.pos) : zaL Tryz.prog 310 [.agg (zay a), .agg (zay b)] (.v (.bool (zor a b))) := by
 refine pF Tryz.func310 ?_
 have hC := zdQ _ _ ha hb
 unfold zor
 obtain ⟨pa, ta⟩ := a
 obtain ⟨pb, tb⟩ := b
 simp only at hC ⊢
 generalize zbx pa pb = c at *
 repeat first|refine wV fun _=>?_|simp [go_sem]
 refine zAs hC (by simp [go_sem]) ?_
 by_cases c1 : c < 0
 ·repeat first|refine wV fun _=>?_|simp [go_sem, c1]
 ·by_cases c2 : c = 0
  ·subst c2
   cases ta <;> cases tb <;> (repeat (first|refine wV fun _=>?_|simp [go_sem]))
  ·cases ta <;> cases tb <;> (repeat (first|refine wV fun _=>?_|simp [go_sem, c1, c2]))
def zkQ (x : zcl) (l : List zcl) (dn : Bool) : List zcl := if dn then l else zbJ x l
theorem zl7 (l : List zcl) (x : zcl) (hl : l.length ≤ 17179869184) (h1 : ∀ o ∈ l, zaU o.pos) (h2 : zaU x.pos) : zaL Tryz.prog 294 [zbI l, .agg (zay x)] (zbI (zbJ x l)) := by
 refine pF Tryz.func294 ?_
 obtain ⟨R, hR⟩ : ∃ R, R = zbJ x l := ⟨_, rfl⟩
 rw [← hR]
 repeat first|refine wV fun _=>?_|simp [go_sem]
 refine zAr (zAv (α := Nat × List zcl × Bool) (fun a => ⟨[(0, zbI l), (3, .ref 0 0 6 0 0), (5, .sl 1 a.2.1.length 6 0 a.2.1.length), (6, .v (.bool a.2.2)), (7, .v (.int .i64 a.1))], [(0, .rows true 0 6 [zay x]), (1, .rows true a.2.1.length 6 (a.2.1.map zay))], 2⟩)
  (fun d a => a.1 + d = l.length ∧ a.2.1.length ≤ a.1 + a.2.2.toNat ∧ R = a.2.1 ++ zkQ x (l.drop a.1) a.2.2) ?_ l.length (0, [], false) ?_) ?_ ?_
 ·rintro d ⟨i, out, dn⟩ ⟨i1, i2, i3⟩ hrec
  simp only at i1 i2 i3
  repeat first|refine wV fun _=>?_|simp [go_sem]
  refine zAt (fun hi => ?_) (fun hi => ?_) <;> simp at hi
  ·have f1 := h1 _ (zaj hi)
   have hL1 := zi2 (nth l i) x f1 h2
   have hL2 := zi2 x (nth l i) h2 f1
   rw [zaH hi] at i3
   cases dn
   ·simp only [zkQ, zbJ] at i3
    simp only [Bool.toNat_false] at i2
    repeat first|refine wV fun _=>?_|simp [go_sem, hi]
    refine zAD _ (fun _ => hL1) (by simp [go_sem]) ?_
    repeat first|refine wV fun _=>?_|simp [go_sem, hi]
    by_cases l1 : zor (nth l i) x = true
    ·rw [if_pos l1] at i3
     repeat first|refine wV fun _=>?_|simp [go_sem, hi, l1]
     refine zAr (hrec (d - 1) (by omega) (i + 1, out ++ [nth l i], false) ⟨by simp only; omega, by simp; omega, by simpa [zkQ] using i3⟩) ?_ (by simp)
     simp [go_sem, zaf]
    ·rw [if_neg l1] at i3
     repeat first|refine wV fun _=>?_|simp [go_sem, hi, l1]
     refine zAu hL2 (by simp [go_sem]) ?_
     repeat first|refine wV fun _=>?_|simp [go_sem, hi]
     by_cases l2 : zor x (nth l i) = true
     ·rw [if_pos l2] at i3
      repeat first|refine wV fun _=>?_|simp [go_sem, hi, l2]
      refine zAr (hrec (d - 1) (by omega) (i + 1, out ++ [x] ++ [nth l i], true) ⟨by simp only; omega, by simp; omega, by simpa [zkQ] using i3⟩) ?_ (by simp)
      simp [go_sem, zaf]
     ·rw [if_neg l2] at i3
      repeat first|refine wV fun _=>?_|simp [go_sem, hi, l2]
      refine zAr (hrec (d - 1) (by omega) (i + 1, out ++ [nth l i], true) ⟨by simp only; omega, by simp; omega, by simpa [zkQ] using i3⟩) ?_ (by simp)
      simp [go_sem, zaf]
   ·simp only [zkQ, if_true] at i3
    simp only [Bool.toNat_true] at i2
    repeat first|refine wV fun _=>?_|simp [go_sem, hi]
    refine dGC.skip (.v (.bool true)) ?_
    repeat first|refine wV fun _=>?_|simp [go_sem, hi]
    refine zAr (hrec (d - 1) (by omega) (i + 1, out ++ [nth l i], true) ⟨by simp only; omega, by simp; omega, by simpa [zkQ] using i3⟩) ?_ (by simp)
    simp [go_sem, zaf]
  ·rw [List.drop_eq_nil_of_le hi] at i3
   cases dn
   ·simp [zkQ, zbJ] at i3
    simp only [Bool.toNat_false] at i2
    repeat first|refine wV fun _=>?_|simp [go_sem]
    rw [i3]
    exact frX
   ·simp [zkQ] at i3
    simp only [Bool.toNat_true] at i2
    repeat first|refine wV fun _=>?_|simp [go_sem]
    rw [i3]
    exact frX
 ·simp [zkQ, hR]
 ·simp [go_sem, zaf]
 ·simp
theorem zgj (a b : zah) (ha : zaU a) (hb : zaU b) : zaL Tryz.prog 62 [.agg (zad a), .agg (zad b)] (.v (.bool (decide (zbx a b = 0)))) := by
 refine pF Tryz.func62 ?_
 repeat first|refine wV fun _=>?_|simp [go_sem]
 refine zAs (zdQ a b ha hb) (by simp [go_sem]) ?_
 repeat first|refine wV fun _=>?_|simp [go_sem]
attribute [go_sem ↓] zsE zxh List.forall_mem_append
theorem zwD {x : AV} (h : Bel 0 x) : ∀ c ∈ [x], Bel 0 c := by simpa using h
theorem zb6 {n : Nat} (l : List zah) : Bel n (zaN l) := of_eq_true zuG
theorem zvr : ∀ (f : Nat) (l : List zah), l.length ≤ f + 1 → l.length ≤ 68719476736 → (∀ p ∈ l, zaU p) → zaL Tryz.prog 75 [zaN l] (zaN (zcC zbx l)) := by
 intro f
 induction f with
 | zero =>
  intro l h1 h2 h3
  rw [zkd (by omega)]
  refine pF Tryz.func75 ?_
  repeat first|refine wV fun _=>?_|simp [go_sem]
  (refine zAt (fun hT => ?_) (fun hT => by first | omega | (simp at hT; omega)); clear hT)
  repeat first|refine wV fun _=>?_|simp [go_sem]
 | succ f ih =>
  intro l h1 h2 h3
  by_cases hs : l.length < 2
  ·rw [zkd hs]
   refine pF Tryz.func75 ?_
   repeat first|refine wV fun _=>?_|simp [go_sem]
   (refine zAt (fun hT => ?_) (fun hT => by first | omega | (simp at hT; omega)); clear hT)
   repeat first|refine wV fun _=>?_|simp [go_sem]
  ·have hm := zqJ za7 (l.take (l.length / 2)) (l.drop (l.length / 2))
   rw [List.take_append_drop] at hm
   have hA := ih (l.take (l.length / 2)) (by simp; omega) (by simp; omega) (fun p hp => h3 p (List.mem_of_mem_take hp))
   have hB := ih (l.drop (l.length / 2)) (by simp; omega) (by simp; omega) (fun p hp => h3 p (List.mem_of_mem_drop hp))
   have fA : ∀ p ∈ zcC zbx (l.take (l.length / 2)), zaU p := fun p hp => h3 p (List.mem_of_mem_take (zeu.1 hp))
   have fB : ∀ p ∈ zcC zbx (l.drop (l.length / 2)), zaU p := fun p hp => h3 p (List.mem_of_mem_drop (zeu.1 hp))
   have lA : (zcC zbx (l.take (l.length / 2))).length = l.length / 2 := by rw [zet]; simp; omega
   have lB : (zcC zbx (l.drop (l.length / 2))).length = l.length - l.length / 2 := by rw [zet]; simp
   rw [← hm]
   generalize zcC zbx (l.take (l.length / 2)) = xs at *
   generalize zcC zbx (l.drop (l.length / 2)) = ys at *
   have hq : ((l.length : Int) / 2).toNat = l.length / 2 := by omega
   have eA : AV.lst 5 (List.take (l.length / 2) (l.map zad)) = zaN (l.take (l.length / 2)) := by simp [zaN, List.map_take]
   have eB : AV.lst 5 (List.take (l.length - l.length / 2) (List.drop (l.length / 2) (l.map zad))) = zaN (l.drop (l.length / 2)) := by rw [List.take_of_length_le (by simp)]; simp [zaN, List.map_drop]
   generalize hR : List.merge xs ys (leC zbx) = R
   refine pF Tryz.func75 ?_
   repeat first|refine wV fun _=>?_|simp [go_sem]
   (refine zAt (fun hF => by first | omega | (simp at hF; omega)) (fun hF => ?_); clear hF)
   repeat first|refine wV fun _=>?_|simp [go_sem, hq]
   rw [eA]
   refine zAs hA (zwD (zb6 _)) ?_
   repeat first|refine wV fun _=>?_|simp [go_sem, hq]
   rw [eB]
   refine zAs hB (zwD (zb6 _)) ?_
   repeat first|refine wV fun _=>?_|simp [go_sem, hq]
   refine zAr (zAv (α := Nat × Nat × List zah) (fun a => ⟨[(3, zaN xs), (4, zaN ys), (5, .sl 0 a.2.2.length 5 0 a.2.2.length), (6, .v (.int .i64 a.1)), (7, .v (.int .i64 a.2.1))], [(0, .rows true a.2.2.length 5 (a.2.2.map zad))], 1⟩)
    (fun d a => a.1 + a.2.1 + d = xs.length + ys.length ∧ a.1 ≤ xs.length ∧ a.2.1 ≤ ys.length ∧ a.2.2.length = a.1 + a.2.1 ∧ R = a.2.2 ++ List.merge (xs.drop a.1) (ys.drop a.2.1) (leC zbx)) ?_ (xs.length + ys.length) (0, 0, []) ?_) ?_ ?_
   ·rintro d ⟨i, k, out⟩ ⟨i1, i2, i3, i4, i5⟩ hrec
    simp only at i1 i2 i3 i4 i5
    repeat first|refine wV fun _=>?_|simp [go_sem]
    refine zAt (fun hj => ?_) (fun hj => ?_) <;> simp at hj
    ·by_cases hk : k < ys.length
     ·by_cases hi : i < xs.length
      ·have fa := fA _ (zaj hi)
       have fb := fB _ (zaj hk)
       rw [zaH hi, zaH hk, List.cons_merge_cons, ← zaH hi, ← zaH hk] at i5
       have hk' := Nat.not_le.2 hk
       repeat first|refine wV fun _=>?_|simp [go_sem, hk, hk', hi]
       refine zAD _ (fun _ => zdQ _ _ fa fb) (by simp [go_sem]) ?_
       repeat first|refine wV fun _=>?_|simp [go_sem, hk, hk', hi]
       refine zAt (fun hc => ?_) (fun hc => ?_) <;> simp at hc
       ·rw [if_pos (by simpa [leC] using hc)] at i5
        repeat first|refine wV fun _=>?_|simp [go_sem, hk, hi]
        refine zAr (hrec (d - 1) (by omega) (i + 1, k, out ++ [nth xs i]) ⟨by simp only; omega, by simp only; omega, i3, by simp; omega, by simpa using i5⟩) ?_ (by simp)
        simp [go_sem, zaf]
       ·rw [if_neg (by simpa [leC] using hc)] at i5
        repeat first|refine wV fun _=>?_|simp [go_sem, hk, hi]
        refine zAr (hrec (d - 1) (by omega) (i, k + 1, out ++ [nth ys k]) ⟨by simp only; omega, i2, by simp only; omega, by simp; omega, by simpa using i5⟩) ?_ (by simp)
        simp [go_sem, zaf]
      ·rw [List.drop_eq_nil_of_le (show xs.length ≤ i by omega), List.nil_merge, zaH hk] at i5
       have hk' := Nat.not_le.2 hk
       repeat first|refine wV fun _=>?_|simp [go_sem, hk, hk', hi]
       refine dGC.skip (.v (.int .i64 0)) ?_
       repeat first|refine wV fun _=>?_|simp [go_sem, hk, hk', hi]
       refine zAr (hrec (d - 1) (by omega) (i, k + 1, out ++ [nth ys k]) ⟨by simp only; omega, i2, by simp only; omega, by simp; omega, by simp [List.drop_eq_nil_of_le (show xs.length ≤ i by omega), i5]⟩) ?_ (by simp)
       simp [go_sem, zaf]
     ·have hi : i < xs.length := by omega
      rw [List.drop_eq_nil_of_le (show ys.length ≤ k by omega), List.merge_right, zaH hi] at i5
      have hk' := Nat.not_lt.1 hk
      repeat first|refine wV fun _=>?_|simp [go_sem, hk, hk', hi]
      refine dGC.skip (.v (.int .i64 0)) ?_
      repeat first|refine wV fun _=>?_|simp [go_sem, hk, hk', hi]
      refine zAr (hrec (d - 1) (by omega) (i + 1, k, out ++ [nth xs i]) ⟨by simp only; omega, by simp only; omega, i3, by simp; omega, by simp [List.drop_eq_nil_of_le (show ys.length ≤ k by omega), i5]⟩) ?_ (by simp)
      simp [go_sem, zaf]
    ·rw [List.drop_eq_nil_of_le (show xs.length ≤ i by omega), List.drop_eq_nil_of_le (show ys.length ≤ k by omega)] at i5
     repeat first|refine wV fun _=>?_|simp [go_sem]
     rw [i5]
     exact frX
   ·simp [hR]
   ·simp [go_sem, zaf]
   ·simp
def zwF (all : List zah) (i : Nat) : List zah := if i = 0 then zbt all else zbf (nth all (i - 1)) (all.drop i)
theorem zu3 (all : List zah) : zwF all 0 = zbt all := rfl
theorem zxz {all : List zah} {i : Nat} (h : all.length ≤ i) : zwF all i = [] := by
 unfold zwF
 split
 ·cases all with
  | nil => rfl
  | cons a l => simp at h; omega
 ·rw [List.drop_eq_nil_of_le h]; rfl
theorem znT {all : List zah} {i : Nat} (h : i < all.length) (hk : i = 0 ∨ nth all i ≠ nth all (i - 1)) : zwF all i = nth all i :: zwF all (i + 1) := by
 unfold zwF
 rw [if_neg (show ¬ i + 1 = 0 by omega), Nat.add_sub_cancel]
 split
 ·rename_i h0
  subst h0
  cases all with
  | nil => simp at h
  | cons a l => rfl
 ·rw [zaH h, zbf, if_neg (by rcases hk with h | h; omega; exact h)]
theorem zu2 {all : List zah} {i : Nat} (h : i < all.length) (hi : i ≠ 0) (hk : nth all i = nth all (i - 1)) : zwF all i = zwF all (i + 1) := by
 unfold zwF
 rw [if_neg (show ¬ i + 1 = 0 by omega), Nat.add_sub_cancel, if_neg hi, zaH h, zbf, if_pos hk, hk]
theorem zeC (l : List zah) (hl : l.length ≤ 68719476736) (hf : ∀ p ∈ l, zaU p) : zaL Tryz.prog 23 [zaN l] (zaN (zbh zbx l)) := by
 have hH := zvr l.length l (by omega) hl hf
 unfold zbh
 have fA : ∀ p ∈ zcC zbx l, zaU p := fun p hp => hf p (zeu.1 hp)
 have lA : (zcC zbx l).length = l.length := zet l
 generalize zcC zbx l = all at *
 generalize hR : zbt all = R
 refine pF Tryz.func23 ?_
 repeat first|refine wV fun _=>?_|simp [go_sem]
 refine zAs hH (zwD (zb6 _)) ?_
 repeat first|refine wV fun _=>?_|simp [go_sem]
 refine zAr (zAv (α := Nat × List zah) (fun a => ⟨[(3, zaN all), (4, .sl 0 a.2.length 5 0 a.2.length), (5, .v (.int .i64 a.1))], [(0, .rows true a.2.length 5 (a.2.map zad))], 1⟩)
  (fun d a => a.1 + d = all.length ∧ a.2.length ≤ a.1 ∧ R = a.2 ++ zwF all a.1) ?_ all.length (0, []) ?_) ?_ ?_
 ·rintro d ⟨i, out⟩ ⟨i1, i2, i3⟩ hrec
  simp only at i1 i2 i3
  repeat first|refine wV fun _=>?_|simp [go_sem]
  refine zAt (fun hi => ?_) (fun hi => ?_) <;> simp at hi
  ·by_cases h0 : i = 0
   ·rw [znT hi (.inl h0)] at i3
    subst h0
    repeat first|refine wV fun _=>?_|simp [go_sem, hi]
    refine dGC.skip (.v (.bool true)) ?_
    repeat first|refine wV fun _=>?_|simp [go_sem, hi]
    refine zAr (hrec (d - 1) (by omega) (0 + 1, out ++ [nth all 0]) ⟨by simp only; omega, by simp only [List.length_append, List.length_singleton]; omega, by simpa using i3⟩) ?_ (by simp)
    simp [go_sem, zaf]
   ·have fa := fA _ (zaj hi)
    have hi' : i - 1 < all.length := by omega
    have e1 : ((i : Int) - 1).toNat = i - 1 := by omega
    have fb := fA _ (zaj hi')
    repeat first|refine wV fun _=>?_|simp [go_sem, hi, h0, e1, hi']
    refine zAD _ (fun _ => zgj _ _ fa fb) (by simp [go_sem]) ?_
    repeat first|refine wV fun _=>?_|simp [go_sem, hi, h0]
    refine zAt (fun hc => ?_) (fun hc => ?_) <;> simp at hc
    ·rw [zpX] at hc
     rw [znT hi (.inr hc)] at i3
     repeat first|refine wV fun _=>?_|simp [go_sem, hi]
     refine zAr (hrec (d - 1) (by omega) (i + 1, out ++ [nth all i]) ⟨by simp only; omega, by simp; omega, by simpa using i3⟩) ?_ (by simp)
     simp [go_sem, zaf]
    ·rw [zpX] at hc
     rw [zu2 hi h0 hc] at i3
     repeat first|refine wV fun _=>?_|simp [go_sem, hi]
     refine zAr (hrec (d - 1) (by omega) (i + 1, out) ⟨by simp only; omega, by simp only; omega, i3⟩) ?_ (by simp)
     simp [go_sem, zaf]
  ·rw [zxz hi] at i3
   repeat first|refine wV fun _=>?_|simp [go_sem]
   rw [i3]
   exact frX
 ·simp [hR, zu3]
 ·simp [go_sem, zaf]
 ·simp
def zg7 (side : Int) (l : List StD) (n : Nat) : List zcl := ((l.take n).filterMap (zgd side)).foldl (fun a x => zbJ x a) []
@[go_sem] theorem zAq (side : Int) (l : List StD) : zg7 side l 0 = [] := rfl
theorem zhJ (side : Int) (l : List StD) {n : Nat} (h : n < l.length) : zg7 side l (n + 1) = match zgd side (nth l n) with | some o => zbJ o (zg7 side l n) | none => zg7 side l n := by
 unfold zg7
 rw [zvm _ _ _ h, List.foldl_append]
 cases zgd side (nth l n) <;> rfl
theorem zls (x : zcl) : ∀ l : List zcl, (zbJ x l).length ≤ l.length + 1
 | [] => by simp [zbJ]
 | y :: l => by
  rw [zbJ]
  split
  ·have := zls x l; simp; omega
  ·split <;> simp
theorem zv3 (side : Int) (l : List StD) : ∀ n, n ≤ l.length → (zg7 side l n).length ≤ n := by
 intro n
 induction n with
 | zero => intro _; simp [zg7]
 | succ n ih =>
  intro h
  have := ih (by omega)
  rw [zhJ side l (by omega)]
  split
  ·rename_i o _
   have := zls o (zg7 side l n)
   omega
  ·omega
theorem zoN {g : zae} (hg : GOk g) {s : StD} (hs : ze7 g s) {side : Int} {o : zcl} (h : zgd side s = some o) : zaU o.pos := by
 have hf := hs.p.fits hg
 unfold zgd at h
 split at h
 ·simp only [Option.some.injEq] at h
  subst h
  obtain ⟨a, b, c⟩ := hf
  exact ⟨by unfold ze5 at *; simpa using a, b, c⟩
 ·cases h
theorem ztm {g : zae} (hg : GOk g) {side : Int} {l : List StD} (hl : ∀ s ∈ l, ze7 g s) : ∀ n, n ≤ l.length → ∀ o ∈ zg7 side l n, zaU o.pos := by
 intro n
 induction n with
 | zero => intro _ o ho; simp [zg7] at ho
 | succ n ih =>
  intro h o ho
  rw [zhJ side l (by omega)] at ho
  cases hp : zgd side (nth l n) with
  | none => rw [hp] at ho; exact ih (by omega) o ho
  | some q =>
   rw [hp] at ho
   rcases zeN.1 ho with rfl | ho
   ·exact zoN hg (hl _ (zaj (by omega))) hp
   ·exact ih (by omega) o ho
theorem zv2 (g : zae) (p : zah) (cell i : Int) : zg7 p.side (zd9 g p cell (za2 g p cell i)) (zd9 g p cell (za2 g p cell i)).length = zdc g p cell i := by
 unfold zg7 zdc
 rw [List.take_length, zqd]
theorem zpk (g : zae) (hg : GOk g) (p : zah) (hp : POk g p) (cell i : Int) (hc : zcf g p cell i) :
  zaL Tryz.prog 246 [.agg (zac g), .agg (zad p), .v (.int .i64 cell), .v (.int .i64 i)] (.tup [zbI (zdc g p cell i), .v (.int .i64 0)]) := by
 refine pF Tryz.func246 ?_
 have hRun := zr2 g hg p hp cell i hc
 have hal := hp.al
 have hat := hp.at (i := cell.toNat) (by have := hc.c0; have := hc.c1; omega)
 have hkl : (zao (nth p.at_ cell.toNat)).1.toNat < g.kinds.length := by
  have cm := hc.man
  rcases zaR hat.1 hat.2 hg.k6 with ⟨_, e⟩ | ⟨_, a, b, _⟩
  ·rw [e] at cm; simp at cm
  ·omega
 have hil : i.toNat < (nth g.kinds (zao (nth p.at_ cell.toNat)).1.toNat).progs.length := by have := hc.i0; have := hc.i1; omega
 have hpg := hg.pr _ (zaj hkl) _ (zaj hil)
 have hpe : za2 g p cell i = nth (nth g.kinds (zao (nth p.at_ cell.toNat)).1.toNat).progs i.toNat := rfl
 rw [← hpe] at hpg
 have hst := zhg hg hp hc.c0 hc.c1 hc.man hpg.st _ (Nat.le_refl _)
 have hlen := Nat.le_trans hst.2 (ziQ hpg.len)
 have hstR := zqL g p cell (za2 g p cell i) ((za2 g p cell i).length + 1)
 have hnS := zz1 g p cell (za2 g p cell i) (n := (za2 g p cell i).length + 1) (j := (za2 g p cell i).length) (by omega)
 have hal' := zv2 g p cell i
 rw [zgD] at hnS hlen hst
 have hps := hp.s
 obtain ⟨m, hm⟩ : ∃ m, m = (za2 g p cell i).length := ⟨_, rfl⟩
 have hm8 := hpg.len
 rw [← hm] at hRun hstR hnS hm8
 generalize stR g p cell (za2 g p cell i) (m + 1) = sr at *
 generalize zd9 g p cell (za2 g p cell i) = last at *
 obtain ⟨R, hR⟩ : ∃ R, R = zdc g p cell i := ⟨_, rfl⟩
 rw [← hR] at hal' ⊢
 repeat first|refine wV fun _=>?_|simp [go_sem]
 refine zAs hRun (by simp [go_sem]) ?_
 repeat first|refine wV fun _=>?_|simp [go_sem, hstR, hnS]
 refine zAr (zAv (α := Nat) (fun k => ⟨[(5, .ref 1 0 5 0 0), (11, zbI (zg7 p.side last k)), (12, za0 last), (13, .v (.int .i64 k))], [(1, .rows true 0 5 [zad p])], 2⟩)
  (fun d k => k + d = last.length) ?_ last.length 0 ?_) ?_ ?_
 ·rintro d k k1 hrec
  repeat first|refine wV fun _=>?_|simp [go_sem]
  refine zAt (fun hk => ?_) (fun hk => ?_) <;> simp at hk
  ·have hsk := hst.1 _ (zaj hk)
   have hsu := zhJ p.side last hk
   have hol := zv3 p.side last k (by omega)
   have hof := ztm hg (fun s hs => (hst.1 s hs).1) (side := p.side) k (by omega)
   have hpf := fun o => zoN hg hsk.1 (side := p.side) (o := o)
   have hps' : zgd p.side (nth last k) = if nth (nth last k).p.at_ (nth last k).cursor.toNat = 0 then some ⟨{ (nth last k).p with at_ := (nth last k).p.at_.set (nth last k).cursor.toNat (zaF (nth last k).kind p.side), side := 1 - p.side }, (nth last k).took⟩ else none := rfl
   have hcp := zdF (nth last k).p (hsk.1.p.fits hg)
   have hal2 := hsk.1.p.al
   have hc0 := hsk.1.c0
   have hc1 := hsk.1.c1
   have hcc := zc4 (nth last k).kind p.side
   have hcur : (nth last k).cursor.toNat < (nth last k).p.at_.length := by omega
   by_cases hz : nth (nth last k).p.at_ (nth last k).cursor.toNat = 0
   ·rw [if_pos hz] at hps'
    simp only [hps'] at hsu
    have hfo := hpf _ hps'
    have hIns := zl7 (zg7 p.side last k) _ (by omega) hof hfo
    repeat first|refine wV fun _=>?_|simp [go_sem, hk, hcur, hz]
    refine zAx hcp (by simp [go_sem]) ?_
    repeat first|refine wV fun _=>?_|simp [go_sem, hcur]
    refine zAu hcc (by simp [go_sem]) ?_
    repeat first|refine wV fun _=>?_|simp [go_sem, hcur]
    refine zAy [5, 6, 11] hIns ?_ (by simp [go_sem]) ?_
    ·(first|done|exact agX)
    ·rw [← hsu]
     repeat first|refine wV fun _=>?_|simp [go_sem]
     refine zAr (hrec (d - 1) (by omega) (k + 1) (by omega)) ?_ (by simp)
     simp [go_sem, zaf, za5, zbb, upd]
   ·rw [if_neg hz] at hps'
    simp only [hps'] at hsu
    repeat first|refine wV fun _=>?_|simp [go_sem, hk, hcur, hz]
    refine zAr (hrec (d - 1) (by omega) (k + 1) (by omega)) ?_ (by simp)
    simp [go_sem, zaf, hsu]
  ·have hkl : k = last.length := by omega
   subst hkl
   rw [hal']
   repeat first|refine wV fun _=>?_|simp [go_sem]
 ·omega
 ·simp [go_sem, zaf]
  exact frX
 ·simp
def zbA (g : zae) (p : zah) (k : Nat) : List zah := (List.range k).flatMap fun k => (List.range p.at_.length).filterMap fun c => zf3 g p k c
def zcz (g : zae) (p : zah) (k c : Nat) : List zah := zbA g p k ++ (List.range c).filterMap fun c => zf3 g p k c
theorem zhv (g : zae) (p : zah) (k : Nat) : zcz g p k p.at_.length = zbA g p (k + 1) := by simp [zcz, zbA, List.range_succ, List.flatMap_append]
theorem zgr (g : zae) (p : zah) (k : Nat) : zcz g p k 0 = zbA g p k := by simp [zcz]
theorem zcn (g : zae) (p : zah) (k c : Nat) : zcz g p k (c + 1) = zcz g p k c ++ (zf3 g p k c).toList := by
 simp only [zcz, List.range_succ, List.filterMap_append, List.append_assoc]
 cases h : zf3 g p k c <;> simp [h]
theorem zfN (g : zae) (p : zah) : zbA g p g.kinds.length = zu8 g p := rfl
theorem zeo {α : Type} (f : Nat → List α) (m : Nat) (hf : ∀ k, (f k).length ≤ m) : ∀ n, ((List.range n).flatMap f).length ≤ n * m
 | 0 => by simp
 | n + 1 => by
  have := zeo f m hf n
  have := hf n
  simp only [List.range_succ, List.flatMap_append, List.length_append, List.flatMap_cons, List.flatMap_nil, List.append_nil, Nat.add_mul, Nat.one_mul]
  omega
theorem zem (g : zae) (p : zah) (k : Nat) : (zbA g p k).length ≤ k * p.at_.length :=
 zeo _ _ (fun k => Nat.le_trans (List.length_filterMap_le _ _) (by simp)) k
theorem zfM (g : zae) (p : zah) (k c : Nat) : (zcz g p k c).length ≤ k * p.at_.length + c := by
 have h1 := zem g p k
 have h2 : ((List.range c).filterMap fun c => zf3 g p k c).length ≤ c := Nat.le_trans (List.length_filterMap_le _ _) (by simp)
 simp only [zcz, List.length_append]
 omega
theorem ziH {g : zae} (hg : GOk g) {p : zah} (hp : POk g p) {k c : Nat} (hk : k < g.kinds.length) {q : zah} (h : zf3 g p k c = some q) : POk g q ∧ q.side = 1 - p.side := by
 unfold zf3 at h
 split at h
 ·cases h
 ·rename_i hc
  simp only [Option.some.injEq] at h
  subst h
  have k6 := hg.k6
  have hcode : zaF k p.side = 1 + 2 * k + p.side := znR (K := g.kinds.length) ⟨by omega, by omega⟩ k6 hp.s
  have hs := hp.s
  have hh := hp.hand p.side
  have hl := hh.len
  have hv := hh.v k (by omega)
  refine ⟨POk.side (POk.withHand (hp.setAt c (by rw [hcode]; omega)) _ (hh.set k ?_ ?_)) (by omega), rfl⟩
  ·simp only [not_or] at hc; omega
  ·intro _; exact hv.2.2 (by simp only [not_or] at hc; omega)
theorem znf (g : zae) (hg : GOk g) (p : zah) (hp : POk g p) : zaL Tryz.prog 197 [.agg (zac g), .agg (zad p)] (zaN (zcM g p)) := by
 refine pF Tryz.func197 ?_
 have hal := hp.al
 have c9 := hg.c9
 have k6 := hg.k6
 have hcp := zdF p (hp.fits hg)
 obtain ⟨gk, hgk⟩ : ∃ gk, gk = g.kinds.length := ⟨_, rfl⟩
 have hl0 := hp.h0.len
 have hl1 := hp.h1.len
 repeat first|refine wV fun _=>?_|simp [go_sem]
 refine zAr (zAv (α := Nat) (fun k => ⟨[(2, .ref 0 0 9 0 0), (3, .ref 1 0 5 0 0), (5, .sl 2 (zbA g p k).length 5 0 (zbA g p k).length), (6, .v (.int .i64 k))], [(0, .rows true 0 9 [zac g]), (1, .rows true 0 5 [zad p]), (2, .rows true (zbA g p k).length 5 ((zbA g p k).map zad))], 3⟩)
  (fun d k => k + d = g.kinds.length) ?_ g.kinds.length 0 ?_) ?_ ?_
 ·rintro d k k1 hrec
  repeat first|refine wV fun _=>?_|simp [go_sem]
  refine zAt (fun hk => ?_) (fun hk => ?_) <;> simp at hk
  ·have hz := zgr g p k
   have ha := zhv g p k
   repeat first|refine wV fun _=>?_|simp [go_sem]
   refine zAr (zAv (α := Nat) (fun c => ⟨[(2, .ref 0 0 9 0 0), (3, .ref 1 0 5 0 0), (5, .sl 2 (zcz g p k c).length 5 0 (zcz g p k c).length), (6, .v (.int .i64 k)), (7, .v (.int .i64 c))], [(0, .rows true 0 9 [zac g]), (1, .rows true 0 5 [zad p]), (2, .rows true (zcz g p k c).length 5 ((zcz g p k c).map zad))], 3⟩)
    (fun d c => c + d = p.at_.length) ?_ p.at_.length 0 ?_) ?_ ?_
   ·rintro d2 c c1 hrec2
    repeat first|refine wV fun _=>?_|simp [go_sem]
    refine zAt (fun hci => ?_) (fun hci => ?_) <;> simp at hci
    ·have hD : zf3 g p k c = if nth (p.hand p.side) k = 0 ∨ nth p.at_ c ≠ 0 then none
      else some { ({ p with at_ := p.at_.set c (zaF k p.side) }.withHand p.side ((p.hand p.side).set k (nth (p.hand p.side) k - 1))) with side := 1 - p.side } := rfl
     rcases hp.s with hsd | hsd
     ·have hsn : p.side.toNat = 0 := by omega
      have hkh : k < p.h0.length := by omega
      have hhv := hp.h0.v k hkh
      have hD' : zf3 g p k c = if nth p.h0 k = 0 ∨ nth p.at_ c ≠ 0 then none else some { p with at_ := p.at_.set c (zaF k p.side), h0 := p.h0.set k (nth p.h0 k - 1), side := 1 - p.side } := by
       rw [hD]; simp [zah.hand, zah.withHand, hsd]
      repeat first|refine wV fun _=>?_|simp [go_sem, hsn, hkh, hci]
      refine zAt (fun hcc => ?_) (fun hcc => ?_) <;> simp at hcc
      ·rw [if_pos (by omega)] at hD'
       have hsu := zcn g p k c
       rw [hD'] at hsu
       simp only [Option.toList_none, List.append_nil] at hsu
       repeat first|refine wV fun _=>?_|simp [go_sem]
       refine zAr (hrec2 (d2 - 1) (by omega) (c + 1) (by omega)) ?_ (by simp)
       simp [go_sem, zaf, hsu]
      ·rw [if_neg (by omega)] at hD'
       have hsu := zcn g p k c
       rw [hD'] at hsu
       simp only [Option.toList_some] at hsu
       have hcl := zfM g p k c
       have hkm : k * p.at_.length ≤ 6 * 9 := Nat.mul_le_mul (by omega) (by omega)
       repeat first|refine wV fun _=>?_|simp [go_sem, hci]
       refine zAx hcp (by simp [go_sem]) ?_
       repeat first|refine wV fun _=>?_|simp [go_sem, hci]
       refine zAu (zc4 (k : Int) p.side) (by simp [go_sem]) ?_
       repeat first|refine wV fun _=>?_|simp [go_sem, hsn, hci, hkh]
       refine zAr (hrec2 (d2 - 1) (by omega) (c + 1) (by omega)) ?_ (by simp)
       simp [go_sem, zaf, hsu]
       (first|done|exact rwX)
     ·have hsn : p.side.toNat = 1 := by omega
      have hkh : k < p.h1.length := by omega
      have hhv := hp.h1.v k hkh
      have hD' : zf3 g p k c = if nth p.h1 k = 0 ∨ nth p.at_ c ≠ 0 then none else some { p with at_ := p.at_.set c (zaF k p.side), h1 := p.h1.set k (nth p.h1 k - 1), side := 1 - p.side } := by
       rw [hD]; simp [zah.hand, zah.withHand, hsd]
      repeat first|refine wV fun _=>?_|simp [go_sem, hsn, hkh, hci]
      refine zAt (fun hcc => ?_) (fun hcc => ?_) <;> simp at hcc
      ·rw [if_pos (by omega)] at hD'
       have hsu := zcn g p k c
       rw [hD'] at hsu
       simp only [Option.toList_none, List.append_nil] at hsu
       repeat first|refine wV fun _=>?_|simp [go_sem]
       refine zAr (hrec2 (d2 - 1) (by omega) (c + 1) (by omega)) ?_ (by simp)
       simp [go_sem, zaf, hsu]
      ·rw [if_neg (by omega)] at hD'
       have hsu := zcn g p k c
       rw [hD'] at hsu
       simp only [Option.toList_some] at hsu
       have hcl := zfM g p k c
       have hkm : k * p.at_.length ≤ 6 * 9 := Nat.mul_le_mul (by omega) (by omega)
       repeat first|refine wV fun _=>?_|simp [go_sem, hci]
       refine zAx hcp (by simp [go_sem]) ?_
       repeat first|refine wV fun _=>?_|simp [go_sem, hci]
       refine zAu (zc4 (k : Int) p.side) (by simp [go_sem]) ?_
       repeat first|refine wV fun _=>?_|simp [go_sem, hsn, hci, hkh]
       refine zAr (hrec2 (d2 - 1) (by omega) (c + 1) (by omega)) ?_ (by simp)
       simp [go_sem, zaf, hsu]
       (first|done|exact rwX)
    ·have hcl : c = p.at_.length := by omega
     subst hcl
     rw [ha]
     repeat first|refine wV fun _=>?_|simp [go_sem]
     refine zAr (hrec (d - 1) (by omega) (k + 1) (by omega)) ?_ (by simp)
     simp [go_sem, zaf]
   ·omega
   ·simp [go_sem, zaf, hz]
   ·simp
  ·have hkl : k = g.kinds.length := by omega
   subst hkl
   have hdl := zem g p g.kinds.length
   have hkm : g.kinds.length * p.at_.length ≤ 6 * 9 := Nat.mul_le_mul k6 (by omega)
   have hS := zeC (zbA g p g.kinds.length) (by omega) (fun q hq => by
    rw [zfN] at hq
    obtain ⟨k, hk, hq⟩ := List.mem_flatMap.1 hq
    obtain ⟨c, hc, hq⟩ := List.mem_filterMap.1 hq
    exact (ziH hg hp (by simpa using hk) hq).1.fits hg)
   rw [show zbh zbx (zbA g p g.kinds.length) = zcM g p from rfl] at hS
   generalize zbA g p g.kinds.length = l at *
   generalize zcM g p = r at *
   repeat first|refine wV fun _=>?_|simp [go_sem]
   refine zAy [2] hS ?_ (zwD (zb6 _)) ?_
   ·(first|done|exact agX)
   ·repeat first|refine wV fun _=>?_|simp [go_sem]
 ·omega
 ·simp [go_sem, zaf, show zbA g p 0 = [] from rfl]
 ·simp
theorem zmL {g : zae} (hg : GOk g) {p : zah} (hp : POk g p) {cell : Int} (h0 : 0 ≤ cell) (h1 : cell < g.cells) (hm : 0 ≤ (zao (nth p.at_ cell.toNat)).1) :
  (zao (nth p.at_ cell.toNat)).1.toNat < g.kinds.length := by
 have hat := hp.at (i := cell.toNat) (by omega)
 rcases zaR hat.1 hat.2 hg.k6 with ⟨_, e⟩ | ⟨_, a, b, _⟩
 ·rw [e] at hm; simp at hm
 ·omega
theorem zwa {g : zae} (hg : GOk g) {p : zah} (hp : POk g p) {cell i : Int} (hc : zcf g p cell i) : znc g.next.length g.kinds.length g.rights (za2 g p cell i) :=
 hg.pr _ (zaj (zmL hg hp hc.c0 hc.c1 hc.man)) _ (zaj (by have := hc.i0; have := hc.i1; omega))
theorem ziN {g : zae} (hg : GOk g) {p : zah} (hp : POk g p) {cell i : Int} (hc : zcf g p cell i) :
  (∀ s ∈ zd9 g p cell (za2 g p cell i), ze7 g s ∧ s.p.side = p.side) ∧ (zd9 g p cell (za2 g p cell i)).length ≤ 100000000 := by
 have hpg := zwa hg hp hc
 have h := zhg hg hp hc.c0 hc.c1 hc.man hpg.st _ (Nat.le_refl _)
 rw [zgD] at h
 exact ⟨h.1, Nat.le_trans h.2 (ziQ hpg.len)⟩
theorem zwd {g : zae} (hg : GOk g) {s : StD} (hs : ze7 g s) {side : Int} (hsd : side = 0 ∨ side = 1) {o : zcl} (h : zgd side s = some o) : POk g o.pos ∧ o.pos.side = 1 - side := by
 unfold zgd at h
 split at h
 ·simp only [Option.some.injEq] at h
  subst h
  have hc : zaF s.kind side = 1 + 2 * s.kind + side := znR (K := g.kinds.length) hs.k hg.k6 hsd
  have hk := hs.k
  exact ⟨POk.side (hs.p.setAt _ (by rw [hc]; omega)) (by omega), rfl⟩
 ·cases h
theorem zyh {g : zae} (hg : GOk g) {p : zah} (hp : POk g p) {cell i : Int} (hc : zcf g p cell i) : ∀ o ∈ zdc g p cell i, POk g o.pos ∧ o.pos.side = 1 - p.side := by
 intro o ho
 unfold zdc at ho
 rw [za9] at ho
 obtain ⟨s, hs, h⟩ := List.mem_filterMap.1 ho
 exact zwd hg ((ziN hg hp hc).1 s hs).1 hp.s h
theorem zj8 {g : zae} (hg : GOk g) {p : zah} (hp : POk g p) {cell i : Int} (hc : zcf g p cell i) : (zdc g p cell i).length ≤ 100000000 := by
 unfold zdc
 have h1 := zdw zh2 ((zd9 g p cell (za2 g p cell i)).filterMap (zgd p.side))
 have h2 : ((zd9 g p cell (za2 g p cell i)).filterMap (zgd p.side)).length ≤ (zd9 g p cell (za2 g p cell i)).length := List.length_filterMap_le _ _
 have h3 := (ziN hg hp hc).2
 omega
theorem zfg {g : zae} {p : zah} {c i : Nat} (hp : POk g p) (hc : c < p.at_.length) (hm : 0 ≤ (zao (nth p.at_ c)).1 ∧ (zao (nth p.at_ c)).2 = p.side)
  (hi : i < (nth g.kinds (zao (nth p.at_ c)).1.toNat).progs.length) : zcf g p c i := by
 have := hp.al
 exact ⟨by omega, by omega, hm.1, hm.2, by omega, by simp only [Int.toNat_natCast]; omega⟩
theorem zoz {g : zae} {p : zah} (hp : POk g p) {o : zcl} : o ∈ zdo g p ↔ ∃ c i : Nat, zcf g p c i ∧ o ∈ zdc g p c i := by
 have hal := hp.al
 unfold zdo
 rw [List.mem_flatMap]
 constructor
 ·rintro ⟨c, hc, ho⟩
  rw [List.mem_range] at hc
  unfold zc3 at ho
  split at ho
  ·rename_i hm
   obtain ⟨i, hi, ho⟩ := List.mem_flatMap.1 ho
   rw [List.mem_range] at hi
   exact ⟨c, i, zfg hp hc hm hi, ho⟩
  ·simp at ho
 ·rintro ⟨c, i, hc, ho⟩
  refine ⟨c, ?_, ?_⟩
  ·have := hc.c1; rw [List.mem_range]; omega
  ·have h1 := hc.man
   have h2 := hc.side
   have h3 := hc.i1
   simp only [Int.toNat_natCast] at h1 h2 h3
   unfold zc3
   rw [if_pos ⟨h1, h2⟩]
   exact List.mem_flatMap.2 ⟨i, by rw [List.mem_range]; omega, ho⟩
theorem zrv {g : zae} (hg : GOk g) {p : zah} (hp : POk g p) : ∀ o ∈ zdo g p, POk g o.pos ∧ o.pos.side = 1 - p.side := by
 intro o ho
 obtain ⟨c, i, hc, ho⟩ := (zoz hp).1 ho
 exact zyh hg hp hc o ho
theorem zbD {α : Type} (f : Nat → List α) (m : Nat) : ∀ n, (∀ k, k < n → (f k).length ≤ m) → ((List.range n).flatMap f).length ≤ n * m
 | 0, _ => by simp
 | n + 1, hf => by
  have := zbD f m n (fun k hk => hf k (by omega))
  have := hf n (by omega)
  simp only [List.range_succ, List.flatMap_append, List.length_append, List.flatMap_cons, List.flatMap_nil, List.append_nil, Nat.add_mul, Nat.one_mul]
  omega
theorem ztl {g : zae} (hg : GOk g) {p : zah} (hp : POk g p) {c : Nat} (hc : c < p.at_.length) : (zc3 g p c).length ≤ 800000000 := by
 unfold zc3
 split
 ·rename_i hm
  have hal := hp.al
  have hk := zmL hg hp (cell := c) (by omega) (by omega) (by simpa using hm.1)
  simp only [Int.toNat_natCast] at hk
  have h8 := hg.pn _ (zaj hk)
  have h1 := zbD (fun (i : Nat) => zdc g p c i) 100000000 (nth g.kinds (zao (nth p.at_ c)).1.toNat).progs.length (fun i hi => zj8 hg hp (zfg hp hc hm hi))
  have h2 : (nth g.kinds (zao (nth p.at_ c)).1.toNat).progs.length * 100000000 ≤ 8 * 100000000 := Nat.mul_le_mul_right _ h8
  omega
 ·simp
theorem zoG {g : zae} (hg : GOk g) {p : zah} (hp : POk g p) {k : Nat} (hk : k ≤ p.at_.length) : ((List.range k).flatMap (zc3 g p)).length ≤ 7200000000 := by
 have hal := hp.al
 have c9 := hg.c9
 have h1 := zbD (zc3 g p) 800000000 k (fun c hc => ztl hg hp (by omega))
 have h2 : k * 800000000 ≤ 9 * 800000000 := Nat.mul_le_mul_right _ (by omega)
 omega
theorem zjX {g : zae} (hg : GOk g) {p : zah} (hp : POk g p) : (zdo g p).length ≤ 7200000000 := zoG hg hp (Nat.le_refl _)
theorem znW {g : zae} (hg : GOk g) {p : zah} (hp : POk g p) : ∀ q ∈ zcM g p, POk g q ∧ q.side = 1 - p.side := by
 intro q hq
 unfold zcM at hq
 rw [za9] at hq
 obtain ⟨k, hk, hq⟩ := List.mem_flatMap.1 hq
 obtain ⟨c, hc, hq⟩ := List.mem_filterMap.1 hq
 exact ziH hg hp (by simpa using hk) hq
theorem zfO {g : zae} (hg : GOk g) {p : zah} (hp : POk g p) : (zcM g p).length ≤ 54 := by
 have h1 := zdw zbx (zu8 g p)
 have h2 := zem g p g.kinds.length
 rw [zfN] at h2
 have hal := hp.al
 have c9 := hg.c9
 have h3 : g.kinds.length * p.at_.length ≤ 6 * 9 := Nat.mul_le_mul hg.k6 (by omega)
 unfold zcM
 omega
theorem zoA {g : zae} (hg : GOk g) {p : zah} (hp : POk g p) : ∀ q ∈ zds g p, POk g q ∧ q.side = 1 - p.side := by
 intro q hq
 unfold zds at hq
 rcases List.mem_append.1 hq with hq | hq
 ·obtain ⟨o, ho, rfl⟩ := List.mem_map.1 hq
  exact zrv hg hp o (List.mem_filter.1 ho).1
 ·split at hq
  ·simp at hq
  ·exact znW hg hp q hq
theorem zlI {g : zae} (hg : GOk g) {p : zah} (hp : POk g p) : (zds g p).length ≤ 7200000054 := by
 have h1 := zjX hg hp
 have h2 := zfO hg hp
 have h3 : ((zdo g p).filter fun o => !zf4 g p || o.took).length ≤ (zdo g p).length := List.length_filter_le _ _
 unfold zds
 rw [List.length_append, List.length_map]
 split <;> simp <;> omega
theorem zdn {g : zae} (hg : GOk g) {p : zah} (hp : POk g p) : ∀ q ∈ zaK g p, POk g q ∧ q.side = 1 - p.side := by
 intro q hq
 unfold zaK at hq
 split at hq
 ·simp at hq
 ·exact zoA hg hp q (za9.1 hq)
theorem zhG {g : zae} (hg : GOk g) {p : zah} (hp : POk g p) : (zaK g p).length ≤ 7200000054 := by
 unfold zaK
 split
 ·simp
 ·exact Nat.le_trans (zdw _ _) (zlI hg hp)
theorem zrO {g : zae} (hg : GOk g) : ∀ (l : List Int) {p : zah}, POk g p → ∀ q ∈ zfG g p l, POk g q
 | [], p, hp, q, hq => by simp [zfG] at hq; subst hq; exact hp
 | k :: l, p, hp, q, hq => by
  rw [zfG] at hq
  split at hq
  ·simp at hq; subst hq; exact hp
  ·rename_i hne
   rcases List.mem_cons.1 hq with rfl | hq
   ·exact hp
   ·refine zrO hg l ((zdn hg hp) _ (zaj ?_)).1 q hq
    have hpos : 0 < (zaK g p).length := List.length_pos_iff.2 hne
    have h1 : 0 ≤ k.emod (zaK g p).length := Int.emod_nonneg k (show ((zaK g p).length : Int) ≠ 0 by omega)
    have h2 : k.emod (zaK g p).length < (zaK g p).length := Int.emod_lt_of_pos k (show (0 : Int) < (zaK g p).length by omega)
    omega
theorem zrN (g : zae) (p : zah) (l : List Int) : zfG g p l ≠ [] := by
 cases l with
 | nil => simp [zfG]
 | cons k l => rw [zfG]; split <;> simp
theorem zo0 (g : zae) : ∀ (l : List Int) (p : zah), (zfG g p l).length ≤ l.length + 1
 | [], p => by simp [zfG]
 | k :: l, p => by
  rw [zfG]
  split
  ·simp
  ·have := zo0 g l (nth (zaK g p) (k.emod (zaK g p).length).toNat)
   simp; omega
theorem zfH (p : zah) (side : Int) (l : List Int) : (p.withHand side l).at_ = p.at_ := by
 unfold zah.withHand
 split <;> rfl
theorem zyG {g : zae} (hg : GOk g) {side : Int} (hs : side = 0 ∨ side = 1) {t : TkD} (ht : POk g t.p) {x : zcq} (hx : zdO g.cells g.kinds.length g.rights x) (h : (doA g side t x).2 = true) : POk g (doA g side t x).1.p := by
 obtain ⟨op, a, b⟩ := x
 unfold zdO at hx
 simp only at hx
 rcases (show op = 3 ∨ op = 4 ∨ op = 5 ∨ op = 6 ∨ op = 7 ∨ op = 8 ∨ op = 9 ∨ op = 10 by omega) with rfl | rfl | rfl | rfl | rfl | rfl | rfl | rfl
 ·exact ht
 ·exact ht
 ·exact ht
 ·have hat := ht.at (i := a.toNat) (by omega)
  have hman := zaR hat.1 hat.2 hg.k6
  have hdo : doA g side t (6, a, b) = zkk g side t a := rfl
  rw [hdo] at h ⊢
  unfold zkk at h ⊢
  simp only at h ⊢
  split
  ·exact ht
  ·rename_i hm
   rw [if_neg hm] at h
   split
   ·rename_i hk
    rw [if_pos hk] at h
    simp only [decide_eq_true_eq] at h
    have hk1 : (zao (nth t.p.at_ a.toNat)).1.toNat < g.kinds.length := by
     rcases hman with ⟨_, e⟩ | ⟨_, e1, e2, _⟩
     ·rw [e] at hm
      simp at hm
      omega
     ·omega
    have hh := ht.hand side
    have hv := hh.v _ (show (zao (nth t.p.at_ a.toNat)).1.toNat < (t.p.hand side).length by rw [hh.len]; exact hk1)
    exact (ht.clr a).withHand side (hh.set _ ⟨by omega, h⟩ (fun _ => hk))
   ·exact ht.clr a
 ·have hdo : doA g side t (7, a, b) = zj2 t a b := rfl
  rw [hdo]
  unfold zj2
  split
  ·exact ht
  ·have hat := ht.at (i := a.toNat) (by omega)
   exact (ht.setAt b.toNat hat).setAt a.toNat ⟨by omega, by omega⟩
 ·exact ht
 ·exact ht
 ·have h0 := ht.r0
  have h1 := ht.r1
  have hr : (2 : Int) ^ g.rights.toNat ≤ 16 := by
   have r0 := hg.r0
   have r4 := hg.r4
   rcases (show g.rights.toNat = 0 ∨ g.rights.toNat = 1 ∨ g.rights.toNat = 2 ∨ g.rights.toNat = 3 ∨ g.rights.toNat = 4 by omega) with e | e | e | e | e <;> rw [e] <;> decide
  have r4 := hg.r4
  have hn := znu h0 (show t.p.rights < 16 by omega) (show a.toNat < 4 by omega)
  exact ⟨ht.al, ht.av, ht.h0, ht.h1, hn.1, by simp only [doA]; exact Int.lt_of_le_of_lt hn.2 h1, ht.s⟩
theorem zu6 {g : zae} (hg : GOk g) {side : Int} (hs : side = 0 ∨ side = 1) : ∀ {l : List zcq} {t u : TkD}, POk g t.p → (∀ a ∈ l, zdO g.cells g.kinds.length g.rights a) → zeA g side t l = some u → POk g u.p
 | [], t, u, ht, _, h => by simp only [zeA, Option.some.injEq] at h; subst h; exact ht
 | x :: l, t, u, ht, hl, h => by
  simp only [zeA] at h
  split at h
  ·rename_i hd
   exact zu6 hg hs (zyG hg hs ht (hl x (by simp)) hd) (fun a ha => hl a (by simp [ha])) h
  ·cases h
abbrev Inc (l : List zah) : Prop := l.Pairwise (fun a b => zbx a b < 0)
theorem Inc.lt {l : List zah} (h : Inc l) {i j : Nat} (hij : i < j) (hj : j < l.length) : zbx (nth l i) (nth l j) < 0 := by
 rw [zaC _ _ (by omega), zaC _ _ hj]
 exact List.pairwise_iff_getElem.1 h _ _ _ _ hij
theorem Inc.sign {l : List zah} (h : Inc l) {i j : Nat} (hi : i < l.length) (hj : j < l.length) : (zbx (nth l i) (nth l j) = 0 ↔ i = j) ∧ (zbx (nth l i) (nth l j) < 0 ↔ i < j) := by
 have hs := za7.swap (nth l i) (nth l j)
 rcases Nat.lt_trichotomy i j with h' | h' | h'
 ·have := h.lt h' hj
  exact ⟨⟨by omega, by omega⟩, ⟨by omega, by omega⟩⟩
 ·subst h'
  have := (za7.eq (nth l i) (nth l i)).2 rfl
  exact ⟨⟨by omega, by omega⟩, ⟨by omega, by omega⟩⟩
 ·have := h.lt h' hi
  exact ⟨⟨by omega, by omega⟩, ⟨by omega, by omega⟩⟩
theorem Inc.inj {l : List zah} (h : Inc l) {i j : Nat} (hi : i < l.length) (hj : j < l.length) (e : nth l i = nth l j) : i = j :=
 (h.sign hi hj).1.1 ((za7.eq _ _).2 e)
theorem zjQ {α : Type} [Inhabited α] {l : List α} {x : α} (h : x ∈ l) : ∃ j, j < l.length ∧ nth l j = x := by
 obtain ⟨j, hj, rfl⟩ := List.getElem_of_mem h
 exact ⟨j, hj, zaC _ _ hj⟩
theorem ztg {g : zae} {p q : zah} : q ∈ zaK g p ↔ zch g p < 0 ∧ ((∃ o ∈ zdo g p, (zf4 g p = true → o.took = true) ∧ o.pos = q) ∨ (zf4 g p = false ∧ q ∈ zcM g p)) := by
 unfold zaK
 split
 ·rename_i h
  simp only [List.not_mem_nil, false_iff, not_and]
  intro h'
  omega
 ·rename_i h
  rw [za9]
  unfold zds
  rw [List.mem_append, List.mem_map]
  constructor
  ·rintro (⟨o, ho, rfl⟩ | hq)
   ·obtain ⟨h1, h2⟩ := List.mem_filter.1 ho
    refine ⟨by omega, .inl ⟨o, h1, fun hm => ?_, rfl⟩⟩
    rw [hm] at h2
    simpa using h2
   ·split at hq
    ·simp at hq
    ·rename_i hm
     exact ⟨by omega, .inr ⟨by simpa using hm, hq⟩⟩
  ·rintro ⟨_, ⟨o, h1, h2, rfl⟩ | ⟨hm, hq⟩⟩
   ·refine .inl ⟨o, List.mem_filter.2 ⟨h1, ?_⟩, rfl⟩
    cases hm : zf4 g p
    ·rfl
    ·simpa using h2 hm
   ·refine .inr ?_
    rw [hm]
    exact hq
end Go.Av
end
