/- Texts of ours, part 7: our library and contracts of functions. -/
import Derived.Test.YtkahkcakggflaaaGreatDoorB06
set_option linter.unusedSimpArgs false
set_option linter.unusedVariables false
set_option maxRecDepth 100000
set_option maxHeartbeats 40000000
section
open Go Go.Proofs
namespace Go.Av
theorem nth_z {α : Type} [Inhabited α] (x : α) (l : List α) : nth (x :: l) 0 = x := rfl
theorem zcl {α : Type} [Inhabited α] (l : List α) (i j : Nat) (v : α) : nth (l.set i v) j = if i = j ∧ j < l.length then v else nth l j := by
 unfold nth
 rw [List.getD_eq_getElem?_getD, List.getD_eq_getElem?_getD, List.getElem?_set]
 by_cases h : i = j
 ·subst h
  by_cases h2 : i < l.length
  ·simp [h2]
  ·simp [h2, List.getElem?_eq_none (Nat.not_lt.1 h2)]
 ·simp [h]
structure zew (g : zaf) (l : List Int) : Prop where
 len : l.length = g.kinds.length
 v : ∀ i, i < l.length → 0 ≤ nth l i ∧ nth l i ≤ 8 ∧ (0 < nth l i → (nth g.kinds i).keep = true)
theorem zhO : ∀ (l : List Int) (ks : List zgp), l.length = ks.length → (zck l ks = true ↔ ∀ i, i < l.length → 0 ≤ nth l i ∧ nth l i ≤ 8 ∧ (0 < nth l i → (nth ks i).keep = true))
 | [], [], _ => by simp [zck]
 | x :: l, k :: ks, h => by
  have ih := zhO l ks (by simpa using h)
  rw [zck]
  simp only [Bool.and_eq_true, decide_eq_true_eq, Bool.or_eq_true, Bool.not_eq_true']
  rw [ih]
  constructor
  ·rintro ⟨⟨⟨h1, h2⟩, h3⟩, h4⟩ i hi
   cases i with
   | zero =>
    refine ⟨h1, h2, fun h => ?_⟩
    rcases h3 with h3 | h3
    ·rw [nth_z] at h; simp at h3; omega
    ·exact h3
   | succ i => exact h4 i (by simpa using hi)
  ·intro h
   have h0 := h 0 (by simp)
   refine ⟨⟨⟨h0.1, h0.2.1⟩, ?_⟩, fun i hi => h (i + 1) (by simpa using hi)⟩
   by_cases hx : 0 < x
   ·exact .inr (h0.2.2 hx)
   ·exact .inl (by simpa using hx)
theorem zlu {g : zaf} {l : List Int} : zd1 g l = true ↔ zew g l := by
 unfold zd1
 rw [Bool.and_eq_true, decide_eq_true_eq]
 exact ⟨fun ⟨a, b⟩ => ⟨a, (zhO _ _ a).1 b⟩, fun ⟨a, b⟩ => ⟨a, (zhO _ _ a).2 b⟩⟩
structure POk (g : zaf) (p : zaj) : Prop where
 al : (p.at_.length : Int) = g.cells
 av : ∀ c ∈ p.at_, 0 ≤ c ∧ c ≤ 2 * g.kinds.length
 h0 : zew g p.h0
 h1 : zew g p.h1
 r0 : 0 ≤ p.rights
 r1 : p.rights < 2 ^ g.rights.toNat
 s : p.side = 0 ∨ p.side = 1
theorem ze7 {g : zaf} {p : zaj} : zeH g p = true ↔ POk g p := by
 rw [zhi, zlu, zlu]
 exact ⟨fun ⟨a, b, c, d, e, f, g⟩ => ⟨a, b, c, d, e, f, g⟩, fun ⟨a, b, c, d, e, f, g⟩ => ⟨a, b, c, d, e, f, g⟩⟩
theorem POk.fits {g : zaf} (hg : GOk g) {p : zaj} (h : POk g p) : zaW p := by
 have := hg.c9
 have := hg.k6
 have a := h.al
 have b := h.h0.len
 have c := h.h1.len
 unfold zaW zeR
 omega
structure zfn (g : zaf) (s : StD) : Prop where
 p : POk g s.p
 c0 : 0 ≤ s.cursor
 c1 : s.cursor < g.cells
 k : 0 ≤ s.kind ∧ s.kind < g.kinds.length
theorem zaS {c : Int} {K : Nat} (h0 : 0 ≤ c) (h1 : c ≤ 2 * K) (hK : K ≤ 6) :
  (c = 0 ∧ zaq c = (-1, -1)) ∨ (c ≠ 0 ∧ 0 ≤ (zaq c).1 ∧ (zaq c).1 < K ∧ ((zaq c).2 = 0 ∨ (zaq c).2 = 1) ∧ c = 1 + 2 * (zaq c).1 + (zaq c).2) := by
 unfold zaq
 by_cases hc : c = 0
 ·left; rw [if_neg (by omega)]; exact ⟨hc, rfl⟩
 ·right
  rw [if_pos (by omega)]
  have e1 : (c - 1).tdiv 2 = (c - 1) / 2 := Int.tdiv_eq_ediv_of_nonneg (by omega)
  have e2 : (c - 1).tmod 2 = (c - 1) % 2 := Int.tmod_eq_emod_of_nonneg (by omega)
  simp only [e1, e2]
  omega
theorem znv {k s : Int} {K : Nat} (hk : 0 ≤ k ∧ k < K) (hK : K ≤ 6) (hs : s = 0 ∨ s = 1) : zaD k s = 1 + 2 * k + s := by
 unfold zaD
 rw [if_pos (by omega)]; omega
theorem zni : ∀ (r : Fin 16) (m : Fin 4), 0 ≤ zbt .i64 (r.val : Int) (2 ^ m.val) ∧ zbt .i64 (r.val : Int) (2 ^ m.val) ≤ (r.val : Int) := by decide
theorem znh {r : Int} {m : Nat} (h0 : 0 ≤ r) (h1 : r < 16) (hm : m < 4) : 0 ≤ zbt .i64 r (2 ^ m) ∧ zbt .i64 r (2 ^ m) ≤ r := by
 have := zni ⟨r.toNat, by omega⟩ ⟨m, hm⟩
 simp only [Int.toNat_of_nonneg h0] at this
 exact this
theorem zi0 {r : Int} (h0 : 0 ≤ r) (h4 : r ≤ 4) : (1 : Int) ≤ 2 ^ r.toNat ∧ (2 : Int) ^ r.toNat ≤ 16 := by
 rcases (show r.toNat = 0 ∨ r.toNat = 1 ∨ r.toNat = 2 ∨ r.toNat = 3 ∨ r.toNat = 4 by omega) with h | h | h | h | h <;> rw [h] <;> decide
theorem zlE {b : zaL} (hb : za2 b) {side d c : Int} : ∀ (f : Nat) (x : Int) (seen : List Int), x < b.cells → (∀ y ∈ seen, 0 ≤ y ∧ y < b.cells) → ∀ y ∈ zd3 b side d c f x seen, 0 ≤ y ∧ y < b.cells
 | 0, x, seen, _, h, y, hy => h y hy
 | f + 1, x, seen, hx, h, y, hy => by
  rw [zd3] at hy
  split at hy
  ·rename_i hc
   refine zlE hb f _ _ (zfQ hb _ _ _) (fun z hz => ?_) y hy
   rcases List.mem_append.1 hz with hz | hz
   ·exact h z hz
   ·simp at hz; omega
  ·exact h y hy
theorem zeF {b : zaL} (hb : za2 b) {side d c : Int} : ∀ y ∈ zfH b side d c, 0 ≤ y ∧ y < b.cells :=
 zlE hb _ _ _ (zfQ hb _ _ _) (by simp)
theorem zlD {b : zaL} {side d c : Int} : ∀ (f : Nat) (x : Int) (seen : List Int), (zd3 b side d c f x seen).length ≤ seen.length + f
 | 0, x, seen => by simp [zd3]
 | f + 1, x, seen => by
  rw [zd3]
  split
  ·have := zlD (b := b) (side := side) (d := d) (c := c) f (toB b side d x) (seen ++ [x])
   simp at this; omega
  ·omega
theorem zjT {b : zaL} {side d c : Int} : (zfH b side d c).length ≤ b.cells.toNat + 1 := by
 have := zlD (b := b) (side := side) (d := d) (c := c) (b.cells.toNat + 1) (toB b side d c) []
 simpa [zfH] using this
theorem POk.setAt {g : zaf} {p : zaj} (h : POk g p) (i : Nat) {v : Int} (hv : 0 ≤ v ∧ v ≤ 2 * g.kinds.length) : POk g { p with at_ := p.at_.set i v } :=
 ⟨by simpa using h.al, fun c hc => by rcases List.mem_or_eq_of_mem_set hc with hc | rfl; exact h.av c hc; exact hv, h.h0, h.h1, h.r0, h.r1, h.s⟩
theorem POk.hand {g : zaf} {p : zaj} (h : POk g p) (side : Int) : zew g (p.hand side) := by unfold zaj.hand; split; exact h.h0; exact h.h1
theorem POk.withHand {g : zaf} {p : zaj} (h : POk g p) (side : Int) {l : List Int} (hl : zew g l) : POk g (p.withHand side l) := by
 unfold zaj.withHand
 split
 ·exact ⟨h.al, h.av, hl, h.h1, h.r0, h.r1, h.s⟩
 ·exact ⟨h.al, h.av, h.h0, hl, h.r0, h.r1, h.s⟩
theorem zew.set {g : zaf} {l : List Int} (h : zew g l) (i : Nat) {v : Int} (hv : 0 ≤ v ∧ v ≤ 8) (hk : 0 < v → (nth g.kinds i).keep = true) : zew g (l.set i v) := by
 refine ⟨by simpa using h.len, fun j hj => ?_⟩
 have hj' : j < l.length := by simpa using hj
 rw [zcl]
 split
 ·rename_i e
  obtain ⟨rfl, _⟩ := e
  exact ⟨hv.1, hv.2, hk⟩
 ·exact h.v j hj'
theorem POk.at {g : zaf} {p : zaj} (h : POk g p) {i : Nat} (hi : (i : Int) < g.cells) : 0 ≤ nth p.at_ i ∧ nth p.at_ i ≤ 2 * g.kinds.length :=
 h.av _ (zan (by have := h.al; omega))
theorem POk.side {g : zaf} {p : zaj} (h : POk g p) {s : Int} (hs : s = 0 ∨ s = 1) : POk g { p with side := s } := ⟨h.al, h.av, h.h0, h.h1, h.r0, h.r1, hs⟩
theorem zmU (p : zaj) (s : Int) (l : List Int) : (p.withHand s l).side = p.side := by unfold zaj.withHand; split <;> rfl
theorem POk.clr {g : zaf} {p : zaj} (h : POk g p) (c : Int) : POk g (clr p c) := h.setAt _ (by omega)
theorem zlZ {g : zaf} {s : StD} (h : zfn g s) : ∀ {l : List Int}, (∀ y ∈ l, 0 ≤ y ∧ y < g.cells) → ∀ t ∈ zbN s l, zfn g t ∧ t.p.side = s.p.side
 | [], _, t, ht => by simp [zbN] at ht
 | c :: l, hl, t, ht => by
  rw [zbN, List.mem_cons] at ht
  rcases ht with rfl | ht
  ·have := hl c (by simp)
   exact ⟨⟨h.p, this.1, this.2, h.k⟩, rfl⟩
  ·split at ht
   ·exact zlZ h (fun y hy => hl y (List.mem_cons_of_mem _ hy)) t ht
   ·simp at ht
theorem zkm {s : StD} : ∀ (l : List Int), (zbN s l).length ≤ l.length
 | [] => by simp [zbN]
 | c :: l => by
  rw [zbN]
  have := zkm (s := s) l
  split <;> simp <;> omega
theorem zhr {g : zaf} (hg : GOk g) {s : StD} (h : zfn g s) {x : Int × Int} (hx : zex g.next.length g.kinds.length g.rights x) : ∀ t ∈ zbV g s x, zfn g t ∧ t.p.side = s.p.side := by
 intro t ht
 have hb := hg.board
 have hcur : (s.cursor.toNat : Int) < g.cells := by have := h.c0; have := h.c1; omega
 have hat := h.p.at hcur
 have only : ∀ {u : StD} {b : Bool}, t ∈ zcQ u b → b = true ∧ t = u := fun {u b} hu => by
  unfold zcQ at hu
  split at hu
  ·rename_i hb'; exact ⟨hb', by simpa using hu⟩
  ·simp at hu
 have hbc : g.board.cells = g.cells := rfl
 unfold zbV at ht
 simp only at ht
 split at ht
 ·obtain ⟨h1, rfl⟩ := only ht
  have := zfQ hb s.p.side x.2 s.cursor
  exact ⟨⟨h.p, by simpa using h1, by rw [hbc] at this; exact this, h.k⟩, rfl⟩
 split at ht
 ·exact zlZ h (fun y hy => zeF hb y hy) t ht
 split at ht
 ·obtain ⟨h1, rfl⟩ := only ht; exact ⟨h, rfl⟩
 split at ht
 ·obtain ⟨h1, rfl⟩ := only ht; exact ⟨h, rfl⟩
 split at ht
 ·obtain ⟨h1, rfl⟩ := only ht; exact ⟨h, rfl⟩
 split at ht
 ·unfold zmS at ht
  simp only at ht
  split at ht
  ·simp at ht
  ·rename_i hm
   split at ht
   ·rename_i hkeep
    split at ht
    ·simp at ht
    ·rename_i h8
     simp only [List.mem_singleton] at ht
     subst ht
     refine ⟨⟨(h.p.clr _).withHand _ ((h.p.hand _).set _ ?_ (fun _ => hkeep)), h.c0, h.c1, h.k⟩, zmU _ _ _⟩
     have hh := h.p.hand s.p.side
     rcases zaS hat.1 hat.2 hg.k6 with ⟨e, e2⟩ | ⟨e, e2, e3, _⟩
     ·rw [e2] at hm; simp at hm
     ·have := hh.v (zaq (nth s.p.at_ s.cursor.toNat)).1.toNat (by rw [hh.len]; omega)
      omega
   ·simp only [List.mem_singleton] at ht
    subst ht
    exact ⟨⟨h.p.clr _, h.c0, h.c1, h.k⟩, rfl⟩
 split at ht
 ·unfold zmN at ht
  simp only at ht
  split at ht
  ·simp at ht
  ·simp only [List.mem_singleton] at ht
   subst ht
   exact ⟨⟨(h.p.setAt _ hat).setAt _ (by omega), h.c0, h.c1, h.k⟩, rfl⟩
 split at ht
 ·rename_i e
  simp only [List.mem_singleton] at ht
  subst ht
  exact ⟨⟨h.p, h.c0, h.c1, hx.kind e⟩, rfl⟩
 split at ht
 ·obtain ⟨h1, rfl⟩ := only ht; exact ⟨h, rfl⟩
 split at ht
 ·rename_i e
  simp only [List.mem_singleton] at ht
  subst ht
  have hr := hx.right (.inr e)
  have hp := zi0 hg.r0 hg.r4
  have a := h.p.r0
  have b := h.p.r1
  have c := hg.r4
  obtain ⟨k1, k2⟩ := znh (r := s.p.rights) (m := x.2.toNat) a (by omega) (by omega)
  exact ⟨⟨⟨h.p.al, h.p.av, h.p.h0, h.p.h1, k1, by simp only; omega, h.p.s⟩, h.c0, h.c1, h.k⟩, rfl⟩
 ·simp only [List.mem_singleton] at ht
  subst ht
  exact ⟨h, rfl⟩
theorem zku {g : zaf} (hg : GOk g) (s : StD) (x : Int × Int) : (zbV g s x).length ≤ 10 := by
 have c9 := hg.c9
 have on : ∀ (u : StD) (b : Bool), (zcQ u b).length ≤ 10 := fun u b => by unfold zcQ; split <;> simp
 unfold zbV
 simp only
 split; exact on _ _
 split
 ·have h1 := zkm (s := s) (zfH g.board s.p.side x.2 s.cursor)
  have h2 := zjT (b := g.board) (side := s.p.side) (d := x.2) (c := s.cursor)
  have : g.board.cells = g.cells := rfl
  unfold zkn; omega
 split; exact on _ _
 split; exact on _ _
 split; exact on _ _
 split
 ·unfold zmS; simp only; (repeat' split) <;> simp
 split
 ·unfold zmN; simp only; (repeat' split) <;> simp
 split; simp
 split; exact on _ _
 split <;> simp
structure zxy (p : List (Int × Int)) : Prop where
 len : p.length ≤ 6
 st : ∀ x ∈ p, 1 ≤ x.1 ∧ x.1 ≤ 10 ∧ 0 ≤ x.2 ∧ (x.1 = 3 ∨ x.1 = 4 ∨ x.1 = 5 ∨ x.1 = 6 → x.2 = 0)
 take : zaI p 6 ≤ 2
 push : zaI p 7 ≤ 1
 become : zaI p 8 ≤ 1
theorem zyh {d e k r : Int} (hd : 0 ≤ d) (he : 0 ≤ e) (hk : 0 ≤ k) (hr : 0 ≤ r) (i : Nat) : zxy (nth (zoL d e k r) i) := by
 have h4 := Int.tmod_nonneg 8 (show 0 ≤ d + 4 by omega)
 rcases Nat.lt_or_ge i 16 with h | h
 ·have : ∀ p ∈ zoL d e k r, zxy p := by
   intro p hp
   simp only [zoL, List.mem_cons, List.not_mem_nil, or_false] at hp
   rcases hp with rfl | rfl | rfl | rfl | rfl | rfl | rfl | rfl | rfl | rfl | rfl | rfl | rfl | rfl | rfl | rfl <;>
    exact ⟨by simp, by simp <;> omega, by simp [zaI], by simp [zaI], by simp [zaI]⟩
  exact this _ (zan h)
 ·have e : nth (zoL d e k r) i = [] := by
   unfold nth
   rw [List.getD_eq_getElem?_getD, List.getElem?_eq_none (by exact h)]; rfl
  rw [e]
  exact ⟨by simp, by simp, by simp [zaI], by simp [zaI], by simp [zaI]⟩
theorem zsf {dirs kinds rights : Int} {x y : Int × Int} (h : zbE dirs kinds rights x = some y) : y.1 = x.1 := by
 unfold zbE at h
 split at h
 ·simp only [Option.some.injEq] at h; rw [← h]
 ·split at h
  ·simp only [Option.some.injEq] at h; rw [← h]
  ·split at h
   ·split at h
    ·cases h
    ·simp only [Option.some.injEq] at h; rw [← h]
   ·simp only [Option.some.injEq] at h; rw [← h]
theorem zfD {dirs kinds rights : Int} (op : Int) : ∀ p : List (Int × Int), zaI (p.filterMap (zbE dirs kinds rights)) op ≤ zaI p op
 | [] => by simp [zaI]
 | x :: p => by
  have ih := zfD (dirs := dirs) (kinds := kinds) (rights := rights) op p
  unfold zaI at *
  rw [List.filterMap_cons]
  cases hf : zbE dirs kinds rights x with
  | none => simp only [List.countP_cons]; omega
  | some y =>
   have := zsf hf
   simp only [List.countP_cons, this]
   omega
theorem zx6 {dirs kinds rights : Int} (hd : 1 ≤ dirs) (hk : 1 ≤ kinds) (hr : 0 ≤ rights) {p : List (Int × Int)} (hp : zxy p) : zm5 dirs kinds rights (zxm dirs kinds rights p) := by
 have h0 : zm5 dirs kinds rights [(3, 0)] := by
  refine ⟨by simp, by simp, fun x hx => ?_, by simp [zaI], by simp [zaI], by simp [zaI]⟩
  simp only [List.mem_singleton] at hx
  subst hx
  exact ⟨by simp, by simp, by simp, by simp, by simp⟩
 unfold zxm
 split
 ·exact h0
 ·rename_i hne
  have hl : (p.filterMap (zbE dirs kinds rights)).length ≤ p.length := List.length_filterMap_le _ _
  have hpos := List.length_pos_iff.2 hne
  refine ⟨by omega, by have := hp.len; omega, fun y hy => ?_, Nat.le_trans (zfD 6 p) hp.take, Nat.le_trans (zfD 7 p) hp.push, Nat.le_trans (zfD 8 p) hp.become⟩
  obtain ⟨x, hx, hf⟩ := List.mem_filterMap.1 hy
  obtain ⟨a, b, c, d⟩ := hp.st x hx
  have m1 := Int.tmod_nonneg dirs c
  have m2 := Int.tmod_lt_of_pos x.2 (show 0 < dirs by omega)
  have m3 := Int.tmod_nonneg kinds c
  have m4 := Int.tmod_lt_of_pos x.2 (show 0 < kinds by omega)
  have m5 := Int.tmod_nonneg rights c
  unfold zbE at hf
  split at hf
  ·simp only [Option.some.injEq] at hf; subst hf
   exact ⟨by simp only; omega, by simp only; omega, by simp only; omega, by simp only; omega, by simp only; omega⟩
  ·split at hf
   ·simp only [Option.some.injEq] at hf; subst hf
    exact ⟨by simp only; omega, by simp only; omega, by simp only; omega, by simp only; omega, by simp only; omega⟩
   ·split at hf
    ·split at hf
     ·cases hf
     ·rename_i hr0
      have m6 := Int.tmod_lt_of_pos x.2 (show 0 < rights by omega)
      simp only [Option.some.injEq] at hf; subst hf
      exact ⟨by simp only; omega, by simp only; omega, by simp only; omega, by simp only; omega, by simp only; omega⟩
    ·simp only [Option.some.injEq] at hf; subst hf
     exact ⟨by omega, by omega, by omega, by omega, by omega⟩
theorem zwG {n dirs kinds rights : Int} (hn : U8 n) (hd : 1 ≤ dirs) (hk : 1 ≤ kinds) (hr : 0 ≤ rights) : zm5 dirs kinds rights (zkW n dirs kinds rights) := by
 obtain ⟨n0, n1⟩ := hn
 have q0 : 0 ≤ n.tdiv 16 := by rw [Int.tdiv_eq_ediv_of_nonneg n0]; omega
 have q1 : 0 ≤ n.tdiv 3 := by rw [Int.tdiv_eq_ediv_of_nonneg n0]; omega
 have q2 := Int.tmod_nonneg 5 n0
 exact zx6 hd hk hr (zyh (Int.tmod_nonneg _ q0) (Int.tmod_nonneg _ (by omega)) (Int.tmod_nonneg _ q1) (Int.tmod_nonneg _ n0) _)
theorem zst (w h cut : Int) (d : Nat) (hd : d < (zeG w h cut).turn.length) : nth (zeG w h cut).turn (nth (zeG w h cut).turn d).toNat = d := by
 have ht : (zeG w h cut).turn = zbR 8 := by unfold zeG; split <;> rfl
 rw [ht] at hd ⊢
 have h8 : d < 8 := by simpa [zbR] using hd
 have : ∀ d : Fin 8, nth (zbR 8) (nth (zbR 8) d.val).toNat = (d.val : Int) := by decide
 exact this ⟨d, h8⟩
theorem zqT {x : zgr} (hx : zjc x) : GOk (zfm x) := by
 have hb : za2 x.board := zid hx.w.1 hx.h.1 x.cut
 have hc := zjV hx.w.1 hx.h.1 x.cut
 have hd : x.board.next.length = 8 := zlH x.w x.h x.cut
 have hK : zcT x = 1 ∨ zcT x = 2 := by unfold zcT; split <;> simp
 have hkl : (zfm x).kinds.length = zcT x := by simp [zfm]
 have r0 : 0 ≤ x.rights := Int.tmod_nonneg 3 hx.f0.1
 have r1 : x.rights < 3 := Int.tmod_lt_of_pos x.f0 (show (0 : Int) < 3 by decide)
 have t : ∀ n : Int, U8 n → 0 ≤ (n.tdiv 4).tmod 3 ∧ (n.tdiv 4).tmod 3 < 3 := fun n hn => by
  have : 0 ≤ n.tdiv 4 := by rw [Int.tdiv_eq_ediv_of_nonneg hn.1]; have := hn.1; omega
  exact ⟨Int.tmod_nonneg 3 this, Int.tmod_lt_of_pos _ (by decide)⟩
 have t3 := t _ hx.f3
 have t4 := t _ hx.f4
 have hcl : x.board.cells = (zfm x).cells := rfl
 have hc' : 1 ≤ x.board.cells ∧ x.board.cells ≤ 9 := hc
 refine ⟨hb, hc'.1, hc'.2, by show 1 ≤ x.board.next.length; omega, by show x.board.next.length ≤ 8; omega, zst x.w x.h x.cut, by omega, by omega, fun k hk => ?_, fun k hk p hp => ?_, r0, ?_, fun c hcm => ?_, ?_, ?_, ?_⟩
 ·obtain ⟨i, _, rfl⟩ := List.mem_map.1 hk
  simp only [zeE, List.length_map, List.length_take]; omega
 ·rw [hkl]
  obtain ⟨i, _, rfl⟩ := List.mem_map.1 hk
  obtain ⟨n, hn, rfl⟩ := List.mem_map.1 hp
  have hn' := List.mem_of_mem_take hn
  have hu : U8 n := by
   unfold zgr.ks at hn'
   split at hn'
   ·exact hx.k0 n hn'
   ·exact hx.k1 n hn'
  exact zwG hu (show (1 : Int) ≤ x.board.next.length by omega) (show (1 : Int) ≤ zcT x by omega) r0
 ·show x.rights ≤ 4; omega
 ·rw [hkl]
  obtain ⟨c0, h0, rfl⟩ := List.mem_map.1 hcm
  obtain ⟨u0, u1, u2⟩ := hx.c _ (List.mem_of_mem_take h0)
  have a0 := Int.tmod_nonneg 3 u0.1
  have a1 := Int.tmod_lt_of_pos c0.1 (show (0 : Int) < 3 by decide)
  have b0 := Int.tmod_nonneg (zcT x : Int) u1.1
  have b1 := Int.tmod_lt_of_pos c0.2.1 (show (0 : Int) < zcT x by omega)
  have d0 := Int.tmod_nonneg x.board.cells u2.1
  have d1 := Int.tmod_lt_of_pos c0.2.2 (show (0 : Int) < x.board.cells by omega)
  have e0 := Int.tmod_nonneg 3 u2.1
  have e1 := Int.tmod_lt_of_pos c0.2.2 (show (0 : Int) < 3 by decide)
  have t0 := t _ u0
  rw [← hcl]
  refine ⟨?_, ?_, ?_, ?_, ?_⟩ <;> simp only [zbl]
  ·omega
  ·split <;> omega
  ·split
   ·omega
   ·split <;> omega
  ·omega
  ·intro h; rw [if_neg (by omega)]
 ·show ((x.c.take 3).map _).length ≤ 6
  simp; omega
 ·show 1 ≤ (if x.f3.tmod 4 = 3 then 1 + (x.f3.tdiv 4).tmod 3 else 3) ∧ (if x.f3.tmod 4 = 3 then 1 + (x.f3.tdiv 4).tmod 3 else 3) ≤ 3
  split <;> omega
 ·show 1 ≤ (if x.f4.tmod 4 = 3 then 1 + (x.f4.tdiv 4).tmod 3 else 2) ∧ (if x.f4.tmod 4 = 3 then 1 + (x.f4.tdiv 4).tmod 3 else 2) ≤ 3
  split <;> omega
abbrev zcn := Int × Int × Int
structure zaZ where
 acts : List zcn
 to : Int
 deriving DecidableEq
instance : Inhabited zaZ := ⟨⟨[], 0⟩⟩
def zaE (a : zcn) : List AV := [.v (.int .i64 a.1), .v (.int .i64 a.2.1), .v (.int .i64 a.2.2)]
def zaV (l : List zcn) : AV := .lst 3 (l.map zaE)
def zap (p : zaZ) : List AV := [zaV p.acts, .v (.int .i64 p.to)]
def zaU (l : List zaZ) : AV := .lst 2 (l.map zap)
def zbx (l : List (List zaZ)) : AV := .lst 1 (l.map fun x => [zaU x])
def za9 (l : List (List (List zaZ))) : AV := .lst 1 (l.map fun x => [zbx x])
abbrev zl6 := List (List (List zaZ)) × List (List (List zaZ))
def zbj (c : zl6) : List AV := [za9 c.1, za9 c.2]
attribute [go_sem] zaE zaV zap zaU zbx za9 zbj
theorem bel_A {n : Nat} {l : List zcn} : (∀ r ∈ l.map zaE, ∀ c ∈ r, Bel n c) = True := by
 refine eq_true ?_
 intro r hr c hc
 obtain ⟨x, _, rfl⟩ := List.mem_map.1 hr
 revert c
 simp [go_sem]
theorem zw9 {n : Nat} {l : List zcn} : Bel n (.lst 3 (l.map zaE)) = True := by rw [zcN, bel_A]
theorem zxd {n : Nat} {l : List zaZ} : (∀ r ∈ l.map zap, ∀ c ∈ r, Bel n c) = True := by
 refine eq_true ?_
 intro r hr c hc
 obtain ⟨x, _, rfl⟩ := List.mem_map.1 hr
 simp only [zap, zaV, List.mem_cons, List.not_mem_nil, or_false] at hc
 rcases hc with rfl | rfl
 ·exact of_eq_true zw9
 ·exact .v _
theorem zhB {n : Nat} {l : List zaZ} : Bel n (.lst 2 (l.map zap)) = True := by rw [zcN, zxd]
theorem zxb {n : Nat} {l : List (List zaZ)} : (∀ r ∈ l.map (fun x => [AV.lst 2 (x.map zap)]), ∀ c ∈ r, Bel n c) = True := by
 refine eq_true ?_
 intro r hr c hc
 obtain ⟨x, _, rfl⟩ := List.mem_map.1 hr
 simp only [List.mem_cons, List.not_mem_nil, or_false] at hc
 subst hc
 exact of_eq_true zhB
theorem ztE {n : Nat} {l : List (List zaZ)} : Bel n (.lst 1 (l.map (fun x => [AV.lst 2 (x.map zap)]))) = True := by rw [zcN, zxb]
theorem zxg {n : Nat} {l : List (List (List zaZ))} : (∀ r ∈ l.map (fun x => [AV.lst 1 (x.map (fun x => [AV.lst 2 (x.map zap)]))]), ∀ c ∈ r, Bel n c) = True := by
 refine eq_true ?_
 intro r hr c hc
 obtain ⟨x, _, rfl⟩ := List.mem_map.1 hr
 simp only [List.mem_cons, List.not_mem_nil, or_false] at hc
 subst hc
 exact of_eq_true ztE
theorem zxQ {n : Nat} {l : List (List (List zaZ))} : Bel n (.lst 1 (l.map (fun x => [AV.lst 1 (x.map (fun x => [AV.lst 2 (x.map zap)]))]))) = True := by rw [zcN, zxg]
attribute [go_sem high] zw9 zhB ztE zxQ
attribute [go_sem ↓] bel_A zxd zxb zxg
def onP (p : zaZ) (to : Int) (more : List zcn) : zaZ := ⟨p.acts ++ more, to⟩
def zcd (p : zaZ) : List Int → List zcn → List zaZ
 | [], _ => []
 | c :: l, passed => onP p c passed :: zcd p l (passed ++ [(3, c, 0)])
def ziS (b : zaL) (side : Int) (p : zaZ) (x : Int × Int) : List zaZ :=
 if x.1 = 1 ∨ x.1 = 7 then
  if toB b side x.2 p.to < 0 then [] else if x.1 = 1 then [onP p (toB b side x.2 p.to) []] else [onP p p.to [(7, p.to, toB b side x.2 p.to)]]
 else if x.1 = 2 then zcd p (zfH b side x.2 p.to) []
 else if x.1 = 8 ∨ x.1 = 9 ∨ x.1 = 10 then [onP p p.to [(x.1, x.2, 0)]]
 else [onP p p.to [(x.1, p.to, 0)]]
def zkt (b : zaL) (side : Int) (now : List zaZ) (x : Int × Int) : List zaZ := now.flatMap fun w => ziS b side w x
def zbB (b : zaL) (side : Int) (prog : List (Int × Int)) (cell : Int) : List zaZ := prog.foldl (zkt b side) [⟨[], cell⟩]
def zbu (b : zaL) (side : Int) (progs : List (List (Int × Int))) (cell : Int) : List zaZ := progs.flatMap fun p => zbB b side p cell
def zfu (b : zaL) (side : Int) (progs : List (List (Int × Int))) : List (List zaZ) := (List.range b.cells.toNat).map fun (c : Nat) => zbu b side progs c
def zby (g : zaf) (side : Int) : List (List (List zaZ)) := g.kinds.map fun k => zfu g.board side k.progs
def zbD (g : zaf) : zl6 := (zby g 0, zby g 1)
theorem ziq {b : zaL} {side d c : Int} : ∀ (f : Nat) (x : Int) (seen : List Int), seen.Nodup → (zd3 b side d c f x seen).Nodup
 | 0, x, seen, h => by simpa [zd3] using h
 | f + 1, x, seen, h => by
  rw [zd3]
  split
  ·rename_i hc
   refine ziq f _ _ (List.nodup_append.2 ⟨h, by simp, ?_⟩)
   intro y hy z hz
   simp at hz
   subst hz
   rintro rfl
   exact hc.2.2 hy
  ·exact h
theorem ziX {b : zaL} (hb : za2 b) {side d c : Int} : (zfH b side d c).length ≤ b.cells.toNat :=
 zf3 _ _ (ziq _ _ _ (by simp)) (fun y hy => by have := zeF hb y hy; have := hb.c0; omega)
theorem zh3 (p : zaZ) : ∀ (l : List Int) (passed : List zcn), (zcd p l passed).length = l.length
 | [], _ => rfl
 | c :: l, passed => by simp [zcd, zh3 p l]
theorem zf8 {p w : zaZ} : ∀ {l : List Int} {passed : List zcn}, w ∈ zcd p l passed → ∃ more, w.acts = p.acts ++ passed ++ more ∧ more.length ≤ l.length ∧ w.to ∈ l ∧ ∀ a ∈ more, ∃ c ∈ l, a = (3, c, 0)
 | [], _, h => by simp [zcd] at h
 | c :: l, passed, h => by
  simp only [zcd, List.mem_cons] at h
  rcases h with rfl | h
  ·exact ⟨[], by simp [onP], by simp, by simp [onP], by simp⟩
  ·obtain ⟨more, h1, h2, h3, h4⟩ := zf8 h
   refine ⟨(3, c, 0) :: more, by rw [h1]; simp, by simp; omega, List.mem_cons_of_mem _ h3, fun a ha => ?_⟩
   rcases List.mem_cons.1 ha with rfl | ha
   ·exact ⟨c, by simp, rfl⟩
   ·obtain ⟨c', hc, e⟩ := h4 a ha
    exact ⟨c', List.mem_cons_of_mem _ hc, e⟩
theorem zwl {b : zaL} (hb : za2 b) (h1 : 1 ≤ b.cells) (side : Int) (p : zaZ) (x : Int × Int) : (ziS b side p x).length ≤ if x.1 = 2 then b.cells.toNat else 1 := by
 unfold ziS
 by_cases h2 : x.1 = 2
 ·rw [if_neg (by omega), if_pos h2, if_pos h2, zh3]
  exact ziX hb
 ·rw [if_neg h2, if_neg h2]
  split
  ·split
   ·simp
   ·split <;> simp
  ·split <;> simp
theorem zhM {α β : Type} (f : α → List β) (m : Nat) : ∀ (l : List α), (∀ x ∈ l, (f x).length ≤ m) → (l.flatMap f).length ≤ l.length * m
 | [], _ => by simp
 | x :: l, h => by
  have a := h x (by simp)
  have b := zhM f m l (fun y hy => h y (by simp [hy]))
  simp only [List.flatMap_cons, List.length_append, List.length_cons, Nat.add_mul, Nat.one_mul]
  omega
theorem zvf {b : zaL} (hb : za2 b) (h1 : 1 ≤ b.cells) (side : Int) (now : List zaZ) (x : Int × Int) : (zkt b side now x).length ≤ now.length * if x.1 = 2 then b.cells.toNat else 1 :=
 zhM _ _ _ (fun w _ => zwl hb h1 side w x)
theorem znX {b : zaL} (hb : za2 b) (h1 : 1 ≤ b.cells) (side : Int) : ∀ (prog : List (Int × Int)) (now : List zaZ), (prog.foldl (zkt b side) now).length ≤ now.length * b.cells.toNat ^ zaI prog 2
 | [], now => by simp [zaI]
 | x :: prog, now => by
  have h := znX hb h1 side prog (zkt b side now x)
  have k := zvf hb h1 side now x
  rw [List.foldl_cons]
  refine Nat.le_trans h ?_
  refine Nat.le_trans (Nat.mul_le_mul_right _ k) ?_
  unfold zaI at *
  rw [List.countP_cons, Nat.mul_assoc]
  refine Nat.mul_le_mul_left _ ?_
  by_cases h2 : x.1 = 2
  ·simp [h2, Nat.pow_succ, Nat.mul_comm]
  ·simp [h2]
theorem zhY {b : zaL} (hb : za2 b) (h1 : 1 ≤ b.cells) (side : Int) (prog : List (Int × Int)) (cell : Int) : (zbB b side prog cell).length ≤ b.cells.toNat ^ zaI prog 2 := by
 have := znX hb h1 side prog [⟨[], cell⟩]
 simpa [zbB] using this
def zh6 (n : Nat) (l : List zaZ) : Prop := ∀ w ∈ l, w.acts.length ≤ n
theorem zub {b : zaL} (hb : za2 b) (h9 : b.cells ≤ 9) (side : Int) (p : zaZ) (x : Int × Int) : zh6 (p.acts.length + 10) (ziS b side p x) := by
 intro w hw
 unfold ziS at hw
 split at hw
 ·split at hw
  ·simp at hw
  ·split at hw <;> simp only [List.mem_singleton] at hw <;> subst hw <;> simp [onP]
 ·split at hw
  ·obtain ⟨more, e1, e2, _, _⟩ := zf8 hw
   have := ziX hb (side := side) (d := x.2) (c := p.to)
   rw [e1]; simp; omega
  ·split at hw <;> simp only [List.mem_singleton] at hw <;> subst hw <;> simp [onP]
theorem zsW {b : zaL} (hb : za2 b) (h9 : b.cells ≤ 9) (side : Int) {n : Nat} {now : List zaZ} (hn : zh6 n now) (x : Int × Int) : zh6 (n + 10) (zkt b side now x) := by
 intro w hw
 obtain ⟨p, hp, hw⟩ := List.mem_flatMap.1 hw
 have := zub hb h9 side p x w hw
 have := hn p hp
 omega
def zdf (cells kinds rights : Int) (a : zcn) : Prop :=
 (3 ≤ a.1 ∧ a.1 ≤ 6 ∧ (0 ≤ a.2.1 ∧ a.2.1 < cells) ∧ a.2.2 = 0) ∨ (a.1 = 7 ∧ (0 ≤ a.2.1 ∧ a.2.1 < cells) ∧ (0 ≤ a.2.2 ∧ a.2.2 < cells)) ∨
 (a.1 = 8 ∧ (0 ≤ a.2.1 ∧ a.2.1 < kinds) ∧ a.2.2 = 0) ∨ ((a.1 = 9 ∨ a.1 = 10) ∧ (0 ≤ a.2.1 ∧ a.2.1 < rights) ∧ a.2.2 = 0)
def za0 (l : List zcn) (op : Int) : Nat := l.countP (fun a => a.1 == op)
structure zk5 (cells kinds rights : Int) (w : zaZ) (t p b : Nat) : Prop where
 to : 0 ≤ w.to ∧ w.to < cells
 acts : ∀ a ∈ w.acts, zdf cells kinds rights a
 take : za0 w.acts 6 ≤ t
 push : za0 w.acts 7 ≤ p
 become : za0 w.acts 8 ≤ b
theorem zbG (l m : List zcn) (op : Int) : za0 (l ++ m) op = za0 l op + za0 m op := by simp [za0]
theorem zih {l : List Int} {m : List zcn} (h : ∀ a ∈ m, ∃ c ∈ l, a = (3, c, 0)) {op : Int} (ho : op ≠ 3) : za0 m op = 0 := by
 unfold za0
 rw [List.countP_eq_zero]
 intro a ha
 obtain ⟨c, _, rfl⟩ := h a ha
 simpa using ho.symm
theorem zdN (a : zcn) (op : Int) : za0 [a] op = if a.1 = op then 1 else 0 := by simp [za0, List.countP_cons]
def zsm (x : Int × Int) (op : Int) : Nat := if x.1 = op then 1 else 0
theorem zx5 {b : zaL} (hb : za2 b) {kinds rights : Int} {side : Int} {w : zaZ} {t p be : Nat} (hw : zk5 b.cells kinds rights w t p be) {x : Int × Int} (hx : zex b.next.length kinds rights x) :
  ∀ v ∈ ziS b side w x, zk5 b.cells kinds rights v (t + zsm x 6) (p + zsm x 7) (be + zsm x 8) := by
 intro v hv
 obtain ⟨w1, w2, w3, w4, w5⟩ := hw
 obtain ⟨x1, x2, x3, x4, x5⟩ := hx
 have ht := zfQ hb side x.2 w.to
 unfold ziS at hv
 unfold zsm
 split at hv
 ·rename_i h17
  split at hv
  ·simp at hv
  ·split at hv
   ·simp only [List.mem_singleton] at hv
    subst hv
    refine ⟨by simp only [onP]; omega, by simpa [onP] using w2, ?_, ?_, ?_⟩ <;> simp only [onP, List.append_nil] <;> omega
   ·have e7 : x.1 = 7 := by omega
    simp only [List.mem_singleton] at hv
    subst hv
    refine ⟨w1, fun a ha => ?_, ?_, ?_, ?_⟩
    ·simp only [onP, List.mem_append, List.mem_singleton] at ha
     rcases ha with ha | rfl
     ·exact w2 a ha
     ·exact .inr (.inl ⟨rfl, w1, by simp only; omega⟩)
    all_goals simp only [onP, zbG, zdN, e7]; simp only [show ((7 : Int) = 6) = False by decide, show ((7 : Int) = 8) = False by decide, if_true, if_false]; omega
 ·split at hv
  ·rename_i h2
   obtain ⟨more, e1, e2, e3, e4⟩ := zf8 hv
   rw [List.append_nil] at e1
   refine ⟨zeF hb _ e3, fun a ha => ?_, ?_, ?_, ?_⟩
   ·rw [e1, List.mem_append] at ha
    rcases ha with ha | ha
    ·exact w2 a ha
    ·obtain ⟨c, hc, rfl⟩ := e4 a ha
     exact .inl ⟨by simp, by simp, zeF hb _ hc, rfl⟩
   all_goals rw [e1, zbG, zih e4 (by omega)]; omega
  ·split at hv
   ·rename_i h17 h2 h8
    simp only [List.mem_singleton] at hv
    subst hv
    refine ⟨w1, fun a ha => ?_, ?_, ?_, ?_⟩
    ·simp only [onP, List.mem_append, List.mem_singleton] at ha
     rcases ha with ha | rfl
     ·exact w2 a ha
     ·rcases h8 with h | h | h
      ·exact .inr (.inr (.inl ⟨h, x4 h, rfl⟩))
      ·exact .inr (.inr (.inr ⟨.inl h, x5 (.inl h), rfl⟩))
      ·exact .inr (.inr (.inr ⟨.inr h, x5 (.inr h), rfl⟩))
    all_goals simp only [onP, zbG, zdN]; omega
   ·rename_i h17 h2 h8
    simp only [List.mem_singleton] at hv
    subst hv
    refine ⟨w1, fun a ha => ?_, ?_, ?_, ?_⟩
    ·simp only [onP, List.mem_append, List.mem_singleton] at ha
     rcases ha with ha | rfl
     ·exact w2 a ha
     ·exact .inl ⟨by simp only; omega, by simp only; omega, w1, rfl⟩
    all_goals simp only [onP, zbG, zdN]; omega
theorem zqO {b : zaL} (hb : za2 b) {kinds rights : Int} {side : Int} : ∀ {prog : List (Int × Int)} {now : List zaZ} {t p be : Nat}, (∀ w ∈ now, zk5 b.cells kinds rights w t p be) → (∀ x ∈ prog, zex b.next.length kinds rights x) →
  ∀ w ∈ prog.foldl (zkt b side) now, zk5 b.cells kinds rights w (t + zaI prog 6) (p + zaI prog 7) (be + zaI prog 8)
 | [], now, t, p, be, h, _, w, hw => by simpa [zaI] using h w hw
 | x :: prog, now, t, p, be, h, hx, w, hw => by
  rw [List.foldl_cons] at hw
  have := zqO hb (side := side) (prog := prog) (now := zkt b side now x) (t := t + zsm x 6) (p := p + zsm x 7) (be := be + zsm x 8) (fun v hv => by
   obtain ⟨u, hu, hv⟩ := List.mem_flatMap.1 hv
   exact zx5 hb (h u hu) (hx x (by simp)) v hv) (fun y hy => hx y (by simp [hy])) w hw
  have e : ∀ op, zaI (x :: prog) op = zaI prog op + zsm x op := fun op => by simp [zaI, List.countP_cons, zsm]
  rw [e, e, e]
  simpa [Nat.add_assoc, Nat.add_comm, Nat.add_left_comm] using this
theorem zu2 {b : zaL} (hb : za2 b) {kinds rights side : Int} {prog : List (Int × Int)} (hp : ∀ x ∈ prog, zex b.next.length kinds rights x) {cell : Int} (hc : 0 ≤ cell ∧ cell < b.cells) :
  ∀ w ∈ zbB b side prog cell, zk5 b.cells kinds rights w (zaI prog 6) (zaI prog 7) (zaI prog 8) := by
 intro w hw
 have := zqO hb (side := side) (kinds := kinds) (rights := rights) (prog := prog) (now := [⟨[], cell⟩]) (t := 0) (p := 0) (be := 0) (fun v hv => by
  simp only [List.mem_singleton] at hv
  subst hv
  exact ⟨hc, by simp, by simp [za0], by simp [za0], by simp [za0]⟩) hp w hw
 simpa using this
theorem zf1 {g : zaf} (hg : GOk g) {side : Int} {k : zgp} (hk : k ∈ g.kinds) {cell : Int} (hc : 0 ≤ cell ∧ cell < g.cells) : ∀ w ∈ zbu g.board side k.progs cell, zk5 g.cells g.kinds.length g.rights w 2 1 1 := by
 intro w hw
 obtain ⟨p, hp, hw⟩ := List.mem_flatMap.1 hw
 have ok := hg.pr k hk p hp
 obtain ⟨a, b, c, d, e⟩ := zu2 hg.board (side := side) ok.st hc w hw
 exact ⟨a, b, Nat.le_trans c ok.take, Nat.le_trans d ok.push, Nat.le_trans e ok.become⟩
theorem zeO {α : Type} (f : α → Nat) (m : Nat) : ∀ l : List α, (∀ x ∈ l, f x ≤ m) → (l.map f).sum ≤ l.length * m
 | [], _ => by simp
 | x :: l, h => by
  have := zeO f m l (fun y hy => h y (by simp [hy]))
  have := h x (by simp)
  simp [Nat.add_mul]; omega
def zbg (g : zaf) : Prop := ∀ k ∈ g.kinds, ∀ p ∈ k.progs, zaI p 2 ≤ 1
end Go.Av
end
section
/- Our library, part 17: calls of functions that are given objects of ours and turn them. -/
namespace Go.Av
open Go

mutual
inductive Rn (σ : Nat → Nat) : AV → AV → Prop
 | same {x : AV} (h : Bel 0 x) : Rn σ x x
 | ref {o o' g sz i off : Nat} (h : o' = σ o) : Rn σ (.ref o g sz i off) (.ref o' g sz i off)
 | sl {o o' g sz i len : Nat} (h : o' = σ o) : Rn σ (.sl o g sz i len) (.sl o' g sz i len)
 | agg {xs ys : List AV} (h : RnL σ xs ys) : Rn σ (.agg xs) (.agg ys)
 | tup {xs ys : List AV} (h : RnL σ xs ys) : Rn σ (.tup xs) (.tup ys)
 | fn {f : Fn} {a b a' b' : List AV} (h : RnL σ a a') (h' : RnL σ b b') : Rn σ (.fn f a b) (.fn f a' b')
inductive RnL (σ : Nat → Nat) : List AV → List AV → Prop
 | nil : RnL σ [] []
 | cons {x y : AV} {xs ys : List AV} (h : Rn σ x y) (t : RnL σ xs ys) : RnL σ (x :: xs) (y :: ys)
end
inductive zs9 (σ : Nat → Nat) : List (List AV) → List (List AV) → Prop
 | same {rs : List (List AV)} (h : ∀ r ∈ rs, ∀ c ∈ r, Bel 0 c) : zs9 σ rs rs
 | nil : zs9 σ [] []
 | cons {x y : List AV} {xs ys : List (List AV)} (h : RnL σ x y) (t : zs9 σ xs ys) : zs9 σ (x :: xs) (y :: ys)
inductive RnO (σ : Nat → Nat) : zbz → zbz → Prop
 | rows {mt : Bool} {g sz : Nat} {rs rs' : List (List AV)} (h : zs9 σ rs rs') : RnO σ (.rows mt g sz rs) (.rows mt g sz rs')
inductive RnH (σ : Nat → Nat) : List (Nat × zbz) → List (Nat × zbz) → Prop
 | nil : RnH σ [] []
 | cons {o o' : Nat} {x y : zbz} {l l' : List (Nat × zbz)} (e : o' = σ o) (h : RnO σ x y) (t : RnH σ l l') : RnH σ ((o, x) :: l) ((o', y) :: l')
section
variable {σ : Nat → Nat} {φ φ' : zaA} {w : World} {M M' : Nat → Prop}
theorem Rn.rel (hφ : ∀ o, φ' (σ o) = φ o) (hM : ∀ k, M' k → M k) {x y : AV} (hs : Rn σ x y) : ∀ {v : Value}, Rel φ w M x v → Rel φ' w M' y v := by
 refine Rn.rec (σ := σ) (motive_1 := fun x y _ => ∀ {v : Value}, Rel φ w M x v → Rel φ' w M' y v) (motive_2 := fun xs ys _ => ∀ {vs : List Value}, zaN φ w M xs vs → zaN φ' w M' ys vs)
  ?_ ?_ ?_ ?_ ?_ ?_ ?_ ?_ hs
 ·intro x hb v hx; exact hx.closed hM hb
 ·intro o o' g sz i off e v hx
  subst e
  cases hx with | ref ho hg h => exact .ref (by rw [hφ]; exact ho) hg h
 ·intro o o' g sz i len e v hx
  subst e
  cases hx with | sl ho hg h => exact .sl (by rw [hφ]; exact ho) hg h
 ·intro xs ys _ ih v hx
  cases hx with | agg hv h => exact .agg hv (ih h)
 ·intro xs ys _ ih v hx
  cases hx with | tup h => exact .tup (ih h)
 ·intro f a b a' b' _ _ ih1 ih2 v hx
  cases hx with | fn h1 h2 => exact .fn (ih1 h1) (ih2 h2)
 ·intro vs hx; cases hx; exact .nil
 ·intro x y xs ys _ _ ih1 ih2 vs hx
  cases hx with | cons h t => exact .cons (ih1 h) (ih2 t)
theorem Rn.back {m : Nat} (hφ : ∀ o, o < m → φ o = φ' (σ o)) (hM : ∀ k, M k → M' k) {x y : AV} (hs : Rn σ x y) : Bel m x → ∀ {v : Value}, Rel φ' w M' y v → Rel φ w M x v := by
 refine Rn.rec (σ := σ) (motive_1 := fun x y _ => Bel m x → ∀ {v : Value}, Rel φ' w M' y v → Rel φ w M x v) (motive_2 := fun xs ys _ => (∀ c ∈ xs, Bel m c) → ∀ {vs : List Value}, zaN φ' w M' ys vs → zaN φ w M xs vs)
  ?_ ?_ ?_ ?_ ?_ ?_ ?_ ?_ hs
 ·intro x hb _ v hx; exact hx.closed hM hb
 ·intro o o' g sz i off e hb v hx
  subst e
  cases hb with | ref hb => cases hx with | ref ho hg h => exact .ref (by rw [hφ _ hb]; exact ho) hg h
 ·intro o o' g sz i len e hb v hx
  subst e
  cases hb with | sl hb => cases hx with | sl ho hg h => exact .sl (by rw [hφ _ hb]; exact ho) hg h
 ·intro xs ys _ ih hb v hx
  cases hb with | agg hb => cases hx with | agg hv h => exact .agg hv (ih hb h)
 ·intro xs ys _ ih hb v hx
  cases hb with | tup hb => cases hx with | tup h => exact .tup (ih hb h)
 ·intro f a b a' b' _ _ ih1 ih2 hb v hx
  cases hb with | fn hb hb' => cases hx with | fn h1 h2 => exact .fn (ih1 hb h1) (ih2 hb' h2)
 ·intro _ vs hx; cases hx; exact .nil
 ·intro x y xs ys _ _ ih1 ih2 hb vs hx
  cases hx with | cons h t => exact .cons (ih1 (hb _ (by simp)) h) (ih2 (fun c hc => hb c (by simp [hc])) t)
theorem RnL.rel (hφ : ∀ o, φ' (σ o) = φ o) (hM : ∀ k, M' k → M k) : ∀ {xs ys : List AV} {vs : List Value}, RnL σ xs ys → zaN φ w M xs vs → zaN φ' w M' ys vs
 | [], _, _, .nil, .nil => .nil
 | _ :: _, _, _, .cons h t, .cons h' t' => .cons (h.rel hφ hM h') (t.rel hφ hM t')
theorem RnL.back {m : Nat} (hφ : ∀ o, o < m → φ o = φ' (σ o)) (hM : ∀ k, M k → M' k) : ∀ {xs ys : List AV} {vs : List Value}, RnL σ xs ys → (∀ c ∈ xs, Bel m c) → zaN φ' w M' ys vs → zaN φ w M xs vs
 | [], _, _, .nil, _, .nil => .nil
 | _ :: _, _, _, .cons h t, hb, .cons h' t' => .cons (h.back hφ hM (hb _ (by simp)) h') (t.back hφ hM (fun c hc => hb c (by simp [hc])) t')
theorem RnL.length : ∀ {xs ys : List AV}, RnL σ xs ys → ys.length = xs.length
 | [], _, .nil => rfl
 | _ :: _, _, .cons _ t => by simp [t.length]
theorem zs9.rel (hφ : ∀ o, φ' (σ o) = φ o) (hM : ∀ k, M' k → M k) {xs ys : List (List AV)} (hs : zs9 σ xs ys) :
  ∀ {vs : List Value}, zaN φ w M xs.flatten vs → zaN φ' w M' ys.flatten vs := by
 induction hs with
 | same h =>
  intro vs hx
  refine zy0 hx.length fun k hk hk' => (hx.get k hk hk').closed hM ?_
  obtain ⟨r, hr, hc⟩ := List.mem_flatten.1 (List.getElem_mem hk)
  exact h r hr _ hc
 | nil => intro vs hx; cases hx; exact .nil
 | cons h _ ih =>
  intro vs hx
  rw [List.flatten_cons] at hx ⊢
  obtain ⟨us, ts, rfl, h1, h2⟩ := hx.split
  exact (h.rel hφ hM h1).append (ih h2)
theorem zs9.back {m : Nat} (hφ : ∀ o, o < m → φ o = φ' (σ o)) (hM : ∀ k, M k → M' k) {xs ys : List (List AV)} (hs : zs9 σ xs ys) :
  (∀ r ∈ xs, ∀ c ∈ r, Bel m c) → ∀ {vs : List Value}, zaN φ' w M' ys.flatten vs → zaN φ w M xs.flatten vs := by
 induction hs with
 | same h =>
  intro _ vs hx
  refine zy0 hx.length fun k hk hk' => (hx.get k hk hk').closed hM ?_
  obtain ⟨r, hr, hc⟩ := List.mem_flatten.1 (List.getElem_mem hk)
  exact h r hr _ hc
 | nil => intro _ vs hx; cases hx; exact .nil
 | cons h _ ih =>
  intro hb vs hx
  rw [List.flatten_cons] at hx ⊢
  obtain ⟨us, ts, rfl, h1, h2⟩ := hx.split
  exact (h.back hφ hM (hb _ (by simp)) h1).append (ih (fun r hr => hb r (by simp [hr])) h2)
theorem zs9.shape {xs ys : List (List AV)} (hs : zs9 σ xs ys) : ys.length = xs.length ∧ (∀ sz, (∀ r ∈ xs, r.length = sz) → ∀ r ∈ ys, r.length = sz) ∧ ∀ sz, (∀ r ∈ ys, r.length = sz) → ∀ r ∈ xs, r.length = sz := by
 induction hs with
 | same h => exact ⟨rfl, fun _ h => h, fun _ h => h⟩
 | nil => exact ⟨rfl, fun _ h => h, fun _ h => h⟩
 | cons h _ ih =>
  refine ⟨by simp [ih.1], fun sz hr r hm => ?_, fun sz hr r hm => ?_⟩
  ·rcases List.mem_cons.1 hm with rfl | hm
   ·rw [h.length]; exact hr _ (by simp)
   ·exact ih.2.1 sz (fun r hr' => hr r (by simp [hr'])) r hm
  ·rcases List.mem_cons.1 hm with rfl | hm
   ·rw [← h.length]; exact hr _ (by simp)
   ·exact ih.2.2 sz (fun r hr' => hr r (by simp [hr'])) r hm
theorem RnH.at {l l' : List (Nat × zbz)} (hinj : ∀ a b, σ a = σ b → a = b) (hs : RnH σ l l') {o : Nat} {y : zbz} (ho : mkH l' o = some y) : ∃ o0 x, o = σ o0 ∧ mkH l o0 = some x ∧ RnO σ x y := by
 induction hs with
 | nil => cases ho
 | @cons o1 o1' x1 y1 l l' e1 h _ ih =>
  simp only [mkH, upd] at ho ⊢
  split at ho
  ·rename_i e
   cases ho
   exact ⟨o1, x1, e.trans e1, by simp, h⟩
  ·rename_i e
   obtain ⟨o0, x, rfl, h1, h2⟩ := ih ho
   refine ⟨o0, x, rfl, ?_, h2⟩
   rw [if_neg (fun h => e (by rw [h, e1]))]; exact h1
end
def ren (rs : List Nat) (n : Nat) (j : Nat) : Nat := if j < rs.length then rs.getD j 0 else n + (j - rs.length)
def zlU : List Nat → zav → zav
 | [], h => h
 | o :: l, h => upd (zlU l h) o none
theorem zu8 (h : zav) : ∀ (l : List Nat) (o : Nat), zlU l h o = if o ∈ l then none else h o
 | [], o => by simp [zlU]
 | a :: l, o => by
  simp only [zlU, upd, List.mem_cons]
  by_cases e : o = a
  ·simp [e]
  ·simp [e, zu8 h l o]
theorem zhZ {rs : List Nat} {n j : Nat} (h : j < rs.length) : ren rs n j ∈ rs := by
 unfold ren; rw [if_pos h, List.getD_eq_getElem?_getD, List.getElem?_eq_getElem h]; exact List.getElem_mem h
theorem zyp {rs : List Nat} {n : Nat} (hd : rs.Nodup) (hlt : ∀ o ∈ rs, o < n) : ∀ a b, ren rs n a = ren rs n b → a = b := by
 intro a b he
 by_cases ha : a < rs.length <;> by_cases hb : b < rs.length
 ·unfold ren at he
  rw [if_pos ha, if_pos hb, List.getD_eq_getElem?_getD, List.getD_eq_getElem?_getD, List.getElem?_eq_getElem ha, List.getElem?_eq_getElem hb] at he
  exact (List.getElem_inj hd).1 (by simpa using he)
 ·have h1 := hlt _ (zhZ (n := n) ha)
  rw [he] at h1
  unfold ren at h1
  rw [if_neg hb] at h1; omega
 ·have h1 := hlt _ (zhZ (n := n) hb)
  rw [← he] at h1
  unfold ren at h1
  rw [if_neg ha] at h1; omega
 ·unfold ren at he
  rw [if_neg ha, if_neg hb] at he; omega
def ziC (P : Program) (f : FuncId) (args : List AV) (HA : List (Nat × zbz)) (m : Nat) (R0 : AV) (H0 : List (Nat × zbz)) (k2 : Nat) : Prop :=
 zaa P f args (mkH HA) m (fun r h n' => Wk (fun _ => r) h n' [(0, R0)] H0 k2)
theorem zy2 {P : Program} {f : FuncId} {args args' args0 : List AV} {h : zav} {n m k2 : Nat} {K : zc0} {R0 R : AV} {HA H0 HH : List (Nat × zbz)} (rs : List Nat) (h' : zav)
  (hp : ziC P f args0 HA m R0 H0 k2) (hd : rs.Nodup) (hlt : ∀ o ∈ rs, o < n) (hm : rs.length = m) (hmk : m ≤ k2) (hfz : Frz h h')
  (hA : ∀ j, j < m → ∃ x y, mkH HA j = some x ∧ h' (ren rs n j) = some y ∧ RnO (ren rs n) x y) (hAb : ∀ p ∈ HA, p.1 < m ∧ zxt m p.2)
  (hle : zai h h' n args args') (hb' : ∀ c ∈ args', Bel n c) (hargs0 : RnL (ren rs n) args0 args') (hb0 : ∀ c ∈ args0, Bel m c)
  (hR : Rn (ren rs n) R0 R) (hHH : RnH (ren rs n) H0 HH) (hk : K R (zd7 HH (zlU rs h')) (n + (k2 - m))) : zaa P f args h n K := by
 refine ⟨hp.1, fun M0 φ w vs hH hargs => ?_⟩
 obtain ⟨hH', st0⟩ := hH.freeze hfz
 have hσ := zyp hd hlt
 have hmt : ∀ o g sz rs, h' o = some (.rows true g sz rs) → h o = some (.rows true g sz rs) := by
  intro o g sz rs ho
  rcases hfz o with h1 | ⟨g1, sz1, rs1, h1, h2⟩
  ·rw [← h1]; exact ho
  ·rw [h2] at ho; cases ho
 have hmut0 : ∀ k, Mut φ h' k → Mut φ h k := by
  rintro k ⟨o, g, sz, rs, g', a, bs, ho, hp, rfl⟩
  exact ⟨o, g, sz, rs, g', a, bs, hmt _ _ _ _ ho, hp, rfl⟩
 have hv : zaN φ w (Or M0 (Mut φ h')) args' vs := by
  refine zai.rel (φ' := φ) (n' := n) hH (fun {x v} _ hx => hx.keep φ.le_refl (fun _ _ _ => rfl) (fun k hk => .inl (hk.imp id (hmut0 k)))) ?_ (fun o g sz h1 _ h2 => by omega) hle hb' hargs
  rintro o mt g sz rs a bs ho hp ho' h0 (hk | ⟨o', g', sz', rs', g'', a', bs', ho1, hp1, he⟩)
  ·exact h0 hk
  ·have hne : o' ≠ o := fun e => by subst e; exact ho' _ _ _ ho1
   have ho0 := hmt _ _ _ _ ho1
   have hg : g'' = g' := by
    obtain ⟨A2, hA2, _⟩ := hH.obj _ _ _ _ _ ho0
    rw [hp1] at hA2
    simp only [Option.some.injEq, Prod.mk.injEq] at hA2
    exact hA2.1
   subst hg
   exact hH.inj _ _ _ _ _ _ _ _ _ _ _ _ _ _ ho0 ho hne (.inl rfl) hp1 hp he
 let hr : zav := fun o => if o ∈ rs then none else h' o
 have hrmut : ∀ k, Mut φ hr k → Mut φ h' k := by
  rintro k ⟨o, g, sz, rs1, g', a, bs, ho, hp, rfl⟩
  simp only [hr] at ho
  split at ho
  ·cases ho
  ·exact ⟨o, g, sz, rs1, g', a, bs, ho, hp, rfl⟩
 let M1 : Nat → Prop := Or M0 (Mut φ hr)
 let φ0 : zaA := fun j => if j < m then φ (ren rs n j) else none
 have hφ0 : ∀ j, j < m → φ0 j = φ (ren rs n j) := fun j hj => if_pos hj
 have hgiv : ∀ j mt g sz rws, mkH HA j = some (.rows mt g sz rws) → j < m ∧ ∃ rws', h' (ren rs n j) = some (.rows mt g sz rws') ∧ zs9 (ren rs n) rws rws' ∧ ∀ r ∈ rws, ∀ c ∈ r, Bel m c := by
  intro j mt g sz rws hj
  have hjm := hAb _ (zet hj)
  obtain ⟨x, y, h1, h2, h3⟩ := hA j hjm.1
  rw [hj] at h1
  cases h1
  cases h3 with
  | rows h3 => exact ⟨hjm.1, _, h2, h3, hjm.2⟩
 have hgmut : ∀ k, Mut φ0 (mkH HA) k → ∃ j, j < m ∧ ∃ g sz rws g' a bs, h' (ren rs n j) = some (.rows true g sz rws) ∧ φ (ren rs n j) = some (g', some (a, bs)) ∧ a.block = k := by
  rintro k ⟨j, g, sz, rws, g', a, bs, ho, hp, rfl⟩
  obtain ⟨hj, rws', h1, _⟩ := hgiv _ _ _ _ _ ho
  rw [hφ0 j hj] at hp
  exact ⟨j, hj, g, sz, rws', g', a, bs, h1, hp, rfl⟩
 have hgmut' : ∀ k, Mut φ0 (mkH HA) k → Mut φ h' k := fun k hk => by
  obtain ⟨j, _, g, sz, rws, g', a, bs, h1, h2, h3⟩ := hgmut k hk
  exact ⟨_, g, sz, rws, g', a, bs, h1, h2, h3⟩
 have hgen : ∀ {o mt g sz rws g' A}, h' o = some (.rows mt g sz rws) → φ o = some (g', A) → g' = g := by
  intro o mt g sz rws g' A ho hp
  obtain ⟨A2, hA2, _⟩ := hH'.obj _ _ _ _ _ ho
  rw [hp] at hA2
  simp only [Option.some.injEq, Prod.mk.injEq] at hA2
  exact hA2.1
 have hM1 : ∀ k, Or M1 (Mut φ0 (mkH HA)) k → Or M0 (Mut φ h') k := by
  rintro k ((hk | hk) | hk)
  ·exact .inl hk
  ·exact .inr (hrmut k hk)
  ·exact .inr (hgmut' k hk)
 have hH1 : zgP φ0 m w M1 (mkH HA) := by
  refine ⟨fun k hk => hH'.blk (hk.imp id (hrmut k)), fun o ho => if_neg (by omega), fun j mt g sz rws hj => ?_, fun o o' mt g sz rws mt' g' sz' rws' a a' b b' ho ho' hne hmm hp hp' => ?_, hH'.glob.keep (fun _ _ _ => rfl) (fun k hk => .inl (hM1 k hk))⟩
  ·obtain ⟨hjm, rws', h1, h2, h3⟩ := hgiv _ _ _ _ _ hj
   obtain ⟨A, hA1, hc⟩ := hH'.obj _ _ _ _ _ h1
   refine ⟨A, by rw [hφ0 j hjm]; exact hA1, hc.imp (fun h => ⟨h.1, ?_⟩) ?_⟩
   ·obtain ⟨_, rfl⟩ := h
    exact List.eq_nil_of_length_eq_zero h2.shape.1.symm
   ·rintro ⟨a, bs, c1, c3, hd⟩
    refine ⟨a, bs, c1, ?_, hd.turn rfl h2.shape.1.symm (h2.shape.2.2 sz) (fun c9 => h2.back hφ0 hM1 h3 c9)⟩
    ·rintro (hk | ⟨o', g1, sz1, rs1, g1', a', bs', ho1, hp1, he⟩)
     ·exact c3 hk
     ·simp only [hr] at ho1
      split at ho1
      ·cases ho1
      ·rename_i hni
       obtain rfl := hgen ho1 hp1
       subst c1
       exact hH'.inj _ _ _ _ _ _ _ _ _ _ _ _ _ _ ho1 h1 (fun e => hni (e ▸ zhZ (by omega))) (.inl rfl) hp1 hA1 he
  ·obtain ⟨hj, r1, h1, _⟩ := hgiv _ _ _ _ _ ho
   obtain ⟨hj', r1', h1', _⟩ := hgiv _ _ _ _ _ ho'
   rw [hφ0 o hj] at hp
   rw [hφ0 o' hj'] at hp'
   exact hH'.inj _ _ _ _ _ _ _ _ _ _ _ _ _ _ h1 h1' (fun e => hne (hσ _ _ e)) hmm hp hp'
 have hargs1 : zaN φ0 w (Or M1 (Mut φ0 (mkH HA))) args0 vs := hargs0.back hφ0 hM1 hb0 hv
 refine (hp.2 _ φ0 w vs hH1 hargs1).mono ?_
 rintro e w' ⟨v, φ1, r, h1, n', rfl, hK, hH2, hx, st⟩
 obtain ⟨φ2, hH3, hx3, hm3, hst⟩ := hK.sound hH2 (tmps := fun _ => v) (fun _ => hx)
 have hx3 := hx3 0
 simp only [mkE, zaB] at hx3
 have hlater : ∀ j x, j < m → φ (ren rs n j) = some x → ∃ x', φ2 j = some x' ∧ x.1 ≤ x'.1 ∧ (x'.1 = x.1 → x' = x) := by
  intro j x hj hx
  obtain ⟨x', h1, h2, h3⟩ := st.le j x (by rw [hφ0 j hj]; exact hx)
  exact ⟨x', hst j x' (by omega) h1, h2, h3⟩
 let φ3 : zaA := fun o => if o ∈ rs then φ2 (rs.idxOf o) else if o < n then φ o else φ2 (o - n + m)
 have hidx : ∀ j, j < m → rs.idxOf (ren rs n j) = j := by
  intro j hj
  have h1 := List.idxOf_lt_length_of_mem (zhZ (rs := rs) (n := n) (j := j) (by omega))
  refine hσ _ _ ?_
  have h2 := List.getElem_idxOf h1
  unfold ren at h1 h2 ⊢
  rw [if_pos h1, List.getD_eq_getElem?_getD, List.getElem?_eq_getElem h1]
  exact h2
 have e3 : ∀ o, φ3 (ren rs n o) = φ2 o := by
  intro o
  by_cases ho : o < m
  ·simp only [φ3]
   rw [if_pos (zhZ (by omega)), hidx o ho]
  ·have hge : ren rs n o = n + (o - m) := by unfold ren; rw [if_neg (by omega), hm]
   simp only [φ3]
   rw [hge, if_neg (fun hmem => by have := hlt _ hmem; omega), if_neg (by omega)]
   congr 1; omega
 have e3' : ∀ o, o < n → o ∉ rs → φ3 o = φ o := fun o ho hni => by simp only [φ3]; rw [if_neg hni, if_pos ho]
 have hltn : ∀ o x, φ o = some x → o < n := fun o x ho => Nat.lt_of_not_le fun hle => by rw [hH.fresh o hle] at ho; cases ho
 have hren : ∀ o, o ∈ rs → ∃ j, j < m ∧ o = ren rs n j := by
  intro o ho
  obtain ⟨j, hj, rfl⟩ := List.getElem_of_mem ho
  exact ⟨j, by omega, by unfold ren; rw [if_pos hj, List.getD_eq_getElem?_getD, List.getElem?_eq_getElem hj]; rfl⟩
 have hle3 : φ.le φ3 := by
  intro o x ho
  by_cases hmem : o ∈ rs
  ·obtain ⟨j, hj, rfl⟩ := hren o hmem
   rw [e3]; exact hlater j x hj ho
  ·exact ⟨x, by rw [e3' o (hltn _ _ ho) hmem]; exact ho, Nat.le_refl _, fun _ => rfl⟩
 have hheap : ∀ k, k < w.heap.size → ¬ Mut φ0 (mkH HA) k → w'.heap[k]? = w.heap[k]? := fun k hk hn => st.fr.block k hk hn
 have hsrc : ∀ o y, zd7 HH (zlU rs h') o = some y → (∃ o0 x, o = ren rs n o0 ∧ mkH H0 o0 = some x ∧ RnO (ren rs n) x y) ∨ (o < n ∧ o ∉ rs ∧ h' o = some y) := by
  intro o x ho
  rw [zgB] at ho
  split at ho
  ·rename_i y hy
   cases ho
   exact .inl (hHH.at hσ hy)
  ·rw [zu8] at ho
   split at ho
   ·cases ho
   ·rename_i hni
    cases x with
    | rows mt g sz rws =>
     obtain ⟨A, hA, _⟩ := hH'.obj _ _ _ _ _ ho
     exact .inr ⟨hltn _ _ hA, hni, ho⟩
 have hmut : ∀ k, Mut φ3 (zd7 HH (zlU rs h')) k → Mut φ2 (mkH H0) k ∨ Mut φ hr k := by
  rintro k ⟨o, g, sz, rws, g', a, bs, ho, hp, rfl⟩
  rcases hsrc o _ ho with ⟨o0, x, rfl, h1, h2⟩ | ⟨h1, hni, h2⟩
  ·cases h2 with
   | rows h2 => rw [e3] at hp; exact .inl ⟨o0, g, sz, _, g', a, bs, h1, hp, rfl⟩
  ·rw [e3' o h1 hni] at hp
   exact .inr ⟨o, g, sz, rws, g', a, bs, by simp only [hr]; rw [if_neg hni]; exact h2, hp, rfl⟩
 have hmnew : ∀ k, Mut φ2 (mkH H0) k → Mut φ0 (mkH HA) k ∨ w.heap.size ≤ k := fun k hk => st.mutd k (hm3 k hk)
 have hsub : ∀ k, Or M0 (Mut φ3 (zd7 HH (zlU rs h'))) k → Or M1 (Mut φ2 (mkH H0)) k := fun k hk => hk.elim (fun h => .inl (.inl h)) fun h => (hmut k h).elim .inr fun h => .inl (.inr h)
 have hmutd : ∀ k, Mut φ3 (zd7 HH (zlU rs h')) k → Mut φ h' k ∨ w.heap.size ≤ k := fun k hk =>
  (hmut k hk).elim (fun h => (hmnew k h).imp (hgmut' k) id) fun h => .inl (hrmut k h)
 have hsub' : ∀ k, Or M0 (Mut φ3 (zd7 HH (zlU rs h'))) k → Or M0 (Mut φ h') k ∨ w.heap.size ≤ k := fun k hk => hk.elim (fun h => .inl (.inl h)) fun h => (hmutd k h).imp .inr id
 have hblk : ∀ o x g' a bs, h' o = some x → φ o = some (g', some (a, bs)) → a.block < w.heap.size := by
  intro o x g' a bs ho hp
  cases x with
  | rows mt g sz rws =>
   obtain ⟨A, hA, hc⟩ := hH'.obj _ _ _ _ _ ho
   rw [hp] at hA
   simp only [Option.some.injEq, Prod.mk.injEq] at hA
   obtain ⟨rfl, rfl⟩ := hA
   rcases hc with ⟨h, _⟩ | ⟨a', bs', h, _, h2⟩
   ·cases h
   ·simp only [Option.some.injEq, Prod.mk.injEq] at h
    obtain ⟨rfl, rfl⟩ := h
    exact h2.blk
 have hkeep : ∀ o mt g sz rws g' a bs, o ∉ rs → h' o = some (.rows mt g sz rws) → φ o = some (g', some (a, bs)) → ¬ Mut φ0 (mkH HA) a.block := by
  intro o mt g sz rws g' a bs hni ho hp hk
  obtain ⟨j, hj, g1, sz1, rws1, g1', a1, bs1, q1, q2, q3⟩ := hgmut _ hk
  obtain rfl := hgen ho hp
  obtain rfl := hgen q1 q2
  exact hH'.inj _ _ _ _ _ _ _ _ _ _ _ _ _ _ q1 ho (fun e => hni (e ▸ zhZ (by omega))) (.inl rfl) q2 hp q3
 have hfar : ∀ o0 mt g sz rws g' a bs o' y g1 a' b', mkH H0 o0 = some (.rows mt g sz rws) → φ2 o0 = some (g', some (a, bs)) → o' ∉ rs → h' o' = some y → φ o' = some (g1, some (a', b')) →
   (mt = true ∨ ∃ g sz rs, y = .rows true g sz rs) → a.block ≠ a'.block := by
  intro o0 mt g sz rws g' a bs o' y g1 a' b' q1 q2 hni q3 q4 hmm
  have hb1 := hblk _ _ _ _ _ q3 q4
  rcases hmm with rfl | ⟨g2, sz2, rs2, rfl⟩
  ·rcases hmnew a.block ⟨o0, g, sz, rws, _, a, bs, q1, q2, rfl⟩ with hk | hk
   ·intro he
    cases y with
    | rows mt1 g1' sz1 rws1 => exact hkeep _ _ _ _ _ _ _ _ hni q3 q4 (he ▸ hk)
   ·omega
  ·intro he
   obtain ⟨A, hA, hc⟩ := hH3.obj _ _ _ _ _ q1
   rw [q2] at hA
   simp only [Option.some.injEq, Prod.mk.injEq] at hA
   obtain ⟨_, rfl⟩ := hA
   rcases hc with ⟨h, _⟩ | ⟨a1, bs1, h, hn0, _⟩
   ·cases h
   ·simp only [Option.some.injEq, Prod.mk.injEq] at h
    obtain ⟨rfl, rfl⟩ := h
    exact hn0 (.inr ⟨o', g2, sz2, rs2, _, a', b', by simp only [hr]; rw [if_neg hni]; exact q3, q4, he.symm⟩)
 refine ⟨v, φ3, R, zd7 HH (zlU rs h'), n + (k2 - m), rfl, hk, ⟨fun k hk => Nat.lt_of_lt_of_le (hH.m0 k hk) st.fr.size, fun o ho => ?_, fun o mt g sz rws ho => ?_, fun o o' mt g sz rws mt' g' sz' rws' a a' b b' ho ho' hne hmm hp hp' => ?_,
   hH'.glob.keep (fun k hn hk => hheap k hk (fun hg => hn (.inr (hgmut' k hg)))) hsub'⟩,
  hR.rel e3 hsub hx3, st0.trans ⟨hle3, hsub', ⟨st.fr.os, st.fr.tape, st.fr.output, st.fr.drawn, st.fr.size, fun k hk hn => hheap k hk (fun hg => hn (hgmut' k hg))⟩, hmutd⟩⟩
 ·have h1 : ren rs n (o - n + m) = o := by unfold ren; rw [if_neg (by omega)]; omega
  rw [← h1, e3]; exact hH3.fresh _ (by omega)
 ·rcases hsrc o _ ho with ⟨o0, x, rfl, h1, h2⟩ | ⟨h1, hni, h2⟩
  ·cases h2 with
   | rows hs =>
    obtain ⟨A, hA, hc⟩ := hH3.obj _ _ _ _ _ h1
    refine ⟨A, by rw [e3]; exact hA, hc.imp (fun h => ⟨h.1, ?_⟩) ?_⟩
    ·obtain ⟨_, rfl⟩ := h
     exact List.eq_nil_of_length_eq_zero hs.shape.1
    ·rintro ⟨a, bs, c1, c3, hd⟩
     exact ⟨a, bs, c1, fun hk => c3 (.inl hk), hd.turn rfl hs.shape.1 (hs.shape.2.1 sz) (fun c9 => hs.rel e3 hsub c9)⟩
  ·obtain ⟨A, hA, hc⟩ := hH'.obj _ _ _ _ _ h2
   refine ⟨A, by rw [e3' o h1 hni]; exact hA, hc.imp id ?_⟩
   rintro ⟨a, bs, c1, c3, hd⟩
   exact ⟨a, bs, c1, c3, hd.keep (hheap _ hd.blk (hkeep _ _ _ _ _ _ _ _ hni h2 (by rw [hA, c1]))) (fun c9 => c9.keep hle3 (fun k hn hk => hheap k hk (fun hg => hn (.inr (hgmut' k hg)))) hsub')⟩
 ·rcases hsrc o _ ho with ⟨o0, x, rfl, q1, q2⟩ | ⟨q1, qn, q2⟩ <;> rcases hsrc o' _ ho' with ⟨o0', x', rfl, q1', q2'⟩ | ⟨q1', qn', q2'⟩
  ·cases q2; cases q2'
   rw [e3] at hp hp'
   exact hH3.inj _ _ _ _ _ _ _ _ _ _ _ _ _ _ q1 q1' (fun e => hne (by rw [e])) hmm hp hp'
  ·cases q2
   rw [e3] at hp; rw [e3' o' q1' qn'] at hp'
   exact hfar _ _ _ _ _ _ _ _ _ _ _ _ _ q1 hp qn' q2' hp' (hmm.imp id fun h => by subst h; exact ⟨_, _, _, rfl⟩)
  ·cases q2'
   rw [e3' o q1 qn] at hp; rw [e3] at hp'
   exact Ne.symm (hfar _ _ _ _ _ _ _ _ _ _ _ _ _ q1' hp' qn q2 hp (hmm.symm.imp id fun h => by subst h; exact ⟨_, _, _, rfl⟩))
  ·rw [e3' o q1 qn] at hp; rw [e3' o' q1' qn'] at hp'
   exact hH'.inj _ _ _ _ _ _ _ _ _ _ _ _ _ _ q2 q2' hne hmm hp hp'
theorem Bel.mono {n m : Nat} (hnm : n ≤ m) {x : AV} (h : Bel n x) : Bel m x := by
 induction h with
 | top => exact .top
 | v x => exact .v x
 | agg _ ih => exact .agg ih
 | tup _ ih => exact .tup ih
 | lst _ ih => exact .lst ih
 | fp _ ih => exact .fp ih
 | ref h => exact .ref (by omega)
 | sl h => exact .sl (by omega)
 | mp h => exact .mp (by omega)
 | fn _ _ ih1 ih2 => exact .fn ih1 ih2
 | gd _ ih => exact .gd ih
theorem zzn {P : Program} {n : Nat} {ops : List Oper} {Q : zbX} {m i : Nat} {rest : List Oper} {e : Env} {h : zav} {acc : List zfh} {dst : Option Tmp} {f : FuncId} {first caps args args0 : List AV} {R0 R : AV} {o : Nat} {mt : Bool} {g g' sz : Nat} {rws rws' : List (List AV)}
  (hp : ziC P f args0 [(0, .rows mt g sz rws)] 1 R0 [(0, .rows true g' sz rws')] 1) (ho : h o = some (.rows mt g sz rws)) (hcl : ∀ r ∈ rws, ∀ c ∈ r, Bel 0 c) (hcl' : ∀ r ∈ rws', ∀ c ∈ r, Bel 0 c)
  (hargs : ∀ n₁, RnL (ren [o] n₁) args0 (first ++ args ++ caps)) (hb0 : ∀ c ∈ args0, Bel 1 c) (hb : ∀ n₁, o < n₁ → ∀ c ∈ first ++ args ++ caps, Bel n₁ c)
  (hR : ∀ n₁, Rn (ren [o] n₁) R0 R) (hfl : zqj R ∨ ∃ g sz i len, R = .sl o g sz i len)
  (hk : adr P n ops Q m (i + 1) rest (put e dst R) (upd h o (some (.rows true g' sz rws'))) (acc ++ [([o], [o])])) : zay P n ops Q m i rest dst (.fn (.func f) first caps) args e h acc := by
 refine ⟨R, [o], [(o, some (.rows true g' sz rws'))], .inr (.inr (.inl ⟨f, first, caps, rfl, ?_, ?_, ?_, fun h₁ n₁ hx hn => ?_⟩)), hk⟩
 ·intro o' ho'
  simp only [List.mem_singleton] at ho'
  subst ho'
  exact ⟨_, ho⟩
 ·intro p hp
  simp only [List.mem_singleton] at hp
  subst hp
  exact ⟨by simp, g', sz, rws', rfl, hcl'⟩
 ·exact hfl.imp id fun ⟨g, sz, i, len, h⟩ => ⟨o, g, sz, i, len, h, by simp⟩
 ·have hon := hn o (by simp)
  have r0 : ren [o] n₁ 0 = o := rfl
  refine zy2 (args' := first ++ args ++ caps) (HH := [(o, .rows true g' sz rws')]) [o] h₁ hp (by simp) (by simpa using hon) rfl (Nat.le_refl _) (.refl _) ?_ ?_ (.refl _ _ _ _) (hb n₁ hon) (hargs n₁) hb0 (hR n₁)
   (.cons r0.symm (.rows (.same hcl')) .nil) ⟨rfl, ?_, rfl⟩
  ·intro j hj
   obtain rfl : j = 0 := by omega
   exact ⟨.rows mt g sz rws, .rows mt g sz rws, by simp [mkH, zaB], by rw [r0, ← hx o (by simp)]; exact ho, .rows (.same hcl)⟩
  ·intro p hp
   simp only [List.mem_singleton] at hp
   subst hp
   refine ⟨by simp, fun r hr c hc => ?_⟩
   exact Bel.mono (Nat.zero_le _) (hcl r hr c hc)
  ·funext a
   simp only [zd7, zlU, zao, upd]
   split <;> rfl
theorem zy9 {P : Program} {n : Nat} {ops : List Oper} {Q : zbX} {m i : Nat} {rest : List Oper} {e : Env} {h : zav} {acc : List zfh} {dst : Option Tmp} {f : FuncId} {first caps args args' : List AV} {R : Nat → AV} {HH : Nat → List (Nat × zbz)} {k2 : Nat}
  (b : Nat) (hbb : b = n + ops.length + 16 * i) (hp : zgf P f args' R HH k2) (hk16 : k2 ≤ 16) (hnR : zgQ (R 0)) (hnH : ∀ p ∈ HH 0, zm3 p.2) (hle : ∀ h₁ : zav, zai h₁ noH 0 (first ++ args ++ caps) args') (hb : ∀ c ∈ args', Bel 0 c)
  (hnd : ((HH b).map (·.1)).Nodup) (hk : adr P n ops Q m (i + 1) rest (put e dst (R b)) (zd7 (HH b) h) (acc ++ [([zc8], (HH b).map (·.1))])) : zay P n ops Q m i rest dst (.fn (.func f) first caps) args e h acc := by
 subst hbb
 refine ⟨R _, [zc8], (HH (n + ops.length + 16 * i)).map (fun p => (p.1, some p.2)), .inr (.inr (.inr ⟨f, first, caps, args', R 0, HH 0, HH (n + ops.length + 16 * i), k2, rfl, by simp, hk16, hb, hp.1, hnR, hnH, (hp.2 _).1, (hp.2 _).2, hnd, rfl, fun h₁ _ => hle h₁⟩)), ?_⟩
 rw [zeU hnd, List.map_map]
 exact hk
theorem zzk {P : Program} {n : Nat} {ops : List Oper} {Q : zbX} {m i : Nat} {rest : List Oper} {e : Env} {h : zav} {acc : List zfh} {dst : Option Tmp} {f : FuncId} {first caps args args' : List AV} {R : Nat → AV} {HH : Nat → List (Nat × zbz)} {k2 : Nat}
  (S : List Nat) (b : Nat) (hbb : b = n + ops.length + 16 * i) (hp : zgf P f args' R HH k2) (hk16 : k2 ≤ 16) (hnR : zgQ (R 0)) (hnH : ∀ p ∈ HH 0, zm3 p.2) (hle : ∀ h₁ : zav, (∀ o ∈ S, h o = h₁ o) → zai h₁ noH 0 (first ++ args ++ caps) args') (hb : ∀ c ∈ args', Bel 0 c)
  (hnd : ((HH b).map (·.1)).Nodup) (hk : adr P n ops Q m (i + 1) rest (put e dst (R b)) (zd7 (HH b) h) (acc ++ [(zc8 :: S, (HH b).map (·.1))])) : zay P n ops Q m i rest dst (.fn (.func f) first caps) args e h acc := by
 subst hbb
 refine ⟨R _, zc8 :: S, (HH (n + ops.length + 16 * i)).map (fun p => (p.1, some p.2)), .inr (.inr (.inr ⟨f, first, caps, args', R 0, HH 0, HH (n + ops.length + 16 * i), k2, rfl, by simp, hk16, hb, hp.1, hnR, hnH, (hp.2 _).1, (hp.2 _).2, hnd, rfl, fun h₁ h2 => hle h₁ fun o ho => h2 o (List.mem_cons_of_mem _ ho)⟩)), ?_⟩
 rw [zeU hnd, List.map_map]
 exact hk
end Go.Av
end
section
open Go Go.Proofs
namespace Go.Av
theorem zqr (l : List StD) : zev l [] = l := rfl
theorem ztn (l more : List StD) (s : StD) : zev l (more ++ [s]) = if s ∈ zev l more then zev l more else zev l more ++ [s] := by
 unfold zev; rw [List.foldl_append]; rfl
theorem znd (l more : List StD) {i : Nat} (h : i < more.length) : zev l (more.take (i + 1)) = if nth more i ∈ zev l (more.take i) then zev l (more.take i) else zev l (more.take i) ++ [nth more i] := by
 rw [List.take_add_one, List.getElem?_eq_getElem h, zaJ _ _ h, Option.toList_some, ztn]
theorem zgU : ∀ (more l : List StD), l.length ≤ (zev l more).length ∧ (zev l more).length ≤ l.length + more.length
 | [], l => by simp [zev]
 | s :: more, l => by
  have e : zev l (s :: more) = zev (if s ∈ l then l else l ++ [s]) more := rfl
  rw [e]
  by_cases h : s ∈ l
  ·have := zgU more l
   rw [if_pos h]; simp; omega
  ·have := zgU more (l ++ [s])
   rw [if_neg h]; simp at this ⊢; omega
theorem ziM {P : StD → Prop} : ∀ {more l : List StD}, (∀ s ∈ l, P s) → (∀ s ∈ more, P s) → ∀ s ∈ zev l more, P s
 | [], l, h, _ => h
 | s :: more, l, h, h' => by
  have e : zev l (s :: more) = zev (if s ∈ l then l else l ++ [s]) more := rfl
  rw [e]
  refine ziM (fun t ht => ?_) (fun t ht => h' t (List.mem_cons_of_mem _ ht))
  split at ht
  ·exact h t ht
  ·rcases List.mem_append.1 ht with ht | ht
   ·exact h t ht
   ·simp at ht; subst ht; exact h' _ (by simp)
def zbO (g : zaf) (p : zaj) (cell : Int) (prog : List (Int × Int)) (n : Nat) : List StD := (prog.take n).foldl (zgA g) [zeL p cell]
theorem zgK (g : zaf) (p : zaj) (cell : Int) (prog : List (Int × Int)) : zbO g p cell prog 0 = [zeL p cell] := rfl
theorem zgJ (g : zaf) (p : zaj) (cell : Int) (prog : List (Int × Int)) {n : Nat} (h : n < prog.length) : zbO g p cell prog (n + 1) = zgA g (zbO g p cell prog n) (nth prog n) := by
 unfold zbO
 rw [List.take_add_one, List.getElem?_eq_getElem h, zaJ _ _ h, Option.toList_some, List.foldl_append]; rfl
theorem zgI (g : zaf) (p : zaj) (cell : Int) (prog : List (Int × Int)) : zbO g p cell prog prog.length = zeq g p cell prog := by
 unfold zbO zeq; rw [List.take_length]
def zda (g : zaf) (now : List StD) (x : Int × Int) (n : Nat) : List StD := (now.take n).foldl (fun next s => zev next (zbV g s x)) []
theorem zlS (g : zaf) (now : List StD) (x : Int × Int) : zda g now x 0 = [] := rfl
theorem zhV (g : zaf) (now : List StD) (x : Int × Int) {n : Nat} (h : n < now.length) : zda g now x (n + 1) = zev (zda g now x n) (zbV g (nth now n) x) := by
 unfold zda
 rw [List.take_add_one, List.getElem?_eq_getElem h, zaJ _ _ h, Option.toList_some, List.foldl_append]; rfl
theorem zkb (g : zaf) (now : List StD) (x : Int × Int) : zda g now x now.length = zgA g now x := by
 unfold zda zgA; rw [List.take_length]
theorem zmL {g : zaf} (hg : GOk g) {now : List StD} {x : Int × Int} (hx : zex g.next.length g.kinds.length g.rights x) {side : Int} (hn : ∀ s ∈ now, zfn g s ∧ s.p.side = side) :
  ∀ n, n ≤ now.length → (∀ s ∈ zda g now x n, zfn g s ∧ s.p.side = side) ∧ (zda g now x n).length ≤ 10 * n := by
 intro n
 induction n with
 | zero => intro _; simp [zda]
 | succ n ih =>
  intro h
  obtain ⟨h1, h2⟩ := ih (by omega)
  have hs := hn _ (zan (show n < now.length by omega))
  rw [zhV g now x (by omega)]
  refine ⟨ziM h1 (fun s hs' => ?_), ?_⟩
  ·obtain ⟨k1, k2⟩ := zhr hg hs.1 hx s hs'
   exact ⟨k1, k2.trans hs.2⟩
  ·have k1 := (zgU (zbV g (nth now n) x) (zda g now x n)).2
   have k2 := zku hg (nth now n) x
   omega
theorem zkq {g : zaf} (hg : GOk g) {p : zaj} (hp : POk g p) {cell : Int} (h0 : 0 ≤ cell) (h1 : cell < g.cells) (hm : 0 ≤ (zaq (nth p.at_ cell.toNat)).1) : zfn g (zeL p cell) ∧ (zeL p cell).p.side = p.side := by
 have hat := hp.at (i := cell.toNat) (by omega)
 have hk := zaS hat.1 hat.2 hg.k6
 refine ⟨⟨hp.clr _, h0, h1, ?_⟩, rfl⟩
 simp only [zeL]
 rcases hk with ⟨_, e⟩ | ⟨_, a, b, _⟩
 ·rw [e] at hm; simp at hm
 ·exact ⟨a, b⟩
theorem zhq {g : zaf} (hg : GOk g) {p : zaj} (hp : POk g p) {cell : Int} (h0 : 0 ≤ cell) (h1 : cell < g.cells) (hm : 0 ≤ (zaq (nth p.at_ cell.toNat)).1)
  {prog : List (Int × Int)} (hpr : ∀ x ∈ prog, zex g.next.length g.kinds.length g.rights x) :
  ∀ n, n ≤ prog.length → (∀ s ∈ zbO g p cell prog n, zfn g s ∧ s.p.side = p.side) ∧ (zbO g p cell prog n).length ≤ 10 ^ n := by
 intro n
 induction n with
 | zero => intro _; rw [zgK]; exact ⟨fun s hs => by simp at hs; subst hs; exact zkq hg hp h0 h1 hm, by simp⟩
 | succ n ih =>
  intro h
  obtain ⟨k1, k2⟩ := ih (by omega)
  rw [zgJ g p cell prog (by omega), ← zkb]
  obtain ⟨j1, j2⟩ := zmL hg (hpr _ (zan (show n < prog.length by omega))) k1 _ (Nat.le_refl _)
  refine ⟨j1, ?_⟩
  rw [Nat.pow_succ]
  omega
theorem ziZ {n : Nat} (h : n ≤ 8) : 10 ^ n ≤ 100000000 := by
 have := Nat.pow_le_pow_right (n := 10) (by omega) h
 exact this
def stR (g : zaf) (p : zaj) (cell : Int) (prog : List (Int × Int)) (n : Nat) : List (List AV) := (List.range n).map fun j => [zaO (zbO g p cell prog j)]
@[go_sem] theorem zqb (g : zaf) (p : zaj) (cell : Int) (prog : List (Int × Int)) (n : Nat) : (stR g p cell prog n).length = n := by simp [stR]
@[go_sem ↓] theorem bel_stR {m : Nat} {g : zaf} {p : zaj} {cell : Int} {prog : List (Int × Int)} {n : Nat} : (∀ r ∈ stR g p cell prog n, ∀ c ∈ r, Bel m c) = True := by
 refine eq_true fun r hr c hc => ?_
 obtain ⟨j, _, rfl⟩ := List.mem_map.1 hr
 simp only [List.mem_cons, List.not_mem_nil, or_false] at hc
 subst hc
 exact of_eq_true zpj
structure zci (g : zaf) (p : zaj) (cell i : Int) : Prop where
 c0 : 0 ≤ cell
 c1 : cell < g.cells
 man : 0 ≤ (zaq (nth p.at_ cell.toNat)).1
 side : (zaq (nth p.at_ cell.toNat)).2 = p.side
 i0 : 0 ≤ i
 i1 : i < (nth g.kinds (zaq (nth p.at_ cell.toNat)).1.toNat).progs.length
structure TkD where
 p : zaj
 kind : Int
 took : Bool
 deriving DecidableEq
instance : Inhabited TkD := ⟨⟨default, 0, false⟩⟩
def zgM (g : zaf) (side : Int) (t : TkD) (a : Int) : TkD × Bool :=
 let m := zaq (nth t.p.at_ a.toNat)
 if m.2 ≠ 1 - side then (t, false) else
 if (nth g.kinds m.1.toNat).keep = true then
  (⟨(clr t.p a).withHand side ((t.p.hand side).set m.1.toNat (nth (t.p.hand side) m.1.toNat + 1)), t.kind, true⟩, decide (nth (t.p.hand side) m.1.toNat + 1 ≤ 8))
 else (⟨clr t.p a, t.kind, true⟩, true)
def zgE (t : TkD) (a b : Int) : TkD × Bool :=
 if nth t.p.at_ a.toNat = 0 ∨ nth t.p.at_ b.toNat ≠ 0 then (t, false)
 else (⟨{ t.p with at_ := (t.p.at_.set b.toNat (nth t.p.at_ a.toNat)).set a.toNat 0 }, t.kind, t.took⟩, true)
def doA (g : zaf) (side : Int) (t : TkD) (x : zcn) : TkD × Bool :=
 if x.1 = 3 then (t, decide (nth t.p.at_ x.2.1.toNat = 0))
 else if x.1 = 4 then (t, decide ((zaq (nth t.p.at_ x.2.1.toNat)).2 = 1 - side))
 else if x.1 = 5 then (t, decide ((zaq (nth t.p.at_ x.2.1.toNat)).2 = side))
 else if x.1 = 6 then zgM g side t x.2.1
 else if x.1 = 7 then zgE t x.2.1 x.2.2
 else if x.1 = 8 then (⟨t.p, x.2.1, t.took⟩, true)
 else if x.1 = 9 then (t, decide (zhA .i64 (t.p.rights.fdiv (2 ^ x.2.1.toNat)) 1 = 1))
 else if x.1 = 10 then (⟨{ t.p with rights := zbt .i64 t.p.rights (2 ^ x.2.1.toNat) }, t.kind, t.took⟩, true)
 else (t, true)
def zdY (g : zaf) (side : Int) : TkD → List zcn → Option TkD
 | t, [] => some t
 | t, x :: l => if (doA g side t x).2 = true then zdY g side (doA g side t x).1 l else none
theorem zeZ (g : zaf) (side : Int) : ∀ (l m : List zcn) (t : TkD), zdY g side t (l ++ m) = (zdY g side t l).bind fun t => zdY g side t m
 | [], m, t => rfl
 | x :: l, m, t => by
  simp only [List.cons_append, zdY]
  split
  ·exact zeZ g side l m _
  ·rfl
def stT (t : TkD) (c : Int) : StD := ⟨t.p, t.kind, c, t.took⟩
def stW (g : zaf) (side : Int) (t : TkD) (w : zaZ) : Option StD := (zdY g side t w.acts).map fun t => stT t w.to
theorem zmO (g : zaf) (side : Int) (t : TkD) (w : zaZ) (to : Int) (more : List zcn) :
  stW g side t (onP w to more) = ((zdY g side t w.acts).bind fun t => zdY g side t more).map fun t => stT t to := by
 unfold stW onP
 rw [zeZ]
theorem zt0 (g : zaf) (side : Int) (t : TkD) (c : Int) : doA g side t (3, c, 0) = (t, decide (nth t.p.at_ c.toNat = 0)) := by simp [doA]
theorem zh4 {g : zaf} {side : Int} {t : TkD} {w : zaZ} : ∀ {l : List Int} {passed : List zcn}, ((zdY g side t w.acts).bind fun t => zdY g side t passed) = none → (zcd w l passed).filterMap (stW g side t) = []
 | [], _, _ => rfl
 | c :: l, passed, h => by
  rw [zcd, List.filterMap_cons, zmO, h]
  refine zh4 ?_
  cases hd : zdY g side t w.acts with
  | none => rfl
  | some u =>
   rw [hd] at h
   simp only [Option.bind_some] at h ⊢
   rw [zeZ, h]; rfl
theorem zl0 {g : zaf} {side : Int} {t u : TkD} {w : zaZ} (hd : zdY g side t w.acts = some u) : ∀ {l : List Int} {passed : List zcn}, zdY g side u passed = some u →
  (zcd w l passed).filterMap (stW g side t) = zbN (stT u w.to) l
 | [], _, _ => rfl
 | c :: l, passed, h => by
  rw [zcd, List.filterMap_cons, zmO, hd, Option.bind_some, h, zbN]
  simp only [Option.map_some]
  congr 1
  have he : zdY g side u (passed ++ [(3, c, 0)]) = if nth u.p.at_ c.toNat = 0 then some u else none := by
   rw [zeZ, h, Option.bind_some]
   simp only [zdY, zt0, decide_eq_true_eq]
  show _ = if nth u.p.at_ c.toNat = 0 then _ else _
  split
  ·rename_i h0
   rw [if_pos h0] at he
   exact zl0 hd he
  ·rename_i h0
   rw [if_neg h0] at he
   refine zh4 ?_
   rw [hd, Option.bind_some, he]
theorem zud {g : zaf} {side : Int} {t : TkD} {w : zaZ} (h : zdY g side t w.acts = none) (x : Int × Int) : (ziS g.board side w x).filterMap (stW g side t) = [] := by
 have ho : ∀ to more, stW g side t (onP w to more) = none := fun to more => by rw [zmO, h]; rfl
 unfold ziS
 split
 ·split
  ·rfl
  ·split <;> simp [ho]
 ·split
  ·exact zh4 (by rw [h]; rfl)
  ·split <;> simp [ho]
theorem znM {g : zaf} (hg : GOk g) {side : Int} {t u : TkD} {w : zaZ} (hd : zdY g side t w.acts = some u) (hs : zfn g (stT u w.to)) (hside : u.p.side = side) {x : Int × Int}
  (hx : zex g.next.length g.kinds.length g.rights x) : (ziS g.board side w x).filterMap (stW g side t) = zbV g (stT u w.to) x := by
 have ho : ∀ to more, stW g side t (onP w to more) = (zdY g side u more).map fun t => stT t to := fun to more => by rw [zmO, hd]; rfl
 have one : ∀ to a, stW g side t (onP w to [a]) = if (doA g side u a).2 = true then some (stT (doA g side u a).1 to) else none := fun to a => by
  rw [ho]; simp only [zdY]; split <;> rfl
 have hsl := hs.p.s
 have hat := hs.p.at (i := w.to.toNat) (by have := hs.c0; have := hs.c1; simp only [stT] at *; omega)
 have hm := zaS hat.1 hat.2 hg.k6
 have hto := zfQ hg.board side x.2 w.to
 have ht := hx.op
 simp only [stT] at hsl hat hm
 rw [hside] at hsl
 unfold zbV ziS
 simp only [show (stT u w.to).p = u.p from rfl, show (stT u w.to).cursor = w.to from rfl, hside]
 by_cases h1 : x.1 = 1
 ·simp only [h1, true_or, if_true]
  by_cases hn : toB g.board side x.2 w.to < 0
  ·rw [if_pos hn, show decide (0 ≤ toB g.board side x.2 w.to) = false by simpa using hn]; rfl
  ·rw [if_neg hn, show decide (0 ≤ toB g.board side x.2 w.to) = true by simpa using hn]
   simp only [List.filterMap_cons, ho, zdY, Option.map_some, List.filterMap_nil, zcQ, if_true, stT]
 by_cases h7 : x.1 = 7
 ·simp only [h7, or_true, if_true, show ((7 : Int) = 1) = False by decide, show ((7 : Int) = 2) = False by decide, show ((7 : Int) = 3) = False by decide, show ((7 : Int) = 4) = False by decide,
   show ((7 : Int) = 5) = False by decide, show ((7 : Int) = 6) = False by decide, if_false, zmN]
  simp only [show (stT u w.to).p = u.p from rfl, show (stT u w.to).cursor = w.to from rfl, hside]
  by_cases hn : toB g.board side x.2 w.to < 0
  ·rw [if_pos hn, if_pos (.inr (.inl hn))]; rfl
  ·rw [if_neg hn]
   simp only [List.filterMap_cons, List.filterMap_nil, one, doA, show ((7 : Int) = 3) = False by decide, show ((7 : Int) = 4) = False by decide, show ((7 : Int) = 5) = False by decide,
    show ((7 : Int) = 6) = False by decide, if_false, if_true, zgE]
   by_cases hc : nth u.p.at_ w.to.toNat = 0 ∨ nth u.p.at_ (toB g.board side x.2 w.to).toNat ≠ 0
   ·have hc' : nth u.p.at_ w.to.toNat = 0 ∨ toB g.board side x.2 w.to < 0 ∨ nth u.p.at_ (toB g.board side x.2 w.to).toNat ≠ 0 := by rcases hc with h | h; exact .inl h; exact .inr (.inr h)
    simp only [if_pos hc, if_pos hc', Bool.false_eq_true, if_false]
   ·have hc' : ¬ (nth u.p.at_ w.to.toNat = 0 ∨ toB g.board side x.2 w.to < 0 ∨ nth u.p.at_ (toB g.board side x.2 w.to).toNat ≠ 0) := by rintro (h | h | h); exact hc (.inl h); exact hn h; exact hc (.inr h)
    simp only [if_neg hc, if_neg hc', if_true, stT, hside]
 rw [if_neg (by omega)]
 by_cases h2 : x.1 = 2
 ·simp only [h2, show ((2 : Int) = 1) = False by decide, if_true, if_false, zkn]
  simp only [show (stT u w.to).p = u.p from rfl, show (stT u w.to).cursor = w.to from rfl, hside]
  exact zl0 hd rfl
 rw [if_neg h2, if_neg h1, if_neg h2]
 by_cases h8 : x.1 = 8
 ·simp [h8, one, doA, stT]
 by_cases h9 : x.1 = 9
 ·simp only [h9, one, doA, zcQ, show ((9 : Int) = 8) = False by decide, show ((9 : Int) = 10) = False by decide, show ((9 : Int) = 3) = False by decide, show ((9 : Int) = 4) = False by decide, show ((9 : Int) = 5) = False by decide,
   show ((9 : Int) = 6) = False by decide, show ((9 : Int) = 7) = False by decide, if_true, if_false, or_true, true_or, false_or, or_false, List.filterMap_cons, List.filterMap_nil]
  split <;> simp_all [stT]
 by_cases h10 : x.1 = 10
 ·simp [h10, one, doA, stT, hside]
 rw [if_neg (by omega)]
 simp only [one, List.filterMap_cons, List.filterMap_nil]
 by_cases h3 : x.1 = 3
 ·simp only [h3, if_true, doA, zcQ]
  rcases hm with ⟨h0, e⟩ | ⟨h0, e1, e2, e3, e4⟩
  ·rw [e]; simp [h0, stT]
  ·rw [if_neg (by simpa using h0), if_neg (by simp; omega)]
 by_cases h4 : x.1 = 4
 ·simp only [h4, show ((4 : Int) = 3) = False by decide, if_true, if_false, doA, zcQ]
  rcases hm with ⟨h0, e⟩ | ⟨h0, e1, e2, e3, e4⟩
  ·rw [e, if_neg (by simp; omega), if_neg (by simp)]
  ·by_cases hs' : (zaq (nth u.p.at_ w.to.toNat)).2 = 1 - side
   ·rw [if_pos (by simpa using hs'), if_pos (by simp; omega)]
   ·rw [if_neg (by simpa using hs'), if_neg (by simp; omega)]
 by_cases h5 : x.1 = 5
 ·simp only [h5, show ((5 : Int) = 3) = False by decide, show ((5 : Int) = 4) = False by decide, if_true, if_false, doA, zcQ]
  rcases hm with ⟨h0, e⟩ | ⟨h0, e1, e2, e3, e4⟩
  ·rw [e, if_neg (by simp; omega), if_neg (by simp)]
  ·by_cases hs' : (zaq (nth u.p.at_ w.to.toNat)).2 = side
   ·rw [if_pos (by simpa using hs'), if_pos (by simp; omega)]
   ·rw [if_neg (by simpa using hs'), if_neg (by simp; omega)]
 have h6 : x.1 = 6 := by omega
 simp only [h6, show ((6 : Int) = 3) = False by decide, show ((6 : Int) = 4) = False by decide, show ((6 : Int) = 5) = False by decide, if_true, if_false, doA, zgM, zmS]
 simp only [show (stT u w.to).p = u.p from rfl, show (stT u w.to).cursor = w.to from rfl, hside]
 rcases hm with ⟨h0, e⟩ | ⟨h0, e1, e2, e3, e4⟩
 ·have hne : (-1 : Int) ≠ 1 - side := by omega
  rw [e]
  simp [hne]
 ·by_cases hs' : (zaq (nth u.p.at_ w.to.toNat)).2 = 1 - side
  ·rw [if_neg (not_not_intro hs'), if_neg (show ¬ ((zaq (nth u.p.at_ w.to.toNat)).1 < 0 ∨ (zaq (nth u.p.at_ w.to.toNat)).2 = side) by omega)]
   by_cases hk : (nth g.kinds (zaq (nth u.p.at_ w.to.toNat)).1.toNat).keep = true
   ·rw [if_pos hk, if_pos hk]
    by_cases h9 : nth (u.p.hand side) (zaq (nth u.p.at_ w.to.toNat)).1.toNat + 1 ≤ 8
    ·have h9' : ¬ 8 < nth (u.p.hand side) (zaq (nth u.p.at_ w.to.toNat)).1.toNat + 1 := by omega
     simp only [h9, h9', decide_true, if_true, if_false, stT]
    ·have h9' : 8 < nth (u.p.hand side) (zaq (nth u.p.at_ w.to.toNat)).1.toNat + 1 := by omega
     simp only [h9, h9', decide_false, if_true, Bool.false_eq_true, if_false]
   ·rw [if_neg hk, if_neg hk]; simp [stT]
  ·rw [if_pos hs', if_pos (show (zaq (nth u.p.at_ w.to.toNat)).1 < 0 ∨ (zaq (nth u.p.at_ w.to.toNat)).2 = side by omega)]; simp
theorem zqq : ∀ {more l : List StD} {s : StD}, s ∈ zev l more ↔ s ∈ l ∨ s ∈ more
 | [], l, s => by simp [zev]
 | m :: more, l, s => by
  show s ∈ zev (if m ∈ l then l else l ++ [m]) more ↔ _
  rw [zqq]
  split
  ·rename_i h
   simp only [List.mem_cons]
   exact ⟨fun h => by rcases h with h | h <;> simp [h], fun h => by rcases h with h | rfl | h; exact .inl h; exact .inl ‹_›; exact .inr h⟩
  ·simp only [List.mem_append, List.mem_cons, List.mem_singleton, List.not_mem_nil, or_false]
   exact or_assoc
theorem zlP (g : zaf) (x : Int × Int) : ∀ (now acc : List StD) (s : StD), s ∈ now.foldl (fun next s => zev next (zbV g s x)) acc ↔ s ∈ acc ∨ ∃ r ∈ now, s ∈ zbV g r x
 | [], acc, s => by simp
 | r :: now, acc, s => by
  rw [List.foldl_cons, zlP g x now, zqq]
  simp only [List.mem_cons, exists_eq_or_imp]
  exact or_assoc
theorem zok (g : zaf) (x : Int × Int) (now : List StD) (s : StD) : s ∈ zgA g now x ↔ ∃ r ∈ now, s ∈ zbV g r x := by
 unfold zgA
 rw [zlP]; simp
theorem zq4 {g : zaf} (hg : GOk g) {side : Int} {t : TkD} : ∀ (prog : List (Int × Int)) (nowP : List zaZ) (nowS : List StD), (∀ x ∈ prog, zex g.next.length g.kinds.length g.rights x) →
  (∀ s, s ∈ nowP.filterMap (stW g side t) ↔ s ∈ nowS) → (∀ s ∈ nowS, zfn g s ∧ s.p.side = side) →
  ∀ s, s ∈ (prog.foldl (zkt g.board side) nowP).filterMap (stW g side t) ↔ s ∈ prog.foldl (zgA g) nowS
 | [], nowP, nowS, _, h, _, s => h s
 | x :: prog, nowP, nowS, hp, h, hk, s => by
  rw [List.foldl_cons, List.foldl_cons]
  have hx := hp x (by simp)
  refine zq4 hg prog _ _ (fun y hy => hp y (by simp [hy])) (fun s => ?_) (fun s hs => ?_) s
  ·rw [zok]
   unfold zkt
   rw [List.filterMap_flatMap, List.mem_flatMap]
   constructor
   ·rintro ⟨w, hw, hs⟩
    cases hd : zdY g side t w.acts with
    | none => rw [zud hd] at hs; simp at hs
    | some u =>
     have hu : stT u w.to ∈ nowS := (h _).1 (List.mem_filterMap.2 ⟨w, hw, by simp [stW, hd]⟩)
     rw [znM hg hd (hk _ hu).1 (hk _ hu).2 hx] at hs
     exact ⟨_, hu, hs⟩
   ·rintro ⟨r, hr, hs⟩
    obtain ⟨w, hw, e⟩ := List.mem_filterMap.1 ((h r).2 hr)
    unfold stW at e
    cases hd : zdY g side t w.acts with
    | none => rw [hd] at e; simp at e
    | some u =>
     rw [hd] at e
     simp only [Option.map_some, Option.some.injEq] at e
     subst e
     exact ⟨w, hw, by rw [znM hg hd (hk _ hr).1 (hk _ hr).2 hx]; exact hs⟩
  ·obtain ⟨r, hr, hs⟩ := (zok g x nowS s).1 hs
   obtain ⟨k1, k2⟩ := zhr hg (hk r hr).1 hx s hs
   exact ⟨k1, k2.trans (hk r hr).2⟩
def zdd (p : zaj) (cell : Int) : TkD := ⟨clr p cell, (zaq (nth p.at_ cell.toNat)).1, false⟩
def zsz (g : zaf) (side : Int) (t : TkD) (w : zaZ) : Option zco := (stW g side t w).bind (zgc side)
def zmM (g : zaf) (p : zaj) (cell : Int) : List zaZ :=
 zbu g.board (zaq (nth p.at_ cell.toNat)).2 (nth g.kinds (zaq (nth p.at_ cell.toNat)).1.toNat).progs cell
def zuZ (g : zaf) (p : zaj) (cell : Int) : List zco := (zmM g p cell).filterMap (zsz g (zaq (nth p.at_ cell.toNat)).2 (zdd p cell))
def runO (g : zaf) (p : zaj) (cell : Int) : List zco := if nth p.at_ cell.toNat = 0 then [] else zbk zif (zuZ g p cell)
def zbJ (p : zaj) (s : Int) : zaj := { p with side := s }
def zq5 (g : zaf) (p : zaj) (cell : Int) : List zco :=
 if (zaq (nth p.at_ cell.toNat)).1 < 0 then [] else
 zbk zif ((List.range (nth g.kinds (zaq (nth p.at_ cell.toNat)).1.toNat).progs.length).flatMap fun (i : Nat) => zdr g (zbJ p (zaq (nth p.at_ cell.toNat)).2) cell i)
def TkD.sd (t : TkD) (s : Int) : TkD := { t with p := zbJ t.p s }
theorem zx7 (p : zaj) (s side : Int) : (zbJ p s).hand side = p.hand side := rfl
theorem zqh (p : zaj) (s side : Int) (l : List Int) : (zbJ p s).withHand side l = zbJ (p.withHand side l) s := by unfold zaj.withHand; split <;> rfl
theorem doA_sd (g : zaf) (side : Int) (t : TkD) (s : Int) (x : zcn) : doA g side (t.sd s) x = ((doA g side t x).1.sd s, (doA g side t x).2) := by
 unfold doA zgM zgE
 simp only [TkD.sd, show (zbJ t.p s).at_ = t.p.at_ from rfl, show (zbJ t.p s).rights = t.p.rights from rfl, zx7]
 have hc : clr (zbJ t.p s) x.2.1 = zbJ (clr t.p x.2.1) s := rfl
 rw [hc, zqh]
 split; · rfl
 split; · rfl
 split; · rfl
 split
 ·split; · rfl
  split <;> rfl
 split
 ·split <;> rfl
 split; · rfl
 split; · rfl
 split <;> rfl
theorem zt1 (g : zaf) (side : Int) (s : Int) : ∀ (l : List zcn) (t : TkD), zdY g side (t.sd s) l = (zdY g side t l).map fun t => t.sd s
 | [], t => rfl
 | x :: l, t => by
  simp only [zdY, doA_sd]
  split
  ·exact zt1 g side s l _
  ·rfl
theorem zyo (g : zaf) (side : Int) (t : TkD) (s : Int) (w : zaZ) : zsz g side (t.sd s) w = zsz g side t w := by
 unfold zsz stW
 rw [zt1]
 cases zdY g side t w.acts with
 | none => rfl
 | some u => rfl
theorem zoy {g : zaf} (hg : GOk g) {p : zaj} (hp : POk g p) {cell : Int} (h0 : 0 ≤ cell) (h1 : cell < g.cells) : runO g p cell = zq5 g p cell := by
 have hat := hp.at (i := cell.toNat) (by omega)
 unfold runO zq5
 rcases zaS hat.1 hat.2 hg.k6 with ⟨hz, e⟩ | ⟨hz, e1, e2, e3, e4⟩
 ·rw [if_pos hz, e, if_pos (by decide)]
 rw [if_neg hz, if_neg (by omega)]
 generalize hs : (zaq (nth p.at_ cell.toNat)).2 = side at e3 e4
 refine zqa zch fun o => ?_
 have hq : POk g (zbJ p side) := hp.side e3
 have hst : zdd p cell = zdd p cell := rfl
 have hout : ∀ w, zsz g side (zdd p cell) w = zsz g side ((zdd p cell).sd side) w := fun w => (zyo g side _ side w).symm
 obtain ⟨progs, hpg⟩ : ∃ l, l = (nth g.kinds (zaq (nth p.at_ cell.toNat)).1.toNat).progs := ⟨_, rfl⟩
 have hkm : nth g.kinds (zaq (nth p.at_ cell.toNat)).1.toNat ∈ g.kinds := zan (by omega)
 have key : ∀ prog ∈ progs, ∀ o, o ∈ (zbB g.board side prog cell).filterMap (zsz g side (zdd p cell)) ↔ o ∈ (zeq g (zbJ p side) cell prog).filterMap (zgc side) := by
  intro prog hm o
  have hok := hg.pr _ hkm prog (hpg ▸ hm)
  have hs0 := zkq hg hq h0 h1 (show 0 ≤ (zaq (nth (zbJ p side).at_ cell.toNat)).1 from e1)
  have hmem := zq4 hg (side := side) (t := (zdd p cell).sd side) prog [⟨[], cell⟩] [zeL (zbJ p side) cell] hok.st (fun s => by simp [stW, zdY, zdd, stT, zeL, TkD.sd, zbJ, clr])
   (fun s hs => by rw [List.mem_singleton] at hs; subst hs; exact ⟨hs0.1, hs0.2⟩)
  rw [show zsz g side (zdd p cell) = zsz g side ((zdd p cell).sd side) from funext hout]
  simp only [List.mem_filterMap, zsz, Option.bind_eq_some_iff]
  constructor
  ·rintro ⟨w, hw, s, h3, h4⟩
   exact ⟨s, (hmem s).1 (List.mem_filterMap.2 ⟨w, hw, h3⟩), h4⟩
  ·rintro ⟨s, h3, h4⟩
   obtain ⟨w, hw, h5⟩ := List.mem_filterMap.1 ((hmem s).2 h3)
   exact ⟨w, hw, s, h5, h4⟩
 have e5 : zuZ g p cell = progs.flatMap fun prog => (zbB g.board side prog cell).filterMap (zsz g side (zdd p cell)) := by
  unfold zuZ zmM zbu
  rw [hs, ← hpg, List.filterMap_flatMap]
 have hr : ∀ i, i < progs.length → zdr g (zbJ p side) cell (i : Int) = zbk zif ((zeq g (zbJ p side) cell (nth progs i)).filterMap (zgc side)) := fun i _ => by
  unfold zdr za5
  rw [show nth (zbJ p side).at_ cell.toNat = nth p.at_ cell.toNat from rfl, ← hpg]
  rfl
 rw [e5, List.mem_flatMap, List.mem_flatMap]
 rw [← hpg]
 constructor
 ·rintro ⟨prog, hm, h⟩
  obtain ⟨i, hi, rfl⟩ := List.mem_iff_getElem.1 hm
  refine ⟨i, List.mem_range.2 hi, ?_⟩
  rw [hr i hi, za7, zaJ _ _ hi]
  exact (key _ hm o).1 h
 ·rintro ⟨i, hi, h⟩
  have hi' := List.mem_range.1 hi
  rw [hr i hi', za7, zaJ _ _ hi'] at h
  exact ⟨_, List.getElem_mem hi', (key _ (List.getElem_mem hi') o).2 h⟩
theorem zgq (a b : zaj) (ha : zaW a) (hb : zaW b) : zaC Tryz.prog 64 [.agg (zad a), .agg (zad b)] (.v (.bool (decide (zbw a b = 0)))) := by
 refine pF Tryz.func64 ?_
 repeat first|with_reducible refine wV fun _=>?_|simp [go_sem]
 refine zyJ (zd8 a b ha hb) (by simp [go_sem]) ?_
 repeat first|with_reducible refine wV fun _=>?_|simp [go_sem]
attribute [go_sem ↓] zrT zvW List.forall_mem_append
theorem zvA {x : AV} (h : Bel 0 x) : ∀ c ∈ [x], Bel 0 c := by simpa using h
theorem zcD {n : Nat} (l : List zaj) : Bel n (zaz l) := of_eq_true zxf
def zhf (side : Int) (l : List StD) (n : Nat) : List zco := ((l.take n).filterMap (zgc side)).foldl (fun a x => zbL x a) []
@[go_sem] theorem zyG (side : Int) (l : List StD) : zhf side l 0 = [] := rfl
def zbA (g : zaf) (p : zaj) (k : Nat) : List zaj := (List.range k).flatMap fun k => (List.range p.at_.length).filterMap fun c => zfx g p k c
def zcE (g : zaf) (p : zaj) (k c : Nat) : List zaj := zbA g p k ++ (List.range c).filterMap fun c => zfx g p k c
theorem zhH (g : zaf) (p : zaj) (k : Nat) : zcE g p k p.at_.length = zbA g p (k + 1) := by simp [zcE, zbA, List.range_succ, List.flatMap_append]
theorem zgv (g : zaf) (p : zaj) (k : Nat) : zcE g p k 0 = zbA g p k := by simp [zcE]
theorem zcq (g : zaf) (p : zaj) (k c : Nat) : zcE g p k (c + 1) = zcE g p k c ++ (zfx g p k c).toList := by
 simp only [zcE, List.range_succ, List.filterMap_append, List.append_assoc]
 cases h : zfx g p k c <;> simp [h]
theorem zfY (g : zaf) (p : zaj) : zbA g p g.kinds.length = zt2 g p := rfl
theorem zeC {α : Type} (f : Nat → List α) (m : Nat) (hf : ∀ k, (f k).length ≤ m) : ∀ n, ((List.range n).flatMap f).length ≤ n * m
 | 0 => by simp
 | n + 1 => by
  have := zeC f m hf n
  have := hf n
  simp only [List.range_succ, List.flatMap_append, List.length_append, List.flatMap_cons, List.flatMap_nil, List.append_nil, Nat.add_mul, Nat.one_mul]
  omega
theorem zeA (g : zaf) (p : zaj) (k : Nat) : (zbA g p k).length ≤ k * p.at_.length :=
 zeC _ _ (fun k => Nat.le_trans (List.length_filterMap_le _ _) (by simp)) k
theorem zfX (g : zaf) (p : zaj) (k c : Nat) : (zcE g p k c).length ≤ k * p.at_.length + c := by
 have h1 := zeA g p k
 have h2 : ((List.range c).filterMap fun c => zfx g p k c).length ≤ c := Nat.le_trans (List.length_filterMap_le _ _) (by simp)
 simp only [zcE, List.length_append]
 omega
theorem ziQ {g : zaf} (hg : GOk g) {p : zaj} (hp : POk g p) {k c : Nat} (hk : k < g.kinds.length) {q : zaj} (h : zfx g p k c = some q) : POk g q ∧ q.side = 1 - p.side := by
 unfold zfx at h
 split at h
 ·cases h
 ·rename_i hc
  simp only [Option.some.injEq] at h
  subst h
  have k6 := hg.k6
  have hcode : zaD k p.side = 1 + 2 * k + p.side := znv (K := g.kinds.length) ⟨by omega, by omega⟩ k6 hp.s
  have hs := hp.s
  have hh := hp.hand p.side
  have hl := hh.len
  have hv := hh.v k (by omega)
  refine ⟨POk.side (POk.withHand (hp.setAt c (by rw [hcode]; omega)) _ (hh.set k ?_ ?_)) (by omega), rfl⟩
  ·simp only [not_or] at hc; omega
  ·intro _; exact hv.2.2 (by simp only [not_or] at hc; omega)
theorem zmD {g : zaf} (hg : GOk g) {p : zaj} (hp : POk g p) {cell : Int} (h0 : 0 ≤ cell) (h1 : cell < g.cells) (hm : 0 ≤ (zaq (nth p.at_ cell.toNat)).1) :
  (zaq (nth p.at_ cell.toNat)).1.toNat < g.kinds.length := by
 have hat := hp.at (i := cell.toNat) (by omega)
 rcases zaS hat.1 hat.2 hg.k6 with ⟨_, e⟩ | ⟨_, a, b, _⟩
 ·rw [e] at hm; simp at hm
 ·omega
theorem zu3 {g : zaf} (hg : GOk g) {p : zaj} (hp : POk g p) {cell i : Int} (hc : zci g p cell i) : zm5 g.next.length g.kinds.length g.rights (za5 g p cell i) :=
 hg.pr _ (zan (zmD hg hp hc.c0 hc.c1 hc.man)) _ (zan (by have := hc.i0; have := hc.i1; omega))
theorem ziW {g : zaf} (hg : GOk g) {p : zaj} (hp : POk g p) {cell i : Int} (hc : zci g p cell i) :
  (∀ s ∈ zeq g p cell (za5 g p cell i), zfn g s ∧ s.p.side = p.side) ∧ (zeq g p cell (za5 g p cell i)).length ≤ 100000000 := by
 have hpg := zu3 hg hp hc
 have h := zhq hg hp hc.c0 hc.c1 hc.man hpg.st _ (Nat.le_refl _)
 rw [zgI] at h
 exact ⟨h.1, Nat.le_trans h.2 (ziZ hpg.len)⟩
theorem zu6 {g : zaf} (hg : GOk g) {s : StD} (hs : zfn g s) {side : Int} (hsd : side = 0 ∨ side = 1) {o : zco} (h : zgc side s = some o) : POk g o.pos ∧ o.pos.side = 1 - side := by
 unfold zgc at h
 split at h
 ·simp only [Option.some.injEq] at h
  subst h
  have hc : zaD s.kind side = 1 + 2 * s.kind + side := znv (K := g.kinds.length) hs.k hg.k6 hsd
  have hk := hs.k
  exact ⟨POk.side (hs.p.setAt _ (by rw [hc]; omega)) (by omega), rfl⟩
 ·cases h
theorem zwS {g : zaf} (hg : GOk g) {p : zaj} (hp : POk g p) {cell i : Int} (hc : zci g p cell i) : ∀ o ∈ zdr g p cell i, POk g o.pos ∧ o.pos.side = 1 - p.side := by
 intro o ho
 unfold zdr at ho
 rw [za7] at ho
 obtain ⟨s, hs, h⟩ := List.mem_filterMap.1 ho
 exact zu6 hg ((ziW hg hp hc).1 s hs).1 hp.s h
theorem zkj {g : zaf} (hg : GOk g) {p : zaj} (hp : POk g p) {cell i : Int} (hc : zci g p cell i) : (zdr g p cell i).length ≤ 100000000 := by
 unfold zdr
 have h1 := zdL zif ((zeq g p cell (za5 g p cell i)).filterMap (zgc p.side))
 have h2 : ((zeq g p cell (za5 g p cell i)).filterMap (zgc p.side)).length ≤ (zeq g p cell (za5 g p cell i)).length := List.length_filterMap_le _ _
 have h3 := (ziW hg hp hc).2
 omega
theorem zfv {g : zaf} {p : zaj} {c i : Nat} (hp : POk g p) (hc : c < p.at_.length) (hm : 0 ≤ (zaq (nth p.at_ c)).1 ∧ (zaq (nth p.at_ c)).2 = p.side)
  (hi : i < (nth g.kinds (zaq (nth p.at_ c)).1.toNat).progs.length) : zci g p c i := by
 have := hp.al
 exact ⟨by omega, by omega, hm.1, hm.2, by omega, by simp only [Int.toNat_natCast]; omega⟩
theorem zof {g : zaf} {p : zaj} (hp : POk g p) {o : zco} : o ∈ zdC g p ↔ ∃ c i : Nat, zci g p c i ∧ o ∈ zdr g p c i := by
 have hal := hp.al
 unfold zdC
 rw [List.mem_flatMap]
 constructor
 ·rintro ⟨c, hc, ho⟩
  rw [List.mem_range] at hc
  unfold zdj at ho
  split at ho
  ·rename_i hm
   obtain ⟨i, hi, ho⟩ := List.mem_flatMap.1 ho
   rw [List.mem_range] at hi
   exact ⟨c, i, zfv hp hc hm hi, ho⟩
  ·simp at ho
 ·rintro ⟨c, i, hc, ho⟩
  refine ⟨c, ?_, ?_⟩
  ·have := hc.c1; rw [List.mem_range]; omega
  ·have h1 := hc.man
   have h2 := hc.side
   have h3 := hc.i1
   simp only [Int.toNat_natCast] at h1 h2 h3
   unfold zdj
   rw [if_pos ⟨h1, h2⟩]
   exact List.mem_flatMap.2 ⟨i, by rw [List.mem_range]; omega, ho⟩
theorem zq0 {g : zaf} (hg : GOk g) {p : zaj} (hp : POk g p) : ∀ o ∈ zdC g p, POk g o.pos ∧ o.pos.side = 1 - p.side := by
 intro o ho
 obtain ⟨c, i, hc, ho⟩ := (zof hp).1 ho
 exact zwS hg hp hc o ho
theorem zbF {α : Type} (f : Nat → List α) (m : Nat) : ∀ n, (∀ k, k < n → (f k).length ≤ m) → ((List.range n).flatMap f).length ≤ n * m
 | 0, _ => by simp
 | n + 1, hf => by
  have := zbF f m n (fun k hk => hf k (by omega))
  have := hf n (by omega)
  simp only [List.range_succ, List.flatMap_append, List.length_append, List.flatMap_cons, List.flatMap_nil, List.append_nil, Nat.add_mul, Nat.one_mul]
  omega
theorem zsA {g : zaf} (hg : GOk g) {p : zaj} (hp : POk g p) {c : Nat} (hc : c < p.at_.length) : (zdj g p c).length ≤ 800000000 := by
 unfold zdj
 split
 ·rename_i hm
  have hal := hp.al
  have hk := zmD hg hp (cell := c) (by omega) (by omega) (by simpa using hm.1)
  simp only [Int.toNat_natCast] at hk
  have h8 := hg.pn _ (zan hk)
  have h1 := zbF (fun (i : Nat) => zdr g p c i) 100000000 (nth g.kinds (zaq (nth p.at_ c)).1.toNat).progs.length (fun i hi => zkj hg hp (zfv hp hc hm hi))
  have h2 : (nth g.kinds (zaq (nth p.at_ c)).1.toNat).progs.length * 100000000 ≤ 8 * 100000000 := Nat.mul_le_mul_right _ h8
  omega
 ·simp
theorem zoo {g : zaf} (hg : GOk g) {p : zaj} (hp : POk g p) {k : Nat} (hk : k ≤ p.at_.length) : ((List.range k).flatMap (zdj g p)).length ≤ 7200000000 := by
 have hal := hp.al
 have c9 := hg.c9
 have h1 := zbF (zdj g p) 800000000 k (fun c hc => zsA hg hp (by omega))
 have h2 : k * 800000000 ≤ 9 * 800000000 := Nat.mul_le_mul_right _ (by omega)
 omega
theorem zj7 {g : zaf} (hg : GOk g) {p : zaj} (hp : POk g p) : (zdC g p).length ≤ 7200000000 := zoo hg hp (Nat.le_refl _)
theorem znA {g : zaf} (hg : GOk g) {p : zaj} (hp : POk g p) : ∀ q ∈ zcF g p, POk g q ∧ q.side = 1 - p.side := by
 intro q hq
 unfold zcF at hq
 rw [za7] at hq
 obtain ⟨k, hk, hq⟩ := List.mem_flatMap.1 hq
 obtain ⟨c, hc, hq⟩ := List.mem_filterMap.1 hq
 exact ziQ hg hp (by simpa using hk) hq
theorem zfZ {g : zaf} (hg : GOk g) {p : zaj} (hp : POk g p) : (zcF g p).length ≤ 54 := by
 have h1 := zdL zbw (zt2 g p)
 have h2 := zeA g p g.kinds.length
 rw [zfY] at h2
 have hal := hp.al
 have c9 := hg.c9
 have h3 : g.kinds.length * p.at_.length ≤ 6 * 9 := Nat.mul_le_mul hg.k6 (by omega)
 unfold zcF
 omega
theorem zoi {g : zaf} (hg : GOk g) {p : zaj} (hp : POk g p) : ∀ q ∈ zdH g p, POk g q ∧ q.side = 1 - p.side := by
 intro q hq
 unfold zdH at hq
 rcases List.mem_append.1 hq with hq | hq
 ·obtain ⟨o, ho, rfl⟩ := List.mem_map.1 hq
  exact zq0 hg hp o (List.mem_filter.1 ho).1
 ·split at hq
  ·simp at hq
  ·exact znA hg hp q hq
theorem zlN {g : zaf} (hg : GOk g) {p : zaj} (hp : POk g p) : (zdH g p).length ≤ 7200000054 := by
 have h1 := zj7 hg hp
 have h2 := zfZ hg hp
 have h3 : ((zdC g p).filter fun o => !mustP g p || o.took).length ≤ (zdC g p).length := List.length_filter_le _ _
 unfold zdH
 rw [List.length_append, List.length_map]
 split <;> simp <;> omega
theorem zc7 {g : zaf} (hg : GOk g) {p : zaj} (hp : POk g p) : ∀ q ∈ zaH g p, POk g q ∧ q.side = 1 - p.side := by
 intro q hq
 unfold zaH at hq
 split at hq
 ·simp at hq
 ·exact zoi hg hp q (za7.1 hq)
theorem zhR {g : zaf} (hg : GOk g) {p : zaj} (hp : POk g p) : (zaH g p).length ≤ 7200000054 := by
 unfold zaH
 split
 ·simp
 ·exact Nat.le_trans (zdL _ _) (zlN hg hp)
theorem zfT (p : zaj) (side : Int) (l : List Int) : (p.withHand side l).at_ = p.at_ := by
 unfold zaj.withHand
 split <;> rfl
theorem zqJ {g : zaf} (hg : GOk g) {side : Int} (hs : side = 0 ∨ side = 1) {t : TkD} (ht : POk g t.p) {x : zcn} (hx : zdf g.cells g.kinds.length g.rights x) (h : (doA g side t x).2 = true) : POk g (doA g side t x).1.p := by
 obtain ⟨op, a, b⟩ := x
 unfold zdf at hx
 simp only at hx
 rcases (show op = 3 ∨ op = 4 ∨ op = 5 ∨ op = 6 ∨ op = 7 ∨ op = 8 ∨ op = 9 ∨ op = 10 by omega) with rfl | rfl | rfl | rfl | rfl | rfl | rfl | rfl
 ·exact ht
 ·exact ht
 ·exact ht
 ·have hat := ht.at (i := a.toNat) (by omega)
  have hman := zaS hat.1 hat.2 hg.k6
  have hdo : doA g side t (6, a, b) = zgM g side t a := rfl
  rw [hdo] at h ⊢
  unfold zgM at h ⊢
  simp only at h ⊢
  split
  ·exact ht
  ·rename_i hm
   rw [if_neg hm] at h
   split
   ·rename_i hk
    rw [if_pos hk] at h
    simp only [decide_eq_true_eq] at h
    have hk1 : (zaq (nth t.p.at_ a.toNat)).1.toNat < g.kinds.length := by
     rcases hman with ⟨_, e⟩ | ⟨_, e1, e2, _⟩
     ·rw [e] at hm
      simp at hm
      omega
     ·omega
    have hh := ht.hand side
    have hv := hh.v _ (show (zaq (nth t.p.at_ a.toNat)).1.toNat < (t.p.hand side).length by rw [hh.len]; exact hk1)
    exact (ht.clr a).withHand side (hh.set _ ⟨by omega, h⟩ (fun _ => hk))
   ·exact ht.clr a
 ·have hdo : doA g side t (7, a, b) = zgE t a b := rfl
  rw [hdo]
  unfold zgE
  split
  ·exact ht
  ·have hat := ht.at (i := a.toNat) (by omega)
   exact (ht.setAt b.toNat hat).setAt a.toNat ⟨by omega, by omega⟩
 ·exact ht
 ·exact ht
 ·have h0 := ht.r0
  have h1 := ht.r1
  have hr : (2 : Int) ^ g.rights.toNat ≤ 16 := by
   have r0 := hg.r0
   have r4 := hg.r4
   rcases (show g.rights.toNat = 0 ∨ g.rights.toNat = 1 ∨ g.rights.toNat = 2 ∨ g.rights.toNat = 3 ∨ g.rights.toNat = 4 by omega) with e | e | e | e | e <;> rw [e] <;> decide
  have r4 := hg.r4
  have hn := znh h0 (show t.p.rights < 16 by omega) (show a.toNat < 4 by omega)
  exact ⟨ht.al, ht.av, ht.h0, ht.h1, hn.1, by simp only [doA]; exact Int.lt_of_le_of_lt hn.2 h1, ht.s⟩
theorem zmq {g : zaf} (hg : GOk g) {side : Int} (hs : side = 0 ∨ side = 1) : ∀ {l : List zcn} {t u : TkD}, POk g t.p → (∀ a ∈ l, zdf g.cells g.kinds.length g.rights a) → zdY g side t l = some u → POk g u.p
 | [], t, u, ht, _, h => by simp only [zdY, Option.some.injEq] at h; subst h; exact ht
 | x :: l, t, u, ht, hl, h => by
  simp only [zdY] at h
  split at h
  ·rename_i hd
   exact zmq hg hs (zqJ hg hs ht (hl x (by simp)) hd) (fun a ha => hl a (by simp [ha])) h
  ·cases h
abbrev Inc (l : List zaj) : Prop := l.Pairwise (fun a b => zbw a b < 0)
theorem Inc.lt {l : List zaj} (h : Inc l) {i j : Nat} (hij : i < j) (hj : j < l.length) : zbw (nth l i) (nth l j) < 0 := by
 rw [zaJ _ _ (by omega), zaJ _ _ hj]
 exact List.pairwise_iff_getElem.1 h _ _ _ _ hij
theorem Inc.sign {l : List zaj} (h : Inc l) {i j : Nat} (hi : i < l.length) (hj : j < l.length) : (zbw (nth l i) (nth l j) = 0 ↔ i = j) ∧ (zbw (nth l i) (nth l j) < 0 ↔ i < j) := by
 have hs := za8.swap (nth l i) (nth l j)
 rcases Nat.lt_trichotomy i j with h' | h' | h'
 ·have := h.lt h' hj
  exact ⟨⟨by omega, by omega⟩, ⟨by omega, by omega⟩⟩
 ·subst h'
  have := (za8.eq (nth l i) (nth l i)).2 rfl
  exact ⟨⟨by omega, by omega⟩, ⟨by omega, by omega⟩⟩
 ·have := h.lt h' hi
  exact ⟨⟨by omega, by omega⟩, ⟨by omega, by omega⟩⟩
theorem Inc.inj {l : List zaj} (h : Inc l) {i j : Nat} (hi : i < l.length) (hj : j < l.length) (e : nth l i = nth l j) : i = j :=
 (h.sign hi hj).1.1 ((za8.eq _ _).2 e)
theorem ze5 {α : Type} [Inhabited α] {l : List α} {x : α} (h : x ∈ l) : ∃ j, j < l.length ∧ nth l j = x := by
 obtain ⟨j, hj, rfl⟩ := List.getElem_of_mem h
 exact ⟨j, hj, zaJ _ _ hj⟩
theorem zlL {g : zaf} {p q : zaj} : q ∈ zaH g p ↔ zcj g p < 0 ∧ ((∃ o ∈ zdC g p, (ziH g p = true → o.took = true) ∧ o.pos = q) ∨ (ziH g p = false ∧ q ∈ zcF g p)) := by
 unfold zaH
 split
 ·rename_i h
  simp only [List.not_mem_nil, false_iff, not_and]
  intro h'
  omega
 ·rename_i h
  rw [za7]
  unfold zdH
  rw [List.mem_append, List.mem_map]
  constructor
  ·rintro (⟨o, ho, rfl⟩ | hq)
   ·obtain ⟨h1, h2⟩ := List.mem_filter.1 ho
    refine ⟨by omega, .inl ⟨o, h1, fun hm => ?_, rfl⟩⟩
    rw [hm] at h2
    simpa using h2
   ·split at hq
    ·simp at hq
    ·rename_i hm
     exact ⟨by omega, .inr ⟨by simpa using hm, hq⟩⟩
  ·rintro ⟨_, ⟨o, h1, h2, rfl⟩ | ⟨hm, hq⟩⟩
   ·refine .inl ⟨o, List.mem_filter.2 ⟨h1, ?_⟩, rfl⟩
    cases hm : ziH g p
    ·rfl
    ·simpa using h2 hm
   ·refine .inr ?_
    rw [hm]
    exact hq
theorem zdb {g : zaf} (hg : GOk g) {p : zaj} (hp : POk g p) : p.rights < 16 := by
 have h4 := hg.r4
 have h0 := hg.r0
 have := hp.r1
 have e : (2 : Int) ^ g.rights.toNat ≤ 2 ^ 4 := by
  rcases (show g.rights.toNat = 0 ∨ g.rights.toNat = 1 ∨ g.rights.toNat = 2 ∨ g.rights.toNat = 3 ∨ g.rights.toNat = 4 by omega) with h | h | h | h | h <;> rw [h] <;> decide
 omega
def zpL (a : Int) (n : Nat) : Bool := decide (zhA .i64 a (2 ^ n) = 0)
def zdu (g : zaf) (side : Int) (p : zaj) (x : zcn) : List zaj :=
 if x.1 = 6 then (List.range g.kinds.length).flatMap fun (k : Nat) =>
  let q := { p with at_ := p.at_.set x.2.1.toNat (zaD k (1 - side)) }
  let r := if (nth g.kinds k).keep = true then q.withHand side ((q.hand side).set k (nth (q.hand side) k - 1)) else q
  if nth p.at_ x.2.1.toNat = 0 ∧ 0 ≤ nth (r.hand side) k then [r] else []
 else if x.1 = 7 then if nth p.at_ x.2.2.toNat ≠ 0 ∧ nth p.at_ x.2.1.toNat = 0 then [{ p with at_ := (p.at_.set x.2.1.toNat (nth p.at_ x.2.2.toNat)).set x.2.2.toNat 0 }] else []
 else if x.1 = 10 then if zpL p.rights x.2.1.toNat = true then [p, { p with rights := orN .i64 p.rights (2 ^ x.2.1.toNat) }] else []
 else [p]
def zux : Bool := (List.range 16).all fun (a : Nat) => (List.range 4).all fun (n : Nat) => zpL (zbt .i64 (a : Int) (2 ^ n)) n && (decide ((a : Int) = zbt .i64 (a : Int) (2 ^ n)) || decide ((a : Int) = orN .i64 (zbt .i64 (a : Int) (2 ^ n)) (2 ^ n)))
theorem zoa : zux = true := by kernel_rfl
theorem zuy {a : Int} (h0 : 0 ≤ a) (h1 : a < 16) {n : Nat} (hn : n < 4) : zpL (zbt .i64 a (2 ^ n)) n = true ∧ (a = zbt .i64 a (2 ^ n) ∨ a = orN .i64 (zbt .i64 a (2 ^ n)) (2 ^ n)) := by
 have key := zoa
 unfold zux at key
 have k1 := List.all_eq_true.1 key a.toNat (List.mem_range.2 (by omega))
 have k2 := List.all_eq_true.1 k1 n (List.mem_range.2 hn)
 rw [Int.toNat_of_nonneg h0] at k2
 simp only [Bool.and_eq_true, Bool.or_eq_true, decide_eq_true_eq] at k2
 exact k2
theorem zwT {l : List Int} {i : Nat} {v : Int} : (l.set i v).set i (nth l i) = l := by
 by_cases h : i < l.length
 ·rw [List.set_set, zaJ _ _ h]
  exact List.set_getElem_self h
 ·rw [List.set_set, List.set_eq_of_length_le (by omega)]
theorem zrf {l : List Int} {i : Nat} : l.set i (nth l i) = l := by
 by_cases h : i < l.length
 ·rw [zaJ _ _ h]
  exact List.set_getElem_self h
 ·rw [List.set_eq_of_length_le (by omega)]
theorem zy8 {p q : zaj} (h1 : p.at_ = q.at_) (h2 : p.h0 = q.h0) (h3 : p.h1 = q.h1) (h4 : p.rights = q.rights) (h5 : p.side = q.side) : p = q := by
 obtain ⟨a, b, c, d, e⟩ := p
 obtain ⟨a', b', c', d', e'⟩ := q
 simp only at h1 h2 h3 h4 h5
 subst h1; subst h2; subst h3; subst h4; subst h5
 rfl
theorem zg8 (p : zaj) (side : Int) (l : List Int) : (p.withHand side l).hand side = l := by
 unfold zaj.withHand zaj.hand
 split <;> rfl
theorem zli {c : Int} {K : Nat} (h0 : 0 ≤ c) (h1 : c ≤ 2 * K) (hK : K ≤ 6) (hc : c ≠ 0) : zaD (zaq c).1 (zaq c).2 = c := by
 rcases zaS h0 h1 hK with ⟨h, _⟩ | ⟨_, a, b, d, e⟩
 ·exact absurd h hc
 ·unfold zaD
  rw [if_pos ⟨⟨by omega, by omega⟩, by omega, by omega⟩]
  omega
theorem zw2 {g : zaf} (hg : GOk g) {side : Int} (hs : side = 0 ∨ side = 1) {t : TkD} (ht : POk g t.p) {x : zcn} (hx : zdf g.cells g.kinds.length g.rights x) (h : (doA g side t x).2 = true) : t.p ∈ zdu g side (doA g side t x).1.p x := by
 obtain ⟨op, a, b⟩ := x
 unfold zdf at hx
 simp only at hx
 rcases (show op = 3 ∨ op = 4 ∨ op = 5 ∨ op = 6 ∨ op = 7 ∨ op = 8 ∨ op = 9 ∨ op = 10 by omega) with rfl | rfl | rfl | rfl | rfl | rfl | rfl | rfl
 ·exact List.mem_singleton.2 rfl
 ·exact List.mem_singleton.2 rfl
 ·exact List.mem_singleton.2 rfl
 ·have hat := ht.at (i := a.toNat) (by omega)
  have hman := zaS hat.1 hat.2 hg.k6
  have hdo : doA g side t (6, a, b) = zgM g side t a := rfl
  rw [hdo] at h ⊢
  unfold zgM at h ⊢
  simp only at h ⊢
  split
  ·rename_i hm
   rw [if_pos hm] at h
   simp at h
  ·rename_i hm
   rw [if_neg hm] at h
   rcases hman with ⟨_, e⟩ | ⟨hne, e1, e2, e3, e4⟩
   ·rw [e] at hm
    simp at hm
    omega
   ·have hms : (zaq (nth t.p.at_ a.toNat)).2 = 1 - side := by omega
    have hcode : zaD (zaq (nth t.p.at_ a.toNat)).1 (1 - side) = nth t.p.at_ a.toNat := by rw [← hms]; exact zli hat.1 hat.2 hg.k6 hne
    have hal := ht.al
    obtain ⟨k, hk⟩ : ∃ k : Nat, (zaq (nth t.p.at_ a.toNat)).1 = k := ⟨(zaq (nth t.p.at_ a.toNat)).1.toNat, by omega⟩
    rw [hk] at hcode e2 h ⊢
    rw [Int.toNat_natCast] at h ⊢
    have hkl : k < g.kinds.length := by omega
    have hun : ∀ p : zaj, zdu g side p (6, a, b) = (List.range g.kinds.length).flatMap fun (k : Nat) =>
      let q := { p with at_ := p.at_.set a.toNat (zaD k (1 - side)) }
      let r := if (nth g.kinds k).keep = true then q.withHand side ((q.hand side).set k (nth (q.hand side) k - 1)) else q
      if nth p.at_ a.toNat = 0 ∧ 0 ≤ nth (r.hand side) k then [r] else [] := fun p => rfl
    rw [hun, List.mem_flatMap]
    refine ⟨k, List.mem_range.2 hkl, ?_⟩
    have hh := ht.hand side
    have hkh : k < (t.p.hand side).length := by rw [hh.len]; exact hkl
    have hv := hh.v k hkh
    have hz : nth (t.p.at_.set a.toNat 0) a.toNat = 0 := by
     rw [zcl]
     split
     ·rfl
     ·rename_i hn
      exact absurd ⟨rfl, by omega⟩ hn
    by_cases hkeep : (nth g.kinds k).keep = true
    ·rw [if_pos hkeep]
     simp only [if_pos hkeep]
     have e5 : ((clr t.p a).withHand side ((t.p.hand side).set k (nth (t.p.hand side) k + 1))).at_ = t.p.at_.set a.toNat 0 := zfT _ _ _
     rw [e5]
     have e6 : ∀ (P : zaj) (L A : List Int), ({ (P.withHand side L) with at_ := A } : zaj) = ({ P with at_ := A } : zaj).withHand side L := fun P L A => by unfold zaj.withHand; split <;> rfl
     have e7 : nth ((t.p.hand side).set k (nth (t.p.hand side) k + 1)) k = nth (t.p.hand side) k + 1 := by rw [zcl, if_pos ⟨rfl, hkh⟩]
     have e8 : ∀ (P : zaj) (L M : List Int), (P.withHand side L).withHand side M = P.withHand side M := fun P L M => by unfold zaj.withHand; split <;> rfl
     simp only [e6, zg8, e8, e7, Int.add_sub_cancel, List.set_set, hcode, zrf]
     rw [if_pos ⟨hz, hv.1⟩, List.mem_singleton]
     have e10 : ({ (clr t.p a) with at_ := t.p.at_ } : zaj) = t.p := rfl
     rw [e10]
     unfold zaj.withHand zaj.hand
     split <;> rfl
    ·rw [if_neg hkeep]
     simp only [if_neg hkeep]
     have e5 : (clr t.p a).at_ = t.p.at_.set a.toNat 0 := rfl
     rw [e5, hcode, List.set_set, zrf]
     have e10 : ({ (clr t.p a) with at_ := t.p.at_ } : zaj) = t.p := rfl
     rw [e10, if_pos ⟨hz, hv.1⟩]
     exact List.mem_singleton.2 rfl
 ·have hdo : doA g side t (7, a, b) = zgE t a b := rfl
  rw [hdo] at h ⊢
  unfold zgE at h ⊢
  split
  ·rename_i hm
   rw [if_pos hm] at h
   simp at h
  ·rename_i hm
   have hal := ht.al
   have hm1 : nth t.p.at_ a.toNat ≠ 0 := fun e => hm (.inl e)
   have hm2 : nth t.p.at_ b.toNat = 0 := Classical.byContradiction fun e => hm (.inr e)
   have hab : a.toNat ≠ b.toNat := fun e => hm1 (by rw [e]; exact hm2)
   have hbl : b.toNat < t.p.at_.length := by omega
   have hal2 : a.toNat < t.p.at_.length := by omega
   have hun : ∀ p : zaj, zdu g side p (7, a, b) = if nth p.at_ b.toNat ≠ 0 ∧ nth p.at_ a.toNat = 0 then [{ p with at_ := (p.at_.set a.toNat (nth p.at_ b.toNat)).set b.toNat 0 }] else [] := fun p => rfl
   rw [hun]
   simp only
   have e1 : nth ((t.p.at_.set b.toNat (nth t.p.at_ a.toNat)).set a.toNat 0) b.toNat = nth t.p.at_ a.toNat := by
    rw [zcl, if_neg (fun h => hab h.1), zcl, if_pos ⟨rfl, hbl⟩]
   have e2 : nth ((t.p.at_.set b.toNat (nth t.p.at_ a.toNat)).set a.toNat 0) a.toNat = 0 := by
    rw [zcl, if_pos ⟨rfl, by rw [List.length_set]; exact hal2⟩]
   rw [e1, e2, if_pos ⟨hm1, rfl⟩, List.mem_singleton]
   refine zy8 ?_ rfl rfl rfl rfl
   refine List.ext_getElem (by simp) fun j h1 h2 => ?_
   simp only [List.getElem_set]
   by_cases ej : b.toNat = j
   ·subst ej
    rw [if_pos rfl, ← zaJ _ _ h1]; exact hm2
   ·rw [if_neg ej]
    by_cases ej2 : a.toNat = j
    ·subst ej2
     rw [if_pos rfl, zaJ _ _ h1]
    ·rw [if_neg ej2, if_neg ej2, if_neg ej]
 ·exact List.mem_singleton.2 rfl
 ·exact List.mem_singleton.2 rfl
 ·have h0 := ht.r0
  have h1 := zdb hg ht
  have r4 := hg.r4
  obtain ⟨k1, k2⟩ := zuy h0 h1 (n := a.toNat) (by omega)
  have hun : ∀ p : zaj, zdu g side p (10, a, b) = if zpL p.rights a.toNat = true then [p, { p with rights := orN .i64 p.rights (2 ^ a.toNat) }] else [] := fun p => rfl
  have hdo : (doA g side t (10, a, b)).1.p = { t.p with rights := zbt .i64 t.p.rights (2 ^ a.toNat) } := rfl
  rw [hdo, hun]
  simp only
  rw [if_pos k1]
  rcases k2 with k2 | k2
  ·exact List.mem_cons.2 (.inl (zy8 rfl rfl rfl k2 rfl))
  ·exact List.mem_cons.2 (.inr (List.mem_singleton.2 (zy8 rfl rfl rfl k2 rfl)))
def zcB (g : zaf) (side : Int) : zaj → List zcn → List zaj
 | p, [] => [p]
 | p, x :: l => (zdu g side p x).flatMap fun q => zcB g side q l
theorem zfR (g : zaf) (side : Int) : ∀ (l m : List zcn) (p : zaj), zcB g side p (l ++ m) = (zcB g side p l).flatMap fun q => zcB g side q m
 | [], m, p => by simp [zcB]
 | x :: l, m, p => by
  rw [List.cons_append, zcB, zcB, List.flatMap_assoc]
  congr 1
  funext q
  exact zfR g side l m q
theorem zoH (g : zaf) (side : Int) (p : zaj) (x : zcn) : zcB g side p [x] = zdu g side p x := by simp [zcB]
theorem zoI {g : zaf} (hg : GOk g) {side : Int} (hs : side = 0 ∨ side = 1) : ∀ {l : List zcn} {t u : TkD}, POk g t.p → (∀ a ∈ l, zdf g.cells g.kinds.length g.rights a) → zdY g side t l = some u → t.p ∈ zcB g side u.p l.reverse
 | [], t, u, ht, _, h => by
  simp only [zdY, Option.some.injEq] at h
  subst h
  exact List.mem_singleton.2 rfl
 | x :: l, t, u, ht, hl, h => by
  simp only [zdY] at h
  split at h
  ·rename_i hd
   have h1 := zqJ hg hs ht (hl x (by simp)) hd
   have ih := zoI hg hs h1 (fun a ha => hl a (by simp [ha])) h
   rw [List.reverse_cons, zfR, List.mem_flatMap]
   exact ⟨_, ih, by rw [zoH]; exact zw2 hg hs ht (hl x (by simp)) hd⟩
  ·cases h
theorem zwf (g : zaf) (side : Int) (t : TkD) (x : zcn) : (doA g side t x).1.p.side = t.p.side := by
 have hw : ∀ (P : zaj) (L : List Int), (P.withHand side L).side = P.side := fun P L => by unfold zaj.withHand; split <;> rfl
 unfold doA
 repeat' split
 all_goals first | rfl | skip
 ·unfold zgM
  simp only
  repeat' split
  ·rfl
  ·rw [hw]; rfl
  ·rfl
 ·unfold zgE
  split <;> rfl
theorem znz (g : zaf) (side : Int) : ∀ {l : List zcn} {t u : TkD}, zdY g side t l = some u → u.p.side = t.p.side
 | [], t, u, h => by simp only [zdY, Option.some.injEq] at h; subst h; rfl
 | x :: l, t, u, h => by
  simp only [zdY] at h
  split at h
  ·rw [znz g side h, zwf]
  ·cases h
theorem zwe {g : zaf} {side : Int} {t : TkD} {x : zcn} (hx : zdf g.cells g.kinds.length g.rights x) (h : 0 ≤ t.kind ∧ t.kind < g.kinds.length) : 0 ≤ (doA g side t x).1.kind ∧ (doA g side t x).1.kind < g.kinds.length := by
 obtain ⟨op, a, b⟩ := x
 unfold zdf at hx
 simp only at hx
 rcases (show op = 3 ∨ op = 4 ∨ op = 5 ∨ op = 6 ∨ op = 7 ∨ op = 8 ∨ op = 9 ∨ op = 10 by omega) with rfl | rfl | rfl | rfl | rfl | rfl | rfl | rfl
 ·exact h
 ·exact h
 ·exact h
 ·show 0 ≤ (zgM g side t a).1.kind ∧ (zgM g side t a).1.kind < g.kinds.length
  unfold zgM
  simp only
  repeat' split
  all_goals exact h
 ·show 0 ≤ (zgE t a b).1.kind ∧ (zgE t a b).1.kind < g.kinds.length
  unfold zgE
  split <;> exact h
 ·show 0 ≤ a ∧ a < g.kinds.length
  omega
 ·exact h
 ·exact h
theorem zjB {g : zaf} {side : Int} : ∀ {l : List zcn} {t u : TkD}, (∀ a ∈ l, zdf g.cells g.kinds.length g.rights a) → zdY g side t l = some u → 0 ≤ t.kind ∧ t.kind < g.kinds.length → 0 ≤ u.kind ∧ u.kind < g.kinds.length
 | [], t, u, _, h, hk => by simp only [zdY, Option.some.injEq] at h; subst h; exact hk
 | x :: l, t, u, hl, h, hk => by
  simp only [zdY] at h
  split at h
  ·exact zjB (fun a ha => hl a (by simp [ha])) h (zwe (hl x (by simp)) hk)
  ·cases h
theorem zoe {g : zaf} (hg : GOk g) {p : zaj} (hp : POk g p) {o : zco} : o ∈ zdC g p ↔ ∃ c : Nat, (c : Int) < g.cells ∧ nth p.at_ c ≠ 0 ∧ (zaq (nth p.at_ c)).2 = p.side ∧ o ∈ runO g p c := by
 have hal := hp.al
 rw [zof hp]
 constructor
 ·rintro ⟨c, i, hc, ho⟩
  have c1 := hc.c1
  have hman := hc.man
  have hside := hc.side
  have hi1 := hc.i1
  simp only [Int.toNat_natCast] at hman hside hi1
  refine ⟨c, c1, fun h0 => ?_, hside, ?_⟩
  ·rw [h0] at hman; exact absurd hman (by decide)
  rw [zoy hg hp (by omega) c1]
  unfold zq5
  simp only [Int.toNat_natCast]
  rw [if_neg (by omega), za7, hside]
  exact List.mem_flatMap.2 ⟨i, List.mem_range.2 (by omega), ho⟩
 ·rintro ⟨c, c1, h0, hside, ho⟩
  rw [zoy hg hp (by omega) c1] at ho
  unfold zq5 at ho
  simp only [Int.toNat_natCast] at ho
  split at ho
  ·simp at ho
  rename_i hm
  rw [za7, hside] at ho
  obtain ⟨i, hi, ho⟩ := List.mem_flatMap.1 ho
  exact ⟨c, i, ⟨by omega, c1, by simp only [Int.toNat_natCast]; omega, by simp only [Int.toNat_natCast]; exact hside, by omega, by simp only [Int.toNat_natCast]; exact_mod_cast List.mem_range.1 hi⟩, ho⟩
def zft (g : zaf) (side : Int) (p : zaj) (k c : Nat) (w : zaZ) : List zaj :=
 if (zaq (nth p.at_ w.to.toNat)).2 = side then
  ((zcB g side { p with at_ := p.at_.set w.to.toNat 0, side := side } w.acts.reverse).filter fun q => decide (nth q.at_ c = 0)).map fun q => { q with at_ := q.at_.set c (zaD k side) }
 else []
def zeW (g : zaf) (side : Int) (p : zaj) : List zaj :=
 (List.range g.kinds.length).flatMap fun (k : Nat) => (List.range g.cells.toNat).flatMap fun (c : Nat) => (zbu g.board side (nth g.kinds k).progs c).flatMap (zft g side p k c)
def ziF (side : Int) (p : zaj) (c : Nat) : zaj :=
 let k := (zaq (nth p.at_ c)).1.toNat
 let q := { p with at_ := p.at_.set c 0, side := side }
 q.withHand side ((q.hand side).set k (nth (q.hand side) k + 1))
def zgt (g : zaf) (side : Int) (p : zaj) : List zaj :=
 ((List.range p.at_.length).filter fun c => decide ((zaq (nth p.at_ c)).2 = side) && (nth g.kinds (zaq (nth p.at_ c)).1.toNat).keep).map (ziF side p)
def zdh (g : zaf) (p : zaj) : List zaj := zeW g (1 - p.side) p ++ zgt g (1 - p.side) p
def zv5 (side : Int) (p : zaj) : List zaj := ((List.range p.at_.length).filter fun c => decide ((zaq (nth p.at_ c)).2 = side)).map (ziF side p)
def zdi (g : zaf) (p : zaj) : List zaj := zeW g (1 - p.side) p ++ zv5 (1 - p.side) p
theorem zv6 {g : zaf} (hg : GOk g) {q : zaj} (hq : POk g q) {o : zco} (ho : o ∈ zdC g q) : q ∈ zeW g q.side o.pos := by
 obtain ⟨c, c1, h0, hside, ho⟩ := (zoe hg hq).1 ho
 have hal := hq.al
 have hat := hq.at (i := c) (by omega)
 unfold runO at ho
 simp only [Int.toNat_natCast] at ho
 rw [if_neg h0, za7] at ho
 unfold zuZ at ho
 obtain ⟨w, hw, hwo⟩ := List.mem_filterMap.1 ho
 simp only [Int.toNat_natCast] at hwo
 rw [hside] at hwo
 unfold zmM at hw
 simp only [Int.toNat_natCast] at hw
 rw [hside] at hw
 rcases zaS hat.1 hat.2 hg.k6 with ⟨hz, _⟩ | ⟨_, e1, e2, e3, _⟩
 ·exact absurd hz h0
 have hcode := zli hat.1 hat.2 hg.k6 h0
 rw [hside] at hcode
 obtain ⟨k, hk⟩ : ∃ k : Nat, (zaq (nth q.at_ c)).1 = k := ⟨(zaq (nth q.at_ c)).1.toNat, by omega⟩
 rw [hk] at e2 hcode hw
 rw [Int.toNat_natCast] at hw
 have hkl : k < g.kinds.length := by omega
 have hpo := zf1 hg (side := q.side) (zan hkl) (cell := (c : Int)) ⟨by omega, c1⟩ w hw
 unfold zsz stW at hwo
 cases hd : zdY g q.side (zdd q c) w.acts with
 | none => rw [hd] at hwo; simp at hwo
 | some u =>
  rw [hd] at hwo
  simp only [Option.map_some, Option.bind_some] at hwo
  have hst : POk g (zdd q c).p := hq.clr c
  have hu := zmq hg hq.s hst hpo.acts hd
  have hus := znz g q.side hd
  have hun := zoI hg hq.s hst hpo.acts hd
  have hts : (zdd q c).p.side = q.side := rfl
  rw [hts] at hus
  have hual := hu.al
  have hto := hpo.to
  unfold zgc at hwo
  split at hwo
  ·rename_i hz
   simp only [stT] at hz hwo
   simp only [Option.some.injEq] at hwo
   subst hwo
   simp only
   unfold zeW
   refine List.mem_flatMap.2 ⟨k, List.mem_range.2 hkl, List.mem_flatMap.2 ⟨c, List.mem_range.2 (by omega), List.mem_flatMap.2 ⟨w, hw, ?_⟩⟩⟩
   unfold zft
   have hn : nth (u.p.at_.set w.to.toNat (zaD u.kind q.side)) w.to.toNat = zaD u.kind q.side := by rw [zcl, if_pos ⟨rfl, by omega⟩]
   have hkind : 0 ≤ u.kind ∧ u.kind < g.kinds.length := zjB hpo.acts hd (by show 0 ≤ (zaq (nth q.at_ (c : Int).toNat)).1 ∧ (zaq (nth q.at_ (c : Int).toNat)).1 < g.kinds.length; rw [Int.toNat_natCast, hk]; omega)
   have hk6 := hg.k6
   have hms : (zaq (zaD u.kind q.side)).2 = q.side := by
    rcases hq.s with h | h <;> rw [h] <;> unfold zaD <;> rw [if_pos ⟨⟨by omega, by omega⟩, by omega, by omega⟩] <;> unfold zaq <;> rw [if_pos (by omega)] <;> simp only <;> rw [Int.tmod_eq_emod_of_nonneg (by omega)] <;> omega
   rw [hn, if_pos hms]
   have hlift : ({ u.p with at_ := (u.p.at_.set w.to.toNat (zaD u.kind q.side)).set w.to.toNat 0, side := q.side } : zaj) = u.p := by
    refine zy8 ?_ rfl rfl rfl hus.symm
    simp only
    rw [List.set_set]
    conv => lhs; rw [← hz]
    rw [zaJ _ _ (by omega)]
    exact List.set_getElem_self _
   have hl2 : ({ ({ u.p with at_ := u.p.at_.set w.to.toNat (zaD u.kind q.side), side := 1 - q.side } : zaj) with at_ := (u.p.at_.set w.to.toNat (zaD u.kind q.side)).set w.to.toNat 0, side := q.side } : zaj) = u.p := hlift
   refine List.mem_map.2 ⟨(zdd q c).p, List.mem_filter.2 ⟨?_, ?_⟩, ?_⟩
   ·have := hun
    rw [← hlift] at this
    exact this
   ·rw [decide_eq_true_eq]
    show nth (q.at_.set (c : Int).toNat 0) c = 0
    rw [Int.toNat_natCast, zcl, if_pos ⟨rfl, by omega⟩]
   ·refine zy8 ?_ rfl rfl rfl rfl
    show (q.at_.set (c : Int).toNat 0).set c (zaD k q.side) = q.at_
    rw [Int.toNat_natCast, hcode, zwT]
  ·cases hwo
theorem ztO {g : zaf} (hg : GOk g) {q : zaj} (hq : POk g q) {p : zaj} (hp : p ∈ zcF g q) : q ∈ zgt g q.side p := by
 unfold zcF at hp
 rw [za7] at hp
 obtain ⟨k, hk, hp⟩ := List.mem_flatMap.1 hp
 obtain ⟨c, hc, hp⟩ := List.mem_filterMap.1 hp
 have hk := List.mem_range.1 hk
 have hc := List.mem_range.1 hc
 have hh := hq.hand q.side
 have hkh : k < (q.hand q.side).length := by rw [hh.len]; exact hk
 have hv := hh.v k hkh
 have hk6 := hg.k6
 unfold zfx at hp
 split at hp
 ·cases hp
 rename_i hn
 have hn1 : nth (q.hand q.side) k ≠ 0 := fun h => hn (.inl h)
 have hn2 : nth q.at_ c = 0 := Classical.byContradiction fun h => hn (.inr h)
 simp only [Option.some.injEq] at hp
 have hkeep := hv.2.2 (by omega)
 have hpa : p.at_ = q.at_.set c (zaD k q.side) := by rw [← hp]; exact zfT _ _ _
 have hpn : nth p.at_ c = zaD k q.side := by rw [hpa, zcl, if_pos ⟨rfl, hc⟩]
 have hm : zaq (zaD k q.side) = ((k : Int), q.side) := by
  rcases hq.s with h | h <;> rw [h] <;> unfold zaD <;> rw [if_pos ⟨⟨by omega, by omega⟩, by omega, by omega⟩] <;> unfold zaq <;> rw [if_pos (by omega)] <;> refine Prod.ext ?_ ?_ <;> simp only
  ·rw [Int.tdiv_eq_ediv_of_nonneg (by omega)]; omega
  ·rw [Int.tmod_eq_emod_of_nonneg (by omega)]; omega
  ·rw [Int.tdiv_eq_ediv_of_nonneg (by omega)]; omega
  ·rw [Int.tmod_eq_emod_of_nonneg (by omega)]; omega
 unfold zgt
 refine List.mem_map.2 ⟨c, List.mem_filter.2 ⟨List.mem_range.2 (by rw [hpa, List.length_set]; exact hc), ?_⟩, ?_⟩
 ·rw [hpn, hm]
  simp [hkeep]
 ·unfold ziF
  rw [hpn, hm]
  simp only [Int.toNat_natCast]
  rw [← hp]
  have e1 : ∀ (P : zaj) (L : List Int) (s : Int), ({ (P.withHand q.side L) with side := s } : zaj).hand q.side = L := fun P L s => by unfold zaj.withHand zaj.hand; split <;> rfl
  have e2 : ∀ (P : zaj) (L : List Int), (P.withHand q.side L).at_ = P.at_ := fun P L => zfT _ _ _
  have e3 : ∀ (P : zaj) (L A M : List Int) (s s2 : Int), ({ ({ (P.withHand q.side L) with side := s } : zaj) with at_ := A, side := s2 } : zaj).withHand q.side M = ({ P with at_ := A, side := s2 } : zaj).withHand q.side M := fun P L A M s s2 => by unfold zaj.withHand; split <;> rfl
  have e4 : ∀ (P : zaj) (L A : List Int) (s s2 : Int), ({ ({ (P.withHand q.side L) with side := s } : zaj) with at_ := A, side := s2 } : zaj).hand q.side = L := fun P L A s s2 => by unfold zaj.withHand zaj.hand; split <;> rfl
  rw [e4, e3]
  have e5 : nth ((q.hand q.side).set k (nth (q.hand q.side) k - 1)) k = nth (q.hand q.side) k - 1 := by rw [zcl, if_pos ⟨rfl, hkh⟩]
  have e6 : ((q.hand q.side).set k (nth (q.hand q.side) k - 1)).set k (nth (q.hand q.side) k - 1 + 1) = q.hand q.side := by
   rw [List.set_set, Int.sub_add_cancel, zaJ _ _ hkh]
   exact List.set_getElem_self hkh
  rw [e5, e6]
  simp only [e2]
  have e7 : (q.at_.set c (zaD k q.side)).set c 0 = q.at_ := by
   rw [List.set_set]
   conv => lhs; rw [← hn2]
   rw [zaJ _ _ hc]
   exact List.set_getElem_self _
  rw [e7]
  unfold zaj.withHand zaj.hand
  split <;> rfl
theorem znr {g : zaf} (hg : GOk g) {q p : zaj} (hq : POk g q) (hp : p ∈ zaH g q) : q ∈ zeW g (1 - p.side) p ∨ q ∈ zgt g (1 - p.side) p := by
 have hps : 1 - p.side = q.side := by
  have := (zc7 hg hq p hp).2
  omega
 rw [hps]
 rcases (zlL.1 hp).2 with ⟨o, ho, _, rfl⟩ | ⟨_, hd⟩
 ·exact .inl (zv6 hg hq ho)
 ·exact .inr (ztO hg hq hd)
def zaG (g : zaf) (p : zaj) : List zaj := (zbk zbw (zdh g p)).filter fun q => zeH g q && decide (p ∈ zaH g q)
theorem zb6 {g : zaf} (hg : GOk g) {p q : zaj} : q ∈ zaG g p ↔ POk g q ∧ p ∈ zaH g q := by
 unfold zaG
 rw [List.mem_filter, za7, Bool.and_eq_true, decide_eq_true_eq, ze7]
 constructor
 ·rintro ⟨_, h⟩; exact h
 ·rintro ⟨h1, h2⟩
  refine ⟨?_, h1, h2⟩
  unfold zdh
  exact List.mem_append.2 (znr hg h1 h2)
theorem zbK (g : zaf) (p : zaj) : Inc (zaG g p) := List.Pairwise.filter _ (zhp za8 _)
def zbC (g : zaf) (p : zaj) : List zaj × Int := if 4000 < (zaG g p).length then ([], 2) else (zaG g p, 0)
def zb2 (g : zaf) : Nat → List zaj → List zaj × Int
 | 0, l => (l, 0)
 | n + 1, l => if l.all (fun q => decide ((zaG g q).length ≤ 4000)) = true then
   if 4000 < (zbk zbw (l.flatMap (zaG g))).length then ([], 2) else zb2 g n (zbk zbw (l.flatMap (zaG g)))
  else ([], 2)
def zcR (g : zaf) (p : zaj) (n : Int) : List zaj × Int := if n < 0 ∨ 6 < n then ([], 1) else zb2 g n.toNat [p]
theorem zdm {g : zaf} (hg : GOk g) {p q : zaj} (h : q ∈ zaG g p) : POk g q := ((zb6 hg).1 h).1
theorem zpn (g : zaf) (p : zaj) : zcR g p 0 = ([p], 0) := rfl
theorem zl2 {l : List zaj} (h : Inc l) : zbk zbw l = l := zek za8 h fun _ => Iff.rfl
end Go.Av
end
