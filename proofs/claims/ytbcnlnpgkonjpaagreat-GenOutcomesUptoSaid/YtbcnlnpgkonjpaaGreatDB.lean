/- Plain: positions and states that are valid stay so. -/
import Derived.Test.YtbcnlnpgkonjpaaGreatM4
section
set_option linter.unusedSimpArgs false
set_option linter.unusedVariables false
open Go Go.Proofs
namespace Go.Av
theorem nth_z {α : Type} [Inhabited α] (x : α) (l : List α) : nth (x :: l) 0 = x := rfl
theorem nth_s {α : Type} [Inhabited α] (x : α) (l : List α) (i : Nat) : nth (x :: l) (i + 1) = nth l i := rfl
theorem nth_setE {α : Type} [Inhabited α] (l : List α) (i j : Nat) (v : α) : nth (l.set i v) j = if i = j ∧ j < l.length then v else nth l j := by
  unfold nth
  rw [List.getD_eq_getElem?_getD, List.getD_eq_getElem?_getD, List.getElem?_set]
  by_cases h : i = j
  · subst h
    by_cases h2 : i < l.length
    · simp [h2]
    · simp [h2, List.getElem?_eq_none (Nat.not_lt.1 h2)]
  · simp [h]
structure HandOk (g : GameD) (l : List Int) : Prop where
  len : l.length = g.kinds.length
  v : ∀ i, i < l.length → 0 ≤ nth l i ∧ nth l i ≤ 8 ∧ (0 < nth l i → (nth g.kinds i).keep = true)
theorem handGo_iff : ∀ (l : List Int) (ks : List KindD), l.length = ks.length → (handGo l ks = true ↔ ∀ i, i < l.length → 0 ≤ nth l i ∧ nth l i ≤ 8 ∧ (0 < nth l i → (nth ks i).keep = true))
  | [], [], _ => by simp [handGo]
  | x :: l, k :: ks, h => by
    have ih := handGo_iff l ks (by simpa using h)
    rw [handGo]
    simp only [Bool.and_eq_true, decide_eq_true_eq, Bool.or_eq_true, Bool.not_eq_true']
    rw [ih]
    constructor
    · rintro ⟨⟨⟨h1, h2⟩, h3⟩, h4⟩ i hi
      cases i with
      | zero =>
        refine ⟨h1, h2, fun h => ?_⟩
        rcases h3 with h3 | h3
        · rw [nth_z] at h; simp at h3; omega
        · exact h3
      | succ i => exact h4 i (by simpa using hi)
    · intro h
      have h0 := h 0 (by simp)
      refine ⟨⟨⟨h0.1, h0.2.1⟩, ?_⟩, fun i hi => h (i + 1) (by simpa using hi)⟩
      by_cases hx : 0 < x
      · exact .inr (h0.2.2 hx)
      · exact .inl (by simpa using hx)
theorem handOk_iff {g : GameD} {l : List Int} : handOk g l = true ↔ HandOk g l := by
  unfold handOk
  rw [Bool.and_eq_true, decide_eq_true_eq]
  exact ⟨fun ⟨a, b⟩ => ⟨a, (handGo_iff _ _ a).1 b⟩, fun ⟨a, b⟩ => ⟨a, (handGo_iff _ _ a).2 b⟩⟩
structure POk (g : GameD) (p : PosD) : Prop where
  al : (p.at_.length : Int) = g.cells
  av : ∀ c ∈ p.at_, 0 ≤ c ∧ c ≤ 2 * g.kinds.length
  h0 : HandOk g p.h0
  h1 : HandOk g p.h1
  r0 : 0 ≤ p.rights
  r1 : p.rights < 2 ^ g.rights.toNat
  s : p.side = 0 ∨ p.side = 1
theorem pOk_iff {g : GameD} {p : PosD} : posOk g p = true ↔ POk g p := by
  rw [posOk_iff, handOk_iff, handOk_iff]
  exact ⟨fun ⟨a, b, c, d, e, f, g⟩ => ⟨a, b, c, d, e, f, g⟩, fun ⟨a, b, c, d, e, f, g⟩ => ⟨a, b, c, d, e, f, g⟩⟩
theorem POk.fits {g : GameD} (hg : GOk g) {p : PosD} (h : POk g p) : FitsP p := by
  have := hg.c9
  have := hg.k6
  have a := h.al
  have b := h.h0.len
  have c := h.h1.len
  unfold FitsP Fits
  omega
structure StOk (g : GameD) (s : StD) : Prop where
  p : POk g s.p
  c0 : 0 ≤ s.cursor
  c1 : s.cursor < g.cells
  k : 0 ≤ s.kind ∧ s.kind < g.kinds.length
/-! ### contents -/
theorem manOf_cases {c : Int} {K : Nat} (h0 : 0 ≤ c) (h1 : c ≤ 2 * K) (hK : K ≤ 6) :
    (c = 0 ∧ manOf c = (-1, -1)) ∨ (c ≠ 0 ∧ 0 ≤ (manOf c).1 ∧ (manOf c).1 < K ∧ ((manOf c).2 = 0 ∨ (manOf c).2 = 1) ∧ c = 1 + 2 * (manOf c).1 + (manOf c).2) := by
  unfold manOf
  by_cases hc : c = 0
  · left; rw [if_neg (by omega)]; exact ⟨hc, rfl⟩
  · right
    rw [if_pos (by omega)]
    have e1 : (c - 1).tdiv 2 = (c - 1) / 2 := Int.tdiv_eq_ediv_of_nonneg (by omega)
    have e2 : (c - 1).tmod 2 = (c - 1) % 2 := Int.tmod_eq_emod_of_nonneg (by omega)
    simp only [e1, e2]
    omega
theorem codeOf_ok {k s : Int} {K : Nat} (hk : 0 ≤ k ∧ k < K) (hK : K ≤ 6) (hs : s = 0 ∨ s = 1) : codeOf k s = 1 + 2 * k + s := by
  unfold codeOf
  rw [if_pos (by omega)]; omega
theorem andNot_small : ∀ (r : Fin 16) (m : Fin 4), 0 ≤ andNotN .i64 (r.val : Int) (2 ^ m.val) ∧ andNotN .i64 (r.val : Int) (2 ^ m.val) ≤ (r.val : Int) := by decide
theorem andNot_le {r : Int} {m : Nat} (h0 : 0 ≤ r) (h1 : r < 16) (hm : m < 4) : 0 ≤ andNotN .i64 r (2 ^ m) ∧ andNotN .i64 r (2 ^ m) ≤ r := by
  have := andNot_small ⟨r.toNat, by omega⟩ ⟨m, hm⟩
  simp only [Int.toNat_of_nonneg h0] at this
  exact this
theorem pow_le16 {r : Int} (h0 : 0 ≤ r) (h4 : r ≤ 4) : (1 : Int) ≤ 2 ^ r.toNat ∧ (2 : Int) ^ r.toNat ≤ 16 := by
  rcases (show r.toNat = 0 ∨ r.toNat = 1 ∨ r.toNat = 2 ∨ r.toNat = 3 ∨ r.toNat = 4 by omega) with h | h | h | h | h <;> rw [h] <;> decide
/-! ### lines -/
theorem lineGo_mem {b : BoardD} (hb : BoardOk b) {side d c : Int} : ∀ (f : Nat) (x : Int) (seen : List Int), x < b.cells → (∀ y ∈ seen, 0 ≤ y ∧ y < b.cells) → ∀ y ∈ lineGo b side d c f x seen, 0 ≤ y ∧ y < b.cells
  | 0, x, seen, _, h, y, hy => h y hy
  | f + 1, x, seen, hx, h, y, hy => by
    rw [lineGo] at hy
    split at hy
    · rename_i hc
      refine lineGo_mem hb f _ _ (toB_lt hb _ _ _) (fun z hz => ?_) y hy
      rcases List.mem_append.1 hz with hz | hz
      · exact h z hz
      · simp at hz; omega
    · exact h y hy
theorem lineB_mem {b : BoardD} (hb : BoardOk b) {side d c : Int} : ∀ y ∈ lineB b side d c, 0 ≤ y ∧ y < b.cells :=
  lineGo_mem hb _ _ _ (toB_lt hb _ _ _) (by simp)
theorem lineGo_len {b : BoardD} {side d c : Int} : ∀ (f : Nat) (x : Int) (seen : List Int), (lineGo b side d c f x seen).length ≤ seen.length + f
  | 0, x, seen => by simp [lineGo]
  | f + 1, x, seen => by
    rw [lineGo]
    split
    · have := lineGo_len (b := b) (side := side) (d := d) (c := c) f (toB b side d x) (seen ++ [x])
      simp at this; omega
    · omega
theorem lineB_len {b : BoardD} {side d c : Int} : (lineB b side d c).length ≤ b.cells.toNat + 1 := by
  have := lineGo_len (b := b) (side := side) (d := d) (c := c) (b.cells.toNat + 1) (toB b side d c) []
  simpa [lineB] using this
/-! ### positions -/
theorem POk.setAt {g : GameD} {p : PosD} (h : POk g p) (i : Nat) {v : Int} (hv : 0 ≤ v ∧ v ≤ 2 * g.kinds.length) : POk g { p with at_ := p.at_.set i v } :=
  ⟨by simpa using h.al, fun c hc => by rcases List.mem_or_eq_of_mem_set hc with hc | rfl; exact h.av c hc; exact hv, h.h0, h.h1, h.r0, h.r1, h.s⟩
theorem POk.hand {g : GameD} {p : PosD} (h : POk g p) (side : Int) : HandOk g (p.hand side) := by unfold PosD.hand; split; exact h.h0; exact h.h1
theorem POk.withHand {g : GameD} {p : PosD} (h : POk g p) (side : Int) {l : List Int} (hl : HandOk g l) : POk g (p.withHand side l) := by
  unfold PosD.withHand
  split
  · exact ⟨h.al, h.av, hl, h.h1, h.r0, h.r1, h.s⟩
  · exact ⟨h.al, h.av, h.h0, hl, h.r0, h.r1, h.s⟩
theorem HandOk.set {g : GameD} {l : List Int} (h : HandOk g l) (i : Nat) {v : Int} (hv : 0 ≤ v ∧ v ≤ 8) (hk : 0 < v → (nth g.kinds i).keep = true) : HandOk g (l.set i v) := by
  refine ⟨by simpa using h.len, fun j hj => ?_⟩
  have hj' : j < l.length := by simpa using hj
  rw [nth_setE]
  split
  · rename_i e
    obtain ⟨rfl, _⟩ := e
    exact ⟨hv.1, hv.2, hk⟩
  · exact h.v j hj'
theorem POk.at {g : GameD} {p : PosD} (h : POk g p) {i : Nat} (hi : (i : Int) < g.cells) : 0 ≤ nth p.at_ i ∧ nth p.at_ i ≤ 2 * g.kinds.length :=
  h.av _ (nth_mem (by have := h.al; omega))
theorem POk.side {g : GameD} {p : PosD} (h : POk g p) {s : Int} (hs : s = 0 ∨ s = 1) : POk g { p with side := s } := ⟨h.al, h.av, h.h0, h.h1, h.r0, h.r1, hs⟩
theorem withHand_side (p : PosD) (s : Int) (l : List Int) : (p.withHand s l).side = p.side := by unfold PosD.withHand; split <;> rfl
theorem clr_side (p : PosD) (c : Int) : (clr p c).side = p.side := rfl
theorem POk.clr {g : GameD} {p : PosD} (h : POk g p) (c : Int) : POk g (clr p c) := h.setAt _ (by omega)
theorem slideGo_ok {g : GameD} {s : StD} (h : StOk g s) : ∀ {l : List Int}, (∀ y ∈ l, 0 ≤ y ∧ y < g.cells) → ∀ t ∈ slideGo s l, StOk g t ∧ t.p.side = s.p.side
  | [], _, t, ht => by simp [slideGo] at ht
  | c :: l, hl, t, ht => by
    rw [slideGo, List.mem_cons] at ht
    rcases ht with rfl | ht
    · have := hl c (by simp)
      exact ⟨⟨h.p, this.1, this.2, h.k⟩, rfl⟩
    · split at ht
      · exact slideGo_ok h (fun y hy => hl y (List.mem_cons_of_mem _ hy)) t ht
      · simp at ht
theorem slideGo_len {s : StD} : ∀ (l : List Int), (slideGo s l).length ≤ l.length
  | [] => by simp [slideGo]
  | c :: l => by
    rw [slideGo]
    have := slideGo_len (s := s) l
    split <;> simp <;> omega
theorem stepS_ok {g : GameD} (hg : GOk g) {s : StD} (h : StOk g s) {x : Int × Int} (hx : StepOk g.next.length g.kinds.length g.rights x) : ∀ t ∈ stepS g s x, StOk g t ∧ t.p.side = s.p.side := by
  intro t ht
  have hb := hg.board
  have hcur : (s.cursor.toNat : Int) < g.cells := by have := h.c0; have := h.c1; omega
  have hat := h.p.at hcur
  have only : ∀ {u : StD} {b : Bool}, t ∈ onlyS u b → b = true ∧ t = u := fun {u b} hu => by
    unfold onlyS at hu
    split at hu
    · rename_i hb'; exact ⟨hb', by simpa using hu⟩
    · simp at hu
  have hbc : g.board.cells = g.cells := rfl
  unfold stepS at ht
  simp only at ht
  split at ht
  · obtain ⟨h1, rfl⟩ := only ht
    have := toB_lt hb s.p.side x.2 s.cursor
    exact ⟨⟨h.p, by simpa using h1, by rw [hbc] at this; exact this, h.k⟩, rfl⟩
  split at ht
  · exact slideGo_ok h (fun y hy => lineB_mem hb y hy) t ht
  split at ht
  · obtain ⟨h1, rfl⟩ := only ht; exact ⟨h, rfl⟩
  split at ht
  · obtain ⟨h1, rfl⟩ := only ht; exact ⟨h, rfl⟩
  split at ht
  · obtain ⟨h1, rfl⟩ := only ht; exact ⟨h, rfl⟩
  split at ht
  · unfold takeS at ht
    simp only at ht
    split at ht
    · simp at ht
    · rename_i hm
      split at ht
      · rename_i hkeep
        split at ht
        · simp at ht
        · rename_i h8
          simp only [List.mem_singleton] at ht
          subst ht
          refine ⟨⟨(h.p.clr _).withHand _ ((h.p.hand _).set _ ?_ (fun _ => hkeep)), h.c0, h.c1, h.k⟩, withHand_side _ _ _⟩
          have hh := h.p.hand s.p.side
          rcases manOf_cases hat.1 hat.2 hg.k6 with ⟨e, e2⟩ | ⟨e, e2, e3, _⟩
          · rw [e2] at hm; simp at hm
          · have := hh.v (manOf (nth s.p.at_ s.cursor.toNat)).1.toNat (by rw [hh.len]; omega)
            omega
      · simp only [List.mem_singleton] at ht
        subst ht
        exact ⟨⟨h.p.clr _, h.c0, h.c1, h.k⟩, rfl⟩
  split at ht
  · unfold pushS at ht
    simp only at ht
    split at ht
    · simp at ht
    · simp only [List.mem_singleton] at ht
      subst ht
      exact ⟨⟨(h.p.setAt _ hat).setAt _ (by omega), h.c0, h.c1, h.k⟩, rfl⟩
  split at ht
  · rename_i e
    simp only [List.mem_singleton] at ht
    subst ht
    exact ⟨⟨h.p, h.c0, h.c1, hx.kind e⟩, rfl⟩
  split at ht
  · obtain ⟨h1, rfl⟩ := only ht; exact ⟨h, rfl⟩
  split at ht
  · rename_i e
    simp only [List.mem_singleton] at ht
    subst ht
    have hr := hx.right (.inr e)
    have hp := pow_le16 hg.r0 hg.r4
    have a := h.p.r0
    have b := h.p.r1
    have c := hg.r4
    obtain ⟨k1, k2⟩ := andNot_le (r := s.p.rights) (m := x.2.toNat) a (by omega) (by omega)
    exact ⟨⟨⟨h.p.al, h.p.av, h.p.h0, h.p.h1, k1, by simp only; omega, h.p.s⟩, h.c0, h.c1, h.k⟩, rfl⟩
  · simp only [List.mem_singleton] at ht
    subst ht
    exact ⟨h, rfl⟩
theorem stepS_len {g : GameD} (hg : GOk g) (s : StD) (x : Int × Int) : (stepS g s x).length ≤ 10 := by
  have c9 := hg.c9
  have on : ∀ (u : StD) (b : Bool), (onlyS u b).length ≤ 10 := fun u b => by unfold onlyS; split <;> simp
  unfold stepS
  simp only
  split; exact on _ _
  split
  · have h1 := slideGo_len (s := s) (lineB g.board s.p.side x.2 s.cursor)
    have h2 := lineB_len (b := g.board) (side := s.p.side) (d := x.2) (c := s.cursor)
    have : g.board.cells = g.cells := rfl
    unfold slideS; omega
  split; exact on _ _
  split; exact on _ _
  split; exact on _ _
  split
  · unfold takeS; simp only; (repeat' split) <;> simp
  split
  · unfold pushS; simp only; (repeat' split) <;> simp
  split; simp
  split; exact on _ _
  split <;> simp
end Go.Av
end
section
set_option linter.unusedSimpArgs false
set_option linter.unusedVariables false
set_option maxRecDepth 8000
open Go Go.Proofs
namespace Go.Av
/-- what a program of the library is made of -/
structure LibOk (p : List (Int × Int)) : Prop where
  len : p.length ≤ 6
  st : ∀ x ∈ p, 1 ≤ x.1 ∧ x.1 ≤ 10 ∧ 0 ≤ x.2 ∧ (x.1 = 3 ∨ x.1 = 4 ∨ x.1 = 5 ∨ x.1 = 6 → x.2 = 0)
  take : countOp p 6 ≤ 2
  push : countOp p 7 ≤ 1
  become : countOp p 8 ≤ 1
theorem libL_ok {d e k r : Int} (hd : 0 ≤ d) (he : 0 ≤ e) (hk : 0 ≤ k) (hr : 0 ≤ r) (i : Nat) : LibOk (nth (libL d e k r) i) := by
  have h4 := Int.tmod_nonneg 8 (show 0 ≤ d + 4 by omega)
  rcases Nat.lt_or_ge i 16 with h | h
  · have : ∀ p ∈ libL d e k r, LibOk p := by
      intro p hp
      simp only [libL, List.mem_cons, List.not_mem_nil, or_false] at hp
      rcases hp with rfl | rfl | rfl | rfl | rfl | rfl | rfl | rfl | rfl | rfl | rfl | rfl | rfl | rfl | rfl | rfl <;>
        exact ⟨by simp, by simp <;> omega, by simp [countOp], by simp [countOp], by simp [countOp]⟩
    exact this _ (nth_mem h)
  · have e : nth (libL d e k r) i = [] := by
      unfold nth
      rw [List.getD_eq_getElem?_getD, List.getElem?_eq_none (by exact h)]; rfl
    rw [e]
    exact ⟨by simp, by simp, by simp [countOp], by simp [countOp], by simp [countOp]⟩
theorem fitStep_op {dirs kinds rights : Int} {x y : Int × Int} (h : fitStep dirs kinds rights x = some y) : y.1 = x.1 := by
  unfold fitStep at h
  split at h
  · simp only [Option.some.injEq] at h; rw [← h]
  · split at h
    · simp only [Option.some.injEq] at h; rw [← h]
    · split at h
      · split at h
        · cases h
        · simp only [Option.some.injEq] at h; rw [← h]
      · simp only [Option.some.injEq] at h; rw [← h]
theorem fit_count {dirs kinds rights : Int} (op : Int) : ∀ p : List (Int × Int), countOp (p.filterMap (fitStep dirs kinds rights)) op ≤ countOp p op
  | [] => by simp [countOp]
  | x :: p => by
    have ih := fit_count (dirs := dirs) (kinds := kinds) (rights := rights) op p
    unfold countOp at *
    rw [List.filterMap_cons]
    cases hf : fitStep dirs kinds rights x with
    | none => simp only [List.countP_cons]; omega
    | some y =>
      have := fitStep_op hf
      simp only [List.countP_cons, this]
      omega
theorem fitP_ok {dirs kinds rights : Int} (hd : 1 ≤ dirs) (hk : 1 ≤ kinds) (hr : 0 ≤ rights) {p : List (Int × Int)} (hp : LibOk p) : ProgOk dirs kinds rights (fitP dirs kinds rights p) := by
  have h0 : ProgOk dirs kinds rights [(3, 0)] := by
    refine ⟨by simp, by simp, fun x hx => ?_, by simp [countOp], by simp [countOp], by simp [countOp]⟩
    simp only [List.mem_singleton] at hx
    subst hx
    exact ⟨by simp, by simp, by simp, by simp, by simp⟩
  unfold fitP
  split
  · exact h0
  · rename_i hne
    have hl : (p.filterMap (fitStep dirs kinds rights)).length ≤ p.length := List.length_filterMap_le _ _
    have hpos := List.length_pos_iff.2 hne
    refine ⟨by omega, by have := hp.len; omega, fun y hy => ?_, Nat.le_trans (fit_count 6 p) hp.take, Nat.le_trans (fit_count 7 p) hp.push, Nat.le_trans (fit_count 8 p) hp.become⟩
    obtain ⟨x, hx, hf⟩ := List.mem_filterMap.1 hy
    obtain ⟨a, b, c, d⟩ := hp.st x hx
    have m1 := Int.tmod_nonneg dirs c
    have m2 := Int.tmod_lt_of_pos x.2 (show 0 < dirs by omega)
    have m3 := Int.tmod_nonneg kinds c
    have m4 := Int.tmod_lt_of_pos x.2 (show 0 < kinds by omega)
    have m5 := Int.tmod_nonneg rights c
    unfold fitStep at hf
    split at hf
    · simp only [Option.some.injEq] at hf; subst hf
      exact ⟨by simp only; omega, by simp only; omega, by simp only; omega, by simp only; omega, by simp only; omega⟩
    · split at hf
      · simp only [Option.some.injEq] at hf; subst hf
        exact ⟨by simp only; omega, by simp only; omega, by simp only; omega, by simp only; omega, by simp only; omega⟩
      · split at hf
        · split at hf
          · cases hf
          · rename_i hr0
            have m6 := Int.tmod_lt_of_pos x.2 (show 0 < rights by omega)
            simp only [Option.some.injEq] at hf; subst hf
            exact ⟨by simp only; omega, by simp only; omega, by simp only; omega, by simp only; omega, by simp only; omega⟩
        · simp only [Option.some.injEq] at hf; subst hf
          exact ⟨by omega, by omega, by omega, by omega, by omega⟩
theorem madeP_ok {n dirs kinds rights : Int} (hn : U8 n) (hd : 1 ≤ dirs) (hk : 1 ≤ kinds) (hr : 0 ≤ rights) : ProgOk dirs kinds rights (madeP n dirs kinds rights) := by
  obtain ⟨n0, n1⟩ := hn
  have q0 : 0 ≤ n.tdiv 16 := by rw [Int.tdiv_eq_ediv_of_nonneg n0]; omega
  have q1 : 0 ≤ n.tdiv 3 := by rw [Int.tdiv_eq_ediv_of_nonneg n0]; omega
  have q2 := Int.tmod_nonneg 5 n0
  exact fitP_ok hd hk hr (libL_ok (Int.tmod_nonneg _ q0) (Int.tmod_nonneg _ (by omega)) (Int.tmod_nonneg _ q1) (Int.tmod_nonneg _ n0) _)
theorem madeB_turn (w h cut : Int) (d : Nat) (hd : d < (madeB w h cut).turn.length) : nth (madeB w h cut).turn (nth (madeB w h cut).turn d).toNat = d := by
  have ht : (madeB w h cut).turn = gridTurn 8 := by unfold madeB; split <;> rfl
  rw [ht] at hd ⊢
  have h8 : d < 8 := by simpa [gridTurn] using hd
  have : ∀ d : Fin 8, nth (gridTurn 8) (nth (gridTurn 8) d.val).toNat = (d.val : Int) := by decide
  exact this ⟨d, h8⟩
theorem madeG_ok {x : RawG} (hx : RawOk x) : GOk (madeG x) := by
  have hb : BoardOk x.board := boardOk_made hx.w.1 hx.h.1 x.cut
  have hc := madeB_cells hx.w.1 hx.h.1 x.cut
  have hd : x.board.next.length = 8 := madeB_dirs x.w x.h x.cut
  have hK : kindsN x = 1 ∨ kindsN x = 2 := by unfold kindsN; split <;> simp
  have hkl : (madeG x).kinds.length = kindsN x := by simp [madeG]
  have r0 : 0 ≤ x.rights := Int.tmod_nonneg 3 hx.f0.1
  have r1 : x.rights < 3 := Int.tmod_lt_of_pos x.f0 (show (0 : Int) < 3 by decide)
  have t : ∀ n : Int, U8 n → 0 ≤ (n.tdiv 4).tmod 3 ∧ (n.tdiv 4).tmod 3 < 3 := fun n hn => by
    have : 0 ≤ n.tdiv 4 := by rw [Int.tdiv_eq_ediv_of_nonneg hn.1]; have := hn.1; omega
    exact ⟨Int.tmod_nonneg 3 this, Int.tmod_lt_of_pos _ (by decide)⟩
  have t3 := t _ hx.f3
  have t4 := t _ hx.f4
  have hcl : x.board.cells = (madeG x).cells := rfl
  have hc' : 1 ≤ x.board.cells ∧ x.board.cells ≤ 9 := hc
  refine ⟨hb, hc'.1, hc'.2, by show 1 ≤ x.board.next.length; omega, by show x.board.next.length ≤ 8; omega, madeB_turn x.w x.h x.cut, by omega, by omega, fun k hk => ?_, fun k hk p hp => ?_, r0, ?_, fun c hcm => ?_, ?_, ?_, ?_⟩
  · obtain ⟨i, _, rfl⟩ := List.mem_map.1 hk
    simp only [kindOf, List.length_map, List.length_take]; omega
  · rw [hkl]
    obtain ⟨i, _, rfl⟩ := List.mem_map.1 hk
    obtain ⟨n, hn, rfl⟩ := List.mem_map.1 hp
    have hn' := List.mem_of_mem_take hn
    have hu : U8 n := by
      unfold RawG.ks at hn'
      split at hn'
      · exact hx.k0 n hn'
      · exact hx.k1 n hn'
    exact madeP_ok hu (show (1 : Int) ≤ x.board.next.length by omega) (show (1 : Int) ≤ kindsN x by omega) r0
  · show x.rights ≤ 4; omega
  · rw [hkl]
    obtain ⟨c0, h0, rfl⟩ := List.mem_map.1 hcm
    obtain ⟨u0, u1, u2⟩ := hx.c _ (List.mem_of_mem_take h0)
    have a0 := Int.tmod_nonneg 3 u0.1
    have a1 := Int.tmod_lt_of_pos c0.1 (show (0 : Int) < 3 by decide)
    have b0 := Int.tmod_nonneg (kindsN x : Int) u1.1
    have b1 := Int.tmod_lt_of_pos c0.2.1 (show (0 : Int) < kindsN x by omega)
    have d0 := Int.tmod_nonneg x.board.cells u2.1
    have d1 := Int.tmod_lt_of_pos c0.2.2 (show (0 : Int) < x.board.cells by omega)
    have e0 := Int.tmod_nonneg 3 u2.1
    have e1 := Int.tmod_lt_of_pos c0.2.2 (show (0 : Int) < 3 by decide)
    have t0 := t _ u0
    rw [← hcl]
    refine ⟨?_, ?_, ?_, ?_, ?_⟩ <;> simp only [clauseOf]
    · omega
    · split <;> omega
    · split
      · omega
      · split <;> omega
    · omega
    · intro h; rw [if_neg (by omega)]
  · show ((x.c.take 3).map _).length ≤ 6
    simp; omega
  · show 1 ≤ (if x.f3.tmod 4 = 3 then 1 + (x.f3.tdiv 4).tmod 3 else 3) ∧ (if x.f3.tmod 4 = 3 then 1 + (x.f3.tdiv 4).tmod 3 else 3) ≤ 3
    split <;> omega
  · show 1 ≤ (if x.f4.tmod 4 = 3 then 1 + (x.f4.tdiv 4).tmod 3 else 2) ∧ (if x.f4.tmod 4 = 3 then 1 + (x.f4.tdiv 4).tmod 3 else 2) ≤ 3
    split <;> omega
theorem madePos_ok {g : GameD} (hg : GOk g) {x : RawP} (hx : RawPOk x) : POk g (madePos g x) := by
  have c1 := hg.c1
  have k1 := hg.k1
  have hat : ∀ n, n ≤ 6 → ∀ c ∈ madeAt g x n, 0 ≤ c ∧ c ≤ 2 * g.kinds.length := by
    intro n
    induction n with
    | zero => intro _ c hc; simp [madeAt] at hc; omega
    | succ n ih =>
      intro hn c hc
      rw [madeAt_succ] at hc
      unfold atStep at hc
      split at hc
      · rcases List.mem_or_eq_of_mem_set hc with hc | rfl
        · exact ih (by omega) c hc
        · have hkv : U8 (nth x.kind n) := hx.kv _ (nth_mem (by rw [hx.k6]; omega))
          have a := Int.tmod_nonneg (g.kinds.length : Int) hkv.1
          have b := Int.tmod_lt_of_pos (nth x.kind n) (show (0 : Int) < g.kinds.length by omega)
          have c := Int.tmod_nonneg 2 (show (0 : Int) ≤ n by omega)
          have d := Int.tmod_lt_of_pos (n : Int) (show (0 : Int) < 2 by decide)
          omega
      · exact ih (by omega) c hc
  have hh : ∀ s, s < 2 → HandOk g (handL g x s (min g.kinds.length 2)) := by
    intro s hs
    refine ⟨handL_len _ _ _ _, fun i hi => ?_⟩
    rw [handL_len] at hi
    have e : nth (handL g x s (min g.kinds.length 2)) i = if i < min g.kinds.length 2 then handV g x s i else 0 := by
      unfold handL
      rw [nth_map _ _ _ (by simpa using hi)]
      simp [nth, hi]
    rw [e]
    split
    · have hv : U8 (nth x.hand (2 * s + i)) := hx.hv _ (nth_mem (by rw [hx.h4]; omega))
      have a := Int.tmod_nonneg 3 hv.1
      have b := Int.tmod_lt_of_pos (nth x.hand (2 * s + i)) (show (0 : Int) < 3 by decide)
      unfold handV
      split
      · rename_i hk
        split <;> exact ⟨by omega, by omega, fun _ => hk⟩
      · exact ⟨by omega, by omega, fun h => by omega⟩
    · exact ⟨by omega, by omega, fun h => by omega⟩
  have hp := pow_le16 hg.r0 hg.r4
  refine ⟨?_, hat 6 (Nat.le_refl _), hh 0 (by omega), hh 1 (by omega), Int.tmod_nonneg _ hx.r.1, Int.tmod_lt_of_pos _ (by omega), ?_⟩
  · show ((madeAt g x 6).length : Int) = g.cells
    rw [madeAt_len]; omega
  · have a := Int.tmod_nonneg 2 hx.s.1
    have b := Int.tmod_lt_of_pos x.side (show (0 : Int) < 2 by decide)
    show x.side.tmod 2 = 0 ∨ x.side.tmod 2 = 1
    omega
end Go.Av
end
section
set_option linter.unusedSimpArgs false
set_option linter.unusedVariables false
open Go Go.Proofs
namespace Go.Av
abbrev ActD := Int × Int × Int
structure PathD where
  acts : List ActD
  to : Int
  deriving DecidableEq
instance : Inhabited PathD := ⟨⟨[], 0⟩⟩
def encAct (a : ActD) : List AV := [.v (.int .i64 a.1), .v (.int .i64 a.2.1), .v (.int .i64 a.2.2)]
def encAs (l : List ActD) : AV := .lst 3 (l.map encAct)
def encPath (p : PathD) : List AV := [encAs p.acts, .v (.int .i64 p.to)]
def encPt (l : List PathD) : AV := .lst 2 (l.map encPath)
def encCells (l : List (List PathD)) : AV := .lst 1 (l.map fun x => [encPt x])
def encSide (l : List (List (List PathD))) : AV := .lst 1 (l.map fun x => [encCells x])
abbrev CodeD := List (List (List PathD)) × List (List (List PathD))
def encCode (c : CodeD) : List AV := [encSide c.1, encSide c.2]
attribute [go_sem] encAct encAs encPath encPt encCells encSide encCode
theorem bel_A {n : Nat} {l : List ActD} : (∀ r ∈ l.map encAct, ∀ c ∈ r, Bel n c) = True := by
  refine eq_true ?_
  intro r hr c hc
  obtain ⟨x, _, rfl⟩ := List.mem_map.1 hr
  revert c
  simp [go_sem]
theorem bel_As {n : Nat} {l : List ActD} : Bel n (.lst 3 (l.map encAct)) = True := by rw [Bel_lst, bel_A]
theorem bel_Pa {n : Nat} {l : List PathD} : (∀ r ∈ l.map encPath, ∀ c ∈ r, Bel n c) = True := by
  refine eq_true ?_
  intro r hr c hc
  obtain ⟨x, _, rfl⟩ := List.mem_map.1 hr
  simp only [encPath, encAs, List.mem_cons, List.not_mem_nil, or_false] at hc
  rcases hc with rfl | rfl
  · exact of_eq_true bel_As
  · exact .v _
theorem bel_Pas {n : Nat} {l : List PathD} : Bel n (.lst 2 (l.map encPath)) = True := by rw [Bel_lst, bel_Pa]
theorem bel_Ce {n : Nat} {l : List (List PathD)} : (∀ r ∈ l.map (fun x => [AV.lst 2 (x.map encPath)]), ∀ c ∈ r, Bel n c) = True := by
  refine eq_true ?_
  intro r hr c hc
  obtain ⟨x, _, rfl⟩ := List.mem_map.1 hr
  simp only [List.mem_cons, List.not_mem_nil, or_false] at hc
  subst hc
  exact of_eq_true bel_Pas
theorem bel_Ces {n : Nat} {l : List (List PathD)} : Bel n (.lst 1 (l.map (fun x => [AV.lst 2 (x.map encPath)]))) = True := by rw [Bel_lst, bel_Ce]
theorem bel_Si {n : Nat} {l : List (List (List PathD))} : (∀ r ∈ l.map (fun x => [AV.lst 1 (x.map (fun x => [AV.lst 2 (x.map encPath)]))]), ∀ c ∈ r, Bel n c) = True := by
  refine eq_true ?_
  intro r hr c hc
  obtain ⟨x, _, rfl⟩ := List.mem_map.1 hr
  simp only [List.mem_cons, List.not_mem_nil, or_false] at hc
  subst hc
  exact of_eq_true bel_Ces
theorem bel_Sis {n : Nat} {l : List (List (List PathD))} : Bel n (.lst 1 (l.map (fun x => [AV.lst 1 (x.map (fun x => [AV.lst 2 (x.map encPath)]))]))) = True := by rw [Bel_lst, bel_Si]
attribute [go_sem high] bel_As bel_Pas bel_Ces bel_Sis
attribute [go_sem ↓] bel_A bel_Pa bel_Ce bel_Si
/-! ### paths -/
def onP (p : PathD) (to : Int) (more : List ActD) : PathD := ⟨p.acts ++ more, to⟩
def slideP (p : PathD) : List Int → List ActD → List PathD
  | [], _ => []
  | c :: l, passed => onP p c passed :: slideP p l (passed ++ [(3, c, 0)])
def extP (b : BoardD) (side : Int) (p : PathD) (x : Int × Int) : List PathD :=
  if x.1 = 1 ∨ x.1 = 7 then
    if toB b side x.2 p.to < 0 then [] else if x.1 = 1 then [onP p (toB b side x.2 p.to) []] else [onP p p.to [(7, p.to, toB b side x.2 p.to)]]
  else if x.1 = 2 then slideP p (lineB b side x.2 p.to) []
  else if x.1 = 8 ∨ x.1 = 9 ∨ x.1 = 10 then [onP p p.to [(x.1, x.2, 0)]]
  else [onP p p.to [(x.1, p.to, 0)]]
def stepP (b : BoardD) (side : Int) (now : List PathD) (x : Int × Int) : List PathD := now.flatMap fun w => extP b side w x
def pathsP (b : BoardD) (side : Int) (prog : List (Int × Int)) (cell : Int) : List PathD := prog.foldl (stepP b side) [⟨[], cell⟩]
def kindP (b : BoardD) (side : Int) (progs : List (List (Int × Int))) (cell : Int) : List PathD := progs.flatMap fun p => pathsP b side p cell
def cellsP (b : BoardD) (side : Int) (progs : List (List (Int × Int))) : List (List PathD) := (List.range b.cells.toNat).map fun (c : Nat) => kindP b side progs c
def sideP (g : GameD) (side : Int) : List (List (List PathD)) := g.kinds.map fun k => cellsP g.board side k.progs
def codeP (g : GameD) : CodeD := (sideP g 0, sideP g 1)
/-! ### lengths -/
theorem lineGo_nodup {b : BoardD} {side d c : Int} : ∀ (f : Nat) (x : Int) (seen : List Int), seen.Nodup → (lineGo b side d c f x seen).Nodup
  | 0, x, seen, h => by simpa [lineGo] using h
  | f + 1, x, seen, h => by
    rw [lineGo]
    split
    · rename_i hc
      refine lineGo_nodup f _ _ (List.nodup_append.2 ⟨h, by simp, ?_⟩)
      intro y hy z hz
      simp at hz
      subst hz
      rintro rfl
      exact hc.2.2 hy
    · exact h
theorem lineB_le {b : BoardD} (hb : BoardOk b) {side d c : Int} : (lineB b side d c).length ≤ b.cells.toNat :=
  nodup_le _ _ (lineGo_nodup _ _ _ (by simp)) (fun y hy => by have := lineB_mem hb y hy; have := hb.c0; omega)
theorem slideP_len (p : PathD) : ∀ (l : List Int) (passed : List ActD), (slideP p l passed).length = l.length
  | [], _ => rfl
  | c :: l, passed => by simp [slideP, slideP_len p l]
theorem slideP_mem {p w : PathD} : ∀ {l : List Int} {passed : List ActD}, w ∈ slideP p l passed → ∃ more, w.acts = p.acts ++ passed ++ more ∧ more.length ≤ l.length ∧ w.to ∈ l ∧ ∀ a ∈ more, ∃ c ∈ l, a = (3, c, 0)
  | [], _, h => by simp [slideP] at h
  | c :: l, passed, h => by
    simp only [slideP, List.mem_cons] at h
    rcases h with rfl | h
    · exact ⟨[], by simp [onP], by simp, by simp [onP], by simp⟩
    · obtain ⟨more, h1, h2, h3, h4⟩ := slideP_mem h
      refine ⟨(3, c, 0) :: more, by rw [h1]; simp, by simp; omega, List.mem_cons_of_mem _ h3, fun a ha => ?_⟩
      rcases List.mem_cons.1 ha with rfl | ha
      · exact ⟨c, by simp, rfl⟩
      · obtain ⟨c', hc, e⟩ := h4 a ha
        exact ⟨c', List.mem_cons_of_mem _ hc, e⟩
theorem extP_len {b : BoardD} (hb : BoardOk b) (h1 : 1 ≤ b.cells) (side : Int) (p : PathD) (x : Int × Int) : (extP b side p x).length ≤ if x.1 = 2 then b.cells.toNat else 1 := by
  unfold extP
  by_cases h2 : x.1 = 2
  · rw [if_neg (by omega), if_pos h2, if_pos h2, slideP_len]
    exact lineB_le hb
  · rw [if_neg h2, if_neg h2]
    split
    · split
      · simp
      · split <;> simp
    · split <;> simp
theorem flatMap_le {α β : Type} (f : α → List β) (m : Nat) : ∀ (l : List α), (∀ x ∈ l, (f x).length ≤ m) → (l.flatMap f).length ≤ l.length * m
  | [], _ => by simp
  | x :: l, h => by
    have a := h x (by simp)
    have b := flatMap_le f m l (fun y hy => h y (by simp [hy]))
    simp only [List.flatMap_cons, List.length_append, List.length_cons, Nat.add_mul, Nat.one_mul]
    omega
theorem stepP_len {b : BoardD} (hb : BoardOk b) (h1 : 1 ≤ b.cells) (side : Int) (now : List PathD) (x : Int × Int) : (stepP b side now x).length ≤ now.length * if x.1 = 2 then b.cells.toNat else 1 :=
  flatMap_le _ _ _ (fun w _ => extP_len hb h1 side w x)
theorem foldP_len {b : BoardD} (hb : BoardOk b) (h1 : 1 ≤ b.cells) (side : Int) : ∀ (prog : List (Int × Int)) (now : List PathD), (prog.foldl (stepP b side) now).length ≤ now.length * b.cells.toNat ^ countOp prog 2
  | [], now => by simp [countOp]
  | x :: prog, now => by
    have h := foldP_len hb h1 side prog (stepP b side now x)
    have k := stepP_len hb h1 side now x
    rw [List.foldl_cons]
    refine Nat.le_trans h ?_
    refine Nat.le_trans (Nat.mul_le_mul_right _ k) ?_
    unfold countOp at *
    rw [List.countP_cons, Nat.mul_assoc]
    refine Nat.mul_le_mul_left _ ?_
    by_cases h2 : x.1 = 2
    · simp [h2, Nat.pow_succ, Nat.mul_comm]
    · simp [h2]
theorem pathsP_len {b : BoardD} (hb : BoardOk b) (h1 : 1 ≤ b.cells) (side : Int) (prog : List (Int × Int)) (cell : Int) : (pathsP b side prog cell).length ≤ b.cells.toNat ^ countOp prog 2 := by
  have := foldP_len hb h1 side prog [⟨[], cell⟩]
  simpa [pathsP] using this
/-- the acts of a path: not more than 10 a step -/
def ActsLe (n : Nat) (l : List PathD) : Prop := ∀ w ∈ l, w.acts.length ≤ n
theorem extP_acts {b : BoardD} (hb : BoardOk b) (h9 : b.cells ≤ 9) (side : Int) (p : PathD) (x : Int × Int) : ActsLe (p.acts.length + 10) (extP b side p x) := by
  intro w hw
  unfold extP at hw
  split at hw
  · split at hw
    · simp at hw
    · split at hw <;> simp only [List.mem_singleton] at hw <;> subst hw <;> simp [onP]
  · split at hw
    · obtain ⟨more, e1, e2, _, _⟩ := slideP_mem hw
      have := lineB_le hb (side := side) (d := x.2) (c := p.to)
      rw [e1]; simp; omega
    · split at hw <;> simp only [List.mem_singleton] at hw <;> subst hw <;> simp [onP]
theorem stepP_acts {b : BoardD} (hb : BoardOk b) (h9 : b.cells ≤ 9) (side : Int) {n : Nat} {now : List PathD} (hn : ActsLe n now) (x : Int × Int) : ActsLe (n + 10) (stepP b side now x) := by
  intro w hw
  obtain ⟨p, hp, hw⟩ := List.mem_flatMap.1 hw
  have := extP_acts hb h9 side p x w hw
  have := hn p hp
  omega
end Go.Av
end
section
set_option linter.unusedSimpArgs false
set_option linter.unusedVariables false
set_option maxRecDepth 8000
open Go Go.Proofs
namespace Go.Av
/-! ### valid -/
def ActOk (cells kinds rights : Int) (a : ActD) : Prop :=
  (3 ≤ a.1 ∧ a.1 ≤ 6 ∧ (0 ≤ a.2.1 ∧ a.2.1 < cells) ∧ a.2.2 = 0) ∨ (a.1 = 7 ∧ (0 ≤ a.2.1 ∧ a.2.1 < cells) ∧ (0 ≤ a.2.2 ∧ a.2.2 < cells)) ∨
  (a.1 = 8 ∧ (0 ≤ a.2.1 ∧ a.2.1 < kinds) ∧ a.2.2 = 0) ∨ ((a.1 = 9 ∨ a.1 = 10) ∧ (0 ≤ a.2.1 ∧ a.2.1 < rights) ∧ a.2.2 = 0)
def countA (l : List ActD) (op : Int) : Nat := l.countP (fun a => a.1 == op)
structure PathOk (cells kinds rights : Int) (w : PathD) (t p b : Nat) : Prop where
  to : 0 ≤ w.to ∧ w.to < cells
  acts : ∀ a ∈ w.acts, ActOk cells kinds rights a
  take : countA w.acts 6 ≤ t
  push : countA w.acts 7 ≤ p
  become : countA w.acts 8 ≤ b
theorem countA_append (l m : List ActD) (op : Int) : countA (l ++ m) op = countA l op + countA m op := by simp [countA]
theorem countA_slide {l : List Int} {m : List ActD} (h : ∀ a ∈ m, ∃ c ∈ l, a = (3, c, 0)) {op : Int} (ho : op ≠ 3) : countA m op = 0 := by
  unfold countA
  rw [List.countP_eq_zero]
  intro a ha
  obtain ⟨c, _, rfl⟩ := h a ha
  simpa using ho.symm
theorem countA_one (a : ActD) (op : Int) : countA [a] op = if a.1 = op then 1 else 0 := by simp [countA, List.countP_cons]
def isOp (x : Int × Int) (op : Int) : Nat := if x.1 = op then 1 else 0
theorem extP_ok {b : BoardD} (hb : BoardOk b) {kinds rights : Int} {side : Int} {w : PathD} {t p be : Nat} (hw : PathOk b.cells kinds rights w t p be) {x : Int × Int} (hx : StepOk b.next.length kinds rights x) :
    ∀ v ∈ extP b side w x, PathOk b.cells kinds rights v (t + isOp x 6) (p + isOp x 7) (be + isOp x 8) := by
  intro v hv
  obtain ⟨w1, w2, w3, w4, w5⟩ := hw
  obtain ⟨x1, x2, x3, x4, x5⟩ := hx
  have ht := toB_lt hb side x.2 w.to
  unfold extP at hv
  unfold isOp
  split at hv
  · rename_i h17
    split at hv
    · simp at hv
    · split at hv
      · simp only [List.mem_singleton] at hv
        subst hv
        refine ⟨by simp only [onP]; omega, by simpa [onP] using w2, ?_, ?_, ?_⟩ <;> simp only [onP, List.append_nil] <;> omega
      · have e7 : x.1 = 7 := by omega
        simp only [List.mem_singleton] at hv
        subst hv
        refine ⟨w1, fun a ha => ?_, ?_, ?_, ?_⟩
        · simp only [onP, List.mem_append, List.mem_singleton] at ha
          rcases ha with ha | rfl
          · exact w2 a ha
          · exact .inr (.inl ⟨rfl, w1, by simp only; omega⟩)
        all_goals simp only [onP, countA_append, countA_one, e7]; simp only [show ((7 : Int) = 6) = False by decide, show ((7 : Int) = 8) = False by decide, if_true, if_false]; omega
  · split at hv
    · rename_i h2
      obtain ⟨more, e1, e2, e3, e4⟩ := slideP_mem hv
      rw [List.append_nil] at e1
      refine ⟨lineB_mem hb _ e3, fun a ha => ?_, ?_, ?_, ?_⟩
      · rw [e1, List.mem_append] at ha
        rcases ha with ha | ha
        · exact w2 a ha
        · obtain ⟨c, hc, rfl⟩ := e4 a ha
          exact .inl ⟨by simp, by simp, lineB_mem hb _ hc, rfl⟩
      all_goals rw [e1, countA_append, countA_slide e4 (by omega)]; omega
    · split at hv
      · rename_i h17 h2 h8
        simp only [List.mem_singleton] at hv
        subst hv
        refine ⟨w1, fun a ha => ?_, ?_, ?_, ?_⟩
        · simp only [onP, List.mem_append, List.mem_singleton] at ha
          rcases ha with ha | rfl
          · exact w2 a ha
          · rcases h8 with h | h | h
            · exact .inr (.inr (.inl ⟨h, x4 h, rfl⟩))
            · exact .inr (.inr (.inr ⟨.inl h, x5 (.inl h), rfl⟩))
            · exact .inr (.inr (.inr ⟨.inr h, x5 (.inr h), rfl⟩))
        all_goals simp only [onP, countA_append, countA_one]; omega
      · rename_i h17 h2 h8
        simp only [List.mem_singleton] at hv
        subst hv
        refine ⟨w1, fun a ha => ?_, ?_, ?_, ?_⟩
        · simp only [onP, List.mem_append, List.mem_singleton] at ha
          rcases ha with ha | rfl
          · exact w2 a ha
          · exact .inl ⟨by simp only; omega, by simp only; omega, w1, rfl⟩
        all_goals simp only [onP, countA_append, countA_one]; omega
theorem foldP_ok {b : BoardD} (hb : BoardOk b) {kinds rights : Int} {side : Int} : ∀ {prog : List (Int × Int)} {now : List PathD} {t p be : Nat}, (∀ w ∈ now, PathOk b.cells kinds rights w t p be) → (∀ x ∈ prog, StepOk b.next.length kinds rights x) →
    ∀ w ∈ prog.foldl (stepP b side) now, PathOk b.cells kinds rights w (t + countOp prog 6) (p + countOp prog 7) (be + countOp prog 8)
  | [], now, t, p, be, h, _, w, hw => by simpa [countOp] using h w hw
  | x :: prog, now, t, p, be, h, hx, w, hw => by
    rw [List.foldl_cons] at hw
    have := foldP_ok hb (side := side) (prog := prog) (now := stepP b side now x) (t := t + isOp x 6) (p := p + isOp x 7) (be := be + isOp x 8) (fun v hv => by
      obtain ⟨u, hu, hv⟩ := List.mem_flatMap.1 hv
      exact extP_ok hb (h u hu) (hx x (by simp)) v hv) (fun y hy => hx y (by simp [hy])) w hw
    have e : ∀ op, countOp (x :: prog) op = countOp prog op + isOp x op := fun op => by simp [countOp, List.countP_cons, isOp]
    rw [e, e, e]
    simpa [Nat.add_assoc, Nat.add_comm, Nat.add_left_comm] using this
theorem pathsP_ok {b : BoardD} (hb : BoardOk b) {kinds rights side : Int} {prog : List (Int × Int)} (hp : ∀ x ∈ prog, StepOk b.next.length kinds rights x) {cell : Int} (hc : 0 ≤ cell ∧ cell < b.cells) :
    ∀ w ∈ pathsP b side prog cell, PathOk b.cells kinds rights w (countOp prog 6) (countOp prog 7) (countOp prog 8) := by
  intro w hw
  have := foldP_ok hb (side := side) (kinds := kinds) (rights := rights) (prog := prog) (now := [⟨[], cell⟩]) (t := 0) (p := 0) (be := 0) (fun v hv => by
    simp only [List.mem_singleton] at hv
    subst hv
    exact ⟨hc, by simp, by simp [countA], by simp [countA], by simp [countA]⟩) hp w hw
  simpa using this
theorem kindP_ok {g : GameD} (hg : GOk g) {side : Int} {k : KindD} (hk : k ∈ g.kinds) {cell : Int} (hc : 0 ≤ cell ∧ cell < g.cells) : ∀ w ∈ kindP g.board side k.progs cell, PathOk g.cells g.kinds.length g.rights w 2 1 1 := by
  intro w hw
  obtain ⟨p, hp, hw⟩ := List.mem_flatMap.1 hw
  have ok := hg.pr k hk p hp
  obtain ⟨a, b, c, d, e⟩ := pathsP_ok hg.board (side := side) ok.st hc w hw
  exact ⟨a, b, Nat.le_trans c ok.take, Nat.le_trans d ok.push, Nat.le_trans e ok.become⟩
/-! ### turned -/
def turnS (t : List Int) (x : Int × Int) : Int × Int := if x.1 = 1 ∨ x.1 = 2 ∨ x.1 = 7 then (x.1, nth t x.2.toNat) else x
def turnP (t : List Int) (p : List (Int × Int)) : List (Int × Int) := p.map (turnS t)
def turnK (t : List Int) (k : KindD) : KindD := { k with progs := k.progs.map (turnP t) }
def turnG (g : GameD) : GameD := { g with kinds := g.kinds.map (turnK g.turn) }
theorem toB_turn {b : BoardD} (hb : BoardOk b) (ht : ∀ d, d < b.turn.length → nth b.turn (nth b.turn d).toNat = d) {s : Int} (hs : s = 0 ∨ s = 1) {d : Int} (hd : 0 ≤ d ∧ d < b.next.length) (c : Int) :
    toB b (1 - s) (nth b.turn d.toNat) c = toB b s d c := by
  have hdt : d.toNat < b.turn.length := by have := hb.tl; omega
  have h1 := hb.tv _ (nth_mem hdt)
  have h2 := ht d.toNat hdt
  by_cases hc : c < 0 ∨ b.cells ≤ c
  · unfold toB
    rw [if_pos (by omega), if_pos (by omega)]
  have q0 : ∀ y : Int, 0 ≤ y → y < b.next.length → toB b 0 y c = nth (nth b.next y.toNat) c.toNat := fun y h0 h1 => by
    unfold toB
    rw [if_neg (by omega), if_neg (by omega)]
  have q1 : ∀ y : Int, 0 ≤ y → y < b.next.length → toB b 1 y c = nth (nth b.next (nth b.turn y.toNat).toNat) c.toNat := fun y h0 h1 => by
    unfold toB
    rw [if_neg (by omega), if_pos rfl]
  rcases hs with rfl | rfl
  · rw [show (1 : Int) - 0 = 1 from rfl, q1 _ h1.1 h1.2, q0 _ hd.1 hd.2, h2, Int.toNat_natCast]
  · rw [show (1 : Int) - 1 = 0 from rfl, q0 _ h1.1 h1.2, q1 _ hd.1 hd.2]
theorem lineGo_turn {b : BoardD} {s s' d d' : Int} (h : ∀ c, toB b s' d' c = toB b s d c) (c : Int) : ∀ (f : Nat) (x : Int) (seen : List Int), lineGo b s' d' c f x seen = lineGo b s d c f x seen
  | 0, _, _ => rfl
  | f + 1, x, seen => by
    rw [lineGo, lineGo, h, lineGo_turn h c f]
theorem lineB_turn {b : BoardD} {s s' d d' : Int} (h : ∀ c, toB b s' d' c = toB b s d c) (c : Int) : lineB b s' d' c = lineB b s d c := by
  unfold lineB
  rw [h, lineGo_turn h]
theorem extP_turn {b : BoardD} (hb : BoardOk b) (ht : ∀ d, d < b.turn.length → nth b.turn (nth b.turn d).toNat = d) {s : Int} (hs : s = 0 ∨ s = 1) {kinds rights : Int} {x : Int × Int} (hx : StepOk b.next.length kinds rights x) (w : PathD) :
    extP b (1 - s) w (turnS b.turn x) = extP b s w x := by
  have hd := hx.dir
  unfold turnS
  by_cases h : x.1 = 1 ∨ x.1 = 2 ∨ x.1 = 7
  · rw [if_pos h]
    have e := fun c => toB_turn hb ht hs (hd h) c
    have e2 := fun c => lineB_turn e c
    unfold extP
    simp only [e, e2]
    rcases h with h | h | h <;> simp [h]
  · rw [if_neg h]
    rw [not_or, not_or] at h
    unfold extP
    simp [h.1, h.2.1, h.2.2]
theorem foldP_turn {b : BoardD} (hb : BoardOk b) (ht : ∀ d, d < b.turn.length → nth b.turn (nth b.turn d).toNat = d) {s : Int} (hs : s = 0 ∨ s = 1) {kinds rights : Int} : ∀ {prog : List (Int × Int)} (now : List PathD), (∀ x ∈ prog, StepOk b.next.length kinds rights x) →
    (turnP b.turn prog).foldl (stepP b (1 - s)) now = prog.foldl (stepP b s) now
  | [], _, _ => rfl
  | x :: prog, now, h => by
    have e : stepP b (1 - s) now (turnS b.turn x) = stepP b s now x := by
      unfold stepP
      congr 1
      funext w
      exact extP_turn hb ht hs (h x (by simp)) w
    simp only [turnP, List.map_cons, List.foldl_cons]
    rw [e]
    exact foldP_turn hb ht hs _ (fun y hy => h y (by simp [hy]))
theorem cellsP_turn {g : GameD} (hg : GOk g) {s : Int} (hs : s = 0 ∨ s = 1) {k : KindD} (hk : k ∈ g.kinds) : cellsP g.board (1 - s) (k.progs.map (turnP g.turn)) = cellsP g.board s k.progs := by
  unfold cellsP kindP
  refine List.map_congr_left fun c _ => ?_
  rw [List.flatMap_map]
  rw [List.flatMap_def, List.flatMap_def]
  congr 1
  refine List.map_congr_left fun p hp => ?_
  exact foldP_turn hg.board hg.turn hs _ (hg.pr k hk p hp).st
theorem sideP_turn {g : GameD} (hg : GOk g) {s : Int} (hs : s = 0 ∨ s = 1) : sideP (turnG g) (1 - s) = sideP g s := by
  unfold sideP turnG
  simp only [List.map_map]
  refine List.map_congr_left fun k hk => ?_
  exact cellsP_turn hg hs hk
theorem turnS_ok {g : GameD} (hg : GOk g) {kinds rights : Int} {x : Int × Int} (hx : StepOk g.next.length kinds rights x) : StepOk g.next.length kinds rights (turnS g.turn x) := by
  obtain ⟨a, b, c, d, e⟩ := hx
  unfold turnS
  split
  · rename_i h
    have hb := b h
    have hl := hg.board.tl
    have hl' : g.turn.length = g.next.length := hl
    have := hg.board.tv _ (nth_mem (l := g.turn) (i := x.2.toNat) (by omega))
    have h' : 0 ≤ nth g.turn x.2.toNat ∧ nth g.turn x.2.toNat < g.next.length := this
    exact ⟨a, fun _ => h', by simp only; omega, by simp only; omega, by simp only; omega⟩
  · exact ⟨a, b, c, d, e⟩
theorem countOp_turn (t : List Int) (p : List (Int × Int)) (op : Int) : countOp (turnP t p) op = countOp p op := by
  unfold countOp turnP
  rw [List.countP_map]
  congr 1
  funext x
  simp only [Function.comp, turnS]
  split <;> rfl
theorem turnG_ok {g : GameD} (hg : GOk g) : GOk (turnG g) := by
  refine ⟨hg.board, hg.c1, hg.c9, hg.d1, hg.d8, hg.turn, by simpa [turnG] using hg.k1, by simpa [turnG] using hg.k6, ?_, ?_, hg.r0, hg.r4, ?_, hg.cn, hg.bl, hg.en⟩
  · intro k hk
    simp only [turnG, List.mem_map] at hk
    obtain ⟨k0, h0, rfl⟩ := hk
    simpa [turnK] using hg.pn k0 h0
  · intro k hk p hp
    simp only [turnG, List.mem_map] at hk
    obtain ⟨k0, h0, rfl⟩ := hk
    simp only [turnK, List.mem_map] at hp
    obtain ⟨p0, hp0, rfl⟩ := hp
    obtain ⟨a, b, c, d, e, f⟩ := hg.pr k0 h0 p0 hp0
    have hlen : (turnG g).kinds.length = g.kinds.length := by simp [turnG]
    rw [hlen]
    refine ⟨by simpa [turnP] using a, by simpa [turnP] using b, fun x hx => ?_, by rw [countOp_turn]; exact d, by rw [countOp_turn]; exact e, by rw [countOp_turn]; exact f⟩
    simp only [turnP, List.mem_map] at hx
    obtain ⟨x0, hx0, rfl⟩ := hx
    exact turnS_ok hg (c x0 hx0)
  · have hlen : (turnG g).kinds.length = g.kinds.length := by simp [turnG]
    rw [hlen]
    exact hg.cl
/-! ### counted -/
def cntCells (l : List (List PathD)) : Nat := (l.map (·.length)).sum
def cntSide (l : List (List (List PathD))) : Nat := (l.map cntCells).sum
def countC (c : CodeD) : Nat := cntSide c.1 + cntSide c.2
/-- the paths of a program from all cells -/
def progN (b : BoardD) (side : Int) (p : List (Int × Int)) : Nat := ((List.range b.cells.toNat).map fun (c : Nat) => (pathsP b side p c).length).sum
theorem sum_map_add {α : Type} (f g : α → Nat) : ∀ l : List α, (l.map fun x => f x + g x).sum = (l.map f).sum + (l.map g).sum
  | [] => rfl
  | x :: l => by simp [sum_map_add f g l]; omega
theorem sum_map_zero {α : Type} : ∀ l : List α, (l.map fun _ => 0).sum = 0
  | [] => rfl
  | x :: l => by simpa using sum_map_zero l
theorem sum_map_le {α : Type} (f : α → Nat) (m : Nat) : ∀ l : List α, (∀ x ∈ l, f x ≤ m) → (l.map f).sum ≤ l.length * m
  | [], _ => by simp
  | x :: l, h => by
    have := sum_map_le f m l (fun y hy => h y (by simp [hy]))
    have := h x (by simp)
    simp [Nat.add_mul]; omega
theorem cntCells_eq (b : BoardD) (side : Int) : ∀ progs : List (List (Int × Int)), cntCells (cellsP b side progs) = (progs.map (progN b side)).sum
  | [] => by
    unfold cntCells cellsP kindP
    simp only [List.flatMap_nil, List.map_map, List.map_nil, List.sum_nil]
    exact sum_map_zero _
  | p :: progs => by
    have ih := cntCells_eq b side progs
    unfold cntCells cellsP kindP at *
    rw [List.map_map] at ih ⊢
    simp only [List.flatMap_cons, List.map_cons, List.sum_cons, ← ih]
    unfold progN
    rw [← sum_map_add]
    congr 1
    refine List.map_congr_left fun c _ => ?_
    simp
theorem cntSide_eq (g : GameD) (side : Int) : cntSide (sideP g side) = (g.kinds.map fun k => (k.progs.map (progN g.board side)).sum).sum := by
  unfold cntSide sideP
  rw [List.map_map]
  congr 1
  refine List.map_congr_left fun k _ => ?_
  exact cntCells_eq _ _ _
def progW (g : GameD) (p : List (Int × Int)) : Nat := progN g.board 0 p + progN g.board 1 p
theorem countC_eq (g : GameD) : countC (codeP g) = (g.kinds.map fun k => (k.progs.map (progW g)).sum).sum := by
  unfold countC codeP
  rw [cntSide_eq, cntSide_eq, ← sum_map_add]
  congr 1
  refine List.map_congr_left fun k _ => ?_
  rw [← sum_map_add]
  rfl
def bareK (k : KindD) : KindD := { k with progs := [] }
def oneG (g : GameD) (k : Nat) (p : List (Int × Int)) : GameD := { g with kinds := (g.kinds.map bareK).set k { nth g.kinds k with progs := [p] } }
theorem sum_set {α : Type} (f : α → Nat) : ∀ (l : List α) (k : Nat) (x : α), (∀ y ∈ l, f y = 0) → k < l.length → ((l.set k x).map f).sum = f x
  | [], _, _, _, h => by simp at h
  | y :: l, 0, x, h, _ => by
    have : (l.map f).sum = 0 := by
      have := sum_map_le f 0 l (fun z hz => by rw [h z (by simp [hz])]; exact Nat.le_refl _)
      omega
    simp [this]
  | y :: l, k + 1, x, h, hk => by
    have := sum_set f l k x (fun z hz => h z (by simp [hz])) (by simpa using hk)
    rw [List.set_cons_succ, List.map_cons, List.sum_cons, this, h y (by simp), Nat.zero_add]
theorem countC_one {g : GameD} {k : Nat} (hk : k < g.kinds.length) (p : List (Int × Int)) : countC (codeP (oneG g k p)) = progW g p := by
  rw [countC_eq]
  unfold oneG
  simp only
  rw [sum_set]
  · simp only [List.map_cons, List.map_nil, List.sum_cons, List.sum_nil, Nat.add_zero]
    rfl
  · intro y hy
    obtain ⟨z, _, rfl⟩ := List.mem_map.1 hy
    rfl
  · simpa using hk
theorem oneG_ok {g : GameD} (hg : GOk g) {k : Nat} (hk : k < g.kinds.length) {p : List (Int × Int)} (hp : p ∈ (nth g.kinds k).progs) : GOk (oneG g k p) := by
  have hlen : (oneG g k p).kinds.length = g.kinds.length := by simp [oneG]
  refine ⟨hg.board, hg.c1, hg.c9, hg.d1, hg.d8, hg.turn, by rw [hlen]; exact hg.k1, by rw [hlen]; exact hg.k6, ?_, ?_, hg.r0, hg.r4, by rw [hlen]; exact hg.cl, hg.cn, hg.bl, hg.en⟩
  · intro k' hk'
    rcases List.mem_or_eq_of_mem_set hk' with h | rfl
    · obtain ⟨z, _, rfl⟩ := List.mem_map.1 h
      simp [bareK]
    · simp
  · intro k' hk' q hq
    rw [hlen]
    rcases List.mem_or_eq_of_mem_set hk' with h | rfl
    · obtain ⟨z, _, rfl⟩ := List.mem_map.1 h
      simp [bareK] at hq
    · simp only [List.mem_singleton] at hq
      subst hq
      exact hg.pr _ (nth_mem hk) _ hp
/-- at most one slide a program -/
def OneSlide (g : GameD) : Prop := ∀ k ∈ g.kinds, ∀ p ∈ k.progs, countOp p 2 ≤ 1
theorem progN_le {g : GameD} (hg : GOk g) (side : Int) {p : List (Int × Int)} (hs : countOp p 2 ≤ 1) : progN g.board side p ≤ 81 := by
  have c9 := hg.c9
  have c1 := hg.c1
  have := sum_map_le (fun (c : Nat) => (pathsP g.board side p c).length) 9 (List.range g.board.cells.toNat) (fun c _ => by
    have h := pathsP_len hg.board hg.c1 side p c
    have h2 : g.board.cells.toNat ≤ 9 := by have : g.board.cells = g.cells := rfl; omega
    rcases (show countOp p 2 = 0 ∨ countOp p 2 = 1 by omega) with e | e <;> rw [e] at h <;> simp at h <;> omega)
  have h2 : g.board.cells.toNat ≤ 9 := by have : g.board.cells = g.cells := rfl; omega
  rw [List.length_range] at this
  unfold progN
  omega
theorem countC_le {g : GameD} (hg : GOk g) (hs : OneSlide g) : countC (codeP g) ≤ 10000 := by
  rw [countC_eq]
  have := sum_map_le (fun k : KindD => (k.progs.map (progW g)).sum) 1296 g.kinds (fun k hk => by
    have := sum_map_le (progW g) 162 k.progs (fun p hp => by
      have a := progN_le hg 0 (hs k hk p hp)
      have b := progN_le hg 1 (hs k hk p hp)
      unfold progW; omega)
    have := hg.pn k hk
    omega)
  have := hg.k6
  omega
end Go.Av
end
section
set_option linter.unusedSimpArgs false
set_option linter.unusedVariables false
open Go Go.Proofs
set_option maxRecDepth 20000
set_option maxHeartbeats 4000000
namespace Go.Av
theorem R5same_pure (a b : StD) (ha : FitsP a.p) (hb : FitsP b.p) : Pure Tryz.prog 96 [.agg (encState a), .agg (encState b)] (.v (.bool (decide (a = b)))) := by
  refine Pure.of (ACallP.of_awp (by kernel_rfl) Tryz.func96 rfl rfl (Nat.le_of_ble_eq_true rfl) (by kernel_rfl) ?_)
  have hC := Compare_pure _ _ ha hb
  have he := cmpP_eq (p := a.p) (q := b.p)
  obtain ⟨pa, ka, ca, ta⟩ := a
  obtain ⟨pb, kb, cb, tb⟩ := b
  simp only at hC he
  (repeat (first | ((with_reducible refine VC.mkL ?_ fun _ => ?_); · first | omega | exact True.intro | rfl) | ((with_reducible refine VC.mkD ?_ fun _ => ?_); · first | omega | exact True.intro | (intros; omega)) | ((with_reducible refine dEnd.mk ?_ ?_); · kernel_rfl) | (with_reducible refine adrZ.go ?_) | (simp [go_sem])))
  refine aGC.plain _ (fun _ => hC) (by simp [go_sem]) ?_
  (repeat (first | ((with_reducible refine VC.mkL ?_ fun _ => ?_); · first | omega | exact True.intro | rfl) | ((with_reducible refine VC.mkD ?_ fun _ => ?_); · first | omega | exact True.intro | (intros; omega)) | ((with_reducible refine dEnd.mk ?_ ?_); · kernel_rfl) | (with_reducible refine adrZ.go ?_) | (simp [go_sem])))
  refine LeV.of_eq ?_
  by_cases h1 : pa = pb <;> by_cases h2 : ka = kb <;> by_cases h3 : ca = cb <;> cases ta <;> cases tb <;> simp_all
theorem R5only_pure (s : StD) (b : Bool) : Pure Tryz.prog 98 [.agg (encState s), .v (.bool b)] (encSs (onlyS s b)) := by
  refine Pure.of (ACallP.of_awp (by kernel_rfl) Tryz.func98 rfl rfl (Nat.le_of_ble_eq_true rfl) (by kernel_rfl) ?_)
  cases b
  · (repeat (first | ((with_reducible refine VC.mkL ?_ fun _ => ?_); · first | omega | exact True.intro | rfl) | ((with_reducible refine VC.mkD ?_ fun _ => ?_); · first | omega | exact True.intro | (intros; omega)) | ((with_reducible refine dEnd.mk ?_ ?_); · kernel_rfl) | (with_reducible refine adrZ.go ?_) | (simp [go_sem, onlyS])))
    (refine leV_frz rfl (by simp) (by simp [noH, upd]) ?_; first | (simp [go_sem]; done) | (simp [go_sem]; exact List.take_of_length_le (by simp)))
  · (repeat (first | ((with_reducible refine VC.mkL ?_ fun _ => ?_); · first | omega | exact True.intro | rfl) | ((with_reducible refine VC.mkD ?_ fun _ => ?_); · first | omega | exact True.intro | (intros; omega)) | ((with_reducible refine dEnd.mk ?_ ?_); · kernel_rfl) | (with_reducible refine adrZ.go ?_) | (simp [go_sem, onlyS])))
    (refine leV_frz rfl (by simp) (by simp [noH, upd]) ?_; first | (simp [go_sem]; done) | (simp [go_sem]; exact List.take_of_length_le (by simp)))
theorem R5slide_pure (g : GameD) (hg : GOk g) (s : StD) (hs : StOk g s) (n : Int) : Pure Tryz.prog 99 [.agg (encGame g), .agg (encState s), .v (.int .i64 n)] (encSs (slideS g.board s n)) := by
  refine Pure.of (ACallP.of_awp (by kernel_rfl) Tryz.func99 rfl rfl (Nat.le_of_ble_eq_true rfl) (by kernel_rfl) ?_)
  have hL := R1Line_pure g.board hg.board s.p.side n s.cursor
  have hlm := lineB_mem hg.board (side := s.p.side) (d := n) (c := s.cursor)
  have hll := lineB_len (b := g.board) (side := s.p.side) (d := n) (c := s.cursor)
  have c9 := hg.c9
  have c1 := hg.c1
  have hal := hs.p.al
  rw [show g.board.cells = g.cells from rfl] at hlm hll
  unfold slideS
  generalize lineB g.board s.p.side n s.cursor = line at *
  generalize hR : slideGo s line = R
  (repeat (first | ((with_reducible refine VC.mkL ?_ fun _ => ?_); · first | omega | exact True.intro | rfl) | ((with_reducible refine VC.mkD ?_ fun _ => ?_); · first | omega | exact True.intro | (intros; omega)) | ((with_reducible refine dEnd.mk ?_ ?_); · kernel_rfl) | (with_reducible refine adrZ.go ?_) | (simp [go_sem])))
  refine ACallP.plain hL (by simp [go_sem]) ?_
  (repeat (first | ((with_reducible refine VC.mkL ?_ fun _ => ?_); · first | omega | exact True.intro | rfl) | ((with_reducible refine VC.mkD ?_ fun _ => ?_); · first | omega | exact True.intro | (intros; omega)) | ((with_reducible refine dEnd.mk ?_ ?_); · kernel_rfl) | (with_reducible refine adrZ.go ?_) | (simp [go_sem])))
  refine ALoop.start (ALoop.ind (α := Nat × List StD) (fun a => ⟨[(4, .ref 1 0 8 0 0), (7, .sl 2 a.2.length 8 0 a.2.length), (8, encIs line), (9, .v (.int .i64 a.1))], [(1, .rows true 0 8 [encState s]), (2, .rows true a.2.length 8 (a.2.map encState))], 3⟩)
    (fun d a => a.1 + d = line.length ∧ a.2.length = a.1 ∧ R = a.2 ++ slideGo s (line.drop a.1)) ?_ line.length (0, []) ?_) ?_ ?_
  · rintro d ⟨i, out⟩ ⟨i1, i2, i3⟩ hrec
    simp only at i1 i2 i3
    (repeat (first | ((with_reducible refine VC.mkL ?_ fun _ => ?_); · first | omega | exact True.intro | rfl) | ((with_reducible refine VC.mkD ?_ fun _ => ?_); · first | omega | exact True.intro | (intros; omega)) | ((with_reducible refine dEnd.mk ?_ ?_); · kernel_rfl) | (with_reducible refine adrZ.go ?_) | (simp [go_sem])))
    refine aIf.mkL (fun hi => ?_) (fun hi => ?_) <;> simp at hi
    · have hli := hlm _ (nth_mem hi)
      have hlt : (nth line i).toNat < s.p.at_.length := by omega
      rw [dropG_cons hi, slideGo] at i3
      (repeat (first | ((with_reducible refine VC.mkL ?_ fun _ => ?_); · first | omega | exact True.intro | rfl) | ((with_reducible refine VC.mkD ?_ fun _ => ?_); · first | omega | exact True.intro | (intros; omega)) | ((with_reducible refine dEnd.mk ?_ ?_); · kernel_rfl) | (with_reducible refine adrZ.go ?_) | (simp [go_sem, hi, hlt])))
      refine aIf.mkL (fun hz => ?_) (fun hz => ?_) <;> simp at hz
      · rw [if_neg (by simpa using hz)] at i3
        (repeat (first | ((with_reducible refine VC.mkL ?_ fun _ => ?_); · first | omega | exact True.intro | rfl) | ((with_reducible refine VC.mkD ?_ fun _ => ?_); · first | omega | exact True.intro | (intros; omega)) | ((with_reducible refine dEnd.mk ?_ ?_); · kernel_rfl) | (with_reducible refine adrZ.go ?_) | (simp [go_sem])))
        rw [i3]
        (refine leV_frz rfl (by simp) (by simp [noH, upd]) ?_; first | (simp [go_sem]; done) | (simp [go_sem]; exact List.take_of_length_le (by simp)))
      · rw [if_pos (by simpa using hz)] at i3
        (repeat (first | ((with_reducible refine VC.mkL ?_ fun _ => ?_); · first | omega | exact True.intro | rfl) | ((with_reducible refine VC.mkD ?_ fun _ => ?_); · first | omega | exact True.intro | (intros; omega)) | ((with_reducible refine dEnd.mk ?_ ?_); · kernel_rfl) | (with_reducible refine adrZ.go ?_) | (simp [go_sem])))
        refine ALoop.start (hrec (d - 1) (by omega) (i + 1, out ++ [{ s with cursor := nth line i }]) ⟨by simp only; omega, by simp; omega, by simpa using i3⟩) ?_ (by simp)
        simp [go_sem, Wk_eq]
    · rw [List.drop_eq_nil_of_le hi, slideGo] at i3
      (repeat (first | ((with_reducible refine VC.mkL ?_ fun _ => ?_); · first | omega | exact True.intro | rfl) | ((with_reducible refine VC.mkD ?_ fun _ => ?_); · first | omega | exact True.intro | (intros; omega)) | ((with_reducible refine dEnd.mk ?_ ?_); · kernel_rfl) | (with_reducible refine adrZ.go ?_) | (simp [go_sem])))
      rw [i3]
      (refine leV_frz rfl (by simp) (by simp [noH, upd]) ?_; first | (simp [go_sem]; done) | (simp [go_sem]; exact List.take_of_length_le (by simp)))
  · simp [hR]
  · simp [go_sem, Wk_eq]
  · simp
theorem R5take_pure (g : GameD) (hg : GOk g) (s : StD) (hs : StOk g s) : Pure Tryz.prog 100 [.agg (encGame g), .agg (encState s)] (encSs (takeS g s)) := by
  refine Pure.of (ACallP.of_awp (by kernel_rfl) Tryz.func100 rfl rfl (Nat.le_of_ble_eq_true rfl) (by kernel_rfl) ?_)
  have hal := hs.p.al
  have hc0 := hs.c0
  have hc1 := hs.c1
  have hcur : s.cursor.toNat < s.p.at_.length := by omega
  have hO := R3Of_pure (nth s.p.at_ s.cursor.toNat)
  have hat := hs.p.at (i := s.cursor.toNat) (by omega)
  have hman := manOf_cases hat.1 hat.2 hg.k6
  have hcp := copied_owns s.p (hs.p.fits hg)
  unfold takeS
  generalize hm : manOf (nth s.p.at_ s.cursor.toNat) = m at *
  obtain ⟨mk, ms⟩ := m
  simp only [Prod.mk.injEq] at hman
  (repeat (first | ((with_reducible refine VC.mkL ?_ fun _ => ?_); · first | omega | exact True.intro | rfl) | ((with_reducible refine VC.mkD ?_ fun _ => ?_); · first | omega | exact True.intro | (intros; omega)) | ((with_reducible refine dEnd.mk ?_ ?_); · kernel_rfl) | (with_reducible refine adrZ.go ?_) | (simp [go_sem, hcur])))
  refine ACallP.plain hO (by simp [go_sem]) ?_
  (repeat (first | ((with_reducible refine VC.mkL ?_ fun _ => ?_); · first | omega | exact True.intro | rfl) | ((with_reducible refine VC.mkD ?_ fun _ => ?_); · first | omega | exact True.intro | (intros; omega)) | ((with_reducible refine dEnd.mk ?_ ?_); · kernel_rfl) | (with_reducible refine adrZ.go ?_) | (simp [go_sem])))
  refine aIf.mkL (fun hc => ?_) (fun hc => ?_) <;> simp at hc
  · rw [if_pos hc]
    (repeat (first | ((with_reducible refine VC.mkL ?_ fun _ => ?_); · first | omega | exact True.intro | rfl) | ((with_reducible refine VC.mkD ?_ fun _ => ?_); · first | omega | exact True.intro | (intros; omega)) | ((with_reducible refine dEnd.mk ?_ ?_); · kernel_rfl) | (with_reducible refine adrZ.go ?_) | (simp [go_sem])))
    (refine leV_frz rfl (by simp) (by simp [noH, upd]) ?_; first | (simp [go_sem]; done) | (simp [go_sem]; exact List.take_of_length_le (by simp)))
  · rw [if_neg (by omega)]
    (repeat (first | ((with_reducible refine VC.mkL ?_ fun _ => ?_); · first | omega | exact True.intro | rfl) | ((with_reducible refine VC.mkD ?_ fun _ => ?_); · first | omega | exact True.intro | (intros; omega)) | ((with_reducible refine dEnd.mk ?_ ?_); · kernel_rfl) | (with_reducible refine adrZ.go ?_) | (simp [go_sem])))
    refine ACallP.ownsPlain hcp (by simp [go_sem]) ?_
    have hmk : mk.toNat < g.kinds.length := by omega
    (repeat (first | ((with_reducible refine VC.mkL ?_ fun _ => ?_); · first | omega | exact True.intro | rfl) | ((with_reducible refine VC.mkD ?_ fun _ => ?_); · first | omega | exact True.intro | (intros; omega)) | ((with_reducible refine dEnd.mk ?_ ?_); · kernel_rfl) | (with_reducible refine adrZ.go ?_) | (simp [go_sem, hcur, hmk])))
    refine aIf.mkL (fun hk => ?_) (fun hk => ?_)
    · rw [if_pos hk]
      have hl0 := hs.p.h0.len
      have hl1 := hs.p.h1.len
      rcases hs.p.s with hsd | hsd
      · have hmk0 : mk.toNat < s.p.h0.length := by omega
        have hmk' : 0 ≤ mk := by omega
        have hv := hs.p.h0.v _ hmk0
        (repeat (first | ((with_reducible refine VC.mkL ?_ fun _ => ?_); · first | omega | exact True.intro | rfl) | ((with_reducible refine VC.mkD ?_ fun _ => ?_); · first | omega | exact True.intro | (intros; omega)) | ((with_reducible refine dEnd.mk ?_ ?_); · kernel_rfl) | (with_reducible refine adrZ.go ?_) | (simp [go_sem, hsd, hmk0, hcur])))
        refine aIf.mkL (fun h8 => ?_) (fun h8 => ?_) <;> simp at h8
        · rw [if_pos (by simpa [PosD.hand, hsd] using h8)]
          (repeat (first | ((with_reducible refine VC.mkL ?_ fun _ => ?_); · first | omega | exact True.intro | rfl) | ((with_reducible refine VC.mkD ?_ fun _ => ?_); · first | omega | exact True.intro | (intros; omega)) | ((with_reducible refine dEnd.mk ?_ ?_); · kernel_rfl) | (with_reducible refine adrZ.go ?_) | (simp [go_sem])))
          (refine leV_frz rfl (by simp) (by simp [noH, upd]) ?_; first | (simp [go_sem]; done) | (simp [go_sem]; exact List.take_of_length_le (by simp)))
        · rw [if_neg (by simpa [PosD.hand, hsd] using h8)]
          (repeat (first | ((with_reducible refine VC.mkL ?_ fun _ => ?_); · first | omega | exact True.intro | rfl) | ((with_reducible refine VC.mkD ?_ fun _ => ?_); · first | omega | exact True.intro | (intros; omega)) | ((with_reducible refine dEnd.mk ?_ ?_); · kernel_rfl) | (with_reducible refine adrZ.go ?_) | (simp [go_sem, hsd, PosD.withHand, PosD.hand, clr])))
          ((refine LeV.frz rfl (by simp) (by simp [noH, upd]) ?_); (try simp only [List.drop_zero, List.take_succ_cons, List.take_zero, List.map_cons, List.map_nil]); (repeat (first | (with_reducible exact LeRows.nil) | (with_reducible refine LeRows.cons ?_ ?_) | (with_reducible exact LeRow.nil) | (with_reducible refine LeRow.cons ?_ ?_) | (with_reducible exact LeV.refl _) | (refine leV_frz rfl (by simp) (by simp [noH, upd]) ?_; first | (simp [go_sem]; done) | (simp [go_sem]; exact List.take_of_length_le (by simp))))))
      · have hmk0 : mk.toNat < s.p.h1.length := by omega
        have hmk' : 0 ≤ mk := by omega
        have hv := hs.p.h1.v _ hmk0
        (repeat (first | ((with_reducible refine VC.mkL ?_ fun _ => ?_); · first | omega | exact True.intro | rfl) | ((with_reducible refine VC.mkD ?_ fun _ => ?_); · first | omega | exact True.intro | (intros; omega)) | ((with_reducible refine dEnd.mk ?_ ?_); · kernel_rfl) | (with_reducible refine adrZ.go ?_) | (simp [go_sem, hsd, hmk0, hcur])))
        refine aIf.mkL (fun h8 => ?_) (fun h8 => ?_) <;> simp at h8
        · rw [if_pos (by simpa [PosD.hand, hsd] using h8)]
          (repeat (first | ((with_reducible refine VC.mkL ?_ fun _ => ?_); · first | omega | exact True.intro | rfl) | ((with_reducible refine VC.mkD ?_ fun _ => ?_); · first | omega | exact True.intro | (intros; omega)) | ((with_reducible refine dEnd.mk ?_ ?_); · kernel_rfl) | (with_reducible refine adrZ.go ?_) | (simp [go_sem])))
          (refine leV_frz rfl (by simp) (by simp [noH, upd]) ?_; first | (simp [go_sem]; done) | (simp [go_sem]; exact List.take_of_length_le (by simp)))
        · rw [if_neg (by simpa [PosD.hand, hsd] using h8)]
          (repeat (first | ((with_reducible refine VC.mkL ?_ fun _ => ?_); · first | omega | exact True.intro | rfl) | ((with_reducible refine VC.mkD ?_ fun _ => ?_); · first | omega | exact True.intro | (intros; omega)) | ((with_reducible refine dEnd.mk ?_ ?_); · kernel_rfl) | (with_reducible refine adrZ.go ?_) | (simp [go_sem, hsd, PosD.withHand, PosD.hand, clr])))
          ((refine LeV.frz rfl (by simp) (by simp [noH, upd]) ?_); (try simp only [List.drop_zero, List.take_succ_cons, List.take_zero, List.map_cons, List.map_nil]); (repeat (first | (with_reducible exact LeRows.nil) | (with_reducible refine LeRows.cons ?_ ?_) | (with_reducible exact LeRow.nil) | (with_reducible refine LeRow.cons ?_ ?_) | (with_reducible exact LeV.refl _) | (refine leV_frz rfl (by simp) (by simp [noH, upd]) ?_; first | (simp [go_sem]; done) | (simp [go_sem]; exact List.take_of_length_le (by simp))))))
    · rw [if_neg (by simpa using hk)]
      (repeat (first | ((with_reducible refine VC.mkL ?_ fun _ => ?_); · first | omega | exact True.intro | rfl) | ((with_reducible refine VC.mkD ?_ fun _ => ?_); · first | omega | exact True.intro | (intros; omega)) | ((with_reducible refine dEnd.mk ?_ ?_); · kernel_rfl) | (with_reducible refine adrZ.go ?_) | (simp [go_sem, clr])))
      ((refine LeV.frz rfl (by simp) (by simp [noH, upd]) ?_); (try simp only [List.drop_zero, List.take_succ_cons, List.take_zero, List.map_cons, List.map_nil]); (repeat (first | (with_reducible exact LeRows.nil) | (with_reducible refine LeRows.cons ?_ ?_) | (with_reducible exact LeRow.nil) | (with_reducible refine LeRow.cons ?_ ?_) | (with_reducible exact LeV.refl _) | (refine leV_frz rfl (by simp) (by simp [noH, upd]) ?_; first | (simp [go_sem]; done) | (simp [go_sem]; exact List.take_of_length_le (by simp))))))
theorem R5push_pure (g : GameD) (hg : GOk g) (s : StD) (hs : StOk g s) (n : Int) : Pure Tryz.prog 101 [.agg (encGame g), .agg (encState s), .v (.int .i64 n)] (encSs (pushS g s n)) := by
  refine Pure.of (ACallP.of_awp (by kernel_rfl) Tryz.func101 rfl rfl (Nat.le_of_ble_eq_true rfl) (by kernel_rfl) ?_)
  have hT := R1To_pure g.board hg.board s.p.side n s.cursor
  (repeat (first | ((with_reducible refine VC.mkL ?_ fun _ => ?_); · first | omega | exact True.intro | rfl) | ((with_reducible refine VC.mkD ?_ fun _ => ?_); · first | omega | exact True.intro | (intros; omega)) | ((with_reducible refine dEnd.mk ?_ ?_); · kernel_rfl) | (with_reducible refine adrZ.go ?_) | (simp [go_sem])))
  refine ACallP.plain hT (by simp [go_sem]) ?_
  have hal := hs.p.al
  have hc0 := hs.c0
  have hc1 := hs.c1
  have hcur : s.cursor.toNat < s.p.at_.length := by omega
  have hcp := copied_owns s.p (hs.p.fits hg)
  have hto := toB_lt hg.board s.p.side n s.cursor
  rw [show g.board.cells = g.cells from rfl] at hto
  unfold pushS
  generalize toB g.board s.p.side n s.cursor = to at *
  by_cases ht : to < 0
  · rw [if_pos (.inr (.inl ht))]
    have ht0 : to.toNat = 0 := by omega
    have h0l : 0 < s.p.at_.length := by omega
    (repeat (first | ((with_reducible refine VC.mkL ?_ fun _ => ?_); · first | omega | exact True.intro | rfl) | ((with_reducible refine VC.mkD ?_ fun _ => ?_); · first | omega | exact True.intro | (intros; omega)) | ((with_reducible refine dEnd.mk ?_ ?_); · kernel_rfl) | (with_reducible refine adrZ.go ?_) | (simp [go_sem, hcur, ht, ht0, h0l])))
    (refine leV_frz rfl (by simp) (by simp [noH, upd]) ?_; first | (simp [go_sem]; done) | (simp [go_sem]; exact List.take_of_length_le (by simp)))
  · have htl : to.toNat < s.p.at_.length := by omega
    have ht' : 0 ≤ to := by omega
    (repeat (first | ((with_reducible refine VC.mkL ?_ fun _ => ?_); · first | omega | exact True.intro | rfl) | ((with_reducible refine VC.mkD ?_ fun _ => ?_); · first | omega | exact True.intro | (intros; omega)) | ((with_reducible refine dEnd.mk ?_ ?_); · kernel_rfl) | (with_reducible refine adrZ.go ?_) | (simp [go_sem, hcur, ht, htl])))
    refine aIf.mkL (fun hc => ?_) (fun hc => ?_) <;> simp at hc
    · rw [if_pos (by by_cases h : nth s.p.at_ s.cursor.toNat = 0; exact .inl h; exact .inr (hc.resolve_left h))]
      (repeat (first | ((with_reducible refine VC.mkL ?_ fun _ => ?_); · first | omega | exact True.intro | rfl) | ((with_reducible refine VC.mkD ?_ fun _ => ?_); · first | omega | exact True.intro | (intros; omega)) | ((with_reducible refine dEnd.mk ?_ ?_); · kernel_rfl) | (with_reducible refine adrZ.go ?_) | (simp [go_sem])))
      (refine leV_frz rfl (by simp) (by simp [noH, upd]) ?_; first | (simp [go_sem]; done) | (simp [go_sem]; exact List.take_of_length_le (by simp)))
    · rw [if_neg (by rintro (h | h); exact hc.1 h; exact h hc.2)]
      (repeat (first | ((with_reducible refine VC.mkL ?_ fun _ => ?_); · first | omega | exact True.intro | rfl) | ((with_reducible refine VC.mkD ?_ fun _ => ?_); · first | omega | exact True.intro | (intros; omega)) | ((with_reducible refine dEnd.mk ?_ ?_); · kernel_rfl) | (with_reducible refine adrZ.go ?_) | (simp [go_sem, hcur])))
      refine ACallP.ownsPlain hcp (by simp [go_sem]) ?_
      (repeat (first | ((with_reducible refine VC.mkL ?_ fun _ => ?_); · first | omega | exact True.intro | rfl) | ((with_reducible refine VC.mkD ?_ fun _ => ?_); · first | omega | exact True.intro | (intros; omega)) | ((with_reducible refine dEnd.mk ?_ ?_); · kernel_rfl) | (with_reducible refine adrZ.go ?_) | (simp [go_sem, hcur, htl])))
      ((refine LeV.frz rfl (by simp) (by simp [noH, upd]) ?_); (try simp only [List.drop_zero, List.take_succ_cons, List.take_zero, List.map_cons, List.map_nil]); (repeat (first | (with_reducible exact LeRows.nil) | (with_reducible refine LeRows.cons ?_ ?_) | (with_reducible exact LeRow.nil) | (with_reducible refine LeRow.cons ?_ ?_) | (with_reducible exact LeV.refl _) | (refine leV_frz rfl (by simp) (by simp [noH, upd]) ?_; first | (simp [go_sem]; done) | (simp [go_sem]; exact List.take_of_length_le (by simp))))))
end Go.Av
end
