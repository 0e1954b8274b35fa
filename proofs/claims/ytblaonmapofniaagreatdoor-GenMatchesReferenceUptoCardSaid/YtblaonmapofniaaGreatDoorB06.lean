/- Texts of ours, part 6: our library and contracts of functions. -/
import Derived.Test.YtblaonmapofniaaGreatDoorB05
set_option linter.unusedSimpArgs false
set_option linter.unusedVariables false
set_option maxRecDepth 100000
set_option maxHeartbeats 40000000
section
/- Plain: games that are made. -/
open Go Go.Proofs
namespace Go.Av
structure RawG where
 w : Int
 h : Int
 cut : Int
 k0 : List Int
 k1 : List Int
 c : List (Int × Int × Int)
 f0 : Int
 f1 : Int
 f2 : Int
 f3 : Int
 f4 : Int
 f5 : Int
def U8 (n : Int) : Prop := 0 ≤ n ∧ n ≤ 255
structure RawOk (x : RawG) : Prop where
 w : U8 x.w
 h : U8 x.h
 cut : U8 x.cut
 k0 : ∀ n ∈ x.k0, U8 n
 k1 : ∀ n ∈ x.k1, U8 n
 c : ∀ t ∈ x.c, U8 t.1 ∧ U8 t.2.1 ∧ U8 t.2.2
 f0 : U8 x.f0
 f1 : U8 x.f1
 f2 : U8 x.f2
 f3 : U8 x.f3
 f4 : U8 x.f4
 f5 : U8 x.f5
def encC3 (c : Int × Int × Int) : List AV := [.v (.int .u8 c.1), .v (.int .u8 c.2.1), .v (.int .u8 c.2.2)]
def encRaw (x : RawG) : List AV := [.v (.int .u8 x.w), .v (.int .u8 x.h), .v (.int .u8 x.cut), encUs x.k0, encUs x.k1, .lst 3 (x.c.map encC3),
 .v (.int .u8 x.f0), .v (.int .u8 x.f1), .v (.int .u8 x.f2), .v (.int .u8 x.f3), .v (.int .u8 x.f4), .v (.int .u8 x.f5)]
attribute [go_sem] encC3 encRaw
theorem bel_C3 {n : Nat} {l : List (Int × Int × Int)} : (∀ r ∈ l.map encC3, ∀ c ∈ r, Bel n c) = True := by
 refine eq_true ?_
 intro r hr c hc
 obtain ⟨x, _, rfl⟩ := List.mem_map.1 hr
 revert c
 simp [go_sem]
theorem bel_C3s {n : Nat} {l : List (Int × Int × Int)} : Bel n (.lst 3 (l.map encC3)) = True := by rw [Bel_lst, bel_C3]
theorem bel_K {n : Nat} {l : List KindD} : (∀ r ∈ l.map encKind, ∀ c ∈ r, Bel n c) = True := by
 refine eq_true ?_
 intro r hr c hc
 obtain ⟨x, _, rfl⟩ := List.mem_map.1 hr
 simp only [encKind, List.mem_cons, List.not_mem_nil, or_false] at hc
 rcases hc with rfl | rfl | rfl
 ·exact .v _
 ·refine .lst fun r hr c hc => ?_
  obtain ⟨p, _, rfl⟩ := List.mem_map.1 hr
  simp only [List.mem_cons, List.not_mem_nil, or_false] at hc
  subst hc
  exact of_eq_true bel_Prog
 ·exact .v _
theorem bel_Ks {n : Nat} {l : List KindD} : Bel n (.lst 3 (l.map encKind)) = True := by rw [Bel_lst, bel_K]
theorem bel_Cl {n : Nat} {l : List (Int × Int × Int × Int)} : (∀ r ∈ l.map encClause, ∀ c ∈ r, Bel n c) = True := by
 refine eq_true ?_
 intro r hr c hc
 obtain ⟨x, _, rfl⟩ := List.mem_map.1 hr
 revert c
 simp [go_sem]
theorem bel_Cls {n : Nat} {l : List (Int × Int × Int × Int)} : Bel n (.lst 4 (l.map encClause)) = True := by rw [Bel_lst, bel_Cl]
theorem bel_Pr {n : Nat} {l : List (List (Int × Int))} : (∀ r ∈ l.map (fun p => [encProg p]), ∀ c ∈ r, Bel n c) = True := by
 refine eq_true ?_
 intro r hr c hc
 obtain ⟨p, _, rfl⟩ := List.mem_map.1 hr
 simp only [List.mem_cons, List.not_mem_nil, or_false] at hc
 subst hc
 exact of_eq_true bel_Prog
theorem bel_Prs {n : Nat} {l : List (List (Int × Int))} : Bel n (.lst 1 (l.map (fun p => [encProg p]))) = True := by rw [Bel_lst, bel_Pr]
attribute [go_sem high] bel_C3s bel_Ks bel_Cls bel_Prs
attribute [go_sem ↓] bel_C3 bel_K bel_Cl bel_Pr bel_P bel_I bel_St bel_Ou List.forall_mem_append
def nameA : ByteArray := ⟨#[97]⟩
def nameB : ByteArray := ⟨#[98, 101, 101]⟩
def bitU (f : Int) (i : Nat) : Bool := decide (andN .u8 (f.fdiv (2 ^ i)) 1 = 1)
def kindsN (x : RawG) : Nat := if x.k1 = [] then 1 else 2
def RawG.board (x : RawG) : BoardD := madeB x.w x.h x.cut
def RawG.rights (x : RawG) : Int := x.f0.tmod 3
def RawG.ks (x : RawG) (i : Nat) : List Int := if i = 0 then x.k0 else x.k1
def kindOf (x : RawG) (i : Nat) : KindD :=
 ⟨if i = 0 then nameA else nameB, ((x.ks i).take 4).map (fun n => madeP n x.board.next.length (kindsN x) x.rights), bitU x.f2 i⟩
def clauseOf (cells kinds : Int) (c : Int × Int × Int) : Int × Int × Int × Int :=
 (1 + c.1.tmod 3, (if 1 + c.1.tmod 3 ≠ 3 then c.2.1.tmod kinds else 0), (if 1 + c.1.tmod 3 = 2 then c.2.2.tmod cells else if 1 + c.1.tmod 3 = 3 then c.2.2.tmod 3 else 0), 1 + (c.1.tdiv 4).tmod 3)
def madeG (x : RawG) : GameD :=
 { cells := x.board.cells, next := x.board.next, turn := x.board.turn, kinds := (List.range (kindsN x)).map (kindOf x), rights := x.rights, must := decide (x.f1.tmod 4 = 3), clauses := (x.c.take 3).map (clauseOf x.board.cells (kindsN x)), blocked := if x.f3.tmod 4 = 3 then 1 + (x.f3.tdiv 4).tmod 3 else 3, endless := if x.f4.tmod 4 = 3 then 1 + (x.f4.tdiv 4).tmod 3 else 2 }
@[go_sem] theorem oneCell_string (s : ByteArray) : (Value.string s).oneCell' = true := rfl
def ksR (x : RawG) (i : Nat) : List (List AV) := ((List.range i).map (kindOf x)).map encKind
def kRow (k : KindD) : List AV := encKind k
theorem ksR_succ (x : RawG) (i : Nat) : ksR x (i + 1) = ksR x i ++ [kRow (kindOf x i)] := by simp [ksR, List.range_succ, kRow]
@[go_sem] theorem ksR_zero (x : RawG) : ksR x 0 = [] := rfl
@[go_sem] theorem ksR_len (x : RawG) (i : Nat) : (ksR x i).length = i := by simp [ksR]
@[go_sem ↓] theorem bel_ksR {n : Nat} {x : RawG} {i : Nat} : (∀ r ∈ ksR x i, ∀ c ∈ r, Bel n c) = True := bel_K
def psR (f : Int → List (Int × Int)) (l : List Int) (n : Nat) : List (List AV) := ((l.take n).map f).map fun p => [encProg p]
theorem psR_succ (f : Int → List (Int × Int)) (l : List Int) {n : Nat} (h : n < l.length) : psR f l (n + 1) = psR f l n ++ [[encProg (f (nth l n))]] := by
 unfold psR
 rw [List.take_add_one, List.getElem?_eq_getElem h, nth_eq _ _ h, Option.toList_some, List.map_append, List.map_append]
 rfl
theorem psR_len (f : Int → List (Int × Int)) (l : List Int) {n : Nat} (h : n ≤ l.length) : (psR f l n).length = n := by simp [psR]; omega
@[go_sem] theorem psR_zero (f : Int → List (Int × Int)) (l : List Int) : psR f l 0 = [] := rfl
@[go_sem ↓] theorem bel_psR {m : Nat} {f : Int → List (Int × Int)} {l : List Int} {n : Nat} : (∀ r ∈ psR f l n, ∀ c ∈ r, Bel m c) = True := bel_Pr
def clR (cells kinds : Int) (l : List (Int × Int × Int)) (n : Nat) : List (List AV) := ((l.take n).map (clauseOf cells kinds)).map encClause
def cRow (c : Int × Int × Int × Int) : List AV := encClause c
theorem clR_succ (cells kinds : Int) (l : List (Int × Int × Int)) {n : Nat} (h : n < l.length) : clR cells kinds l (n + 1) = clR cells kinds l n ++ [cRow (clauseOf cells kinds (nth l n))] := by
 unfold clR
 rw [List.take_add_one, List.getElem?_eq_getElem h, nth_eq _ _ h, Option.toList_some, List.map_append, List.map_append]
 rfl
theorem clR_len (cells kinds : Int) (l : List (Int × Int × Int)) {n : Nat} (h : n ≤ l.length) : (clR cells kinds l n).length = n := by simp [clR]; omega
@[go_sem] theorem clR_zero (cells kinds : Int) (l : List (Int × Int × Int)) : clR cells kinds l 0 = [] := rfl
@[go_sem ↓] theorem bel_clR {m : Nat} {cells kinds : Int} {l : List (Int × Int × Int)} {n : Nat} : (∀ r ∈ clR cells kinds l n, ∀ c ∈ r, Bel m c) = True := bel_Cl
theorem madeB_dirs (w h cut : Int) : (madeB w h cut).next.length = 8 := by
 unfold madeB
 split <;> simp [withoutB, withoutNext, gridB, gridNext]
theorem madeB_cells {w h : Int} (hw : 0 ≤ w) (hh : 0 ≤ h) (cut : Int) : 1 ≤ (madeB w h cut).cells ∧ (madeB w h cut).cells ≤ 9 := by
 have a0 := Int.tmod_nonneg 3 hw
 have a1 := Int.tmod_lt_of_pos w (show (0 : Int) < 3 by decide)
 have b0 := Int.tmod_nonneg 3 hh
 have b1 := Int.tmod_lt_of_pos h (show (0 : Int) < 3 by decide)
 have e : (madeB w h cut).cells = ((1 + w.tmod 3).toNat : Int) * ((1 + h.tmod 3).toNat : Int) := by
  unfold madeB
  split <;> simp [withoutB, gridB]
 rw [e]
 obtain ⟨W, hW⟩ : ∃ W : Nat, 1 + w.tmod 3 = W := ⟨(1 + w.tmod 3).toNat, by omega⟩
 obtain ⟨H, hH⟩ : ∃ H : Nat, 1 + h.tmod 3 = H := ⟨(1 + h.tmod 3).toNat, by omega⟩
 rw [hW, hH, Int.toNat_natCast, Int.toNat_natCast]
 rcases (show W = 1 ∨ W = 2 ∨ W = 3 by omega) with rfl | rfl | rfl <;> omega
end Go.Av
end
section
/- Plain: positions that are made. -/
open Go Go.Proofs
namespace Go.Av
@[go_sem ↓] theorem bel_setI {n k : Nat} {l : List Int} {v : Value} : (∀ r ∈ (l.map encI).set k [.v v], ∀ c ∈ r, Bel n c) = True := by
 refine eq_true fun r hr c hc => ?_
 rcases List.mem_or_eq_of_mem_set hr with hr | rfl
 ·exact of_eq_true bel_I r hr c hc
 ·simp only [List.mem_cons, List.not_mem_nil, or_false] at hc; subst hc; exact .v _
structure RawP where
 cell : List Int
 kind : List Int
 hand : List Int
 rights : Int
 side : Int
structure RawPOk (x : RawP) : Prop where
 c6 : x.cell.length = 6
 k6 : x.kind.length = 6
 h4 : x.hand.length = 4
 cv : ∀ n ∈ x.cell, U8 n
 kv : ∀ n ∈ x.kind, U8 n
 hv : ∀ n ∈ x.hand, U8 n
 r : U8 x.rights
 s : U8 x.side
def encRawP (x : RawP) : List AV := x.cell.map (fun n => .v (.int .u8 n)) ++ (x.kind.map (fun n => .v (.int .u8 n)) ++ (x.hand.map (fun n => .v (.int .u8 n)) ++ [.v (.int .u8 x.rights), .v (.int .u8 x.side)]))
theorem cel_u8 (l : List Int) (r : List AV) (i : Nat) (h : i < l.length) : cel (l.map (fun n => AV.v (.int .u8 n)) ++ r) i = .v (.int .u8 (nth l i)) := by
 unfold cel nth
 rw [List.getD_eq_getElem?_getD, List.getD_eq_getElem?_getD, List.getElem?_append_left (by simpa using h), List.getElem?_map, List.getElem?_eq_getElem h]
 rfl
theorem cel_u8s (l : List Int) (r : List AV) (i : Nat) : cel (l.map (fun n => AV.v (.int .u8 n)) ++ r) (l.length + i) = cel r i := by
 unfold cel
 rw [List.getD_eq_getElem?_getD, List.getD_eq_getElem?_getD, List.getElem?_append_right (by simp)]
 simp
structure RawRow (x : RawP) (er : List AV) : Prop where
 len : er.length = 18
 c : ∀ i, i < 6 → cel er i = .v (.int .u8 (nth x.cell i))
 k : ∀ i, i < 6 → cel er (6 + i) = .v (.int .u8 (nth x.kind i))
 h : ∀ i, i < 4 → cel er (12 + i) = .v (.int .u8 (nth x.hand i))
 r : cel er 16 = .v (.int .u8 x.rights)
 s : cel er 17 = .v (.int .u8 x.side)
 b : ∀ n, (∀ c ∈ er, Bel n c) = True
theorem rawRow {x : RawP} (hx : RawPOk x) : RawRow x (encRawP x) := by
 obtain ⟨a, b, c, _, _, _, _, _⟩ := hx
 have e1 : ∀ i, cel (encRawP x) (6 + i) = cel (x.kind.map (fun n => AV.v (.int .u8 n)) ++ (x.hand.map (fun n => AV.v (.int .u8 n)) ++ [.v (.int .u8 x.rights), .v (.int .u8 x.side)])) i := fun i => by
  have := cel_u8s x.cell (x.kind.map (fun n => .v (.int .u8 n)) ++ (x.hand.map (fun n => .v (.int .u8 n)) ++ [.v (.int .u8 x.rights), .v (.int .u8 x.side)])) i
  rw [a] at this; exact this
 have e2 : ∀ i, cel (encRawP x) (12 + i) = cel (x.hand.map (fun n => AV.v (.int .u8 n)) ++ [.v (.int .u8 x.rights), .v (.int .u8 x.side)]) i := fun i => by
  have := cel_u8s x.kind (x.hand.map (fun n => .v (.int .u8 n)) ++ [.v (.int .u8 x.rights), .v (.int .u8 x.side)]) i
  rw [b] at this
  rw [show 12 + i = 6 + (6 + i) by omega, e1, this]
 have e3 : ∀ i, cel (encRawP x) (16 + i) = cel [AV.v (.int .u8 x.rights), .v (.int .u8 x.side)] i := fun i => by
  have := cel_u8s x.hand [.v (.int .u8 x.rights), .v (.int .u8 x.side)] i
  rw [c] at this
  rw [show 16 + i = 12 + (4 + i) by omega, e2, this]
 refine ⟨by simp [encRawP, a, b, c], fun i hi => cel_u8 x.cell _ i (by omega), fun i hi => ?_, fun i hi => ?_, e3 0, e3 1, fun n => eq_true ?_⟩
 ·rw [e1]; exact cel_u8 x.kind _ i (by omega)
 ·rw [e2]; exact cel_u8 x.hand _ i (by omega)
 ·intro c hc
  simp only [encRawP, List.mem_append, List.mem_map, List.mem_cons, List.not_mem_nil, or_false] at hc
  rcases hc with ⟨_, _, rfl⟩ | ⟨_, _, rfl⟩ | ⟨_, _, rfl⟩ | rfl | rfl <;> exact .v _
def atStep (g : GameD) (x : RawP) (l : List Int) (i : Nat) : List Int :=
 if (nth x.cell i).tmod (g.cells + 1) < g.cells then l.set ((nth x.cell i).tmod (g.cells + 1)).toNat (1 + 2 * (nth x.kind i).tmod g.kinds.length + (i : Int).tmod 2) else l
def madeAt (g : GameD) (x : RawP) (n : Nat) : List Int := (List.range n).foldl (atStep g x) (List.replicate g.cells.toNat 0)
theorem madeAt_succ (g : GameD) (x : RawP) (n : Nat) : madeAt g x (n + 1) = atStep g x (madeAt g x n) n := by simp [madeAt, List.range_succ]
theorem atStep_len (g : GameD) (x : RawP) (l : List Int) (i : Nat) : (atStep g x l i).length = l.length := by unfold atStep; split <;> simp
theorem madeAt_len (g : GameD) (x : RawP) (n : Nat) : (madeAt g x n).length = g.cells.toNat := by
 induction n with
 | zero => simp [madeAt]
 | succ n ih => rw [madeAt_succ, atStep_len, ih]
def handV (g : GameD) (x : RawP) (s k : Nat) : Int :=
 if (nth g.kinds k).keep = true then (if 250 < nth x.hand (2 * s + k) then 8 else (nth x.hand (2 * s + k)).tmod 3) else 0
def handL (g : GameD) (x : RawP) (s n : Nat) : List Int := (List.range g.kinds.length).map fun j => if j < n then handV g x s j else 0
theorem handL_len (g : GameD) (x : RawP) (s n : Nat) : (handL g x s n).length = g.kinds.length := by simp [handL]
theorem handL_zero (g : GameD) (x : RawP) (s : Nat) : handL g x s 0 = List.replicate g.kinds.length 0 := by
 unfold handL
 apply List.ext_getElem <;> simp
theorem handL_succ (g : GameD) (x : RawP) (s n : Nat) : handL g x s (n + 1) = (handL g x s n).set n (handV g x s n) := by
 apply List.ext_getElem
 ·simp [handL]
 ·intro i h1 h2
  simp only [handL, List.getElem_map, List.getElem_range, List.getElem_set]
  by_cases h : n = i
  ·subst h; simp
  ·rw [if_neg h]
   by_cases h' : i < n
   ·rw [if_pos h', if_pos (by omega)]
   ·rw [if_neg h', if_neg (by omega)]
theorem handL_skip (g : GameD) (x : RawP) (s n : Nat) (h : handV g x s n = 0) : handL g x s (n + 1) = handL g x s n := by
 unfold handL
 apply List.map_congr_left
 intro j _
 by_cases h' : j < n
 ·rw [if_pos h', if_pos (by omega)]
 ·rw [if_neg h']
  split
  ·obtain rfl : j = n := by omega
   exact h
  ·rfl
def madePos (g : GameD) (x : RawP) : PosD := ⟨madeAt g x 6, handL g x 0 (min g.kinds.length 2), handL g x 1 (min g.kinds.length 2), x.rights.tmod (2 ^ g.rights.toNat), x.side.tmod 2⟩
end Go.Av
end
section
/- Plain: positions and states that are valid stay so. -/
open Go Go.Proofs
namespace Go.Av
theorem nth_z {α : Type} [Inhabited α] (x : α) (l : List α) : nth (x :: l) 0 = x := rfl
theorem nth_setE {α : Type} [Inhabited α] (l : List α) (i j : Nat) (v : α) : nth (l.set i v) j = if i = j ∧ j < l.length then v else nth l j := by
 unfold nth
 rw [List.getD_eq_getElem?_getD, List.getD_eq_getElem?_getD, List.getElem?_set]
 by_cases h : i = j
 ·subst h
  by_cases h2 : i < l.length
  ·simp [h2]
  ·simp [h2, List.getElem?_eq_none (Nat.not_lt.1 h2)]
 ·simp [h]
structure HandOk (g : GameD) (l : List Int) : Prop where
 len : l.length = g.kinds.length
 v : ∀ i, i < l.length → 0 ≤ nth l i ∧ nth l i ≤ 8 ∧ (0 < nth l i → (nth g.kinds i).keep = true)
theorem handGo_iff : ∀ (l : List Int) (ks : List KindD), l.length = ks.length → (handGo l ks = true ↔ ∀ i, i < l.length → 0 ≤ nth l i ∧ nth l i ≤ 8 ∧ (0 < nth l i → (nth ks i).keep = true))
 | [], [], _ => by simp [handGo]
 | x :: l, k :: ks, h => by
  have ih := handGo_iff l ks (by simpa using h)
  rw [handGo]
  simp only [Bool.and_eq_true, decide_eq_true_eq, Bool.or_eq_true, Bool.not_eq_true']
  rw [ih]
  constructor
  ·rintro ⟨⟨⟨h1, h2⟩, h3⟩, h4⟩ i hi
   cases i with
   | zero =>
    refine ⟨h1, h2, fun h => ?_⟩
    rcases h3 with h3 | h3
    ·rw [nth_z] at h; simp at h3; omega
    ·exact h3
   | succ i => exact h4 i (by simpa using hi)
  ·intro h
   have h0 := h 0 (by simp)
   refine ⟨⟨⟨h0.1, h0.2.1⟩, ?_⟩, fun i hi => h (i + 1) (by simpa using hi)⟩
   by_cases hx : 0 < x
   ·exact .inr (h0.2.2 hx)
   ·exact .inl (by simpa using hx)
theorem handOk_iff {g : GameD} {l : List Int} : handOk g l = true ↔ HandOk g l := by
 unfold handOk
 rw [Bool.and_eq_true, decide_eq_true_eq]
 exact ⟨fun ⟨a, b⟩ => ⟨a, (handGo_iff _ _ a).1 b⟩, fun ⟨a, b⟩ => ⟨a, (handGo_iff _ _ a).2 b⟩⟩
structure POk (g : GameD) (p : PosD) : Prop where
 al : (p.at_.length : Int) = g.cells
 av : ∀ c ∈ p.at_, 0 ≤ c ∧ c ≤ 2 * g.kinds.length
 h0 : HandOk g p.h0
 h1 : HandOk g p.h1
 r0 : 0 ≤ p.rights
 r1 : p.rights < 2 ^ g.rights.toNat
 s : p.side = 0 ∨ p.side = 1
theorem pOk_iff {g : GameD} {p : PosD} : posOk g p = true ↔ POk g p := by
 rw [posOk_iff, handOk_iff, handOk_iff]
 exact ⟨fun ⟨a, b, c, d, e, f, g⟩ => ⟨a, b, c, d, e, f, g⟩, fun ⟨a, b, c, d, e, f, g⟩ => ⟨a, b, c, d, e, f, g⟩⟩
theorem POk.fits {g : GameD} (hg : GOk g) {p : PosD} (h : POk g p) : FitsP p := by
 have := hg.c9
 have := hg.k6
 have a := h.al
 have b := h.h0.len
 have c := h.h1.len
 unfold FitsP Fits
 omega
structure StOk (g : GameD) (s : StD) : Prop where
 p : POk g s.p
 c0 : 0 ≤ s.cursor
 c1 : s.cursor < g.cells
 k : 0 ≤ s.kind ∧ s.kind < g.kinds.length
theorem manOf_cases {c : Int} {K : Nat} (h0 : 0 ≤ c) (h1 : c ≤ 2 * K) (hK : K ≤ 6) :
  (c = 0 ∧ manOf c = (-1, -1)) ∨ (c ≠ 0 ∧ 0 ≤ (manOf c).1 ∧ (manOf c).1 < K ∧ ((manOf c).2 = 0 ∨ (manOf c).2 = 1) ∧ c = 1 + 2 * (manOf c).1 + (manOf c).2) := by
 unfold manOf
 by_cases hc : c = 0
 ·left; rw [if_neg (by omega)]; exact ⟨hc, rfl⟩
 ·right
  rw [if_pos (by omega)]
  have e1 : (c - 1).tdiv 2 = (c - 1) / 2 := Int.tdiv_eq_ediv_of_nonneg (by omega)
  have e2 : (c - 1).tmod 2 = (c - 1) % 2 := Int.tmod_eq_emod_of_nonneg (by omega)
  simp only [e1, e2]
  omega
theorem codeOf_ok {k s : Int} {K : Nat} (hk : 0 ≤ k ∧ k < K) (hK : K ≤ 6) (hs : s = 0 ∨ s = 1) : codeOf k s = 1 + 2 * k + s := by
 unfold codeOf
 rw [if_pos (by omega)]; omega
theorem andNot_small : ∀ (r : Fin 16) (m : Fin 4), 0 ≤ andNotN .i64 (r.val : Int) (2 ^ m.val) ∧ andNotN .i64 (r.val : Int) (2 ^ m.val) ≤ (r.val : Int) := by decide
theorem andNot_le {r : Int} {m : Nat} (h0 : 0 ≤ r) (h1 : r < 16) (hm : m < 4) : 0 ≤ andNotN .i64 r (2 ^ m) ∧ andNotN .i64 r (2 ^ m) ≤ r := by
 have := andNot_small ⟨r.toNat, by omega⟩ ⟨m, hm⟩
 simp only [Int.toNat_of_nonneg h0] at this
 exact this
theorem pow_le16 {r : Int} (h0 : 0 ≤ r) (h4 : r ≤ 4) : (1 : Int) ≤ 2 ^ r.toNat ∧ (2 : Int) ^ r.toNat ≤ 16 := by
 rcases (show r.toNat = 0 ∨ r.toNat = 1 ∨ r.toNat = 2 ∨ r.toNat = 3 ∨ r.toNat = 4 by omega) with h | h | h | h | h <;> rw [h] <;> decide
theorem lineGo_mem {b : BoardD} (hb : BoardOk b) {side d c : Int} : ∀ (f : Nat) (x : Int) (seen : List Int), x < b.cells → (∀ y ∈ seen, 0 ≤ y ∧ y < b.cells) → ∀ y ∈ lineGo b side d c f x seen, 0 ≤ y ∧ y < b.cells
 | 0, x, seen, _, h, y, hy => h y hy
 | f + 1, x, seen, hx, h, y, hy => by
  rw [lineGo] at hy
  split at hy
  ·rename_i hc
   refine lineGo_mem hb f _ _ (toB_lt hb _ _ _) (fun z hz => ?_) y hy
   rcases List.mem_append.1 hz with hz | hz
   ·exact h z hz
   ·simp at hz; omega
  ·exact h y hy
theorem lineB_mem {b : BoardD} (hb : BoardOk b) {side d c : Int} : ∀ y ∈ lineB b side d c, 0 ≤ y ∧ y < b.cells :=
 lineGo_mem hb _ _ _ (toB_lt hb _ _ _) (by simp)
theorem lineGo_len {b : BoardD} {side d c : Int} : ∀ (f : Nat) (x : Int) (seen : List Int), (lineGo b side d c f x seen).length ≤ seen.length + f
 | 0, x, seen => by simp [lineGo]
 | f + 1, x, seen => by
  rw [lineGo]
  split
  ·have := lineGo_len (b := b) (side := side) (d := d) (c := c) f (toB b side d x) (seen ++ [x])
   simp at this; omega
  ·omega
theorem lineB_len {b : BoardD} {side d c : Int} : (lineB b side d c).length ≤ b.cells.toNat + 1 := by
 have := lineGo_len (b := b) (side := side) (d := d) (c := c) (b.cells.toNat + 1) (toB b side d c) []
 simpa [lineB] using this
theorem POk.setAt {g : GameD} {p : PosD} (h : POk g p) (i : Nat) {v : Int} (hv : 0 ≤ v ∧ v ≤ 2 * g.kinds.length) : POk g { p with at_ := p.at_.set i v } :=
 ⟨by simpa using h.al, fun c hc => by rcases List.mem_or_eq_of_mem_set hc with hc | rfl; exact h.av c hc; exact hv, h.h0, h.h1, h.r0, h.r1, h.s⟩
theorem POk.hand {g : GameD} {p : PosD} (h : POk g p) (side : Int) : HandOk g (p.hand side) := by unfold PosD.hand; split; exact h.h0; exact h.h1
theorem POk.withHand {g : GameD} {p : PosD} (h : POk g p) (side : Int) {l : List Int} (hl : HandOk g l) : POk g (p.withHand side l) := by
 unfold PosD.withHand
 split
 ·exact ⟨h.al, h.av, hl, h.h1, h.r0, h.r1, h.s⟩
 ·exact ⟨h.al, h.av, h.h0, hl, h.r0, h.r1, h.s⟩
theorem HandOk.set {g : GameD} {l : List Int} (h : HandOk g l) (i : Nat) {v : Int} (hv : 0 ≤ v ∧ v ≤ 8) (hk : 0 < v → (nth g.kinds i).keep = true) : HandOk g (l.set i v) := by
 refine ⟨by simpa using h.len, fun j hj => ?_⟩
 have hj' : j < l.length := by simpa using hj
 rw [nth_setE]
 split
 ·rename_i e
  obtain ⟨rfl, _⟩ := e
  exact ⟨hv.1, hv.2, hk⟩
 ·exact h.v j hj'
theorem POk.at {g : GameD} {p : PosD} (h : POk g p) {i : Nat} (hi : (i : Int) < g.cells) : 0 ≤ nth p.at_ i ∧ nth p.at_ i ≤ 2 * g.kinds.length :=
 h.av _ (nth_mem (by have := h.al; omega))
theorem POk.side {g : GameD} {p : PosD} (h : POk g p) {s : Int} (hs : s = 0 ∨ s = 1) : POk g { p with side := s } := ⟨h.al, h.av, h.h0, h.h1, h.r0, h.r1, hs⟩
theorem withHand_side (p : PosD) (s : Int) (l : List Int) : (p.withHand s l).side = p.side := by unfold PosD.withHand; split <;> rfl
theorem POk.clr {g : GameD} {p : PosD} (h : POk g p) (c : Int) : POk g (clr p c) := h.setAt _ (by omega)
theorem slideGo_ok {g : GameD} {s : StD} (h : StOk g s) : ∀ {l : List Int}, (∀ y ∈ l, 0 ≤ y ∧ y < g.cells) → ∀ t ∈ slideGo s l, StOk g t ∧ t.p.side = s.p.side
 | [], _, t, ht => by simp [slideGo] at ht
 | c :: l, hl, t, ht => by
  rw [slideGo, List.mem_cons] at ht
  rcases ht with rfl | ht
  ·have := hl c (by simp)
   exact ⟨⟨h.p, this.1, this.2, h.k⟩, rfl⟩
  ·split at ht
   ·exact slideGo_ok h (fun y hy => hl y (List.mem_cons_of_mem _ hy)) t ht
   ·simp at ht
theorem slideGo_len {s : StD} : ∀ (l : List Int), (slideGo s l).length ≤ l.length
 | [] => by simp [slideGo]
 | c :: l => by
  rw [slideGo]
  have := slideGo_len (s := s) l
  split <;> simp <;> omega
theorem stepS_ok {g : GameD} (hg : GOk g) {s : StD} (h : StOk g s) {x : Int × Int} (hx : StepOk g.next.length g.kinds.length g.rights x) : ∀ t ∈ stepS g s x, StOk g t ∧ t.p.side = s.p.side := by
 intro t ht
 have hb := hg.board
 have hcur : (s.cursor.toNat : Int) < g.cells := by have := h.c0; have := h.c1; omega
 have hat := h.p.at hcur
 have only : ∀ {u : StD} {b : Bool}, t ∈ onlyS u b → b = true ∧ t = u := fun {u b} hu => by
  unfold onlyS at hu
  split at hu
  ·rename_i hb'; exact ⟨hb', by simpa using hu⟩
  ·simp at hu
 have hbc : g.board.cells = g.cells := rfl
 unfold stepS at ht
 simp only at ht
 split at ht
 ·obtain ⟨h1, rfl⟩ := only ht
  have := toB_lt hb s.p.side x.2 s.cursor
  exact ⟨⟨h.p, by simpa using h1, by rw [hbc] at this; exact this, h.k⟩, rfl⟩
 split at ht
 ·exact slideGo_ok h (fun y hy => lineB_mem hb y hy) t ht
 split at ht
 ·obtain ⟨h1, rfl⟩ := only ht; exact ⟨h, rfl⟩
 split at ht
 ·obtain ⟨h1, rfl⟩ := only ht; exact ⟨h, rfl⟩
 split at ht
 ·obtain ⟨h1, rfl⟩ := only ht; exact ⟨h, rfl⟩
 split at ht
 ·unfold takeS at ht
  simp only at ht
  split at ht
  ·simp at ht
  ·rename_i hm
   split at ht
   ·rename_i hkeep
    split at ht
    ·simp at ht
    ·rename_i h8
     simp only [List.mem_singleton] at ht
     subst ht
     refine ⟨⟨(h.p.clr _).withHand _ ((h.p.hand _).set _ ?_ (fun _ => hkeep)), h.c0, h.c1, h.k⟩, withHand_side _ _ _⟩
     have hh := h.p.hand s.p.side
     rcases manOf_cases hat.1 hat.2 hg.k6 with ⟨e, e2⟩ | ⟨e, e2, e3, _⟩
     ·rw [e2] at hm; simp at hm
     ·have := hh.v (manOf (nth s.p.at_ s.cursor.toNat)).1.toNat (by rw [hh.len]; omega)
      omega
   ·simp only [List.mem_singleton] at ht
    subst ht
    exact ⟨⟨h.p.clr _, h.c0, h.c1, h.k⟩, rfl⟩
 split at ht
 ·unfold pushS at ht
  simp only at ht
  split at ht
  ·simp at ht
  ·simp only [List.mem_singleton] at ht
   subst ht
   exact ⟨⟨(h.p.setAt _ hat).setAt _ (by omega), h.c0, h.c1, h.k⟩, rfl⟩
 split at ht
 ·rename_i e
  simp only [List.mem_singleton] at ht
  subst ht
  exact ⟨⟨h.p, h.c0, h.c1, hx.kind e⟩, rfl⟩
 split at ht
 ·obtain ⟨h1, rfl⟩ := only ht; exact ⟨h, rfl⟩
 split at ht
 ·rename_i e
  simp only [List.mem_singleton] at ht
  subst ht
  have hr := hx.right (.inr e)
  have hp := pow_le16 hg.r0 hg.r4
  have a := h.p.r0
  have b := h.p.r1
  have c := hg.r4
  obtain ⟨k1, k2⟩ := andNot_le (r := s.p.rights) (m := x.2.toNat) a (by omega) (by omega)
  exact ⟨⟨⟨h.p.al, h.p.av, h.p.h0, h.p.h1, k1, by simp only; omega, h.p.s⟩, h.c0, h.c1, h.k⟩, rfl⟩
 ·simp only [List.mem_singleton] at ht
  subst ht
  exact ⟨h, rfl⟩
theorem stepS_len {g : GameD} (hg : GOk g) (s : StD) (x : Int × Int) : (stepS g s x).length ≤ 10 := by
 have c9 := hg.c9
 have on : ∀ (u : StD) (b : Bool), (onlyS u b).length ≤ 10 := fun u b => by unfold onlyS; split <;> simp
 unfold stepS
 simp only
 split; exact on _ _
 split
 ·have h1 := slideGo_len (s := s) (lineB g.board s.p.side x.2 s.cursor)
  have h2 := lineB_len (b := g.board) (side := s.p.side) (d := x.2) (c := s.cursor)
  have : g.board.cells = g.cells := rfl
  unfold slideS; omega
 split; exact on _ _
 split; exact on _ _
 split; exact on _ _
 split
 ·unfold takeS; simp only; (repeat' split) <;> simp
 split
 ·unfold pushS; simp only; (repeat' split) <;> simp
 split; simp
 split; exact on _ _
 split <;> simp
end Go.Av
end
section
/- Plain: what is made is valid. -/
open Go Go.Proofs
namespace Go.Av
structure LibOk (p : List (Int × Int)) : Prop where
 len : p.length ≤ 6
 st : ∀ x ∈ p, 1 ≤ x.1 ∧ x.1 ≤ 10 ∧ 0 ≤ x.2 ∧ (x.1 = 3 ∨ x.1 = 4 ∨ x.1 = 5 ∨ x.1 = 6 → x.2 = 0)
 take : countOp p 6 ≤ 2
 push : countOp p 7 ≤ 1
 become : countOp p 8 ≤ 1
theorem libL_ok {d e k r : Int} (hd : 0 ≤ d) (he : 0 ≤ e) (hk : 0 ≤ k) (hr : 0 ≤ r) (i : Nat) : LibOk (nth (libL d e k r) i) := by
 have h4 := Int.tmod_nonneg 8 (show 0 ≤ d + 4 by omega)
 rcases Nat.lt_or_ge i 16 with h | h
 ·have : ∀ p ∈ libL d e k r, LibOk p := by
   intro p hp
   simp only [libL, List.mem_cons, List.not_mem_nil, or_false] at hp
   rcases hp with rfl | rfl | rfl | rfl | rfl | rfl | rfl | rfl | rfl | rfl | rfl | rfl | rfl | rfl | rfl | rfl <;>
    exact ⟨by simp, by simp <;> omega, by simp [countOp], by simp [countOp], by simp [countOp]⟩
  exact this _ (nth_mem h)
 ·have e : nth (libL d e k r) i = [] := by
   unfold nth
   rw [List.getD_eq_getElem?_getD, List.getElem?_eq_none (by exact h)]; rfl
  rw [e]
  exact ⟨by simp, by simp, by simp [countOp], by simp [countOp], by simp [countOp]⟩
theorem fitStep_op {dirs kinds rights : Int} {x y : Int × Int} (h : fitStep dirs kinds rights x = some y) : y.1 = x.1 := by
 unfold fitStep at h
 split at h
 ·simp only [Option.some.injEq] at h; rw [← h]
 ·split at h
  ·simp only [Option.some.injEq] at h; rw [← h]
  ·split at h
   ·split at h
    ·cases h
    ·simp only [Option.some.injEq] at h; rw [← h]
   ·simp only [Option.some.injEq] at h; rw [← h]
theorem fit_count {dirs kinds rights : Int} (op : Int) : ∀ p : List (Int × Int), countOp (p.filterMap (fitStep dirs kinds rights)) op ≤ countOp p op
 | [] => by simp [countOp]
 | x :: p => by
  have ih := fit_count (dirs := dirs) (kinds := kinds) (rights := rights) op p
  unfold countOp at *
  rw [List.filterMap_cons]
  cases hf : fitStep dirs kinds rights x with
  | none => simp only [List.countP_cons]; omega
  | some y =>
   have := fitStep_op hf
   simp only [List.countP_cons, this]
   omega
theorem fitP_ok {dirs kinds rights : Int} (hd : 1 ≤ dirs) (hk : 1 ≤ kinds) (hr : 0 ≤ rights) {p : List (Int × Int)} (hp : LibOk p) : ProgOk dirs kinds rights (fitP dirs kinds rights p) := by
 have h0 : ProgOk dirs kinds rights [(3, 0)] := by
  refine ⟨by simp, by simp, fun x hx => ?_, by simp [countOp], by simp [countOp], by simp [countOp]⟩
  simp only [List.mem_singleton] at hx
  subst hx
  exact ⟨by simp, by simp, by simp, by simp, by simp⟩
 unfold fitP
 split
 ·exact h0
 ·rename_i hne
  have hl : (p.filterMap (fitStep dirs kinds rights)).length ≤ p.length := List.length_filterMap_le _ _
  have hpos := List.length_pos_iff.2 hne
  refine ⟨by omega, by have := hp.len; omega, fun y hy => ?_, Nat.le_trans (fit_count 6 p) hp.take, Nat.le_trans (fit_count 7 p) hp.push, Nat.le_trans (fit_count 8 p) hp.become⟩
  obtain ⟨x, hx, hf⟩ := List.mem_filterMap.1 hy
  obtain ⟨a, b, c, d⟩ := hp.st x hx
  have m1 := Int.tmod_nonneg dirs c
  have m2 := Int.tmod_lt_of_pos x.2 (show 0 < dirs by omega)
  have m3 := Int.tmod_nonneg kinds c
  have m4 := Int.tmod_lt_of_pos x.2 (show 0 < kinds by omega)
  have m5 := Int.tmod_nonneg rights c
  unfold fitStep at hf
  split at hf
  ·simp only [Option.some.injEq] at hf; subst hf
   exact ⟨by simp only; omega, by simp only; omega, by simp only; omega, by simp only; omega, by simp only; omega⟩
  ·split at hf
   ·simp only [Option.some.injEq] at hf; subst hf
    exact ⟨by simp only; omega, by simp only; omega, by simp only; omega, by simp only; omega, by simp only; omega⟩
   ·split at hf
    ·split at hf
     ·cases hf
     ·rename_i hr0
      have m6 := Int.tmod_lt_of_pos x.2 (show 0 < rights by omega)
      simp only [Option.some.injEq] at hf; subst hf
      exact ⟨by simp only; omega, by simp only; omega, by simp only; omega, by simp only; omega, by simp only; omega⟩
    ·simp only [Option.some.injEq] at hf; subst hf
     exact ⟨by omega, by omega, by omega, by omega, by omega⟩
theorem madeP_ok {n dirs kinds rights : Int} (hn : U8 n) (hd : 1 ≤ dirs) (hk : 1 ≤ kinds) (hr : 0 ≤ rights) : ProgOk dirs kinds rights (madeP n dirs kinds rights) := by
 obtain ⟨n0, n1⟩ := hn
 have q0 : 0 ≤ n.tdiv 16 := by rw [Int.tdiv_eq_ediv_of_nonneg n0]; omega
 have q1 : 0 ≤ n.tdiv 3 := by rw [Int.tdiv_eq_ediv_of_nonneg n0]; omega
 have q2 := Int.tmod_nonneg 5 n0
 exact fitP_ok hd hk hr (libL_ok (Int.tmod_nonneg _ q0) (Int.tmod_nonneg _ (by omega)) (Int.tmod_nonneg _ q1) (Int.tmod_nonneg _ n0) _)
theorem madeB_turn (w h cut : Int) (d : Nat) (hd : d < (madeB w h cut).turn.length) : nth (madeB w h cut).turn (nth (madeB w h cut).turn d).toNat = d := by
 have ht : (madeB w h cut).turn = gridTurn 8 := by unfold madeB; split <;> rfl
 rw [ht] at hd ⊢
 have h8 : d < 8 := by simpa [gridTurn] using hd
 have : ∀ d : Fin 8, nth (gridTurn 8) (nth (gridTurn 8) d.val).toNat = (d.val : Int) := by decide
 exact this ⟨d, h8⟩
theorem madeG_ok {x : RawG} (hx : RawOk x) : GOk (madeG x) := by
 have hb : BoardOk x.board := boardOk_made hx.w.1 hx.h.1 x.cut
 have hc := madeB_cells hx.w.1 hx.h.1 x.cut
 have hd : x.board.next.length = 8 := madeB_dirs x.w x.h x.cut
 have hK : kindsN x = 1 ∨ kindsN x = 2 := by unfold kindsN; split <;> simp
 have hkl : (madeG x).kinds.length = kindsN x := by simp [madeG]
 have r0 : 0 ≤ x.rights := Int.tmod_nonneg 3 hx.f0.1
 have r1 : x.rights < 3 := Int.tmod_lt_of_pos x.f0 (show (0 : Int) < 3 by decide)
 have t : ∀ n : Int, U8 n → 0 ≤ (n.tdiv 4).tmod 3 ∧ (n.tdiv 4).tmod 3 < 3 := fun n hn => by
  have : 0 ≤ n.tdiv 4 := by rw [Int.tdiv_eq_ediv_of_nonneg hn.1]; have := hn.1; omega
  exact ⟨Int.tmod_nonneg 3 this, Int.tmod_lt_of_pos _ (by decide)⟩
 have t3 := t _ hx.f3
 have t4 := t _ hx.f4
 have hcl : x.board.cells = (madeG x).cells := rfl
 have hc' : 1 ≤ x.board.cells ∧ x.board.cells ≤ 9 := hc
 refine ⟨hb, hc'.1, hc'.2, by show 1 ≤ x.board.next.length; omega, by show x.board.next.length ≤ 8; omega, madeB_turn x.w x.h x.cut, by omega, by omega, fun k hk => ?_, fun k hk p hp => ?_, r0, ?_, fun c hcm => ?_, ?_, ?_, ?_⟩
 ·obtain ⟨i, _, rfl⟩ := List.mem_map.1 hk
  simp only [kindOf, List.length_map, List.length_take]; omega
 ·rw [hkl]
  obtain ⟨i, _, rfl⟩ := List.mem_map.1 hk
  obtain ⟨n, hn, rfl⟩ := List.mem_map.1 hp
  have hn' := List.mem_of_mem_take hn
  have hu : U8 n := by
   unfold RawG.ks at hn'
   split at hn'
   ·exact hx.k0 n hn'
   ·exact hx.k1 n hn'
  exact madeP_ok hu (show (1 : Int) ≤ x.board.next.length by omega) (show (1 : Int) ≤ kindsN x by omega) r0
 ·show x.rights ≤ 4; omega
 ·rw [hkl]
  obtain ⟨c0, h0, rfl⟩ := List.mem_map.1 hcm
  obtain ⟨u0, u1, u2⟩ := hx.c _ (List.mem_of_mem_take h0)
  have a0 := Int.tmod_nonneg 3 u0.1
  have a1 := Int.tmod_lt_of_pos c0.1 (show (0 : Int) < 3 by decide)
  have b0 := Int.tmod_nonneg (kindsN x : Int) u1.1
  have b1 := Int.tmod_lt_of_pos c0.2.1 (show (0 : Int) < kindsN x by omega)
  have d0 := Int.tmod_nonneg x.board.cells u2.1
  have d1 := Int.tmod_lt_of_pos c0.2.2 (show (0 : Int) < x.board.cells by omega)
  have e0 := Int.tmod_nonneg 3 u2.1
  have e1 := Int.tmod_lt_of_pos c0.2.2 (show (0 : Int) < 3 by decide)
  have t0 := t _ u0
  rw [← hcl]
  refine ⟨?_, ?_, ?_, ?_, ?_⟩ <;> simp only [clauseOf]
  ·omega
  ·split <;> omega
  ·split
   ·omega
   ·split <;> omega
  ·omega
  ·intro h; rw [if_neg (by omega)]
 ·show ((x.c.take 3).map _).length ≤ 6
  simp; omega
 ·show 1 ≤ (if x.f3.tmod 4 = 3 then 1 + (x.f3.tdiv 4).tmod 3 else 3) ∧ (if x.f3.tmod 4 = 3 then 1 + (x.f3.tdiv 4).tmod 3 else 3) ≤ 3
  split <;> omega
 ·show 1 ≤ (if x.f4.tmod 4 = 3 then 1 + (x.f4.tdiv 4).tmod 3 else 2) ∧ (if x.f4.tmod 4 = 3 then 1 + (x.f4.tdiv 4).tmod 3 else 2) ≤ 3
  split <;> omega
theorem madePos_ok {g : GameD} (hg : GOk g) {x : RawP} (hx : RawPOk x) : POk g (madePos g x) := by
 have c1 := hg.c1
 have k1 := hg.k1
 have hat : ∀ n, n ≤ 6 → ∀ c ∈ madeAt g x n, 0 ≤ c ∧ c ≤ 2 * g.kinds.length := by
  intro n
  induction n with
  | zero => intro _ c hc; simp [madeAt] at hc; omega
  | succ n ih =>
   intro hn c hc
   rw [madeAt_succ] at hc
   unfold atStep at hc
   split at hc
   ·rcases List.mem_or_eq_of_mem_set hc with hc | rfl
    ·exact ih (by omega) c hc
    ·have hkv : U8 (nth x.kind n) := hx.kv _ (nth_mem (by rw [hx.k6]; omega))
     have a := Int.tmod_nonneg (g.kinds.length : Int) hkv.1
     have b := Int.tmod_lt_of_pos (nth x.kind n) (show (0 : Int) < g.kinds.length by omega)
     have c := Int.tmod_nonneg 2 (show (0 : Int) ≤ n by omega)
     have d := Int.tmod_lt_of_pos (n : Int) (show (0 : Int) < 2 by decide)
     omega
   ·exact ih (by omega) c hc
 have hh : ∀ s, s < 2 → HandOk g (handL g x s (min g.kinds.length 2)) := by
  intro s hs
  refine ⟨handL_len _ _ _ _, fun i hi => ?_⟩
  rw [handL_len] at hi
  have e : nth (handL g x s (min g.kinds.length 2)) i = if i < min g.kinds.length 2 then handV g x s i else 0 := by
   unfold handL
   rw [nth_map _ _ _ (by simpa using hi)]
   simp [nth, hi]
  rw [e]
  split
  ·have hv : U8 (nth x.hand (2 * s + i)) := hx.hv _ (nth_mem (by rw [hx.h4]; omega))
   have a := Int.tmod_nonneg 3 hv.1
   have b := Int.tmod_lt_of_pos (nth x.hand (2 * s + i)) (show (0 : Int) < 3 by decide)
   unfold handV
   split
   ·rename_i hk
    split <;> exact ⟨by omega, by omega, fun _ => hk⟩
   ·exact ⟨by omega, by omega, fun h => by omega⟩
  ·exact ⟨by omega, by omega, fun h => by omega⟩
 have hp := pow_le16 hg.r0 hg.r4
 refine ⟨?_, hat 6 (Nat.le_refl _), hh 0 (by omega), hh 1 (by omega), Int.tmod_nonneg _ hx.r.1, Int.tmod_lt_of_pos _ (by omega), ?_⟩
 ·show ((madeAt g x 6).length : Int) = g.cells
  rw [madeAt_len]; omega
 ·have a := Int.tmod_nonneg 2 hx.s.1
  have b := Int.tmod_lt_of_pos x.side (show (0 : Int) < 2 by decide)
  show x.side.tmod 2 = 0 ∨ x.side.tmod 2 = 1
  omega
end Go.Av
end
section
/- Plain: paths of programs (layer 8). -/
open Go Go.Proofs
namespace Go.Av
abbrev ActD := Int × Int × Int
structure PathD where
 acts : List ActD
 to : Int
 deriving DecidableEq
instance : Inhabited PathD := ⟨⟨[], 0⟩⟩
def encAct (a : ActD) : List AV := [.v (.int .i64 a.1), .v (.int .i64 a.2.1), .v (.int .i64 a.2.2)]
def encAs (l : List ActD) : AV := .lst 3 (l.map encAct)
def encPath (p : PathD) : List AV := [encAs p.acts, .v (.int .i64 p.to)]
def encPt (l : List PathD) : AV := .lst 2 (l.map encPath)
def encCells (l : List (List PathD)) : AV := .lst 1 (l.map fun x => [encPt x])
def encSide (l : List (List (List PathD))) : AV := .lst 1 (l.map fun x => [encCells x])
abbrev CodeD := List (List (List PathD)) × List (List (List PathD))
def encCode (c : CodeD) : List AV := [encSide c.1, encSide c.2]
attribute [go_sem] encAct encAs encPath encPt encCells encSide encCode
theorem bel_A {n : Nat} {l : List ActD} : (∀ r ∈ l.map encAct, ∀ c ∈ r, Bel n c) = True := by
 refine eq_true ?_
 intro r hr c hc
 obtain ⟨x, _, rfl⟩ := List.mem_map.1 hr
 revert c
 simp [go_sem]
theorem bel_As {n : Nat} {l : List ActD} : Bel n (.lst 3 (l.map encAct)) = True := by rw [Bel_lst, bel_A]
theorem bel_Pa {n : Nat} {l : List PathD} : (∀ r ∈ l.map encPath, ∀ c ∈ r, Bel n c) = True := by
 refine eq_true ?_
 intro r hr c hc
 obtain ⟨x, _, rfl⟩ := List.mem_map.1 hr
 simp only [encPath, encAs, List.mem_cons, List.not_mem_nil, or_false] at hc
 rcases hc with rfl | rfl
 ·exact of_eq_true bel_As
 ·exact .v _
theorem bel_Pas {n : Nat} {l : List PathD} : Bel n (.lst 2 (l.map encPath)) = True := by rw [Bel_lst, bel_Pa]
theorem bel_Ce {n : Nat} {l : List (List PathD)} : (∀ r ∈ l.map (fun x => [AV.lst 2 (x.map encPath)]), ∀ c ∈ r, Bel n c) = True := by
 refine eq_true ?_
 intro r hr c hc
 obtain ⟨x, _, rfl⟩ := List.mem_map.1 hr
 simp only [List.mem_cons, List.not_mem_nil, or_false] at hc
 subst hc
 exact of_eq_true bel_Pas
theorem bel_Ces {n : Nat} {l : List (List PathD)} : Bel n (.lst 1 (l.map (fun x => [AV.lst 2 (x.map encPath)]))) = True := by rw [Bel_lst, bel_Ce]
theorem bel_Si {n : Nat} {l : List (List (List PathD))} : (∀ r ∈ l.map (fun x => [AV.lst 1 (x.map (fun x => [AV.lst 2 (x.map encPath)]))]), ∀ c ∈ r, Bel n c) = True := by
 refine eq_true ?_
 intro r hr c hc
 obtain ⟨x, _, rfl⟩ := List.mem_map.1 hr
 simp only [List.mem_cons, List.not_mem_nil, or_false] at hc
 subst hc
 exact of_eq_true bel_Ces
theorem bel_Sis {n : Nat} {l : List (List (List PathD))} : Bel n (.lst 1 (l.map (fun x => [AV.lst 1 (x.map (fun x => [AV.lst 2 (x.map encPath)]))]))) = True := by rw [Bel_lst, bel_Si]
attribute [go_sem high] bel_As bel_Pas bel_Ces bel_Sis
attribute [go_sem ↓] bel_A bel_Pa bel_Ce bel_Si
def onP (p : PathD) (to : Int) (more : List ActD) : PathD := ⟨p.acts ++ more, to⟩
def slideP (p : PathD) : List Int → List ActD → List PathD
 | [], _ => []
 | c :: l, passed => onP p c passed :: slideP p l (passed ++ [(3, c, 0)])
def extP (b : BoardD) (side : Int) (p : PathD) (x : Int × Int) : List PathD :=
 if x.1 = 1 ∨ x.1 = 7 then
  if toB b side x.2 p.to < 0 then [] else if x.1 = 1 then [onP p (toB b side x.2 p.to) []] else [onP p p.to [(7, p.to, toB b side x.2 p.to)]]
 else if x.1 = 2 then slideP p (lineB b side x.2 p.to) []
 else if x.1 = 8 ∨ x.1 = 9 ∨ x.1 = 10 then [onP p p.to [(x.1, x.2, 0)]]
 else [onP p p.to [(x.1, p.to, 0)]]
def stepP (b : BoardD) (side : Int) (now : List PathD) (x : Int × Int) : List PathD := now.flatMap fun w => extP b side w x
def pathsP (b : BoardD) (side : Int) (prog : List (Int × Int)) (cell : Int) : List PathD := prog.foldl (stepP b side) [⟨[], cell⟩]
def kindP (b : BoardD) (side : Int) (progs : List (List (Int × Int))) (cell : Int) : List PathD := progs.flatMap fun p => pathsP b side p cell
def cellsP (b : BoardD) (side : Int) (progs : List (List (Int × Int))) : List (List PathD) := (List.range b.cells.toNat).map fun (c : Nat) => kindP b side progs c
def sideP (g : GameD) (side : Int) : List (List (List PathD)) := g.kinds.map fun k => cellsP g.board side k.progs
def codeP (g : GameD) : CodeD := (sideP g 0, sideP g 1)
theorem lineGo_nodup {b : BoardD} {side d c : Int} : ∀ (f : Nat) (x : Int) (seen : List Int), seen.Nodup → (lineGo b side d c f x seen).Nodup
 | 0, x, seen, h => by simpa [lineGo] using h
 | f + 1, x, seen, h => by
  rw [lineGo]
  split
  ·rename_i hc
   refine lineGo_nodup f _ _ (List.nodup_append.2 ⟨h, by simp, ?_⟩)
   intro y hy z hz
   simp at hz
   subst hz
   rintro rfl
   exact hc.2.2 hy
  ·exact h
theorem lineB_le {b : BoardD} (hb : BoardOk b) {side d c : Int} : (lineB b side d c).length ≤ b.cells.toNat :=
 nodup_le _ _ (lineGo_nodup _ _ _ (by simp)) (fun y hy => by have := lineB_mem hb y hy; have := hb.c0; omega)
theorem slideP_len (p : PathD) : ∀ (l : List Int) (passed : List ActD), (slideP p l passed).length = l.length
 | [], _ => rfl
 | c :: l, passed => by simp [slideP, slideP_len p l]
theorem slideP_mem {p w : PathD} : ∀ {l : List Int} {passed : List ActD}, w ∈ slideP p l passed → ∃ more, w.acts = p.acts ++ passed ++ more ∧ more.length ≤ l.length ∧ w.to ∈ l ∧ ∀ a ∈ more, ∃ c ∈ l, a = (3, c, 0)
 | [], _, h => by simp [slideP] at h
 | c :: l, passed, h => by
  simp only [slideP, List.mem_cons] at h
  rcases h with rfl | h
  ·exact ⟨[], by simp [onP], by simp, by simp [onP], by simp⟩
  ·obtain ⟨more, h1, h2, h3, h4⟩ := slideP_mem h
   refine ⟨(3, c, 0) :: more, by rw [h1]; simp, by simp; omega, List.mem_cons_of_mem _ h3, fun a ha => ?_⟩
   rcases List.mem_cons.1 ha with rfl | ha
   ·exact ⟨c, by simp, rfl⟩
   ·obtain ⟨c', hc, e⟩ := h4 a ha
    exact ⟨c', List.mem_cons_of_mem _ hc, e⟩
theorem extP_len {b : BoardD} (hb : BoardOk b) (h1 : 1 ≤ b.cells) (side : Int) (p : PathD) (x : Int × Int) : (extP b side p x).length ≤ if x.1 = 2 then b.cells.toNat else 1 := by
 unfold extP
 by_cases h2 : x.1 = 2
 ·rw [if_neg (by omega), if_pos h2, if_pos h2, slideP_len]
  exact lineB_le hb
 ·rw [if_neg h2, if_neg h2]
  split
  ·split
   ·simp
   ·split <;> simp
  ·split <;> simp
theorem flatMap_le {α β : Type} (f : α → List β) (m : Nat) : ∀ (l : List α), (∀ x ∈ l, (f x).length ≤ m) → (l.flatMap f).length ≤ l.length * m
 | [], _ => by simp
 | x :: l, h => by
  have a := h x (by simp)
  have b := flatMap_le f m l (fun y hy => h y (by simp [hy]))
  simp only [List.flatMap_cons, List.length_append, List.length_cons, Nat.add_mul, Nat.one_mul]
  omega
theorem stepP_len {b : BoardD} (hb : BoardOk b) (h1 : 1 ≤ b.cells) (side : Int) (now : List PathD) (x : Int × Int) : (stepP b side now x).length ≤ now.length * if x.1 = 2 then b.cells.toNat else 1 :=
 flatMap_le _ _ _ (fun w _ => extP_len hb h1 side w x)
theorem foldP_len {b : BoardD} (hb : BoardOk b) (h1 : 1 ≤ b.cells) (side : Int) : ∀ (prog : List (Int × Int)) (now : List PathD), (prog.foldl (stepP b side) now).length ≤ now.length * b.cells.toNat ^ countOp prog 2
 | [], now => by simp [countOp]
 | x :: prog, now => by
  have h := foldP_len hb h1 side prog (stepP b side now x)
  have k := stepP_len hb h1 side now x
  rw [List.foldl_cons]
  refine Nat.le_trans h ?_
  refine Nat.le_trans (Nat.mul_le_mul_right _ k) ?_
  unfold countOp at *
  rw [List.countP_cons, Nat.mul_assoc]
  refine Nat.mul_le_mul_left _ ?_
  by_cases h2 : x.1 = 2
  ·simp [h2, Nat.pow_succ, Nat.mul_comm]
  ·simp [h2]
theorem pathsP_len {b : BoardD} (hb : BoardOk b) (h1 : 1 ≤ b.cells) (side : Int) (prog : List (Int × Int)) (cell : Int) : (pathsP b side prog cell).length ≤ b.cells.toNat ^ countOp prog 2 := by
 have := foldP_len hb h1 side prog [⟨[], cell⟩]
 simpa [pathsP] using this
def ActsLe (n : Nat) (l : List PathD) : Prop := ∀ w ∈ l, w.acts.length ≤ n
theorem extP_acts {b : BoardD} (hb : BoardOk b) (h9 : b.cells ≤ 9) (side : Int) (p : PathD) (x : Int × Int) : ActsLe (p.acts.length + 10) (extP b side p x) := by
 intro w hw
 unfold extP at hw
 split at hw
 ·split at hw
  ·simp at hw
  ·split at hw <;> simp only [List.mem_singleton] at hw <;> subst hw <;> simp [onP]
 ·split at hw
  ·obtain ⟨more, e1, e2, _, _⟩ := slideP_mem hw
   have := lineB_le hb (side := side) (d := x.2) (c := p.to)
   rw [e1]; simp; omega
  ·split at hw <;> simp only [List.mem_singleton] at hw <;> subst hw <;> simp [onP]
theorem stepP_acts {b : BoardD} (hb : BoardOk b) (h9 : b.cells ≤ 9) (side : Int) {n : Nat} {now : List PathD} (hn : ActsLe n now) (x : Int × Int) : ActsLe (n + 10) (stepP b side now x) := by
 intro w hw
 obtain ⟨p, hp, hw⟩ := List.mem_flatMap.1 hw
 have := extP_acts hb h9 side p x w hw
 have := hn p hp
 omega
end Go.Av
end
section
/- Plain: laws of paths (layer 8): they are valid, turned, counted. -/
open Go Go.Proofs
namespace Go.Av
def ActOk (cells kinds rights : Int) (a : ActD) : Prop :=
 (3 ≤ a.1 ∧ a.1 ≤ 6 ∧ (0 ≤ a.2.1 ∧ a.2.1 < cells) ∧ a.2.2 = 0) ∨ (a.1 = 7 ∧ (0 ≤ a.2.1 ∧ a.2.1 < cells) ∧ (0 ≤ a.2.2 ∧ a.2.2 < cells)) ∨
 (a.1 = 8 ∧ (0 ≤ a.2.1 ∧ a.2.1 < kinds) ∧ a.2.2 = 0) ∨ ((a.1 = 9 ∨ a.1 = 10) ∧ (0 ≤ a.2.1 ∧ a.2.1 < rights) ∧ a.2.2 = 0)
def countA (l : List ActD) (op : Int) : Nat := l.countP (fun a => a.1 == op)
structure PathOk (cells kinds rights : Int) (w : PathD) (t p b : Nat) : Prop where
 to : 0 ≤ w.to ∧ w.to < cells
 acts : ∀ a ∈ w.acts, ActOk cells kinds rights a
 take : countA w.acts 6 ≤ t
 push : countA w.acts 7 ≤ p
 become : countA w.acts 8 ≤ b
theorem countA_append (l m : List ActD) (op : Int) : countA (l ++ m) op = countA l op + countA m op := by simp [countA]
theorem countA_slide {l : List Int} {m : List ActD} (h : ∀ a ∈ m, ∃ c ∈ l, a = (3, c, 0)) {op : Int} (ho : op ≠ 3) : countA m op = 0 := by
 unfold countA
 rw [List.countP_eq_zero]
 intro a ha
 obtain ⟨c, _, rfl⟩ := h a ha
 simpa using ho.symm
theorem countA_one (a : ActD) (op : Int) : countA [a] op = if a.1 = op then 1 else 0 := by simp [countA, List.countP_cons]
def isOp (x : Int × Int) (op : Int) : Nat := if x.1 = op then 1 else 0
theorem extP_ok {b : BoardD} (hb : BoardOk b) {kinds rights : Int} {side : Int} {w : PathD} {t p be : Nat} (hw : PathOk b.cells kinds rights w t p be) {x : Int × Int} (hx : StepOk b.next.length kinds rights x) :
  ∀ v ∈ extP b side w x, PathOk b.cells kinds rights v (t + isOp x 6) (p + isOp x 7) (be + isOp x 8) := by
 intro v hv
 obtain ⟨w1, w2, w3, w4, w5⟩ := hw
 obtain ⟨x1, x2, x3, x4, x5⟩ := hx
 have ht := toB_lt hb side x.2 w.to
 unfold extP at hv
 unfold isOp
 split at hv
 ·rename_i h17
  split at hv
  ·simp at hv
  ·split at hv
   ·simp only [List.mem_singleton] at hv
    subst hv
    refine ⟨by simp only [onP]; omega, by simpa [onP] using w2, ?_, ?_, ?_⟩ <;> simp only [onP, List.append_nil] <;> omega
   ·have e7 : x.1 = 7 := by omega
    simp only [List.mem_singleton] at hv
    subst hv
    refine ⟨w1, fun a ha => ?_, ?_, ?_, ?_⟩
    ·simp only [onP, List.mem_append, List.mem_singleton] at ha
     rcases ha with ha | rfl
     ·exact w2 a ha
     ·exact .inr (.inl ⟨rfl, w1, by simp only; omega⟩)
    all_goals simp only [onP, countA_append, countA_one, e7]; simp only [show ((7 : Int) = 6) = False by decide, show ((7 : Int) = 8) = False by decide, if_true, if_false]; omega
 ·split at hv
  ·rename_i h2
   obtain ⟨more, e1, e2, e3, e4⟩ := slideP_mem hv
   rw [List.append_nil] at e1
   refine ⟨lineB_mem hb _ e3, fun a ha => ?_, ?_, ?_, ?_⟩
   ·rw [e1, List.mem_append] at ha
    rcases ha with ha | ha
    ·exact w2 a ha
    ·obtain ⟨c, hc, rfl⟩ := e4 a ha
     exact .inl ⟨by simp, by simp, lineB_mem hb _ hc, rfl⟩
   all_goals rw [e1, countA_append, countA_slide e4 (by omega)]; omega
  ·split at hv
   ·rename_i h17 h2 h8
    simp only [List.mem_singleton] at hv
    subst hv
    refine ⟨w1, fun a ha => ?_, ?_, ?_, ?_⟩
    ·simp only [onP, List.mem_append, List.mem_singleton] at ha
     rcases ha with ha | rfl
     ·exact w2 a ha
     ·rcases h8 with h | h | h
      ·exact .inr (.inr (.inl ⟨h, x4 h, rfl⟩))
      ·exact .inr (.inr (.inr ⟨.inl h, x5 (.inl h), rfl⟩))
      ·exact .inr (.inr (.inr ⟨.inr h, x5 (.inr h), rfl⟩))
    all_goals simp only [onP, countA_append, countA_one]; omega
   ·rename_i h17 h2 h8
    simp only [List.mem_singleton] at hv
    subst hv
    refine ⟨w1, fun a ha => ?_, ?_, ?_, ?_⟩
    ·simp only [onP, List.mem_append, List.mem_singleton] at ha
     rcases ha with ha | rfl
     ·exact w2 a ha
     ·exact .inl ⟨by simp only; omega, by simp only; omega, w1, rfl⟩
    all_goals simp only [onP, countA_append, countA_one]; omega
theorem foldP_ok {b : BoardD} (hb : BoardOk b) {kinds rights : Int} {side : Int} : ∀ {prog : List (Int × Int)} {now : List PathD} {t p be : Nat}, (∀ w ∈ now, PathOk b.cells kinds rights w t p be) → (∀ x ∈ prog, StepOk b.next.length kinds rights x) →
  ∀ w ∈ prog.foldl (stepP b side) now, PathOk b.cells kinds rights w (t + countOp prog 6) (p + countOp prog 7) (be + countOp prog 8)
 | [], now, t, p, be, h, _, w, hw => by simpa [countOp] using h w hw
 | x :: prog, now, t, p, be, h, hx, w, hw => by
  rw [List.foldl_cons] at hw
  have := foldP_ok hb (side := side) (prog := prog) (now := stepP b side now x) (t := t + isOp x 6) (p := p + isOp x 7) (be := be + isOp x 8) (fun v hv => by
   obtain ⟨u, hu, hv⟩ := List.mem_flatMap.1 hv
   exact extP_ok hb (h u hu) (hx x (by simp)) v hv) (fun y hy => hx y (by simp [hy])) w hw
  have e : ∀ op, countOp (x :: prog) op = countOp prog op + isOp x op := fun op => by simp [countOp, List.countP_cons, isOp]
  rw [e, e, e]
  simpa [Nat.add_assoc, Nat.add_comm, Nat.add_left_comm] using this
theorem pathsP_ok {b : BoardD} (hb : BoardOk b) {kinds rights side : Int} {prog : List (Int × Int)} (hp : ∀ x ∈ prog, StepOk b.next.length kinds rights x) {cell : Int} (hc : 0 ≤ cell ∧ cell < b.cells) :
  ∀ w ∈ pathsP b side prog cell, PathOk b.cells kinds rights w (countOp prog 6) (countOp prog 7) (countOp prog 8) := by
 intro w hw
 have := foldP_ok hb (side := side) (kinds := kinds) (rights := rights) (prog := prog) (now := [⟨[], cell⟩]) (t := 0) (p := 0) (be := 0) (fun v hv => by
  simp only [List.mem_singleton] at hv
  subst hv
  exact ⟨hc, by simp, by simp [countA], by simp [countA], by simp [countA]⟩) hp w hw
 simpa using this
theorem kindP_ok {g : GameD} (hg : GOk g) {side : Int} {k : KindD} (hk : k ∈ g.kinds) {cell : Int} (hc : 0 ≤ cell ∧ cell < g.cells) : ∀ w ∈ kindP g.board side k.progs cell, PathOk g.cells g.kinds.length g.rights w 2 1 1 := by
 intro w hw
 obtain ⟨p, hp, hw⟩ := List.mem_flatMap.1 hw
 have ok := hg.pr k hk p hp
 obtain ⟨a, b, c, d, e⟩ := pathsP_ok hg.board (side := side) ok.st hc w hw
 exact ⟨a, b, Nat.le_trans c ok.take, Nat.le_trans d ok.push, Nat.le_trans e ok.become⟩
def cntCells (l : List (List PathD)) : Nat := (l.map (·.length)).sum
def cntSide (l : List (List (List PathD))) : Nat := (l.map cntCells).sum
def countC (c : CodeD) : Nat := cntSide c.1 + cntSide c.2
def progN (b : BoardD) (side : Int) (p : List (Int × Int)) : Nat := ((List.range b.cells.toNat).map fun (c : Nat) => (pathsP b side p c).length).sum
theorem sum_map_add {α : Type} (f g : α → Nat) : ∀ l : List α, (l.map fun x => f x + g x).sum = (l.map f).sum + (l.map g).sum
 | [] => rfl
 | x :: l => by simp [sum_map_add f g l]; omega
theorem sum_map_zero {α : Type} : ∀ l : List α, (l.map fun _ => 0).sum = 0
 | [] => rfl
 | x :: l => by simpa using sum_map_zero l
theorem sum_map_le {α : Type} (f : α → Nat) (m : Nat) : ∀ l : List α, (∀ x ∈ l, f x ≤ m) → (l.map f).sum ≤ l.length * m
 | [], _ => by simp
 | x :: l, h => by
  have := sum_map_le f m l (fun y hy => h y (by simp [hy]))
  have := h x (by simp)
  simp [Nat.add_mul]; omega
theorem cntCells_eq (b : BoardD) (side : Int) : ∀ progs : List (List (Int × Int)), cntCells (cellsP b side progs) = (progs.map (progN b side)).sum
 | [] => by
  unfold cntCells cellsP kindP
  simp only [List.flatMap_nil, List.map_map, List.map_nil, List.sum_nil]
  exact sum_map_zero _
 | p :: progs => by
  have ih := cntCells_eq b side progs
  unfold cntCells cellsP kindP at *
  rw [List.map_map] at ih ⊢
  simp only [List.flatMap_cons, List.map_cons, List.sum_cons, ← ih]
  unfold progN
  rw [← sum_map_add]
  congr 1
  refine List.map_congr_left fun c _ => ?_
  simp
theorem cntSide_eq (g : GameD) (side : Int) : cntSide (sideP g side) = (g.kinds.map fun k => (k.progs.map (progN g.board side)).sum).sum := by
 unfold cntSide sideP
 rw [List.map_map]
 congr 1
 refine List.map_congr_left fun k _ => ?_
 exact cntCells_eq _ _ _
def progW (g : GameD) (p : List (Int × Int)) : Nat := progN g.board 0 p + progN g.board 1 p
theorem countC_eq (g : GameD) : countC (codeP g) = (g.kinds.map fun k => (k.progs.map (progW g)).sum).sum := by
 unfold countC codeP
 rw [cntSide_eq, cntSide_eq, ← sum_map_add]
 congr 1
 refine List.map_congr_left fun k _ => ?_
 rw [← sum_map_add]
 rfl
def OneSlide (g : GameD) : Prop := ∀ k ∈ g.kinds, ∀ p ∈ k.progs, countOp p 2 ≤ 1
theorem progN_le {g : GameD} (hg : GOk g) (side : Int) {p : List (Int × Int)} (hs : countOp p 2 ≤ 1) : progN g.board side p ≤ 81 := by
 have c9 := hg.c9
 have c1 := hg.c1
 have := sum_map_le (fun (c : Nat) => (pathsP g.board side p c).length) 9 (List.range g.board.cells.toNat) (fun c _ => by
  have h := pathsP_len hg.board hg.c1 side p c
  have h2 : g.board.cells.toNat ≤ 9 := by have : g.board.cells = g.cells := rfl; omega
  rcases (show countOp p 2 = 0 ∨ countOp p 2 = 1 by omega) with e | e <;> rw [e] at h <;> simp at h <;> omega)
 have h2 : g.board.cells.toNat ≤ 9 := by have : g.board.cells = g.cells := rfl; omega
 rw [List.length_range] at this
 unfold progN
 omega
theorem countC_le {g : GameD} (hg : GOk g) (hs : OneSlide g) : countC (codeP g) ≤ 10000 := by
 rw [countC_eq]
 have := sum_map_le (fun k : KindD => (k.progs.map (progW g)).sum) 1296 g.kinds (fun k hk => by
  have := sum_map_le (progW g) 162 k.progs (fun p hp => by
   have a := progN_le hg 0 (hs k hk p hp)
   have b := progN_le hg 1 (hs k hk p hp)
   unfold progW; omega)
  have := hg.pn k hk
  omega)
 have := hg.k6
 omega
end Go.Av
end
section
/- Contracts, runs: same, only, slide, take, push of the reference. -/
open Go Go.Proofs
namespace Go.Av
theorem R5same_pure (a b : StD) (ha : FitsP a.p) (hb : FitsP b.p) : Pure Tryz.prog 298 [.agg (encState a), .agg (encState b)] (.v (.bool (decide (a = b)))) := by
 refine pF Tryz.func298 ?_
 have hC := Compare_pure _ _ ha hb
 have he := cmpP_eq (p := a.p) (q := b.p)
 obtain ⟨pa, ka, ca, ta⟩ := a
 obtain ⟨pb, kb, cb, tb⟩ := b
 simp only at hC he
 (repeat (first|with_reducible refine wV fun _=>?_|simp [go_sem]))
 refine aGC.plain _ (fun _ => hC) (by simp [go_sem]) ?_
 (repeat (first|with_reducible refine wV fun _=>?_|simp [go_sem]))
 refine LeV.of_eq ?_
 by_cases h1 : pa = pb <;> by_cases h2 : ka = kb <;> by_cases h3 : ca = cb <;> cases ta <;> cases tb <;> simp_all
theorem R5only_pure (s : StD) (b : Bool) : Pure Tryz.prog 276 [.agg (encState s), .v (.bool b)] (encSs (onlyS s b)) := by
 refine pF Tryz.func276 ?_
 cases b
 ·(repeat (first|with_reducible refine wV fun _=>?_|simp [go_sem, onlyS]))
  exact frX
 ·(repeat (first|with_reducible refine wV fun _=>?_|simp [go_sem, onlyS]))
  exact frX
theorem R5slide_pure (g : GameD) (hg : GOk g) (s : StD) (hs : StOk g s) (n : Int) : Pure Tryz.prog 277 [.agg (encGame g), .agg (encState s), .v (.int .i64 n)] (encSs (slideS g.board s n)) := by
 refine pF Tryz.func277 ?_
 have hL := R1Line_pure g.board hg.board s.p.side n s.cursor
 have hlm := lineB_mem hg.board (side := s.p.side) (d := n) (c := s.cursor)
 have hll := lineB_len (b := g.board) (side := s.p.side) (d := n) (c := s.cursor)
 have c9 := hg.c9
 have c1 := hg.c1
 have hal := hs.p.al
 rw [show g.board.cells = g.cells from rfl] at hlm hll
 unfold slideS
 generalize lineB g.board s.p.side n s.cursor = line at *
 generalize hR : slideGo s line = R
 (repeat (first|with_reducible refine wV fun _=>?_|simp [go_sem]))
 refine ACallP.plain hL (by simp [go_sem]) ?_
 (repeat (first|with_reducible refine wV fun _=>?_|simp [go_sem]))
 refine ALoop.start (ALoop.ind (α := Nat × List StD) (fun a => ⟨[(4, .ref 1 0 8 0 0), (7, .sl 2 a.2.length 8 0 a.2.length), (8, encIs line), (9, .v (.int .i64 a.1))], [(1, .rows true 0 8 [encState s]), (2, .rows true a.2.length 8 (a.2.map encState))], 3⟩)
  (fun d a => a.1 + d = line.length ∧ a.2.length = a.1 ∧ R = a.2 ++ slideGo s (line.drop a.1)) ?_ line.length (0, []) ?_) ?_ ?_
 ·rintro d ⟨i, out⟩ ⟨i1, i2, i3⟩ hrec
  simp only at i1 i2 i3
  (repeat (first|with_reducible refine wV fun _=>?_|simp [go_sem]))
  refine aIf.mkL (fun hi => ?_) (fun hi => ?_) <;> simp at hi
  ·have hli := hlm _ (nth_mem hi)
   have hlt : (nth line i).toNat < s.p.at_.length := by omega
   rw [dropG_cons hi, slideGo] at i3
   (repeat (first|with_reducible refine wV fun _=>?_|simp [go_sem, hi, hlt]))
   refine aIf.mkL (fun hz => ?_) (fun hz => ?_) <;> simp at hz
   ·rw [if_neg (by simpa using hz)] at i3
    (repeat (first|with_reducible refine wV fun _=>?_|simp [go_sem]))
    rw [i3]
    exact frX
   ·rw [if_pos (by simpa using hz)] at i3
    (repeat (first|with_reducible refine wV fun _=>?_|simp [go_sem]))
    refine ALoop.start (hrec (d - 1) (by omega) (i + 1, out ++ [{ s with cursor := nth line i }]) ⟨by simp only; omega, by simp; omega, by simpa using i3⟩) ?_ (by simp)
    simp [go_sem, Wk_eq]
  ·rw [List.drop_eq_nil_of_le hi, slideGo] at i3
   (repeat (first|with_reducible refine wV fun _=>?_|simp [go_sem]))
   rw [i3]
   exact frX
 ·simp [hR]
 ·simp [go_sem, Wk_eq]
 ·simp
theorem R5take_pure (g : GameD) (hg : GOk g) (s : StD) (hs : StOk g s) : Pure Tryz.prog 278 [.agg (encGame g), .agg (encState s)] (encSs (takeS g s)) := by
 refine pF Tryz.func278 ?_
 have hal := hs.p.al
 have hc0 := hs.c0
 have hc1 := hs.c1
 have hcur : s.cursor.toNat < s.p.at_.length := by omega
 have hO := R3Of_pure (nth s.p.at_ s.cursor.toNat)
 have hat := hs.p.at (i := s.cursor.toNat) (by omega)
 have hman := manOf_cases hat.1 hat.2 hg.k6
 have hcp := copied_owns s.p (hs.p.fits hg)
 unfold takeS
 generalize hm : manOf (nth s.p.at_ s.cursor.toNat) = m at *
 obtain ⟨mk, ms⟩ := m
 simp only [Prod.mk.injEq] at hman
 (repeat (first|with_reducible refine wV fun _=>?_|simp [go_sem, hcur]))
 refine ACallP.plain hO (by simp [go_sem]) ?_
 (repeat (first|with_reducible refine wV fun _=>?_|simp [go_sem]))
 refine aIf.mkL (fun hc => ?_) (fun hc => ?_) <;> simp at hc
 ·rw [if_pos hc]
  (repeat (first|with_reducible refine wV fun _=>?_|simp [go_sem]))
  exact frX
 ·rw [if_neg (by omega)]
  (repeat (first|with_reducible refine wV fun _=>?_|simp [go_sem]))
  refine ACallP.ownsPlain hcp (by simp [go_sem]) ?_
  have hmk : mk.toNat < g.kinds.length := by omega
  (repeat (first|with_reducible refine wV fun _=>?_|simp [go_sem, hcur, hmk]))
  refine aIf.mkL (fun hk => ?_) (fun hk => ?_)
  ·rw [if_pos hk]
   have hl0 := hs.p.h0.len
   have hl1 := hs.p.h1.len
   rcases hs.p.s with hsd | hsd
   ·have hmk0 : mk.toNat < s.p.h0.length := by omega
    have hmk' : 0 ≤ mk := by omega
    have hv := hs.p.h0.v _ hmk0
    (repeat (first|with_reducible refine wV fun _=>?_|simp [go_sem, hsd, hmk0, hcur]))
    refine aIf.mkL (fun h8 => ?_) (fun h8 => ?_) <;> simp at h8
    ·rw [if_pos (by simpa [PosD.hand, hsd] using h8)]
     (repeat (first|with_reducible refine wV fun _=>?_|simp [go_sem]))
     exact frX
    ·rw [if_neg (by simpa [PosD.hand, hsd] using h8)]
     (repeat (first|with_reducible refine wV fun _=>?_|simp [go_sem, hsd, PosD.withHand, PosD.hand, clr]))
     (first|done|exact dpX)
   ·have hmk0 : mk.toNat < s.p.h1.length := by omega
    have hmk' : 0 ≤ mk := by omega
    have hv := hs.p.h1.v _ hmk0
    (repeat (first|with_reducible refine wV fun _=>?_|simp [go_sem, hsd, hmk0, hcur]))
    refine aIf.mkL (fun h8 => ?_) (fun h8 => ?_) <;> simp at h8
    ·rw [if_pos (by simpa [PosD.hand, hsd] using h8)]
     (repeat (first|with_reducible refine wV fun _=>?_|simp [go_sem]))
     exact frX
    ·rw [if_neg (by simpa [PosD.hand, hsd] using h8)]
     (repeat (first|with_reducible refine wV fun _=>?_|simp [go_sem, hsd, PosD.withHand, PosD.hand, clr]))
     (first|done|exact dpX)
  ·rw [if_neg (by simpa using hk)]
   (repeat (first|with_reducible refine wV fun _=>?_|simp [go_sem, clr]))
   (first|done|exact dpX)
theorem R5push_pure (g : GameD) (hg : GOk g) (s : StD) (hs : StOk g s) (n : Int) : Pure Tryz.prog 279 [.agg (encGame g), .agg (encState s), .v (.int .i64 n)] (encSs (pushS g s n)) := by
 refine pF Tryz.func279 ?_
 have hT := R1To_pure g.board hg.board s.p.side n s.cursor
 (repeat (first|with_reducible refine wV fun _=>?_|simp [go_sem]))
 refine ACallP.plain hT (by simp [go_sem]) ?_
 have hal := hs.p.al
 have hc0 := hs.c0
 have hc1 := hs.c1
 have hcur : s.cursor.toNat < s.p.at_.length := by omega
 have hcp := copied_owns s.p (hs.p.fits hg)
 have hto := toB_lt hg.board s.p.side n s.cursor
 rw [show g.board.cells = g.cells from rfl] at hto
 unfold pushS
 generalize toB g.board s.p.side n s.cursor = to at *
 by_cases ht : to < 0
 ·rw [if_pos (.inr (.inl ht))]
  have ht0 : to.toNat = 0 := by omega
  have h0l : 0 < s.p.at_.length := by omega
  (repeat (first|with_reducible refine wV fun _=>?_|simp [go_sem, hcur, ht, ht0, h0l]))
  exact frX
 ·have htl : to.toNat < s.p.at_.length := by omega
  have ht' : 0 ≤ to := by omega
  (repeat (first|with_reducible refine wV fun _=>?_|simp [go_sem, hcur, ht, htl]))
  refine aIf.mkL (fun hc => ?_) (fun hc => ?_) <;> simp at hc
  ·rw [if_pos (by by_cases h : nth s.p.at_ s.cursor.toNat = 0; exact .inl h; exact .inr (hc.resolve_left h))]
   (repeat (first|with_reducible refine wV fun _=>?_|simp [go_sem]))
   exact frX
  ·rw [if_neg (by rintro (h | h); exact hc.1 h; exact h hc.2)]
   (repeat (first|with_reducible refine wV fun _=>?_|simp [go_sem, hcur]))
   refine ACallP.ownsPlain hcp (by simp [go_sem]) ?_
   (repeat (first|with_reducible refine wV fun _=>?_|simp [go_sem, hcur, htl]))
   (first|done|exact dpX)
end Go.Av
end
section
/- Our library, part 17: calls of functions that are given objects of ours and turn them. -/
namespace Go.Av
open Go

mutual
inductive Rn (σ : Nat → Nat) : AV → AV → Prop
 | same {x : AV} (h : Bel 0 x) : Rn σ x x
 | ref {o o' g sz i off : Nat} (h : o' = σ o) : Rn σ (.ref o g sz i off) (.ref o' g sz i off)
 | sl {o o' g sz i len : Nat} (h : o' = σ o) : Rn σ (.sl o g sz i len) (.sl o' g sz i len)
 | agg {xs ys : List AV} (h : RnL σ xs ys) : Rn σ (.agg xs) (.agg ys)
 | tup {xs ys : List AV} (h : RnL σ xs ys) : Rn σ (.tup xs) (.tup ys)
 | fn {f : Fn} {a b a' b' : List AV} (h : RnL σ a a') (h' : RnL σ b b') : Rn σ (.fn f a b) (.fn f a' b')
inductive RnL (σ : Nat → Nat) : List AV → List AV → Prop
 | nil : RnL σ [] []
 | cons {x y : AV} {xs ys : List AV} (h : Rn σ x y) (t : RnL σ xs ys) : RnL σ (x :: xs) (y :: ys)
end
inductive RnLL (σ : Nat → Nat) : List (List AV) → List (List AV) → Prop
 | same {rs : List (List AV)} (h : ∀ r ∈ rs, ∀ c ∈ r, Bel 0 c) : RnLL σ rs rs
 | nil : RnLL σ [] []
 | cons {x y : List AV} {xs ys : List (List AV)} (h : RnL σ x y) (t : RnLL σ xs ys) : RnLL σ (x :: xs) (y :: ys)
inductive RnO (σ : Nat → Nat) : AObj → AObj → Prop
 | rows {mt : Bool} {g sz : Nat} {rs rs' : List (List AV)} (h : RnLL σ rs rs') : RnO σ (.rows mt g sz rs) (.rows mt g sz rs')
inductive RnH (σ : Nat → Nat) : List (Nat × AObj) → List (Nat × AObj) → Prop
 | nil : RnH σ [] []
 | cons {o o' : Nat} {x y : AObj} {l l' : List (Nat × AObj)} (e : o' = σ o) (h : RnO σ x y) (t : RnH σ l l') : RnH σ ((o, x) :: l) ((o', y) :: l')
section
variable {σ : Nat → Nat} {φ φ' : Place} {w : World} {M M' : Nat → Prop}
theorem Rn.rel (hφ : ∀ o, φ' (σ o) = φ o) (hM : ∀ k, M' k → M k) {x y : AV} (hs : Rn σ x y) : ∀ {v : Value}, Rel φ w M x v → Rel φ' w M' y v := by
 refine Rn.rec (σ := σ) (motive_1 := fun x y _ => ∀ {v : Value}, Rel φ w M x v → Rel φ' w M' y v) (motive_2 := fun xs ys _ => ∀ {vs : List Value}, RelL φ w M xs vs → RelL φ' w M' ys vs)
  ?_ ?_ ?_ ?_ ?_ ?_ ?_ ?_ hs
 ·intro x hb v hx; exact hx.closed hM hb
 ·intro o o' g sz i off e v hx
  subst e
  cases hx with | ref ho hg h => exact .ref (by rw [hφ]; exact ho) hg h
 ·intro o o' g sz i len e v hx
  subst e
  cases hx with | sl ho hg h => exact .sl (by rw [hφ]; exact ho) hg h
 ·intro xs ys _ ih v hx
  cases hx with | agg hv h => exact .agg hv (ih h)
 ·intro xs ys _ ih v hx
  cases hx with | tup h => exact .tup (ih h)
 ·intro f a b a' b' _ _ ih1 ih2 v hx
  cases hx with | fn h1 h2 => exact .fn (ih1 h1) (ih2 h2)
 ·intro vs hx; cases hx; exact .nil
 ·intro x y xs ys _ _ ih1 ih2 vs hx
  cases hx with | cons h t => exact .cons (ih1 h) (ih2 t)
theorem Rn.back {m : Nat} (hφ : ∀ o, o < m → φ o = φ' (σ o)) (hM : ∀ k, M k → M' k) {x y : AV} (hs : Rn σ x y) : Bel m x → ∀ {v : Value}, Rel φ' w M' y v → Rel φ w M x v := by
 refine Rn.rec (σ := σ) (motive_1 := fun x y _ => Bel m x → ∀ {v : Value}, Rel φ' w M' y v → Rel φ w M x v) (motive_2 := fun xs ys _ => (∀ c ∈ xs, Bel m c) → ∀ {vs : List Value}, RelL φ' w M' ys vs → RelL φ w M xs vs)
  ?_ ?_ ?_ ?_ ?_ ?_ ?_ ?_ hs
 ·intro x hb _ v hx; exact hx.closed hM hb
 ·intro o o' g sz i off e hb v hx
  subst e
  cases hb with | ref hb => cases hx with | ref ho hg h => exact .ref (by rw [hφ _ hb]; exact ho) hg h
 ·intro o o' g sz i len e hb v hx
  subst e
  cases hb with | sl hb => cases hx with | sl ho hg h => exact .sl (by rw [hφ _ hb]; exact ho) hg h
 ·intro xs ys _ ih hb v hx
  cases hb with | agg hb => cases hx with | agg hv h => exact .agg hv (ih hb h)
 ·intro xs ys _ ih hb v hx
  cases hb with | tup hb => cases hx with | tup h => exact .tup (ih hb h)
 ·intro f a b a' b' _ _ ih1 ih2 hb v hx
  cases hb with | fn hb hb' => cases hx with | fn h1 h2 => exact .fn (ih1 hb h1) (ih2 hb' h2)
 ·intro _ vs hx; cases hx; exact .nil
 ·intro x y xs ys _ _ ih1 ih2 hb vs hx
  cases hx with | cons h t => exact .cons (ih1 (hb _ (by simp)) h) (ih2 (fun c hc => hb c (by simp [hc])) t)
theorem RnL.rel (hφ : ∀ o, φ' (σ o) = φ o) (hM : ∀ k, M' k → M k) : ∀ {xs ys : List AV} {vs : List Value}, RnL σ xs ys → RelL φ w M xs vs → RelL φ' w M' ys vs
 | [], _, _, .nil, .nil => .nil
 | _ :: _, _, _, .cons h t, .cons h' t' => .cons (h.rel hφ hM h') (t.rel hφ hM t')
theorem RnL.back {m : Nat} (hφ : ∀ o, o < m → φ o = φ' (σ o)) (hM : ∀ k, M k → M' k) : ∀ {xs ys : List AV} {vs : List Value}, RnL σ xs ys → (∀ c ∈ xs, Bel m c) → RelL φ' w M' ys vs → RelL φ w M xs vs
 | [], _, _, .nil, _, .nil => .nil
 | _ :: _, _, _, .cons h t, hb, .cons h' t' => .cons (h.back hφ hM (hb _ (by simp)) h') (t.back hφ hM (fun c hc => hb c (by simp [hc])) t')
theorem RnL.length : ∀ {xs ys : List AV}, RnL σ xs ys → ys.length = xs.length
 | [], _, .nil => rfl
 | _ :: _, _, .cons _ t => by simp [t.length]
theorem RnLL.rel (hφ : ∀ o, φ' (σ o) = φ o) (hM : ∀ k, M' k → M k) {xs ys : List (List AV)} (hs : RnLL σ xs ys) :
  ∀ {vs : List Value}, RelL φ w M xs.flatten vs → RelL φ' w M' ys.flatten vs := by
 induction hs with
 | same h =>
  intro vs hx
  refine RelL.of_get hx.length fun k hk hk' => (hx.get k hk hk').closed hM ?_
  obtain ⟨r, hr, hc⟩ := List.mem_flatten.1 (List.getElem_mem hk)
  exact h r hr _ hc
 | nil => intro vs hx; cases hx; exact .nil
 | cons h _ ih =>
  intro vs hx
  rw [List.flatten_cons] at hx ⊢
  obtain ⟨us, ts, rfl, h1, h2⟩ := hx.split
  exact (h.rel hφ hM h1).append (ih h2)
theorem RnLL.back {m : Nat} (hφ : ∀ o, o < m → φ o = φ' (σ o)) (hM : ∀ k, M k → M' k) {xs ys : List (List AV)} (hs : RnLL σ xs ys) :
  (∀ r ∈ xs, ∀ c ∈ r, Bel m c) → ∀ {vs : List Value}, RelL φ' w M' ys.flatten vs → RelL φ w M xs.flatten vs := by
 induction hs with
 | same h =>
  intro _ vs hx
  refine RelL.of_get hx.length fun k hk hk' => (hx.get k hk hk').closed hM ?_
  obtain ⟨r, hr, hc⟩ := List.mem_flatten.1 (List.getElem_mem hk)
  exact h r hr _ hc
 | nil => intro _ vs hx; cases hx; exact .nil
 | cons h _ ih =>
  intro hb vs hx
  rw [List.flatten_cons] at hx ⊢
  obtain ⟨us, ts, rfl, h1, h2⟩ := hx.split
  exact (h.back hφ hM (hb _ (by simp)) h1).append (ih (fun r hr => hb r (by simp [hr])) h2)
theorem RnLL.shape {xs ys : List (List AV)} (hs : RnLL σ xs ys) : ys.length = xs.length ∧ (∀ sz, (∀ r ∈ xs, r.length = sz) → ∀ r ∈ ys, r.length = sz) ∧ ∀ sz, (∀ r ∈ ys, r.length = sz) → ∀ r ∈ xs, r.length = sz := by
 induction hs with
 | same h => exact ⟨rfl, fun _ h => h, fun _ h => h⟩
 | nil => exact ⟨rfl, fun _ h => h, fun _ h => h⟩
 | cons h _ ih =>
  refine ⟨by simp [ih.1], fun sz hr r hm => ?_, fun sz hr r hm => ?_⟩
  ·rcases List.mem_cons.1 hm with rfl | hm
   ·rw [h.length]; exact hr _ (by simp)
   ·exact ih.2.1 sz (fun r hr' => hr r (by simp [hr'])) r hm
  ·rcases List.mem_cons.1 hm with rfl | hm
   ·rw [← h.length]; exact hr _ (by simp)
   ·exact ih.2.2 sz (fun r hr' => hr r (by simp [hr'])) r hm
theorem RnH.at {l l' : List (Nat × AObj)} (hinj : ∀ a b, σ a = σ b → a = b) (hs : RnH σ l l') {o : Nat} {y : AObj} (ho : mkH l' o = some y) : ∃ o0 x, o = σ o0 ∧ mkH l o0 = some x ∧ RnO σ x y := by
 induction hs with
 | nil => cases ho
 | @cons o1 o1' x1 y1 l l' e1 h _ ih =>
  simp only [mkH, upd] at ho ⊢
  split at ho
  ·rename_i e
   cases ho
   exact ⟨o1, x1, e.trans e1, by simp, h⟩
  ·rename_i e
   obtain ⟨o0, x, rfl, h1, h2⟩ := ih ho
   refine ⟨o0, x, rfl, ?_, h2⟩
   rw [if_neg (fun h => e (by rw [h, e1]))]; exact h1
end
def ren (rs : List Nat) (n : Nat) (j : Nat) : Nat := if j < rs.length then rs.getD j 0 else n + (j - rs.length)
def remH : List Nat → Heap → Heap
 | [], h => h
 | o :: l, h => upd (remH l h) o none
theorem remH_eq (h : Heap) : ∀ (l : List Nat) (o : Nat), remH l h o = if o ∈ l then none else h o
 | [], o => by simp [remH]
 | a :: l, o => by
  simp only [remH, upd, List.mem_cons]
  by_cases e : o = a
  ·simp [e]
  ·simp [e, remH_eq h l o]
theorem ren_mem {rs : List Nat} {n j : Nat} (h : j < rs.length) : ren rs n j ∈ rs := by
 unfold ren; rw [if_pos h, List.getD_eq_getElem?_getD, List.getElem?_eq_getElem h]; exact List.getElem_mem h
theorem ren_inj {rs : List Nat} {n : Nat} (hd : rs.Nodup) (hlt : ∀ o ∈ rs, o < n) : ∀ a b, ren rs n a = ren rs n b → a = b := by
 intro a b he
 by_cases ha : a < rs.length <;> by_cases hb : b < rs.length
 ·unfold ren at he
  rw [if_pos ha, if_pos hb, List.getD_eq_getElem?_getD, List.getD_eq_getElem?_getD, List.getElem?_eq_getElem ha, List.getElem?_eq_getElem hb] at he
  exact (List.getElem_inj hd).1 (by simpa using he)
 ·have h1 := hlt _ (ren_mem (n := n) ha)
  rw [he] at h1
  unfold ren at h1
  rw [if_neg hb] at h1; omega
 ·have h1 := hlt _ (ren_mem (n := n) hb)
  rw [← he] at h1
  unfold ren at h1
  rw [if_neg ha] at h1; omega
 ·unfold ren at he
  rw [if_neg ha, if_neg hb] at he; omega
def OwnsA (P : Program) (f : FuncId) (args : List AV) (HA : List (Nat × AObj)) (m : Nat) (R0 : AV) (H0 : List (Nat × AObj)) (k2 : Nat) : Prop :=
 ACallP P f args (mkH HA) m (fun r h n' => Wk (fun _ => r) h n' [(0, R0)] H0 k2)
theorem ACallP.ownsA {P : Program} {f : FuncId} {args args' args0 : List AV} {h : Heap} {n m k2 : Nat} {K : CallK} {R0 R : AV} {HA H0 HH : List (Nat × AObj)} (rs : List Nat) (h' : Heap)
  (hp : OwnsA P f args0 HA m R0 H0 k2) (hd : rs.Nodup) (hlt : ∀ o ∈ rs, o < n) (hm : rs.length = m) (hmk : m ≤ k2) (hfz : Frz h h')
  (hA : ∀ j, j < m → ∃ x y, mkH HA j = some x ∧ h' (ren rs n j) = some y ∧ RnO (ren rs n) x y) (hAb : ∀ p ∈ HA, p.1 < m ∧ BelO m p.2)
  (hle : LeRow h h' n args args') (hb' : ∀ c ∈ args', Bel n c) (hargs0 : RnL (ren rs n) args0 args') (hb0 : ∀ c ∈ args0, Bel m c)
  (hR : Rn (ren rs n) R0 R) (hHH : RnH (ren rs n) H0 HH) (hk : K R (over HH (remH rs h')) (n + (k2 - m))) : ACallP P f args h n K := by
 refine ⟨hp.1, fun M0 φ w vs hH hargs => ?_⟩
 obtain ⟨hH', st0⟩ := hH.freeze hfz
 have hσ := ren_inj hd hlt
 have hmt : ∀ o g sz rs, h' o = some (.rows true g sz rs) → h o = some (.rows true g sz rs) := by
  intro o g sz rs ho
  rcases hfz o with h1 | ⟨g1, sz1, rs1, h1, h2⟩
  ·rw [← h1]; exact ho
  ·rw [h2] at ho; cases ho
 have hmut0 : ∀ k, Mut φ h' k → Mut φ h k := by
  rintro k ⟨o, g, sz, rs, g', a, bs, ho, hp, rfl⟩
  exact ⟨o, g, sz, rs, g', a, bs, hmt _ _ _ _ ho, hp, rfl⟩
 have hv : RelL φ w (Or M0 (Mut φ h')) args' vs := by
  refine LeRow.rel (φ' := φ) (n' := n) hH (fun {x v} _ hx => hx.keep φ.le_refl (fun _ _ _ => rfl) (fun k hk => .inl (hk.imp id (hmut0 k)))) ?_ (fun o g sz h1 _ h2 => by omega) hle hb' hargs
  rintro o mt g sz rs a bs ho hp ho' h0 (hk | ⟨o', g', sz', rs', g'', a', bs', ho1, hp1, he⟩)
  ·exact h0 hk
  ·have hne : o' ≠ o := fun e => by subst e; exact ho' _ _ _ ho1
   have ho0 := hmt _ _ _ _ ho1
   have hg : g'' = g' := by
    obtain ⟨A2, hA2, _⟩ := hH.obj _ _ _ _ _ ho0
    rw [hp1] at hA2
    simp only [Option.some.injEq, Prod.mk.injEq] at hA2
    exact hA2.1
   subst hg
   exact hH.inj _ _ _ _ _ _ _ _ _ _ _ _ _ _ ho0 ho hne (.inl rfl) hp1 hp he
 let hr : Heap := fun o => if o ∈ rs then none else h' o
 have hrmut : ∀ k, Mut φ hr k → Mut φ h' k := by
  rintro k ⟨o, g, sz, rs1, g', a, bs, ho, hp, rfl⟩
  simp only [hr] at ho
  split at ho
  ·cases ho
  ·exact ⟨o, g, sz, rs1, g', a, bs, ho, hp, rfl⟩
 let M1 : Nat → Prop := Or M0 (Mut φ hr)
 let φ0 : Place := fun j => if j < m then φ (ren rs n j) else none
 have hφ0 : ∀ j, j < m → φ0 j = φ (ren rs n j) := fun j hj => if_pos hj
 have hgiv : ∀ j mt g sz rws, mkH HA j = some (.rows mt g sz rws) → j < m ∧ ∃ rws', h' (ren rs n j) = some (.rows mt g sz rws') ∧ RnLL (ren rs n) rws rws' ∧ ∀ r ∈ rws, ∀ c ∈ r, Bel m c := by
  intro j mt g sz rws hj
  have hjm := hAb _ (mkH_mem hj)
  obtain ⟨x, y, h1, h2, h3⟩ := hA j hjm.1
  rw [hj] at h1
  cases h1
  cases h3 with
  | rows h3 => exact ⟨hjm.1, _, h2, h3, hjm.2⟩
 have hgmut : ∀ k, Mut φ0 (mkH HA) k → ∃ j, j < m ∧ ∃ g sz rws g' a bs, h' (ren rs n j) = some (.rows true g sz rws) ∧ φ (ren rs n j) = some (g', some (a, bs)) ∧ a.block = k := by
  rintro k ⟨j, g, sz, rws, g', a, bs, ho, hp, rfl⟩
  obtain ⟨hj, rws', h1, _⟩ := hgiv _ _ _ _ _ ho
  rw [hφ0 j hj] at hp
  exact ⟨j, hj, g, sz, rws', g', a, bs, h1, hp, rfl⟩
 have hgmut' : ∀ k, Mut φ0 (mkH HA) k → Mut φ h' k := fun k hk => by
  obtain ⟨j, _, g, sz, rws, g', a, bs, h1, h2, h3⟩ := hgmut k hk
  exact ⟨_, g, sz, rws, g', a, bs, h1, h2, h3⟩
 have hgen : ∀ {o mt g sz rws g' A}, h' o = some (.rows mt g sz rws) → φ o = some (g', A) → g' = g := by
  intro o mt g sz rws g' A ho hp
  obtain ⟨A2, hA2, _⟩ := hH'.obj _ _ _ _ _ ho
  rw [hp] at hA2
  simp only [Option.some.injEq, Prod.mk.injEq] at hA2
  exact hA2.1
 have hM1 : ∀ k, Or M1 (Mut φ0 (mkH HA)) k → Or M0 (Mut φ h') k := by
  rintro k ((hk | hk) | hk)
  ·exact .inl hk
  ·exact .inr (hrmut k hk)
  ·exact .inr (hgmut' k hk)
 have hH1 : HRel φ0 m w M1 (mkH HA) := by
  refine ⟨fun k hk => hH'.blk (hk.imp id (hrmut k)), fun o ho => if_neg (by omega), fun j mt g sz rws hj => ?_, fun o o' mt g sz rws mt' g' sz' rws' a a' b b' ho ho' hne hmm hp hp' => ?_, hH'.glob.keep (fun _ _ _ => rfl) (fun k hk => .inl (hM1 k hk))⟩
  ·obtain ⟨hjm, rws', h1, h2, h3⟩ := hgiv _ _ _ _ _ hj
   obtain ⟨A, hA1, hc⟩ := hH'.obj _ _ _ _ _ h1
   refine ⟨A, by rw [hφ0 j hjm]; exact hA1, hc.imp (fun h => ⟨h.1, ?_⟩) ?_⟩
   ·obtain ⟨_, rfl⟩ := h
    exact List.eq_nil_of_length_eq_zero h2.shape.1.symm
   ·rintro ⟨a, bs, c1, c3, hd⟩
    refine ⟨a, bs, c1, ?_, hd.turn rfl h2.shape.1.symm (h2.shape.2.2 sz) (fun c9 => h2.back hφ0 hM1 h3 c9)⟩
    ·rintro (hk | ⟨o', g1, sz1, rs1, g1', a', bs', ho1, hp1, he⟩)
     ·exact c3 hk
     ·simp only [hr] at ho1
      split at ho1
      ·cases ho1
      ·rename_i hni
       obtain rfl := hgen ho1 hp1
       subst c1
       exact hH'.inj _ _ _ _ _ _ _ _ _ _ _ _ _ _ ho1 h1 (fun e => hni (e ▸ ren_mem (by omega))) (.inl rfl) hp1 hA1 he
  ·obtain ⟨hj, r1, h1, _⟩ := hgiv _ _ _ _ _ ho
   obtain ⟨hj', r1', h1', _⟩ := hgiv _ _ _ _ _ ho'
   rw [hφ0 o hj] at hp
   rw [hφ0 o' hj'] at hp'
   exact hH'.inj _ _ _ _ _ _ _ _ _ _ _ _ _ _ h1 h1' (fun e => hne (hσ _ _ e)) hmm hp hp'
 have hargs1 : RelL φ0 w (Or M1 (Mut φ0 (mkH HA))) args0 vs := hargs0.back hφ0 hM1 hb0 hv
 refine (hp.2 _ φ0 w vs hH1 hargs1).mono ?_
 rintro e w' ⟨v, φ1, r, h1, n', rfl, hK, hH2, hx, st⟩
 obtain ⟨φ2, hH3, hx3, hm3, hst⟩ := hK.sound hH2 (tmps := fun _ => v) (fun _ => hx)
 have hx3 := hx3 0
 simp only [mkE, upd_same] at hx3
 have hlater : ∀ j x, j < m → φ (ren rs n j) = some x → ∃ x', φ2 j = some x' ∧ x.1 ≤ x'.1 ∧ (x'.1 = x.1 → x' = x) := by
  intro j x hj hx
  obtain ⟨x', h1, h2, h3⟩ := st.le j x (by rw [hφ0 j hj]; exact hx)
  exact ⟨x', hst j x' (by omega) h1, h2, h3⟩
 let φ3 : Place := fun o => if o ∈ rs then φ2 (rs.idxOf o) else if o < n then φ o else φ2 (o - n + m)
 have hidx : ∀ j, j < m → rs.idxOf (ren rs n j) = j := by
  intro j hj
  have h1 := List.idxOf_lt_length_of_mem (ren_mem (rs := rs) (n := n) (j := j) (by omega))
  refine hσ _ _ ?_
  have h2 := List.getElem_idxOf h1
  unfold ren at h1 h2 ⊢
  rw [if_pos h1, List.getD_eq_getElem?_getD, List.getElem?_eq_getElem h1]
  exact h2
 have e3 : ∀ o, φ3 (ren rs n o) = φ2 o := by
  intro o
  by_cases ho : o < m
  ·simp only [φ3]
   rw [if_pos (ren_mem (by omega)), hidx o ho]
  ·have hge : ren rs n o = n + (o - m) := by unfold ren; rw [if_neg (by omega), hm]
   simp only [φ3]
   rw [hge, if_neg (fun hmem => by have := hlt _ hmem; omega), if_neg (by omega)]
   congr 1; omega
 have e3' : ∀ o, o < n → o ∉ rs → φ3 o = φ o := fun o ho hni => by simp only [φ3]; rw [if_neg hni, if_pos ho]
 have hltn : ∀ o x, φ o = some x → o < n := fun o x ho => Nat.lt_of_not_le fun hle => by rw [hH.fresh o hle] at ho; cases ho
 have hren : ∀ o, o ∈ rs → ∃ j, j < m ∧ o = ren rs n j := by
  intro o ho
  obtain ⟨j, hj, rfl⟩ := List.getElem_of_mem ho
  exact ⟨j, by omega, by unfold ren; rw [if_pos hj, List.getD_eq_getElem?_getD, List.getElem?_eq_getElem hj]; rfl⟩
 have hle3 : φ.le φ3 := by
  intro o x ho
  by_cases hmem : o ∈ rs
  ·obtain ⟨j, hj, rfl⟩ := hren o hmem
   rw [e3]; exact hlater j x hj ho
  ·exact ⟨x, by rw [e3' o (hltn _ _ ho) hmem]; exact ho, Nat.le_refl _, fun _ => rfl⟩
 have hheap : ∀ k, k < w.heap.size → ¬ Mut φ0 (mkH HA) k → w'.heap[k]? = w.heap[k]? := fun k hk hn => st.fr.block k hk hn
 have hsrc : ∀ o y, over HH (remH rs h') o = some y → (∃ o0 x, o = ren rs n o0 ∧ mkH H0 o0 = some x ∧ RnO (ren rs n) x y) ∨ (o < n ∧ o ∉ rs ∧ h' o = some y) := by
  intro o x ho
  rw [over_eq] at ho
  split at ho
  ·rename_i y hy
   cases ho
   exact .inl (hHH.at hσ hy)
  ·rw [remH_eq] at ho
   split at ho
   ·cases ho
   ·rename_i hni
    cases x with
    | rows mt g sz rws =>
     obtain ⟨A, hA, _⟩ := hH'.obj _ _ _ _ _ ho
     exact .inr ⟨hltn _ _ hA, hni, ho⟩
 have hmut : ∀ k, Mut φ3 (over HH (remH rs h')) k → Mut φ2 (mkH H0) k ∨ Mut φ hr k := by
  rintro k ⟨o, g, sz, rws, g', a, bs, ho, hp, rfl⟩
  rcases hsrc o _ ho with ⟨o0, x, rfl, h1, h2⟩ | ⟨h1, hni, h2⟩
  ·cases h2 with
   | rows h2 => rw [e3] at hp; exact .inl ⟨o0, g, sz, _, g', a, bs, h1, hp, rfl⟩
  ·rw [e3' o h1 hni] at hp
   exact .inr ⟨o, g, sz, rws, g', a, bs, by simp only [hr]; rw [if_neg hni]; exact h2, hp, rfl⟩
 have hmnew : ∀ k, Mut φ2 (mkH H0) k → Mut φ0 (mkH HA) k ∨ w.heap.size ≤ k := fun k hk => st.mutd k (hm3 k hk)
 have hsub : ∀ k, Or M0 (Mut φ3 (over HH (remH rs h'))) k → Or M1 (Mut φ2 (mkH H0)) k := fun k hk => hk.elim (fun h => .inl (.inl h)) fun h => (hmut k h).elim .inr fun h => .inl (.inr h)
 have hmutd : ∀ k, Mut φ3 (over HH (remH rs h')) k → Mut φ h' k ∨ w.heap.size ≤ k := fun k hk =>
  (hmut k hk).elim (fun h => (hmnew k h).imp (hgmut' k) id) fun h => .inl (hrmut k h)
 have hsub' : ∀ k, Or M0 (Mut φ3 (over HH (remH rs h'))) k → Or M0 (Mut φ h') k ∨ w.heap.size ≤ k := fun k hk => hk.elim (fun h => .inl (.inl h)) fun h => (hmutd k h).imp .inr id
 have hblk : ∀ o x g' a bs, h' o = some x → φ o = some (g', some (a, bs)) → a.block < w.heap.size := by
  intro o x g' a bs ho hp
  cases x with
  | rows mt g sz rws =>
   obtain ⟨A, hA, hc⟩ := hH'.obj _ _ _ _ _ ho
   rw [hp] at hA
   simp only [Option.some.injEq, Prod.mk.injEq] at hA
   obtain ⟨rfl, rfl⟩ := hA
   rcases hc with ⟨h, _⟩ | ⟨a', bs', h, _, h2⟩
   ·cases h
   ·simp only [Option.some.injEq, Prod.mk.injEq] at h
    obtain ⟨rfl, rfl⟩ := h
    exact h2.blk
 have hkeep : ∀ o mt g sz rws g' a bs, o ∉ rs → h' o = some (.rows mt g sz rws) → φ o = some (g', some (a, bs)) → ¬ Mut φ0 (mkH HA) a.block := by
  intro o mt g sz rws g' a bs hni ho hp hk
  obtain ⟨j, hj, g1, sz1, rws1, g1', a1, bs1, q1, q2, q3⟩ := hgmut _ hk
  obtain rfl := hgen ho hp
  obtain rfl := hgen q1 q2
  exact hH'.inj _ _ _ _ _ _ _ _ _ _ _ _ _ _ q1 ho (fun e => hni (e ▸ ren_mem (by omega))) (.inl rfl) q2 hp q3
 have hfar : ∀ o0 mt g sz rws g' a bs o' y g1 a' b', mkH H0 o0 = some (.rows mt g sz rws) → φ2 o0 = some (g', some (a, bs)) → o' ∉ rs → h' o' = some y → φ o' = some (g1, some (a', b')) →
   (mt = true ∨ ∃ g sz rs, y = .rows true g sz rs) → a.block ≠ a'.block := by
  intro o0 mt g sz rws g' a bs o' y g1 a' b' q1 q2 hni q3 q4 hmm
  have hb1 := hblk _ _ _ _ _ q3 q4
  rcases hmm with rfl | ⟨g2, sz2, rs2, rfl⟩
  ·rcases hmnew a.block ⟨o0, g, sz, rws, _, a, bs, q1, q2, rfl⟩ with hk | hk
   ·intro he
    cases y with
    | rows mt1 g1' sz1 rws1 => exact hkeep _ _ _ _ _ _ _ _ hni q3 q4 (he ▸ hk)
   ·omega
  ·intro he
   obtain ⟨A, hA, hc⟩ := hH3.obj _ _ _ _ _ q1
   rw [q2] at hA
   simp only [Option.some.injEq, Prod.mk.injEq] at hA
   obtain ⟨_, rfl⟩ := hA
   rcases hc with ⟨h, _⟩ | ⟨a1, bs1, h, hn0, _⟩
   ·cases h
   ·simp only [Option.some.injEq, Prod.mk.injEq] at h
    obtain ⟨rfl, rfl⟩ := h
    exact hn0 (.inr ⟨o', g2, sz2, rs2, _, a', b', by simp only [hr]; rw [if_neg hni]; exact q3, q4, he.symm⟩)
 refine ⟨v, φ3, R, over HH (remH rs h'), n + (k2 - m), rfl, hk, ⟨fun k hk => Nat.lt_of_lt_of_le (hH.m0 k hk) st.fr.size, fun o ho => ?_, fun o mt g sz rws ho => ?_, fun o o' mt g sz rws mt' g' sz' rws' a a' b b' ho ho' hne hmm hp hp' => ?_,
   hH'.glob.keep (fun k hn hk => hheap k hk (fun hg => hn (.inr (hgmut' k hg)))) hsub'⟩,
  hR.rel e3 hsub hx3, st0.trans ⟨hle3, hsub', ⟨st.fr.os, st.fr.tape, st.fr.output, st.fr.drawn, st.fr.size, fun k hk hn => hheap k hk (fun hg => hn (hgmut' k hg))⟩, hmutd⟩⟩
 ·have h1 : ren rs n (o - n + m) = o := by unfold ren; rw [if_neg (by omega)]; omega
  rw [← h1, e3]; exact hH3.fresh _ (by omega)
 ·rcases hsrc o _ ho with ⟨o0, x, rfl, h1, h2⟩ | ⟨h1, hni, h2⟩
  ·cases h2 with
   | rows hs =>
    obtain ⟨A, hA, hc⟩ := hH3.obj _ _ _ _ _ h1
    refine ⟨A, by rw [e3]; exact hA, hc.imp (fun h => ⟨h.1, ?_⟩) ?_⟩
    ·obtain ⟨_, rfl⟩ := h
     exact List.eq_nil_of_length_eq_zero hs.shape.1
    ·rintro ⟨a, bs, c1, c3, hd⟩
     exact ⟨a, bs, c1, fun hk => c3 (.inl hk), hd.turn rfl hs.shape.1 (hs.shape.2.1 sz) (fun c9 => hs.rel e3 hsub c9)⟩
  ·obtain ⟨A, hA, hc⟩ := hH'.obj _ _ _ _ _ h2
   refine ⟨A, by rw [e3' o h1 hni]; exact hA, hc.imp id ?_⟩
   rintro ⟨a, bs, c1, c3, hd⟩
   exact ⟨a, bs, c1, c3, hd.keep (hheap _ hd.blk (hkeep _ _ _ _ _ _ _ _ hni h2 (by rw [hA, c1]))) (fun c9 => c9.keep hle3 (fun k hn hk => hheap k hk (fun hg => hn (.inr (hgmut' k hg)))) hsub')⟩
 ·rcases hsrc o _ ho with ⟨o0, x, rfl, q1, q2⟩ | ⟨q1, qn, q2⟩ <;> rcases hsrc o' _ ho' with ⟨o0', x', rfl, q1', q2'⟩ | ⟨q1', qn', q2'⟩
  ·cases q2; cases q2'
   rw [e3] at hp hp'
   exact hH3.inj _ _ _ _ _ _ _ _ _ _ _ _ _ _ q1 q1' (fun e => hne (by rw [e])) hmm hp hp'
  ·cases q2
   rw [e3] at hp; rw [e3' o' q1' qn'] at hp'
   exact hfar _ _ _ _ _ _ _ _ _ _ _ _ _ q1 hp qn' q2' hp' (hmm.imp id fun h => by subst h; exact ⟨_, _, _, rfl⟩)
  ·cases q2'
   rw [e3' o q1 qn] at hp; rw [e3] at hp'
   exact Ne.symm (hfar _ _ _ _ _ _ _ _ _ _ _ _ _ q1' hp' qn q2 hp (hmm.symm.imp id fun h => by subst h; exact ⟨_, _, _, rfl⟩))
  ·rw [e3' o q1 qn] at hp; rw [e3' o' q1' qn'] at hp'
   exact hH'.inj _ _ _ _ _ _ _ _ _ _ _ _ _ _ q2 q2' hne hmm hp hp'
theorem Bel.mono {n m : Nat} (hnm : n ≤ m) {x : AV} (h : Bel n x) : Bel m x := by
 induction h with
 | top => exact .top
 | v x => exact .v x
 | agg _ ih => exact .agg ih
 | tup _ ih => exact .tup ih
 | lst _ ih => exact .lst ih
 | fp _ ih => exact .fp ih
 | ref h => exact .ref (by omega)
 | sl h => exact .sl (by omega)
 | mp h => exact .mp (by omega)
 | fn _ _ ih1 ih2 => exact .fn ih1 ih2
 | gd _ ih => exact .gd ih
theorem dCall.own1 {P : Program} {n : Nat} {ops : List Oper} {Q : Post} {m i : Nat} {rest : List Oper} {e : Env} {h : Heap} {acc : List DRec} {dst : Option Tmp} {f : FuncId} {first caps args args0 : List AV} {R0 R : AV} {o : Nat} {mt : Bool} {g g' sz : Nat} {rws rws' : List (List AV)}
  (hp : OwnsA P f args0 [(0, .rows mt g sz rws)] 1 R0 [(0, .rows true g' sz rws')] 1) (ho : h o = some (.rows mt g sz rws)) (hcl : ∀ r ∈ rws, ∀ c ∈ r, Bel 0 c) (hcl' : ∀ r ∈ rws', ∀ c ∈ r, Bel 0 c)
  (hargs : ∀ n₁, RnL (ren [o] n₁) args0 (first ++ args ++ caps)) (hb0 : ∀ c ∈ args0, Bel 1 c) (hb : ∀ n₁, o < n₁ → ∀ c ∈ first ++ args ++ caps, Bel n₁ c)
  (hR : ∀ n₁, Rn (ren [o] n₁) R0 R) (hfl : Flat R ∨ ∃ g sz i len, R = .sl o g sz i len)
  (hk : adr P n ops Q m (i + 1) rest (put e dst R) (upd h o (some (.rows true g' sz rws'))) (acc ++ [([o], [o])])) : dCall P n ops Q m i rest dst (.fn (.func f) first caps) args e h acc := by
 refine ⟨R, [o], [(o, some (.rows true g' sz rws'))], .inr (.inr (.inl ⟨f, first, caps, rfl, ?_, ?_, ?_, fun h₁ n₁ hx hn => ?_⟩)), hk⟩
 ·intro o' ho'
  simp only [List.mem_singleton] at ho'
  subst ho'
  exact ⟨_, ho⟩
 ·intro p hp
  simp only [List.mem_singleton] at hp
  subst hp
  exact ⟨by simp, g', sz, rws', rfl, hcl'⟩
 ·exact hfl.imp id fun ⟨g, sz, i, len, h⟩ => ⟨o, g, sz, i, len, h, by simp⟩
 ·have hon := hn o (by simp)
  have r0 : ren [o] n₁ 0 = o := rfl
  refine ACallP.ownsA (args' := first ++ args ++ caps) (HH := [(o, .rows true g' sz rws')]) [o] h₁ hp (by simp) (by simpa using hon) rfl (Nat.le_refl _) (.refl _) ?_ ?_ (.refl _ _ _ _) (hb n₁ hon) (hargs n₁) hb0 (hR n₁)
   (.cons r0.symm (.rows (.same hcl')) .nil) ⟨rfl, ?_, rfl⟩
  ·intro j hj
   obtain rfl : j = 0 := by omega
   exact ⟨.rows mt g sz rws, .rows mt g sz rws, by simp [mkH, upd_same], by rw [r0, ← hx o (by simp)]; exact ho, .rows (.same hcl)⟩
  ·intro p hp
   simp only [List.mem_singleton] at hp
   subst hp
   refine ⟨by simp, fun r hr c hc => ?_⟩
   exact Bel.mono (Nat.zero_le _) (hcl r hr c hc)
  ·funext a
   simp only [over, remH, applyW, upd]
   split <;> rfl
theorem dCall.owns {P : Program} {n : Nat} {ops : List Oper} {Q : Post} {m i : Nat} {rest : List Oper} {e : Env} {h : Heap} {acc : List DRec} {dst : Option Tmp} {f : FuncId} {first caps args args' : List AV} {R : Nat → AV} {HH : Nat → List (Nat × AObj)} {k2 : Nat}
  (b : Nat) (hbb : b = n + ops.length + 16 * i) (hp : Owns P f args' R HH k2) (hk16 : k2 ≤ 16) (hnR : NoFz (R 0)) (hnH : ∀ p ∈ HH 0, NoFzO p.2) (hle : ∀ h₁ : Heap, LeRow h₁ noH 0 (first ++ args ++ caps) args') (hb : ∀ c ∈ args', Bel 0 c)
  (hnd : ((HH b).map (·.1)).Nodup) (hk : adr P n ops Q m (i + 1) rest (put e dst (R b)) (over (HH b) h) (acc ++ [([newMark], (HH b).map (·.1))])) : dCall P n ops Q m i rest dst (.fn (.func f) first caps) args e h acc := by
 subst hbb
 refine ⟨R _, [newMark], (HH (n + ops.length + 16 * i)).map (fun p => (p.1, some p.2)), .inr (.inr (.inr ⟨f, first, caps, args', R 0, HH 0, HH (n + ops.length + 16 * i), k2, rfl, by simp, hk16, hb, hp.1, hnR, hnH, (hp.2 _).1, (hp.2 _).2, hnd, rfl, fun h₁ _ => hle h₁⟩)), ?_⟩
 rw [applyW_over hnd, List.map_map]
 exact hk
theorem dCall.ownsR {P : Program} {n : Nat} {ops : List Oper} {Q : Post} {m i : Nat} {rest : List Oper} {e : Env} {h : Heap} {acc : List DRec} {dst : Option Tmp} {f : FuncId} {first caps args args' : List AV} {R : Nat → AV} {HH : Nat → List (Nat × AObj)} {k2 : Nat}
  (S : List Nat) (b : Nat) (hbb : b = n + ops.length + 16 * i) (hp : Owns P f args' R HH k2) (hk16 : k2 ≤ 16) (hnR : NoFz (R 0)) (hnH : ∀ p ∈ HH 0, NoFzO p.2) (hle : ∀ h₁ : Heap, (∀ o ∈ S, h o = h₁ o) → LeRow h₁ noH 0 (first ++ args ++ caps) args') (hb : ∀ c ∈ args', Bel 0 c)
  (hnd : ((HH b).map (·.1)).Nodup) (hk : adr P n ops Q m (i + 1) rest (put e dst (R b)) (over (HH b) h) (acc ++ [(newMark :: S, (HH b).map (·.1))])) : dCall P n ops Q m i rest dst (.fn (.func f) first caps) args e h acc := by
 subst hbb
 refine ⟨R _, newMark :: S, (HH (n + ops.length + 16 * i)).map (fun p => (p.1, some p.2)), .inr (.inr (.inr ⟨f, first, caps, args', R 0, HH 0, HH (n + ops.length + 16 * i), k2, rfl, by simp, hk16, hb, hp.1, hnR, hnH, (hp.2 _).1, (hp.2 _).2, hnd, rfl, fun h₁ h2 => hle h₁ fun o ho => h2 o (List.mem_cons_of_mem _ ho)⟩)), ?_⟩
 rw [applyW_over hnd, List.map_map]
 exact hk
end Go.Av
end
section
/- Contracts, runs: Step, add of the reference. -/
open Go Go.Proofs
namespace Go.Av
theorem addS_nil (l : List StD) : addS l [] = l := rfl
theorem addS_snoc (l more : List StD) (s : StD) : addS l (more ++ [s]) = if s ∈ addS l more then addS l more else addS l more ++ [s] := by
 unfold addS; rw [List.foldl_append]; rfl
theorem addS_take (l more : List StD) {i : Nat} (h : i < more.length) : addS l (more.take (i + 1)) = if nth more i ∈ addS l (more.take i) then addS l (more.take i) else addS l (more.take i) ++ [nth more i] := by
 rw [List.take_add_one, List.getElem?_eq_getElem h, nth_eq _ _ h, Option.toList_some, addS_snoc]
theorem addS_len : ∀ (more l : List StD), l.length ≤ (addS l more).length ∧ (addS l more).length ≤ l.length + more.length
 | [], l => by simp [addS]
 | s :: more, l => by
  have e : addS l (s :: more) = addS (if s ∈ l then l else l ++ [s]) more := rfl
  rw [e]
  by_cases h : s ∈ l
  ·have := addS_len more l
   rw [if_pos h]; simp; omega
  ·have := addS_len more (l ++ [s])
   rw [if_neg h]; simp at this ⊢; omega
theorem addS_all {P : StD → Prop} : ∀ {more l : List StD}, (∀ s ∈ l, P s) → (∀ s ∈ more, P s) → ∀ s ∈ addS l more, P s
 | [], l, h, _ => h
 | s :: more, l, h, h' => by
  have e : addS l (s :: more) = addS (if s ∈ l then l else l ++ [s]) more := rfl
  rw [e]
  refine addS_all (fun t ht => ?_) (fun t ht => h' t (List.mem_cons_of_mem _ ht))
  split at ht
  ·exact h t ht
  ·rcases List.mem_append.1 ht with ht | ht
   ·exact h t ht
   ·simp at ht; subst ht; exact h' _ (by simp)
theorem R5add_owns (l more : List StD) (hl : l.length + more.length ≤ 17179869184) (h1 : ∀ s ∈ l, FitsP s.p) (h2 : ∀ s ∈ more, FitsP s.p) :
  OwnsA Tryz.prog 264 [.sl 0 l.length 8 0 l.length, encSs more] [(0, .rows true l.length 8 (l.map encState))] 1 (.sl 0 (addS l more).length 8 0 (addS l more).length) [(0, .rows true (addS l more).length 8 ((addS l more).map encState))] 1 := by
 unfold OwnsA
 refine ACallP.of_awp (by kernel_rfl) Tryz.func264 rfl rfl (Nat.le_of_ble_eq_true rfl) (by kernel_rfl) ?_
 (repeat (first|with_reducible refine wV fun _=>?_|simp [go_sem]))
 refine ALoop.start (ALoop.ind (α := Nat × List StD) (fun a => ⟨[(0, .sl 0 a.2.length 8 0 a.2.length), (1, encSs more), (5, .v (.int .i64 a.1))], [(0, .rows true a.2.length 8 (a.2.map encState))], 1⟩)
  (fun d a => a.1 + d = more.length ∧ a.2 = addS l (more.take a.1)) ?_ more.length (0, l) ?_) ?_ ?_
 ·rintro d ⟨i, out⟩ ⟨i1, i2⟩ hrec
  simp only at i1 i2
  have hol := addS_len (more.take i) l
  rw [← i2] at hol
  have hof : ∀ s ∈ out, FitsP s.p := by rw [i2]; exact addS_all h1 (fun s hs => h2 s (List.mem_of_mem_take hs))
  (repeat (first|with_reducible refine wV fun _=>?_|simp [go_sem]))
  refine aIf.mkL (fun hi => ?_) (fun hi => ?_) <;> simp at hi
  ·have htl : (more.take i).length = i := by simp; omega
   have hfi := h2 _ (nth_mem hi)
   have hsu := addS_take l more hi
   rw [← i2] at hsu
   (repeat (first|with_reducible refine wV fun _=>?_|simp [go_sem]))
   refine ALoop.start (ALoop.ind (α := Nat) (fun k => ⟨[(0, .sl 0 out.length 8 0 out.length), (1, encSs more), (5, .v (.int .i64 i)), (6, .v (.bool (decide (nth more i ∈ out.take k)))), (7, .v (.int .i64 k))], [(0, .rows true out.length 8 (out.map encState))], 1⟩)
    (fun d k => k + d = out.length) ?_ out.length 0 ?_) ?_ ?_
   ·rintro d2 k k1 hrec2
    (repeat (first|with_reducible refine wV fun _=>?_|simp [go_sem]))
    refine aIf.mkL (fun hk => ?_) (fun hk => ?_) <;> simp at hk
    ·have hfk := hof _ (nth_mem hk)
     have htk : out.take (k + 1) = out.take k ++ [nth out k] := by rw [List.take_add_one, List.getElem?_eq_getElem hk, nth_eq _ _ hk]; rfl
     (repeat (first|with_reducible refine wV fun _=>?_|simp [go_sem, hi, hk]))
     refine dGC.plain _ (fun _ => R5same_pure _ _ hfk hfi) (by simp [go_sem]) ?_
     (repeat (first|with_reducible refine wV fun _=>?_|simp [go_sem, hi, hk]))
     refine ALoop.start (hrec2 (d2 - 1) (by omega) (k + 1) (by omega)) ?_ (by simp)
     simp [go_sem, Wk_eq, htk, eq_comm (a := nth more i) (b := nth out k)]
    ·have hkl : k = out.length := by omega
     subst hkl
     (repeat (first|with_reducible refine wV fun _=>?_|simp [go_sem]))
     by_cases hm : nth more i ∈ out
     ·rw [if_pos hm] at hsu
      (repeat (first|with_reducible refine wV fun _=>?_|simp [go_sem, hm]))
      refine ALoop.start (hrec (d - 1) (by omega) (i + 1, out) ⟨by simp only; omega, hsu.symm⟩) ?_ (by simp)
      simp [go_sem, Wk_eq]
     ·rw [if_neg hm] at hsu
      (repeat (first|with_reducible refine wV fun _=>?_|simp [go_sem, hm, hi]))
      refine ALoop.start (hrec (d - 1) (by omega) (i + 1, out ++ [nth more i]) ⟨by simp only; omega, hsu.symm⟩) ?_ (by simp)
      simp [go_sem, Wk_eq]
   ·omega
   ·simp [go_sem, Wk_eq]
   ·simp
  ·have hil : i = more.length := by omega
   subst hil
   rw [List.take_length] at i2
   rw [← i2]
   (repeat (first|with_reducible refine wV fun _=>?_|simp [go_sem]))
   simp [go_sem, Wk_eq]
 ·simp [addS_nil]
 ·simp [go_sem, Wk_eq]
 ·simp
theorem R5Step_pure (g : GameD) (hg : GOk g) (s : StD) (hs : StOk g s) (x : Int × Int) (hx : StepOk g.next.length g.kinds.length g.rights x) :
  Pure Tryz.prog 230 [.agg (encGame g), .agg (encState s), .agg (encStep x)] (encSs (stepS g s x)) := by
 refine pF Tryz.func230 ?_
 have hal := hs.p.al
 have hc0 := hs.c0
 have hc1 := hs.c1
 have hcur : s.cursor.toNat < s.p.at_.length := by omega
 have hat := hs.p.at (i := s.cursor.toNat) (by omega)
 have hO := R3Of_pure (nth s.p.at_ s.cursor.toNat)
 have hTo := fun n => R1To_pure g.board hg.board s.p.side n s.cursor
 have hOn := fun u b => R5only_pure u b
 have hSl := fun n => R5slide_pure g hg s hs n
 have hTk := R5take_pure g hg s hs
 have hPu := fun n => R5push_pure g hg s hs n
 have r0 := hg.r0
 have r4 := hg.r4
 obtain ⟨op, n⟩ := x
 obtain ⟨xo, xd, xz, xk, xr⟩ := hx
 simp only at xo xd xz xk xr
 unfold stepS
 generalize hm : manOf (nth s.p.at_ s.cursor.toNat) = m at *
 obtain ⟨mk, ms⟩ := m
 (repeat (first|with_reducible refine wV fun _=>?_|simp [go_sem, hcur]))
 refine ACallP.plain hO (by simp [go_sem]) ?_
 rcases (show op = 1 ∨ op = 2 ∨ op = 3 ∨ op = 4 ∨ op = 5 ∨ op = 6 ∨ op = 7 ∨ op = 8 ∨ op = 9 ∨ op = 10 by omega) with rfl | rfl | rfl | rfl | rfl | rfl | rfl | rfl | rfl | rfl
 ·(repeat (first|with_reducible refine wV fun _=>?_|simp [go_sem]))
  refine ACallP.plain (hTo n) (by simp [go_sem]) ?_
  (repeat (first|with_reducible refine wV fun _=>?_|simp [go_sem]))
  refine ACallP.plain (hOn { s with cursor := toB g.board s.p.side n s.cursor } _) (by simp [go_sem]) ?_
  (repeat (first|with_reducible refine wV fun _=>?_|simp [go_sem]))
 ·(repeat (first|with_reducible refine wV fun _=>?_|simp [go_sem]))
  refine ACallP.plain (hSl n) (by simp [go_sem]) ?_
  (repeat (first|with_reducible refine wV fun _=>?_|simp [go_sem]))
 ·(repeat (first|with_reducible refine wV fun _=>?_|simp [go_sem]))
  refine ACallP.plain (hOn s _) (by simp [go_sem]) ?_
  (repeat (first|with_reducible refine wV fun _=>?_|simp [go_sem]))
 ·(repeat (first|with_reducible refine wV fun _=>?_|simp [go_sem]))
  refine ACallP.plain (hOn s _) (by simp [go_sem]) ?_
  (repeat (first|with_reducible refine wV fun _=>?_|simp [go_sem]))
 ·(repeat (first|with_reducible refine wV fun _=>?_|simp [go_sem]))
  refine ACallP.plain (hOn s _) (by simp [go_sem]) ?_
  (repeat (first|with_reducible refine wV fun _=>?_|simp [go_sem]))
 ·(repeat (first|with_reducible refine wV fun _=>?_|simp [go_sem]))
  refine ACallP.plain hTk (by simp [go_sem]) ?_
  (repeat (first|with_reducible refine wV fun _=>?_|simp [go_sem]))
 ·(repeat (first|with_reducible refine wV fun _=>?_|simp [go_sem]))
  refine ACallP.plain (hPu n) (by simp [go_sem]) ?_
  (repeat (first|with_reducible refine wV fun _=>?_|simp [go_sem]))
 ·(repeat (first|with_reducible refine wV fun _=>?_|simp [go_sem]))
  exact frX
 ·have hn := xr (by omega)
  (repeat (first|with_reducible refine wV fun _=>?_|simp [go_sem]))
  refine dCall.plain (hOn s _) (by simp [go_sem]) ?_
  (repeat (first|with_reducible refine wV fun _=>?_|simp [go_sem]))
 ·have hn := xr (by omega)
  have hpn := pow_le16 hn.1 (show n ≤ 4 by omega)
  (repeat (first|with_reducible refine wV fun _=>?_|simp [go_sem]))
  exact frX
end Go.Av
end
section
/- Plain: runs of valid states. -/
open Go Go.Proofs
namespace Go.Av
def stageS (g : GameD) (p : PosD) (cell : Int) (prog : List (Int × Int)) (n : Nat) : List StD := (prog.take n).foldl (nextS g) [startS p cell]
theorem stageS_zero (g : GameD) (p : PosD) (cell : Int) (prog : List (Int × Int)) : stageS g p cell prog 0 = [startS p cell] := rfl
theorem stageS_succ (g : GameD) (p : PosD) (cell : Int) (prog : List (Int × Int)) {n : Nat} (h : n < prog.length) : stageS g p cell prog (n + 1) = nextS g (stageS g p cell prog n) (nth prog n) := by
 unfold stageS
 rw [List.take_add_one, List.getElem?_eq_getElem h, nth_eq _ _ h, Option.toList_some, List.foldl_append]; rfl
theorem stageS_last (g : GameD) (p : PosD) (cell : Int) (prog : List (Int × Int)) : stageS g p cell prog prog.length = lastS g p cell prog := by
 unfold stageS lastS; rw [List.take_length]
def partS (g : GameD) (now : List StD) (x : Int × Int) (n : Nat) : List StD := (now.take n).foldl (fun next s => addS next (stepS g s x)) []
theorem partS_zero (g : GameD) (now : List StD) (x : Int × Int) : partS g now x 0 = [] := rfl
theorem partS_succ (g : GameD) (now : List StD) (x : Int × Int) {n : Nat} (h : n < now.length) : partS g now x (n + 1) = addS (partS g now x n) (stepS g (nth now n) x) := by
 unfold partS
 rw [List.take_add_one, List.getElem?_eq_getElem h, nth_eq _ _ h, Option.toList_some, List.foldl_append]; rfl
theorem partS_all (g : GameD) (now : List StD) (x : Int × Int) : partS g now x now.length = nextS g now x := by
 unfold partS nextS; rw [List.take_length]
theorem partS_ok {g : GameD} (hg : GOk g) {now : List StD} {x : Int × Int} (hx : StepOk g.next.length g.kinds.length g.rights x) {side : Int} (hn : ∀ s ∈ now, StOk g s ∧ s.p.side = side) :
  ∀ n, n ≤ now.length → (∀ s ∈ partS g now x n, StOk g s ∧ s.p.side = side) ∧ (partS g now x n).length ≤ 10 * n := by
 intro n
 induction n with
 | zero => intro _; simp [partS]
 | succ n ih =>
  intro h
  obtain ⟨h1, h2⟩ := ih (by omega)
  have hs := hn _ (nth_mem (show n < now.length by omega))
  rw [partS_succ g now x (by omega)]
  refine ⟨addS_all h1 (fun s hs' => ?_), ?_⟩
  ·obtain ⟨k1, k2⟩ := stepS_ok hg hs.1 hx s hs'
   exact ⟨k1, k2.trans hs.2⟩
  ·have k1 := (addS_len (stepS g (nth now n) x) (partS g now x n)).2
   have k2 := stepS_len hg (nth now n) x
   omega
theorem startS_ok {g : GameD} (hg : GOk g) {p : PosD} (hp : POk g p) {cell : Int} (h0 : 0 ≤ cell) (h1 : cell < g.cells) (hm : 0 ≤ (manOf (nth p.at_ cell.toNat)).1) : StOk g (startS p cell) ∧ (startS p cell).p.side = p.side := by
 have hat := hp.at (i := cell.toNat) (by omega)
 have hk := manOf_cases hat.1 hat.2 hg.k6
 refine ⟨⟨hp.clr _, h0, h1, ?_⟩, rfl⟩
 simp only [startS]
 rcases hk with ⟨_, e⟩ | ⟨_, a, b, _⟩
 ·rw [e] at hm; simp at hm
 ·exact ⟨a, b⟩
theorem stageS_ok {g : GameD} (hg : GOk g) {p : PosD} (hp : POk g p) {cell : Int} (h0 : 0 ≤ cell) (h1 : cell < g.cells) (hm : 0 ≤ (manOf (nth p.at_ cell.toNat)).1)
  {prog : List (Int × Int)} (hpr : ∀ x ∈ prog, StepOk g.next.length g.kinds.length g.rights x) :
  ∀ n, n ≤ prog.length → (∀ s ∈ stageS g p cell prog n, StOk g s ∧ s.p.side = p.side) ∧ (stageS g p cell prog n).length ≤ 10 ^ n := by
 intro n
 induction n with
 | zero => intro _; rw [stageS_zero]; exact ⟨fun s hs => by simp at hs; subst hs; exact startS_ok hg hp h0 h1 hm, by simp⟩
 | succ n ih =>
  intro h
  obtain ⟨k1, k2⟩ := ih (by omega)
  rw [stageS_succ g p cell prog (by omega), ← partS_all]
  obtain ⟨j1, j2⟩ := partS_ok hg (hpr _ (nth_mem (show n < prog.length by omega))) k1 _ (Nat.le_refl _)
  refine ⟨j1, ?_⟩
  rw [Nat.pow_succ]
  omega
theorem pow10_le {n : Nat} (h : n ≤ 8) : 10 ^ n ≤ 100000000 := by
 have := Nat.pow_le_pow_right (n := 10) (by omega) h
 exact this
def stR (g : GameD) (p : PosD) (cell : Int) (prog : List (Int × Int)) (n : Nat) : List (List AV) := (List.range n).map fun j => [encSs (stageS g p cell prog j)]
theorem stR_succ (g : GameD) (p : PosD) (cell : Int) (prog : List (Int × Int)) (n : Nat) : stR g p cell prog (n + 1) = stR g p cell prog n ++ [[encSs (stageS g p cell prog n)]] := by simp [stR, List.range_succ]
@[go_sem] theorem stR_len (g : GameD) (p : PosD) (cell : Int) (prog : List (Int × Int)) (n : Nat) : (stR g p cell prog n).length = n := by simp [stR]
@[go_sem ↓] theorem bel_stR {m : Nat} {g : GameD} {p : PosD} {cell : Int} {prog : List (Int × Int)} {n : Nat} : (∀ r ∈ stR g p cell prog n, ∀ c ∈ r, Bel m c) = True := by
 refine eq_true fun r hr c hc => ?_
 obtain ⟨j, _, rfl⟩ := List.mem_map.1 hr
 simp only [List.mem_cons, List.not_mem_nil, or_false] at hc
 subst hc
 exact of_eq_true bel_Sts
theorem nth_stR (g : GameD) (p : PosD) (cell : Int) (prog : List (Int × Int)) {n j : Nat} (h : j < n) : nth (stR g p cell prog n) j = [encSs (stageS g p cell prog j)] := by
 unfold stR; rw [nth_map _ _ _ (by simpa using h)]; simp [nth, h]
theorem bel_encSs {n : Nat} (l : List StD) : Bel n (encSs l) := of_eq_true bel_Sts
structure ChoiceOk (g : GameD) (p : PosD) (cell i : Int) : Prop where
 c0 : 0 ≤ cell
 c1 : cell < g.cells
 man : 0 ≤ (manOf (nth p.at_ cell.toNat)).1
 side : (manOf (nth p.at_ cell.toNat)).2 = p.side
 i0 : 0 ≤ i
 i1 : i < (nth g.kinds (manOf (nth p.at_ cell.toNat)).1.toNat).progs.length
end Go.Av
end
section
/- Plain: the outcomes of paths are those of programs (layer 8). -/
open Go Go.Proofs
namespace Go.Av
structure TkD where
 p : PosD
 kind : Int
 took : Bool
 deriving DecidableEq
instance : Inhabited TkD := ⟨⟨default, 0, false⟩⟩
def takeA (g : GameD) (side : Int) (t : TkD) (a : Int) : TkD × Bool :=
 let m := manOf (nth t.p.at_ a.toNat)
 if m.2 ≠ 1 - side then (t, false) else
 if (nth g.kinds m.1.toNat).keep = true then
  (⟨(clr t.p a).withHand side ((t.p.hand side).set m.1.toNat (nth (t.p.hand side) m.1.toNat + 1)), t.kind, true⟩, decide (nth (t.p.hand side) m.1.toNat + 1 ≤ 8))
 else (⟨clr t.p a, t.kind, true⟩, true)
def pushA (t : TkD) (a b : Int) : TkD × Bool :=
 if nth t.p.at_ a.toNat = 0 ∨ nth t.p.at_ b.toNat ≠ 0 then (t, false)
 else (⟨{ t.p with at_ := (t.p.at_.set b.toNat (nth t.p.at_ a.toNat)).set a.toNat 0 }, t.kind, t.took⟩, true)
def doA (g : GameD) (side : Int) (t : TkD) (x : ActD) : TkD × Bool :=
 if x.1 = 3 then (t, decide (nth t.p.at_ x.2.1.toNat = 0))
 else if x.1 = 4 then (t, decide ((manOf (nth t.p.at_ x.2.1.toNat)).2 = 1 - side))
 else if x.1 = 5 then (t, decide ((manOf (nth t.p.at_ x.2.1.toNat)).2 = side))
 else if x.1 = 6 then takeA g side t x.2.1
 else if x.1 = 7 then pushA t x.2.1 x.2.2
 else if x.1 = 8 then (⟨t.p, x.2.1, t.took⟩, true)
 else if x.1 = 9 then (t, decide (andN .i64 (t.p.rights.fdiv (2 ^ x.2.1.toNat)) 1 = 1))
 else if x.1 = 10 then (⟨{ t.p with rights := andNotN .i64 t.p.rights (2 ^ x.2.1.toNat) }, t.kind, t.took⟩, true)
 else (t, true)
def doAs (g : GameD) (side : Int) : TkD → List ActD → Option TkD
 | t, [] => some t
 | t, x :: l => if (doA g side t x).2 = true then doAs g side (doA g side t x).1 l else none
theorem doAs_append (g : GameD) (side : Int) : ∀ (l m : List ActD) (t : TkD), doAs g side t (l ++ m) = (doAs g side t l).bind fun t => doAs g side t m
 | [], m, t => rfl
 | x :: l, m, t => by
  simp only [List.cons_append, doAs]
  split
  ·exact doAs_append g side l m _
  ·rfl
def stT (t : TkD) (c : Int) : StD := ⟨t.p, t.kind, c, t.took⟩
def stW (g : GameD) (side : Int) (t : TkD) (w : PathD) : Option StD := (doAs g side t w.acts).map fun t => stT t w.to
def startT (p : PosD) (cell : Int) : TkD := ⟨clr p cell, (manOf (nth p.at_ cell.toNat)).1, false⟩
def outW (g : GameD) (side : Int) (t : TkD) (w : PathD) : Option OutD := (stW g side t w).bind (putS side)
def pathsAt (g : GameD) (p : PosD) (cell : Int) : List PathD :=
 kindP g.board (manOf (nth p.at_ cell.toNat)).2 (nth g.kinds (manOf (nth p.at_ cell.toNat)).1.toNat).progs cell
def outsL (g : GameD) (p : PosD) (cell : Int) : List OutD := (pathsAt g p cell).filterMap (outW g (manOf (nth p.at_ cell.toNat)).2 (startT p cell))
def runO (g : GameD) (p : PosD) (cell : Int) : List OutD := if nth p.at_ cell.toNat = 0 then [] else sortU cmpO (outsL g p cell)
def withSide (p : PosD) (s : Int) : PosD := { p with side := s }
def TkD.sd (t : TkD) (s : Int) : TkD := { t with p := withSide t.p s }
theorem hand_sd (p : PosD) (s side : Int) : (withSide p s).hand side = p.hand side := rfl
theorem withHand_sd (p : PosD) (s side : Int) (l : List Int) : (withSide p s).withHand side l = withSide (p.withHand side l) s := by unfold PosD.withHand; split <;> rfl
theorem doA_sd (g : GameD) (side : Int) (t : TkD) (s : Int) (x : ActD) : doA g side (t.sd s) x = ((doA g side t x).1.sd s, (doA g side t x).2) := by
 unfold doA takeA pushA
 simp only [TkD.sd, show (withSide t.p s).at_ = t.p.at_ from rfl, show (withSide t.p s).rights = t.p.rights from rfl, hand_sd]
 have hc : clr (withSide t.p s) x.2.1 = withSide (clr t.p x.2.1) s := rfl
 rw [hc, withHand_sd]
 split; · rfl
 split; · rfl
 split; · rfl
 split
 ·split; · rfl
  split <;> rfl
 split
 ·split <;> rfl
 split; · rfl
 split; · rfl
 split <;> rfl
theorem doAs_sd (g : GameD) (side : Int) (s : Int) : ∀ (l : List ActD) (t : TkD), doAs g side (t.sd s) l = (doAs g side t l).map fun t => t.sd s
 | [], t => rfl
 | x :: l, t => by
  simp only [doAs, doA_sd]
  split
  ·exact doAs_sd g side s l _
  ·rfl
theorem outW_sd (g : GameD) (side : Int) (t : TkD) (s : Int) (w : PathD) : outW g side (t.sd s) w = outW g side t w := by
 unfold outW stW
 rw [doAs_sd]
 cases doAs g side t w.acts with
 | none => rfl
 | some u => rfl
end Go.Av
end
section
/- Plain: acts keep positions valid. -/
open Go Go.Proofs
namespace Go.Av
theorem doA_ok {g : GameD} (hg : GOk g) {side : Int} (hs : side = 0 ∨ side = 1) {t : TkD} (ht : POk g t.p) {x : ActD} (hx : ActOk g.cells g.kinds.length g.rights x) (h : (doA g side t x).2 = true) : POk g (doA g side t x).1.p := by
 obtain ⟨op, a, b⟩ := x
 unfold ActOk at hx
 simp only at hx
 rcases (show op = 3 ∨ op = 4 ∨ op = 5 ∨ op = 6 ∨ op = 7 ∨ op = 8 ∨ op = 9 ∨ op = 10 by omega) with rfl | rfl | rfl | rfl | rfl | rfl | rfl | rfl
 ·exact ht
 ·exact ht
 ·exact ht
 ·have hat := ht.at (i := a.toNat) (by omega)
  have hman := manOf_cases hat.1 hat.2 hg.k6
  have hdo : doA g side t (6, a, b) = takeA g side t a := rfl
  rw [hdo] at h ⊢
  unfold takeA at h ⊢
  simp only at h ⊢
  split
  ·exact ht
  ·rename_i hm
   rw [if_neg hm] at h
   split
   ·rename_i hk
    rw [if_pos hk] at h
    simp only [decide_eq_true_eq] at h
    have hk1 : (manOf (nth t.p.at_ a.toNat)).1.toNat < g.kinds.length := by
     rcases hman with ⟨_, e⟩ | ⟨_, e1, e2, _⟩
     ·rw [e] at hm
      simp at hm
      omega
     ·omega
    have hh := ht.hand side
    have hv := hh.v _ (show (manOf (nth t.p.at_ a.toNat)).1.toNat < (t.p.hand side).length by rw [hh.len]; exact hk1)
    exact (ht.clr a).withHand side (hh.set _ ⟨by omega, h⟩ (fun _ => hk))
   ·exact ht.clr a
 ·have hdo : doA g side t (7, a, b) = pushA t a b := rfl
  rw [hdo]
  unfold pushA
  split
  ·exact ht
  ·have hat := ht.at (i := a.toNat) (by omega)
   exact (ht.setAt b.toNat hat).setAt a.toNat ⟨by omega, by omega⟩
 ·exact ht
 ·exact ht
 ·have h0 := ht.r0
  have h1 := ht.r1
  have hr : (2 : Int) ^ g.rights.toNat ≤ 16 := by
   have r0 := hg.r0
   have r4 := hg.r4
   rcases (show g.rights.toNat = 0 ∨ g.rights.toNat = 1 ∨ g.rights.toNat = 2 ∨ g.rights.toNat = 3 ∨ g.rights.toNat = 4 by omega) with e | e | e | e | e <;> rw [e] <;> decide
  have r4 := hg.r4
  have hn := andNot_le h0 (show t.p.rights < 16 by omega) (show a.toNat < 4 by omega)
  exact ⟨ht.al, ht.av, ht.h0, ht.h1, hn.1, by simp only [doA]; exact Int.lt_of_le_of_lt hn.2 h1, ht.s⟩
theorem doAs_snoc (g : GameD) (side : Int) (t : TkD) (l : List ActD) (x : ActD) : doAs g side t (l ++ [x]) = (doAs g side t l).bind fun t => if (doA g side t x).2 = true then some (doA g side t x).1 else none := by
 rw [doAs_append]
 rfl
theorem doAs_none {g : GameD} {side : Int} {t : TkD} {l : List ActD} {i : Nat} (h : doAs g side t (l.take i) = none) : doAs g side t l = none := by
 conv => lhs; rw [← List.take_append_drop i l]
 rw [doAs_append, h]; rfl
theorem doAs_ok {g : GameD} (hg : GOk g) {side : Int} (hs : side = 0 ∨ side = 1) : ∀ {l : List ActD} {t u : TkD}, POk g t.p → (∀ a ∈ l, ActOk g.cells g.kinds.length g.rights a) → doAs g side t l = some u → POk g u.p
 | [], t, u, ht, _, h => by simp only [doAs, Option.some.injEq] at h; subst h; exact ht
 | x :: l, t, u, ht, hl, h => by
  simp only [doAs] at h
  split at h
  ·rename_i hd
   exact doAs_ok hg hs (doA_ok hg hs ht (hl x (by simp)) hd) (fun a ha => hl a (by simp [ha])) h
  ·cases h
theorem outW_fits {g : GameD} (hg : GOk g) {side : Int} (hs : side = 0 ∨ side = 1) {t : TkD} (ht : POk g t.p) {w : PathD} (hw : ∀ a ∈ w.acts, ActOk g.cells g.kinds.length g.rights a) {o : OutD} (h : outW g side t w = some o) : FitsP o.pos := by
 unfold outW at h
 obtain ⟨s, h1, h2⟩ := Option.bind_eq_some_iff.1 h
 unfold stW at h1
 obtain ⟨u, h3, h4⟩ := Option.map_eq_some_iff.1 h1
 have hu := (doAs_ok hg hs ht hw h3).fits hg
 subst h4
 unfold putS at h2
 split at h2
 ·simp only [Option.some.injEq] at h2
  subst h2
  obtain ⟨a, b, c⟩ := hu
  exact ⟨by unfold Fits at a ⊢; simpa [stT] using a, b, c⟩
 ·cases h2
end Go.Av
end
section
/- Plain: the reference's way to take a path, act by act. -/
open Go Go.Proofs
namespace Go.Av
def actS (g : GameD) (s : StD) (x : ActD) : List StD :=
  if x.1 = 8 ∨ x.1 = 9 ∨ x.1 = 10 then stepS g s (x.1, x.2.1)
  else if x.1 = 7 then
    (if nth s.p.at_ x.2.1.toNat = 0 ∨ nth s.p.at_ x.2.2.toNat ≠ 0 then []
     else [{ s with p := { s.p with at_ := (s.p.at_.set x.2.2.toNat (nth s.p.at_ x.2.1.toNat)).set x.2.1.toNat 0 } }])
  else stepS g { s with cursor := x.2.1 } (x.1, 0)
def curA (x : ActD) (c : Int) : Int := if x.1 ≤ 6 then x.2.1 else c
theorem doA_side (g : GameD) (side : Int) (t : TkD) (x : ActD) : (doA g side t x).1.p.side = t.p.side := by
  unfold doA
  repeat' split
  all_goals first | rfl | skip
  · unfold takeA
    simp only
    repeat' split
    all_goals first | rfl | (simp only [PosD.withHand, clr]; split <;> rfl)
  · unfold pushA
    split <;> rfl
theorem actS_doA {g : GameD} (hg : GOk g) {side : Int} (hs : side = 0 ∨ side = 1) {t : TkD} (ht : POk g t.p) (hsd : t.p.side = side) {x : ActD} (hx : ActOk g.cells g.kinds.length g.rights x) (c : Int) :
    actS g (stT t c) x = if (doA g side t x).2 = true then [stT (doA g side t x).1 (curA x c)] else [] := by
  have hal := ht.al
  have hman : ∀ a : Int, 0 ≤ a ∧ a < g.cells → nth t.p.at_ a.toNat = 0 ∧ manOf (nth t.p.at_ a.toNat) = (-1, -1) ∨ nth t.p.at_ a.toNat ≠ 0 ∧ 0 ≤ (manOf (nth t.p.at_ a.toNat)).1 ∧ ((manOf (nth t.p.at_ a.toNat)).2 = 0 ∨ (manOf (nth t.p.at_ a.toNat)).2 = 1) := fun a ha => by
    have hv := ht.av _ (nth_mem (l := t.p.at_) (i := a.toNat) (by omega))
    rcases manOf_cases hv.1 hv.2 hg.k6 with h | h
    · exact .inl h
    · exact .inr ⟨h.1, h.2.1, h.2.2.2.1⟩
  obtain ⟨op, a, b⟩ := x
  unfold ActOk at hx
  simp only at hx
  rcases hx with ⟨h3, h6, ha, rfl⟩ | ⟨rfl, ha, hb⟩ | ⟨rfl, ha, rfl⟩ | ⟨rfl | rfl, ha, rfl⟩
  · have hm := hman a ha
    rcases (show op = 3 ∨ op = 4 ∨ op = 5 ∨ op = 6 by omega) with rfl | rfl | rfl | rfl
    · unfold actS stepS doA onlyS stT curA
      simp only [show ¬ ((3 : Int) = 8 ∨ (3 : Int) = 9 ∨ (3 : Int) = 10) by omega, show ¬ (3 : Int) = 7 by omega, show ¬ (3 : Int) = 1 by omega, show ¬ (3 : Int) = 2 by omega, if_false, if_true, decide_eq_true_eq, show (3 : Int) ≤ 6 by omega]
      rcases hm with ⟨h1, h2⟩ | ⟨h1, h2, h3⟩
      · rw [if_pos (by rw [h2]; decide), if_pos h1]
      · rw [if_neg (by omega), if_neg h1]
    · unfold actS stepS doA onlyS stT curA
      simp only [show ¬ ((4 : Int) = 8 ∨ (4 : Int) = 9 ∨ (4 : Int) = 10) by omega, show ¬ (4 : Int) = 7 by omega, show ¬ (4 : Int) = 1 by omega, show ¬ (4 : Int) = 2 by omega, show ¬ (4 : Int) = 3 by omega, if_false, if_true, decide_eq_true_eq, show (4 : Int) ≤ 6 by omega]
      rcases hm with ⟨h1, h2⟩ | ⟨h1, h2, h3⟩
      · rw [h2]
        simp only
        rw [if_neg (by omega), if_neg (by omega)]
      · by_cases h : (manOf (nth t.p.at_ a.toNat)).2 = 1 - side
        · rw [if_pos ⟨h2, by omega⟩, if_pos h]
        · rw [if_neg (by rintro ⟨_, h4⟩; omega), if_neg h]
    · unfold actS stepS doA onlyS stT curA
      simp only [show ¬ ((5 : Int) = 8 ∨ (5 : Int) = 9 ∨ (5 : Int) = 10) by omega, show ¬ (5 : Int) = 7 by omega, show ¬ (5 : Int) = 1 by omega, show ¬ (5 : Int) = 2 by omega, show ¬ (5 : Int) = 3 by omega, show ¬ (5 : Int) = 4 by omega, if_false, if_true, decide_eq_true_eq, show (5 : Int) ≤ 6 by omega]
      rcases hm with ⟨h1, h2⟩ | ⟨h1, h2, h3⟩
      · rw [h2]
        simp only
        rw [if_neg (by omega), if_neg (by omega)]
      · by_cases h : (manOf (nth t.p.at_ a.toNat)).2 = side
        · rw [if_pos ⟨h2, by omega⟩, if_pos h]
        · rw [if_neg (by rintro ⟨_, h4⟩; omega), if_neg h]
    · unfold actS stepS doA takeS takeA stT curA
      simp only [show ¬ ((6 : Int) = 8 ∨ (6 : Int) = 9 ∨ (6 : Int) = 10) by omega, show ¬ (6 : Int) = 7 by omega, show ¬ (6 : Int) = 1 by omega, show ¬ (6 : Int) = 2 by omega, show ¬ (6 : Int) = 3 by omega, show ¬ (6 : Int) = 4 by omega, show ¬ (6 : Int) = 5 by omega, if_false, if_true, show (6 : Int) ≤ 6 by omega, hsd]
      by_cases h : (manOf (nth t.p.at_ a.toNat)).2 = 1 - side
      · have h1 : ¬ ((manOf (nth t.p.at_ a.toNat)).1 < 0 ∨ (manOf (nth t.p.at_ a.toNat)).2 = side) := by
          rcases hm with ⟨h1, h2⟩ | ⟨h1, h2, h3⟩
          · rw [h2] at h; simp only at h; omega
          · omega
        rw [if_neg h1, if_neg (show ¬ (manOf (nth t.p.at_ a.toNat)).2 ≠ 1 - side from fun h' => h' h)]
        by_cases hk : (nth g.kinds (manOf (nth t.p.at_ a.toNat)).1.toNat).keep = true
        · rw [if_pos hk, if_pos hk]
          by_cases h8 : 8 < nth (t.p.hand side) (manOf (nth t.p.at_ a.toNat)).1.toNat + 1
          · rw [if_pos h8, if_neg (by simp only [decide_eq_true_eq]; omega)]
          · rw [if_neg h8, if_pos (by simp only [decide_eq_true_eq]; omega)]
        · rw [if_neg hk, if_neg hk]
          simp
      · have h1 : (manOf (nth t.p.at_ a.toNat)).1 < 0 ∨ (manOf (nth t.p.at_ a.toNat)).2 = side := by
          rcases hm with ⟨h1, h2⟩ | ⟨h1, h2, h3⟩
          · rw [h2]; left; decide
          · right; omega
        rw [if_pos h1, if_pos (show (manOf (nth t.p.at_ a.toNat)).2 ≠ 1 - side from h)]
        simp
  · unfold actS doA pushA stT curA
    simp only [show ¬ ((7 : Int) = 8 ∨ (7 : Int) = 9 ∨ (7 : Int) = 10) by omega, show ¬ (7 : Int) = 3 by omega, show ¬ (7 : Int) = 4 by omega, show ¬ (7 : Int) = 5 by omega, show ¬ (7 : Int) = 6 by omega, if_false, if_true, show ¬ (7 : Int) ≤ 6 by omega]
    by_cases h : nth t.p.at_ a.toNat = 0 ∨ nth t.p.at_ b.toNat ≠ 0
    · rw [if_pos h, if_pos h]
      simp
    · rw [if_neg h, if_neg h]
      simp
  · unfold actS stepS doA stT curA
    simp
  · unfold actS stepS doA onlyS stT curA
    simp
  · unfold actS stepS doA stT curA
    simp
def actsS (g : GameD) : List ActD → List StD → List StD
  | [], now => now
  | _ :: _, [] => []
  | x :: l, s :: _ => actsS g l (actS g s x)
theorem actsS_nil (g : GameD) : ∀ l, actsS g l [] = []
  | [] => rfl
  | _ :: _ => rfl
theorem actsS_snoc (g : GameD) (x : ActD) : ∀ (l : List ActD) (now : List StD), actsS g (l ++ [x]) now = match actsS g l now with | [] => [] | s :: _ => actS g s x
  | [], [] => rfl
  | [], s :: now => rfl
  | y :: l, [] => by simp only [actsS_nil]
  | y :: l, s :: now => by
    rw [List.cons_append, actsS, actsS, actsS_snoc g x l]
theorem actsS_append (g : GameD) (m : List ActD) : ∀ (l : List ActD) (now : List StD), actsS g (l ++ m) now = actsS g m (actsS g l now)
  | [], now => rfl
  | y :: l, [] => by rw [actsS_nil, actsS_nil, actsS_nil]
  | y :: l, s :: now => by
    rw [List.cons_append, actsS, actsS, actsS_append g m l]
theorem doA_kind {g : GameD} {side : Int} {t : TkD} {x : ActD} (hx : ActOk g.cells g.kinds.length g.rights x) (h : 0 ≤ t.kind ∧ t.kind < g.kinds.length) : 0 ≤ (doA g side t x).1.kind ∧ (doA g side t x).1.kind < g.kinds.length := by
  unfold ActOk at hx
  unfold doA
  repeat' split
  all_goals first | exact h | skip
  · unfold takeA
    simp only
    repeat' split
    all_goals exact h
  · unfold pushA
    split <;> exact h
  · rename_i h8
    simp only
    omega
theorem actsS_doAs {g : GameD} (hg : GOk g) {side : Int} (hs : side = 0 ∨ side = 1) : ∀ {l : List ActD} {t : TkD} (c : Int), POk g t.p → t.p.side = side → (∀ x ∈ l, ActOk g.cells g.kinds.length g.rights x) →
    (∀ u, doAs g side t l = some u → ∃ c', actsS g l [stT t c] = [stT u c'] ∧ POk g u.p ∧ u.p.side = side ∧ (0 ≤ c ∧ c < g.cells → 0 ≤ c' ∧ c' < g.cells) ∧ (0 ≤ t.kind ∧ t.kind < g.kinds.length → 0 ≤ u.kind ∧ u.kind < g.kinds.length)) ∧ (doAs g side t l = none → actsS g l [stT t c] = [])
  | [], t, c, ht, hsd, _ => ⟨fun u hu => by
      simp only [doAs, Option.some.injEq] at hu
      subst hu
      exact ⟨c, rfl, ht, hsd, id, id⟩, fun h => by simp [doAs] at h⟩
  | x :: l, t, c, ht, hsd, hx => by
    have h1 := actS_doA hg hs ht hsd (hx x (by simp)) c
    rw [doAs, actsS, h1]
    by_cases hd : (doA g side t x).2 = true
    · rw [if_pos hd, if_pos hd]
      have hok := doA_ok hg hs ht (hx x (by simp)) hd
      obtain ⟨i1, i2⟩ := actsS_doAs hg hs (l := l) (curA x c) hok ((doA_side g side t x).trans hsd) fun y hy => hx y (by simp [hy])
      refine ⟨fun u hu => ?_, i2⟩
      obtain ⟨c', j1, j2, j3, j4, j5⟩ := i1 u hu
      refine ⟨c', j1, j2, j3, fun hc => j4 ?_, fun hk => j5 (doA_kind (hx x (by simp)) hk)⟩
      have hxo := hx x (by simp)
      unfold curA
      unfold ActOk at hxo
      split
      · rcases hxo with h | h | h | h
        · exact h.2.2.1
        · omega
        · omega
        · omega
      · exact hc
    · rw [if_neg hd, if_neg hd]
      exact ⟨fun u hu => (by cases hu), fun _ => actsS_nil g l⟩
def takeO (g : GameD) (p : PosD) (cell : Int) (w : PathD) : List OutD :=
  match actsS g w.acts [stT ((startT p cell).sd (manOf (nth p.at_ cell.toNat)).2) cell] with
  | [] => []
  | s :: _ => if nth s.p.at_ w.to.toNat ≠ 0 then [] else [⟨{ s.p with at_ := s.p.at_.set w.to.toNat (codeOf s.kind (manOf (nth p.at_ cell.toNat)).2), side := 1 - (manOf (nth p.at_ cell.toNat)).2 }, s.took⟩]
theorem takeO_eq {g : GameD} (hg : GOk g) {p : PosD} (hp : POk g p) {cell : Int} (c0 : 0 ≤ cell) (c1 : cell < g.cells) (hz : nth p.at_ cell.toNat ≠ 0) {w : PathD} (hw : ∀ x ∈ w.acts, ActOk g.cells g.kinds.length g.rights x) :
    takeO g p cell w = (outW g (manOf (nth p.at_ cell.toNat)).2 (startT p cell) w).toList := by
  have hat := hp.at (i := cell.toNat) (by omega)
  have hs : (manOf (nth p.at_ cell.toNat)).2 = 0 ∨ (manOf (nth p.at_ cell.toNat)).2 = 1 := by
    rcases manOf_cases hat.1 hat.2 hg.k6 with h | h
    · exact absurd h.1 hz
    · exact h.2.2.2.1
  unfold takeO
  rw [← outW_sd g _ (startT p cell) (manOf (nth p.at_ cell.toNat)).2 w]
  generalize hside : (manOf (nth p.at_ cell.toNat)).2 = side at *
  have hok : POk g ((startT p cell).sd side).p := by
    have h := hp.clr cell
    exact ⟨h.al, h.av, h.h0, h.h1, h.r0, h.r1, hs⟩
  obtain ⟨k1, k2⟩ := actsS_doAs hg hs (l := w.acts) (t := (startT p cell).sd side) cell hok rfl hw
  unfold outW stW
  cases hd : doAs g side ((startT p cell).sd side) w.acts with
  | none => rw [k2 hd]; rfl
  | some u =>
    obtain ⟨c', j1, _, _, _, _⟩ := k1 u hd
    rw [j1]
    simp only [Option.map_some, Option.bind_some]
    have e : putS side (stT u w.to) = if nth u.p.at_ w.to.toNat = 0 then some ⟨{ u.p with at_ := u.p.at_.set w.to.toNat (codeOf u.kind side), side := 1 - side }, u.took⟩ else none := rfl
    rw [e]
    by_cases h0 : nth u.p.at_ w.to.toNat = 0
    · rw [if_pos h0]
      exact if_neg (fun h => h h0)
    · rw [if_neg h0]
      exact if_pos h0
end Go.Av
end
section
/- Contracts, runs: Run of the reference. -/
open Go Go.Proofs
namespace Go.Av
theorem R5Run_pure (g : GameD) (hg : GOk g) (p : PosD) (hp : POk g p) (cell i : Int) (hc : ChoiceOk g p cell i) :
  Pure Tryz.prog 210 [.agg (encGame g), .agg (encPos p), .v (.int .i64 cell), .v (.int .i64 i)]
   (.agg [.lst 1 (stR g p cell (progOf g p cell i) ((progOf g p cell i).length + 1)), .v (.int .i64 0)]) := by
 refine pF Tryz.func210 ?_
 have hal := hp.al
 obtain ⟨c0, c1, cm, cs, i0, i1⟩ := hc
 have hcur : cell.toNat < p.at_.length := by omega
 have hat := hp.at (i := cell.toNat) (by omega)
 have hO := R3Of_pure (nth p.at_ cell.toNat)
 have hman := manOf_cases hat.1 hat.2 hg.k6
 have hcp := copied_owns p (hp.fits hg)
 have hV := RValid_pure g (by have := hg.k6; unfold FitsG; omega) ⟨hg.r0, by have := hg.r4; omega⟩ p (hp.fits hg)
 rw [pOk_iff.2 hp] at hV
 have hkl : (manOf (nth p.at_ cell.toNat)).1.toNat < g.kinds.length := by
  rcases hman with ⟨_, e⟩ | ⟨_, a, b, _⟩
  ·rw [e] at cm; simp at cm
  ·omega
 have hil : i.toNat < (nth g.kinds (manOf (nth p.at_ cell.toNat)).1.toNat).progs.length := by omega
 have hpg := hg.pr _ (nth_mem hkl) _ (nth_mem hil)
 have hst := fun n hn => stageS_ok hg hp c0 c1 cm (prog := progOf g p cell i) hpg.st n hn
 have hz := stageS_zero g p cell (progOf g p cell i)
 have hsu := fun n hn => stageS_succ g p cell (progOf g p cell i) (n := n) hn
 have hR := fun n => stR_succ g p cell (progOf g p cell i) n
 have hp8 := hpg.len
 have hpst := hpg.st
 have hpe : progOf g p cell i = nth (nth g.kinds (manOf (nth p.at_ cell.toNat)).1.toNat).progs i.toNat := rfl
 rw [← hpe] at hp8 hpst
 obtain ⟨prog, hprog⟩ : ∃ q, q = progOf g p cell i := ⟨_, rfl⟩
 rw [← hprog] at hst hz hsu hR hp8 hpst hpe ⊢
 generalize hm : manOf (nth p.at_ cell.toNat) = m at *
 obtain ⟨mk, ms⟩ := m
 simp only at cm cs i1 hkl hil hpe
 (repeat (first|with_reducible refine wV fun _=>?_|simp [go_sem]))
 refine ACallP.plain hV (by simp [go_sem]) ?_
 (repeat (first|with_reducible refine wV fun _=>?_|simp [go_sem]))
 (refine aIf.mkL (fun hF => by first | omega | (simp at hF; omega)) (fun hF => ?_); clear hF)
 (repeat (first|with_reducible refine wV fun _=>?_|simp [go_sem, hcur]))
 refine ACallP.plain hO (by simp [go_sem]) ?_
 (repeat (first|with_reducible refine wV fun _=>?_|simp [go_sem, hkl, hil]))
 refine aIf.mkL (fun hF => by simp at hF; omega) (fun hF => ?_)
 clear hF
 (repeat (first|with_reducible refine wV fun _=>?_|simp [go_sem]))
 refine dCall.owns 28 (by rfl) (hcp) (by decide) (by simp [go_sem]) (by simp [go_sem]) (fun _ => LeRow.refl _ _ _ _) (by simp [go_sem]) (by simp [go_sem]) ?_
 ((repeat (first|with_reducible (first|refine wL fun _=>?_|refine wD fun _=>?_|refine wZ ?_)|simp [go_sem])); refine dEnd.mkN (by kernel_rfl) ?_)
 (repeat (first|with_reducible refine wV fun _=>?_|simp [go_sem, hcur, hkl, hil]))
 rw [← hpe]
 have hsz : ∀ n, n ≤ prog.length → (stageS g p cell prog n).length ≤ 100000000 := fun n hn => Nat.le_trans (hst n hn).2 (pow10_le (by omega))
 have hst0 : encSs (stageS g p cell prog 0) = .lst 8 [[.lst 1 ((p.at_.map encI).set cell.toNat [.v (.int .i64 0)]), encIs p.h0, encIs p.h1, .v (.int .i64 p.rights), .v (.int .i64 p.side), .v (.int .i64 mk), .v (.int .i64 cell), .v (.bool false)]] := by
  rw [hz]; simp [encSs, startS, encState, clr, hm, encIs, encI, List.map_set]
 have hR0 : stR g p cell prog 1 = [[encSs (stageS g p cell prog 0)]] := rfl
 refine ALoop.start (ALoop.ind (α := Nat) (fun k => ⟨[(4, .ref 0 0 9 0 0), (8, .ref 2 0 2 0 0), (11, .ref 146 0 2 0 0), (12, encSs (stageS g p cell prog k)), (13, encProg prog), (14, .v (.int .i64 k))],
   [(0, .rows true 0 9 [encGame g]), (2, .rows true 0 2 [[AV.nils, .v (.int .i64 0)]]), (142, .rows true k 1 (stR g p cell prog (k + 1))), (146, .rows true 0 2 [[.sl 142 k 1 0 (k + 1), .v (.int .i64 0)]])], 148⟩)
  (fun d k => k + d = prog.length) ?_ prog.length 0 ?_) ?_ ?_
 ·rintro d k k1 hrec
  (repeat (first|with_reducible refine wV fun _=>?_|simp [go_sem]))
  refine aIf.mkL (fun hk => ?_) (fun hk => ?_) <;> simp at hk
  ·have hkk := hst k (by omega)
   have hks := hsz k (by omega)
   have hks' := hsz (k + 1) (by omega)
   have hsk := hsu k hk
   have hxs := hpst _ (nth_mem hk)
   have hpo := fun n hn => partS_ok hg hxs hkk.1 n hn
   have hpa := partS_all g (stageS g p cell prog k) (nth prog k)
   have hpz := partS_zero g (stageS g p cell prog k) (nth prog k)
   have hps := fun n hn => partS_succ g (stageS g p cell prog k) (nth prog k) (n := n) hn
   rw [← hsk] at hpa
   obtain ⟨now, hnow⟩ : ∃ now, now = stageS g p cell prog k := ⟨_, rfl⟩
   rw [← hnow] at hkk hks hpo hpa hpz hps ⊢
   obtain ⟨x, hx⟩ : ∃ x, x = nth prog k := ⟨_, rfl⟩
   rw [← hx] at hxs hpo hpa hpz hps
   (repeat (first|with_reducible refine wV fun _=>?_|simp [go_sem]))
   refine ALoop.start (ALoop.ind (α := Nat) (fun n => ⟨[(4, .ref 0 0 9 0 0), (8, .ref 2 0 2 0 0), (11, .ref 146 0 2 0 0), (12, encSs now), (13, encProg prog), (14, .v (.int .i64 k)), (15, .sl 148 (partS g now x n).length 8 0 (partS g now x n).length), (16, .v (.int .i64 n))],
     [(0, .rows true 0 9 [encGame g]), (2, .rows true 0 2 [[AV.nils, .v (.int .i64 0)]]), (142, .rows true k 1 (stR g p cell prog (k + 1))), (146, .rows true 0 2 [[.sl 142 k 1 0 (k + 1), .v (.int .i64 0)]]), (148, .rows true (partS g now x n).length 8 ((partS g now x n).map encState))], 149⟩)
    (fun d n => n + d = now.length) ?_ now.length 0 ?_) ?_ ?_
   ·rintro d2 n n1 hrec2
    (repeat (first|with_reducible refine wV fun _=>?_|simp [go_sem]))
    refine aIf.mkL (fun hn => ?_) (fun hn => ?_) <;> simp at hn
    ·have hsn := hkk.1 _ (nth_mem hn)
     have hpn := hps n hn
     have hpoN := hpo n (by omega)
     have hpoS := hpo (n + 1) (by omega)
     have hSt := R5Step_pure g hg (nth now n) hsn.1 x hxs
     have hsl := stepS_len hg (nth now n) x
     have hso := stepS_ok hg hsn.1 hxs
     have hAd := R5add_owns (partS g now x n) (stepS g (nth now n) x) (by omega) (fun s hs => (hpoN.1 s hs).1.p.fits hg) (fun s hs => (hso s hs).1.p.fits hg)
     rw [← hpn] at hAd
     (repeat (first|with_reducible refine wV fun _=>?_|simp [go_sem, hn, hk, ← hx]))
     refine dCall.plain hSt (by simp [go_sem]) ?_
     (repeat (first|with_reducible refine wV fun _=>?_|simp [go_sem]))
     refine dCall.own1 (o := 148) hAd rfl (of_eq_true bel_St) (of_eq_true bel_St) (fun _ => .cons (.sl rfl) (.cons (.same (bel_encSs _)) .nil)) (by simp [go_sem]) (fun n₁ hn₁ => by simp [go_sem, hn₁]) (fun _ => .sl rfl) (.inr ⟨_, _, _, _, rfl⟩) ?_
     (repeat (first|with_reducible refine wV fun _=>?_|simp [go_sem]))
     refine ALoop.start (hrec2 (d2 - 1) (by omega) (n + 1) (by omega)) ?_ (by simp)
     simp [go_sem, Wk_eq]
    ·have hnl : n = now.length := by omega
     subst hnl
     rw [hpa]
     (repeat (first|with_reducible refine wV fun _=>?_|simp [go_sem]))
     have hRk := hR (k + 1)
     refine ALoop.start (hrec (d - 1) (by omega) (k + 1) (by omega)) ?_ (by simp)
     simp [go_sem, Wk_eq, hRk]
     refine ⟨?_, leRows_append (.refl _) (.cons (.cons ?_ .nil) .nil)⟩ <;> exact frX
   ·omega
   ·simp [go_sem, Wk_eq, hpz]
   ·simp
  ·have hkl' : k = prog.length := by omega
   subst hkl'
   (repeat (first|with_reducible refine wV fun _=>?_|simp [go_sem]))
   exact leV_frz rfl (by rw [stR_len]; omega) (by simp [noH, upd]) (by rw [List.drop_zero, List.take_of_length_le (by rw [stR_len]; omega)])
 ·omega
 ·simp [go_sem, Wk_eq, hR0]
  rw [show AV.lst 8 (List.map encState (stageS g p cell prog 0)) = _ from hst0]
  refine ⟨?_, ?_⟩
  ·(first|done|exact dpX)
  ·(first|done|exact dpX)
 ·simp
end Go.Av
end
