/- Texts of ours, part 6: our library and contracts of functions. -/
import Derived.Test.YtblaonmapofniaaGreatDoorB05
set_option linter.unusedSimpArgs false
set_option linter.unusedVariables false
set_option maxRecDepth 100000
set_option maxHeartbeats 40000000
section
/- Plain: games that are made. -/
open Go Go.Proofs
namespace Go.Av
structure RawG where
 w : Int
 h : Int
 cut : Int
 k0 : List Int
 k1 : List Int
 c : List (Int × Int × Int)
 f0 : Int
 f1 : Int
 f2 : Int
 f3 : Int
 f4 : Int
 f5 : Int
def U8 (n : Int) : Prop := 0 ≤ n ∧ n ≤ 255
structure RawOk (x : RawG) : Prop where
 w : U8 x.w
 h : U8 x.h
 cut : U8 x.cut
 k0 : ∀ n ∈ x.k0, U8 n
 k1 : ∀ n ∈ x.k1, U8 n
 c : ∀ t ∈ x.c, U8 t.1 ∧ U8 t.2.1 ∧ U8 t.2.2
 f0 : U8 x.f0
 f1 : U8 x.f1
 f2 : U8 x.f2
 f3 : U8 x.f3
 f4 : U8 x.f4
 f5 : U8 x.f5
def encC3 (c : Int × Int × Int) : List AV := [.v (.int .u8 c.1), .v (.int .u8 c.2.1), .v (.int .u8 c.2.2)]
def encRaw (x : RawG) : List AV := [.v (.int .u8 x.w), .v (.int .u8 x.h), .v (.int .u8 x.cut), encUs x.k0, encUs x.k1, .lst 3 (x.c.map encC3),
 .v (.int .u8 x.f0), .v (.int .u8 x.f1), .v (.int .u8 x.f2), .v (.int .u8 x.f3), .v (.int .u8 x.f4), .v (.int .u8 x.f5)]
attribute [go_sem] encC3 encRaw
theorem bel_C3 {n : Nat} {l : List (Int × Int × Int)} : (∀ r ∈ l.map encC3, ∀ c ∈ r, Bel n c) = True := by
 refine eq_true ?_
 intro r hr c hc
 obtain ⟨x, _, rfl⟩ := List.mem_map.1 hr
 revert c
 simp [go_sem]
theorem bel_C3s {n : Nat} {l : List (Int × Int × Int)} : Bel n (.lst 3 (l.map encC3)) = True := by rw [Bel_lst, bel_C3]
theorem bel_K {n : Nat} {l : List KindD} : (∀ r ∈ l.map encKind, ∀ c ∈ r, Bel n c) = True := by
 refine eq_true ?_
 intro r hr c hc
 obtain ⟨x, _, rfl⟩ := List.mem_map.1 hr
 simp only [encKind, List.mem_cons, List.not_mem_nil, or_false] at hc
 rcases hc with rfl | rfl | rfl
 ·exact .v _
 ·refine .lst fun r hr c hc => ?_
  obtain ⟨p, _, rfl⟩ := List.mem_map.1 hr
  simp only [List.mem_cons, List.not_mem_nil, or_false] at hc
  subst hc
  exact of_eq_true bel_Prog
 ·exact .v _
theorem bel_Ks {n : Nat} {l : List KindD} : Bel n (.lst 3 (l.map encKind)) = True := by rw [Bel_lst, bel_K]
theorem bel_Cl {n : Nat} {l : List (Int × Int × Int × Int)} : (∀ r ∈ l.map encClause, ∀ c ∈ r, Bel n c) = True := by
 refine eq_true ?_
 intro r hr c hc
 obtain ⟨x, _, rfl⟩ := List.mem_map.1 hr
 revert c
 simp [go_sem]
theorem bel_Cls {n : Nat} {l : List (Int × Int × Int × Int)} : Bel n (.lst 4 (l.map encClause)) = True := by rw [Bel_lst, bel_Cl]
theorem bel_Pr {n : Nat} {l : List (List (Int × Int))} : (∀ r ∈ l.map (fun p => [encProg p]), ∀ c ∈ r, Bel n c) = True := by
 refine eq_true ?_
 intro r hr c hc
 obtain ⟨p, _, rfl⟩ := List.mem_map.1 hr
 simp only [List.mem_cons, List.not_mem_nil, or_false] at hc
 subst hc
 exact of_eq_true bel_Prog
theorem bel_Prs {n : Nat} {l : List (List (Int × Int))} : Bel n (.lst 1 (l.map (fun p => [encProg p]))) = True := by rw [Bel_lst, bel_Pr]
attribute [go_sem high] bel_C3s bel_Ks bel_Cls bel_Prs
attribute [go_sem ↓] bel_C3 bel_K bel_Cl bel_Pr bel_P bel_I bel_St bel_Ou List.forall_mem_append
def nameA : ByteArray := ⟨#[97]⟩
def nameB : ByteArray := ⟨#[98, 101, 101]⟩
def bitU (f : Int) (i : Nat) : Bool := decide (andN .u8 (f.fdiv (2 ^ i)) 1 = 1)
def kindsN (x : RawG) : Nat := if x.k1 = [] then 1 else 2
def RawG.board (x : RawG) : BoardD := madeB x.w x.h x.cut
def RawG.rights (x : RawG) : Int := x.f0.tmod 3
def RawG.ks (x : RawG) (i : Nat) : List Int := if i = 0 then x.k0 else x.k1
def kindOf (x : RawG) (i : Nat) : KindD :=
 ⟨if i = 0 then nameA else nameB, ((x.ks i).take 4).map (fun n => madeP n x.board.next.length (kindsN x) x.rights), bitU x.f2 i⟩
def clauseOf (cells kinds : Int) (c : Int × Int × Int) : Int × Int × Int × Int :=
 (1 + c.1.tmod 3, (if 1 + c.1.tmod 3 ≠ 3 then c.2.1.tmod kinds else 0), (if 1 + c.1.tmod 3 = 2 then c.2.2.tmod cells else if 1 + c.1.tmod 3 = 3 then c.2.2.tmod 3 else 0), 1 + (c.1.tdiv 4).tmod 3)
def madeG (x : RawG) : GameD :=
 { cells := x.board.cells, next := x.board.next, turn := x.board.turn, kinds := (List.range (kindsN x)).map (kindOf x), rights := x.rights, must := decide (x.f1.tmod 4 = 3), clauses := (x.c.take 3).map (clauseOf x.board.cells (kindsN x)), blocked := if x.f3.tmod 4 = 3 then 1 + (x.f3.tdiv 4).tmod 3 else 3, endless := if x.f4.tmod 4 = 3 then 1 + (x.f4.tdiv 4).tmod 3 else 2 }
@[go_sem] theorem oneCell_string (s : ByteArray) : (Value.string s).oneCell' = true := rfl
def ksR (x : RawG) (i : Nat) : List (List AV) := ((List.range i).map (kindOf x)).map encKind
def kRow (k : KindD) : List AV := encKind k
theorem ksR_succ (x : RawG) (i : Nat) : ksR x (i + 1) = ksR x i ++ [kRow (kindOf x i)] := by simp [ksR, List.range_succ, kRow]
@[go_sem] theorem ksR_zero (x : RawG) : ksR x 0 = [] := rfl
@[go_sem] theorem ksR_len (x : RawG) (i : Nat) : (ksR x i).length = i := by simp [ksR]
@[go_sem ↓] theorem bel_ksR {n : Nat} {x : RawG} {i : Nat} : (∀ r ∈ ksR x i, ∀ c ∈ r, Bel n c) = True := bel_K
def psR (f : Int → List (Int × Int)) (l : List Int) (n : Nat) : List (List AV) := ((l.take n).map f).map fun p => [encProg p]
theorem psR_succ (f : Int → List (Int × Int)) (l : List Int) {n : Nat} (h : n < l.length) : psR f l (n + 1) = psR f l n ++ [[encProg (f (nth l n))]] := by
 unfold psR
 rw [List.take_add_one, List.getElem?_eq_getElem h, nth_eq _ _ h, Option.toList_some, List.map_append, List.map_append]
 rfl
theorem psR_len (f : Int → List (Int × Int)) (l : List Int) {n : Nat} (h : n ≤ l.length) : (psR f l n).length = n := by simp [psR]; omega
@[go_sem] theorem psR_zero (f : Int → List (Int × Int)) (l : List Int) : psR f l 0 = [] := rfl
@[go_sem ↓] theorem bel_psR {m : Nat} {f : Int → List (Int × Int)} {l : List Int} {n : Nat} : (∀ r ∈ psR f l n, ∀ c ∈ r, Bel m c) = True := bel_Pr
def clR (cells kinds : Int) (l : List (Int × Int × Int)) (n : Nat) : List (List AV) := ((l.take n).map (clauseOf cells kinds)).map encClause
def cRow (c : Int × Int × Int × Int) : List AV := encClause c
theorem clR_succ (cells kinds : Int) (l : List (Int × Int × Int)) {n : Nat} (h : n < l.length) : clR cells kinds l (n + 1) = clR cells kinds l n ++ [cRow (clauseOf cells kinds (nth l n))] := by
 unfold clR
 rw [List.take_add_one, List.getElem?_eq_getElem h, nth_eq _ _ h, Option.toList_some, List.map_append, List.map_append]
 rfl
theorem clR_len (cells kinds : Int) (l : List (Int × Int × Int)) {n : Nat} (h : n ≤ l.length) : (clR cells kinds l n).length = n := by simp [clR]; omega
@[go_sem] theorem clR_zero (cells kinds : Int) (l : List (Int × Int × Int)) : clR cells kinds l 0 = [] := rfl
@[go_sem ↓] theorem bel_clR {m : Nat} {cells kinds : Int} {l : List (Int × Int × Int)} {n : Nat} : (∀ r ∈ clR cells kinds l n, ∀ c ∈ r, Bel m c) = True := bel_Cl
theorem madeB_dirs (w h cut : Int) : (madeB w h cut).next.length = 8 := by
 unfold madeB
 split <;> simp [withoutB, withoutNext, gridB, gridNext]
theorem madeB_cells {w h : Int} (hw : 0 ≤ w) (hh : 0 ≤ h) (cut : Int) : 1 ≤ (madeB w h cut).cells ∧ (madeB w h cut).cells ≤ 9 := by
 have a0 := Int.tmod_nonneg 3 hw
 have a1 := Int.tmod_lt_of_pos w (show (0 : Int) < 3 by decide)
 have b0 := Int.tmod_nonneg 3 hh
 have b1 := Int.tmod_lt_of_pos h (show (0 : Int) < 3 by decide)
 have e : (madeB w h cut).cells = ((1 + w.tmod 3).toNat : Int) * ((1 + h.tmod 3).toNat : Int) := by
  unfold madeB
  split <;> simp [withoutB, gridB]
 rw [e]
 obtain ⟨W, hW⟩ : ∃ W : Nat, 1 + w.tmod 3 = W := ⟨(1 + w.tmod 3).toNat, by omega⟩
 obtain ⟨H, hH⟩ : ∃ H : Nat, 1 + h.tmod 3 = H := ⟨(1 + h.tmod 3).toNat, by omega⟩
 rw [hW, hH, Int.toNat_natCast, Int.toNat_natCast]
 rcases (show W = 1 ∨ W = 2 ∨ W = 3 by omega) with rfl | rfl | rfl <;> omega
end Go.Av
end
section
/- Plain: positions that are made. -/
open Go Go.Proofs
namespace Go.Av
@[go_sem ↓] theorem bel_setI {n k : Nat} {l : List Int} {v : Value} : (∀ r ∈ (l.map encI).set k [.v v], ∀ c ∈ r, Bel n c) = True := by
 refine eq_true fun r hr c hc => ?_
 rcases List.mem_or_eq_of_mem_set hr with hr | rfl
 ·exact of_eq_true bel_I r hr c hc
 ·simp only [List.mem_cons, List.not_mem_nil, or_false] at hc; subst hc; exact .v _
structure RawP where
 cell : List Int
 kind : List Int
 hand : List Int
 rights : Int
 side : Int
structure RawPOk (x : RawP) : Prop where
 c6 : x.cell.length = 6
 k6 : x.kind.length = 6
 h4 : x.hand.length = 4
 cv : ∀ n ∈ x.cell, U8 n
 kv : ∀ n ∈ x.kind, U8 n
 hv : ∀ n ∈ x.hand, U8 n
 r : U8 x.rights
 s : U8 x.side
def encRawP (x : RawP) : List AV := x.cell.map (fun n => .v (.int .u8 n)) ++ (x.kind.map (fun n => .v (.int .u8 n)) ++ (x.hand.map (fun n => .v (.int .u8 n)) ++ [.v (.int .u8 x.rights), .v (.int .u8 x.side)]))
theorem cel_u8 (l : List Int) (r : List AV) (i : Nat) (h : i < l.length) : cel (l.map (fun n => AV.v (.int .u8 n)) ++ r) i = .v (.int .u8 (nth l i)) := by
 unfold cel nth
 rw [List.getD_eq_getElem?_getD, List.getD_eq_getElem?_getD, List.getElem?_append_left (by simpa using h), List.getElem?_map, List.getElem?_eq_getElem h]
 rfl
theorem cel_u8s (l : List Int) (r : List AV) (i : Nat) : cel (l.map (fun n => AV.v (.int .u8 n)) ++ r) (l.length + i) = cel r i := by
 unfold cel
 rw [List.getD_eq_getElem?_getD, List.getD_eq_getElem?_getD, List.getElem?_append_right (by simp)]
 simp
structure RawRow (x : RawP) (er : List AV) : Prop where
 len : er.length = 18
 c : ∀ i, i < 6 → cel er i = .v (.int .u8 (nth x.cell i))
 k : ∀ i, i < 6 → cel er (6 + i) = .v (.int .u8 (nth x.kind i))
 h : ∀ i, i < 4 → cel er (12 + i) = .v (.int .u8 (nth x.hand i))
 r : cel er 16 = .v (.int .u8 x.rights)
 s : cel er 17 = .v (.int .u8 x.side)
 b : ∀ n, (∀ c ∈ er, Bel n c) = True
theorem rawRow {x : RawP} (hx : RawPOk x) : RawRow x (encRawP x) := by
 obtain ⟨a, b, c, _, _, _, _, _⟩ := hx
 have e1 : ∀ i, cel (encRawP x) (6 + i) = cel (x.kind.map (fun n => AV.v (.int .u8 n)) ++ (x.hand.map (fun n => AV.v (.int .u8 n)) ++ [.v (.int .u8 x.rights), .v (.int .u8 x.side)])) i := fun i => by
  have := cel_u8s x.cell (x.kind.map (fun n => .v (.int .u8 n)) ++ (x.hand.map (fun n => .v (.int .u8 n)) ++ [.v (.int .u8 x.rights), .v (.int .u8 x.side)])) i
  rw [a] at this; exact this
 have e2 : ∀ i, cel (encRawP x) (12 + i) = cel (x.hand.map (fun n => AV.v (.int .u8 n)) ++ [.v (.int .u8 x.rights), .v (.int .u8 x.side)]) i := fun i => by
  have := cel_u8s x.kind (x.hand.map (fun n => .v (.int .u8 n)) ++ [.v (.int .u8 x.rights), .v (.int .u8 x.side)]) i
  rw [b] at this
  rw [show 12 + i = 6 + (6 + i) by omega, e1, this]
 have e3 : ∀ i, cel (encRawP x) (16 + i) = cel [AV.v (.int .u8 x.rights), .v (.int .u8 x.side)] i := fun i => by
  have := cel_u8s x.hand [.v (.int .u8 x.rights), .v (.int .u8 x.side)] i
  rw [c] at this
  rw [show 16 + i = 12 + (4 + i) by omega, e2, this]
 refine ⟨by simp [encRawP, a, b, c], fun i hi => cel_u8 x.cell _ i (by omega), fun i hi => ?_, fun i hi => ?_, e3 0, e3 1, fun n => eq_true ?_⟩
 ·rw [e1]; exact cel_u8 x.kind _ i (by omega)
 ·rw [e2]; exact cel_u8 x.hand _ i (by omega)
 ·intro c hc
  simp only [encRawP, List.mem_append, List.mem_map, List.mem_cons, List.not_mem_nil, or_false] at hc
  rcases hc with ⟨_, _, rfl⟩ | ⟨_, _, rfl⟩ | ⟨_, _, rfl⟩ | rfl | rfl <;> exact .v _
def atStep (g : GameD) (x : RawP) (l : List Int) (i : Nat) : List Int :=
 if (nth x.cell i).tmod (g.cells + 1) < g.cells then l.set ((nth x.cell i).tmod (g.cells + 1)).toNat (1 + 2 * (nth x.kind i).tmod g.kinds.length + (i : Int).tmod 2) else l
def madeAt (g : GameD) (x : RawP) (n : Nat) : List Int := (List.range n).foldl (atStep g x) (List.replicate g.cells.toNat 0)
theorem madeAt_succ (g : GameD) (x : RawP) (n : Nat) : madeAt g x (n + 1) = atStep g x (madeAt g x n) n := by simp [madeAt, List.range_succ]
theorem atStep_len (g : GameD) (x : RawP) (l : List Int) (i : Nat) : (atStep g x l i).length = l.length := by unfold atStep; split <;> simp
theorem madeAt_len (g : GameD) (x : RawP) (n : Nat) : (madeAt g x n).length = g.cells.toNat := by
 induction n with
 | zero => simp [madeAt]
 | succ n ih => rw [madeAt_succ, atStep_len, ih]
def handV (g : GameD) (x : RawP) (s k : Nat) : Int :=
 if (nth g.kinds k).keep = true then (if 250 < nth x.hand (2 * s + k) then 8 else (nth x.hand (2 * s + k)).tmod 3) else 0
def handL (g : GameD) (x : RawP) (s n : Nat) : List Int := (List.range g.kinds.length).map fun j => if j < n then handV g x s j else 0
theorem handL_len (g : GameD) (x : RawP) (s n : Nat) : (handL g x s n).length = g.kinds.length := by simp [handL]
theorem handL_zero (g : GameD) (x : RawP) (s : Nat) : handL g x s 0 = List.replicate g.kinds.length 0 := by
 unfold handL
 apply List.ext_getElem <;> simp
theorem handL_succ (g : GameD) (x : RawP) (s n : Nat) : handL g x s (n + 1) = (handL g x s n).set n (handV g x s n) := by
 apply List.ext_getElem
 ·simp [handL]
 ·intro i h1 h2
  simp only [handL, List.getElem_map, List.getElem_range, List.getElem_set]
  by_cases h : n = i
  ·subst h; simp
  ·rw [if_neg h]
   by_cases h' : i < n
   ·rw [if_pos h', if_pos (by omega)]
   ·rw [if_neg h', if_neg (by omega)]
theorem handL_skip (g : GameD) (x : RawP) (s n : Nat) (h : handV g x s n = 0) : handL g x s (n + 1) = handL g x s n := by
 unfold handL
 apply List.map_congr_left
 intro j _
 by_cases h' : j < n
 ·rw [if_pos h', if_pos (by omega)]
 ·rw [if_neg h']
  split
  ·obtain rfl : j = n := by omega
   exact h
  ·rfl
def madePos (g : GameD) (x : RawP) : PosD := ⟨madeAt g x 6, handL g x 0 (min g.kinds.length 2), handL g x 1 (min g.kinds.length 2), x.rights.tmod (2 ^ g.rights.toNat), x.side.tmod 2⟩
end Go.Av
end
section
/- Plain: positions and states that are valid stay so. -/
open Go Go.Proofs
namespace Go.Av
theorem nth_z {α : Type} [Inhabited α] (x : α) (l : List α) : nth (x :: l) 0 = x := rfl
theorem nth_setE {α : Type} [Inhabited α] (l : List α) (i j : Nat) (v : α) : nth (l.set i v) j = if i = j ∧ j < l.length then v else nth l j := by
 unfold nth
 rw [List.getD_eq_getElem?_getD, List.getD_eq_getElem?_getD, List.getElem?_set]
 by_cases h : i = j
 ·subst h
  by_cases h2 : i < l.length
  ·simp [h2]
  ·simp [h2, List.getElem?_eq_none (Nat.not_lt.1 h2)]
 ·simp [h]
structure HandOk (g : GameD) (l : List Int) : Prop where
 len : l.length = g.kinds.length
 v : ∀ i, i < l.length → 0 ≤ nth l i ∧ nth l i ≤ 8 ∧ (0 < nth l i → (nth g.kinds i).keep = true)
theorem handGo_iff : ∀ (l : List Int) (ks : List KindD), l.length = ks.length → (handGo l ks = true ↔ ∀ i, i < l.length → 0 ≤ nth l i ∧ nth l i ≤ 8 ∧ (0 < nth l i → (nth ks i).keep = true))
 | [], [], _ => by simp [handGo]
 | x :: l, k :: ks, h => by
  have ih := handGo_iff l ks (by simpa using h)
  rw [handGo]
  simp only [Bool.and_eq_true, decide_eq_true_eq, Bool.or_eq_true, Bool.not_eq_true']
  rw [ih]
  constructor
  ·rintro ⟨⟨⟨h1, h2⟩, h3⟩, h4⟩ i hi
   cases i with
   | zero =>
    refine ⟨h1, h2, fun h => ?_⟩
    rcases h3 with h3 | h3
    ·rw [nth_z] at h; simp at h3; omega
    ·exact h3
   | succ i => exact h4 i (by simpa using hi)
  ·intro h
   have h0 := h 0 (by simp)
   refine ⟨⟨⟨h0.1, h0.2.1⟩, ?_⟩, fun i hi => h (i + 1) (by simpa using hi)⟩
   by_cases hx : 0 < x
   ·exact .inr (h0.2.2 hx)
   ·exact .inl (by simpa using hx)
theorem handOk_iff {g : GameD} {l : List Int} : handOk g l = true ↔ HandOk g l := by
 unfold handOk
 rw [Bool.and_eq_true, decide_eq_true_eq]
 exact ⟨fun ⟨a, b⟩ => ⟨a, (handGo_iff _ _ a).1 b⟩, fun ⟨a, b⟩ => ⟨a, (handGo_iff _ _ a).2 b⟩⟩
structure POk (g : GameD) (p : PosD) : Prop where
 al : (p.at_.length : Int) = g.cells
 av : ∀ c ∈ p.at_, 0 ≤ c ∧ c ≤ 2 * g.kinds.length
 h0 : HandOk g p.h0
 h1 : HandOk g p.h1
 r0 : 0 ≤ p.rights
 r1 : p.rights < 2 ^ g.rights.toNat
 s : p.side = 0 ∨ p.side = 1
theorem pOk_iff {g : GameD} {p : PosD} : posOk g p = true ↔ POk g p := by
 rw [posOk_iff, handOk_iff, handOk_iff]
 exact ⟨fun ⟨a, b, c, d, e, f, g⟩ => ⟨a, b, c, d, e, f, g⟩, fun ⟨a, b, c, d, e, f, g⟩ => ⟨a, b, c, d, e, f, g⟩⟩
theorem POk.fits {g : GameD} (hg : GOk g) {p : PosD} (h : POk g p) : FitsP p := by
 have := hg.c9
 have := hg.k6
 have a := h.al
 have b := h.h0.len
 have c := h.h1.len
 unfold FitsP Fits
 omega
structure StOk (g : GameD) (s : StD) : Prop where
 p : POk g s.p
 c0 : 0 ≤ s.cursor
 c1 : s.cursor < g.cells
 k : 0 ≤ s.kind ∧ s.kind < g.kinds.length
theorem manOf_cases {c : Int} {K : Nat} (h0 : 0 ≤ c) (h1 : c ≤ 2 * K) (hK : K ≤ 6) :
  (c = 0 ∧ manOf c = (-1, -1)) ∨ (c ≠ 0 ∧ 0 ≤ (manOf c).1 ∧ (manOf c).1 < K ∧ ((manOf c).2 = 0 ∨ (manOf c).2 = 1) ∧ c = 1 + 2 * (manOf c).1 + (manOf c).2) := by
 unfold manOf
 by_cases hc : c = 0
 ·left; rw [if_neg (by omega)]; exact ⟨hc, rfl⟩
 ·right
  rw [if_pos (by omega)]
  have e1 : (c - 1).tdiv 2 = (c - 1) / 2 := Int.tdiv_eq_ediv_of_nonneg (by omega)
  have e2 : (c - 1).tmod 2 = (c - 1) % 2 := Int.tmod_eq_emod_of_nonneg (by omega)
  simp only [e1, e2]
  omega
theorem codeOf_ok {k s : Int} {K : Nat} (hk : 0 ≤ k ∧ k < K) (hK : K ≤ 6) (hs : s = 0 ∨ s = 1) : codeOf k s = 1 + 2 * k + s := by
 unfold codeOf
 rw [if_pos (by omega)]; omega
theorem andNot_small : ∀ (r : Fin 16) (m : Fin 4), 0 ≤ andNotN .i64 (r.val : Int) (2 ^ m.val) ∧ andNotN .i64 (r.val : Int) (2 ^ m.val) ≤ (r.val : Int) := by decide
theorem andNot_le {r : Int} {m : Nat} (h0 : 0 ≤ r) (h1 : r < 16) (hm : m < 4) : 0 ≤ andNotN .i64 r (2 ^ m) ∧ andNotN .i64 r (2 ^ m) ≤ r := by
 have := andNot_small ⟨r.toNat, by omega⟩ ⟨m, hm⟩
 simp only [Int.toNat_of_nonneg h0] at this
 exact this
theorem pow_le16 {r : Int} (h0 : 0 ≤ r) (h4 : r ≤ 4) : (1 : Int) ≤ 2 ^ r.toNat ∧ (2 : Int) ^ r.toNat ≤ 16 := by
 rcases (show r.toNat = 0 ∨ r.toNat = 1 ∨ r.toNat = 2 ∨ r.toNat = 3 ∨ r.toNat = 4 by omega) with h | h | h | h | h <;> rw [h] <;> decide
theorem lineGo_mem {b : BoardD} (hb : BoardOk b) {side d c : Int} : ∀ (f : Nat) (x : Int) (seen : List Int), x < b.cells → (∀ y ∈ seen, 0 ≤ y ∧ y < b.cells) → ∀ y ∈ lineGo b side d c f x seen, 0 ≤ y ∧ y < b.cells
 | 0, x, seen, _, h, y, hy => h y hy
 | f + 1, x, seen, hx, h, y, hy => by
  rw [lineGo] at hy
  split at hy
  ·rename_i hc
   refine lineGo_mem hb f _ _ (toB_lt hb _ _ _) (fun z hz => ?_) y hy
   rcases List.mem_append.1 hz with hz | hz
   ·exact h z hz
   ·simp at hz; omega
  ·exact h y hy
theorem lineB_mem {b : BoardD} (hb : BoardOk b) {side d c : Int} : ∀ y ∈ lineB b side d c, 0 ≤ y ∧ y < b.cells :=
 lineGo_mem hb _ _ _ (toB_lt hb _ _ _) (by simp)
theorem lineGo_len {b : BoardD} {side d c : Int} : ∀ (f : Nat) (x : Int) (seen : List Int), (lineGo b side d c f x seen).length ≤ seen.length + f
 | 0, x, seen => by simp [lineGo]
 | f + 1, x, seen => by
  rw [lineGo]
  split
  ·have := lineGo_len (b := b) (side := side) (d := d) (c := c) f (toB b side d x) (seen ++ [x])
   simp at this; omega
  ·omega
theorem lineB_len {b : BoardD} {side d c : Int} : (lineB b side d c).length ≤ b.cells.toNat + 1 := by
 have := lineGo_len (b := b) (side := side) (d := d) (c := c) (b.cells.toNat + 1) (toB b side d c) []
 simpa [lineB] using this
theorem POk.setAt {g : GameD} {p : PosD} (h : POk g p) (i : Nat) {v : Int} (hv : 0 ≤ v ∧ v ≤ 2 * g.kinds.length) : POk g { p with at_ := p.at_.set i v } :=
 ⟨by simpa using h.al, fun c hc => by rcases List.mem_or_eq_of_mem_set hc with hc | rfl; exact h.av c hc; exact hv, h.h0, h.h1, h.r0, h.r1, h.s⟩
theorem POk.hand {g : GameD} {p : PosD} (h : POk g p) (side : Int) : HandOk g (p.hand side) := by unfold PosD.hand; split; exact h.h0; exact h.h1
theorem POk.withHand {g : GameD} {p : PosD} (h : POk g p) (side : Int) {l : List Int} (hl : HandOk g l) : POk g (p.withHand side l) := by
 unfold PosD.withHand
 split
 ·exact ⟨h.al, h.av, hl, h.h1, h.r0, h.r1, h.s⟩
 ·exact ⟨h.al, h.av, h.h0, hl, h.r0, h.r1, h.s⟩
theorem HandOk.set {g : GameD} {l : List Int} (h : HandOk g l) (i : Nat) {v : Int} (hv : 0 ≤ v ∧ v ≤ 8) (hk : 0 < v → (nth g.kinds i).keep = true) : HandOk g (l.set i v) := by
 refine ⟨by simpa using h.len, fun j hj => ?_⟩
 have hj' : j < l.length := by simpa using hj
 rw [nth_setE]
 split
 ·rename_i e
  obtain ⟨rfl, _⟩ := e
  exact ⟨hv.1, hv.2, hk⟩
 ·exact h.v j hj'
theorem POk.at {g : GameD} {p : PosD} (h : POk g p) {i : Nat} (hi : (i : Int) < g.cells) : 0 ≤ nth p.at_ i ∧ nth p.at_ i ≤ 2 * g.kinds.length :=
 h.av _ (nth_mem (by have := h.al; omega))
theorem POk.side {g : GameD} {p : PosD} (h : POk g p) {s : Int} (hs : s = 0 ∨ s = 1) : POk g { p with side := s } := ⟨h.al, h.av, h.h0, h.h1, h.r0, h.r1, hs⟩
theorem withHand_side (p : PosD) (s : Int) (l : List Int) : (p.withHand s l).side = p.side := by unfold PosD.withHand; split <;> rfl
theorem POk.clr {g : GameD} {p : PosD} (h : POk g p) (c : Int) : POk g (clr p c) := h.setAt _ (by omega)
theorem slideGo_ok {g : GameD} {s : StD} (h : StOk g s) : ∀ {l : List Int}, (∀ y ∈ l, 0 ≤ y ∧ y < g.cells) → ∀ t ∈ slideGo s l, StOk g t ∧ t.p.side = s.p.side
 | [], _, t, ht => by simp [slideGo] at ht
 | c :: l, hl, t, ht => by
  rw [slideGo, List.mem_cons] at ht
  rcases ht with rfl | ht
  ·have := hl c (by simp)
   exact ⟨⟨h.p, this.1, this.2, h.k⟩, rfl⟩
  ·split at ht
   ·exact slideGo_ok h (fun y hy => hl y (List.mem_cons_of_mem _ hy)) t ht
   ·simp at ht
theorem slideGo_len {s : StD} : ∀ (l : List Int), (slideGo s l).length ≤ l.length
 | [] => by simp [slideGo]
 | c :: l => by
  rw [slideGo]
  have := slideGo_len (s := s) l
  split <;> simp <;> omega
theorem stepS_ok {g : GameD} (hg : GOk g) {s : StD} (h : StOk g s) {x : Int × Int} (hx : StepOk g.next.length g.kinds.length g.rights x) : ∀ t ∈ stepS g s x, StOk g t ∧ t.p.side = s.p.side := by
 intro t ht
 have hb := hg.board
 have hcur : (s.cursor.toNat : Int) < g.cells := by have := h.c0; have := h.c1; omega
 have hat := h.p.at hcur
 have only : ∀ {u : StD} {b : Bool}, t ∈ onlyS u b → b = true ∧ t = u := fun {u b} hu => by
  unfold onlyS at hu
  split at hu
  ·rename_i hb'; exact ⟨hb', by simpa using hu⟩
  ·simp at hu
 have hbc : g.board.cells = g.cells := rfl
 unfold stepS at ht
 simp only at ht
 split at ht
 ·obtain ⟨h1, rfl⟩ := only ht
  have := toB_lt hb s.p.side x.2 s.cursor
  exact ⟨⟨h.p, by simpa using h1, by rw [hbc] at this; exact this, h.k⟩, rfl⟩
 split at ht
 ·exact slideGo_ok h (fun y hy => lineB_mem hb y hy) t ht
 split at ht
 ·obtain ⟨h1, rfl⟩ := only ht; exact ⟨h, rfl⟩
 split at ht
 ·obtain ⟨h1, rfl⟩ := only ht; exact ⟨h, rfl⟩
 split at ht
 ·obtain ⟨h1, rfl⟩ := only ht; exact ⟨h, rfl⟩
 split at ht
 ·unfold takeS at ht
  simp only at ht
  split at ht
  ·simp at ht
  ·rename_i hm
   split at ht
   ·rename_i hkeep
    split at ht
    ·simp at ht
    ·rename_i h8
     simp only [List.mem_singleton] at ht
     subst ht
     refine ⟨⟨(h.p.clr _).withHand _ ((h.p.hand _).set _ ?_ (fun _ => hkeep)), h.c0, h.c1, h.k⟩, withHand_side _ _ _⟩
     have hh := h.p.hand s.p.side
     rcases manOf_cases hat.1 hat.2 hg.k6 with ⟨e, e2⟩ | ⟨e, e2, e3, _⟩
     ·rw [e2] at hm; simp at hm
     ·have := hh.v (manOf (nth s.p.at_ s.cursor.toNat)).1.toNat (by rw [hh.len]; omega)
      omega
   ·simp only [List.mem_singleton] at ht
    subst ht
    exact ⟨⟨h.p.clr _, h.c0, h.c1, h.k⟩, rfl⟩
 split at ht
 ·unfold pushS at ht
  simp only at ht
  split at ht
  ·simp at ht
  ·simp only [List.mem_singleton] at ht
   subst ht
   exact ⟨⟨(h.p.setAt _ hat).setAt _ (by omega), h.c0, h.c1, h.k⟩, rfl⟩
 split at ht
 ·rename_i e
  simp only [List.mem_singleton] at ht
  subst ht
  exact ⟨⟨h.p, h.c0, h.c1, hx.kind e⟩, rfl⟩
 split at ht
 ·obtain ⟨h1, rfl⟩ := only ht; exact ⟨h, rfl⟩
 split at ht
 ·rename_i e
  simp only [List.mem_singleton] at ht
  subst ht
  have hr := hx.right (.inr e)
  have hp := pow_le16 hg.r0 hg.r4
  have a := h.p.r0
  have b := h.p.r1
  have c := hg.r4
  obtain ⟨k1, k2⟩ := andNot_le (r := s.p.rights) (m := x.2.toNat) a (by omega) (by omega)
  exact ⟨⟨⟨h.p.al, h.p.av, h.p.h0, h.p.h1, k1, by simp only; omega, h.p.s⟩, h.c0, h.c1, h.k⟩, rfl⟩
 ·simp only [List.mem_singleton] at ht
  subst ht
  exact ⟨h, rfl⟩
theorem stepS_len {g : GameD} (hg : GOk g) (s : StD) (x : Int × Int) : (stepS g s x).length ≤ 10 := by
 have c9 := hg.c9
 have on : ∀ (u : StD) (b : Bool), (onlyS u b).length ≤ 10 := fun u b => by unfold onlyS; split <;> simp
 unfold stepS
 simp only
 split; exact on _ _
 split
 ·have h1 := slideGo_len (s := s) (lineB g.board s.p.side x.2 s.cursor)
  have h2 := lineB_len (b := g.board) (side := s.p.side) (d := x.2) (c := s.cursor)
  have : g.board.cells = g.cells := rfl
  unfold slideS; omega
 split; exact on _ _
 split; exact on _ _
 split; exact on _ _
 split
 ·unfold takeS; simp only; (repeat' split) <;> simp
 split
 ·unfold pushS; simp only; (repeat' split) <;> simp
 split; simp
 split; exact on _ _
 split <;> simp
end Go.Av
end
section
/- Contracts, runs: same, only, slide, take, push of the reference. -/
open Go Go.Proofs
namespace Go.Av
theorem R5same_pure (a b : StD) (ha : FitsP a.p) (hb : FitsP b.p) : Pure Tryz.prog 298 [.agg (encState a), .agg (encState b)] (.v (.bool (decide (a = b)))) := by
 refine pF Tryz.func298 ?_
 have hC := Compare_pure _ _ ha hb
 have he := cmpP_eq (p := a.p) (q := b.p)
 obtain ⟨pa, ka, ca, ta⟩ := a
 obtain ⟨pb, kb, cb, tb⟩ := b
 simp only at hC he
 (repeat (first|with_reducible refine wV fun _=>?_|simp [go_sem]))
 refine aGC.plain _ (fun _ => hC) (by simp [go_sem]) ?_
 (repeat (first|with_reducible refine wV fun _=>?_|simp [go_sem]))
 refine LeV.of_eq ?_
 by_cases h1 : pa = pb <;> by_cases h2 : ka = kb <;> by_cases h3 : ca = cb <;> cases ta <;> cases tb <;> simp_all
theorem R5only_pure (s : StD) (b : Bool) : Pure Tryz.prog 276 [.agg (encState s), .v (.bool b)] (encSs (onlyS s b)) := by
 refine pF Tryz.func276 ?_
 cases b
 ·(repeat (first|with_reducible refine wV fun _=>?_|simp [go_sem, onlyS]))
  exact frX
 ·(repeat (first|with_reducible refine wV fun _=>?_|simp [go_sem, onlyS]))
  exact frX
theorem R5slide_pure (g : GameD) (hg : GOk g) (s : StD) (hs : StOk g s) (n : Int) : Pure Tryz.prog 277 [.agg (encGame g), .agg (encState s), .v (.int .i64 n)] (encSs (slideS g.board s n)) := by
 refine pF Tryz.func277 ?_
 have hL := R1Line_pure g.board hg.board s.p.side n s.cursor
 have hlm := lineB_mem hg.board (side := s.p.side) (d := n) (c := s.cursor)
 have hll := lineB_len (b := g.board) (side := s.p.side) (d := n) (c := s.cursor)
 have c9 := hg.c9
 have c1 := hg.c1
 have hal := hs.p.al
 rw [show g.board.cells = g.cells from rfl] at hlm hll
 unfold slideS
 generalize lineB g.board s.p.side n s.cursor = line at *
 generalize hR : slideGo s line = R
 (repeat (first|with_reducible refine wV fun _=>?_|simp [go_sem]))
 refine ACallP.plain hL (by simp [go_sem]) ?_
 (repeat (first|with_reducible refine wV fun _=>?_|simp [go_sem]))
 refine ALoop.start (ALoop.ind (α := Nat × List StD) (fun a => ⟨[(4, .ref 1 0 8 0 0), (7, .sl 2 a.2.length 8 0 a.2.length), (8, encIs line), (9, .v (.int .i64 a.1))], [(1, .rows true 0 8 [encState s]), (2, .rows true a.2.length 8 (a.2.map encState))], 3⟩)
  (fun d a => a.1 + d = line.length ∧ a.2.length = a.1 ∧ R = a.2 ++ slideGo s (line.drop a.1)) ?_ line.length (0, []) ?_) ?_ ?_
 ·rintro d ⟨i, out⟩ ⟨i1, i2, i3⟩ hrec
  simp only at i1 i2 i3
  (repeat (first|with_reducible refine wV fun _=>?_|simp [go_sem]))
  refine aIf.mkL (fun hi => ?_) (fun hi => ?_) <;> simp at hi
  ·have hli := hlm _ (nth_mem hi)
   have hlt : (nth line i).toNat < s.p.at_.length := by omega
   rw [dropG_cons hi, slideGo] at i3
   (repeat (first|with_reducible refine wV fun _=>?_|simp [go_sem, hi, hlt]))
   refine aIf.mkL (fun hz => ?_) (fun hz => ?_) <;> simp at hz
   ·rw [if_neg (by simpa using hz)] at i3
    (repeat (first|with_reducible refine wV fun _=>?_|simp [go_sem]))
    rw [i3]
    exact frX
   ·rw [if_pos (by simpa using hz)] at i3
    (repeat (first|with_reducible refine wV fun _=>?_|simp [go_sem]))
    refine ALoop.start (hrec (d - 1) (by omega) (i + 1, out ++ [{ s with cursor := nth line i }]) ⟨by simp only; omega, by simp; omega, by simpa using i3⟩) ?_ (by simp)
    simp [go_sem, Wk_eq]
  ·rw [List.drop_eq_nil_of_le hi, slideGo] at i3
   (repeat (first|with_reducible refine wV fun _=>?_|simp [go_sem]))
   rw [i3]
   exact frX
 ·simp [hR]
 ·simp [go_sem, Wk_eq]
 ·simp
theorem R5take_pure (g : GameD) (hg : GOk g) (s : StD) (hs : StOk g s) : Pure Tryz.prog 278 [.agg (encGame g), .agg (encState s)] (encSs (takeS g s)) := by
 refine pF Tryz.func278 ?_
 have hal := hs.p.al
 have hc0 := hs.c0
 have hc1 := hs.c1
 have hcur : s.cursor.toNat < s.p.at_.length := by omega
 have hO := R3Of_pure (nth s.p.at_ s.cursor.toNat)
 have hat := hs.p.at (i := s.cursor.toNat) (by omega)
 have hman := manOf_cases hat.1 hat.2 hg.k6
 have hcp := copied_owns s.p (hs.p.fits hg)
 unfold takeS
 generalize hm : manOf (nth s.p.at_ s.cursor.toNat) = m at *
 obtain ⟨mk, ms⟩ := m
 simp only [Prod.mk.injEq] at hman
 (repeat (first|with_reducible refine wV fun _=>?_|simp [go_sem, hcur]))
 refine ACallP.plain hO (by simp [go_sem]) ?_
 (repeat (first|with_reducible refine wV fun _=>?_|simp [go_sem]))
 refine aIf.mkL (fun hc => ?_) (fun hc => ?_) <;> simp at hc
 ·rw [if_pos hc]
  (repeat (first|with_reducible refine wV fun _=>?_|simp [go_sem]))
  exact frX
 ·rw [if_neg (by omega)]
  (repeat (first|with_reducible refine wV fun _=>?_|simp [go_sem]))
  refine ACallP.ownsPlain hcp (by simp [go_sem]) ?_
  have hmk : mk.toNat < g.kinds.length := by omega
  (repeat (first|with_reducible refine wV fun _=>?_|simp [go_sem, hcur, hmk]))
  refine aIf.mkL (fun hk => ?_) (fun hk => ?_)
  ·rw [if_pos hk]
   have hl0 := hs.p.h0.len
   have hl1 := hs.p.h1.len
   rcases hs.p.s with hsd | hsd
   ·have hmk0 : mk.toNat < s.p.h0.length := by omega
    have hmk' : 0 ≤ mk := by omega
    have hv := hs.p.h0.v _ hmk0
    (repeat (first|with_reducible refine wV fun _=>?_|simp [go_sem, hsd, hmk0, hcur]))
    refine aIf.mkL (fun h8 => ?_) (fun h8 => ?_) <;> simp at h8
    ·rw [if_pos (by simpa [PosD.hand, hsd] using h8)]
     (repeat (first|with_reducible refine wV fun _=>?_|simp [go_sem]))
     exact frX
    ·rw [if_neg (by simpa [PosD.hand, hsd] using h8)]
     (repeat (first|with_reducible refine wV fun _=>?_|simp [go_sem, hsd, PosD.withHand, PosD.hand, clr]))
     (first|done|exact dpX)
   ·have hmk0 : mk.toNat < s.p.h1.length := by omega
    have hmk' : 0 ≤ mk := by omega
    have hv := hs.p.h1.v _ hmk0
    (repeat (first|with_reducible refine wV fun _=>?_|simp [go_sem, hsd, hmk0, hcur]))
    refine aIf.mkL (fun h8 => ?_) (fun h8 => ?_) <;> simp at h8
    ·rw [if_pos (by simpa [PosD.hand, hsd] using h8)]
     (repeat (first|with_reducible refine wV fun _=>?_|simp [go_sem]))
     exact frX
    ·rw [if_neg (by simpa [PosD.hand, hsd] using h8)]
     (repeat (first|with_reducible refine wV fun _=>?_|simp [go_sem, hsd, PosD.withHand, PosD.hand, clr]))
     (first|done|exact dpX)
  ·rw [if_neg (by simpa using hk)]
   (repeat (first|with_reducible refine wV fun _=>?_|simp [go_sem, clr]))
   (first|done|exact dpX)
theorem R5push_pure (g : GameD) (hg : GOk g) (s : StD) (hs : StOk g s) (n : Int) : Pure Tryz.prog 279 [.agg (encGame g), .agg (encState s), .v (.int .i64 n)] (encSs (pushS g s n)) := by
 refine pF Tryz.func279 ?_
 have hT := R1To_pure g.board hg.board s.p.side n s.cursor
 (repeat (first|with_reducible refine wV fun _=>?_|simp [go_sem]))
 refine ACallP.plain hT (by simp [go_sem]) ?_
 have hal := hs.p.al
 have hc0 := hs.c0
 have hc1 := hs.c1
 have hcur : s.cursor.toNat < s.p.at_.length := by omega
 have hcp := copied_owns s.p (hs.p.fits hg)
 have hto := toB_lt hg.board s.p.side n s.cursor
 rw [show g.board.cells = g.cells from rfl] at hto
 unfold pushS
 generalize toB g.board s.p.side n s.cursor = to at *
 by_cases ht : to < 0
 ·rw [if_pos (.inr (.inl ht))]
  have ht0 : to.toNat = 0 := by omega
  have h0l : 0 < s.p.at_.length := by omega
  (repeat (first|with_reducible refine wV fun _=>?_|simp [go_sem, hcur, ht, ht0, h0l]))
  exact frX
 ·have htl : to.toNat < s.p.at_.length := by omega
  have ht' : 0 ≤ to := by omega
  (repeat (first|with_reducible refine wV fun _=>?_|simp [go_sem, hcur, ht, htl]))
  refine aIf.mkL (fun hc => ?_) (fun hc => ?_) <;> simp at hc
  ·rw [if_pos (by by_cases h : nth s.p.at_ s.cursor.toNat = 0; exact .inl h; exact .inr (hc.resolve_left h))]
   (repeat (first|with_reducible refine wV fun _=>?_|simp [go_sem]))
   exact frX
  ·rw [if_neg (by rintro (h | h); exact hc.1 h; exact h hc.2)]
   (repeat (first|with_reducible refine wV fun _=>?_|simp [go_sem, hcur]))
   refine ACallP.ownsPlain hcp (by simp [go_sem]) ?_
   (repeat (first|with_reducible refine wV fun _=>?_|simp [go_sem, hcur, htl]))
   (first|done|exact dpX)
end Go.Av
end
section
/- Our library, part 17: calls of functions that are given objects of ours and turn them. -/
namespace Go.Av
open Go

mutual
inductive Rn (σ : Nat → Nat) : AV → AV → Prop
 | same {x : AV} (h : Bel 0 x) : Rn σ x x
 | ref {o o' g sz i off : Nat} (h : o' = σ o) : Rn σ (.ref o g sz i off) (.ref o' g sz i off)
 | sl {o o' g sz i len : Nat} (h : o' = σ o) : Rn σ (.sl o g sz i len) (.sl o' g sz i len)
 | agg {xs ys : List AV} (h : RnL σ xs ys) : Rn σ (.agg xs) (.agg ys)
 | tup {xs ys : List AV} (h : RnL σ xs ys) : Rn σ (.tup xs) (.tup ys)
 | fn {f : Fn} {a b a' b' : List AV} (h : RnL σ a a') (h' : RnL σ b b') : Rn σ (.fn f a b) (.fn f a' b')
inductive RnL (σ : Nat → Nat) : List AV → List AV → Prop
 | nil : RnL σ [] []
 | cons {x y : AV} {xs ys : List AV} (h : Rn σ x y) (t : RnL σ xs ys) : RnL σ (x :: xs) (y :: ys)
end
inductive RnLL (σ : Nat → Nat) : List (List AV) → List (List AV) → Prop
 | same {rs : List (List AV)} (h : ∀ r ∈ rs, ∀ c ∈ r, Bel 0 c) : RnLL σ rs rs
 | nil : RnLL σ [] []
 | cons {x y : List AV} {xs ys : List (List AV)} (h : RnL σ x y) (t : RnLL σ xs ys) : RnLL σ (x :: xs) (y :: ys)
inductive RnO (σ : Nat → Nat) : AObj → AObj → Prop
 | rows {mt : Bool} {g sz : Nat} {rs rs' : List (List AV)} (h : RnLL σ rs rs') : RnO σ (.rows mt g sz rs) (.rows mt g sz rs')
inductive RnH (σ : Nat → Nat) : List (Nat × AObj) → List (Nat × AObj) → Prop
 | nil : RnH σ [] []
 | cons {o o' : Nat} {x y : AObj} {l l' : List (Nat × AObj)} (e : o' = σ o) (h : RnO σ x y) (t : RnH σ l l') : RnH σ ((o, x) :: l) ((o', y) :: l')
section
variable {σ : Nat → Nat} {φ φ' : Place} {w : World} {M M' : Nat → Prop}
theorem Rn.rel (hφ : ∀ o, φ' (σ o) = φ o) (hM : ∀ k, M' k → M k) {x y : AV} (hs : Rn σ x y) : ∀ {v : Value}, Rel φ w M x v → Rel φ' w M' y v := by
 refine Rn.rec (σ := σ) (motive_1 := fun x y _ => ∀ {v : Value}, Rel φ w M x v → Rel φ' w M' y v) (motive_2 := fun xs ys _ => ∀ {vs : List Value}, RelL φ w M xs vs → RelL φ' w M' ys vs)
  ?_ ?_ ?_ ?_ ?_ ?_ ?_ ?_ hs
 ·intro x hb v hx; exact hx.closed hM hb
 ·intro o o' g sz i off e v hx
  subst e
  cases hx with | ref ho hg h => exact .ref (by rw [hφ]; exact ho) hg h
 ·intro o o' g sz i len e v hx
  subst e
  cases hx with | sl ho hg h => exact .sl (by rw [hφ]; exact ho) hg h
 ·intro xs ys _ ih v hx
  cases hx with | agg hv h => exact .agg hv (ih h)
 ·intro xs ys _ ih v hx
  cases hx with | tup h => exact .tup (ih h)
 ·intro f a b a' b' _ _ ih1 ih2 v hx
  cases hx with | fn h1 h2 => exact .fn (ih1 h1) (ih2 h2)
 ·intro vs hx; cases hx; exact .nil
 ·intro x y xs ys _ _ ih1 ih2 vs hx
  cases hx with | cons h t => exact .cons (ih1 h) (ih2 t)
theorem Rn.back {m : Nat} (hφ : ∀ o, o < m → φ o = φ' (σ o)) (hM : ∀ k, M k → M' k) {x y : AV} (hs : Rn σ x y) : Bel m x → ∀ {v : Value}, Rel φ' w M' y v → Rel φ w M x v := by
 refine Rn.rec (σ := σ) (motive_1 := fun x y _ => Bel m x → ∀ {v : Value}, Rel φ' w M' y v → Rel φ w M x v) (motive_2 := fun xs ys _ => (∀ c ∈ xs, Bel m c) → ∀ {vs : List Value}, RelL φ' w M' ys vs → RelL φ w M xs vs)
  ?_ ?_ ?_ ?_ ?_ ?_ ?_ ?_ hs
 ·intro x hb _ v hx; exact hx.closed hM hb
 ·intro o o' g sz i off e hb v hx
  subst e
  cases hb with | ref hb => cases hx with | ref ho hg h => exact .ref (by rw [hφ _ hb]; exact ho) hg h
 ·intro o o' g sz i len e hb v hx
  subst e
  cases hb with | sl hb => cases hx with | sl ho hg h => exact .sl (by rw [hφ _ hb]; exact ho) hg h
 ·intro xs ys _ ih hb v hx
  cases hb with | agg hb => cases hx with | agg hv h => exact .agg hv (ih hb h)
 ·intro xs ys _ ih hb v hx
  cases hb with | tup hb => cases hx with | tup h => exact .tup (ih hb h)
 ·intro f a b a' b' _ _ ih1 ih2 hb v hx
  cases hb with | fn hb hb' => cases hx with | fn h1 h2 => exact .fn (ih1 hb h1) (ih2 hb' h2)
 ·intro _ vs hx; cases hx; exact .nil
 ·intro x y xs ys _ _ ih1 ih2 hb vs hx
  cases hx with | cons h t => exact .cons (ih1 (hb _ (by simp)) h) (ih2 (fun c hc => hb c (by simp [hc])) t)
theorem RnL.rel (hφ : ∀ o, φ' (σ o) = φ o) (hM : ∀ k, M' k → M k) : ∀ {xs ys : List AV} {vs : List Value}, RnL σ xs ys → RelL φ w M xs vs → RelL φ' w M' ys vs
 | [], _, _, .nil, .nil => .nil
 | _ :: _, _, _, .cons h t, .cons h' t' => .cons (h.rel hφ hM h') (t.rel hφ hM t')
theorem RnL.back {m : Nat} (hφ : ∀ o, o < m → φ o = φ' (σ o)) (hM : ∀ k, M k → M' k) : ∀ {xs ys : List AV} {vs : List Value}, RnL σ xs ys → (∀ c ∈ xs, Bel m c) → RelL φ' w M' ys vs → RelL φ w M xs vs
 | [], _, _, .nil, _, .nil => .nil
 | _ :: _, _, _, .cons h t, hb, .cons h' t' => .cons (h.back hφ hM (hb _ (by simp)) h') (t.back hφ hM (fun c hc => hb c (by simp [hc])) t')
theorem RnL.length : ∀ {xs ys : List AV}, RnL σ xs ys → ys.length = xs.length
 | [], _, .nil => rfl
 | _ :: _, _, .cons _ t => by simp [t.length]
theorem RnLL.rel (hφ : ∀ o, φ' (σ o) = φ o) (hM : ∀ k, M' k → M k) {xs ys : List (List AV)} (hs : RnLL σ xs ys) :
  ∀ {vs : List Value}, RelL φ w M xs.flatten vs → RelL φ' w M' ys.flatten vs := by
 induction hs with
 | same h =>
  intro vs hx
  refine RelL.of_get hx.length fun k hk hk' => (hx.get k hk hk').closed hM ?_
  obtain ⟨r, hr, hc⟩ := List.mem_flatten.1 (List.getElem_mem hk)
  exact h r hr _ hc
 | nil => intro vs hx; cases hx; exact .nil
 | cons h _ ih =>
  intro vs hx
  rw [List.flatten_cons] at hx ⊢
  obtain ⟨us, ts, rfl, h1, h2⟩ := hx.split
  exact (h.rel hφ hM h1).append (ih h2)
theorem RnLL.back {m : Nat} (hφ : ∀ o, o < m → φ o = φ' (σ o)) (hM : ∀ k, M k → M' k) {xs ys : List (List AV)} (hs : RnLL σ xs ys) :
  (∀ r ∈ xs, ∀ c ∈ r, Bel m c) → ∀ {vs : List Value}, RelL φ' w M' ys.flatten vs → RelL φ w M xs.flatten vs := by
 induction hs with
 | same h =>
  intro _ vs hx
  refine RelL.of_get hx.length fun k hk hk' => (hx.get k hk hk').closed hM ?_
  obtain ⟨r, hr, hc⟩ := List.mem_flatten.1 (List.getElem_mem hk)
  exact h r hr _ hc
 | nil => intro _ vs hx; cases hx; exact .nil
 | cons h _ ih =>
  intro hb vs hx
  rw [List.flatten_cons] at hx ⊢
  obtain ⟨us, ts, rfl, h1, h2⟩ := hx.split
  exact (h.back hφ hM (hb _ (by simp)) h1).append (ih (fun r hr => hb r (by simp [hr])) h2)
theorem RnLL.shape {xs ys : List (List AV)} (hs : RnLL σ xs ys) : ys.length = xs.length ∧ (∀ sz, (∀ r ∈ xs, r.length = sz) → ∀ r ∈ ys, r.length = sz) ∧ ∀ sz, (∀ r ∈ ys, r.length = sz) → ∀ r ∈ xs, r.length = sz := by
 induction hs with
 | same h => exact ⟨rfl, fun _ h => h, fun _ h => h⟩
 | nil => exact ⟨rfl, fun _ h => h, fun _ h => h⟩
 | cons h _ ih =>
  refine ⟨by simp [ih.1], fun sz hr r hm => ?_, fun sz hr r hm => ?_⟩
  ·rcases List.mem_cons.1 hm with rfl | hm
   ·rw [h.length]; exact hr _ (by simp)
   ·exact ih.2.1 sz (fun r hr' => hr r (by simp [hr'])) r hm
  ·rcases List.mem_cons.1 hm with rfl | hm
   ·rw [← h.length]; exact hr _ (by simp)
   ·exact ih.2.2 sz (fun r hr' => hr r (by simp [hr'])) r hm
theorem RnH.at {l l' : List (Nat × AObj)} (hinj : ∀ a b, σ a = σ b → a = b) (hs : RnH σ l l') {o : Nat} {y : AObj} (ho : mkH l' o = some y) : ∃ o0 x, o = σ o0 ∧ mkH l o0 = some x ∧ RnO σ x y := by
 induction hs with
 | nil => cases ho
 | @cons o1 o1' x1 y1 l l' e1 h _ ih =>
  simp only [mkH, upd] at ho ⊢
  split at ho
  ·rename_i e
   cases ho
   exact ⟨o1, x1, e.trans e1, by simp, h⟩
  ·rename_i e
   obtain ⟨o0, x, rfl, h1, h2⟩ := ih ho
   refine ⟨o0, x, rfl, ?_, h2⟩
   rw [if_neg (fun h => e (by rw [h, e1]))]; exact h1
end
def ren (rs : List Nat) (n : Nat) (j : Nat) : Nat := if j < rs.length then rs.getD j 0 else n + (j - rs.length)
def remH : List Nat → Heap → Heap
 | [], h => h
 | o :: l, h => upd (remH l h) o none
theorem remH_eq (h : Heap) : ∀ (l : List Nat) (o : Nat), remH l h o = if o ∈ l then none else h o
 | [], o => by simp [remH]
 | a :: l, o => by
  simp only [remH, upd, List.mem_cons]
  by_cases e : o = a
  ·simp [e]
  ·simp [e, remH_eq h l o]
theorem ren_mem {rs : List Nat} {n j : Nat} (h : j < rs.length) : ren rs n j ∈ rs := by
 unfold ren; rw [if_pos h, List.getD_eq_getElem?_getD, List.getElem?_eq_getElem h]; exact List.getElem_mem h
theorem ren_inj {rs : List Nat} {n : Nat} (hd : rs.Nodup) (hlt : ∀ o ∈ rs, o < n) : ∀ a b, ren rs n a = ren rs n b → a = b := by
 intro a b he
 by_cases ha : a < rs.length <;> by_cases hb : b < rs.length
 ·unfold ren at he
  rw [if_pos ha, if_pos hb, List.getD_eq_getElem?_getD, List.getD_eq_getElem?_getD, List.getElem?_eq_getElem ha, List.getElem?_eq_getElem hb] at he
  exact (List.getElem_inj hd).1 (by simpa using he)
 ·have h1 := hlt _ (ren_mem (n := n) ha)
  rw [he] at h1
  unfold ren at h1
  rw [if_neg hb] at h1; omega
 ·have h1 := hlt _ (ren_mem (n := n) hb)
  rw [← he] at h1
  unfold ren at h1
  rw [if_neg ha] at h1; omega
 ·unfold ren at he
  rw [if_neg ha, if_neg hb] at he; omega
def OwnsA (P : Program) (f : FuncId) (args : List AV) (HA : List (Nat × AObj)) (m : Nat) (R0 : AV) (H0 : List (Nat × AObj)) (k2 : Nat) : Prop :=
 ACallP P f args (mkH HA) m (fun r h n' => Wk (fun _ => r) h n' [(0, R0)] H0 k2)
theorem ACallP.ownsA {P : Program} {f : FuncId} {args args' args0 : List AV} {h : Heap} {n m k2 : Nat} {K : CallK} {R0 R : AV} {HA H0 HH : List (Nat × AObj)} (rs : List Nat) (h' : Heap)
  (hp : OwnsA P f args0 HA m R0 H0 k2) (hd : rs.Nodup) (hlt : ∀ o ∈ rs, o < n) (hm : rs.length = m) (hmk : m ≤ k2) (hfz : Frz h h')
  (hA : ∀ j, j < m → ∃ x y, mkH HA j = some x ∧ h' (ren rs n j) = some y ∧ RnO (ren rs n) x y) (hAb : ∀ p ∈ HA, p.1 < m ∧ BelO m p.2)
  (hle : LeRow h h' n args args') (hb' : ∀ c ∈ args', Bel n c) (hargs0 : RnL (ren rs n) args0 args') (hb0 : ∀ c ∈ args0, Bel m c)
  (hR : Rn (ren rs n) R0 R) (hHH : RnH (ren rs n) H0 HH) (hk : K R (over HH (remH rs h')) (n + (k2 - m))) : ACallP P f args h n K := by
 refine ⟨hp.1, fun M0 φ w vs hH hargs => ?_⟩
 obtain ⟨hH', st0⟩ := hH.freeze hfz
 have hσ := ren_inj hd hlt
 have hmt : ∀ o g sz rs, h' o = some (.rows true g sz rs) → h o = some (.rows true g sz rs) := by
  intro o g sz rs ho
  rcases hfz o with h1 | ⟨g1, sz1, rs1, h1, h2⟩
  ·rw [← h1]; exact ho
  ·rw [h2] at ho; cases ho
 have hmut0 : ∀ k, Mut φ h' k → Mut φ h k := by
  rintro k ⟨o, g, sz, rs, g', a, bs, ho, hp, rfl⟩
  exact ⟨o, g, sz, rs, g', a, bs, hmt _ _ _ _ ho, hp, rfl⟩
 have hv : RelL φ w (Or M0 (Mut φ h')) args' vs := by
  refine LeRow.rel (φ' := φ) (n' := n) hH (fun {x v} _ hx => hx.keep φ.le_refl (fun _ _ _ => rfl) (fun k hk => .inl (hk.imp id (hmut0 k)))) ?_ (fun o g sz h1 _ h2 => by omega) hle hb' hargs
  rintro o mt g sz rs a bs ho hp ho' h0 (hk | ⟨o', g', sz', rs', g'', a', bs', ho1, hp1, he⟩)
  ·exact h0 hk
  ·have hne : o' ≠ o := fun e => by subst e; exact ho' _ _ _ ho1
   have ho0 := hmt _ _ _ _ ho1
   have hg : g'' = g' := by
    obtain ⟨A2, hA2, _⟩ := hH.obj _ _ _ _ _ ho0
    rw [hp1] at hA2
    simp only [Option.some.injEq, Prod.mk.injEq] at hA2
    exact hA2.1
   subst hg
   exact hH.inj _ _ _ _ _ _ _ _ _ _ _ _ _ _ ho0 ho hne (.inl rfl) hp1 hp he
 let hr : Heap := fun o => if o ∈ rs then none else h' o
 have hrmut : ∀ k, Mut φ hr k → Mut φ h' k := by
  rintro k ⟨o, g, sz, rs1, g', a, bs, ho, hp, rfl⟩
  simp only [hr] at ho
  split at ho
  ·cases ho
  ·exact ⟨o, g, sz, rs1, g', a, bs, ho, hp, rfl⟩
 let M1 : Nat → Prop := Or M0 (Mut φ hr)
 let φ0 : Place := fun j => if j < m then φ (ren rs n j) else none
 have hφ0 : ∀ j, j < m → φ0 j = φ (ren rs n j) := fun j hj => if_pos hj
 have hgiv : ∀ j mt g sz rws, mkH HA j = some (.rows mt g sz rws) → j < m ∧ ∃ rws', h' (ren rs n j) = some (.rows mt g sz rws') ∧ RnLL (ren rs n) rws rws' ∧ ∀ r ∈ rws, ∀ c ∈ r, Bel m c := by
  intro j mt g sz rws hj
  have hjm := hAb _ (mkH_mem hj)
  obtain ⟨x, y, h1, h2, h3⟩ := hA j hjm.1
  rw [hj] at h1
  cases h1
  cases h3 with
  | rows h3 => exact ⟨hjm.1, _, h2, h3, hjm.2⟩
 have hgmut : ∀ k, Mut φ0 (mkH HA) k → ∃ j, j < m ∧ ∃ g sz rws g' a bs, h' (ren rs n j) = some (.rows true g sz rws) ∧ φ (ren rs n j) = some (g', some (a, bs)) ∧ a.block = k := by
  rintro k ⟨j, g, sz, rws, g', a, bs, ho, hp, rfl⟩
  obtain ⟨hj, rws', h1, _⟩ := hgiv _ _ _ _ _ ho
  rw [hφ0 j hj] at hp
  exact ⟨j, hj, g, sz, rws', g', a, bs, h1, hp, rfl⟩
 have hgmut' : ∀ k, Mut φ0 (mkH HA) k → Mut φ h' k := fun k hk => by
  obtain ⟨j, _, g, sz, rws, g', a, bs, h1, h2, h3⟩ := hgmut k hk
  exact ⟨_, g, sz, rws, g', a, bs, h1, h2, h3⟩
 have hgen : ∀ {o mt g sz rws g' A}, h' o = some (.rows mt g sz rws) → φ o = some (g', A) → g' = g := by
  intro o mt g sz rws g' A ho hp
  obtain ⟨A2, hA2, _⟩ := hH'.obj _ _ _ _ _ ho
  rw [hp] at hA2
  simp only [Option.some.injEq, Prod.mk.injEq] at hA2
  exact hA2.1
 have hM1 : ∀ k, Or M1 (Mut φ0 (mkH HA)) k → Or M0 (Mut φ h') k := by
  rintro k ((hk | hk) | hk)
  ·exact .inl hk
  ·exact .inr (hrmut k hk)
  ·exact .inr (hgmut' k hk)
 have hH1 : HRel φ0 m w M1 (mkH HA) := by
  refine ⟨fun k hk => hH'.blk (hk.imp id (hrmut k)), fun o ho => if_neg (by omega), fun j mt g sz rws hj => ?_, fun o o' mt g sz rws mt' g' sz' rws' a a' b b' ho ho' hne hmm hp hp' => ?_, hH'.glob.keep (fun _ _ _ => rfl) (fun k hk => .inl (hM1 k hk))⟩
  ·obtain ⟨hjm, rws', h1, h2, h3⟩ := hgiv _ _ _ _ _ hj
   obtain ⟨A, hA1, hc⟩ := hH'.obj _ _ _ _ _ h1
   refine ⟨A, by rw [hφ0 j hjm]; exact hA1, hc.imp (fun h => ⟨h.1, ?_⟩) ?_⟩
   ·obtain ⟨_, rfl⟩ := h
    exact List.eq_nil_of_length_eq_zero h2.shape.1.symm
   ·rintro ⟨a, bs, c1, c3, hd⟩
    refine ⟨a, bs, c1, ?_, hd.turn rfl h2.shape.1.symm (h2.shape.2.2 sz) (fun c9 => h2.back hφ0 hM1 h3 c9)⟩
    ·rintro (hk | ⟨o', g1, sz1, rs1, g1', a', bs', ho1, hp1, he⟩)
     ·exact c3 hk
     ·simp only [hr] at ho1
      split at ho1
      ·cases ho1
      ·rename_i hni
       obtain rfl := hgen ho1 hp1
       subst c1
       exact hH'.inj _ _ _ _ _ _ _ _ _ _ _ _ _ _ ho1 h1 (fun e => hni (e ▸ ren_mem (by omega))) (.inl rfl) hp1 hA1 he
  ·obtain ⟨hj, r1, h1, _⟩ := hgiv _ _ _ _ _ ho
   obtain ⟨hj', r1', h1', _⟩ := hgiv _ _ _ _ _ ho'
   rw [hφ0 o hj] at hp
   rw [hφ0 o' hj'] at hp'
   exact hH'.inj _ _ _ _ _ _ _ _ _ _ _ _ _ _ h1 h1' (fun e => hne (hσ _ _ e)) hmm hp hp'
 have hargs1 : RelL φ0 w (Or M1 (Mut φ0 (mkH HA))) args0 vs := hargs0.back hφ0 hM1 hb0 hv
 refine (hp.2 _ φ0 w vs hH1 hargs1).mono ?_
 rintro e w' ⟨v, φ1, r, h1, n', rfl, hK, hH2, hx, st⟩
 obtain ⟨φ2, hH3, hx3, hm3, hst⟩ := hK.sound hH2 (tmps := fun _ => v) (fun _ => hx)
 have hx3 := hx3 0
 simp only [mkE, upd_same] at hx3
 have hlater : ∀ j x, j < m → φ (ren rs n j) = some x → ∃ x', φ2 j = some x' ∧ x.1 ≤ x'.1 ∧ (x'.1 = x.1 → x' = x) := by
  intro j x hj hx
  obtain ⟨x', h1, h2, h3⟩ := st.le j x (by rw [hφ0 j hj]; exact hx)
  exact ⟨x', hst j x' (by omega) h1, h2, h3⟩
 let φ3 : Place := fun o => if o ∈ rs then φ2 (rs.idxOf o) else if o < n then φ o else φ2 (o - n + m)
 have hidx : ∀ j, j < m → rs.idxOf (ren rs n j) = j := by
  intro j hj
  have h1 := List.idxOf_lt_length_of_mem (ren_mem (rs := rs) (n := n) (j := j) (by omega))
  refine hσ _ _ ?_
  have h2 := List.getElem_idxOf h1
  unfold ren at h1 h2 ⊢
  rw [if_pos h1, List.getD_eq_getElem?_getD, List.getElem?_eq_getElem h1]
  exact h2
 have e3 : ∀ o, φ3 (ren rs n o) = φ2 o := by
  intro o
  by_cases ho : o < m
  ·simp only [φ3]
   rw [if_pos (ren_mem (by omega)), hidx o ho]
  ·have hge : ren rs n o = n + (o - m) := by unfold ren; rw [if_neg (by omega), hm]
   simp only [φ3]
   rw [hge, if_neg (fun hmem => by have := hlt _ hmem; omega), if_neg (by omega)]
   congr 1; omega
 have e3' : ∀ o, o < n → o ∉ rs → φ3 o = φ o := fun o ho hni => by simp only [φ3]; rw [if_neg hni, if_pos ho]
 have hltn : ∀ o x, φ o = some x → o < n := fun o x ho => Nat.lt_of_not_le fun hle => by rw [hH.fresh o hle] at ho; cases ho
 have hren : ∀ o, o ∈ rs → ∃ j, j < m ∧ o = ren rs n j := by
  intro o ho
  obtain ⟨j, hj, rfl⟩ := List.getElem_of_mem ho
  exact ⟨j, by omega, by unfold ren; rw [if_pos hj, List.getD_eq_getElem?_getD, List.getElem?_eq_getElem hj]; rfl⟩
 have hle3 : φ.le φ3 := by
  intro o x ho
  by_cases hmem : o ∈ rs
  ·obtain ⟨j, hj, rfl⟩ := hren o hmem
   rw [e3]; exact hlater j x hj ho
  ·exact ⟨x, by rw [e3' o (hltn _ _ ho) hmem]; exact ho, Nat.le_refl _, fun _ => rfl⟩
 have hheap : ∀ k, k < w.heap.size → ¬ Mut φ0 (mkH HA) k → w'.heap[k]? = w.heap[k]? := fun k hk hn => st.fr.block k hk hn
 have hsrc : ∀ o y, over HH (remH rs h') o = some y → (∃ o0 x, o = ren rs n o0 ∧ mkH H0 o0 = some x ∧ RnO (ren rs n) x y) ∨ (o < n ∧ o ∉ rs ∧ h' o = some y) := by
  intro o x ho
  rw [over_eq] at ho
  split at ho
  ·rename_i y hy
   cases ho
   exact .inl (hHH.at hσ hy)
  ·rw [remH_eq] at ho
   split at ho
   ·cases ho
   ·rename_i hni
    cases x with
    | rows mt g sz rws =>
     obtain ⟨A, hA, _⟩ := hH'.obj _ _ _ _ _ ho
     exact .inr ⟨hltn _ _ hA, hni, ho⟩
 have hmut : ∀ k, Mut φ3 (over HH (remH rs h')) k → Mut φ2 (mkH H0) k ∨ Mut φ hr k := by
  rintro k ⟨o, g, sz, rws, g', a, bs, ho, hp, rfl⟩
  rcases hsrc o _ ho with ⟨o0, x, rfl, h1, h2⟩ | ⟨h1, hni, h2⟩
  ·cases h2 with
   | rows h2 => rw [e3] at hp; exact .inl ⟨o0, g, sz, _, g', a, bs, h1, hp, rfl⟩
  ·rw [e3' o h1 hni] at hp
   exact .inr ⟨o, g, sz, rws, g', a, bs, by simp only [hr]; rw [if_neg hni]; exact h2, hp, rfl⟩
 have hmnew : ∀ k, Mut φ2 (mkH H0) k → Mut φ0 (mkH HA) k ∨ w.heap.size ≤ k := fun k hk => st.mutd k (hm3 k hk)
 have hsub : ∀ k, Or M0 (Mut φ3 (over HH (remH rs h'))) k → Or M1 (Mut φ2 (mkH H0)) k := fun k hk => hk.elim (fun h => .inl (.inl h)) fun h => (hmut k h).elim .inr fun h => .inl (.inr h)
 have hmutd : ∀ k, Mut φ3 (over HH (remH rs h')) k → Mut φ h' k ∨ w.heap.size ≤ k := fun k hk =>
  (hmut k hk).elim (fun h => (hmnew k h).imp (hgmut' k) id) fun h => .inl (hrmut k h)
 have hsub' : ∀ k, Or M0 (Mut φ3 (over HH (remH rs h'))) k → Or M0 (Mut φ h') k ∨ w.heap.size ≤ k := fun k hk => hk.elim (fun h => .inl (.inl h)) fun h => (hmutd k h).imp .inr id
 have hblk : ∀ o x g' a bs, h' o = some x → φ o = some (g', some (a, bs)) → a.block < w.heap.size := by
  intro o x g' a bs ho hp
  cases x with
  | rows mt g sz rws =>
   obtain ⟨A, hA, hc⟩ := hH'.obj _ _ _ _ _ ho
   rw [hp] at hA
   simp only [Option.some.injEq, Prod.mk.injEq] at hA
   obtain ⟨rfl, rfl⟩ := hA
   rcases hc with ⟨h, _⟩ | ⟨a', bs', h, _, h2⟩
   ·cases h
   ·simp only [Option.some.injEq, Prod.mk.injEq] at h
    obtain ⟨rfl, rfl⟩ := h
    exact h2.blk
 have hkeep : ∀ o mt g sz rws g' a bs, o ∉ rs → h' o = some (.rows mt g sz rws) → φ o = some (g', some (a, bs)) → ¬ Mut φ0 (mkH HA) a.block := by
  intro o mt g sz rws g' a bs hni ho hp hk
  obtain ⟨j, hj, g1, sz1, rws1, g1', a1, bs1, q1, q2, q3⟩ := hgmut _ hk
  obtain rfl := hgen ho hp
  obtain rfl := hgen q1 q2
  exact hH'.inj _ _ _ _ _ _ _ _ _ _ _ _ _ _ q1 ho (fun e => hni (e ▸ ren_mem (by omega))) (.inl rfl) q2 hp q3
 have hfar : ∀ o0 mt g sz rws g' a bs o' y g1 a' b', mkH H0 o0 = some (.rows mt g sz rws) → φ2 o0 = some (g', some (a, bs)) → o' ∉ rs → h' o' = some y → φ o' = some (g1, some (a', b')) →
   (mt = true ∨ ∃ g sz rs, y = .rows true g sz rs) → a.block ≠ a'.block := by
  intro o0 mt g sz rws g' a bs o' y g1 a' b' q1 q2 hni q3 q4 hmm
  have hb1 := hblk _ _ _ _ _ q3 q4
  rcases hmm with rfl | ⟨g2, sz2, rs2, rfl⟩
  ·rcases hmnew a.block ⟨o0, g, sz, rws, _, a, bs, q1, q2, rfl⟩ with hk | hk
   ·intro he
    cases y with
    | rows mt1 g1' sz1 rws1 => exact hkeep _ _ _ _ _ _ _ _ hni q3 q4 (he ▸ hk)
   ·omega
  ·intro he
   obtain ⟨A, hA, hc⟩ := hH3.obj _ _ _ _ _ q1
   rw [q2] at hA
   simp only [Option.some.injEq, Prod.mk.injEq] at hA
   obtain ⟨_, rfl⟩ := hA
   rcases hc with ⟨h, _⟩ | ⟨a1, bs1, h, hn0, _⟩
   ·cases h
   ·simp only [Option.some.injEq, Prod.mk.injEq] at h
    obtain ⟨rfl, rfl⟩ := h
    exact hn0 (.inr ⟨o', g2, sz2, rs2, _, a', b', by simp only [hr]; rw [if_neg hni]; exact q3, q4, he.symm⟩)
 refine ⟨v, φ3, R, over HH (remH rs h'), n + (k2 - m), rfl, hk, ⟨fun k hk => Nat.lt_of_lt_of_le (hH.m0 k hk) st.fr.size, fun o ho => ?_, fun o mt g sz rws ho => ?_, fun o o' mt g sz rws mt' g' sz' rws' a a' b b' ho ho' hne hmm hp hp' => ?_,
   hH'.glob.keep (fun k hn hk => hheap k hk (fun hg => hn (.inr (hgmut' k hg)))) hsub'⟩,
  hR.rel e3 hsub hx3, st0.trans ⟨hle3, hsub', ⟨st.fr.os, st.fr.tape, st.fr.output, st.fr.drawn, st.fr.size, fun k hk hn => hheap k hk (fun hg => hn (hgmut' k hg))⟩, hmutd⟩⟩
 ·have h1 : ren rs n (o - n + m) = o := by unfold ren; rw [if_neg (by omega)]; omega
  rw [← h1, e3]; exact hH3.fresh _ (by omega)
 ·rcases hsrc o _ ho with ⟨o0, x, rfl, h1, h2⟩ | ⟨h1, hni, h2⟩
  ·cases h2 with
   | rows hs =>
    obtain ⟨A, hA, hc⟩ := hH3.obj _ _ _ _ _ h1
    refine ⟨A, by rw [e3]; exact hA, hc.imp (fun h => ⟨h.1, ?_⟩) ?_⟩
    ·obtain ⟨_, rfl⟩ := h
     exact List.eq_nil_of_length_eq_zero hs.shape.1
    ·rintro ⟨a, bs, c1, c3, hd⟩
     exact ⟨a, bs, c1, fun hk => c3 (.inl hk), hd.turn rfl hs.shape.1 (hs.shape.2.1 sz) (fun c9 => hs.rel e3 hsub c9)⟩
  ·obtain ⟨A, hA, hc⟩ := hH'.obj _ _ _ _ _ h2
   refine ⟨A, by rw [e3' o h1 hni]; exact hA, hc.imp id ?_⟩
   rintro ⟨a, bs, c1, c3, hd⟩
   exact ⟨a, bs, c1, c3, hd.keep (hheap _ hd.blk (hkeep _ _ _ _ _ _ _ _ hni h2 (by rw [hA, c1]))) (fun c9 => c9.keep hle3 (fun k hn hk => hheap k hk (fun hg => hn (.inr (hgmut' k hg)))) hsub')⟩
 ·rcases hsrc o _ ho with ⟨o0, x, rfl, q1, q2⟩ | ⟨q1, qn, q2⟩ <;> rcases hsrc o' _ ho' with ⟨o0', x', rfl, q1', q2'⟩ | ⟨q1', qn', q2'⟩
  ·cases q2; cases q2'
   rw [e3] at hp hp'
   exact hH3.inj _ _ _ _ _ _ _ _ _ _ _ _ _ _ q1 q1' (fun e => hne (by rw [e])) hmm hp hp'
  ·cases q2
   rw [e3] at hp; rw [e3' o' q1' qn'] at hp'
   exact hfar _ _ _ _ _ _ _ _ _ _ _ _ _ q1 hp qn' q2' hp' (hmm.imp id fun h => by subst h; exact ⟨_, _, _, rfl⟩)
  ·cases q2'
   rw [e3' o q1 qn] at hp; rw [e3] at hp'
   exact Ne.symm (hfar _ _ _ _ _ _ _ _ _ _ _ _ _ q1' hp' qn q2 hp (hmm.symm.imp id fun h => by subst h; exact ⟨_, _, _, rfl⟩))
  ·rw [e3' o q1 qn] at hp; rw [e3' o' q1' qn'] at hp'
   exact hH'.inj _ _ _ _ _ _ _ _ _ _ _ _ _ _ q2 q2' hne hmm hp hp'
theorem Bel.mono {n m : Nat} (hnm : n ≤ m) {x : AV} (h : Bel n x) : Bel m x := by
 induction h with
 | top => exact .top
 | v x => exact .v x
 | agg _ ih => exact .agg ih
 | tup _ ih => exact .tup ih
 | lst _ ih => exact .lst ih
 | fp _ ih => exact .fp ih
 | ref h => exact .ref (by omega)
 | sl h => exact .sl (by omega)
 | mp h => exact .mp (by omega)
 | fn _ _ ih1 ih2 => exact .fn ih1 ih2
 | gd _ ih => exact .gd ih
theorem dCall.own1 {P : Program} {n : Nat} {ops : List Oper} {Q : Post} {m i : Nat} {rest : List Oper} {e : Env} {h : Heap} {acc : List DRec} {dst : Option Tmp} {f : FuncId} {first caps args args0 : List AV} {R0 R : AV} {o : Nat} {mt : Bool} {g g' sz : Nat} {rws rws' : List (List AV)}
  (hp : OwnsA P f args0 [(0, .rows mt g sz rws)] 1 R0 [(0, .rows true g' sz rws')] 1) (ho : h o = some (.rows mt g sz rws)) (hcl : ∀ r ∈ rws, ∀ c ∈ r, Bel 0 c) (hcl' : ∀ r ∈ rws', ∀ c ∈ r, Bel 0 c)
  (hargs : ∀ n₁, RnL (ren [o] n₁) args0 (first ++ args ++ caps)) (hb0 : ∀ c ∈ args0, Bel 1 c) (hb : ∀ n₁, o < n₁ → ∀ c ∈ first ++ args ++ caps, Bel n₁ c)
  (hR : ∀ n₁, Rn (ren [o] n₁) R0 R) (hfl : Flat R ∨ ∃ g sz i len, R = .sl o g sz i len)
  (hk : adr P n ops Q m (i + 1) rest (put e dst R) (upd h o (some (.rows true g' sz rws'))) (acc ++ [([o], [o])])) : dCall P n ops Q m i rest dst (.fn (.func f) first caps) args e h acc := by
 refine ⟨R, [o], [(o, some (.rows true g' sz rws'))], .inr (.inr (.inl ⟨f, first, caps, rfl, ?_, ?_, ?_, fun h₁ n₁ hx hn => ?_⟩)), hk⟩
 ·intro o' ho'
  simp only [List.mem_singleton] at ho'
  subst ho'
  exact ⟨_, ho⟩
 ·intro p hp
  simp only [List.mem_singleton] at hp
  subst hp
  exact ⟨by simp, g', sz, rws', rfl, hcl'⟩
 ·exact hfl.imp id fun ⟨g, sz, i, len, h⟩ => ⟨o, g, sz, i, len, h, by simp⟩
 ·have hon := hn o (by simp)
  have r0 : ren [o] n₁ 0 = o := rfl
  refine ACallP.ownsA (args' := first ++ args ++ caps) (HH := [(o, .rows true g' sz rws')]) [o] h₁ hp (by simp) (by simpa using hon) rfl (Nat.le_refl _) (.refl _) ?_ ?_ (.refl _ _ _ _) (hb n₁ hon) (hargs n₁) hb0 (hR n₁)
   (.cons r0.symm (.rows (.same hcl')) .nil) ⟨rfl, ?_, rfl⟩
  ·intro j hj
   obtain rfl : j = 0 := by omega
   exact ⟨.rows mt g sz rws, .rows mt g sz rws, by simp [mkH, upd_same], by rw [r0, ← hx o (by simp)]; exact ho, .rows (.same hcl)⟩
  ·intro p hp
   simp only [List.mem_singleton] at hp
   subst hp
   refine ⟨by simp, fun r hr c hc => ?_⟩
   exact Bel.mono (Nat.zero_le _) (hcl r hr c hc)
  ·funext a
   simp only [over, remH, applyW, upd]
   split <;> rfl
theorem dCall.owns {P : Program} {n : Nat} {ops : List Oper} {Q : Post} {m i : Nat} {rest : List Oper} {e : Env} {h : Heap} {acc : List DRec} {dst : Option Tmp} {f : FuncId} {first caps args args' : List AV} {R : Nat → AV} {HH : Nat → List (Nat × AObj)} {k2 : Nat}
  (b : Nat) (hbb : b = n + ops.length + 16 * i) (hp : Owns P f args' R HH k2) (hk16 : k2 ≤ 16) (hnR : NoFz (R 0)) (hnH : ∀ p ∈ HH 0, NoFzO p.2) (hle : ∀ h₁ : Heap, LeRow h₁ noH 0 (first ++ args ++ caps) args') (hb : ∀ c ∈ args', Bel 0 c)
  (hnd : ((HH b).map (·.1)).Nodup) (hk : adr P n ops Q m (i + 1) rest (put e dst (R b)) (over (HH b) h) (acc ++ [([newMark], (HH b).map (·.1))])) : dCall P n ops Q m i rest dst (.fn (.func f) first caps) args e h acc := by
 subst hbb
 refine ⟨R _, [newMark], (HH (n + ops.length + 16 * i)).map (fun p => (p.1, some p.2)), .inr (.inr (.inr ⟨f, first, caps, args', R 0, HH 0, HH (n + ops.length + 16 * i), k2, rfl, by simp, hk16, hb, hp.1, hnR, hnH, (hp.2 _).1, (hp.2 _).2, hnd, rfl, fun h₁ _ => hle h₁⟩)), ?_⟩
 rw [applyW_over hnd, List.map_map]
 exact hk
end Go.Av
end
section
/- Contracts, runs: Step, add of the reference. -/
open Go Go.Proofs
namespace Go.Av
theorem addS_nil (l : List StD) : addS l [] = l := rfl
theorem addS_snoc (l more : List StD) (s : StD) : addS l (more ++ [s]) = if s ∈ addS l more then addS l more else addS l more ++ [s] := by
 unfold addS; rw [List.foldl_append]; rfl
theorem addS_take (l more : List StD) {i : Nat} (h : i < more.length) : addS l (more.take (i + 1)) = if nth more i ∈ addS l (more.take i) then addS l (more.take i) else addS l (more.take i) ++ [nth more i] := by
 rw [List.take_add_one, List.getElem?_eq_getElem h, nth_eq _ _ h, Option.toList_some, addS_snoc]
theorem addS_len : ∀ (more l : List StD), l.length ≤ (addS l more).length ∧ (addS l more).length ≤ l.length + more.length
 | [], l => by simp [addS]
 | s :: more, l => by
  have e : addS l (s :: more) = addS (if s ∈ l then l else l ++ [s]) more := rfl
  rw [e]
  by_cases h : s ∈ l
  ·have := addS_len more l
   rw [if_pos h]; simp; omega
  ·have := addS_len more (l ++ [s])
   rw [if_neg h]; simp at this ⊢; omega
theorem addS_all {P : StD → Prop} : ∀ {more l : List StD}, (∀ s ∈ l, P s) → (∀ s ∈ more, P s) → ∀ s ∈ addS l more, P s
 | [], l, h, _ => h
 | s :: more, l, h, h' => by
  have e : addS l (s :: more) = addS (if s ∈ l then l else l ++ [s]) more := rfl
  rw [e]
  refine addS_all (fun t ht => ?_) (fun t ht => h' t (List.mem_cons_of_mem _ ht))
  split at ht
  ·exact h t ht
  ·rcases List.mem_append.1 ht with ht | ht
   ·exact h t ht
   ·simp at ht; subst ht; exact h' _ (by simp)
theorem R5add_owns (l more : List StD) (hl : l.length + more.length ≤ 17179869184) (h1 : ∀ s ∈ l, FitsP s.p) (h2 : ∀ s ∈ more, FitsP s.p) :
  OwnsA Tryz.prog 264 [.sl 0 l.length 8 0 l.length, encSs more] [(0, .rows true l.length 8 (l.map encState))] 1 (.sl 0 (addS l more).length 8 0 (addS l more).length) [(0, .rows true (addS l more).length 8 ((addS l more).map encState))] 1 := by
 unfold OwnsA
 refine ACallP.of_awp (by kernel_rfl) Tryz.func264 rfl rfl (Nat.le_of_ble_eq_true rfl) (by kernel_rfl) ?_
 (repeat (first|with_reducible refine wV fun _=>?_|simp [go_sem]))
 refine ALoop.start (ALoop.ind (α := Nat × List StD) (fun a => ⟨[(0, .sl 0 a.2.length 8 0 a.2.length), (1, encSs more), (5, .v (.int .i64 a.1))], [(0, .rows true a.2.length 8 (a.2.map encState))], 1⟩)
  (fun d a => a.1 + d = more.length ∧ a.2 = addS l (more.take a.1)) ?_ more.length (0, l) ?_) ?_ ?_
 ·rintro d ⟨i, out⟩ ⟨i1, i2⟩ hrec
  simp only at i1 i2
  have hol := addS_len (more.take i) l
  rw [← i2] at hol
  have hof : ∀ s ∈ out, FitsP s.p := by rw [i2]; exact addS_all h1 (fun s hs => h2 s (List.mem_of_mem_take hs))
  (repeat (first|with_reducible refine wV fun _=>?_|simp [go_sem]))
  refine aIf.mkL (fun hi => ?_) (fun hi => ?_) <;> simp at hi
  ·have htl : (more.take i).length = i := by simp; omega
   have hfi := h2 _ (nth_mem hi)
   have hsu := addS_take l more hi
   rw [← i2] at hsu
   (repeat (first|with_reducible refine wV fun _=>?_|simp [go_sem]))
   refine ALoop.start (ALoop.ind (α := Nat) (fun k => ⟨[(0, .sl 0 out.length 8 0 out.length), (1, encSs more), (5, .v (.int .i64 i)), (6, .v (.bool (decide (nth more i ∈ out.take k)))), (7, .v (.int .i64 k))], [(0, .rows true out.length 8 (out.map encState))], 1⟩)
    (fun d k => k + d = out.length) ?_ out.length 0 ?_) ?_ ?_
   ·rintro d2 k k1 hrec2
    (repeat (first|with_reducible refine wV fun _=>?_|simp [go_sem]))
    refine aIf.mkL (fun hk => ?_) (fun hk => ?_) <;> simp at hk
    ·have hfk := hof _ (nth_mem hk)
     have htk : out.take (k + 1) = out.take k ++ [nth out k] := by rw [List.take_add_one, List.getElem?_eq_getElem hk, nth_eq _ _ hk]; rfl
     (repeat (first|with_reducible refine wV fun _=>?_|simp [go_sem, hi, hk]))
     refine dGC.plain _ (fun _ => R5same_pure _ _ hfk hfi) (by simp [go_sem]) ?_
     (repeat (first|with_reducible refine wV fun _=>?_|simp [go_sem, hi, hk]))
     refine ALoop.start (hrec2 (d2 - 1) (by omega) (k + 1) (by omega)) ?_ (by simp)
     simp [go_sem, Wk_eq, htk, eq_comm (a := nth more i) (b := nth out k)]
    ·have hkl : k = out.length := by omega
     subst hkl
     (repeat (first|with_reducible refine wV fun _=>?_|simp [go_sem]))
     by_cases hm : nth more i ∈ out
     ·rw [if_pos hm] at hsu
      (repeat (first|with_reducible refine wV fun _=>?_|simp [go_sem, hm]))
      refine ALoop.start (hrec (d - 1) (by omega) (i + 1, out) ⟨by simp only; omega, hsu.symm⟩) ?_ (by simp)
      simp [go_sem, Wk_eq]
     ·rw [if_neg hm] at hsu
      (repeat (first|with_reducible refine wV fun _=>?_|simp [go_sem, hm, hi]))
      refine ALoop.start (hrec (d - 1) (by omega) (i + 1, out ++ [nth more i]) ⟨by simp only; omega, hsu.symm⟩) ?_ (by simp)
      simp [go_sem, Wk_eq]
   ·omega
   ·simp [go_sem, Wk_eq]
   ·simp
  ·have hil : i = more.length := by omega
   subst hil
   rw [List.take_length] at i2
   rw [← i2]
   (repeat (first|with_reducible refine wV fun _=>?_|simp [go_sem]))
   simp [go_sem, Wk_eq]
 ·simp [addS_nil]
 ·simp [go_sem, Wk_eq]
 ·simp
theorem R5Step_pure (g : GameD) (hg : GOk g) (s : StD) (hs : StOk g s) (x : Int × Int) (hx : StepOk g.next.length g.kinds.length g.rights x) :
  Pure Tryz.prog 230 [.agg (encGame g), .agg (encState s), .agg (encStep x)] (encSs (stepS g s x)) := by
 refine pF Tryz.func230 ?_
 have hal := hs.p.al
 have hc0 := hs.c0
 have hc1 := hs.c1
 have hcur : s.cursor.toNat < s.p.at_.length := by omega
 have hat := hs.p.at (i := s.cursor.toNat) (by omega)
 have hO := R3Of_pure (nth s.p.at_ s.cursor.toNat)
 have hTo := fun n => R1To_pure g.board hg.board s.p.side n s.cursor
 have hOn := fun u b => R5only_pure u b
 have hSl := fun n => R5slide_pure g hg s hs n
 have hTk := R5take_pure g hg s hs
 have hPu := fun n => R5push_pure g hg s hs n
 have r0 := hg.r0
 have r4 := hg.r4
 obtain ⟨op, n⟩ := x
 obtain ⟨xo, xd, xz, xk, xr⟩ := hx
 simp only at xo xd xz xk xr
 unfold stepS
 generalize hm : manOf (nth s.p.at_ s.cursor.toNat) = m at *
 obtain ⟨mk, ms⟩ := m
 (repeat (first|with_reducible refine wV fun _=>?_|simp [go_sem, hcur]))
 refine ACallP.plain hO (by simp [go_sem]) ?_
 rcases (show op = 1 ∨ op = 2 ∨ op = 3 ∨ op = 4 ∨ op = 5 ∨ op = 6 ∨ op = 7 ∨ op = 8 ∨ op = 9 ∨ op = 10 by omega) with rfl | rfl | rfl | rfl | rfl | rfl | rfl | rfl | rfl | rfl
 ·(repeat (first|with_reducible refine wV fun _=>?_|simp [go_sem]))
  refine ACallP.plain (hTo n) (by simp [go_sem]) ?_
  (repeat (first|with_reducible refine wV fun _=>?_|simp [go_sem]))
  refine ACallP.plain (hOn { s with cursor := toB g.board s.p.side n s.cursor } _) (by simp [go_sem]) ?_
  (repeat (first|with_reducible refine wV fun _=>?_|simp [go_sem]))
 ·(repeat (first|with_reducible refine wV fun _=>?_|simp [go_sem]))
  refine ACallP.plain (hSl n) (by simp [go_sem]) ?_
  (repeat (first|with_reducible refine wV fun _=>?_|simp [go_sem]))
 ·(repeat (first|with_reducible refine wV fun _=>?_|simp [go_sem]))
  refine ACallP.plain (hOn s _) (by simp [go_sem]) ?_
  (repeat (first|with_reducible refine wV fun _=>?_|simp [go_sem]))
 ·(repeat (first|with_reducible refine wV fun _=>?_|simp [go_sem]))
  refine ACallP.plain (hOn s _) (by simp [go_sem]) ?_
  (repeat (first|with_reducible refine wV fun _=>?_|simp [go_sem]))
 ·(repeat (first|with_reducible refine wV fun _=>?_|simp [go_sem]))
  refine ACallP.plain (hOn s _) (by simp [go_sem]) ?_
  (repeat (first|with_reducible refine wV fun _=>?_|simp [go_sem]))
 ·(repeat (first|with_reducible refine wV fun _=>?_|simp [go_sem]))
  refine ACallP.plain hTk (by simp [go_sem]) ?_
  (repeat (first|with_reducible refine wV fun _=>?_|simp [go_sem]))
 ·(repeat (first|with_reducible refine wV fun _=>?_|simp [go_sem]))
  refine ACallP.plain (hPu n) (by simp [go_sem]) ?_
  (repeat (first|with_reducible refine wV fun _=>?_|simp [go_sem]))
 ·(repeat (first|with_reducible refine wV fun _=>?_|simp [go_sem]))
  exact frX
 ·have hn := xr (by omega)
  (repeat (first|with_reducible refine wV fun _=>?_|simp [go_sem]))
  refine dCall.plain (hOn s _) (by simp [go_sem]) ?_
  (repeat (first|with_reducible refine wV fun _=>?_|simp [go_sem]))
 ·have hn := xr (by omega)
  have hpn := pow_le16 hn.1 (show n ≤ 4 by omega)
  (repeat (first|with_reducible refine wV fun _=>?_|simp [go_sem]))
  exact frX
end Go.Av
end
section
/- Our library: ranges over functions, and iterators: equations and steps. -/
namespace Go.Av
open Go
section
variable {P : Program} {n0 : Nat} {Q : Post} {e : Env} {h : Heap} {n : Nat} {ops rest : List Oper}
def aRange (P : Program) (n0 : Nat) (ps : List Tmp) (a b : Code) (Q : Post) (v : AV) (e : Env) (h : Heap) (n : Nat) : Prop :=
 ∃ f caps caps' more rows h', v = .fn (.func f) [] caps ∧ Frz h h' ∧ LeRow h h' n caps caps' ∧ (∀ c ∈ caps', Bel 0 c) ∧ PSeq P f caps' more rows ∧
  (∀ xs ∈ rows, xs.length = ps.length) ∧ Fgt n0 (ARange n0 more ps (fun n1 => awp P n1 a) (fun n1 => awp P n1 b) Q rows) e h' n
theorem awp_rangeFunc (g : Operand) (ps : List Tmp) (a b : Code) : awp P n0 (.rangeFunc g ps.toArray a b) Q e h n = aRange P n0 ps a b Q (ev e g) e h n := rfl
@[congr] theorem aRange_congr {ps : List Tmp} {a b : Code} {v v' : AV} (hv : v = v') : aRange P n0 ps a b Q v e h n = aRange P n0 ps a b Q v' e h n := by subst hv; rfl
theorem aRange.mk {ps : List Tmp} {a b : Code} {f : FuncId} {caps : List AV} (caps' : List AV) (h' : Heap) {more : Nat} {rows : List (List AV)} (C : PSeq P f caps' more rows) (hfz : Frz h h') (hle : LeRow h h' n caps caps') (hb : ∀ c ∈ caps', Bel 0 c)
  (hlen : ∀ xs ∈ rows, xs.length = ps.length) (hk : Fgt n0 (ARange n0 more ps (fun n1 => awp P n1 a) (fun n1 => awp P n1 b) Q rows) e h' n) : aRange P n0 ps a b Q (.fn (.func f) [] caps) e h n :=
 ⟨f, caps, caps', more, rows, h', rfl, hfz, hle, hb, C, hlen, hk⟩
theorem ARange.go {ps : List Tmp} {a b : Code} {more : Nat} {xs : List AV} {rs : List (List AV)} (hn : n0 ≤ n)
  (hk : awp P n a (QNone (awp P n b (QRound (Fgt n0 (ARange n0 more ps (fun n1 => awp P n1 a) (fun n1 => awp P n1 b) Q rs)) Q e))) (putPs ps xs e) h n) :
  ARange n0 more ps (fun n1 => awp P n1 a) (fun n1 => awp P n1 b) Q (xs :: rs) e h n := ⟨hn, hk⟩
theorem Fgt.to {K : Env → Heap → Nat → Prop} {E : List (Nat × AV)} {HH : List (Nat × AObj)} {n' : Nat} (hk : K (mkE E) (mkH HH) n') (hw : Wk e h n E HH n') (hn : n0 ≤ n') : Fgt n0 K e h n := .inr ⟨E, HH, n', hw, hn, hk⟩
theorem ARange.ind {α : Type} (S : α → List (Nat × AV) × List (Nat × AObj) × Nat) (inv : List (List AV) → α → Prop) {ps : List Tmp} {A B : Nat → Post → Env → Heap → Nat → Prop} {more : Nat}
  (h0 : ∀ d, inv [] d → more = 0 ∧ Q .normal (mkE (S d).1) (mkH (S d).2.1) (S d).2.2)
  (h1 : ∀ xs rs d, inv (xs :: rs) d → (∀ d', inv rs d' → ARange n0 more ps A B Q rs (mkE (S d').1) (mkH (S d').2.1) (S d').2.2) → ARange n0 more ps A B Q (xs :: rs) (mkE (S d).1) (mkH (S d).2.1) (S d).2.2) :
  ∀ rows d, inv rows d → ARange n0 more ps A B Q rows (mkE (S d).1) (mkH (S d).2.1) (S d).2.2
 | [], d, hi => h0 d hi
 | xs :: rs, d, hi => h1 xs rs d hi fun d' hi' => ARange.ind S inv h0 h1 rs d' hi'
theorem QNone_normal {K : Env → Heap → Nat → Prop} : QNone K .normal e h n = K e h n := rfl
theorem QRound_normal {K : Env → Heap → Nat → Prop} {e0 : Env} : QRound K Q e0 .normal e h n = K (upd e0 GH (e GH)) h n := rfl
theorem QRound_ret {K : Env → Heap → Nat → Prop} {e0 : Env} : QRound K Q e0 .ret e h n = Q .ret (upd e0 GH (e GH)) h n := rfl
theorem QRound_exit {K : Env → Heap → Nat → Prop} {e0 : Env} {id : Nat} : QRound K Q e0 (.exit id) e h n = Q (.exit id) (upd e0 GH (e GH)) h n := rfl
theorem putPs_nil {xs : List AV} : putPs [] xs e = e := by simp [putPs]
theorem putPs_cons {t : Tmp} {ps : List Tmp} {x : AV} {xs : List AV} : putPs (t :: ps) (x :: xs) e = putPs ps xs (upd e t x) := rfl
theorem RetI_normal {rs : List ResultVar} {l more : Nat} : RetI P rs l more .normal e h n = ((resL P e h rs).1 ∧ ((more = 0 ∧ e GH = ghost l 0 []) ∨ e GH = ghost l 2 [])) := rfl
theorem RetI_ret {rs : List ResultVar} {l more : Nat} : RetI P rs l more .ret e h n = ((resL P e h rs).1 ∧ ((more = 0 ∧ e GH = ghost l 0 []) ∨ e GH = ghost l 2 [])) := rfl
theorem aYld.mk {dst : Option Tmp} {l more : Nat} {args xs : List AV} {rs : List (List AV)} (h' : Heap) (hg : e GH = ghost l more (xs :: rs)) (hfz : Frz h h') (hle : LeRow h h' n args xs) (hb : ∀ c ∈ xs, Bel 0 c)
  (hT : aops P ops Q rest (put (upd e GH (ghost l more rs)) dst (.v (.bool true))) h' n) (hF : aops P ops Q rest (put (upd e GH (ghost l 2 [])) dst (.v (.bool false))) h' n) : aYld P ops Q rest dst l args e h n :=
 ⟨l, more, xs :: rs, rfl, hg, h', hfz, hle, hb, hT, hF⟩
theorem aYld.exh {dst : Option Tmp} {l : Nat} {args : List AV} (hg : e GH = ghost l 1 []) : aYld P ops Q rest dst l args e h n := ⟨l, 1, [], rfl, hg, rfl⟩
theorem aGC.yld {dst : Option Tmp} {l more : Nat} {args xs : List AV} {rs : List (List AV)} (h' : Heap) (hg : e GH = ghost l more (xs :: rs)) (hfz : Frz h h') (hle : LeRow h h' n args xs) (hb : ∀ c ∈ xs, Bel 0 c)
  (hT : aops P ops Q rest (put (upd e GH (ghost l more rs)) dst (.gd true (.v (.bool true)))) h' n) (hF : aops P ops Q rest (put (upd e GH (ghost l 2 [])) dst (.gd true (.v (.bool false)))) h' n) :
  aGC P ops Q rest dst true (.fn (.yield l) [] []) args e h n := .inr (.inr ⟨rfl, l, more, xs :: rs, rfl, hg, h', hfz, hle, hb, hT, hF⟩)
theorem aGC.exh {dst : Option Tmp} {l : Nat} {args : List AV} (hg : e GH = ghost l 1 []) : aGC P ops Q rest dst true (.fn (.yield l) [] []) args e h n := .inr (.inr ⟨rfl, l, 1, [], rfl, hg, rfl⟩)
attribute [go_sem] awp_rangeFunc QNone_normal QRound_normal QRound_ret QRound_exit putPs_nil putPs_cons RetI_normal RetI_ret aCall_yield
end
end Go.Av
end
section
/- Contracts: board.steps, board.Line. -/
open Go Go.Proofs
namespace Go.Av
def stepRows (b : BoardD) (side d : Int) : Nat → Int → List Int
 | 0, _ => []
 | k + 1, x => if 0 ≤ x then x :: stepRows b side d k (toB b side d x) else []
def stepMore (b : BoardD) (side d : Int) : Nat → Int → Nat
 | 0, x => if 0 ≤ x then 1 else 0
 | k + 1, x => if 0 ≤ x then stepMore b side d k (toB b side d x) else 0
theorem stepMore_ne {b : BoardD} {side d : Int} : ∀ {k : Nat} {x : Int}, stepMore b side d k x ≠ 2
 | 0, x => by unfold stepMore; split <;> omega
 | k + 1, x => by unfold stepMore; split; exact stepMore_ne; omega
theorem stepsF_seq (b : BoardD) (hb : BoardOk b) (side d c : Int) (k : Nat) : PSeq Tryz.prog 299 [.fp (encB b), .fp [.v (.int .i64 side)], .fp [.v (.int .i64 d)], .fp [.v (.int .i64 c)]]
  (stepMore b side d k (toB b side d c)) ((stepRows b side d k (toB b side d c)).map encI) := by
 refine PSeq.of_awp (by kernel_rfl) Tryz.func299 rfl rfl (Nat.le_of_ble_eq_true rfl) (by kernel_rfl) (fun l => ?_) (hm2 := stepMore_ne)
 have hbl : ∀ n, (∀ c' ∈ encB b, Bel n c') = True := fun n => by simp [go_sem]
 have hel : (encB b).length = 3 := rfl
 have hT : ∀ x, Pure Tryz.prog 215 [.agg (encB b), .v (.int .i64 side), .v (.int .i64 d), .v (.int .i64 x)] (.v (.int .i64 (toB b side d x))) := fun x => bTo_pure b hb side d x
 have hg : ∀ (n k : Nat) (x : Int), Bel n (ghost l (stepMore b side d k x) ((stepRows b side d k x).map encI)) := fun n k x => by
  simp only [ghost, Bel_gd, Bel_tup, List.forall_mem_cons, Bel_v, Bel_lst]
  simp [go_sem]
 obtain ⟨eb, heb⟩ : ∃ eb, eb = encB b := ⟨_, rfl⟩
 rw [← heb] at hbl hel hT ⊢
 have hte : eb.take 3 = eb := List.take_of_length_le (by omega)
 (repeat (first|with_reducible refine wV fun _=>?_|simp [go_sem, hel, GH, hte]))
 refine ACallP.plain (hT c) (by simp [go_sem, hbl]) ?_
 (repeat (first|with_reducible refine wV fun _=>?_|simp [go_sem, hel, GH, hte]))
 refine ALoop.start (ALoop.ind (α := Nat × Int) (fun a => ⟨[(0, .fn (.yield l) [] []), (1, .fp eb), (2, .fp [.v (.int .i64 side)]), (3, .fp [.v (.int .i64 d)]), (6, .v (.int .i64 a.2)), (1000000007, ghost l (stepMore b side d a.1 a.2) ((stepRows b side d a.1 a.2).map encI))], [], 0⟩)
  (fun f a => f = a.1 ∧ stepMore b side d a.1 a.2 = stepMore b side d k (toB b side d c)) ?_ k (k, toB b side d c) ?_) ?_ ?_
 ·rintro f ⟨k', x⟩ ⟨i1, i2⟩ hrec
  simp only at i1 i2
  subst i1
  (repeat (first|with_reducible refine wV fun _=>?_|simp [go_sem, hel, GH, hte]))
  by_cases hx : 0 ≤ x
  ·simp only [hx, decide_true]
   cases f with
   | zero => exact aGC.exh (by simp [upd, GH, stepMore, stepRows, hx])
   | succ f =>
    refine aGC.yld (more := stepMore b side d f (toB b side d x)) (xs := [.v (.int .i64 x)]) (rs := (stepRows b side d f (toB b side d x)).map encI) noH (by simp [upd, GH, stepMore, stepRows, hx, encI]) (.refl _) (.refl _ _ _ _) (by simp [go_sem]) ?_ ?_
    ·(repeat (first|with_reducible refine wV fun _=>?_|simp [go_sem, hel, GH, hte]))
     refine ACallP.plain (hT x) (by simp [go_sem, hbl]) ?_
     (repeat (first|with_reducible refine wV fun _=>?_|simp [go_sem, hel, GH, hte]))
     rw [stepMore, if_pos hx] at i2
     refine ALoop.start (hrec f (by omega) (f, toB b side d x) ⟨rfl, i2⟩) ?_ (by simp)
     simp [go_sem, Wk_eq, hbl, hg, GH]
    ·(repeat (first|with_reducible refine wV fun _=>?_|simp [go_sem, hel, GH, hte]))
  ·have hm : stepMore b side d f x = 0 := by cases f <;> simp [stepMore, hx]
   have hr : stepRows b side d f x = [] := by cases f <;> simp [stepRows, hx]
   simp only [hx, decide_false]
   refine aGC.skip (.v (.bool false)) ?_
   (repeat (first|with_reducible refine wV fun _=>?_|simp [go_sem, hel, GH, hte]))
   rw [← i2, hm, hr]
   exact .inl ⟨rfl, rfl⟩
 ·exact ⟨rfl, rfl⟩
 ·simp [go_sem, Wk_eq, hbl, hg, GH]
 ·simp
def stepsR (n : Nat) : AV := .fn (.func 299) [] [.ref n 0 3 0 0, .ref (n + 1) 0 1 0 0, .ref (n + 2) 0 1 0 0, .ref (n + 3) 0 1 0 0]
def stepsH (b : BoardD) (side d c : Int) (n : Nat) : List (Nat × AObj) := [(n, .rows true 0 3 [encB b]), (n + 1, .rows true 0 1 [[.v (.int .i64 side)]]), (n + 2, .rows true 0 1 [[.v (.int .i64 d)]]), (n + 3, .rows true 0 1 [[.v (.int .i64 c)]])]
theorem steps_owns (b : BoardD) (side d c : Int) : Owns Tryz.prog 268 [.agg (encB b), .v (.int .i64 side), .v (.int .i64 d), .v (.int .i64 c)] stepsR (stepsH b side d c) 4 := by
 refine ⟨?_, fun n => ⟨by simp [go_sem, stepsR], by simp [go_sem, stepsH]⟩⟩
 refine ACallP.of_awp (by kernel_rfl) Tryz.func268 rfl rfl (Nat.le_of_ble_eq_true rfl) (by kernel_rfl) ?_
 (repeat (first|with_reducible refine wV fun _=>?_|simp [go_sem, stepsR, stepsH]))
 simp [go_sem, Wk_eq]
theorem bLine_pure (b : BoardD) (hb : BoardOk b) (side d c : Int) : Pure Tryz.prog 216 [.agg (encB b), .v (.int .i64 side), .v (.int .i64 d), .v (.int .i64 c)] (encIs (lineB b side d c)) := by
 refine pF Tryz.func216 ?_
 have hbl : ∀ n, (∀ c' ∈ encB b, Bel n c') = True := fun n => by simp [go_sem]
 have hel : (encB b).length = 3 := rfl
 have hS : Owns Tryz.prog 268 [.agg (encB b), .v (.int .i64 side), .v (.int .i64 d), .v (.int .i64 c)] (fun n => stepsR n) (fun n => stepsH b side d c n) 4 := steps_owns b side d c
 have hQ := fun k => stepsF_seq b hb side d c k
 simp only [stepsR, stepsH] at hS
 have hte : (encB b).take 3 = encB b := rfl
 obtain ⟨eb, heb⟩ : ∃ eb, eb = encB b := ⟨_, rfl⟩
 rw [← heb] at hbl hel hS hQ hte ⊢
 have hc1 := hb.c1
 have hc0 := hb.c0
 (repeat (first|with_reducible refine wV fun _=>?_|simp [go_sem, hel, hte, GH]))
 refine ACallP.ownsPlain hS (by simp [go_sem, hbl]) ?_
 (repeat (first|with_reducible refine wV fun _=>?_|simp [go_sem, hel, hte, GH]))
 refine aRange.mk [.fp eb, .fp [.v (.int .i64 side)], .fp [.v (.int .i64 d)], .fp [.v (.int .i64 c)]] (frzO _ [3, 4, 5, 6]) (hQ (b.cells.toNat + 1)) (frz_frzO _ _) ?_ (by simp [go_sem, hbl]) (by simp [encI]) ?_
 ·refine LeRow.cons (.frzP rfl ?_ ?_ ?_ ?_) (LeRow.cons (.frzP rfl ?_ ?_ ?_ ?_) (LeRow.cons (.frzP rfl ?_ ?_ ?_ ?_) (LeRow.cons (.frzP rfl ?_ ?_ ?_ ?_) .nil))) <;> first | exact LeRow.refl _ _ _ _ | simp [frzO, frz1, upd]
 refine Fgt.to (ARange.ind (α := Nat × Int × List Int) (fun a => ([(7, .ref 1 0 1 0 0), (9, .ref 2 0 1 0 0)], [(1, .rows true 0 1 [[.v (.int .i64 c)]]), (2, .rows true 0 1 [[.sl 7 a.2.2.length 1 0 a.2.2.length]]), (7, .rows true a.2.2.length 1 (a.2.2.map encI))], 8))
  (fun rows a => rows = (stepRows b side d a.1 a.2.1).map encI ∧ stepMore b side d a.1 a.2.1 = stepMore b side d (b.cells.toNat + 1) (toB b side d c) ∧ a.1 + a.2.2.length = b.cells.toNat + 1 ∧ a.2.1 < b.cells ∧ a.2.2.Nodup ∧
   (∀ y ∈ a.2.2, 0 ≤ y ∧ y < b.cells) ∧ lineB b side d c = lineGo b side d c a.1 a.2.1 a.2.2) ?_ ?_ _ (b.cells.toNat + 1, toB b side d c, []) ?_) ?_ ?_
 ·rintro ⟨f, x, seen⟩ ⟨i0, i1, i2, i3, i4, i5, i6⟩
  simp only at i0 i1 i2 i3 i4 i5 i6
  have hsl : seen.length ≤ b.cells.toNat := nodup_le _ _ i4 (fun y hy => by have := i5 y hy; omega)
  obtain ⟨f, rfl⟩ : ∃ f', f = f' + 1 := ⟨f - 1, by omega⟩
  have hx : ¬ 0 ≤ x := fun hx => by simp [stepRows, hx] at i0
  rw [stepMore, if_neg hx] at i1
  rw [lineGo, if_neg (fun h => hx h.1)] at i6
  refine ⟨i1.symm, ?_⟩
  rw [i6]
  (repeat (first|with_reducible refine wV fun _=>?_|simp [go_sem, hel]))
  exact frX
 ·rintro xs rs ⟨f, x, seen⟩ ⟨i0, i1, i2, i3, i4, i5, i6⟩ hrec
  simp only at i0 i1 i2 i3 i4 i5 i6
  have hsl : seen.length ≤ b.cells.toNat := nodup_le _ _ i4 (fun y hy => by have := i5 y hy; omega)
  cases f with
  | zero => simp [stepRows] at i0
  | succ f =>
  have hx : 0 ≤ x := by
   by_cases hx : 0 ≤ x
   ·exact hx
   ·simp [stepRows, hx] at i0
  rw [stepRows, if_pos hx] at i0
  simp only [List.map_cons, List.cons.injEq] at i0
  obtain ⟨rfl, rfl⟩ := i0
  rw [stepMore, if_pos hx] at i1
  rw [lineGo] at i6
  refine ARange.go (Nat.zero_le _) ?_
  (repeat (first|with_reducible refine wV fun _=>?_|simp [go_sem, hel, GH, encI]))
  refine aGC.flat [encIs seen, .v (.int .i64 x)] (.v (.bool (decide (x ∈ seen)))) (fun _ => Contains_pure seen x (by omega)) (.v _) ?_ (by simp [go_sem]) ?_
  ·refine LeRow.cons ?_ (LeRow.cons (.refl _) LeRow.nil)
   refine LeV.frz rfl ?_ ?_ (LeRows.of_eq ?_) <;> simp [noH, List.take_of_length_le]
  (repeat (first|with_reducible refine wV fun _=>?_|simp [go_sem, hel, GH]))
  refine aIf.mkL (fun hc => ?_) (fun hc => ?_) <;> simp at hc
  ·rw [if_neg (by rintro ⟨h1, h2, h3⟩; rcases hc with h | h <;> contradiction)] at i6
   rw [i6]
   (repeat (first|with_reducible refine wV fun _=>?_|simp [go_sem, hel, GH]))
   exact frX
  ·rw [if_pos ⟨hx, by simpa using hc⟩] at i6
   (repeat (first|with_reducible refine wV fun _=>?_|simp [go_sem, hel, GH]))
   refine Fgt.to (hrec (f, toB b side d x, seen ++ [x]) ⟨rfl, i1, by simp only [List.length_append, List.length_singleton]; omega, toB_lt hb _ _ _, ?_, ?_, i6⟩) ?_ (by simp)
   ·refine List.nodup_append.2 ⟨i4, by simp, ?_⟩
    intro y hy z hz
    simp at hz
    subst hz
    rintro rfl
    exact hc.2 hy
   ·intro y hy
    rcases List.mem_append.1 hy with h | h
    ·exact i5 y h
    ·simp at h; omega
   ·simp [go_sem, Wk_eq, GH] <;> (first|done|exact blX)
 ·exact ⟨rfl, rfl, by simp, toB_lt hb _ _ _, by simp, by simp, rfl⟩
 ·simp [go_sem, Wk_eq]
 ·simp
end Go.Av
end
section
/- Contracts: game.Man, game.Code, pos.Compare. -/
open Go Go.Proofs
namespace Go.Av
theorem gMan_pure (c : Int) : Pure Tryz.prog 120 [.v (.int .i64 c)] (.tup [.v (.int .i64 (manOf c).1), .v (.int .i64 (manOf c).2)]) := by
 refine pF Tryz.func120 ?_
 unfold manOf
 by_cases h1 : c < 1
 ·rw [if_neg (by omega)]
  (repeat (first|with_reducible refine wV fun _=>?_|simp [go_sem, h1]))
 ·by_cases h2 : 12 < c
  ·rw [if_neg (by omega)]
   (repeat (first|with_reducible refine wV fun _=>?_|simp [go_sem, h1, h2]))
  ·rw [if_pos (by omega)]
   have e1 : (c - 1).tdiv 2 = (c - 1) / 2 := Int.tdiv_eq_ediv_of_nonneg (by omega)
   have e2 : (c - 1).tmod 2 = (c - 1) % 2 := Int.tmod_eq_emod_of_nonneg (by omega)
   have b1 : 0 ≤ (c - 1).tdiv 2 ∧ (c - 1).tdiv 2 ≤ 12 := by omega
   have b2 : 0 ≤ (c - 1).tmod 2 ∧ (c - 1).tmod 2 ≤ 12 := by omega
   clear e1 e2
   (repeat (first|with_reducible refine wV fun _=>?_|simp [go_sem, h1, h2]))
theorem gCode_pure (k s : Int) : Pure Tryz.prog 122 [.v (.int .i64 k), .v (.int .i64 s)] (.v (.int .i64 (codeOf k s))) := by
 refine pF Tryz.func122 ?_
 unfold codeOf
 by_cases h1 : k < 0
 ·rw [if_neg (by omega)]
  (repeat (first|with_reducible refine wV fun _=>?_|simp [go_sem, h1]))
 by_cases h2 : 6 ≤ k
 ·rw [if_neg (by omega)]
  (repeat (first|with_reducible refine wV fun _=>?_|simp [go_sem, h1, h2]))
 by_cases h3 : s < 0
 ·rw [if_neg (by omega)]
  (repeat (first|with_reducible refine wV fun _=>?_|simp [go_sem, h1, h2, h3]))
 by_cases h4 : 1 < s
 ·rw [if_neg (by omega)]
  (repeat (first|with_reducible refine wV fun _=>?_|simp [go_sem, h1, h2, h3, h4]))
 ·rw [if_pos (by omega), show 2 * k + 1 + s = 1 + 2 * k + s by omega]
  (repeat (first|with_reducible refine wV fun _=>?_|simp [go_sem, h1, h2, h3, h4]))
theorem isNaN_pure (x : Int) : Pure Tryz.prog 206 [.v (.int .i64 x)] (.v (.bool false)) := by
 refine pF Tryz.func206 ?_
 (repeat (first|with_reducible refine wV fun _=>?_|simp [go_sem]))
theorem cCompare_pure (a b : Int) : Pure Tryz.prog 157 [.v (.int .i64 a), .v (.int .i64 b)] (.v (.int .i64 (number a b))) := by
 refine pF Tryz.func157 ?_
 (repeat (first|with_reducible refine wV fun _=>?_|simp [go_sem]))
 refine ACallP.plain (isNaN_pure a) (by simp [go_sem]) ?_
 (repeat (first|with_reducible refine wV fun _=>?_|simp [go_sem]))
 refine ACallP.plain (isNaN_pure b) (by simp [go_sem]) ?_
 unfold number
 by_cases h1 : a < b
 ·rw [if_pos h1]
  (repeat (first|with_reducible refine wV fun _=>?_|simp [go_sem, h1]))
 ·by_cases h2 : b < a
  ·rw [if_neg h1, if_pos h2]
   (repeat (first|with_reducible refine wV fun _=>?_|simp [go_sem, h1, h2]))
  ·rw [if_neg h1, if_neg h2]
   (repeat (first|with_reducible refine wV fun _=>?_|simp [go_sem, h1, h2]))
def orI : List Int → Int
 | [] => 0
 | x :: l => if x = 0 then orI l else x
theorem cOr_pure (l : List Int) (hl : Fits l) : Pure Tryz.prog 155 [encIs l] (.v (.int .i64 (orI l))) := by
 refine pF Tryz.func155 ?_
 unfold Fits at hl
 (repeat (first|with_reducible refine wV fun _=>?_|simp [go_sem]))
 refine ALoop.start (ALoop.ind (α := Nat) (fun j => ⟨[(3, .v (.int .i64 0)), (6, encIs l), (7, .v (.int .i64 l.length)), (8, .v (.int .i64 j))], [], 0⟩)
  (fun d j => j + d = l.length ∧ orI l = orI (l.drop j)) ?_ l.length 0 ?_) ?_ ?_
 ·rintro d j ⟨i1, i2⟩ hrec
  (repeat (first|with_reducible refine wV fun _=>?_|simp [go_sem]))
  refine aIf.mkL (fun hj => ?_) (fun hj => ?_) <;> simp at hj
  ·rw [drop_cons hj, orI] at i2
   (repeat (first|with_reducible refine wV fun _=>?_|simp [go_sem, hj]))
   by_cases h0 : nth l j = 0
   ·rw [if_pos h0] at i2
    (repeat (first|with_reducible refine wV fun _=>?_|simp [go_sem, h0]))
    refine ALoop.start (hrec (d - 1) (by omega) (j + 1) ⟨by omega, i2⟩) ?_ (by simp)
    simp [go_sem, Wk_eq]
   ·rw [if_neg h0] at i2
    rw [i2]
    (repeat (first|with_reducible refine wV fun _=>?_|simp [go_sem, h0]))
  ·rw [List.drop_eq_nil_of_le hj, orI] at i2
   rw [i2]
   (repeat (first|with_reducible refine wV fun _=>?_|simp [go_sem]))
 ·simp
 ·simp [go_sem, Wk_eq]
 ·simp
theorem sCompare_pure (a b : List Int) (ha : Fits a) (hb : Fits b) : Pure Tryz.prog 156 [encIs a, encIs b] (.v (.int .i64 (cmpL a b))) := by
 refine pF Tryz.func156 ?_
 unfold Fits at ha hb
 (repeat (first|with_reducible refine wV fun _=>?_|simp [go_sem]))
 refine ALoop.start (ALoop.ind (α := Nat) (fun j => ⟨[(0, encIs a), (1, encIs b), (9, encIs a), (10, .v (.int .i64 a.length)), (11, .v (.int .i64 j))], [], 0⟩)
  (fun d j => j + d = a.length ∧ j ≤ b.length ∧ cmpL a b = cmpL (a.drop j) (b.drop j)) ?_ a.length 0 ?_) ?_ ?_
 ·rintro d j ⟨i1, i2, i3⟩ hrec
  (repeat (first|with_reducible refine wV fun _=>?_|simp [go_sem]))
  refine aIf.mkL (fun hj => ?_) (fun hj => ?_) <;> simp at hj
  ·rw [drop_cons hj] at i3
   (repeat (first|with_reducible refine wV fun _=>?_|simp [go_sem, hj]))
   by_cases hk : j < b.length
   ·rw [drop_cons hk, cmpL] at i3
    have hk' : ¬ b.length ≤ j := by omega
    (repeat (first|with_reducible refine wV fun _=>?_|simp [go_sem, hj, hk, hk']))
    refine ACallP.plain (cCompare_pure _ _) (by simp [go_sem]) ?_
    by_cases he : nth a j = nth b j
    ·rw [if_pos he] at i3
     have hn : number (nth a j) (nth b j) = 0 := by simp [number, he]
     rw [hn]
     (repeat (first|with_reducible refine wV fun _=>?_|simp [go_sem]))
     refine ALoop.start (hrec (d - 1) (by omega) (j + 1) ⟨by omega, by omega, i3⟩) ?_ (by simp)
     simp [go_sem, Wk_eq]
    ·rw [if_neg he] at i3
     have hn : number (nth a j) (nth b j) ≠ 0 := by unfold number; split <;> (try split) <;> omega
     rw [i3]
     (repeat (first|with_reducible refine wV fun _=>?_|simp [go_sem, hn]))
   ·have hk' : b.length ≤ j := by omega
    rw [List.drop_eq_nil_of_le hk', cmpL_nil_right] at i3
    have : cmpL a b = 1 := by rw [i3]; unfold number; rw [if_neg (by simp only [List.length_cons]; omega), if_pos (by simp only [List.length_cons]; omega)]
    rw [this]
    (repeat (first|with_reducible refine wV fun _=>?_|simp [go_sem, hj, hk, hk']))
  ·have hja : j = a.length := by omega
   subst hja
   rw [List.drop_eq_nil_of_le (Nat.le_refl _), cmpL_nil_left] at i3
   rw [i3]
   unfold number
   by_cases hb' : a.length < b.length
   ·rw [if_pos (by simp; omega)]
    (repeat (first|with_reducible refine wV fun _=>?_|simp [go_sem, hb']))
   ·rw [if_neg (by simp; omega), if_neg (by omega)]
    (repeat (first|with_reducible refine wV fun _=>?_|simp [go_sem, hb']))
 ·simp
 ·simp [go_sem, Wk_eq]
 ·simp
theorem cmpP_or (p q : PosD) : orI [cmpL p.at_ q.at_, cmpL p.h0 q.h0, cmpL p.h1 q.h1, number p.rights q.rights, number p.side q.side] = cmpP p q := by
 unfold cmpP
 simp only [orI]
 repeat' split
 all_goals first | rfl | omega
theorem pCompare_pure (p q : PosD) (hp : FitsP p) (hq : FitsP q) : Pure Tryz.prog 83 [.agg (encPos p), .agg (encPos q)] (.v (.int .i64 (cmpP p q))) := by
 refine pF Tryz.func83 ?_
 obtain ⟨p1, p2, p3⟩ := hp
 obtain ⟨q1, q2, q3⟩ := hq
 rw [← cmpP_or]
 have c1 := sCompare_pure _ _ p1 q1
 have c2 := sCompare_pure _ _ p2 q2
 have c3 := sCompare_pure _ _ p3 q3
 have c4 := cCompare_pure p.rights q.rights
 have c5 := cCompare_pure p.side q.side
 generalize cmpL p.at_ q.at_ = x1 at *
 generalize cmpL p.h0 q.h0 = x2 at *
 generalize cmpL p.h1 q.h1 = x3 at *
 generalize number p.rights q.rights = x4 at *
 generalize number p.side q.side = x5 at *
 (repeat (first|with_reducible refine wV fun _=>?_|simp [go_sem]))
 refine dCall.plain c1 (by simp [go_sem]) ?_
 (repeat (first|with_reducible refine wV fun _=>?_|simp [go_sem]))
 refine dCall.plain c2 (by simp [go_sem]) ?_
 (repeat (first|with_reducible refine wV fun _=>?_|simp [go_sem]))
 refine dCall.plain c3 (by simp [go_sem]) ?_
 (repeat (first|with_reducible refine wV fun _=>?_|simp [go_sem]))
 refine dCall.plain c4 (by simp [go_sem]) ?_
 (repeat (first|with_reducible refine wV fun _=>?_|simp [go_sem]))
 refine dCall.plain c5 (by simp [go_sem]) ?_
 (repeat (first|with_reducible refine wV fun _=>?_|simp [go_sem]))
 refine dCall.frz [encIs [x1, x2, x3, x4, x5]] _ [31] [(31, some (.rows false 0 1 ([x1, x2, x3, x4, x5].map encI)))] (cOr_pure _ (by unfold Fits; simp)) ?_ ?_ (by simp [go_sem]) ?_
 ·intro p hp
  simp only [List.mem_singleton] at hp
  subst hp
  exact ⟨by simp, 0, 1, _, rfl, by simp [upd, go_sem]⟩
 ·intro h₁ hS
  have h7 := hS 31 (by simp)
  simp [go_sem] at h7
  exact .cons (leV_frz h7.symm (by simp) (by simp [applyW, upd]) (by simp [go_sem])) .nil
 ·(repeat (first|with_reducible refine wV fun _=>?_|simp [go_sem]))
end Go.Av
end
section
/- Contracts, runs of the program: own, man, provided, and the steps. -/
open Go Go.Proofs
namespace Go.Av
def ownState (n : Nat) (s : StD) : AV := .agg [.sl (n + 2) 1 1 0 s.p.at_.length, .sl (n + 81) 1 1 0 s.p.h0.length, .sl (n + 161) 1 1 0 s.p.h1.length, .v (.int .i64 s.p.rights), .v (.int .i64 s.p.side), .v (.int .i64 s.kind), .v (.int .i64 s.cursor), .v (.bool s.took)]
def ownStateH (n : Nat) (s : StD) : List (Nat × AObj) := [(n + 2, .rows true 1 1 (s.p.at_.map encI)), (n + 81, .rows true 1 1 (s.p.h0.map encI)), (n + 161, .rows true 1 1 (s.p.h1.map encI))]
attribute [go_sem] ownState ownStateH
theorem own_owns (s : StD) (ha : FitsP s.p) : Owns Tryz.prog 144 [.agg (encState s)] (fun n => ownState n s) (fun n => ownStateH n s) 241 := by
 refine ⟨ACallP.of_awp (by kernel_rfl) Tryz.func144 rfl rfl (Nat.le_of_ble_eq_true rfl) (by kernel_rfl) ?_, fun n => ⟨by simp [go_sem], by simp [go_sem]⟩⟩
 obtain ⟨a1, a2, a3⟩ := ha
 have h1 := Clone_owns s.p.at_ a1
 have h2 := Clone_owns s.p.h0 a2
 have h3 := Clone_owns s.p.h1 a3
 (repeat (first|with_reducible refine wV fun _=>?_|simp [go_sem]))
 refine ACallP.ownsPlain h1 (by simp [go_sem]) ?_
 (repeat (first|with_reducible refine wV fun _=>?_|simp [go_sem]))
 refine dCall.owns 81 (by rfl) (h2) (by decide) (by simp [go_sem]) (by simp [go_sem]) (fun _ => LeRow.refl _ _ _ _) (by simp [go_sem]) (by simp [go_sem]) ?_
 (repeat (first|with_reducible refine wV fun _=>?_|simp [go_sem]))
 refine dCall.owns 161 (by rfl) (h3) (by decide) (by simp [go_sem]) (by simp [go_sem]) (fun _ => LeRow.refl _ _ _ _) (by simp [go_sem]) (by simp [go_sem]) ?_
 ((repeat (first|with_reducible (first|refine wL fun _=>?_|refine wD fun _=>?_|refine wZ ?_)|simp [go_sem])); refine dEnd.mkN (by kernel_rfl) ?_)
 (repeat (first|with_reducible refine wV fun _=>?_|simp [go_sem]))
 simp [go_sem, Wk_eq]
theorem man_pure (s : StD) (hc : s.cursor.toNat < s.p.at_.length) (h0 : 0 ≤ s.cursor) : Pure Tryz.prog 292 [.agg (encState s)] (.tup [.v (.int .i64 (manOf (nth s.p.at_ s.cursor.toNat)).1), .v (.int .i64 (manOf (nth s.p.at_ s.cursor.toNat)).2)]) := by
 refine pF Tryz.func292 ?_
 have hO := gMan_pure (nth s.p.at_ s.cursor.toNat)
 generalize manOf (nth s.p.at_ s.cursor.toNat) = m at *
 (repeat (first|with_reducible refine wV fun _=>?_|simp [go_sem, hc]))
 refine ACallP.plain hO (by simp [go_sem]) ?_
 (repeat (first|with_reducible refine wV fun _=>?_|simp [go_sem]))
theorem provided_pure (s : StD) (b : Bool) : Pure Tryz.prog 291 [.agg (encState s), .v (.bool b)] (encSs (onlyS s b)) := by
 refine pF Tryz.func291 ?_
 cases b
 ·(repeat (first|with_reducible refine wV fun _=>?_|simp [go_sem, onlyS]))
 ·(repeat (first|with_reducible refine wV fun _=>?_|simp [go_sem, onlyS]))
  exact frX
abbrev StepF (f : FuncId) (g : GameD) (s : StD) (n : Int) (r : List StD) : Prop := Pure Tryz.prog f [.agg (encState s), .agg (encGame g), .v (.int .i64 n)] (encSs r)
section
variable (g : GameD) (hg : GOk g) (s : StD) (hs : StOk g s) (n : Int)
theorem walk_pure (hg : GOk g) : StepF 242 g s n (onlyS { s with cursor := toB g.board s.p.side n s.cursor } (decide (0 ≤ toB g.board s.p.side n s.cursor))) := by
 refine pF Tryz.func242 ?_
 have hT := bTo_pure g.board hg.board s.p.side n s.cursor
 have hP := provided_pure { s with cursor := toB g.board s.p.side n s.cursor }
 (repeat (first|with_reducible refine wV fun _=>?_|simp [go_sem]))
 refine ACallP.plain hT (by simp [go_sem]) ?_
 (repeat (first|with_reducible refine wV fun _=>?_|simp [go_sem]))
 refine ACallP.plain (hP _) (by simp [go_sem]) ?_
 (repeat (first|with_reducible refine wV fun _=>?_|simp [go_sem]))
theorem slide_pure (hg : GOk g) (hs : StOk g s) : StepF 243 g s n (slideS g.board s n) := by
 refine pF Tryz.func243 ?_
 have hL := bLine_pure g.board hg.board s.p.side n s.cursor
 have hlm := lineB_mem hg.board (side := s.p.side) (d := n) (c := s.cursor)
 have hll := lineB_len (b := g.board) (side := s.p.side) (d := n) (c := s.cursor)
 have c9 := hg.c9
 have c1 := hg.c1
 have hal := hs.p.al
 rw [show g.board.cells = g.cells from rfl] at hlm hll
 unfold slideS
 generalize lineB g.board s.p.side n s.cursor = line at *
 generalize hR : slideGo s line = R
 (repeat (first|with_reducible refine wV fun _=>?_|simp [go_sem]))
 refine ACallP.plain hL (by simp [go_sem]) ?_
 (repeat (first|with_reducible refine wV fun _=>?_|simp [go_sem]))
 refine ALoop.start (ALoop.ind (α := Nat × List StD) (fun a => ⟨[(3, .ref 0 0 8 0 0), (7, .sl 2 a.2.length 8 0 a.2.length), (19, encIs line), (20, .v (.int .i64 line.length)), (21, .v (.int .i64 a.1))], [(0, .rows true 0 8 [encState s]), (2, .rows true a.2.length 8 (a.2.map encState))], 3⟩)
  (fun d a => a.1 + d = line.length ∧ a.2.length = a.1 ∧ R = a.2 ++ slideGo s (line.drop a.1)) ?_ line.length (0, []) ?_) ?_ ?_
 ·rintro d ⟨i, out⟩ ⟨i1, i2, i3⟩ hrec
  simp only at i1 i2 i3
  (repeat (first|with_reducible refine wV fun _=>?_|simp [go_sem]))
  refine aIf.mkL (fun hi => ?_) (fun hi => ?_) <;> simp at hi
  ·have hli := hlm _ (nth_mem hi)
   have hlt : (nth line i).toNat < s.p.at_.length := by omega
   rw [dropG_cons hi, slideGo] at i3
   (repeat (first|with_reducible refine wV fun _=>?_|simp [go_sem, hi, hlt]))
   refine aIf.mkL (fun hz => ?_) (fun hz => ?_) <;> simp at hz
   ·rw [if_neg (by simpa using hz)] at i3
    (repeat (first|with_reducible refine wV fun _=>?_|simp [go_sem]))
    rw [i3]
    exact frX
   ·rw [if_pos (by simpa using hz)] at i3
    (repeat (first|with_reducible refine wV fun _=>?_|simp [go_sem]))
    refine ALoop.start (hrec (d - 1) (by omega) (i + 1, out ++ [{ s with cursor := nth line i }]) ⟨by simp only; omega, by simp; omega, by simpa using i3⟩) ?_ (by simp)
    simp [go_sem, Wk_eq]
  ·rw [List.drop_eq_nil_of_le hi, slideGo] at i3
   (repeat (first|with_reducible refine wV fun _=>?_|simp [go_sem]))
   rw [i3]
   exact frX
 ·simp [hR]
 ·simp [go_sem, Wk_eq]
 ·simp
theorem man_at (hg : GOk g) (hs : StOk g s) : s.cursor.toNat < s.p.at_.length ∧ 0 ≤ s.cursor ∧ (nth s.p.at_ s.cursor.toNat = 0 ∧ manOf (nth s.p.at_ s.cursor.toNat) = (-1, -1) ∨ nth s.p.at_ s.cursor.toNat ≠ 0 ∧ 0 ≤ (manOf (nth s.p.at_ s.cursor.toNat)).1 ∧ (manOf (nth s.p.at_ s.cursor.toNat)).1 < g.kinds.length ∧
  ((manOf (nth s.p.at_ s.cursor.toNat)).2 = 0 ∨ (manOf (nth s.p.at_ s.cursor.toNat)).2 = 1)) ∧ (s.p.side = 0 ∨ s.p.side = 1) := by
 have hal := hs.p.al
 have hc0 := hs.c0
 have hc1 := hs.c1
 have hcur : s.cursor.toNat < s.p.at_.length := by omega
 have hat := hs.p.at (i := s.cursor.toNat) (by omega)
 have hman := manOf_cases hat.1 hat.2 hg.k6
 refine ⟨hcur, hc0, ?_, hs.p.s⟩
 rcases hman with ⟨h1, h2⟩ | ⟨h1, h2, h3, h4, _⟩
 ·exact .inl ⟨h1, h2⟩
 ·exact .inr ⟨h1, h2, h3, h4⟩
theorem empty_pure (hg : GOk g) (hs : StOk g s) : StepF 244 g s n (onlyS s (decide ((manOf (nth s.p.at_ s.cursor.toNat)).1 < 0))) := by
 refine pF Tryz.func244 ?_
 obtain ⟨hcur, h0, hm, hsd⟩ := man_at g s hg hs
 have e : decide ((manOf (nth s.p.at_ s.cursor.toNat)).1 < 0) = decide (nth s.p.at_ s.cursor.toNat = 0) := by
  rcases hm with ⟨h1, h2⟩ | ⟨h1, h2, _, _⟩
  ·rw [h2]; simp [h1]
  ·simp; omega
 rw [e]
 have hP := provided_pure s
 (repeat (first|with_reducible refine wV fun _=>?_|simp [go_sem, hcur]))
 refine dCall.plain (hP _) (by simp [go_sem]) ?_
 (repeat (first|with_reducible refine wV fun _=>?_|simp [go_sem]))
theorem enemy_pure (hg : GOk g) (hs : StOk g s) : StepF 245 g s n (onlyS s (decide (0 ≤ (manOf (nth s.p.at_ s.cursor.toNat)).1 ∧ (manOf (nth s.p.at_ s.cursor.toNat)).2 ≠ s.p.side))) := by
 refine pF Tryz.func245 ?_
 obtain ⟨hcur, h0, hm, hsd⟩ := man_at g s hg hs
 have hO := man_pure s hcur h0
 have hP := provided_pure s
 have e : decide (0 ≤ (manOf (nth s.p.at_ s.cursor.toNat)).1 ∧ (manOf (nth s.p.at_ s.cursor.toNat)).2 ≠ s.p.side) = decide ((manOf (nth s.p.at_ s.cursor.toNat)).2 = 1 - s.p.side) := by
  rcases hm with ⟨h1, h2⟩ | ⟨h1, h2, _, _⟩
  ·rw [h2]; simp; omega
  ·simp only [decide_eq_decide]; omega
 rw [e]
 generalize manOf (nth s.p.at_ s.cursor.toNat) = m at *
 (repeat (first|with_reducible refine wV fun _=>?_|simp [go_sem]))
 refine ACallP.plain hO (by simp [go_sem]) ?_
 (repeat (first|with_reducible refine wV fun _=>?_|simp [go_sem]))
 refine ACallP.plain (hP _) (by simp [go_sem]) ?_
 (repeat (first|with_reducible refine wV fun _=>?_|simp [go_sem]))
theorem friend_pure (hg : GOk g) (hs : StOk g s) : StepF 246 g s n (onlyS s (decide (0 ≤ (manOf (nth s.p.at_ s.cursor.toNat)).1 ∧ (manOf (nth s.p.at_ s.cursor.toNat)).2 = s.p.side))) := by
 refine pF Tryz.func246 ?_
 obtain ⟨hcur, h0, hm, hsd⟩ := man_at g s hg hs
 have hO := man_pure s hcur h0
 have hP := provided_pure s
 have e : decide (0 ≤ (manOf (nth s.p.at_ s.cursor.toNat)).1 ∧ (manOf (nth s.p.at_ s.cursor.toNat)).2 = s.p.side) = decide ((manOf (nth s.p.at_ s.cursor.toNat)).2 = s.p.side) := by
  rcases hm with ⟨h1, h2⟩ | ⟨h1, h2, _, _⟩
  ·rw [h2]; simp; omega
  ·simp only [decide_eq_decide]; omega
 rw [e]
 generalize manOf (nth s.p.at_ s.cursor.toNat) = m at *
 (repeat (first|with_reducible refine wV fun _=>?_|simp [go_sem]))
 refine ACallP.plain hO (by simp [go_sem]) ?_
 (repeat (first|with_reducible refine wV fun _=>?_|simp [go_sem]))
 refine ACallP.plain (hP _) (by simp [go_sem]) ?_
 (repeat (first|with_reducible refine wV fun _=>?_|simp [go_sem]))
theorem take_pure (hg : GOk g) (hs : StOk g s) : StepF 247 g s n (takeS g s) := by
 refine pF Tryz.func247 ?_
 obtain ⟨hcur, h0, hm, hsd⟩ := man_at g s hg hs
 have hO := man_pure s hcur h0
 have hP := provided_pure
 have hcp := own_owns s (hs.p.fits hg)
 unfold takeS
 generalize hme : manOf (nth s.p.at_ s.cursor.toNat) = m at *
 obtain ⟨mk, ms⟩ := m
 simp only [Prod.mk.injEq] at hm
 (repeat (first|with_reducible refine wV fun _=>?_|simp [go_sem]))
 refine ACallP.plain hO (by simp [go_sem]) ?_
 (repeat (first|with_reducible refine wV fun _=>?_|simp [go_sem]))
 refine aIf.mkL (fun hc => ?_) (fun hc => ?_) <;> simp at hc
 ·rw [if_pos (by omega)]
  (repeat (first|with_reducible refine wV fun _=>?_|simp [go_sem]))
 ·rw [if_neg (by omega)]
  (repeat (first|with_reducible refine wV fun _=>?_|simp [go_sem]))
  refine ACallP.ownsPlain hcp (by simp [go_sem]) ?_
  have hmk : mk.toNat < g.kinds.length := by omega
  have hmk' : 0 ≤ mk := by omega
  (repeat (first|with_reducible refine wV fun _=>?_|simp [go_sem, hcur, hmk]))
  refine aIf.mkL (fun hk => ?_) (fun hk => ?_)
  ·rw [if_neg (by simpa using hk)]
   (repeat (first|with_reducible refine wV fun _=>?_|simp [go_sem, clr]))
   (first|done|exact dpX)
  ·rw [if_pos (by simpa using hk)]
   have hl0 := hs.p.h0.len
   have hl1 := hs.p.h1.len
   rcases hsd with hsd | hsd
   ·have hmk0 : mk.toNat < s.p.h0.length := by omega
    have hv := hs.p.h0.v _ hmk0
    obtain ⟨u, hu⟩ : ∃ u : StD, u = { s with p := (clr s.p s.cursor).withHand s.p.side ((s.p.hand s.p.side).set mk.toNat (nth (s.p.hand s.p.side) mk.toNat + 1)), took := true } := ⟨_, rfl⟩
    have hres : (if 8 < nth (s.p.hand s.p.side) mk.toNat + 1 then [] else [u]) = onlyS u (decide (nth s.p.h0 mk.toNat + 1 ≤ 8)) := by
     have : s.p.hand s.p.side = s.p.h0 := by simp [PosD.hand, hsd]
     rw [this]
     unfold onlyS
     by_cases h8 : 8 < nth s.p.h0 mk.toNat + 1
     ·rw [if_pos h8, if_neg (by simp; omega)]
     ·rw [if_neg h8, if_pos (by simp; omega)]
    rw [← hu, hres]
    have hue : encState u = [.lst 1 ((s.p.at_.map encI).set s.cursor.toNat [.v (.int .i64 0)]), .lst 1 ((s.p.h0.map encI).set mk.toNat [.v (.int .i64 (nth s.p.h0 mk.toNat + 1))]), .lst 1 (s.p.h1.map encI), .v (.int .i64 s.p.rights), .v (.int .i64 s.p.side), .v (.int .i64 s.kind), .v (.int .i64 s.cursor), .v (.bool true)] := by
     rw [hu]; simp [encState, PosD.withHand, PosD.hand, clr, hsd, encIs, encI, List.map_set]
    have hP' := hP u
    rw [hue, hsd] at hP'
    (repeat (first|with_reducible (first|refine wL fun _=>?_|refine wD fun _=>?_|refine wE ?_)|simp [go_sem, hsd, hmk0, hcur]))
    refine adrZ.frz (frzO _ [4, 83, 163]) (frz_frzO _ _) ?_
    (repeat (first|with_reducible refine wV fun _=>?_|simp [go_sem, hsd, hmk0, hcur, frzO, frz1]))
    refine dCall.frz _ _ [4, 83, 163] [] (hP' (decide (nth s.p.h0 mk.toNat + 1 ≤ 8))) (by simp) ?_ (by simp [go_sem]) ?_
    ·intro h₁ hS
     have e4 := hS 4 (by simp)
     have e5 := hS 83 (by simp)
     have e6 := hS 163 (by simp)
     simp [upd, frzO, frz1] at e4 e5 e6
     refine .cons (.agg (.cons (leV_frz e4.symm (by simp) (by simp [applyW, ← e4]) (by simp; exact List.take_of_length_le (by simp))) (.cons (leV_frz e5.symm (by simp) (by simp [applyW, ← e5]) (by simp; exact List.take_of_length_le (by simp))) (.cons (leV_frz e6.symm (by simp) (by simp [applyW, ← e6]) (by simp; exact List.take_of_length_le (by simp))) (.refl _ _ _ _))))) (.refl _ _ _ _)
    ·(repeat (first|with_reducible refine wV fun _=>?_|simp [go_sem]))
   ·have hmk0 : mk.toNat < s.p.h1.length := by omega
    have hv := hs.p.h1.v _ hmk0
    obtain ⟨u, hu⟩ : ∃ u : StD, u = { s with p := (clr s.p s.cursor).withHand s.p.side ((s.p.hand s.p.side).set mk.toNat (nth (s.p.hand s.p.side) mk.toNat + 1)), took := true } := ⟨_, rfl⟩
    have hres : (if 8 < nth (s.p.hand s.p.side) mk.toNat + 1 then [] else [u]) = onlyS u (decide (nth s.p.h1 mk.toNat + 1 ≤ 8)) := by
     have : s.p.hand s.p.side = s.p.h1 := by simp [PosD.hand, hsd]
     rw [this]
     unfold onlyS
     by_cases h8 : 8 < nth s.p.h1 mk.toNat + 1
     ·rw [if_pos h8, if_neg (by simp; omega)]
     ·rw [if_neg h8, if_pos (by simp; omega)]
    rw [← hu, hres]
    have hue : encState u = [.lst 1 ((s.p.at_.map encI).set s.cursor.toNat [.v (.int .i64 0)]), .lst 1 (s.p.h0.map encI), .lst 1 ((s.p.h1.map encI).set mk.toNat [.v (.int .i64 (nth s.p.h1 mk.toNat + 1))]), .v (.int .i64 s.p.rights), .v (.int .i64 s.p.side), .v (.int .i64 s.kind), .v (.int .i64 s.cursor), .v (.bool true)] := by
     rw [hu]; simp [encState, PosD.withHand, PosD.hand, clr, hsd, encIs, encI, List.map_set]
    have hP' := hP u
    rw [hue, hsd] at hP'
    (repeat (first|with_reducible (first|refine wL fun _=>?_|refine wD fun _=>?_|refine wE ?_)|simp [go_sem, hsd, hmk0, hcur]))
    refine adrZ.frz (frzO _ [4, 83, 163]) (frz_frzO _ _) ?_
    (repeat (first|with_reducible refine wV fun _=>?_|simp [go_sem, hsd, hmk0, hcur, frzO, frz1]))
    refine dCall.frz _ _ [4, 83, 163] [] (hP' (decide (nth s.p.h1 mk.toNat + 1 ≤ 8))) (by simp) ?_ (by simp [go_sem]) ?_
    ·intro h₁ hS
     have e4 := hS 4 (by simp)
     have e5 := hS 83 (by simp)
     have e6 := hS 163 (by simp)
     simp [upd, frzO, frz1] at e4 e5 e6
     refine .cons (.agg (.cons (leV_frz e4.symm (by simp) (by simp [applyW, ← e4]) (by simp; exact List.take_of_length_le (by simp))) (.cons (leV_frz e5.symm (by simp) (by simp [applyW, ← e5]) (by simp; exact List.take_of_length_le (by simp))) (.cons (leV_frz e6.symm (by simp) (by simp [applyW, ← e6]) (by simp; exact List.take_of_length_le (by simp))) (.refl _ _ _ _))))) (.refl _ _ _ _)
    ·(repeat (first|with_reducible refine wV fun _=>?_|simp [go_sem]))
theorem push_pure (hg : GOk g) (hs : StOk g s) : StepF 248 g s n (pushS g s n) := by
 refine pF Tryz.func248 ?_
 have hT := bTo_pure g.board hg.board s.p.side n s.cursor
 have hal := hs.p.al
 have hc0 := hs.c0
 have hc1 := hs.c1
 have hcur : s.cursor.toNat < s.p.at_.length := by omega
 have hcp := own_owns s (hs.p.fits hg)
 have hto := toB_lt hg.board s.p.side n s.cursor
 rw [show g.board.cells = g.cells from rfl] at hto
 unfold pushS
 generalize toB g.board s.p.side n s.cursor = to at *
 (repeat (first|with_reducible refine wV fun _=>?_|simp [go_sem]))
 refine ACallP.plain hT (by simp [go_sem]) ?_
 by_cases ht : to < 0
 ·rw [if_pos (.inr (.inl ht))]
  have ht0 : to.toNat = 0 := by omega
  have h0l : 0 < s.p.at_.length := by omega
  (repeat (first|with_reducible refine wV fun _=>?_|simp [go_sem, hcur, ht, ht0, h0l]))
 ·have htl : to.toNat < s.p.at_.length := by omega
  have ht' : 0 ≤ to := by omega
  (repeat (first|with_reducible refine wV fun _=>?_|simp [go_sem, hcur, ht, htl]))
  refine aIf.mkL (fun hc => ?_) (fun hc => ?_) <;> simp at hc
  ·rw [if_pos (by by_cases h : nth s.p.at_ s.cursor.toNat = 0; exact .inl h; exact .inr (hc.resolve_left h))]
   (repeat (first|with_reducible refine wV fun _=>?_|simp [go_sem]))
  ·rw [if_neg (by rintro (h | h); exact hc.1 h; exact h hc.2)]
   (repeat (first|with_reducible refine wV fun _=>?_|simp [go_sem, hcur]))
   refine ACallP.ownsPlain hcp (by simp [go_sem]) ?_
   (repeat (first|with_reducible refine wV fun _=>?_|simp [go_sem, hcur, htl]))
   (first|done|exact dpX)
theorem become_pure : StepF 249 g s n [{ s with kind := n }] := by
 refine pF Tryz.func249 ?_
 (repeat (first|with_reducible refine wV fun _=>?_|simp [go_sem]))
 exact frX
theorem need_pure (h0 : 0 ≤ n) (h4 : n < 64) : StepF 250 g s n (onlyS s (decide (andN .i64 (s.p.rights.fdiv (2 ^ n.toNat)) 1 = 1))) := by
 refine pF Tryz.func250 ?_
 have hP := provided_pure s
 (repeat (first|with_reducible refine wV fun _=>?_|simp [go_sem]))
 refine dCall.plain (hP _) (by simp [go_sem]) ?_
 (repeat (first|with_reducible refine wV fun _=>?_|simp [go_sem]))
theorem lose_pure (h0 : 0 ≤ n) (h4 : n ≤ 4) : StepF 251 g s n [{ s with p := { s.p with rights := andNotN .i64 s.p.rights (2 ^ n.toNat) } }] := by
 refine pF Tryz.func251 ?_
 have hpn := pow_le16 h0 h4
 (repeat (first|with_reducible refine wV fun _=>?_|simp [go_sem]))
 exact frX
end
end Go.Av
end
section
/- Contracts, runs of the program: step. -/
open Go Go.Proofs
namespace Go.Av
theorem step_pure (g : GameD) (hg : GOk g) (s : StD) (hs : StOk g s) (x : Int × Int) (hx : StepOk g.next.length g.kinds.length g.rights x) :
  Pure Tryz.prog 199 [.agg (encGame g), .agg (encState s), .agg (encStep x)] (encSs (stepS g s x)) := by
 refine pF Tryz.func199 ?_
 have r4 := hg.r4
 obtain ⟨op, n⟩ := x
 obtain ⟨xo, xd, xz, xk, xr⟩ := hx
 simp only at xo xd xz xk xr
 rcases (show op = 1 ∨ op = 2 ∨ op = 3 ∨ op = 4 ∨ op = 5 ∨ op = 6 ∨ op = 7 ∨ op = 8 ∨ op = 9 ∨ op = 10 by omega) with rfl | rfl | rfl | rfl | rfl | rfl | rfl | rfl | rfl | rfl
 ·have hS := walk_pure g s n hg
  (repeat (first|with_reducible refine wV fun _=>?_|simp [go_sem]))
  refine dCall.plain hS (by simp [go_sem]) ?_
  (repeat (first|with_reducible refine wV fun _=>?_|simp [go_sem]))
  exact LeV.of_eq (by simp [stepS, encSs, encState, encIs])
 ·have hS := slide_pure g s n hg hs
  (repeat (first|with_reducible refine wV fun _=>?_|simp [go_sem]))
  refine dCall.plain hS (by simp [go_sem]) ?_
  (repeat (first|with_reducible refine wV fun _=>?_|simp [go_sem]))
  exact LeV.of_eq (by simp [stepS, encSs, encState, encIs])
 ·have hS := empty_pure g s n hg hs
  (repeat (first|with_reducible refine wV fun _=>?_|simp [go_sem]))
  refine dCall.plain hS (by simp [go_sem]) ?_
  (repeat (first|with_reducible refine wV fun _=>?_|simp [go_sem]))
  exact LeV.of_eq (by simp [stepS, encSs, encState, encIs])
 ·have hS := enemy_pure g s n hg hs
  (repeat (first|with_reducible refine wV fun _=>?_|simp [go_sem]))
  refine dCall.plain hS (by simp [go_sem]) ?_
  (repeat (first|with_reducible refine wV fun _=>?_|simp [go_sem]))
  exact LeV.of_eq (by simp [stepS, encSs, encState, encIs])
 ·have hS := friend_pure g s n hg hs
  (repeat (first|with_reducible refine wV fun _=>?_|simp [go_sem]))
  refine dCall.plain hS (by simp [go_sem]) ?_
  (repeat (first|with_reducible refine wV fun _=>?_|simp [go_sem]))
  exact LeV.of_eq (by simp [stepS, encSs, encState, encIs])
 ·have hS := take_pure g s n hg hs
  (repeat (first|with_reducible refine wV fun _=>?_|simp [go_sem]))
  refine dCall.plain hS (by simp [go_sem]) ?_
  (repeat (first|with_reducible refine wV fun _=>?_|simp [go_sem]))
  exact LeV.of_eq (by simp [stepS, encSs, encState, encIs])
 ·have hS := push_pure g s n hg hs
  (repeat (first|with_reducible refine wV fun _=>?_|simp [go_sem]))
  refine dCall.plain hS (by simp [go_sem]) ?_
  (repeat (first|with_reducible refine wV fun _=>?_|simp [go_sem]))
  exact LeV.of_eq (by simp [stepS, encSs, encState, encIs])
 ·have hS := become_pure g s n
  (repeat (first|with_reducible refine wV fun _=>?_|simp [go_sem]))
  refine dCall.plain hS (by simp [go_sem]) ?_
  (repeat (first|with_reducible refine wV fun _=>?_|simp [go_sem]))
  exact LeV.of_eq (by simp [stepS, encSs, encState, encIs])
 ·have hn := xr (by omega)
  have hS := need_pure g s n hn.1 (by omega)
  (repeat (first|with_reducible refine wV fun _=>?_|simp [go_sem]))
  refine dCall.plain hS (by simp [go_sem]) ?_
  (repeat (first|with_reducible refine wV fun _=>?_|simp [go_sem]))
  exact LeV.of_eq (by simp [stepS, encSs, encState, encIs])
 ·have hn := xr (by omega)
  have hS := lose_pure g s n hn.1 (by omega)
  (repeat (first|with_reducible refine wV fun _=>?_|simp [go_sem]))
  refine dCall.plain hS (by simp [go_sem]) ?_
  (repeat (first|with_reducible refine wV fun _=>?_|simp [go_sem]))
  exact LeV.of_eq (by simp [stepS, encSs, encState, encIs])
end Go.Av
end
section
/- Our library: an object's rows are forgotten at a call's end. -/
namespace Go.Av
open Go
theorem ACallP.clear {P : Program} {f : FuncId} {args : List AV} {h : Heap} {n : Nat} {K : CallK}
  (hc : ACallP P f args h n (fun r h' n' => ∃ o mt g sz rs, sz ≠ 2 ∧ h' o = some (.rows mt g sz rs) ∧ K r (upd h' o (some (.rows mt g sz []))) n')) : ACallP P f args h n K := by
 refine ⟨hc.1, fun M0 φ w vs hH hargs => (hc.2 M0 φ w vs hH hargs).mono ?_⟩
 rintro e w' ⟨v, φ', r, h', n', rfl, ⟨o, mt, g, sz, rs, hsz, ho, hK⟩, hH', hx, st⟩
 have hmut : Mut φ' (upd h' o (some (.rows mt g sz []))) = Mut φ' h' := by
  funext k
  refine propext ⟨?_, ?_⟩
  ·rintro ⟨o1, g1, sz1, rs1, g', a, bs, h1, h2, h3⟩
   by_cases he : o1 = o
   ·subst he
    rw [upd_same] at h1
    simp only [Option.some.injEq, AObj.rows.injEq] at h1
    obtain ⟨rfl, rfl, rfl, _⟩ := h1
    exact ⟨o1, g, sz, rs, g', a, bs, ho, h2, h3⟩
   ·rw [upd_ne _ _ he] at h1
    exact ⟨o1, g1, sz1, rs1, g', a, bs, h1, h2, h3⟩
  ·rintro ⟨o1, g1, sz1, rs1, g', a, bs, h1, h2, h3⟩
   by_cases he : o1 = o
   ·subst he
    rw [ho] at h1
    simp only [Option.some.injEq, AObj.rows.injEq] at h1
    obtain ⟨rfl, rfl, rfl, _⟩ := h1
    exact ⟨o1, g, sz, [], g', a, bs, by rw [upd_same], h2, h3⟩
   ·exact ⟨o1, g1, sz1, rs1, g', a, bs, by rw [upd_ne _ _ he]; exact h1, h2, h3⟩
 have hold : ∀ o1 mt1 g1 sz1 rs1, upd h' o (some (.rows mt g sz [])) o1 = some (.rows mt1 g1 sz1 rs1) → ∃ rs2, h' o1 = some (.rows mt1 g1 sz1 rs2) ∧ (rs1 = rs2 ∨ rs1 = []) := by
  intro o1 mt1 g1 sz1 rs1 h1
  by_cases he : o1 = o
  ·subst he
   rw [upd_same] at h1
   simp only [Option.some.injEq, AObj.rows.injEq] at h1
   obtain ⟨rfl, rfl, rfl, rfl⟩ := h1
   exact ⟨rs, ho, .inr rfl⟩
  ·rw [upd_ne _ _ he] at h1
   exact ⟨rs1, h1, .inl rfl⟩
 refine ⟨v, φ', r, _, n', rfl, hK, ⟨hH'.m0, hH'.fresh, fun o1 mt1 g1 sz1 rs1 h1 => ?_, fun o1 o2 mt1 g1 sz1 rs1 mt2 g2 sz2 rs2 a a' b b' h1 h2 => ?_, by rw [hmut]; exact hH'.glob⟩, by rw [hmut]; exact hx, st.le, by rw [hmut]; exact st.or, st.fr, by rw [hmut]; exact st.mutd⟩
 ·obtain ⟨rs2, h2, h3⟩ := hold _ _ _ _ _ h1
  obtain ⟨A, hA, hobj⟩ := hH'.obj _ _ _ _ _ h2
  rcases h3 with rfl | rfl
  ·rw [hmut]; exact ⟨A, hA, hobj⟩
  ·by_cases he : o1 = o
   ·subst he
    rw [ho] at h2
    simp only [Option.some.injEq, AObj.rows.injEq] at h2
    obtain ⟨rfl, rfl, rfl, rfl⟩ := h2
    refine ⟨A, hA, hobj.imp (fun h => ⟨h.1, rfl⟩) ?_⟩
    rintro ⟨a, bs, e1, e3, ⟨C, T, e2, e4, e5, e6, e7, e8, e9⟩ | ⟨es, clk, e2, e4, e5, e6, e9⟩⟩
    ·exact ⟨a, bs, e1, e3, .inl ⟨C, T, e2, e4, e5, by simp, by simp; omega, by simp, by simpa using RelL.nil⟩⟩
    ·exact absurd e6.1 hsz
   ·rw [upd_ne _ _ he] at h1
    rw [h1] at h2
    simp only [Option.some.injEq, AObj.rows.injEq] at h2
    obtain ⟨_, _, _, rfl⟩ := h2
    rw [hmut]; exact ⟨A, hA, hobj⟩
 ·obtain ⟨rs3, h3, _⟩ := hold _ _ _ _ _ h1
  obtain ⟨rs4, h4, _⟩ := hold _ _ _ _ _ h2
  exact hH'.inj _ _ _ _ _ _ _ _ _ _ _ _ _ _ h3 h4
end Go.Av
end
section
/- Contracts: slices.Concat of four lists of numbers, pos.Key, strconv.Itoa (small numbers), FormatBool, the key of a state. -/
open Go Go.Proofs
namespace Go.Av
theorem GrowI_owns (m : Int) (h0 : 0 ≤ m) (h1 : m ≤ 17179869184) : Owns Tryz.prog 263 [AV.nils, .v (.int .i64 m)] (fun n => .sl n 0 1 0 0) (fun n => [(n, .rows true 0 1 [])]) 1 := by
 refine ⟨?_, fun n => ⟨by simp [go_sem], by simp [go_sem]⟩⟩
 by_cases hm : m = 0
 ·subst hm
  refine ACallP.of_awp (by kernel_rfl) Tryz.func263 rfl rfl (Nat.le_of_ble_eq_true rfl) (by kernel_rfl) ?_
  (repeat (first|with_reducible refine wV fun _=>?_|simp [go_sem]))
  simp [go_sem, Wk_eq]
 ·refine ACallP.clear ?_
  refine ACallP.of_awp (by kernel_rfl) Tryz.func263 rfl rfl (Nat.le_of_ble_eq_true rfl) (by kernel_rfl) ?_
  (repeat (first|with_reducible refine wV fun _=>?_|simp [go_sem]))
  (refine aIf.mkL (fun hF => by first | omega | (simp at hF; omega)) (fun hF => ?_); clear hF)
  (repeat (first|with_reducible refine wV fun _=>?_|simp [go_sem]))
  (refine aIf.mkL (fun hT => ?_) (fun hT => by first | omega | (simp at hT; omega)); clear hT)
  (repeat (first|with_reducible refine wV fun _=>?_|simp [go_sem]))
  refine ⟨0, 0, 1, by decide, ⟨rfl, rfl, rfl⟩, ?_⟩
  simp [go_sem, Wk_eq]
theorem Concat4_pure (a b c d : List Int) (ha : a.length ≤ 1000) (hb : b.length ≤ 1000) (hc : c.length ≤ 1000) (hd : d.length ≤ 1000) : Pure Tryz.prog 208 [.lst 1 [[encIs a], [encIs b], [encIs c], [encIs d]]] (encIs (a ++ b ++ c ++ d)) := by
 refine pF Tryz.func208 ?_
 (repeat (first|with_reducible refine wV fun _=>?_|simp [go_sem]))
 refine ALoop.unroll ?_
 (repeat (first|with_reducible refine wV fun _=>?_|simp [go_sem]))
 (refine aIf.mkL (fun hF => by first | omega | (simp at hF; omega)) (fun hF => ?_); clear hF)
 (repeat (first|with_reducible refine wV fun _=>?_|simp [go_sem]))
 refine ALoop.unroll ?_
 (repeat (first|with_reducible refine wV fun _=>?_|simp [go_sem]))
 (refine aIf.mkL (fun hF => by first | omega | (simp at hF; omega)) (fun hF => ?_); clear hF)
 (repeat (first|with_reducible refine wV fun _=>?_|simp [go_sem]))
 refine ALoop.unroll ?_
 (repeat (first|with_reducible refine wV fun _=>?_|simp [go_sem]))
 (refine aIf.mkL (fun hF => by first | omega | (simp at hF; omega)) (fun hF => ?_); clear hF)
 (repeat (first|with_reducible refine wV fun _=>?_|simp [go_sem]))
 refine ALoop.unroll ?_
 (repeat (first|with_reducible refine wV fun _=>?_|simp [go_sem]))
 (refine aIf.mkL (fun hF => by first | omega | (simp at hF; omega)) (fun hF => ?_); clear hF)
 (repeat (first|with_reducible refine wV fun _=>?_|simp [go_sem]))
 refine ALoop.unroll ?_
 (repeat (first|with_reducible refine wV fun _=>?_|simp [go_sem]))
 refine ACallP.ownsPlain (GrowI_owns _ (by omega) (by omega)) (by simp [go_sem]) ?_
 (repeat (first|with_reducible refine wV fun _=>?_|simp [go_sem]))
 refine ALoop.unroll ?_
 (repeat (first|with_reducible refine wV fun _=>?_|simp [go_sem]))
 refine ALoop.unroll ?_
 (repeat (first|with_reducible refine wV fun _=>?_|simp [go_sem]))
 refine ALoop.unroll ?_
 (repeat (first|with_reducible refine wV fun _=>?_|simp [go_sem]))
 refine ALoop.unroll ?_
 (repeat (first|with_reducible refine wV fun _=>?_|simp [go_sem]))
 refine ALoop.unroll ?_
 (repeat (first|with_reducible refine wV fun _=>?_|simp [go_sem]))
 exact frX

theorem bytesOf_U : ∀ l : List Int, bytesOf (l.map encU) = some l
 | [] => rfl
 | n :: l => by rw [List.map_cons, encU, bytesOf, bytesOf_U l]; rfl
def allP (p : PosD) : List Int := p.at_ ++ p.h0 ++ p.h1 ++ [p.rights, p.side]
def keyP (p : PosD) : ByteArray := strOf (allP p)
theorem Key_pure (p : PosD) (ha : p.at_.length ≤ 100) (hb : p.h0.length ≤ 100) (hc : p.h1.length ≤ 100) (hv : ∀ x ∈ allP p, 0 ≤ x ∧ x ≤ 255) : Pure Tryz.prog 166 [.agg (encPos p)] (.v (.string (keyP p))) := by
 refine pF Tryz.func166 ?_
 have hC : Pure Tryz.prog 208 [.lst 1 [[.lst 1 (p.at_.map encI)], [.lst 1 (p.h0.map encI)], [.lst 1 (p.h1.map encI)], [.lst 1 [[.v (.int .i64 p.rights)], [.v (.int .i64 p.side)]]]]] (encIs (p.at_ ++ p.h0 ++ p.h1 ++ [p.rights, p.side])) :=
  Concat4_pure p.at_ p.h0 p.h1 [p.rights, p.side] (by omega) (by omega) (by omega) (by simp)
 have hll : (allP p).length ≤ 302 := by simp [allP]; omega
 unfold keyP
 rw [show p.at_ ++ p.h0 ++ p.h1 ++ [p.rights, p.side] = allP p from rfl] at hC
 generalize allP p = l at *
 (repeat (first|with_reducible refine wV fun _=>?_|simp [go_sem]))
 refine ACallP.pureF [1, 2] hC ?_ (by simp [go_sem]) ?_
 ·(first|done|exact leX)
 (repeat (first|with_reducible refine wV fun _=>?_|simp [go_sem]))
 refine ALoop.start (ALoop.ind (α := Nat) (fun i => ⟨[(3, .sl 3 i 1 0 i), (20, encIs l), (21, .v (.int .i64 l.length)), (22, .v (.int .i64 i))], [(3, .rows true i 1 ((l.take i).map encU))], 4⟩)
  (fun d i => i + d = l.length) ?_ l.length 0 ?_) ?_ ?_
 ·rintro d i i1 hrec
  (repeat (first|with_reducible refine wV fun _=>?_|simp [go_sem]))
  refine aIf.mkL (fun hi => ?_) (fun hi => ?_) <;> simp at hi
  ·have hx := hv _ (nth_mem hi)
   have hem : (nth l i).emod 256 = nth l i := Int.emod_eq_of_lt hx.1 (by omega)
   have hem2 : nth l i % 256 = nth l i := hem
   (repeat (first|with_reducible refine wV fun _=>?_|simp [go_sem, hi, hem, hem2]))
   refine ALoop.start (hrec (d - 1) (by omega) (i + 1) (by omega)) ?_ (by simp)
   rw [List.take_add_one, List.getElem?_eq_getElem hi, ← nth_eq _ _ hi]
   simp [go_sem, Wk_eq, encU, hem, hem2]
   intro x hx c hc
   obtain ⟨y, _, rfl⟩ := List.mem_map.1 (List.mem_of_mem_take hx)
   simp only [encU, List.mem_singleton] at hc
   subst hc
   exact .v _
  ·have hb : bytesOf (List.take i (List.map encU l)) = some l := by rw [List.take_of_length_le (by simp; omega)]; exact bytesOf_U l
   have hb2 : bytesOf (List.take i (List.take i (List.map encU l))) = some l := by rw [List.take_take, Nat.min_self]; exact hb
   (repeat (first|with_reducible refine wV fun _=>?_|simp [go_sem, hb, hb2]))
 ·omega
 ·simp [go_sem, Wk_eq]
 ·simp
def digit (n : Int) : ByteArray := strOf [48 + n]
theorem sSmall_pure (n : Int) (h0 : 0 ≤ n) (h1 : n < 10) : Pure Tryz.prog 307 [.v (.int .i64 n)] (.v (.string (digit n))) := by
 refine pF Tryz.func307 ?_
 rcases (show n = 0 ∨ n = 1 ∨ n = 2 ∨ n = 3 ∨ n = 4 ∨ n = 5 ∨ n = 6 ∨ n = 7 ∨ n = 8 ∨ n = 9 by omega) with rfl | rfl | rfl | rfl | rfl | rfl | rfl | rfl | rfl | rfl <;> ((repeat (first|with_reducible refine wV fun _=>?_|simp [go_sem]))) <;> exact LeV.of_eq (by kernel_rfl)
theorem sFormat_pure (n : Int) (h0 : 0 ≤ n) (h1 : n < 10) : Pure Tryz.prog 305 [.v (.int .i64 n), .v (.int .i64 10)] (.v (.string (digit n))) := by
 refine pF Tryz.func305 ?_
 have hS := sSmall_pure n h0 h1
 have h1' : n < 100 := by omega
 (repeat (first|with_reducible refine wV fun _=>?_|simp [go_sem, h0, h1']))
 refine ACallP.plain hS (by simp [go_sem]) ?_
 (repeat (first|with_reducible refine wV fun _=>?_|simp [go_sem]))
theorem sItoa_pure (n : Int) (h0 : 0 ≤ n) (h1 : n < 10) : Pure Tryz.prog 293 [.v (.int .i64 n)] (.v (.string (digit n))) := by
 refine pF Tryz.func293 ?_
 have hS := sFormat_pure n h0 h1
 (repeat (first|with_reducible refine wV fun _=>?_|simp [go_sem]))
 refine ACallP.plain hS (by simp [go_sem]) ?_
 (repeat (first|with_reducible refine wV fun _=>?_|simp [go_sem]))
theorem Itoa_pure (n : Int) (h0 : 0 ≤ n) (h1 : n < 10) : Pure Tryz.prog 252 [.v (.int .i64 n)] (.v (.string (digit n))) := by
 refine pF Tryz.func252 ?_
 have hS := sItoa_pure n h0 h1
 (repeat (first|with_reducible refine wV fun _=>?_|simp [go_sem]))
 refine ACallP.plain hS (by simp [go_sem]) ?_
 (repeat (first|with_reducible refine wV fun _=>?_|simp [go_sem]))
theorem sBool_pure (b : Bool) : Pure Tryz.prog 294 [.v (.bool b)] (.v (.string (if b then strOf [116, 114, 117, 101] else strOf [102, 97, 108, 115, 101]))) := by
 refine pF Tryz.func294 ?_
 cases b
 ·(repeat (first|with_reducible refine wV fun _=>?_|simp [go_sem]))
  exact LeV.of_eq (by kernel_rfl)
 ·(repeat (first|with_reducible refine wV fun _=>?_|simp [go_sem]))
  exact LeV.of_eq (by kernel_rfl)
theorem Bool_pure (b : Bool) : Pure Tryz.prog 253 [.v (.bool b)] (.v (.string (if b then strOf [116, 114, 117, 101] else strOf [102, 97, 108, 115, 101]))) := by
 refine pF Tryz.func253 ?_
 have hS := sBool_pure b
 (repeat (first|with_reducible refine wV fun _=>?_|simp [go_sem]))
 refine ACallP.plain hS (by simp [go_sem]) ?_
 (repeat (first|with_reducible refine wV fun _=>?_|simp [go_sem]))
theorem strGo_toList : ∀ (l : List Int) (r : ByteArray), (l.foldl (fun r n => r.push (UInt8.ofNat n.toNat)) r).data.toList = r.data.toList ++ l.map fun n => UInt8.ofNat n.toNat
 | [], r => by simp
 | n :: l, r => by
  rw [List.foldl_cons, strGo_toList l]
  simp [ByteArray.push]
theorem strOf_toList (l : List Int) : (strOf l).data.toList = l.map fun n => UInt8.ofNat n.toNat := by
 unfold strOf; rw [strGo_toList]; rfl
theorem strOf_size (l : List Int) : (strOf l).size = l.length := by
 rw [← ByteArray.size_data, ← Array.length_toList, strOf_toList, List.length_map]
def keyS (s : StD) : ByteArray := digit s.kind ++ strOf [32] ++ digit s.cursor ++ strOf [32] ++ (if s.took then strOf [116, 114, 117, 101] else strOf [102, 97, 108, 115, 101]) ++ strOf [32] ++ keyP s.p
theorem key_pure (s : StD) (hk : 0 ≤ s.kind ∧ s.kind < 10) (hc : 0 ≤ s.cursor ∧ s.cursor < 10) (h1 : s.p.at_.length ≤ 100) (h2 : s.p.h0.length ≤ 100) (h3 : s.p.h1.length ≤ 100) (hv : ∀ x ∈ allP s.p, 0 ≤ x ∧ x ≤ 255) :
  Pure Tryz.prog 200 [.agg (encState s)] (.v (.string (keyS s))) := by
 refine pF Tryz.func200 ?_
 have hK := Itoa_pure s.kind hk.1 hk.2
 have hC := Itoa_pure s.cursor hc.1 hc.2
 have hB := Bool_pure s.took
 have hP := Key_pure s.p h1 h2 h3 hv
 have hdk : (digit s.kind).size = 1 := strOf_size _
 have hdc : (digit s.cursor).size = 1 := strOf_size _
 have hdb : (if s.took then strOf [116, 114, 117, 101] else strOf [102, 97, 108, 115, 101]).size ≤ 5 := by split <;> simp [strOf_size]
 have hdp : (keyP s.p).size ≤ 302 := by unfold keyP; rw [strOf_size]; simp [allP]; omega
 have h32 : (ByteArray.mk ⟨[32]⟩).size = 1 := rfl
 unfold keyS
 rw [show strOf [32] = ByteArray.mk ⟨[32]⟩ from rfl]
 generalize digit s.kind = dk at *
 generalize digit s.cursor = dc at *
 generalize (if s.took then strOf [116, 114, 117, 101] else strOf [102, 97, 108, 115, 101]) = db at *
 generalize keyP s.p = dp at *
 generalize ByteArray.mk ⟨[32]⟩ = sp at *
 (repeat (first|with_reducible refine wV fun _=>?_|simp [go_sem]))
 refine dCall.plain hK (by simp [go_sem]) ?_
 (repeat (first|with_reducible refine wV fun _=>?_|simp [go_sem]))
 refine dCall.plain hC (by simp [go_sem]) ?_
 (repeat (first|with_reducible refine wV fun _=>?_|simp [go_sem]))
 refine dCall.plain hB (by simp [go_sem]) ?_
 (repeat (first|with_reducible refine wV fun _=>?_|simp [go_sem]))
 refine dCall.plain hP (by simp [go_sem]) ?_
 (repeat (first|with_reducible refine wV fun _=>?_|simp [go_sem]))
end Go.Av
end
