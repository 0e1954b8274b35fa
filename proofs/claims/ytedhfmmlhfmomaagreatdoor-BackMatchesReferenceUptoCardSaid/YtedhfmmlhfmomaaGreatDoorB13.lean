/- Texts of ours, part 13: our library and contracts of functions. -/
import Derived.Test.YtedhfmmlhfmomaaGreatDoorB12
set_option linter.unusedSimpArgs false
set_option linter.unusedVariables false
set_option maxRecDepth 100000
set_option maxHeartbeats 40000000
section
open Go Go.Proofs Go.Av
namespace Go.Av
open Go.Proofs.YtedhfmmlhfmomaaGreatDoor
abbrev UpB : {H : Type} → DataW H → Nat := fun d => Rows.uptoBulk d
abbrev G3T := Int × Int × Int × List (List Int) × List (List Int) × List Int × Unit
def zyH (x : G3T) : List AV := [.v (.int .u8 x.1)] ++ ([.v (.int .u8 x.2.1)] ++ ([.v (.int .u8 x.2.2.1)] ++ ((x.2.2.2.1.map fun l => [AV.lst 1 (l.map fun n => [.v (.int .u8 n)])]).flatten ++
 ([AV.lst 3 (x.2.2.2.2.1.map fun l => (l.map fun n => [AV.v (.int .u8 n)]).flatten)] ++ ((x.2.2.2.2.2.1.map fun n => [AV.v (.int .u8 n)]).flatten ++ [])))))
abbrev P4T := List Int × List Int × List Int × Int × Int × Unit
def zva (x : P4T) : List AV := (x.1.map fun n => [AV.v (.int .u8 n)]).flatten ++ ((x.2.1.map fun n => [AV.v (.int .u8 n)]).flatten ++ ((x.2.2.1.map fun n => [AV.v (.int .u8 n)]).flatten ++ ([.v (.int .u8 x.2.2.2.1)] ++ ([.v (.int .u8 x.2.2.2.2.1)] ++ []))))
abbrev U8W (n : Int) : Prop := (Lit.int .u8 n).wf = true
theorem zfw : Opn Tryz.prog 1048576 UpB 5 (fun n : Int => [.v (.int .u8 n)]) U8W := Opn.int Tryz.underlying5 (by kernel_rfl)
theorem zv0 : Opn Tryz.prog 1048576 UpB 22 (fun l : List Int => [.lst 1 (l.map fun n => [.v (.int .u8 n)])]) (fun l => l.length ≤ 1048576 ∧ ∀ x ∈ l, U8W x) :=
 Opn.slice (sz := 1) zlZ.upto Tryz.underlying22 (by kernel_rfl) (by kernel_rfl) Nat.one_pos zfw
theorem opn_g3 : Opn Tryz.prog 1048576 UpB 27 zc2 (fun x => zr5 x ∧ x.k0.length ≤ 1048576 ∧ x.k1.length ≤ 1048576 ∧ x.c.length ≤ 1048576) := by
 have hK : Opn Tryz.prog 1048576 UpB 23 (fun l : List (List Int) => (l.map fun l => [AV.lst 1 (l.map fun n => [.v (.int .u8 n)])]).flatten) (fun l => l.length = 2 ∧ ∀ x ∈ l, x.length ≤ 1048576 ∧ ∀ y ∈ x, U8W y) :=
  Opn.array (sz := 1) (n := 2) zlZ.upto Tryz.underlying23 (by kernel_rfl) (by kernel_rfl) zv0
 have h3 : Opn Tryz.prog 1048576 UpB 80 (fun l : List Int => (l.map fun n => [AV.v (.int .u8 n)]).flatten) (fun l => l.length = 3 ∧ ∀ x ∈ l, U8W x) :=
  Opn.array (sz := 1) (n := 3) zlZ.upto Tryz.underlying80 (by kernel_rfl) (by kernel_rfl) zfw
 have hC : Opn Tryz.prog 1048576 UpB 24 (fun l : List (List Int) => [.lst 3 (l.map fun l => (l.map fun n => [AV.v (.int .u8 n)]).flatten)]) (fun l => l.length ≤ 1048576 ∧ ∀ x ∈ l, x.length = 3 ∧ ∀ y ∈ x, U8W y) :=
  Opn.slice (sz := 3) zlZ.upto Tryz.underlying24 (by kernel_rfl) (by kernel_rfl) (by decide) h3
 have hFF : Opn Tryz.prog 1048576 UpB 25 (fun l : List Int => (l.map fun n => [AV.v (.int .u8 n)]).flatten) (fun l => l.length = 6 ∧ ∀ x ∈ l, U8W x) :=
  Opn.array (sz := 1) (n := 6) zlZ.upto Tryz.underlying25 (by kernel_rfl) (by kernel_rfl) zfw
 have hF : zhX Tryz.prog 1048576 UpB [5, 5, 5, 23, 24, 25] zyH (fun x => U8W x.1 ∧ U8W x.2.1 ∧ U8W x.2.2.1 ∧ (x.2.2.2.1.length = 2 ∧ ∀ z ∈ x.2.2.2.1, z.length ≤ 1048576 ∧ ∀ y ∈ z, U8W y) ∧
   (x.2.2.2.2.1.length ≤ 1048576 ∧ ∀ z ∈ x.2.2.2.2.1, z.length = 3 ∧ ∀ y ∈ z, U8W y) ∧ (x.2.2.2.2.2.1.length = 6 ∧ ∀ y ∈ x.2.2.2.2.2.1, U8W y) ∧ True) :=
  zhX.cons zfw (zhX.cons zfw (zhX.cons zfw (zhX.cons hK (zhX.cons hC (zhX.cons hFF zhX.nil)))))
 have hT : Opn Tryz.prog 1048576 UpB 27 zyH (fun x => U8W x.1 ∧ U8W x.2.1 ∧ U8W x.2.2.1 ∧ (x.2.2.2.1.length = 2 ∧ ∀ z ∈ x.2.2.2.1, z.length ≤ 1048576 ∧ ∀ y ∈ z, U8W y) ∧
   (x.2.2.2.2.1.length ≤ 1048576 ∧ ∀ z ∈ x.2.2.2.2.1, z.length = 3 ∧ ∀ y ∈ z, U8W y) ∧ (x.2.2.2.2.2.1.length = 6 ∧ ∀ y ∈ x.2.2.2.2.2.1, U8W y) ∧ True) := Opn.struct zlZ.upto (by kernel_rfl) hF
 intro H enc w fuel cs d ps k1 k2
 obtain ⟨x, r1, r2, r3, hx⟩ := hT enc w fuel cs d ps k1 k2
 obtain ⟨W, Hh, cut, K, C, F, ⟨⟩⟩ := x
 obtain ⟨h1, h2, h3', ⟨h4, h4'⟩, ⟨h5, h5'⟩, ⟨h6, h6'⟩, _⟩ := hx
 simp only at h1 h2 h3' h4 h4' h5 h5' h6 h6'
 match K, h4 with
 | [ka, kb], _ =>
  match F, h6 with
  | [f0, f1, f2, f3, f4, f5], _ =>
   have hCl : ∀ (C : List (List Int)), (∀ z ∈ C, z.length = 3) → (C.map fun l => (nth l 0, nth l 1, nth l 2)).map zu9 = C.map fun l => (l.map fun n => [AV.v (.int .u8 n)]).flatten := by
    intro C hC
    rw [List.map_map]
    refine List.map_congr_left fun l hl => ?_
    have := hC l hl
    match l, this with
    | [a, b, c], _ => rfl
   refine ⟨⟨W, Hh, cut, ka, kb, C.map fun l => (nth l 0, nth l 1, nth l 2), f0, f1, f2, f3, f4, f5⟩, ?_, r2, r3, ⟨bounds_u8 h1, bounds_u8 h2, bounds_u8 h3', fun n hn => bounds_u8 ((h4' ka (by simp)).2 n hn), fun n hn => bounds_u8 ((h4' kb (by simp)).2 n hn), ?_,
    bounds_u8 (h6' f0 (by simp)), bounds_u8 (h6' f1 (by simp)), bounds_u8 (h6' f2 (by simp)), bounds_u8 (h6' f3 (by simp)), bounds_u8 (h6' f4 (by simp)), bounds_u8 (h6' f5 (by simp))⟩, (h4' ka (by simp)).1, (h4' kb (by simp)).1, by simpa using h5⟩
   ·unfold zc2
    simp only
    rw [hCl C (fun z hz => (h5' z hz).1)]
    exact r1
   ·intro t ht
    obtain ⟨z, hz, rfl⟩ := List.mem_map.1 ht
    obtain ⟨q1, q2⟩ := h5' z hz
    match z, q1 with
    | [a, b, c], _ => exact ⟨bounds_u8 (q2 a (by simp)), bounds_u8 (q2 b (by simp)), bounds_u8 (q2 c (by simp))⟩
theorem opn_p4 : Opn Tryz.prog 1048576 UpB 30 zc7 zi4 := by
 have hFF : Opn Tryz.prog 1048576 UpB 25 (fun l : List Int => (l.map fun n => [AV.v (.int .u8 n)]).flatten) (fun l => l.length = 6 ∧ ∀ x ∈ l, U8W x) :=
  Opn.array (sz := 1) (n := 6) zlZ.upto Tryz.underlying25 (by kernel_rfl) (by kernel_rfl) zfw
 have h4 : Opn Tryz.prog 1048576 UpB 28 (fun l : List Int => (l.map fun n => [AV.v (.int .u8 n)]).flatten) (fun l => l.length = 4 ∧ ∀ x ∈ l, U8W x) :=
  Opn.array (sz := 1) (n := 4) zlZ.upto Tryz.underlying28 (by kernel_rfl) (by kernel_rfl) zfw
 have hF : zhX Tryz.prog 1048576 UpB [25, 25, 28, 5, 5] zva (fun x => (x.1.length = 6 ∧ ∀ y ∈ x.1, U8W y) ∧ (x.2.1.length = 6 ∧ ∀ y ∈ x.2.1, U8W y) ∧ (x.2.2.1.length = 4 ∧ ∀ y ∈ x.2.2.1, U8W y) ∧ U8W x.2.2.2.1 ∧ U8W x.2.2.2.2.1 ∧ True) :=
  zhX.cons hFF (zhX.cons hFF (zhX.cons h4 (zhX.cons zfw (zhX.cons zfw zhX.nil))))
 have hT : Opn Tryz.prog 1048576 UpB 30 zva (fun x => (x.1.length = 6 ∧ ∀ y ∈ x.1, U8W y) ∧ (x.2.1.length = 6 ∧ ∀ y ∈ x.2.1, U8W y) ∧ (x.2.2.1.length = 4 ∧ ∀ y ∈ x.2.2.1, U8W y) ∧ U8W x.2.2.2.1 ∧ U8W x.2.2.2.2.1 ∧ True) := Opn.struct zlZ.upto (by kernel_rfl) hF
 intro H enc w fuel cs d ps k1 k2
 obtain ⟨x, r1, r2, r3, hx⟩ := hT enc w fuel cs d ps k1 k2
 obtain ⟨c, k, h, r, s, ⟨⟩⟩ := x
 obtain ⟨⟨a1, a2⟩, ⟨b1, b2⟩, ⟨c1, c2⟩, d1, e1, _⟩ := hx
 simp only at a1 a2 b1 b2 c1 c2 d1 e1
 have hfl : ∀ l : List Int, (l.map fun n => [AV.v (.int .u8 n)]).flatten = l.map fun n => AV.v (.int .u8 n) := fun l => by
  induction l with
  | nil => rfl
  | cons x l ih => simp only [List.map_cons, List.flatten_cons, ih]; rfl
 refine ⟨⟨c, k, h, r, s⟩, ?_, r2, r3, ⟨a1, b1, c1, fun n hn => bounds_u8 (a2 n hn), fun n hn => bounds_u8 (b2 n hn), fun n hn => bounds_u8 (c2 n hn), bounds_u8 d1, bounds_u8 e1⟩⟩
 unfold zva at r1
 rw [hfl, hfl, hfl] at r1
 exact r1
end Go.Av
end
section
open Go Go.Proofs Go.Av
namespace Go.Av
open Go.Proofs.YtedhfmmlhfmomaaGreatDoor
theorem zdY : Opn Tryz.prog 1048576 UpB 65 zcI zf8 := by
 have hF : zhX Tryz.prog 1048576 UpB [27, 30, 22] (fun x : zis × zkx × List Int × Unit => zc2 x.1 ++ (zc7 x.2.1 ++ ([.lst 1 (x.2.2.1.map fun n => [.v (.int .u8 n)])] ++ [])))
   (fun x => (zr5 x.1 ∧ x.1.k0.length ≤ 1048576 ∧ x.1.k1.length ≤ 1048576 ∧ x.1.c.length ≤ 1048576) ∧ zi4 x.2.1 ∧ (x.2.2.1.length ≤ 1048576 ∧ ∀ y ∈ x.2.2.1, U8W y) ∧ True) := zhX.cons opn_g3 (zhX.cons opn_p4 (zhX.cons zv0 zhX.nil))
 have hT : Opn Tryz.prog 1048576 UpB 65 (fun x : zis × zkx × List Int × Unit => zc2 x.1 ++ (zc7 x.2.1 ++ ([.lst 1 (x.2.2.1.map fun n => [.v (.int .u8 n)])] ++ [])))
   (fun x => (zr5 x.1 ∧ x.1.k0.length ≤ 1048576 ∧ x.1.k1.length ≤ 1048576 ∧ x.1.c.length ≤ 1048576) ∧ zi4 x.2.1 ∧ (x.2.2.1.length ≤ 1048576 ∧ ∀ y ∈ x.2.2.1, U8W y) ∧ True) := Opn.struct zlZ.upto (by kernel_rfl) hF
 intro H enc w fuel cs d ps k1 k2
 obtain ⟨x, r1, r2, r3, hx⟩ := hT enc w fuel cs d ps k1 k2
 obtain ⟨g, p, k, ⟨⟩⟩ := x
 obtain ⟨⟨a1, a2, a3, a4⟩, b1, ⟨c1, c2⟩, _⟩ := hx
 simp only at a1 a2 a3 a4 b1 c1 c2
 exact ⟨⟨g, p, k⟩, r1, r2, r3, ⟨a1, b1, fun n hn => bounds_u8 (c2 n hn), by simp only; omega, by simp only; omega, by simp only; omega, by simp only; omega⟩⟩
end Go.Av
end
