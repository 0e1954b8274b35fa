/- Texts of ours, part 12: our library and contracts of functions. -/
import Derived.Test.YtedhfmmlhfmomaaGreatDoorB11
import GoSem.ClaimJoined
import Derived.Test.YtedhfmmlhfmomaaGreatDoorCards
import Derived.Test.YtedhfmmlhfmomaaGreatDoorTie
import Derived.Deep.DeepHandedRow
import Derived.LaidHandle
import Derived.LaidMore
import Derived.OpenShut
import Derived.Test.YtedhfmmlhfmomaaGreatDoorRows
set_option linter.unusedSimpArgs false
set_option linter.unusedVariables false
set_option maxRecDepth 100000
set_option maxHeartbeats 40000000
section
open Go Go.Proofs
namespace Go.Av
def zuy : zal := ⟨[], [], [], 0, 0⟩
def zeq (g : zac) (l : List zal) : Bool := zbO g && (decide (l.length = (nmG g).length) && okJ (ofG g) l l.length)
def zeP (g : zac) (l : List zal) : zal := if zeq g l then znp l (ofG g).length else zuy
theorem zmv {g : zac} (hg : GOk g) {l : List zal} (hl : ∀ p ∈ l, POk g p) {c : Nat} (hc : (c : Int) < g.cells) : ∀ k, k ≤ l.length → 0 ≤ zrs l k c ∧ zrs l k c ≤ 12 * k
  | 0, _ => by simp [zrs]
  | k + 1, hk => by
    have ih := zmv hg hl hc k (by omega)
    have hp := hl _ (zah (show k < l.length by omega))
    have hal := hp.al
    have := hp.av _ (zah (show c < (nth l k).at_.length by omega))
    have k6 := hg.k6
    rw [zrs]
    omega
def zln (l : List zal) (n i c : Nat) : List Int := (List.range n).map fun x => if x < c then zrs l (i + 1) x else zrs l i x
theorem znE (l : List zal) (n i c : Nat) : (zln l n i c).length = n := by simp [zln]
theorem zyQ (l : List zal) {n : Nat} (i : Nat) {c : Nat} (hc : c < n) : nth (zln l n i c) c = zrs l i c := by
  unfold zln; rw [zbL _ hc, if_neg (by omega)]
theorem zxk (l : List zal) {n : Nat} (i : Nat) {c : Nat} (hc : c < n) : zln l n i (c + 1) = (zln l n i c).set c (zrs l i c + nth (nth l i).at_ c) := by
  refine za3 (by simp [zln]) fun x hx => ?_
  have hx' : x < n := by simpa [zln] using hx
  rw [zbP, znE]
  unfold zln
  rw [zbL _ hx', zbL _ hx']
  by_cases h : c = x
  · subst h
    rw [if_pos (show c < c + 1 by omega), if_pos (show c = c ∧ c < n from ⟨rfl, hc⟩)]; rfl
  · rw [if_neg (show ¬ (c = x ∧ x < n) from fun h' => h h'.1)]
    by_cases h2 : x < c
    · rw [if_pos (show x < c + 1 by omega), if_pos h2]
    · rw [if_neg (show ¬ x < c + 1 by omega), if_neg h2]
theorem zza (l : List zal) (n i : Nat) : zln l n i n = zln l n (i + 1) 0 := by
  refine List.map_congr_left fun x hx => ?_
  have := List.mem_range.1 hx
  rw [if_pos this, if_neg (by omega)]
theorem zy9 (l : List zal) (n : Nat) : zln l n l.length 0 = zdq l n := by
  refine List.map_congr_left fun x hx => ?_
  rw [if_neg (by omega)]
theorem zxl (l : List zal) (n : Nat) : zln l n 0 0 = List.replicate n 0 := by
  refine za3 (by simp [zln]) fun x hx => ?_
  have hx' : x < n := by simpa [zln] using hx
  unfold zln
  rw [zbL _ hx', if_neg (by omega), zaA _ _ (by simpa using hx'), List.getElem_replicate]
  rfl
theorem zwJ {of : List Int} {l : List zal} {i : Nat} (hi : i < l.length) (h : (decide ((nth l i).side = (nth l 0).side) && decide (zcK (nth l i) (za4 of (nth l i) (nth (zaO of of.length) i)) = 0)) = false) : okJ of l l.length = false := by
  unfold okJ
  rw [List.all_eq_false]
  exact ⟨i, List.mem_range.2 hi, by simp [h]⟩
theorem zig (g : zac) (hg : GOk g) (hn : zb8 g) (l : List zal) (hl : ∀ p ∈ l, POk g p) (hll : l.length ≤ 1048576) : zaJ Tryz.prog 21 [.agg (zad g), zaV l]
    (.tup [.agg (zag (zeP g l)), .v (.int .i64 (if zeq g l then 0 else 220))]) := by
  refine pF Tryz.func21 ?_
  have hN := zdZ g hg hn
  have hO := zji g hg
  have hcl := zet hg
  have h9 := hg.c9
  have hofl : (ofG g).length ≤ 1048576 := by omega
  have hM := zkz (ofG g) hofl
  have hP := fun (p : zal) (hp : POk g p) name => zmh (ofG g) p name (by have := hp.al; omega) (by have := hp.al; omega)
  have hV := fun (p : zal) (hp : POk g p) => zlv g (by have := hg.k6; unfold zhG; omega) ⟨hg.r0, by have := hg.r4; omega⟩ p (hp.fits hg)
  have hC := fun (p q : zal) (hp : POk g p) (hq : POk g q) => zcQ p q (hp.fits hg) (hq.fits hg)
  have hnl := zkl hg
  change zaJ _ _ _ (zaj (ofG g)) at hO
  change zaJ _ _ _ (zaj (nmG g)) at hM
  have hgb : ∀ n, (∀ c ∈ zad g, Bel n c) = True := fun n => by simp [go_sem]
  have hg0 : cel (zad g) 0 = .v (.int .i64 g.cells) := rfl
  have hjo : zeq g l = (zbO g && (decide (l.length = (nmG g).length) && okJ (ofG g) l l.length)) := rfl
  have hjr : zeP g l = if zeq g l then znp l (ofG g).length else zuy := rfl
  have hsb := fun (c : Nat) (hc : (c : Int) < g.cells) k hk => zmv hg hl hc k hk
  have hnm : nmG g = zaO (ofG g) (ofG g).length := rfl
  have hokf := fun i hi h => zwJ (of := ofG g) (l := l) (i := i) hi h
  have hoks := fun i => zyT (ofG g) l i
  have hpo := fun (p : zal) (hp : POk g p) name => zci hp (ofG g) name
  have hal := fun p hp => (hl p hp).al
  rw [← hnm] at hokf hoks
  obtain ⟨n, hnn⟩ : ∃ n, n = (ofG g).length := ⟨_, rfl⟩
  rw [← hnn] at hcl hofl hjr
  have hofn := hnn.symm
  generalize ofG g = of at *
  generalize nmG g = nm at *
  obtain ⟨eg, heg⟩ : ∃ eg, eg = zad g := ⟨_, rfl⟩
  have hel : eg.length = 9 := by rw [heg]; rfl
  have hpok : ∀ p : zal, POk g p → zkx g p = true := fun p hp => zq8.2 hp
  rw [← hcl] at hg0
  simp only [← hcl] at hal hsb
  rw [← heg] at hN hO hgb hV hg0 ⊢
  clear heg
  cases hnb : zbO g
  · rw [hnb] at hN hjo
    rw [hjr, hjo]
    repeat first|refine wV fun _=>?_|simp [go_sem, hel, zuy]
    refine zBi hN (by simp [go_sem, hgb]) ?_
    repeat first|refine wV fun _=>?_|simp [go_sem, hel]
  · rw [hnb] at hN hjo
    repeat first|refine wV fun _=>?_|simp [go_sem, hel]
    refine zBi hN (by simp [go_sem, hgb]) ?_
    repeat first|refine wV fun _=>?_|simp [go_sem, hel]
    refine zBi hO (by simp [go_sem, hgb]) ?_
    repeat first|refine wV fun _=>?_|simp [go_sem, hel]
    refine zBi hM (by simp [go_sem]) ?_
    repeat first|refine wV fun _=>?_|simp [go_sem, hel]
    refine zBj (fun hlen => ?_) (fun hlen => ?_) <;> simp at hlen
    · have hlen' : ¬ l.length = nm.length := by omega
      have hf : zeq g l = false := by rw [hjo]; simp [hlen']
      rw [hjr, hf]
      repeat first|refine wV fun _=>?_|simp [go_sem, hel, zuy]
    · have hlen' : l.length = nm.length := by omega
      have hl0 : 0 < l.length := by omega
      repeat first|refine wV fun _=>?_|simp [go_sem, hel, hl0, hg0]
      refine zBh (zBk (α := Nat) (fun i => ⟨[(2, .ref 0 0 9 0 0), (4, .ref 1 0 5 0 0), (6, zaj of), (7, zaj nm), (8, .ref 2 0 5 0 0), (35, zaV l), (36, .int l.length), (37, .v (.int .i64 i))],
          [(0, .rows true 0 9 [eg]), (1, .rows true 0 5 [[.v (.slice none 0 0), .v (.slice none 0 0), .v (.slice none 0 0), .v (.int .i64 0), .v (.int .i64 0)]]),
           (2, .rows true 0 5 [[.sl 3 0 1 0 n, zaj (nth l 0).h0, zaj (nth l 0).h1, .v (.int .i64 (nth l 0).rights), .v (.int .i64 (nth l 0).side)]]), (3, .rows true 0 1 ((zln l n i 0).map zbd))], 4⟩)
        (fun d i => i + d = l.length ∧ okJ of l i = true) ?_ l.length 0 ?_) ?_ ?_
      · rintro d i ⟨i1, i2⟩ hrec
        have lq : (zln l n i 0).length = n := znE _ _ _ _
        repeat first|refine wV fun _=>?_|simp [go_sem]
        refine zBj (fun hi => ?_) (fun hi => ?_) <;> simp at hi
        · have hm := zah hi
          have hpi := hl _ hm
          have hin : i < nm.length := by omega
          have hVi := hV _ hpi
          rw [hpok _ hpi] at hVi
          have hCi := hC _ _ hpi (hpo _ hpi (nth nm i))
          have hPi := hP _ hpi (nth nm i)
          have hali := hal _ hm
          have hki := hoks i
          rw [i2] at hki
          have hfi := hokf i hi
          repeat first|refine wV fun _=>?_|simp [go_sem, hi, hel]
          refine zBl hVi (by simp [go_sem, hgb]) ?_
          repeat first|refine wV fun _=>?_|simp [go_sem, hi, hin, hel]
          refine zBt _ (fun _ => hPi) (by simp [go_sem]) ?_
          repeat first|refine wV fun _=>?_|simp [go_sem, hi, hin, hel]
          refine zBt _ (fun _ => hCi) (by simp [go_sem]) ?_
          repeat first|refine wV fun _=>?_|simp [go_sem, hi, hin, hel]
          refine zBj (fun hc => ?_) (fun hc => ?_)
          · have hf : zeq g l = false := by
              rw [hjo, hfi (by rw [Bool.and_eq_false_iff]; simp at hc; rcases hc with h | h <;> simp [h])]; simp
            rw [hjr, hf]
            repeat first|refine wV fun _=>?_|simp [go_sem, zuy]
          · have hki' : okJ of l (i + 1) = true := by rw [hki]; simp at hc; simp [hc.1, hc.2]
            repeat first|refine wV fun _=>?_|simp [go_sem, hel]
            refine zBh (zBk (α := Nat) (fun c => ⟨[(2, .ref 0 0 9 0 0), (4, .ref 1 0 5 0 0), (6, zaj of), (7, zaj nm), (8, .ref 2 0 5 0 0), (35, zaV l), (36, .int l.length), (37, .v (.int .i64 i)), (67, zaj (nth l i).at_), (68, .int (nth l i).at_.length), (69, .v (.int .i64 c))],
                [(0, .rows true 0 9 [eg]), (1, .rows true 0 5 [[.v (.slice none 0 0), .v (.slice none 0 0), .v (.slice none 0 0), .v (.int .i64 0), .v (.int .i64 0)]]),
                 (2, .rows true 0 5 [[.sl 3 0 1 0 n, zaj (nth l 0).h0, zaj (nth l 0).h1, .v (.int .i64 (nth l 0).rights), .v (.int .i64 (nth l 0).side)]]), (3, .rows true 0 1 ((zln l n i c).map zbd))], 4⟩)
              (fun s c => c + s = n) ?_ n 0 ?_) ?_ ?_
            · rintro s c j1 hrec2
              have lq : (zln l n i c).length = n := znE _ _ _ _
              repeat first|refine wV fun _=>?_|simp [go_sem]
              refine zBj (fun hcc => ?_) (fun hcc => ?_) <;> simp at hcc
              · have hcn : c < n := by omega
                have hb := hsb c (by omega) i (by omega)
                have hb2 := hsb c (by omega) (i + 1) (by omega)
                rw [zrs] at hb2
                have hnq := zyQ l i hcn
                have hsq := zxk l i hcn
                repeat first|refine wV fun _=>?_|simp [go_sem, hcc, hcn, lq, hnq]
                refine zBh (hrec2 (s - 1) (by omega) (c + 1) (by omega)) ?_ (by simp)
                simp [go_sem, zaf, hsq]
                exact of_eq_true (hgb 4)
              · have hcD : c = n := by omega
                subst hcD
                have hse := zza l c i
                repeat first|refine wV fun _=>?_|simp [go_sem]
                refine zBh (hrec (d - 1) (by omega) (i + 1) ⟨by omega, hki'⟩) ?_ (by simp)
                simp [go_sem, zaf, hse]
                exact of_eq_true (hgb 4)
            · simp
            · simp [go_sem, zaf]
              exact of_eq_true (hgb 4)
            · simp
        · have hil : i = l.length := by omega
          subst hil
          have ht : zeq g l = true := by rw [hjo, i2]; simp [hlen']
          have hjp : zeP g l = ⟨zln l n l.length 0, (nth l 0).h0, (nth l 0).h1, (nth l 0).rights, (nth l 0).side⟩ := by
            rw [hjr, ht, if_pos rfl, zy9]; rfl
          rw [hjp, ht]
          repeat first|refine wV fun _=>?_|simp [go_sem, lq]
          ((try simp only [zaq, zaE, zbt, zcG, zaw, zbm, zaM, zar, zag, zdC, zbz, zaV, zaj, zad, List.map_cons, List.map_nil, List.nil_append, List.append_nil, List.cons_append]); (repeat (first | (with_reducible first|exact zam.nil|exact zak.nil|exact LeV.refl _|exact zam.refl _ _ _ _|exact zak.refl _|refine zam.cons ?_ ?_|refine zak.cons ?_ ?_|refine LeV.agg ?_|refine LeV.tup ?_|refine LeV.fn ?_ ?_|exact LeV.nil _|refine zao (zak.refl _) ?_) | ((refine zaL rfl (by simp [lq]) (by simp [zbB, zb5, upd, noH]) ?_); (first | (simp [go_sem, lq]; done) | (simp [go_sem, lq]; exact List.take_of_length_le (by simp [lq])))) | ((refine LeV.frz rfl (by simp [lq]) (by simp [zbB, zb5, upd, noH]) ?_); (simp only [List.drop_zero, List.take_succ_cons, List.take_zero, List.map_cons, List.map_nil])) | ((refine LeV.frzP rfl (by simp [lq]) (by simp) (by simp [zbB, zb5, upd, noH]) ?_); (simp only [zbe, List.drop_zero])))))
      · exact ⟨by omega, by simp [okJ]⟩
      · simp [go_sem, zaf, zxl]
        exact of_eq_true (hgb 4)
      · simp
theorem znv {g : zac} (h : zbO g = true) : zrC g := by
 unfold zbO at h
 simp only [Bool.and_eq_true, decide_eq_true_eq, Bool.not_eq_true', List.any_eq_false] at h
 exact ⟨fun k hk => by have := h.1.1.2 k hk; simpa using this, h.1.1.1.1.2⟩
structure FitC (g : zac) (c : zga) : Prop where
 sh : zmG g c
 len : ∀ l ∈ c.1 ++ c.2, ∀ x ∈ l, x.length ≤ 1099511627776 ∧ zio 1048576 x
theorem zv3 {g : zac} (hg : GOk g) : FitC g (zdj g) := by
 refine ⟨zro hg, ?_⟩
 have h : ∀ s, ∀ l ∈ zce g s, ∀ x ∈ l, x.length ≤ 1099511627776 ∧ zio 1048576 x := by
  intro s l hl x hx
  obtain ⟨k, hk, rfl⟩ := List.mem_map.1 hl
  obtain ⟨c, _, rfl⟩ := List.mem_map.1 hx
  exact ⟨by have := zhn hg s hk (c : Nat); omega, zlX hg s hk _⟩
 intro l hl
 rcases List.mem_append.1 hl with hl | hl
 ·exact h 0 l hl
 ·exact h 1 l hl
theorem FitC.side {g : zac} {c : zga} (h : FitC g c) {s : Nat} (hs : s < 2) : ∃ l, cel [zaC c.1, zaC c.2] s = zaC l ∧ l.length = g.kinds.length ∧ (∀ x ∈ l, (x.length : Int) = g.cells) ∧ ∀ x ∈ l, ∀ y ∈ x, y.length ≤ 1099511627776 ∧ zio 1048576 y := by
 rcases (show s = 0 ∨ s = 1 by omega) with rfl | rfl
 ·exact ⟨_, rfl, h.sh.l1, h.sh.c1, fun x hx => h.len x (by simp [hx])⟩
 ·exact ⟨_, rfl, h.sh.l2, h.sh.c2, fun x hx => h.len x (by simp [hx])⟩
theorem ztP (d e k r : Int) (i : Nat) : zat (nth (zpG d e k r) i) 2 ≤ 1 := by
 rcases Nat.lt_or_ge i 16 with h | h
 ·have : ∀ p ∈ zpG d e k r, zat p 2 ≤ 1 := by
   intro p hp
   simp only [zpG, List.mem_cons, List.not_mem_nil, or_false] at hp
   rcases hp with rfl | rfl | rfl | rfl | rfl | rfl | rfl | rfl | rfl | rfl | rfl | rfl | rfl | rfl | rfl | rfl <;> simp [zat]
  exact this _ (zah h)
 ·have e : nth (zpG d e k r) i = [] := by
   unfold nth
   rw [List.getD_eq_getElem?_getD, List.getElem?_eq_none (by exact h)]; rfl
  rw [e]
  simp [zat]
theorem ztx {dirs kinds rights : Int} {p : List (Int × Int)} (h : zat p 2 ≤ 1) : zat (zzv dirs kinds rights p) 2 ≤ 1 := by
 unfold zzv
 split
 ·simp [zat]
 ·exact Nat.le_trans (zfz 2 p) h
theorem zgK (x : zir) : zeD (zdd x) := by
 intro k hk p hp
 obtain ⟨i, _, rfl⟩ := List.mem_map.1 hk
 obtain ⟨n, _, rfl⟩ := List.mem_map.1 hp
 exact ztx (ztP _ _ _ _ _)
theorem zpk {g : zac} (h : zeD g) : zeD (zcB g) := by
 intro k hk p hp
 obtain ⟨k', hk', rfl⟩ := List.mem_map.1 hk
 exact h k' hk' p (List.mem_filter.1 hp).1
theorem zfp {g : zac} (h : zeD g) (w : Int) : zeD (zdz g w) := zpk h
theorem zpb (g : zac) : zbO (zcB g) = true := by
 unfold zbO zcB
 simp [zgs]
theorem zfE (g : zac) (w : Int) : zbO (zdz g w) = true := zpb g
theorem zfN (g : zac) (hg : GOk g) (hs : zeD g) : zaJ Tryz.prog 16 [.agg (zad g)] (.v (.bool (decide (zg9 (zdj g) ≤ 3000)))) := by
 refine pF Tryz.func16 ?_
 have hC := zmz g hg
 have hF := zv3 hg
 have hcnt := zvG hg hs
 have hk6 := hg.k6
 have hc9 := hg.c9
 have hc1 := hg.c1
 have hN := zpL (zdj g) (by omega) (by rw [hF.sh.l1]; omega) (by rw [hF.sh.l2]; omega) (fun y hy => by
  rcases List.mem_append.1 hy with h | h
  ·have := hF.sh.c1 y h; omega
  ·have := hF.sh.c2 y h; omega)
 have hgb : ∀ n, (∀ c ∈ zad g, Bel n c) = True := fun n => by simp [go_sem]
 obtain ⟨eg, heg⟩ : ∃ eg, eg = zad g := ⟨_, rfl⟩
 have hel : eg.length = 9 := by rw [heg]; rfl
 rw [← heg] at hC hgb ⊢
 clear heg
 have hecl : (zcX (zdj g)).length = 2 := rfl
 have hecb : ∀ n, (∀ c ∈ zcX (zdj g), Bel n c) = True := fun n => by simp [go_sem]
 generalize zcX (zdj g) = ec at *
 repeat first|refine wV fun _=>?_|simp [go_sem, hel]
 refine zBi hC (by simp [go_sem, hgb]) ?_
 repeat first|refine wV fun _=>?_|simp [go_sem, hel, hecl]
 refine zBi hN (by simp [go_sem, hecb]) ?_
 have e : decide ((zg9 (zdj g) : Int) ≤ 3000) = decide (zg9 (zdj g) ≤ 3000) := by
  refine decide_eq_decide.2 ?_; omega
 repeat first|refine wV fun _=>?_|simp [go_sem, e]
def gS : zac := ⟨4, [[1, -1, 3, -1]], [0], [⟨zea, [[(1, 0)]], false⟩], 0, false, [], 3, 2⟩
def gM : zac := { gS with must := true }
def pS : zal := ⟨[1, 0, 1, 0], [0], [0], 0, 0⟩
def qS : zal := ⟨[1, 0, 0, 0], [0], [0], 0, 0⟩
def rS : zal := ⟨[0, 0, 1, 0], [0], [0], 0, 0⟩
theorem zAx : zgi 1 1 0 [(1, 0)] := ⟨by simp, by simp, by simp; exact ⟨by simp, by simp, by simp, by simp, by simp⟩, by decide, by decide, by decide⟩
theorem zyr : zaR gS.board := ⟨rfl, by simp [gS, zac.board], by simp [gS, zac.board], by simp [gS, zac.board], by simp [gS, zac.board], by simp [gS, zac.board], by simp [gS, zac.board]⟩
theorem zcZ : GOk gS := by
 refine ⟨zyr, by decide, by decide, by decide, by decide, ?_, by decide, by decide, ?_, ?_, by decide, by decide, by simp [gS], by decide, by decide, by decide⟩
 ·intro d hd
  have : d = 0 := by simp [gS] at hd; exact hd
  subst this; rfl
 ·intro k hk
  simp [gS] at hk; subst hk; simp
 ·intro k hk p hp
  simp [gS] at hk; subst hk
  simp at hp; subst hp
  exact zAx
theorem gM_ok : GOk gM := ⟨zcZ.board, zcZ.c1, zcZ.c9, zcZ.d1, zcZ.d8, zcZ.turn, zcZ.k1, zcZ.k6, zcZ.pn, zcZ.pr, zcZ.r0, zcZ.r4, zcZ.cl, zcZ.cn, zcZ.bl, zcZ.en⟩
theorem zi9 : zb8 gS := .inl rfl
theorem zrY : zb8 gM := .inl rfl
theorem zv6 : ofG gS = [0, 0, 2, 2] := by decide +kernel
theorem zys : zaW (ofG gS) pS = [qS, rS] := by rw [zv6]; decide +kernel
theorem gS_jo : zeq gS [qS, rS] = true := by unfold zeq nmG; rw [zv6]; decide +kernel
theorem gS_jr : zeP gS [qS, rS] = pS := by unfold zeP; rw [gS_jo, zv6]; decide +kernel
theorem zzw : zeq gS [rS, qS] = false := by unfold zeq nmG; rw [zv6]; decide +kernel
theorem gS_jr2 : zeP gS [rS, qS] = zuy := by unfold zeP; rw [zzw]; rfl
theorem zdS : ze5 gS [0] := ⟨rfl, fun i hi => by
 have : i = 0 := by simp at hi; exact hi
 subst this; decide⟩
theorem zAW : POk gS pS := ⟨rfl, by simp [pS, gS], zdS, zdS, by decide, by decide, .inl rfl⟩
theorem pM_ok : POk gM pS := ⟨rfl, by simp [pS, gM, gS], ⟨rfl, zdS.v⟩, ⟨rfl, zdS.v⟩, by decide, by decide, .inl rfl⟩
theorem zy2 : POk gS qS := ⟨rfl, by simp [qS, gS], zdS, zdS, by decide, by decide, .inl rfl⟩
theorem zy3 : POk gS rS := ⟨rfl, by simp [rS, gS], zdS, zdS, by decide, by decide, .inl rfl⟩
theorem ze2 : zaJ Tryz.prog 13 [] (.v (.bool true)) := by
 refine pF Tryz.func13 ?_
 have hS := zeY gS zcZ zi9 pS zAW
 rw [zys, show zbO gS = true from rfl] at hS
 have hM := zeY gM gM_ok zrY pS pM_ok
 rw [show zbO gM = false from rfl] at hM
 have hJ := zig gS zcZ zi9 [qS, rS] (by simp; exact ⟨zy2, zy3⟩) (by simp)
 rw [gS_jo, gS_jr] at hJ
 have hK := zig gS zcZ zi9 [rS, qS] (by simp; exact ⟨zy3, zy2⟩) (by simp)
 rw [zzw, gS_jr2] at hK
 have hO := zji gS zcZ
 change zaJ _ _ _ (zaj (ofG gS)) at hO
 rw [zv6] at hO
 have hL := zhI [qS, rS] [qS, rS] (by simp) (by simp) (by simp; exact ⟨zy2.fits zcZ, zy3.fits zcZ⟩) (by simp; exact ⟨zy2.fits zcZ, zy3.fits zcZ⟩)
 have hI := zsv [0, 0, 2, 2] [0, 0, 2, 2] (by simp [zfk]) (by simp [zfk])
 have hE := zeG pS pS (zAW.fits zcZ) (zAW.fits zcZ)
 rw [show decide (zcK pS pS = 0) = true from rfl] at hE
 rw [show decide (([qS, rS] : List zal) = [qS, rS]) = true from by simp] at hL
 rw [show decide (([0, 0, 2, 2] : List Int) = [0, 0, 2, 2]) = true from rfl] at hI
 have hN := zdZ gS zcZ zi9
 have hNM := zdZ gM gM_ok zrY
 rw [show zbO gS = true from rfl] at hN
 rw [show zbO gM = false from rfl] at hNM
 repeat first|refine wV fun _=>?_|simp [go_sem]
 refine zBp [0, 1, 2, 4, 5, 6, 8, 9, 10] hS ?_ (by simp [go_sem]) ?_
 ·simp only [gS, gM, zea, pS, qS, rS, zad, zag, zaV, za1, zaj, zbd, zay, zaE, List.map_cons, List.map_nil]; (first|done|exact leX)
 repeat first|refine wV fun _=>?_|simp [go_sem]
 refine zBp [12, 13, 14, 16, 17, 18, 20] hJ ?_ (by simp [go_sem]) ?_
 ·simp only [gS, gM, zea, pS, qS, rS, zad, zag, zaV, za1, zaj, zbd, zay, zaE, List.map_cons, List.map_nil]; (first|done|exact leX)
 repeat first|refine wV fun _=>?_|simp [go_sem]
 refine zBp [22] hK ?_ (by simp [go_sem]) ?_
 ·simp only [gS, gM, zea, pS, qS, rS, zad, zag, zaV, za1, zaj, zbd, zay, zaE, List.map_cons, List.map_nil]; (first|done|exact leX)
 repeat first|refine wV fun _=>?_|simp [go_sem]
 refine zBp [] hM ?_ (by simp [go_sem]) ?_
 ·simp only [gS, gM, zea, pS, qS, rS, zad, zag, zaV, za1, zaj, zbd, zay, zaE, List.map_cons, List.map_nil]; (first|done|exact leX)
 repeat first|refine wV fun _=>?_|simp [go_sem]
 refine zBK ?_
 refine zBu hL (.v _) ?_ (by simp [go_sem]) ?_
 ·simp only [gS, gM, zea, pS, qS, rS, zad, zag, zaV, za1, zaj, zbd, zay, zaE, List.map_cons, List.map_nil]; (first|done|exact leX)
 repeat first|refine wV fun _=>?_|simp [go_sem]
 refine zBK ?_
 refine zBu hE (.v _) ?_ (by simp [go_sem]) ?_
 ·simp only [pS, zag, zaj, zbd, List.map_cons, List.map_nil]; (first|done|exact leX)
 repeat first|refine wV fun _=>?_|simp [go_sem]
 refine zBK ?_
 refine zBp [] hO ?_ (by simp [go_sem]) ?_
 ·simp only [gS, gM, zea, pS, qS, rS, zad, zag, zaV, za1, zaj, zbd, zay, zaE, List.map_cons, List.map_nil]; (first|done|exact leX)
 repeat first|refine wV fun _=>?_|simp [go_sem]
 refine zBK ?_
 refine zBu hI (.v _) ?_ (by simp [go_sem]) ?_
 ·simp only [zaj, zbd, List.map_cons, List.map_nil]; (first|done|exact leX)
 repeat first|refine wV fun _=>?_|simp [go_sem]
 refine zBK ?_
 refine zBu hN (.v _) ?_ (by simp [go_sem]) ?_
 ·simp only [gS, gM, zea, pS, qS, rS, zad, zag, zaV, za1, zaj, zbd, zay, zaE, List.map_cons, List.map_nil]; (first|done|exact leX)
 repeat first|refine wV fun _=>?_|simp [go_sem]
 refine zBK ?_
 refine zBu hNM (.v _) ?_ (by simp [go_sem]) ?_
 ·simp only [gS, gM, zea, pS, qS, rS, zad, zag, zaV, za1, zaj, zbd, zay, zaE, List.map_cons, List.map_nil]; (first|done|exact leX)
 repeat first|refine wV fun _=>?_|simp [go_sem]
theorem zgz (g : zac) (hg : GOk g) (x : ziO) (hx : ze6 x) : zaJ Tryz.prog 17 [.agg (zad g), .agg (zbp x)] (.agg (zag (zd7 g x))) := by
 refine pF Tryz.func17 ?_
 obtain ⟨q, hq⟩ : ∃ q, q = zd7 g x := ⟨_, rfl⟩
 have hrow := zmj hx
 obtain ⟨er, her⟩ : ∃ er, er = zbp x := ⟨_, rfl⟩
 rw [← hq, ← her]
 rw [← her] at hrow
 obtain ⟨rl, rc, rk, rh, rr, rs, rb⟩ := hrow
 have c1 := hg.c1
 have c9 := hg.c9
 have k1 := hg.k1
 have k6 := hg.k6
 have hr0 := hg.r0
 have hr4 := hg.r4
 obtain ⟨gc, hgc⟩ : ∃ gc : Nat, g.cells = gc := ⟨g.cells.toNat, by omega⟩
 have hpow : (1 : Int) ≤ 2 ^ g.rights.toNat ∧ (2 : Int) ^ g.rights.toNat ≤ 16 := by
  rcases (show g.rights.toNat = 0 ∨ g.rights.toNat = 1 ∨ g.rights.toNat = 2 ∨ g.rights.toNat = 3 ∨ g.rights.toNat = 4 by omega) with h | h | h | h | h <;> rw [h] <;> decide
 have hrt := hx.r
 have hsd := hx.s
 obtain ⟨rt, hrt'⟩ : ∃ rt, x.rights = rt := ⟨_, rfl⟩
 obtain ⟨pw, hpw⟩ : ∃ pw : Int, (2 : Int) ^ g.rights.toNat = pw := ⟨_, rfl⟩
 have r1 : 0 ≤ x.rights ∧ x.rights ≤ 255 := hx.r
 have s1 : 0 ≤ x.side ∧ x.side ≤ 255 := hx.s
 have s0 := Int.tmod_nonneg 2 s1.1
 have s2 := Int.tmod_lt_of_pos x.side (show (0 : Int) < 2 by decide)
 rw [hpw] at hpow
 generalize heg : zad g = eg at *
 have hel : eg.length = 9 := by rw [← heg]; rfl
 have hbl : ∀ n, (∀ c' ∈ eg, Bel n c') = True := fun n => by rw [← heg]; simp [go_sem]
 have e0 : cel eg 0 = .v (.int .i64 g.cells) := by rw [← heg]; rfl
 have e3 : cel eg 3 = .lst 3 (g.kinds.map zay) := by rw [← heg]; rfl
 have e4 : cel eg 4 = .v (.int .i64 g.rights) := by rw [← heg]; rfl
 repeat first|refine wV fun _=>?_|simp [go_sem, hel, e0, e3, e4, rl, rr, rs, rb, hbl, hpw]
 have hcz : g.cells.toNat = gc := by omega
 have hkne : g.kinds ≠ [] := by intro h; rw [h] at k1; simp at k1
 have hz : List.replicate gc [AV.v (.int .i64 0)] = (zcq g x 0).map zbd := by simp [zcq, hcz, zbd]
 refine zBh (zBk (α := Nat) (fun i => ⟨[(2, .ref 0 0 9 0 0), (3, .ref 1 0 18 0 0), (4, .ref 2 0 5 0 0), (5, .ref 19 0 5 0 0), (6, .v (.int .i64 i))], [(0, .rows true 0 9 [eg]), (1, .rows true 0 18 [er]), (2, .rows true 0 5 [[zBo, zBo, zBo, .v (.int .i64 0), .v (.int .i64 0)]]), (6, .rows true 0 1 ((zcq g x i).map zbd)), (19, .rows true 0 5 [[.sl 6 0 1 0 gc, zBo, zBo, .v (.int .i64 (x.rights.tmod pw)), .v (.int .i64 (x.side.tmod 2))]])], 21⟩)
  (fun d i => i + d = 6) ?_ 6 0 ?_) ?_ ?_
 ·rintro d i i1 hrec
  repeat first|refine wV fun _=>?_|simp [go_sem]
  refine zBj (fun hi => ?_) (fun hi => ?_) <;> simp at hi
  ·have hci := hx.cv _ (zah (l := x.cell) (i := i) (by rw [hx.c6]; omega))
   have hki := hx.kv _ (zah (l := x.kind) (i := i) (by rw [hx.k6]; omega))
   have hci' : 0 ≤ nth x.cell i ∧ nth x.cell i ≤ 255 := hci
   have hki' : 0 ≤ nth x.kind i ∧ nth x.kind i ≤ 255 := hki
   have m0 := Int.tmod_nonneg (g.cells + 1) hci'.1
   have m1 := Int.tmod_nonneg (g.kinds.length : Int) hki'.1
   have m2 := Int.tmod_lt_of_pos (nth x.kind i) (show (0 : Int) < g.kinds.length by omega)
   have m3 := Int.tmod_nonneg 2 (show (0 : Int) ≤ i by omega)
   have m4 := Int.tmod_lt_of_pos (i : Int) (show (0 : Int) < 2 by decide)
   have hrc := rc i (by omega)
   have hrk := rk i (by omega)
   have hsu := zeS g x i
   have hal := zer g x i
   rw [hcz] at hal
   unfold zjD at hsu
   repeat first|refine wV fun _=>?_|simp [go_sem, hel, e0, e3, e4, hrc, hrk]
   refine zBj (fun hc => ?_) (fun hc => ?_) <;> simp at hc
   ·have hc1 := hc.1
    rw [if_pos hc1] at hsu
    repeat first|refine wV fun _=>?_|simp [go_sem, hel, e0, e3, e4, hrc, hrk, hal]
    refine zBh (hrec (d - 1) (by omega) (i + 1) (by omega)) ?_ (by simp)
    simp [go_sem, zaf, hsu, rb, hbl]
   ·have hc1 : ¬ (nth x.cell i).tmod (g.cells + 1) < g.cells := fun h => hkne (hc h)
    rw [if_neg hc1] at hsu
    repeat first|refine wV fun _=>?_|simp [go_sem, hel, e0, e3, e4, hrc, hrk]
    refine zBh (hrec (d - 1) (by omega) (i + 1) (by omega)) ?_ (by simp)
    simp [go_sem, zaf, hsu, rb, hbl]
  ·obtain rfl : i = 6 := by omega
   have hal := zer g x 6
   rw [hcz] at hal
   have hqe : q = ⟨zcq g x 6, zdc g x 0 (min g.kinds.length 2), zdc g x 1 (min g.kinds.length 2), x.rights.tmod pw, x.side.tmod 2⟩ := by rw [hq, ← hpw]; rfl
   clear hq
   have hq := hqe
   repeat first|refine wV fun _=>?_|simp [go_sem, hel, e0, e3, e4]
   refine zBn ?_
   repeat first|refine wV fun _=>?_|simp [go_sem, hel, e0, e3, e4]
   have hz0 := zf0 g x 0
   refine zBh (zBk (α := Nat) (fun k => ⟨[(2, .ref 0 0 9 0 0), (3, .ref 1 0 18 0 0), (4, .ref 2 0 5 0 0), (5, .ref 19 0 5 0 0), (8, .v (.int .i64 0)), (9, .v (.int .i64 k))], [(0, .rows true 0 9 [eg]), (1, .rows true 0 18 [er]), (2, .rows true 0 5 [[zBo, zBo, zBo, .v (.int .i64 0), .v (.int .i64 0)]]), (6, .rows true 0 1 ((zcq g x 6).map zbd)), (19, .rows true 0 5 [[.sl 6 0 1 0 gc, .sl 21 0 1 0 g.kinds.length, zBo, .v (.int .i64 (x.rights.tmod pw)), .v (.int .i64 (x.side.tmod 2))]]), (21, .rows true 0 1 ((zdc g x 0 k).map zbd))], 22⟩)
    (fun d k => k + d = min g.kinds.length 2) ?_ (min g.kinds.length 2) 0 ?_) ?_ ?_
   ·rintro d k j1 hrec0
    repeat first|refine wV fun _=>?_|simp [go_sem, hel, e0, e3, e4]
    refine zBj (fun hj => ?_) (fun hj => ?_) <;> simp at hj
    ·have hk2 : k < 2 := by omega
     have hkk : k < g.kinds.length := by omega
     have hhv := hx.hv _ (zah (l := x.hand) (i := 2 * 0 + k) (by rw [hx.h4]; omega))
     have hh1 : 0 ≤ nth x.hand (2 * 0 + k) ∧ nth x.hand (2 * 0 + k) ≤ 255 := hhv
     have hrh := rh (2 * 0 + k) (by omega)
     have m0 := Int.tmod_nonneg 3 hh1.1
     have hsu := zfZ g x 0 k
     have hsk := zfY g x 0 k
     have hhl := zbT g x 0 k
     have hV : znl g x 0 k = if (nth g.kinds k).keep = true then (if 250 < nth x.hand (2 * 0 + k) then 8 else (nth x.hand (2 * 0 + k)).tmod 3) else 0 := rfl
     simp only [Nat.mul_zero, Nat.zero_add, Nat.mul_one] at hrh hh1 m0 hV
     repeat first|refine wV fun _=>?_|simp [go_sem, hel, e0, e3, e4, hkk]
     refine zBj (fun hkeep => ?_) (fun hkeep => ?_)
     ·rw [if_pos hkeep] at hV
      have eI : ((k : Int)).toNat = k := by omega
      have eI2 : (k : Int) < 4 := by omega
      repeat first|refine wV fun _=>?_|simp [go_sem, hel, e0, e3, e4, hkk, hrh, hhl, eI, eI2]
      refine zBj (fun hbig => ?_) (fun hbig => ?_) <;> simp at hbig
      ·rw [if_pos hbig] at hV
       rw [hV] at hsu
       repeat first|refine wV fun _=>?_|simp [go_sem, hel, e0, e3, e4, hkk, hrh, hhl]
       refine zBh (hrec0 (d - 1) (by omega) (k + 1) (by omega)) ?_ (by simp)
       simp [go_sem, zaf, hsu, rb, hbl]
      ·rw [if_neg (by omega)] at hV
       rw [hV] at hsu
       repeat first|refine wV fun _=>?_|simp [go_sem, hel, e0, e3, e4, hkk, hrh, hhl]
       refine zBh (hrec0 (d - 1) (by omega) (k + 1) (by omega)) ?_ (by simp)
       simp [go_sem, zaf, hsu, rb, hbl]
     ·rw [if_neg (by simpa using hkeep)] at hV
      have hsk' := hsk hV
      repeat first|refine wV fun _=>?_|simp [go_sem, hel, e0, e3, e4]
      refine zBh (hrec0 (d - 1) (by omega) (k + 1) (by omega)) ?_ (by simp)
      simp [go_sem, zaf, hsk', rb, hbl]
    ·have hkm : k = min g.kinds.length 2 := by omega
     subst hkm
     repeat first|refine wV fun _=>?_|simp [go_sem, hel, e0, e3, e4]
     refine zBn ?_
     repeat first|refine wV fun _=>?_|simp [go_sem, hel, e0, e3, e4]
     have hz1 := zf0 g x 1
     refine zBh (zBk (α := Nat) (fun k => ⟨[(2, .ref 0 0 9 0 0), (3, .ref 1 0 18 0 0), (4, .ref 2 0 5 0 0), (5, .ref 19 0 5 0 0), (8, .v (.int .i64 1)), (9, .v (.int .i64 k))], [(0, .rows true 0 9 [eg]), (1, .rows true 0 18 [er]), (2, .rows true 0 5 [[zBo, zBo, zBo, .v (.int .i64 0), .v (.int .i64 0)]]), (6, .rows true 0 1 ((zcq g x 6).map zbd)), (19, .rows true 0 5 [[.sl 6 0 1 0 gc, .sl 21 0 1 0 g.kinds.length, .sl 22 0 1 0 g.kinds.length, .v (.int .i64 (x.rights.tmod pw)), .v (.int .i64 (x.side.tmod 2))]]), (21, .rows true 0 1 ((zdc g x 0 (min g.kinds.length 2)).map zbd)), (22, .rows true 0 1 ((zdc g x 1 k).map zbd))], 23⟩)
      (fun d k => k + d = min g.kinds.length 2) ?_ (min g.kinds.length 2) 0 ?_) ?_ ?_
     ·rintro d k j1 hrec1
      repeat first|refine wV fun _=>?_|simp [go_sem, hel, e0, e3, e4]
      refine zBj (fun hj => ?_) (fun hj => ?_) <;> simp at hj
      ·have hk2 : k < 2 := by omega
       have hkk : k < g.kinds.length := by omega
       have hhv := hx.hv _ (zah (l := x.hand) (i := 2 * 1 + k) (by rw [hx.h4]; omega))
       have hh1 : 0 ≤ nth x.hand (2 * 1 + k) ∧ nth x.hand (2 * 1 + k) ≤ 255 := hhv
       have hrh := rh (2 * 1 + k) (by omega)
       have m0 := Int.tmod_nonneg 3 hh1.1
       have hsu := zfZ g x 1 k
       have hsk := zfY g x 1 k
       have hhl := zbT g x 1 k
       have hV : znl g x 1 k = if (nth g.kinds k).keep = true then (if 250 < nth x.hand (2 * 1 + k) then 8 else (nth x.hand (2 * 1 + k)).tmod 3) else 0 := rfl
       simp only [Nat.mul_zero, Nat.zero_add, Nat.mul_one] at hrh hh1 m0 hV
       repeat first|refine wV fun _=>?_|simp [go_sem, hel, e0, e3, e4, hkk]
       refine zBj (fun hkeep => ?_) (fun hkeep => ?_)
       ·rw [if_pos hkeep] at hV
        have eI : (2 + (k : Int)).toNat = 2 + k := by omega
        have eI2 : 2 + (k : Int) < 4 := by omega
        repeat first|refine wV fun _=>?_|simp [go_sem, hel, e0, e3, e4, hkk, hrh, hhl, eI, eI2]
        refine zBj (fun hbig => ?_) (fun hbig => ?_) <;> simp at hbig
        ·rw [if_pos hbig] at hV
         rw [hV] at hsu
         repeat first|refine wV fun _=>?_|simp [go_sem, hel, e0, e3, e4, hkk, hrh, hhl]
         refine zBh (hrec1 (d - 1) (by omega) (k + 1) (by omega)) ?_ (by simp)
         simp [go_sem, zaf, hsu, rb, hbl]
        ·rw [if_neg (by omega)] at hV
         rw [hV] at hsu
         repeat first|refine wV fun _=>?_|simp [go_sem, hel, e0, e3, e4, hkk, hrh, hhl]
         refine zBh (hrec1 (d - 1) (by omega) (k + 1) (by omega)) ?_ (by simp)
         simp [go_sem, zaf, hsu, rb, hbl]
       ·rw [if_neg (by simpa using hkeep)] at hV
        have hsk' := hsk hV
        repeat first|refine wV fun _=>?_|simp [go_sem, hel, e0, e3, e4]
        refine zBh (hrec1 (d - 1) (by omega) (k + 1) (by omega)) ?_ (by simp)
        simp [go_sem, zaf, hsk', rb, hbl]
      ·have hkm : k = min g.kinds.length 2 := by omega
       subst hkm
       repeat first|refine wV fun _=>?_|simp [go_sem, hel, e0, e3, e4]
       repeat first|refine wV fun _=>?_|simp [go_sem, hel, e0, e3, e4]
       refine zBn ?_
       repeat first|refine wV fun _=>?_|simp [go_sem, hel, e0, e3, e4]
       rw [hq]
       exact ⟨zaL rfl (by simp [hal]) (by simp [noH]) (by simp [List.take_of_length_le, hal]), zaL rfl (by simp [zbT]) (by simp [noH]) (by simp [List.take_of_length_le, zbT]), zaL rfl (by simp [zbT]) (by simp [noH]) (by simp [List.take_of_length_le, zbT]), .refl _, .refl _⟩
     ·omega
     ·simp [go_sem, zaf, rb, hbl, hz1]
     ·simp
   ·omega
   ·simp [go_sem, zaf, rb, hbl, hz0]
   ·simp
 ·rfl
 ·simp [go_sem, zaf, rb, hbl, hz, hcz]
 ·simp
theorem regG {g : zac} (hg : GOk g) : znL g := ⟨hg, zc3 hg 0, zc3 hg 1⟩
theorem znw {g : zac} (h : zbO g = true) : zff g := by
 have hn := znv h
 unfold zbO at h
 simp only [Bool.and_eq_true, decide_eq_true_eq, Bool.not_eq_true'] at h
 exact ⟨hn, List.length_eq_zero_iff.1 h.1.1.1.1.1, h.1.1.1.2⟩
theorem zzd {P : Program} {t : TypeId} {fn : Fn} {first caps : Array Value} {l : List UInt8} (hl : l ≠ []) (h : funcToken P (t, .func fn first caps) = l) :
  ∃ f F, fn = .func f ∧ first = #[] ∧ caps = #[] ∧ P.funcs[f]? = some F ∧ P.funcNamed F.name = some f ∧ F.name.toUTF8.data.toList = l := by
 unfold funcToken at h
 cases fn with
 | func f =>
  simp only at h
  split at h
  ·rename_i hc
   simp only [Bool.and_eq_true, Array.isEmpty_iff] at hc
   split at h
   ·rename_i F hF
    split at h
    ·rename_i hn
     exact ⟨f, F, rfl, hc.1, hc.2, hF, by simpa using hn, h⟩
    ·exact absurd h.symm hl
   ·exact absurd h.symm hl
  ·exact absurd h.symm hl
 | _ => exact absurd h.symm hl
theorem zrv {P : Program} {w : World} {sp : Nat → Bool} {fuel : Nat} {e : TypeId} {d : TypeDesc} {v : Value} {l : List UInt8} {q : List MemPlace} (hd : P.underlying e = some d) (hf : ∃ a b c, d = .func a b c) (h : DataW.trod (funcToken P) P w 0 sp true fuel e [v] = some (.held l, q)) :
  ∃ fn first caps, v = .func fn first caps ∧ funcToken P (e, .func fn first caps) = l := by
 obtain ⟨a, b, c, rfl⟩ := hf
 cases fuel with
 | zero => simp [DataW.trod] at h
 | succ fuel =>
  simp only [DataW.trod, hd] at h
  cases v <;> simp at h
  exact ⟨_, _, _, rfl, h.1⟩
theorem zxr {P : Program} {w : World} {sp : Nat → Bool} {fuel : Nat} {e : TypeId} {d : TypeDesc} {v : Value} {q : List MemPlace} (hd : P.underlying e = some d) (hf : ∃ a b c, d = .func a b c) (h : DataW.trod (funcToken P) P w 0 sp true fuel e [v] = some (.nil, q)) : v = .nilFunc := by
 obtain ⟨a, b, c, rfl⟩ := hf
 cases fuel with
 | zero => simp [DataW.trod] at h
 | succ fuel =>
  simp only [DataW.trod, hd] at h
  cases v <;> simp at h
  rfl
theorem zth {a b : String} (h : a.toUTF8.data.toList = b.toUTF8.data.toList) : a = b := by
 have h1 : a.toUTF8 = b.toUTF8 := ByteArray.ext (Array.toList_inj.1 h)
 exact String.toByteArray_inj.1 h1
theorem zng {n : String} {k : FuncId} {l : List UInt8} {t : TypeId} {fn : Fn} {first caps : Array Value} (hk : Tryz.prog.funcNamed n = some k) (hl : n.toUTF8.data.toList = l) (hne : l ≠ []) (h : funcToken Tryz.prog (t, .func fn first caps) = l) : fn = .func k ∧ first = #[] ∧ caps = #[] := by
 obtain ⟨f, F, h1, h2, h3, h4, h5, h6⟩ := zzd hne h
 have e : F.name = n := zth (h6.trans hl.symm)
 rw [e, hk] at h5
 cases h5
 exact ⟨h1, h2, h3⟩
def zg8 : DataW Unit := .agg [.nil, .iface "func" (.lit (.string [115, 107, 101, 119, 101, 114, 47, 112, 108, 97, 121, 46, 99, 111, 110, 100, 105, 116, 105, 111, 110, 115, 36, 49])), .iface "func" (.lit (.string [115, 107, 101, 119, 101, 114, 47, 112, 108, 97, 121, 46, 99, 111, 110, 100, 105, 116, 105, 111, 110, 115, 36, 50])), .iface "func" (.lit (.string [115, 107, 101, 119, 101, 114, 47, 112, 108, 97, 121, 46, 99, 111, 110, 100, 105, 116, 105, 111, 110, 115, 36, 51]))]
theorem zqx {W : World} (h : funcsAt Tryz.prog W "skewer/play.conditions" zg8) :
  ∃ cs T fz, W.heap[0]? = some (.cells cs T fz) ∧ cs.toList = [.nilFunc, .func (.func 359) #[] #[], .func (.func 361) #[] #[], .func (.func 362) #[] #[]] := by
 obtain ⟨g, t, cs, fuel, p, hg, ht, hcs, htr⟩ := h
 obtain rfl : g = 0 := (Option.some.inj ((show Tryz.prog.globalNamed "skewer/play.conditions" = some 0 by kernel_rfl).symm.trans hg)).symm
 obtain rfl : t = 198 := (Option.some.inj ((show (Tryz.prog.globals[0]?).map (·.type) = some 198 by kernel_rfl).symm.trans ht)).symm
 have hu : Tryz.prog.underlying 198 = some (.array 4 197) := by kernel_rfl
 have hc1 : Tryz.prog.cellsOf 197 = 1 := by kernel_rfl
 have hc4 : Tryz.prog.cellsOf 198 = 4 := by kernel_rfl
 have hheap : ∃ T fz, W.heap[0]? = some (.cells cs T fz) := by
  unfold World.var? at hcs
  rw [show Tryz.prog.globalNamed "skewer/play.conditions" = some 0 by kernel_rfl] at hcs
  simp only [Option.bind_some] at hcs
  split at hcs
  ·rename_i c T fz hb
   cases hcs
   exact ⟨T, fz, hb⟩
  ·cases hcs
 obtain ⟨T, fz, hb⟩ := hheap
 refine ⟨cs, T, fz, hb, ?_⟩
 cases fuel with
 | zero => simp [DataW.trod] at htr
 | succ fuel =>
  simp only [DataW.trod, hu, hc1, hc4, Nat.mul_one] at htr
  split at htr
  ·rename_i hl
   match hcl : cs.toList, hl with
   | [a, b, c, d], _ =>
    rw [hcl] at htr
    obtain ⟨xs, hm, hx⟩ := Option.map_eq_some_iff.1 htr
    simp only [show List.range 4 = [0, 1, 2, 3] from rfl, List.mapM_cons, List.mapM_nil, List.drop_zero, List.drop_succ_cons, List.take_succ_cons, List.take_zero, Option.bind_eq_bind, Option.bind_eq_some_iff, Option.pure_def, Option.some.injEq] at hm
    obtain ⟨⟨y0, q0⟩, h0, l1, ⟨⟨y1, q1⟩, h1, l2, ⟨⟨y2, q2⟩, h2, l3, ⟨⟨y3, q3⟩, h3, l4, rfl, rfl⟩, rfl⟩, rfl⟩, rfl⟩ := hm
    have hx1 := congrArg Prod.fst hx
    simp only [zg8, DataW.funcsOut, DataW.funcsOutAll, List.map_cons, List.map_nil, DataW.agg.injEq, List.cons.injEq, and_true] at hx1
    simp at hx1
    obtain ⟨rfl, rfl, rfl, rfl⟩ := hx1
    have hd : Tryz.prog.underlying 197 = some (.func #[39, 45, 75] #[4] false) := by kernel_rfl
    have hf : ∃ a b c, TypeDesc.func #[39, 45, 75] #[4] false = .func a b c := ⟨_, _, _, rfl⟩
    obtain rfl := zxr hd hf h0
    obtain ⟨f1, i1, c1, rfl, t1⟩ := zrv hd hf h1
    obtain ⟨f2, i2, c2, rfl, t2⟩ := zrv hd hf h2
    obtain ⟨f3, i3, c3, rfl, t3⟩ := zrv hd hf h3
    obtain ⟨rfl, rfl, rfl⟩ := zng (n := "skewer/play.conditions$1") (k := 359) (by kernel_rfl) (by decide +kernel) (by simp) t1
    obtain ⟨rfl, rfl, rfl⟩ := zng (n := "skewer/play.conditions$2") (k := 361) (by kernel_rfl) (by decide +kernel) (by simp) t2
    obtain ⟨rfl, rfl, rfl⟩ := zng (n := "skewer/play.conditions$3") (k := 362) (by kernel_rfl) (by decide +kernel) (by simp) t3
    rfl
  ·cases htr
theorem zcA {W : World} (h : funcsAt Tryz.prog W "skewer/play.conditions" zg8) : zhH W (fun _ => False) := by
 obtain ⟨cs, T, fz, hb, hcs⟩ := zqx h
 have hsz : cs.size = 4 := by rw [← Array.length_toList, hcs]; rfl
 intro q hq
 have e : q = (0, [AV.v .nilFunc, .fn (.func 359) [] [], .fn (.func 361) [] [], .fn (.func 362) [] []]) := by simpa [glbs] using hq
 subst e
 refine Rel.fp (C := cs) (T := T) (fz := fz) rfl (fun h => h) hb (by simp [hsz]) ?_ ?_
 ·intro u hu
  simp only [hcs, List.drop_zero] at hu
  simp at hu
  rcases hu with rfl | rfl | rfl | rfl <;> rfl
 ·simp only [hcs, List.drop_zero]
  exact .cons (.v _) (.cons (.fn .nil .nil) (.cons (.fn .nil .nil) (.cons (.fn .nil .nil) .nil)))
end Go.Av
end
section
open Go Go.Proofs Go.Av Go.ChangeShapes Go.RowKit
namespace Go.Proofs.YtedhfmmlhfmomaaGreatDoor
theorem zfT : ownKnob Tryz.prog.godebug = none := by kernel_rfl
theorem zhV : laidOutB Tryz.prog = true := by kernel_rfl
abbrev zym : List (String × DataW Unit) := [("math/bits.deBruijn32tab", Rows.laid_math_bits_deBruijn32tab), ("math/bits.deBruijn64tab", Rows.laid_math_bits_deBruijn64tab), ("internal/strconv.uint64pow10", Rows.laid_internal_strconv_uint64pow10), ("skewer/play.conditions", Rows.laid_skewer_play_conditions)]
theorem zfS (os : Os) (args : Array Value) : laidMetH Tryz.prog zym ((World.doorLaid Tryz.prog 29 os).forCall (fun _ _ => 0) ⟨#[], args, []⟩).memory :=
 laidMetH_of_parts3 (fuel := 8) (laidMet_of_run' 8 (by kernel_rfl) (by kernel_rfl)) (by kernel_rfl) (by kernel_rfl)
theorem zek (os : Os) (args : Array Value) : ((World.doorLaid Tryz.prog 29 os).forCall (fun _ _ => 0) ⟨#[], args, []⟩).variablesB Tryz.prog = true := by kernel_rfl
theorem zej (os : Os) (args : Array Value) : (((World.doorLaid Tryz.prog 29 os).forCall (fun _ _ => 0) ⟨#[], args, []⟩).heap.toList.drop Tryz.prog.globals.size).take ((begin Tryz.prog (fun _ _ => 0) default).world.heap.size - Tryz.prog.globals.size) =
  (begin Tryz.prog (fun _ _ => 0) default).world.heap.toList.drop Tryz.prog.globals.size := by kernel_rfl
end Go.Proofs.YtedhfmmlhfmomaaGreatDoor
end
section
/- Our library, part 14: arguments, as the statements read them, are values of the abstract domain. -/
namespace Go.Av
open Go

abbrev NoM : Nat → Prop := fun _ => False

structure znK (B : Nat) (bk : ∀ {H : Type}, DataW H → Nat) : Prop where
 len : ∀ {H : Type} (l r : List (DataW H)), bk (.slice l r) ≤ B → l.length ≤ maxLen → l.length ≤ B
 elem : ∀ {H : Type} (l r : List (DataW H)) d, d ∈ l → bk (.slice l r) ≤ B → bk d ≤ B
 part : ∀ {H : Type} (l : List (DataW H)) d, d ∈ l → bk (.agg l) ≤ B → bk d ≤ B
 str : ∀ {H : Type} (l : List UInt8), bk (DataW.lit (H := H) (.string l)) ≤ B → l.length ≤ maxLen → l.length ≤ B

theorem znK.any : znK maxLen (fun _ => 0) := ⟨fun _ _ _ h => h, fun _ _ _ _ _ => Nat.zero_le _, fun _ _ _ _ => Nat.zero_le _, fun _ _ h => h⟩

def Opn (P : Program) (B : Nat) (bk : ∀ {H : Type}, DataW H → Nat) {α : Type} (t : TypeId) (en : α → List AV) (Q : α → Prop) : Prop :=
 ∀ {H : Type} (enc : TypeId × Value → H) (w : World) (fuel : Nat) (cs : List Value) (d : DataW H) (ps : List MemPlace),
  DataW.trod enc P w 0 (fun _ => true) true fuel t cs = some (d, ps) → bk d ≤ B → ∃ x, zaH noP w NoM (en x) cs ∧ (∀ c ∈ cs, zbZ c = true) ∧ cs.length = P.cellsOf t ∧ Q x

section
variable {P : Program} {B : Nat} {bk : ∀ {H : Type}, DataW H → Nat}
theorem Opn.int {t : TypeId} {k : IntKind} (ht : P.underlying t = some (.int k)) (hc : P.cellsOf t = 1) : Opn P B bk t (fun n : Int => [.v (.int k n)]) (fun n => (Lit.int k n).wf = true) := by
 intro H enc w fuel cs d ps h _
 obtain ⟨n, rfl, _, hw⟩ := DataW.trod_int ht h
 exact ⟨n, .cons (.v _) .nil, by simp [zbZ, Value.oneCell'], by simp [hc], hw⟩
theorem Opn.bool {t : TypeId} (ht : P.underlying t = some .bool) (hc : P.cellsOf t = 1) : Opn P B bk t (fun b : Bool => [.v (.bool b)]) (fun _ => True) := by
 intro H enc w fuel cs d ps h _
 obtain ⟨n, rfl, _⟩ := DataW.trod_bool ht h
 exact ⟨n, .cons (.v _) .nil, by simp [zbZ, Value.oneCell'], by simp [hc], trivial⟩
theorem Opn.string {t : TypeId} (hB : znK B bk) (ht : P.underlying t = some .string) (hc : P.cellsOf t = 1) : Opn P B bk t (fun s : ByteArray => [.v (.string s)]) (fun s => s.size ≤ B) := by
 intro H enc w fuel cs d ps h hb
 obtain ⟨n, rfl, hx, hm⟩ := DataW.trod_string ht h
 simp only [Prod.mk.injEq] at hx
 obtain ⟨rfl, _⟩ := hx
 refine ⟨n, .cons (.v _) .nil, by simp [zbZ, Value.oneCell'], by simp [hc], ?_⟩
 have := hB.str _ hb (by simpa using hm)
 simpa using this
theorem Opn.imp {α : Type} {t : TypeId} {en : α → List AV} {Q Q' : α → Prop} (h : Opn P B bk t en Q) (hq : ∀ x, Q x → Q' x) : Opn P B bk t en Q' := by
 intro H enc w fuel cs d ps h1 h2
 obtain ⟨x, a, b, c, e⟩ := h enc w fuel cs d ps h1 h2
 exact ⟨x, a, b, c, hq x e⟩
theorem Opn.map {α β : Type} {t : TypeId} {en : α → List AV} {en' : β → List AV} {Q : α → Prop} {Q' : β → Prop} (h : Opn P B bk t en Q) (f : α → β) (hq : ∀ x, Q x → Q' (f x)) (he : ∀ x, Q x → en' (f x) = en x) : Opn P B bk t en' Q' := by
 intro H enc w fuel cs d ps h1 h2
 obtain ⟨x, a, b, c, e⟩ := h enc w fuel cs d ps h1 h2
 exact ⟨f x, by rw [he x e]; exact a, b, c, hq x e⟩
theorem zhP {w : World} {a : Addr} {n : Nat} {cs : List Value} (h : w.cells? 0 a n = some cs) : cs.length = n ∧ ∀ i, i < n → w.cell? (a.add i) = cs[i]? := by
 unfold World.cells? at h
 rw [if_pos (Nat.zero_le _)] at h
 exact ⟨by simpa using mapM_some_length h, fun i hi => mapM_some_get h i i (by simp [hi])⟩
theorem zjH {w : World} {a : Addr} {v : Value} (h : w.cell? a = some v) : ∃ C T fz, w.heap[a.block]? = some (.cells C T fz) ∧ a.spot = none ∧ C[a.off]? = some v := by
 unfold World.cell? at h
 split at h
 ·rename_i C T fz hb
  split at h
  ·cases h
  ·rename_i hs
   refine ⟨C, T, fz, hb, ?_, h⟩
   cases hsp : a.spot with
   | none => rfl
   | some x => simp [hsp] at hs
 ·cases h
theorem zjt (a : Addr) (n : Nat) : (a.add n).block = a.block := by unfold Addr.add; split <;> rfl
theorem zp4 (a : Addr) (n : Nat) : (a.add n).off = a.off + n := by
 unfold Addr.add
 split
 ·rename_i h; subst h; rfl
 ·rfl
theorem ziF {φ : zas} {w : World} {M : Nat → Prop} {rows : List (List AV)} {L : List Value} {sz : Nat} (hl : L.length = rows.length * sz)
  (h : ∀ i (hi : i < rows.length), zaH φ w M rows[i] ((L.drop (i * sz)).take sz)) : zaH φ w M rows.flatten L := by
 induction rows generalizing L with
 | nil => simp at hl; subst hl; exact .nil
 | cons r rows ih =>
  have h0 := h 0 (by simp)
  simp only [List.getElem_cons_zero, Nat.zero_mul, List.drop_zero] at h0
  rw [List.flatten_cons, ← List.take_append_drop sz L]
  refine zaH.append h0 (ih (by simp at hl ⊢; rw [hl, Nat.add_mul]; omega) fun i hi => ?_)
  have := h (i + 1) (by simpa using hi)
  simp only [List.getElem_cons_succ] at this
  rw [List.drop_drop, show sz + i * sz = (i + 1) * sz by rw [Nat.add_mul]; omega]
  exact this
theorem zjW {α : Type} (n : Nat) (p : Nat → α → Prop) (h : ∀ i, i < n → ∃ x, p i x) : ∃ l : List α, l.length = n ∧ ∀ i (hi : i < l.length), p i l[i] := by
 induction n with
 | zero => exact ⟨[], rfl, fun i hi => by simp at hi⟩
 | succ n ih =>
  obtain ⟨l, hl, hp⟩ := ih fun i hi => h i (by omega)
  obtain ⟨x, hx⟩ := h n (by omega)
  refine ⟨l ++ [x], by simp [hl], fun i hi => ?_⟩
  rcases Nat.lt_or_ge i l.length with h1 | h1
  ·rw [List.getElem_append_left h1]; exact hp i h1
  ·have : i = n := by simp at hi; omega
   subst this
   simp [List.getElem_append_right, hl, hx]
theorem Opn.slice {α : Type} {t e : TypeId} {en : α → List AV} {Q : α → Prop} {sz : Nat} (hB : znK B bk) (ht : P.underlying t = some (.slice e)) (hc : P.cellsOf t = 1) (hz : P.cellsOf e = sz) (hp : 0 < sz)
  (he : Opn P B bk e en Q) : Opn P B bk t (fun l : List α => [.lst sz (l.map en)]) (fun l => l.length ≤ B ∧ ∀ x ∈ l, Q x) := by
 intro H enc w fuel cs d ps h hb
 rcases DataW.trod_slice ht h with ⟨rfl, _⟩ | ⟨a, len, cap, ztq, rest, n, rfl, rfl, hx, _, hlen, hmax, hel, hget, _, _⟩
 ·exact ⟨[], .cons (.nil _ _ _) .nil, by simp [zbZ, Value.oneCell'], by simp [hc], by simp, by simp⟩
 ·simp only [Prod.mk.injEq] at hx
  obtain ⟨rfl, _⟩ := hx
  rw [hz] at hget
  have key : ∀ i (hi : i < len), ∃ x ci, w.cells? 0 (a.add (i * sz)) sz = some ci ∧ zaH noP w NoM (en x) ci ∧ (∀ c ∈ ci, zbZ c = true) ∧ Q x := by
   intro i hi
   have h1 := hget i hi
   rw [List.getElem?_eq_getElem (by omega), Option.bind_eq_some_iff] at h1
   obtain ⟨ci, h2, h3⟩ := h1
   obtain ⟨x, a1, a2, _, a4⟩ := he enc w n ci ztq[i].1 ztq[i].2 h3 (hB.elem _ _ _ (List.mem_map.2 ⟨ztq[i], List.getElem_mem _, rfl⟩) hb)
   exact ⟨x, ci, h2, a1, a2, a4⟩
  have hlb : len ≤ B := by have := hB.len _ _ hb (by simp; omega); simp at this; omega
  obtain ⟨l, hl, hx⟩ := zjW len _ key
  refine ⟨l, ?_, by simp [zbZ, Value.oneCell'], by simp [hc], by omega, fun x hxm => ?_⟩
  ·rcases Nat.eq_zero_or_pos len with h0 | h0
   ·have : l = [] := List.eq_nil_of_length_eq_zero (by omega)
    subst this
    rw [h0]
    exact .cons (.nil _ _ _) .nil
   ·have cellI : ∀ i, i < len → ∀ j, j < sz → ∃ v, w.cell? (a.add (i * sz + j)) = some v ∧ zbZ v = true := by
     intro i hi j hj
     obtain ⟨x, ci, h2, a1, a2, a3⟩ := key i hi
     obtain ⟨hcl, hcg⟩ := zhP h2
     refine ⟨ci[j], ?_, a2 _ (List.getElem_mem (by omega))⟩
     have := hcg j hj
     rw [List.getElem?_eq_getElem (by omega)] at this
     rw [← this]
     simp only [World.cell?, zjt, zp4, Nat.add_assoc]
     by_cases hj0 : j = 0
     ·subst hj0; simp [Addr.add]
     ·simp [Addr.add, hj0]
    obtain ⟨v0, hv0, _⟩ := cellI 0 h0 0 hp
    obtain ⟨C, T, fz, hC, hs, _⟩ := zjH hv0
    simp only [Nat.zero_mul, Nat.zero_add, Addr.add, if_true] at hC hs
    have cellC : ∀ k, k < len * sz → ∃ v, C[a.off + k]? = some v ∧ w.cell? (a.add k) = some v ∧ zbZ v = true := by
     intro k hk
     have hi : k / sz < len := Nat.div_lt_of_lt_mul (by rw [Nat.mul_comm]; exact hk)
     have hj : k % sz < sz := Nat.mod_lt _ hp
     obtain ⟨v, h1, h2⟩ := cellI _ hi _ hj
     rw [show k / sz * sz + k % sz = k by rw [Nat.mul_comm]; exact Nat.div_add_mod k sz] at h1
     obtain ⟨C', T', fz', hC', hs', hv'⟩ := zjH h1
     rw [zjt, hC] at hC'
     simp only [Option.some.injEq, Obj.cells.injEq] at hC'
     obtain ⟨rfl, _, _⟩ := hC'
     rw [zp4] at hv'
     exact ⟨v, hv', h1, h2⟩
    have hsz : a.off + len * sz ≤ C.size := by
     have hpos : 0 < len * sz := Nat.mul_pos h0 hp
     obtain ⟨v, h1, _⟩ := cellC (len * sz - 1) (by omega)
     have := (Array.getElem?_eq_some_iff.1 h1).1
     omega
    have hL : ((C.toList.drop a.off).take (len * sz)).length = len * sz := by simp; omega
    have hget : ∀ k, k < len * sz → ((C.toList.drop a.off).take (len * sz))[k]? = C[a.off + k]? := by
     intro k hk
     rw [List.getElem?_take, if_pos hk, List.getElem?_drop]; simp
    have hrl : ∀ i (hi : i < l.length), ∃ ci, w.cells? 0 (a.add (i * sz)) sz = some ci ∧ zaH noP w NoM (en l[i]) ci := fun i hi => by
     obtain ⟨ci, h2, a1, _⟩ := hx i hi
     exact ⟨ci, h2, a1⟩
    refine .cons (.lst (C := C) (T := T) (fz := fz) hs (fun h => h) hC (fun r hr => ?_) (by simp; omega) (by rw [List.length_map, hl]; exact hsz) (by omega) (fun u hu => ?_) ?_) .nil
    ·obtain ⟨x, hxm, rfl⟩ := List.mem_map.1 hr
     obtain ⟨i, hi, rfl⟩ := List.getElem_of_mem hxm
     obtain ⟨ci, h2, a1⟩ := hrl i hi
     rw [a1.length, (zhP h2).1]
    ·rw [List.length_map, hl] at hu
     obtain ⟨k, hk, rfl⟩ := List.getElem_of_mem hu
     rw [hL] at hk
     obtain ⟨v, h1, _, h3⟩ := cellC k hk
     have := hget k hk
     rw [List.getElem?_eq_getElem (by omega), h1] at this
     simp only [Option.some.injEq] at this
     rw [this]; exact h3
    ·rw [List.length_map, hl]
     refine ziF (sz := sz) (by rw [hL, List.length_map, hl]) fun i hi => ?_
     rw [List.length_map] at hi
     obtain ⟨ci, h2, a1⟩ := hrl i hi
     rw [List.getElem_map]
     obtain ⟨hcl, hcg⟩ := zhP h2
     have hle : (i + 1) * sz ≤ len * sz := Nat.mul_le_mul_right _ (by omega)
     rw [Nat.add_mul] at hle
     have : ci = (((C.toList.drop a.off).take (len * sz)).drop (i * sz)).take sz := by
      refine List.ext_getElem? fun j => ?_
      rcases Nat.lt_or_ge j sz with hj | hj
      ·rw [← hcg j hj, List.getElem?_take, if_pos hj, List.getElem?_drop, hget _ (by omega)]
       obtain ⟨v, h1, h3, _⟩ := cellC (i * sz + j) (by omega)
       rw [h1, ← h3]
       simp only [World.cell?, zjt, zp4, Nat.add_assoc]
       by_cases hj0 : j = 0
       ·subst hj0; simp [Addr.add]
       ·simp [Addr.add, hj0]
      ·rw [List.getElem?_eq_none (by omega), List.getElem?_eq_none (by simp; omega)]
     rw [← this]; exact a1
  ·obtain ⟨i, hi, rfl⟩ := List.getElem_of_mem hxm
   obtain ⟨ci, _, _, _, a4⟩ := hx i hi
   exact a4
theorem Opn.array {α : Type} {t e : TypeId} {en : α → List AV} {Q : α → Prop} {n sz : Nat} (hB : znK B bk) (ht : P.underlying t = some (.array n e)) (hz : P.cellsOf e = sz) (hc : P.cellsOf t = n * sz)
  (he : Opn P B bk e en Q) : Opn P B bk t (fun l : List α => (l.map en).flatten) (fun l => l.length = n ∧ ∀ x ∈ l, Q x) := by
 intro H enc w fuel cs d ps h hb
 obtain ⟨xs, m, _, hx, hl, hxl, hget⟩ := DataW.trod_array ht h
 simp only [Prod.mk.injEq] at hx
 obtain ⟨rfl, _⟩ := hx
 rw [hz] at hget
 have key : ∀ i, i < n → ∃ x, zaH noP w NoM (en x) ((cs.drop (i * sz)).take sz) ∧ (∀ c ∈ (cs.drop (i * sz)).take sz, zbZ c = true) ∧ Q x := by
  intro i hi
  have h1 := hget i hi
  rw [List.getElem?_eq_getElem (by omega)] at h1
  obtain ⟨x, a1, a2, _, a4⟩ := he enc w m _ xs[i].1 xs[i].2 h1 (hB.part _ _ (List.mem_map.2 ⟨xs[i], List.getElem_mem _, rfl⟩) hb)
  exact ⟨x, a1, a2, a4⟩
 obtain ⟨l, hll, hx⟩ := zjW n _ key
 rw [hc] at hl
 refine ⟨l, ziF (sz := sz) (by rw [List.length_map, hll]; exact hl) (fun i hi => ?_), fun c hcm => ?_, by rw [hc]; exact hl, hll, fun x hxm => ?_⟩
 ·rw [List.length_map] at hi
  rw [List.getElem_map]; exact (hx i hi).1
 ·obtain ⟨k, hk, rfl⟩ := List.getElem_of_mem hcm
  have hp : 0 < sz := Nat.pos_of_ne_zero fun h0 => by subst h0; simp at hl; subst hl; simp at hk
  have hi : k / sz < n := Nat.div_lt_of_lt_mul (by rw [Nat.mul_comm, ← hl]; exact hk)
  have hj : k % sz < sz := Nat.mod_lt _ hp
  have e : k / sz * sz + k % sz = k := by rw [Nat.mul_comm]; exact Nat.div_add_mod k sz
  refine (hx (k / sz) (by omega)).2.1 _ (List.mem_iff_getElem?.2 ⟨k % sz, ?_⟩)
  rw [List.getElem?_take, if_pos hj, List.getElem?_drop, e]
  exact List.getElem?_eq_getElem hk
 ·obtain ⟨i, hi, rfl⟩ := List.getElem_of_mem hxm
  exact (hx i hi).2.2
def zkY (P : Program) (B : Nat) (bk : ∀ {H : Type}, DataW H → Nat) {α : Type} (ts : List TypeId) (en : α → List AV) (Q : α → Prop) : Prop :=
 ∀ {H : Type} (enc : TypeId × Value → H) (w : World) (fuel : Nat) (cs : List Value), cs.length = (ts.map P.cellsOf).sum →
  (∀ i (hi : i < ts.length), ∃ d ps, DataW.trod enc P w 0 (fun _ => true) true fuel ts[i] ((cs.drop ((ts.take i).map P.cellsOf).sum).take (P.cellsOf ts[i])) = some (d, ps) ∧ bk d ≤ B) →
  ∃ x, zaH noP w NoM (en x) cs ∧ (∀ c ∈ cs, zbZ c = true) ∧ Q x
theorem zkY.nil : zkY P B bk [] (fun _ : Unit => []) (fun _ => True) := by
 intro H enc w fuel cs hl _
 have : cs = [] := List.eq_nil_of_length_eq_zero (by simpa using hl)
 subst this
 exact ⟨(), .nil, by simp, trivial⟩
theorem zkY.cons {α β : Type} {t : TypeId} {ts : List TypeId} {en : α → List AV} {Q : α → Prop} {en' : β → List AV} {Q' : β → Prop} (h : Opn P B bk t en Q) (h' : zkY P B bk ts en' Q') :
  zkY P B bk (t :: ts) (fun x : α × β => en x.1 ++ en' x.2) (fun x => Q x.1 ∧ Q' x.2) := by
 intro H enc w fuel cs hl hd
 obtain ⟨d, ps, h1, h2⟩ := hd 0 (by simp)
 simp only [List.getElem_cons_zero, List.take_zero, List.map_nil, List.sum_nil, List.drop_zero] at h1
 obtain ⟨x, a1, a2, a3, a4⟩ := h enc w fuel _ d ps h1 h2
 obtain ⟨y, b1, b2, b3⟩ := h' enc w fuel (cs.drop (P.cellsOf t)) (by simp at hl ⊢; omega) (fun i hi => by
  obtain ⟨d, ps, k1, k2⟩ := hd (i + 1) (by simpa using hi)
  simp only [List.getElem_cons_succ, List.take_succ_cons, List.map_cons, List.sum_cons] at k1
  exact ⟨d, ps, by rw [List.drop_drop]; exact k1, k2⟩)
 refine ⟨(x, y), ?_, fun c hc => ?_, a4, b3⟩
 ·rw [← List.take_append_drop (P.cellsOf t) cs]
  exact zaH.append a1 b1
 ·rw [← List.take_append_drop (P.cellsOf t) cs] at hc
  rcases List.mem_append.1 hc with hc | hc
  ·exact a2 c hc
  ·exact b2 c hc
def zrU (P : Program) (t : TypeId) (ts : List TypeId) : Bool := match P.underlying t with
 | some (.struct fs) => decide (fs.toList.map (·.type) = ts) && decide (fs.toList.map (·.offset) = (List.range ts.length).map fun i => ((ts.take i).map P.cellsOf).sum) && decide (P.cellsOf t = (ts.map P.cellsOf).sum)
 | _ => false
theorem Opn.struct {α : Type} {t : TypeId} {ts : List TypeId} {en : α → List AV} {Q : α → Prop} (hB : znK B bk) (ht : zrU P t ts = true) (h : zkY P B bk ts en Q) : Opn P B bk t en Q := by
 unfold zrU at ht
 split at ht
 ·rename_i fs hfs
  simp only [Bool.and_eq_true, decide_eq_true_eq] at ht
  obtain ⟨⟨h1, h2⟩, h3⟩ := ht
  intro H enc w fuel cs d ps hd hb
  obtain ⟨xs, n, _, hx, hl, hxl, hget⟩ := DataW.trod_struct hfs hd
  simp only [Prod.mk.injEq] at hx
  obtain ⟨rfl, _⟩ := hx
  have hlen : fs.size = ts.length := by rw [← h1]; simp
  obtain ⟨x, a1, a2, a3⟩ := h enc w n cs (by rw [hl, h3]) (fun i hi => by
   have hi' : i < fs.size := by omega
   have e1 : fs[i].type = ts[i] := by
    have := congrArg (fun l => l[i]?) h1
    simp [hi', List.getElem?_eq_getElem hi] at this
    exact this
   have e2 : fs[i].offset = ((ts.take i).map P.cellsOf).sum := by
    have := congrArg (fun l => l[i]?) h2
    simp [hi', hi] at this
    rw [this, List.map_take]
   have := hget i fs[i] (Array.getElem?_eq_getElem hi')
   rw [e1, e2, List.getElem?_eq_getElem (by omega)] at this
   exact ⟨xs[i].1, xs[i].2, this, hB.part _ _ (List.mem_map.2 ⟨xs[i], List.getElem_mem _, rfl⟩) hb⟩)
  exact ⟨x, a1, a2, hl, a3⟩
 ·cases ht
def outer (P : Program) (t : TypeId) : Bool := match P.underlying t with
 | some (.struct _) | some (.array _ _) => true
 | _ => false
def wrapAV (agg : Bool) (cs : List AV) : AV := if agg then .agg cs else cel cs 0
theorem zBy {α : Type} {t : TypeId} {en : α → List AV} {Q : α → Prop} (h : Opn P B bk t en Q) {ag : Bool} (ho : outer P t = ag) (h1 : ag = false → P.cellsOf t = 1) {H : Type} {enc : TypeId × Value → H} {W : World} {base : Nat} {r : Reach} {v : Value} {d : DataW H} {ps : List MemPlace}
  (hval : Value.okWide P W r base t v) (hd : DataW.Trod enc P W 0 (fun _ => true) true t v d ps) (hb : bk d ≤ B) : ∃ x, Rel noP W NoM (wrapAV ag (en x)) v ∧ Q x := by
 obtain ⟨fuel, hd⟩ := hd
 obtain ⟨x, a1, a2, a3, a4⟩ := h enc W fuel _ d ps hd hb
 refine ⟨x, ?_, a4⟩
 unfold outer at ho
 unfold Value.okWide at hval
 split at ho
 ·rename_i hu
  subst ho
  rw [hu] at hval
  obtain ⟨cs, rfl, _, _⟩ := hval
  exact .agg (vs := cs.toList) a2 a1
 ·rename_i hu
  subst ho
  rw [hu] at hval
  obtain ⟨cs, rfl, _, _⟩ := hval
  exact .agg (vs := cs.toList) a2 a1
 ·subst ho
  rw [h1 rfl] at a3
  have hv : v.cells.toList = [v] := by
   unfold Value.cells at a3 a2 ⊢
   split
   ·rename_i cs
    exfalso
    split at hval
    ·simp_all
    ·simp_all
    ·unfold Cell.okWide at hval
     split at hval <;> simp_all [Cell.ok]
   ·rfl
  rw [hv] at a1
  cases he : en x with
  | nil => rw [he] at a1; cases a1
  | cons y ys =>
   rw [he] at a1
   cases a1 with
   | cons a1 _ => exact a1

theorem zua {f : Func} {s : ChangeSpec} {apart fresh handsOn again : Bool} {H : Type} {enc : TypeId × Value → H} {W W' : World} {args : Array Value} {v : Value} {ds gs : List (DataW H)} {before : List MemPlace}
  (hlo : laidOutB P = true) (hts : f.params.toList.all (fun t => P.readableRec t && decide (t < P.types.size)) = true) (hv : s.vars = [])
  (hW : DataW.Whole enc P f.params.toList s.vars apart W args.toList ds gs before)
  (hres : ∀ (b : Nat) (sp : Nat → Bool) (hd : Bool), DataW.TrodAll enc P W' b sp hd f.resultTypes.toList (v.resultList f.resultTypes.size) (s.fn H (ds ++ gs)).results [])
  (hargs : (s.fn H (ds ++ gs)).args = ds) (hvars : (s.fn H (ds ++ gs)).vars = [])
  (hfr : Fr W (fun _ => False) W')
  (hok : ∀ (j : Nat) (t : TypeId) (r : Value), f.resultTypes[j]? = some t → (v.resultList f.resultTypes.size)[j]? = some r → Value.okWide P W' .any 0 t r) :
  s.post enc P f apart fresh handsOn again W args v W' := by
 have hlt : ∀ p ∈ before, p.block < W.heap.size := fun p hp => hW.lt p hp
 have hsame : ∀ p : MemPlace, p.block < W.heap.size → W.sameAt W' p := fun p hp => (Go.RowKit.Below.same ⟨hfr.os, hfr.tape, hfr.output, hfr.size, fun k hk => hfr.block k hk (fun h => h)⟩ hp)
 obtain ⟨p, q, hA, hV, hpq, hz, hn⟩ := id hW
 rw [hv] at hV
 have hq : q = [] ∧ gs = [] := by
  cases gs with
  | nil => exact ⟨hV, rfl⟩
  | cons g gs => exact hV.elim
 obtain ⟨rfl, rfl⟩ := hq
 rw [List.append_nil] at hpq
 subst hpq
 have key : ∀ (sp : Nat → Bool) (ts : List TypeId) (vs : List Value) (ds : List (DataW H)) (ps : List MemPlace), ts.all (fun t => P.readableRec t && decide (t < P.types.size)) = true → (∀ x ∈ ps, x.block < W.heap.size) → (∀ x ∈ ps, sp x.block = true) →
   DataW.TrodAll enc P W 0 (fun _ => true) true ts vs ds ps → DataW.TrodAll enc P W' 0 sp true ts vs ds ps := by
  intro sp ts
  induction ts with
  | nil =>
   intro vs ds ps _ _ _ h
   cases vs <;> cases ds <;> simp [DataW.TrodAll] at h ⊢
   exact h
  | cons t ts ih =>
   intro vs ds ps ht hlt hsp h
   obtain ⟨v, vs', d, ds', a, b, rfl, rfl, rfl, h1, h2⟩ := ChangeShapes.trodAll_cons h
   simp only [List.all_cons, Bool.and_eq_true, decide_eq_true_eq] at ht
   obtain ⟨⟨hr, hs⟩, hts⟩ := ht
   exact ⟨a, b, WideElems.Trod_stays hlo hr hs h1 (fun x hx => hsame x (hlt x (List.mem_append_left _ hx))) (fun x hx => hsp x (List.mem_append_left _ hx)),
    ih _ _ _ (by simpa using hts) (fun x hx => hlt x (List.mem_append_right _ hx)) (fun x hx => hsp x (List.mem_append_right _ hx)) h2, rfl⟩
 have key' : ∀ sp : Nat → Bool, (∀ x ∈ before, sp x.block = true) → DataW.TrodAll enc P W' 0 sp true f.params.toList args.toList (s.fn H (ds ++ [])).args before := fun sp hsp => by
  rw [hargs]; exact key sp _ _ _ _ hts hlt hsp hA
 have kv : ∀ sp : Nat → Bool, DataW.TrodVars enc P W' sp s.vars (s.fn H (ds ++ [])).vars [] := fun sp => by rw [hv, hvars]; rfl
 refine ⟨ds, [], before, [], before, [], hW, hres _ _ _, key' _ (fun x hx => by simpa using hlt x hx), kv _, ?_, fun _ => ⟨hok, _, _, ([] ++ before) ++ [], ⟨[] ++ before, [], ChangeShapes.trodAll_append (key' _ fun _ _ => rfl) (hres _ _ _), kv _, rfl, ?_, ?_⟩, ?_⟩⟩
 ·refine ⟨hfr.os, hfr.output, fun i hi => ?_⟩
  rw [hfr.block i hi (fun h => h)]
  cases h : W.heap[i]? with
  | none => simp
  | some o => cases o <;> simp
 ·intro b off hp
  have hp' : MemPlace.cell b off ∈ before := by simpa using hp
  have hb := hlt _ hp'
  have := hz b off hp'
  unfold World.frozen? at this ⊢
  simp only [MemPlace.block] at hb
  rw [show W'.heap[b]? = W.heap[b]? from hfr.block b hb (fun h => h)]
  exact this
 ·intro ha
  simpa using hn ha
 ·intro x hx _
  simpa using hx
theorem zbs {f : FuncId} {fn : Func} {tb : TypeId} {s : ChangeSpec} {apart fresh handsOn again : Bool} {H : Type} {enc : TypeId × Value → H} {W : World} {args : Array Value} {ds gs : List (DataW H)} {before : List MemPlace}
  (hlo : laidOutB P = true) (hts : fn.params.toList.all (fun t => P.readableRec t && decide (t < P.types.size)) = true) (hv : s.vars = []) (hrt : fn.resultTypes = #[tb]) (hb : P.underlying tb = some .bool)
  (hW : DataW.Whole enc P fn.params.toList s.vars apart W args.toList ds gs before)
  (hfn : gs = [] → s.fn H (ds ++ gs) = { results := [.lit (.bool true)], args := ds }) {avs : List AV} (hp : zaJ P f avs (.v (.bool true))) (hr : zaH noP W NoM avs args.toList) (hg : zhH W NoM := by intro p hp; simp [glbs] at hp) :
  Calls P f args W fun e W' => ∃ v, e = .returned v ∧ s.post enc P fn apart fresh handsOn again W args v W' := by
 have hgs : gs = [] := by
  obtain ⟨p, q, hA, hV, _⟩ := hW
  rw [hv] at hV
  cases gs with
  | nil => rfl
  | cons g gs => exact hV.elim
 have := hp.2 NoM W args.toList (fun k hk => hk.elim) hg hr
 rw [show (⟨args.toList⟩ : Array Value) = args from rfl] at this
 refine this.mono ?_
 rintro e W' ⟨v, rfl, hv', hfr⟩
 cases hv'
 refine ⟨_, rfl, zua hlo hts hv hW (fun b sp hd => ?_) (by rw [hfn hgs]) (by rw [hfn hgs]) hfr ?_⟩
 ·rw [hfn hgs, hrt]
  exact trodAll_cons_mk (RowKit.shut_bool hb _) ChangeShapes.trodAll_mk0
 ·exact RowKit.ok_one hrt rfl (RowKit.okWide_bool_mk hb true)
end
end Go.Av
end
section
open Go Go.Proofs
namespace Go.Av
open Go.Proofs.YtedhfmmlhfmomaaGreatDoor
theorem zzf {H : Type} (d : DataW H) : 1 ≤ Rows.uptoBulk d := by
 cases d with
 | lit l => cases l <;> simp [Rows.uptoBulk]
 | _ => simp [Rows.uptoBulk]
theorem zkS {H : Type} {d : DataW H} {l : List (DataW H)} (h : d ∈ l) : Rows.uptoBulk d ≤ Rows.uptoBulkAll l := by
 induction l with
 | nil => cases h
 | cons x r ih =>
  simp only [Rows.uptoBulkAll]
  rcases List.mem_cons.1 h with e | e
  ·subst e; omega
  ·have := ih e; omega
theorem zrw {H : Type} (l : List (DataW H)) : l.length ≤ Rows.uptoBulkAll l := by
 induction l with
 | nil => simp [Rows.uptoBulkAll]
 | cons x r ih => have := zzf x; simp only [Rows.uptoBulkAll, List.length_cons]; omega
theorem znK.upto {B : Nat} : znK B (fun d => Rows.uptoBulk d) where
 len := fun l r h _ => by
  have := zrw l
  simp only [Rows.uptoBulk] at h; omega
 elem := fun l r d hd h => by
  have := zkS hd
  simp only [Rows.uptoBulk] at h; omega
 part := fun l d hd h => by
  have := zkS hd
  simp only [Rows.uptoBulk] at h; omega
 str := fun l h _ => by
  simp only [Rows.uptoBulk] at h; omega
theorem zaY {H : Type} {l : List (DataW H)} (hk : Rows.uptoSmall H l = true) {d : DataW H} (hd : d ∈ l) : Rows.uptoBulk d ≤ 1048576 := by
 have := zkS hd
 have h := of_decide_eq_true hk
 omega
end Go.Av
end
section
open Go Go.Proofs Go.Av
namespace Go.Av
open Go.Proofs.YtedhfmmlhfmomaaGreatDoor
abbrev UpB : {H : Type} → DataW H → Nat := fun d => Rows.uptoBulk d
abbrev G3T := Int × Int × Int × List (List Int) × List (List Int) × List Int × Unit
def zzu (x : G3T) : List AV := [.v (.int .u8 x.1)] ++ ([.v (.int .u8 x.2.1)] ++ ([.v (.int .u8 x.2.2.1)] ++ ((x.2.2.2.1.map fun l => [AV.lst 1 (l.map fun n => [.v (.int .u8 n)])]).flatten ++
 ([AV.lst 3 (x.2.2.2.2.1.map fun l => (l.map fun n => [AV.v (.int .u8 n)]).flatten)] ++ ((x.2.2.2.2.2.1.map fun n => [AV.v (.int .u8 n)]).flatten ++ [])))))
abbrev P4T := List Int × List Int × List Int × Int × Int × Unit
def zvR (x : P4T) : List AV := (x.1.map fun n => [AV.v (.int .u8 n)]).flatten ++ ((x.2.1.map fun n => [AV.v (.int .u8 n)]).flatten ++ ((x.2.2.1.map fun n => [AV.v (.int .u8 n)]).flatten ++ ([.v (.int .u8 x.2.2.2.1)] ++ ([.v (.int .u8 x.2.2.2.2.1)] ++ []))))
abbrev U8W (n : Int) : Prop := (Lit.int .u8 n).wf = true
theorem zgq : Opn Tryz.prog 1048576 UpB 5 (fun n : Int => [.v (.int .u8 n)]) U8W := Opn.int Tryz.underlying5 (by kernel_rfl)
theorem zAT : Opn Tryz.prog 1048576 UpB 22 (fun l : List Int => [.lst 1 (l.map fun n => [.v (.int .u8 n)])]) (fun l => l.length ≤ 1048576 ∧ ∀ x ∈ l, U8W x) :=
 Opn.slice (sz := 1) znK.upto Tryz.underlying22 (by kernel_rfl) (by kernel_rfl) Nat.one_pos zgq
theorem zmb : Opn Tryz.prog 1048576 UpB 27 zb0 (fun x => zsE x ∧ x.k0.length ≤ 1048576 ∧ x.k1.length ≤ 1048576 ∧ x.c.length ≤ 1048576) := by
 have hK : Opn Tryz.prog 1048576 UpB 23 (fun l : List (List Int) => (l.map fun l => [AV.lst 1 (l.map fun n => [.v (.int .u8 n)])]).flatten) (fun l => l.length = 2 ∧ ∀ x ∈ l, x.length ≤ 1048576 ∧ ∀ y ∈ x, U8W y) :=
  Opn.array (sz := 1) (n := 2) znK.upto Tryz.underlying23 (by kernel_rfl) (by kernel_rfl) zAT
 have h3 : Opn Tryz.prog 1048576 UpB 80 (fun l : List Int => (l.map fun n => [AV.v (.int .u8 n)]).flatten) (fun l => l.length = 3 ∧ ∀ x ∈ l, U8W x) :=
  Opn.array (sz := 1) (n := 3) znK.upto Tryz.underlying80 (by kernel_rfl) (by kernel_rfl) zgq
 have hC : Opn Tryz.prog 1048576 UpB 24 (fun l : List (List Int) => [.lst 3 (l.map fun l => (l.map fun n => [AV.v (.int .u8 n)]).flatten)]) (fun l => l.length ≤ 1048576 ∧ ∀ x ∈ l, x.length = 3 ∧ ∀ y ∈ x, U8W y) :=
  Opn.slice (sz := 3) znK.upto Tryz.underlying24 (by kernel_rfl) (by kernel_rfl) (by decide) h3
 have hFF : Opn Tryz.prog 1048576 UpB 25 (fun l : List Int => (l.map fun n => [AV.v (.int .u8 n)]).flatten) (fun l => l.length = 6 ∧ ∀ x ∈ l, U8W x) :=
  Opn.array (sz := 1) (n := 6) znK.upto Tryz.underlying25 (by kernel_rfl) (by kernel_rfl) zgq
 have hF : zkY Tryz.prog 1048576 UpB [5, 5, 5, 23, 24, 25] zzu (fun x => U8W x.1 ∧ U8W x.2.1 ∧ U8W x.2.2.1 ∧ (x.2.2.2.1.length = 2 ∧ ∀ z ∈ x.2.2.2.1, z.length ≤ 1048576 ∧ ∀ y ∈ z, U8W y) ∧
   (x.2.2.2.2.1.length ≤ 1048576 ∧ ∀ z ∈ x.2.2.2.2.1, z.length = 3 ∧ ∀ y ∈ z, U8W y) ∧ (x.2.2.2.2.2.1.length = 6 ∧ ∀ y ∈ x.2.2.2.2.2.1, U8W y) ∧ True) :=
  zkY.cons zgq (zkY.cons zgq (zkY.cons zgq (zkY.cons hK (zkY.cons hC (zkY.cons hFF zkY.nil)))))
 have hT : Opn Tryz.prog 1048576 UpB 27 zzu (fun x => U8W x.1 ∧ U8W x.2.1 ∧ U8W x.2.2.1 ∧ (x.2.2.2.1.length = 2 ∧ ∀ z ∈ x.2.2.2.1, z.length ≤ 1048576 ∧ ∀ y ∈ z, U8W y) ∧
   (x.2.2.2.2.1.length ≤ 1048576 ∧ ∀ z ∈ x.2.2.2.2.1, z.length = 3 ∧ ∀ y ∈ z, U8W y) ∧ (x.2.2.2.2.2.1.length = 6 ∧ ∀ y ∈ x.2.2.2.2.2.1, U8W y) ∧ True) := Opn.struct znK.upto (by kernel_rfl) hF
 intro H enc w fuel cs d ps k1 k2
 obtain ⟨x, r1, r2, r3, hx⟩ := hT enc w fuel cs d ps k1 k2
 obtain ⟨W, Hh, cut, K, C, F, ⟨⟩⟩ := x
 obtain ⟨h1, h2, h3', ⟨h4, h4'⟩, ⟨h5, h5'⟩, ⟨h6, h6'⟩, _⟩ := hx
 simp only at h1 h2 h3' h4 h4' h5 h5' h6 h6'
 match K, h4 with
 | [ka, kb], _ =>
  match F, h6 with
  | [f0, f1, f2, f3, f4, f5], _ =>
   have hCl : ∀ (C : List (List Int)), (∀ z ∈ C, z.length = 3) → (C.map fun l => (nth l 0, nth l 1, nth l 2)).map zvQ = C.map fun l => (l.map fun n => [AV.v (.int .u8 n)]).flatten := by
    intro C hC
    rw [List.map_map]
    refine List.map_congr_left fun l hl => ?_
    have := hC l hl
    match l, this with
    | [a, b, c], _ => rfl
   refine ⟨⟨W, Hh, cut, ka, kb, C.map fun l => (nth l 0, nth l 1, nth l 2), f0, f1, f2, f3, f4, f5⟩, ?_, r2, r3, ⟨bounds_u8 h1, bounds_u8 h2, bounds_u8 h3', fun n hn => bounds_u8 ((h4' ka (by simp)).2 n hn), fun n hn => bounds_u8 ((h4' kb (by simp)).2 n hn), ?_,
    bounds_u8 (h6' f0 (by simp)), bounds_u8 (h6' f1 (by simp)), bounds_u8 (h6' f2 (by simp)), bounds_u8 (h6' f3 (by simp)), bounds_u8 (h6' f4 (by simp)), bounds_u8 (h6' f5 (by simp))⟩, (h4' ka (by simp)).1, (h4' kb (by simp)).1, by simpa using h5⟩
   ·unfold zb0
    simp only
    rw [hCl C (fun z hz => (h5' z hz).1)]
    exact r1
   ·intro t ht
    obtain ⟨z, hz, rfl⟩ := List.mem_map.1 ht
    obtain ⟨q1, q2⟩ := h5' z hz
    match z, q1 with
    | [a, b, c], _ => exact ⟨bounds_u8 (q2 a (by simp)), bounds_u8 (q2 b (by simp)), bounds_u8 (q2 c (by simp))⟩
theorem zpd : Opn Tryz.prog 1048576 UpB 30 zbp ze6 := by
 have hFF : Opn Tryz.prog 1048576 UpB 25 (fun l : List Int => (l.map fun n => [AV.v (.int .u8 n)]).flatten) (fun l => l.length = 6 ∧ ∀ x ∈ l, U8W x) :=
  Opn.array (sz := 1) (n := 6) znK.upto Tryz.underlying25 (by kernel_rfl) (by kernel_rfl) zgq
 have h4 : Opn Tryz.prog 1048576 UpB 28 (fun l : List Int => (l.map fun n => [AV.v (.int .u8 n)]).flatten) (fun l => l.length = 4 ∧ ∀ x ∈ l, U8W x) :=
  Opn.array (sz := 1) (n := 4) znK.upto Tryz.underlying28 (by kernel_rfl) (by kernel_rfl) zgq
 have hF : zkY Tryz.prog 1048576 UpB [25, 25, 28, 5, 5] zvR (fun x => (x.1.length = 6 ∧ ∀ y ∈ x.1, U8W y) ∧ (x.2.1.length = 6 ∧ ∀ y ∈ x.2.1, U8W y) ∧ (x.2.2.1.length = 4 ∧ ∀ y ∈ x.2.2.1, U8W y) ∧ U8W x.2.2.2.1 ∧ U8W x.2.2.2.2.1 ∧ True) :=
  zkY.cons hFF (zkY.cons hFF (zkY.cons h4 (zkY.cons zgq (zkY.cons zgq zkY.nil))))
 have hT : Opn Tryz.prog 1048576 UpB 30 zvR (fun x => (x.1.length = 6 ∧ ∀ y ∈ x.1, U8W y) ∧ (x.2.1.length = 6 ∧ ∀ y ∈ x.2.1, U8W y) ∧ (x.2.2.1.length = 4 ∧ ∀ y ∈ x.2.2.1, U8W y) ∧ U8W x.2.2.2.1 ∧ U8W x.2.2.2.2.1 ∧ True) := Opn.struct znK.upto (by kernel_rfl) hF
 intro H enc w fuel cs d ps k1 k2
 obtain ⟨x, r1, r2, r3, hx⟩ := hT enc w fuel cs d ps k1 k2
 obtain ⟨c, k, h, r, s, ⟨⟩⟩ := x
 obtain ⟨⟨a1, a2⟩, ⟨b1, b2⟩, ⟨c1, c2⟩, d1, e1, _⟩ := hx
 simp only at a1 a2 b1 b2 c1 c2 d1 e1
 have hfl : ∀ l : List Int, (l.map fun n => [AV.v (.int .u8 n)]).flatten = l.map fun n => AV.v (.int .u8 n) := fun l => by
  induction l with
  | nil => rfl
  | cons x l ih => simp only [List.map_cons, List.flatten_cons, ih]; rfl
 refine ⟨⟨c, k, h, r, s⟩, ?_, r2, r3, ⟨a1, b1, c1, fun n hn => bounds_u8 (a2 n hn), fun n hn => bounds_u8 (b2 n hn), fun n hn => bounds_u8 (c2 n hn), bounds_u8 d1, bounds_u8 e1⟩⟩
 unfold zvR at r1
 rw [hfl, hfl, hfl] at r1
 exact r1
end Go.Av
end
