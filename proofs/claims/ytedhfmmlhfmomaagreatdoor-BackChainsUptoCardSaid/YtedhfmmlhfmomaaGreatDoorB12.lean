/- Texts of ours, part 12: our library and contracts of functions. -/
import Derived.Test.YtedhfmmlhfmomaaGreatDoorB11
import GoSem.ClaimJoined
import Derived.Test.YtedhfmmlhfmomaaGreatDoorCards
import Derived.Test.YtedhfmmlhfmomaaGreatDoorTie
import Derived.Deep.DeepHandedRow
import Derived.LaidHandle
import Derived.LaidMore
import Derived.OpenShut
import Derived.Test.YtedhfmmlhfmomaaGreatDoorRows
set_option linter.unusedSimpArgs false
set_option linter.unusedVariables false
set_option maxRecDepth 100000
set_option maxHeartbeats 40000000
section
open Go Go.Proofs
namespace Go.Av
theorem zdi (g : zae) (hg : GOk g) (hs : zcF g) (p : zag) (hp : POk g p) : zaS Tryz.prog 31 [.agg (zaf g), .agg (zad p)] (zcA (zdA g p)) := by
 refine pF Tryz.func31 ?_
 have hB := zrg g hg hs p hp
 generalize zdA g p = v at *
 unfold zcA
 repeat first|refine wV fun _=>?_|simp [go_sem]
 refine zxM hB (by simp [go_sem]) ?_
 repeat first|refine wV fun _=>?_|simp [go_sem]
theorem zcz (g : zae) (hg : GOk g) (hs : zcF g) (p : zag) (hp : POk g p) (n : Int) : zaS Tryz.prog 33 [.agg (zaf g), .agg (zad p), .v (.int .i64 n)] (zcA (zdB g p n)) := by
 refine pF Tryz.func33 ?_
 have hB := zpj g hg hs p hp n
 generalize zdB g p n = v at *
 unfold zcA
 repeat first|refine wV fun _=>?_|simp [go_sem]
 refine zxM hB (by simp [go_sem]) ?_
 repeat first|refine wV fun _=>?_|simp [go_sem]
theorem zuq (a b c s : Int) : zaS Tryz.prog 82 [.v (.int .i64 a), .v (.int .i64 b), .v (.int .i64 c), .v (.int .i64 s)] (.agg (zad (at9 a b c s))) := by
 refine pF Tryz.func82 ?_
 unfold at9
 repeat first|refine wV fun _=>?_|simp [go_sem]
 refine ⟨?_, ?_, ?_⟩ <;> refine LeV.frz rfl (by simp) (by simp [noH, upd]) ?_ <;> exact .refl _
theorem zdp : zcF za4 := by
 intro k hk p hp
 simp only [za4, List.mem_singleton] at hk
 subst hk
 simp only [List.mem_cons, List.not_mem_nil, or_false] at hp
 rcases hp with rfl | rfl <;> decide
theorem zmN : zaS Tryz.prog 27 [] (.v (.bool true)) := by
 refine pF Tryz.func27 ?_
 have hA := fun a b c s => zuq a b c s
 have k1 := zje 0 2 0 0 (by decide) (by decide) (by decide) (by decide)
 have k2 := zje 1 0 0 1 (by decide) (by decide) (by decide) (by decide)
 have hB1 := zdi za4 zb8 zdp _ k1
 rw [zwz] at hB1
 have hB2 := zdi za4 zb8 zdp _ k2
 rw [zwA] at hB2
 have hC0 := zcz za4 zb8 zdp _ k1 0
 rw [zuP] at hC0
 have hCm := zcz za4 zb8 zdp _ k1 (-1)
 have em : zdB za4 (at9 0 2 0 0) (-1) = ([], 1) := rfl
 rw [em] at hCm
 have f1 := (zje 0 0 2 1 (by decide) (by decide) (by decide) (by decide)).fits zb8
 have f2 := (zje 0 1 2 1 (by decide) (by decide) (by decide) (by decide)).fits zb8
 have hS1 := zeL ([at9 0 0 2 1, at9 0 1 2 1], 0) ([at9 0 0 2 1, at9 0 1 2 1], 0) (by simp) (by simp) (by simp; exact ⟨f1, f2⟩) (by simp; exact ⟨f1, f2⟩)
 have hS2 := zeL ([], 0) ([], 0) (by simp) (by simp) (by simp) (by simp)
 have hS3 := zeL ([at9 0 2 0 0], 0) ([at9 0 2 0 0], 0) (by simp) (by simp) (by simp; exact k1.fits zb8) (by simp; exact k1.fits zb8)
 rw [show ∀ z : List zag × Int, decide (z = z) = true from fun z => decide_eq_true rfl] at hS1 hS2 hS3
 have hgs : ∀ n, (∀ c ∈ zaf za4, Bel n c) = True := fun n => by simp [go_sem]
 obtain ⟨pa, hpa⟩ : ∃ pa, pa = at9 0 2 0 0 := ⟨_, rfl⟩
 obtain ⟨pb, hpb⟩ : ∃ pb, pb = at9 1 0 0 1 := ⟨_, rfl⟩
 obtain ⟨pc, hpc⟩ : ∃ pc, pc = at9 0 0 2 1 := ⟨_, rfl⟩
 obtain ⟨pd, hpd⟩ : ∃ pd, pd = at9 0 1 2 1 := ⟨_, rfl⟩
 have a1 := hA 0 2 0 0
 have a2 := hA 1 0 0 1
 have a3 := hA 0 0 2 1
 have a4 := hA 0 1 2 1
 rw [← hpa] at a1 hB1 hC0 hCm hS3
 rw [← hpb] at a2 hB2
 rw [← hpc] at a3 hB1 hS1
 rw [← hpd] at a4 hB1 hS1
 simp only [zcA] at hB1 hB2 hC0 hCm
 clear hA hpa hpb hpc hpd
 (repeat (first|with_reducible (first|refine wL fun _=>?_|refine wD fun _=>?_|refine wE ?_)|simp [go_sem]))
 refine zla.frz (zbp _ [0, 1, 2, 3, 4, 5, 6, 7]) (zcb _ _) ?_
 repeat first|refine wV fun _=>?_|simp [go_sem]
 refine zxO a1 (by simp [go_sem]) ?_
 repeat first|refine wV fun _=>?_|simp [go_sem]
 refine zaC.frz [.agg (zaf za4), .agg (zad pa)] _ [0, 1, 2, 3, 4, 5, 6, 7] [] hB1 (by simp) ?_ (by simp [go_sem, hgs]) ?_
 ·intro h₁ hS
  have h0 := (hS 0 (by simp)).symm
  have h1 := (hS 1 (by simp)).symm
  have h2 := (hS 2 (by simp)).symm
  have h3 := (hS 3 (by simp)).symm
  have h4 := (hS 4 (by simp)).symm
  have h5 := (hS 5 (by simp)).symm
  have h6 := (hS 6 (by simp)).symm
  have h7 := (hS 7 (by simp)).symm
  clear hS
  simp [upd, zbp, zbP] at h0 h1 h2 h3 h4 h5 h6 h7
  simp only [za4, zaf, zbX, zar, zaU, zaD, zaM, zcf, List.map_cons, List.map_nil]
  ((try simp only [zaD, zaM, zbc, zcl, zaE, zco, zaH, zas, zad, zed, zbJ, zaP, zar, zaf, List.map_cons, List.map_nil, List.nil_append, List.append_nil, List.cons_append]); (repeat (first | (with_reducible first|exact zam.nil|exact zak.nil|exact LeV.refl _|exact zam.refl _ _ _ _|exact zak.refl _|refine zam.cons ?_ ?_|refine zak.cons ?_ ?_|refine LeV.agg ?_|refine LeV.tup ?_|refine LeV.fn ?_ ?_|exact LeV.nil _|refine zat (zak.refl _) ?_) | ((refine zaL (by first | rfl | assumption) (by simp [h0, h1, h2, h3, h4, h5, h6, h7]) (by simp [zbp, zbP, upd, noH, zai, h0, h1, h2, h3, h4, h5, h6, h7]) ?_); (first | (simp [go_sem, h0, h1, h2, h3, h4, h5, h6, h7]; done) | (simp [go_sem, h0, h1, h2, h3, h4, h5, h6, h7]; exact List.take_of_length_le (by simp [h0, h1, h2, h3, h4, h5, h6, h7])))) | ((refine LeV.frz (by first | rfl | assumption) (by simp [h0, h1, h2, h3, h4, h5, h6, h7]) (by simp [zbp, zbP, upd, noH, zai, h0, h1, h2, h3, h4, h5, h6, h7]) ?_); (simp only [List.drop_zero, List.take_succ_cons, List.take_zero, List.map_cons, List.map_nil])) | ((refine LeV.frzP (by first | rfl | assumption) (by simp [h0, h1, h2, h3, h4, h5, h6, h7]) (by simp) (by simp [zbp, zbP, upd, noH, zai, h0, h1, h2, h3, h4, h5, h6, h7]) ?_); (simp only [zbi, List.drop_zero])))))
 repeat first|refine wV fun _=>?_|simp [go_sem]
 refine zxO a2 (by simp [go_sem]) ?_
 repeat first|refine wV fun _=>?_|simp [go_sem]
 refine zaC.frz [.agg (zaf za4), .agg (zad pb)] _ [0, 1, 2, 3, 4, 5, 6, 7] [] hB2 (by simp) ?_ (by simp [go_sem, hgs]) ?_
 ·intro h₁ hS
  have h0 := (hS 0 (by simp)).symm
  have h1 := (hS 1 (by simp)).symm
  have h2 := (hS 2 (by simp)).symm
  have h3 := (hS 3 (by simp)).symm
  have h4 := (hS 4 (by simp)).symm
  have h5 := (hS 5 (by simp)).symm
  have h6 := (hS 6 (by simp)).symm
  have h7 := (hS 7 (by simp)).symm
  clear hS
  simp [upd, zbp, zbP] at h0 h1 h2 h3 h4 h5 h6 h7
  simp only [za4, zaf, zbX, zar, zaU, zaD, zaM, zcf, List.map_cons, List.map_nil]
  ((try simp only [zaD, zaM, zbc, zcl, zaE, zco, zaH, zas, zad, zed, zbJ, zaP, zar, zaf, List.map_cons, List.map_nil, List.nil_append, List.append_nil, List.cons_append]); (repeat (first | (with_reducible first|exact zam.nil|exact zak.nil|exact LeV.refl _|exact zam.refl _ _ _ _|exact zak.refl _|refine zam.cons ?_ ?_|refine zak.cons ?_ ?_|refine LeV.agg ?_|refine LeV.tup ?_|refine LeV.fn ?_ ?_|exact LeV.nil _|refine zat (zak.refl _) ?_) | ((refine zaL (by first | rfl | assumption) (by simp [h0, h1, h2, h3, h4, h5, h6, h7]) (by simp [zbp, zbP, upd, noH, zai, h0, h1, h2, h3, h4, h5, h6, h7]) ?_); (first | (simp [go_sem, h0, h1, h2, h3, h4, h5, h6, h7]; done) | (simp [go_sem, h0, h1, h2, h3, h4, h5, h6, h7]; exact List.take_of_length_le (by simp [h0, h1, h2, h3, h4, h5, h6, h7])))) | ((refine LeV.frz (by first | rfl | assumption) (by simp [h0, h1, h2, h3, h4, h5, h6, h7]) (by simp [zbp, zbP, upd, noH, zai, h0, h1, h2, h3, h4, h5, h6, h7]) ?_); (simp only [List.drop_zero, List.take_succ_cons, List.take_zero, List.map_cons, List.map_nil])) | ((refine LeV.frzP (by first | rfl | assumption) (by simp [h0, h1, h2, h3, h4, h5, h6, h7]) (by simp) (by simp [zbp, zbP, upd, noH, zai, h0, h1, h2, h3, h4, h5, h6, h7]) ?_); (simp only [zbi, List.drop_zero])))))
 repeat first|refine wV fun _=>?_|simp [go_sem]
 refine zxO a1 (by simp [go_sem]) ?_
 repeat first|refine wV fun _=>?_|simp [go_sem]
 refine zaC.frz [.agg (zaf za4), .agg (zad pa), .v (.int .i64 0)] _ [0, 1, 2, 3, 4, 5, 6, 7] [] hC0 (by simp) ?_ (by simp [go_sem, hgs]) ?_
 ·intro h₁ hS
  have h0 := (hS 0 (by simp)).symm
  have h1 := (hS 1 (by simp)).symm
  have h2 := (hS 2 (by simp)).symm
  have h3 := (hS 3 (by simp)).symm
  have h4 := (hS 4 (by simp)).symm
  have h5 := (hS 5 (by simp)).symm
  have h6 := (hS 6 (by simp)).symm
  have h7 := (hS 7 (by simp)).symm
  clear hS
  simp [upd, zbp, zbP] at h0 h1 h2 h3 h4 h5 h6 h7
  simp only [za4, zaf, zbX, zar, zaU, zaD, zaM, zcf, List.map_cons, List.map_nil]
  ((try simp only [zaD, zaM, zbc, zcl, zaE, zco, zaH, zas, zad, zed, zbJ, zaP, zar, zaf, List.map_cons, List.map_nil, List.nil_append, List.append_nil, List.cons_append]); (repeat (first | (with_reducible first|exact zam.nil|exact zak.nil|exact LeV.refl _|exact zam.refl _ _ _ _|exact zak.refl _|refine zam.cons ?_ ?_|refine zak.cons ?_ ?_|refine LeV.agg ?_|refine LeV.tup ?_|refine LeV.fn ?_ ?_|exact LeV.nil _|refine zat (zak.refl _) ?_) | ((refine zaL (by first | rfl | assumption) (by simp [h0, h1, h2, h3, h4, h5, h6, h7]) (by simp [zbp, zbP, upd, noH, zai, h0, h1, h2, h3, h4, h5, h6, h7]) ?_); (first | (simp [go_sem, h0, h1, h2, h3, h4, h5, h6, h7]; done) | (simp [go_sem, h0, h1, h2, h3, h4, h5, h6, h7]; exact List.take_of_length_le (by simp [h0, h1, h2, h3, h4, h5, h6, h7])))) | ((refine LeV.frz (by first | rfl | assumption) (by simp [h0, h1, h2, h3, h4, h5, h6, h7]) (by simp [zbp, zbP, upd, noH, zai, h0, h1, h2, h3, h4, h5, h6, h7]) ?_); (simp only [List.drop_zero, List.take_succ_cons, List.take_zero, List.map_cons, List.map_nil])) | ((refine LeV.frzP (by first | rfl | assumption) (by simp [h0, h1, h2, h3, h4, h5, h6, h7]) (by simp) (by simp [zbp, zbP, upd, noH, zai, h0, h1, h2, h3, h4, h5, h6, h7]) ?_); (simp only [zbi, List.drop_zero])))))
 repeat first|refine wV fun _=>?_|simp [go_sem]
 refine zxO a3 (by simp [go_sem]) ?_
 repeat first|refine wV fun _=>?_|simp [go_sem]
 refine zxO a4 (by simp [go_sem]) ?_
 repeat first|refine wV fun _=>?_|simp [go_sem]
 refine zyk [zcA ([pc, pd], 0), zcA ([pc, pd], 0)] (.v (.bool true)) [27] hS1 (.v _) ?_ (by simp [go_sem, zcA]) ?_
 ·intro h₁ hS
  have h27 := (hS 27 (by simp)).symm
  simp [upd, zbp, zbP] at h27
  simp only [zcA]
  ((try simp only [zaD, zaM, zbc, zcl, zaE, zco, zaH, zas, zad, zed, zbJ, zaP, zar, zaf, List.map_cons, List.map_nil, List.nil_append, List.append_nil, List.cons_append]); (repeat (first | (with_reducible first|exact zam.nil|exact zak.nil|exact LeV.refl _|exact zam.refl _ _ _ _|exact zak.refl _|refine zam.cons ?_ ?_|refine zak.cons ?_ ?_|refine LeV.agg ?_|refine LeV.tup ?_|refine LeV.fn ?_ ?_|exact LeV.nil _|refine zat (zak.refl _) ?_) | ((refine zaL (by first | rfl | assumption) (by simp [h27]) (by simp [zbp, zbP, upd, noH, zai, h27]) ?_); (first | (simp [go_sem, h27]; done) | (simp [go_sem, h27]; exact List.take_of_length_le (by simp [h27])))) | ((refine LeV.frz (by first | rfl | assumption) (by simp [h27]) (by simp [zbp, zbP, upd, noH, zai, h27]) ?_); (simp only [List.drop_zero, List.take_succ_cons, List.take_zero, List.map_cons, List.map_nil])) | ((refine LeV.frzP (by first | rfl | assumption) (by simp [h27]) (by simp) (by simp [zbp, zbP, upd, noH, zai, h27]) ?_); (simp only [zbi, List.drop_zero])))))
 repeat first|refine wV fun _=>?_|simp [go_sem]
 refine zx9 [zcA ([], 0), zcA ([], 0)] (.v (.bool true)) [] (fun _ => hS2) (.v _) ?_ (by simp [go_sem, zcA]) ?_
 ·intro h₁ hS
  simp only [zcA]
  (first|done|exact leX)
 repeat first|refine wV fun _=>?_|simp [go_sem]
 refine zxX _ (fun _ => a1) (by simp [go_sem]) ?_
 repeat first|refine wV fun _=>?_|simp [go_sem]
 refine zx9 [zcA ([pa], 0), zcA ([pa], 0)] (.v (.bool true)) [38] (fun _ => hS3) (.v _) ?_ (by simp [go_sem, zcA]) ?_
 ·intro h₁ hS
  have h38 := (hS 38 (by simp)).symm
  simp [upd, zbp, zbP] at h38
  simp only [zcA]
  ((try simp only [zaD, zaM, zbc, zcl, zaE, zco, zaH, zas, zad, zed, zbJ, zaP, zar, zaf, List.map_cons, List.map_nil, List.nil_append, List.append_nil, List.cons_append]); (repeat (first | (with_reducible first|exact zam.nil|exact zak.nil|exact LeV.refl _|exact zam.refl _ _ _ _|exact zak.refl _|refine zam.cons ?_ ?_|refine zak.cons ?_ ?_|refine LeV.agg ?_|refine LeV.tup ?_|refine LeV.fn ?_ ?_|exact LeV.nil _|refine zat (zak.refl _) ?_) | ((refine zaL (by first | rfl | assumption) (by simp [h38]) (by simp [zbp, zbP, upd, noH, zai, h38]) ?_); (first | (simp [go_sem, h38]; done) | (simp [go_sem, h38]; exact List.take_of_length_le (by simp [h38])))) | ((refine LeV.frz (by first | rfl | assumption) (by simp [h38]) (by simp [zbp, zbP, upd, noH, zai, h38]) ?_); (simp only [List.drop_zero, List.take_succ_cons, List.take_zero, List.map_cons, List.map_nil])) | ((refine LeV.frzP (by first | rfl | assumption) (by simp [h38]) (by simp) (by simp [zbp, zbP, upd, noH, zai, h38]) ?_); (simp only [zbi, List.drop_zero])))))
 repeat first|refine wV fun _=>?_|simp [go_sem]
 refine zxX _ (fun _ => a1) (by simp [go_sem]) ?_
 repeat first|refine wV fun _=>?_|simp [go_sem]
 refine dGC.frz [.agg (zaf za4), .agg (zad pa), .v (.int .i64 (-1))] _ [0, 1, 2, 3, 4, 5, 6, 7] [] hCm (by simp) ?_ (by simp [go_sem, hgs]) ?_
 ·intro h₁ hS
  have h0 := (hS 0 (by simp)).symm
  have h1 := (hS 1 (by simp)).symm
  have h2 := (hS 2 (by simp)).symm
  have h3 := (hS 3 (by simp)).symm
  have h4 := (hS 4 (by simp)).symm
  have h5 := (hS 5 (by simp)).symm
  have h6 := (hS 6 (by simp)).symm
  have h7 := (hS 7 (by simp)).symm
  clear hS
  simp [upd, zbp, zbP] at h0 h1 h2 h3 h4 h5 h6 h7
  simp only [za4, zaf, zbX, zar, zaU, zaD, zaM, zcf, List.map_cons, List.map_nil]
  ((try simp only [zaD, zaM, zbc, zcl, zaE, zco, zaH, zas, zad, zed, zbJ, zaP, zar, zaf, List.map_cons, List.map_nil, List.nil_append, List.append_nil, List.cons_append]); (repeat (first | (with_reducible first|exact zam.nil|exact zak.nil|exact LeV.refl _|exact zam.refl _ _ _ _|exact zak.refl _|refine zam.cons ?_ ?_|refine zak.cons ?_ ?_|refine LeV.agg ?_|refine LeV.tup ?_|refine LeV.fn ?_ ?_|exact LeV.nil _|refine zat (zak.refl _) ?_) | ((refine zaL (by first | rfl | assumption) (by simp [h0, h1, h2, h3, h4, h5, h6, h7]) (by simp [zbp, zbP, upd, noH, zai, h0, h1, h2, h3, h4, h5, h6, h7]) ?_); (first | (simp [go_sem, h0, h1, h2, h3, h4, h5, h6, h7]; done) | (simp [go_sem, h0, h1, h2, h3, h4, h5, h6, h7]; exact List.take_of_length_le (by simp [h0, h1, h2, h3, h4, h5, h6, h7])))) | ((refine LeV.frz (by first | rfl | assumption) (by simp [h0, h1, h2, h3, h4, h5, h6, h7]) (by simp [zbp, zbP, upd, noH, zai, h0, h1, h2, h3, h4, h5, h6, h7]) ?_); (simp only [List.drop_zero, List.take_succ_cons, List.take_zero, List.map_cons, List.map_nil])) | ((refine LeV.frzP (by first | rfl | assumption) (by simp [h0, h1, h2, h3, h4, h5, h6, h7]) (by simp) (by simp [zbp, zbP, upd, noH, zai, h0, h1, h2, h3, h4, h5, h6, h7]) ?_); (simp only [zbi, List.drop_zero])))))
 repeat first|refine wV fun _=>?_|simp [go_sem]
theorem zjS (v : List zag × Int) (h1 : v.1.length ≤ 4000) (h2 : ∀ q ∈ v.1, za3 q) : zaS Tryz.prog 30 [zcA v, zcA v] (.v (.bool true)) := by
 have := zeL v v (by omega) (by omega) h2 h2
 rwa [show decide (v = v) = true from decide_eq_true rfl] at this
theorem zqm (g : zae) : 0 < (zb5 g).length := by
 have h1 : 0 < (zaI g.cells.toNat).length := by rw [zdV]; exact Nat.pow_pos (by decide)
 obtain ⟨l, hl⟩ := List.exists_mem_of_length_pos h1
 have h2 : (⟨l, [0], [0], 0, 0⟩ : zag) ∈ zb5 g := by
  unfold zb5 ze9
  refine List.mem_flatMap.2 ⟨l, hl, List.mem_flatMap.2 ⟨0, List.mem_range.2 (Nat.pow_pos (by decide)), by simp⟩⟩
 exact List.length_pos_of_mem h2
theorem ziw {g : zae} (h : ziI g) (p : zag) : zdA g p = (zap g p, 0) := by
 unfold zdA
 rw [if_neg (by have := zde h p; omega)]
theorem zm0 {α : Type} [Inhabited α] {l : List α} (h : 0 < l.length) {w : Int} (hw : 0 ≤ w) : 0 ≤ w.tmod l.length ∧ (w.tmod l.length).toNat < l.length := by
 have h2 := Int.tmod_nonneg (l.length : Int) hw
 have h3 := Int.tmod_lt_of_pos w (show (0 : Int) < (l.length : Int) by omega)
 omega
theorem znL (g : zae) : ∀ (n : Nat) (l : List zag), Inc (chL g (n + 1) l)
 | 0, l => zeS zaT _
 | n + 1, l => znL g n _
theorem zsi {g : zae} (h : ziI g) : ∀ (n : Nat) (l : List zag), (chL g (n + 1) l).length ≤ 324
 | 0, l => zmU h l
 | n + 1, l => zsi h n _
theorem zvV {g : zae} (hg : GOk g) : ∀ (n : Nat) (l : List zag), ∀ q ∈ chL g (n + 1) l, POk g q
 | 0, l, q, hq => by
  rw [chL, chL, zaV, List.mem_flatMap] at hq
  obtain ⟨r, _, hq⟩ := hq
  exact zc1 hg hq
 | n + 1, l, q, hq => zvV hg n _ q hq
theorem zj1 (g : zae) (p : zag) (l : List Int) : nth (zdf g p l) 0 = p := by
 cases l with
 | nil => rfl
 | cons k l => rw [zdf]; split <;> rfl
theorem zmZ (g : zae) : ∀ (l : List Int) (p : zag) (i : Nat), i + 1 < (zdf g p l).length → nth (zdf g p l) (i + 1) ∈ zaZ g (nth (zdf g p l) i)
 | [], p, i, h => by simp [zdf] at h
 | k :: l, p, i, h => by
  rw [zdf] at h ⊢
  split at h
  ·simp at h
  ·rename_i hm
   rw [if_neg hm]
   cases i with
   | zero =>
    rw [zd3, zj1, zbi]
    have hlp : 0 < (zaZ g p).length := List.length_pos_iff.2 hm
    generalize zaZ g p = m at *
    have e2 : 0 ≤ k.emod m.length := Int.emod_nonneg _ (by omega)
    have e3 : k.emod m.length < m.length := Int.emod_lt_of_pos _ (by omega)
    exact zaj (by omega)
   | succ i =>
    rw [zd3, zd3]
    exact zmZ g l _ i (by simpa using h)
theorem zj0 {g : zae} (hg : GOk g) {p : zag} (hp : POk g p) (l : List Int) : ∀ n i : Nat, i + n < (zdf g p l).length → nth (zdf g p l) i ∈ chL g n [nth (zdf g p l) (i + n)]
 | 0, i, h => by simp [chL]
 | n + 1, i, h => by
  have h1 := zj0 hg hp l n (i + 1) (by omega)
  rw [show i + 1 + n = i + (n + 1) by omega] at h1
  have h2 := zmZ g l p i (by omega)
  exact zoM hg n (zk6 hg l hp _ (zaj (by omega))) h2 h1
theorem zhl (x : zf0) (hx : zlo x) (hl : x.c.length ≤ 1099511627776) (hl0 : x.k0.length ≤ 1099511627776) (hl1 : x.k1.length ≤ 1099511627776) (w : Int) (hw : 0 ≤ w ∧ w ≤ 65535)
  (u0 u1 u2 : Int) (hu0 : U8 u0) (hu1 : U8 u1) (hu2 : U8 u2) :
  zaS Tryz.prog 10 [.agg (zcT x), .v (.int .u16 w), .agg [.v (.int .u8 u0), .v (.int .u8 u1), .v (.int .u8 u2)]] (.v (.bool true)) := by
 refine pF Tryz.func10 ?_
 have hT := zrq x hx hl hl0 hl1
 have ht := ztH hx
 have hos : zcF (zeX (zfY x)) := zn7 (zfY x)
 obtain ⟨er, her⟩ : ∃ er, er = zcT x := ⟨_, rfl⟩
 have herl : er.length = 12 := by rw [her]; rfl
 have herb : ∀ n, (∀ c ∈ er, Bel n c) = True := fun n => by rw [her]; simp [go_sem]
 rw [← her] at hT ⊢
 generalize zeX (zfY x) = g at *
 have hg := ht.ok
 have hS := zmN
 have hE := zpk g ht
 have hln := zqm g
 have hl3 := zgg ht
 have hmk := fun q (hq : q ∈ zb5 g) => (zeP ht).1 hq
 obtain ⟨hj0, hj⟩ := zm0 hln hw.1
 obtain ⟨hk0, hk⟩ := zm0 hln hu0.1
 obtain ⟨hw0, hw1⟩ := hw
 obtain ⟨hu01, hu02⟩ := hu0
 obtain ⟨hu11, hu12⟩ := hu1
 obtain ⟨hu21, hu22⟩ := hu2
 have hw64 : -9223372036854775808 ≤ w ∧ w ≤ 9223372036854775807 := by omega
 have hu064 : -9223372036854775808 ≤ u0 ∧ u0 ≤ 9223372036854775807 := by omega
 have hu164 : -9223372036854775808 ≤ u1 ∧ u1 ≤ 9223372036854775807 := by omega
 have hu264 : -9223372036854775808 ≤ u2 ∧ u2 ≤ 9223372036854775807 := by omega
 have hgj := zbK zad (zb5 g) _ hj
 have hgk := zbK zad (zb5 g) _ hk
 have hp := hmk _ (zaj hj)
 have hr := hmk _ (zaj hk)
 generalize nth (zb5 g) (w.tmod (zb5 g).length).toNat = p at *
 generalize nth (zb5 g) (u0.tmod (zb5 g).length).toNat = r at *
 have hB := zdi g hg hos p hp
 rw [ziw ht] at hB
 have c0 := zcz g hg hos p hp 0
 rw [zhG] at c0
 have c1 := zcz g hg hos p hp 1
 rw [zp9, ziw ht] at c1
 have c2 := zcz g hg hos p hp 2
 have e2 : zdB g p 2 = (zbj zbw (zlc g (zap g p) (zap g p).length), 0) := by
  rw [show zdB g p 2 = zbO g 2 [p] from rfl, zgv ht, zoX]
  unfold chL chL chL
  rw [show [p].flatMap (zap g) = zap g p by simp, zgt (zdU g p)]
 rw [e2] at c2
 have hml := zde ht p
 have hmo : ∀ q ∈ zap g p, POk g q := fun q hq => zc1 hg hq
 have s1 := zjS (zap g p, 0) (by simp only; omega) fun q hq => (hmo q hq).fits hg
 have s0 := zjS ([p], 0) (by simp) (by simp; exact hp.fits hg)
 have hBq : ∀ q, POk g q → ∃ b : List zag, b = zap g q ∧ b.length ≤ 324 ∧ zaS Tryz.prog 31 [.agg (zaf g), .agg (zad q)] (.agg [zaP b, .v (.int .i64 0)]) := fun q hq => by
  refine ⟨_, rfl, zde ht q, ?_⟩
  have := zdi g hg hos q hq
  rw [ziw ht] at this
  exact this
 have hV : ∀ q, POk g q → zaS Tryz.prog 35 [.agg (zaf g), .agg (zad q)] (.v (.bool true)) := fun q hq => by
  have := znj g (by have := hg.k6; unfold zf2; omega) ⟨hg.r0, by have := hg.r4; omega⟩ q (hq.fits hg)
  rwa [zkY.2 hq] at this
 have hnl := fun k => zoY (g := g) (l := zap g p) (k := k) fun j _ _ => by have := zde ht (nth (zap g p) j); omega
 have hno := fun k => ztf (k := k) hg (l := zap g p)
 have hns := fun k hk => zmB g (l := zap g p) (k := k) hk
 have hn0 := zmC g (zap g p)
 have hSo := zni (zlc g (zap g p) (zap g p).length) (by have := hnl (zap g p).length; omega) (fun q hq => (hno _ q hq).fits hg)
 have hSl := ze1 (zbj zbw (zlc g (zap g p) (zap g p).length)) (zbj zbw (zlc g (zap g p) (zap g p).length)) (by have := zd9 zbw (zlc g (zap g p) (zap g p).length); have := hnl (zap g p).length; omega)
  (by have := zd9 zbw (zlc g (zap g p) (zap g p).length); have := hnl (zap g p).length; omega) (fun q hq => (hno _ q (zaV.1 hq)).fits hg) (fun q hq => (hno _ q (zaV.1 hq)).fits hg)
 rw [decide_eq_true rfl] at hSl
 have hWk := zrr g hg r hr [u1, u2, 0] (by simp)
 have hwl := zmY g [u1, u2, 0] r
 have hwo := zk6 hg [u1, u2, 0] hr
 have hwc := fun h => zj0 hg hr [u1, u2, 0] 3 0 h
 rw [zj1] at hwc
 have c3 : ∀ q, POk g q → ∃ b : List zag, zaS Tryz.prog 33 [.agg (zaf g), .agg (zad q), .v (.int .i64 3)] (.agg [zaP b, .v (.int .i64 0)]) ∧ b = chL g 3 [q] := fun q hq => by
  have := zcz g hg hos q hq 3
  rw [show zdB g q 3 = zbO g 3 [q] from rfl, zgv ht] at this
  exact ⟨_, this, rfl⟩
 have hFr := fun q => zqK (chL g 3 [q]) (znL g 2 _) (by have : (chL g 3 [q]).length ≤ 324 := zsi ht 2 [q]; omega) (fun a ha => (zvV hg 2 _ a ha).fits hg) r (hr.fits hg)
 have hFm : ∀ q, 0 ≤ zu8 (chL g 3 [q]) r ↔ r ∈ chL g 3 [q] := fun q => zva (znL g 2 [q])
 clear e2 her
 unfold zcA at hB c0 c1 c2 s1
 generalize zbj zbw (zlc g (zap g p) (zap g p).length) = M2 at *
 generalize zlc g (zap g p) = nx at *
 generalize zap g p = M at *
 generalize zdf g r [u1, u2, 0] = wk at *
 have hln2 : ¬ zb5 g = [] := fun h => by rw [h] at hln; exact absurd hln (by simp)
 generalize zb5 g = L at *
 have hegl : (zaf g).length = 9 := rfl
 have hegb : ∀ n, (∀ c ∈ zaf g, Bel n c) = True := fun n => by simp [go_sem]
 generalize zaf g = eg at *
 repeat first|refine wV fun _=>?_|simp [go_sem, herl]
 refine zxM hS (by simp [go_sem]) ?_
 repeat first|refine wV fun _=>?_|simp [go_sem, herl]
 refine zxM hT (by simp [go_sem, herb]) ?_
 repeat first|refine wV fun _=>?_|simp [go_sem, herl, hegl]
 refine zxM hE (by simp [go_sem, hegb]) ?_
 repeat first|refine wV fun _=>?_|simp [go_sem, hegl, hj0, hj, hgj, hln2]
 refine zxO c1 (by simp [go_sem, hegb]) ?_
 repeat first|refine wV fun _=>?_|simp [go_sem, hegl]
 refine zxO c2 (by simp [go_sem, hegb]) ?_
 repeat first|refine wV fun _=>?_|simp [go_sem, hegl]
 refine zxX _ (fun _ => hB) (by simp [go_sem, hegb]) ?_
 repeat first|refine wV fun _=>?_|simp [go_sem, hegl]
 refine zxX _ (fun _ => s1) (by simp [go_sem]) ?_
 repeat first|refine wV fun _=>?_|simp [go_sem, hegl]
 refine zxX _ (fun _ => c0) (by simp [go_sem, hegb]) ?_
 repeat first|refine wV fun _=>?_|simp [go_sem, hegl]
 refine zx9 [zcA ([p], 0), zcA ([p], 0)] (.v (.bool true)) [35] (fun _ => s0) (.v _) ?_ (by simp [go_sem, zcA]) ?_
 ·intro h₁ hS
  have h35 := (hS 35 (by simp)).symm
  simp [upd, zbp, zbP] at h35
  simp only [zcA]
  ((try simp only [zaD, zaM, zbc, zcl, zaE, zco, zaH, zas, zad, zed, zbJ, zaP, zar, zaf, List.map_cons, List.map_nil, List.nil_append, List.append_nil, List.cons_append]); (repeat (first | (with_reducible first|exact zam.nil|exact zak.nil|exact LeV.refl _|exact zam.refl _ _ _ _|exact zak.refl _|refine zam.cons ?_ ?_|refine zak.cons ?_ ?_|refine LeV.agg ?_|refine LeV.tup ?_|refine LeV.fn ?_ ?_|exact LeV.nil _|refine zat (zak.refl _) ?_) | ((refine zaL (by first | rfl | assumption) (by simp [h35]) (by simp [zbp, zbP, upd, noH, zai, h35]) ?_); (first | (simp [go_sem, h35]; done) | (simp [go_sem, h35]; exact List.take_of_length_le (by simp [h35])))) | ((refine LeV.frz (by first | rfl | assumption) (by simp [h35]) (by simp [zbp, zbP, upd, noH, zai, h35]) ?_); (simp only [List.drop_zero, List.take_succ_cons, List.take_zero, List.map_cons, List.map_nil])) | ((refine LeV.frzP (by first | rfl | assumption) (by simp [h35]) (by simp) (by simp [zbp, zbP, upd, noH, zai, h35]) ?_); (simp only [zbi, List.drop_zero])))))
 repeat first|refine wV fun _=>?_|simp [go_sem, hegl]
 refine zxL (zxP (α := Nat) (fun k => ⟨[(5, .ref 1 0 3 0 0), (7, .v (.bool true)), (8, .ref 2 0 9 0 0), (9, zaP L), (11, .ref 10 0 2 0 0), (12, .ref 11 0 2 0 0), (13, .sl 40 k 5 0 (nx k).length), (14, .v (.int .i64 k))], [(1, .rows true 0 3 [[.v (.int .u8 u0), .v (.int .u8 u1), .v (.int .u8 u2)]]), (2, .rows true 0 9 [eg]), (10, .rows true 0 2 [[zaP M, .v (.int .i64 0)]]), (11, .rows true 0 2 [[zaP M2, .v (.int .i64 0)]]), (40, .rows true k 5 ((nx k).map zad))], 41⟩)
  (fun d k => k + d = M.length) ?_ M.length 0 ?_) ?_ ?_
 ·rintro d k k1 hrec
  have hnk := hnl k
  repeat first|refine wV fun _=>?_|simp [go_sem, hegl]
  by_cases hk2 : k < M.length
  ·have h400 : (k : Int) < 400 := by omega
   have hq := hmo _ (zaj hk2)
   have hgq := zbK zad M k hk2
   have hVq := hV _ hq
   obtain ⟨b, hb, hbl, hBq⟩ := hBq _ hq
   have hns := hns k hk2
   rw [← hb] at hns
   have hb400 : ¬ 400 < (b.length : Int) := by omega
   generalize nth M k = q at *
   repeat first|refine wV fun _=>?_|simp [go_sem, hegl, hk2, h400, hgq]
   refine zxO hVq (by simp [go_sem, hegb]) ?_
   repeat first|refine wV fun _=>?_|simp [go_sem, hegl, hk2, h400, hgq]
   refine zxO hBq (by simp [go_sem, hegb]) ?_
   repeat first|refine wV fun _=>?_|simp [go_sem, hegl, hb400]
   refine zxL (hrec (d - 1) (by omega) (k + 1) (by omega)) ?_ (by simp)
   simp [go_sem, zah, hegb, hns]
  ·obtain rfl : k = M.length := by omega
   have hnk2 := hnl M.length
   generalize nx M.length = nl at *
   (repeat (first|with_reducible (first|refine wL fun _=>?_|refine wD fun _=>?_|refine wE ?_)|simp [go_sem, hegl, hk2]))
   refine zla.frz (zbp _ [40]) (zcb _ _) ?_
   repeat first|refine wV fun _=>?_|simp [go_sem, hegl]
   refine zaC.frz [zaP nl] _ [40] [] hSo (by simp) ?_ (by simp [go_sem]) ?_
   ·intro h₁ hS
    have h40 := (hS 40 (by simp)).symm
    clear hS
    simp [upd, zbp, zbP] at h40
    ((try simp only [zaD, zaM, zbc, zcl, zaE, zco, zaH, zas, zad, zed, zbJ, zaP, zar, zaf, List.map_cons, List.map_nil, List.nil_append, List.append_nil, List.cons_append]); (repeat (first | (with_reducible first|exact zam.nil|exact zak.nil|exact LeV.refl _|exact zam.refl _ _ _ _|exact zak.refl _|refine zam.cons ?_ ?_|refine zak.cons ?_ ?_|refine LeV.agg ?_|refine LeV.tup ?_|refine LeV.fn ?_ ?_|exact LeV.nil _|refine zat (zak.refl _) ?_) | ((refine zaL (by first | rfl | assumption) (by simp [h40]) (by simp [zbp, zbP, upd, noH, zai, h40]) ?_); (first | (simp [go_sem, h40]; done) | (simp [go_sem, h40]; exact List.take_of_length_le (by simp [h40])))) | ((refine LeV.frz (by first | rfl | assumption) (by simp [h40]) (by simp [zbp, zbP, upd, noH, zai, h40]) ?_); (simp only [List.drop_zero, List.take_succ_cons, List.take_zero, List.map_cons, List.map_nil])) | ((refine LeV.frzP (by first | rfl | assumption) (by simp [h40]) (by simp) (by simp [zbp, zbP, upd, noH, zai, h40]) ?_); (simp only [zbi, List.drop_zero])))))
   repeat first|refine wV fun _=>?_|simp [go_sem, hegl]
   refine zxO hSl (by simp [go_sem]) ?_
   repeat first|refine wV fun _=>?_|simp [go_sem, hegl, hk0, hk, hgk, hln2, zbp, zbP]
   refine zxW [48] hWk ?_ (by simp [go_sem, hegb]) ?_
   ·simp only [zar, List.map_cons, List.map_nil, zcf]
    (first|done|exact leX)
   by_cases h4 : (wk.length : Int) < 4
   ·repeat first|refine wV fun _=>?_|simp [go_sem, hegl, h4]
    refine dGC.skip (.v (.bool false)) ?_
    repeat first|refine wV fun _=>?_|simp [go_sem, hegl, h4]
   ·have h3 : 3 < wk.length := by omega
    have hg3 := zbK zad wk 3 h3
    have hm3 := hwc (by omega)
    rw [Nat.zero_add] at hm3
    have ho := hwo _ (zaj h3)
    have hVq := hV _ ho
    obtain ⟨b, hC, hb⟩ := c3 _ ho
    have hF := hFr (nth wk 3)
    have hF0 := (hFm (nth wk 3)).2 hm3
    rw [← hb] at hF
    rw [← hb] at hF0
    generalize zu8 b r = fk at *
    generalize nth wk 3 = q at *
    repeat first|refine wV fun _=>?_|simp [go_sem, hegl, h4, h3, hg3]
    refine zxX _ (fun _ => hVq) (by simp [go_sem, hegb]) ?_
    repeat first|refine wV fun _=>?_|simp [go_sem, hegl, h4, h3, hg3]
    refine zxO hC (by simp [go_sem, hegb]) ?_
    repeat first|refine wV fun _=>?_|simp [go_sem, hegl, zbp, zbP]
    refine aGC.go ?_
    refine zxM hF (by simp [go_sem]) ?_
    repeat first|refine wV fun _=>?_|simp [go_sem, hegl, hF0]
 ·omega
 ·simp [go_sem, zah, hegb, hn0]
 ·simp
theorem zvG {P : Program} {t : TypeId} {fn : Fn} {first caps : Array Value} {l : List UInt8} (hl : l ≠ []) (h : funcToken P (t, .func fn first caps) = l) :
  ∃ f F, fn = .func f ∧ first = #[] ∧ caps = #[] ∧ P.funcs[f]? = some F ∧ P.funcNamed F.name = some f ∧ F.name.toUTF8.data.toList = l := by
 unfold funcToken at h
 cases fn with
 | func f =>
  simp only at h
  split at h
  ·rename_i hc
   simp only [Bool.and_eq_true, Array.isEmpty_iff] at hc
   split at h
   ·rename_i F hF
    split at h
    ·rename_i hn
     exact ⟨f, F, rfl, hc.1, hc.2, hF, by simpa using hn, h⟩
    ·exact absurd h.symm hl
   ·exact absurd h.symm hl
  ·exact absurd h.symm hl
 | _ => exact absurd h.symm hl
theorem zos {P : Program} {w : World} {sp : Nat → Bool} {fuel : Nat} {e : TypeId} {d : TypeDesc} {v : Value} {l : List UInt8} {q : List MemPlace} (hd : P.underlying e = some d) (hf : ∃ a b c, d = .func a b c) (h : DataW.trod (funcToken P) P w 0 sp true fuel e [v] = some (.held l, q)) :
  ∃ fn first caps, v = .func fn first caps ∧ funcToken P (e, .func fn first caps) = l := by
 obtain ⟨a, b, c, rfl⟩ := hf
 cases fuel with
 | zero => simp [DataW.trod] at h
 | succ fuel =>
  simp only [DataW.trod, hd] at h
  cases v <;> simp at h
  exact ⟨_, _, _, rfl, h.1⟩
theorem ztJ {P : Program} {w : World} {sp : Nat → Bool} {fuel : Nat} {e : TypeId} {d : TypeDesc} {v : Value} {q : List MemPlace} (hd : P.underlying e = some d) (hf : ∃ a b c, d = .func a b c) (h : DataW.trod (funcToken P) P w 0 sp true fuel e [v] = some (.nil, q)) : v = .nilFunc := by
 obtain ⟨a, b, c, rfl⟩ := hf
 cases fuel with
 | zero => simp [DataW.trod] at h
 | succ fuel =>
  simp only [DataW.trod, hd] at h
  cases v <;> simp at h
  rfl
theorem zp5 {a b : String} (h : a.toUTF8.data.toList = b.toUTF8.data.toList) : a = b := by
 have h1 : a.toUTF8 = b.toUTF8 := ByteArray.ext (Array.toList_inj.1 h)
 exact String.toByteArray_inj.1 h1
theorem zkJ {n : String} {k : FuncId} {l : List UInt8} {t : TypeId} {fn : Fn} {first caps : Array Value} (hk : Tryz.prog.funcNamed n = some k) (hl : n.toUTF8.data.toList = l) (hne : l ≠ []) (h : funcToken Tryz.prog (t, .func fn first caps) = l) : fn = .func k ∧ first = #[] ∧ caps = #[] := by
 obtain ⟨f, F, h1, h2, h3, h4, h5, h6⟩ := zvG hne h
 have e : F.name = n := zp5 (h6.trans hl.symm)
 rw [e, hk] at h5
 cases h5
 exact ⟨h1, h2, h3⟩
def zoO : DataW Unit := .agg [.nil, .iface "func" (.lit (.string [115, 107, 101, 119, 101, 114, 47, 112, 108, 97, 121, 46, 99, 111, 110, 100, 105, 116, 105, 111, 110, 115, 36, 49])), .iface "func" (.lit (.string [115, 107, 101, 119, 101, 114, 47, 112, 108, 97, 121, 46, 99, 111, 110, 100, 105, 116, 105, 111, 110, 115, 36, 50])), .iface "func" (.lit (.string [115, 107, 101, 119, 101, 114, 47, 112, 108, 97, 121, 46, 99, 111, 110, 100, 105, 116, 105, 111, 110, 115, 36, 51]))]
theorem znM {W : World} (h : funcsAt Tryz.prog W "skewer/play.conditions" zoO) :
  ∃ cs T fz, W.heap[0]? = some (.cells cs T fz) ∧ cs.toList = [.nilFunc, .func (.func 359) #[] #[], .func (.func 361) #[] #[], .func (.func 362) #[] #[]] := by
 obtain ⟨g, t, cs, fuel, p, hg, ht, hcs, htr⟩ := h
 obtain rfl : g = 0 := (Option.some.inj ((show Tryz.prog.globalNamed "skewer/play.conditions" = some 0 by kernel_rfl).symm.trans hg)).symm
 obtain rfl : t = 198 := (Option.some.inj ((show (Tryz.prog.globals[0]?).map (·.type) = some 198 by kernel_rfl).symm.trans ht)).symm
 have hu : Tryz.prog.underlying 198 = some (.array 4 197) := by kernel_rfl
 have hc1 : Tryz.prog.cellsOf 197 = 1 := by kernel_rfl
 have hc4 : Tryz.prog.cellsOf 198 = 4 := by kernel_rfl
 have hheap : ∃ T fz, W.heap[0]? = some (.cells cs T fz) := by
  unfold World.var? at hcs
  rw [show Tryz.prog.globalNamed "skewer/play.conditions" = some 0 by kernel_rfl] at hcs
  simp only [Option.bind_some] at hcs
  split at hcs
  ·rename_i c T fz hb
   cases hcs
   exact ⟨T, fz, hb⟩
  ·cases hcs
 obtain ⟨T, fz, hb⟩ := hheap
 refine ⟨cs, T, fz, hb, ?_⟩
 cases fuel with
 | zero => simp [DataW.trod] at htr
 | succ fuel =>
  simp only [DataW.trod, hu, hc1, hc4, Nat.mul_one] at htr
  split at htr
  ·rename_i hl
   match hcl : cs.toList, hl with
   | [a, b, c, d], _ =>
    rw [hcl] at htr
    obtain ⟨xs, hm, hx⟩ := Option.map_eq_some_iff.1 htr
    simp only [show List.range 4 = [0, 1, 2, 3] from rfl, List.mapM_cons, List.mapM_nil, List.drop_zero, List.drop_succ_cons, List.take_succ_cons, List.take_zero, Option.bind_eq_bind, Option.bind_eq_some_iff, Option.pure_def, Option.some.injEq] at hm
    obtain ⟨⟨y0, q0⟩, h0, l1, ⟨⟨y1, q1⟩, h1, l2, ⟨⟨y2, q2⟩, h2, l3, ⟨⟨y3, q3⟩, h3, l4, rfl, rfl⟩, rfl⟩, rfl⟩, rfl⟩ := hm
    have hx1 := congrArg Prod.fst hx
    simp only [zoO, DataW.funcsOut, DataW.funcsOutAll, List.map_cons, List.map_nil, DataW.agg.injEq, List.cons.injEq, and_true] at hx1
    simp at hx1
    obtain ⟨rfl, rfl, rfl, rfl⟩ := hx1
    have hd : Tryz.prog.underlying 197 = some (.func #[39, 45, 75] #[4] false) := by kernel_rfl
    have hf : ∃ a b c, TypeDesc.func #[39, 45, 75] #[4] false = .func a b c := ⟨_, _, _, rfl⟩
    obtain rfl := ztJ hd hf h0
    obtain ⟨f1, i1, c1, rfl, t1⟩ := zos hd hf h1
    obtain ⟨f2, i2, c2, rfl, t2⟩ := zos hd hf h2
    obtain ⟨f3, i3, c3, rfl, t3⟩ := zos hd hf h3
    obtain ⟨rfl, rfl, rfl⟩ := zkJ (n := "skewer/play.conditions$1") (k := 359) (by kernel_rfl) (by decide +kernel) (by simp) t1
    obtain ⟨rfl, rfl, rfl⟩ := zkJ (n := "skewer/play.conditions$2") (k := 361) (by kernel_rfl) (by decide +kernel) (by simp) t2
    obtain ⟨rfl, rfl, rfl⟩ := zkJ (n := "skewer/play.conditions$3") (k := 362) (by kernel_rfl) (by decide +kernel) (by simp) t3
    rfl
  ·cases htr
theorem zmj {W : World} (h : funcsAt Tryz.prog W "skewer/play.conditions" zoO) : zf3 W (fun _ => False) := by
 obtain ⟨cs, T, fz, hb, hcs⟩ := znM h
 have hsz : cs.size = 4 := by rw [← Array.length_toList, hcs]; rfl
 intro q hq
 have e : q = (0, [AV.v .nilFunc, .fn (.func 359) [] [], .fn (.func 361) [] [], .fn (.func 362) [] []]) := by simpa [glbs] using hq
 subst e
 refine Rel.fp (C := cs) (T := T) (fz := fz) rfl (fun h => h) hb (by simp [hsz]) ?_ ?_
 ·intro u hu
  simp only [hcs, List.drop_zero] at hu
  simp at hu
  rcases hu with rfl | rfl | rfl | rfl <;> rfl
 ·simp only [hcs, List.drop_zero]
  exact .cons (.v _) (.cons (.fn .nil .nil) (.cons (.fn .nil .nil) (.cons (.fn .nil .nil) .nil)))
end Go.Av
end
section
open Go Go.Proofs Go.Av Go.ChangeShapes Go.RowKit
namespace Go.Proofs.YtedhfmmlhfmomaaGreatDoor
theorem zu1 : ownKnob Tryz.prog.godebug = none := by kernel_rfl
theorem zw3 : laidOutB Tryz.prog = true := by kernel_rfl
abbrev zuZ : List (String × DataW Unit) := [("math/bits.deBruijn32tab", Rows.laid_math_bits_deBruijn32tab), ("math/bits.deBruijn64tab", Rows.laid_math_bits_deBruijn64tab), ("internal/strconv.uint64pow10", Rows.laid_internal_strconv_uint64pow10), ("skewer/play.conditions", Rows.laid_skewer_play_conditions)]
theorem zu0 (os : Os) (args : Array Value) : laidMetH Tryz.prog zuZ ((World.doorLaid Tryz.prog 29 os).forCall (fun _ _ => 0) ⟨#[], args, []⟩).memory :=
 laidMetH_of_parts3 (fuel := 8) (laidMet_of_run' 8 (by kernel_rfl) (by kernel_rfl)) (by kernel_rfl) (by kernel_rfl)
theorem zsu (os : Os) (args : Array Value) : ((World.doorLaid Tryz.prog 29 os).forCall (fun _ _ => 0) ⟨#[], args, []⟩).variablesB Tryz.prog = true := by kernel_rfl
theorem zst (os : Os) (args : Array Value) : (((World.doorLaid Tryz.prog 29 os).forCall (fun _ _ => 0) ⟨#[], args, []⟩).heap.toList.drop Tryz.prog.globals.size).take ((begin Tryz.prog (fun _ _ => 0) default).world.heap.size - Tryz.prog.globals.size) =
  (begin Tryz.prog (fun _ _ => 0) default).world.heap.toList.drop Tryz.prog.globals.size := by kernel_rfl
end Go.Proofs.YtedhfmmlhfmomaaGreatDoor
end
section
/- Our library, part 14: arguments, as the statements read them, are values of the abstract domain. -/
namespace Go.Av
open Go

abbrev NoM : Nat → Prop := fun _ => False

structure zm2 (B : Nat) (bk : ∀ {H : Type}, DataW H → Nat) : Prop where
 len : ∀ {H : Type} (l r : List (DataW H)), bk (.slice l r) ≤ B → l.length ≤ maxLen → l.length ≤ B
 elem : ∀ {H : Type} (l r : List (DataW H)) d, d ∈ l → bk (.slice l r) ≤ B → bk d ≤ B
 part : ∀ {H : Type} (l : List (DataW H)) d, d ∈ l → bk (.agg l) ≤ B → bk d ≤ B
 str : ∀ {H : Type} (l : List UInt8), bk (DataW.lit (H := H) (.string l)) ≤ B → l.length ≤ maxLen → l.length ≤ B

theorem zm2.any : zm2 maxLen (fun _ => 0) := ⟨fun _ _ _ h => h, fun _ _ _ _ _ => Nat.zero_le _, fun _ _ _ _ => Nat.zero_le _, fun _ _ h => h⟩

def Opn (P : Program) (B : Nat) (bk : ∀ {H : Type}, DataW H → Nat) {α : Type} (t : TypeId) (en : α → List AV) (Q : α → Prop) : Prop :=
 ∀ {H : Type} (enc : TypeId × Value → H) (w : World) (fuel : Nat) (cs : List Value) (d : DataW H) (ps : List MemPlace),
  DataW.trod enc P w 0 (fun _ => true) true fuel t cs = some (d, ps) → bk d ≤ B → ∃ x, zay noP w NoM (en x) cs ∧ (∀ c ∈ cs, zbI c = true) ∧ cs.length = P.cellsOf t ∧ Q x

section
variable {P : Program} {B : Nat} {bk : ∀ {H : Type}, DataW H → Nat}
theorem Opn.int {t : TypeId} {k : IntKind} (ht : P.underlying t = some (.int k)) (hc : P.cellsOf t = 1) : Opn P B bk t (fun n : Int => [.v (.int k n)]) (fun n => (Lit.int k n).wf = true) := by
 intro H enc w fuel cs d ps h _
 obtain ⟨n, rfl, _, hw⟩ := DataW.trod_int ht h
 exact ⟨n, .cons (.v _) .nil, by simp [zbI, Value.oneCell'], by simp [hc], hw⟩
theorem Opn.bool {t : TypeId} (ht : P.underlying t = some .bool) (hc : P.cellsOf t = 1) : Opn P B bk t (fun b : Bool => [.v (.bool b)]) (fun _ => True) := by
 intro H enc w fuel cs d ps h _
 obtain ⟨n, rfl, _⟩ := DataW.trod_bool ht h
 exact ⟨n, .cons (.v _) .nil, by simp [zbI, Value.oneCell'], by simp [hc], trivial⟩
theorem Opn.string {t : TypeId} (hB : zm2 B bk) (ht : P.underlying t = some .string) (hc : P.cellsOf t = 1) : Opn P B bk t (fun s : ByteArray => [.v (.string s)]) (fun s => s.size ≤ B) := by
 intro H enc w fuel cs d ps h hb
 obtain ⟨n, rfl, hx, hm⟩ := DataW.trod_string ht h
 simp only [Prod.mk.injEq] at hx
 obtain ⟨rfl, _⟩ := hx
 refine ⟨n, .cons (.v _) .nil, by simp [zbI, Value.oneCell'], by simp [hc], ?_⟩
 have := hB.str _ hb (by simpa using hm)
 simpa using this
theorem Opn.imp {α : Type} {t : TypeId} {en : α → List AV} {Q Q' : α → Prop} (h : Opn P B bk t en Q) (hq : ∀ x, Q x → Q' x) : Opn P B bk t en Q' := by
 intro H enc w fuel cs d ps h1 h2
 obtain ⟨x, a, b, c, e⟩ := h enc w fuel cs d ps h1 h2
 exact ⟨x, a, b, c, hq x e⟩
theorem Opn.map {α β : Type} {t : TypeId} {en : α → List AV} {en' : β → List AV} {Q : α → Prop} {Q' : β → Prop} (h : Opn P B bk t en Q) (f : α → β) (hq : ∀ x, Q x → Q' (f x)) (he : ∀ x, Q x → en' (f x) = en x) : Opn P B bk t en' Q' := by
 intro H enc w fuel cs d ps h1 h2
 obtain ⟨x, a, b, c, e⟩ := h enc w fuel cs d ps h1 h2
 exact ⟨f x, by rw [he x e]; exact a, b, c, hq x e⟩
theorem zf8 {w : World} {a : Addr} {n : Nat} {cs : List Value} (h : w.cells? 0 a n = some cs) : cs.length = n ∧ ∀ i, i < n → w.cell? (a.add i) = cs[i]? := by
 unfold World.cells? at h
 rw [if_pos (Nat.zero_le _)] at h
 exact ⟨by simpa using mapM_some_length h, fun i hi => mapM_some_get h i i (by simp [hi])⟩
theorem zhE {w : World} {a : Addr} {v : Value} (h : w.cell? a = some v) : ∃ C T fz, w.heap[a.block]? = some (.cells C T fz) ∧ a.spot = none ∧ C[a.off]? = some v := by
 unfold World.cell? at h
 split at h
 ·rename_i C T fz hb
  split at h
  ·cases h
  ·rename_i hs
   refine ⟨C, T, fz, hb, ?_, h⟩
   cases hsp : a.spot with
   | none => rfl
   | some x => simp [hsp] at hs
 ·cases h
theorem zhq (a : Addr) (n : Nat) : (a.add n).block = a.block := by unfold Addr.add; split <;> rfl
theorem zno (a : Addr) (n : Nat) : (a.add n).off = a.off + n := by
 unfold Addr.add
 split
 ·rename_i h; subst h; rfl
 ·rfl
theorem zgN {φ : zaq} {w : World} {M : Nat → Prop} {rows : List (List AV)} {L : List Value} {sz : Nat} (hl : L.length = rows.length * sz)
  (h : ∀ i (hi : i < rows.length), zay φ w M rows[i] ((L.drop (i * sz)).take sz)) : zay φ w M rows.flatten L := by
 induction rows generalizing L with
 | nil => simp at hl; subst hl; exact .nil
 | cons r rows ih =>
  have h0 := h 0 (by simp)
  simp only [List.getElem_cons_zero, Nat.zero_mul, List.drop_zero] at h0
  rw [List.flatten_cons, ← List.take_append_drop sz L]
  refine zay.append h0 (ih (by simp at hl ⊢; rw [hl, Nat.add_mul]; omega) fun i hi => ?_)
  have := h (i + 1) (by simpa using hi)
  simp only [List.getElem_cons_succ] at this
  rw [List.drop_drop, show sz + i * sz = (i + 1) * sz by rw [Nat.add_mul]; omega]
  exact this
theorem zhS {α : Type} (n : Nat) (p : Nat → α → Prop) (h : ∀ i, i < n → ∃ x, p i x) : ∃ l : List α, l.length = n ∧ ∀ i (hi : i < l.length), p i l[i] := by
 induction n with
 | zero => exact ⟨[], rfl, fun i hi => by simp at hi⟩
 | succ n ih =>
  obtain ⟨l, hl, hp⟩ := ih fun i hi => h i (by omega)
  obtain ⟨x, hx⟩ := h n (by omega)
  refine ⟨l ++ [x], by simp [hl], fun i hi => ?_⟩
  rcases Nat.lt_or_ge i l.length with h1 | h1
  ·rw [List.getElem_append_left h1]; exact hp i h1
  ·have : i = n := by simp at hi; omega
   subst this
   simp [List.getElem_append_right, hl, hx]
theorem Opn.slice {α : Type} {t e : TypeId} {en : α → List AV} {Q : α → Prop} {sz : Nat} (hB : zm2 B bk) (ht : P.underlying t = some (.slice e)) (hc : P.cellsOf t = 1) (hz : P.cellsOf e = sz) (hp : 0 < sz)
  (he : Opn P B bk e en Q) : Opn P B bk t (fun l : List α => [.lst sz (l.map en)]) (fun l => l.length ≤ B ∧ ∀ x ∈ l, Q x) := by
 intro H enc w fuel cs d ps h hb
 rcases DataW.trod_slice ht h with ⟨rfl, _⟩ | ⟨a, len, cap, zqf, rest, n, rfl, rfl, hx, _, hlen, hmax, hel, hget, _, _⟩
 ·exact ⟨[], .cons (.nil _ _ _) .nil, by simp [zbI, Value.oneCell'], by simp [hc], by simp, by simp⟩
 ·simp only [Prod.mk.injEq] at hx
  obtain ⟨rfl, _⟩ := hx
  rw [hz] at hget
  have key : ∀ i (hi : i < len), ∃ x ci, w.cells? 0 (a.add (i * sz)) sz = some ci ∧ zay noP w NoM (en x) ci ∧ (∀ c ∈ ci, zbI c = true) ∧ Q x := by
   intro i hi
   have h1 := hget i hi
   rw [List.getElem?_eq_getElem (by omega), Option.bind_eq_some_iff] at h1
   obtain ⟨ci, h2, h3⟩ := h1
   obtain ⟨x, a1, a2, _, a4⟩ := he enc w n ci zqf[i].1 zqf[i].2 h3 (hB.elem _ _ _ (List.mem_map.2 ⟨zqf[i], List.getElem_mem _, rfl⟩) hb)
   exact ⟨x, ci, h2, a1, a2, a4⟩
  have hlb : len ≤ B := by have := hB.len _ _ hb (by simp; omega); simp at this; omega
  obtain ⟨l, hl, hx⟩ := zhS len _ key
  refine ⟨l, ?_, by simp [zbI, Value.oneCell'], by simp [hc], by omega, fun x hxm => ?_⟩
  ·rcases Nat.eq_zero_or_pos len with h0 | h0
   ·have : l = [] := List.eq_nil_of_length_eq_zero (by omega)
    subst this
    rw [h0]
    exact .cons (.nil _ _ _) .nil
   ·have cellI : ∀ i, i < len → ∀ j, j < sz → ∃ v, w.cell? (a.add (i * sz + j)) = some v ∧ zbI v = true := by
     intro i hi j hj
     obtain ⟨x, ci, h2, a1, a2, a3⟩ := key i hi
     obtain ⟨hcl, hcg⟩ := zf8 h2
     refine ⟨ci[j], ?_, a2 _ (List.getElem_mem (by omega))⟩
     have := hcg j hj
     rw [List.getElem?_eq_getElem (by omega)] at this
     rw [← this]
     simp only [World.cell?, zhq, zno, Nat.add_assoc]
     by_cases hj0 : j = 0
     ·subst hj0; simp [Addr.add]
     ·simp [Addr.add, hj0]
    obtain ⟨v0, hv0, _⟩ := cellI 0 h0 0 hp
    obtain ⟨C, T, fz, hC, hs, _⟩ := zhE hv0
    simp only [Nat.zero_mul, Nat.zero_add, Addr.add, if_true] at hC hs
    have cellC : ∀ k, k < len * sz → ∃ v, C[a.off + k]? = some v ∧ w.cell? (a.add k) = some v ∧ zbI v = true := by
     intro k hk
     have hi : k / sz < len := Nat.div_lt_of_lt_mul (by rw [Nat.mul_comm]; exact hk)
     have hj : k % sz < sz := Nat.mod_lt _ hp
     obtain ⟨v, h1, h2⟩ := cellI _ hi _ hj
     rw [show k / sz * sz + k % sz = k by rw [Nat.mul_comm]; exact Nat.div_add_mod k sz] at h1
     obtain ⟨C', T', fz', hC', hs', hv'⟩ := zhE h1
     rw [zhq, hC] at hC'
     simp only [Option.some.injEq, Obj.cells.injEq] at hC'
     obtain ⟨rfl, _, _⟩ := hC'
     rw [zno] at hv'
     exact ⟨v, hv', h1, h2⟩
    have hsz : a.off + len * sz ≤ C.size := by
     have hpos : 0 < len * sz := Nat.mul_pos h0 hp
     obtain ⟨v, h1, _⟩ := cellC (len * sz - 1) (by omega)
     have := (Array.getElem?_eq_some_iff.1 h1).1
     omega
    have hL : ((C.toList.drop a.off).take (len * sz)).length = len * sz := by simp; omega
    have hget : ∀ k, k < len * sz → ((C.toList.drop a.off).take (len * sz))[k]? = C[a.off + k]? := by
     intro k hk
     rw [List.getElem?_take, if_pos hk, List.getElem?_drop]; simp
    have hrl : ∀ i (hi : i < l.length), ∃ ci, w.cells? 0 (a.add (i * sz)) sz = some ci ∧ zay noP w NoM (en l[i]) ci := fun i hi => by
     obtain ⟨ci, h2, a1, _⟩ := hx i hi
     exact ⟨ci, h2, a1⟩
    refine .cons (.lst (C := C) (T := T) (fz := fz) hs (fun h => h) hC (fun r hr => ?_) (by simp; omega) (by rw [List.length_map, hl]; exact hsz) (by omega) (fun u hu => ?_) ?_) .nil
    ·obtain ⟨x, hxm, rfl⟩ := List.mem_map.1 hr
     obtain ⟨i, hi, rfl⟩ := List.getElem_of_mem hxm
     obtain ⟨ci, h2, a1⟩ := hrl i hi
     rw [a1.length, (zf8 h2).1]
    ·rw [List.length_map, hl] at hu
     obtain ⟨k, hk, rfl⟩ := List.getElem_of_mem hu
     rw [hL] at hk
     obtain ⟨v, h1, _, h3⟩ := cellC k hk
     have := hget k hk
     rw [List.getElem?_eq_getElem (by omega), h1] at this
     simp only [Option.some.injEq] at this
     rw [this]; exact h3
    ·rw [List.length_map, hl]
     refine zgN (sz := sz) (by rw [hL, List.length_map, hl]) fun i hi => ?_
     rw [List.length_map] at hi
     obtain ⟨ci, h2, a1⟩ := hrl i hi
     rw [List.getElem_map]
     obtain ⟨hcl, hcg⟩ := zf8 h2
     have hle : (i + 1) * sz ≤ len * sz := Nat.mul_le_mul_right _ (by omega)
     rw [Nat.add_mul] at hle
     have : ci = (((C.toList.drop a.off).take (len * sz)).drop (i * sz)).take sz := by
      refine List.ext_getElem? fun j => ?_
      rcases Nat.lt_or_ge j sz with hj | hj
      ·rw [← hcg j hj, List.getElem?_take, if_pos hj, List.getElem?_drop, hget _ (by omega)]
       obtain ⟨v, h1, h3, _⟩ := cellC (i * sz + j) (by omega)
       rw [h1, ← h3]
       simp only [World.cell?, zhq, zno, Nat.add_assoc]
       by_cases hj0 : j = 0
       ·subst hj0; simp [Addr.add]
       ·simp [Addr.add, hj0]
      ·rw [List.getElem?_eq_none (by omega), List.getElem?_eq_none (by simp; omega)]
     rw [← this]; exact a1
  ·obtain ⟨i, hi, rfl⟩ := List.getElem_of_mem hxm
   obtain ⟨ci, _, _, _, a4⟩ := hx i hi
   exact a4
theorem Opn.array {α : Type} {t e : TypeId} {en : α → List AV} {Q : α → Prop} {n sz : Nat} (hB : zm2 B bk) (ht : P.underlying t = some (.array n e)) (hz : P.cellsOf e = sz) (hc : P.cellsOf t = n * sz)
  (he : Opn P B bk e en Q) : Opn P B bk t (fun l : List α => (l.map en).flatten) (fun l => l.length = n ∧ ∀ x ∈ l, Q x) := by
 intro H enc w fuel cs d ps h hb
 obtain ⟨xs, m, _, hx, hl, hxl, hget⟩ := DataW.trod_array ht h
 simp only [Prod.mk.injEq] at hx
 obtain ⟨rfl, _⟩ := hx
 rw [hz] at hget
 have key : ∀ i, i < n → ∃ x, zay noP w NoM (en x) ((cs.drop (i * sz)).take sz) ∧ (∀ c ∈ (cs.drop (i * sz)).take sz, zbI c = true) ∧ Q x := by
  intro i hi
  have h1 := hget i hi
  rw [List.getElem?_eq_getElem (by omega)] at h1
  obtain ⟨x, a1, a2, _, a4⟩ := he enc w m _ xs[i].1 xs[i].2 h1 (hB.part _ _ (List.mem_map.2 ⟨xs[i], List.getElem_mem _, rfl⟩) hb)
  exact ⟨x, a1, a2, a4⟩
 obtain ⟨l, hll, hx⟩ := zhS n _ key
 rw [hc] at hl
 refine ⟨l, zgN (sz := sz) (by rw [List.length_map, hll]; exact hl) (fun i hi => ?_), fun c hcm => ?_, by rw [hc]; exact hl, hll, fun x hxm => ?_⟩
 ·rw [List.length_map] at hi
  rw [List.getElem_map]; exact (hx i hi).1
 ·obtain ⟨k, hk, rfl⟩ := List.getElem_of_mem hcm
  have hp : 0 < sz := Nat.pos_of_ne_zero fun h0 => by subst h0; simp at hl; subst hl; simp at hk
  have hi : k / sz < n := Nat.div_lt_of_lt_mul (by rw [Nat.mul_comm, ← hl]; exact hk)
  have hj : k % sz < sz := Nat.mod_lt _ hp
  have e : k / sz * sz + k % sz = k := by rw [Nat.mul_comm]; exact Nat.div_add_mod k sz
  refine (hx (k / sz) (by omega)).2.1 _ (List.mem_iff_getElem?.2 ⟨k % sz, ?_⟩)
  rw [List.getElem?_take, if_pos hj, List.getElem?_drop, e]
  exact List.getElem?_eq_getElem hk
 ·obtain ⟨i, hi, rfl⟩ := List.getElem_of_mem hxm
  exact (hx i hi).2.2
def zoz (P : Program) (B : Nat) (bk : ∀ {H : Type}, DataW H → Nat) {α : Type} (ts : List TypeId) (en : α → List AV) (Q : α → Prop) : Prop :=
 ∀ {H : Type} (enc : TypeId × Value → H) (w : World) (fuel : Nat) (cs : List Value), cs.length = (ts.map P.cellsOf).sum →
  (∀ i (hi : i < ts.length), ∃ d ps, DataW.trod enc P w 0 (fun _ => true) true fuel ts[i] ((cs.drop ((ts.take i).map P.cellsOf).sum).take (P.cellsOf ts[i])) = some (d, ps) ∧ bk d ≤ B) →
  ∃ x, zay noP w NoM (en x) cs ∧ (∀ c ∈ cs, zbI c = true) ∧ Q x
theorem zoz.nil : zoz P B bk [] (fun _ : Unit => []) (fun _ => True) := by
 intro H enc w fuel cs hl _
 have : cs = [] := List.eq_nil_of_length_eq_zero (by simpa using hl)
 subst this
 exact ⟨(), .nil, by simp, trivial⟩
theorem zoz.cons {α β : Type} {t : TypeId} {ts : List TypeId} {en : α → List AV} {Q : α → Prop} {en' : β → List AV} {Q' : β → Prop} (h : Opn P B bk t en Q) (h' : zoz P B bk ts en' Q') :
  zoz P B bk (t :: ts) (fun x : α × β => en x.1 ++ en' x.2) (fun x => Q x.1 ∧ Q' x.2) := by
 intro H enc w fuel cs hl hd
 obtain ⟨d, ps, h1, h2⟩ := hd 0 (by simp)
 simp only [List.getElem_cons_zero, List.take_zero, List.map_nil, List.sum_nil, List.drop_zero] at h1
 obtain ⟨x, a1, a2, a3, a4⟩ := h enc w fuel _ d ps h1 h2
 obtain ⟨y, b1, b2, b3⟩ := h' enc w fuel (cs.drop (P.cellsOf t)) (by simp at hl ⊢; omega) (fun i hi => by
  obtain ⟨d, ps, k1, k2⟩ := hd (i + 1) (by simpa using hi)
  simp only [List.getElem_cons_succ, List.take_succ_cons, List.map_cons, List.sum_cons] at k1
  exact ⟨d, ps, by rw [List.drop_drop]; exact k1, k2⟩)
 refine ⟨(x, y), ?_, fun c hc => ?_, a4, b3⟩
 ·rw [← List.take_append_drop (P.cellsOf t) cs]
  exact zay.append a1 b1
 ·rw [← List.take_append_drop (P.cellsOf t) cs] at hc
  rcases List.mem_append.1 hc with hc | hc
  ·exact a2 c hc
  ·exact b2 c hc
def zoP (P : Program) (t : TypeId) (ts : List TypeId) : Bool := match P.underlying t with
 | some (.struct fs) => decide (fs.toList.map (·.type) = ts) && decide (fs.toList.map (·.offset) = (List.range ts.length).map fun i => ((ts.take i).map P.cellsOf).sum) && decide (P.cellsOf t = (ts.map P.cellsOf).sum)
 | _ => false
theorem Opn.struct {α : Type} {t : TypeId} {ts : List TypeId} {en : α → List AV} {Q : α → Prop} (hB : zm2 B bk) (ht : zoP P t ts = true) (h : zoz P B bk ts en Q) : Opn P B bk t en Q := by
 unfold zoP at ht
 split at ht
 ·rename_i fs hfs
  simp only [Bool.and_eq_true, decide_eq_true_eq] at ht
  obtain ⟨⟨h1, h2⟩, h3⟩ := ht
  intro H enc w fuel cs d ps hd hb
  obtain ⟨xs, n, _, hx, hl, hxl, hget⟩ := DataW.trod_struct hfs hd
  simp only [Prod.mk.injEq] at hx
  obtain ⟨rfl, _⟩ := hx
  have hlen : fs.size = ts.length := by rw [← h1]; simp
  obtain ⟨x, a1, a2, a3⟩ := h enc w n cs (by rw [hl, h3]) (fun i hi => by
   have hi' : i < fs.size := by omega
   have e1 : fs[i].type = ts[i] := by
    have := congrArg (fun l => l[i]?) h1
    simp [hi', List.getElem?_eq_getElem hi] at this
    exact this
   have e2 : fs[i].offset = ((ts.take i).map P.cellsOf).sum := by
    have := congrArg (fun l => l[i]?) h2
    simp [hi', hi] at this
    rw [this, List.map_take]
   have := hget i fs[i] (Array.getElem?_eq_getElem hi')
   rw [e1, e2, List.getElem?_eq_getElem (by omega)] at this
   exact ⟨xs[i].1, xs[i].2, this, hB.part _ _ (List.mem_map.2 ⟨xs[i], List.getElem_mem _, rfl⟩) hb⟩)
  exact ⟨x, a1, a2, hl, a3⟩
 ·cases ht
def outer (P : Program) (t : TypeId) : Bool := match P.underlying t with
 | some (.struct _) | some (.array _ _) => true
 | _ => false
def wrapAV (agg : Bool) (cs : List AV) : AV := if agg then .agg cs else cel cs 0
theorem zyj {α : Type} {t : TypeId} {en : α → List AV} {Q : α → Prop} (h : Opn P B bk t en Q) {ag : Bool} (ho : outer P t = ag) (h1 : ag = false → P.cellsOf t = 1) {H : Type} {enc : TypeId × Value → H} {W : World} {base : Nat} {r : Reach} {v : Value} {d : DataW H} {ps : List MemPlace}
  (hval : Value.okWide P W r base t v) (hd : DataW.Trod enc P W 0 (fun _ => true) true t v d ps) (hb : bk d ≤ B) : ∃ x, Rel noP W NoM (wrapAV ag (en x)) v ∧ Q x := by
 obtain ⟨fuel, hd⟩ := hd
 obtain ⟨x, a1, a2, a3, a4⟩ := h enc W fuel _ d ps hd hb
 refine ⟨x, ?_, a4⟩
 unfold outer at ho
 unfold Value.okWide at hval
 split at ho
 ·rename_i hu
  subst ho
  rw [hu] at hval
  obtain ⟨cs, rfl, _, _⟩ := hval
  exact .agg (vs := cs.toList) a2 a1
 ·rename_i hu
  subst ho
  rw [hu] at hval
  obtain ⟨cs, rfl, _, _⟩ := hval
  exact .agg (vs := cs.toList) a2 a1
 ·subst ho
  rw [h1 rfl] at a3
  have hv : v.cells.toList = [v] := by
   unfold Value.cells at a3 a2 ⊢
   split
   ·rename_i cs
    exfalso
    split at hval
    ·simp_all
    ·simp_all
    ·unfold Cell.okWide at hval
     split at hval <;> simp_all [Cell.ok]
   ·rfl
  rw [hv] at a1
  cases he : en x with
  | nil => rw [he] at a1; cases a1
  | cons y ys =>
   rw [he] at a1
   cases a1 with
   | cons a1 _ => exact a1

theorem zqO {f : Func} {s : ChangeSpec} {apart fresh handsOn again : Bool} {H : Type} {enc : TypeId × Value → H} {W W' : World} {args : Array Value} {v : Value} {ds gs : List (DataW H)} {before : List MemPlace}
  (hlo : laidOutB P = true) (hts : f.params.toList.all (fun t => P.readableRec t && decide (t < P.types.size)) = true) (hv : s.vars = [])
  (hW : DataW.Whole enc P f.params.toList s.vars apart W args.toList ds gs before)
  (hres : ∀ (b : Nat) (sp : Nat → Bool) (hd : Bool), DataW.TrodAll enc P W' b sp hd f.resultTypes.toList (v.resultList f.resultTypes.size) (s.fn H (ds ++ gs)).results [])
  (hargs : (s.fn H (ds ++ gs)).args = ds) (hvars : (s.fn H (ds ++ gs)).vars = [])
  (hfr : Fr W (fun _ => False) W')
  (hok : ∀ (j : Nat) (t : TypeId) (r : Value), f.resultTypes[j]? = some t → (v.resultList f.resultTypes.size)[j]? = some r → Value.okWide P W' .any 0 t r) :
  s.post enc P f apart fresh handsOn again W args v W' := by
 have hlt : ∀ p ∈ before, p.block < W.heap.size := fun p hp => hW.lt p hp
 have hsame : ∀ p : MemPlace, p.block < W.heap.size → W.sameAt W' p := fun p hp => (Go.RowKit.Below.same ⟨hfr.os, hfr.tape, hfr.output, hfr.size, fun k hk => hfr.block k hk (fun h => h)⟩ hp)
 obtain ⟨p, q, hA, hV, hpq, hz, hn⟩ := id hW
 rw [hv] at hV
 have hq : q = [] ∧ gs = [] := by
  cases gs with
  | nil => exact ⟨hV, rfl⟩
  | cons g gs => exact hV.elim
 obtain ⟨rfl, rfl⟩ := hq
 rw [List.append_nil] at hpq
 subst hpq
 have key : ∀ (sp : Nat → Bool) (ts : List TypeId) (vs : List Value) (ds : List (DataW H)) (ps : List MemPlace), ts.all (fun t => P.readableRec t && decide (t < P.types.size)) = true → (∀ x ∈ ps, x.block < W.heap.size) → (∀ x ∈ ps, sp x.block = true) →
   DataW.TrodAll enc P W 0 (fun _ => true) true ts vs ds ps → DataW.TrodAll enc P W' 0 sp true ts vs ds ps := by
  intro sp ts
  induction ts with
  | nil =>
   intro vs ds ps _ _ _ h
   cases vs <;> cases ds <;> simp [DataW.TrodAll] at h ⊢
   exact h
  | cons t ts ih =>
   intro vs ds ps ht hlt hsp h
   obtain ⟨v, vs', d, ds', a, b, rfl, rfl, rfl, h1, h2⟩ := ChangeShapes.trodAll_cons h
   simp only [List.all_cons, Bool.and_eq_true, decide_eq_true_eq] at ht
   obtain ⟨⟨hr, hs⟩, hts⟩ := ht
   exact ⟨a, b, WideElems.Trod_stays hlo hr hs h1 (fun x hx => hsame x (hlt x (List.mem_append_left _ hx))) (fun x hx => hsp x (List.mem_append_left _ hx)),
    ih _ _ _ (by simpa using hts) (fun x hx => hlt x (List.mem_append_right _ hx)) (fun x hx => hsp x (List.mem_append_right _ hx)) h2, rfl⟩
 have key' : ∀ sp : Nat → Bool, (∀ x ∈ before, sp x.block = true) → DataW.TrodAll enc P W' 0 sp true f.params.toList args.toList (s.fn H (ds ++ [])).args before := fun sp hsp => by
  rw [hargs]; exact key sp _ _ _ _ hts hlt hsp hA
 have kv : ∀ sp : Nat → Bool, DataW.TrodVars enc P W' sp s.vars (s.fn H (ds ++ [])).vars [] := fun sp => by rw [hv, hvars]; rfl
 refine ⟨ds, [], before, [], before, [], hW, hres _ _ _, key' _ (fun x hx => by simpa using hlt x hx), kv _, ?_, fun _ => ⟨hok, _, _, ([] ++ before) ++ [], ⟨[] ++ before, [], ChangeShapes.trodAll_append (key' _ fun _ _ => rfl) (hres _ _ _), kv _, rfl, ?_, ?_⟩, ?_⟩⟩
 ·refine ⟨hfr.os, hfr.output, fun i hi => ?_⟩
  rw [hfr.block i hi (fun h => h)]
  cases h : W.heap[i]? with
  | none => simp
  | some o => cases o <;> simp
 ·intro b off hp
  have hp' : MemPlace.cell b off ∈ before := by simpa using hp
  have hb := hlt _ hp'
  have := hz b off hp'
  unfold World.frozen? at this ⊢
  simp only [MemPlace.block] at hb
  rw [show W'.heap[b]? = W.heap[b]? from hfr.block b hb (fun h => h)]
  exact this
 ·intro ha
  simpa using hn ha
 ·intro x hx _
  simpa using hx
theorem zg0 {f : FuncId} {fn : Func} {tb : TypeId} {s : ChangeSpec} {apart fresh handsOn again : Bool} {H : Type} {enc : TypeId × Value → H} {W : World} {args : Array Value} {ds gs : List (DataW H)} {before : List MemPlace}
  (hlo : laidOutB P = true) (hts : fn.params.toList.all (fun t => P.readableRec t && decide (t < P.types.size)) = true) (hv : s.vars = []) (hrt : fn.resultTypes = #[tb]) (hb : P.underlying tb = some .bool)
  (hW : DataW.Whole enc P fn.params.toList s.vars apart W args.toList ds gs before)
  (hfn : gs = [] → s.fn H (ds ++ gs) = { results := [.lit (.bool true)], args := ds }) {avs : List AV} (hp : zaS P f avs (.v (.bool true))) (hr : zay noP W NoM avs args.toList) (hg : zf3 W NoM := by intro p hp; simp [glbs] at hp) :
  Calls P f args W fun e W' => ∃ v, e = .returned v ∧ s.post enc P fn apart fresh handsOn again W args v W' := by
 have hgs : gs = [] := by
  obtain ⟨p, q, hA, hV, _⟩ := hW
  rw [hv] at hV
  cases gs with
  | nil => rfl
  | cons g gs => exact hV.elim
 have := hp.2 NoM W args.toList (fun k hk => hk.elim) hg hr
 rw [show (⟨args.toList⟩ : Array Value) = args from rfl] at this
 refine this.mono ?_
 rintro e W' ⟨v, rfl, hv', hfr⟩
 cases hv'
 refine ⟨_, rfl, zqO hlo hts hv hW (fun b sp hd => ?_) (by rw [hfn hgs]) (by rw [hfn hgs]) hfr ?_⟩
 ·rw [hfn hgs, hrt]
  exact trodAll_cons_mk (RowKit.shut_bool hb _) ChangeShapes.trodAll_mk0
 ·exact RowKit.ok_one hrt rfl (RowKit.okWide_bool_mk hb true)
end
end Go.Av
end
section
open Go Go.Proofs
namespace Go.Av
open Go.Proofs.YtedhfmmlhfmomaaGreatDoor
theorem zvJ {H : Type} (d : DataW H) : 1 ≤ Rows.uptoBulk d := by
 cases d with
 | lit l => cases l <;> simp [Rows.uptoBulk]
 | _ => simp [Rows.uptoBulk]
theorem ziA {H : Type} {d : DataW H} {l : List (DataW H)} (h : d ∈ l) : Rows.uptoBulk d ≤ Rows.uptoBulkAll l := by
 induction l with
 | nil => cases h
 | cons x r ih =>
  simp only [Rows.uptoBulkAll]
  rcases List.mem_cons.1 h with e | e
  ·subst e; omega
  ·have := ih e; omega
theorem zou {H : Type} (l : List (DataW H)) : l.length ≤ Rows.uptoBulkAll l := by
 induction l with
 | nil => simp [Rows.uptoBulkAll]
 | cons x r ih => have := zvJ x; simp only [Rows.uptoBulkAll, List.length_cons]; omega
theorem zm2.upto {B : Nat} : zm2 B (fun d => Rows.uptoBulk d) where
 len := fun l r h _ => by
  have := zou l
  simp only [Rows.uptoBulk] at h; omega
 elem := fun l r d hd h => by
  have := ziA hd
  simp only [Rows.uptoBulk] at h; omega
 part := fun l d hd h => by
  have := ziA hd
  simp only [Rows.uptoBulk] at h; omega
 str := fun l h _ => by
  simp only [Rows.uptoBulk] at h; omega
theorem zgx {H : Type} {l : List (DataW H)} (hk : Rows.uptoSmall H l = true) {d : DataW H} (hd : d ∈ l) : Rows.uptoBulk d ≤ 1048576 := by
 have := ziA hd
 have h := of_decide_eq_true hk
 omega
end Go.Av
end
section
open Go Go.Proofs Go.Av
namespace Go.Av
open Go.Proofs.YtedhfmmlhfmomaaGreatDoor
abbrev UpB : {H : Type} → DataW H → Nat := fun d => Rows.uptoBulk d
abbrev G3T := Int × Int × Int × List (List Int) × List (List Int) × List Int × Unit
def zvY (x : G3T) : List AV := [.v (.int .u8 x.1)] ++ ([.v (.int .u8 x.2.1)] ++ ([.v (.int .u8 x.2.2.1)] ++ ((x.2.2.2.1.map fun l => [AV.lst 1 (l.map fun n => [.v (.int .u8 n)])]).flatten ++
 ([AV.lst 3 (x.2.2.2.2.1.map fun l => (l.map fun n => [AV.v (.int .u8 n)]).flatten)] ++ ((x.2.2.2.2.2.1.map fun n => [AV.v (.int .u8 n)]).flatten ++ [])))))
abbrev U8W (n : Int) : Prop := (Lit.int .u8 n).wf = true
theorem zib : Opn Tryz.prog 1048576 UpB 5 (fun n : Int => [.v (.int .u8 n)]) U8W := Opn.int Tryz.underlying5 (by kernel_rfl)
theorem zxt : Opn Tryz.prog 1048576 UpB 22 (fun l : List Int => [.lst 1 (l.map fun n => [.v (.int .u8 n)])]) (fun l => l.length ≤ 1048576 ∧ ∀ x ∈ l, U8W x) :=
 Opn.slice (sz := 1) zm2.upto Tryz.underlying22 (by kernel_rfl) (by kernel_rfl) Nat.one_pos zib
theorem opn_g3 : Opn Tryz.prog 1048576 UpB 27 zcT (fun x => zlo x ∧ x.k0.length ≤ 1048576 ∧ x.k1.length ≤ 1048576 ∧ x.c.length ≤ 1048576) := by
 have hK : Opn Tryz.prog 1048576 UpB 23 (fun l : List (List Int) => (l.map fun l => [AV.lst 1 (l.map fun n => [.v (.int .u8 n)])]).flatten) (fun l => l.length = 2 ∧ ∀ x ∈ l, x.length ≤ 1048576 ∧ ∀ y ∈ x, U8W y) :=
  Opn.array (sz := 1) (n := 2) zm2.upto Tryz.underlying23 (by kernel_rfl) (by kernel_rfl) zxt
 have h3 : Opn Tryz.prog 1048576 UpB 80 (fun l : List Int => (l.map fun n => [AV.v (.int .u8 n)]).flatten) (fun l => l.length = 3 ∧ ∀ x ∈ l, U8W x) :=
  Opn.array (sz := 1) (n := 3) zm2.upto Tryz.underlying80 (by kernel_rfl) (by kernel_rfl) zib
 have hC : Opn Tryz.prog 1048576 UpB 24 (fun l : List (List Int) => [.lst 3 (l.map fun l => (l.map fun n => [AV.v (.int .u8 n)]).flatten)]) (fun l => l.length ≤ 1048576 ∧ ∀ x ∈ l, x.length = 3 ∧ ∀ y ∈ x, U8W y) :=
  Opn.slice (sz := 3) zm2.upto Tryz.underlying24 (by kernel_rfl) (by kernel_rfl) (by decide) h3
 have hFF : Opn Tryz.prog 1048576 UpB 25 (fun l : List Int => (l.map fun n => [AV.v (.int .u8 n)]).flatten) (fun l => l.length = 6 ∧ ∀ x ∈ l, U8W x) :=
  Opn.array (sz := 1) (n := 6) zm2.upto Tryz.underlying25 (by kernel_rfl) (by kernel_rfl) zib
 have hF : zoz Tryz.prog 1048576 UpB [5, 5, 5, 23, 24, 25] zvY (fun x => U8W x.1 ∧ U8W x.2.1 ∧ U8W x.2.2.1 ∧ (x.2.2.2.1.length = 2 ∧ ∀ z ∈ x.2.2.2.1, z.length ≤ 1048576 ∧ ∀ y ∈ z, U8W y) ∧
   (x.2.2.2.2.1.length ≤ 1048576 ∧ ∀ z ∈ x.2.2.2.2.1, z.length = 3 ∧ ∀ y ∈ z, U8W y) ∧ (x.2.2.2.2.2.1.length = 6 ∧ ∀ y ∈ x.2.2.2.2.2.1, U8W y) ∧ True) :=
  zoz.cons zib (zoz.cons zib (zoz.cons zib (zoz.cons hK (zoz.cons hC (zoz.cons hFF zoz.nil)))))
 have hT : Opn Tryz.prog 1048576 UpB 27 zvY (fun x => U8W x.1 ∧ U8W x.2.1 ∧ U8W x.2.2.1 ∧ (x.2.2.2.1.length = 2 ∧ ∀ z ∈ x.2.2.2.1, z.length ≤ 1048576 ∧ ∀ y ∈ z, U8W y) ∧
   (x.2.2.2.2.1.length ≤ 1048576 ∧ ∀ z ∈ x.2.2.2.2.1, z.length = 3 ∧ ∀ y ∈ z, U8W y) ∧ (x.2.2.2.2.2.1.length = 6 ∧ ∀ y ∈ x.2.2.2.2.2.1, U8W y) ∧ True) := Opn.struct zm2.upto (by kernel_rfl) hF
 intro H enc w fuel cs d ps k1 k2
 obtain ⟨x, r1, r2, r3, hx⟩ := hT enc w fuel cs d ps k1 k2
 obtain ⟨W, Hh, cut, K, C, F, ⟨⟩⟩ := x
 obtain ⟨h1, h2, h3', ⟨h4, h4'⟩, ⟨h5, h5'⟩, ⟨h6, h6'⟩, _⟩ := hx
 simp only at h1 h2 h3' h4 h4' h5 h5' h6 h6'
 match K, h4 with
 | [ka, kb], _ =>
  match F, h6 with
  | [f0, f1, f2, f3, f4, f5], _ =>
   have hCl : ∀ (C : List (List Int)), (∀ z ∈ C, z.length = 3) → (C.map fun l => (nth l 0, nth l 1, nth l 2)).map zsw = C.map fun l => (l.map fun n => [AV.v (.int .u8 n)]).flatten := by
    intro C hC
    rw [List.map_map]
    refine List.map_congr_left fun l hl => ?_
    have := hC l hl
    match l, this with
    | [a, b, c], _ => rfl
   refine ⟨⟨W, Hh, cut, ka, kb, C.map fun l => (nth l 0, nth l 1, nth l 2), f0, f1, f2, f3, f4, f5⟩, ?_, r2, r3, ⟨bounds_u8 h1, bounds_u8 h2, bounds_u8 h3', fun n hn => bounds_u8 ((h4' ka (by simp)).2 n hn), fun n hn => bounds_u8 ((h4' kb (by simp)).2 n hn), ?_,
    bounds_u8 (h6' f0 (by simp)), bounds_u8 (h6' f1 (by simp)), bounds_u8 (h6' f2 (by simp)), bounds_u8 (h6' f3 (by simp)), bounds_u8 (h6' f4 (by simp)), bounds_u8 (h6' f5 (by simp))⟩, (h4' ka (by simp)).1, (h4' kb (by simp)).1, by simpa using h5⟩
   ·unfold zcT
    simp only
    rw [hCl C (fun z hz => (h5' z hz).1)]
    exact r1
   ·intro t ht
    obtain ⟨z, hz, rfl⟩ := List.mem_map.1 ht
    obtain ⟨q1, q2⟩ := h5' z hz
    match z, q1 with
    | [a, b, c], _ => exact ⟨bounds_u8 (q2 a (by simp)), bounds_u8 (q2 b (by simp)), bounds_u8 (q2 c (by simp))⟩
theorem zvv : Opn Tryz.prog 1048576 UpB 80 (fun y : Int × Int × Int => [AV.v (.int .u8 y.1), AV.v (.int .u8 y.2.1), AV.v (.int .u8 y.2.2)]) (fun y => U8 y.1 ∧ U8 y.2.1 ∧ U8 y.2.2) := by
 have hA : Opn Tryz.prog 1048576 UpB 80 (fun l : List Int => (l.map fun n => [AV.v (.int .u8 n)]).flatten) (fun l => l.length = 3 ∧ ∀ x ∈ l, U8W x) :=
  Opn.array (sz := 1) (n := 3) zm2.upto Tryz.underlying80 (by kernel_rfl) (by kernel_rfl) zib
 intro H enc w fuel cs d ps k1 k2
 obtain ⟨x, r1, r2, r3, h1, h2⟩ := hA enc w fuel cs d ps k1 k2
 match x, h1 with
 | [a, b, c], _ => exact ⟨(a, b, c), r1, r2, r3, bounds_u8 (h2 a (by simp)), bounds_u8 (h2 b (by simp)), bounds_u8 (h2 c (by simp))⟩
end Go.Av
end
