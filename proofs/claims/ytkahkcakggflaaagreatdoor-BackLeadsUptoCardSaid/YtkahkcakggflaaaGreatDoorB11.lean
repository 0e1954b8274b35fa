/- Texts of ours, part 11: our library and contracts of functions. -/
import Derived.Test.YtkahkcakggflaaaGreatDoorB10
import GoSem.ClaimJoined
import Derived.Test.YtkahkcakggflaaaGreatDoorCards
import Derived.Test.YtkahkcakggflaaaGreatDoorTie
import Derived.Deep.DeepHandedRow
import Derived.LaidHandle
import Derived.LaidMore
import Derived.OpenShut
import Derived.Test.YtkahkcakggflaaaGreatDoorRows
set_option linter.unusedSimpArgs false
set_option linter.unusedVariables false
set_option maxRecDepth 100000
set_option maxHeartbeats 40000000
section
open Go Go.Proofs
namespace Go.Av
theorem zb0 (g : zaf) (hg : GOk g) (hs : zbg g) (p : zaj) (hp : POk g p) : zaC Tryz.prog 35 [.agg (zab g), .agg (zad p)] (zbY (zbC g p)) := by
 refine pF Tryz.func35 ?_
 have hB := ztd g hg hs p hp
 generalize zbC g p = v at *
 unfold zbY
 repeat first|with_reducible refine wV fun _=>?_|simp [go_sem]
 refine zyJ hB (by simp [go_sem]) ?_
 repeat first|with_reducible refine wV fun _=>?_|simp [go_sem]
theorem zdV (g : zaf) (hg : GOk g) (hs : zbg g) (p : zaj) (hp : POk g p) (n : Int) : zaC Tryz.prog 37 [.agg (zab g), .agg (zad p), .v (.int .i64 n)] (zbY (zcR g p n)) := by
 refine pF Tryz.func37 ?_
 have hB := zrn g hg hs p hp n
 generalize zcR g p n = v at *
 unfold zbY
 repeat first|with_reducible refine wV fun _=>?_|simp [go_sem]
 refine zyJ hB (by simp [go_sem]) ?_
 repeat first|with_reducible refine wV fun _=>?_|simp [go_sem]
theorem zvT (a b c s : Int) : zaC Tryz.prog 86 [.v (.int .i64 a), .v (.int .i64 b), .v (.int .i64 c), .v (.int .i64 s)] (.agg (zad (at9 a b c s))) := by
 refine pF Tryz.func86 ?_
 unfold at9
 repeat first|with_reducible refine wV fun _=>?_|simp [go_sem]
 refine ⟨?_, ?_, ?_⟩ <;> refine LeV.frz rfl (by simp) (by simp [noH, upd]) ?_ <;> exact .refl _
theorem zej : zbg zbe := by
 intro k hk p hp
 simp only [zbe, List.mem_singleton] at hk
 subst hk
 simp only [List.mem_cons, List.not_mem_nil, or_false] at hp
 rcases hp with rfl | rfl <;> decide
theorem zcW : zaC Tryz.prog 31 [] (.v (.bool true)) := by
 refine pF Tryz.func31 ?_
 have hA := fun a b c s => zvT a b c s
 have k1 := zla 0 2 0 0 (by decide) (by decide) (by decide) (by decide)
 have k2 := zla 1 0 0 1 (by decide) (by decide) (by decide) (by decide)
 have hB1 := zb0 zbe zcH zej _ k1
 rw [zxJ] at hB1
 have hB2 := zb0 zbe zcH zej _ k2
 rw [zxK] at hB2
 have hC0 := zdV zbe zcH zej _ k1 0
 rw [zv8] at hC0
 have hCm := zdV zbe zcH zej _ k1 (-1)
 have em : zcR zbe (at9 0 2 0 0) (-1) = ([], 1) := rfl
 rw [em] at hCm
 have f1 := (zla 0 0 2 1 (by decide) (by decide) (by decide) (by decide)).fits zcH
 have f2 := (zla 0 1 2 1 (by decide) (by decide) (by decide) (by decide)).fits zcH
 have hS1 := zfW ([at9 0 0 2 1, at9 0 1 2 1], 0) ([at9 0 0 2 1, at9 0 1 2 1], 0) (by simp) (by simp) (by simp; exact ⟨f1, f2⟩) (by simp; exact ⟨f1, f2⟩)
 have hS2 := zfW ([], 0) ([], 0) (by simp) (by simp) (by simp) (by simp)
 have hS3 := zfW ([at9 0 2 0 0], 0) ([at9 0 2 0 0], 0) (by simp) (by simp) (by simp; exact k1.fits zcH) (by simp; exact k1.fits zcH)
 rw [show ∀ z : List zaj × Int, decide (z = z) = true from fun z => decide_eq_true rfl] at hS1 hS2 hS3
 have hgs : ∀ n, (∀ c ∈ zab zbe, Bel n c) = True := fun n => by simp [go_sem]
 obtain ⟨pa, hpa⟩ : ∃ pa, pa = at9 0 2 0 0 := ⟨_, rfl⟩
 obtain ⟨pb, hpb⟩ : ∃ pb, pb = at9 1 0 0 1 := ⟨_, rfl⟩
 obtain ⟨pc, hpc⟩ : ∃ pc, pc = at9 0 0 2 1 := ⟨_, rfl⟩
 obtain ⟨pd, hpd⟩ : ∃ pd, pd = at9 0 1 2 1 := ⟨_, rfl⟩
 have a1 := hA 0 2 0 0
 have a2 := hA 1 0 0 1
 have a3 := hA 0 0 2 1
 have a4 := hA 0 1 2 1
 rw [← hpa] at a1 hB1 hC0 hCm hS3
 rw [← hpb] at a2 hB2
 rw [← hpc] at a3 hB1 hS1
 rw [← hpd] at a4 hB1 hS1
 simp only [zbY] at hB1 hB2 hC0 hCm
 clear hA hpa hpb hpc hpd
 (repeat (first|with_reducible (first|refine wL fun _=>?_|refine wD fun _=>?_|refine wE ?_)|simp [go_sem]))
 refine zoK.frz (zaK _ [0, 1, 2, 3, 4, 5, 6, 7]) (zc5 _ _) ?_
 repeat first|with_reducible refine wV fun _=>?_|simp [go_sem]
 refine zyM a1 (by simp [go_sem]) ?_
 repeat first|with_reducible refine wV fun _=>?_|simp [go_sem]
 refine zay.frz [.agg (zab zbe), .agg (zad pa)] _ [0, 1, 2, 3, 4, 5, 6, 7] [] hB1 (by simp) ?_ (by simp [go_sem, hgs]) ?_
 ·intro h₁ hS
  have h0 := (hS 0 (by simp)).symm
  have h1 := (hS 1 (by simp)).symm
  have h2 := (hS 2 (by simp)).symm
  have h3 := (hS 3 (by simp)).symm
  have h4 := (hS 4 (by simp)).symm
  have h5 := (hS 5 (by simp)).symm
  have h6 := (hS 6 (by simp)).symm
  have h7 := (hS 7 (by simp)).symm
  clear hS
  simp [upd, zaK, zaR] at h0 h1 h2 h3 h4 h5 h6 h7
  simp only [zbe, zab, zcr, zas, zaY, zar, zau, zb3, List.map_cons, List.map_nil]
  ((try simp only [zar, zau, zaE, zaV, zap, zaU, zat, zal, zad, za3, zaO, zaz, zas, zab, List.map_cons, List.map_nil, List.nil_append, List.append_nil, List.cons_append]); (repeat (first | (with_reducible first|exact zai.nil|exact zae.nil|exact LeV.refl _|exact zai.refl _ _ _ _|exact zae.refl _|refine zai.cons ?_ ?_|refine zae.cons ?_ ?_|refine LeV.agg ?_|refine LeV.tup ?_|refine LeV.fn ?_ ?_|exact LeV.nil _|refine zag (zae.refl _) ?_) | ((refine zam (by first | rfl | assumption) (by simp [h0, h1, h2, h3, h4, h5, h6, h7]) (by simp [zaK, zaR, upd, noH, zao, h0, h1, h2, h3, h4, h5, h6, h7]) ?_); (first | (simp [go_sem, h0, h1, h2, h3, h4, h5, h6, h7]; done) | (simp [go_sem, h0, h1, h2, h3, h4, h5, h6, h7]; exact List.take_of_length_le (by simp [h0, h1, h2, h3, h4, h5, h6, h7])))) | ((refine LeV.frz (by first | rfl | assumption) (by simp [h0, h1, h2, h3, h4, h5, h6, h7]) (by simp [zaK, zaR, upd, noH, zao, h0, h1, h2, h3, h4, h5, h6, h7]) ?_); (simp only [List.drop_zero, List.take_succ_cons, List.take_zero, List.map_cons, List.map_nil])) | ((refine LeV.frzP (by first | rfl | assumption) (by simp [h0, h1, h2, h3, h4, h5, h6, h7]) (by simp) (by simp [zaK, zaR, upd, noH, zao, h0, h1, h2, h3, h4, h5, h6, h7]) ?_); (simp only [zaw, List.drop_zero])))))
 repeat first|with_reducible refine wV fun _=>?_|simp [go_sem]
 refine zyM a2 (by simp [go_sem]) ?_
 repeat first|with_reducible refine wV fun _=>?_|simp [go_sem]
 refine zay.frz [.agg (zab zbe), .agg (zad pb)] _ [0, 1, 2, 3, 4, 5, 6, 7] [] hB2 (by simp) ?_ (by simp [go_sem, hgs]) ?_
 ·intro h₁ hS
  have h0 := (hS 0 (by simp)).symm
  have h1 := (hS 1 (by simp)).symm
  have h2 := (hS 2 (by simp)).symm
  have h3 := (hS 3 (by simp)).symm
  have h4 := (hS 4 (by simp)).symm
  have h5 := (hS 5 (by simp)).symm
  have h6 := (hS 6 (by simp)).symm
  have h7 := (hS 7 (by simp)).symm
  clear hS
  simp [upd, zaK, zaR] at h0 h1 h2 h3 h4 h5 h6 h7
  simp only [zbe, zab, zcr, zas, zaY, zar, zau, zb3, List.map_cons, List.map_nil]
  ((try simp only [zar, zau, zaE, zaV, zap, zaU, zat, zal, zad, za3, zaO, zaz, zas, zab, List.map_cons, List.map_nil, List.nil_append, List.append_nil, List.cons_append]); (repeat (first | (with_reducible first|exact zai.nil|exact zae.nil|exact LeV.refl _|exact zai.refl _ _ _ _|exact zae.refl _|refine zai.cons ?_ ?_|refine zae.cons ?_ ?_|refine LeV.agg ?_|refine LeV.tup ?_|refine LeV.fn ?_ ?_|exact LeV.nil _|refine zag (zae.refl _) ?_) | ((refine zam (by first | rfl | assumption) (by simp [h0, h1, h2, h3, h4, h5, h6, h7]) (by simp [zaK, zaR, upd, noH, zao, h0, h1, h2, h3, h4, h5, h6, h7]) ?_); (first | (simp [go_sem, h0, h1, h2, h3, h4, h5, h6, h7]; done) | (simp [go_sem, h0, h1, h2, h3, h4, h5, h6, h7]; exact List.take_of_length_le (by simp [h0, h1, h2, h3, h4, h5, h6, h7])))) | ((refine LeV.frz (by first | rfl | assumption) (by simp [h0, h1, h2, h3, h4, h5, h6, h7]) (by simp [zaK, zaR, upd, noH, zao, h0, h1, h2, h3, h4, h5, h6, h7]) ?_); (simp only [List.drop_zero, List.take_succ_cons, List.take_zero, List.map_cons, List.map_nil])) | ((refine LeV.frzP (by first | rfl | assumption) (by simp [h0, h1, h2, h3, h4, h5, h6, h7]) (by simp) (by simp [zaK, zaR, upd, noH, zao, h0, h1, h2, h3, h4, h5, h6, h7]) ?_); (simp only [zaw, List.drop_zero])))))
 repeat first|with_reducible refine wV fun _=>?_|simp [go_sem]
 refine zyM a1 (by simp [go_sem]) ?_
 repeat first|with_reducible refine wV fun _=>?_|simp [go_sem]
 refine zay.frz [.agg (zab zbe), .agg (zad pa), .v (.int .i64 0)] _ [0, 1, 2, 3, 4, 5, 6, 7] [] hC0 (by simp) ?_ (by simp [go_sem, hgs]) ?_
 ·intro h₁ hS
  have h0 := (hS 0 (by simp)).symm
  have h1 := (hS 1 (by simp)).symm
  have h2 := (hS 2 (by simp)).symm
  have h3 := (hS 3 (by simp)).symm
  have h4 := (hS 4 (by simp)).symm
  have h5 := (hS 5 (by simp)).symm
  have h6 := (hS 6 (by simp)).symm
  have h7 := (hS 7 (by simp)).symm
  clear hS
  simp [upd, zaK, zaR] at h0 h1 h2 h3 h4 h5 h6 h7
  simp only [zbe, zab, zcr, zas, zaY, zar, zau, zb3, List.map_cons, List.map_nil]
  ((try simp only [zar, zau, zaE, zaV, zap, zaU, zat, zal, zad, za3, zaO, zaz, zas, zab, List.map_cons, List.map_nil, List.nil_append, List.append_nil, List.cons_append]); (repeat (first | (with_reducible first|exact zai.nil|exact zae.nil|exact LeV.refl _|exact zai.refl _ _ _ _|exact zae.refl _|refine zai.cons ?_ ?_|refine zae.cons ?_ ?_|refine LeV.agg ?_|refine LeV.tup ?_|refine LeV.fn ?_ ?_|exact LeV.nil _|refine zag (zae.refl _) ?_) | ((refine zam (by first | rfl | assumption) (by simp [h0, h1, h2, h3, h4, h5, h6, h7]) (by simp [zaK, zaR, upd, noH, zao, h0, h1, h2, h3, h4, h5, h6, h7]) ?_); (first | (simp [go_sem, h0, h1, h2, h3, h4, h5, h6, h7]; done) | (simp [go_sem, h0, h1, h2, h3, h4, h5, h6, h7]; exact List.take_of_length_le (by simp [h0, h1, h2, h3, h4, h5, h6, h7])))) | ((refine LeV.frz (by first | rfl | assumption) (by simp [h0, h1, h2, h3, h4, h5, h6, h7]) (by simp [zaK, zaR, upd, noH, zao, h0, h1, h2, h3, h4, h5, h6, h7]) ?_); (simp only [List.drop_zero, List.take_succ_cons, List.take_zero, List.map_cons, List.map_nil])) | ((refine LeV.frzP (by first | rfl | assumption) (by simp [h0, h1, h2, h3, h4, h5, h6, h7]) (by simp) (by simp [zaK, zaR, upd, noH, zao, h0, h1, h2, h3, h4, h5, h6, h7]) ?_); (simp only [zaw, List.drop_zero])))))
 repeat first|with_reducible refine wV fun _=>?_|simp [go_sem]
 refine zyM a3 (by simp [go_sem]) ?_
 repeat first|with_reducible refine wV fun _=>?_|simp [go_sem]
 refine zyM a4 (by simp [go_sem]) ?_
 repeat first|with_reducible refine wV fun _=>?_|simp [go_sem]
 refine zzm [zbY ([pc, pd], 0), zbY ([pc, pd], 0)] (.v (.bool true)) [27] hS1 (.v _) ?_ (by simp [go_sem, zbY]) ?_
 ·intro h₁ hS
  have h27 := (hS 27 (by simp)).symm
  simp [upd, zaK, zaR] at h27
  simp only [zbY]
  ((try simp only [zar, zau, zaE, zaV, zap, zaU, zat, zal, zad, za3, zaO, zaz, zas, zab, List.map_cons, List.map_nil, List.nil_append, List.append_nil, List.cons_append]); (repeat (first | (with_reducible first|exact zai.nil|exact zae.nil|exact LeV.refl _|exact zai.refl _ _ _ _|exact zae.refl _|refine zai.cons ?_ ?_|refine zae.cons ?_ ?_|refine LeV.agg ?_|refine LeV.tup ?_|refine LeV.fn ?_ ?_|exact LeV.nil _|refine zag (zae.refl _) ?_) | ((refine zam (by first | rfl | assumption) (by simp [h27]) (by simp [zaK, zaR, upd, noH, zao, h27]) ?_); (first | (simp [go_sem, h27]; done) | (simp [go_sem, h27]; exact List.take_of_length_le (by simp [h27])))) | ((refine LeV.frz (by first | rfl | assumption) (by simp [h27]) (by simp [zaK, zaR, upd, noH, zao, h27]) ?_); (simp only [List.drop_zero, List.take_succ_cons, List.take_zero, List.map_cons, List.map_nil])) | ((refine LeV.frzP (by first | rfl | assumption) (by simp [h27]) (by simp) (by simp [zaK, zaR, upd, noH, zao, h27]) ?_); (simp only [zaw, List.drop_zero])))))
 repeat first|with_reducible refine wV fun _=>?_|simp [go_sem]
 refine zzf [zbY ([], 0), zbY ([], 0)] (.v (.bool true)) [] (fun _ => hS2) (.v _) ?_ (by simp [go_sem, zbY]) ?_
 ·intro h₁ hS
  simp only [zbY]
  (first|done|exact leX)
 repeat first|with_reducible refine wV fun _=>?_|simp [go_sem]
 refine zyV _ (fun _ => a1) (by simp [go_sem]) ?_
 repeat first|with_reducible refine wV fun _=>?_|simp [go_sem]
 refine zzf [zbY ([pa], 0), zbY ([pa], 0)] (.v (.bool true)) [38] (fun _ => hS3) (.v _) ?_ (by simp [go_sem, zbY]) ?_
 ·intro h₁ hS
  have h38 := (hS 38 (by simp)).symm
  simp [upd, zaK, zaR] at h38
  simp only [zbY]
  ((try simp only [zar, zau, zaE, zaV, zap, zaU, zat, zal, zad, za3, zaO, zaz, zas, zab, List.map_cons, List.map_nil, List.nil_append, List.append_nil, List.cons_append]); (repeat (first | (with_reducible first|exact zai.nil|exact zae.nil|exact LeV.refl _|exact zai.refl _ _ _ _|exact zae.refl _|refine zai.cons ?_ ?_|refine zae.cons ?_ ?_|refine LeV.agg ?_|refine LeV.tup ?_|refine LeV.fn ?_ ?_|exact LeV.nil _|refine zag (zae.refl _) ?_) | ((refine zam (by first | rfl | assumption) (by simp [h38]) (by simp [zaK, zaR, upd, noH, zao, h38]) ?_); (first | (simp [go_sem, h38]; done) | (simp [go_sem, h38]; exact List.take_of_length_le (by simp [h38])))) | ((refine LeV.frz (by first | rfl | assumption) (by simp [h38]) (by simp [zaK, zaR, upd, noH, zao, h38]) ?_); (simp only [List.drop_zero, List.take_succ_cons, List.take_zero, List.map_cons, List.map_nil])) | ((refine LeV.frzP (by first | rfl | assumption) (by simp [h38]) (by simp) (by simp [zaK, zaR, upd, noH, zao, h38]) ?_); (simp only [zaw, List.drop_zero])))))
 repeat first|with_reducible refine wV fun _=>?_|simp [go_sem]
 refine zyV _ (fun _ => a1) (by simp [go_sem]) ?_
 repeat first|with_reducible refine wV fun _=>?_|simp [go_sem]
 refine dGC.frz [.agg (zab zbe), .agg (zad pa), .v (.int .i64 (-1))] _ [0, 1, 2, 3, 4, 5, 6, 7] [] hCm (by simp) ?_ (by simp [go_sem, hgs]) ?_
 ·intro h₁ hS
  have h0 := (hS 0 (by simp)).symm
  have h1 := (hS 1 (by simp)).symm
  have h2 := (hS 2 (by simp)).symm
  have h3 := (hS 3 (by simp)).symm
  have h4 := (hS 4 (by simp)).symm
  have h5 := (hS 5 (by simp)).symm
  have h6 := (hS 6 (by simp)).symm
  have h7 := (hS 7 (by simp)).symm
  clear hS
  simp [upd, zaK, zaR] at h0 h1 h2 h3 h4 h5 h6 h7
  simp only [zbe, zab, zcr, zas, zaY, zar, zau, zb3, List.map_cons, List.map_nil]
  ((try simp only [zar, zau, zaE, zaV, zap, zaU, zat, zal, zad, za3, zaO, zaz, zas, zab, List.map_cons, List.map_nil, List.nil_append, List.append_nil, List.cons_append]); (repeat (first | (with_reducible first|exact zai.nil|exact zae.nil|exact LeV.refl _|exact zai.refl _ _ _ _|exact zae.refl _|refine zai.cons ?_ ?_|refine zae.cons ?_ ?_|refine LeV.agg ?_|refine LeV.tup ?_|refine LeV.fn ?_ ?_|exact LeV.nil _|refine zag (zae.refl _) ?_) | ((refine zam (by first | rfl | assumption) (by simp [h0, h1, h2, h3, h4, h5, h6, h7]) (by simp [zaK, zaR, upd, noH, zao, h0, h1, h2, h3, h4, h5, h6, h7]) ?_); (first | (simp [go_sem, h0, h1, h2, h3, h4, h5, h6, h7]; done) | (simp [go_sem, h0, h1, h2, h3, h4, h5, h6, h7]; exact List.take_of_length_le (by simp [h0, h1, h2, h3, h4, h5, h6, h7])))) | ((refine LeV.frz (by first | rfl | assumption) (by simp [h0, h1, h2, h3, h4, h5, h6, h7]) (by simp [zaK, zaR, upd, noH, zao, h0, h1, h2, h3, h4, h5, h6, h7]) ?_); (simp only [List.drop_zero, List.take_succ_cons, List.take_zero, List.map_cons, List.map_nil])) | ((refine LeV.frzP (by first | rfl | assumption) (by simp [h0, h1, h2, h3, h4, h5, h6, h7]) (by simp) (by simp [zaK, zaR, upd, noH, zao, h0, h1, h2, h3, h4, h5, h6, h7]) ?_); (simp only [zaw, List.drop_zero])))))
 repeat first|with_reducible refine wV fun _=>?_|simp [go_sem]
theorem zw0 {P : Program} {t : TypeId} {fn : Fn} {first caps : Array Value} {l : List UInt8} (hl : l ≠ []) (h : funcToken P (t, .func fn first caps) = l) :
  ∃ f F, fn = .func f ∧ first = #[] ∧ caps = #[] ∧ P.funcs[f]? = some F ∧ P.funcNamed F.name = some f ∧ F.name.toUTF8.data.toList = l := by
 unfold funcToken at h
 cases fn with
 | func f =>
  simp only at h
  split at h
  ·rename_i hc
   simp only [Bool.and_eq_true, Array.isEmpty_iff] at hc
   split at h
   ·rename_i F hF
    split at h
    ·rename_i hn
     exact ⟨f, F, rfl, hc.1, hc.2, hF, by simpa using hn, h⟩
    ·exact absurd h.symm hl
   ·exact absurd h.symm hl
  ·exact absurd h.symm hl
 | _ => exact absurd h.symm hl
theorem zqc {P : Program} {w : World} {sp : Nat → Bool} {fuel : Nat} {e : TypeId} {d : TypeDesc} {v : Value} {l : List UInt8} {q : List MemPlace} (hd : P.underlying e = some d) (hf : ∃ a b c, d = .func a b c) (h : DataW.trod (funcToken P) P w 0 sp true fuel e [v] = some (.held l, q)) :
  ∃ fn first caps, v = .func fn first caps ∧ funcToken P (e, .func fn first caps) = l := by
 obtain ⟨a, b, c, rfl⟩ := hf
 cases fuel with
 | zero => simp [DataW.trod] at h
 | succ fuel =>
  simp only [DataW.trod, hd] at h
  cases v <;> simp at h
  exact ⟨_, _, _, rfl, h.1⟩
theorem zvq {P : Program} {w : World} {sp : Nat → Bool} {fuel : Nat} {e : TypeId} {d : TypeDesc} {v : Value} {q : List MemPlace} (hd : P.underlying e = some d) (hf : ∃ a b c, d = .func a b c) (h : DataW.trod (funcToken P) P w 0 sp true fuel e [v] = some (.nil, q)) : v = .nilFunc := by
 obtain ⟨a, b, c, rfl⟩ := hf
 cases fuel with
 | zero => simp [DataW.trod] at h
 | succ fuel =>
  simp only [DataW.trod, hd] at h
  cases v <;> simp at h
  rfl
theorem zrW {a b : String} (h : a.toUTF8.data.toList = b.toUTF8.data.toList) : a = b := by
 have h1 : a.toUTF8 = b.toUTF8 := ByteArray.ext (Array.toList_inj.1 h)
 exact String.toByteArray_inj.1 h1
theorem zmy {n : String} {k : FuncId} {l : List UInt8} {t : TypeId} {fn : Fn} {first caps : Array Value} (hk : Tryz.prog.funcNamed n = some k) (hl : n.toUTF8.data.toList = l) (hne : l ≠ []) (h : funcToken Tryz.prog (t, .func fn first caps) = l) : fn = .func k ∧ first = #[] ∧ caps = #[] := by
 obtain ⟨f, F, h1, h2, h3, h4, h5, h6⟩ := zw0 hne h
 have e : F.name = n := zrW (h6.trans hl.symm)
 rw [e, hk] at h5
 cases h5
 exact ⟨h1, h2, h3⟩
def zdW : DataW Unit := .agg [.nil, .iface "func" (.lit (.string [115, 107, 101, 119, 101, 114, 47, 112, 108, 97, 121, 46, 99, 111, 110, 100, 105, 116, 105, 111, 110, 115, 36, 49])), .iface "func" (.lit (.string [115, 107, 101, 119, 101, 114, 47, 112, 108, 97, 121, 46, 99, 111, 110, 100, 105, 116, 105, 111, 110, 115, 36, 50])), .iface "func" (.lit (.string [115, 107, 101, 119, 101, 114, 47, 112, 108, 97, 121, 46, 99, 111, 110, 100, 105, 116, 105, 111, 110, 115, 36, 51]))]
theorem zpp {W : World} (h : funcsAt Tryz.prog W "skewer/play.conditions" zdW) :
  ∃ cs T fz, W.heap[0]? = some (.cells cs T fz) ∧ cs.toList = [.nilFunc, .func (.func 328) #[] #[], .func (.func 330) #[] #[], .func (.func 331) #[] #[]] := by
 obtain ⟨g, t, cs, fuel, p, hg, ht, hcs, htr⟩ := h
 obtain rfl : g = 0 := (Option.some.inj ((show Tryz.prog.globalNamed "skewer/play.conditions" = some 0 by kernel_rfl).symm.trans hg)).symm
 obtain rfl : t = 201 := (Option.some.inj ((show (Tryz.prog.globals[0]?).map (·.type) = some 201 by kernel_rfl).symm.trans ht)).symm
 have hu : Tryz.prog.underlying 201 = some (.array 4 200) := by kernel_rfl
 have hc1 : Tryz.prog.cellsOf 200 = 1 := by kernel_rfl
 have hc4 : Tryz.prog.cellsOf 201 = 4 := by kernel_rfl
 have hheap : ∃ T fz, W.heap[0]? = some (.cells cs T fz) := by
  unfold World.var? at hcs
  rw [show Tryz.prog.globalNamed "skewer/play.conditions" = some 0 by kernel_rfl] at hcs
  simp only [Option.bind_some] at hcs
  split at hcs
  ·rename_i c T fz hb
   cases hcs
   exact ⟨T, fz, hb⟩
  ·cases hcs
 obtain ⟨T, fz, hb⟩ := hheap
 refine ⟨cs, T, fz, hb, ?_⟩
 cases fuel with
 | zero => simp [DataW.trod] at htr
 | succ fuel =>
  simp only [DataW.trod, hu, hc1, hc4, Nat.mul_one] at htr
  split at htr
  ·rename_i hl
   match hcl : cs.toList, hl with
   | [a, b, c, d], _ =>
    rw [hcl] at htr
    obtain ⟨xs, hm, hx⟩ := Option.map_eq_some_iff.1 htr
    simp only [show List.range 4 = [0, 1, 2, 3] from rfl, List.mapM_cons, List.mapM_nil, List.drop_zero, List.drop_succ_cons, List.take_succ_cons, List.take_zero, Option.bind_eq_bind, Option.bind_eq_some_iff, Option.pure_def, Option.some.injEq] at hm
    obtain ⟨⟨y0, q0⟩, h0, l1, ⟨⟨y1, q1⟩, h1, l2, ⟨⟨y2, q2⟩, h2, l3, ⟨⟨y3, q3⟩, h3, l4, rfl, rfl⟩, rfl⟩, rfl⟩, rfl⟩ := hm
    have hx1 := congrArg Prod.fst hx
    simp only [zdW, DataW.funcsOut, DataW.funcsOutAll, List.map_cons, List.map_nil, DataW.agg.injEq, List.cons.injEq, and_true] at hx1
    simp at hx1
    obtain ⟨rfl, rfl, rfl, rfl⟩ := hx1
    have hd : Tryz.prog.underlying 200 = some (.func #[39, 45, 78] #[4] false) := by kernel_rfl
    have hf : ∃ a b c, TypeDesc.func #[39, 45, 78] #[4] false = .func a b c := ⟨_, _, _, rfl⟩
    obtain rfl := zvq hd hf h0
    obtain ⟨f1, i1, c1, rfl, t1⟩ := zqc hd hf h1
    obtain ⟨f2, i2, c2, rfl, t2⟩ := zqc hd hf h2
    obtain ⟨f3, i3, c3, rfl, t3⟩ := zqc hd hf h3
    obtain ⟨rfl, rfl, rfl⟩ := zmy (n := "skewer/play.conditions$1") (k := 328) (by kernel_rfl) (by decide +kernel) (by simp) t1
    obtain ⟨rfl, rfl, rfl⟩ := zmy (n := "skewer/play.conditions$2") (k := 330) (by kernel_rfl) (by decide +kernel) (by simp) t2
    obtain ⟨rfl, rfl, rfl⟩ := zmy (n := "skewer/play.conditions$3") (k := 331) (by kernel_rfl) (by decide +kernel) (by simp) t3
    rfl
  ·cases htr
theorem zbd {W : World} (h : funcsAt Tryz.prog W "skewer/play.conditions" zdW) : zhw W (fun _ => False) := by
 obtain ⟨cs, T, fz, hb, hcs⟩ := zpp h
 have hsz : cs.size = 4 := by rw [← Array.length_toList, hcs]; rfl
 intro q hq
 have e : q = (0, [AV.v .nilFunc, .fn (.func 328) [] [], .fn (.func 330) [] [], .fn (.func 331) [] []]) := by simpa [glbs] using hq
 subst e
 refine Rel.fp (C := cs) (T := T) (fz := fz) rfl (fun h => h) hb (by simp [hsz]) ?_ ?_
 ·intro u hu
  simp only [hcs, List.drop_zero] at hu
  simp at hu
  rcases hu with rfl | rfl | rfl | rfl <;> rfl
 ·simp only [hcs, List.drop_zero]
  exact .cons (.v _) (.cons (.fn .nil .nil) (.cons (.fn .nil .nil) (.cons (.fn .nil .nil) .nil)))
end Go.Av
end
section
open Go Go.Proofs Go.Av Go.ChangeShapes Go.RowKit
namespace Go.Proofs.YtkahkcakggflaaaGreatDoor
theorem zcL : ownKnob Tryz.prog.godebug = none := by kernel_rfl
theorem zdF : laidOutB Tryz.prog = true := by kernel_rfl
abbrev zwg : List (String × DataW Unit) := [("math/bits.deBruijn32tab", Rows.laid_math_bits_deBruijn32tab), ("math/bits.deBruijn64tab", Rows.laid_math_bits_deBruijn64tab), ("internal/strconv.uint64pow10", Rows.laid_internal_strconv_uint64pow10), ("skewer/play.conditions", Rows.laid_skewer_play_conditions)]
theorem zcK (os : Os) (args : Array Value) : laidMetH Tryz.prog zwg ((World.doorLaid Tryz.prog 29 os).forCall (fun _ _ => 0) ⟨#[], args, []⟩).memory :=
 laidMetH_of_parts3 (fuel := 8) (laidMet_of_run' 8 (by kernel_rfl) (by kernel_rfl)) (by kernel_rfl) (by kernel_rfl)
theorem zcc (os : Os) (args : Array Value) : ((World.doorLaid Tryz.prog 29 os).forCall (fun _ _ => 0) ⟨#[], args, []⟩).variablesB Tryz.prog = true := by kernel_rfl
theorem zcb (os : Os) (args : Array Value) : (((World.doorLaid Tryz.prog 29 os).forCall (fun _ _ => 0) ⟨#[], args, []⟩).heap.toList.drop Tryz.prog.globals.size).take ((begin Tryz.prog (fun _ _ => 0) default).world.heap.size - Tryz.prog.globals.size) =
  (begin Tryz.prog (fun _ _ => 0) default).world.heap.toList.drop Tryz.prog.globals.size := by kernel_rfl
end Go.Proofs.YtkahkcakggflaaaGreatDoor
end
section
/- Our library, part 14: arguments, as the statements read them, are values of the abstract domain. -/
namespace Go.Av
open Go

abbrev NoM : Nat → Prop := fun _ => False

structure zl5 (B : Nat) (bk : ∀ {H : Type}, DataW H → Nat) : Prop where
 len : ∀ {H : Type} (l r : List (DataW H)), bk (.slice l r) ≤ B → l.length ≤ maxLen → l.length ≤ B
 elem : ∀ {H : Type} (l r : List (DataW H)) d, d ∈ l → bk (.slice l r) ≤ B → bk d ≤ B
 part : ∀ {H : Type} (l : List (DataW H)) d, d ∈ l → bk (.agg l) ≤ B → bk d ≤ B
 str : ∀ {H : Type} (l : List UInt8), bk (DataW.lit (H := H) (.string l)) ≤ B → l.length ≤ maxLen → l.length ≤ B

theorem zl5.any : zl5 maxLen (fun _ => 0) := ⟨fun _ _ _ h => h, fun _ _ _ _ _ => Nat.zero_le _, fun _ _ _ _ => Nat.zero_le _, fun _ _ h => h⟩

def Opn (P : Program) (B : Nat) (bk : ∀ {H : Type}, DataW H → Nat) {α : Type} (t : TypeId) (en : α → List AV) (Q : α → Prop) : Prop :=
 ∀ {H : Type} (enc : TypeId × Value → H) (w : World) (fuel : Nat) (cs : List Value) (d : DataW H) (ps : List MemPlace),
  DataW.trod enc P w 0 (fun _ => true) true fuel t cs = some (d, ps) → bk d ≤ B → ∃ x, zaN noP w NoM (en x) cs ∧ (∀ c ∈ cs, zcg c = true) ∧ cs.length = P.cellsOf t ∧ Q x

section
variable {P : Program} {B : Nat} {bk : ∀ {H : Type}, DataW H → Nat}
theorem Opn.int {t : TypeId} {k : IntKind} (ht : P.underlying t = some (.int k)) (hc : P.cellsOf t = 1) : Opn P B bk t (fun n : Int => [.v (.int k n)]) (fun n => (Lit.int k n).wf = true) := by
 intro H enc w fuel cs d ps h _
 obtain ⟨n, rfl, _, hw⟩ := DataW.trod_int ht h
 exact ⟨n, .cons (.v _) .nil, by simp [zcg, Value.oneCell'], by simp [hc], hw⟩
theorem Opn.bool {t : TypeId} (ht : P.underlying t = some .bool) (hc : P.cellsOf t = 1) : Opn P B bk t (fun b : Bool => [.v (.bool b)]) (fun _ => True) := by
 intro H enc w fuel cs d ps h _
 obtain ⟨n, rfl, _⟩ := DataW.trod_bool ht h
 exact ⟨n, .cons (.v _) .nil, by simp [zcg, Value.oneCell'], by simp [hc], trivial⟩
theorem Opn.string {t : TypeId} (hB : zl5 B bk) (ht : P.underlying t = some .string) (hc : P.cellsOf t = 1) : Opn P B bk t (fun s : ByteArray => [.v (.string s)]) (fun s => s.size ≤ B) := by
 intro H enc w fuel cs d ps h hb
 obtain ⟨n, rfl, hx, hm⟩ := DataW.trod_string ht h
 simp only [Prod.mk.injEq] at hx
 obtain ⟨rfl, _⟩ := hx
 refine ⟨n, .cons (.v _) .nil, by simp [zcg, Value.oneCell'], by simp [hc], ?_⟩
 have := hB.str _ hb (by simpa using hm)
 simpa using this
theorem Opn.imp {α : Type} {t : TypeId} {en : α → List AV} {Q Q' : α → Prop} (h : Opn P B bk t en Q) (hq : ∀ x, Q x → Q' x) : Opn P B bk t en Q' := by
 intro H enc w fuel cs d ps h1 h2
 obtain ⟨x, a, b, c, e⟩ := h enc w fuel cs d ps h1 h2
 exact ⟨x, a, b, c, hq x e⟩
theorem Opn.map {α β : Type} {t : TypeId} {en : α → List AV} {en' : β → List AV} {Q : α → Prop} {Q' : β → Prop} (h : Opn P B bk t en Q) (f : α → β) (hq : ∀ x, Q x → Q' (f x)) (he : ∀ x, Q x → en' (f x) = en x) : Opn P B bk t en' Q' := by
 intro H enc w fuel cs d ps h1 h2
 obtain ⟨x, a, b, c, e⟩ := h enc w fuel cs d ps h1 h2
 exact ⟨f x, by rw [he x e]; exact a, b, c, hq x e⟩
theorem zhE {w : World} {a : Addr} {n : Nat} {cs : List Value} (h : w.cells? 0 a n = some cs) : cs.length = n ∧ ∀ i, i < n → w.cell? (a.add i) = cs[i]? := by
 unfold World.cells? at h
 rw [if_pos (Nat.zero_le _)] at h
 exact ⟨by simpa using mapM_some_length h, fun i hi => mapM_some_get h i i (by simp [hi])⟩
theorem zjr {w : World} {a : Addr} {v : Value} (h : w.cell? a = some v) : ∃ C T fz, w.heap[a.block]? = some (.cells C T fz) ∧ a.spot = none ∧ C[a.off]? = some v := by
 unfold World.cell? at h
 split at h
 ·rename_i C T fz hb
  split at h
  ·cases h
  ·rename_i hs
   refine ⟨C, T, fz, hb, ?_, h⟩
   cases hsp : a.spot with
   | none => rfl
   | some x => simp [hsp] at hs
 ·cases h
theorem zje (a : Addr) (n : Nat) : (a.add n).block = a.block := by unfold Addr.add; split <;> rfl
theorem zo9 (a : Addr) (n : Nat) : (a.add n).off = a.off + n := by
 unfold Addr.add
 split
 ·rename_i h; subst h; rfl
 ·rfl
theorem zis {φ : zaA} {w : World} {M : Nat → Prop} {rows : List (List AV)} {L : List Value} {sz : Nat} (hl : L.length = rows.length * sz)
  (h : ∀ i (hi : i < rows.length), zaN φ w M rows[i] ((L.drop (i * sz)).take sz)) : zaN φ w M rows.flatten L := by
 induction rows generalizing L with
 | nil => simp at hl; subst hl; exact .nil
 | cons r rows ih =>
  have h0 := h 0 (by simp)
  simp only [List.getElem_cons_zero, Nat.zero_mul, List.drop_zero] at h0
  rw [List.flatten_cons, ← List.take_append_drop sz L]
  refine zaN.append h0 (ih (by simp at hl ⊢; rw [hl, Nat.add_mul]; omega) fun i hi => ?_)
  have := h (i + 1) (by simpa using hi)
  simp only [List.getElem_cons_succ] at this
  rw [List.drop_drop, show sz + i * sz = (i + 1) * sz by rw [Nat.add_mul]; omega]
  exact this
theorem zjI {α : Type} (n : Nat) (p : Nat → α → Prop) (h : ∀ i, i < n → ∃ x, p i x) : ∃ l : List α, l.length = n ∧ ∀ i (hi : i < l.length), p i l[i] := by
 induction n with
 | zero => exact ⟨[], rfl, fun i hi => by simp at hi⟩
 | succ n ih =>
  obtain ⟨l, hl, hp⟩ := ih fun i hi => h i (by omega)
  obtain ⟨x, hx⟩ := h n (by omega)
  refine ⟨l ++ [x], by simp [hl], fun i hi => ?_⟩
  rcases Nat.lt_or_ge i l.length with h1 | h1
  ·rw [List.getElem_append_left h1]; exact hp i h1
  ·have : i = n := by simp at hi; omega
   subst this
   simp [List.getElem_append_right, hl, hx]
theorem Opn.slice {α : Type} {t e : TypeId} {en : α → List AV} {Q : α → Prop} {sz : Nat} (hB : zl5 B bk) (ht : P.underlying t = some (.slice e)) (hc : P.cellsOf t = 1) (hz : P.cellsOf e = sz) (hp : 0 < sz)
  (he : Opn P B bk e en Q) : Opn P B bk t (fun l : List α => [.lst sz (l.map en)]) (fun l => l.length ≤ B ∧ ∀ x ∈ l, Q x) := by
 intro H enc w fuel cs d ps h hb
 rcases DataW.trod_slice ht h with ⟨rfl, _⟩ | ⟨a, len, cap, zr7, rest, n, rfl, rfl, hx, _, hlen, hmax, hel, hget, _, _⟩
 ·exact ⟨[], .cons (.nil _ _ _) .nil, by simp [zcg, Value.oneCell'], by simp [hc], by simp, by simp⟩
 ·simp only [Prod.mk.injEq] at hx
  obtain ⟨rfl, _⟩ := hx
  rw [hz] at hget
  have key : ∀ i (hi : i < len), ∃ x ci, w.cells? 0 (a.add (i * sz)) sz = some ci ∧ zaN noP w NoM (en x) ci ∧ (∀ c ∈ ci, zcg c = true) ∧ Q x := by
   intro i hi
   have h1 := hget i hi
   rw [List.getElem?_eq_getElem (by omega), Option.bind_eq_some_iff] at h1
   obtain ⟨ci, h2, h3⟩ := h1
   obtain ⟨x, a1, a2, _, a4⟩ := he enc w n ci zr7[i].1 zr7[i].2 h3 (hB.elem _ _ _ (List.mem_map.2 ⟨zr7[i], List.getElem_mem _, rfl⟩) hb)
   exact ⟨x, ci, h2, a1, a2, a4⟩
  have hlb : len ≤ B := by have := hB.len _ _ hb (by simp; omega); simp at this; omega
  obtain ⟨l, hl, hx⟩ := zjI len _ key
  refine ⟨l, ?_, by simp [zcg, Value.oneCell'], by simp [hc], by omega, fun x hxm => ?_⟩
  ·rcases Nat.eq_zero_or_pos len with h0 | h0
   ·have : l = [] := List.eq_nil_of_length_eq_zero (by omega)
    subst this
    rw [h0]
    exact .cons (.nil _ _ _) .nil
   ·have cellI : ∀ i, i < len → ∀ j, j < sz → ∃ v, w.cell? (a.add (i * sz + j)) = some v ∧ zcg v = true := by
     intro i hi j hj
     obtain ⟨x, ci, h2, a1, a2, a3⟩ := key i hi
     obtain ⟨hcl, hcg⟩ := zhE h2
     refine ⟨ci[j], ?_, a2 _ (List.getElem_mem (by omega))⟩
     have := hcg j hj
     rw [List.getElem?_eq_getElem (by omega)] at this
     rw [← this]
     simp only [World.cell?, zje, zo9, Nat.add_assoc]
     by_cases hj0 : j = 0
     ·subst hj0; simp [Addr.add]
     ·simp [Addr.add, hj0]
    obtain ⟨v0, hv0, _⟩ := cellI 0 h0 0 hp
    obtain ⟨C, T, fz, hC, hs, _⟩ := zjr hv0
    simp only [Nat.zero_mul, Nat.zero_add, Addr.add, if_true] at hC hs
    have cellC : ∀ k, k < len * sz → ∃ v, C[a.off + k]? = some v ∧ w.cell? (a.add k) = some v ∧ zcg v = true := by
     intro k hk
     have hi : k / sz < len := Nat.div_lt_of_lt_mul (by rw [Nat.mul_comm]; exact hk)
     have hj : k % sz < sz := Nat.mod_lt _ hp
     obtain ⟨v, h1, h2⟩ := cellI _ hi _ hj
     rw [show k / sz * sz + k % sz = k by rw [Nat.mul_comm]; exact Nat.div_add_mod k sz] at h1
     obtain ⟨C', T', fz', hC', hs', hv'⟩ := zjr h1
     rw [zje, hC] at hC'
     simp only [Option.some.injEq, Obj.cells.injEq] at hC'
     obtain ⟨rfl, _, _⟩ := hC'
     rw [zo9] at hv'
     exact ⟨v, hv', h1, h2⟩
    have hsz : a.off + len * sz ≤ C.size := by
     have hpos : 0 < len * sz := Nat.mul_pos h0 hp
     obtain ⟨v, h1, _⟩ := cellC (len * sz - 1) (by omega)
     have := (Array.getElem?_eq_some_iff.1 h1).1
     omega
    have hL : ((C.toList.drop a.off).take (len * sz)).length = len * sz := by simp; omega
    have hget : ∀ k, k < len * sz → ((C.toList.drop a.off).take (len * sz))[k]? = C[a.off + k]? := by
     intro k hk
     rw [List.getElem?_take, if_pos hk, List.getElem?_drop]; simp
    have hrl : ∀ i (hi : i < l.length), ∃ ci, w.cells? 0 (a.add (i * sz)) sz = some ci ∧ zaN noP w NoM (en l[i]) ci := fun i hi => by
     obtain ⟨ci, h2, a1, _⟩ := hx i hi
     exact ⟨ci, h2, a1⟩
    refine .cons (.lst (C := C) (T := T) (fz := fz) hs (fun h => h) hC (fun r hr => ?_) (by simp; omega) (by rw [List.length_map, hl]; exact hsz) (by omega) (fun u hu => ?_) ?_) .nil
    ·obtain ⟨x, hxm, rfl⟩ := List.mem_map.1 hr
     obtain ⟨i, hi, rfl⟩ := List.getElem_of_mem hxm
     obtain ⟨ci, h2, a1⟩ := hrl i hi
     rw [a1.length, (zhE h2).1]
    ·rw [List.length_map, hl] at hu
     obtain ⟨k, hk, rfl⟩ := List.getElem_of_mem hu
     rw [hL] at hk
     obtain ⟨v, h1, _, h3⟩ := cellC k hk
     have := hget k hk
     rw [List.getElem?_eq_getElem (by omega), h1] at this
     simp only [Option.some.injEq] at this
     rw [this]; exact h3
    ·rw [List.length_map, hl]
     refine zis (sz := sz) (by rw [hL, List.length_map, hl]) fun i hi => ?_
     rw [List.length_map] at hi
     obtain ⟨ci, h2, a1⟩ := hrl i hi
     rw [List.getElem_map]
     obtain ⟨hcl, hcg⟩ := zhE h2
     have hle : (i + 1) * sz ≤ len * sz := Nat.mul_le_mul_right _ (by omega)
     rw [Nat.add_mul] at hle
     have : ci = (((C.toList.drop a.off).take (len * sz)).drop (i * sz)).take sz := by
      refine List.ext_getElem? fun j => ?_
      rcases Nat.lt_or_ge j sz with hj | hj
      ·rw [← hcg j hj, List.getElem?_take, if_pos hj, List.getElem?_drop, hget _ (by omega)]
       obtain ⟨v, h1, h3, _⟩ := cellC (i * sz + j) (by omega)
       rw [h1, ← h3]
       simp only [World.cell?, zje, zo9, Nat.add_assoc]
       by_cases hj0 : j = 0
       ·subst hj0; simp [Addr.add]
       ·simp [Addr.add, hj0]
      ·rw [List.getElem?_eq_none (by omega), List.getElem?_eq_none (by simp; omega)]
     rw [← this]; exact a1
  ·obtain ⟨i, hi, rfl⟩ := List.getElem_of_mem hxm
   obtain ⟨ci, _, _, _, a4⟩ := hx i hi
   exact a4
theorem Opn.array {α : Type} {t e : TypeId} {en : α → List AV} {Q : α → Prop} {n sz : Nat} (hB : zl5 B bk) (ht : P.underlying t = some (.array n e)) (hz : P.cellsOf e = sz) (hc : P.cellsOf t = n * sz)
  (he : Opn P B bk e en Q) : Opn P B bk t (fun l : List α => (l.map en).flatten) (fun l => l.length = n ∧ ∀ x ∈ l, Q x) := by
 intro H enc w fuel cs d ps h hb
 obtain ⟨xs, m, _, hx, hl, hxl, hget⟩ := DataW.trod_array ht h
 simp only [Prod.mk.injEq] at hx
 obtain ⟨rfl, _⟩ := hx
 rw [hz] at hget
 have key : ∀ i, i < n → ∃ x, zaN noP w NoM (en x) ((cs.drop (i * sz)).take sz) ∧ (∀ c ∈ (cs.drop (i * sz)).take sz, zcg c = true) ∧ Q x := by
  intro i hi
  have h1 := hget i hi
  rw [List.getElem?_eq_getElem (by omega)] at h1
  obtain ⟨x, a1, a2, _, a4⟩ := he enc w m _ xs[i].1 xs[i].2 h1 (hB.part _ _ (List.mem_map.2 ⟨xs[i], List.getElem_mem _, rfl⟩) hb)
  exact ⟨x, a1, a2, a4⟩
 obtain ⟨l, hll, hx⟩ := zjI n _ key
 rw [hc] at hl
 refine ⟨l, zis (sz := sz) (by rw [List.length_map, hll]; exact hl) (fun i hi => ?_), fun c hcm => ?_, by rw [hc]; exact hl, hll, fun x hxm => ?_⟩
 ·rw [List.length_map] at hi
  rw [List.getElem_map]; exact (hx i hi).1
 ·obtain ⟨k, hk, rfl⟩ := List.getElem_of_mem hcm
  have hp : 0 < sz := Nat.pos_of_ne_zero fun h0 => by subst h0; simp at hl; subst hl; simp at hk
  have hi : k / sz < n := Nat.div_lt_of_lt_mul (by rw [Nat.mul_comm, ← hl]; exact hk)
  have hj : k % sz < sz := Nat.mod_lt _ hp
  have e : k / sz * sz + k % sz = k := by rw [Nat.mul_comm]; exact Nat.div_add_mod k sz
  refine (hx (k / sz) (by omega)).2.1 _ (List.mem_iff_getElem?.2 ⟨k % sz, ?_⟩)
  rw [List.getElem?_take, if_pos hj, List.getElem?_drop, e]
  exact List.getElem?_eq_getElem hk
 ·obtain ⟨i, hi, rfl⟩ := List.getElem_of_mem hxm
  exact (hx i hi).2.2
def zia (P : Program) (B : Nat) (bk : ∀ {H : Type}, DataW H → Nat) {α : Type} (ts : List TypeId) (en : α → List AV) (Q : α → Prop) : Prop :=
 ∀ {H : Type} (enc : TypeId × Value → H) (w : World) (fuel : Nat) (cs : List Value), cs.length = (ts.map P.cellsOf).sum →
  (∀ i (hi : i < ts.length), ∃ d ps, DataW.trod enc P w 0 (fun _ => true) true fuel ts[i] ((cs.drop ((ts.take i).map P.cellsOf).sum).take (P.cellsOf ts[i])) = some (d, ps) ∧ bk d ≤ B) →
  ∃ x, zaN noP w NoM (en x) cs ∧ (∀ c ∈ cs, zcg c = true) ∧ Q x
theorem zia.nil : zia P B bk [] (fun _ : Unit => []) (fun _ => True) := by
 intro H enc w fuel cs hl _
 have : cs = [] := List.eq_nil_of_length_eq_zero (by simpa using hl)
 subst this
 exact ⟨(), .nil, by simp, trivial⟩
theorem zia.cons {α β : Type} {t : TypeId} {ts : List TypeId} {en : α → List AV} {Q : α → Prop} {en' : β → List AV} {Q' : β → Prop} (h : Opn P B bk t en Q) (h' : zia P B bk ts en' Q') :
  zia P B bk (t :: ts) (fun x : α × β => en x.1 ++ en' x.2) (fun x => Q x.1 ∧ Q' x.2) := by
 intro H enc w fuel cs hl hd
 obtain ⟨d, ps, h1, h2⟩ := hd 0 (by simp)
 simp only [List.getElem_cons_zero, List.take_zero, List.map_nil, List.sum_nil, List.drop_zero] at h1
 obtain ⟨x, a1, a2, a3, a4⟩ := h enc w fuel _ d ps h1 h2
 obtain ⟨y, b1, b2, b3⟩ := h' enc w fuel (cs.drop (P.cellsOf t)) (by simp at hl ⊢; omega) (fun i hi => by
  obtain ⟨d, ps, k1, k2⟩ := hd (i + 1) (by simpa using hi)
  simp only [List.getElem_cons_succ, List.take_succ_cons, List.map_cons, List.sum_cons] at k1
  exact ⟨d, ps, by rw [List.drop_drop]; exact k1, k2⟩)
 refine ⟨(x, y), ?_, fun c hc => ?_, a4, b3⟩
 ·rw [← List.take_append_drop (P.cellsOf t) cs]
  exact zaN.append a1 b1
 ·rw [← List.take_append_drop (P.cellsOf t) cs] at hc
  rcases List.mem_append.1 hc with hc | hc
  ·exact a2 c hc
  ·exact b2 c hc
def zqL (P : Program) (t : TypeId) (ts : List TypeId) : Bool := match P.underlying t with
 | some (.struct fs) => decide (fs.toList.map (·.type) = ts) && decide (fs.toList.map (·.offset) = (List.range ts.length).map fun i => ((ts.take i).map P.cellsOf).sum) && decide (P.cellsOf t = (ts.map P.cellsOf).sum)
 | _ => false
theorem Opn.struct {α : Type} {t : TypeId} {ts : List TypeId} {en : α → List AV} {Q : α → Prop} (hB : zl5 B bk) (ht : zqL P t ts = true) (h : zia P B bk ts en Q) : Opn P B bk t en Q := by
 unfold zqL at ht
 split at ht
 ·rename_i fs hfs
  simp only [Bool.and_eq_true, decide_eq_true_eq] at ht
  obtain ⟨⟨h1, h2⟩, h3⟩ := ht
  intro H enc w fuel cs d ps hd hb
  obtain ⟨xs, n, _, hx, hl, hxl, hget⟩ := DataW.trod_struct hfs hd
  simp only [Prod.mk.injEq] at hx
  obtain ⟨rfl, _⟩ := hx
  have hlen : fs.size = ts.length := by rw [← h1]; simp
  obtain ⟨x, a1, a2, a3⟩ := h enc w n cs (by rw [hl, h3]) (fun i hi => by
   have hi' : i < fs.size := by omega
   have e1 : fs[i].type = ts[i] := by
    have := congrArg (fun l => l[i]?) h1
    simp [hi', List.getElem?_eq_getElem hi] at this
    exact this
   have e2 : fs[i].offset = ((ts.take i).map P.cellsOf).sum := by
    have := congrArg (fun l => l[i]?) h2
    simp [hi', hi] at this
    rw [this, List.map_take]
   have := hget i fs[i] (Array.getElem?_eq_getElem hi')
   rw [e1, e2, List.getElem?_eq_getElem (by omega)] at this
   exact ⟨xs[i].1, xs[i].2, this, hB.part _ _ (List.mem_map.2 ⟨xs[i], List.getElem_mem _, rfl⟩) hb⟩)
  exact ⟨x, a1, a2, hl, a3⟩
 ·cases ht
def outer (P : Program) (t : TypeId) : Bool := match P.underlying t with
 | some (.struct _) | some (.array _ _) => true
 | _ => false
def wrapAV (agg : Bool) (cs : List AV) : AV := if agg then .agg cs else cel cs 0
theorem zyX {α : Type} {t : TypeId} {en : α → List AV} {Q : α → Prop} (h : Opn P B bk t en Q) {ag : Bool} (ho : outer P t = ag) (h1 : ag = false → P.cellsOf t = 1) {H : Type} {enc : TypeId × Value → H} {W : World} {base : Nat} {r : Reach} {v : Value} {d : DataW H} {ps : List MemPlace}
  (hval : Value.okWide P W r base t v) (hd : DataW.Trod enc P W 0 (fun _ => true) true t v d ps) (hb : bk d ≤ B) : ∃ x, Rel noP W NoM (wrapAV ag (en x)) v ∧ Q x := by
 obtain ⟨fuel, hd⟩ := hd
 obtain ⟨x, a1, a2, a3, a4⟩ := h enc W fuel _ d ps hd hb
 refine ⟨x, ?_, a4⟩
 unfold outer at ho
 unfold Value.okWide at hval
 split at ho
 ·rename_i hu
  subst ho
  rw [hu] at hval
  obtain ⟨cs, rfl, _, _⟩ := hval
  exact .agg (vs := cs.toList) a2 a1
 ·rename_i hu
  subst ho
  rw [hu] at hval
  obtain ⟨cs, rfl, _, _⟩ := hval
  exact .agg (vs := cs.toList) a2 a1
 ·subst ho
  rw [h1 rfl] at a3
  have hv : v.cells.toList = [v] := by
   unfold Value.cells at a3 a2 ⊢
   split
   ·rename_i cs
    exfalso
    split at hval
    ·simp_all
    ·simp_all
    ·unfold Cell.okWide at hval
     split at hval <;> simp_all [Cell.ok]
   ·rfl
  rw [hv] at a1
  cases he : en x with
  | nil => rw [he] at a1; cases a1
  | cons y ys =>
   rw [he] at a1
   cases a1 with
   | cons a1 _ => exact a1

theorem zsK {f : Func} {s : ChangeSpec} {apart fresh handsOn again : Bool} {H : Type} {enc : TypeId × Value → H} {W W' : World} {args : Array Value} {v : Value} {ds gs : List (DataW H)} {before : List MemPlace}
  (hlo : laidOutB P = true) (hts : f.params.toList.all (fun t => P.readableRec t && decide (t < P.types.size)) = true) (hv : s.vars = [])
  (hW : DataW.Whole enc P f.params.toList s.vars apart W args.toList ds gs before)
  (hres : ∀ (b : Nat) (sp : Nat → Bool) (hd : Bool), DataW.TrodAll enc P W' b sp hd f.resultTypes.toList (v.resultList f.resultTypes.size) (s.fn H (ds ++ gs)).results [])
  (hargs : (s.fn H (ds ++ gs)).args = ds) (hvars : (s.fn H (ds ++ gs)).vars = [])
  (hfr : Fr W (fun _ => False) W')
  (hok : ∀ (j : Nat) (t : TypeId) (r : Value), f.resultTypes[j]? = some t → (v.resultList f.resultTypes.size)[j]? = some r → Value.okWide P W' .any 0 t r) :
  s.post enc P f apart fresh handsOn again W args v W' := by
 have hlt : ∀ p ∈ before, p.block < W.heap.size := fun p hp => hW.lt p hp
 have hsame : ∀ p : MemPlace, p.block < W.heap.size → W.sameAt W' p := fun p hp => (Go.RowKit.Below.same ⟨hfr.os, hfr.tape, hfr.output, hfr.size, fun k hk => hfr.block k hk (fun h => h)⟩ hp)
 obtain ⟨p, q, hA, hV, hpq, hz, hn⟩ := id hW
 rw [hv] at hV
 have hq : q = [] ∧ gs = [] := by
  cases gs with
  | nil => exact ⟨hV, rfl⟩
  | cons g gs => exact hV.elim
 obtain ⟨rfl, rfl⟩ := hq
 rw [List.append_nil] at hpq
 subst hpq
 have key : ∀ (sp : Nat → Bool) (ts : List TypeId) (vs : List Value) (ds : List (DataW H)) (ps : List MemPlace), ts.all (fun t => P.readableRec t && decide (t < P.types.size)) = true → (∀ x ∈ ps, x.block < W.heap.size) → (∀ x ∈ ps, sp x.block = true) →
   DataW.TrodAll enc P W 0 (fun _ => true) true ts vs ds ps → DataW.TrodAll enc P W' 0 sp true ts vs ds ps := by
  intro sp ts
  induction ts with
  | nil =>
   intro vs ds ps _ _ _ h
   cases vs <;> cases ds <;> simp [DataW.TrodAll] at h ⊢
   exact h
  | cons t ts ih =>
   intro vs ds ps ht hlt hsp h
   obtain ⟨v, vs', d, ds', a, b, rfl, rfl, rfl, h1, h2⟩ := ChangeShapes.trodAll_cons h
   simp only [List.all_cons, Bool.and_eq_true, decide_eq_true_eq] at ht
   obtain ⟨⟨hr, hs⟩, hts⟩ := ht
   exact ⟨a, b, WideElems.Trod_stays hlo hr hs h1 (fun x hx => hsame x (hlt x (List.mem_append_left _ hx))) (fun x hx => hsp x (List.mem_append_left _ hx)),
    ih _ _ _ (by simpa using hts) (fun x hx => hlt x (List.mem_append_right _ hx)) (fun x hx => hsp x (List.mem_append_right _ hx)) h2, rfl⟩
 have key' : ∀ sp : Nat → Bool, (∀ x ∈ before, sp x.block = true) → DataW.TrodAll enc P W' 0 sp true f.params.toList args.toList (s.fn H (ds ++ [])).args before := fun sp hsp => by
  rw [hargs]; exact key sp _ _ _ _ hts hlt hsp hA
 have kv : ∀ sp : Nat → Bool, DataW.TrodVars enc P W' sp s.vars (s.fn H (ds ++ [])).vars [] := fun sp => by rw [hv, hvars]; rfl
 refine ⟨ds, [], before, [], before, [], hW, hres _ _ _, key' _ (fun x hx => by simpa using hlt x hx), kv _, ?_, fun _ => ⟨hok, _, _, ([] ++ before) ++ [], ⟨[] ++ before, [], ChangeShapes.trodAll_append (key' _ fun _ _ => rfl) (hres _ _ _), kv _, rfl, ?_, ?_⟩, ?_⟩⟩
 ·refine ⟨hfr.os, hfr.output, fun i hi => ?_⟩
  rw [hfr.block i hi (fun h => h)]
  cases h : W.heap[i]? with
  | none => simp
  | some o => cases o <;> simp
 ·intro b off hp
  have hp' : MemPlace.cell b off ∈ before := by simpa using hp
  have hb := hlt _ hp'
  have := hz b off hp'
  unfold World.frozen? at this ⊢
  simp only [MemPlace.block] at hb
  rw [show W'.heap[b]? = W.heap[b]? from hfr.block b hb (fun h => h)]
  exact this
 ·intro ha
  simpa using hn ha
 ·intro x hx _
  simpa using hx
theorem zaT {f : FuncId} {fn : Func} {tb : TypeId} {s : ChangeSpec} {apart fresh handsOn again : Bool} {H : Type} {enc : TypeId × Value → H} {W : World} {args : Array Value} {ds gs : List (DataW H)} {before : List MemPlace}
  (hlo : laidOutB P = true) (hts : fn.params.toList.all (fun t => P.readableRec t && decide (t < P.types.size)) = true) (hv : s.vars = []) (hrt : fn.resultTypes = #[tb]) (hb : P.underlying tb = some .bool)
  (hW : DataW.Whole enc P fn.params.toList s.vars apart W args.toList ds gs before)
  (hfn : gs = [] → s.fn H (ds ++ gs) = { results := [.lit (.bool true)], args := ds }) {avs : List AV} (hp : zaC P f avs (.v (.bool true))) (hr : zaN noP W NoM avs args.toList) (hg : zhw W NoM := by intro p hp; simp [glbs] at hp) :
  Calls P f args W fun e W' => ∃ v, e = .returned v ∧ s.post enc P fn apart fresh handsOn again W args v W' := by
 have hgs : gs = [] := by
  obtain ⟨p, q, hA, hV, _⟩ := hW
  rw [hv] at hV
  cases gs with
  | nil => rfl
  | cons g gs => exact hV.elim
 have := hp.2 NoM W args.toList (fun k hk => hk.elim) hg hr
 rw [show (⟨args.toList⟩ : Array Value) = args from rfl] at this
 refine this.mono ?_
 rintro e W' ⟨v, rfl, hv', hfr⟩
 cases hv'
 refine ⟨_, rfl, zsK hlo hts hv hW (fun b sp hd => ?_) (by rw [hfn hgs]) (by rw [hfn hgs]) hfr ?_⟩
 ·rw [hfn hgs, hrt]
  exact trodAll_cons_mk (RowKit.shut_bool hb _) ChangeShapes.trodAll_mk0
 ·exact RowKit.ok_one hrt rfl (RowKit.okWide_bool_mk hb true)
end
end Go.Av
end
section
open Go Go.Proofs
namespace Go.Av
open Go.Proofs.YtkahkcakggflaaaGreatDoor
theorem zw3 {H : Type} (d : DataW H) : 1 ≤ Rows.uptoBulk d := by
 cases d with
 | lit l => cases l <;> simp [Rows.uptoBulk]
 | _ => simp [Rows.uptoBulk]
theorem zkD {H : Type} {d : DataW H} {l : List (DataW H)} (h : d ∈ l) : Rows.uptoBulk d ≤ Rows.uptoBulkAll l := by
 induction l with
 | nil => cases h
 | cons x r ih =>
  simp only [Rows.uptoBulkAll]
  rcases List.mem_cons.1 h with e | e
  ·subst e; omega
  ·have := ih e; omega
theorem zqf {H : Type} (l : List (DataW H)) : l.length ≤ Rows.uptoBulkAll l := by
 induction l with
 | nil => simp [Rows.uptoBulkAll]
 | cons x r ih => have := zw3 x; simp only [Rows.uptoBulkAll, List.length_cons]; omega
theorem zl5.upto {B : Nat} : zl5 B (fun d => Rows.uptoBulk d) where
 len := fun l r h _ => by
  have := zqf l
  simp only [Rows.uptoBulk] at h; omega
 elem := fun l r d hd h => by
  have := zkD hd
  simp only [Rows.uptoBulk] at h; omega
 part := fun l d hd h => by
  have := zkD hd
  simp only [Rows.uptoBulk] at h; omega
 str := fun l h _ => by
  simp only [Rows.uptoBulk] at h; omega
theorem za1 {H : Type} {l : List (DataW H)} (hk : Rows.uptoSmall H l = true) {d : DataW H} (hd : d ∈ l) : Rows.uptoBulk d ≤ 1048576 := by
 have := zkD hd
 have h := of_decide_eq_true hk
 omega
end Go.Av
end
section
open Go Go.Proofs Go.Av
namespace Go.Av
open Go.Proofs.YtkahkcakggflaaaGreatDoor
abbrev UpB : {H : Type} → DataW H → Nat := fun d => Rows.uptoBulk d
abbrev G3T := Int × Int × Int × List (List Int) × List (List Int) × List Int × Unit
def zxl (x : G3T) : List AV := [.v (.int .u8 x.1)] ++ ([.v (.int .u8 x.2.1)] ++ ([.v (.int .u8 x.2.2.1)] ++ ((x.2.2.2.1.map fun l => [AV.lst 1 (l.map fun n => [.v (.int .u8 n)])]).flatten ++
 ([AV.lst 3 (x.2.2.2.2.1.map fun l => (l.map fun n => [AV.v (.int .u8 n)]).flatten)] ++ ((x.2.2.2.2.2.1.map fun n => [AV.v (.int .u8 n)]).flatten ++ [])))))
abbrev U8W (n : Int) : Prop := (Lit.int .u8 n).wf = true
theorem zfK : Opn Tryz.prog 1048576 UpB 5 (fun n : Int => [.v (.int .u8 n)]) U8W := Opn.int Tryz.underlying5 (by kernel_rfl)
theorem zuT : Opn Tryz.prog 1048576 UpB 22 (fun l : List Int => [.lst 1 (l.map fun n => [.v (.int .u8 n)])]) (fun l => l.length ≤ 1048576 ∧ ∀ x ∈ l, U8W x) :=
 Opn.slice (sz := 1) zl5.upto Tryz.underlying22 (by kernel_rfl) (by kernel_rfl) Nat.one_pos zfK
theorem zuS : Opn Tryz.prog 1048576 UpB 27 zcz (fun x => zjc x ∧ x.k0.length ≤ 1048576 ∧ x.k1.length ≤ 1048576 ∧ x.c.length ≤ 1048576) := by
 have hK : Opn Tryz.prog 1048576 UpB 23 (fun l : List (List Int) => (l.map fun l => [AV.lst 1 (l.map fun n => [.v (.int .u8 n)])]).flatten) (fun l => l.length = 2 ∧ ∀ x ∈ l, x.length ≤ 1048576 ∧ ∀ y ∈ x, U8W y) :=
  Opn.array (sz := 1) (n := 2) zl5.upto Tryz.underlying23 (by kernel_rfl) (by kernel_rfl) zuT
 have h3 : Opn Tryz.prog 1048576 UpB 85 (fun l : List Int => (l.map fun n => [AV.v (.int .u8 n)]).flatten) (fun l => l.length = 3 ∧ ∀ x ∈ l, U8W x) :=
  Opn.array (sz := 1) (n := 3) zl5.upto Tryz.underlying85 (by kernel_rfl) (by kernel_rfl) zfK
 have hC : Opn Tryz.prog 1048576 UpB 24 (fun l : List (List Int) => [.lst 3 (l.map fun l => (l.map fun n => [AV.v (.int .u8 n)]).flatten)]) (fun l => l.length ≤ 1048576 ∧ ∀ x ∈ l, x.length = 3 ∧ ∀ y ∈ x, U8W y) :=
  Opn.slice (sz := 3) zl5.upto Tryz.underlying24 (by kernel_rfl) (by kernel_rfl) (by decide) h3
 have hFF : Opn Tryz.prog 1048576 UpB 25 (fun l : List Int => (l.map fun n => [AV.v (.int .u8 n)]).flatten) (fun l => l.length = 6 ∧ ∀ x ∈ l, U8W x) :=
  Opn.array (sz := 1) (n := 6) zl5.upto Tryz.underlying25 (by kernel_rfl) (by kernel_rfl) zfK
 have hF : zia Tryz.prog 1048576 UpB [5, 5, 5, 23, 24, 25] zxl (fun x => U8W x.1 ∧ U8W x.2.1 ∧ U8W x.2.2.1 ∧ (x.2.2.2.1.length = 2 ∧ ∀ z ∈ x.2.2.2.1, z.length ≤ 1048576 ∧ ∀ y ∈ z, U8W y) ∧
   (x.2.2.2.2.1.length ≤ 1048576 ∧ ∀ z ∈ x.2.2.2.2.1, z.length = 3 ∧ ∀ y ∈ z, U8W y) ∧ (x.2.2.2.2.2.1.length = 6 ∧ ∀ y ∈ x.2.2.2.2.2.1, U8W y) ∧ True) :=
  zia.cons zfK (zia.cons zfK (zia.cons zfK (zia.cons hK (zia.cons hC (zia.cons hFF zia.nil)))))
 have hT : Opn Tryz.prog 1048576 UpB 27 zxl (fun x => U8W x.1 ∧ U8W x.2.1 ∧ U8W x.2.2.1 ∧ (x.2.2.2.1.length = 2 ∧ ∀ z ∈ x.2.2.2.1, z.length ≤ 1048576 ∧ ∀ y ∈ z, U8W y) ∧
   (x.2.2.2.2.1.length ≤ 1048576 ∧ ∀ z ∈ x.2.2.2.2.1, z.length = 3 ∧ ∀ y ∈ z, U8W y) ∧ (x.2.2.2.2.2.1.length = 6 ∧ ∀ y ∈ x.2.2.2.2.2.1, U8W y) ∧ True) := Opn.struct zl5.upto (by kernel_rfl) hF
 intro H enc w fuel cs d ps k1 k2
 obtain ⟨x, r1, r2, r3, hx⟩ := hT enc w fuel cs d ps k1 k2
 obtain ⟨W, Hh, cut, K, C, F, ⟨⟩⟩ := x
 obtain ⟨h1, h2, h3', ⟨h4, h4'⟩, ⟨h5, h5'⟩, ⟨h6, h6'⟩, _⟩ := hx
 simp only at h1 h2 h3' h4 h4' h5 h5' h6 h6'
 match K, h4 with
 | [ka, kb], _ =>
  match F, h6 with
  | [f0, f1, f2, f3, f4, f5], _ =>
   have hCl : ∀ (C : List (List Int)), (∀ z ∈ C, z.length = 3) → (C.map fun l => (nth l 0, nth l 1, nth l 2)).map zt3 = C.map fun l => (l.map fun n => [AV.v (.int .u8 n)]).flatten := by
    intro C hC
    rw [List.map_map]
    refine List.map_congr_left fun l hl => ?_
    have := hC l hl
    match l, this with
    | [a, b, c], _ => rfl
   refine ⟨⟨W, Hh, cut, ka, kb, C.map fun l => (nth l 0, nth l 1, nth l 2), f0, f1, f2, f3, f4, f5⟩, ?_, r2, r3, ⟨bounds_u8 h1, bounds_u8 h2, bounds_u8 h3', fun n hn => bounds_u8 ((h4' ka (by simp)).2 n hn), fun n hn => bounds_u8 ((h4' kb (by simp)).2 n hn), ?_,
    bounds_u8 (h6' f0 (by simp)), bounds_u8 (h6' f1 (by simp)), bounds_u8 (h6' f2 (by simp)), bounds_u8 (h6' f3 (by simp)), bounds_u8 (h6' f4 (by simp)), bounds_u8 (h6' f5 (by simp))⟩, (h4' ka (by simp)).1, (h4' kb (by simp)).1, by simpa using h5⟩
   ·unfold zcz
    simp only
    rw [hCl C (fun z hz => (h5' z hz).1)]
    exact r1
   ·intro t ht
    obtain ⟨z, hz, rfl⟩ := List.mem_map.1 ht
    obtain ⟨q1, q2⟩ := h5' z hz
    match z, q1 with
    | [a, b, c], _ => exact ⟨bounds_u8 (q2 a (by simp)), bounds_u8 (q2 b (by simp)), bounds_u8 (q2 c (by simp))⟩
end Go.Av
end
