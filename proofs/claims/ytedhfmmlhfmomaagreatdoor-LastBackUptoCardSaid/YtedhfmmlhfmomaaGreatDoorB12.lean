/- Texts of ours, part 12: our library and contracts of functions. -/
import Derived.Test.YtedhfmmlhfmomaaGreatDoorB11
set_option linter.unusedSimpArgs false
set_option linter.unusedVariables false
set_option maxRecDepth 100000
set_option maxHeartbeats 40000000
section
open Go Go.Proofs
namespace Go.Av
theorem zdR (g : zad) (hg : GOk g) (s : zag) (hs : POk g s) (p : zag) (hp : zaK p) (n : Int) :
  zaP Tryz.prog 46 [.agg (zae g), .agg (zac s), .agg (zac p), .v (.int .i64 n)] (zaY (zeU g s p n)) := by
 refine pF Tryz.func46 ?_
 have hG := ztS g hg s hs p hp n
 generalize zeU g s p n = x at *
 unfold zaY
 repeat first|refine wV fun _=>?_|simp [go_sem]
 refine zAD hG (by simp [go_sem]) ?_
 repeat first|refine wV fun _=>?_|simp [go_sem]
theorem zc9 (g : zad) (hg : GOk g) (s : zag) (hs : POk g s) (p : zag) (hp : zaK p) (n : Int) :
  zaP Tryz.prog 98 [.agg (zae g), .agg (zac s), .agg (zac p), .v (.int .i64 n)] (za8 (zc4 g s p n)) := by
 refine pF Tryz.func98 ?_
 have hG := zpk g hg s hs p hp n
 generalize zc4 g s p n = x at *
 unfold za8
 repeat first|refine wV fun _=>?_|simp [go_sem]
 refine zAD hG (by simp [go_sem]) ?_
 repeat first|refine wV fun _=>?_|simp [go_sem]
theorem zoI (g : zad) (hg : GOk g) (s : zag) (hs : POk g s) (p : zag) : zaP Tryz.prog 45 [.agg (zmn g s p)] (.v (.bool (zdF (zba g s 250)))) := by
 refine pF Tryz.func45 ?_
 have hG := ztQ g hg s hs 250
 unfold ziZ at hG
 generalize zdF (zba g s 250) = f at *
 generalize (zba g s 250).map (·.1) = L at *
 repeat first|refine wV fun _=>?_|simp [go_sem]
 refine zAD hG (by simp [go_sem]) ?_
 repeat first|refine wV fun _=>?_|simp [go_sem]
def zcd (a b c r side : Int) : zag := ⟨[a, b, c], [0], [0], r, side⟩
theorem zgq (a b c r side : Int) : zaP Tryz.prog 95 [.v (.int .i64 a), .v (.int .i64 b), .v (.int .i64 c), .v (.int .i64 r), .v (.int .i64 side)] (.agg (zac (zcd a b c r side))) := by
 refine pF Tryz.func95 ?_
 repeat first|refine wV fun _=>?_|simp [go_sem]
 simp only [zcd, List.map_cons, List.map_nil, zbB]
 (repeat' apply And.intro) <;> first | exact LeV.refl _ | exact zaB rfl (by simp) (by simp [noH, upd]) (by simp)
def zay : zad := ⟨3, [[1, 2, -1], [-1, 0, 1]], [1, 0], [⟨⟨⟨[97]⟩⟩, [[(1, 0)], [(10, 0), (1, 0)]], false⟩], 1, false, [], 3, 2⟩
theorem zq8 : zeZ zay [0] := ⟨rfl, fun i hi => by
 obtain rfl : i = 0 := by simpa using hi
 exact ⟨by decide, by decide, by decide⟩⟩
theorem zmc (a b c r side : Int) (ha : 0 ≤ a ∧ a ≤ 2) (hb : 0 ≤ b ∧ b ≤ 2) (hc : 0 ≤ c ∧ c ≤ 2) (hr : 0 ≤ r ∧ r ≤ 1) (hs : side = 0 ∨ side = 1) : POk zay (zcd a b c r side) :=
 ⟨rfl, by
  intro x hx
  simp only [zcd, List.mem_cons, List.not_mem_nil, or_false] at hx
  have : (zay.kinds.length : Int) = 1 := rfl
  rcases hx with rfl | rfl | rfl <;> omega, zq8, zq8, hr.1, by simp only [zcd, zay]; simp; omega, hs⟩
theorem zbO : GOk zay := by
 refine ⟨?_, by decide, by decide, by decide, by decide, ?_, by decide, by decide, ?_, ?_, by decide, by decide, ?_, by decide, by decide, by decide⟩
 ·refine ⟨?_, ?_, ?_, ?_, ?_, ?_, ?_⟩ <;> first | decide | skip
 ·intro d hd
  have : d = 0 ∨ d = 1 := by
   have : zay.turn.length = 2 := rfl
   omega
  rcases this with rfl | rfl <;> decide
 ·intro k hk
  simp only [zay, List.mem_singleton] at hk
  subst hk
  decide
 ·intro k hk q hq
  simp only [zay, List.mem_singleton] at hk
  subst hk
  simp only [List.mem_cons, List.not_mem_nil, or_false] at hq
  rcases hq with rfl | rfl
  ·refine ⟨by decide, by decide, fun x hx => ?_, by decide, by decide, by decide⟩
   simp only [List.mem_cons, List.not_mem_nil, or_false] at hx
   rcases hx with rfl <;> exact ⟨by decide, by decide, by decide, by decide, by decide⟩
  ·refine ⟨by decide, by decide, fun x hx => ?_, by decide, by decide, by decide⟩
   simp only [List.mem_cons, List.not_mem_nil, or_false] at hx
   rcases hx with rfl | rfl <;> exact ⟨by decide, by decide, by decide, by decide, by decide⟩
 ·intro c hc
  simp [zay] at hc
theorem zAd : zaC zay (zcd 1 0 2 1 0) = [zcd 0 1 2 0 1, zcd 0 1 2 1 1] := by
 have e : zaC zay (zcd 1 0 2 1 0) = zaU za7 (zcV zay (zcd 1 0 2 1 0)) := by
  unfold zaC
  rw [if_neg (by decide)]
 have e2 : zcV zay (zcd 1 0 2 1 0) = [zcd 0 1 2 1 1, zcd 0 1 2 0 1] := by kernel_rfl
 rw [e, e2]
 exact zbo zaM (by decide) fun x => by simp only [List.mem_cons, List.not_mem_nil, or_false]; exact or_comm
theorem zvK : zaC zay (zcd 0 1 2 0 1) = [] := by kernel_rfl
theorem zvL : zaC zay (zcd 0 1 2 1 1) = [] := by kernel_rfl
theorem zvN : zbw zay [zcd 1 0 2 1 0] [zcd 1 0 2 1 0] = [zcd 0 1 2 0 1, zcd 0 1 2 1 1] := by
 unfold zbw
 rw [List.flatMap_cons, List.flatMap_nil, List.append_nil, zAd]
 decide
theorem zx7 : zbw zay [zcd 1 0 2 1 0, zcd 0 1 2 0 1, zcd 0 1 2 1 1] [zcd 0 1 2 0 1, zcd 0 1 2 1 1] = [] := by
 unfold zbw
 rw [List.flatMap_cons, List.flatMap_cons, List.flatMap_nil, zvK, zvL]
 rfl
theorem zwl : zaU za7 [zcd 0 1 2 0 1, zcd 0 1 2 1 1] = [zcd 0 1 2 0 1, zcd 0 1 2 1 1] := zbo zaM (by decide) fun x => Iff.rfl
theorem zoG : zba zay (zcd 1 0 2 1 0) 50 = [([zcd 1 0 2 1 0], false), ([zcd 0 1 2 0 1, zcd 0 1 2 1 1], true)] := by
 have e : zba zay (zcd 1 0 2 1 0) 50 = za9 zay 50 (50 + 1 + 1) [zcd 1 0 2 1 0] [zcd 1 0 2 1 0] := rfl
 rw [e, za9, if_neg (by decide), zvN, if_neg (by simp), zwl, List.singleton_append, za9, if_neg (by decide), if_pos zx7]
theorem zto : zba zay (zcd 1 0 2 1 0) 2 = [([zcd 1 0 2 1 0], false), ([zcd 0 1 2 0 1, zcd 0 1 2 1 1], false)] := by
 have e : zba zay (zcd 1 0 2 1 0) 2 = za9 zay 2 (2 + 1 + 1) [zcd 1 0 2 1 0] [zcd 1 0 2 1 0] := rfl
 rw [e, za9, if_neg (by decide), zvN, if_neg (by simp), zwl, List.singleton_append, za9, if_pos (by decide)]
theorem zjR : zcs zay (zcd 1 0 2 1 0) 50 = [zcd 0 1 2 0 1, zcd 0 1 2 1 1, zcd 1 0 2 1 0] := by
 unfold zcs
 rw [zoG]
 refine zbo zaM (by decide) fun x => ?_
 simp only [zex, List.flatMap_cons, List.flatMap_nil, List.append_nil, List.singleton_append, List.mem_cons, List.not_mem_nil, or_false]
 constructor
 ·rintro (h | h | h)
  ·exact .inr (.inr h)
  ·exact .inl h
  ·exact .inr (.inl h)
 ·rintro (h | h | h)
  ·exact .inr (.inl h)
  ·exact .inr (.inr h)
  ·exact .inl h
theorem zje : zdF (zba zay (zcd 1 0 2 1 0) 50) = true := by rw [zoG]; rfl
theorem zq7 : zdF (zba zay (zcd 1 0 2 1 0) 2) = false := by rw [zto]; rfl
theorem zxS : zeU zay (zcd 1 0 2 1 0) (zcd 0 1 2 1 1) 50 = ([zcd 1 0 2 1 0], 0) := by
 unfold zeU
 rw [zje, zjR, if_neg (by decide), if_pos (by decide)]
 simp only [List.filter_cons, List.filter_nil, zAd, zvK, zvL]
 decide
theorem zxT : zeU zay (zcd 1 0 2 1 0) (zcd 1 0 2 1 0) 50 = ([], 0) := by
 unfold zeU
 rw [zje, zjR, if_neg (by decide), if_pos (by decide)]
 simp only [List.filter_cons, List.filter_nil, zAd, zvK, zvL]
 decide
theorem zxU : zeU zay (zcd 1 0 2 1 0) (zcd 1 0 2 1 0) 2 = ([], 2) := by
 unfold zeU
 rw [zq7, if_pos rfl]
theorem zwa : zc4 zay (zcd 1 0 2 1 0) (zcd 0 1 2 0 1) 50 = ([2], 0) := by
 unfold zc4 zkN
 rw [zje, zjR]
 kernel_rfl
theorem zwb : zc4 zay (zcd 1 0 2 1 0) (zcd 1 0 2 1 0) 50 = ([1], 0) := by
 unfold zc4 zkN
 rw [zje, zjR]
 kernel_rfl
theorem zwc : zc4 zay (zcd 1 0 2 1 0) (zcd 1 0 2 1 1) 50 = ([], 270) := by
 unfold zc4 zkN
 rw [zje, zjR]
 kernel_rfl
theorem zwd : zc4 zay (zcd 1 0 2 1 0) (zcd 1 0 2 1 0) 2 = ([], 2) := by
 unfold zc4
 rw [zq7, if_pos rfl]
theorem zmP : zaP Tryz.prog 43 [] (.v (.bool true)) := by
 have ka := zmc 1 0 2 1 0 (by omega) (by omega) (by omega) (by omega) (.inl rfl)
 have kb := zmc 0 1 2 1 1 (by omega) (by omega) (by omega) (by omega) (.inr rfl)
 have kc := zmc 0 1 2 0 1 (by omega) (by omega) (by omega) (by omega) (.inr rfl)
 have kd := zmc 1 0 2 1 1 (by omega) (by omega) (by omega) (by omega) (.inr rfl)
 have fa := ka.fits zbO
 have fb := kb.fits zbO
 have fc := kc.fits zbO
 have fd := kd.fits zbO
 have hA := zgq 1 0 2 1 0
 have hB := zgq 0 1 2 1 1
 have hC := zgq 0 1 2 0 1
 have hD := zgq 1 0 2 1 1
 have g1 := zdR zay zbO _ ka _ fb 50
 have g2 := zdR zay zbO _ ka _ fa 50
 have g3 := zdR zay zbO _ ka _ fa 2
 have c1 := zc9 zay zbO _ ka _ fc 50
 have c2 := zc9 zay zbO _ ka _ fa 50
 have c3 := zc9 zay zbO _ ka _ fd 50
 have c4 := zc9 zay zbO _ ka _ fa 2
 rw [zxS] at g1
 rw [zxT] at g2
 rw [zxU] at g3
 rw [zwa] at c1
 rw [zwb] at c2
 rw [zwc] at c3
 rw [zwd] at c4
 have q1 := ziC ([zcd 1 0 2 1 0], 0) ([zcd 1 0 2 1 0], 0) (by simp) (by simp) (by simp [fa]) (by simp [fa])
 have q2 := ziC ([], 0) ([], 0) (by simp) (by simp) (by simp) (by simp)
 have q3 := zeN ([2], 0) ([2], 0) (by simp) (by simp)
 have q4 := zeN ([1], 0) ([1], 0) (by simp) (by simp)
 rw [decide_eq_true rfl] at q1 q2 q3 q4
 generalize zcd 1 0 2 1 0 = a at *
 generalize zcd 0 1 2 1 1 = b at *
 generalize zcd 0 1 2 0 1 = c at *
 generalize zcd 1 0 2 1 1 = d at *
 clear ka kb kc kd fa fb fc fd
 refine pF Tryz.func43 ?_
 repeat first|refine wV fun _=>?_|simp [go_sem]
 refine zAD hA (by simp [go_sem]) ?_
 (repeat (first|with_reducible (first|refine wL fun _=>?_|refine wD fun _=>?_|refine wE ?_)|simp [go_sem, zaY, za8]))
 refine znm.frz (zbt _ [0, 1, 2, 3, 5, 6, 7, 8]) (zcw _ _) ?_
 repeat first|refine wV fun _=>?_|simp [go_sem, zaY, za8]
 refine zAF hB (by simp [go_sem]) ?_
 repeat first|refine wV fun _=>?_|simp [go_sem, zaY, za8]
 refine zaw.frz [.agg (zae zay), .agg (zac a), .agg (zac b), .v (.int .i64 50)] _ [0, 1, 2, 3, 5, 6, 7, 8] [] g1 (by simp) ?_ (by simp [go_sem]) ?_
 ·intro h₁ hS
  have h0 := (hS 0 (by simp)).symm
  have h1 := (hS 1 (by simp)).symm
  have h2 := (hS 2 (by simp)).symm
  have h3 := (hS 3 (by simp)).symm
  have h5 := (hS 5 (by simp)).symm
  have h6 := (hS 6 (by simp)).symm
  have h7 := (hS 7 (by simp)).symm
  have h8 := (hS 8 (by simp)).symm
  clear hS
  simp [upd, zbt, zbV] at h0 h1 h2 h3 h5 h6 h7 h8
  simp only [zay, zae, zbY, zap, zaV, zax, zaO, zbB, List.map_cons, List.map_nil]
  ((try simp only [zax, zaO, zbf, zcp, zaH, zcB, zaF, zal, zac, zcS, zbb, zaI, zap, zae, List.map_cons, List.map_nil, List.nil_append, List.append_nil, List.cons_append]); (repeat (first | (with_reducible first|exact zan.nil|exact zam.nil|exact LeV.refl _|exact zan.refl _ _ _ _|exact zam.refl _|refine zan.cons ?_ ?_|refine zam.cons ?_ ?_|refine LeV.agg ?_|refine LeV.tup ?_|refine LeV.fn ?_ ?_|exact LeV.nil _|refine zar (zam.refl _) ?_) | ((refine zaB (by first | rfl | assumption) (by simp [h0, h1, h2, h3, h5, h6, h7, h8]) (by simp [zbt, zbV, upd, noH, zai, h0, h1, h2, h3, h5, h6, h7, h8]) ?_); (first | (simp [go_sem, h0, h1, h2, h3, h5, h6, h7, h8]; done) | (simp [go_sem, h0, h1, h2, h3, h5, h6, h7, h8]; exact List.take_of_length_le (by simp [h0, h1, h2, h3, h5, h6, h7, h8])))) | ((refine LeV.frz (by first | rfl | assumption) (by simp [h0, h1, h2, h3, h5, h6, h7, h8]) (by simp [zbt, zbV, upd, noH, zai, h0, h1, h2, h3, h5, h6, h7, h8]) ?_); (simp only [List.drop_zero, List.take_succ_cons, List.take_zero, List.map_cons, List.map_nil])) | ((refine LeV.frzP (by first | rfl | assumption) (by simp [h0, h1, h2, h3, h5, h6, h7, h8]) (by simp) (by simp [zbt, zbV, upd, noH, zai, h0, h1, h2, h3, h5, h6, h7, h8]) ?_); (simp only [zbg, List.drop_zero])))))
 repeat first|refine wV fun _=>?_|simp [go_sem, zaY, za8]
 refine zA6 [zaY ([a], 0), zaY ([a], 0)] (.v (.bool true)) [16] q1 (.v _) ?_ (by simp [go_sem, zaY]) ?_
 ·intro h₁ hS
  have h16 := (hS 16 (by simp)).symm
  clear hS
  simp [upd, zbt, zbV] at h16
  simp only [zaY]
  ((try simp only [zax, zaO, zbf, zcp, zaH, zcB, zaF, zal, zac, zcS, zbb, zaI, zap, zae, List.map_cons, List.map_nil, List.nil_append, List.append_nil, List.cons_append]); (repeat (first | (with_reducible first|exact zan.nil|exact zam.nil|exact LeV.refl _|exact zan.refl _ _ _ _|exact zam.refl _|refine zan.cons ?_ ?_|refine zam.cons ?_ ?_|refine LeV.agg ?_|refine LeV.tup ?_|refine LeV.fn ?_ ?_|exact LeV.nil _|refine zar (zam.refl _) ?_) | ((refine zaB (by first | rfl | assumption) (by simp [h16]) (by simp [zbt, zbV, upd, noH, zai, h16]) ?_); (first | (simp [go_sem, h16]; done) | (simp [go_sem, h16]; exact List.take_of_length_le (by simp [h16])))) | ((refine LeV.frz (by first | rfl | assumption) (by simp [h16]) (by simp [zbt, zbV, upd, noH, zai, h16]) ?_); (simp only [List.drop_zero, List.take_succ_cons, List.take_zero, List.map_cons, List.map_nil])) | ((refine LeV.frzP (by first | rfl | assumption) (by simp [h16]) (by simp) (by simp [zbt, zbV, upd, noH, zai, h16]) ?_); (simp only [zbg, List.drop_zero])))))
 repeat first|refine wV fun _=>?_|simp [go_sem, zaY, za8]
 refine zAL [] g2 ?_ (by simp [go_sem]) ?_
 ·simp only [zay, zae, zbY, zap, zaV, zax, zaO, zbB, List.map_cons, List.map_nil]
  (first|done|exact leX)
 repeat first|refine wV fun _=>?_|simp [go_sem, zaY, za8]
 refine zAL [] q2 ?_ (by simp [go_sem, zaY]) ?_
 ·simp only [zaY]
  (first|done|exact leX)
 repeat first|refine wV fun _=>?_|simp [go_sem, zaY, za8]
 refine zAF hC (by simp [go_sem]) ?_
 repeat first|refine wV fun _=>?_|simp [go_sem, zaY, za8]
 refine zaw.frz [.agg (zae zay), .agg (zac a), .agg (zac c), .v (.int .i64 50)] _ [0, 1, 2, 3, 5, 6, 7, 8] [] c1 (by simp) ?_ (by simp [go_sem]) ?_
 ·intro h₁ hS
  have h0 := (hS 0 (by simp)).symm
  have h1 := (hS 1 (by simp)).symm
  have h2 := (hS 2 (by simp)).symm
  have h3 := (hS 3 (by simp)).symm
  have h5 := (hS 5 (by simp)).symm
  have h6 := (hS 6 (by simp)).symm
  have h7 := (hS 7 (by simp)).symm
  have h8 := (hS 8 (by simp)).symm
  clear hS
  simp [upd, zbt, zbV] at h0 h1 h2 h3 h5 h6 h7 h8
  simp only [zay, zae, zbY, zap, zaV, zax, zaO, zbB, List.map_cons, List.map_nil]
  ((try simp only [zax, zaO, zbf, zcp, zaH, zcB, zaF, zal, zac, zcS, zbb, zaI, zap, zae, List.map_cons, List.map_nil, List.nil_append, List.append_nil, List.cons_append]); (repeat (first | (with_reducible first|exact zan.nil|exact zam.nil|exact LeV.refl _|exact zan.refl _ _ _ _|exact zam.refl _|refine zan.cons ?_ ?_|refine zam.cons ?_ ?_|refine LeV.agg ?_|refine LeV.tup ?_|refine LeV.fn ?_ ?_|exact LeV.nil _|refine zar (zam.refl _) ?_) | ((refine zaB (by first | rfl | assumption) (by simp [h0, h1, h2, h3, h5, h6, h7, h8]) (by simp [zbt, zbV, upd, noH, zai, h0, h1, h2, h3, h5, h6, h7, h8]) ?_); (first | (simp [go_sem, h0, h1, h2, h3, h5, h6, h7, h8]; done) | (simp [go_sem, h0, h1, h2, h3, h5, h6, h7, h8]; exact List.take_of_length_le (by simp [h0, h1, h2, h3, h5, h6, h7, h8])))) | ((refine LeV.frz (by first | rfl | assumption) (by simp [h0, h1, h2, h3, h5, h6, h7, h8]) (by simp [zbt, zbV, upd, noH, zai, h0, h1, h2, h3, h5, h6, h7, h8]) ?_); (simp only [List.drop_zero, List.take_succ_cons, List.take_zero, List.map_cons, List.map_nil])) | ((refine LeV.frzP (by first | rfl | assumption) (by simp [h0, h1, h2, h3, h5, h6, h7, h8]) (by simp) (by simp [zbt, zbV, upd, noH, zai, h0, h1, h2, h3, h5, h6, h7, h8]) ?_); (simp only [zbg, List.drop_zero])))))
 repeat first|refine wV fun _=>?_|simp [go_sem, zaY, za8]
 refine zA6 [za8 ([2], 0), za8 ([2], 0)] (.v (.bool true)) [24] q3 (.v _) ?_ (by simp [go_sem, za8]) ?_
 ·intro h₁ hS
  have h24 := (hS 24 (by simp)).symm
  clear hS
  simp [upd, zbt, zbV] at h24
  simp only [za8, zap, zbB, List.map_cons, List.map_nil]
  ((try simp only [zax, zaO, zbf, zcp, zaH, zcB, zaF, zal, zac, zcS, zbb, zaI, zap, zae, List.map_cons, List.map_nil, List.nil_append, List.append_nil, List.cons_append]); (repeat (first | (with_reducible first|exact zan.nil|exact zam.nil|exact LeV.refl _|exact zan.refl _ _ _ _|exact zam.refl _|refine zan.cons ?_ ?_|refine zam.cons ?_ ?_|refine LeV.agg ?_|refine LeV.tup ?_|refine LeV.fn ?_ ?_|exact LeV.nil _|refine zar (zam.refl _) ?_) | ((refine zaB (by first | rfl | assumption) (by simp [h24]) (by simp [zbt, zbV, upd, noH, zai, h24]) ?_); (first | (simp [go_sem, h24]; done) | (simp [go_sem, h24]; exact List.take_of_length_le (by simp [h24])))) | ((refine LeV.frz (by first | rfl | assumption) (by simp [h24]) (by simp [zbt, zbV, upd, noH, zai, h24]) ?_); (simp only [List.drop_zero, List.take_succ_cons, List.take_zero, List.map_cons, List.map_nil])) | ((refine LeV.frzP (by first | rfl | assumption) (by simp [h24]) (by simp) (by simp [zbt, zbV, upd, noH, zai, h24]) ?_); (simp only [zbg, List.drop_zero])))))
 repeat first|refine wV fun _=>?_|simp [go_sem, zaY, za8]
 refine dGC.frz [.agg (zae zay), .agg (zac a), .agg (zac a), .v (.int .i64 50)] _ [0, 1, 2, 3, 5, 6, 7, 8] [] c2 (by simp) ?_ (by simp [go_sem]) ?_
 ·intro h₁ hS
  have h0 := (hS 0 (by simp)).symm
  have h1 := (hS 1 (by simp)).symm
  have h2 := (hS 2 (by simp)).symm
  have h3 := (hS 3 (by simp)).symm
  have h5 := (hS 5 (by simp)).symm
  have h6 := (hS 6 (by simp)).symm
  have h7 := (hS 7 (by simp)).symm
  have h8 := (hS 8 (by simp)).symm
  clear hS
  simp [upd, zbt, zbV] at h0 h1 h2 h3 h5 h6 h7 h8
  simp only [zay, zae, zbY, zap, zaV, zax, zaO, zbB, List.map_cons, List.map_nil]
  ((try simp only [zax, zaO, zbf, zcp, zaH, zcB, zaF, zal, zac, zcS, zbb, zaI, zap, zae, List.map_cons, List.map_nil, List.nil_append, List.append_nil, List.cons_append]); (repeat (first | (with_reducible first|exact zan.nil|exact zam.nil|exact LeV.refl _|exact zan.refl _ _ _ _|exact zam.refl _|refine zan.cons ?_ ?_|refine zam.cons ?_ ?_|refine LeV.agg ?_|refine LeV.tup ?_|refine LeV.fn ?_ ?_|exact LeV.nil _|refine zar (zam.refl _) ?_) | ((refine zaB (by first | rfl | assumption) (by simp [h0, h1, h2, h3, h5, h6, h7, h8]) (by simp [zbt, zbV, upd, noH, zai, h0, h1, h2, h3, h5, h6, h7, h8]) ?_); (first | (simp [go_sem, h0, h1, h2, h3, h5, h6, h7, h8]; done) | (simp [go_sem, h0, h1, h2, h3, h5, h6, h7, h8]; exact List.take_of_length_le (by simp [h0, h1, h2, h3, h5, h6, h7, h8])))) | ((refine LeV.frz (by first | rfl | assumption) (by simp [h0, h1, h2, h3, h5, h6, h7, h8]) (by simp [zbt, zbV, upd, noH, zai, h0, h1, h2, h3, h5, h6, h7, h8]) ?_); (simp only [List.drop_zero, List.take_succ_cons, List.take_zero, List.map_cons, List.map_nil])) | ((refine LeV.frzP (by first | rfl | assumption) (by simp [h0, h1, h2, h3, h5, h6, h7, h8]) (by simp) (by simp [zbt, zbV, upd, noH, zai, h0, h1, h2, h3, h5, h6, h7, h8]) ?_); (simp only [zbg, List.drop_zero])))))
 repeat first|refine wV fun _=>?_|simp [go_sem, zaY, za8]
 refine zBe [za8 ([1], 0), za8 ([1], 0)] (.v (.bool true)) [32] (fun _ => q4) (.v _) ?_ (by simp [go_sem, za8]) ?_
 ·intro h₁ hS
  have h32 := (hS 32 (by simp)).symm
  clear hS
  simp [upd, zbt, zbV] at h32
  simp only [za8, zap, zbB, List.map_cons, List.map_nil]
  ((try simp only [zax, zaO, zbf, zcp, zaH, zcB, zaF, zal, zac, zcS, zbb, zaI, zap, zae, List.map_cons, List.map_nil, List.nil_append, List.append_nil, List.cons_append]); (repeat (first | (with_reducible first|exact zan.nil|exact zam.nil|exact LeV.refl _|exact zan.refl _ _ _ _|exact zam.refl _|refine zan.cons ?_ ?_|refine zam.cons ?_ ?_|refine LeV.agg ?_|refine LeV.tup ?_|refine LeV.fn ?_ ?_|exact LeV.nil _|refine zar (zam.refl _) ?_) | ((refine zaB (by first | rfl | assumption) (by simp [h32]) (by simp [zbt, zbV, upd, noH, zai, h32]) ?_); (first | (simp [go_sem, h32]; done) | (simp [go_sem, h32]; exact List.take_of_length_le (by simp [h32])))) | ((refine LeV.frz (by first | rfl | assumption) (by simp [h32]) (by simp [zbt, zbV, upd, noH, zai, h32]) ?_); (simp only [List.drop_zero, List.take_succ_cons, List.take_zero, List.map_cons, List.map_nil])) | ((refine LeV.frzP (by first | rfl | assumption) (by simp [h32]) (by simp) (by simp [zbt, zbV, upd, noH, zai, h32]) ?_); (simp only [zbg, List.drop_zero])))))
 repeat first|refine wV fun _=>?_|simp [go_sem, zaY, za8]
 refine zAO _ (fun _ => hD) (by simp [go_sem]) ?_
 repeat first|refine wV fun _=>?_|simp [go_sem, zaY, za8]
 refine dGC.frz [.agg (zae zay), .agg (zac a), .agg (zac d), .v (.int .i64 50)] _ [0, 1, 2, 3, 5, 6, 7, 8] [] c3 (by simp) ?_ (by simp [go_sem]) ?_
 ·intro h₁ hS
  have h0 := (hS 0 (by simp)).symm
  have h1 := (hS 1 (by simp)).symm
  have h2 := (hS 2 (by simp)).symm
  have h3 := (hS 3 (by simp)).symm
  have h5 := (hS 5 (by simp)).symm
  have h6 := (hS 6 (by simp)).symm
  have h7 := (hS 7 (by simp)).symm
  have h8 := (hS 8 (by simp)).symm
  clear hS
  simp [upd, zbt, zbV] at h0 h1 h2 h3 h5 h6 h7 h8
  simp only [zay, zae, zbY, zap, zaV, zax, zaO, zbB, List.map_cons, List.map_nil]
  ((try simp only [zax, zaO, zbf, zcp, zaH, zcB, zaF, zal, zac, zcS, zbb, zaI, zap, zae, List.map_cons, List.map_nil, List.nil_append, List.append_nil, List.cons_append]); (repeat (first | (with_reducible first|exact zan.nil|exact zam.nil|exact LeV.refl _|exact zan.refl _ _ _ _|exact zam.refl _|refine zan.cons ?_ ?_|refine zam.cons ?_ ?_|refine LeV.agg ?_|refine LeV.tup ?_|refine LeV.fn ?_ ?_|exact LeV.nil _|refine zar (zam.refl _) ?_) | ((refine zaB (by first | rfl | assumption) (by simp [h0, h1, h2, h3, h5, h6, h7, h8]) (by simp [zbt, zbV, upd, noH, zai, h0, h1, h2, h3, h5, h6, h7, h8]) ?_); (first | (simp [go_sem, h0, h1, h2, h3, h5, h6, h7, h8]; done) | (simp [go_sem, h0, h1, h2, h3, h5, h6, h7, h8]; exact List.take_of_length_le (by simp [h0, h1, h2, h3, h5, h6, h7, h8])))) | ((refine LeV.frz (by first | rfl | assumption) (by simp [h0, h1, h2, h3, h5, h6, h7, h8]) (by simp [zbt, zbV, upd, noH, zai, h0, h1, h2, h3, h5, h6, h7, h8]) ?_); (simp only [List.drop_zero, List.take_succ_cons, List.take_zero, List.map_cons, List.map_nil])) | ((refine LeV.frzP (by first | rfl | assumption) (by simp [h0, h1, h2, h3, h5, h6, h7, h8]) (by simp) (by simp [zbt, zbV, upd, noH, zai, h0, h1, h2, h3, h5, h6, h7, h8]) ?_); (simp only [zbg, List.drop_zero])))))
 repeat first|refine wV fun _=>?_|simp [go_sem, zaY, za8]
 refine dGC.frz [.agg (zae zay), .agg (zac a), .agg (zac a), .v (.int .i64 2)] _ [0, 1, 2, 3, 5, 6, 7, 8] [] g3 (by simp) ?_ (by simp [go_sem]) ?_
 ·intro h₁ hS
  have h0 := (hS 0 (by simp)).symm
  have h1 := (hS 1 (by simp)).symm
  have h2 := (hS 2 (by simp)).symm
  have h3 := (hS 3 (by simp)).symm
  have h5 := (hS 5 (by simp)).symm
  have h6 := (hS 6 (by simp)).symm
  have h7 := (hS 7 (by simp)).symm
  have h8 := (hS 8 (by simp)).symm
  clear hS
  simp [upd, zbt, zbV] at h0 h1 h2 h3 h5 h6 h7 h8
  simp only [zay, zae, zbY, zap, zaV, zax, zaO, zbB, List.map_cons, List.map_nil]
  ((try simp only [zax, zaO, zbf, zcp, zaH, zcB, zaF, zal, zac, zcS, zbb, zaI, zap, zae, List.map_cons, List.map_nil, List.nil_append, List.append_nil, List.cons_append]); (repeat (first | (with_reducible first|exact zan.nil|exact zam.nil|exact LeV.refl _|exact zan.refl _ _ _ _|exact zam.refl _|refine zan.cons ?_ ?_|refine zam.cons ?_ ?_|refine LeV.agg ?_|refine LeV.tup ?_|refine LeV.fn ?_ ?_|exact LeV.nil _|refine zar (zam.refl _) ?_) | ((refine zaB (by first | rfl | assumption) (by simp [h0, h1, h2, h3, h5, h6, h7, h8]) (by simp [zbt, zbV, upd, noH, zai, h0, h1, h2, h3, h5, h6, h7, h8]) ?_); (first | (simp [go_sem, h0, h1, h2, h3, h5, h6, h7, h8]; done) | (simp [go_sem, h0, h1, h2, h3, h5, h6, h7, h8]; exact List.take_of_length_le (by simp [h0, h1, h2, h3, h5, h6, h7, h8])))) | ((refine LeV.frz (by first | rfl | assumption) (by simp [h0, h1, h2, h3, h5, h6, h7, h8]) (by simp [zbt, zbV, upd, noH, zai, h0, h1, h2, h3, h5, h6, h7, h8]) ?_); (simp only [List.drop_zero, List.take_succ_cons, List.take_zero, List.map_cons, List.map_nil])) | ((refine LeV.frzP (by first | rfl | assumption) (by simp [h0, h1, h2, h3, h5, h6, h7, h8]) (by simp) (by simp [zbt, zbV, upd, noH, zai, h0, h1, h2, h3, h5, h6, h7, h8]) ?_); (simp only [zbg, List.drop_zero])))))
 repeat first|refine wV fun _=>?_|simp [go_sem, zaY, za8]
 refine dGC.frz [.agg (zae zay), .agg (zac a), .agg (zac a), .v (.int .i64 2)] _ [0, 1, 2, 3, 5, 6, 7, 8] [] c4 (by simp) ?_ (by simp [go_sem]) ?_
 ·intro h₁ hS
  have h0 := (hS 0 (by simp)).symm
  have h1 := (hS 1 (by simp)).symm
  have h2 := (hS 2 (by simp)).symm
  have h3 := (hS 3 (by simp)).symm
  have h5 := (hS 5 (by simp)).symm
  have h6 := (hS 6 (by simp)).symm
  have h7 := (hS 7 (by simp)).symm
  have h8 := (hS 8 (by simp)).symm
  clear hS
  simp [upd, zbt, zbV] at h0 h1 h2 h3 h5 h6 h7 h8
  simp only [zay, zae, zbY, zap, zaV, zax, zaO, zbB, List.map_cons, List.map_nil]
  ((try simp only [zax, zaO, zbf, zcp, zaH, zcB, zaF, zal, zac, zcS, zbb, zaI, zap, zae, List.map_cons, List.map_nil, List.nil_append, List.append_nil, List.cons_append]); (repeat (first | (with_reducible first|exact zan.nil|exact zam.nil|exact LeV.refl _|exact zan.refl _ _ _ _|exact zam.refl _|refine zan.cons ?_ ?_|refine zam.cons ?_ ?_|refine LeV.agg ?_|refine LeV.tup ?_|refine LeV.fn ?_ ?_|exact LeV.nil _|refine zar (zam.refl _) ?_) | ((refine zaB (by first | rfl | assumption) (by simp [h0, h1, h2, h3, h5, h6, h7, h8]) (by simp [zbt, zbV, upd, noH, zai, h0, h1, h2, h3, h5, h6, h7, h8]) ?_); (first | (simp [go_sem, h0, h1, h2, h3, h5, h6, h7, h8]; done) | (simp [go_sem, h0, h1, h2, h3, h5, h6, h7, h8]; exact List.take_of_length_le (by simp [h0, h1, h2, h3, h5, h6, h7, h8])))) | ((refine LeV.frz (by first | rfl | assumption) (by simp [h0, h1, h2, h3, h5, h6, h7, h8]) (by simp [zbt, zbV, upd, noH, zai, h0, h1, h2, h3, h5, h6, h7, h8]) ?_); (simp only [List.drop_zero, List.take_succ_cons, List.take_zero, List.map_cons, List.map_nil])) | ((refine LeV.frzP (by first | rfl | assumption) (by simp [h0, h1, h2, h3, h5, h6, h7, h8]) (by simp) (by simp [zbt, zbV, upd, noH, zai, h0, h1, h2, h3, h5, h6, h7, h8]) ?_); (simp only [zbg, List.drop_zero])))))
 repeat first|refine wV fun _=>?_|simp [go_sem, zaY, za8]
theorem zfq (p : zag) (side : Int) (l : List Int) : (p.withHand side l).at_ = p.at_ := by
 unfold zag.withHand
 split <;> rfl
theorem zyS {g : zad} (hg : GOk g) {side : Int} (hs : side = 0 ∨ side = 1) {t : TkD} (ht : POk g t.p) {x : zdk} (hx : zeX g.cells g.kinds.length g.rights x) (h : (doA g side t x).2 = true) : POk g (doA g side t x).1.p := by
 obtain ⟨op, a, b⟩ := x
 unfold zeX at hx
 simp only at hx
 rcases (show op = 3 ∨ op = 4 ∨ op = 5 ∨ op = 6 ∨ op = 7 ∨ op = 8 ∨ op = 9 ∨ op = 10 by omega) with rfl | rfl | rfl | rfl | rfl | rfl | rfl | rfl
 ·exact ht
 ·exact ht
 ·exact ht
 ·have hat := ht.at (i := a.toNat) (by omega)
  have hman := zaR hat.1 hat.2 hg.k6
  have hdo : doA g side t (6, a, b) = zj2 g side t a := rfl
  rw [hdo] at h ⊢
  unfold zj2 at h ⊢
  simp only at h ⊢
  split
  ·exact ht
  ·rename_i hm
   rw [if_neg hm] at h
   split
   ·rename_i hk
    rw [if_pos hk] at h
    simp only [decide_eq_true_eq] at h
    have hk1 : (zak (nth t.p.at_ a.toNat)).1.toNat < g.kinds.length := by
     rcases hman with ⟨_, e⟩ | ⟨_, e1, e2, _⟩
     ·rw [e] at hm
      simp at hm
      omega
     ·omega
    have hh := ht.hand side
    have hv := hh.v _ (show (zak (nth t.p.at_ a.toNat)).1.toNat < (t.p.hand side).length by rw [hh.len]; exact hk1)
    exact (ht.clr a).withHand side (hh.set _ ⟨by omega, h⟩ (fun _ => hk))
   ·exact ht.clr a
 ·have hdo : doA g side t (7, a, b) = zjI t a b := rfl
  rw [hdo]
  unfold zjI
  split
  ·exact ht
  ·have hat := ht.at (i := a.toNat) (by omega)
   exact (ht.setAt b.toNat hat).setAt a.toNat ⟨by omega, by omega⟩
 ·exact ht
 ·exact ht
 ·have h0 := ht.r0
  have h1 := ht.r1
  have hr : (2 : Int) ^ g.rights.toNat ≤ 16 := by
   have r0 := hg.r0
   have r4 := hg.r4
   rcases (show g.rights.toNat = 0 ∨ g.rights.toNat = 1 ∨ g.rights.toNat = 2 ∨ g.rights.toNat = 3 ∨ g.rights.toNat = 4 by omega) with e | e | e | e | e <;> rw [e] <;> decide
  have r4 := hg.r4
  have hn := znq h0 (show t.p.rights < 16 by omega) (show a.toNat < 4 by omega)
  exact ⟨ht.al, ht.av, ht.h0, ht.h1, hn.1, by simp only [doA]; exact Int.lt_of_le_of_lt hn.2 h1, ht.s⟩
theorem zuX {g : zad} (hg : GOk g) {side : Int} (hs : side = 0 ∨ side = 1) : ∀ {l : List zdk} {t u : TkD}, POk g t.p → (∀ a ∈ l, zeX g.cells g.kinds.length g.rights a) → zet g side t l = some u → POk g u.p
 | [], t, u, ht, _, h => by simp only [zet, Option.some.injEq] at h; subst h; exact ht
 | x :: l, t, u, ht, hl, h => by
  simp only [zet] at h
  split at h
  ·rename_i hd
   exact zuX hg hs (zyS hg hs ht (hl x (by simp)) hd) (fun a ha => hl a (by simp [ha])) h
  ·cases h
theorem zwe {g : zad} (hg : GOk g) {p : zag} (hp : POk g p) : p.rights < 16 := by
 have h4 := hg.r4
 have h0 := hg.r0
 have := hp.r1
 have e : (2 : Int) ^ g.rights.toNat ≤ 2 ^ 4 := by
  rcases (show g.rights.toNat = 0 ∨ g.rights.toNat = 1 ∨ g.rights.toNat = 2 ∨ g.rights.toNat = 3 ∨ g.rights.toNat = 4 by omega) with h | h | h | h | h <;> rw [h] <;> decide
 omega
def zvD (a : Int) (n : Nat) : Bool := decide (zgi .i64 a (2 ^ n) = 0)
def zfp (g : zad) (side : Int) (p : zag) (x : zdk) : List zag :=
 if x.1 = 6 then (List.range g.kinds.length).flatMap fun (k : Nat) =>
  let q := { p with at_ := p.at_.set x.2.1.toNat (zaL k (1 - side)) }
  let r := if (nth g.kinds k).keep = true then q.withHand side ((q.hand side).set k (nth (q.hand side) k - 1)) else q
  if nth p.at_ x.2.1.toNat = 0 ∧ 0 ≤ nth (r.hand side) k then [r] else []
 else if x.1 = 7 then if nth p.at_ x.2.2.toNat ≠ 0 ∧ nth p.at_ x.2.1.toNat = 0 then [{ p with at_ := (p.at_.set x.2.1.toNat (nth p.at_ x.2.2.toNat)).set x.2.2.toNat 0 }] else []
 else if x.1 = 10 then if zvD p.rights x.2.1.toNat = true then [p, { p with rights := orN .i64 p.rights (2 ^ x.2.1.toNat) }] else []
 else [p]
def zvA : Bool := (List.range 16).all fun (a : Nat) => (List.range 4).all fun (n : Nat) => zvD (zbS .i64 (a : Int) (2 ^ n)) n && (decide ((a : Int) = zbS .i64 (a : Int) (2 ^ n)) || decide ((a : Int) = orN .i64 (zbS .i64 (a : Int) (2 ^ n)) (2 ^ n)))
theorem zon : zvA = true := by kernel_rfl
theorem zvB {a : Int} (h0 : 0 ≤ a) (h1 : a < 16) {n : Nat} (hn : n < 4) : zvD (zbS .i64 a (2 ^ n)) n = true ∧ (a = zbS .i64 a (2 ^ n) ∨ a = orN .i64 (zbS .i64 a (2 ^ n)) (2 ^ n)) := by
 have key := zon
 unfold zvA at key
 have k1 := List.all_eq_true.1 key a.toNat (List.mem_range.2 (by omega))
 have k2 := List.all_eq_true.1 k1 n (List.mem_range.2 hn)
 rw [Int.toNat_of_nonneg h0] at k2
 simp only [Bool.and_eq_true, Bool.or_eq_true, decide_eq_true_eq] at k2
 exact k2
theorem zyw {l : List Int} {i : Nat} {v : Int} : (l.set i v).set i (nth l i) = l := by
 by_cases h : i < l.length
 ·rw [List.set_set, zau _ _ h]
  exact List.set_getElem_self h
 ·rw [List.set_set, List.set_eq_of_length_le (by omega)]
theorem zrq {l : List Int} {i : Nat} : l.set i (nth l i) = l := by
 by_cases h : i < l.length
 ·rw [zau _ _ h]
  exact List.set_getElem_self h
 ·rw [List.set_eq_of_length_le (by omega)]
theorem zA1 {p q : zag} (h1 : p.at_ = q.at_) (h2 : p.h0 = q.h0) (h3 : p.h1 = q.h1) (h4 : p.rights = q.rights) (h5 : p.side = q.side) : p = q := by
 obtain ⟨a, b, c, d, e⟩ := p
 obtain ⟨a', b', c', d', e'⟩ := q
 simp only at h1 h2 h3 h4 h5
 subst h1; subst h2; subst h3; subst h4; subst h5
 rfl
theorem zgD (p : zag) (side : Int) (l : List Int) : (p.withHand side l).hand side = l := by
 unfold zag.withHand zag.hand
 split <;> rfl
theorem zkU {c : Int} {K : Nat} (h0 : 0 ≤ c) (h1 : c ≤ 2 * K) (hK : K ≤ 6) (hc : c ≠ 0) : zaL (zak c).1 (zak c).2 = c := by
 rcases zaR h0 h1 hK with ⟨h, _⟩ | ⟨_, a, b, d, e⟩
 ·exact absurd h hc
 ·unfold zaL
  rw [if_pos ⟨⟨by omega, by omega⟩, by omega, by omega⟩]
  omega
theorem zyF {g : zad} (hg : GOk g) {side : Int} (hs : side = 0 ∨ side = 1) {t : TkD} (ht : POk g t.p) {x : zdk} (hx : zeX g.cells g.kinds.length g.rights x) (h : (doA g side t x).2 = true) : t.p ∈ zfp g side (doA g side t x).1.p x := by
 obtain ⟨op, a, b⟩ := x
 unfold zeX at hx
 simp only at hx
 rcases (show op = 3 ∨ op = 4 ∨ op = 5 ∨ op = 6 ∨ op = 7 ∨ op = 8 ∨ op = 9 ∨ op = 10 by omega) with rfl | rfl | rfl | rfl | rfl | rfl | rfl | rfl
 ·exact List.mem_singleton.2 rfl
 ·exact List.mem_singleton.2 rfl
 ·exact List.mem_singleton.2 rfl
 ·have hat := ht.at (i := a.toNat) (by omega)
  have hman := zaR hat.1 hat.2 hg.k6
  have hdo : doA g side t (6, a, b) = zj2 g side t a := rfl
  rw [hdo] at h ⊢
  unfold zj2 at h ⊢
  simp only at h ⊢
  split
  ·rename_i hm
   rw [if_pos hm] at h
   simp at h
  ·rename_i hm
   rw [if_neg hm] at h
   rcases hman with ⟨_, e⟩ | ⟨hne, e1, e2, e3, e4⟩
   ·rw [e] at hm
    simp at hm
    omega
   ·have hms : (zak (nth t.p.at_ a.toNat)).2 = 1 - side := by omega
    have hcode : zaL (zak (nth t.p.at_ a.toNat)).1 (1 - side) = nth t.p.at_ a.toNat := by rw [← hms]; exact zkU hat.1 hat.2 hg.k6 hne
    have hal := ht.al
    obtain ⟨k, hk⟩ : ∃ k : Nat, (zak (nth t.p.at_ a.toNat)).1 = k := ⟨(zak (nth t.p.at_ a.toNat)).1.toNat, by omega⟩
    rw [hk] at hcode e2 h ⊢
    rw [Int.toNat_natCast] at h ⊢
    have hkl : k < g.kinds.length := by omega
    have hun : ∀ p : zag, zfp g side p (6, a, b) = (List.range g.kinds.length).flatMap fun (k : Nat) =>
      let q := { p with at_ := p.at_.set a.toNat (zaL k (1 - side)) }
      let r := if (nth g.kinds k).keep = true then q.withHand side ((q.hand side).set k (nth (q.hand side) k - 1)) else q
      if nth p.at_ a.toNat = 0 ∧ 0 ≤ nth (r.hand side) k then [r] else [] := fun p => rfl
    rw [hun, List.mem_flatMap]
    refine ⟨k, List.mem_range.2 hkl, ?_⟩
    have hh := ht.hand side
    have hkh : k < (t.p.hand side).length := by rw [hh.len]; exact hkl
    have hv := hh.v k hkh
    have hz : nth (t.p.at_.set a.toNat 0) a.toNat = 0 := by
     rw [zcx]
     split
     ·rfl
     ·rename_i hn
      exact absurd ⟨rfl, by omega⟩ hn
    by_cases hkeep : (nth g.kinds k).keep = true
    ·rw [if_pos hkeep]
     simp only [if_pos hkeep]
     have e5 : ((clr t.p a).withHand side ((t.p.hand side).set k (nth (t.p.hand side) k + 1))).at_ = t.p.at_.set a.toNat 0 := zfq _ _ _
     rw [e5]
     have e6 : ∀ (P : zag) (L A : List Int), ({ (P.withHand side L) with at_ := A } : zag) = ({ P with at_ := A } : zag).withHand side L := fun P L A => by unfold zag.withHand; split <;> rfl
     have e7 : nth ((t.p.hand side).set k (nth (t.p.hand side) k + 1)) k = nth (t.p.hand side) k + 1 := by rw [zcx, if_pos ⟨rfl, hkh⟩]
     have e8 : ∀ (P : zag) (L M : List Int), (P.withHand side L).withHand side M = P.withHand side M := fun P L M => by unfold zag.withHand; split <;> rfl
     simp only [e6, zgD, e8, e7, Int.add_sub_cancel, List.set_set, hcode, zrq]
     rw [if_pos ⟨hz, hv.1⟩, List.mem_singleton]
     have e10 : ({ (clr t.p a) with at_ := t.p.at_ } : zag) = t.p := rfl
     rw [e10]
     unfold zag.withHand zag.hand
     split <;> rfl
    ·rw [if_neg hkeep]
     simp only [if_neg hkeep]
     have e5 : (clr t.p a).at_ = t.p.at_.set a.toNat 0 := rfl
     rw [e5, hcode, List.set_set, zrq]
     have e10 : ({ (clr t.p a) with at_ := t.p.at_ } : zag) = t.p := rfl
     rw [e10, if_pos ⟨hz, hv.1⟩]
     exact List.mem_singleton.2 rfl
 ·have hdo : doA g side t (7, a, b) = zjI t a b := rfl
  rw [hdo] at h ⊢
  unfold zjI at h ⊢
  split
  ·rename_i hm
   rw [if_pos hm] at h
   simp at h
  ·rename_i hm
   have hal := ht.al
   have hm1 : nth t.p.at_ a.toNat ≠ 0 := fun e => hm (.inl e)
   have hm2 : nth t.p.at_ b.toNat = 0 := Classical.byContradiction fun e => hm (.inr e)
   have hab : a.toNat ≠ b.toNat := fun e => hm1 (by rw [e]; exact hm2)
   have hbl : b.toNat < t.p.at_.length := by omega
   have hal2 : a.toNat < t.p.at_.length := by omega
   have hun : ∀ p : zag, zfp g side p (7, a, b) = if nth p.at_ b.toNat ≠ 0 ∧ nth p.at_ a.toNat = 0 then [{ p with at_ := (p.at_.set a.toNat (nth p.at_ b.toNat)).set b.toNat 0 }] else [] := fun p => rfl
   rw [hun]
   simp only
   have e1 : nth ((t.p.at_.set b.toNat (nth t.p.at_ a.toNat)).set a.toNat 0) b.toNat = nth t.p.at_ a.toNat := by
    rw [zcx, if_neg (fun h => hab h.1), zcx, if_pos ⟨rfl, hbl⟩]
   have e2 : nth ((t.p.at_.set b.toNat (nth t.p.at_ a.toNat)).set a.toNat 0) a.toNat = 0 := by
    rw [zcx, if_pos ⟨rfl, by rw [List.length_set]; exact hal2⟩]
   rw [e1, e2, if_pos ⟨hm1, rfl⟩, List.mem_singleton]
   refine zA1 ?_ rfl rfl rfl rfl
   refine List.ext_getElem (by simp) fun j h1 h2 => ?_
   simp only [List.getElem_set]
   by_cases ej : b.toNat = j
   ·subst ej
    rw [if_pos rfl, ← zau _ _ h1]; exact hm2
   ·rw [if_neg ej]
    by_cases ej2 : a.toNat = j
    ·subst ej2
     rw [if_pos rfl, zau _ _ h1]
    ·rw [if_neg ej2, if_neg ej2, if_neg ej]
 ·exact List.mem_singleton.2 rfl
 ·exact List.mem_singleton.2 rfl
 ·have h0 := ht.r0
  have h1 := zwe hg ht
  have r4 := hg.r4
  obtain ⟨k1, k2⟩ := zvB h0 h1 (n := a.toNat) (by omega)
  have hun : ∀ p : zag, zfp g side p (10, a, b) = if zvD p.rights a.toNat = true then [p, { p with rights := orN .i64 p.rights (2 ^ a.toNat) }] else [] := fun p => rfl
  have hdo : (doA g side t (10, a, b)).1.p = { t.p with rights := zbS .i64 t.p.rights (2 ^ a.toNat) } := rfl
  rw [hdo, hun]
  simp only
  rw [if_pos k1]
  rcases k2 with k2 | k2
  ·exact List.mem_cons.2 (.inl (zA1 rfl rfl rfl k2 rfl))
  ·exact List.mem_cons.2 (.inr (List.mem_singleton.2 (zA1 rfl rfl rfl k2 rfl)))
def zc8 (g : zad) (side : Int) : zag → List zdk → List zag
 | p, [] => [p]
 | p, x :: l => (zfp g side p x).flatMap fun q => zc8 g side q l
theorem zhU (g : zad) (side : Int) : ∀ (l m : List zdk) (p : zag), zc8 g side p (l ++ m) = (zc8 g side p l).flatMap fun q => zc8 g side q m
 | [], m, p => by simp [zc8]
 | x :: l, m, p => by
  rw [List.cons_append, zc8, zc8, List.flatMap_assoc]
  congr 1
  funext q
  exact zhU g side l m q
theorem zwz (g : zad) (side : Int) (p : zag) (x : zdk) : zc8 g side p [x] = zfp g side p x := by simp [zc8]
theorem zoO {g : zad} (hg : GOk g) {side : Int} (hs : side = 0 ∨ side = 1) : ∀ {l : List zdk} {t u : TkD}, POk g t.p → (∀ a ∈ l, zeX g.cells g.kinds.length g.rights a) → zet g side t l = some u → t.p ∈ zc8 g side u.p l.reverse
 | [], t, u, ht, _, h => by
  simp only [zet, Option.some.injEq] at h
  subst h
  exact List.mem_singleton.2 rfl
 | x :: l, t, u, ht, hl, h => by
  simp only [zet] at h
  split at h
  ·rename_i hd
   have h1 := zyS hg hs ht (hl x (by simp)) hd
   have ih := zoO hg hs h1 (fun a ha => hl a (by simp [ha])) h
   rw [List.reverse_cons, zhU, List.mem_flatMap]
   exact ⟨_, ih, by rw [zwz]; exact zyF hg hs ht (hl x (by simp)) hd⟩
  ·cases h
theorem zxD (g : zad) (side : Int) (t : TkD) (x : zdk) : (doA g side t x).1.p.side = t.p.side := by
 have hw : ∀ (P : zag) (L : List Int), (P.withHand side L).side = P.side := fun P L => by unfold zag.withHand; split <;> rfl
 unfold doA
 repeat' split
 all_goals first | rfl | skip
 ·unfold zj2
  simp only
  repeat' split
  ·rfl
  ·rw [hw]; rfl
  ·rfl
 ·unfold zjI
  split <;> rfl
theorem znJ (g : zad) (side : Int) : ∀ {l : List zdk} {t u : TkD}, zet g side t l = some u → u.p.side = t.p.side
 | [], t, u, h => by simp only [zet, Option.some.injEq] at h; subst h; rfl
 | x :: l, t, u, h => by
  simp only [zet] at h
  split at h
  ·rw [znJ g side h, zxD]
  ·cases h
theorem zxC {g : zad} {side : Int} {t : TkD} {x : zdk} (hx : zeX g.cells g.kinds.length g.rights x) (h : 0 ≤ t.kind ∧ t.kind < g.kinds.length) : 0 ≤ (doA g side t x).1.kind ∧ (doA g side t x).1.kind < g.kinds.length := by
 obtain ⟨op, a, b⟩ := x
 unfold zeX at hx
 simp only at hx
 rcases (show op = 3 ∨ op = 4 ∨ op = 5 ∨ op = 6 ∨ op = 7 ∨ op = 8 ∨ op = 9 ∨ op = 10 by omega) with rfl | rfl | rfl | rfl | rfl | rfl | rfl | rfl
 ·exact h
 ·exact h
 ·exact h
 ·show 0 ≤ (zj2 g side t a).1.kind ∧ (zj2 g side t a).1.kind < g.kinds.length
  unfold zj2
  simp only
  repeat' split
  all_goals exact h
 ·show 0 ≤ (zjI t a b).1.kind ∧ (zjI t a b).1.kind < g.kinds.length
  unfold zjI
  split <;> exact h
 ·show 0 ≤ a ∧ a < g.kinds.length
  omega
 ·exact h
 ·exact h
theorem znI {g : zad} {side : Int} : ∀ {l : List zdk} {t u : TkD}, (∀ a ∈ l, zeX g.cells g.kinds.length g.rights a) → zet g side t l = some u → 0 ≤ t.kind ∧ t.kind < g.kinds.length → 0 ≤ u.kind ∧ u.kind < g.kinds.length
 | [], t, u, _, h, hk => by simp only [zet, Option.some.injEq] at h; subst h; exact hk
 | x :: l, t, u, hl, h, hk => by
  simp only [zet] at h
  split at h
  ·exact znI (fun a ha => hl a (by simp [ha])) h (zxC (hl x (by simp)) hk)
  ·cases h
theorem zvH {g : zad} (hg : GOk g) {p : zag} (hp : POk g p) {o : zb8} : o ∈ zdj g p ↔ ∃ c : Nat, (c : Int) < g.cells ∧ nth p.at_ c ≠ 0 ∧ (zak (nth p.at_ c)).2 = p.side ∧ o ∈ runO g p c := by
 have hal := hp.al
 rw [zoq hp]
 constructor
 ·rintro ⟨c, i, hc, ho⟩
  have c1 := hc.c1
  have hman := hc.man
  have hside := hc.side
  have hi1 := hc.i1
  simp only [Int.toNat_natCast] at hman hside hi1
  refine ⟨c, c1, fun h0 => ?_, hside, ?_⟩
  ·rw [h0] at hman; exact absurd hman (by decide)
  rw [zoE hg hp (by omega) c1]
  unfold zrh
  simp only [Int.toNat_natCast]
  rw [if_neg (by omega), zaS, hside]
  exact List.mem_flatMap.2 ⟨i, List.mem_range.2 (by omega), ho⟩
 ·rintro ⟨c, c1, h0, hside, ho⟩
  rw [zoE hg hp (by omega) c1] at ho
  unfold zrh at ho
  simp only [Int.toNat_natCast] at ho
  split at ho
  ·simp at ho
  rename_i hm
  rw [zaS, hside] at ho
  obtain ⟨i, hi, ho⟩ := List.mem_flatMap.1 ho
  exact ⟨c, i, ⟨by omega, c1, by simp only [Int.toNat_natCast]; omega, by simp only [Int.toNat_natCast]; exact hside, by omega, by simp only [Int.toNat_natCast]; exact_mod_cast List.mem_range.1 hi⟩, ho⟩
def zh1 (g : zad) (side : Int) (p : zag) (k c : Nat) (w : za5) : List zag :=
 if (zak (nth p.at_ w.to.toNat)).2 = side then
  ((zc8 g side { p with at_ := p.at_.set w.to.toNat 0, side := side } w.acts.reverse).filter fun q => decide (nth q.at_ c = 0)).map fun q => { q with at_ := q.at_.set c (zaL k side) }
 else []
def zh0 (g : zad) (side : Int) (p : zag) : List zag :=
 (List.range g.kinds.length).flatMap fun (k : Nat) => (List.range g.cells.toNat).flatMap fun (c : Nat) => (zcl g.board side (nth g.kinds k).progs c).flatMap (zh1 g side p k c)
def zoj (side : Int) (p : zag) (c : Nat) : zag :=
 let k := (zak (nth p.at_ c)).1.toNat
 let q := { p with at_ := p.at_.set c 0, side := side }
 q.withHand side ((q.hand side).set k (nth (q.hand side) k + 1))
def ziR (g : zad) (side : Int) (p : zag) : List zag :=
 ((List.range p.at_.length).filter fun c => decide ((zak (nth p.at_ c)).2 = side) && (nth g.kinds (zak (nth p.at_ c)).1.toNat).keep).map (zoj side p)
def zdb (g : zad) (p : zag) : List zag := zh0 g (1 - p.side) p ++ ziR g (1 - p.side) p
def candE (side : Int) (p : zag) : List zag := ((List.range p.at_.length).filter fun c => decide ((zak (nth p.at_ c)).2 = side)).map (zoj side p)
def candsR (g : zad) (p : zag) : List zag := zh0 g (1 - p.side) p ++ candE (1 - p.side) p
theorem zxq {g : zad} (hg : GOk g) {q : zag} (hq : POk g q) {o : zb8} (ho : o ∈ zdj g q) : q ∈ zh0 g q.side o.pos := by
 obtain ⟨c, c1, h0, hside, ho⟩ := (zvH hg hq).1 ho
 have hal := hq.al
 have hat := hq.at (i := c) (by omega)
 unfold runO at ho
 simp only [Int.toNat_natCast] at ho
 rw [if_neg h0, zaS] at ho
 unfold zyi at ho
 obtain ⟨w, hw, hwo⟩ := List.mem_filterMap.1 ho
 simp only [Int.toNat_natCast] at hwo
 rw [hside] at hwo
 unfold zqo at hw
 simp only [Int.toNat_natCast] at hw
 rw [hside] at hw
 rcases zaR hat.1 hat.2 hg.k6 with ⟨hz, _⟩ | ⟨_, e1, e2, e3, _⟩
 ·exact absurd hz h0
 have hcode := zkU hat.1 hat.2 hg.k6 h0
 rw [hside] at hcode
 obtain ⟨k, hk⟩ : ∃ k : Nat, (zak (nth q.at_ c)).1 = k := ⟨(zak (nth q.at_ c)).1.toNat, by omega⟩
 rw [hk] at e2 hcode hw
 rw [Int.toNat_natCast] at hw
 have hkl : k < g.kinds.length := by omega
 have hpo := zii hg (side := q.side) (zaj hkl) (cell := (c : Int)) ⟨by omega, c1⟩ w hw
 unfold ztJ stW at hwo
 cases hd : zet g q.side (zdN q c) w.acts with
 | none => rw [hd] at hwo; simp at hwo
 | some u =>
  rw [hd] at hwo
  simp only [Option.map_some, Option.bind_some] at hwo
  have hst : POk g (zdN q c).p := hq.clr c
  have hu := zuX hg hq.s hst hpo.acts hd
  have hus := znJ g q.side hd
  have hun := zoO hg hq.s hst hpo.acts hd
  have hts : (zdN q c).p.side = q.side := rfl
  rw [hts] at hus
  have hual := hu.al
  have hto := hpo.to
  unfold zfQ at hwo
  split at hwo
  ·rename_i hz
   simp only [stT] at hz hwo
   simp only [Option.some.injEq] at hwo
   subst hwo
   simp only
   unfold zh0
   refine List.mem_flatMap.2 ⟨k, List.mem_range.2 hkl, List.mem_flatMap.2 ⟨c, List.mem_range.2 (by omega), List.mem_flatMap.2 ⟨w, hw, ?_⟩⟩⟩
   unfold zh1
   have hn : nth (u.p.at_.set w.to.toNat (zaL u.kind q.side)) w.to.toNat = zaL u.kind q.side := by rw [zcx, if_pos ⟨rfl, by omega⟩]
   have hkind : 0 ≤ u.kind ∧ u.kind < g.kinds.length := znI hpo.acts hd (by show 0 ≤ (zak (nth q.at_ (c : Int).toNat)).1 ∧ (zak (nth q.at_ (c : Int).toNat)).1 < g.kinds.length; rw [Int.toNat_natCast, hk]; omega)
   have hk6 := hg.k6
   have hms : (zak (zaL u.kind q.side)).2 = q.side := by
    rcases hq.s with h | h <;> rw [h] <;> unfold zaL <;> rw [if_pos ⟨⟨by omega, by omega⟩, by omega, by omega⟩] <;> unfold zak <;> rw [if_pos (by omega)] <;> simp only <;> rw [Int.tmod_eq_emod_of_nonneg (by omega)] <;> omega
   rw [hn, if_pos hms]
   have hlift : ({ u.p with at_ := (u.p.at_.set w.to.toNat (zaL u.kind q.side)).set w.to.toNat 0, side := q.side } : zag) = u.p := by
    refine zA1 ?_ rfl rfl rfl hus.symm
    simp only
    rw [List.set_set]
    conv => lhs; rw [← hz]
    rw [zau _ _ (by omega)]
    exact List.set_getElem_self _
   have hl2 : ({ ({ u.p with at_ := u.p.at_.set w.to.toNat (zaL u.kind q.side), side := 1 - q.side } : zag) with at_ := (u.p.at_.set w.to.toNat (zaL u.kind q.side)).set w.to.toNat 0, side := q.side } : zag) = u.p := hlift
   refine List.mem_map.2 ⟨(zdN q c).p, List.mem_filter.2 ⟨?_, ?_⟩, ?_⟩
   ·have := hun
    rw [← hlift] at this
    exact this
   ·rw [decide_eq_true_eq]
    show nth (q.at_.set (c : Int).toNat 0) c = 0
    rw [Int.toNat_natCast, zcx, if_pos ⟨rfl, by omega⟩]
   ·refine zA1 ?_ rfl rfl rfl rfl
    show (q.at_.set (c : Int).toNat 0).set c (zaL k q.side) = q.at_
    rw [Int.toNat_natCast, hcode, zyw]
  ·cases hwo
theorem zuK {g : zad} (hg : GOk g) {q : zag} (hq : POk g q) {p : zag} (hp : p ∈ zcF g q) : q ∈ ziR g q.side p := by
 unfold zcF at hp
 rw [zaS] at hp
 obtain ⟨k, hk, hp⟩ := List.mem_flatMap.1 hp
 obtain ⟨c, hc, hp⟩ := List.mem_filterMap.1 hp
 have hk := List.mem_range.1 hk
 have hc := List.mem_range.1 hc
 have hh := hq.hand q.side
 have hkh : k < (q.hand q.side).length := by rw [hh.len]; exact hk
 have hv := hh.v k hkh
 have hk6 := hg.k6
 unfold zfI at hp
 split at hp
 ·cases hp
 rename_i hn
 have hn1 : nth (q.hand q.side) k ≠ 0 := fun h => hn (.inl h)
 have hn2 : nth q.at_ c = 0 := Classical.byContradiction fun h => hn (.inr h)
 simp only [Option.some.injEq] at hp
 have hkeep := hv.2.2 (by omega)
 have hpa : p.at_ = q.at_.set c (zaL k q.side) := by rw [← hp]; exact zfq _ _ _
 have hpn : nth p.at_ c = zaL k q.side := by rw [hpa, zcx, if_pos ⟨rfl, hc⟩]
 have hm : zak (zaL k q.side) = ((k : Int), q.side) := by
  rcases hq.s with h | h <;> rw [h] <;> unfold zaL <;> rw [if_pos ⟨⟨by omega, by omega⟩, by omega, by omega⟩] <;> unfold zak <;> rw [if_pos (by omega)] <;> refine Prod.ext ?_ ?_ <;> simp only
  ·rw [Int.tdiv_eq_ediv_of_nonneg (by omega)]; omega
  ·rw [Int.tmod_eq_emod_of_nonneg (by omega)]; omega
  ·rw [Int.tdiv_eq_ediv_of_nonneg (by omega)]; omega
  ·rw [Int.tmod_eq_emod_of_nonneg (by omega)]; omega
 unfold ziR
 refine List.mem_map.2 ⟨c, List.mem_filter.2 ⟨List.mem_range.2 (by rw [hpa, List.length_set]; exact hc), ?_⟩, ?_⟩
 ·rw [hpn, hm]
  simp [hkeep]
 ·unfold zoj
  rw [hpn, hm]
  simp only [Int.toNat_natCast]
  rw [← hp]
  have e1 : ∀ (P : zag) (L : List Int) (s : Int), ({ (P.withHand q.side L) with side := s } : zag).hand q.side = L := fun P L s => by unfold zag.withHand zag.hand; split <;> rfl
  have e2 : ∀ (P : zag) (L : List Int), (P.withHand q.side L).at_ = P.at_ := fun P L => zfq _ _ _
  have e3 : ∀ (P : zag) (L A M : List Int) (s s2 : Int), ({ ({ (P.withHand q.side L) with side := s } : zag) with at_ := A, side := s2 } : zag).withHand q.side M = ({ P with at_ := A, side := s2 } : zag).withHand q.side M := fun P L A M s s2 => by unfold zag.withHand; split <;> rfl
  have e4 : ∀ (P : zag) (L A : List Int) (s s2 : Int), ({ ({ (P.withHand q.side L) with side := s } : zag) with at_ := A, side := s2 } : zag).hand q.side = L := fun P L A s s2 => by unfold zag.withHand zag.hand; split <;> rfl
  rw [e4, e3]
  have e5 : nth ((q.hand q.side).set k (nth (q.hand q.side) k - 1)) k = nth (q.hand q.side) k - 1 := by rw [zcx, if_pos ⟨rfl, hkh⟩]
  have e6 : ((q.hand q.side).set k (nth (q.hand q.side) k - 1)).set k (nth (q.hand q.side) k - 1 + 1) = q.hand q.side := by
   rw [List.set_set, Int.sub_add_cancel, zau _ _ hkh]
   exact List.set_getElem_self hkh
  rw [e5, e6]
  simp only [e2]
  have e7 : (q.at_.set c (zaL k q.side)).set c 0 = q.at_ := by
   rw [List.set_set]
   conv => lhs; rw [← hn2]
   rw [zau _ _ hc]
   exact List.set_getElem_self _
  rw [e7]
  unfold zag.withHand zag.hand
  split <;> rfl
theorem zuL {g : zad} (hg : GOk g) {q p : zag} (hq : POk g q) (hp : p ∈ zaC g q) : q ∈ zh0 g (1 - p.side) p ∨ q ∈ ziR g (1 - p.side) p := by
 have hps : 1 - p.side = q.side := by
  have := (zdi hg hq p hp).2
  omega
 rw [hps]
 rcases (zsW.1 hp).2 with ⟨o, ho, _, rfl⟩ | ⟨_, hd⟩
 ·exact .inl (zxq hg hq ho)
 ·exact .inr (zuK hg hq hd)
def zcj (g : zad) (p : zag) : List zag := (zaU za7 (zdb g p)).filter fun q => zfi g q && decide (p ∈ zaC g q)
theorem zjt {g : zad} (hg : GOk g) {p q : zag} : q ∈ zcj g p ↔ POk g q ∧ p ∈ zaC g q := by
 unfold zcj
 rw [List.mem_filter, zaS, Bool.and_eq_true, decide_eq_true_eq, zmM]
 constructor
 ·rintro ⟨_, h⟩; exact h
 ·rintro ⟨h1, h2⟩
  refine ⟨?_, h1, h2⟩
  unfold zdb
  exact List.mem_append.2 (zuL hg h1 h2)
theorem zpJ (g : zad) (p : zag) : Inc (zcj g p) := List.Pairwise.filter _ (zdY zaM _)
def zkq (g : zad) (p : zag) : List zag × Int := if 4000 < (zcj g p).length then ([], 2) else (zcj g p, 0)
theorem zse {g : zad} (hg : GOk g) {p q : zag} (h : q ∈ zcj g p) : POk g q := ((zjt hg).1 h).1
theorem ztu {l : List zag} (h : Inc l) : zaU za7 l = l := zbo zaM h fun _ => Iff.rfl
def orOne : Bool := (List.range 5).all fun (r : Nat) => (List.range (2 ^ r)).all fun (a : Nat) => (List.range r).all fun (n : Nat) => decide (0 ≤ orN .i64 (a : Int) (2 ^ n) ∧ orN .i64 (a : Int) (2 ^ n) < 2 ^ r)
theorem zs1 : orOne = true := by kernel_rfl
theorem or_in {r : Nat} (hr : r ≤ 4) {a : Int} (h0 : 0 ≤ a) (h1 : a < 2 ^ r) {n : Nat} (hn : n < r) : 0 ≤ orN .i64 a (2 ^ n) ∧ orN .i64 a (2 ^ n) < 2 ^ r := by
 have key := zs1
 unfold orOne at key
 have hp : (2 : Int) ^ r = ((2 ^ r : Nat) : Int) := by
  rcases (show r = 0 ∨ r = 1 ∨ r = 2 ∨ r = 3 ∨ r = 4 by omega) with h | h | h | h | h <;> subst h <;> decide
 have k1 := List.all_eq_true.1 key r (List.mem_range.2 (by omega))
 have k2 := List.all_eq_true.1 k1 a.toNat (List.mem_range.2 (by omega))
 have k3 := of_decide_eq_true (List.all_eq_true.1 k2 n (List.mem_range.2 hn))
 rwa [Int.toNat_of_nonneg h0] at k3
theorem zhB {g : zad} (hg : GOk g) {k : Nat} (hk : k < g.kinds.length) {s : Int} (hs : s = 0 ∨ s = 1) : 1 ≤ zaL k s ∧ zaL k s ≤ 2 * g.kinds.length := by
 have := hg.k6
 unfold zaL
 rw [if_pos ⟨⟨by omega, by omega⟩, by omega, by omega⟩]
 omega
def tkP (g : zad) (side : Int) (p : zag) (a k : Nat) : zag :=
 if (nth g.kinds k).keep = true then ({ p with at_ := p.at_.set a (zaL k (1 - side)) } : zag).withHand side ((p.hand side).set k (nth (p.hand side) k - 1)) else { p with at_ := p.at_.set a (zaL k (1 - side)) }
def tkL (g : zad) (side : Int) (p : zag) (a k : Nat) : List zag := if nth p.at_ a = 0 ∧ 0 ≤ nth ((tkP g side p a k).hand side) k then [tkP g side p a k] else []
theorem zht {g : zad} {side : Int} {p : zag} {x : zdk} (h : x.1 = 6) : zfp g side p x = (List.range g.kinds.length).flatMap (tkL g side p x.2.1.toNat) := by
 unfold zfp
 rw [if_pos h]
 rfl
theorem zrr {g : zad} (hg : GOk g) {side : Int} (hs : side = 0 ∨ side = 1) {p : zag} (hp : POk g p) {x : zdk} (hx : zeX g.cells g.kinds.length g.rights x) : ∀ q ∈ zfp g side p x, POk g q ∧ q.side = p.side := by
 obtain ⟨op, a, b⟩ := x
 unfold zeX at hx
 simp only at hx
 have hal := hp.al
 have hws : ∀ (P : zag) (s : Int) (l : List Int), (P.withHand s l).side = P.side := fun P s l => by unfold zag.withHand; split <;> rfl
 intro q hq
 by_cases h6 : op = 6
 ·rw [zht h6] at hq
  obtain ⟨k, hk, hq⟩ := List.mem_flatMap.1 hq
  have hk := List.mem_range.1 hk
  have hc := zhB hg hk (s := 1 - side) (by omega)
  have h1 : POk g { p with at_ := p.at_.set a.toNat (zaL k (1 - side)) } := hp.setAt _ (by omega)
  have hh := hp.hand side
  have hkl : k < (p.hand side).length := by rw [hh.len]; exact hk
  have hv := hh.v k hkl
  unfold tkL at hq
  simp only at hq
  split at hq
  ·rename_i hcond
   rw [List.mem_singleton] at hq
   subst hq
   have h2 := hcond.2
   unfold tkP at h2 ⊢
   by_cases hkeep : (nth g.kinds k).keep = true
   ·rw [if_pos hkeep] at h2 ⊢
    rw [zgD, zcx, if_pos ⟨rfl, hkl⟩] at h2
    exact ⟨h1.withHand side (hh.set k ⟨h2, by omega⟩ fun _ => hkeep), hws _ _ _⟩
   ·rw [if_neg hkeep]
    exact ⟨h1, rfl⟩
  ·cases hq
 unfold zfp at hq
 rw [if_neg h6] at hq
 by_cases h7 : op = 7
 ·rw [if_pos h7] at hq
  split at hq
  ·simp only [List.mem_singleton] at hq
   subst hq
   have hb := hp.at (i := b.toNat) (by omega)
   exact ⟨(hp.setAt a.toNat hb).setAt b.toNat (by omega), rfl⟩
  ·cases hq
 rw [if_neg h7] at hq
 by_cases h10 : op = 10
 ·rw [if_pos h10] at hq
  split at hq
  ·simp only [List.mem_cons, List.not_mem_nil, or_false] at hq
   rcases hq with rfl | rfl
   ·exact ⟨hp, rfl⟩
   ·have h4 := hg.r4
    obtain ⟨o1, o2⟩ := or_in (r := g.rights.toNat) (by omega) hp.r0 hp.r1 (n := a.toNat) (by omega)
    exact ⟨⟨hp.al, hp.av, hp.h0, hp.h1, o1, o2, hp.s⟩, rfl⟩
  ·cases hq
 rw [if_neg h10] at hq
 simp only [List.mem_singleton] at hq
 subst hq
 exact ⟨hp, rfl⟩
theorem zwy {g : zad} (hg : GOk g) (side : Int) (p : zag) (x : zdk) : (zfp g side p x).length ≤ if x.1 = 6 then 6 else if x.1 = 10 then 2 else 1 := by
 have hk := hg.k6
 by_cases h6 : x.1 = 6
 ·rw [if_pos h6, zht h6, List.length_flatMap]
  have := zlH (fun (k : Nat) => (tkL g side p x.2.1.toNat k).length) 1 (List.range g.kinds.length) (fun k _ => by simp only [tkL]; split <;> simp)
  rw [List.length_range] at this
  omega
 unfold zfp
 rw [if_neg h6, if_neg h6]
 by_cases h7 : x.1 = 7
 ·rw [if_pos h7, if_neg (show ¬ x.1 = 10 by omega)]
  split <;> simp
 rw [if_neg h7]
 by_cases h10 : x.1 = 10
 ·rw [if_pos h10, if_pos h10]
  split <;> simp
 rw [if_neg h10, if_neg h10]
 simp
theorem zmT {g : zad} (hg : GOk g) {side : Int} (hs : side = 0 ∨ side = 1) : ∀ {l : List zdk} {p : zag}, POk g p → (∀ a ∈ l, zeX g.cells g.kinds.length g.rights a) → ∀ q ∈ zc8 g side p l, POk g q ∧ q.side = p.side
 | [], p, hp, _, q, hq => by
  simp only [zc8, List.mem_singleton] at hq
  subst hq
  exact ⟨hp, rfl⟩
 | x :: l, p, hp, hl, q, hq => by
  rw [zc8] at hq
  obtain ⟨r, hr, hq⟩ := List.mem_flatMap.1 hq
  obtain ⟨h1, h2⟩ := zrr hg hs hp (hl x (by simp)) r hr
  obtain ⟨h3, h4⟩ := zmT hg hs h1 (fun a ha => hl a (by simp [ha])) q hq
  exact ⟨h3, h4.trans h2⟩
theorem zb0 {α β : Type} (f : α → List β) (b : Nat) : ∀ l : List α, (∀ a ∈ l, (f a).length ≤ b) → (l.flatMap f).length ≤ l.length * b
 | [], _ => by simp
 | a :: l, h => by
  rw [List.flatMap_cons, List.length_append, List.length_cons, Nat.add_mul, Nat.one_mul]
  have h1 := h a (by simp)
  have h2 := zb0 f b l fun x hx => h x (by simp [hx])
  omega
theorem zoN {g : zad} (hg : GOk g) (side : Int) : ∀ (l : List zdk) (p : zag), (zc8 g side p l).length ≤ 6 ^ zbr l 6 * 2 ^ zbr l 10
 | [], p => by simp [zc8, zbr]
 | x :: l, p => by
  rw [zc8]
  have h1 := zb0 (fun q => zc8 g side q l) (6 ^ zbr l 6 * 2 ^ zbr l 10) (zfp g side p x) fun q _ => zoN hg side l q
  have h2 := zwy hg side p x
  have hc : ∀ op, zbr (x :: l) op = zbr l op + if x.1 = op then 1 else 0 := fun op => by
   unfold zbr
   rw [List.countP_cons]
   by_cases h : x.1 = op <;> simp [h]
  rw [hc, hc]
  refine Nat.le_trans h1 (Nat.le_trans (Nat.mul_le_mul_right _ h2) ?_)
  by_cases h6 : x.1 = 6
  ·rw [if_pos h6, if_pos h6, if_neg (by omega), Nat.pow_succ, Nat.add_zero, Nat.mul_comm 6, Nat.mul_assoc, Nat.mul_comm _ 6, ← Nat.mul_assoc]
   exact Nat.le_refl _
  ·rw [if_neg h6, if_neg h6, Nat.add_zero]
   by_cases h10 : x.1 = 10
   ·rw [if_pos h10, if_pos h10, Nat.pow_succ, Nat.mul_comm 2, Nat.mul_assoc]
    exact Nat.le_refl _
   ·rw [if_neg h10, if_neg h10, Nat.one_mul, Nat.add_zero]
    exact Nat.le_refl _
theorem zvc {b : zaJ} {side : Int} {w : za5} {x : Int × Int} : ∀ v ∈ zk0 b side w x, zbr v.acts 10 ≤ zbr w.acts 10 + zsJ x 10 := by
 intro v hv
 unfold zk0 at hv
 unfold zsJ
 split at hv
 ·rename_i h17
  split at hv
  ·simp at hv
  ·split at hv
   ·simp only [List.mem_singleton] at hv
    subst hv
    simp only [onP, List.append_nil]
    omega
   ·simp only [List.mem_singleton] at hv
    subst hv
    simp only [onP, zby, zdw]
    rw [if_neg (by decide)]
    omega
 ·split at hv
  ·obtain ⟨more, e1, e2, e3, e4⟩ := zfD hv
   rw [List.append_nil] at e1
   rw [e1, zby, zhC e4 (by omega)]
   omega
  ·split at hv
   ·simp only [List.mem_singleton] at hv
    subst hv
    simp only [onP, zby, zdw]
    omega
   ·simp only [List.mem_singleton] at hv
    subst hv
    simp only [onP, zby, zdw]
    omega
theorem zk3 {b : zaJ} {side : Int} : ∀ {prog : List (Int × Int)} {now : List za5} {t : Nat}, (∀ w ∈ now, zbr w.acts 10 ≤ t) → ∀ w ∈ prog.foldl (zj0 b side) now, zbr w.acts 10 ≤ t + prog.length
 | [], now, t, h, w, hw => by simpa using h w hw
 | x :: prog, now, t, h, w, hw => by
  rw [List.foldl_cons] at hw
  have := zk3 (prog := prog) (now := zj0 b side now x) (t := t + 1) (fun v hv => by
   obtain ⟨u, hu, hv⟩ := List.mem_flatMap.1 hv
   have h1 := zvc v hv
   have h2 := h u hu
   have h3 : zsJ x 10 ≤ 1 := by unfold zsJ; split <;> omega
   omega) w hw
  simp only [List.length_cons]
  omega
theorem zsN {g : zad} (hg : GOk g) {side : Int} {k : zfU} (hk : k ∈ g.kinds) {cell : Int} : ∀ w ∈ zcl g.board side k.progs cell, zbr w.acts 10 ≤ 8 := by
 intro w hw
 obtain ⟨p, hp, hw⟩ := List.mem_flatMap.1 hw
 have ok := (hg.pr k hk p hp).len
 have := zk3 (b := g.board) (side := side) (prog := p) (now := [⟨[], cell⟩]) (t := 0) (fun v hv => by
  simp only [List.mem_singleton] at hv
  subst hv
  simp [zbr]) w hw
 omega
theorem zly {a m n : Nat} (ha : 1 ≤ a) (h : m ≤ n) : a ^ m ≤ a ^ n := Nat.pow_le_pow_right ha h
theorem zuJ {g : zad} (hg : GOk g) {side : Int} {p : zag} {k c : Nat} (hk : k < g.kinds.length) (hc : (c : Int) < g.cells) : ∀ w ∈ zcl g.board side (nth g.kinds k).progs c, (zc8 g side { p with at_ := p.at_.set w.to.toNat 0, side := side } w.acts.reverse).length ≤ 9216 := by
 intro w hw
 have h1 := (zii hg (side := side) (zaj hk) (cell := (c : Int)) ⟨by omega, hc⟩ w hw).take
 have h2 := zsN hg (side := side) (zaj hk) (cell := (c : Int)) w hw
 have hr : ∀ op, zbr w.acts.reverse op = zbr w.acts op := fun op => by unfold zbr; exact List.countP_reverse ..
 have h3 := zoN hg side w.acts.reverse { p with at_ := p.at_.set w.to.toNat 0, side := side }
 rw [hr, hr] at h3
 exact Nat.le_trans h3 (Nat.mul_le_mul (zly (n := 2) (by omega) h1) (zly (n := 8) (by omega) h2))
theorem zxp {g : zad} (hg : GOk g) {side : Int} (hs : side = 0 ∨ side = 1) {p : zag} (hp : POk g p) : ∀ q ∈ zh0 g side p, POk g q := by
 intro q hq
 unfold zh0 at hq
 obtain ⟨k, hk, hq⟩ := List.mem_flatMap.1 hq
 obtain ⟨c, hc, hq⟩ := List.mem_flatMap.1 hq
 obtain ⟨w, hw, hq⟩ := List.mem_flatMap.1 hq
 have hk := List.mem_range.1 hk
 have hc := List.mem_range.1 hc
 unfold zh1 at hq
 split at hq
 ·obtain ⟨r, hr, rfl⟩ := List.mem_map.1 hq
  have hr := (List.mem_filter.1 hr).1
  have hpo := zii hg (side := side) (zaj hk) (cell := (c : Int)) ⟨by omega, by omega⟩ w hw
  have h1 : POk g { p with at_ := p.at_.set w.to.toNat 0, side := side } := by
   have := hp.setAt w.to.toNat (v := 0) (by omega)
   exact ⟨this.al, this.av, this.h0, this.h1, this.r0, this.r1, hs⟩
  obtain ⟨h2, _⟩ := zmT hg hs h1 (l := w.acts.reverse) (fun a ha => hpo.acts a (List.mem_reverse.1 ha)) r hr
  have hcd := zhB hg hk hs
  exact h2.setAt c (by omega)
 ·cases hq
theorem zsM {g : zad} (hg : GOk g) (hs : zfu g) (side : Int) {k : Nat} (hk : k < g.kinds.length) (c : Int) : (zcl g.board side (nth g.kinds k).progs c).length ≤ 72 := by
 have hkm := zaj hk
 have c9 := hg.c9
 have c1 := hg.c1
 have := zb0 (fun p => zcX g.board side p c) 9 (nth g.kinds k).progs fun p hp => by
  have h := zlx hg.board hg.c1 side p c
  have h2 : g.board.cells.toNat ≤ 9 := by have : g.board.cells = g.cells := rfl; omega
  have h1 := hs _ hkm p hp
  rcases (show zaA p 2 = 0 ∨ zaA p 2 = 1 by omega) with e | e <;> rw [e] at h <;> simp at h <;> omega
 have h8 := hg.pn _ hkm
 unfold zcl
 omega
theorem zsk {g : zad} (hg : GOk g) (hs : zfu g) {p : zag} (hp : POk g p) : (zdb g p).length ≤ 35831817 := by
 have c9 := hg.c9
 have c1 := hg.c1
 have k6 := hg.k6
 have hal := hp.al
 have h1 : (zh0 g (1 - p.side) p).length ≤ 35831808 := by
  have := zb0 (fun (k : Nat) => (List.range g.cells.toNat).flatMap fun (c : Nat) => (zcl g.board (1 - p.side) (nth g.kinds k).progs c).flatMap (zh1 g (1 - p.side) p k c)) (9 * (72 * 9216)) (List.range g.kinds.length) fun k hk => by
   have hk := List.mem_range.1 hk
   have := zb0 (fun (c : Nat) => (zcl g.board (1 - p.side) (nth g.kinds k).progs c).flatMap (zh1 g (1 - p.side) p k c)) (72 * 9216) (List.range g.cells.toNat) fun c hc => by
    have hc := List.mem_range.1 hc
    have h2 := zsM hg hs (1 - p.side) hk c
    have := zb0 (zh1 g (1 - p.side) p k c) 9216 (zcl g.board (1 - p.side) (nth g.kinds k).progs c) fun w hw => by
     have h3 := zuJ hg (side := 1 - p.side) (p := p) hk (show (c : Int) < g.cells by omega) w hw
     unfold zh1
     split
     ·rw [List.length_map]
      exact Nat.le_trans (List.length_filter_le _ _) h3
     ·simp
    refine Nat.le_trans this ?_
    omega
   rw [List.length_range] at this
   refine Nat.le_trans this ?_
   omega
  rw [List.length_range] at this
  unfold zh0
  omega
 have h2 : (ziR g (1 - p.side) p).length ≤ 9 := by
  unfold ziR
  rw [List.length_map]
  have := List.length_filter_le (fun c => decide ((zak (nth p.at_ c)).2 = 1 - p.side) && (nth g.kinds (zak (nth p.at_ c)).1.toNat).keep) (List.range p.at_.length)
  rw [List.length_range] at this
  omega
 unfold zdb
 rw [List.length_append]
 omega
def SzP (g : zad) (q : zag) : Prop := (q.at_.length : Int) = g.cells ∧ q.h0.length = g.kinds.length ∧ q.h1.length = g.kinds.length
theorem zra {g : zad} {p : zag} (hp : POk g p) (side : Int) (c : Nat) : SzP g (zoj side p c) := by
 have h1 := hp.al
 have h2 := hp.h0.len
 have h3 := hp.h1.len
 unfold zoj SzP zag.withHand zag.hand
 simp only
 split <;> simp [List.length_set, h1, h2, h3]
theorem zxr {g : zad} (hg : GOk g) {p : zag} (hp : POk g p) : (∀ q ∈ zdb g p, SzP g q) ∧ ∀ q ∈ candsR g p, SzP g q := by
 have hs := hp.s
 have hA : ∀ q ∈ zh0 g (1 - p.side) p, SzP g q := fun q hq => by
  have := zxp hg (side := 1 - p.side) (by omega) hp q hq
  exact ⟨this.al, this.h0.len, this.h1.len⟩
 refine ⟨fun q hq => ?_, fun q hq => ?_⟩
 ·rcases List.mem_append.1 hq with h | h
  ·exact hA q h
  ·obtain ⟨c, _, rfl⟩ := List.mem_map.1 h
   exact zra hp _ _
 ·rcases List.mem_append.1 hq with h | h
  ·exact hA q h
  ·obtain ⟨c, _, rfl⟩ := List.mem_map.1 h
   exact zra hp _ _
def zus (g : zad) (p : zag) (l : List zag) (i : Nat) : List zag := (l.take i).filter fun q => zfi g q && decide (p ∈ zaC g q)
theorem zuu (g : zad) (p : zag) (l : List zag) : zus g p l 0 = [] := by simp [zus]
theorem zut {g : zad} {p : zag} {l : List zag} {i : Nat} (hi : i < l.length) : zus g p l (i + 1) = if zfi g (nth l i) = true ∧ p ∈ zaC g (nth l i) then zus g p l i ++ [nth l i] else zus g p l i := by
 unfold zus
 rw [List.take_add_one, List.getElem?_eq_getElem hi, ← zau _ _ hi, Option.toList_some, List.filter_append]
 by_cases h : zfi g (nth l i) = true ∧ p ∈ zaC g (nth l i)
 ·rw [if_pos h]
  simp [h.1, h.2]
 ·rw [if_neg h]
  have : (zfi g (nth l i) && decide (p ∈ zaC g (nth l i))) = false := by
   rw [Bool.eq_false_iff]
   intro h2
   rw [Bool.and_eq_true, decide_eq_true_eq] at h2
   exact h h2
  simp [this]
theorem zxg (g : zad) (p : zag) : zus g p (zaU za7 (zdb g p)) (zaU za7 (zdb g p)).length = zcj g p := by
 unfold zus zcj
 rw [List.take_length]
theorem zxh (g : zad) (p : zag) (l : List zag) (i : Nat) : (zus g p l i).length ≤ l.length := by
 unfold zus
 have h1 := List.length_filter_le (fun q => zfi g q && decide (p ∈ zaC g q)) (l.take i)
 rw [List.length_take] at h1
 omega
def tkF (g : zad) (side : Int) (p : zag) (a i : Nat) : List zag := ((List.range g.kinds.length).drop i).flatMap (tkL g side p a)
theorem zyB {g : zad} (side : Int) (p : zag) (a : Nat) {i : Nat} (hi : i < g.kinds.length) : tkF g side p a i = tkL g side p a i ++ tkF g side p a (i + 1) := by
 unfold tkF
 have e : (List.range g.kinds.length).drop i = i :: (List.range g.kinds.length).drop (i + 1) := by
  rw [List.drop_eq_getElem_cons (by simpa using hi)]; simp
 rw [e, List.flatMap_cons]
theorem zAr (g : zad) (side : Int) (p : zag) (a : Nat) : tkF g side p a g.kinds.length = [] := by
 unfold tkF
 rw [List.drop_eq_nil_of_le (by simp)]
 rfl
def zch (q : zag) : List AV := [.agg (zac q)]
theorem zxm {n : Nat} {L : List zag} : (∀ r ∈ L.map zch, ∀ c ∈ r, Bel n c) = True := by
 refine eq_true ?_
 intro r hr c hc
 obtain ⟨x, _, rfl⟩ := List.mem_map.1 hr
 simp only [zch, List.mem_cons, List.not_mem_nil, or_false] at hc
 subst hc
 simp [go_sem]
attribute [go_sem ↓] zxm
theorem zuC {n l more : Nat} {L : List zag} : Bel n (za2 l more (L.map zch)) := by
 simp only [za2, zm2, zir, List.forall_mem_cons, ztM, zbR]
 simp [go_sem]
theorem zer (p : zag) (hf : zaK p) (c v : Int) (h0 : 0 ≤ c) (hc : c.toNat < p.at_.length) : zaP Tryz.prog 203 [.agg (zac p), .v (.int .i64 c), .v (.int .i64 v)] (.agg (zac { p with at_ := p.at_.set c.toNat v })) := by
 refine pF Tryz.func203 ?_
 have hC := zdv p.at_ hf.1
 repeat first|refine wV fun _=>?_|simp [go_sem]
 refine zAH hC (by simp [go_sem]) ?_
 repeat first|refine wV fun _=>?_|simp [go_sem, hc]
 exact frX
theorem zkW (p : zag) (hf : zaK p) (s k by_ : Int) (hs : s = 0 ∨ s = 1) (h0 : 0 ≤ k) (hk : k.toNat < (p.hand s).length) (hb : -1000 ≤ nth (p.hand s) k.toNat + by_ ∧ nth (p.hand s) k.toNat + by_ ≤ 1000) : zaP Tryz.prog 205 [.agg (zac p), .v (.int .i64 s), .v (.int .i64 k), .v (.int .i64 by_)] (.agg (zac (p.withHand s ((p.hand s).set k.toNat (nth (p.hand s) k.toNat + by_))))) := by
 refine pF Tryz.func205 ?_
 rcases hs with rfl | rfl
 ·have hC := zdv p.h0 hf.2.1
  rw [show p.hand 0 = p.h0 from rfl] at hk hb ⊢
  repeat first|refine wV fun _=>?_|simp [go_sem]
  refine zAH hC (by simp [go_sem]) ?_
  simp only [zag.withHand]
  repeat first|refine wV fun _=>?_|simp [go_sem, hk]
  (repeat' (first | (with_reducible apply And.intro) | ((refine LeV.frz rfl ?_ ?_ (zAN ?_)) <;> first | (simp [noH]; done) | (rw [List.drop_zero, List.take_of_length_le (by simp)]))))
 ·have hC := zdv p.h1 hf.2.2
  rw [show p.hand 1 = p.h1 from rfl] at hk hb ⊢
  repeat first|refine wV fun _=>?_|simp [go_sem]
  refine zAH hC (by simp [go_sem]) ?_
  simp only [zag.withHand]
  repeat first|refine wV fun _=>?_|simp [go_sem, hk]
  (repeat' (first | (with_reducible apply And.intro) | ((refine LeV.frz rfl ?_ ?_ (zAN ?_)) <;> first | (simp [noH]; done) | (rw [List.drop_zero, List.take_of_length_le (by simp)]))))
def zww (n : Nat) : AV := .fn (.func 295) [] [.ref (n + 2) 0 3 0 0, .ref n 0 9 0 0, .ref (n + 1) 0 5 0 0]
def zwx (g : zad) (p : zag) (x : zdk) (n : Nat) : List (Nat × zbn) := [(n, .rows true 0 9 [zae g]), (n + 1, .rows true 0 5 [zac p]), (n + 2, .rows true 0 3 [zbf x])]
theorem zwA (g : zad) (p : zag) (x : zdk) : zgS Tryz.prog 251 [.agg (zae g), .agg (zac p), .agg (zbf x)] zww (zwx g p x) 3 := by
 refine ⟨?_, fun n => ⟨by simp [go_sem, zww], by simp [go_sem, zwx]⟩⟩
 refine zAJ (by kernel_rfl) Tryz.func251 rfl rfl (Nat.le_of_ble_eq_true rfl) (by kernel_rfl) ?_
 repeat first|refine wV fun _=>?_|simp [go_sem, zww, zwx]
 simp [go_sem, zaf]
theorem zwB (g : zad) (hg : GOk g) (p : zag) (hp : POk g p) (x : zdk) (hx : zeX g.cells g.kinds.length g.rights x) :
  zoX Tryz.prog 295 [.fp (zbf x), .fp (zae g), .ref 0 0 5 0 0] [(0, .rows true 0 5 [zac p])] 1 0 ((zfp g p.side p x).map zch) := by
 refine zA9 (by kernel_rfl) Tryz.func295 rfl rfl (Nat.le_of_ble_eq_true rfl) (by kernel_rfl) (fun l => ?_) (hm2 := by decide)
 obtain ⟨op, a, b⟩ := x
 unfold zeX at hx
 simp only at hx
 have hf := hp.fits hg
 have hal := hp.al
 have hk6 := hg.k6
 have hs := hp.s
 have hgh : ∀ (n : Nat) (L : List zag), Bel n (za2 l 0 (L.map zch)) = True := fun n (L : List zag) => eq_true zuC
 have hegl : (zae g).length = 9 := rfl
 have hegk : cel (zae g) 3 = .lst 3 (g.kinds.map zaV) := rfl
 have hegb : ∀ n, (∀ c ∈ zae g, Bel n c) = True := fun n => by simp [go_sem]
 by_cases h6 : op = 6
 ·subst h6
  obtain ⟨hx1, hx2⟩ : 0 ≤ a ∧ a.toNat < p.at_.length := by omega
  rw [zht rfl]
  have hz : (List.range g.kinds.length).flatMap (tkL g p.side p a.toNat) = tkF g p.side p a.toNat 0 := rfl
  have hts := fun i (hi : i < g.kinds.length) => zyB (g := g) p.side p a.toNat hi
  have hte := zAr g p.side p a.toNat
  have hCo := fun (k : Nat) => zdx k (1 - p.side)
  have hW := fun (k : Nat) => zer p hf a (zaL k (1 - p.side)) hx1 hx2
  have hCt := fun (k : Nat) (hk : k < g.kinds.length) => zkW { p with at_ := p.at_.set a.toNat (zaL k (1 - p.side)) } ⟨by simpa [zeY] using hf.1, hf.2⟩ p.side k (-1) hs (by omega) (by have := (hp.hand p.side).len; simpa [zag.hand] using (show k < (p.hand p.side).length by omega))
  simp only at hz ⊢
  rw [hz]
  repeat first|refine wV fun _=>?_|simp [go_sem, GH, hegl]
  refine zAC (zAG (α := Nat) (fun k => ⟨[(0, .fn (.yield l) [] []), (1, .fp (zbf (6, a, b))), (2, .fp (zae g)), (3, .ref 0 0 5 0 0), (17, .v (.int .i64 g.kinds.length)), (18, .v (.int .i64 k)), (1000000007, za2 l 0 ((tkF g p.side p a.toNat k).map zch))], [(0, .rows true 0 5 [zac p])], 1⟩)
   (fun d k => k + d = g.kinds.length) ?_ g.kinds.length 0 ?_) ?_ ?_
  ·rintro d k k1 hrec
   repeat first|refine wV fun _=>?_|simp [go_sem, GH, hegl]
   refine zAE (fun hk => ?_) (fun hk => ?_) <;> simp at hk
   ·have hts := hts k hk
    have hCo := hCo k
    have hW := hW k
    have hkh : k < (p.hand p.side).length := by have := (hp.hand p.side).len; omega
    have hv := (hp.hand p.side).v k hkh
    have hCt := hCt k hk (by
     show -1000 ≤ nth (p.hand p.side) ((k : Int)).toNat + -1 ∧ nth (p.hand p.side) ((k : Int)).toNat + -1 ≤ 1000
     rw [Int.toNat_natCast]; omega)
    unfold tkL tkP at hts
    generalize hcd : zaL k (1 - p.side) = cd at *
    try simp only at hts
    try simp only at hW
    try simp only at hCt
    generalize hA : p.at_.set a.toNat cd = A at *
    repeat first|refine wV fun _=>?_|simp [go_sem, GH, hegl]
    refine zAF hCo (by simp [go_sem]) ?_
    repeat first|refine wV fun _=>?_|simp [go_sem, GH, hegl]
    refine zAF hW (by simp [go_sem]) ?_
    repeat first|refine wV fun _=>?_|simp [go_sem, GH, hegl]
    have hgk : nth (g.kinds.map zaV) k = zaV (nth g.kinds k) := zcC _ _ _ hk
    have hax : 0 ≤ a := hx1
    repeat first|refine wV fun _=>?_|simp [go_sem, GH, hegl, hk, hgk]
    refine zAE (fun hkp => ?_) (fun hkp => ?_)
    ·rw [if_pos hkp] at hts
     simp only [Int.toNat_natCast] at hCt
     obtain ⟨Q, hQ⟩ : ∃ Q, Q = (⟨A, p.h0, p.h1, p.rights, p.side⟩ : zag).withHand p.side ((p.hand p.side).set k (nth (p.hand p.side) k - 1)) := ⟨_, rfl⟩
     rw [← hQ] at hts
     replace hCt : zaP Tryz.prog 205 [.agg (zac ⟨A, p.h0, p.h1, p.rights, p.side⟩), .v (.int .i64 p.side), .v (.int .i64 k), .v (.int .i64 (-1))] (.agg (zac Q)) := by rw [hQ]; exact hCt
     repeat first|refine wV fun _=>?_|simp [go_sem, GH, hegl]
     refine zAD hCt (by simp [go_sem]) ?_
     rcases hs with hs | hs
     ·have hqh : Q.hand p.side = Q.h0 := by rw [hs]; rfl
      have hql : k < Q.h0.length := by rw [← hqh, hQ, zgD, List.length_set]; exact hkh
      rw [hqh] at hts
      by_cases hz0 : nth p.at_ a.toNat = 0
      ·by_cases hz1 : 0 ≤ nth Q.h0 k
       ·rw [if_pos ⟨hz0, hz1⟩] at hts
        rw [hts]
        repeat first|refine wV fun _=>?_|simp [go_sem, GH, hegl, hs, hx2, hz0, hz1, hql]
        refine aGC.yld (more := 0) (xs := zch Q) (rs := (tkF g p.side p a.toNat (k + 1)).map zch) _ (by simp [upd, GH, hs]) (.refl _) (.refl _ _ _ _) (by simp [go_sem, zch]) ?_ ?_
        ·repeat first|refine wV fun _=>?_|simp [go_sem, GH, hegl]
         refine zAC (hrec (d - 1) (by omega) (k + 1) (by omega)) ?_ (by simp)
         simp [go_sem, zaf, GH, hgh, hs]
        ·repeat first|refine wV fun _=>?_|simp [go_sem, GH, hegl]
       ·rw [if_neg (fun h => hz1 h.2), List.nil_append] at hts
        rw [hts]
        have hz2 : nth Q.h0 k < 0 := by omega
        repeat first|refine wV fun _=>?_|simp [go_sem, GH, hegl, hs, hx2, hz0, hz1, hql, hz2]
        refine aGC.skip (.v (.bool true)) ?_
        repeat first|refine wV fun _=>?_|simp [go_sem, GH, hegl]
        refine zAC (hrec (d - 1) (by omega) (k + 1) (by omega)) ?_ (by simp)
        simp [go_sem, zaf, GH, hgh, hs]
      ·rw [if_neg (fun h => hz0 h.1), List.nil_append] at hts
       rw [hts]
       repeat first|refine wV fun _=>?_|simp [go_sem, GH, hegl, hs, hx2, hz0, hql]
       refine aGC.skip (.v (.bool true)) ?_
       repeat first|refine wV fun _=>?_|simp [go_sem, GH, hegl]
       refine zAC (hrec (d - 1) (by omega) (k + 1) (by omega)) ?_ (by simp)
       simp [go_sem, zaf, GH, hgh, hs]
     ·have hqh : Q.hand p.side = Q.h1 := by rw [hs]; rfl
      have hql : k < Q.h1.length := by rw [← hqh, hQ, zgD, List.length_set]; exact hkh
      rw [hqh] at hts
      by_cases hz0 : nth p.at_ a.toNat = 0
      ·by_cases hz1 : 0 ≤ nth Q.h1 k
       ·rw [if_pos ⟨hz0, hz1⟩] at hts
        rw [hts]
        repeat first|refine wV fun _=>?_|simp [go_sem, GH, hegl, hs, hx2, hz0, hz1, hql]
        refine aGC.yld (more := 0) (xs := zch Q) (rs := (tkF g p.side p a.toNat (k + 1)).map zch) _ (by simp [upd, GH, hs]) (.refl _) (.refl _ _ _ _) (by simp [go_sem, zch]) ?_ ?_
        ·repeat first|refine wV fun _=>?_|simp [go_sem, GH, hegl]
         refine zAC (hrec (d - 1) (by omega) (k + 1) (by omega)) ?_ (by simp)
         simp [go_sem, zaf, GH, hgh, hs]
        ·repeat first|refine wV fun _=>?_|simp [go_sem, GH, hegl]
       ·rw [if_neg (fun h => hz1 h.2), List.nil_append] at hts
        rw [hts]
        have hz2 : nth Q.h1 k < 0 := by omega
        repeat first|refine wV fun _=>?_|simp [go_sem, GH, hegl, hs, hx2, hz0, hz1, hql, hz2]
        refine aGC.skip (.v (.bool true)) ?_
        repeat first|refine wV fun _=>?_|simp [go_sem, GH, hegl]
        refine zAC (hrec (d - 1) (by omega) (k + 1) (by omega)) ?_ (by simp)
        simp [go_sem, zaf, GH, hgh, hs]
      ·rw [if_neg (fun h => hz0 h.1), List.nil_append] at hts
       rw [hts]
       repeat first|refine wV fun _=>?_|simp [go_sem, GH, hegl, hs, hx2, hz0, hql]
       refine aGC.skip (.v (.bool true)) ?_
       repeat first|refine wV fun _=>?_|simp [go_sem, GH, hegl]
       refine zAC (hrec (d - 1) (by omega) (k + 1) (by omega)) ?_ (by simp)
       simp [go_sem, zaf, GH, hgh, hs]
    ·rw [if_neg (show ¬ (nth g.kinds k).keep = true by simp [hkp])] at hts
     obtain ⟨Q, hQ⟩ : ∃ Q : zag, Q = ⟨A, p.h0, p.h1, p.rights, p.side⟩ := ⟨_, rfl⟩
     have hq0 : p.h0 = Q.h0 := by rw [hQ]
     have hq1 : p.h1 = Q.h1 := by rw [hQ]
     have hqx : AV.agg [.lst 1 (A.map zbB), .lst 1 (p.h0.map zbB), .lst 1 (p.h1.map zbB), .v (.int .i64 p.rights), .v (.int .i64 p.side)] = .agg (zac Q) := by rw [hQ]; rfl
     rw [← hQ] at hts
     rcases hs with hs | hs
     ·have hqh : Q.hand p.side = Q.h0 := by rw [hs]; rfl
      have hql : k < Q.h0.length := by rw [← hqh, hQ]; exact hkh
      rw [hqh] at hts
      by_cases hz0 : nth p.at_ a.toNat = 0
      ·by_cases hz1 : 0 ≤ nth Q.h0 k
       ·rw [if_pos ⟨hz0, hz1⟩] at hts
        rw [hts]
        repeat first|refine wV fun _=>?_|simp [go_sem, GH, hegl, hs, hx2, hz0, hz1, hql, hq0, hq1]
        refine aGC.yld (more := 0) (xs := zch Q) (rs := (tkF g p.side p a.toNat (k + 1)).map zch) _ (by simp [upd, GH, hs]) (.refl _) (by rw [hQ]; simp only [zch, zac, zap, hs]; exact .refl _ _ _ _) (by simp [go_sem, zch]) ?_ ?_
        ·repeat first|refine wV fun _=>?_|simp [go_sem, GH, hegl]
         refine zAC (hrec (d - 1) (by omega) (k + 1) (by omega)) ?_ (by simp)
         simp [go_sem, zaf, GH, hgh, hs, hq0, hq1]
        ·repeat first|refine wV fun _=>?_|simp [go_sem, GH, hegl]
       ·rw [if_neg (fun h => hz1 h.2), List.nil_append] at hts
        rw [hts]
        have hz2 : nth Q.h0 k < 0 := by omega
        repeat first|refine wV fun _=>?_|simp [go_sem, GH, hegl, hs, hx2, hz0, hz1, hql, hz2, hq0, hq1]
        refine aGC.skip (.v (.bool true)) ?_
        repeat first|refine wV fun _=>?_|simp [go_sem, GH, hegl]
        refine zAC (hrec (d - 1) (by omega) (k + 1) (by omega)) ?_ (by simp)
        simp [go_sem, zaf, GH, hgh, hs, hq0, hq1]
      ·rw [if_neg (fun h => hz0 h.1), List.nil_append] at hts
       rw [hts]
       repeat first|refine wV fun _=>?_|simp [go_sem, GH, hegl, hs, hx2, hz0, hql, hq0, hq1]
       refine aGC.skip (.v (.bool true)) ?_
       repeat first|refine wV fun _=>?_|simp [go_sem, GH, hegl]
       refine zAC (hrec (d - 1) (by omega) (k + 1) (by omega)) ?_ (by simp)
       simp [go_sem, zaf, GH, hgh, hs, hq0, hq1]
     ·have hqh : Q.hand p.side = Q.h1 := by rw [hs]; rfl
      have hql : k < Q.h1.length := by rw [← hqh, hQ]; exact hkh
      rw [hqh] at hts
      by_cases hz0 : nth p.at_ a.toNat = 0
      ·by_cases hz1 : 0 ≤ nth Q.h1 k
       ·rw [if_pos ⟨hz0, hz1⟩] at hts
        rw [hts]
        repeat first|refine wV fun _=>?_|simp [go_sem, GH, hegl, hs, hx2, hz0, hz1, hql, hq0, hq1]
        refine aGC.yld (more := 0) (xs := zch Q) (rs := (tkF g p.side p a.toNat (k + 1)).map zch) _ (by simp [upd, GH, hs]) (.refl _) (by rw [hQ]; simp only [zch, zac, zap, hs]; exact .refl _ _ _ _) (by simp [go_sem, zch]) ?_ ?_
        ·repeat first|refine wV fun _=>?_|simp [go_sem, GH, hegl]
         refine zAC (hrec (d - 1) (by omega) (k + 1) (by omega)) ?_ (by simp)
         simp [go_sem, zaf, GH, hgh, hs, hq0, hq1]
        ·repeat first|refine wV fun _=>?_|simp [go_sem, GH, hegl]
       ·rw [if_neg (fun h => hz1 h.2), List.nil_append] at hts
        rw [hts]
        have hz2 : nth Q.h1 k < 0 := by omega
        repeat first|refine wV fun _=>?_|simp [go_sem, GH, hegl, hs, hx2, hz0, hz1, hql, hz2, hq0, hq1]
        refine aGC.skip (.v (.bool true)) ?_
        repeat first|refine wV fun _=>?_|simp [go_sem, GH, hegl]
        refine zAC (hrec (d - 1) (by omega) (k + 1) (by omega)) ?_ (by simp)
        simp [go_sem, zaf, GH, hgh, hs, hq0, hq1]
      ·rw [if_neg (fun h => hz0 h.1), List.nil_append] at hts
       rw [hts]
       repeat first|refine wV fun _=>?_|simp [go_sem, GH, hegl, hs, hx2, hz0, hql, hq0, hq1]
       refine aGC.skip (.v (.bool true)) ?_
       repeat first|refine wV fun _=>?_|simp [go_sem, GH, hegl]
       refine zAC (hrec (d - 1) (by omega) (k + 1) (by omega)) ?_ (by simp)
       simp [go_sem, zaf, GH, hgh, hs, hq0, hq1]
   ·obtain rfl : k = g.kinds.length := by omega
    rw [hte]
    repeat first|refine wV fun _=>?_|simp [go_sem, GH, hegl]
  ·omega
  ·simp [go_sem, zaf, GH, hgh]
  ·simp
 have hz6 : ¬ op = 6 := h6
 unfold zfp
 rw [if_neg h6]
 by_cases h7 : op = 7
 ·subst h7
  obtain ⟨hx1, hx2, hx3, hx4⟩ : 0 ≤ a ∧ a.toNat < p.at_.length ∧ 0 ≤ b ∧ b.toNat < p.at_.length := by omega
  rw [if_pos rfl]
  have hW1 := zer p hf a (nth p.at_ b.toNat) hx1 hx2
  have hW2 := zer { p with at_ := p.at_.set a.toNat (nth p.at_ b.toNat) } ⟨by simpa [zeY] using hf.1, hf.2⟩ b 0 hx3 (by simpa using hx4)
  simp only at hW2 ⊢
  obtain ⟨A, hA⟩ : ∃ A, A = p.at_.set a.toNat (nth p.at_ b.toNat) := ⟨_, rfl⟩
  rw [← hA] at hW1 hW2 ⊢
  obtain ⟨B, hB⟩ : ∃ B, B = A.set b.toNat 0 := ⟨_, rfl⟩
  rw [← hB] at hW2 ⊢
  by_cases hz : nth p.at_ b.toNat ≠ 0 ∧ nth p.at_ a.toNat = 0
  ·rw [if_pos hz]
   obtain ⟨z1, z2⟩ := hz
   have z3 : ¬ nth p.at_ b.toNat = 0 := z1
   (repeat (first|with_reducible (first|refine wL fun _=>?_|refine wD fun _=>?_|refine wE ?_)|simp [go_sem, GH, hegl, hx2, hx4, z3, z2]))
   refine znm.split 14 ?_
   repeat first|refine wV fun _=>?_|simp [go_sem, GH, hegl, hx2, hx4, z3, z2]
   refine zAF hW1 (by simp [go_sem]) ?_
   repeat first|refine wV fun _=>?_|simp [go_sem, GH, hegl, hx2, hx4, z3, z2]
   refine zAF hW2 (by simp [go_sem]) ?_
   repeat first|refine wV fun _=>?_|simp [go_sem, GH, hegl]
   refine zoP.mk (more := 0) (xs := zch ⟨B, p.h0, p.h1, p.rights, p.side⟩) (rs := []) _ (by simp [upd, GH]) (.refl _) (.refl _ _ _ _) (by simp [go_sem, zch]) ?_ ?_
   ·repeat first|refine wV fun _=>?_|simp [go_sem, GH, hegl]
   ·repeat first|refine wV fun _=>?_|simp [go_sem, GH, hegl]
  ·rw [if_neg hz]
   have z4 : nth p.at_ b.toNat = 0 ∨ ¬ nth p.at_ a.toNat = 0 := by
    by_cases h : nth p.at_ b.toNat = 0
    ·exact .inl h
    ·exact .inr fun h2 => hz ⟨h, h2⟩
   rcases z4 with z4 | z4
   ·repeat first|refine wV fun _=>?_|simp [go_sem, GH, hegl, hx2, hx4, z4]
   ·repeat first|refine wV fun _=>?_|simp [go_sem, GH, hegl, hx2, hx4, z4]
 rw [if_neg h7]
 by_cases h10 : op = 10
 ·subst h10
  rw [if_pos rfl]
  have hr4 := hg.r4
  have hx1 : 0 ≤ a ∧ a < 4 := by omega
  have hpw : (1 : Int) ≤ 2 ^ a.toNat ∧ (2 : Int) ^ a.toNat ≤ 8 := by
   rcases (show a.toNat = 0 ∨ a.toNat = 1 ∨ a.toNat = 2 ∨ a.toNat = 3 by omega) with h | h | h | h <;> rw [h] <;> decide
  unfold zvD
  generalize hgp : (2 : Int) ^ a.toNat = pw at *
  by_cases hz : zgi .i64 p.rights pw = 0
  ·rw [if_pos (by simpa using hz)]
   have ha0 : 0 ≤ a := hx1.1
   have ha1 : a ≤ 64 := by omega
   repeat first|refine wV fun _=>?_|simp [go_sem, GH, hegl, hz, hgp]
   refine aGC.yld (more := 0) (xs := zch p) (rs := [zch { p with rights := orN .i64 p.rights pw }]) _ (by simp [upd, GH]) (.refl _) (.refl _ _ _ _) (by simp [go_sem, zch]) ?_ ?_
   ·repeat first|refine wV fun _=>?_|simp [go_sem, GH, hegl, hgp]
    refine zoP.mk (more := 0) (xs := zch { p with rights := orN .i64 p.rights pw }) (rs := []) _ (by simp [upd, GH]) (.refl _) (.refl _ _ _ _) (by simp [go_sem, zch]) ?_ ?_
    ·repeat first|refine wV fun _=>?_|simp [go_sem, GH, hegl]
    ·repeat first|refine wV fun _=>?_|simp [go_sem, GH, hegl]
   ·repeat first|refine wV fun _=>?_|simp [go_sem, GH, hegl]
  ·rw [if_neg (by simpa using hz)]
   repeat first|refine wV fun _=>?_|simp [go_sem, GH, hegl, hz, hgp]
   refine aGC.skip (.v (.bool true)) ?_
   repeat first|refine wV fun _=>?_|simp [go_sem, GH, hegl]
 ·rw [if_neg h10]
  repeat first|refine wV fun _=>?_|simp [go_sem, GH, hegl, h6, h7, h10]
  refine zoP.mk (more := 0) (xs := zch p) (rs := []) _ (by simp [upd, GH]) (.refl _) (.refl _ _ _ _) (by simp [go_sem, zch]) ?_ ?_
  ·repeat first|refine wV fun _=>?_|simp [go_sem, GH, hegl]
  ·repeat first|refine wV fun _=>?_|simp [go_sem, GH, hegl]
def zj4 (n : Nat) : AV := .fn (.func 250) [] [.ref (n + 2) 0 1 0 0, .ref (n + 1) 0 5 0 0, .ref n 0 9 0 0]
def zj5 (g : zad) (p : zag) (l : List zdk) (n : Nat) : List (Nat × zbn) := [(n, .rows true 0 9 [zae g]), (n + 1, .rows true 0 5 [zac p]), (n + 2, .rows true 0 1 [[zcp l]])]
theorem zhT (g : zad) (p : zag) (l : List zdk) : zgS Tryz.prog 204 [.agg (zae g), .agg (zac p), zcp l] zj4 (zj5 g p l) 3 := by
 refine ⟨?_, fun n => ⟨by simp [go_sem, zj4], by simp [go_sem, zj5]⟩⟩
 refine zAJ (by kernel_rfl) Tryz.func204 rfl rfl (Nat.le_of_ble_eq_true rfl) (by kernel_rfl) ?_
 repeat first|refine wV fun _=>?_|simp [go_sem, zj4, zj5]
 simp [go_sem, zaf]
theorem zqB (g : zad) (hg : GOk g) : ∀ (n : Nat) (acts : List zdk) (p : zag), acts.length = n → n ≤ 1048576 → POk g p → (∀ a ∈ acts, zeX g.cells g.kinds.length g.rights a) →
  zlQ Tryz.prog 250 [.fp [zcp acts], .fp (zac p), .fp (zae g)] 0 ((zc8 g p.side p acts.reverse).map zch) := by
 intro n
 induction n with
 | zero =>
  intro acts p hn _ hp _
  obtain rfl := List.eq_nil_of_length_eq_zero hn
  refine zAV (by kernel_rfl) Tryz.func250 rfl rfl (Nat.le_of_ble_eq_true rfl) (by kernel_rfl) (fun l => ?_) (hm2 := by decide)
  have e : (zc8 g p.side p ([] : List zdk).reverse).map zch = [zch p] := rfl
  rw [e]
  repeat first|refine wV fun _=>?_|simp [go_sem, GH]
  refine zoP.mk (more := 0) (xs := zch p) (rs := []) _ (by simp [upd, GH]) (.refl _) (.refl _ _ _ _) (by simp [go_sem, zch]) ?_ ?_
  ·repeat first|refine wV fun _=>?_|simp [go_sem, GH]
  ·repeat first|refine wV fun _=>?_|simp [go_sem, GH]
 | succ n ih =>
  intro acts p hn hn2 hp hacts
  obtain ⟨init, x, he⟩ : ∃ init x, acts = init ++ [x] := by
   rcases List.eq_nil_or_concat acts with h | ⟨i, x, h⟩
   ·rw [h] at hn; cases hn
   ·exact ⟨i, x, by rw [h, List.concat_eq_append]⟩
  have hin : init.length = n := by rw [he, List.length_append, List.length_singleton] at hn; omega
  have hx := hacts x (by rw [he]; simp)
  have hacts' : ∀ a ∈ init, zeX g.cells g.kinds.length g.rights a := fun a ha => hacts a (by rw [he]; simp [ha])
  have er : zc8 g p.side p acts.reverse = (zfp g p.side p x).flatMap fun q => zc8 g p.side q init.reverse := by rw [he, List.reverse_append]; rfl
  have hnt : nth (acts.map zbf) n = zbf x := by
   rw [zcC _ _ _ (by omega), zau _ _ (by omega)]
   simp [he, ← hin]
  have htk : (acts.map zbf).take n = init.map zbf := by rw [he, List.map_append, List.take_left' (by simp [hin])]
  clear he
  have hU : zgS Tryz.prog 251 [.agg (zae g), .agg (zac p), .agg (zbf x)] (fun n => zww n) (fun n => zwx g p x n) 3 := zwA g p x
  simp only [zww, zwx] at hU
  have hQ := zwB g hg p hp x hx
  have hok := zrr hg hp.s hp hx
  have hAll : ∀ q, POk g q → zgS Tryz.prog 204 [.agg (zae g), .agg (zac q), zcp init] (fun n => zj4 n) (fun n => zj5 g q init n) 3 := fun q _ => zhT g q init
  simp only [zj4, zj5] at hAll
  have hSeq := fun (q : zag) (hq : POk g q) => ih init q hin (by omega) hq hacts'
  refine zAV (by kernel_rfl) Tryz.func250 rfl rfl (Nat.le_of_ble_eq_true rfl) (by kernel_rfl) (fun l => ?_) (hm2 := by decide)
  have hgh : ∀ (n : Nat) (L : List zag), Bel n (za2 l 0 (L.map zch)) = True := fun n (L : List zag) => eq_true zuC
  have hgh2 : ∀ (n : Nat) (a b : List zag), Bel n (za2 l 0 (a.map zch ++ b.map zch)) = True := fun n a b => by rw [← List.map_append]; exact hgh n _
  have hegl : (zae g).length = 9 := rfl
  have hegb : ∀ n, (∀ c ∈ zae g, Bel n c) = True := fun n => by simp [go_sem]
  rw [er]
  generalize zfp g p.side p x = qs at *
  have hlt : n < acts.length := by omega
  have hzero : ((n : Int) + 1 = 0) = False := eq_false (by omega)
  (repeat (first|with_reducible (first|refine wL fun _=>?_|refine wD fun _=>?_|refine wE ?_)|simp [go_sem, GH, hn, hnt, hlt, hzero]))
  refine znm.split 6 ?_
  repeat first|refine wV fun _=>?_|simp [go_sem, GH, hn, hnt, hlt, hzero]
  refine zAH hU (by simp [go_sem]) ?_
  repeat first|refine wV fun _=>?_|simp [go_sem, GH]
  have hep : zac p = [zap p.at_, zap p.h0, zap p.h1, .v (.int .i64 p.rights), .v (.int .i64 p.side)] := rfl
  refine zdP.give [.fp (zbf x), .fp (zae g), .ref 0 0 5 0 0] (zbt _ [11, 9]) 10 [zac p] hQ (zcw _ _) (by simp [zbt, zbV, upd]; rfl) (.refl _) (by simp [go_sem]) ?_ (fun xs hx => by obtain ⟨y, _, rfl⟩ := List.mem_map.1 hx; rfl) ?_
  ·simp only [zqI, zm7, zm6, and_true]
   refine ⟨.frzP rfl ?_ ?_ ?_ ?_, ?_, .frzP rfl ?_ ?_ ?_ ?_, ?_⟩ <;> first | exact zan.refl _ _ _ _ | (simp [zbt, zbV, upd]; done) | (simp [go_sem]; done)
  ·refine Fgt.to (zAU (α := List zag) (fun qs => ([(1, .fp [zcp acts]), (3, .fp (zae g)), (4, .ref 0 0 1 0 0), (5, .ref 1 0 1 0 0), (1000000007, za2 l 0 ((qs.flatMap fun q => zc8 g p.side q init.reverse).map zch))], [(0, .rows true 0 1 [[.fn (.yield l) [] []]]), (1, .rows true 0 1 [[.v (.int .i64 n)]])], 2))
    (fun rows qs => rows = qs.map zch ∧ ∀ q ∈ qs, POk g q ∧ q.side = p.side) ?_ ?_ _ qs ?_) ?_ ?_
   ·rintro qs ⟨i1, i2⟩
    obtain rfl : qs = [] := by
     cases qs with
     | nil => rfl
     | cons => cases i1
    refine ⟨rfl, ?_⟩
    repeat first|refine wV fun _=>?_|simp [go_sem, GH]
   ·rintro xs rs qs ⟨i1, i2⟩ hrec
    obtain ⟨q, qs, rfl⟩ : ∃ q t, qs = q :: t := by
     cases qs with
     | nil => cases i1
     | cons q t => exact ⟨q, t, rfl⟩
    rw [List.map_cons, List.cons.injEq] at i1
    obtain ⟨rfl, rfl⟩ := i1
    obtain ⟨hq, hqs⟩ := i2 q (by simp)
    have hA := hAll q hq
    have hS := hSeq q hq
    rw [hqs] at hS
    rw [List.flatMap_cons]
    refine zAY (Nat.zero_le _) ?_
    (repeat (first|with_reducible (first|refine wL fun _=>?_|refine wD fun _=>?_|refine wE ?_)|simp [go_sem, GH, zch]))
    refine znm.split 5 ?_
    have hcn : ((n : Int)).toNat = n := by omega
    repeat first|refine wV fun _=>?_|simp [go_sem, GH, hn, htk, hcn]
    refine zAH hA (by simp [go_sem]) ?_
    repeat first|refine wV fun _=>?_|simp [go_sem, GH]
    refine zdP.mk [.fp [zcp init], .fp (zac q), .fp (zae g)] (zbt _ [9, 10, 11]) hS (zcw _ _) ?_ (by simp [go_sem]) (fun xs hx => by obtain ⟨y, _, rfl⟩ := List.mem_map.1 hx; rfl) ?_
    ·refine zan.cons (.frzP rfl ?_ ?_ ?_ ?_) (zan.cons (.frzP rfl ?_ ?_ ?_ ?_) (zan.cons (.frzP rfl ?_ ?_ ?_ ?_) .nil)) <;> first | exact zan.refl _ _ _ _ | (simp [zbt, zbV, upd]; done)
    generalize hrest : (qs.flatMap fun q => zc8 g p.side q init.reverse) = rest at *
    generalize zc8 g p.side q init.reverse = ys at *
    refine Fgt.to (zAU (α := List zag) (fun ys => ([(1, .fp [zcp acts]), (3, .fp (zae g)), (4, .ref 0 0 1 0 0), (5, .ref 1 0 1 0 0), (1000000007, za2 l 0 ((ys ++ rest).map zch))], [(0, .rows true 0 1 [[.fn (.yield l) [] []]]), (1, .rows true 0 1 [[.v (.int .i64 n)]])], 2))
     (fun rows ys => rows = ys.map zch) ?_ ?_ _ ys rfl) ?_ ?_
    ·rintro ys i1
     obtain rfl : ys = [] := by
      cases ys with
      | nil => rfl
      | cons => cases i1
     refine ⟨rfl, ?_⟩
     repeat first|refine wV fun _=>?_|simp [go_sem, GH]
     refine Fgt.to (hrec qs ⟨rfl, fun z hz => i2 z (by simp [hz])⟩) ?_ (by simp)
     simp [go_sem, zaf, hgh, GH, hrest]
    ·rintro xs rs ys i1 hrec2
     obtain ⟨y, ys, rfl⟩ : ∃ q t, ys = q :: t := by
      cases ys with
      | nil => cases i1
      | cons q t => exact ⟨q, t, rfl⟩
     rw [List.map_cons, List.cons.injEq] at i1
     obtain ⟨rfl, rfl⟩ := i1
     rw [List.cons_append]
     refine zAY (Nat.le_refl _) ?_
     repeat first|refine wV fun _=>?_|simp [go_sem, GH, zch]
     refine zoP.mk (more := 0) (xs := zch y) (rs := (ys ++ rest).map zch) _ (by simp [upd, GH]; rfl) (.refl _) (.refl _ _ _ _) (by simp [go_sem, zch]) ?_ ?_
     ·repeat first|refine wV fun _=>?_|simp [go_sem, GH]
      refine Fgt.to (hrec2 ys rfl) ?_ (by simp)
      simp [go_sem, zaf, hgh, hgh2, GH]
     ·repeat first|refine wV fun _=>?_|simp [go_sem, GH]
    ·simp [go_sem, zaf, hgh, hgh2, GH]
    ·simp
   ·exact ⟨rfl, hok⟩
   ·simp [go_sem, zaf, hgh, GH]
   ·simp
theorem nofz_A {l : List zdk} : (∀ r ∈ l.map zbf, ∀ c ∈ r, zft c) = True := by
 refine eq_true ?_
 intro r hr c hc
 obtain ⟨x, _, rfl⟩ := List.mem_map.1 hr
 revert c
 simp [go_sem]
attribute [go_sem ↓] nofz_A
theorem ztR (m : Int) (h0 : 0 ≤ m) (h1 : m ≤ 17179869184) : zgS Tryz.prog 289 [zAI, .v (.int .i64 m)] (fun n => .sl n 0 3 0 0) (fun n => [(n, .rows true 0 3 [])]) 1 := by
 refine ⟨?_, fun n => ⟨by simp [go_sem], by simp [go_sem]⟩⟩
 by_cases hm : m = 0
 ·subst hm
  refine zAJ (by kernel_rfl) Tryz.func289 rfl rfl (Nat.le_of_ble_eq_true rfl) (by kernel_rfl) ?_
  repeat first|refine wV fun _=>?_|simp [go_sem]
  simp [go_sem, zaf]
 ·refine zaa.clear ?_
  refine zAJ (by kernel_rfl) Tryz.func289 rfl rfl (Nat.le_of_ble_eq_true rfl) (by kernel_rfl) ?_
  repeat first|refine wV fun _=>?_|simp [go_sem]
  (refine zAE (fun hF => by first | omega | (simp at hF; omega)) (fun hF => ?_); clear hF)
  repeat first|refine wV fun _=>?_|simp [go_sem]
  (refine zAE (fun hT => ?_) (fun hT => by first | omega | (simp at hT; omega)); clear hT)
  repeat first|refine wV fun _=>?_|simp [go_sem]
  refine ⟨0, 0, 3, by decide, ⟨rfl, rfl, rfl⟩, ?_⟩
  simp [go_sem, zaf]
theorem zoU (a b : List zdk) (ha : a.length ≤ 1048576) (hb : b.length ≤ 1048576) : zgS Tryz.prog 242 [.lst 1 [[zcp a], [zcp b]]]
  (fun n => .sl n 2 3 0 (a.length + b.length)) (fun n => [(n, .rows true 2 3 ((a ++ b).map zbf))]) 1 := by
 refine ⟨?_, fun n => ⟨by simp [go_sem], by simp [go_sem]⟩⟩
 refine zAJ (by kernel_rfl) Tryz.func242 rfl rfl (Nat.le_of_ble_eq_true rfl) (by kernel_rfl) ?_
 repeat first|refine wV fun _=>?_|simp [go_sem]
 refine zAK ?_
 repeat first|refine wV fun _=>?_|simp [go_sem]
 (refine zAE (fun hF => by first | omega | (simp at hF; omega)) (fun hF => ?_); clear hF)
 repeat first|refine wV fun _=>?_|simp [go_sem]
 refine zAK ?_
 repeat first|refine wV fun _=>?_|simp [go_sem]
 (refine zAE (fun hF => by first | omega | (simp at hF; omega)) (fun hF => ?_); clear hF)
 repeat first|refine wV fun _=>?_|simp [go_sem]
 refine zAK ?_
 repeat first|refine wV fun _=>?_|simp [go_sem]
 refine zAH (ztR _ (by omega) (by omega)) (by simp [go_sem]) ?_
 repeat first|refine wV fun _=>?_|simp [go_sem]
 refine zAK ?_
 repeat first|refine wV fun _=>?_|simp [go_sem]
 refine zAK ?_
 repeat first|refine wV fun _=>?_|simp [go_sem]
 refine zAK ?_
 repeat first|refine wV fun _=>?_|simp [go_sem]
 simp [go_sem, zaf]
theorem zva (p : za5) (to : Int) (more : List zdk) (ha : p.acts.length ≤ 1048576) (hb : more.length ≤ 1048576) : zgS Tryz.prog 241 [.v (.int .i64 to), zcp more, .fp (zaH p)]
  (fun n => .agg [.sl (n + 2) 2 3 0 (p.acts.length + more.length), .v (.int .i64 to)]) (fun n => [(n + 2, .rows true 2 3 ((p.acts ++ more).map zbf))]) 3 := by
 refine ⟨?_, fun n => ⟨by simp [go_sem], by simp [go_sem]⟩⟩
 refine zAJ (by kernel_rfl) Tryz.func241 rfl rfl (Nat.le_of_ble_eq_true rfl) (by kernel_rfl) ?_
 repeat first|refine wV fun _=>?_|simp [go_sem]
 refine zAQ (zoU p.acts more ha hb) (by simp [go_sem]) (by simp [go_sem]) ?_ (by simp [go_sem]) ?_
 ·simp only [zcp]
  refine zan.cons ?_ zan.nil
  refine zaB rfl (by simp) (by simp [noH, upd]) ?_
  simp [go_sem]
 ·repeat first|refine wV fun _=>?_|simp [go_sem]
  simp [go_sem, zaf]
theorem zgO (p : za5) : ∀ (l : List Int) (passed : List zdk) (c : Int), zct p (l ++ [c]) passed = zct p l passed ++ [onP p c (passed ++ l.map fun c => (3, c, 0))]
 | [], passed, c => by simp [zct, onP]
 | d :: l, passed, c => by simp [zct, zgO p l]
def zhl (l : List Int) : List zdk := l.map fun c => (3, c, 0)
theorem zox (l : List Int) (c : Int) : zhl (l ++ [c]) = zhl l ++ [(3, c, 0)] := by simp [zhl]
theorem zv0 (l : List Int) : (zhl l).length = l.length := by simp [zhl]
theorem zqx (p : za5) (l : List Int) {i : Nat} (h : i < l.length) : zct p (l.take (i + 1)) [] = zct p (l.take i) [] ++ [onP p (nth l i) (zhl (l.take i))] ∧ zhl (l.take (i + 1)) = zhl (l.take i) ++ [(3, nth l i, 0)] := by
 rw [List.take_add_one, List.getElem?_eq_getElem h, zau _ _ h, Option.toList_some, zgO, zox]
 exact ⟨by simp [zhl], rfl⟩
theorem zpV (b : zaJ) (hb : za1 b) (h9 : b.cells ≤ 9) (side : Int) (p : za5) (hp : p.acts.length ≤ 1000000) (x : Int × Int) :
  zaP Tryz.prog 194 [.agg (zdC b), .v (.int .i64 side), .agg (zaH p), .agg [.v (.int .i64 x.1), .v (.int .i64 x.2)]] (zcB (zk0 b side p x)) := by
 refine pF Tryz.func194 ?_
 obtain ⟨op, N⟩ := x
 have hT := zic b hb side N p.to
 have hL := zkR b hb side N p.to
 have hll := zmF hb (side := side) (d := N) (c := p.to)
 have hO := fun to more (h : more.length ≤ 1048576) => zva p to more (by omega) h
 have hE : zk0 b side p (op, N) = if op = 1 ∨ op = 7 then
  if toB b side N p.to < 0 then [] else if op = 1 then [onP p (toB b side N p.to) []] else [onP p p.to [(7, p.to, toB b side N p.to)]]
  else if op = 2 then zct p (zf7 b side N p.to) []
  else if op = 8 ∨ op = 9 ∨ op = 10 then [onP p p.to [(op, N, 0)]]
  else [onP p p.to [(op, p.to, 0)]] := rfl
 generalize toB b side N p.to = to at *
 generalize zf7 b side N p.to = line at *
 generalize zk0 b side p (op, N) = R at *
 have hbl : ∀ n, (∀ c' ∈ zdC b, Bel n c') = True := fun n => by simp [go_sem]
 have hel : (zdC b).length = 3 := rfl
 have hte : (zdC b).take 3 = zdC b := rfl
 obtain ⟨eb, heb⟩ : ∃ eb, eb = zdC b := ⟨_, rfl⟩
 rw [← heb] at hbl hel hT hL hte ⊢
 repeat first|refine wV fun _=>?_|simp [go_sem, hel, hte]
 refine zAE (fun h1 => ?_) (fun h1 => ?_) <;> simp at h1
 ·subst h1
  repeat first|refine wV fun _=>?_|simp [go_sem, hel, hte]
  refine zAD hT (by simp [go_sem, hbl]) ?_
  repeat first|refine wV fun _=>?_|simp [go_sem, hel, hte]
  refine zAE (fun ht => ?_) (fun ht => ?_) <;> simp at ht
  ·rw [if_pos (by omega), if_pos ht] at hE
   rw [hE]
   repeat first|refine wV fun _=>?_|simp [go_sem, hel, hte]
  ·rw [if_pos (by omega), if_neg (by omega), if_pos rfl] at hE
   rw [hE]
   repeat first|refine wV fun _=>?_|simp [go_sem, hel, hte]
   refine zAQ (hO to [] (by simp)) (by simp [go_sem]) (by simp [go_sem]) ?_ (by simp [go_sem]) ?_
   ·(first|done|exact leX)
   ·repeat first|refine wV fun _=>?_|simp [go_sem, hel, hte, onP]
    (first|done|exact leX)
 ·repeat first|refine wV fun _=>?_|simp [go_sem, hel, hte]
  refine zAE (fun h7 => ?_) (fun h7 => ?_) <;> simp at h7
  ·subst h7
   repeat first|refine wV fun _=>?_|simp [go_sem, hel, hte]
   refine zAD hT (by simp [go_sem, hbl]) ?_
   repeat first|refine wV fun _=>?_|simp [go_sem, hel, hte]
   refine zAE (fun ht => ?_) (fun ht => ?_) <;> simp at ht
   ·rw [if_pos (by omega), if_pos ht] at hE
    rw [hE]
    repeat first|refine wV fun _=>?_|simp [go_sem, hel, hte]
   ·rw [if_pos (by omega), if_neg (by omega), if_neg (by omega)] at hE
    rw [hE]
    repeat first|refine wV fun _=>?_|simp [go_sem, hel, hte]
    refine zAQ (hO p.to [(7, p.to, to)] (by simp)) (by simp [go_sem]) (by simp [go_sem]) ?_ (by simp [go_sem]) ?_
    ·(first|done|exact leX)
    ·repeat first|refine wV fun _=>?_|simp [go_sem, hel, hte, onP]
     (first|done|exact leX)
  ·rw [if_neg (by omega)] at hE
   repeat first|refine wV fun _=>?_|simp [go_sem, hel, hte]
   refine zAE (fun h2 => ?_) (fun h2 => ?_) <;> simp at h2
   ·subst h2
    rw [if_pos rfl] at hE
    repeat first|refine wV fun _=>?_|simp [go_sem, hel, hte]
    refine zAD hL (by simp [go_sem, hbl]) ?_
    repeat first|refine wV fun _=>?_|simp [go_sem, hel, hte]
    refine zAC (zAG (α := Nat) (fun i => ⟨[(9, .fn (.func 241) [] [.ref 1 0 2 0 0]), (11, .sl 3 i 2 0 i), (12, .sl 4 i 3 0 i), (55, zap line), (56, .v (.int .i64 line.length)), (57, .v (.int .i64 i))],
      [(1, .rows true 0 2 [zaH p]), (3, .rows true i 2 ((zct p (line.take i) []).map zaH)), (4, .rows true i 3 ((zhl (line.take i)).map zbf))], 5⟩)
     (fun d i => i + d = line.length) ?_ line.length 0 ?_) ?_ ?_
    ·rintro d i i1 hrec
     have hsl : (zct p (line.take i) []).length = i := by rw [zhq]; simp; omega
     have hpl : (zhl (line.take i)).length = i := by rw [zv0]; simp; omega
     repeat first|refine wV fun _=>?_|simp [go_sem, hel, hte]
     refine zAE (fun hi => ?_) (fun hi => ?_) <;> simp at hi
     ·obtain ⟨s1, s2⟩ := zqx p line hi
      repeat first|refine wV fun _=>?_|simp [go_sem, hi]
      refine zAQ (hO (nth line i) (zhl (line.take i)) (by omega)) (by simp [go_sem]) (by simp [go_sem]) ?_ (by simp [go_sem]) ?_
      ·((try simp only [zax, zaO, zbf, zcp, zaH, zcB, zaF, zal, zac, zcS, zbb, zaI, zap, zae, List.map_cons, List.map_nil, List.nil_append, List.append_nil, List.cons_append]); (repeat (first | (with_reducible first|exact zan.nil|exact zam.nil|exact LeV.refl _|exact zan.refl _ _ _ _|exact zam.refl _|refine zan.cons ?_ ?_|refine zam.cons ?_ ?_|refine LeV.agg ?_|refine LeV.tup ?_|refine LeV.fn ?_ ?_|exact LeV.nil _|refine zar (zam.refl _) ?_) | ((refine zaB rfl (by simp [hpl]) (by simp [zbt, zbV, upd, noH]) ?_); (first | (simp [go_sem, hpl]; done) | (simp [go_sem, hpl]; exact List.take_of_length_le (by simp [hpl])))) | ((refine LeV.frz rfl (by simp [hpl]) (by simp [zbt, zbV, upd, noH]) ?_); (simp only [List.drop_zero, List.take_succ_cons, List.take_zero, List.map_cons, List.map_nil])) | ((refine LeV.frzP rfl (by simp [hpl]) (by simp) (by simp [zbt, zbV, upd, noH]) ?_); (simp only [zbg, List.drop_zero])))))
      ·repeat first|refine wV fun _=>?_|simp [go_sem, hi, hsl, hpl]
       refine zAC (hrec (d - 1) (by omega) (i + 1) (by omega)) ?_ (by simp)
       simp [go_sem, zaf, s1, s2, onP, hpl]
       ((try simp only [zax, zaO, zbf, zcp, zaH, zcB, zaF, zal, zac, zcS, zbb, zaI, zap, zae, List.map_cons, List.map_nil, List.nil_append, List.append_nil, List.cons_append]); (repeat (first | (with_reducible first|exact zan.nil|exact zam.nil|exact LeV.refl _|exact zan.refl _ _ _ _|exact zam.refl _|refine zan.cons ?_ ?_|refine zam.cons ?_ ?_|refine LeV.agg ?_|refine LeV.tup ?_|refine LeV.fn ?_ ?_|exact LeV.nil _|refine zar (zam.refl _) ?_) | ((refine zaB rfl (by simp [hpl]) (by simp [zbt, zbV, upd, noH]) ?_); (first | (simp [go_sem, hpl]; done) | (simp [go_sem, hpl]; exact List.take_of_length_le (by simp [hpl])))) | ((refine LeV.frz rfl (by simp [hpl]) (by simp [zbt, zbV, upd, noH]) ?_); (simp only [List.drop_zero, List.take_succ_cons, List.take_zero, List.map_cons, List.map_nil])) | ((refine LeV.frzP rfl (by simp [hpl]) (by simp) (by simp [zbt, zbV, upd, noH]) ?_); (simp only [zbg, List.drop_zero])))))
     ·have hil : i = line.length := by omega
      subst hil
      rw [List.take_length] at hsl ⊢
      rw [hE]
      repeat first|refine wV fun _=>?_|simp [go_sem, hsl]
      ((try simp only [zax, zaO, zbf, zcp, zaH, zcB, zaF, zal, zac, zcS, zbb, zaI, zap, zae, List.map_cons, List.map_nil, List.nil_append, List.append_nil, List.cons_append]); (repeat (first | (with_reducible first|exact zan.nil|exact zam.nil|exact LeV.refl _|exact zan.refl _ _ _ _|exact zam.refl _|refine zan.cons ?_ ?_|refine zam.cons ?_ ?_|refine LeV.agg ?_|refine LeV.tup ?_|refine LeV.fn ?_ ?_|exact LeV.nil _|refine zar (zam.refl _) ?_) | ((refine zaB rfl (by simp [hsl]) (by simp [zbt, zbV, upd, noH]) ?_); (first | (simp [go_sem, hsl]; done) | (simp [go_sem, hsl]; exact List.take_of_length_le (by simp [hsl])))) | ((refine LeV.frz rfl (by simp [hsl]) (by simp [zbt, zbV, upd, noH]) ?_); (simp only [List.drop_zero, List.take_succ_cons, List.take_zero, List.map_cons, List.map_nil])) | ((refine LeV.frzP rfl (by simp [hsl]) (by simp) (by simp [zbt, zbV, upd, noH]) ?_); (simp only [zbg, List.drop_zero])))))
    ·simp
    ·simp [go_sem, zaf, zct, zhl]
    ·simp
   ·rw [if_neg h2] at hE
    repeat first|refine wV fun _=>?_|simp [go_sem, hel, hte]
    refine zAE (fun h8 => ?_) (fun h8 => ?_) <;> simp at h8
    ·subst h8
     rw [if_pos (by omega)] at hE
     rw [hE]
     repeat first|refine wV fun _=>?_|simp [go_sem, hel, hte]
     refine zAQ (hO p.to [(8, N, 0)] (by simp)) (by simp [go_sem]) (by simp [go_sem]) ?_ (by simp [go_sem]) ?_
     ·(first|done|exact leX)
     ·repeat first|refine wV fun _=>?_|simp [go_sem, hel, hte, onP]
      (first|done|exact leX)
    ·repeat first|refine wV fun _=>?_|simp [go_sem, hel, hte]
     refine zAE (fun h99 => ?_) (fun h99 => ?_) <;> simp at h99
     ·subst h99
      rw [if_pos (by omega)] at hE
      rw [hE]
      repeat first|refine wV fun _=>?_|simp [go_sem, hel, hte]
      refine zAQ (hO p.to [(9, N, 0)] (by simp)) (by simp [go_sem]) (by simp [go_sem]) ?_ (by simp [go_sem]) ?_
      ·(first|done|exact leX)
      ·repeat first|refine wV fun _=>?_|simp [go_sem, hel, hte, onP]
       (first|done|exact leX)
     ·repeat first|refine wV fun _=>?_|simp [go_sem, hel, hte]
      refine zAE (fun h10 => ?_) (fun h10 => ?_) <;> simp at h10
      ·subst h10
       rw [if_pos (by omega)] at hE
       rw [hE]
       repeat first|refine wV fun _=>?_|simp [go_sem, hel, hte]
       refine zAQ (hO p.to [(10, N, 0)] (by simp)) (by simp [go_sem]) (by simp [go_sem]) ?_ (by simp [go_sem]) ?_
       ·(first|done|exact leX)
       ·repeat first|refine wV fun _=>?_|simp [go_sem, hel, hte, onP]
        (first|done|exact leX)
      ·rw [if_neg (by omega)] at hE
       rw [hE]
       repeat first|refine wV fun _=>?_|simp [go_sem, hel, hte]
       refine zAQ (hO p.to [(op, p.to, 0)] (by simp)) (by simp [go_sem]) (by simp [go_sem]) ?_ (by simp [go_sem]) ?_
       ·(first|done|exact leX)
       ·repeat first|refine wV fun _=>?_|simp [go_sem, hel, hte, onP]
        (first|done|exact leX)
def zpX {α β : Type} (F : α → List β) (l : List α) (i : Nat) : List β := (l.take i).flatMap F
theorem zn1 {α β : Type} [Inhabited α] (F : α → List β) (l : List α) {i : Nat} (h : i < l.length) : zpX F l (i + 1) = zpX F l i ++ F (nth l i) := by
 unfold zpX
 rw [List.take_add_one, List.getElem?_eq_getElem h, zau _ _ h, Option.toList_some, List.flatMap_append]
 simp
theorem zn2 {α β : Type} (F : α → List β) (l : List α) : zpX F l 0 = [] := by simp [zpX]
theorem zig {α β : Type} (F : α → List β) (l : List α) : zpX F l l.length = l.flatMap F := by simp [zpX]
theorem zmv {α β : Type} (F : α → List β) (l : List α) (i : Nat) : (zpX F l i).length ≤ (l.flatMap F).length := by
 unfold zpX
 conv => rhs; rw [← List.take_append_drop i l]
 rw [List.flatMap_append, List.length_append]
 omega
theorem zsC (l : List (List (Int × Int))) (hl : l.length ≤ 1048576) (f : FuncId) (caps : List AV) (F : List (Int × Int) → List za5) (hF : ∀ x ∈ l, zaP Tryz.prog f (zax x :: caps) (zcB (F x))) (hb : ∀ c ∈ caps, Bel 0 c)
  (hn : (l.flatMap F).length ≤ 8589934592) : zaP Tryz.prog 138 [.lst 1 (l.map fun p => [zax p]), .fn (.func f) [] caps] (zcB (l.flatMap F)) := by
 refine pF Tryz.func138 ?_
 rw [← zig F l] at hn ⊢
 repeat first|refine wV fun _=>?_|simp [go_sem]
 refine zAC (zAG (α := Nat) (fun i => ⟨[(1, .fn (.func f) [] caps), (5, .sl 0 i 2 0 (zpX F l i).length), (8, .lst 1 (l.map fun p => [zax p])), (9, .v (.int .i64 l.length)), (10, .v (.int .i64 i))], [(0, .rows true i 2 ((zpX F l i).map zaH))], 1⟩)
  (fun d i => i + d = l.length) ?_ l.length 0 ?_) ?_ ?_
 ·rintro d i i1 hrec
  have hni := zmv F l i
  repeat first|refine wV fun _=>?_|simp [go_sem]
  refine zAE (fun hi => ?_) (fun hi => ?_) <;> simp at hi
  ·have hs := zn1 F l hi
   have hns := zmv F l (i + 1)
   rw [hs, List.length_append] at hns
   rw [zig] at hn
   repeat first|refine wV fun _=>?_|simp [go_sem, hi]
   refine zAD (hF _ (zaj hi)) (by simp [go_sem]; exact hb) ?_
   repeat first|refine wV fun _=>?_|simp [go_sem, hi]
   refine zAC (hrec (d - 1) (by omega) (i + 1) (by omega)) ?_ (by simp)
   simp [go_sem, zaf, hs]
   exact fun c hc => (hb c hc).mono (Nat.zero_le _)
  ·have hil : i = l.length := by omega
   subst hil
   generalize zpX F l l.length = R at *
   repeat first|refine wV fun _=>?_|simp [go_sem]
   (first|done|exact leX)
 ·simp
 ·simp [go_sem, zaf, zn2]
  exact fun c hc => (hb c hc).mono (Nat.zero_le _)
 ·simp
theorem zsB (l : List za5) (hl : l.length ≤ 1073741824) (f : FuncId) (caps : List AV) (F : za5 → List za5) (hF : ∀ x ∈ l, zaP Tryz.prog f (.agg (zaH x) :: caps) (zcB (F x))) (hb : ∀ c ∈ caps, Bel 0 c)
  (hn : (l.flatMap F).length ≤ 8589934592) : zaP Tryz.prog 192 [zcB l, .fn (.func f) [] caps] (zcB (l.flatMap F)) := by
 refine pF Tryz.func192 ?_
 rw [← zig F l] at hn ⊢
 repeat first|refine wV fun _=>?_|simp [go_sem]
 refine zAC (zAG (α := Nat) (fun i => ⟨[(1, .fn (.func f) [] caps), (5, .sl 0 i 2 0 (zpX F l i).length), (8, zcB l), (9, .v (.int .i64 l.length)), (10, .v (.int .i64 i))], [(0, .rows true i 2 ((zpX F l i).map zaH))], 1⟩)
  (fun d i => i + d = l.length) ?_ l.length 0 ?_) ?_ ?_
 ·rintro d i i1 hrec
  have hni := zmv F l i
  repeat first|refine wV fun _=>?_|simp [go_sem]
  refine zAE (fun hi => ?_) (fun hi => ?_) <;> simp at hi
  ·have hs := zn1 F l hi
   have hns := zmv F l (i + 1)
   rw [hs, List.length_append] at hns
   rw [zig] at hn
   repeat first|refine wV fun _=>?_|simp [go_sem, hi]
   refine zAD (hF _ (zaj hi)) (by simp [go_sem]; exact hb) ?_
   repeat first|refine wV fun _=>?_|simp [go_sem, hi]
   refine zAC (hrec (d - 1) (by omega) (i + 1) (by omega)) ?_ (by simp)
   simp [go_sem, zaf, hs]
   exact fun c hc => (hb c hc).mono (Nat.zero_le _)
  ·have hil : i = l.length := by omega
   subst hil
   generalize zpX F l l.length = R at *
   repeat first|refine wV fun _=>?_|simp [go_sem]
   (first|done|exact leX)
 ·simp
 ·simp [go_sem, zaf, zn2]
  exact fun c hc => (hb c hc).mono (Nat.zero_le _)
 ·simp
theorem zqn (b : zaJ) (hb : za1 b) (h9 : b.cells ≤ 9) (side : Int) (p : za5) (hp : p.acts.length ≤ 1000000) (x : Int × Int) :
  zaP Tryz.prog 193 [.agg (zaH p), .fp (zdC b), .fp [.v (.int .i64 side)], .fp [.v (.int .i64 x.1), .v (.int .i64 x.2)]] (zcB (zk0 b side p x)) := by
 refine pF Tryz.func193 ?_
 have hE := zpV b hb h9 side p hp x
 generalize zk0 b side p x = R at *
 repeat first|refine wV fun _=>?_|simp [go_sem]
 refine zAD hE (by simp [go_sem]) ?_
 repeat first|refine wV fun _=>?_|simp [go_sem]
def zek (b : zaJ) (side : Int) (prog : List (Int × Int)) (cell : Int) (i : Nat) : List za5 := zcX b side (prog.take i) cell
theorem zjH (b : zaJ) (side : Int) (prog : List (Int × Int)) (cell : Int) {i : Nat} (h : i < prog.length) : zek b side prog cell (i + 1) = (zek b side prog cell i).flatMap fun w => zk0 b side w (nth prog i) := by
 unfold zek zcX
 rw [List.take_add_one, List.getElem?_eq_getElem h, zau _ _ h, Option.toList_some, List.foldl_append]
 rfl
theorem zgc {b : zaJ} (hb : za1 b) (h9 : b.cells ≤ 9) (side : Int) (prog : List (Int × Int)) (cell : Int) : ∀ i, i ≤ prog.length → zhu (10 * i) (zek b side prog cell i)
 | 0, _ => by
  intro w hw
  simp [zek, zcX] at hw
  subst hw
  simp
 | i + 1, h => by
  rw [zjH b side prog cell (by omega)]
  exact ztw hb h9 side (zgc hb h9 side prog cell i (by omega)) _
theorem zlw {b : zaJ} (hb : za1 b) (h1 : 1 ≤ b.cells) (h9 : b.cells ≤ 9) (side : Int) (prog : List (Int × Int)) (hp : prog.length ≤ 8) (cell : Int) (i : Nat) : (zek b side prog cell i).length ≤ 43046721 := by
 have h := zlx hb h1 side (prog.take i) cell
 have hc : zaA (prog.take i) 2 ≤ 8 := by
  unfold zaA
  have := List.countP_le_length (p := fun x : Int × Int => x.1 == 2) (l := prog.take i)
  simp at this
  omega
 have h2 : b.cells.toNat ^ zaA (prog.take i) 2 ≤ 9 ^ zaA (prog.take i) 2 := Nat.pow_le_pow_left (by omega) _
 have h3 : 9 ^ zaA (prog.take i) 2 ≤ 9 ^ 8 := Nat.pow_le_pow_right (by omega) hc
 unfold zek
 omega
theorem zta (b : zaJ) (hb : za1 b) (h1 : 1 ≤ b.cells) (h9 : b.cells ≤ 9) (side : Int) (prog : List (Int × Int)) (hp : prog.length ≤ 8) (cell : Int) :
  zaP Tryz.prog 140 [.agg (zdC b), .v (.int .i64 side), zax prog, .v (.int .i64 cell)] (zcB (zcX b side prog cell)) := by
 refine pF Tryz.func140 ?_
 have hR : zcX b side prog cell = zek b side prog cell prog.length := by unfold zek; rw [List.take_length]
 have hl := zlw hb h1 h9 side prog hp cell
 have ha := zgc hb h9 side prog cell
 have hs := fun (i : Nat) (h : i < prog.length) => zjH b side prog cell h
 have h0 : zek b side prog cell 0 = [⟨[], cell⟩] := rfl
 rw [hR]
 have hP := fun w hw x => zqn b hb h9 side w hw x
 generalize zek b side prog cell = K at *
 generalize hXb : zk0 b side = E at *
 have hbl : ∀ n, (∀ c' ∈ zdC b, Bel n c') = True := fun n => by simp [go_sem]
 have hel : (zdC b).length = 3 := rfl
 have hte : (zdC b).take 3 = zdC b := rfl
 obtain ⟨eb, heb⟩ : ∃ eb, eb = zdC b := ⟨_, rfl⟩
 rw [← heb] at hbl hel hte ⊢
 have hP' : ∀ w : za5, w.acts.length ≤ 1000000 → ∀ x : Int × Int, zaP Tryz.prog 193 [.agg (zaH w), .fp eb, .fp [.v (.int .i64 side)], .fp [.v (.int .i64 x.1), .v (.int .i64 x.2)]] (zcB (E w x)) := fun w hw x => by rw [heb]; exact hP w hw x
 clear hP
 repeat first|refine wV fun _=>?_|simp [go_sem, hel, hte]
 refine zAC (zAG (α := Nat) (fun i => ⟨[(4, .ref 0 0 3 0 0), (5, .ref 1 0 1 0 0), (9, zcB (K i)), (15, zax prog), (16, .v (.int .i64 prog.length)), (17, .v (.int .i64 i))], [(0, .rows false 0 3 [eb]), (1, .rows false 0 1 [[.v (.int .i64 side)]])], 2⟩)
  (fun d i => i + d = prog.length) ?_ prog.length 0 ?_) ?_ ?_
 ·rintro d i i1 hrec
  have hli := hl i
  repeat first|refine wV fun _=>?_|simp [go_sem, hel, hte]
  refine zAE (fun hi => ?_) (fun hi => ?_) <;> simp at hi
  ·have hsi := hs i hi
   have hls := hl (i + 1)
   have hai := ha i (by omega)
   repeat first|refine wV fun _=>?_|simp [go_sem, hel, hte, hi]
   refine zAL [2] (zsB (K i) (by omega) 193 [.fp eb, .fp [.v (.int .i64 side)], .fp [.v (.int .i64 (nth prog i).1), .v (.int .i64 (nth prog i).2)]] (fun w => E w (nth prog i)) (fun w hw => hP' w (by have := hai w hw; omega) _) (by simp [go_sem, hbl]) (by rw [← hsi]; omega)) ?_ (by simp [go_sem, hbl]) ?_
   ·(first|done|exact leX)
   ·rw [← hsi]
    repeat first|refine wV fun _=>?_|simp [go_sem, hel, hte]
    refine zAC (hrec (d - 1) (by omega) (i + 1) (by omega)) ?_ (by simp)
    simp [go_sem, zaf, hbl]
  ·have hil : i = prog.length := by omega
   subst hil
   generalize K prog.length = R at *
   repeat first|refine wV fun _=>?_|simp [go_sem]
 ·simp
 ·simp [go_sem, zaf, h0, hbl]
  (first|done|exact leX)
 ·simp
end Go.Av
end
