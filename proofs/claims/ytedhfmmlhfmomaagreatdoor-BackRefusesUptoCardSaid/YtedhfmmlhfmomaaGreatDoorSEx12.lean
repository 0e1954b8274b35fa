/- Texts of ours, part 12: contracts and facts for this claim. -/
import Derived.Test.YtedhfmmlhfmomaaGreatDoorB12
import Derived.Test.YtedhfmmlhfmomaaGreatDoorSEx09
set_option linter.unusedSimpArgs false
set_option linter.unusedVariables false
set_option maxRecDepth 100000
set_option maxHeartbeats 40000000
section
open Go Go.Proofs
namespace Go.Av
theorem zfU (v : List zah × Int) (h1 : v.1.length ≤ 4000) (h2 : ∀ q ∈ v.1, zaU q) : zaL Tryz.prog 30 [zb7 v, zb7 v] (.v (.bool true)) := by
 have := zfK v v (by omega) (by omega) h2 h2
 rwa [show decide (v = v) = true from decide_eq_true rfl] at this
theorem ze0 (x : zqW) (hx : zf8 x) (n : Int) (hn : -9223372036854775808 ≤ n ∧ n ≤ 9223372036854775807) : zaL Tryz.prog 7 [.agg (zcI x), .v (.int .i64 n)] (.v (.bool true)) := by
 refine pF Tryz.func7 ?_
 have hM := zeD x hx
 have hg := zeM hx
 have hp := zmU hx
 have hos : zbm (zc9 x) := zeQ x.g
 obtain ⟨er, her⟩ : ∃ er, er = zcI x := ⟨_, rfl⟩
 have herl : er.length = 31 := by rw [her]; exact ziV hx
 have herb : ∀ n, (∀ c ∈ er, Bel n c) = True := fun n => by rw [her]; exact ziU hx n
 rw [← her] at hM ⊢
 generalize zc9 x = g at *
 generalize zyO x = p at *
 have hS := zd1
 have hLi := zeO g hg hos
 generalize decide (zek (zbE g) ≤ 300) = li at *
 obtain ⟨k, hk⟩ : ∃ k, k = if 0 ≤ n ∧ n ≤ 6 then 7 + n else n := ⟨_, rfl⟩
 have c1 := zdE g hg hos p hp k
 have ec : zcL g p k = ([], 1) := by
  unfold zcL
  rw [if_pos (by rw [hk]; split <;> omega)]
 rw [ec] at c1
 have hgo := zrw hg
 have hoo : zbm (zg8 g) := hos
 have hpo : POk (zg8 g) p := zoI.2 hp
 have b1 := zcK (zg8 g) hgo hoo p hpo
 have eb : zbQ (zg8 g) p = ([], 0) := by
  unfold zbQ
  rw [zoH hg]
  rfl
 have d1 := zdE (zg8 g) hgo hoo p hpo 1
 rw [zsM] at d1
 rw [eb] at b1 d1
 have s1 := zfU ([], 1) (by simp) (by simp)
 have s2 := zfU ([], 0) (by simp) (by simp)
 clear hgo hoo hpo eb ec
 have hgx : zac (zg8 g) = [.v (.int .i64 g.cells), zcg g.next, zap g.turn, .lst 3 (g.kinds.map zaS), .v (.int .i64 g.rights), .v (.bool g.must), .lst 4 [[.v (.int .i64 3), .v (.int .i64 0), .v (.int .i64 64), .v (.int .i64 2)]], .v (.int .i64 g.blocked), .v (.int .i64 g.endless)] := rfl
 rw [hgx] at b1 d1
 unfold zcg at b1 d1
 have hegb : ∀ n, (∀ c ∈ zac g, Bel n c) = True := fun n => by simp [go_sem]
 unfold zb7 at c1 b1 d1 s1 s2
 repeat first|refine wV fun _=>?_|simp [go_sem, herl]
 refine zAs hS (by simp [go_sem]) ?_
 repeat first|refine wV fun _=>?_|simp [go_sem, herl]
 refine zAs hM (by simp [go_sem, herb]) ?_
 repeat first|refine wV fun _=>?_|simp [go_sem, herl]
 refine zAs hLi (by simp [go_sem, hegb]) ?_
 cases li
 ·repeat first|refine wV fun _=>?_|simp [go_sem]
 ·repeat first|refine wV fun _=>?_|simp [go_sem]
  by_cases h0 : 0 ≤ n
  ·by_cases h6 : n ≤ 6
   ·rw [if_pos ⟨h0, h6⟩] at hk
    subst hk
    repeat first|refine wV fun _=>?_|simp [go_sem, h0, h6]
    refine zAs c1 (by simp [go_sem]) ?_
    repeat first|refine wV fun _=>?_|simp [go_sem, h0, h6]
    refine zAy [] s1 ?_ (by simp [go_sem]) ?_
    ·(first|done|exact leX)
    repeat first|refine wV fun _=>?_|simp [go_sem, h0, h6]
    refine zAO ?_
    refine zAy [4] b1 ?_ (by simp [go_sem]) ?_
    ·(first|done|exact leX)
    repeat first|refine wV fun _=>?_|simp [go_sem, h0, h6]
    refine zAO ?_
    refine zAy [] s2 ?_ (by simp [go_sem]) ?_
    ·(first|done|exact leX)
    repeat first|refine wV fun _=>?_|simp [go_sem, h0, h6]
    refine zAO ?_
    refine zAy [] d1 ?_ (by simp [go_sem]) ?_
    ·(first|done|exact leX)
    repeat first|refine wV fun _=>?_|simp [go_sem, h0, h6]
    refine zAO ?_
    refine zAy [] s2 ?_ (by simp [go_sem]) ?_
    ·(first|done|exact leX)
    repeat first|refine wV fun _=>?_|simp [go_sem, h0, h6]
   ·rw [if_neg (fun h => h6 h.2)] at hk
    subst hk
    repeat first|refine wV fun _=>?_|simp [go_sem, h0, h6]
    refine zAs c1 (by simp [go_sem]) ?_
    repeat first|refine wV fun _=>?_|simp [go_sem, h0, h6]
    refine zAy [] s1 ?_ (by simp [go_sem]) ?_
    ·(first|done|exact leX)
    repeat first|refine wV fun _=>?_|simp [go_sem, h0, h6]
    refine zAO ?_
    refine zAy [4] b1 ?_ (by simp [go_sem]) ?_
    ·(first|done|exact leX)
    repeat first|refine wV fun _=>?_|simp [go_sem, h0, h6]
    refine zAO ?_
    refine zAy [] s2 ?_ (by simp [go_sem]) ?_
    ·(first|done|exact leX)
    repeat first|refine wV fun _=>?_|simp [go_sem, h0, h6]
    refine zAO ?_
    refine zAy [] d1 ?_ (by simp [go_sem]) ?_
    ·(first|done|exact leX)
    repeat first|refine wV fun _=>?_|simp [go_sem, h0, h6]
    refine zAO ?_
    refine zAy [] s2 ?_ (by simp [go_sem]) ?_
    ·(first|done|exact leX)
    repeat first|refine wV fun _=>?_|simp [go_sem, h0, h6]
  ·rw [if_neg (fun h => h0 h.1)] at hk
   subst hk
   repeat first|refine wV fun _=>?_|simp [go_sem, h0]
   refine zAs c1 (by simp [go_sem]) ?_
   repeat first|refine wV fun _=>?_|simp [go_sem, h0]
   refine zAy [] s1 ?_ (by simp [go_sem]) ?_
   ·(first|done|exact leX)
   repeat first|refine wV fun _=>?_|simp [go_sem, h0]
   refine zAO ?_
   refine zAy [4] b1 ?_ (by simp [go_sem]) ?_
   ·(first|done|exact leX)
   repeat first|refine wV fun _=>?_|simp [go_sem, h0]
   refine zAO ?_
   refine zAy [] s2 ?_ (by simp [go_sem]) ?_
   ·(first|done|exact leX)
   repeat first|refine wV fun _=>?_|simp [go_sem, h0]
   refine zAO ?_
   refine zAy [] d1 ?_ (by simp [go_sem]) ?_
   ·(first|done|exact leX)
   repeat first|refine wV fun _=>?_|simp [go_sem, h0]
   refine zAO ?_
   refine zAy [] s2 ?_ (by simp [go_sem]) ?_
   ·(first|done|exact leX)
   repeat first|refine wV fun _=>?_|simp [go_sem, h0]
end Go.Av
end
