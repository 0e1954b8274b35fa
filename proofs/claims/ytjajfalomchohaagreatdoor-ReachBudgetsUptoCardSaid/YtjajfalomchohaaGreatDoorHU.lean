/- The laws ReachGames, ReachBudgets and ReachShortest: plain facts about walks; their calls give true. -/
import Derived.Test.YtjajfalomchohaaGreatDoorRk
set_option linter.unusedSimpArgs false
set_option linter.unusedVariables false
section
open Go Go.Proofs
set_option maxRecDepth 20000
set_option maxHeartbeats 4000000
namespace Go.Av
theorem walkP_chain (g : GameD) (p : PosD) (l : List Int) : ChainP g (walkP g p l) := fun j hj => by
 obtain ⟨h1, h2, h3⟩ := walkP_step g l p j hj
 rw [h3]
 have hlp : 0 < (movesP g (nth (walkP g p l) j)).length := List.length_pos_iff.2 h2
 generalize movesP g (nth (walkP g p l) j) = m at *
 have e2 : 0 ≤ (nth l j).emod m.length := Int.emod_nonneg _ (by omega)
 have e3 : (nth l j).emod m.length < m.length := Int.emod_lt_of_pos _ (by omega)
 exact nth_mem (by omega)
theorem gameP_walk {g : GameD} {p : PosD} {n : Int} {l : List PosD} (hne : l ≠ []) (hc : ChainP g l) (h0 : nth l 0 = p) (h : (gameP g p (nth l (l.length - 1)) n).2 ≠ 0) : gameP g p (nth l (l.length - 1)) n = ([], 2) := by
 have hll := List.length_pos_iff.2 hne
 rw [gameP_err h]
 have he := gameP_err h
 rw [if_neg]
 intro hf
 exact h (gameP_ok_iff.2 (full_chain hf hc h0 (l.length - 1) (by omega)))
theorem gameP_side {g : GameD} (hg : GOk g) {p : PosD} (hp : POk g p) {goal : PosD} {n : Int} (h : (gameP g p goal n).2 = 0) : 0 < (gameP g p goal n).1.length ∧ ((gameP g p goal n).1.length % 2 = 1 ↔ p.side = goal.side) := by
 have hc := gameP_game h
 unfold checkP at hc
 obtain ⟨h1, h2, h3, h4⟩ := of_decide_eq_true hc
 have hll := List.length_pos_iff.2 h1
 refine ⟨hll, ?_⟩
 obtain ⟨_, h6⟩ := chain_side hg (l := (gameP g p goal n).1) (fun j hj => h4 j (by omega)) (by rw [h2]; exact hp) ((gameP g p goal n).1.length - 1) (by omega)
 rw [h3, h2] at h6
 have hs := hp.s
 rw [h6]
 split <;> omega
theorem ReachGames_pure (x : Raw6) (hx : Raw6Ok x) (picks : List Int) (hl : picks.length ≤ 1048576) (hb : ∀ k ∈ picks, -9223372036854775808 ≤ k ∧ k ≤ 9223372036854775807) (k : Int) (hk : 0 ≤ k ∧ k ≤ 255) :
  Pure Tryz.prog 5 [.agg (encRaw6 x), encIs picks, .v (.int .u8 k)] (.v (.bool true)) := by
 refine pF Tryz.func5 ?_
 have hM := R6Made_pure x hx
 have hg := game6_ok hx
 have hp := pos6_ok hx
 obtain ⟨er, her⟩ : ∃ er, er = encRaw6 x := ⟨_, rfl⟩
 have herl : er.length = 31 := by rw [her]; exact raw6_len hx
 have herb : ∀ n, (∀ c ∈ er, Bel n c) = True := fun n => by rw [her]; exact raw6_bel hx n
 rw [← her] at hM ⊢
 generalize game6 x = g at *
 generalize pos6 x = p at *
 have hS := sanity27_pure
 have hWr := R6WalkA_pure g hg p hp picks (by omega)
 have hwl := walkP_len g picks p
 have hwo := fun m hm => walkP_ok hg picks hp m hm
 have hwne := walkP_ne g p picks
 have hwp : 0 < (walkP g p picks).length := List.length_pos_iff.2 hwne
 have hwc := walkP_chain g p picks
 have hw0 := walkP_zero g p picks
 generalize walkP g p picks = w at *
 have hlo := hwo _ (nth_mem (show w.length - 1 < w.length by omega))
 have hwn : nth (w.map encPos) (w.length - 1) = encPos (nth w (w.length - 1)) := nth_map _ _ _ (by omega)
 have hF := found_pure g hg p hp _ (hlo.fits hg) 60
 have hbad := gameP_walk (n := 60) hwne hwc hw0
 generalize nth w (w.length - 1) = lst at *
 have hok := gameP_ok hg hp lst 60
 have hpart := fun h m (hm : m < (gameP g p lst 60).1.length) => gameP_part hg hp (n := 60) (goal := lst) h hm
 have hgame := gameP_game (g := g) (p := p) (goal := lst) (n := 60)
 have hside := gameP_side hg hp (goal := lst) (n := 60)
 have hFm := fun m hm => found_pure g hg p hp m ((hok.2 m hm).fits hg) 60
 have hC := Check_pure g hg p lst (hp.fits hg) (hlo.fits hg) (gameP g p lst 60).1 (by have := hok.1; omega) hok.2
 have hC2 := Check27_pure g hg p lst (hp.fits hg) (hlo.fits hg) (gameP g p lst 60).1 (by have := hok.1; omega) hok.2
 obtain ⟨F, hFe⟩ : ∃ F, F = gameP g p lst 60 := ⟨_, rfl⟩
 rw [← hFe] at hF hbad hok hpart hgame hside hFm hC hC2
 clear hFe
 have hps := hp.s
 have hls := hlo.s
 have hegl : (encGame g).length = 9 := rfl
 have hegb : ∀ n, (∀ c ∈ encGame g, Bel n c) = True := fun n => by simp [go_sem]
 generalize encGame g = eg at *
 (repeat (first|with_reducible (first|refine wL fun _=>?_|refine wD fun _=>?_|refine wE ?_|refine wZ ?_)|simp [go_sem, herl]))
 refine ACallP.plain hS (by simp [go_sem]) ?_
 (repeat (first|with_reducible (first|refine wL fun _=>?_|refine wD fun _=>?_|refine wE ?_|refine wZ ?_)|simp [go_sem, herl]))
 refine aIf.mkL (fun h5 => ?_) (fun h5 => ?_) <;> simp at h5
 ·(repeat (first|with_reducible (first|refine wL fun _=>?_|refine wD fun _=>?_|refine wE ?_|refine wZ ?_)|simp [go_sem]))
 ·(repeat (first|with_reducible (first|refine wL fun _=>?_|refine wD fun _=>?_|refine wE ?_|refine wZ ?_)|simp [go_sem, herl]))
  refine ACallP.plain hM (by simp [go_sem, herb]) ?_
  (repeat (first|with_reducible (first|refine wL fun _=>?_|refine wD fun _=>?_|refine wE ?_|refine wZ ?_)|simp [go_sem, herl, hegl]))
  refine ACallP.plain hWr (by simp [go_sem, hegb]) ?_
  (repeat (first|with_reducible (first|refine wL fun _=>?_|refine wD fun _=>?_|refine wE ?_|refine wZ ?_)|simp [go_sem, herl, hegl, hwn]))
  refine ACallP.plain hF (by simp [go_sem, hegb]) ?_
  obtain ⟨L, E⟩ := F
  simp only at *
  unfold encFound
  (repeat (first|with_reducible (first|refine wL fun _=>?_|refine wD fun _=>?_|refine wE ?_|refine wZ ?_)|simp [go_sem, hegl]))
  refine aIf.mkL (fun hE => ?bad) (fun hE => ?good)
  case' bad =>
   have hE2 : E ≠ 0 := by simpa using hE
   have := hbad hE2
   obtain ⟨rfl, rfl⟩ := Prod.mk.inj this
   (repeat (first|with_reducible (first|refine wL fun _=>?_|refine wD fun _=>?_|refine wE ?_|refine wZ ?_)|simp [go_sem, hegl]))
  case' good =>
   have hE2 : E = 0 := by simpa using hE
   subst hE2
   have hgame := hgame rfl
   have hside := hside rfl
   have hpart := hpart rfl
   rw [hgame] at hC hC2
   obtain ⟨hl0, hl2⟩ := hside
   have hpar : decide ((L.length : Int).tmod 2 = 1) = decide (p.side = lst.side) := by
    rw [decide_eq_decide, ← hl2, Int.tmod_eq_emod_of_nonneg (by omega)]
    omega
   have hlz : (L = []) = False := eq_false (fun h => by rw [h] at hl0; simp at hl0)
   have hn0 := Int.tmod_nonneg (L.length : Int) hk.1
   have hn1 := Int.tmod_lt_of_pos k (show (0 : Int) < L.length by omega)
   (repeat (first|with_reducible (first|refine wL fun _=>?_|refine wD fun _=>?_|refine wE ?_|refine wZ ?_)|simp [go_sem, hegl]))
   refine ACallP.plain hC (by simp [go_sem, hegb]) ?_
   (repeat (first|with_reducible (first|refine wL fun _=>?_|refine wD fun _=>?_|refine wE ?_|refine wZ ?_)|simp [go_sem, hegl]))
   refine aGC.plain _ (fun _ => hC2) (by simp [go_sem, hegb]) ?_
   (repeat (first|with_reducible (first|refine wL fun _=>?_|refine wD fun _=>?_|refine wE ?_|refine wZ ?_)|simp [go_sem, hegl, hpar, hlz]))
   generalize k.tmod (L.length : Int) = n at *
   have hnl : n.toNat < L.length := by omega
   have hF2 := hFm _ (nth_mem hnl)
   rw [hpart _ hnl] at hF2
   have hn2 : (n + 1).toNat = n.toNat + 1 := by omega
   have hQ := Same27_pure (L.take (n.toNat + 1), 0) (L.take (n.toNat + 1), 0) (by simp; have := hok.1; omega) (by simp; have := hok.1; omega) (fun m hm => (hok.2 m (List.mem_of_mem_take hm)).fits hg) (fun m hm => (hok.2 m (List.mem_of_mem_take hm)).fits hg)
   rw [decide_eq_true rfl] at hQ
   (repeat (first|with_reducible (first|refine wL fun _=>?_|refine wD fun _=>?_|refine wE ?_|refine wZ ?_)|simp [go_sem, hegl, hnl, hn2]))
   refine dCall.plain hF2 (by simp [go_sem, hegb]) ?_
   unfold encFound
   (repeat (first|with_reducible (first|refine wL fun _=>?_|refine wD fun _=>?_|refine wE ?_|refine wZ ?_)|simp [go_sem, hegl, hnl, hn2]))
   unfold encFound at hQ
   simp only [encPs, List.map_take] at hQ
   try ((with_reducible refine wZ ?_); (try simp [go_sem]))
   refine dCall.plain hQ (by simp [go_sem]; exact fun r hr => of_eq_true (bel_P (l := L)) r (List.mem_of_mem_take hr)) ?_
   (repeat (first|with_reducible (first|refine wL fun _=>?_|refine wD fun _=>?_|refine wE ?_|refine wZ ?_)|simp [go_sem, hegl]))
end Go.Av
end
section
open Go Go.Proofs
set_option maxRecDepth 20000
set_option maxHeartbeats 4000000
namespace Go.Av
theorem ReachBudgets_pure (x : Raw6) (hx : Raw6Ok x) (picks : List Int) (hl : picks.length ≤ 1048576) (hb : ∀ k ∈ picks, -9223372036854775808 ≤ k ∧ k ≤ 9223372036854775807) (n0 n1 : Int) (h0 : 0 ≤ n0 ∧ n0 ≤ 255) (h1 : 0 ≤ n1 ∧ n1 ≤ 255) :
  Pure Tryz.prog 7 [.agg (encRaw6 x), encIs picks, .agg [.v (.int .u8 n0), .v (.int .u8 n1)]] (.v (.bool true)) := by
 refine pF Tryz.func7 ?_
 have hM := R6Made_pure x hx
 have hg := game6_ok hx
 have hp := pos6_ok hx
 obtain ⟨er, her⟩ : ∃ er, er = encRaw6 x := ⟨_, rfl⟩
 have herl : er.length = 31 := by rw [her]; exact raw6_len hx
 have herb : ∀ n, (∀ c ∈ er, Bel n c) = True := fun n => by rw [her]; exact raw6_bel hx n
 rw [← her] at hM ⊢
 generalize game6 x = g at *
 generalize pos6 x = p at *
 have hS := sanity27_pure
 have hWr := R6WalkA_pure g hg p hp picks (by omega)
 have hwl := walkP_len g picks p
 have hwo := fun m hm => walkP_ok hg picks hp m hm
 have hwne := walkP_ne g p picks
 have hwp : 0 < (walkP g p picks).length := List.length_pos_iff.2 hwne
 generalize walkP g p picks = w at *
 have hlo := hwo _ (nth_mem (show w.length - 1 < w.length by omega))
 have hwn : nth (w.map encPos) (w.length - 1) = encPos (nth w (w.length - 1)) := nth_map _ _ _ (by omega)
 have hF := fun b => found_pure g hg p hp _ (hlo.fits hg) b
 generalize nth w (w.length - 1) = lst at *
 have hok := fun b => gameP_ok hg hp lst b
 have hQ := fun a b => Same27_pure (gameP g p lst a) (gameP g p lst b) (by have := (hok a).1; omega) (by have := (hok b).1; omega) (fun m hm => ((hok a).2 m hm).fits hg) (fun m hm => ((hok b).2 m hm).fits hg)
 have hmono := fun (a b : Int) (h : a ≤ b) => gameP_mono (g := g) (p := p) (goal := lst) h
 have hSn := fun b => seen27_pure g hg p hp b
 have hsm := fun (a b : Int) (h : a ≤ b) => seenP_mono (g := g) (p := p) h
 have hsl := fun b : Int => searchP_len hg hp b
 have hsk := fun b => sortU_le cmpP (allOf (searchP g p b))
 have hsf : ∀ b, ∀ m ∈ seenP g p b, FitsP m := fun b m hm => (allOf_ok hg hp b m (allOf_mem.2 (seenP_mem.1 hm))).fits hg
 have hsi := fun b => seenP_inc g p b
 have hegl : (encGame g).length = 9 := rfl
 have hegb : ∀ n, (∀ c ∈ encGame g, Bel n c) = True := fun n => by simp [go_sem]
 generalize encGame g = eg at *
 (repeat (first|with_reducible (first|refine wL fun _=>?_|refine wD fun _=>?_|refine wE ?_|refine wZ ?_)|simp [go_sem, herl]))
 refine ACallP.plain hS (by simp [go_sem]) ?_
 (repeat (first|with_reducible (first|refine wL fun _=>?_|refine wD fun _=>?_|refine wE ?_|refine wZ ?_)|simp [go_sem, herl]))
 refine aIf.mkL (fun h6 => ?_) (fun h6 => ?_) <;> simp at h6
 ·(repeat (first|with_reducible (first|refine wL fun _=>?_|refine wD fun _=>?_|refine wE ?_|refine wZ ?_)|simp [go_sem]))
 ·(repeat (first|with_reducible (first|refine wL fun _=>?_|refine wD fun _=>?_|refine wE ?_|refine wZ ?_)|simp [go_sem, herl]))
  refine ACallP.plain hM (by simp [go_sem, herb]) ?_
  (repeat (first|with_reducible (first|refine wL fun _=>?_|refine wD fun _=>?_|refine wE ?_|refine wZ ?_)|simp [go_sem, herl, hegl]))
  refine ACallP.plain hWr (by simp [go_sem, hegb]) ?_
  (repeat (first|with_reducible (first|refine wL fun _=>?_|refine wD fun _=>?_|refine wE ?_|refine wZ ?_)|simp [go_sem, herl, hegl, hwn]))
  obtain ⟨a, ha⟩ : ∃ a, a = (if n1 < n0 then n1 else n0).tmod 61 := ⟨_, rfl⟩
  rw [← ha]
  have ha0 : 0 ≤ a ∧ a < 61 := by
   rw [ha]
   have : 0 ≤ (if n1 < n0 then n1 else n0) := by split <;> omega
   exact ⟨Int.tmod_nonneg _ this, Int.tmod_lt_of_pos _ (by omega)⟩
  (first | refine ACallP.plain (hF a) (by simp [go_sem, hegb]) ?_ | refine aGC.plain _ (fun _ => hF a) (by simp [go_sem, hegb]) ?_ | ((try ((with_reducible refine wZ ?_); (try simp [go_sem]))); first | refine dCall.plain (hF a) (by simp [go_sem, hegb]) ?_ | refine dGC.plain _ (fun _ => hF a) (by simp [go_sem, hegb]) ?_))
  (repeat (first|with_reducible (first|refine wL fun _=>?_|refine wD fun _=>?_|refine wE ?_|refine wZ ?_)|simp [go_sem, hegl]))
  obtain ⟨c, hc⟩ : ∃ c, c = (if a < (if n0 < n1 then n1 else n0).tmod 61 then (if n0 < n1 then n1 else n0).tmod 61 else a) := ⟨_, rfl⟩
  rw [← hc]
  have hac : a ≤ c := by rw [hc]; split <;> omega
  clear hc ha
  (first | refine ACallP.plain (hF c) (by simp [go_sem, hegb]) ?_ | refine aGC.plain _ (fun _ => hF c) (by simp [go_sem, hegb]) ?_ | ((try ((with_reducible refine wZ ?_); (try simp [go_sem]))); first | refine dCall.plain (hF c) (by simp [go_sem, hegb]) ?_ | refine dGC.plain _ (fun _ => hF c) (by simp [go_sem, hegb]) ?_))
  obtain ⟨m1, m2⟩ := hmono a c hac
  obtain ⟨s1, s2⟩ := hsm a c hac
  have hoka := hok a
  have hQ := hQ a c
  have hSa := hSn a
  have hSc := hSn c
  have hla : (seenP g p a).length ≤ 17179869184 := by have := hsl a; have := hsk a; unfold seenP; omega
  have hlc : (seenP g p c).length ≤ 17179869184 := by have := hsl c; have := hsk c; unfold seenP; omega
  have hfa := hsf a
  have hfc := hsf c
  have hR := fun q hq => rFind_pure (seenP g p c) (hsi c) hlc hfc q hq
  have hRm := fun q => fndP_mem (hsi c) (p := q)
  have hL := SameLists_pure (seenP g p a) (seenP g p c) hla hlc hfa hfc
  clear hF hok hmono hsm hsl hsk hsf hsi hSn
  generalize gameP g p lst a = Fa at *
  generalize gameP g p lst c = Fc at *
  generalize seenP g p a = sa at *
  generalize seenP g p c = sc at *
  generalize fullP (searchP g p a) = fa at *
  generalize fullP (searchP g p c) = fc at *
  obtain ⟨La, Ea⟩ := Fa
  obtain ⟨Lc, Ec⟩ := Fc
  have hena : nth (encD [sa]) 0 = [encPs sa] := rfl
  have henc : nth (encD [sc]) 0 = [encPs sc] := rfl
  simp only at m1 m2 hoka
  unfold encFound at hQ ⊢
  rcases (show Ea = 0 ∨ (Ea ≠ 0 ∧ Ea = 270) ∨ (Ea ≠ 0 ∧ Ea ≠ 270) by omega) with h0 | ⟨h0, h1⟩ | ⟨h0, h1⟩
  case' inl =>
   obtain ⟨h2, h3⟩ := Prod.mk.inj (m1 h0)
   subst h2
   subst h3
   subst h0
   rw [decide_eq_true rfl] at hQ
   (repeat (first|with_reducible (first|refine wL fun _=>?_|refine wD fun _=>?_|refine wE ?_|refine wZ ?_)|simp [go_sem, hegl]))
   (first | refine ACallP.plain (hQ) (by simp [go_sem]) ?_ | refine aGC.plain _ (fun _ => hQ) (by simp [go_sem]) ?_ | ((try ((with_reducible refine wZ ?_); (try simp [go_sem]))); first | refine dCall.plain (hQ) (by simp [go_sem]) ?_ | refine dGC.plain _ (fun _ => hQ) (by simp [go_sem]) ?_))
   (repeat (first|with_reducible (first|refine wL fun _=>?_|refine wD fun _=>?_|refine wE ?_|refine wZ ?_)|simp [go_sem, hegl]))
  case' inr.inl =>
   have h3 := m2 h1
   subst h1
   subst h3
   (repeat (first|with_reducible (first|refine wL fun _=>?_|refine wD fun _=>?_|refine wE ?_|refine wZ ?_)|simp [go_sem, hegl]))
   (first | refine ACallP.plain (hQ) (by simp [go_sem]) ?_ | refine aGC.plain _ (fun _ => hQ) (by simp [go_sem]) ?_ | ((try ((with_reducible refine wZ ?_); (try simp [go_sem]))); first | refine dCall.plain (hQ) (by simp [go_sem]) ?_ | refine dGC.plain _ (fun _ => hQ) (by simp [go_sem]) ?_))
   (repeat (first|with_reducible (first|refine wL fun _=>?_|refine wD fun _=>?_|refine wE ?_|refine wZ ?_)|simp [go_sem, hegl]))
  case' inr.inr =>
   (repeat (first|with_reducible (first|refine wL fun _=>?_|refine wD fun _=>?_|refine wE ?_|refine wZ ?_)|simp [go_sem, hegl]))
   (first | refine ACallP.plain (hQ) (by simp [go_sem]) ?_ | refine aGC.plain _ (fun _ => hQ) (by simp [go_sem]) ?_ | ((try ((with_reducible refine wZ ?_); (try simp [go_sem]))); first | refine dCall.plain (hQ) (by simp [go_sem]) ?_ | refine dGC.plain _ (fun _ => hQ) (by simp [go_sem]) ?_))
   (repeat (first|with_reducible (first|refine wL fun _=>?_|refine wD fun _=>?_|refine wE ?_|refine wZ ?_)|simp [go_sem, hegl, h0, h1]))
  all_goals
   (first | refine ACallP.plain (hSa) (by simp [go_sem, hegb]) ?_ | refine aGC.plain _ (fun _ => hSa) (by simp [go_sem, hegb]) ?_ | ((try ((with_reducible refine wZ ?_); (try simp [go_sem]))); first | refine dCall.plain (hSa) (by simp [go_sem, hegb]) ?_ | refine dGC.plain _ (fun _ => hSa) (by simp [go_sem, hegb]) ?_))
   (repeat (first|with_reducible (first|refine wL fun _=>?_|refine wD fun _=>?_|refine wE ?_|refine wZ ?_)|simp [go_sem, hegl]))
   (first | refine ACallP.plain (hSc) (by simp [go_sem, hegb]) ?_ | refine aGC.plain _ (fun _ => hSc) (by simp [go_sem, hegb]) ?_ | ((try ((with_reducible refine wZ ?_); (try simp [go_sem]))); first | refine dCall.plain (hSc) (by simp [go_sem, hegb]) ?_ | refine dGC.plain _ (fun _ => hSc) (by simp [go_sem, hegb]) ?_))
   (repeat (first|with_reducible (first|refine wL fun _=>?_|refine wD fun _=>?_|refine wE ?_|refine wZ ?_)|simp [go_sem, hegl]))
   refine ALoop.start (ALoop.ind (α := Nat) (fun i => ⟨[(7, .v (.bool true)), (16, .ref 27 0 2 0 0), (17, .ref 28 0 2 0 0), (18, .v (.int .i64 i))], [(27, .rows true 0 2 [[.lst 1 (encD [sa]), .v (.bool fa)]]), (28, .rows true 0 2 [[.lst 1 (encD [sc]), .v (.bool fc)]])], 31⟩)
    (fun d i => i + d = sa.length) ?_ sa.length 0 ?_) ?_ ?_
   ·rintro d i i1 hrec
    (repeat (first|with_reducible (first|refine wL fun _=>?_|refine wD fun _=>?_|refine wE ?_|refine wZ ?_)|simp [go_sem, hena, henc]))
    refine aIf.mkL (fun hi => ?_) (fun hi => ?_) <;> simp at hi
    ·have hRi := hR _ (hfa _ (nth_mem hi))
     have h0f := (hRm _).2 (s1 _ (nth_mem hi))
     have hnf : (fndP sc (nth sa i) < 0) = False := eq_false (by omega)
     (repeat (first|with_reducible (first|refine wL fun _=>?_|refine wD fun _=>?_|refine wE ?_|refine wZ ?_)|simp [go_sem, hena, henc, hi]))
     (first | refine ACallP.plain (hRi) (by simp [go_sem]) ?_ | refine aGC.plain _ (fun _ => hRi) (by simp [go_sem]) ?_ | ((try ((with_reducible refine wZ ?_); (try simp [go_sem]))); first | refine dCall.plain (hRi) (by simp [go_sem]) ?_ | refine dGC.plain _ (fun _ => hRi) (by simp [go_sem]) ?_))
     (repeat (first|with_reducible (first|refine wL fun _=>?_|refine wD fun _=>?_|refine wE ?_|refine wZ ?_)|simp [go_sem, hena, henc, hi, hnf]))
     refine ALoop.start (hrec (d - 1) (by omega) (i + 1) (by omega)) ?_ (by simp)
     simp [go_sem, Wk_eq]
    ·cases fa
     ·(repeat (first|with_reducible (first|refine wL fun _=>?_|refine wD fun _=>?_|refine wE ?_|refine wZ ?_)|simp [go_sem, hena, henc]))
      (first | refine ACallP.plain (hL) (by simp [go_sem]) ?_ | refine aGC.plain _ (fun _ => hL) (by simp [go_sem]) ?_ | ((try ((with_reducible refine wZ ?_); (try simp [go_sem]))); first | refine dCall.plain (hL) (by simp [go_sem]) ?_ | refine dGC.plain _ (fun _ => hL) (by simp [go_sem]) ?_))
      (repeat (first|with_reducible (first|refine wL fun _=>?_|refine wD fun _=>?_|refine wE ?_|refine wZ ?_)|simp [go_sem, hena, henc]))
     ·obtain ⟨rfl, rfl⟩ := s2 rfl
      rw [decide_eq_true rfl] at hL
      (repeat (first|with_reducible (first|refine wL fun _=>?_|refine wD fun _=>?_|refine wE ?_|refine wZ ?_)|simp [go_sem, hena, henc]))
      (first | refine ACallP.plain (hL) (by simp [go_sem]) ?_ | refine aGC.plain _ (fun _ => hL) (by simp [go_sem]) ?_ | ((try ((with_reducible refine wZ ?_); (try simp [go_sem]))); first | refine dCall.plain (hL) (by simp [go_sem]) ?_ | refine dGC.plain _ (fun _ => hL) (by simp [go_sem]) ?_))
      (repeat (first|with_reducible (first|refine wL fun _=>?_|refine wD fun _=>?_|refine wE ?_|refine wZ ?_)|simp [go_sem, hena, henc]))
   ·simp
   ·simp [go_sem, Wk_eq]
   ·simp
end Go.Av
end
