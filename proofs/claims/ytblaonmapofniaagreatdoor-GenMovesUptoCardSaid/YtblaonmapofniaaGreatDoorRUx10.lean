/- Texts of ours, part 10: contracts and facts for this claim. -/
import Derived.Test.YtblaonmapofniaaGreatDoorB10
import Derived.Test.YtblaonmapofniaaGreatDoorRUx09
set_option linter.unusedSimpArgs false
set_option linter.unusedVariables false
set_option maxRecDepth 100000
set_option maxHeartbeats 40000000
section
open Go Go.Proofs
namespace Go.Av
theorem statusV_eq (g : GameD) (p : PosD) : statusV g p = if 0 ≤ endedP g p then ((nth g.clauses (endedP g p).toNat).2.2.2, true) else if movesP g p = [] then (g.blocked, true) else (0, false) := by
 unfold statusV endedV
 split <;> rfl
theorem statusV_2 (g : GameD) (p : PosD) : (statusV g p).2 = decide (movesP g p = []) := by
 rw [statusV_eq]
 split
 ·rename_i h
  have e : movesP g p = [] := if_pos h
  simp [e]
 ·split <;> simp [*]
end Go.Av
end
section
open Go Go.Proofs
namespace Go.Av
theorem gAll_mem {g : GameD} (hg : GOk g) {p : PosD} (hp : POk g p) {o : OutD} : o ∈ gAll g (codeP g) p ↔ o ∈ outsP g p := by
 have hal := hp.al
 unfold gAll gAllN outsP
 rw [List.mem_flatMap, List.mem_flatMap]
 have key : ∀ i ∈ List.range p.at_.length, (o ∈ (if (manOf (nth p.at_ i)).2 = p.side then runC g (codeP g) p i else []) ↔ o ∈ outsAt g p i) := by
  intro i hi
  have hi := List.mem_range.1 hi
  unfold outsAt
  by_cases hs : (manOf (nth p.at_ i)).2 = p.side
  ·rw [if_pos hs, runC_codeP hg hp (by omega) (by omega), run_progs hg hp (by omega) (by omega)]
   unfold progsO
   simp only [Int.toNat_natCast]
   by_cases hm : (manOf (nth p.at_ i)).1 < 0
   ·rw [if_pos hm, if_neg (fun h => by omega)]
   ·rw [if_neg hm, if_pos ⟨by omega, hs⟩, sortU_mem, hs]
    have : withSide p p.side = p := rfl
    rw [this]
  ·rw [if_neg hs, if_neg (fun h => hs h.2)]
 constructor
 ·rintro ⟨i, hi, h⟩; exact ⟨i, hi, (key i hi).1 h⟩
 ·rintro ⟨i, hi, h⟩; exact ⟨i, hi, (key i hi).2 h⟩
theorem gMust_eq {g : GameD} (hg : GOk g) {p : PosD} (hp : POk g p) : gMust g (codeP g) p = mustP g p := by
 unfold gMust mustP
 congr 1
 rw [Bool.eq_iff_iff, List.any_eq_true, List.any_eq_true]
 constructor
 ·rintro ⟨o, ho, h⟩; exact ⟨o, (gAll_mem hg hp).1 ho, h⟩
 ·rintro ⟨o, ho, h⟩; exact ⟨o, (gAll_mem hg hp).2 ho, h⟩
theorem gMovesP_code {g : GameD} (hg : GOk g) {p : PosD} (hp : POk g p) : gMovesP g (codeP g) p = movesP g p := by
 unfold gMovesP
 rw [statusV_2]
 by_cases hm : movesP g p = []
 ·rw [if_pos (by simpa using hm), hm]
 ·rw [if_neg (by simpa using hm)]
  have he : ¬ 0 ≤ endedP g p := fun h => hm (movesP_nil_of_ended h)
  unfold movesP
  rw [if_neg he]
  refine sortU_congr cmp_pos fun q => ?_
  unfold gMovesL movesL gOuts
  rw [gMust_eq hg hp, List.mem_append, List.mem_append, List.mem_map, List.mem_map]
  have e : (∃ a ∈ (gAll g (codeP g) p).filter (fun o => o.took || !mustP g p), a.pos = q) ↔ ∃ a ∈ (outsP g p).filter (fun o => !mustP g p || o.took), a.pos = q := by
   constructor
   ·rintro ⟨o, ho, h⟩
    obtain ⟨h1, h2⟩ := List.mem_filter.1 ho
    exact ⟨o, List.mem_filter.2 ⟨(gAll_mem hg hp).1 h1, by rw [Bool.or_comm]; exact h2⟩, h⟩
   ·rintro ⟨o, ho, h⟩
    obtain ⟨h1, h2⟩ := List.mem_filter.1 ho
    exact ⟨o, List.mem_filter.2 ⟨(gAll_mem hg hp).2 h1, by rw [Bool.or_comm]; exact h2⟩, h⟩
  rw [e]
end Go.Av
end
section
open Go Go.Proofs
namespace Go.Av
theorem gMoves_code (g : GameD) (hg : GOk g) (hs : OneSlide g) (p : PosD) (hp : POk g p) :
  Pure Tryz.prog 61 [.agg (encGame g), .agg (encCode (codeP g)), .agg (encPos p)] (encPs (movesP g p)) := by
 have := gMoves_pure g hg (codeP g) (codeOk_codeP hg hs) p hp (codeFew_codeP hg hs hp)
 rwa [gMovesP_code hg hp] at this
theorem GenMoves_pure (x : Raw6) (hx : Raw6Ok x) : Pure Tryz.prog 13 [.agg (encRaw6 x)] (.v (.bool true)) := by
 refine pF Tryz.func13 ?_
 have hM := R6Made_pure x hx
 have hg := game6_ok hx
 have hp := pos6_ok hx
 have hs1 : OneSlide (game6 x) := madeG_slide x.g
 obtain ⟨er, her⟩ : ∃ er, er = encRaw6 x := ⟨_, rfl⟩
 have herl : er.length = 31 := by rw [her]; exact raw6_len hx
 have herb : ∀ n, (∀ c ∈ er, Bel n c) = True := fun n => by rw [her]; exact raw6_bel hx n
 rw [← her] at hM ⊢
 generalize game6 x = g at *
 generalize pos6 x = p at *
 have hS := sanity8_pure
 have hC := Compile_pure g hg
 have hC8 := Compile8_pure g hg
 have hSame := Same_true g hg (codeP g) (fit_codeP hg)
 have hG := fun q (hq : POk g q) => gMoves_code g hg hs1 q hq
 have hMv := fun q (hq : POk g q) => Moves_pure g hg q hq
 have hR6 := R6Moves_pure g hg p hp
 have hml := fun q (hq : POk g q) => movesP_len2 hg hq
 have hmo := fun q (hq : POk g q) => fun a ha => (movesP_ok hg hq a ha).1
 have hSP := fun q (hq : POk g q) => SamePos_true (movesP g q) (by have := hml q hq; omega) fun a ha => (hmo q hq a ha).fits hg
 have hGp := hG p hp
 have hMp := hMv p hp
 have hSp := hSP p hp
 have hlp := hml p hp
 have hop := hmo p hp
 have hegl : (encGame g).length = 9 := rfl
 have hegb : ∀ n, (∀ c ∈ encGame g, Bel n c) = True := fun n => by simp [go_sem]
 have hecl : (encCode (codeP g)).length = 2 := rfl
 have hecb : ∀ n, (∀ c ∈ encCode (codeP g), Bel n c) = True := fun n => by simp [go_sem]
 generalize encGame g = eg at *
 generalize encCode (codeP g) = ec at *
 have hl : ∀ l, l = movesP g p → True := fun _ _ => trivial
 generalize hle : movesP g p = l at *
 (repeat (first|with_reducible (first|refine wV fun _=>?_|refine wE ?_)|simp [go_sem, herl]))
 (first | refine ACallP.plain (hS) (by simp [go_sem]) ?_ | refine aGC.plain _ (fun _ => hS) (by simp [go_sem]) ?_ | ((try ((with_reducible refine wZ ?_); (try simp [go_sem]))); first | refine dCall.plain (hS) (by simp [go_sem]) ?_ | refine dGC.plain _ (fun _ => hS) (by simp [go_sem]) ?_))
 (repeat (first|with_reducible (first|refine wV fun _=>?_|refine wE ?_)|simp [go_sem, herl]))
 (first | refine ACallP.plain (hM) (by simp [go_sem, herb]) ?_ | refine aGC.plain _ (fun _ => hM) (by simp [go_sem, herb]) ?_ | ((try ((with_reducible refine wZ ?_); (try simp [go_sem]))); first | refine dCall.plain (hM) (by simp [go_sem, herb]) ?_ | refine dGC.plain _ (fun _ => hM) (by simp [go_sem, herb]) ?_))
 (repeat (first|with_reducible (first|refine wV fun _=>?_|refine wE ?_)|simp [go_sem, herl, hegl]))
 (first | refine ACallP.plain (hC) (by simp [go_sem, hegb]) ?_ | refine aGC.plain _ (fun _ => hC) (by simp [go_sem, hegb]) ?_ | ((try ((with_reducible refine wZ ?_); (try simp [go_sem]))); first | refine dCall.plain (hC) (by simp [go_sem, hegb]) ?_ | refine dGC.plain _ (fun _ => hC) (by simp [go_sem, hegb]) ?_))
 (repeat (first|with_reducible (first|refine wV fun _=>?_|refine wE ?_)|simp [go_sem, hegl, hecl]))
 (first | refine ACallP.plain (hC8) (by simp [go_sem, hegb]) ?_ | refine aGC.plain _ (fun _ => hC8) (by simp [go_sem, hegb]) ?_ | ((try ((with_reducible refine wZ ?_); (try simp [go_sem]))); first | refine dCall.plain (hC8) (by simp [go_sem, hegb]) ?_ | refine dGC.plain _ (fun _ => hC8) (by simp [go_sem, hegb]) ?_))
 (repeat (first|with_reducible (first|refine wV fun _=>?_|refine wE ?_)|simp [go_sem, hegl, hecl]))
 (first | refine ACallP.plain (hSame) (by simp [go_sem, hegb, hecb]) ?_ | refine aGC.plain _ (fun _ => hSame) (by simp [go_sem, hegb, hecb]) ?_ | ((try ((with_reducible refine wZ ?_); (try simp [go_sem]))); first | refine dCall.plain (hSame) (by simp [go_sem, hegb, hecb]) ?_ | refine dGC.plain _ (fun _ => hSame) (by simp [go_sem, hegb, hecb]) ?_))
 (repeat (first|with_reducible (first|refine wV fun _=>?_|refine wE ?_)|simp [go_sem, hegl, hecl]))
 (first | refine ACallP.plain (hMp) (by simp [go_sem, hegb, hecb]) ?_ | refine aGC.plain _ (fun _ => hMp) (by simp [go_sem, hegb, hecb]) ?_ | ((try ((with_reducible refine wZ ?_); (try simp [go_sem]))); first | refine dCall.plain (hMp) (by simp [go_sem, hegb, hecb]) ?_ | refine dGC.plain _ (fun _ => hMp) (by simp [go_sem, hegb, hecb]) ?_))
 (repeat (first|with_reducible (first|refine wV fun _=>?_|refine wE ?_)|simp [go_sem, hegl, hecl]))
 (first | refine ACallP.plain (hR6) (by simp [go_sem, hegb, hecb]) ?_ | refine aGC.plain _ (fun _ => hR6) (by simp [go_sem, hegb, hecb]) ?_ | ((try ((with_reducible refine wZ ?_); (try simp [go_sem]))); first | refine dCall.plain (hR6) (by simp [go_sem, hegb, hecb]) ?_ | refine dGC.plain _ (fun _ => hR6) (by simp [go_sem, hegb, hecb]) ?_))
 (repeat (first|with_reducible (first|refine wV fun _=>?_|refine wE ?_)|simp [go_sem, hegl, hecl]))
 (first | refine ACallP.plain (hSp) (by simp [go_sem]) ?_ | refine aGC.plain _ (fun _ => hSp) (by simp [go_sem]) ?_ | ((try ((with_reducible refine wZ ?_); (try simp [go_sem]))); first | refine dCall.plain (hSp) (by simp [go_sem]) ?_ | refine dGC.plain _ (fun _ => hSp) (by simp [go_sem]) ?_))
 (repeat (first|with_reducible (first|refine wV fun _=>?_|refine wE ?_)|simp [go_sem, hegl, hecl]))
 (first | refine ACallP.plain (hGp) (by simp [go_sem, hegb, hecb]) ?_ | refine aGC.plain _ (fun _ => hGp) (by simp [go_sem, hegb, hecb]) ?_ | ((try ((with_reducible refine wZ ?_); (try simp [go_sem]))); first | refine dCall.plain (hGp) (by simp [go_sem, hegb, hecb]) ?_ | refine dGC.plain _ (fun _ => hGp) (by simp [go_sem, hegb, hecb]) ?_))
 (repeat (first|with_reducible (first|refine wV fun _=>?_|refine wE ?_)|simp [go_sem, hegl, hecl]))
 (first | refine ACallP.plain (hSp) (by simp [go_sem]) ?_ | refine aGC.plain _ (fun _ => hSp) (by simp [go_sem]) ?_ | ((try ((with_reducible refine wZ ?_); (try simp [go_sem]))); first | refine dCall.plain (hSp) (by simp [go_sem]) ?_ | refine dGC.plain _ (fun _ => hSp) (by simp [go_sem]) ?_))
 (repeat (first|with_reducible (first|refine wV fun _=>?_|refine wE ?_)|simp [go_sem, hegl, hecl]))
 refine ALoop.start (ALoop.ind (α := Nat) (fun i => ⟨[(3, .v (.bool true)), (4, .ref 1 0 9 0 0), (6, .ref 3 0 2 0 0), (7, encPs l), (8, .v (.int .i64 i))], [(1, .rows true 0 9 [eg]), (3, .rows true 0 2 [ec])], 10⟩)
  (fun d i => i + d = l.length) ?_ l.length 0 ?_) ?_ ?_
 ·rintro d i i1 hrec
  (repeat (first|with_reducible (first|refine wV fun _=>?_|refine wE ?_)|simp [go_sem, hegl, hecl]))
  refine aIf.mkL (fun hA => ?_) (fun hA => ?_)
  ·have hi : i < l.length := by simp at hA; omega
   have hq := hop _ (nth_mem hi)
   have hGi := hG _ hq
   have hMi := hMv _ hq
   have hSi := hSP _ hq
   generalize movesP g (nth l i) = mv at *
   (repeat (first|with_reducible (first|refine wV fun _=>?_|refine wE ?_)|simp [go_sem, hegl, hecl, hi]))
   (first | refine ACallP.plain (hGi) (by simp [go_sem, hegb, hecb]) ?_ | refine aGC.plain _ (fun _ => hGi) (by simp [go_sem, hegb, hecb]) ?_ | ((try ((with_reducible refine wZ ?_); (try simp [go_sem]))); first | refine dCall.plain (hGi) (by simp [go_sem, hegb, hecb]) ?_ | refine dGC.plain _ (fun _ => hGi) (by simp [go_sem, hegb, hecb]) ?_))
   (repeat (first|with_reducible (first|refine wV fun _=>?_|refine wE ?_)|simp [go_sem, hegl, hecl, hi]))
   (first | refine ACallP.plain (hMi) (by simp [go_sem, hegb, hecb]) ?_ | refine aGC.plain _ (fun _ => hMi) (by simp [go_sem, hegb, hecb]) ?_ | ((try ((with_reducible refine wZ ?_); (try simp [go_sem]))); first | refine dCall.plain (hMi) (by simp [go_sem, hegb, hecb]) ?_ | refine dGC.plain _ (fun _ => hMi) (by simp [go_sem, hegb, hecb]) ?_))
   (repeat (first|with_reducible (first|refine wV fun _=>?_|refine wE ?_)|simp [go_sem, hegl, hecl, hi]))
   (first | refine ACallP.plain (hSi) (by simp [go_sem]) ?_ | refine aGC.plain _ (fun _ => hSi) (by simp [go_sem]) ?_ | ((try ((with_reducible refine wZ ?_); (try simp [go_sem]))); first | refine dCall.plain (hSi) (by simp [go_sem]) ?_ | refine dGC.plain _ (fun _ => hSi) (by simp [go_sem]) ?_))
   (repeat (first|with_reducible (first|refine wV fun _=>?_|refine wE ?_)|simp [go_sem, hegl, hecl, hi]))
   refine ALoop.start (hrec (d - 1) (by omega) (i + 1) (by omega)) ?_ (by simp)
   simp [go_sem, Wk_eq, hegb, hecb]
  ·(repeat (first|with_reducible (first|refine wV fun _=>?_|refine wE ?_)|simp [go_sem, hegl, hecl]))
 ·simp
 ·simp [go_sem, Wk_eq, hegb, hecb]
 ·simp
end Go.Av
end
