/- IndexOrder: the call gives true. -/
import Derived.Test.YtmmboiafelbgbaaL3
set_option linter.unusedSimpArgs false
set_option linter.unusedVariables false
open Go Go.Proofs
set_option maxRecDepth 20000
set_option maxHeartbeats 4000000
namespace Go.Av
/-- two cells exchanged -/
def swapL (l : List Int) (x y : Nat) : List Int := (l.set x (nth l y)).set y (nth l x)
def swapP (p : PosD) (x y : Nat) : PosD := { p with at_ := swapL p.at_ x y }
theorem swapL_perm {l : List Int} {x y : Nat} (hx : x < l.length) (hy : y < l.length) : (swapL l x y).Perm l := by
  unfold swapL
  rw [nth_eq _ _ hx, nth_eq _ _ hy]
  exact List.set_set_perm hx hy
theorem menOf_perm {K : Nat} {l l' : List Int} (h : l.Perm l') : menOf K l = menOf K l' := by
  unfold menOf
  exact h.foldl_eq' (fun x _ y _ z => bump_comm z x y) _
theorem swapP_ok {g : GameD} {p : PosD} {x y : Nat} (hx : x < p.at_.length) (hy : y < p.at_.length) (h : posOk g p = true) : posOk g (swapP p x y) = true ∧ ofP g (swapP p x y) = ofP g p := by
  have hp := swapL_perm hx hy
  obtain ⟨h1, h2, h3⟩ := posOk_iff.1 h
  refine ⟨posOk_iff.2 ⟨?_, fun z hz => h2 z (hp.mem_iff.1 hz), h3⟩, ?_⟩
  · rw [← h1]; simp [swapP, swapL]
  · simp only [ofP, swapP]
    rw [menOf_perm hp]
theorem cmpL_lex : ∀ {a b : List Int}, a.length = b.length → (∀ x ∈ a, 0 ≤ x) → (∀ x ∈ b, 0 ≤ x) → lexLt (toN a) (toN b) → cmpL a b = -1 ∧ cmpL b a = 1
  | [], _, _, _, _, h => by simp [toN, lexLt] at h
  | x :: a, [], h, _, _, _ => by simp at h
  | x :: a, y :: b, hl, ha, hb, h => by
    have h0 := ha x (by simp)
    have h1 := hb y (by simp)
    simp only [toN, List.map_cons, lexLt] at h
    rcases h with h | ⟨h, ht⟩
    · have hne : ¬ x = y := by omega
      simp only [cmpL, hne, Ne.symm hne, if_false, number]
      have hlt : x < y := by omega
      simp [hlt, show ¬ y < x by omega, Ne.symm hne]
    · have he : x = y := by omega
      subst he
      simp only [cmpL, if_true]
      exact cmpL_lex (by simpa using hl) (fun z hz => ha z (by simp [hz])) (fun z hz => hb z (by simp [hz])) ht
theorem rank_cmp {g : GameD} {p q : PosD} (hp : posOk g p = true) (hq : posOk g q = true) (ho : (ofP g q).at_ = (ofP g p).at_) (hl : p.at_.length ≤ 1048576) (hb : ways (ofP g p).at_ ≤ 1099511627776) :
    (rankN (ofP g p).at_ p.at_ < rankN (ofP g q).at_ q.at_ ↔ cmpL p.at_ q.at_ < 0) ∧ (rankN (ofP g p).at_ p.at_ = rankN (ofP g q).at_ q.at_ ↔ cmpL p.at_ q.at_ = 0) := by
  obtain ⟨h1, h2, _⟩ := posOk_iff.1 hp
  obtain ⟨k1, k2, _⟩ := posOk_iff.1 hq
  have hK : ∀ c ∈ p.at_, c.toNat < 1 + 2 * g.kinds.length := fun c hc => by have := h2 c hc; omega
  have hK' : ∀ c ∈ q.at_, c.toNat < 1 + 2 * g.kinds.length := fun c hc => by have := k2 c hc; omega
  simp only [ofP] at ho hb ⊢
  have hA := isArr_menOf hK
  have hA' := isArr_menOf hK'
  have hn := menOf_nonneg hK
  have hw := ways_toN hn (by rw [sum_menOf hK]; exact hl)
  have hcap : arr 0 (toN (menOf (1 + 2 * g.kinds.length) p.at_)) ≤ 1099511627776 := by unfold capped at hw; omega
  rw [rankN_eq hK hl hcap, rankN_eq hK' (by omega) (by rw [ho]; exact hcap)]
  rw [ho] at hA' ⊢
  have hlen : p.at_.length = q.at_.length := by omega
  rcases lex_total (p := toN p.at_) (q := toN q.at_) (by rw [toN_length, toN_length]; exact hlen) with h | h | h
  · have e : p.at_ = q.at_ := by
      rw [← map_toN (fun x hx => (h2 x hx).1), ← map_toN (fun x hx => (k2 x hx).1), h]
    rw [e, cmpL_self]
    omega
  · have := rk_lex hA hA' h
    have := (cmpL_lex hlen (fun x hx => (h2 x hx).1) (fun x hx => (k2 x hx).1) h).1
    omega
  · have := rk_lex hA' hA h
    have := (cmpL_lex hlen.symm (fun x hx => (k2 x hx).1) (fun x hx => (h2 x hx).1) h).2
    omega
theorem cmpP_swap (p : PosD) (x y : Nat) : cmpP p (swapP p x y) = cmpL p.at_ (swapL p.at_ x y) := by
  unfold cmpP
  by_cases h : cmpL p.at_ (swapP p x y).at_ = 0
  · simp only [swapP] at h ⊢
    simp [h, cmpL_self, number_self]
  · simp only [swapP] at h ⊢
    simp [h]
theorem IndexOrder_pure (a b : Int) (l : List Int) (s t : Int) (ha : 0 ≤ a ∧ a ≤ 255) (hb : 0 ≤ b ∧ b ≤ 255) (hl : l.length ≤ maxLen) (hv : ∀ x ∈ l, 0 ≤ x ∧ x ≤ 255) (hs : 0 ≤ s ∧ s ≤ 255) (ht : 0 ≤ t ∧ t ≤ 255) :
    Pure Try.prog 8 [.agg [.v (.int .u8 a), .v (.int .u8 b)], encUs l, .agg [.v (.int .u8 s), .v (.int .u8 t)]] (.v (.bool true)) := by
  have n0 := Int.tmod_nonneg 64 ha.1
  have n1 := Int.tmod_lt_of_pos a (show (0 : Int) < 64 by decide)
  have n2 := Int.tmod_nonneg 3 hb.1
  have n3 := Int.tmod_lt_of_pos b (show (0 : Int) < 3 by decide)
  obtain ⟨c, hc⟩ : ∃ c : Nat, (1 + a.tmod 64) = c := ⟨(1 + a.tmod 64).toNat, by omega⟩
  obtain ⟨k, hk⟩ : ∃ k : Nat, (1 + b.tmod 3) = k := ⟨(1 + b.tmod 3).toNat, by omega⟩
  have hbd := board_pure a b ha hb c k hc hk l (by have : maxLen = 9223372036854775807 := by decide
                                                   omega) hv
  have hpo := posOk_fill (c := c) (k := k) (l := l) (by omega) (fun x hx => (hv x hx).1)
  have hfit := fitsP_fill (c := c) (k := k) (l := l) (by omega) (by omega)
  have hpl : (fillPos c k l).at_.length = c := by simp [fillPos, atFj]
  generalize fillPos c k l = p at *
  have q1 : FitsG (blankG c k) := by simp [FitsG, blankG]; omega
  have q2 : FitsR (blankG c k) := by simp [FitsR, blankG]
  have q3 : (blankG c k).cells ≤ 64 := by simp [blankG]; omega
  have q4 : (blankG c k).kinds.length ≤ 400 := by simp [blankG]; omega
  have hel : (encGame (blankG c k)).length = 9 := rfl
  have hbl : ∀ n, (∀ c' ∈ encGame (blankG c k), Bel n c') = True := fun n => by simp [go_sem]
  generalize blankG c k = g at *
  have m0 := Int.tmod_nonneg (c : Int) hs.1
  have m1 := Int.tmod_lt_of_pos s (show (0 : Int) < c by omega)
  have m2 := Int.tmod_nonneg (c : Int) ht.1
  have m3 := Int.tmod_lt_of_pos t (show (0 : Int) < c by omega)
  obtain ⟨x, hx⟩ : ∃ x : Nat, s.tmod (c : Int) = x := ⟨(s.tmod (c : Int)).toNat, by omega⟩
  obtain ⟨y, hy⟩ : ∃ y : Nat, t.tmod (c : Int) = y := ⟨(t.tmod (c : Int)).toNat, by omega⟩
  have hxp : x < p.at_.length := by omega
  have hyp : y < p.at_.length := by omega
  obtain ⟨hqo, hof⟩ := swapP_ok hxp hyp hpo
  have hql : (swapP p x y).at_.length = c := by simp [swapP, swapL]; omega
  have hfq : FitsP (swapP p x y) := ⟨by unfold Fits; omega, hfit.2.1, hfit.2.2⟩
  have hRk := Rank_pure g q1 q2 q3 q4 p hfit
  have hRq := Rank_pure g q1 q2 q3 q4 (swapP p x y) hfq
  have hCm := Compare_pure p (swapP p x y) hfit hfq
  have hra := rank_at hpo (by omega)
  have hrq := rank_at hqo (by omega)
  rw [hof] at hrq
  rw [cmpP_swap] at hCm
  have hfin : (rankOf g p = (0, 2) ∧ rankOf g (swapP p x y) = (0, 2)) ∨ ∃ i k : Int, rankOf g p = (i, 0) ∧ rankOf g (swapP p x y) = (k, 0) ∧ (i < k ↔ cmpL p.at_ (swapL p.at_ x y) < 0) ∧ (i = k ↔ cmpL p.at_ (swapL p.at_ x y) = 0) := by
    rcases hra with ⟨e1, e2⟩ | ⟨e1, e2, _, _, _, e3, e4, e5⟩
    · rcases hrq with ⟨f1, f2⟩ | ⟨f1, _⟩
      · exact .inl ⟨e2, f2⟩
      · rw [e1] at f1; cases f1
    · rcases hrq with ⟨f1, f2⟩ | ⟨f1, f2, _, _, _, f3, f4, f5⟩
      · rw [f1] at e1; cases e1
      · refine .inr ⟨(rankOf g p).1, (rankOf g (swapP p x y)).1, by rw [← e2], by rw [← f2], ?_⟩
        have := rank_cmp hpo hqo (by rw [hof]) (by omega) e5
        rw [hof] at this
        rw [e3, f3]
        exact this
  clear hra hrq hof
  generalize hcv : cmpL p.at_ (swapL p.at_ x y) = cv at *
  generalize encGame g = eg at *
  refine Pure.of (ACallP.of_awp (by kernel_rfl) Try.func8 rfl rfl (Nat.le_of_ble_eq_true rfl) (by kernel_rfl) ?_)
  (repeat (first | ((with_reducible refine VC.mkL ?_ fun _ => ?_); · first | omega | exact True.intro | rfl) | ((with_reducible refine VC.mkD ?_ fun _ => ?_); · first | omega | exact True.intro | (intros; omega)) | ((with_reducible refine dEnd.mk ?_ ?_); · kernel_rfl) | (simp [go_sem])))
  refine ACallP.plain ok14_pure (by simp [go_sem]) ?_
  (repeat (first | ((with_reducible refine VC.mkL ?_ fun _ => ?_); · first | omega | exact True.intro | rfl) | ((with_reducible refine VC.mkD ?_ fun _ => ?_); · first | omega | exact True.intro | (intros; omega)) | ((with_reducible refine dEnd.mk ?_ ?_); · kernel_rfl) | (simp [go_sem])))
  refine ACallP.plain hbd (by simp [go_sem]) ?_
  (repeat (first | ((with_reducible refine VC.mkL ?_ fun _ => ?_); · first | omega | exact True.intro | rfl) | ((with_reducible refine VC.mkD ?_ fun _ => ?_); · first | omega | exact True.intro | (intros; omega)) | ((with_reducible refine dEnd.mk ?_ ?_); · kernel_rfl) | (simp [go_sem, hel])))
  refine ACallP.ownsPlain (Copied_owns p hfit) (by simp [go_sem]) ?_
  have hxc : x < c := by omega
  have hyc : y < c := by omega
  (repeat (first | ((with_reducible refine VC.mkL ?_ fun _ => ?_); · first | omega | exact True.intro | rfl) | ((with_reducible refine VC.mkD ?_ fun _ => ?_); · first | omega | exact True.intro | (intros; omega)) | ((with_reducible refine dEnd.mk ?_ ?_); · kernel_rfl) | (simp [go_sem, hel, hpl, hx, hy, hxc, hyc])))
  refine ACallP.plain hRk (by simp [go_sem, hbl]) ?_
  (repeat (first | ((with_reducible refine VC.mkL ?_ fun _ => ?_); · first | omega | exact True.intro | rfl) | ((with_reducible refine VC.mkD ?_ fun _ => ?_); · first | omega | exact True.intro | (intros; omega)) | ((with_reducible refine dEnd.mk ?_ ?_); · kernel_rfl) | (simp [go_sem, hel])))
  refine ACallP.flat hRq (.tup (by intro x hx; simp at hx; rcases hx with rfl | rfl <;> exact .v _)) ?_ (by simp [go_sem, hbl, swapP]) ?_
  · simp only [encPos, encIs, swapP, List.nil_append, List.append_nil, List.cons_append]
    refine LeRow.cons (.refl _) (LeRow.cons (LeV.agg (LeRow.cons ?_ (LeRow.cons ?_ (LeRow.cons ?_ (LeRow.refl _ _ _ _))))) LeRow.nil)
    · refine LeV.frz rfl ?_ ?_ (LeRows.of_eq ?_)
      · simp [hpl]
      · simp [noH]
      · rw [List.drop_zero, List.take_of_length_le (by simp [hpl])]
        simp [swapL, List.map_set, encI]
    · refine LeV.frz rfl ?_ ?_ (LeRows.of_eq ?_)
      · simp
      · simp [noH]
      · rw [List.drop_zero, List.take_of_length_le (by simp)]
    · refine LeV.frz rfl ?_ ?_ (LeRows.of_eq ?_)
      · simp
      · simp [noH]
      · rw [List.drop_zero, List.take_of_length_le (by simp)]
  rcases hfin with ⟨e1, e2⟩ | ⟨i, j, e1, e2, e3, e4⟩
  · rw [e1, e2]
    (repeat (first | ((with_reducible refine VC.mkL ?_ fun _ => ?_); · first | omega | exact True.intro | rfl) | ((with_reducible refine VC.mkD ?_ fun _ => ?_); · first | omega | exact True.intro | (intros; omega)) | ((with_reducible refine dEnd.mk ?_ ?_); · kernel_rfl) | (simp [go_sem, hel])))
  · rw [e1, e2]
    (repeat (first | ((with_reducible refine VC.mkL ?_ fun _ => ?_); · first | omega | exact True.intro | rfl) | ((with_reducible refine VC.mkD ?_ fun _ => ?_); · first | omega | exact True.intro | (intros; omega)) | ((with_reducible refine dEnd.mk ?_ ?_); · kernel_rfl) | (simp [go_sem, hel])))
    refine ACallP.flat hCm (.v _) ?_ (by simp [go_sem, swapP]) ?_
    · simp only [encPos, encIs, swapP, List.nil_append, List.append_nil, List.cons_append]
      refine LeRow.cons (.refl _) (LeRow.cons (LeV.agg (LeRow.cons ?_ (LeRow.cons ?_ (LeRow.cons ?_ (LeRow.refl _ _ _ _))))) LeRow.nil)
      · refine LeV.frz rfl ?_ ?_ (LeRows.of_eq ?_)
        · simp [hpl]
        · simp [noH]
        · rw [List.drop_zero, List.take_of_length_le (by simp [hpl])]
          simp [swapL, List.map_set, encI]
      · refine LeV.frz rfl ?_ ?_ (LeRows.of_eq ?_)
        · simp
        · simp [noH]
        · rw [List.drop_zero, List.take_of_length_le (by simp)]
      · refine LeV.frz rfl ?_ ?_ (LeRows.of_eq ?_)
        · simp
        · simp [noH]
        · rw [List.drop_zero, List.take_of_length_le (by simp)]
    · have d1 : decide (i < j) = decide (cv < 0) := by simp only [e3]
      have d2 : decide (i = j) = decide (cv = 0) := by simp only [e4]
      (repeat (first | ((with_reducible refine VC.mkL ?_ fun _ => ?_); · first | omega | exact True.intro | rfl) | ((with_reducible refine VC.mkD ?_ fun _ => ?_); · first | omega | exact True.intro | (intros; omega)) | ((with_reducible refine dEnd.mk ?_ ?_); · kernel_rfl) | (simp [go_sem, hel, d1, d2])))
end Go.Av
