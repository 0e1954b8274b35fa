/- IndexAll: the call gives true. -/
import Derived.Test.YtmmboiafelbgbaaCE
import Derived.Test.YtmmboiafelbgbaaL4
set_option linter.unusedSimpArgs false
set_option linter.unusedVariables false
open Go Go.Proofs
set_option maxRecDepth 20000
set_option maxHeartbeats 4000000
namespace Go.Av
/-! ### small numbers of ways -/
def small3 : Bool := (List.range 7).all fun a => (List.range 7).all fun b => (List.range 7).all fun c => decide (6 < a + b + c) || decide (arr 0 [a, b, c] ≤ 100)
theorem small3_ok : small3 = true := by decide +kernel
def small5 : Bool := (List.range 5).all fun a => (List.range 5).all fun b => (List.range 5).all fun c => (List.range 5).all fun d => (List.range 5).all fun e => decide (4 < a + b + c + d + e) || decide (arr 0 [a, b, c, d, e] ≤ 100)
theorem small5_ok : small5 = true := by decide +kernel
theorem arr_small {m : List Nat} (h : (m.length = 3 ∧ m.sum ≤ 6) ∨ (m.length = 5 ∧ m.sum ≤ 4)) : arr 0 m ≤ 100 := by
  rcases h with ⟨h1, h2⟩ | ⟨h1, h2⟩
  · match m, h1 with
    | [a, b, c], _ =>
      simp at h2
      have s1 := List.all_eq_true.1 small3_ok a (List.mem_range.2 (by omega))
      have s2 := List.all_eq_true.1 s1 b (List.mem_range.2 (by omega))
      have s3 := List.all_eq_true.1 s2 c (List.mem_range.2 (by omega))
      simp only [Bool.or_eq_true, decide_eq_true_eq] at s3
      rcases s3 with s | s
      · omega
      · exact s
  · match m, h1 with
    | [a, b, c, d, e], _ =>
      simp at h2
      have s1 := List.all_eq_true.1 small5_ok a (List.mem_range.2 (by omega))
      have s2 := List.all_eq_true.1 s1 b (List.mem_range.2 (by omega))
      have s3 := List.all_eq_true.1 s2 c (List.mem_range.2 (by omega))
      have s4 := List.all_eq_true.1 s3 d (List.mem_range.2 (by omega))
      have s5 := List.all_eq_true.1 s4 e (List.mem_range.2 (by omega))
      simp only [Bool.or_eq_true, decide_eq_true_eq] at s5
      rcases s5 with s | s
      · omega
      · exact s
/-! ### the positions of a material -/
theorem menOf_isArr {K : Nat} : ∀ {p men : List Nat}, men.length = K → isArr men p → menOf K (p.map Int.ofNat) = men.map Int.ofNat
  | [], men, hl, h => by
    have h0 : ∀ x ∈ men, x = 0 := by
      have hs : men.sum = 0 := h
      clear h hl
      induction men with
      | nil => simp
      | cons a l ih =>
        simp at hs
        intro x hx
        rcases List.mem_cons.1 hx with rfl | hx
        · exact hs.1
        · exact ih hs.2 x hx
    simp only [List.map_nil, menOf, List.foldl_nil]
    refine List.ext_getElem (by simp [hl]) fun i h1 h2 => ?_
    simp at h2
    have := h0 _ (List.getElem_mem h2)
    simp [this]
  | c :: p, men, hl, h => by
    have ih := menOf_isArr (K := K) (p := p) (men := dec men c) (by rw [dec_length]; exact hl) h.2.2
    rw [List.map_cons, menOf_cons, ih]
    obtain ⟨h1, h2, _⟩ := h
    unfold bump dec
    simp only [List.map_set]
    have e : (Int.ofNat c).toNat = c := rfl
    rw [e, nth_set_self (by simpa using h1), List.set_set]
    have hg : men.getD c 0 = men[c] := by simp [h1]
    rw [hg] at h2 ⊢
    refine List.ext_getElem (by simp) fun i h3 h4 => ?_
    simp only [List.getElem_set, List.getElem_map]
    split
    · rename_i hi
      subst hi
      simp; omega
    · rfl
theorem pos_at {g : GameD} {p : PosD} (h : posOk g p = true) (hl : p.at_.length ≤ 1048576) (hb : ways (ofP g p).at_ ≤ 1099511627776) (i : Nat) (hi : (i : Int) < ways (ofP g p).at_) :
    posOk g { p with at_ := atL p.at_.length (ofP g p).at_ i } = true ∧ ofP g { p with at_ := atL p.at_.length (ofP g p).at_ i } = ofP g p ∧ rankN (ofP g p).at_ (atL p.at_.length (ofP g p).at_ i) = i := by
  obtain ⟨h1, h2, h3⟩ := posOk_iff.1 h
  have hK : ∀ c ∈ p.at_, c.toNat < 1 + 2 * g.kinds.length := fun c hc => by have := h2 c hc; omega
  have hs := sum_menOf hK
  have hn := menOf_nonneg hK
  have hw := ways_toN hn (by omega)
  simp only [ofP] at hb hi ⊢
  have hcap : capped (toN (menOf (1 + 2 * g.kinds.length) p.at_)) = arr 0 (toN (menOf (1 + 2 * g.kinds.length) p.at_)) ∧ arr 0 (toN (menOf (1 + 2 * g.kinds.length) p.at_)) ≤ 1099511627776 := by unfold capped at *; omega
  have hlt : i < arr 0 (toN (menOf (1 + 2 * g.kinds.length) p.at_)) := by rw [hw, hcap.1] at hi; omega
  have hat := atL_eq p.at_.length (menOf (1 + 2 * g.kinds.length) p.at_) i hn hs hl hcap.2 hlt
  obtain ⟨s1, s2, s3⟩ := unrk_spec p.at_.length (toN (menOf (1 + 2 * g.kinds.length) p.at_)) i hs hlt
  rw [hat]
  generalize hu : unrk p.at_.length (toN (menOf (1 + 2 * g.kinds.length) p.at_)) i = u at *
  have hml : (toN (menOf (1 + 2 * g.kinds.length) p.at_)).length = 1 + 2 * g.kinds.length := by rw [toN_length, menOf_length]
  have hme := menOf_isArr hml s1
  rw [map_toN hn] at hme
  have hmem : ∀ {men q : List Nat}, isArr men q → ∀ c ∈ q, c < men.length := by
    intro men q
    induction q generalizing men with
    | nil => simp
    | cons x q ih =>
      intro hA c hc
      rcases List.mem_cons.1 hc with rfl | hc
      · exact hA.1
      · have := ih hA.2.2 c hc; rwa [dec_length] at this
  have hu1 : ∀ c ∈ u.map Int.ofNat, 0 ≤ c ∧ c ≤ 2 * (g.kinds.length : Int) := by
    intro c hc
    obtain ⟨x, hx, rfl⟩ := List.mem_map.1 hc
    have := hmem s1 x hx
    rw [hml] at this
    simp; omega
  refine ⟨posOk_iff.2 ⟨by simp; omega, hu1, h3⟩, by rw [hme], ?_⟩
  have hK2 : ∀ c ∈ u.map Int.ofNat, c.toNat < 1 + 2 * g.kinds.length := fun c hc => by have := hu1 c hc; omega
  have := rankN_eq hK2 (by simp; omega) (by rw [hme]; exact hcap.2)
  rw [hme] at this
  rw [this]
  have e : toN (u.map Int.ofNat) = u := by
    unfold toN
    rw [List.map_map]
    exact (List.map_congr_left (fun x _ => rfl)).trans (List.map_id u)
  rw [e, s3]
theorem sortedP_of {q : Nat → PosD} {n : Nat} (h : ∀ i, i + 1 < n → cmpP (q i) (q (i + 1)) < 0) : ∀ k j, j + k = n → sortedP ((List.range' j k).map q) = true
  | 0, j, _ => rfl
  | 1, j, _ => rfl
  | k + 2, j, hj => by
    have ih := sortedP_of h (k + 1) (j + 1) (by omega)
    simp only [List.range'_succ, List.map_cons, sortedP] at ih ⊢
    rw [ih]
    simp only [Bool.and_true, decide_eq_true_eq]
    exact h j (by omega)
theorem findGo_ok {l : List PosD} {p : PosD} {r : Nat} (hc : ∀ i, i < l.length → (cmpP p (nth l i) = 0 ↔ r = i) ∧ (cmpP p (nth l i) < 0 ↔ r < i)) : ∀ f lo hi, hi ≤ l.length → lo ≤ r → r < hi → hi - lo < f → 0 ≤ findGo l p f lo hi
  | 0, lo, hi, _, _, _, h => by omega
  | f + 1, lo, hi, h1, h2, h3, h4 => by
    rw [findGo, if_pos (by omega)]
    have hm := hc ((lo + hi) / 2) (by omega)
    split
    · omega
    · rename_i hz
      split
      · rename_i hn
        exact findGo_ok hc f lo ((lo + hi) / 2) (by omega) h2 (hm.2.1 hn) (by omega)
      · rename_i hn
        refine findGo_ok hc f ((lo + hi) / 2 + 1) hi h1 ?_ h3 (by omega)
        have a1 : r ≠ (lo + hi) / 2 := fun h => hz (hm.1.2 h)
        have a2 : ¬ r < (lo + hi) / 2 := fun h => hn (hm.2.2 h)
        omega
/-! ### the law -/
theorem IndexAll_pure (a b : Int) (l : List Int) (ha : 0 ≤ a ∧ a ≤ 255) (hb : 0 ≤ b ∧ b ≤ 255) (hl : l.length ≤ maxLen) (hv : ∀ x ∈ l, 0 ≤ x ∧ x ≤ 255) :
    Pure Try.prog 9 [.agg [.v (.int .u8 a), .v (.int .u8 b)], encUs l] (.v (.bool true)) := by
  have hlen : l.length ≤ 9223372036854775807 := by
    have : maxLen = 9223372036854775807 := by decide
    omega
  have n2 := Int.tmod_nonneg 2 hb.1
  have n3 := Int.tmod_lt_of_pos b (show (0 : Int) < 2 by decide)
  obtain ⟨k, hk⟩ : ∃ k : Nat, (1 + b.tmod 2) = k := ⟨(1 + b.tmod 2).toNat, by omega⟩
  have n0 := Int.tmod_nonneg (8 - 2 * (k : Int)) ha.1
  have n1 := Int.tmod_lt_of_pos a (show (0 : Int) < 8 - 2 * (k : Int) by omega)
  obtain ⟨c, hc⟩ : ∃ c : Nat, (1 + a.tmod (8 - 2 * (k : Int))) = c := ⟨(1 + a.tmod (8 - 2 * (k : Int))).toNat, by omega⟩
  have hB := Blank_pure c k (by omega) (by omega)
  have hF := Filled_pure (blankG c k) c k rfl (by simp [blankG]) (by omega) (by omega) l hlen hv
  have hpo := posOk_fill (c := c) (k := k) (l := l) (by omega) (fun x hx => (hv x hx).1)
  have hfit := fitsP_fill (c := c) (k := k) (l := l) (by omega) (by omega)
  have hpl : (fillPos c k l).at_.length = c := by simp [fillPos, atFj]
  have hkl : (blankG c k).kinds.length = k := by simp [blankG]
  generalize fillPos c k l = p at *
  have q1 : FitsG (blankG c k) := by simp [FitsG, blankG]; omega
  have q2 : FitsR (blankG c k) := by simp [FitsR, blankG]
  have q3 : (blankG c k).cells ≤ 64 := by simp [blankG]; omega
  have q4 : (blankG c k).kinds.length ≤ 400 := by simp [blankG]; omega
  have hel : (encGame (blankG c k)).length = 9 := rfl
  have hbl : ∀ n, (∀ c' ∈ encGame (blankG c k), Bel n c') = True := fun n => by simp [go_sem]
  have hgc : (blankG c k).cells = c := rfl
  generalize blankG c k = g at *
  have hcont := (posOk_iff.1 hpo).2.1
  have hO := Of14_pure g q4 p hfit hcont
  have hfo := fitsP_of (g := g) hfit q4
  have hfo1 := hfo.1
  unfold Fits at hfo1
  have hSz := Size_pure g q1 q2 q3 q4 (ofP g p) (by omega) hfo.2.1 hfo.2.2
  have hK : ∀ c ∈ p.at_, c.toNat < 1 + 2 * g.kinds.length := fun c hc => by have := hcont c hc; omega
  -- the number of ways
  have hways : 1 ≤ ways (ofP g p).at_ ∧ ways (ofP g p).at_ ≤ 100 := by
    have hw := ways_toN (menOf_nonneg hK) (by rw [sum_menOf hK]; omega)
    have hs := arr_small (m := toN (menOf (1 + 2 * g.kinds.length) p.at_)) (by rw [toN_length, menOf_length, sum_menOf hK]; omega)
    have hp := arr_pos 0 (toN (menOf (1 + 2 * g.kinds.length) p.at_))
    simp only [ofP]
    rw [hw]
    unfold capped
    omega
  have hsz : sizeOf_ g (ofP g p) = (ways (ofP g p).at_, 0) := by
    rw [size_of (matOk_of hpo), lesO, if_neg (by unfold big; omega)]
  rw [hsz] at hSz
  obtain ⟨n, hn⟩ : ∃ n : Nat, ways (ofP g p).at_ = n := ⟨(ways (ofP g p).at_).toNat, by omega⟩
  -- the positions
  have hq := fun i hi => pos_at hpo (by omega) (by omega) i hi
  obtain ⟨q, hqd⟩ : ∃ q : Nat → PosD, q = fun i => { p with at_ := atL p.at_.length (ofP g p).at_ i } := ⟨_, rfl⟩
  have hq1 : ∀ i, i < n → posOk g (q i) = true ∧ ofP g (q i) = ofP g p ∧ rankN (ofP g p).at_ (q i).at_ = i := fun i hi => by
    rw [hqd]; exact hq i (by omega)
  have hqf : ∀ i, i < n → FitsP (q i) := fun i hi => by
    obtain ⟨e1, _⟩ := posOk_iff.1 (hq1 i hi).1
    refine ⟨by unfold Fits; omega, ?_, ?_⟩
    · rw [hqd]; exact hfit.2.1
    · rw [hqd]; exact hfit.2.2
  have hAt : ∀ i : Nat, i < n → Pure Try.prog 33 [.agg (encGame g), .agg (encPos (ofP g p)), .v (.int .i64 i)] (.tup [.agg (encPos (q i)), .v (.int .i64 0)]) := fun i hi => by
    have := At_pure g q1 q2 q3 q4 (ofP g p) (by omega) hfo.2.1 hfo.2.2 i
    have e : atOf g (ofP g p) i = (q i, 0) := by
      unfold atOf
      rw [hsz, if_neg (by simp), if_neg (by simp only; omega), hqd, show g.cells.toNat = p.at_.length by omega]
      rfl
    rw [e] at this
    exact this
  have hAtN : Pure Try.prog 33 [.agg (encGame g), .agg (encPos (ofP g p)), .v (.int .i64 n)] (.tup [.agg (encPos zeroP), .v (.int .i64 140)]) := by
    have := At_pure g q1 q2 q3 q4 (ofP g p) (by omega) hfo.2.1 hfo.2.2 n
    have e : atOf g (ofP g p) n = (zeroP, 140) := by
      unfold atOf
      rw [hsz, if_neg (by simp), if_pos (by simp only; omega)]
    rw [e] at this
    exact this
  have hVal : ∀ i, i < n → Pure Try.prog 41 [.agg (encGame g), .agg (encPos (q i))] (.v (.bool true)) := fun i hi => by
    have := RValid_pure g q1 q2 (q i) (hqf i hi)
    rw [(hq1 i hi).1] at this
    exact this
  have hOf : ∀ i, i < n → Pure Try.prog 26 [.agg (encGame g), .agg (encPos (q i))] (.agg (encPos (ofP g p))) := fun i hi => by
    have := Of_pure g q4 (q i) (hqf i hi) (posOk_iff.1 (hq1 i hi).1).2.1
    rw [(hq1 i hi).2.1] at this
    exact this
  have hSm := Same14_pure (ofP g p) (ofP g p) hfo hfo
  have hcq : ∀ i j, i < n → j < n → (cmpP (q i) (q j) < 0 ↔ i < j) ∧ (cmpP (q i) (q j) = 0 ↔ i = j) := fun i j hi hj => by
    obtain ⟨a1, a2, a3⟩ := hq1 i hi
    obtain ⟨b1, b2, b3⟩ := hq1 j hj
    have := rank_cmp a1 b1 (by rw [a2, b2]) (by have := (hqf i hi).1; obtain ⟨e1, _⟩ := posOk_iff.1 a1; omega) (by rw [a2]; omega)
    rw [a2, b2, a3, b3] at this
    have hc : cmpP (q i) (q j) = cmpL (q i).at_ (q j).at_ := by
      rw [hqd]
      unfold cmpP
      simp only [cmpL_self, number_self]
      split <;> simp_all
    rw [hc]
    omega
  have hnl : ∀ i, i < n → nth ((List.range n).map q) i = q i := fun i hi => by rw [nth_map _ _ _ (by simpa using hi), nth_eq _ _ (by simpa using hi)]; simp
  have hSo : Pure Try.prog 42 [encPs ((List.range n).map q)] (.v (.bool true)) := by
    have := Sorted_pure ((List.range n).map q) (by simp; omega) (fun p' hp' => by
      obtain ⟨i, hi, rfl⟩ := List.mem_map.1 hp'
      exact hqf i (List.mem_range.1 hi))
    rw [List.range_eq_range', sortedP_of (fun i hi => ((hcq i (i + 1) (by omega) hi).1.2 (by omega))) n 0 (by omega)] at this
    rw [List.range_eq_range']
    exact this
  -- the position itself
  have hra := rank_at hpo (by omega)
  obtain ⟨r, hr, hrp⟩ : ∃ r : Nat, r < n ∧ q r = p := by
    rcases hra with ⟨e1, _⟩ | ⟨_, _, e3, e4, e5, e6, _⟩
    · rw [hsz] at e1; simp at e1
    · rw [hsz] at e4
      refine ⟨(rankOf g p).1.toNat, by omega, ?_⟩
      have := hAt (rankOf g p).1.toNat (by omega)
      have e : atOf g (ofP g p) (((rankOf g p).1.toNat : Nat) : Int) = (q (rankOf g p).1.toNat, 0) := by
        unfold atOf
        rw [hsz, if_neg (by simp), if_neg (by simp only; omega), hqd, show g.cells.toNat = p.at_.length by omega]
        rfl
      rw [show (((rankOf g p).1.toNat : Nat) : Int) = (rankOf g p).1 by omega, e5] at e
      exact (Prod.mk.inj e).1.symm
  obtain ⟨fi, hfi, hFd⟩ : ∃ fi : Int, 0 ≤ fi ∧ Pure Try.prog 43 [encPs ((List.range n).map q), .agg (encPos p)] (.v (.int .i64 fi)) := by
    refine ⟨_, ?_, Find_pure ((List.range n).map q) p (by simp; omega) (fun p' hp' => by
      obtain ⟨i, hi, rfl⟩ := List.mem_map.1 hp'
      exact hqf i (List.mem_range.1 hi)) hfit⟩
    unfold findP
    refine findGo_ok (r := r) (fun i hi => ?_) _ 0 _ (Nat.le_refl _) (Nat.zero_le _) (by simpa using hr) (by omega)
    simp at hi
    rw [hnl i hi, ← hrp]
    exact ⟨(hcq r i hr hi).2, (hcq r i hr hi).1⟩
  have hpb : ∀ n, (∀ c' ∈ encPos p, Bel n c') = True := fun n => by simp [go_sem]
  have hpe : (encPos p).length = 5 := rfl
  have hmb : ∀ n, (∀ c' ∈ encPos (ofP g p), Bel n c') = True := fun n => by simp [go_sem]
  have hme : (encPos (ofP g p)).length = 5 := rfl
  rw [hn] at hSz
  have hnb : 1 ≤ n ∧ n ≤ 100 := by omega
  clear hq hq1 hqf hcq hnl hra hqd
  generalize encGame g = eg at *
  generalize encPos (ofP g p) = em at *
  generalize encPos p = ep at *
  refine Pure.of (ACallP.of_awp (by kernel_rfl) Try.func9 rfl rfl (Nat.le_of_ble_eq_true rfl) (by kernel_rfl) ?_)
  (repeat (first | ((with_reducible refine VC.mkL ?_ fun _ => ?_); · first | omega | exact True.intro | rfl) | ((with_reducible refine VC.mkD ?_ fun _ => ?_); · first | omega | exact True.intro | (intros; omega)) | ((with_reducible refine dEnd.mk ?_ ?_); · kernel_rfl) | (simp [go_sem])))
  refine ACallP.plain ok14_pure (by simp [go_sem]) ?_
  (repeat (first | ((with_reducible refine VC.mkL ?_ fun _ => ?_); · first | omega | exact True.intro | rfl) | ((with_reducible refine VC.mkD ?_ fun _ => ?_); · first | omega | exact True.intro | (intros; omega)) | ((with_reducible refine dEnd.mk ?_ ?_); · kernel_rfl) | (simp [go_sem, hk, hc])))
  refine ACallP.plain hB (by simp [go_sem]) ?_
  (repeat (first | ((with_reducible refine VC.mkL ?_ fun _ => ?_); · first | omega | exact True.intro | rfl) | ((with_reducible refine VC.mkD ?_ fun _ => ?_); · first | omega | exact True.intro | (intros; omega)) | ((with_reducible refine dEnd.mk ?_ ?_); · kernel_rfl) | (simp [go_sem, hel])))
  refine ACallP.plain hF (by simp [go_sem, hbl]) ?_
  (repeat (first | ((with_reducible refine VC.mkL ?_ fun _ => ?_); · first | omega | exact True.intro | rfl) | ((with_reducible refine VC.mkD ?_ fun _ => ?_); · first | omega | exact True.intro | (intros; omega)) | ((with_reducible refine dEnd.mk ?_ ?_); · kernel_rfl) | (simp [go_sem, hel, hpe])))
  refine ACallP.plain hO (by simp [go_sem, hbl, hpb]) ?_
  (repeat (first | ((with_reducible refine VC.mkL ?_ fun _ => ?_); · first | omega | exact True.intro | rfl) | ((with_reducible refine VC.mkD ?_ fun _ => ?_); · first | omega | exact True.intro | (intros; omega)) | ((with_reducible refine dEnd.mk ?_ ?_); · kernel_rfl) | (simp [go_sem, hel, hpe, hme])))
  refine ACallP.plain hSz (by simp [go_sem, hbl, hmb]) ?_
  (repeat (first | ((with_reducible refine VC.mkL ?_ fun _ => ?_); · first | omega | exact True.intro | rfl) | ((with_reducible refine VC.mkD ?_ fun _ => ?_); · first | omega | exact True.intro | (intros; omega)) | ((with_reducible refine dEnd.mk ?_ ?_); · kernel_rfl) | (simp [go_sem, hel, hpe, hme])))
  (refine aIf.mkL (fun hF => by first | omega | (simp at hF; omega)) (fun hF => ?_); clear hF)
  (repeat (first | ((with_reducible refine VC.mkL ?_ fun _ => ?_); · first | omega | exact True.intro | rfl) | ((with_reducible refine VC.mkD ?_ fun _ => ?_); · first | omega | exact True.intro | (intros; omega)) | ((with_reducible refine dEnd.mk ?_ ?_); · kernel_rfl) | (simp [go_sem, hel, hpe, hme])))
  refine ALoop.start (ALoop.ind (α := Nat) (fun i => ⟨[(5, .v (.bool true)), (7, .ref 1 0 9 0 0), (8, .ref 2 0 5 0 0), (9, .ref 3 0 5 0 0), (10, .v (.int .i64 n)), (12, .sl 4 i 5 0 i), (13, .v (.int .i64 i))],
      [(1, .rows true 0 9 [eg]), (2, .rows true 0 5 [ep]), (3, .rows true 0 5 [em]), (4, .rows true i 5 (((List.range i).map q).map encPos))], 5⟩)
    (fun d i => i + d = n) ?_ n 0 ?_) ?_ ?_
  · rintro d i i1 hrec
    have hil : ((List.range i).map q).length = i := by simp
    have his : (List.range (i + 1)).map q = (List.range i).map q ++ [q i] := by rw [List.range_succ, List.map_append]; rfl
    have hrow : ((List.range i).map q).map encPos ++ [encPos (q i)] = ((List.range (i + 1)).map q).map encPos := by rw [his, List.map_append]; rfl
    generalize hLi : (List.range i).map q = Li at *
    (repeat (first | ((with_reducible refine VC.mkL ?_ fun _ => ?_); · first | omega | exact True.intro | rfl) | ((with_reducible refine VC.mkD ?_ fun _ => ?_); · first | omega | exact True.intro | (intros; omega)) | ((with_reducible refine dEnd.mk ?_ ?_); · kernel_rfl) | (simp [go_sem, hel, hpe, hme])))
    refine aIf.mkL (fun hi => ?_) (fun hi => ?_) <;> simp at hi
    · have hqb : ∀ n, (∀ c' ∈ encPos (q i), Bel n c') = True := fun n => by simp [go_sem]
      have hqe : (encPos (q i)).length = 5 := rfl
      have k1 := hAt i hi
      have k2 := hVal i hi
      have k3 := hOf i hi
      generalize encPos (q i) = eq at *
      (repeat (first | ((with_reducible refine VC.mkL ?_ fun _ => ?_); · first | omega | exact True.intro | rfl) | ((with_reducible refine VC.mkD ?_ fun _ => ?_); · first | omega | exact True.intro | (intros; omega)) | ((with_reducible refine dEnd.mk ?_ ?_); · kernel_rfl) | (simp [go_sem, hel, hpe, hme])))
      refine ACallP.plain k1 (by simp [go_sem, hbl, hmb]) ?_
      (repeat (first | ((with_reducible refine VC.mkL ?_ fun _ => ?_); · first | omega | exact True.intro | rfl) | ((with_reducible refine VC.mkD ?_ fun _ => ?_); · first | omega | exact True.intro | (intros; omega)) | ((with_reducible refine dEnd.mk ?_ ?_); · kernel_rfl) | (simp [go_sem, hel, hpe, hme, hqe])))
      refine dGC.plain _ (fun _ => k2) (by simp [go_sem, hbl, hqb]) ?_
      (repeat (first | ((with_reducible refine VC.mkL ?_ fun _ => ?_); · first | omega | exact True.intro | rfl) | ((with_reducible refine VC.mkD ?_ fun _ => ?_); · first | omega | exact True.intro | (intros; omega)) | ((with_reducible refine dEnd.mk ?_ ?_); · kernel_rfl) | (simp [go_sem, hel, hpe, hme, hqe])))
      refine dGC.plain _ (fun _ => k3) (by simp [go_sem, hbl, hqb]) ?_
      (repeat (first | ((with_reducible refine VC.mkL ?_ fun _ => ?_); · first | omega | exact True.intro | rfl) | ((with_reducible refine VC.mkD ?_ fun _ => ?_); · first | omega | exact True.intro | (intros; omega)) | ((with_reducible refine dEnd.mk ?_ ?_); · kernel_rfl) | (simp [go_sem, hel, hpe, hme, hqe])))
      refine dGC.plain _ (fun _ => hSm) (by simp [go_sem, hmb]) ?_
      (repeat (first | ((with_reducible refine VC.mkL ?_ fun _ => ?_); · first | omega | exact True.intro | rfl) | ((with_reducible refine VC.mkD ?_ fun _ => ?_); · first | omega | exact True.intro | (intros; omega)) | ((with_reducible refine dEnd.mk ?_ ?_); · kernel_rfl) | (simp [go_sem, hel, hpe, hme, hqe, hil])))
      refine ALoop.start (hrec (d - 1) (by omega) (i + 1) (by omega)) ?_ (by simp)
      generalize hL2 : (List.range (i + 1)).map q = L2 at *
      simp [go_sem, Wk_eq, hrow, hbl, hpb, hmb]
    · obtain rfl : i = n := by omega
      (repeat (first | ((with_reducible refine VC.mkL ?_ fun _ => ?_); · first | omega | exact True.intro | rfl) | ((with_reducible refine VC.mkD ?_ fun _ => ?_); · first | omega | exact True.intro | (intros; omega)) | ((with_reducible refine dEnd.mk ?_ ?_); · kernel_rfl) | (simp [go_sem, hel, hpe, hme])))
      refine ACallP.plain hAtN (by simp [go_sem, hbl, hmb]) ?_
      (repeat (first | ((with_reducible refine VC.mkL ?_ fun _ => ?_); · first | omega | exact True.intro | rfl) | ((with_reducible refine VC.mkD ?_ fun _ => ?_); · first | omega | exact True.intro | (intros; omega)) | ((with_reducible refine dEnd.mk ?_ ?_); · kernel_rfl) | (simp [go_sem, hel, hpe, hme, zeroP])))
      refine ACallP.flat hSo (.v _) ?_ (by simp [go_sem]) ?_
      · simp only [encPs]
        refine LeRow.cons (LeV.frz rfl ?_ ?_ (LeRows.of_eq ?_)) LeRow.nil
        · simp [hil]
        · simp [noH]
        · rw [List.drop_zero, List.take_of_length_le (by simp [hil]), hLi]
      · (repeat (first | ((with_reducible refine VC.mkL ?_ fun _ => ?_); · first | omega | exact True.intro | rfl) | ((with_reducible refine VC.mkD ?_ fun _ => ?_); · first | omega | exact True.intro | (intros; omega)) | ((with_reducible refine dEnd.mk ?_ ?_); · kernel_rfl) | (simp [go_sem, hel, hpe, hme])))
        refine aGC.flat _ _ (fun _ => hFd) (.v _) ?_ (by simp [go_sem, hpb]) ?_
        · simp only [encPs]
          refine LeRow.cons (LeV.frz rfl ?_ ?_ (LeRows.of_eq ?_)) (LeRow.refl _ _ _ _)
          · simp [hil]
          · simp [noH]
          · rw [List.drop_zero, List.take_of_length_le (by simp [hil]), hLi]
        · (repeat (first | ((with_reducible refine VC.mkL ?_ fun _ => ?_); · first | omega | exact True.intro | rfl) | ((with_reducible refine VC.mkD ?_ fun _ => ?_); · first | omega | exact True.intro | (intros; omega)) | ((with_reducible refine dEnd.mk ?_ ?_); · kernel_rfl) | (simp [go_sem, hfi])))
  · simp
  · simp [go_sem, Wk_eq, hbl, hpb, hmb]
  · simp
end Go.Av
