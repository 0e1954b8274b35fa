/- Contracts, part 7: index.Of, taker, Rank, At. -/
import Derived.Test.YtmmboiafelbgbaaC6
set_option linter.unusedSimpArgs false
set_option linter.unusedVariables false
open Go Go.Proofs
set_option maxRecDepth 20000
namespace Go.Av
/-! ### index.Of -/
def bump (m : List Int) (c : Int) : List Int := m.set c.toNat (nth m c.toNat + 1)
def menOf (k : Nat) (l : List Int) : List Int := l.foldl bump (List.replicate k 0)
def ofP (g : GameD) (p : PosD) : PosD := { p with at_ := menOf (1 + 2 * g.kinds.length) p.at_ }
theorem bump_length (m : List Int) (c : Int) : (bump m c).length = m.length := by simp [bump]
theorem bump_mem {m : List Int} {c x : Int} {j : Nat} (h : ∀ x ∈ m, 0 ≤ x ∧ x ≤ j) (hc : c.toNat < m.length) (hx : x ∈ bump m c) : 0 ≤ x ∧ x ≤ (j + 1 : Nat) := by
  rcases List.mem_or_eq_of_mem_set hx with h1 | rfl
  · have := h x h1; omega
  · have := h _ (nth_mem hc); omega
def ownMat (n : Nat) (p : PosD) : AV := .agg [.sl (n + 8) 0 1 0 p.at_.length, .sl (n + 16) 1 1 0 p.h0.length, .sl (n + 17) 1 1 0 p.h1.length, .v (.int .i64 p.rights), .v (.int .i64 p.side)]
def ownMatH (n : Nat) (p : PosD) : List (Nat × AObj) := [(n + 8, .rows true 0 1 (p.at_.map encI)), (n + 16, .rows true 1 1 (p.h0.map encI)), (n + 17, .rows true 1 1 (p.h1.map encI))]
attribute [go_sem] ownMat ownMatH
theorem bump_set {m : List Int} {c : Int} : (m.map encI).set c.toNat [.v (.int .i64 (nth m c.toNat + 1))] = (bump m c).map encI := by simp [bump, List.map_set, encI]
theorem Of_owns (g : GameD) (hk : g.kinds.length ≤ 400) (p : PosD) (hp : FitsP p) (hc : ∀ c ∈ p.at_, 0 ≤ c ∧ c ≤ 2 * g.kinds.length) :
    Owns Try.prog 26 [.agg (encGame g), .agg (encPos p)] (fun n => ownMat n (ofP g p)) (fun n => ownMatH n (ofP g p)) 18 := by
  refine ⟨ACallP.of_awp (by kernel_rfl) Try.func26 rfl rfl (Nat.le_of_ble_eq_true rfl) (by kernel_rfl) ?_, fun n => ⟨by simp [go_sem], by simp [go_sem]⟩⟩
  obtain ⟨p1, p2, p3⟩ := hp
  have eK : (1 + 2 * (g.kinds.length : Int)).toNat = 1 + 2 * g.kinds.length := by omega
  (repeat (first | ((with_reducible refine VC.mkL ?_ fun _ => ?_); · first | omega | exact True.intro | rfl) | ((with_reducible refine VC.mkD ?_ fun _ => ?_); · first | omega | exact True.intro | (intros; omega)) | ((with_reducible refine dEnd.mk ?_ ?_); · kernel_rfl) | (simp [go_sem, eK])))
  refine ALoop.unroll ?_
  (repeat (first | ((with_reducible refine VC.mkL ?_ fun _ => ?_); · first | omega | exact True.intro | rfl) | ((with_reducible refine VC.mkD ?_ fun _ => ?_); · first | omega | exact True.intro | (intros; omega)) | ((with_reducible refine dEnd.mk ?_ ?_); · kernel_rfl) | (simp [go_sem, eK])))
  refine ACallP.ownsPlain (Clone_owns p.h0 p2) (by simp [go_sem]) ?_
  (repeat (first | ((with_reducible refine VC.mkL ?_ fun _ => ?_); · first | omega | exact True.intro | rfl) | ((with_reducible refine VC.mkD ?_ fun _ => ?_); · first | omega | exact True.intro | (intros; omega)) | ((with_reducible refine dEnd.mk ?_ ?_); · kernel_rfl) | (simp [go_sem])))
  refine ALoop.unroll ?_
  (repeat (first | ((with_reducible refine VC.mkL ?_ fun _ => ?_); · first | omega | exact True.intro | rfl) | ((with_reducible refine VC.mkD ?_ fun _ => ?_); · first | omega | exact True.intro | (intros; omega)) | ((with_reducible refine dEnd.mk ?_ ?_); · kernel_rfl) | (simp [go_sem])))
  refine ACallP.ownsPlain (Clone_owns p.h1 p3) (by simp [go_sem]) ?_
  (repeat (first | ((with_reducible refine VC.mkL ?_ fun _ => ?_); · first | omega | exact True.intro | rfl) | ((with_reducible refine VC.mkD ?_ fun _ => ?_); · first | omega | exact True.intro | (intros; omega)) | ((with_reducible refine dEnd.mk ?_ ?_); · kernel_rfl) | (simp [go_sem])))
  refine ALoop.unroll ?_
  (repeat (first | ((with_reducible refine VC.mkL ?_ fun _ => ?_); · first | omega | exact True.intro | rfl) | ((with_reducible refine VC.mkD ?_ fun _ => ?_); · first | omega | exact True.intro | (intros; omega)) | ((with_reducible refine dEnd.mk ?_ ?_); · kernel_rfl) | (simp [go_sem])))
  unfold Fits at p1 p2 p3
  refine ALoop.start (ALoop.ind (α := Nat × List Int) (fun a => ⟨[(4, .ref 2 0 5 0 0), (5, .ref 14 0 5 0 0), (34, encIs p.at_), (35, .v (.int .i64 p.at_.length)), (36, .v (.int .i64 a.1))],
      [(2, .rows true 0 5 [[.v (.slice none 0 0), .v (.slice none 0 0), .v (.slice none 0 0), .v (.int .i64 0), .v (.int .i64 0)]]), (8, .rows true 0 1 (a.2.map encI)),
       (14, .rows true 0 5 [[.sl 8 0 1 0 (1 + 2 * g.kinds.length), .sl 16 1 1 0 p.h0.length, .sl 17 1 1 0 p.h1.length, .v (.int .i64 p.rights), .v (.int .i64 p.side)]]), (16, .rows true 1 1 (p.h0.map encI)), (17, .rows true 1 1 (p.h1.map encI))], 18⟩)
    (fun d a => a.1 + d = p.at_.length ∧ a.2.length = 1 + 2 * g.kinds.length ∧ (∀ x ∈ a.2, 0 ≤ x ∧ x ≤ a.1) ∧ (p.at_.drop a.1).foldl bump a.2 = menOf (1 + 2 * g.kinds.length) p.at_) ?_ p.at_.length (0, List.replicate (1 + 2 * g.kinds.length) 0) ?_) ?_ ?_
  · rintro d ⟨j, m⟩ ⟨i1, i2, i3, i4⟩ hrec
    simp only at i1 i2 i3 i4
    (repeat (first | ((with_reducible refine VC.mkL ?_ fun _ => ?_); · first | omega | exact True.intro | rfl) | ((with_reducible refine VC.mkD ?_ fun _ => ?_); · first | omega | exact True.intro | (intros; omega)) | ((with_reducible refine dEnd.mk ?_ ?_); · kernel_rfl) | (simp [go_sem])))
    refine aIf.mkL (fun hj => ?_) (fun hj => ?_) <;> simp at hj
    · (repeat (first | ((with_reducible refine VC.mkL ?_ fun _ => ?_); · first | omega | exact True.intro | rfl) | ((with_reducible refine VC.mkD ?_ fun _ => ?_); · first | omega | exact True.intro | (intros; omega)) | ((with_reducible refine dEnd.mk ?_ ?_); · kernel_rfl) | (simp [go_sem, hj])))
      have hm := hc _ (nth_mem hj)
      rw [drop_cons hj, List.foldl_cons] at i4
      generalize nth p.at_ j = c at *
      have hcl : c.toNat < m.length := by omega
      have hb := i3 _ (nth_mem hcl)
      (repeat (first | ((with_reducible refine VC.mkL ?_ fun _ => ?_); · first | omega | exact True.intro | rfl) | ((with_reducible refine VC.mkD ?_ fun _ => ?_); · first | omega | exact True.intro | (intros; omega)) | ((with_reducible refine dEnd.mk ?_ ?_); · kernel_rfl) | (simp [go_sem, hcl])))
      refine ALoop.start (hrec (d - 1) (by omega) (j + 1, bump m c) ⟨by simp only; omega, by simp only [bump_length]; exact i2, fun x hx => bump_mem i3 hcl hx, i4⟩) ?_ (by simp)
      simp [go_sem, Wk_eq, bump_set]
    · rw [List.drop_eq_nil_of_le hj, List.foldl_nil] at i4
      subst i4
      (repeat (first | ((with_reducible refine VC.mkL ?_ fun _ => ?_); · first | omega | exact True.intro | rfl) | ((with_reducible refine VC.mkD ?_ fun _ => ?_); · first | omega | exact True.intro | (intros; omega)) | ((with_reducible refine dEnd.mk ?_ ?_); · kernel_rfl) | (simp [go_sem])))
      simp [go_sem, Wk_eq, ofP, i2]
  · refine ⟨by simp, by simp, fun x hx => ?_, rfl⟩
    have := (List.mem_replicate.1 hx).2
    omega
  · simp [go_sem, Wk_eq, eK]
  · simp
theorem Of_pure (g : GameD) (hk : g.kinds.length ≤ 400) (p : PosD) (hp : FitsP p) (hc : ∀ c ∈ p.at_, 0 ≤ c ∧ c ≤ 2 * g.kinds.length) :
    Pure Try.prog 26 [.agg (encGame g), .agg (encPos p)] (.agg (encPos (ofP g p))) := by
  refine (Of_owns g hk p hp hc).pure ?_ (by simp [go_sem])
  refine .agg (.cons ?_ (.cons ?_ (.cons ?_ (.refl _ _ _ _))))
  · (refine leV_frz rfl (by simp) (by simp [noH, upd]) ?_; first | (simp [go_sem]; done) | (simp [go_sem]; exact List.take_of_length_le (by simp)))
  · (refine leV_frz rfl (by simp) (by simp [noH, upd]) ?_; first | (simp [go_sem]; done) | (simp [go_sem]; exact List.take_of_length_le (by simp)))
  · (refine leV_frz rfl (by simp) (by simp [noH, upd]) ?_; first | (simp [go_sem]; done) | (simp [go_sem]; exact List.take_of_length_le (by simp)))
/-! ### index.taker -/
theorem nth_set_self {α : Type} [Inhabited α] {l : List α} {c : Nat} {x : α} (h : c < l.length) : nth (l.set c x) c = x := by simp [nth, h]
attribute [go_sem] nth_set_self
theorem upd_upd {α : Type} (f : Nat → α) (k : Nat) (x y : α) : upd (upd f k x) k y = upd f k y := by funext j; simp only [upd]; split <;> rfl
theorem bel_Is1 {n : Nat} {l : List Int} : ∀ c ∈ [encIs l], Bel n c := fun c hc => by rcases List.mem_singleton.1 hc with rfl; exact of_eq_true bel_Is
/-- how many arrangements begin with c -/
def takeN (m : List Int) (c : Nat) : Int := if nth m c - 1 < 0 then 0 else ways (m.set c (nth m c - 1))
theorem taker_owns (m : List Int) (hm : Fits m) : Owns Try.prog 76 [encIs m] (fun n => .fn (.func 104) [] [.ref (n + 1) 0 1 0 0]) (fun n => [(n + 1, .rows true 0 1 [[.sl n 1 1 0 m.length]]), (n, .rows true 1 1 (m.map encI))]) 2 := by
  refine ⟨ACallP.of_awp (by kernel_rfl) Try.func76 rfl rfl (Nat.le_of_ble_eq_true rfl) (by kernel_rfl) ?_, fun n => ⟨by simp [go_sem], by simp [go_sem]⟩⟩
  (repeat (first | ((with_reducible refine VC.mkL ?_ fun _ => ?_); · first | omega | exact True.intro | rfl) | ((with_reducible refine VC.mkD ?_ fun _ => ?_); · first | omega | exact True.intro | (intros; omega)) | ((with_reducible refine dEnd.mk ?_ ?_); · kernel_rfl) | (simp [go_sem])))
  refine ACallP.ownsPlain (Clone_owns m hm) (by simp [go_sem]) ?_
  (repeat (first | ((with_reducible refine VC.mkL ?_ fun _ => ?_); · first | omega | exact True.intro | rfl) | ((with_reducible refine VC.mkD ?_ fun _ => ?_); · first | omega | exact True.intro | (intros; omega)) | ((with_reducible refine dEnd.mk ?_ ?_); · kernel_rfl) | (simp [go_sem])))
  simp [go_sem, Wk_eq]
theorem taker1_call (m : List Int) (hm : m.length ≤ 1000) (hv : ∀ x ∈ m, 0 ≤ x ∧ x ≤ 1000) (c : Nat) (hc : c < m.length) {h : Heap} {n o o2 : Nat} (h1 : h o = some (.rows true 0 1 [[.sl o2 1 1 0 m.length]])) (h2 : h o2 = some (.rows true 1 1 (m.map encI))) (hne : o ≠ o2)
    {K : CallK} (hK : ∀ rs, K (.v (.int .i64 (takeN m c))) (upd h o2 (some (.rows true 1 1 rs))) n) : ACallP Try.prog 104 [.v (.int .i64 c), .ref o 0 1 0 0] h n K := by
  refine ACallP.of_awp (by kernel_rfl) Try.func104 rfl rfl (Nat.le_of_ble_eq_true rfl) (by kernel_rfl) ?_
  have hb := hv _ (nth_mem hc)
  have hl : c < (m.map encI).length := by simpa using hc
  have hm' : ∀ x ∈ m.set c (nth m c - 1), x ≤ 1000 := by
    intro x hx
    rcases List.mem_or_eq_of_mem_set hx with h | rfl
    · exact (hv x h).2
    · omega
  (repeat (first | ((with_reducible refine VC.mkL ?_ fun _ => ?_); · first | omega | exact True.intro | rfl) | ((with_reducible refine VC.mkD ?_ fun _ => ?_); · first | omega | exact True.intro | (intros; omega)) | ((with_reducible refine dEnd.mk ?_ ?_); · kernel_rfl) | (simp [go_sem, h1, h2, hne, hc])))
  refine aIf.mkL (fun hz => ?_) (fun hz => ?_) <;> simp at hz
  · have e : takeN m c = 0 := by unfold takeN; rw [if_pos hz]
    rw [e] at hK
    (repeat (first | ((with_reducible refine VC.mkL ?_ fun _ => ?_); · first | omega | exact True.intro | rfl) | ((with_reducible refine VC.mkD ?_ fun _ => ?_); · first | omega | exact True.intro | (intros; omega)) | ((with_reducible refine dEnd.mk ?_ ?_); · kernel_rfl) | (simp [go_sem, h1, h2, hne, hc])))
    rw [upd_upd]
    exact hK _
  · have e : takeN m c = ways (m.set c (nth m c - 1)) := by unfold takeN; rw [if_neg (by omega)]
    rw [e] at hK
    (repeat (first | ((with_reducible refine VC.mkL ?_ fun _ => ?_); · first | omega | exact True.intro | rfl) | ((with_reducible refine VC.mkD ?_ fun _ => ?_); · first | omega | exact True.intro | (intros; omega)) | ((with_reducible refine dEnd.mk ?_ ?_); · kernel_rfl) | (simp [go_sem, h1, h2, hne, hc])))
    refine ACallP.flat (ways_pure (m.set c (nth m c - 1)) (by simpa using hm) hm') (.v _) ?_ bel_Is1 ?_
    · refine .cons (leV_frz (upd_same _ _ _) (by simp) (by simp [noH]) ?_) .nil
      simp [List.take_of_length_le, encI]
    · (repeat (first | ((with_reducible refine VC.mkL ?_ fun _ => ?_); · first | omega | exact True.intro | rfl) | ((with_reducible refine VC.mkD ?_ fun _ => ?_); · first | omega | exact True.intro | (intros; omega)) | ((with_reducible refine dEnd.mk ?_ ?_); · kernel_rfl) | (simp [go_sem, h1, h2, hne, hc])))
      exact hK _
/-! ### counts -/
theorem bump_comm (m : List Int) (a b : Int) : bump (bump m a) b = bump (bump m b) a := by
  unfold bump
  by_cases h : a.toNat = b.toNat
  · rw [h]
  · refine List.ext_getElem (by simp) fun i h1 h2 => ?_
    simp only [List.length_set] at h1
    simp only [List.getElem_set, nth, List.getD_eq_getElem?_getD, List.getElem?_set]
    by_cases e1 : a.toNat = i <;> by_cases e2 : b.toNat = i
    · omega
    · subst e1; simp [e2, Ne.symm e2, h]
    · subst e2; simp [e1, h]
    · simp [e1, e2]
theorem foldl_bump_bump (l : List Int) (m : List Int) (c : Int) : l.foldl bump (bump m c) = bump (l.foldl bump m) c := by
  induction l generalizing m with
  | nil => rfl
  | cons x l ih => rw [List.foldl_cons, List.foldl_cons, bump_comm, ih]
theorem menOf_cons (K : Nat) (c : Int) (l : List Int) : menOf K (c :: l) = bump (menOf K l) c := by rw [menOf, List.foldl_cons, foldl_bump_bump]; rfl
theorem foldl_bump_length (l : List Int) (m : List Int) : (l.foldl bump m).length = m.length := by
  induction l generalizing m with
  | nil => rfl
  | cons x l ih => rw [List.foldl_cons, ih, bump_length]
theorem menOf_length (K : Nat) (l : List Int) : (menOf K l).length = K := by rw [menOf, foldl_bump_length]; simp
theorem set_bump {m : List Int} {c : Int} (h : c.toNat < m.length) : (bump m c).set c.toNat (nth (bump m c) c.toNat - 1) = m := by
  have e : nth (bump m c) c.toNat = nth m c.toNat + 1 := by simp [bump, nth_set_self h]
  rw [e, bump, List.set_set, Int.add_sub_cancel, nth_eq _ _ h, List.set_getElem_self]
theorem menOf_mem {K : Nat} : ∀ {l : List Int}, (∀ c ∈ l, c.toNat < K) → ∀ x ∈ menOf K l, 0 ≤ x ∧ x ≤ l.length
  | [], _, x, hx => by
    have := (List.mem_replicate.1 (show x ∈ List.replicate K 0 from hx)).2
    subst this; simp
  | c :: l, h, x, hx => by
    rw [menOf_cons] at hx
    exact bump_mem (menOf_mem fun c hc => h c (by simp [hc])) (by rw [menOf_length]; exact h c (by simp)) hx
/-! ### index.Rank -/
theorem wgo_nonneg : ∀ (r : Nat) (i out n : Int) (o m : Int), 0 ≤ i → 0 ≤ out → 0 ≤ n → wgo r i out n = some (o, m) → 0 ≤ o ∧ 0 ≤ m
  | 0, i, out, n, o, m, _, h1, h2, h => by simp only [wgo, Option.some.injEq, Prod.mk.injEq] at h; obtain ⟨rfl, rfl⟩ := h; exact ⟨h1, h2⟩
  | r + 1, i, out, n, o, m, h0, h1, h2, h => by
    rw [wgo] at h
    split at h
    · cases h
    · exact wgo_nonneg r (i + 1) _ (n + 1) o m (by omega) (Int.ediv_nonneg (Int.mul_nonneg h1 (by omega)) h0) (by omega) h
theorem wall_nonneg : ∀ (l : List Int) (out n o : Int), 0 ≤ out → 0 ≤ n → wall l out n = some o → 0 ≤ o
  | [], out, n, o, h1, _, h => by simp only [wall, Option.some.injEq] at h; omega
  | k :: l, out, n, o, h1, h2, h => by
    simp only [wall] at h
    split at h
    · cases h
    · rename_i o' m' hw
      have := wgo_nonneg _ _ _ _ _ _ (by omega) h1 h2 hw
      exact wall_nonneg l o' m' o this.1 this.2 h
theorem ways_bound (l : List Int) : 0 ≤ ways l ∧ ways l ≤ 1099511627777 := by
  unfold ways big
  split
  · omega
  · rename_i o h
    have := wall_nonneg l 1 0 o (by omega) (by omega) h
    omega
theorem takeN_bound (m : List Int) (c : Nat) : 0 ≤ takeN m c ∧ takeN m c ≤ 1099511627777 := by
  unfold takeN
  split
  · omega
  · exact ways_bound _
def lessN (m : List Int) : Nat → Int
  | 0 => 0
  | c + 1 => lessN m c + takeN m c
theorem lessN_bound {m : List Int} (_ : ∀ x ∈ m, 0 ≤ x) : ∀ x : Nat, 0 ≤ lessN m x ∧ lessN m x ≤ 1099511627777 * x
  | 0 => by simp [lessN]
  | x + 1 => by
    have h1 := lessN_bound ‹_› x
    have h2 := takeN_bound m x
    simp only [lessN]
    omega
def rankN : List Int → List Int → Int
  | _, [] => 0
  | m, c :: p => lessN m c.toNat + rankN (m.set c.toNat (nth m c.toNat - 1)) p
def rankOf (g : GameD) (p : PosD) : Int × Int := if posOk g p = false then (0, 40) else if (sizeOf_ g (ofP g p)).2 ≠ 0 then (0, (sizeOf_ g (ofP g p)).2) else (rankN (ofP g p).at_ p.at_, 0)
theorem Rank_pure (g : GameD) (hg : FitsG g) (hr : FitsR g) (h64 : g.cells ≤ 64) (hk : g.kinds.length ≤ 400) (p : PosD) (hp : FitsP p) :
    Pure Try.prog 36 [.agg (encGame g), .agg (encPos p)] (.tup [.v (.int .i64 (rankOf g p).1), .v (.int .i64 (rankOf g p).2)]) := by
  refine Pure.of (ACallP.of_awp (by kernel_rfl) Try.func36 rfl rfl (Nat.le_of_ble_eq_true rfl) (by kernel_rfl) ?_)
  (repeat (first | ((with_reducible refine VC.mkL ?_ fun _ => ?_); · first | omega | exact True.intro | rfl) | ((with_reducible refine VC.mkD ?_ fun _ => ?_); · first | omega | exact True.intro | (intros; omega)) | ((with_reducible refine dEnd.mk ?_ ?_); · kernel_rfl) | (simp [go_sem])))
  refine ACallP.plain (Valid_pure g hg hr p hp) (by simp [go_sem]) ?_
  (repeat (first | ((with_reducible refine VC.mkL ?_ fun _ => ?_); · first | omega | exact True.intro | rfl) | ((with_reducible refine VC.mkD ?_ fun _ => ?_); · first | omega | exact True.intro | (intros; omega)) | ((with_reducible refine dEnd.mk ?_ ?_); · kernel_rfl) | (simp [go_sem])))
  refine aIf.mkL (fun hv => ?_) (fun hv => ?_) <;> simp at hv
  · have e : rankOf g p = (0, 40) := by unfold rankOf; rw [if_pos hv]
    rw [e]
    (repeat (first | ((with_reducible refine VC.mkL ?_ fun _ => ?_); · first | omega | exact True.intro | rfl) | ((with_reducible refine VC.mkD ?_ fun _ => ?_); · first | omega | exact True.intro | (intros; omega)) | ((with_reducible refine dEnd.mk ?_ ?_); · kernel_rfl) | (simp [go_sem])))
  · have hc : ∀ c ∈ p.at_, 0 ≤ c ∧ c ≤ 2 * g.kinds.length := by
      intro c hc
      simp [posOk] at hv
      have := hv.1.1.1.1.1.2 c hc
      simpa [contOk] using this
    have hl : p.at_.length ≤ 64 := by simp [posOk] at hv; omega
    (repeat (first | ((with_reducible refine VC.mkL ?_ fun _ => ?_); · first | omega | exact True.intro | rfl) | ((with_reducible refine VC.mkD ?_ fun _ => ?_); · first | omega | exact True.intro | (intros; omega)) | ((with_reducible refine dEnd.mk ?_ ?_); · kernel_rfl) | (simp [go_sem])))
    refine ACallP.ownsPlain (Of_owns g hk p hp hc) (by simp [go_sem]) ?_
    (repeat (first | ((with_reducible refine VC.mkL ?_ fun _ => ?_); · first | omega | exact True.intro | rfl) | ((with_reducible refine VC.mkD ?_ fun _ => ?_); · first | omega | exact True.intro | (intros; omega)) | ((with_reducible refine dEnd.mk ?_ ?_); · kernel_rfl) | (simp [go_sem])))
    have hK : (menOf (1 + 2 * g.kinds.length) p.at_).length = 1 + 2 * g.kinds.length := menOf_length _ _
    refine ACallP.flat (args' := [.agg (encGame g), .agg (encPos (ofP g p))]) (Size_pure g hg hr h64 hk (ofP g p) (by simp [ofP, hK]; omega) hp.2.1 hp.2.2) (.tup (by intro x hx; simp at hx; rcases hx with rfl | rfl <;> exact .v _)) ?_ (by simp [go_sem]) ?_
    · simp only [encPos, encGame, encIs, List.nil_append, List.append_nil, List.cons_append]
      refine LeRow.cons (LeV.refl _) (LeRow.cons (LeV.agg (LeRow.cons ?_ (LeRow.cons ?_ (LeRow.cons ?_ (LeRow.refl _ _ _ _))))) LeRow.nil)
      · (refine leV_frz rfl (by simp) (by simp [noH, upd]) ?_; first | (simp [go_sem]; done) | (simp [go_sem]; exact List.take_of_length_le (by simp)))
      · (refine leV_frz rfl (by simp) (by simp [noH, upd]) ?_; first | (simp [go_sem]; done) | (simp [go_sem]; exact List.take_of_length_le (by simp)))
      · (refine leV_frz rfl (by simp) (by simp [noH, upd]) ?_; first | (simp [go_sem]; done) | (simp [go_sem]; exact List.take_of_length_le (by simp)))
    · (repeat (first | ((with_reducible refine VC.mkL ?_ fun _ => ?_); · first | omega | exact True.intro | rfl) | ((with_reducible refine VC.mkD ?_ fun _ => ?_); · first | omega | exact True.intro | (intros; omega)) | ((with_reducible refine dEnd.mk ?_ ?_); · kernel_rfl) | (simp [go_sem])))
      refine aIf.mkL (fun hs => ?_) (fun hs => ?_) <;> simp at hs
      · have e : rankOf g p = (0, (sizeOf_ g (ofP g p)).2) := by unfold rankOf; rw [if_neg (by simp [hv]), if_pos hs]
        rw [e]
        (repeat (first | ((with_reducible refine VC.mkL ?_ fun _ => ?_); · first | omega | exact True.intro | rfl) | ((with_reducible refine VC.mkD ?_ fun _ => ?_); · first | omega | exact True.intro | (intros; omega)) | ((with_reducible refine dEnd.mk ?_ ?_); · kernel_rfl) | (simp [go_sem])))
      · have e : rankOf g p = (rankN (ofP g p).at_ p.at_, 0) := by unfold rankOf; rw [if_neg (by simp [hv]), if_neg (by simp [hs])]
        rw [e]
        generalize hq : ofP g p = q at *
        have hqa : q.at_ = menOf (1 + 2 * g.kinds.length) p.at_ := by rw [← hq]; rfl
        (repeat (first | ((with_reducible refine VC.mkL ?_ fun _ => ?_); · first | omega | exact True.intro | rfl) | ((with_reducible refine VC.mkD ?_ fun _ => ?_); · first | omega | exact True.intro | (intros; omega)) | ((with_reducible refine dEnd.mk ?_ ?_); · kernel_rfl) | (simp [go_sem])))
        refine ALoop.start (ALoop.ind (α := Nat × Int) (fun a => ⟨[(6, .ref 20 0 5 0 0), (9, .v (.int .i64 a.2)), (30, encIs p.at_), (31, .v (.int .i64 p.at_.length)), (32, .v (.int .i64 a.1))],
            [(10, .rows true 0 1 ((menOf (1 + 2 * g.kinds.length) (p.at_.drop a.1)).map encI)), (18, .rows true 1 1 (q.h0.map encI)), (19, .rows true 1 1 (q.h1.map encI)),
             (20, .rows true 0 5 [[.sl 10 0 1 0 (1 + 2 * g.kinds.length), .sl 18 1 1 0 q.h0.length, .sl 19 1 1 0 q.h1.length, .v (.int .i64 q.rights), .v (.int .i64 q.side)]])], 21⟩)
          (fun d a => a.1 + d = p.at_.length ∧ 0 ≤ a.2 ∧ a.2 ≤ 879609302221600 * a.1 ∧ rankN q.at_ p.at_ = a.2 + rankN (menOf (1 + 2 * g.kinds.length) (p.at_.drop a.1)) (p.at_.drop a.1)) ?_ p.at_.length (0, 0) ?_) ?_ ?_
        · rintro d ⟨j, n⟩ ⟨i1, i2, i3, i4⟩ hrec
          simp only at i1 i2 i3 i4
          (repeat (first | ((with_reducible refine VC.mkL ?_ fun _ => ?_); · first | omega | exact True.intro | rfl) | ((with_reducible refine VC.mkD ?_ fun _ => ?_); · first | omega | exact True.intro | (intros; omega)) | ((with_reducible refine dEnd.mk ?_ ?_); · kernel_rfl) | (simp [go_sem])))
          refine aIf.mkL (fun hj => ?_) (fun hj => ?_) <;> simp at hj
          · (repeat (first | ((with_reducible refine VC.mkL ?_ fun _ => ?_); · first | omega | exact True.intro | rfl) | ((with_reducible refine VC.mkD ?_ fun _ => ?_); · first | omega | exact True.intro | (intros; omega)) | ((with_reducible refine dEnd.mk ?_ ?_); · kernel_rfl) | (simp [go_sem, hj])))
            have hcj := hc _ (nth_mem hj)
            have hdc := drop_cons hj
            have hcK : ∀ y ∈ p.at_.drop (j + 1), y.toNat < 1 + 2 * g.kinds.length := fun y hy => by have := hc y (List.mem_of_mem_drop hy); omega
            have hdl : (p.at_.drop (j + 1)).length = p.at_.length - (j + 1) := List.length_drop
            generalize nth p.at_ j = c at *
            generalize hrest : p.at_.drop (j + 1) = rest at *
            rw [hdc] at i4
            have hM := menOf_cons (1 + 2 * g.kinds.length) c rest
            have hml := menOf_length (1 + 2 * g.kinds.length) (c :: rest)
            have hmem : ∀ x ∈ menOf (1 + 2 * g.kinds.length) (c :: rest), 0 ≤ x ∧ x ≤ (c :: rest).length := menOf_mem (fun y hy => (List.mem_cons.1 hy).elim (fun h => by rw [h]; omega) (fun h => hcK y h))
            rw [hdc]
            have hsb := set_bump (m := menOf (1 + 2 * g.kinds.length) rest) (c := c) (by rw [menOf_length]; omega)
            rw [← hM] at hsb
            simp only [rankN] at i4
            rw [hsb] at i4
            generalize menOf (1 + 2 * g.kinds.length) (c :: rest) = m at *
            simp only [List.length_cons] at hmem
            have hm1 : ∀ x ∈ m, 0 ≤ x ∧ x ≤ 1000 := fun x hx => by have := hmem x hx; omega
            refine ALoop.start (ALoop.ind (α := Nat × Int) (fun a => ⟨[(6, .ref 20 0 5 0 0), (9, .v (.int .i64 a.2)), (11, .v (.int .i64 c)), (30, encIs p.at_), (31, .v (.int .i64 p.at_.length)), (32, .v (.int .i64 j)), (36, .v (.int .i64 c)), (37, .v (.int .i64 a.1))],
                [(10, .rows true 0 1 (m.map encI)), (18, .rows true 1 1 (q.h0.map encI)), (19, .rows true 1 1 (q.h1.map encI)),
                 (20, .rows true 0 5 [[.sl 10 0 1 0 (1 + 2 * g.kinds.length), .sl 18 1 1 0 q.h0.length, .sl 19 1 1 0 q.h1.length, .v (.int .i64 q.rights), .v (.int .i64 q.side)]])], 21⟩)
              (fun r a => a.1 + r = c.toNat ∧ a.2 = n + lessN m a.1) ?_ c.toNat (0, n) ?_) ?_ ?_
            · rintro r ⟨x, n'⟩ ⟨j1, j2⟩ hrec2
              simp only at j1 j2
              have hlb := lessN_bound (m := m) (fun x hx => (hm1 x hx).1) x
              (repeat (first | ((with_reducible refine VC.mkL ?_ fun _ => ?_); · first | omega | exact True.intro | rfl) | ((with_reducible refine VC.mkD ?_ fun _ => ?_); · first | omega | exact True.intro | (intros; omega)) | ((with_reducible refine dEnd.mk ?_ ?_); · kernel_rfl) | (simp [go_sem])))
              refine aIf.mkL (fun hx => ?_) (fun hx => ?_) <;> simp at hx
              · (repeat (first | ((with_reducible refine VC.mkL ?_ fun _ => ?_); · first | omega | exact True.intro | rfl) | ((with_reducible refine VC.mkD ?_ fun _ => ?_); · first | omega | exact True.intro | (intros; omega)) | ((with_reducible refine dEnd.mk ?_ ?_); · kernel_rfl) | (simp [go_sem])))
                refine ACallP.ownsN (taker_owns m (by unfold Fits; omega)) (by simp [go_sem]) (by simp [go_sem]) ?_ bel_Is1 ?_
                · refine LeRow.cons ?_ LeRow.nil
                  refine leV_frz (mt := true) (rs := m.map encI) (by simp [upd]) (by simp [hml]) (by simp [noH, upd]) (by simp [List.take_of_length_le, hml])
                · (repeat (first | ((with_reducible refine VC.mkL ?_ fun _ => ?_); · first | omega | exact True.intro | rfl) | ((with_reducible refine VC.mkD ?_ fun _ => ?_); · first | omega | exact True.intro | (intros; omega)) | ((with_reducible refine dEnd.mk ?_ ?_); · kernel_rfl) | (simp [go_sem])))
                  have hxc : x < m.length := by omega
                  have hlb2 := lessN_bound (m := m) (fun x hx => (hm1 x hx).1) (x + 1)
                  rw [lessN] at hlb2
                  refine taker1_call m (by omega) hm1 x hxc (o := 22) (o2 := 21) (by simp [upd]) (by simp [upd]) (by decide) (fun rs => ?_)
                  generalize htk : takeN m x = tk at *
                  (repeat (first | ((with_reducible refine VC.mkL ?_ fun _ => ?_); · first | omega | exact True.intro | rfl) | ((with_reducible refine VC.mkD ?_ fun _ => ?_); · first | omega | exact True.intro | (intros; omega)) | ((with_reducible refine dEnd.mk ?_ ?_); · kernel_rfl) | (simp [go_sem])))
                  refine ALoop.start (hrec2 (r - 1) (by omega) (x + 1, n' + tk) ⟨by simp only; omega, by simp only [lessN, htk]; omega⟩) ?_ (by simp)
                  simp [go_sem, Wk_eq]
              · have hxc : x = c.toNat := by omega
                subst hxc
                have hcl : c.toNat < m.length := by omega
                have hcm := hm1 _ (nth_mem hcl)
                have hset : (m.map encI).set c.toNat [.v (.int .i64 (nth m c.toNat - 1))] = (menOf (1 + 2 * g.kinds.length) rest).map encI := by rw [← hsb, List.map_set]; rfl
                (repeat (first | ((with_reducible refine VC.mkL ?_ fun _ => ?_); · first | omega | exact True.intro | rfl) | ((with_reducible refine VC.mkD ?_ fun _ => ?_); · first | omega | exact True.intro | (intros; omega)) | ((with_reducible refine dEnd.mk ?_ ?_); · kernel_rfl) | (simp [go_sem, hcl])))
                refine ALoop.start (hrec (d - 1) (by omega) (j + 1, n') ⟨by simp only; omega, by simp only; omega, by simp only; omega, by simp only [hrest]; omega⟩) ?_ (by simp)
                simp [go_sem, Wk_eq, hset, hrest]
            · exact ⟨by simp, by simp [lessN]⟩
            · simp [go_sem, Wk_eq]
            · simp
          · rw [List.drop_eq_nil_of_le hj, rankN] at i4
            rw [i4]
            (repeat (first | ((with_reducible refine VC.mkL ?_ fun _ => ?_); · first | omega | exact True.intro | rfl) | ((with_reducible refine VC.mkD ?_ fun _ => ?_); · first | omega | exact True.intro | (intros; omega)) | ((with_reducible refine dEnd.mk ?_ ?_); · kernel_rfl) | (simp [go_sem])))
        · exact ⟨by simp, by simp, by simp, by simp [hqa]⟩
        · simp [go_sem, Wk_eq, hqa, hK]
        · simp
end Go.Av
