/- Numbers of arrangements: plain arithmetic, no program in sight. -/
import Derived.Test.YtmmboiafelbgbaaC5
set_option linter.unusedSimpArgs false
set_option linter.unusedVariables false
namespace Go.Av
/-- binomials -/
def bn : Nat → Nat → Nat
  | _, 0 => 1
  | 0, _ + 1 => 0
  | n + 1, k + 1 => bn n k + bn n (k + 1)
@[simp] theorem bn_zero (n : Nat) : bn n 0 = 1 := by cases n <;> rfl
theorem bn_lt : ∀ {n k : Nat}, n < k → bn n k = 0
  | _, 0, h => by omega
  | 0, k + 1, _ => rfl
  | n + 1, k + 1, h => by rw [bn, bn_lt (by omega), bn_lt (by omega)]
@[simp] theorem bn_self : ∀ n : Nat, bn n n = 1
  | 0 => rfl
  | n + 1 => by rw [bn, bn_self n, bn_lt (by omega)]
theorem bn_pos : ∀ {n k : Nat}, k ≤ n → 0 < bn n k
  | n, 0, _ => by simp
  | 0, k + 1, h => by omega
  | n + 1, k + 1, h => by rw [bn]; have := bn_pos (n := n) (k := k) (by omega); omega
theorem bn_step : ∀ n k : Nat, (n + 1) * bn n k = bn (n + 1) (k + 1) * (k + 1)
  | 0, 0 => rfl
  | 0, k + 1 => by simp [bn]
  | n + 1, 0 => by
    have h := bn_step n 0
    simp only [bn, bn_zero] at h ⊢
    omega
  | n + 1, k + 1 => by
    have h1 := bn_step n k
    have h2 := bn_step n (k + 1)
    rw [show bn (n + 1 + 1) (k + 1 + 1) = bn (n + 1) (k + 1) + bn (n + 1) (k + 1 + 1) by rw [bn]]
    rw [Nat.add_mul (bn (n + 1) (k + 1)), ← h2, show (k + 1 + 1 : Nat) = (k + 1) + 1 by rfl, Nat.mul_add (bn (n + 1) (k + 1)), ← h1]
    rw [show (n + 1 + 1) * bn (n + 1) (k + 1) = (n + 1) * bn (n + 1) (k + 1) + bn (n + 1) (k + 1) by rw [Nat.add_mul]; omega]
    rw [show bn (n + 1) (k + 1) = bn n k + bn n (k + 1) by rw [bn], Nat.mul_add]
    omega
theorem bn_mono : ∀ n k : Nat, bn n k ≤ bn (n + 1) k
  | n, 0 => by simp
  | n, k + 1 => by rw [bn]; omega
theorem bn_diag (n k : Nat) : bn n k ≤ bn (n + 1) (k + 1) := by rw [bn]; omega
/-- growing along a diagonal -/
theorem bn_diag_le (m j d : Nat) : bn (m + j) j ≤ bn (m + (j + d)) (j + d) := by
  induction d with
  | zero => exact Nat.le_refl _
  | succ d ih => exact Nat.le_trans ih (bn_diag (m + (j + d)) (j + d))
theorem bn_symm : ∀ a b : Nat, bn (a + b) a = bn (a + b) b
  | 0, b => by simp
  | a + 1, 0 => by simp
  | a + 1, b + 1 => by
    rw [show a + 1 + (b + 1) = (a + b + 1) + 1 by omega, show bn (a + b + 1 + 1) (a + 1) = bn (a + b + 1) a + bn (a + b + 1) (a + 1) from rfl,
      show bn (a + b + 1 + 1) (b + 1) = bn (a + b + 1) b + bn (a + b + 1) (b + 1) from rfl]
    have h1 := bn_symm a (b + 1)
    have h2 := bn_symm (a + 1) b
    rw [show a + (b + 1) = a + b + 1 by omega] at h1
    rw [show a + 1 + b = a + b + 1 by omega] at h2
    omega
/-- the number of arrangements of l beside n things that are there -/
def arr : Nat → List Nat → Nat
  | _, [] => 1
  | n, k :: l => bn (n + k) k * arr (n + k) l
theorem arr_pos : ∀ (n : Nat) (l : List Nat), 0 < arr n l
  | _, [] => Nat.one_pos
  | n, k :: l => Nat.mul_pos (bn_pos (by omega)) (arr_pos (n + k) l)
/-- one of the kind x is taken away -/
def dec (l : List Nat) (x : Nat) : List Nat := l.set x (l.getD x 0 - 1)
/-- arrangements that begin with x -/
def arrAt (n : Nat) (l : List Nat) (x : Nat) : Nat := if l.getD x 0 = 0 then 0 else arr n (dec l x)
def sumTo (f : Nat → Nat) : Nat → Nat
  | 0 => 0
  | k + 1 => sumTo f k + f k
theorem sumTo_succ_left (f : Nat → Nat) (k : Nat) : sumTo f (k + 1) = f 0 + sumTo (fun x => f (x + 1)) k := by
  induction k with
  | zero => simp [sumTo]
  | succ k ih => rw [sumTo, ih, sumTo]; omega
theorem sumTo_congr {f g : Nat → Nat} {k : Nat} (h : ∀ x, x < k → f x = g x) : sumTo f k = sumTo g k := by
  induction k with
  | zero => rfl
  | succ k ih => rw [sumTo, sumTo, ih fun x hx => h x (by omega), h k (by omega)]
theorem sumTo_mul (f : Nat → Nat) (c k : Nat) : sumTo (fun x => c * f x) k = c * sumTo f k := by
  induction k with
  | zero => rfl
  | succ k ih => rw [sumTo, sumTo, ih, Nat.mul_add]
theorem sumTo_mono {f : Nat → Nat} {a b : Nat} (h : a ≤ b) : sumTo f a ≤ sumTo f b := by
  induction b with
  | zero => rw [show a = 0 by omega]; exact Nat.le_refl _
  | succ b ih =>
    rcases Nat.lt_or_ge a (b + 1) with h1 | h1
    · rw [sumTo]; have := ih (by omega); omega
    · rw [show a = b + 1 by omega]; exact Nat.le_refl _
theorem arr_split : ∀ (n : Nat) (l : List Nat), 0 < n + l.sum → arr n l = (if n = 0 then 0 else arr (n - 1) l) + sumTo (arrAt n l) l.length
  | n, [], h => by
    simp only [List.sum_nil, Nat.add_zero] at h
    simp [arr, sumTo, show n ≠ 0 by omega]
  | n, k :: l, h => by
    simp only [List.sum_cons] at h
    rw [List.length_cons, sumTo_succ_left]
    have e1 : sumTo (fun x => arrAt n (k :: l) (x + 1)) l.length = bn (n + k) k * sumTo (arrAt (n + k) l) l.length := by
      rw [← sumTo_mul]
      refine sumTo_congr fun x _ => ?_
      simp only [arrAt, List.getD_cons_succ, dec, List.set_cons_succ, arr]
      split <;> simp
    rw [e1]
    simp only [arr]
    by_cases hnk : n + k = 0
    · have hn : n = 0 := by omega
      have hk : k = 0 := by omega
      subst hn hk
      have := arr_split 0 l (by omega)
      simp only [if_true, Nat.zero_add] at this
      simp [arrAt, bn]
      exact this
    · have ih := arr_split (n + k) l (by omega)
      rw [if_neg hnk] at ih
      rw [ih, Nat.mul_add]
      have : bn (n + k) k * arr (n + k - 1) l = (if n = 0 then 0 else bn (n - 1 + k) k * arr (n - 1 + k) l) + arrAt n (k :: l) 0 := by
        cases k with
        | zero => simp [arrAt, show n ≠ 0 by omega]
        | succ k =>
          simp only [arrAt, dec, List.getD_cons_zero, List.set_cons_zero, arr, Nat.add_sub_cancel, show ¬ (k + 1 = 0) by omega, if_false]
          cases n with
          | zero => simp
          | succ n =>
            simp only [Nat.add_sub_cancel, show ¬ (n + 1 = 0) by omega, if_false]
            rw [show n + 1 + (k + 1) = n + (k + 1) + 1 by omega, bn, Nat.add_sub_cancel, Nat.add_mul]
            rw [show n + 1 + k = n + (k + 1) by omega]
            omega
      rw [this]; omega
/-- THE ARRANGEMENTS OF A LIST ARE THOSE THAT BEGIN WITH EACH. -/
theorem arr_sum (l : List Nat) (h : 0 < l.sum) : arr 0 l = sumTo (arrAt 0 l) l.length := by
  have := arr_split 0 l (by omega)
  simpa using this
theorem mul_bn_step (M m j : Nat) : ((M * bn (m + j) j : Nat) : Int) * (((m + j : Nat) : Int) + 1) / ((j : Int) + 1) = (M * bn (m + (j + 1)) (j + 1) : Nat) := by
  have h := bn_step (m + j) j
  have e : M * bn (m + j) j * (m + j + 1) = M * bn (m + (j + 1)) (j + 1) * (j + 1) := by
    rw [Nat.mul_assoc, Nat.mul_comm (bn (m + j) j), h, ← Nat.mul_assoc]; rfl
  have e' : ((M * bn (m + j) j : Nat) : Int) * (((m + j : Nat) : Int) + 1) = ((M * bn (m + (j + 1)) (j + 1) : Nat) : Int) * ((j : Int) + 1) := by exact_mod_cast e
  rw [e', Int.mul_ediv_cancel _ (by omega)]
theorem wgo_eq (M n0 k : Nat) (hM : 0 < M) (hs : n0 + k ≤ 1048576) : ∀ r j : Nat, j + r = k →
    wgo r ((j : Int) + 1) (M * bn (n0 + j) j : Nat) ((n0 + j : Nat) : Int) = some (((M * bn (n0 + k) k : Nat) : Int), ((n0 + k : Nat) : Int)) ∨
    (wgo r ((j : Int) + 1) (M * bn (n0 + j) j : Nat) ((n0 + j : Nat) : Int) = none ∧ 1099511627776 < M * bn (n0 + k) k)
  | 0, j, h => by
    obtain rfl : j = k := by omega
    exact .inl rfl
  | r + 1, j, h => by
    rw [wgo]
    split
    · rename_i hlt
      refine .inr ⟨rfl, ?_⟩
      have h1 : (4611686018427387904 : Int) / 1048576 ≤ 4611686018427387904 / (((n0 + j : Nat) : Int) + 1) :=
        Int.le_ediv_of_mul_le (by omega) (by
          have : (((n0 + j : Nat) : Int) + 1) ≤ 1048576 := by omega
          calc (4611686018427387904 : Int) / 1048576 * (((n0 + j : Nat) : Int) + 1) ≤ (4611686018427387904 : Int) / 1048576 * 1048576 := Int.mul_le_mul_of_nonneg_left this (by decide)
            _ = 4611686018427387904 := by decide)
      have h2 : (4611686018427387904 : Int) / 1048576 = 4398046511104 := by decide
      have h3 : M * bn (n0 + j) j ≤ M * bn (n0 + k) k := by
        refine Nat.mul_le_mul_left M ?_
        have := bn_diag_le n0 j (k - j)
        rwa [show j + (k - j) = k by omega] at this
      omega
    · have := wgo_eq M n0 k hM hs r (j + 1) (by omega)
      rw [mul_bn_step]
      simpa [Nat.add_assoc, Int.add_assoc] using this
theorem wall_eq : ∀ (l : List Nat) (M n0 : Nat), 0 < M → n0 + l.sum ≤ 1048576 →
    wall (l.map Int.ofNat) M n0 = some ((M * arr n0 l : Nat) : Int) ∨ (wall (l.map Int.ofNat) M n0 = none ∧ 1099511627776 < M * arr n0 l)
  | [], M, n0, hM, hs => .inl (by simp [wall, arr])
  | k :: l, M, n0, hM, hs => by
    simp only [List.sum_cons] at hs
    have h := wgo_eq M n0 k hM (by omega) k 0 (by omega)
    simp only [Nat.add_zero, bn_zero, Nat.mul_one, Int.natCast_zero, Int.zero_add] at h
    simp only [List.map_cons, wall, arr]
    have e : (Int.ofNat k).toNat = k := rfl
    rw [e, ← Nat.mul_assoc]
    rcases h with h | ⟨h, hb⟩
    · rw [h]
      exact wall_eq l (M * bn (n0 + k) k) (n0 + k) (Nat.mul_pos hM (bn_pos (by omega))) (by omega)
    · rw [h]
      refine .inr ⟨rfl, ?_⟩
      have := arr_pos (n0 + k) l
      calc 1099511627776 < M * bn (n0 + k) k := hb
        _ = M * bn (n0 + k) k * 1 := by omega
        _ ≤ _ := Nat.mul_le_mul_left _ this
/-- the number of arrangements, or big -/
def capped (l : List Nat) : Nat := min (arr 0 l) 1099511627777
theorem ways_eq (l : List Nat) (hs : l.sum ≤ 1048576) : ways (l.map Int.ofNat) = (capped l : Nat) := by
  have h := wall_eq l 1 0 Nat.one_pos (by omega)
  simp only [Nat.one_mul] at h
  unfold ways capped big
  rcases h with h | ⟨h, hb⟩
  · have h' : wall (l.map Int.ofNat) 1 0 = some ((arr 0 l : Nat) : Int) := h
    rw [h']; simp only; omega
  · have h' : wall (l.map Int.ofNat) 1 0 = none := h
    rw [h']; simp only; omega
/-! ### ranks -/
def rk : List Nat → List Nat → Nat
  | _, [] => 0
  | men, c :: p => sumTo (arrAt 0 men) c + rk (dec men c) p
def isArr : List Nat → List Nat → Prop
  | men, [] => men.sum = 0
  | men, c :: p => c < men.length ∧ 0 < men.getD c 0 ∧ isArr (dec men c) p
theorem dec_length (l : List Nat) (x : Nat) : (dec l x).length = l.length := by simp [dec]
theorem dec_sum : ∀ (l : List Nat) (x : Nat), 0 < l.getD x 0 → (dec l x).sum + 1 = l.sum
  | [], x, h => by simp at h
  | k :: l, 0, h => by simp [dec] at h ⊢; omega
  | k :: l, x + 1, h => by
    have := dec_sum l x (by simpa using h)
    simp [dec] at this ⊢; omega
theorem isArr_sum : ∀ {men p : List Nat}, isArr men p → men.sum = p.length
  | men, [], h => h
  | men, c :: p, h => by
    have := isArr_sum h.2.2
    have := dec_sum men c h.2.1
    simp; omega
theorem arrAt_pos {men : List Nat} {c : Nat} (h : 0 < men.getD c 0) : arrAt 0 men c = arr 0 (dec men c) := by simp only [arrAt]; rw [if_neg (by omega)]
theorem rk_lt : ∀ {men p : List Nat}, isArr men p → rk men p < arr 0 men
  | men, [], h => arr_pos 0 men
  | men, c :: p, h => by
    have ih := rk_lt h.2.2
    have hs : 0 < men.sum := by have := dec_sum men c h.2.1; omega
    rw [arr_sum men hs, rk]
    have h1 : sumTo (arrAt 0 men) (c + 1) ≤ sumTo (arrAt 0 men) men.length := sumTo_mono h.1
    rw [sumTo, arrAt_pos h.2.1] at h1
    omega
/-- the first content whose arrangements reach i, and what is left -/
def findC (men : List Nat) : Nat → Nat → Nat → Option (Nat × Nat)
  | 0, _, _ => none
  | f + 1, c, i => if i < arrAt 0 men c then some (c, i) else findC men f (c + 1) (i - arrAt 0 men c)
def unrk : Nat → List Nat → Nat → List Nat
  | 0, _, _ => []
  | n + 1, men, i => match findC men men.length 0 i with
    | some (c, j) => c :: unrk n (dec men c) j
    | none => []
theorem findC_eq (men : List Nat) {c r : Nat} (hr : r < arrAt 0 men c) : ∀ f x, x ≤ c → c < x + f → findC men f x (sumTo (arrAt 0 men) c - sumTo (arrAt 0 men) x + r) = some (c, r)
  | 0, x, h1, h2 => by omega
  | f + 1, x, h1, h2 => by
    rw [findC]
    rcases Nat.lt_or_ge x c with h | h
    · have h3 : sumTo (arrAt 0 men) (x + 1) ≤ sumTo (arrAt 0 men) c := sumTo_mono h
      rw [sumTo] at h3
      rw [if_neg (by omega)]
      have := findC_eq men hr f (x + 1) (by omega) (by omega)
      rw [sumTo] at this
      rw [show sumTo (arrAt 0 men) c - sumTo (arrAt 0 men) x + r - arrAt 0 men x = sumTo (arrAt 0 men) c - (sumTo (arrAt 0 men) x + arrAt 0 men x) + r by omega]
      exact this
    · obtain rfl : x = c := by omega
      rw [Nat.sub_self, Nat.zero_add, if_pos hr]
/-- THE POSITION WITH THE RANK OF p IS p -/
theorem unrk_rk : ∀ {men p : List Nat}, isArr men p → unrk p.length men (rk men p) = p
  | men, [], h => rfl
  | men, c :: p, h => by
    have hr : rk (dec men c) p < arrAt 0 men c := by rw [arrAt_pos h.2.1]; exact rk_lt h.2.2
    have := findC_eq men hr men.length 0 (by omega) (by have := h.1; omega)
    simp only [sumTo, Nat.sub_zero] at this
    rw [List.length_cons, unrk, rk, this]
    simp only
    rw [unrk_rk h.2.2]
theorem findC_some (men : List Nat) : ∀ f x i, i + sumTo (arrAt 0 men) x < sumTo (arrAt 0 men) (x + f) →
    ∃ c j, findC men f x i = some (c, j) ∧ x ≤ c ∧ c < x + f ∧ j < arrAt 0 men c ∧ i + sumTo (arrAt 0 men) x = sumTo (arrAt 0 men) c + j
  | 0, x, i, h => by simp at h; omega
  | f + 1, x, i, h => by
    rw [findC]
    split
    · rename_i hi
      exact ⟨x, i, rfl, Nat.le_refl _, by omega, hi, by omega⟩
    · rename_i hi
      obtain ⟨c, j, h1, h2, h3, h4, h5⟩ := findC_some men f (x + 1) (i - arrAt 0 men x) (by rw [sumTo, show x + 1 + f = x + (f + 1) by omega]; omega)
      rw [sumTo] at h5
      exact ⟨c, j, h1, by omega, by omega, h4, by omega⟩
theorem arrAt_ne {men : List Nat} {c j : Nat} (h : j < arrAt 0 men c) : 0 < men.getD c 0 := by
  simp only [arrAt] at h
  split at h <;> omega
theorem unrk_spec : ∀ (n : Nat) (men : List Nat) (i : Nat), men.sum = n → i < arr 0 men → isArr men (unrk n men i) ∧ (unrk n men i).length = n ∧ rk men (unrk n men i) = i
  | 0, men, i, hs, hi => by
    refine ⟨hs, rfl, ?_⟩
    have : ∀ l : List Nat, l.sum = 0 → ∀ n, arr n l = 1 := by
      intro l
      induction l with
      | nil => intros; rfl
      | cons k l ih => intro h n; simp at h; simp [arr, h.1, ih h.2]
    rw [this men hs] at hi
    simp [unrk, rk]; omega
  | n + 1, men, i, hs, hi => by
    rw [arr_sum men (by omega)] at hi
    obtain ⟨c, j, h1, h2, h3, h4, h5⟩ := findC_some men men.length 0 i (by simpa [sumTo] using hi)
    have hp := arrAt_ne h4
    have hd := dec_sum men c hp
    have := unrk_spec n (dec men c) j (by omega) (by rwa [arrAt_pos hp] at h4)
    rw [unrk, h1]
    simp only [isArr, rk, List.length_cons, this]
    simp only [sumTo, Nat.add_zero] at h5
    exact ⟨⟨by omega, hp, trivial⟩, trivial, by omega⟩
theorem rk_inj {men p q : List Nat} (hp : isArr men p) (hq : isArr men q) (h : rk men p = rk men q) : p = q := by
  have h1 := unrk_rk hp
  have h2 := unrk_rk hq
  rw [← h1, ← h2, h, show p.length = q.length by rw [← isArr_sum hp, isArr_sum hq]]
/-- the first difference decides -/
def lexLt : List Nat → List Nat → Prop
  | x :: p, y :: q => x < y ∨ (x = y ∧ lexLt p q)
  | _, _ => False
theorem rk_lex : ∀ {men p q : List Nat}, isArr men p → isArr men q → lexLt p q → rk men p < rk men q
  | men, [], _, _, _, h => by simp [lexLt] at h
  | men, _ :: _, [], _, _, h => by simp [lexLt] at h
  | men, x :: p, y :: q, hp, hq, h => by
    simp only [lexLt] at h
    rcases h with h | ⟨rfl, h⟩
    · have h1 : sumTo (arrAt 0 men) (x + 1) ≤ sumTo (arrAt 0 men) y := sumTo_mono h
      rw [sumTo, arrAt_pos hp.2.1] at h1
      have := rk_lt hp.2.2
      simp only [rk]; omega
    · have := rk_lex hp.2.2 hq.2.2 h
      simp only [rk]; omega
theorem lex_total : ∀ {p q : List Nat}, p.length = q.length → p = q ∨ lexLt p q ∨ lexLt q p
  | [], [], _ => .inl rfl
  | x :: p, y :: q, h => by
    simp only [lexLt]
    rcases Nat.lt_trichotomy x y with h1 | h1 | h1
    · exact .inr (.inl (.inl h1))
    · subst h1
      rcases lex_total (p := p) (q := q) (by simpa using h) with h | h | h
      · exact .inl (by rw [h])
      · exact .inr (.inl (.inr ⟨rfl, h⟩))
      · exact .inr (.inr (.inr ⟨rfl, h⟩))
    · exact .inr (.inr (.inl h1))
/-! ### the reference's numbers -/
def chooseGo (m : Nat) : Nat → Int → Int → Int
  | 0, _, out => out
  | r + 1, i, out => if 1099511627776 < out * ((m : Int) + i) / i then out * ((m : Int) + i) / i else chooseGo m r (i + 1) (out * ((m : Int) + i) / i)
theorem chooseGo_eq (m k : Nat) : ∀ r j : Nat, j + r = k → bn (m + j) j ≤ 1099511627776 → (1099511627776 < bn (m + k) k → 0 < r) →
    (chooseGo m r ((j : Int) + 1) (bn (m + j) j : Nat) = (bn (m + k) k : Nat) ∧ bn (m + k) k ≤ 1099511627776) ∨
    (1099511627776 < chooseGo m r ((j : Int) + 1) (bn (m + j) j : Nat) ∧ 1099511627776 < bn (m + k) k)
  | 0, j, h, hj, hr => by
    obtain rfl : j = k := by omega
    exact .inl ⟨rfl, hj⟩
  | r + 1, j, h, hj, hr => by
    have e := mul_bn_step 1 m j
    rw [Nat.one_mul, Nat.one_mul] at e
    have e' : ((bn (m + j) j : Nat) : Int) * ((m : Int) + ((j : Int) + 1)) / ((j : Int) + 1) = (bn (m + (j + 1)) (j + 1) : Nat) := by
      rw [← e]; congr 2
    have hd := bn_diag_le m (j + 1) (k - (j + 1))
    rw [show j + 1 + (k - (j + 1)) = k by omega] at hd
    rw [chooseGo, e']
    split
    · rename_i hb
      exact .inr ⟨hb, by omega⟩
    · rename_i hb
      have := chooseGo_eq m k r (j + 1) (by omega) (by omega) (fun hk => by
        rcases Nat.eq_zero_or_pos r with h0 | h0
        · subst h0
          have : j + 1 = k := by omega
          subst this; omega
        · exact h0)
      simpa [Int.add_assoc] using this
def chooseZ (n k : Int) : Int := chooseGo (n - min k (n - k)).toNat (min k (n - k)).toNat 1 1
theorem chooseZ_eq (n0 k : Nat) : (chooseZ ((n0 + k : Nat) : Int) (k : Int) = (bn (n0 + k) k : Nat) ∧ bn (n0 + k) k ≤ 1099511627776) ∨
    (1099511627776 < chooseZ ((n0 + k : Nat) : Int) (k : Int) ∧ 1099511627776 < bn (n0 + k) k) := by
  have key : ∀ m j : Nat, (chooseGo m j 1 1 = (bn (m + j) j : Nat) ∧ bn (m + j) j ≤ 1099511627776) ∨ (1099511627776 < chooseGo m j 1 1 ∧ 1099511627776 < bn (m + j) j) := by
    intro m j
    have := chooseGo_eq m j j 0 (by omega) (by simp) (fun h => by
      rcases Nat.eq_zero_or_pos j with h0 | h0
      · subst h0; simp at h
      · exact h0)
    simpa using this
  unfold chooseZ
  rcases Nat.le_total k n0 with h | h
  · have e1 : min (k : Int) (((n0 + k : Nat) : Int) - k) = (k : Int) := by omega
    rw [e1, show (((n0 + k : Nat) : Int) - (k : Int)).toNat = n0 by omega, show ((k : Int)).toNat = k by omega]
    exact key n0 k
  · have e1 : min (k : Int) (((n0 + k : Nat) : Int) - k) = (n0 : Int) := by omega
    rw [e1, show (((n0 + k : Nat) : Int) - (n0 : Int)).toNat = k by omega, show ((n0 : Int)).toNat = n0 by omega]
    have h1 := key k n0
    have h2 := bn_symm n0 k
    rw [show k + n0 = n0 + k by omega, h2] at h1
    exact h1
def waysGo : List Int → Int → Int → Int
  | [], out, _ => out
  | k :: l, out, n => if 1099511627776 / out < chooseZ (n + k) k then 1099511627777 else waysGo l (out * chooseZ (n + k) k) (n + k)
def waysR (l : List Int) : Int := waysGo l 1 0
theorem waysGo_eq : ∀ (l : List Nat) (M n0 : Nat), 0 < M → M ≤ 1099511627776 → waysGo (l.map Int.ofNat) M n0 = (min (M * arr n0 l) 1099511627777 : Nat)
  | [], M, n0, h1, h2 => by simp [waysGo, arr]; omega
  | k :: l, M, n0, h1, h2 => by
    have hc := chooseZ_eq n0 k
    simp only [List.map_cons, waysGo, arr]
    rw [show (n0 : Int) + Int.ofNat k = ((n0 + k : Nat) : Int) by simp, show Int.ofNat k = (k : Int) from rfl]
    have hp := arr_pos (n0 + k) l
    have hb := bn_pos (n := n0 + k) (k := k) (by omega)
    have hq : M * bn (n0 + k) k ≤ M * (bn (n0 + k) k * arr (n0 + k) l) := Nat.mul_le_mul_left _ (Nat.le_mul_of_pos_right _ hp)
    have hM : bn (n0 + k) k ≤ M * bn (n0 + k) k := Nat.le_mul_of_pos_left _ h1
    have hd : (1099511627776 : Int) / (M : Int) = ((1099511627776 / M : Nat) : Int) := by rfl
    rw [hd]
    have hd2 : 1099511627776 / M ≤ 1099511627776 := Nat.div_le_self _ _
    rcases hc with ⟨e, hle⟩ | ⟨e, hlt⟩
    · rw [e]
      split
      · rename_i hlt
        have : 1099511627776 < bn (n0 + k) k * M := (Nat.div_lt_iff_lt_mul h1).1 (by omega)
        rw [Nat.mul_comm] at this
        omega
      · rename_i hlt
        have : ¬ 1099511627776 < bn (n0 + k) k * M := fun h => hlt (by have := (Nat.div_lt_iff_lt_mul h1).2 h; omega)
        rw [Nat.mul_comm] at this
        have ih := waysGo_eq l (M * bn (n0 + k) k) (n0 + k) (Nat.mul_pos h1 hb) (by omega)
        rw [Nat.mul_assoc] at ih
        rw [← ih]; rfl
    · rw [if_pos (by omega)]
      omega
theorem waysR_eq (l : List Nat) : waysR (l.map Int.ofNat) = (capped l : Nat) := by
  have := waysGo_eq l 1 0 Nat.one_pos (by omega)
  simpa [waysR, capped] using this
end Go.Av
