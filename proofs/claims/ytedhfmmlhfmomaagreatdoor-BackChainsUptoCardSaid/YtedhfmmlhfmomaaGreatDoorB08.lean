/- Texts of ours, part 8: our library and contracts of functions. -/
import Derived.Test.YtedhfmmlhfmomaaGreatDoorB07
set_option linter.unusedSimpArgs false
set_option linter.unusedVariables false
set_option maxRecDepth 100000
set_option maxHeartbeats 40000000
section
/- Our library, part 17: calls of functions that are given objects of ours and turn them. -/
namespace Go.Av
open Go

mutual
inductive Rn (σ : Nat → Nat) : AV → AV → Prop
 | same {x : AV} (h : Bel 0 x) : Rn σ x x
 | ref {o o' g sz i off : Nat} (h : o' = σ o) : Rn σ (.ref o g sz i off) (.ref o' g sz i off)
 | sl {o o' g sz i len : Nat} (h : o' = σ o) : Rn σ (.sl o g sz i len) (.sl o' g sz i len)
 | agg {xs ys : List AV} (h : RnL σ xs ys) : Rn σ (.agg xs) (.agg ys)
 | tup {xs ys : List AV} (h : RnL σ xs ys) : Rn σ (.tup xs) (.tup ys)
 | fn {f : Fn} {a b a' b' : List AV} (h : RnL σ a a') (h' : RnL σ b b') : Rn σ (.fn f a b) (.fn f a' b')
inductive RnL (σ : Nat → Nat) : List AV → List AV → Prop
 | nil : RnL σ [] []
 | cons {x y : AV} {xs ys : List AV} (h : Rn σ x y) (t : RnL σ xs ys) : RnL σ (x :: xs) (y :: ys)
end
inductive zrd (σ : Nat → Nat) : List (List AV) → List (List AV) → Prop
 | same {rs : List (List AV)} (h : ∀ r ∈ rs, ∀ c ∈ r, Bel 0 c) : zrd σ rs rs
 | nil : zrd σ [] []
 | cons {x y : List AV} {xs ys : List (List AV)} (h : RnL σ x y) (t : zrd σ xs ys) : zrd σ (x :: xs) (y :: ys)
inductive RnO (σ : Nat → Nat) : zbd → zbd → Prop
 | rows {mt : Bool} {g sz : Nat} {rs rs' : List (List AV)} (h : zrd σ rs rs') : RnO σ (.rows mt g sz rs) (.rows mt g sz rs')
inductive RnH (σ : Nat → Nat) : List (Nat × zbd) → List (Nat × zbd) → Prop
 | nil : RnH σ [] []
 | cons {o o' : Nat} {x y : zbd} {l l' : List (Nat × zbd)} (e : o' = σ o) (h : RnO σ x y) (t : RnH σ l l') : RnH σ ((o, x) :: l) ((o', y) :: l')
section
variable {σ : Nat → Nat} {φ φ' : zaq} {w : World} {M M' : Nat → Prop}
theorem Rn.rel (hφ : ∀ o, φ' (σ o) = φ o) (hM : ∀ k, M' k → M k) {x y : AV} (hs : Rn σ x y) : ∀ {v : Value}, Rel φ w M x v → Rel φ' w M' y v := by
 refine Rn.rec (σ := σ) (motive_1 := fun x y _ => ∀ {v : Value}, Rel φ w M x v → Rel φ' w M' y v) (motive_2 := fun xs ys _ => ∀ {vs : List Value}, zay φ w M xs vs → zay φ' w M' ys vs)
  ?_ ?_ ?_ ?_ ?_ ?_ ?_ ?_ hs
 ·intro x hb v hx; exact hx.closed hM hb
 ·intro o o' g sz i off e v hx
  subst e
  cases hx with | ref ho hg h => exact .ref (by rw [hφ]; exact ho) hg h
 ·intro o o' g sz i len e v hx
  subst e
  cases hx with | sl ho hg h => exact .sl (by rw [hφ]; exact ho) hg h
 ·intro xs ys _ ih v hx
  cases hx with | agg hv h => exact .agg hv (ih h)
 ·intro xs ys _ ih v hx
  cases hx with | tup h => exact .tup (ih h)
 ·intro f a b a' b' _ _ ih1 ih2 v hx
  cases hx with | fn h1 h2 => exact .fn (ih1 h1) (ih2 h2)
 ·intro vs hx; cases hx; exact .nil
 ·intro x y xs ys _ _ ih1 ih2 vs hx
  cases hx with | cons h t => exact .cons (ih1 h) (ih2 t)
theorem Rn.back {m : Nat} (hφ : ∀ o, o < m → φ o = φ' (σ o)) (hM : ∀ k, M k → M' k) {x y : AV} (hs : Rn σ x y) : Bel m x → ∀ {v : Value}, Rel φ' w M' y v → Rel φ w M x v := by
 refine Rn.rec (σ := σ) (motive_1 := fun x y _ => Bel m x → ∀ {v : Value}, Rel φ' w M' y v → Rel φ w M x v) (motive_2 := fun xs ys _ => (∀ c ∈ xs, Bel m c) → ∀ {vs : List Value}, zay φ' w M' ys vs → zay φ w M xs vs)
  ?_ ?_ ?_ ?_ ?_ ?_ ?_ ?_ hs
 ·intro x hb _ v hx; exact hx.closed hM hb
 ·intro o o' g sz i off e hb v hx
  subst e
  cases hb with | ref hb => cases hx with | ref ho hg h => exact .ref (by rw [hφ _ hb]; exact ho) hg h
 ·intro o o' g sz i len e hb v hx
  subst e
  cases hb with | sl hb => cases hx with | sl ho hg h => exact .sl (by rw [hφ _ hb]; exact ho) hg h
 ·intro xs ys _ ih hb v hx
  cases hb with | agg hb => cases hx with | agg hv h => exact .agg hv (ih hb h)
 ·intro xs ys _ ih hb v hx
  cases hb with | tup hb => cases hx with | tup h => exact .tup (ih hb h)
 ·intro f a b a' b' _ _ ih1 ih2 hb v hx
  cases hb with | fn hb hb' => cases hx with | fn h1 h2 => exact .fn (ih1 hb h1) (ih2 hb' h2)
 ·intro _ vs hx; cases hx; exact .nil
 ·intro x y xs ys _ _ ih1 ih2 hb vs hx
  cases hx with | cons h t => exact .cons (ih1 (hb _ (by simp)) h) (ih2 (fun c hc => hb c (by simp [hc])) t)
theorem RnL.rel (hφ : ∀ o, φ' (σ o) = φ o) (hM : ∀ k, M' k → M k) : ∀ {xs ys : List AV} {vs : List Value}, RnL σ xs ys → zay φ w M xs vs → zay φ' w M' ys vs
 | [], _, _, .nil, .nil => .nil
 | _ :: _, _, _, .cons h t, .cons h' t' => .cons (h.rel hφ hM h') (t.rel hφ hM t')
theorem RnL.back {m : Nat} (hφ : ∀ o, o < m → φ o = φ' (σ o)) (hM : ∀ k, M k → M' k) : ∀ {xs ys : List AV} {vs : List Value}, RnL σ xs ys → (∀ c ∈ xs, Bel m c) → zay φ' w M' ys vs → zay φ w M xs vs
 | [], _, _, .nil, _, .nil => .nil
 | _ :: _, _, _, .cons h t, hb, .cons h' t' => .cons (h.back hφ hM (hb _ (by simp)) h') (t.back hφ hM (fun c hc => hb c (by simp [hc])) t')
theorem RnL.length : ∀ {xs ys : List AV}, RnL σ xs ys → ys.length = xs.length
 | [], _, .nil => rfl
 | _ :: _, _, .cons _ t => by simp [t.length]
theorem zrd.rel (hφ : ∀ o, φ' (σ o) = φ o) (hM : ∀ k, M' k → M k) {xs ys : List (List AV)} (hs : zrd σ xs ys) :
  ∀ {vs : List Value}, zay φ w M xs.flatten vs → zay φ' w M' ys.flatten vs := by
 induction hs with
 | same h =>
  intro vs hx
  refine zx1 hx.length fun k hk hk' => (hx.get k hk hk').closed hM ?_
  obtain ⟨r, hr, hc⟩ := List.mem_flatten.1 (List.getElem_mem hk)
  exact h r hr _ hc
 | nil => intro vs hx; cases hx; exact .nil
 | cons h _ ih =>
  intro vs hx
  rw [List.flatten_cons] at hx ⊢
  obtain ⟨us, ts, rfl, h1, h2⟩ := hx.split
  exact (h.rel hφ hM h1).append (ih h2)
theorem zrd.back {m : Nat} (hφ : ∀ o, o < m → φ o = φ' (σ o)) (hM : ∀ k, M k → M' k) {xs ys : List (List AV)} (hs : zrd σ xs ys) :
  (∀ r ∈ xs, ∀ c ∈ r, Bel m c) → ∀ {vs : List Value}, zay φ' w M' ys.flatten vs → zay φ w M xs.flatten vs := by
 induction hs with
 | same h =>
  intro _ vs hx
  refine zx1 hx.length fun k hk hk' => (hx.get k hk hk').closed hM ?_
  obtain ⟨r, hr, hc⟩ := List.mem_flatten.1 (List.getElem_mem hk)
  exact h r hr _ hc
 | nil => intro _ vs hx; cases hx; exact .nil
 | cons h _ ih =>
  intro hb vs hx
  rw [List.flatten_cons] at hx ⊢
  obtain ⟨us, ts, rfl, h1, h2⟩ := hx.split
  exact (h.back hφ hM (hb _ (by simp)) h1).append (ih (fun r hr => hb r (by simp [hr])) h2)
theorem zrd.shape {xs ys : List (List AV)} (hs : zrd σ xs ys) : ys.length = xs.length ∧ (∀ sz, (∀ r ∈ xs, r.length = sz) → ∀ r ∈ ys, r.length = sz) ∧ ∀ sz, (∀ r ∈ ys, r.length = sz) → ∀ r ∈ xs, r.length = sz := by
 induction hs with
 | same h => exact ⟨rfl, fun _ h => h, fun _ h => h⟩
 | nil => exact ⟨rfl, fun _ h => h, fun _ h => h⟩
 | cons h _ ih =>
  refine ⟨by simp [ih.1], fun sz hr r hm => ?_, fun sz hr r hm => ?_⟩
  ·rcases List.mem_cons.1 hm with rfl | hm
   ·rw [h.length]; exact hr _ (by simp)
   ·exact ih.2.1 sz (fun r hr' => hr r (by simp [hr'])) r hm
  ·rcases List.mem_cons.1 hm with rfl | hm
   ·rw [← h.length]; exact hr _ (by simp)
   ·exact ih.2.2 sz (fun r hr' => hr r (by simp [hr'])) r hm
theorem RnH.at {l l' : List (Nat × zbd)} (hinj : ∀ a b, σ a = σ b → a = b) (hs : RnH σ l l') {o : Nat} {y : zbd} (ho : mkH l' o = some y) : ∃ o0 x, o = σ o0 ∧ mkH l o0 = some x ∧ RnO σ x y := by
 induction hs with
 | nil => cases ho
 | @cons o1 o1' x1 y1 l l' e1 h _ ih =>
  simp only [mkH, upd] at ho ⊢
  split at ho
  ·rename_i e
   cases ho
   exact ⟨o1, x1, e.trans e1, by simp, h⟩
  ·rename_i e
   obtain ⟨o0, x, rfl, h1, h2⟩ := ih ho
   refine ⟨o0, x, rfl, ?_, h2⟩
   rw [if_neg (fun h => e (by rw [h, e1]))]; exact h1
end
def ren (rs : List Nat) (n : Nat) (j : Nat) : Nat := if j < rs.length then rs.getD j 0 else n + (j - rs.length)
def zkZ : List Nat → zal → zal
 | [], h => h
 | o :: l, h => upd (zkZ l h) o none
theorem ztr (h : zal) : ∀ (l : List Nat) (o : Nat), zkZ l h o = if o ∈ l then none else h o
 | [], o => by simp [zkZ]
 | a :: l, o => by
  simp only [zkZ, upd, List.mem_cons]
  by_cases e : o = a
  ·simp [e]
  ·simp [e, ztr h l o]
theorem zgo {rs : List Nat} {n j : Nat} (h : j < rs.length) : ren rs n j ∈ rs := by
 unfold ren; rw [if_pos h, List.getD_eq_getElem?_getD, List.getElem?_eq_getElem h]; exact List.getElem_mem h
theorem zxw {rs : List Nat} {n : Nat} (hd : rs.Nodup) (hlt : ∀ o ∈ rs, o < n) : ∀ a b, ren rs n a = ren rs n b → a = b := by
 intro a b he
 by_cases ha : a < rs.length <;> by_cases hb : b < rs.length
 ·unfold ren at he
  rw [if_pos ha, if_pos hb, List.getD_eq_getElem?_getD, List.getD_eq_getElem?_getD, List.getElem?_eq_getElem ha, List.getElem?_eq_getElem hb] at he
  exact (List.getElem_inj hd).1 (by simpa using he)
 ·have h1 := hlt _ (zgo (n := n) ha)
  rw [he] at h1
  unfold ren at h1
  rw [if_neg hb] at h1; omega
 ·have h1 := hlt _ (zgo (n := n) hb)
  rw [← he] at h1
  unfold ren at h1
  rw [if_neg ha] at h1; omega
 ·unfold ren at he
  rw [if_neg ha, if_neg hb] at he; omega
def zj6 (P : Program) (f : FuncId) (args : List AV) (HA : List (Nat × zbd)) (m : Nat) (R0 : AV) (H0 : List (Nat × zbd)) (k2 : Nat) : Prop :=
 zaa P f args (mkH HA) m (fun r h n' => Wk (fun _ => r) h n' [(0, R0)] H0 k2)
theorem zx4 {P : Program} {f : FuncId} {args args' args0 : List AV} {h : zal} {n m k2 : Nat} {K : zcc} {R0 R : AV} {HA H0 HH : List (Nat × zbd)} (rs : List Nat) (h' : zal)
  (hp : zj6 P f args0 HA m R0 H0 k2) (hd : rs.Nodup) (hlt : ∀ o ∈ rs, o < n) (hm : rs.length = m) (hmk : m ≤ k2) (hfz : Frz h h')
  (hA : ∀ j, j < m → ∃ x y, mkH HA j = some x ∧ h' (ren rs n j) = some y ∧ RnO (ren rs n) x y) (hAb : ∀ p ∈ HA, p.1 < m ∧ zv8 m p.2)
  (hle : zam h h' n args args') (hb' : ∀ c ∈ args', Bel n c) (hargs0 : RnL (ren rs n) args0 args') (hb0 : ∀ c ∈ args0, Bel m c)
  (hR : Rn (ren rs n) R0 R) (hHH : RnH (ren rs n) H0 HH) (hk : K R (zdx HH (zkZ rs h')) (n + (k2 - m))) : zaa P f args h n K := by
 refine ⟨hp.1, fun M0 φ w vs hH hargs => ?_⟩
 obtain ⟨hH', st0⟩ := hH.freeze hfz
 have hσ := zxw hd hlt
 have hmt : ∀ o g sz rs, h' o = some (.rows true g sz rs) → h o = some (.rows true g sz rs) := by
  intro o g sz rs ho
  rcases hfz o with h1 | ⟨g1, sz1, rs1, h1, h2⟩
  ·rw [← h1]; exact ho
  ·rw [h2] at ho; cases ho
 have hmut0 : ∀ k, Mut φ h' k → Mut φ h k := by
  rintro k ⟨o, g, sz, rs, g', a, bs, ho, hp, rfl⟩
  exact ⟨o, g, sz, rs, g', a, bs, hmt _ _ _ _ ho, hp, rfl⟩
 have hv : zay φ w (Or M0 (Mut φ h')) args' vs := by
  refine zam.rel (φ' := φ) (n' := n) hH (fun {x v} _ hx => hx.keep φ.le_refl (fun _ _ _ => rfl) (fun k hk => .inl (hk.imp id (hmut0 k)))) ?_ (fun o g sz h1 _ h2 => by omega) hle hb' hargs
  rintro o mt g sz rs a bs ho hp ho' h0 (hk | ⟨o', g', sz', rs', g'', a', bs', ho1, hp1, he⟩)
  ·exact h0 hk
  ·have hne : o' ≠ o := fun e => by subst e; exact ho' _ _ _ ho1
   have ho0 := hmt _ _ _ _ ho1
   have hg : g'' = g' := by
    obtain ⟨A2, hA2, _⟩ := hH.obj _ _ _ _ _ ho0
    rw [hp1] at hA2
    simp only [Option.some.injEq, Prod.mk.injEq] at hA2
    exact hA2.1
   subst hg
   exact hH.inj _ _ _ _ _ _ _ _ _ _ _ _ _ _ ho0 ho hne (.inl rfl) hp1 hp he
 let hr : zal := fun o => if o ∈ rs then none else h' o
 have hrmut : ∀ k, Mut φ hr k → Mut φ h' k := by
  rintro k ⟨o, g, sz, rs1, g', a, bs, ho, hp, rfl⟩
  simp only [hr] at ho
  split at ho
  ·cases ho
  ·exact ⟨o, g, sz, rs1, g', a, bs, ho, hp, rfl⟩
 let M1 : Nat → Prop := Or M0 (Mut φ hr)
 let φ0 : zaq := fun j => if j < m then φ (ren rs n j) else none
 have hφ0 : ∀ j, j < m → φ0 j = φ (ren rs n j) := fun j hj => if_pos hj
 have hgiv : ∀ j mt g sz rws, mkH HA j = some (.rows mt g sz rws) → j < m ∧ ∃ rws', h' (ren rs n j) = some (.rows mt g sz rws') ∧ zrd (ren rs n) rws rws' ∧ ∀ r ∈ rws, ∀ c ∈ r, Bel m c := by
  intro j mt g sz rws hj
  have hjm := hAb _ (zdw hj)
  obtain ⟨x, y, h1, h2, h3⟩ := hA j hjm.1
  rw [hj] at h1
  cases h1
  cases h3 with
  | rows h3 => exact ⟨hjm.1, _, h2, h3, hjm.2⟩
 have hgmut : ∀ k, Mut φ0 (mkH HA) k → ∃ j, j < m ∧ ∃ g sz rws g' a bs, h' (ren rs n j) = some (.rows true g sz rws) ∧ φ (ren rs n j) = some (g', some (a, bs)) ∧ a.block = k := by
  rintro k ⟨j, g, sz, rws, g', a, bs, ho, hp, rfl⟩
  obtain ⟨hj, rws', h1, _⟩ := hgiv _ _ _ _ _ ho
  rw [hφ0 j hj] at hp
  exact ⟨j, hj, g, sz, rws', g', a, bs, h1, hp, rfl⟩
 have hgmut' : ∀ k, Mut φ0 (mkH HA) k → Mut φ h' k := fun k hk => by
  obtain ⟨j, _, g, sz, rws, g', a, bs, h1, h2, h3⟩ := hgmut k hk
  exact ⟨_, g, sz, rws, g', a, bs, h1, h2, h3⟩
 have hgen : ∀ {o mt g sz rws g' A}, h' o = some (.rows mt g sz rws) → φ o = some (g', A) → g' = g := by
  intro o mt g sz rws g' A ho hp
  obtain ⟨A2, hA2, _⟩ := hH'.obj _ _ _ _ _ ho
  rw [hp] at hA2
  simp only [Option.some.injEq, Prod.mk.injEq] at hA2
  exact hA2.1
 have hM1 : ∀ k, Or M1 (Mut φ0 (mkH HA)) k → Or M0 (Mut φ h') k := by
  rintro k ((hk | hk) | hk)
  ·exact .inl hk
  ·exact .inr (hrmut k hk)
  ·exact .inr (hgmut' k hk)
 have hH1 : zft φ0 m w M1 (mkH HA) := by
  refine ⟨fun k hk => hH'.blk (hk.imp id (hrmut k)), fun o ho => if_neg (by omega), fun j mt g sz rws hj => ?_, fun o o' mt g sz rws mt' g' sz' rws' a a' b b' ho ho' hne hmm hp hp' => ?_, hH'.glob.keep (fun _ _ _ => rfl) (fun k hk => .inl (hM1 k hk))⟩
  ·obtain ⟨hjm, rws', h1, h2, h3⟩ := hgiv _ _ _ _ _ hj
   obtain ⟨A, hA1, hc⟩ := hH'.obj _ _ _ _ _ h1
   refine ⟨A, by rw [hφ0 j hjm]; exact hA1, hc.imp (fun h => ⟨h.1, ?_⟩) ?_⟩
   ·obtain ⟨_, rfl⟩ := h
    exact List.eq_nil_of_length_eq_zero h2.shape.1.symm
   ·rintro ⟨a, bs, c1, c3, hd⟩
    refine ⟨a, bs, c1, ?_, hd.turn rfl h2.shape.1.symm (h2.shape.2.2 sz) (fun c9 => h2.back hφ0 hM1 h3 c9)⟩
    ·rintro (hk | ⟨o', g1, sz1, rs1, g1', a', bs', ho1, hp1, he⟩)
     ·exact c3 hk
     ·simp only [hr] at ho1
      split at ho1
      ·cases ho1
      ·rename_i hni
       obtain rfl := hgen ho1 hp1
       subst c1
       exact hH'.inj _ _ _ _ _ _ _ _ _ _ _ _ _ _ ho1 h1 (fun e => hni (e ▸ zgo (by omega))) (.inl rfl) hp1 hA1 he
  ·obtain ⟨hj, r1, h1, _⟩ := hgiv _ _ _ _ _ ho
   obtain ⟨hj', r1', h1', _⟩ := hgiv _ _ _ _ _ ho'
   rw [hφ0 o hj] at hp
   rw [hφ0 o' hj'] at hp'
   exact hH'.inj _ _ _ _ _ _ _ _ _ _ _ _ _ _ h1 h1' (fun e => hne (hσ _ _ e)) hmm hp hp'
 have hargs1 : zay φ0 w (Or M1 (Mut φ0 (mkH HA))) args0 vs := hargs0.back hφ0 hM1 hb0 hv
 refine (hp.2 _ φ0 w vs hH1 hargs1).mono ?_
 rintro e w' ⟨v, φ1, r, h1, n', rfl, hK, hH2, hx, st⟩
 obtain ⟨φ2, hH3, hx3, hm3, hst⟩ := hK.sound hH2 (tmps := fun _ => v) (fun _ => hx)
 have hx3 := hx3 0
 simp only [mkE, zau] at hx3
 have hlater : ∀ j x, j < m → φ (ren rs n j) = some x → ∃ x', φ2 j = some x' ∧ x.1 ≤ x'.1 ∧ (x'.1 = x.1 → x' = x) := by
  intro j x hj hx
  obtain ⟨x', h1, h2, h3⟩ := st.le j x (by rw [hφ0 j hj]; exact hx)
  exact ⟨x', hst j x' (by omega) h1, h2, h3⟩
 let φ3 : zaq := fun o => if o ∈ rs then φ2 (rs.idxOf o) else if o < n then φ o else φ2 (o - n + m)
 have hidx : ∀ j, j < m → rs.idxOf (ren rs n j) = j := by
  intro j hj
  have h1 := List.idxOf_lt_length_of_mem (zgo (rs := rs) (n := n) (j := j) (by omega))
  refine hσ _ _ ?_
  have h2 := List.getElem_idxOf h1
  unfold ren at h1 h2 ⊢
  rw [if_pos h1, List.getD_eq_getElem?_getD, List.getElem?_eq_getElem h1]
  exact h2
 have e3 : ∀ o, φ3 (ren rs n o) = φ2 o := by
  intro o
  by_cases ho : o < m
  ·simp only [φ3]
   rw [if_pos (zgo (by omega)), hidx o ho]
  ·have hge : ren rs n o = n + (o - m) := by unfold ren; rw [if_neg (by omega), hm]
   simp only [φ3]
   rw [hge, if_neg (fun hmem => by have := hlt _ hmem; omega), if_neg (by omega)]
   congr 1; omega
 have e3' : ∀ o, o < n → o ∉ rs → φ3 o = φ o := fun o ho hni => by simp only [φ3]; rw [if_neg hni, if_pos ho]
 have hltn : ∀ o x, φ o = some x → o < n := fun o x ho => Nat.lt_of_not_le fun hle => by rw [hH.fresh o hle] at ho; cases ho
 have hren : ∀ o, o ∈ rs → ∃ j, j < m ∧ o = ren rs n j := by
  intro o ho
  obtain ⟨j, hj, rfl⟩ := List.getElem_of_mem ho
  exact ⟨j, by omega, by unfold ren; rw [if_pos hj, List.getD_eq_getElem?_getD, List.getElem?_eq_getElem hj]; rfl⟩
 have hle3 : φ.le φ3 := by
  intro o x ho
  by_cases hmem : o ∈ rs
  ·obtain ⟨j, hj, rfl⟩ := hren o hmem
   rw [e3]; exact hlater j x hj ho
  ·exact ⟨x, by rw [e3' o (hltn _ _ ho) hmem]; exact ho, Nat.le_refl _, fun _ => rfl⟩
 have hheap : ∀ k, k < w.heap.size → ¬ Mut φ0 (mkH HA) k → w'.heap[k]? = w.heap[k]? := fun k hk hn => st.fr.block k hk hn
 have hsrc : ∀ o y, zdx HH (zkZ rs h') o = some y → (∃ o0 x, o = ren rs n o0 ∧ mkH H0 o0 = some x ∧ RnO (ren rs n) x y) ∨ (o < n ∧ o ∉ rs ∧ h' o = some y) := by
  intro o x ho
  rw [zfm] at ho
  split at ho
  ·rename_i y hy
   cases ho
   exact .inl (hHH.at hσ hy)
  ·rw [ztr] at ho
   split at ho
   ·cases ho
   ·rename_i hni
    cases x with
    | rows mt g sz rws =>
     obtain ⟨A, hA, _⟩ := hH'.obj _ _ _ _ _ ho
     exact .inr ⟨hltn _ _ hA, hni, ho⟩
 have hmut : ∀ k, Mut φ3 (zdx HH (zkZ rs h')) k → Mut φ2 (mkH H0) k ∨ Mut φ hr k := by
  rintro k ⟨o, g, sz, rws, g', a, bs, ho, hp, rfl⟩
  rcases hsrc o _ ho with ⟨o0, x, rfl, h1, h2⟩ | ⟨h1, hni, h2⟩
  ·cases h2 with
   | rows h2 => rw [e3] at hp; exact .inl ⟨o0, g, sz, _, g', a, bs, h1, hp, rfl⟩
  ·rw [e3' o h1 hni] at hp
   exact .inr ⟨o, g, sz, rws, g', a, bs, by simp only [hr]; rw [if_neg hni]; exact h2, hp, rfl⟩
 have hmnew : ∀ k, Mut φ2 (mkH H0) k → Mut φ0 (mkH HA) k ∨ w.heap.size ≤ k := fun k hk => st.mutd k (hm3 k hk)
 have hsub : ∀ k, Or M0 (Mut φ3 (zdx HH (zkZ rs h'))) k → Or M1 (Mut φ2 (mkH H0)) k := fun k hk => hk.elim (fun h => .inl (.inl h)) fun h => (hmut k h).elim .inr fun h => .inl (.inr h)
 have hmutd : ∀ k, Mut φ3 (zdx HH (zkZ rs h')) k → Mut φ h' k ∨ w.heap.size ≤ k := fun k hk =>
  (hmut k hk).elim (fun h => (hmnew k h).imp (hgmut' k) id) fun h => .inl (hrmut k h)
 have hsub' : ∀ k, Or M0 (Mut φ3 (zdx HH (zkZ rs h'))) k → Or M0 (Mut φ h') k ∨ w.heap.size ≤ k := fun k hk => hk.elim (fun h => .inl (.inl h)) fun h => (hmutd k h).imp .inr id
 have hblk : ∀ o x g' a bs, h' o = some x → φ o = some (g', some (a, bs)) → a.block < w.heap.size := by
  intro o x g' a bs ho hp
  cases x with
  | rows mt g sz rws =>
   obtain ⟨A, hA, hc⟩ := hH'.obj _ _ _ _ _ ho
   rw [hp] at hA
   simp only [Option.some.injEq, Prod.mk.injEq] at hA
   obtain ⟨rfl, rfl⟩ := hA
   rcases hc with ⟨h, _⟩ | ⟨a', bs', h, _, h2⟩
   ·cases h
   ·simp only [Option.some.injEq, Prod.mk.injEq] at h
    obtain ⟨rfl, rfl⟩ := h
    exact h2.blk
 have hkeep : ∀ o mt g sz rws g' a bs, o ∉ rs → h' o = some (.rows mt g sz rws) → φ o = some (g', some (a, bs)) → ¬ Mut φ0 (mkH HA) a.block := by
  intro o mt g sz rws g' a bs hni ho hp hk
  obtain ⟨j, hj, g1, sz1, rws1, g1', a1, bs1, q1, q2, q3⟩ := hgmut _ hk
  obtain rfl := hgen ho hp
  obtain rfl := hgen q1 q2
  exact hH'.inj _ _ _ _ _ _ _ _ _ _ _ _ _ _ q1 ho (fun e => hni (e ▸ zgo (by omega))) (.inl rfl) q2 hp q3
 have hfar : ∀ o0 mt g sz rws g' a bs o' y g1 a' b', mkH H0 o0 = some (.rows mt g sz rws) → φ2 o0 = some (g', some (a, bs)) → o' ∉ rs → h' o' = some y → φ o' = some (g1, some (a', b')) →
   (mt = true ∨ ∃ g sz rs, y = .rows true g sz rs) → a.block ≠ a'.block := by
  intro o0 mt g sz rws g' a bs o' y g1 a' b' q1 q2 hni q3 q4 hmm
  have hb1 := hblk _ _ _ _ _ q3 q4
  rcases hmm with rfl | ⟨g2, sz2, rs2, rfl⟩
  ·rcases hmnew a.block ⟨o0, g, sz, rws, _, a, bs, q1, q2, rfl⟩ with hk | hk
   ·intro he
    cases y with
    | rows mt1 g1' sz1 rws1 => exact hkeep _ _ _ _ _ _ _ _ hni q3 q4 (he ▸ hk)
   ·omega
  ·intro he
   obtain ⟨A, hA, hc⟩ := hH3.obj _ _ _ _ _ q1
   rw [q2] at hA
   simp only [Option.some.injEq, Prod.mk.injEq] at hA
   obtain ⟨_, rfl⟩ := hA
   rcases hc with ⟨h, _⟩ | ⟨a1, bs1, h, hn0, _⟩
   ·cases h
   ·simp only [Option.some.injEq, Prod.mk.injEq] at h
    obtain ⟨rfl, rfl⟩ := h
    exact hn0 (.inr ⟨o', g2, sz2, rs2, _, a', b', by simp only [hr]; rw [if_neg hni]; exact q3, q4, he.symm⟩)
 refine ⟨v, φ3, R, zdx HH (zkZ rs h'), n + (k2 - m), rfl, hk, ⟨fun k hk => Nat.lt_of_lt_of_le (hH.m0 k hk) st.fr.size, fun o ho => ?_, fun o mt g sz rws ho => ?_, fun o o' mt g sz rws mt' g' sz' rws' a a' b b' ho ho' hne hmm hp hp' => ?_,
   hH'.glob.keep (fun k hn hk => hheap k hk (fun hg => hn (.inr (hgmut' k hg)))) hsub'⟩,
  hR.rel e3 hsub hx3, st0.trans ⟨hle3, hsub', ⟨st.fr.os, st.fr.tape, st.fr.output, st.fr.drawn, st.fr.size, fun k hk hn => hheap k hk (fun hg => hn (hgmut' k hg))⟩, hmutd⟩⟩
 ·have h1 : ren rs n (o - n + m) = o := by unfold ren; rw [if_neg (by omega)]; omega
  rw [← h1, e3]; exact hH3.fresh _ (by omega)
 ·rcases hsrc o _ ho with ⟨o0, x, rfl, h1, h2⟩ | ⟨h1, hni, h2⟩
  ·cases h2 with
   | rows hs =>
    obtain ⟨A, hA, hc⟩ := hH3.obj _ _ _ _ _ h1
    refine ⟨A, by rw [e3]; exact hA, hc.imp (fun h => ⟨h.1, ?_⟩) ?_⟩
    ·obtain ⟨_, rfl⟩ := h
     exact List.eq_nil_of_length_eq_zero hs.shape.1
    ·rintro ⟨a, bs, c1, c3, hd⟩
     exact ⟨a, bs, c1, fun hk => c3 (.inl hk), hd.turn rfl hs.shape.1 (hs.shape.2.1 sz) (fun c9 => hs.rel e3 hsub c9)⟩
  ·obtain ⟨A, hA, hc⟩ := hH'.obj _ _ _ _ _ h2
   refine ⟨A, by rw [e3' o h1 hni]; exact hA, hc.imp id ?_⟩
   rintro ⟨a, bs, c1, c3, hd⟩
   exact ⟨a, bs, c1, c3, hd.keep (hheap _ hd.blk (hkeep _ _ _ _ _ _ _ _ hni h2 (by rw [hA, c1]))) (fun c9 => c9.keep hle3 (fun k hn hk => hheap k hk (fun hg => hn (.inr (hgmut' k hg)))) hsub')⟩
 ·rcases hsrc o _ ho with ⟨o0, x, rfl, q1, q2⟩ | ⟨q1, qn, q2⟩ <;> rcases hsrc o' _ ho' with ⟨o0', x', rfl, q1', q2'⟩ | ⟨q1', qn', q2'⟩
  ·cases q2; cases q2'
   rw [e3] at hp hp'
   exact hH3.inj _ _ _ _ _ _ _ _ _ _ _ _ _ _ q1 q1' (fun e => hne (by rw [e])) hmm hp hp'
  ·cases q2
   rw [e3] at hp; rw [e3' o' q1' qn'] at hp'
   exact hfar _ _ _ _ _ _ _ _ _ _ _ _ _ q1 hp qn' q2' hp' (hmm.imp id fun h => by subst h; exact ⟨_, _, _, rfl⟩)
  ·cases q2'
   rw [e3' o q1 qn] at hp; rw [e3] at hp'
   exact Ne.symm (hfar _ _ _ _ _ _ _ _ _ _ _ _ _ q1' hp' qn q2 hp (hmm.symm.imp id fun h => by subst h; exact ⟨_, _, _, rfl⟩))
  ·rw [e3' o q1 qn] at hp; rw [e3' o' q1' qn'] at hp'
   exact hH'.inj _ _ _ _ _ _ _ _ _ _ _ _ _ _ q2 q2' hne hmm hp hp'
theorem Bel.mono {n m : Nat} (hnm : n ≤ m) {x : AV} (h : Bel n x) : Bel m x := by
 induction h with
 | top => exact .top
 | v x => exact .v x
 | agg _ ih => exact .agg ih
 | tup _ ih => exact .tup ih
 | lst _ ih => exact .lst ih
 | fp _ ih => exact .fp ih
 | ref h => exact .ref (by omega)
 | sl h => exact .sl (by omega)
 | mp h => exact .mp (by omega)
 | fn _ _ ih1 ih2 => exact .fn ih1 ih2
 | gd _ ih => exact .gd ih
theorem zyd {P : Program} {n : Nat} {ops : List Oper} {Q : zbx} {m i : Nat} {rest : List Oper} {e : Env} {h : zal} {acc : List zee} {dst : Option Tmp} {f : FuncId} {first caps args args' : List AV} {R : Nat → AV} {HH : Nat → List (Nat × zbd)} {k2 : Nat}
  (b : Nat) (hbb : b = n + ops.length + 16 * i) (hp : zgB P f args' R HH k2) (hk16 : k2 ≤ 16) (hnR : zeK (R 0)) (hnH : ∀ p ∈ HH 0, zm6 p.2) (hle : ∀ h₁ : zal, zam h₁ noH 0 (first ++ args ++ caps) args') (hb : ∀ c ∈ args', Bel 0 c)
  (hnd : ((HH b).map (·.1)).Nodup) (hk : adr P n ops Q m (i + 1) rest (put e dst (R b)) (zdx (HH b) h) (acc ++ [([zcR], (HH b).map (·.1))])) : zaC P n ops Q m i rest dst (.fn (.func f) first caps) args e h acc := by
 subst hbb
 refine ⟨R _, [zcR], (HH (n + ops.length + 16 * i)).map (fun p => (p.1, some p.2)), .inr (.inr (.inr ⟨f, first, caps, args', R 0, HH 0, HH (n + ops.length + 16 * i), k2, rfl, by simp, hk16, hb, hp.1, hnR, hnH, (hp.2 _).1, (hp.2 _).2, hnd, rfl, fun h₁ _ => hle h₁⟩)), ?_⟩
 rw [zfg hnd, List.map_map]
 exact hk
end Go.Av
end
section
open Go Go.Proofs
namespace Go.Av
theorem zuf (l : List StD) : zfq l [] = l := rfl
theorem zru (l more : List StD) (s : StD) : zfq l (more ++ [s]) = if s ∈ zfq l more then zfq l more else zfq l more ++ [s] := by
 unfold zfq; rw [List.foldl_append]; rfl
theorem zrv (l more : List StD) {i : Nat} (h : i < more.length) : zfq l (more.take (i + 1)) = if nth more i ∈ zfq l (more.take i) then zfq l (more.take i) else zfq l (more.take i) ++ [nth more i] := by
 rw [List.take_add_one, List.getElem?_eq_getElem h, zaB _ _ h, Option.toList_some, zru]
theorem zg8 : ∀ (more l : List StD), l.length ≤ (zfq l more).length ∧ (zfq l more).length ≤ l.length + more.length
 | [], l => by simp [zfq]
 | s :: more, l => by
  have e : zfq l (s :: more) = zfq (if s ∈ l then l else l ++ [s]) more := rfl
  rw [e]
  by_cases h : s ∈ l
  ·have := zg8 more l
   rw [if_pos h]; simp; omega
  ·have := zg8 more (l ++ [s])
   rw [if_neg h]; simp at this ⊢; omega
theorem zkd {P : StD → Prop} : ∀ {more l : List StD}, (∀ s ∈ l, P s) → (∀ s ∈ more, P s) → ∀ s ∈ zfq l more, P s
 | [], l, h, _ => h
 | s :: more, l, h, h' => by
  have e : zfq l (s :: more) = zfq (if s ∈ l then l else l ++ [s]) more := rfl
  rw [e]
  refine zkd (fun t ht => ?_) (fun t ht => h' t (List.mem_cons_of_mem _ ht))
  split at ht
  ·exact h t ht
  ·rcases List.mem_append.1 ht with ht | ht
   ·exact h t ht
   ·simp at ht; subst ht; exact h' _ (by simp)
def zcM (g : zae) (p : zag) (cell : Int) (prog : List (Int × Int)) (n : Nat) : List StD := (prog.take n).foldl (zmy g) [zfX p cell]
theorem zis (g : zae) (p : zag) (cell : Int) (prog : List (Int × Int)) : zcM g p cell prog 0 = [zfX p cell] := rfl
theorem zir (g : zae) (p : zag) (cell : Int) (prog : List (Int × Int)) {n : Nat} (h : n < prog.length) : zcM g p cell prog (n + 1) = zmy g (zcM g p cell prog n) (nth prog n) := by
 unfold zcM
 rw [List.take_add_one, List.getElem?_eq_getElem h, zaB _ _ h, Option.toList_some, List.foldl_append]; rfl
theorem ziq (g : zae) (p : zag) (cell : Int) (prog : List (Int × Int)) : zcM g p cell prog prog.length = zgl g p cell prog := by
 unfold zcM zgl; rw [List.take_length]
def zcZ (g : zae) (now : List StD) (x : Int × Int) (n : Nat) : List StD := (now.take n).foldl (fun next s => zfq next (zcS g s x)) []
theorem zqL (g : zae) (now : List StD) (x : Int × Int) : zcZ g now x 0 = [] := rfl
theorem zjM (g : zae) (now : List StD) (x : Int × Int) {n : Nat} (h : n < now.length) : zcZ g now x (n + 1) = zfq (zcZ g now x n) (zcS g (nth now n) x) := by
 unfold zcZ
 rw [List.take_add_one, List.getElem?_eq_getElem h, zaB _ _ h, Option.toList_some, List.foldl_append]; rfl
theorem zmF (g : zae) (now : List StD) (x : Int × Int) : zcZ g now x now.length = zmy g now x := by
 unfold zcZ zmy; rw [List.take_length]
theorem zo3 {g : zae} (hg : GOk g) {now : List StD} {x : Int × Int} (hx : ze2 g.next.length g.kinds.length g.rights x) {side : Int} (hn : ∀ s ∈ now, zf4 g s ∧ s.p.side = side) :
  ∀ n, n ≤ now.length → (∀ s ∈ zcZ g now x n, zf4 g s ∧ s.p.side = side) ∧ (zcZ g now x n).length ≤ 10 * n := by
 intro n
 induction n with
 | zero => intro _; simp [zcZ]
 | succ n ih =>
  intro h
  obtain ⟨h1, h2⟩ := ih (by omega)
  have hs := hn _ (zaj (show n < now.length by omega))
  rw [zjM g now x (by omega)]
  refine ⟨zkd h1 (fun s hs' => ?_), ?_⟩
  ·obtain ⟨k1, k2⟩ := zk2 hg hs.1 hx s hs'
   exact ⟨k1, k2.trans hs.2⟩
  ·have k1 := (zg8 (zcS g (nth now n) x) (zcZ g now x n)).2
   have k2 := zmR hg (nth now n) x
   omega
theorem zmQ {g : zae} (hg : GOk g) {p : zag} (hp : POk g p) {cell : Int} (h0 : 0 ≤ cell) (h1 : cell < g.cells) (hm : 0 ≤ (zan (nth p.at_ cell.toNat)).1) : zf4 g (zfX p cell) ∧ (zfX p cell).p.side = p.side := by
 have hat := hp.at (i := cell.toNat) (by omega)
 have hk := zaX hat.1 hat.2 hg.k6
 refine ⟨⟨hp.clr _, h0, h1, ?_⟩, rfl⟩
 simp only [zfX]
 rcases hk with ⟨_, e⟩ | ⟨_, a, b, _⟩
 ·rw [e] at hm; simp at hm
 ·exact ⟨a, b⟩
theorem zmP {g : zae} (hg : GOk g) {p : zag} (hp : POk g p) {cell : Int} (h0 : 0 ≤ cell) (h1 : cell < g.cells) (hm : 0 ≤ (zan (nth p.at_ cell.toNat)).1)
  {prog : List (Int × Int)} (hpr : ∀ x ∈ prog, ze2 g.next.length g.kinds.length g.rights x) :
  ∀ n, n ≤ prog.length → (∀ s ∈ zcM g p cell prog n, zf4 g s ∧ s.p.side = p.side) ∧ (zcM g p cell prog n).length ≤ 10 ^ n := by
 intro n
 induction n with
 | zero => intro _; rw [zis]; exact ⟨fun s hs => by simp at hs; subst hs; exact zmQ hg hp h0 h1 hm, by simp⟩
 | succ n ih =>
  intro h
  obtain ⟨k1, k2⟩ := ih (by omega)
  rw [zir g p cell prog (by omega), ← zmF]
  obtain ⟨j1, j2⟩ := zo3 hg (hpr _ (zaj (show n < prog.length by omega))) k1 _ (Nat.le_refl _)
  refine ⟨j1, ?_⟩
  rw [Nat.pow_succ]
  omega
theorem zo4 {n : Nat} (h : n ≤ 8) : 10 ^ n ≤ 100000000 := by
 have := Nat.pow_le_pow_right (n := 10) (by omega) h
 exact this
def stR (g : zae) (p : zag) (cell : Int) (prog : List (Int × Int)) (n : Nat) : List (List AV) := (List.range n).map fun j => [zbJ (zcM g p cell prog j)]
@[go_sem] theorem stR_len (g : zae) (p : zag) (cell : Int) (prog : List (Int × Int)) (n : Nat) : (stR g p cell prog n).length = n := by simp [stR]
@[go_sem ↓] theorem bel_stR {m : Nat} {g : zae} {p : zag} {cell : Int} {prog : List (Int × Int)} {n : Nat} : (∀ r ∈ stR g p cell prog n, ∀ c ∈ r, Bel m c) = True := by
 refine eq_true fun r hr c hc => ?_
 obtain ⟨j, _, rfl⟩ := List.mem_map.1 hr
 simp only [List.mem_cons, List.not_mem_nil, or_false] at hc
 subst hc
 exact of_eq_true zr5
structure zcE (g : zae) (p : zag) (cell i : Int) : Prop where
 c0 : 0 ≤ cell
 c1 : cell < g.cells
 man : 0 ≤ (zan (nth p.at_ cell.toNat)).1
 side : (zan (nth p.at_ cell.toNat)).2 = p.side
 i0 : 0 ≤ i
 i1 : i < (nth g.kinds (zan (nth p.at_ cell.toNat)).1.toNat).progs.length
structure TkD where
 p : zag
 kind : Int
 took : Bool
 deriving DecidableEq
instance : Inhabited TkD := ⟨⟨default, 0, false⟩⟩
def ziv (g : zae) (side : Int) (t : TkD) (a : Int) : TkD × Bool :=
 let m := zan (nth t.p.at_ a.toNat)
 if m.2 ≠ 1 - side then (t, false) else
 if (nth g.kinds m.1.toNat).keep = true then
  (⟨(clr t.p a).withHand side ((t.p.hand side).set m.1.toNat (nth (t.p.hand side) m.1.toNat + 1)), t.kind, true⟩, decide (nth (t.p.hand side) m.1.toNat + 1 ≤ 8))
 else (⟨clr t.p a, t.kind, true⟩, true)
def zig (t : TkD) (a b : Int) : TkD × Bool :=
 if nth t.p.at_ a.toNat = 0 ∨ nth t.p.at_ b.toNat ≠ 0 then (t, false)
 else (⟨{ t.p with at_ := (t.p.at_.set b.toNat (nth t.p.at_ a.toNat)).set a.toNat 0 }, t.kind, t.took⟩, true)
def doA (g : zae) (side : Int) (t : TkD) (x : zcN) : TkD × Bool :=
 if x.1 = 3 then (t, decide (nth t.p.at_ x.2.1.toNat = 0))
 else if x.1 = 4 then (t, decide ((zan (nth t.p.at_ x.2.1.toNat)).2 = 1 - side))
 else if x.1 = 5 then (t, decide ((zan (nth t.p.at_ x.2.1.toNat)).2 = side))
 else if x.1 = 6 then ziv g side t x.2.1
 else if x.1 = 7 then zig t x.2.1 x.2.2
 else if x.1 = 8 then (⟨t.p, x.2.1, t.took⟩, true)
 else if x.1 = 9 then (t, decide (ziC .i64 (t.p.rights.fdiv (2 ^ x.2.1.toNat)) 1 = 1))
 else if x.1 = 10 then (⟨{ t.p with rights := zbH .i64 t.p.rights (2 ^ x.2.1.toNat) }, t.kind, t.took⟩, true)
 else (t, true)
def zdS (g : zae) (side : Int) : TkD → List zcN → Option TkD
 | t, [] => some t
 | t, x :: l => if (doA g side t x).2 = true then zdS g side (doA g side t x).1 l else none
theorem zdY (g : zae) (side : Int) : ∀ (l m : List zcN) (t : TkD), zdS g side t (l ++ m) = (zdS g side t l).bind fun t => zdS g side t m
 | [], m, t => rfl
 | x :: l, m, t => by
  simp only [List.cons_append, zdS]
  split
  ·exact zdY g side l m _
  ·rfl
def stT (t : TkD) (c : Int) : StD := ⟨t.p, t.kind, c, t.took⟩
def stW (g : zae) (side : Int) (t : TkD) (w : za1) : Option StD := (zdS g side t w.acts).map fun t => stT t w.to
theorem zk0 (g : zae) (side : Int) (t : TkD) (w : za1) (to : Int) (more : List zcN) :
  stW g side t (onP w to more) = ((zdS g side t w.acts).bind fun t => zdS g side t more).map fun t => stT t to := by
 unfold stW onP
 rw [zdY]
theorem zsq (g : zae) (side : Int) (t : TkD) (c : Int) : doA g side t (3, c, 0) = (t, decide (nth t.p.at_ c.toNat = 0)) := by simp [doA]
theorem zgs {g : zae} {side : Int} {t : TkD} {w : za1} : ∀ {l : List Int} {passed : List zcN}, ((zdS g side t w.acts).bind fun t => zdS g side t passed) = none → (zb7 w l passed).filterMap (stW g side t) = []
 | [], _, _ => rfl
 | c :: l, passed, h => by
  rw [zb7, List.filterMap_cons, zk0, h]
  refine zgs ?_
  cases hd : zdS g side t w.acts with
  | none => rfl
  | some u =>
   rw [hd] at h
   simp only [Option.bind_some] at h ⊢
   rw [zdY, h]; rfl
theorem zjV {g : zae} {side : Int} {t u : TkD} {w : za1} (hd : zdS g side t w.acts = some u) : ∀ {l : List Int} {passed : List zcN}, zdS g side u passed = some u →
  (zb7 w l passed).filterMap (stW g side t) = zcu (stT u w.to) l
 | [], _, _ => rfl
 | c :: l, passed, h => by
  rw [zb7, List.filterMap_cons, zk0, hd, Option.bind_some, h, zcu]
  simp only [Option.map_some]
  congr 1
  have he : zdS g side u (passed ++ [(3, c, 0)]) = if nth u.p.at_ c.toNat = 0 then some u else none := by
   rw [zdY, h, Option.bind_some]
   simp only [zdS, zsq, decide_eq_true_eq]
  show _ = if nth u.p.at_ c.toNat = 0 then _ else _
  split
  ·rename_i h0
   rw [if_pos h0] at he
   exact zjV hd he
  ·rename_i h0
   rw [if_neg h0] at he
   refine zgs ?_
   rw [hd, Option.bind_some, he]
theorem zsG {g : zae} {side : Int} {t : TkD} {w : za1} (h : zdS g side t w.acts = none) (x : Int × Int) : (zjr g.board side w x).filterMap (stW g side t) = [] := by
 have ho : ∀ to more, stW g side t (onP w to more) = none := fun to more => by rw [zk0, h]; rfl
 unfold zjr
 split
 ·split
  ·rfl
  ·split <;> simp [ho]
 ·split
  ·exact zgs (by rw [h]; rfl)
  ·split <;> simp [ho]
theorem zl4 {g : zae} (hg : GOk g) {side : Int} {t u : TkD} {w : za1} (hd : zdS g side t w.acts = some u) (hs : zf4 g (stT u w.to)) (hside : u.p.side = side) {x : Int × Int}
  (hx : ze2 g.next.length g.kinds.length g.rights x) : (zjr g.board side w x).filterMap (stW g side t) = zcS g (stT u w.to) x := by
 have ho : ∀ to more, stW g side t (onP w to more) = (zdS g side u more).map fun t => stT t to := fun to more => by rw [zk0, hd]; rfl
 have one : ∀ to a, stW g side t (onP w to [a]) = if (doA g side u a).2 = true then some (stT (doA g side u a).1 to) else none := fun to a => by
  rw [ho]; simp only [zdS]; split <;> rfl
 have hsl := hs.p.s
 have hat := hs.p.at (i := w.to.toNat) (by have := hs.c0; have := hs.c1; simp only [stT] at *; omega)
 have hm := zaX hat.1 hat.2 hg.k6
 have hto := zgT hg.board side x.2 w.to
 have ht := hx.op
 simp only [stT] at hsl hat hm
 rw [hside] at hsl
 unfold zcS zjr
 simp only [show (stT u w.to).p = u.p from rfl, show (stT u w.to).cursor = w.to from rfl, hside]
 by_cases h1 : x.1 = 1
 ·simp only [h1, true_or, if_true]
  by_cases hn : toB g.board side x.2 w.to < 0
  ·rw [if_pos hn, show decide (0 ≤ toB g.board side x.2 w.to) = false by simpa using hn]; rfl
  ·rw [if_neg hn, show decide (0 ≤ toB g.board side x.2 w.to) = true by simpa using hn]
   simp only [List.filterMap_cons, ho, zdS, Option.map_some, List.filterMap_nil, zcL, if_true, stT]
 by_cases h7 : x.1 = 7
 ·simp only [h7, or_true, if_true, show ((7 : Int) = 1) = False by decide, show ((7 : Int) = 2) = False by decide, show ((7 : Int) = 3) = False by decide, show ((7 : Int) = 4) = False by decide,
   show ((7 : Int) = 5) = False by decide, show ((7 : Int) = 6) = False by decide, if_false, zqP]
  simp only [show (stT u w.to).p = u.p from rfl, show (stT u w.to).cursor = w.to from rfl, hside]
  by_cases hn : toB g.board side x.2 w.to < 0
  ·rw [if_pos hn, if_pos (.inr (.inl hn))]; rfl
  ·rw [if_neg hn]
   simp only [List.filterMap_cons, List.filterMap_nil, one, doA, show ((7 : Int) = 3) = False by decide, show ((7 : Int) = 4) = False by decide, show ((7 : Int) = 5) = False by decide,
    show ((7 : Int) = 6) = False by decide, if_false, if_true, zig]
   by_cases hc : nth u.p.at_ w.to.toNat = 0 ∨ nth u.p.at_ (toB g.board side x.2 w.to).toNat ≠ 0
   ·have hc' : nth u.p.at_ w.to.toNat = 0 ∨ toB g.board side x.2 w.to < 0 ∨ nth u.p.at_ (toB g.board side x.2 w.to).toNat ≠ 0 := by rcases hc with h | h; exact .inl h; exact .inr (.inr h)
    simp only [if_pos hc, if_pos hc', Bool.false_eq_true, if_false]
   ·have hc' : ¬ (nth u.p.at_ w.to.toNat = 0 ∨ toB g.board side x.2 w.to < 0 ∨ nth u.p.at_ (toB g.board side x.2 w.to).toNat ≠ 0) := by rintro (h | h | h); exact hc (.inl h); exact hn h; exact hc (.inr h)
    simp only [if_neg hc, if_neg hc', if_true, stT, hside]
 rw [if_neg (by omega)]
 by_cases h2 : x.1 = 2
 ·simp only [h2, show ((2 : Int) = 1) = False by decide, if_true, if_false, zmO]
  simp only [show (stT u w.to).p = u.p from rfl, show (stT u w.to).cursor = w.to from rfl, hside]
  exact zjV hd rfl
 rw [if_neg h2, if_neg h1, if_neg h2]
 by_cases h8 : x.1 = 8
 ·simp [h8, one, doA, stT]
 by_cases h9 : x.1 = 9
 ·simp only [h9, one, doA, zcL, show ((9 : Int) = 8) = False by decide, show ((9 : Int) = 10) = False by decide, show ((9 : Int) = 3) = False by decide, show ((9 : Int) = 4) = False by decide, show ((9 : Int) = 5) = False by decide,
   show ((9 : Int) = 6) = False by decide, show ((9 : Int) = 7) = False by decide, if_true, if_false, or_true, true_or, false_or, or_false, List.filterMap_cons, List.filterMap_nil]
  split <;> simp_all [stT]
 by_cases h10 : x.1 = 10
 ·simp [h10, one, doA, stT, hside]
 rw [if_neg (by omega)]
 simp only [one, List.filterMap_cons, List.filterMap_nil]
 by_cases h3 : x.1 = 3
 ·simp only [h3, if_true, doA, zcL]
  rcases hm with ⟨h0, e⟩ | ⟨h0, e1, e2, e3, e4⟩
  ·rw [e]; simp [h0, stT]
  ·rw [if_neg (by simpa using h0), if_neg (by simp; omega)]
 by_cases h4 : x.1 = 4
 ·simp only [h4, show ((4 : Int) = 3) = False by decide, if_true, if_false, doA, zcL]
  rcases hm with ⟨h0, e⟩ | ⟨h0, e1, e2, e3, e4⟩
  ·rw [e, if_neg (by simp; omega), if_neg (by simp)]
  ·by_cases hs' : (zan (nth u.p.at_ w.to.toNat)).2 = 1 - side
   ·rw [if_pos (by simpa using hs'), if_pos (by simp; omega)]
   ·rw [if_neg (by simpa using hs'), if_neg (by simp; omega)]
 by_cases h5 : x.1 = 5
 ·simp only [h5, show ((5 : Int) = 3) = False by decide, show ((5 : Int) = 4) = False by decide, if_true, if_false, doA, zcL]
  rcases hm with ⟨h0, e⟩ | ⟨h0, e1, e2, e3, e4⟩
  ·rw [e, if_neg (by simp; omega), if_neg (by simp)]
  ·by_cases hs' : (zan (nth u.p.at_ w.to.toNat)).2 = side
   ·rw [if_pos (by simpa using hs'), if_pos (by simp; omega)]
   ·rw [if_neg (by simpa using hs'), if_neg (by simp; omega)]
 have h6 : x.1 = 6 := by omega
 simp only [h6, show ((6 : Int) = 3) = False by decide, show ((6 : Int) = 4) = False by decide, show ((6 : Int) = 5) = False by decide, if_true, if_false, doA, ziv, zq7]
 simp only [show (stT u w.to).p = u.p from rfl, show (stT u w.to).cursor = w.to from rfl, hside]
 rcases hm with ⟨h0, e⟩ | ⟨h0, e1, e2, e3, e4⟩
 ·have hne : (-1 : Int) ≠ 1 - side := by omega
  rw [e]
  simp [hne]
 ·by_cases hs' : (zan (nth u.p.at_ w.to.toNat)).2 = 1 - side
  ·rw [if_neg (not_not_intro hs'), if_neg (show ¬ ((zan (nth u.p.at_ w.to.toNat)).1 < 0 ∨ (zan (nth u.p.at_ w.to.toNat)).2 = side) by omega)]
   by_cases hk : (nth g.kinds (zan (nth u.p.at_ w.to.toNat)).1.toNat).keep = true
   ·rw [if_pos hk, if_pos hk]
    by_cases h9 : nth (u.p.hand side) (zan (nth u.p.at_ w.to.toNat)).1.toNat + 1 ≤ 8
    ·have h9' : ¬ 8 < nth (u.p.hand side) (zan (nth u.p.at_ w.to.toNat)).1.toNat + 1 := by omega
     simp only [h9, h9', decide_true, if_true, if_false, stT]
    ·have h9' : 8 < nth (u.p.hand side) (zan (nth u.p.at_ w.to.toNat)).1.toNat + 1 := by omega
     simp only [h9, h9', decide_false, if_true, Bool.false_eq_true, if_false]
   ·rw [if_neg hk, if_neg hk]; simp [stT]
  ·rw [if_pos hs', if_pos (show (zan (nth u.p.at_ w.to.toNat)).1 < 0 ∨ (zan (nth u.p.at_ w.to.toNat)).2 = side by omega)]; simp
theorem zoC : ∀ {more l : List StD} {s : StD}, s ∈ zfq l more ↔ s ∈ l ∨ s ∈ more
 | [], l, s => by simp [zfq]
 | m :: more, l, s => by
  show s ∈ zfq (if m ∈ l then l else l ++ [m]) more ↔ _
  rw [zoC]
  split
  ·rename_i h
   simp only [List.mem_cons]
   exact ⟨fun h => by rcases h with h | h <;> simp [h], fun h => by rcases h with h | rfl | h; exact .inl h; exact .inl ‹_›; exact .inr h⟩
  ·simp only [List.mem_append, List.mem_cons, List.mem_singleton, List.not_mem_nil, or_false]
   exact or_assoc
theorem zjK (g : zae) (x : Int × Int) : ∀ (now acc : List StD) (s : StD), s ∈ now.foldl (fun next s => zfq next (zcS g s x)) acc ↔ s ∈ acc ∨ ∃ r ∈ now, s ∈ zcS g r x
 | [], acc, s => by simp
 | r :: now, acc, s => by
  rw [List.foldl_cons, zjK g x now, zoC]
  simp only [List.mem_cons, exists_eq_or_imp]
  exact or_assoc
theorem zmz (g : zae) (x : Int × Int) (now : List StD) (s : StD) : s ∈ zmy g now x ↔ ∃ r ∈ now, s ∈ zcS g r x := by
 unfold zmy
 rw [zjK]; simp
theorem zo6 {g : zae} (hg : GOk g) {side : Int} {t : TkD} : ∀ (prog : List (Int × Int)) (nowP : List za1) (nowS : List StD), (∀ x ∈ prog, ze2 g.next.length g.kinds.length g.rights x) →
  (∀ s, s ∈ nowP.filterMap (stW g side t) ↔ s ∈ nowS) → (∀ s ∈ nowS, zf4 g s ∧ s.p.side = side) →
  ∀ s, s ∈ (prog.foldl (ziu g.board side) nowP).filterMap (stW g side t) ↔ s ∈ prog.foldl (zmy g) nowS
 | [], nowP, nowS, _, h, _, s => h s
 | x :: prog, nowP, nowS, hp, h, hk, s => by
  rw [List.foldl_cons, List.foldl_cons]
  have hx := hp x (by simp)
  refine zo6 hg prog _ _ (fun y hy => hp y (by simp [hy])) (fun s => ?_) (fun s hs => ?_) s
  ·rw [zmz]
   unfold ziu
   rw [List.filterMap_flatMap, List.mem_flatMap]
   constructor
   ·rintro ⟨w, hw, hs⟩
    cases hd : zdS g side t w.acts with
    | none => rw [zsG hd] at hs; simp at hs
    | some u =>
     have hu : stT u w.to ∈ nowS := (h _).1 (List.mem_filterMap.2 ⟨w, hw, by simp [stW, hd]⟩)
     rw [zl4 hg hd (hk _ hu).1 (hk _ hu).2 hx] at hs
     exact ⟨_, hu, hs⟩
   ·rintro ⟨r, hr, hs⟩
    obtain ⟨w, hw, e⟩ := List.mem_filterMap.1 ((h r).2 hr)
    unfold stW at e
    cases hd : zdS g side t w.acts with
    | none => rw [hd] at e; simp at e
    | some u =>
     rw [hd] at e
     simp only [Option.map_some, Option.some.injEq] at e
     subst e
     exact ⟨w, hw, by rw [zl4 hg hd (hk _ hr).1 (hk _ hr).2 hx]; exact hs⟩
  ·obtain ⟨r, hr, hs⟩ := (zmz g x nowS s).1 hs
   obtain ⟨k1, k2⟩ := zk2 hg (hk r hr).1 hx s hs
   exact ⟨k1, k2.trans (hk r hr).2⟩
def zdd (p : zag) (cell : Int) : TkD := ⟨clr p cell, (zan (nth p.at_ cell.toNat)).1, false⟩
def zre (g : zae) (side : Int) (t : TkD) (w : za1) : Option zdg := (stW g side t w).bind (zhj side)
def zof (g : zae) (p : zag) (cell : Int) : List za1 :=
 zb2 g.board (zan (nth p.at_ cell.toNat)).2 (nth g.kinds (zan (nth p.at_ cell.toNat)).1.toNat).progs cell
def zvw (g : zae) (p : zag) (cell : Int) : List zdg := (zof g p cell).filterMap (zre g (zan (nth p.at_ cell.toNat)).2 (zdd p cell))
def runO (g : zae) (p : zag) (cell : Int) : List zdg := if nth p.at_ cell.toNat = 0 then [] else zbj zlM (zvw g p cell)
def zbm (p : zag) (s : Int) : zag := { p with side := s }
def zo7 (g : zae) (p : zag) (cell : Int) : List zdg :=
 if (zan (nth p.at_ cell.toNat)).1 < 0 then [] else
 zbj zlM ((List.range (nth g.kinds (zan (nth p.at_ cell.toNat)).1.toNat).progs.length).flatMap fun (i : Nat) => zeZ g (zbm p (zan (nth p.at_ cell.toNat)).2) cell i)
def TkD.sd (t : TkD) (s : Int) : TkD := { t with p := zbm t.p s }
theorem zxa (p : zag) (s side : Int) : (zbm p s).hand side = p.hand side := rfl
theorem zov (p : zag) (s side : Int) (l : List Int) : (zbm p s).withHand side l = zbm (p.withHand side l) s := by unfold zag.withHand; split <;> rfl
theorem doA_sd (g : zae) (side : Int) (t : TkD) (s : Int) (x : zcN) : doA g side (t.sd s) x = ((doA g side t x).1.sd s, (doA g side t x).2) := by
 unfold doA ziv zig
 simp only [TkD.sd, show (zbm t.p s).at_ = t.p.at_ from rfl, show (zbm t.p s).rights = t.p.rights from rfl, zxa]
 have hc : clr (zbm t.p s) x.2.1 = zbm (clr t.p x.2.1) s := rfl
 rw [hc, zov]
 split; · rfl
 split; · rfl
 split; · rfl
 split
 ·split; · rfl
  split <;> rfl
 split
 ·split <;> rfl
 split; · rfl
 split; · rfl
 split <;> rfl
theorem zss (g : zae) (side : Int) (s : Int) : ∀ (l : List zcN) (t : TkD), zdS g side (t.sd s) l = (zdS g side t l).map fun t => t.sd s
 | [], t => rfl
 | x :: l, t => by
  simp only [zdS, doA_sd]
  split
  ·exact zss g side s l _
  ·rfl
theorem zxu (g : zae) (side : Int) (t : TkD) (s : Int) (w : za1) : zre g side (t.sd s) w = zre g side t w := by
 unfold zre stW
 rw [zss]
 cases zdS g side t w.acts with
 | none => rfl
 | some u => rfl
theorem zmK {g : zae} (hg : GOk g) {p : zag} (hp : POk g p) {cell : Int} (h0 : 0 ≤ cell) (h1 : cell < g.cells) : runO g p cell = zo7 g p cell := by
 have hat := hp.at (i := cell.toNat) (by omega)
 unfold runO zo7
 rcases zaX hat.1 hat.2 hg.k6 with ⟨hz, e⟩ | ⟨hz, e1, e2, e3, e4⟩
 ·rw [if_pos hz, e, if_pos (by decide)]
 rw [if_neg hz, if_neg (by omega)]
 generalize hs : (zan (nth p.at_ cell.toNat)).2 = side at e3 e4
 refine zoq zcO fun o => ?_
 have hq : POk g (zbm p side) := hp.side e3
 have hst : zdd p cell = zdd p cell := rfl
 have hout : ∀ w, zre g side (zdd p cell) w = zre g side ((zdd p cell).sd side) w := fun w => (zxu g side _ side w).symm
 obtain ⟨progs, hpg⟩ : ∃ l, l = (nth g.kinds (zan (nth p.at_ cell.toNat)).1.toNat).progs := ⟨_, rfl⟩
 have hkm : nth g.kinds (zan (nth p.at_ cell.toNat)).1.toNat ∈ g.kinds := zaj (by omega)
 have key : ∀ prog ∈ progs, ∀ o, o ∈ (zcx g.board side prog cell).filterMap (zre g side (zdd p cell)) ↔ o ∈ (zgl g (zbm p side) cell prog).filterMap (zhj side) := by
  intro prog hm o
  have hok := hg.pr _ hkm prog (hpg ▸ hm)
  have hs0 := zmQ hg hq h0 h1 (show 0 ≤ (zan (nth (zbm p side).at_ cell.toNat)).1 from e1)
  have hmem := zo6 hg (side := side) (t := (zdd p cell).sd side) prog [⟨[], cell⟩] [zfX (zbm p side) cell] hok.st (fun s => by simp [stW, zdS, zdd, stT, zfX, TkD.sd, zbm, clr])
   (fun s hs => by rw [List.mem_singleton] at hs; subst hs; exact ⟨hs0.1, hs0.2⟩)
  rw [show zre g side (zdd p cell) = zre g side ((zdd p cell).sd side) from funext hout]
  simp only [List.mem_filterMap, zre, Option.bind_eq_some_iff]
  constructor
  ·rintro ⟨w, hw, s, h3, h4⟩
   exact ⟨s, (hmem s).1 (List.mem_filterMap.2 ⟨w, hw, h3⟩), h4⟩
  ·rintro ⟨s, h3, h4⟩
   obtain ⟨w, hw, h5⟩ := List.mem_filterMap.1 ((hmem s).2 h3)
   exact ⟨w, hw, s, h5, h4⟩
 have e5 : zvw g p cell = progs.flatMap fun prog => (zcx g.board side prog cell).filterMap (zre g side (zdd p cell)) := by
  unfold zvw zof zb2
  rw [hs, ← hpg, List.filterMap_flatMap]
 have hr : ∀ i, i < progs.length → zeZ g (zbm p side) cell (i : Int) = zbj zlM ((zgl g (zbm p side) cell (nth progs i)).filterMap (zhj side)) := fun i _ => by
  unfold zeZ zcU
  rw [show nth (zbm p side).at_ cell.toNat = nth p.at_ cell.toNat from rfl, ← hpg]
  rfl
 rw [e5, List.mem_flatMap, List.mem_flatMap]
 rw [← hpg]
 constructor
 ·rintro ⟨prog, hm, h⟩
  obtain ⟨i, hi, rfl⟩ := List.mem_iff_getElem.1 hm
  refine ⟨i, List.mem_range.2 hi, ?_⟩
  rw [hr i hi, zaV, zaB _ _ hi]
  exact (key _ hm o).1 h
 ·rintro ⟨i, hi, h⟩
  have hi' := List.mem_range.1 hi
  rw [hr i hi', zaV, zaB _ _ hi'] at h
  exact ⟨_, List.getElem_mem hi', (key _ (List.getElem_mem hi') o).2 h⟩
theorem zhp (a b : zag) (ha : za3 a) (hb : za3 b) : zaS Tryz.prog 62 [.agg (zad a), .agg (zad b)] (.v (.bool (decide (zbw a b = 0)))) := by
 refine pF Tryz.func62 ?_
 repeat first|refine wV fun _=>?_|simp [go_sem]
 refine zxM (zgz a b ha hb) (by simp [go_sem]) ?_
 repeat first|refine wV fun _=>?_|simp [go_sem]
attribute [go_sem ↓] zp2 zuA List.forall_mem_append
theorem zwE {x : AV} (h : Bel 0 x) : ∀ c ∈ [x], Bel 0 c := by simpa using h
theorem zcn {n : Nat} (l : List zag) : Bel n (zaP l) := of_eq_true zr3
theorem zsM : ∀ (f : Nat) (l : List zag), l.length ≤ f + 1 → l.length ≤ 68719476736 → (∀ p ∈ l, za3 p) → zaS Tryz.prog 75 [zaP l] (zaP (zb9 zbw l)) := by
 intro f
 induction f with
 | zero =>
  intro l h1 h2 h3
  rw [zin (by omega)]
  refine pF Tryz.func75 ?_
  repeat first|refine wV fun _=>?_|simp [go_sem]
  (refine zxN (fun hT => ?_) (fun hT => by first | omega | (simp at hT; omega)); clear hT)
  repeat first|refine wV fun _=>?_|simp [go_sem]
 | succ f ih =>
  intro l h1 h2 h3
  by_cases hs : l.length < 2
  ·rw [zin hs]
   refine pF Tryz.func75 ?_
   repeat first|refine wV fun _=>?_|simp [go_sem]
   (refine zxN (fun hT => ?_) (fun hT => by first | omega | (simp at hT; omega)); clear hT)
   repeat first|refine wV fun _=>?_|simp [go_sem]
  ·have hm := zop zaT (l.take (l.length / 2)) (l.drop (l.length / 2))
   rw [List.take_append_drop] at hm
   have hA := ih (l.take (l.length / 2)) (by simp; omega) (by simp; omega) (fun p hp => h3 p (List.mem_of_mem_take hp))
   have hB := ih (l.drop (l.length / 2)) (by simp; omega) (by simp; omega) (fun p hp => h3 p (List.mem_of_mem_drop hp))
   have fA : ∀ p ∈ zb9 zbw (l.take (l.length / 2)), za3 p := fun p hp => h3 p (List.mem_of_mem_take (zdO.1 hp))
   have fB : ∀ p ∈ zb9 zbw (l.drop (l.length / 2)), za3 p := fun p hp => h3 p (List.mem_of_mem_drop (zdO.1 hp))
   have lA : (zb9 zbw (l.take (l.length / 2))).length = l.length / 2 := by rw [zdN]; simp; omega
   have lB : (zb9 zbw (l.drop (l.length / 2))).length = l.length - l.length / 2 := by rw [zdN]; simp
   rw [← hm]
   generalize zb9 zbw (l.take (l.length / 2)) = xs at *
   generalize zb9 zbw (l.drop (l.length / 2)) = ys at *
   have hq : ((l.length : Int) / 2).toNat = l.length / 2 := by omega
   have eA : AV.lst 5 (List.take (l.length / 2) (l.map zad)) = zaP (l.take (l.length / 2)) := by simp [zaP, List.map_take]
   have eB : AV.lst 5 (List.take (l.length - l.length / 2) (List.drop (l.length / 2) (l.map zad))) = zaP (l.drop (l.length / 2)) := by rw [List.take_of_length_le (by simp)]; simp [zaP, List.map_drop]
   generalize hR : List.merge xs ys (leC zbw) = R
   refine pF Tryz.func75 ?_
   repeat first|refine wV fun _=>?_|simp [go_sem]
   (refine zxN (fun hF => by first | omega | (simp at hF; omega)) (fun hF => ?_); clear hF)
   repeat first|refine wV fun _=>?_|simp [go_sem, hq]
   rw [eA]
   refine zxM hA (zwE (zcn _)) ?_
   repeat first|refine wV fun _=>?_|simp [go_sem, hq]
   rw [eB]
   refine zxM hB (zwE (zcn _)) ?_
   repeat first|refine wV fun _=>?_|simp [go_sem, hq]
   refine zxL (zxP (α := Nat × Nat × List zag) (fun a => ⟨[(3, zaP xs), (4, zaP ys), (5, .sl 0 a.2.2.length 5 0 a.2.2.length), (6, .v (.int .i64 a.1)), (7, .v (.int .i64 a.2.1))], [(0, .rows true a.2.2.length 5 (a.2.2.map zad))], 1⟩)
    (fun d a => a.1 + a.2.1 + d = xs.length + ys.length ∧ a.1 ≤ xs.length ∧ a.2.1 ≤ ys.length ∧ a.2.2.length = a.1 + a.2.1 ∧ R = a.2.2 ++ List.merge (xs.drop a.1) (ys.drop a.2.1) (leC zbw)) ?_ (xs.length + ys.length) (0, 0, []) ?_) ?_ ?_
   ·rintro d ⟨i, k, out⟩ ⟨i1, i2, i3, i4, i5⟩ hrec
    simp only at i1 i2 i3 i4 i5
    repeat first|refine wV fun _=>?_|simp [go_sem]
    refine zxN (fun hj => ?_) (fun hj => ?_) <;> simp at hj
    ·by_cases hk : k < ys.length
     ·by_cases hi : i < xs.length
      ·have fa := fA _ (zaj hi)
       have fb := fB _ (zaj hk)
       rw [zaQ hi, zaQ hk, List.cons_merge_cons, ← zaQ hi, ← zaQ hk] at i5
       have hk' := Nat.not_le.2 hk
       repeat first|refine wV fun _=>?_|simp [go_sem, hk, hk', hi]
       refine zxX _ (fun _ => zgz _ _ fa fb) (by simp [go_sem]) ?_
       repeat first|refine wV fun _=>?_|simp [go_sem, hk, hk', hi]
       refine zxN (fun hc => ?_) (fun hc => ?_) <;> simp at hc
       ·rw [if_pos (by simpa [leC] using hc)] at i5
        repeat first|refine wV fun _=>?_|simp [go_sem, hk, hi]
        refine zxL (hrec (d - 1) (by omega) (i + 1, k, out ++ [nth xs i]) ⟨by simp only; omega, by simp only; omega, i3, by simp; omega, by simpa using i5⟩) ?_ (by simp)
        simp [go_sem, zah]
       ·rw [if_neg (by simpa [leC] using hc)] at i5
        repeat first|refine wV fun _=>?_|simp [go_sem, hk, hi]
        refine zxL (hrec (d - 1) (by omega) (i, k + 1, out ++ [nth ys k]) ⟨by simp only; omega, i2, by simp only; omega, by simp; omega, by simpa using i5⟩) ?_ (by simp)
        simp [go_sem, zah]
      ·rw [List.drop_eq_nil_of_le (show xs.length ≤ i by omega), List.nil_merge, zaQ hk] at i5
       have hk' := Nat.not_le.2 hk
       repeat first|refine wV fun _=>?_|simp [go_sem, hk, hk', hi]
       refine dGC.skip (.v (.int .i64 0)) ?_
       repeat first|refine wV fun _=>?_|simp [go_sem, hk, hk', hi]
       refine zxL (hrec (d - 1) (by omega) (i, k + 1, out ++ [nth ys k]) ⟨by simp only; omega, i2, by simp only; omega, by simp; omega, by simp [List.drop_eq_nil_of_le (show xs.length ≤ i by omega), i5]⟩) ?_ (by simp)
       simp [go_sem, zah]
     ·have hi : i < xs.length := by omega
      rw [List.drop_eq_nil_of_le (show ys.length ≤ k by omega), List.merge_right, zaQ hi] at i5
      have hk' := Nat.not_lt.1 hk
      repeat first|refine wV fun _=>?_|simp [go_sem, hk, hk', hi]
      refine dGC.skip (.v (.int .i64 0)) ?_
      repeat first|refine wV fun _=>?_|simp [go_sem, hk, hk', hi]
      refine zxL (hrec (d - 1) (by omega) (i + 1, k, out ++ [nth xs i]) ⟨by simp only; omega, by simp only; omega, i3, by simp; omega, by simp [List.drop_eq_nil_of_le (show ys.length ≤ k by omega), i5]⟩) ?_ (by simp)
      simp [go_sem, zah]
    ·rw [List.drop_eq_nil_of_le (show xs.length ≤ i by omega), List.drop_eq_nil_of_le (show ys.length ≤ k by omega)] at i5
     repeat first|refine wV fun _=>?_|simp [go_sem]
     rw [i5]
     exact frX
   ·simp [hR]
   ·simp [go_sem, zah]
   ·simp
def ztW (all : List zag) (i : Nat) : List zag := if i = 0 then zbe all else za5 (nth all (i - 1)) (all.drop i)
theorem zso (all : List zag) : ztW all 0 = zbe all := rfl
theorem zuV {all : List zag} {i : Nat} (h : all.length ≤ i) : ztW all i = [] := by
 unfold ztW
 split
 ·cases all with
  | nil => rfl
  | cons a l => simp at h; omega
 ·rw [List.drop_eq_nil_of_le h]; rfl
theorem zlR {all : List zag} {i : Nat} (h : i < all.length) (hk : i = 0 ∨ nth all i ≠ nth all (i - 1)) : ztW all i = nth all i :: ztW all (i + 1) := by
 unfold ztW
 rw [if_neg (show ¬ i + 1 = 0 by omega), Nat.add_sub_cancel]
 split
 ·rename_i h0
  subst h0
  cases all with
  | nil => simp at h
  | cons a l => rfl
 ·rw [zaQ h, za5, if_neg (by rcases hk with h | h; omega; exact h)]
theorem zsn {all : List zag} {i : Nat} (h : i < all.length) (hi : i ≠ 0) (hk : nth all i = nth all (i - 1)) : ztW all i = ztW all (i + 1) := by
 unfold ztW
 rw [if_neg (show ¬ i + 1 = 0 by omega), Nat.add_sub_cancel, if_neg hi, zaQ h, za5, if_pos hk, hk]
theorem zni (l : List zag) (hl : l.length ≤ 68719476736) (hf : ∀ p ∈ l, za3 p) : zaS Tryz.prog 23 [zaP l] (zaP (zbj zbw l)) := by
 have hH := zsM l.length l (by omega) hl hf
 unfold zbj
 have fA : ∀ p ∈ zb9 zbw l, za3 p := fun p hp => hf p (zdO.1 hp)
 have lA : (zb9 zbw l).length = l.length := zdN l
 generalize zb9 zbw l = all at *
 generalize hR : zbe all = R
 refine pF Tryz.func23 ?_
 repeat first|refine wV fun _=>?_|simp [go_sem]
 refine zxM hH (zwE (zcn _)) ?_
 repeat first|refine wV fun _=>?_|simp [go_sem]
 refine zxL (zxP (α := Nat × List zag) (fun a => ⟨[(3, zaP all), (4, .sl 0 a.2.length 5 0 a.2.length), (5, .v (.int .i64 a.1))], [(0, .rows true a.2.length 5 (a.2.map zad))], 1⟩)
  (fun d a => a.1 + d = all.length ∧ a.2.length ≤ a.1 ∧ R = a.2 ++ ztW all a.1) ?_ all.length (0, []) ?_) ?_ ?_
 ·rintro d ⟨i, out⟩ ⟨i1, i2, i3⟩ hrec
  simp only at i1 i2 i3
  repeat first|refine wV fun _=>?_|simp [go_sem]
  refine zxN (fun hi => ?_) (fun hi => ?_) <;> simp at hi
  ·by_cases h0 : i = 0
   ·rw [zlR hi (.inl h0)] at i3
    subst h0
    repeat first|refine wV fun _=>?_|simp [go_sem, hi]
    refine dGC.skip (.v (.bool true)) ?_
    repeat first|refine wV fun _=>?_|simp [go_sem, hi]
    refine zxL (hrec (d - 1) (by omega) (0 + 1, out ++ [nth all 0]) ⟨by simp only; omega, by simp only [List.length_append, List.length_singleton]; omega, by simpa using i3⟩) ?_ (by simp)
    simp [go_sem, zah]
   ·have fa := fA _ (zaj hi)
    have hi' : i - 1 < all.length := by omega
    have e1 : ((i : Int) - 1).toNat = i - 1 := by omega
    have fb := fA _ (zaj hi')
    repeat first|refine wV fun _=>?_|simp [go_sem, hi, h0, e1, hi']
    refine zxX _ (fun _ => zhp _ _ fa fb) (by simp [go_sem]) ?_
    repeat first|refine wV fun _=>?_|simp [go_sem, hi, h0]
    refine zxN (fun hc => ?_) (fun hc => ?_) <;> simp at hc
    ·rw [zsk] at hc
     rw [zlR hi (.inr hc)] at i3
     repeat first|refine wV fun _=>?_|simp [go_sem, hi]
     refine zxL (hrec (d - 1) (by omega) (i + 1, out ++ [nth all i]) ⟨by simp only; omega, by simp; omega, by simpa using i3⟩) ?_ (by simp)
     simp [go_sem, zah]
    ·rw [zsk] at hc
     rw [zsn hi h0 hc] at i3
     repeat first|refine wV fun _=>?_|simp [go_sem, hi]
     refine zxL (hrec (d - 1) (by omega) (i + 1, out) ⟨by simp only; omega, by simp only; omega, i3⟩) ?_ (by simp)
     simp [go_sem, zah]
  ·rw [zuV hi] at i3
   repeat first|refine wV fun _=>?_|simp [go_sem]
   rw [i3]
   exact frX
 ·simp [hR, zso]
 ·simp [go_sem, zah]
 ·simp
def outsF (side : Int) (l : List StD) (n : Nat) : List zdg := ((l.take n).filterMap (zhj side)).foldl (fun a x => zsR x a) []
@[go_sem] theorem zxK (side : Int) (l : List StD) : outsF side l 0 = [] := rfl
def zbW (g : zae) (p : zag) (k : Nat) : List zag := (List.range k).flatMap fun k => (List.range p.at_.length).filterMap fun c => zgb g p k c
def zcH (g : zae) (p : zag) (k c : Nat) : List zag := zbW g p k ++ (List.range c).filterMap fun c => zgb g p k c
theorem zjn (g : zae) (p : zag) (k : Nat) : zcH g p k p.at_.length = zbW g p (k + 1) := by simp [zcH, zbW, List.range_succ, List.flatMap_append]
theorem zhL (g : zae) (p : zag) (k : Nat) : zcH g p k 0 = zbW g p k := by simp [zcH]
theorem zdZ (g : zae) (p : zag) (k c : Nat) : zcH g p k (c + 1) = zcH g p k c ++ (zgb g p k c).toList := by
 simp only [zcH, List.range_succ, List.filterMap_append, List.append_assoc]
 cases h : zgb g p k c <;> simp [h]
theorem zgc (g : zae) (p : zag) : zbW g p g.kinds.length = zsv g p := rfl
theorem zdG {α : Type} (f : Nat → List α) (m : Nat) (hf : ∀ k, (f k).length ≤ m) : ∀ n, ((List.range n).flatMap f).length ≤ n * m
 | 0 => by simp
 | n + 1 => by
  have := zdG f m hf n
  have := hf n
  simp only [List.range_succ, List.flatMap_append, List.length_append, List.flatMap_cons, List.flatMap_nil, List.append_nil, Nat.add_mul, Nat.one_mul]
  omega
theorem zeN (g : zae) (p : zag) (k : Nat) : (zbW g p k).length ≤ k * p.at_.length :=
 zdG _ _ (fun k => Nat.le_trans (List.length_filterMap_le _ _) (by simp)) k
theorem zjo (g : zae) (p : zag) (k c : Nat) : (zcH g p k c).length ≤ k * p.at_.length + c := by
 have h1 := zeN g p k
 have h2 : ((List.range c).filterMap fun c => zgb g p k c).length ≤ c := Nat.le_trans (List.length_filterMap_le _ _) (by simp)
 simp only [zcH, List.length_append]
 omega
theorem zkA {g : zae} (hg : GOk g) {p : zag} (hp : POk g p) {k c : Nat} (hk : k < g.kinds.length) {q : zag} (h : zgb g p k c = some q) : POk g q ∧ q.side = 1 - p.side := by
 unfold zgb at h
 split at h
 ·cases h
 ·rename_i hc
  simp only [Option.some.injEq] at h
  subst h
  have k6 := hg.k6
  have hcode : zaK k p.side = 1 + 2 * k + p.side := zlO (K := g.kinds.length) ⟨by omega, by omega⟩ k6 hp.s
  have hs := hp.s
  have hh := hp.hand p.side
  have hl := hh.len
  have hv := hh.v k (by omega)
  refine ⟨POk.side (POk.withHand (hp.setAt c (by rw [hcode]; omega)) _ (hh.set k ?_ ?_)) (by omega), rfl⟩
  ·simp only [not_or] at hc; omega
  ·intro _; exact hv.2.2 (by simp only [not_or] at hc; omega)
theorem zsU {g : zae} (hg : GOk g) {p : zag} (hp : POk g p) {cell : Int} (h0 : 0 ≤ cell) (h1 : cell < g.cells) (hm : 0 ≤ (zan (nth p.at_ cell.toNat)).1) :
  (zan (nth p.at_ cell.toNat)).1.toNat < g.kinds.length := by
 have hat := hp.at (i := cell.toNat) (by omega)
 rcases zaX hat.1 hat.2 hg.k6 with ⟨_, e⟩ | ⟨_, a, b, _⟩
 ·rw [e] at hm; simp at hm
 ·omega
theorem zxv {g : zae} (hg : GOk g) {p : zag} (hp : POk g p) {cell i : Int} (hc : zcE g p cell i) : zll g.next.length g.kinds.length g.rights (zcU g p cell i) :=
 hg.pr _ (zaj (zsU hg hp hc.c0 hc.c1 hc.man)) _ (zaj (by have := hc.i0; have := hc.i1; omega))
theorem zkP {g : zae} (hg : GOk g) {p : zag} (hp : POk g p) {cell i : Int} (hc : zcE g p cell i) :
  (∀ s ∈ zgl g p cell (zcU g p cell i), zf4 g s ∧ s.p.side = p.side) ∧ (zgl g p cell (zcU g p cell i)).length ≤ 100000000 := by
 have hpg := zxv hg hp hc
 have h := zmP hg hp hc.c0 hc.c1 hc.man hpg.st _ (Nat.le_refl _)
 rw [ziq] at h
 exact ⟨h.1, Nat.le_trans h.2 (zo4 hpg.len)⟩
theorem ztp {g : zae} (hg : GOk g) {s : StD} (hs : zf4 g s) {side : Int} (hsd : side = 0 ∨ side = 1) {o : zdg} (h : zhj side s = some o) : POk g o.pos ∧ o.pos.side = 1 - side := by
 unfold zhj at h
 split at h
 ·simp only [Option.some.injEq] at h
  subst h
  have hc : zaK s.kind side = 1 + 2 * s.kind + side := zlO (K := g.kinds.length) hs.k hg.k6 hsd
  have hk := hs.k
  exact ⟨POk.side (hs.p.setAt _ (by rw [hc]; omega)) (by omega), rfl⟩
 ·cases h
theorem zvB {g : zae} (hg : GOk g) {p : zag} (hp : POk g p) {cell i : Int} (hc : zcE g p cell i) : ∀ o ∈ zeZ g p cell i, POk g o.pos ∧ o.pos.side = 1 - p.side := by
 intro o ho
 unfold zeZ at ho
 rw [zaV] at ho
 obtain ⟨s, hs, h⟩ := List.mem_filterMap.1 ho
 exact ztp hg ((zkP hg hp hc).1 s hs).1 hp.s h
theorem zmL {g : zae} (hg : GOk g) {p : zag} (hp : POk g p) {cell i : Int} (hc : zcE g p cell i) : (zeZ g p cell i).length ≤ 100000000 := by
 unfold zeZ
 have h1 := zd9 zlM ((zgl g p cell (zcU g p cell i)).filterMap (zhj p.side))
 have h2 : ((zgl g p cell (zcU g p cell i)).filterMap (zhj p.side)).length ≤ (zgl g p cell (zcU g p cell i)).length := List.length_filterMap_le _ _
 have h3 := (zkP hg hp hc).2
 omega
theorem zlL {g : zae} {p : zag} {c i : Nat} (hp : POk g p) (hc : c < p.at_.length) (hm : 0 ≤ (zan (nth p.at_ c)).1 ∧ (zan (nth p.at_ c)).2 = p.side)
  (hi : i < (nth g.kinds (zan (nth p.at_ c)).1.toNat).progs.length) : zcE g p c i := by
 have := hp.al
 exact ⟨by omega, by omega, hm.1, hm.2, by omega, by simp only [Int.toNat_natCast]; omega⟩
theorem zmw {g : zae} {p : zag} (hp : POk g p) {o : zdg} : o ∈ zeY g p ↔ ∃ c i : Nat, zcE g p c i ∧ o ∈ zeZ g p c i := by
 have hal := hp.al
 unfold zeY
 rw [List.mem_flatMap]
 constructor
 ·rintro ⟨c, hc, ho⟩
  rw [List.mem_range] at hc
  unfold zez at ho
  split at ho
  ·rename_i hm
   obtain ⟨i, hi, ho⟩ := List.mem_flatMap.1 ho
   rw [List.mem_range] at hi
   exact ⟨c, i, zlL hp hc hm hi, ho⟩
  ·simp at ho
 ·rintro ⟨c, i, hc, ho⟩
  refine ⟨c, ?_, ?_⟩
  ·have := hc.c1; rw [List.mem_range]; omega
  ·have h1 := hc.man
   have h2 := hc.side
   have h3 := hc.i1
   simp only [Int.toNat_natCast] at h1 h2 h3
   unfold zez
   rw [if_pos ⟨h1, h2⟩]
   exact List.mem_flatMap.2 ⟨i, by rw [List.mem_range]; omega, ho⟩
theorem zo0 {g : zae} (hg : GOk g) {p : zag} (hp : POk g p) : ∀ o ∈ zeY g p, POk g o.pos ∧ o.pos.side = 1 - p.side := by
 intro o ho
 obtain ⟨c, i, hc, ho⟩ := (zmw hp).1 ho
 exact zvB hg hp hc o ho
theorem zcP {α : Type} (f : Nat → List α) (m : Nat) : ∀ n, (∀ k, k < n → (f k).length ≤ m) → ((List.range n).flatMap f).length ≤ n * m
 | 0, _ => by simp
 | n + 1, hf => by
  have := zcP f m n (fun k hk => hf k (by omega))
  have := hf n (by omega)
  simp only [List.range_succ, List.flatMap_append, List.length_append, List.flatMap_cons, List.flatMap_nil, List.append_nil, Nat.add_mul, Nat.one_mul]
  omega
theorem zqJ {g : zae} (hg : GOk g) {p : zag} (hp : POk g p) {c : Nat} (hc : c < p.at_.length) : (zez g p c).length ≤ 800000000 := by
 unfold zez
 split
 ·rename_i hm
  have hal := hp.al
  have hk := zsU hg hp (cell := c) (by omega) (by omega) (by simpa using hm.1)
  simp only [Int.toNat_natCast] at hk
  have h8 := hg.pn _ (zaj hk)
  have h1 := zcP (fun (i : Nat) => zeZ g p c i) 100000000 (nth g.kinds (zan (nth p.at_ c)).1.toNat).progs.length (fun i hi => zmL hg hp (zlL hp hc hm hi))
  have h2 : (nth g.kinds (zan (nth p.at_ c)).1.toNat).progs.length * 100000000 ≤ 8 * 100000000 := Nat.mul_le_mul_right _ h8
  omega
 ·simp
theorem ztj {g : zae} (hg : GOk g) {p : zag} (hp : POk g p) {k : Nat} (hk : k ≤ p.at_.length) : ((List.range k).flatMap (zez g p)).length ≤ 7200000000 := by
 have hal := hp.al
 have c9 := hg.c9
 have h1 := zcP (zez g p) 800000000 k (fun c hc => zqJ hg hp (by omega))
 have h2 : k * 800000000 ≤ 9 * 800000000 := Nat.mul_le_mul_right _ (by omega)
 omega
theorem zmD {g : zae} (hg : GOk g) {p : zag} (hp : POk g p) : (zeY g p).length ≤ 7200000000 := ztj hg hp (Nat.le_refl _)
theorem zlU {g : zae} (hg : GOk g) {p : zag} (hp : POk g p) : ∀ q ∈ zc7 g p, POk g q ∧ q.side = 1 - p.side := by
 intro q hq
 unfold zc7 at hq
 rw [zaV] at hq
 obtain ⟨k, hk, hq⟩ := List.mem_flatMap.1 hq
 obtain ⟨c, hc, hq⟩ := List.mem_filterMap.1 hq
 exact zkA hg hp (by simpa using hk) hq
theorem zjp {g : zae} (hg : GOk g) {p : zag} (hp : POk g p) : (zc7 g p).length ≤ 54 := by
 have h1 := zd9 zbw (zsv g p)
 have h2 := zeN g p g.kinds.length
 rw [zgc] at h2
 have hal := hp.al
 have c9 := hg.c9
 have h3 : g.kinds.length * p.at_.length ≤ 6 * 9 := Nat.mul_le_mul hg.k6 (by omega)
 unfold zc7
 omega
theorem ztb {g : zae} (hg : GOk g) {p : zag} (hp : POk g p) : ∀ q ∈ zfP g p, POk g q ∧ q.side = 1 - p.side := by
 intro q hq
 unfold zfP at hq
 rcases List.mem_append.1 hq with hq | hq
 ·obtain ⟨o, ho, rfl⟩ := List.mem_map.1 hq
  exact zo0 hg hp o (List.mem_filter.1 ho).1
 ·split at hq
  ·simp at hq
  ·exact zlU hg hp q hq
theorem zqG {g : zae} (hg : GOk g) {p : zag} (hp : POk g p) : (zfP g p).length ≤ 7200000054 := by
 have h1 := zmD hg hp
 have h2 := zjp hg hp
 have h3 : ((zeY g p).filter fun o => !zi1 g p || o.took).length ≤ (zeY g p).length := List.length_filter_le _ _
 unfold zfP
 rw [List.length_append, List.length_map]
 split <;> simp <;> omega
theorem zew {g : zae} (hg : GOk g) {p : zag} (hp : POk g p) : ∀ q ∈ zaZ g p, POk g q ∧ q.side = 1 - p.side := by
 intro q hq
 unfold zaZ at hq
 split at hq
 ·simp at hq
 ·exact ztb hg hp q (zaV.1 hq)
theorem zjI {g : zae} (hg : GOk g) {p : zag} (hp : POk g p) : (zaZ g p).length ≤ 7200000054 := by
 unfold zaZ
 split
 ·simp
 ·exact Nat.le_trans (zd9 _ _) (zqG hg hp)
theorem zk6 {g : zae} (hg : GOk g) : ∀ (l : List Int) {p : zag}, POk g p → ∀ q ∈ zdf g p l, POk g q
 | [], p, hp, q, hq => by simp [zdf] at hq; subst hq; exact hp
 | k :: l, p, hp, q, hq => by
  rw [zdf] at hq
  split at hq
  ·simp at hq; subst hq; exact hp
  ·rename_i hne
   rcases List.mem_cons.1 hq with rfl | hq
   ·exact hp
   ·refine zk6 hg l ((zew hg hp) _ (zaj ?_)).1 q hq
    have hpos : 0 < (zaZ g p).length := List.length_pos_iff.2 hne
    have h1 : 0 ≤ k.emod (zaZ g p).length := Int.emod_nonneg k (show ((zaZ g p).length : Int) ≠ 0 by omega)
    have h2 : k.emod (zaZ g p).length < (zaZ g p).length := Int.emod_lt_of_pos k (show (0 : Int) < (zaZ g p).length by omega)
    omega
theorem zmY (g : zae) : ∀ (l : List Int) (p : zag), (zdf g p l).length ≤ l.length + 1
 | [], p => by simp [zdf]
 | k :: l, p => by
  rw [zdf]
  split
  ·simp
  ·have := zmY g l (nth (zaZ g p) (k.emod (zaZ g p).length).toNat)
   simp; omega
theorem zeI (p : zag) (side : Int) (l : List Int) : (p.withHand side l).at_ = p.at_ := by
 unfold zag.withHand
 split <;> rfl
theorem zvX {g : zae} (hg : GOk g) {side : Int} (hs : side = 0 ∨ side = 1) {t : TkD} (ht : POk g t.p) {x : zcN} (hx : zeg g.cells g.kinds.length g.rights x) (h : (doA g side t x).2 = true) : POk g (doA g side t x).1.p := by
 obtain ⟨op, a, b⟩ := x
 unfold zeg at hx
 simp only at hx
 rcases (show op = 3 ∨ op = 4 ∨ op = 5 ∨ op = 6 ∨ op = 7 ∨ op = 8 ∨ op = 9 ∨ op = 10 by omega) with rfl | rfl | rfl | rfl | rfl | rfl | rfl | rfl
 ·exact ht
 ·exact ht
 ·exact ht
 ·have hat := ht.at (i := a.toNat) (by omega)
  have hman := zaX hat.1 hat.2 hg.k6
  have hdo : doA g side t (6, a, b) = ziv g side t a := rfl
  rw [hdo] at h ⊢
  unfold ziv at h ⊢
  simp only at h ⊢
  split
  ·exact ht
  ·rename_i hm
   rw [if_neg hm] at h
   split
   ·rename_i hk
    rw [if_pos hk] at h
    simp only [decide_eq_true_eq] at h
    have hk1 : (zan (nth t.p.at_ a.toNat)).1.toNat < g.kinds.length := by
     rcases hman with ⟨_, e⟩ | ⟨_, e1, e2, _⟩
     ·rw [e] at hm
      simp at hm
      omega
     ·omega
    have hh := ht.hand side
    have hv := hh.v _ (show (zan (nth t.p.at_ a.toNat)).1.toNat < (t.p.hand side).length by rw [hh.len]; exact hk1)
    exact (ht.clr a).withHand side (hh.set _ ⟨by omega, h⟩ (fun _ => hk))
   ·exact ht.clr a
 ·have hdo : doA g side t (7, a, b) = zig t a b := rfl
  rw [hdo]
  unfold zig
  split
  ·exact ht
  ·have hat := ht.at (i := a.toNat) (by omega)
   exact (ht.setAt b.toNat hat).setAt a.toNat ⟨by omega, by omega⟩
 ·exact ht
 ·exact ht
 ·have h0 := ht.r0
  have h1 := ht.r1
  have hr : (2 : Int) ^ g.rights.toNat ≤ 16 := by
   have r0 := hg.r0
   have r4 := hg.r4
   rcases (show g.rights.toNat = 0 ∨ g.rights.toNat = 1 ∨ g.rights.toNat = 2 ∨ g.rights.toNat = 3 ∨ g.rights.toNat = 4 by omega) with e | e | e | e | e <;> rw [e] <;> decide
  have r4 := hg.r4
  have hn := zlx h0 (show t.p.rights < 16 by omega) (show a.toNat < 4 by omega)
  exact ⟨ht.al, ht.av, ht.h0, ht.h1, hn.1, by simp only [doA]; exact Int.lt_of_le_of_lt hn.2 h1, ht.s⟩
theorem zsr {g : zae} (hg : GOk g) {side : Int} (hs : side = 0 ∨ side = 1) : ∀ {l : List zcN} {t u : TkD}, POk g t.p → (∀ a ∈ l, zeg g.cells g.kinds.length g.rights a) → zdS g side t l = some u → POk g u.p
 | [], t, u, ht, _, h => by simp only [zdS, Option.some.injEq] at h; subst h; exact ht
 | x :: l, t, u, ht, hl, h => by
  simp only [zdS] at h
  split at h
  ·rename_i hd
   exact zsr hg hs (zvX hg hs ht (hl x (by simp)) hd) (fun a ha => hl a (by simp [ha])) h
  ·cases h
theorem zn5 {α : Type} [DecidableEq α] : ∀ {l r : List α}, l.Nodup → (∀ x ∈ l, x ∈ r) → l.length ≤ r.length
 | [], r, _, _ => by simp
 | x :: l, r, hn, hs => by
  rw [List.nodup_cons] at hn
  have hx := hs x (by simp)
  have := zn5 (l := l) (r := r.erase x) hn.2 (fun y hy => by
   have hne : y ≠ x := fun h => hn.1 (h ▸ hy)
   exact (List.mem_erase_of_ne hne).2 (hs y (by simp [hy])))
  rw [List.length_erase_of_mem hx] at this
  have := List.length_pos_of_mem hx
  simp only [List.length_cons]
  omega
abbrev Inc (l : List zag) : Prop := l.Pairwise (fun a b => zbw a b < 0)
theorem Inc.lt {l : List zag} (h : Inc l) {i j : Nat} (hij : i < j) (hj : j < l.length) : zbw (nth l i) (nth l j) < 0 := by
 rw [zaB _ _ (by omega), zaB _ _ hj]
 exact List.pairwise_iff_getElem.1 h _ _ _ _ hij
theorem Inc.sign {l : List zag} (h : Inc l) {i j : Nat} (hi : i < l.length) (hj : j < l.length) : (zbw (nth l i) (nth l j) = 0 ↔ i = j) ∧ (zbw (nth l i) (nth l j) < 0 ↔ i < j) := by
 have hs := zaT.swap (nth l i) (nth l j)
 rcases Nat.lt_trichotomy i j with h' | h' | h'
 ·have := h.lt h' hj
  exact ⟨⟨by omega, by omega⟩, ⟨by omega, by omega⟩⟩
 ·subst h'
  have := (zaT.eq (nth l i) (nth l i)).2 rfl
  exact ⟨⟨by omega, by omega⟩, ⟨by omega, by omega⟩⟩
 ·have := h.lt h' hi
  exact ⟨⟨by omega, by omega⟩, ⟨by omega, by omega⟩⟩
theorem Inc.inj {l : List zag} (h : Inc l) {i j : Nat} (hi : i < l.length) (hj : j < l.length) (e : nth l i = nth l j) : i = j :=
 (h.sign hi hj).1.1 ((zaT.eq _ _).2 e)
def zu8 (l : List zag) (p : zag) : Int := match l.findIdx? (fun q => decide (q = p)) with | some i => (i : Int) | none => -1
theorem zsI {l : List zag} (h : Inc l) {j : Nat} (hj : j < l.length) : zu8 l (nth l j) = j := by
 have : l.findIdx? (fun q => decide (q = nth l j)) = some j := by
  rw [List.findIdx?_eq_some_iff_getElem]
  refine ⟨hj, by rw [← zaB _ _ hj]; simp, fun i hi => ?_⟩
  rw [← zaB _ _ (by omega)]
  simp only [decide_eq_true_eq]
  intro e
  have := h.inj (by omega) hj e
  omega
 unfold zu8
 rw [this]
theorem zme {l : List zag} {p : zag} (h : p ∉ l) : zu8 l p = -1 := by
 have : l.findIdx? (fun q => decide (q = p)) = none := by
  rw [List.findIdx?_eq_none_iff]
  intro x hx
  simp only [decide_eq_false_iff_not]
  intro e
  exact h (e ▸ hx)
 unfold zu8
 rw [this]
theorem zkT {α : Type} [Inhabited α] {l : List α} {x : α} (h : x ∈ l) : ∃ j, j < l.length ∧ nth l j = x := by
 obtain ⟨j, hj, rfl⟩ := List.getElem_of_mem h
 exact ⟨j, hj, zaB _ _ hj⟩
theorem zva {l : List zag} (h : Inc l) {p : zag} : 0 ≤ zu8 l p ↔ p ∈ l := by
 by_cases hp : p ∈ l
 ·obtain ⟨j, hj, rfl⟩ := zkT hp
  rw [zsI h hj]
  exact ⟨fun _ => hp, fun _ => by omega⟩
 ·rw [zme hp]
  exact ⟨fun h => by omega, fun h => absurd h hp⟩
def zkR : List zag → zag → Nat
 | [], _ => 0
 | q :: l, p => if zbw q p < 0 then zkR l p + 1 else 0
theorem zs6 : ∀ (l : List zag) (p : zag), zkR l p ≤ l.length
 | [], p => by simp [zkR]
 | q :: l, p => by
  have := zs6 l p
  rw [zkR, List.length_cons]
  split <;> omega
theorem zn6 {p : zag} : ∀ {l : List zag} {h : Nat}, h < zkR l p → zbw (nth l h) p < 0
 | [], h, hl => by simp [zkR] at hl
 | q :: l, h, hl => by
  rw [zkR] at hl
  split at hl
  ·cases h with
   | zero => rw [zbi]; assumption
   | succ h => rw [zd3]; exact zn6 (by omega)
  ·omega
theorem zs5 {p : zag} : ∀ {l : List zag}, Inc l → ∀ {h : Nat}, zkR l p ≤ h → h < l.length → ¬ zbw (nth l h) p < 0
 | [], _, h, _, hl => by simp at hl
 | q :: l, hi, h, hl, hn => by
  have hi := List.pairwise_cons.1 hi
  rw [zkR] at hl
  split at hl
  ·cases h with
   | zero => omega
   | succ h => rw [zd3]; exact zs5 hi.2 (by omega) (by simpa using hn)
  ·rename_i hq
   cases h with
   | zero => rw [zbi]; exact hq
   | succ h =>
    rw [zd3]
    intro hr
    have hm : nth l h ∈ l := zaj (by simpa using hn)
    have h1 := hi.1 _ hm
    have h2 := zaT.tr q (nth l h) p (by omega) (by omega)
    have e := (zaT.eq q p).1 (by omega)
    subst e
    have := zaT.swap q (nth l h)
    omega
theorem zoU {l : List zag} (hi : Inc l) (p : zag) {h : Nat} (hn : h < l.length) : zbw (nth l h) p < 0 ↔ h < zkR l p := by
 constructor
 ·intro hc
  rcases Nat.lt_or_ge h (zkR l p) with h' | h'
  ·exact h'
  ·exact absurd hc (zs5 hi h' hn)
 ·exact zn6
theorem zoV {l : List zag} (hi : Inc l) (p : zag) : p ∈ l ↔ zkR l p < l.length ∧ nth l (zkR l p) = p := by
 constructor
 ·intro hp
  obtain ⟨j, hj, rfl⟩ := zkT hp
  have h0 := (zaT.eq (nth l j) (nth l j)).2 rfl
  have h1 : ¬ j < zkR l (nth l j) := fun h => by
   have := zn6 h
   omega
  rcases Nat.lt_or_ge (zkR l (nth l j)) j with h' | h'
  ·have h2 := hi.lt h' hj
   have h3 := (zoU hi (nth l j) (by omega)).1 h2
   omega
  ·have e : zkR l (nth l j) = j := by omega
   rw [e]
   exact ⟨hj, rfl⟩
 ·rintro ⟨h1, h2⟩
  rw [← h2]
  exact zaj h1
theorem zu9 {l : List zag} (hi : Inc l) (p : zag) : zu8 l p = if p ∈ l then (zkR l p : Int) else -1 := by
 split
 ·rename_i hp
  obtain ⟨h1, h2⟩ := (zoV hi p).1 hp
  have := zsI hi h1
  rwa [h2] at this
 ·rename_i hp
  exact zme hp
theorem zqF {g : zae} {p q : zag} : q ∈ zaZ g p ↔ zen g p < 0 ∧ ((∃ o ∈ zeY g p, (zi1 g p = true → o.took = true) ∧ o.pos = q) ∨ (zi1 g p = false ∧ q ∈ zc7 g p)) := by
 unfold zaZ
 split
 ·rename_i h
  simp only [List.not_mem_nil, false_iff, not_and]
  intro h'
  omega
 ·rename_i h
  rw [zaV]
  unfold zfP
  rw [List.mem_append, List.mem_map]
  constructor
  ·rintro (⟨o, ho, rfl⟩ | hq)
   ·obtain ⟨h1, h2⟩ := List.mem_filter.1 ho
    refine ⟨by omega, .inl ⟨o, h1, fun hm => ?_, rfl⟩⟩
    rw [hm] at h2
    simpa using h2
   ·split at hq
    ·simp at hq
    ·rename_i hm
     exact ⟨by omega, .inr ⟨by simpa using hm, hq⟩⟩
  ·rintro ⟨_, ⟨o, h1, h2, rfl⟩ | ⟨hm, hq⟩⟩
   ·refine .inl ⟨o, List.mem_filter.2 ⟨h1, ?_⟩, rfl⟩
    cases hm : zi1 g p
    ·rfl
    ·simpa using h2 hm
   ·refine .inr ?_
    rw [hm]
    exact hq
theorem ztt {g : zae} (hg : GOk g) {p : zag} (hp : POk g p) : p.rights < 16 := by
 have h4 := hg.r4
 have h0 := hg.r0
 have := hp.r1
 have e : (2 : Int) ^ g.rights.toNat ≤ 2 ^ 4 := by
  rcases (show g.rights.toNat = 0 ∨ g.rights.toNat = 1 ∨ g.rights.toNat = 2 ∨ g.rights.toNat = 3 ∨ g.rights.toNat = 4 by omega) with h | h | h | h | h <;> rw [h] <;> decide
 omega
def zs4 (a : Int) (n : Nat) : Bool := decide (ziC .i64 a (2 ^ n) = 0)
def zeH (g : zae) (side : Int) (p : zag) (x : zcN) : List zag :=
 if x.1 = 6 then (List.range g.kinds.length).flatMap fun (k : Nat) =>
  let q := { p with at_ := p.at_.set x.2.1.toNat (zaK k (1 - side)) }
  let r := if (nth g.kinds k).keep = true then q.withHand side ((q.hand side).set k (nth (q.hand side) k - 1)) else q
  if nth p.at_ x.2.1.toNat = 0 ∧ 0 ≤ nth (r.hand side) k then [r] else []
 else if x.1 = 7 then if nth p.at_ x.2.2.toNat ≠ 0 ∧ nth p.at_ x.2.1.toNat = 0 then [{ p with at_ := (p.at_.set x.2.1.toNat (nth p.at_ x.2.2.toNat)).set x.2.2.toNat 0 }] else []
 else if x.1 = 10 then if zs4 p.rights x.2.1.toNat = true then [p, { p with rights := orN .i64 p.rights (2 ^ x.2.1.toNat) }] else []
 else [p]
def zs1 : Bool := (List.range 16).all fun (a : Nat) => (List.range 4).all fun (n : Nat) => zs4 (zbH .i64 (a : Int) (2 ^ n)) n && (decide ((a : Int) = zbH .i64 (a : Int) (2 ^ n)) || decide ((a : Int) = orN .i64 (zbH .i64 (a : Int) (2 ^ n)) (2 ^ n)))
theorem zmt : zs1 = true := by kernel_rfl
theorem zs2 {a : Int} (h0 : 0 ≤ a) (h1 : a < 16) {n : Nat} (hn : n < 4) : zs4 (zbH .i64 a (2 ^ n)) n = true ∧ (a = zbH .i64 a (2 ^ n) ∨ a = orN .i64 (zbH .i64 a (2 ^ n)) (2 ^ n)) := by
 have key := zmt
 unfold zs1 at key
 have k1 := List.all_eq_true.1 key a.toNat (List.mem_range.2 (by omega))
 have k2 := List.all_eq_true.1 k1 n (List.mem_range.2 hn)
 rw [Int.toNat_of_nonneg h0] at k2
 simp only [Bool.and_eq_true, Bool.or_eq_true, decide_eq_true_eq] at k2
 exact k2
theorem zvC {l : List Int} {i : Nat} {v : Int} : (l.set i v).set i (nth l i) = l := by
 by_cases h : i < l.length
 ·rw [List.set_set, zaB _ _ h]
  exact List.set_getElem_self h
 ·rw [List.set_set, List.set_eq_of_length_le (by omega)]
theorem zpf {l : List Int} {i : Nat} : l.set i (nth l i) = l := by
 by_cases h : i < l.length
 ·rw [zaB _ _ h]
  exact List.set_getElem_self h
 ·rw [List.set_eq_of_length_le (by omega)]
theorem zx7 {p q : zag} (h1 : p.at_ = q.at_) (h2 : p.h0 = q.h0) (h3 : p.h1 = q.h1) (h4 : p.rights = q.rights) (h5 : p.side = q.side) : p = q := by
 obtain ⟨a, b, c, d, e⟩ := p
 obtain ⟨a', b', c', d', e'⟩ := q
 simp only at h1 h2 h3 h4 h5
 subst h1; subst h2; subst h3; subst h4; subst h5
 rfl
theorem zfL (p : zag) (side : Int) (l : List Int) : (p.withHand side l).hand side = l := by
 unfold zag.withHand zag.hand
 split <;> rfl
theorem zjj {c : Int} {K : Nat} (h0 : 0 ≤ c) (h1 : c ≤ 2 * K) (hK : K ≤ 6) (hc : c ≠ 0) : zaK (zan c).1 (zan c).2 = c := by
 rcases zaX h0 h1 hK with ⟨h, _⟩ | ⟨_, a, b, d, e⟩
 ·exact absurd h hc
 ·unfold zaK
  rw [if_pos ⟨⟨by omega, by omega⟩, by omega, by omega⟩]
  omega
theorem zvI {g : zae} (hg : GOk g) {side : Int} (hs : side = 0 ∨ side = 1) {t : TkD} (ht : POk g t.p) {x : zcN} (hx : zeg g.cells g.kinds.length g.rights x) (h : (doA g side t x).2 = true) : t.p ∈ zeH g side (doA g side t x).1.p x := by
 obtain ⟨op, a, b⟩ := x
 unfold zeg at hx
 simp only at hx
 rcases (show op = 3 ∨ op = 4 ∨ op = 5 ∨ op = 6 ∨ op = 7 ∨ op = 8 ∨ op = 9 ∨ op = 10 by omega) with rfl | rfl | rfl | rfl | rfl | rfl | rfl | rfl
 ·exact List.mem_singleton.2 rfl
 ·exact List.mem_singleton.2 rfl
 ·exact List.mem_singleton.2 rfl
 ·have hat := ht.at (i := a.toNat) (by omega)
  have hman := zaX hat.1 hat.2 hg.k6
  have hdo : doA g side t (6, a, b) = ziv g side t a := rfl
  rw [hdo] at h ⊢
  unfold ziv at h ⊢
  simp only at h ⊢
  split
  ·rename_i hm
   rw [if_pos hm] at h
   simp at h
  ·rename_i hm
   rw [if_neg hm] at h
   rcases hman with ⟨_, e⟩ | ⟨hne, e1, e2, e3, e4⟩
   ·rw [e] at hm
    simp at hm
    omega
   ·have hms : (zan (nth t.p.at_ a.toNat)).2 = 1 - side := by omega
    have hcode : zaK (zan (nth t.p.at_ a.toNat)).1 (1 - side) = nth t.p.at_ a.toNat := by rw [← hms]; exact zjj hat.1 hat.2 hg.k6 hne
    have hal := ht.al
    obtain ⟨k, hk⟩ : ∃ k : Nat, (zan (nth t.p.at_ a.toNat)).1 = k := ⟨(zan (nth t.p.at_ a.toNat)).1.toNat, by omega⟩
    rw [hk] at hcode e2 h ⊢
    rw [Int.toNat_natCast] at h ⊢
    have hkl : k < g.kinds.length := by omega
    have hun : ∀ p : zag, zeH g side p (6, a, b) = (List.range g.kinds.length).flatMap fun (k : Nat) =>
      let q := { p with at_ := p.at_.set a.toNat (zaK k (1 - side)) }
      let r := if (nth g.kinds k).keep = true then q.withHand side ((q.hand side).set k (nth (q.hand side) k - 1)) else q
      if nth p.at_ a.toNat = 0 ∧ 0 ≤ nth (r.hand side) k then [r] else [] := fun p => rfl
    rw [hun, List.mem_flatMap]
    refine ⟨k, List.mem_range.2 hkl, ?_⟩
    have hh := ht.hand side
    have hkh : k < (t.p.hand side).length := by rw [hh.len]; exact hkl
    have hv := hh.v k hkh
    have hz : nth (t.p.at_.set a.toNat 0) a.toNat = 0 := by
     rw [zcr]
     split
     ·rfl
     ·rename_i hn
      exact absurd ⟨rfl, by omega⟩ hn
    by_cases hkeep : (nth g.kinds k).keep = true
    ·rw [if_pos hkeep]
     simp only [if_pos hkeep]
     have e5 : ((clr t.p a).withHand side ((t.p.hand side).set k (nth (t.p.hand side) k + 1))).at_ = t.p.at_.set a.toNat 0 := zeI _ _ _
     rw [e5]
     have e6 : ∀ (P : zag) (L A : List Int), ({ (P.withHand side L) with at_ := A } : zag) = ({ P with at_ := A } : zag).withHand side L := fun P L A => by unfold zag.withHand; split <;> rfl
     have e7 : nth ((t.p.hand side).set k (nth (t.p.hand side) k + 1)) k = nth (t.p.hand side) k + 1 := by rw [zcr, if_pos ⟨rfl, hkh⟩]
     have e8 : ∀ (P : zag) (L M : List Int), (P.withHand side L).withHand side M = P.withHand side M := fun P L M => by unfold zag.withHand; split <;> rfl
     simp only [e6, zfL, e8, e7, Int.add_sub_cancel, List.set_set, hcode, zpf]
     rw [if_pos ⟨hz, hv.1⟩, List.mem_singleton]
     have e10 : ({ (clr t.p a) with at_ := t.p.at_ } : zag) = t.p := rfl
     rw [e10]
     unfold zag.withHand zag.hand
     split <;> rfl
    ·rw [if_neg hkeep]
     simp only [if_neg hkeep]
     have e5 : (clr t.p a).at_ = t.p.at_.set a.toNat 0 := rfl
     rw [e5, hcode, List.set_set, zpf]
     have e10 : ({ (clr t.p a) with at_ := t.p.at_ } : zag) = t.p := rfl
     rw [e10, if_pos ⟨hz, hv.1⟩]
     exact List.mem_singleton.2 rfl
 ·have hdo : doA g side t (7, a, b) = zig t a b := rfl
  rw [hdo] at h ⊢
  unfold zig at h ⊢
  split
  ·rename_i hm
   rw [if_pos hm] at h
   simp at h
  ·rename_i hm
   have hal := ht.al
   have hm1 : nth t.p.at_ a.toNat ≠ 0 := fun e => hm (.inl e)
   have hm2 : nth t.p.at_ b.toNat = 0 := Classical.byContradiction fun e => hm (.inr e)
   have hab : a.toNat ≠ b.toNat := fun e => hm1 (by rw [e]; exact hm2)
   have hbl : b.toNat < t.p.at_.length := by omega
   have hal2 : a.toNat < t.p.at_.length := by omega
   have hun : ∀ p : zag, zeH g side p (7, a, b) = if nth p.at_ b.toNat ≠ 0 ∧ nth p.at_ a.toNat = 0 then [{ p with at_ := (p.at_.set a.toNat (nth p.at_ b.toNat)).set b.toNat 0 }] else [] := fun p => rfl
   rw [hun]
   simp only
   have e1 : nth ((t.p.at_.set b.toNat (nth t.p.at_ a.toNat)).set a.toNat 0) b.toNat = nth t.p.at_ a.toNat := by
    rw [zcr, if_neg (fun h => hab h.1), zcr, if_pos ⟨rfl, hbl⟩]
   have e2 : nth ((t.p.at_.set b.toNat (nth t.p.at_ a.toNat)).set a.toNat 0) a.toNat = 0 := by
    rw [zcr, if_pos ⟨rfl, by rw [List.length_set]; exact hal2⟩]
   rw [e1, e2, if_pos ⟨hm1, rfl⟩, List.mem_singleton]
   refine zx7 ?_ rfl rfl rfl rfl
   refine List.ext_getElem (by simp) fun j h1 h2 => ?_
   simp only [List.getElem_set]
   by_cases ej : b.toNat = j
   ·subst ej
    rw [if_pos rfl, ← zaB _ _ h1]; exact hm2
   ·rw [if_neg ej]
    by_cases ej2 : a.toNat = j
    ·subst ej2
     rw [if_pos rfl, zaB _ _ h1]
    ·rw [if_neg ej2, if_neg ej2, if_neg ej]
 ·exact List.mem_singleton.2 rfl
 ·exact List.mem_singleton.2 rfl
 ·have h0 := ht.r0
  have h1 := ztt hg ht
  have r4 := hg.r4
  obtain ⟨k1, k2⟩ := zs2 h0 h1 (n := a.toNat) (by omega)
  have hun : ∀ p : zag, zeH g side p (10, a, b) = if zs4 p.rights a.toNat = true then [p, { p with rights := orN .i64 p.rights (2 ^ a.toNat) }] else [] := fun p => rfl
  have hdo : (doA g side t (10, a, b)).1.p = { t.p with rights := zbH .i64 t.p.rights (2 ^ a.toNat) } := rfl
  rw [hdo, hun]
  simp only
  rw [if_pos k1]
  rcases k2 with k2 | k2
  ·exact List.mem_cons.2 (.inl (zx7 rfl rfl rfl k2 rfl))
  ·exact List.mem_cons.2 (.inr (List.mem_singleton.2 (zx7 rfl rfl rfl k2 rfl)))
def zcD (g : zae) (side : Int) : zag → List zcN → List zag
 | p, [] => [p]
 | p, x :: l => (zeH g side p x).flatMap fun q => zcD g side q l
theorem zgV (g : zae) (side : Int) : ∀ (l m : List zcN) (p : zag), zcD g side p (l ++ m) = (zcD g side p l).flatMap fun q => zcD g side q m
 | [], m, p => by simp [zcD]
 | x :: l, m, p => by
  rw [List.cons_append, zcD, zcD, List.flatMap_assoc]
  congr 1
  funext q
  exact zgV g side l m q
theorem ztN (g : zae) (side : Int) (p : zag) (x : zcN) : zcD g side p [x] = zeH g side p x := by simp [zcD]
theorem zmX {g : zae} (hg : GOk g) {side : Int} (hs : side = 0 ∨ side = 1) : ∀ {l : List zcN} {t u : TkD}, POk g t.p → (∀ a ∈ l, zeg g.cells g.kinds.length g.rights a) → zdS g side t l = some u → t.p ∈ zcD g side u.p l.reverse
 | [], t, u, ht, _, h => by
  simp only [zdS, Option.some.injEq] at h
  subst h
  exact List.mem_singleton.2 rfl
 | x :: l, t, u, ht, hl, h => by
  simp only [zdS] at h
  split at h
  ·rename_i hd
   have h1 := zvX hg hs ht (hl x (by simp)) hd
   have ih := zmX hg hs h1 (fun a ha => hl a (by simp [ha])) h
   rw [List.reverse_cons, zgV, List.mem_flatMap]
   exact ⟨_, ih, by rw [ztN]; exact zvI hg hs ht (hl x (by simp)) hd⟩
  ·cases h
theorem zuY (g : zae) (side : Int) (t : TkD) (x : zcN) : (doA g side t x).1.p.side = t.p.side := by
 have hw : ∀ (P : zag) (L : List Int), (P.withHand side L).side = P.side := fun P L => by unfold zag.withHand; split <;> rfl
 unfold doA
 repeat' split
 all_goals first | rfl | skip
 ·unfold ziv
  simp only
  repeat' split
  ·rfl
  ·rw [hw]; rfl
  ·rfl
 ·unfold zig
  split <;> rfl
theorem zlT (g : zae) (side : Int) : ∀ {l : List zcN} {t u : TkD}, zdS g side t l = some u → u.p.side = t.p.side
 | [], t, u, h => by simp only [zdS, Option.some.injEq] at h; subst h; rfl
 | x :: l, t, u, h => by
  simp only [zdS] at h
  split at h
  ·rw [zlT g side h, zuY]
  ·cases h
theorem zuX {g : zae} {side : Int} {t : TkD} {x : zcN} (hx : zeg g.cells g.kinds.length g.rights x) (h : 0 ≤ t.kind ∧ t.kind < g.kinds.length) : 0 ≤ (doA g side t x).1.kind ∧ (doA g side t x).1.kind < g.kinds.length := by
 obtain ⟨op, a, b⟩ := x
 unfold zeg at hx
 simp only at hx
 rcases (show op = 3 ∨ op = 4 ∨ op = 5 ∨ op = 6 ∨ op = 7 ∨ op = 8 ∨ op = 9 ∨ op = 10 by omega) with rfl | rfl | rfl | rfl | rfl | rfl | rfl | rfl
 ·exact h
 ·exact h
 ·exact h
 ·show 0 ≤ (ziv g side t a).1.kind ∧ (ziv g side t a).1.kind < g.kinds.length
  unfold ziv
  simp only
  repeat' split
  all_goals exact h
 ·show 0 ≤ (zig t a b).1.kind ∧ (zig t a b).1.kind < g.kinds.length
  unfold zig
  split <;> exact h
 ·show 0 ≤ a ∧ a < g.kinds.length
  omega
 ·exact h
 ·exact h
theorem zlS {g : zae} {side : Int} : ∀ {l : List zcN} {t u : TkD}, (∀ a ∈ l, zeg g.cells g.kinds.length g.rights a) → zdS g side t l = some u → 0 ≤ t.kind ∧ t.kind < g.kinds.length → 0 ≤ u.kind ∧ u.kind < g.kinds.length
 | [], t, u, _, h, hk => by simp only [zdS, Option.some.injEq] at h; subst h; exact hk
 | x :: l, t, u, hl, h, hk => by
  simp only [zdS] at h
  split at h
  ·exact zlS (fun a ha => hl a (by simp [ha])) h (zuX (hl x (by simp)) hk)
  ·cases h
theorem zs8 {g : zae} (hg : GOk g) {p : zag} (hp : POk g p) {o : zdg} : o ∈ zeY g p ↔ ∃ c : Nat, (c : Int) < g.cells ∧ nth p.at_ c ≠ 0 ∧ (zan (nth p.at_ c)).2 = p.side ∧ o ∈ runO g p c := by
 have hal := hp.al
 rw [zmw hp]
 constructor
 ·rintro ⟨c, i, hc, ho⟩
  have c1 := hc.c1
  have hman := hc.man
  have hside := hc.side
  have hi1 := hc.i1
  simp only [Int.toNat_natCast] at hman hside hi1
  refine ⟨c, c1, fun h0 => ?_, hside, ?_⟩
  ·rw [h0] at hman; exact absurd hman (by decide)
  rw [zmK hg hp (by omega) c1]
  unfold zo7
  simp only [Int.toNat_natCast]
  rw [if_neg (by omega), zaV, hside]
  exact List.mem_flatMap.2 ⟨i, List.mem_range.2 (by omega), ho⟩
 ·rintro ⟨c, c1, h0, hside, ho⟩
  rw [zmK hg hp (by omega) c1] at ho
  unfold zo7 at ho
  simp only [Int.toNat_natCast] at ho
  split at ho
  ·simp at ho
  rename_i hm
  rw [zaV, hside] at ho
  obtain ⟨i, hi, ho⟩ := List.mem_flatMap.1 ho
  exact ⟨c, i, ⟨by omega, c1, by simp only [Int.toNat_natCast]; omega, by simp only [Int.toNat_natCast]; exact hside, by omega, by simp only [Int.toNat_natCast]; exact_mod_cast List.mem_range.1 hi⟩, ho⟩
def zgZ (g : zae) (side : Int) (p : zag) (k c : Nat) (w : za1) : List zag :=
 if (zan (nth p.at_ w.to.toNat)).2 = side then
  ((zcD g side { p with at_ := p.at_.set w.to.toNat 0, side := side } w.acts.reverse).filter fun q => decide (nth q.at_ c = 0)).map fun q => { q with at_ := q.at_.set c (zaK k side) }
 else []
def zgY (g : zae) (side : Int) (p : zag) : List zag :=
 (List.range g.kinds.length).flatMap fun (k : Nat) => (List.range g.cells.toNat).flatMap fun (c : Nat) => (zb2 g.board side (nth g.kinds k).progs c).flatMap (zgZ g side p k c)
def zmo (side : Int) (p : zag) (c : Nat) : zag :=
 let k := (zan (nth p.at_ c)).1.toNat
 let q := { p with at_ := p.at_.set c 0, side := side }
 q.withHand side ((q.hand side).set k (nth (q.hand side) k + 1))
def zhD (g : zae) (side : Int) (p : zag) : List zag :=
 ((List.range p.at_.length).filter fun c => decide ((zan (nth p.at_ c)).2 = side) && (nth g.kinds (zan (nth p.at_ c)).1.toNat).keep).map (zmo side p)
def zcG (g : zae) (p : zag) : List zag := zgY g (1 - p.side) p ++ zhD g (1 - p.side) p
def candE (side : Int) (p : zag) : List zag := ((List.range p.at_.length).filter fun c => decide ((zan (nth p.at_ c)).2 = side)).map (zmo side p)
def candsR (g : zae) (p : zag) : List zag := zgY g (1 - p.side) p ++ candE (1 - p.side) p
theorem zuL {g : zae} (hg : GOk g) {q : zag} (hq : POk g q) {o : zdg} (ho : o ∈ zeY g q) : q ∈ zgY g q.side o.pos := by
 obtain ⟨c, c1, h0, hside, ho⟩ := (zs8 hg hq).1 ho
 have hal := hq.al
 have hat := hq.at (i := c) (by omega)
 unfold runO at ho
 simp only [Int.toNat_natCast] at ho
 rw [if_neg h0, zaV] at ho
 unfold zvw at ho
 obtain ⟨w, hw, hwo⟩ := List.mem_filterMap.1 ho
 simp only [Int.toNat_natCast] at hwo
 rw [hside] at hwo
 unfold zof at hw
 simp only [Int.toNat_natCast] at hw
 rw [hside] at hw
 rcases zaX hat.1 hat.2 hg.k6 with ⟨hz, _⟩ | ⟨_, e1, e2, e3, _⟩
 ·exact absurd hz h0
 have hcode := zjj hat.1 hat.2 hg.k6 h0
 rw [hside] at hcode
 obtain ⟨k, hk⟩ : ∃ k : Nat, (zan (nth q.at_ c)).1 = k := ⟨(zan (nth q.at_ c)).1.toNat, by omega⟩
 rw [hk] at e2 hcode hw
 rw [Int.toNat_natCast] at hw
 have hkl : k < g.kinds.length := by omega
 have hpo := zhg hg (side := q.side) (zaj hkl) (cell := (c : Int)) ⟨by omega, c1⟩ w hw
 unfold zre stW at hwo
 cases hd : zdS g q.side (zdd q c) w.acts with
 | none => rw [hd] at hwo; simp at hwo
 | some u =>
  rw [hd] at hwo
  simp only [Option.map_some, Option.bind_some] at hwo
  have hst : POk g (zdd q c).p := hq.clr c
  have hu := zsr hg hq.s hst hpo.acts hd
  have hus := zlT g q.side hd
  have hun := zmX hg hq.s hst hpo.acts hd
  have hts : (zdd q c).p.side = q.side := rfl
  rw [hts] at hus
  have hual := hu.al
  have hto := hpo.to
  unfold zhj at hwo
  split at hwo
  ·rename_i hz
   simp only [stT] at hz hwo
   simp only [Option.some.injEq] at hwo
   subst hwo
   simp only
   unfold zgY
   refine List.mem_flatMap.2 ⟨k, List.mem_range.2 hkl, List.mem_flatMap.2 ⟨c, List.mem_range.2 (by omega), List.mem_flatMap.2 ⟨w, hw, ?_⟩⟩⟩
   unfold zgZ
   have hn : nth (u.p.at_.set w.to.toNat (zaK u.kind q.side)) w.to.toNat = zaK u.kind q.side := by rw [zcr, if_pos ⟨rfl, by omega⟩]
   have hkind : 0 ≤ u.kind ∧ u.kind < g.kinds.length := zlS hpo.acts hd (by show 0 ≤ (zan (nth q.at_ (c : Int).toNat)).1 ∧ (zan (nth q.at_ (c : Int).toNat)).1 < g.kinds.length; rw [Int.toNat_natCast, hk]; omega)
   have hk6 := hg.k6
   have hms : (zan (zaK u.kind q.side)).2 = q.side := by
    rcases hq.s with h | h <;> rw [h] <;> unfold zaK <;> rw [if_pos ⟨⟨by omega, by omega⟩, by omega, by omega⟩] <;> unfold zan <;> rw [if_pos (by omega)] <;> simp only <;> rw [Int.tmod_eq_emod_of_nonneg (by omega)] <;> omega
   rw [hn, if_pos hms]
   have hlift : ({ u.p with at_ := (u.p.at_.set w.to.toNat (zaK u.kind q.side)).set w.to.toNat 0, side := q.side } : zag) = u.p := by
    refine zx7 ?_ rfl rfl rfl hus.symm
    simp only
    rw [List.set_set]
    conv => lhs; rw [← hz]
    rw [zaB _ _ (by omega)]
    exact List.set_getElem_self _
   have hl2 : ({ ({ u.p with at_ := u.p.at_.set w.to.toNat (zaK u.kind q.side), side := 1 - q.side } : zag) with at_ := (u.p.at_.set w.to.toNat (zaK u.kind q.side)).set w.to.toNat 0, side := q.side } : zag) = u.p := hlift
   refine List.mem_map.2 ⟨(zdd q c).p, List.mem_filter.2 ⟨?_, ?_⟩, ?_⟩
   ·have := hun
    rw [← hlift] at this
    exact this
   ·rw [decide_eq_true_eq]
    show nth (q.at_.set (c : Int).toNat 0) c = 0
    rw [Int.toNat_natCast, zcr, if_pos ⟨rfl, by omega⟩]
   ·refine zx7 ?_ rfl rfl rfl rfl
    show (q.at_.set (c : Int).toNat 0).set c (zaK k q.side) = q.at_
    rw [Int.toNat_natCast, hcode, zvC]
  ·cases hwo
theorem zsd {g : zae} (hg : GOk g) {q : zag} (hq : POk g q) {p : zag} (hp : p ∈ zc7 g q) : q ∈ zhD g q.side p := by
 unfold zc7 at hp
 rw [zaV] at hp
 obtain ⟨k, hk, hp⟩ := List.mem_flatMap.1 hp
 obtain ⟨c, hc, hp⟩ := List.mem_filterMap.1 hp
 have hk := List.mem_range.1 hk
 have hc := List.mem_range.1 hc
 have hh := hq.hand q.side
 have hkh : k < (q.hand q.side).length := by rw [hh.len]; exact hk
 have hv := hh.v k hkh
 have hk6 := hg.k6
 unfold zgb at hp
 split at hp
 ·cases hp
 rename_i hn
 have hn1 : nth (q.hand q.side) k ≠ 0 := fun h => hn (.inl h)
 have hn2 : nth q.at_ c = 0 := Classical.byContradiction fun h => hn (.inr h)
 simp only [Option.some.injEq] at hp
 have hkeep := hv.2.2 (by omega)
 have hpa : p.at_ = q.at_.set c (zaK k q.side) := by rw [← hp]; exact zeI _ _ _
 have hpn : nth p.at_ c = zaK k q.side := by rw [hpa, zcr, if_pos ⟨rfl, hc⟩]
 have hm : zan (zaK k q.side) = ((k : Int), q.side) := by
  rcases hq.s with h | h <;> rw [h] <;> unfold zaK <;> rw [if_pos ⟨⟨by omega, by omega⟩, by omega, by omega⟩] <;> unfold zan <;> rw [if_pos (by omega)] <;> refine Prod.ext ?_ ?_ <;> simp only
  ·rw [Int.tdiv_eq_ediv_of_nonneg (by omega)]; omega
  ·rw [Int.tmod_eq_emod_of_nonneg (by omega)]; omega
  ·rw [Int.tdiv_eq_ediv_of_nonneg (by omega)]; omega
  ·rw [Int.tmod_eq_emod_of_nonneg (by omega)]; omega
 unfold zhD
 refine List.mem_map.2 ⟨c, List.mem_filter.2 ⟨List.mem_range.2 (by rw [hpa, List.length_set]; exact hc), ?_⟩, ?_⟩
 ·rw [hpn, hm]
  simp [hkeep]
 ·unfold zmo
  rw [hpn, hm]
  simp only [Int.toNat_natCast]
  rw [← hp]
  have e1 : ∀ (P : zag) (L : List Int) (s : Int), ({ (P.withHand q.side L) with side := s } : zag).hand q.side = L := fun P L s => by unfold zag.withHand zag.hand; split <;> rfl
  have e2 : ∀ (P : zag) (L : List Int), (P.withHand q.side L).at_ = P.at_ := fun P L => zeI _ _ _
  have e3 : ∀ (P : zag) (L A M : List Int) (s s2 : Int), ({ ({ (P.withHand q.side L) with side := s } : zag) with at_ := A, side := s2 } : zag).withHand q.side M = ({ P with at_ := A, side := s2 } : zag).withHand q.side M := fun P L A M s s2 => by unfold zag.withHand; split <;> rfl
  have e4 : ∀ (P : zag) (L A : List Int) (s s2 : Int), ({ ({ (P.withHand q.side L) with side := s } : zag) with at_ := A, side := s2 } : zag).hand q.side = L := fun P L A s s2 => by unfold zag.withHand zag.hand; split <;> rfl
  rw [e4, e3]
  have e5 : nth ((q.hand q.side).set k (nth (q.hand q.side) k - 1)) k = nth (q.hand q.side) k - 1 := by rw [zcr, if_pos ⟨rfl, hkh⟩]
  have e6 : ((q.hand q.side).set k (nth (q.hand q.side) k - 1)).set k (nth (q.hand q.side) k - 1 + 1) = q.hand q.side := by
   rw [List.set_set, Int.sub_add_cancel, zaB _ _ hkh]
   exact List.set_getElem_self hkh
  rw [e5, e6]
  simp only [e2]
  have e7 : (q.at_.set c (zaK k q.side)).set c 0 = q.at_ := by
   rw [List.set_set]
   conv => lhs; rw [← hn2]
   rw [zaB _ _ hc]
   exact List.set_getElem_self _
  rw [e7]
  unfold zag.withHand zag.hand
  split <;> rfl
theorem zse {g : zae} (hg : GOk g) {q p : zag} (hq : POk g q) (hp : p ∈ zaZ g q) : q ∈ zgY g (1 - p.side) p ∨ q ∈ zhD g (1 - p.side) p := by
 have hps : 1 - p.side = q.side := by
  have := (zew hg hq p hp).2
  omega
 rw [hps]
 rcases (zqF.1 hp).2 with ⟨o, ho, _, rfl⟩ | ⟨_, hd⟩
 ·exact .inl (zuL hg hq ho)
 ·exact .inr (zsd hg hq hd)
def zap (g : zae) (p : zag) : List zag := (zbj zbw (zcG g p)).filter fun q => zeA g q && decide (p ∈ zaZ g q)
theorem zfl {g : zae} (hg : GOk g) {p q : zag} : q ∈ zap g p ↔ POk g q ∧ p ∈ zaZ g q := by
 unfold zap
 rw [List.mem_filter, zaV, Bool.and_eq_true, decide_eq_true_eq, zkY]
 constructor
 ·rintro ⟨_, h⟩; exact h
 ·rintro ⟨h1, h2⟩
  refine ⟨?_, h1, h2⟩
  unfold zcG
  exact List.mem_append.2 (zse hg h1 h2)
theorem zdU (g : zae) (p : zag) : Inc (zap g p) := List.Pairwise.filter _ (zeS zaT _)
def zdA (g : zae) (p : zag) : List zag × Int := if 4000 < (zap g p).length then ([], 2) else (zap g p, 0)
def zbO (g : zae) : Nat → List zag → List zag × Int
 | 0, l => (l, 0)
 | n + 1, l => if l.all (fun q => decide ((zap g q).length ≤ 4000)) = true then
   if 4000 < (zbj zbw (l.flatMap (zap g))).length then ([], 2) else zbO g n (zbj zbw (l.flatMap (zap g)))
  else ([], 2)
def zdB (g : zae) (p : zag) (n : Int) : List zag × Int := if n < 0 ∨ 6 < n then ([], 1) else zbO g n.toNat [p]
theorem zc1 {g : zae} (hg : GOk g) {p q : zag} (h : q ∈ zap g p) : POk g q := ((zfl hg).1 h).1
theorem zhG (g : zae) (p : zag) : zdB g p 0 = ([p], 0) := rfl
theorem zgt {l : List zag} (h : Inc l) : zbj zbw l = l := zeG zaT h fun _ => Iff.rfl
theorem zp9 (g : zae) (p : zag) : zdB g p 1 = zdA g p := by
 have e : zdB g p 1 = zbO g 1 [p] := rfl
 rw [e, zbO]
 have e2 : [p].flatMap (zap g) = zap g p := by simp
 rw [e2, zgt (zdU g p)]
 unfold zdA
 by_cases h : 4000 < (zap g p).length
 ·rw [if_neg (by simp; omega), if_pos h]
 ·rw [if_pos (by simp; omega), if_neg h, if_neg h]
  rfl
structure ziI (g : zae) : Prop where
 ok : GOk g
 c4 : g.cells ≤ 4
 k1 : g.kinds.length = 1
 keep : ∀ k ∈ g.kinds, k.keep = false
 r1 : g.rights ≤ 1
def zaI : Nat → List (List Int)
 | 0 => [[]]
 | c + 1 => (zaI c).flatMap fun l => [l ++ [0], l ++ [1], l ++ [2]]
theorem zd2 : ∀ {c : Nat} {l : List Int}, l ∈ zaI c ↔ l.length = c ∧ ∀ x ∈ l, 0 ≤ x ∧ x ≤ 2
 | 0, l => by
  simp only [zaI, List.mem_singleton]
  constructor
  ·rintro rfl; simp
  ·rintro ⟨h, _⟩; exact List.length_eq_zero_iff.1 h
 | c + 1, l => by
  simp only [zaI, List.mem_flatMap]
  constructor
  ·rintro ⟨m, hm, h⟩
   obtain ⟨h1, h2⟩ := zd2.1 hm
   simp only [List.mem_cons, List.not_mem_nil, or_false] at h
   rcases h with rfl | rfl | rfl <;> refine ⟨by simp [h1], fun x hx => ?_⟩ <;> rcases List.mem_append.1 hx with hx | hx <;> first | exact h2 x hx | (simp only [List.mem_singleton] at hx; omega)
  ·rintro ⟨h1, h2⟩
   have hne : l ≠ [] := by intro h; rw [h] at h1; simp at h1
   have e := (List.dropLast_concat_getLast hne).symm
   refine ⟨l.dropLast, zd2.2 ⟨by simp [h1], fun x hx => h2 x (List.dropLast_subset l hx)⟩, ?_⟩
   have hl := h2 _ (List.getLast_mem hne)
   simp only [List.mem_cons, List.not_mem_nil, or_false]
   rcases (show l.getLast hne = 0 ∨ l.getLast hne = 1 ∨ l.getLast hne = 2 by omega) with h | h | h <;> rw [h] at e
   ·exact .inl e
   ·exact .inr (.inl e)
   ·exact .inr (.inr e)
theorem zdV : ∀ c : Nat, (zaI c).length = 3 ^ c
 | 0 => rfl
 | c + 1 => by
  have ih := zdV c
  unfold zaI
  rw [List.length_flatMap]
  have : ((zaI c).map fun l : List Int => ([l ++ [0], l ++ [1], l ++ [2]] : List (List Int)).length) = (zaI c).map fun _ => 3 := rfl
  rw [this, List.map_const', List.sum_replicate_nat, ih, Nat.pow_succ]
def ze9 (g : zae) (l : List Int) : List zag := (List.range (2 ^ g.rights.toNat)).flatMap fun (r : Nat) => [(⟨l, [0], [0], (r : Int), 0⟩ : zag), ⟨l, [0], [0], (r : Int), 1⟩]
def zb5 (g : zae) : List zag := (zaI g.cells.toNat).flatMap (ze9 g)
theorem zeP {g : zae} (h : ziI g) {q : zag} : q ∈ zb5 g ↔ POk g q := by
 have hg := h.ok
 have c1 := hg.c1
 have hk := h.k1
 have r0 := hg.r0
 have r1 := h.r1
 have hpw : ((2 ^ g.rights.toNat : Nat) : Int) = (2 : Int) ^ g.rights.toNat := by
  rcases (show g.rights.toNat = 0 ∨ g.rights.toNat = 1 by omega) with e | e <;> rw [e] <;> rfl
 have hz : zeb g [0] := ⟨by rw [hk]; rfl, fun i hi => by
  obtain rfl : i = 0 := by simpa using hi
  exact ⟨by decide, by decide, by intro h0; exact absurd h0 (by decide)⟩⟩
 have hz2 : ∀ l, zeb g l → l = [0] := fun l hl => by
  have h1 := hl.len
  rw [hk] at h1
  obtain ⟨x, rfl⟩ := List.length_eq_one_iff.1 h1
  have h2 := hl.v 0 (by simp)
  have h3 := h.keep _ (zaj (show 0 < g.kinds.length by omega))
  have h4 : nth [x] 0 = x := rfl
  rw [h4] at h2
  by_cases hx : 0 < x
  ·have := h2.2.2 hx
   rw [h3] at this
   cases this
  ·have : x = 0 := by omega
   rw [this]
 unfold zb5 ze9
 simp only [List.mem_flatMap, zd2, List.mem_range, List.mem_cons, List.not_mem_nil, or_false]
 constructor
 ·rintro ⟨l, ⟨h1, h2⟩, r, hr, h3⟩
  have hr2 : (r : Int) < 2 ^ g.rights.toNat := by rw [← hpw]; exact_mod_cast hr
  rcases h3 with rfl | rfl
  ·exact ⟨by show ((l.length : Nat) : Int) = g.cells; omega, fun c hc => by have := h2 c hc; rw [hk]; omega, hz, hz, by simp, hr2, .inl rfl⟩
  ·exact ⟨by show ((l.length : Nat) : Int) = g.cells; omega, fun c hc => by have := h2 c hc; rw [hk]; omega, hz, hz, by simp, hr2, .inr rfl⟩
 ·intro hq
  have hal := hq.al
  have q0 := hq.r0
  have q1 := hq.r1
  refine ⟨q.at_, ⟨by omega, fun c hc => by have := hq.av c hc; rw [hk] at this; omega⟩, q.rights.toNat, by omega, ?_⟩
  have e1 := hz2 _ hq.h0
  have e2 := hz2 _ hq.h1
  obtain ⟨a, b, c, r, s⟩ := q
  simp only at e1 e2 q0
  subst e1
  subst e2
  rw [Int.toNat_of_nonneg q0]
  rcases hq.s with e | e <;> simp only at e <;> subst e
  ·exact .inl rfl
  ·exact .inr rfl
theorem zgg {g : zae} (h : ziI g) : (zb5 g).length ≤ 324 := by
 have c4 := h.c4
 have r1 := h.r1
 have r0 := h.ok.r0
 have hs : ∀ l, (ze9 g l).length ≤ 4 := fun l => by
  unfold ze9
  rw [List.length_flatMap]
  have e : ((List.range (2 ^ g.rights.toNat)).map fun (r : Nat) => ([(⟨l, [0], [0], (r : Int), 0⟩ : zag), ⟨l, [0], [0], (r : Int), 1⟩] : List zag).length) = (List.range (2 ^ g.rights.toNat)).map fun _ => 2 := rfl
  rw [e, List.map_const', List.sum_replicate_nat, List.length_range]
  rcases (show g.rights.toNat = 0 ∨ g.rights.toNat = 1 by omega) with e | e <;> rw [e] <;> decide
 have hb := zdV g.cells.toNat
 have h81 : (3 : Nat) ^ g.cells.toNat ≤ 81 := by
  have : (3 : Nat) ^ g.cells.toNat ≤ 3 ^ 4 := Nat.pow_le_pow_right (by decide) (by omega)
  exact this
 unfold zb5
 generalize zaI g.cells.toNat = L at *
 have key : ∀ L : List (List Int), (L.flatMap (ze9 g)).length ≤ 4 * L.length := fun L => by
  induction L with
  | nil => simp
  | cons l L ih =>
   rw [List.flatMap_cons, List.length_append, List.length_cons]
   have := hs l
   omega
 have := key L
 omega
theorem zde {g : zae} (h : ziI g) (p : zag) : (zap g p).length ≤ 324 :=
 Nat.le_trans (zn5 (List.Pairwise.imp (fun {a b} hab e => by have := (zaT.eq a b).2 e; omega) (zdU g p)) fun q hq => (zeP h).2 (zc1 h.ok hq)) (zgg h)
def chL (g : zae) : Nat → List zag → List zag
 | 0, l => l
 | n + 1, l => chL g n (zbj zbw (l.flatMap (zap g)))
theorem zmU {g : zae} (h : ziI g) (l : List zag) : (zbj zbw (l.flatMap (zap g))).length ≤ 324 := by
 refine Nat.le_trans (zn5 (List.Pairwise.imp (fun {a b} hab e => by have := (zaT.eq a b).2 e; omega) (zeS zaT _)) fun q hq => ?_) (zgg h)
 rw [zaV, List.mem_flatMap] at hq
 obtain ⟨r, _, hq⟩ := hq
 exact (zeP h).2 (zc1 h.ok hq)
theorem zgv {g : zae} (h : ziI g) : ∀ (n : Nat) (l : List zag), zbO g n l = (chL g n l, 0)
 | 0, l => rfl
 | n + 1, l => by
  have hf := zmU h l
  rw [zbO, if_pos (List.all_eq_true.2 fun q _ => decide_eq_true (by have := zde h q; omega)), if_neg (by omega), zgv h n]
  rfl
theorem zoM {g : zae} (hg : GOk g) : ∀ (n : Nat) {l : List zag} {q r : zag}, POk g q → r ∈ zaZ g q → r ∈ chL g n l → q ∈ chL g (n + 1) l
 | 0, l, q, r, hq, hm, hr => by
  rw [chL, chL, zaV, List.mem_flatMap]
  exact ⟨r, hr, (zfl hg).2 ⟨hq, hm⟩⟩
 | n + 1, l, q, r, hq, hm, hr => by
  rw [chL] at hr ⊢
  exact zoM hg n hq hm hr
def orOne : Bool := (List.range 5).all fun (r : Nat) => (List.range (2 ^ r)).all fun (a : Nat) => (List.range r).all fun (n : Nat) => decide (0 ≤ orN .i64 (a : Int) (2 ^ n) ∧ orN .i64 (a : Int) (2 ^ n) < 2 ^ r)
theorem zqI : orOne = true := by kernel_rfl
theorem or_in {r : Nat} (hr : r ≤ 4) {a : Int} (h0 : 0 ≤ a) (h1 : a < 2 ^ r) {n : Nat} (hn : n < r) : 0 ≤ orN .i64 a (2 ^ n) ∧ orN .i64 a (2 ^ n) < 2 ^ r := by
 have key := zqI
 unfold orOne at key
 have hp : (2 : Int) ^ r = ((2 ^ r : Nat) : Int) := by
  rcases (show r = 0 ∨ r = 1 ∨ r = 2 ∨ r = 3 ∨ r = 4 by omega) with h | h | h | h | h <;> subst h <;> decide
 have k1 := List.all_eq_true.1 key r (List.mem_range.2 (by omega))
 have k2 := List.all_eq_true.1 k1 a.toNat (List.mem_range.2 (by omega))
 have k3 := of_decide_eq_true (List.all_eq_true.1 k2 n (List.mem_range.2 hn))
 rwa [Int.toNat_of_nonneg h0] at k3
theorem zgF {g : zae} (hg : GOk g) {k : Nat} (hk : k < g.kinds.length) {s : Int} (hs : s = 0 ∨ s = 1) : 1 ≤ zaK k s ∧ zaK k s ≤ 2 * g.kinds.length := by
 have := hg.k6
 unfold zaK
 rw [if_pos ⟨⟨by omega, by omega⟩, by omega, by omega⟩]
 omega
def tkP (g : zae) (side : Int) (p : zag) (a k : Nat) : zag :=
 if (nth g.kinds k).keep = true then ({ p with at_ := p.at_.set a (zaK k (1 - side)) } : zag).withHand side ((p.hand side).set k (nth (p.hand side) k - 1)) else { p with at_ := p.at_.set a (zaK k (1 - side)) }
def tkL (g : zae) (side : Int) (p : zag) (a k : Nat) : List zag := if nth p.at_ a = 0 ∧ 0 ≤ nth ((tkP g side p a k).hand side) k then [tkP g side p a k] else []
theorem zgw {g : zae} {side : Int} {p : zag} {x : zcN} (h : x.1 = 6) : zeH g side p x = (List.range g.kinds.length).flatMap (tkL g side p x.2.1.toNat) := by
 unfold zeH
 rw [if_pos h]
 rfl
theorem zph {g : zae} (hg : GOk g) {side : Int} (hs : side = 0 ∨ side = 1) {p : zag} (hp : POk g p) {x : zcN} (hx : zeg g.cells g.kinds.length g.rights x) : ∀ q ∈ zeH g side p x, POk g q ∧ q.side = p.side := by
 obtain ⟨op, a, b⟩ := x
 unfold zeg at hx
 simp only at hx
 have hal := hp.al
 have hws : ∀ (P : zag) (s : Int) (l : List Int), (P.withHand s l).side = P.side := fun P s l => by unfold zag.withHand; split <;> rfl
 intro q hq
 by_cases h6 : op = 6
 ·rw [zgw h6] at hq
  obtain ⟨k, hk, hq⟩ := List.mem_flatMap.1 hq
  have hk := List.mem_range.1 hk
  have hc := zgF hg hk (s := 1 - side) (by omega)
  have h1 : POk g { p with at_ := p.at_.set a.toNat (zaK k (1 - side)) } := hp.setAt _ (by omega)
  have hh := hp.hand side
  have hkl : k < (p.hand side).length := by rw [hh.len]; exact hk
  have hv := hh.v k hkl
  unfold tkL at hq
  simp only at hq
  split at hq
  ·rename_i hcond
   rw [List.mem_singleton] at hq
   subst hq
   have h2 := hcond.2
   unfold tkP at h2 ⊢
   by_cases hkeep : (nth g.kinds k).keep = true
   ·rw [if_pos hkeep] at h2 ⊢
    rw [zfL, zcr, if_pos ⟨rfl, hkl⟩] at h2
    exact ⟨h1.withHand side (hh.set k ⟨h2, by omega⟩ fun _ => hkeep), hws _ _ _⟩
   ·rw [if_neg hkeep]
    exact ⟨h1, rfl⟩
  ·cases hq
 unfold zeH at hq
 rw [if_neg h6] at hq
 by_cases h7 : op = 7
 ·rw [if_pos h7] at hq
  split at hq
  ·simp only [List.mem_singleton] at hq
   subst hq
   have hb := hp.at (i := b.toNat) (by omega)
   exact ⟨(hp.setAt a.toNat hb).setAt b.toNat (by omega), rfl⟩
  ·cases hq
 rw [if_neg h7] at hq
 by_cases h10 : op = 10
 ·rw [if_pos h10] at hq
  split at hq
  ·simp only [List.mem_cons, List.not_mem_nil, or_false] at hq
   rcases hq with rfl | rfl
   ·exact ⟨hp, rfl⟩
   ·have h4 := hg.r4
    obtain ⟨o1, o2⟩ := or_in (r := g.rights.toNat) (by omega) hp.r0 hp.r1 (n := a.toNat) (by omega)
    exact ⟨⟨hp.al, hp.av, hp.h0, hp.h1, o1, o2, hp.s⟩, rfl⟩
  ·cases hq
 rw [if_neg h10] at hq
 simp only [List.mem_singleton] at hq
 subst hq
 exact ⟨hp, rfl⟩
theorem ztM {g : zae} (hg : GOk g) (side : Int) (p : zag) (x : zcN) : (zeH g side p x).length ≤ if x.1 = 6 then 6 else if x.1 = 10 then 2 else 1 := by
 have hk := hg.k6
 by_cases h6 : x.1 = 6
 ·rw [if_pos h6, zgw h6, List.length_flatMap]
  have := zjY (fun (k : Nat) => (tkL g side p x.2.1.toNat k).length) 1 (List.range g.kinds.length) (fun k _ => by simp only [tkL]; split <;> simp)
  rw [List.length_range] at this
  omega
 unfold zeH
 rw [if_neg h6, if_neg h6]
 by_cases h7 : x.1 = 7
 ·rw [if_pos h7, if_neg (show ¬ x.1 = 10 by omega)]
  split <;> simp
 rw [if_neg h7]
 by_cases h10 : x.1 = 10
 ·rw [if_pos h10, if_pos h10]
  split <;> simp
 rw [if_neg h10, if_neg h10]
 simp
theorem zk5 {g : zae} (hg : GOk g) {side : Int} (hs : side = 0 ∨ side = 1) : ∀ {l : List zcN} {p : zag}, POk g p → (∀ a ∈ l, zeg g.cells g.kinds.length g.rights a) → ∀ q ∈ zcD g side p l, POk g q ∧ q.side = p.side
 | [], p, hp, _, q, hq => by
  simp only [zcD, List.mem_singleton] at hq
  subst hq
  exact ⟨hp, rfl⟩
 | x :: l, p, hp, hl, q, hq => by
  rw [zcD] at hq
  obtain ⟨r, hr, hq⟩ := List.mem_flatMap.1 hq
  obtain ⟨h1, h2⟩ := zph hg hs hp (hl x (by simp)) r hr
  obtain ⟨h3, h4⟩ := zk5 hg hs h1 (fun a ha => hl a (by simp [ha])) q hq
  exact ⟨h3, h4.trans h2⟩
theorem zbn {α β : Type} (f : α → List β) (b : Nat) : ∀ l : List α, (∀ a ∈ l, (f a).length ≤ b) → (l.flatMap f).length ≤ l.length * b
 | [], _ => by simp
 | a :: l, h => by
  rw [List.flatMap_cons, List.length_append, List.length_cons, Nat.add_mul, Nat.one_mul]
  have h1 := h a (by simp)
  have h2 := zbn f b l fun x hx => h x (by simp [hx])
  omega
theorem zmW {g : zae} (hg : GOk g) (side : Int) : ∀ (l : List zcN) (p : zag), (zcD g side p l).length ≤ 6 ^ zbh l 6 * 2 ^ zbh l 10
 | [], p => by simp [zcD, zbh]
 | x :: l, p => by
  rw [zcD]
  have h1 := zbn (fun q => zcD g side q l) (6 ^ zbh l 6 * 2 ^ zbh l 10) (zeH g side p x) fun q _ => zmW hg side l q
  have h2 := ztM hg side p x
  have hc : ∀ op, zbh (x :: l) op = zbh l op + if x.1 = op then 1 else 0 := fun op => by
   unfold zbh
   rw [List.countP_cons]
   by_cases h : x.1 = op <;> simp [h]
  rw [hc, hc]
  refine Nat.le_trans h1 (Nat.le_trans (Nat.mul_le_mul_right _ h2) ?_)
  by_cases h6 : x.1 = 6
  ·rw [if_pos h6, if_pos h6, if_neg (by omega), Nat.pow_succ, Nat.add_zero, Nat.mul_comm 6, Nat.mul_assoc, Nat.mul_comm _ 6, ← Nat.mul_assoc]
   exact Nat.le_refl _
  ·rw [if_neg h6, if_neg h6, Nat.add_zero]
   by_cases h10 : x.1 = 10
   ·rw [if_pos h10, if_pos h10, Nat.pow_succ, Nat.mul_comm 2, Nat.mul_assoc]
    exact Nat.le_refl _
   ·rw [if_neg h10, if_neg h10, Nat.one_mul, Nat.add_zero]
    exact Nat.le_refl _
theorem zsF {b : zaF} {side : Int} {w : za1} {x : Int × Int} : ∀ v ∈ zjr b side w x, zbh v.acts 10 ≤ zbh w.acts 10 + zqw x 10 := by
 intro v hv
 unfold zjr at hv
 unfold zqw
 split at hv
 ·rename_i h17
  split at hv
  ·simp at hv
  ·split at hv
   ·simp only [List.mem_singleton] at hv
    subst hv
    simp only [onP, List.append_nil]
    omega
   ·simp only [List.mem_singleton] at hv
    subst hv
    simp only [onP, zbl, zc2]
    rw [if_neg (by decide)]
    omega
 ·split at hv
  ·obtain ⟨more, e1, e2, e3, e4⟩ := zeR hv
   rw [List.append_nil] at e1
   rw [e1, zbl, zgG e4 (by omega)]
   omega
  ·split at hv
   ·simp only [List.mem_singleton] at hv
    subst hv
    simp only [onP, zbl, zc2]
    omega
   ·simp only [List.mem_singleton] at hv
    subst hv
    simp only [onP, zbl, zc2]
    omega
theorem zjt {b : zaF} {side : Int} : ∀ {prog : List (Int × Int)} {now : List za1} {t : Nat}, (∀ w ∈ now, zbh w.acts 10 ≤ t) → ∀ w ∈ prog.foldl (ziu b side) now, zbh w.acts 10 ≤ t + prog.length
 | [], now, t, h, w, hw => by simpa using h w hw
 | x :: prog, now, t, h, w, hw => by
  rw [List.foldl_cons] at hw
  have := zjt (prog := prog) (now := ziu b side now x) (t := t + 1) (fun v hv => by
   obtain ⟨u, hu, hv⟩ := List.mem_flatMap.1 hv
   have h1 := zsF v hv
   have h2 := h u hu
   have h3 : zqw x 10 ≤ 1 := by unfold zqw; split <;> omega
   omega) w hw
  simp only [List.length_cons]
  omega
theorem zqy {g : zae} (hg : GOk g) {side : Int} {k : zfc} (hk : k ∈ g.kinds) {cell : Int} : ∀ w ∈ zb2 g.board side k.progs cell, zbh w.acts 10 ≤ 8 := by
 intro w hw
 obtain ⟨p, hp, hw⟩ := List.mem_flatMap.1 hw
 have ok := (hg.pr k hk p hp).len
 have := zjt (b := g.board) (side := side) (prog := p) (now := [⟨[], cell⟩]) (t := 0) (fun v hv => by
  simp only [List.mem_singleton] at hv
  subst hv
  simp [zbh]) w hw
 omega
theorem zjP {a m n : Nat} (ha : 1 ≤ a) (h : m ≤ n) : a ^ m ≤ a ^ n := Nat.pow_le_pow_right ha h
theorem zsc {g : zae} (hg : GOk g) {side : Int} {p : zag} {k c : Nat} (hk : k < g.kinds.length) (hc : (c : Int) < g.cells) : ∀ w ∈ zb2 g.board side (nth g.kinds k).progs c, (zcD g side { p with at_ := p.at_.set w.to.toNat 0, side := side } w.acts.reverse).length ≤ 9216 := by
 intro w hw
 have h1 := (zhg hg (side := side) (zaj hk) (cell := (c : Int)) ⟨by omega, hc⟩ w hw).take
 have h2 := zqy hg (side := side) (zaj hk) (cell := (c : Int)) w hw
 have hr : ∀ op, zbh w.acts.reverse op = zbh w.acts op := fun op => by unfold zbh; exact List.countP_reverse ..
 have h3 := zmW hg side w.acts.reverse { p with at_ := p.at_.set w.to.toNat 0, side := side }
 rw [hr, hr] at h3
 exact Nat.le_trans h3 (Nat.mul_le_mul (zjP (n := 2) (by omega) h1) (zjP (n := 8) (by omega) h2))
theorem zuK {g : zae} (hg : GOk g) {side : Int} (hs : side = 0 ∨ side = 1) {p : zag} (hp : POk g p) : ∀ q ∈ zgY g side p, POk g q := by
 intro q hq
 unfold zgY at hq
 obtain ⟨k, hk, hq⟩ := List.mem_flatMap.1 hq
 obtain ⟨c, hc, hq⟩ := List.mem_flatMap.1 hq
 obtain ⟨w, hw, hq⟩ := List.mem_flatMap.1 hq
 have hk := List.mem_range.1 hk
 have hc := List.mem_range.1 hc
 unfold zgZ at hq
 split at hq
 ·obtain ⟨r, hr, rfl⟩ := List.mem_map.1 hq
  have hr := (List.mem_filter.1 hr).1
  have hpo := zhg hg (side := side) (zaj hk) (cell := (c : Int)) ⟨by omega, by omega⟩ w hw
  have h1 : POk g { p with at_ := p.at_.set w.to.toNat 0, side := side } := by
   have := hp.setAt w.to.toNat (v := 0) (by omega)
   exact ⟨this.al, this.av, this.h0, this.h1, this.r0, this.r1, hs⟩
  obtain ⟨h2, _⟩ := zk5 hg hs h1 (l := w.acts.reverse) (fun a ha => hpo.acts a (List.mem_reverse.1 ha)) r hr
  have hcd := zgF hg hk hs
  exact h2.setAt c (by omega)
 ·cases hq
theorem zqx {g : zae} (hg : GOk g) (hs : zcF g) (side : Int) {k : Nat} (hk : k < g.kinds.length) (c : Int) : (zb2 g.board side (nth g.kinds k).progs c).length ≤ 72 := by
 have hkm := zaj hk
 have c9 := hg.c9
 have c1 := hg.c1
 have := zbn (fun p => zcx g.board side p c) 9 (nth g.kinds k).progs fun p hp => by
  have h := zjO hg.board hg.c1 side p c
  have h2 : g.board.cells.toNat ≤ 9 := by have : g.board.cells = g.cells := rfl; omega
  have h1 := hs _ hkm p hp
  rcases (show zaA p 2 = 0 ∨ zaA p 2 = 1 by omega) with e | e <;> rw [e] at h <;> simp at h <;> omega
 have h8 := hg.pn _ hkm
 unfold zb2
 omega
theorem zp7 {g : zae} (hg : GOk g) (hs : zcF g) {p : zag} (hp : POk g p) : (zcG g p).length ≤ 35831817 := by
 have c9 := hg.c9
 have c1 := hg.c1
 have k6 := hg.k6
 have hal := hp.al
 have h1 : (zgY g (1 - p.side) p).length ≤ 35831808 := by
  have := zbn (fun (k : Nat) => (List.range g.cells.toNat).flatMap fun (c : Nat) => (zb2 g.board (1 - p.side) (nth g.kinds k).progs c).flatMap (zgZ g (1 - p.side) p k c)) (9 * (72 * 9216)) (List.range g.kinds.length) fun k hk => by
   have hk := List.mem_range.1 hk
   have := zbn (fun (c : Nat) => (zb2 g.board (1 - p.side) (nth g.kinds k).progs c).flatMap (zgZ g (1 - p.side) p k c)) (72 * 9216) (List.range g.cells.toNat) fun c hc => by
    have hc := List.mem_range.1 hc
    have h2 := zqx hg hs (1 - p.side) hk c
    have := zbn (zgZ g (1 - p.side) p k c) 9216 (zb2 g.board (1 - p.side) (nth g.kinds k).progs c) fun w hw => by
     have h3 := zsc hg (side := 1 - p.side) (p := p) hk (show (c : Int) < g.cells by omega) w hw
     unfold zgZ
     split
     ·rw [List.length_map]
      exact Nat.le_trans (List.length_filter_le _ _) h3
     ·simp
    refine Nat.le_trans this ?_
    omega
   rw [List.length_range] at this
   refine Nat.le_trans this ?_
   omega
  rw [List.length_range] at this
  unfold zgY
  omega
 have h2 : (zhD g (1 - p.side) p).length ≤ 9 := by
  unfold zhD
  rw [List.length_map]
  have := List.length_filter_le (fun c => decide ((zan (nth p.at_ c)).2 = 1 - p.side) && (nth g.kinds (zan (nth p.at_ c)).1.toNat).keep) (List.range p.at_.length)
  rw [List.length_range] at this
  omega
 unfold zcG
 rw [List.length_append]
 omega
def SzP (g : zae) (q : zag) : Prop := (q.at_.length : Int) = g.cells ∧ q.h0.length = g.kinds.length ∧ q.h1.length = g.kinds.length
theorem zoT {g : zae} {p : zag} (hp : POk g p) (side : Int) (c : Nat) : SzP g (zmo side p c) := by
 have h1 := hp.al
 have h2 := hp.h0.len
 have h3 := hp.h1.len
 unfold zmo SzP zag.withHand zag.hand
 simp only
 split <;> simp [List.length_set, h1, h2, h3]
theorem zuM {g : zae} (hg : GOk g) {p : zag} (hp : POk g p) : (∀ q ∈ zcG g p, SzP g q) ∧ ∀ q ∈ candsR g p, SzP g q := by
 have hs := hp.s
 have hA : ∀ q ∈ zgY g (1 - p.side) p, SzP g q := fun q hq => by
  have := zuK hg (side := 1 - p.side) (by omega) hp q hq
  exact ⟨this.al, this.h0.len, this.h1.len⟩
 refine ⟨fun q hq => ?_, fun q hq => ?_⟩
 ·rcases List.mem_append.1 hq with h | h
  ·exact hA q h
  ·obtain ⟨c, _, rfl⟩ := List.mem_map.1 h
   exact zoT hp _ _
 ·rcases List.mem_append.1 hq with h | h
  ·exact hA q h
  ·obtain ⟨c, _, rfl⟩ := List.mem_map.1 h
   exact zoT hp _ _
def zrX (g : zae) (p : zag) (l : List zag) (i : Nat) : List zag := (l.take i).filter fun q => zeA g q && decide (p ∈ zaZ g q)
theorem zrZ (g : zae) (p : zag) (l : List zag) : zrX g p l 0 = [] := by simp [zrX]
theorem zrY {g : zae} {p : zag} {l : List zag} {i : Nat} (hi : i < l.length) : zrX g p l (i + 1) = if zeA g (nth l i) = true ∧ p ∈ zaZ g (nth l i) then zrX g p l i ++ [nth l i] else zrX g p l i := by
 unfold zrX
 rw [List.take_add_one, List.getElem?_eq_getElem hi, ← zaB _ _ hi, Option.toList_some, List.filter_append]
 by_cases h : zeA g (nth l i) = true ∧ p ∈ zaZ g (nth l i)
 ·rw [if_pos h]
  simp [h.1, h.2]
 ·rw [if_neg h]
  have : (zeA g (nth l i) && decide (p ∈ zaZ g (nth l i))) = false := by
   rw [Bool.eq_false_iff]
   intro h2
   rw [Bool.and_eq_true, decide_eq_true_eq] at h2
   exact h h2
  simp [this]
theorem zuy (g : zae) (p : zag) : zrX g p (zbj zbw (zcG g p)) (zbj zbw (zcG g p)).length = zap g p := by
 unfold zrX zap
 rw [List.take_length]
theorem zuz (g : zae) (p : zag) (l : List zag) (i : Nat) : (zrX g p l i).length ≤ l.length := by
 unfold zrX
 have h1 := List.length_filter_le (fun q => zeA g q && decide (p ∈ zaZ g q)) (l.take i)
 rw [List.length_take] at h1
 omega
end Go.Av
end
