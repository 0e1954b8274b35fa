/- Texts of ours, part 8: our library and contracts of functions. -/
import Derived.Test.YtedhfmmlhfmomaaGreatDoorB07
set_option linter.unusedSimpArgs false
set_option linter.unusedVariables false
set_option maxRecDepth 100000
set_option maxHeartbeats 40000000
section
/- Our library, part 17: calls of functions that are given objects of ours and turn them. -/
namespace Go.Av
open Go

mutual
inductive Rn (σ : Nat → Nat) : AV → AV → Prop
 | same {x : AV} (h : Bel 0 x) : Rn σ x x
 | ref {o o' g sz i off : Nat} (h : o' = σ o) : Rn σ (.ref o g sz i off) (.ref o' g sz i off)
 | sl {o o' g sz i len : Nat} (h : o' = σ o) : Rn σ (.sl o g sz i len) (.sl o' g sz i len)
 | agg {xs ys : List AV} (h : RnL σ xs ys) : Rn σ (.agg xs) (.agg ys)
 | tup {xs ys : List AV} (h : RnL σ xs ys) : Rn σ (.tup xs) (.tup ys)
 | fn {f : Fn} {a b a' b' : List AV} (h : RnL σ a a') (h' : RnL σ b b') : Rn σ (.fn f a b) (.fn f a' b')
inductive RnL (σ : Nat → Nat) : List AV → List AV → Prop
 | nil : RnL σ [] []
 | cons {x y : AV} {xs ys : List AV} (h : Rn σ x y) (t : RnL σ xs ys) : RnL σ (x :: xs) (y :: ys)
end
inductive ztG (σ : Nat → Nat) : List (List AV) → List (List AV) → Prop
 | same {rs : List (List AV)} (h : ∀ r ∈ rs, ∀ c ∈ r, Bel 0 c) : ztG σ rs rs
 | nil : ztG σ [] []
 | cons {x y : List AV} {xs ys : List (List AV)} (h : RnL σ x y) (t : ztG σ xs ys) : ztG σ (x :: xs) (y :: ys)
inductive RnO (σ : Nat → Nat) : zbn → zbn → Prop
 | rows {mt : Bool} {g sz : Nat} {rs rs' : List (List AV)} (h : ztG σ rs rs') : RnO σ (.rows mt g sz rs) (.rows mt g sz rs')
inductive RnH (σ : Nat → Nat) : List (Nat × zbn) → List (Nat × zbn) → Prop
 | nil : RnH σ [] []
 | cons {o o' : Nat} {x y : zbn} {l l' : List (Nat × zbn)} (e : o' = σ o) (h : RnO σ x y) (t : RnH σ l l') : RnH σ ((o, x) :: l) ((o', y) :: l')
section
variable {σ : Nat → Nat} {φ φ' : zas} {w : World} {M M' : Nat → Prop}
theorem Rn.rel (hφ : ∀ o, φ' (σ o) = φ o) (hM : ∀ k, M' k → M k) {x y : AV} (hs : Rn σ x y) : ∀ {v : Value}, Rel φ w M x v → Rel φ' w M' y v := by
 refine Rn.rec (σ := σ) (motive_1 := fun x y _ => ∀ {v : Value}, Rel φ w M x v → Rel φ' w M' y v) (motive_2 := fun xs ys _ => ∀ {vs : List Value}, zaE φ w M xs vs → zaE φ' w M' ys vs)
  ?_ ?_ ?_ ?_ ?_ ?_ ?_ ?_ hs
 ·intro x hb v hx; exact hx.closed hM hb
 ·intro o o' g sz i off e v hx
  subst e
  cases hx with | ref ho hg h => exact .ref (by rw [hφ]; exact ho) hg h
 ·intro o o' g sz i len e v hx
  subst e
  cases hx with | sl ho hg h => exact .sl (by rw [hφ]; exact ho) hg h
 ·intro xs ys _ ih v hx
  cases hx with | agg hv h => exact .agg hv (ih h)
 ·intro xs ys _ ih v hx
  cases hx with | tup h => exact .tup (ih h)
 ·intro f a b a' b' _ _ ih1 ih2 v hx
  cases hx with | fn h1 h2 => exact .fn (ih1 h1) (ih2 h2)
 ·intro vs hx; cases hx; exact .nil
 ·intro x y xs ys _ _ ih1 ih2 vs hx
  cases hx with | cons h t => exact .cons (ih1 h) (ih2 t)
theorem Rn.back {m : Nat} (hφ : ∀ o, o < m → φ o = φ' (σ o)) (hM : ∀ k, M k → M' k) {x y : AV} (hs : Rn σ x y) : Bel m x → ∀ {v : Value}, Rel φ' w M' y v → Rel φ w M x v := by
 refine Rn.rec (σ := σ) (motive_1 := fun x y _ => Bel m x → ∀ {v : Value}, Rel φ' w M' y v → Rel φ w M x v) (motive_2 := fun xs ys _ => (∀ c ∈ xs, Bel m c) → ∀ {vs : List Value}, zaE φ' w M' ys vs → zaE φ w M xs vs)
  ?_ ?_ ?_ ?_ ?_ ?_ ?_ ?_ hs
 ·intro x hb _ v hx; exact hx.closed hM hb
 ·intro o o' g sz i off e hb v hx
  subst e
  cases hb with | ref hb => cases hx with | ref ho hg h => exact .ref (by rw [hφ _ hb]; exact ho) hg h
 ·intro o o' g sz i len e hb v hx
  subst e
  cases hb with | sl hb => cases hx with | sl ho hg h => exact .sl (by rw [hφ _ hb]; exact ho) hg h
 ·intro xs ys _ ih hb v hx
  cases hb with | agg hb => cases hx with | agg hv h => exact .agg hv (ih hb h)
 ·intro xs ys _ ih hb v hx
  cases hb with | tup hb => cases hx with | tup h => exact .tup (ih hb h)
 ·intro f a b a' b' _ _ ih1 ih2 hb v hx
  cases hb with | fn hb hb' => cases hx with | fn h1 h2 => exact .fn (ih1 hb h1) (ih2 hb' h2)
 ·intro _ vs hx; cases hx; exact .nil
 ·intro x y xs ys _ _ ih1 ih2 hb vs hx
  cases hx with | cons h t => exact .cons (ih1 (hb _ (by simp)) h) (ih2 (fun c hc => hb c (by simp [hc])) t)
theorem RnL.rel (hφ : ∀ o, φ' (σ o) = φ o) (hM : ∀ k, M' k → M k) : ∀ {xs ys : List AV} {vs : List Value}, RnL σ xs ys → zaE φ w M xs vs → zaE φ' w M' ys vs
 | [], _, _, .nil, .nil => .nil
 | _ :: _, _, _, .cons h t, .cons h' t' => .cons (h.rel hφ hM h') (t.rel hφ hM t')
theorem RnL.back {m : Nat} (hφ : ∀ o, o < m → φ o = φ' (σ o)) (hM : ∀ k, M k → M' k) : ∀ {xs ys : List AV} {vs : List Value}, RnL σ xs ys → (∀ c ∈ xs, Bel m c) → zaE φ' w M' ys vs → zaE φ w M xs vs
 | [], _, _, .nil, _, .nil => .nil
 | _ :: _, _, _, .cons h t, hb, .cons h' t' => .cons (h.back hφ hM (hb _ (by simp)) h') (t.back hφ hM (fun c hc => hb c (by simp [hc])) t')
theorem RnL.length : ∀ {xs ys : List AV}, RnL σ xs ys → ys.length = xs.length
 | [], _, .nil => rfl
 | _ :: _, _, .cons _ t => by simp [t.length]
theorem ztG.rel (hφ : ∀ o, φ' (σ o) = φ o) (hM : ∀ k, M' k → M k) {xs ys : List (List AV)} (hs : ztG σ xs ys) :
  ∀ {vs : List Value}, zaE φ w M xs.flatten vs → zaE φ' w M' ys.flatten vs := by
 induction hs with
 | same h =>
  intro vs hx
  refine zAT hx.length fun k hk hk' => (hx.get k hk hk').closed hM ?_
  obtain ⟨r, hr, hc⟩ := List.mem_flatten.1 (List.getElem_mem hk)
  exact h r hr _ hc
 | nil => intro vs hx; cases hx; exact .nil
 | cons h _ ih =>
  intro vs hx
  rw [List.flatten_cons] at hx ⊢
  obtain ⟨us, ts, rfl, h1, h2⟩ := hx.split
  exact (h.rel hφ hM h1).append (ih h2)
theorem ztG.back {m : Nat} (hφ : ∀ o, o < m → φ o = φ' (σ o)) (hM : ∀ k, M k → M' k) {xs ys : List (List AV)} (hs : ztG σ xs ys) :
  (∀ r ∈ xs, ∀ c ∈ r, Bel m c) → ∀ {vs : List Value}, zaE φ' w M' ys.flatten vs → zaE φ w M xs.flatten vs := by
 induction hs with
 | same h =>
  intro _ vs hx
  refine zAT hx.length fun k hk hk' => (hx.get k hk hk').closed hM ?_
  obtain ⟨r, hr, hc⟩ := List.mem_flatten.1 (List.getElem_mem hk)
  exact h r hr _ hc
 | nil => intro _ vs hx; cases hx; exact .nil
 | cons h _ ih =>
  intro hb vs hx
  rw [List.flatten_cons] at hx ⊢
  obtain ⟨us, ts, rfl, h1, h2⟩ := hx.split
  exact (h.back hφ hM (hb _ (by simp)) h1).append (ih (fun r hr => hb r (by simp [hr])) h2)
theorem ztG.shape {xs ys : List (List AV)} (hs : ztG σ xs ys) : ys.length = xs.length ∧ (∀ sz, (∀ r ∈ xs, r.length = sz) → ∀ r ∈ ys, r.length = sz) ∧ ∀ sz, (∀ r ∈ ys, r.length = sz) → ∀ r ∈ xs, r.length = sz := by
 induction hs with
 | same h => exact ⟨rfl, fun _ h => h, fun _ h => h⟩
 | nil => exact ⟨rfl, fun _ h => h, fun _ h => h⟩
 | cons h _ ih =>
  refine ⟨by simp [ih.1], fun sz hr r hm => ?_, fun sz hr r hm => ?_⟩
  ·rcases List.mem_cons.1 hm with rfl | hm
   ·rw [h.length]; exact hr _ (by simp)
   ·exact ih.2.1 sz (fun r hr' => hr r (by simp [hr'])) r hm
  ·rcases List.mem_cons.1 hm with rfl | hm
   ·rw [← h.length]; exact hr _ (by simp)
   ·exact ih.2.2 sz (fun r hr' => hr r (by simp [hr'])) r hm
theorem RnH.at {l l' : List (Nat × zbn)} (hinj : ∀ a b, σ a = σ b → a = b) (hs : RnH σ l l') {o : Nat} {y : zbn} (ho : mkH l' o = some y) : ∃ o0 x, o = σ o0 ∧ mkH l o0 = some x ∧ RnO σ x y := by
 induction hs with
 | nil => cases ho
 | @cons o1 o1' x1 y1 l l' e1 h _ ih =>
  simp only [mkH, upd] at ho ⊢
  split at ho
  ·rename_i e
   cases ho
   exact ⟨o1, x1, e.trans e1, by simp, h⟩
  ·rename_i e
   obtain ⟨o0, x, rfl, h1, h2⟩ := ih ho
   refine ⟨o0, x, rfl, ?_, h2⟩
   rw [if_neg (fun h => e (by rw [h, e1]))]; exact h1
end
def ren (rs : List Nat) (n : Nat) (j : Nat) : Nat := if j < rs.length then rs.getD j 0 else n + (j - rs.length)
def zlA : List Nat → zao → zao
 | [], h => h
 | o :: l, h => upd (zlA l h) o none
theorem zv9 (h : zao) : ∀ (l : List Nat) (o : Nat), zlA l h o = if o ∈ l then none else h o
 | [], o => by simp [zlA]
 | a :: l, o => by
  simp only [zlA, upd, List.mem_cons]
  by_cases e : o = a
  ·simp [e]
  ·simp [e, zv9 h l o]
theorem zhm {rs : List Nat} {n j : Nat} (h : j < rs.length) : ren rs n j ∈ rs := by
 unfold ren; rw [if_pos h, List.getD_eq_getElem?_getD, List.getElem?_eq_getElem h]; exact List.getElem_mem h
theorem zAp {rs : List Nat} {n : Nat} (hd : rs.Nodup) (hlt : ∀ o ∈ rs, o < n) : ∀ a b, ren rs n a = ren rs n b → a = b := by
 intro a b he
 by_cases ha : a < rs.length <;> by_cases hb : b < rs.length
 ·unfold ren at he
  rw [if_pos ha, if_pos hb, List.getD_eq_getElem?_getD, List.getD_eq_getElem?_getD, List.getElem?_eq_getElem ha, List.getElem?_eq_getElem hb] at he
  exact (List.getElem_inj hd).1 (by simpa using he)
 ·have h1 := hlt _ (zhm (n := n) ha)
  rw [he] at h1
  unfold ren at h1
  rw [if_neg hb] at h1; omega
 ·have h1 := hlt _ (zhm (n := n) hb)
  rw [← he] at h1
  unfold ren at h1
  rw [if_neg ha] at h1; omega
 ·unfold ren at he
  rw [if_neg ha, if_neg hb] at he; omega
def zhW (P : Program) (f : FuncId) (args : List AV) (HA : List (Nat × zbn)) (m : Nat) (R0 : AV) (H0 : List (Nat × zbn)) (k2 : Nat) : Prop :=
 zaa P f args (mkH HA) m (fun r h n' => Wk (fun _ => r) h n' [(0, R0)] H0 k2)
theorem zAX {P : Program} {f : FuncId} {args args' args0 : List AV} {h : zao} {n m k2 : Nat} {K : zcy} {R0 R : AV} {HA H0 HH : List (Nat × zbn)} (rs : List Nat) (h' : zao)
  (hp : zhW P f args0 HA m R0 H0 k2) (hd : rs.Nodup) (hlt : ∀ o ∈ rs, o < n) (hm : rs.length = m) (hmk : m ≤ k2) (hfz : Frz h h')
  (hA : ∀ j, j < m → ∃ x y, mkH HA j = some x ∧ h' (ren rs n j) = some y ∧ RnO (ren rs n) x y) (hAb : ∀ p ∈ HA, p.1 < m ∧ zy4 m p.2)
  (hle : zan h h' n args args') (hb' : ∀ c ∈ args', Bel n c) (hargs0 : RnL (ren rs n) args0 args') (hb0 : ∀ c ∈ args0, Bel m c)
  (hR : Rn (ren rs n) R0 R) (hHH : RnH (ren rs n) H0 HH) (hk : K R (zdV HH (zlA rs h')) (n + (k2 - m))) : zaa P f args h n K := by
 refine ⟨hp.1, fun M0 φ w vs hH hargs => ?_⟩
 obtain ⟨hH', st0⟩ := hH.freeze hfz
 have hσ := zAp hd hlt
 have hmt : ∀ o g sz rs, h' o = some (.rows true g sz rs) → h o = some (.rows true g sz rs) := by
  intro o g sz rs ho
  rcases hfz o with h1 | ⟨g1, sz1, rs1, h1, h2⟩
  ·rw [← h1]; exact ho
  ·rw [h2] at ho; cases ho
 have hmut0 : ∀ k, Mut φ h' k → Mut φ h k := by
  rintro k ⟨o, g, sz, rs, g', a, bs, ho, hp, rfl⟩
  exact ⟨o, g, sz, rs, g', a, bs, hmt _ _ _ _ ho, hp, rfl⟩
 have hv : zaE φ w (Or M0 (Mut φ h')) args' vs := by
  refine zan.rel (φ' := φ) (n' := n) hH (fun {x v} _ hx => hx.keep φ.le_refl (fun _ _ _ => rfl) (fun k hk => .inl (hk.imp id (hmut0 k)))) ?_ (fun o g sz h1 _ h2 => by omega) hle hb' hargs
  rintro o mt g sz rs a bs ho hp ho' h0 (hk | ⟨o', g', sz', rs', g'', a', bs', ho1, hp1, he⟩)
  ·exact h0 hk
  ·have hne : o' ≠ o := fun e => by subst e; exact ho' _ _ _ ho1
   have ho0 := hmt _ _ _ _ ho1
   have hg : g'' = g' := by
    obtain ⟨A2, hA2, _⟩ := hH.obj _ _ _ _ _ ho0
    rw [hp1] at hA2
    simp only [Option.some.injEq, Prod.mk.injEq] at hA2
    exact hA2.1
   subst hg
   exact hH.inj _ _ _ _ _ _ _ _ _ _ _ _ _ _ ho0 ho hne (.inl rfl) hp1 hp he
 let hr : zao := fun o => if o ∈ rs then none else h' o
 have hrmut : ∀ k, Mut φ hr k → Mut φ h' k := by
  rintro k ⟨o, g, sz, rs1, g', a, bs, ho, hp, rfl⟩
  simp only [hr] at ho
  split at ho
  ·cases ho
  ·exact ⟨o, g, sz, rs1, g', a, bs, ho, hp, rfl⟩
 let M1 : Nat → Prop := Or M0 (Mut φ hr)
 let φ0 : zas := fun j => if j < m then φ (ren rs n j) else none
 have hφ0 : ∀ j, j < m → φ0 j = φ (ren rs n j) := fun j hj => if_pos hj
 have hgiv : ∀ j mt g sz rws, mkH HA j = some (.rows mt g sz rws) → j < m ∧ ∃ rws', h' (ren rs n j) = some (.rows mt g sz rws') ∧ ztG (ren rs n) rws rws' ∧ ∀ r ∈ rws, ∀ c ∈ r, Bel m c := by
  intro j mt g sz rws hj
  have hjm := hAb _ (zd6 hj)
  obtain ⟨x, y, h1, h2, h3⟩ := hA j hjm.1
  rw [hj] at h1
  cases h1
  cases h3 with
  | rows h3 => exact ⟨hjm.1, _, h2, h3, hjm.2⟩
 have hgmut : ∀ k, Mut φ0 (mkH HA) k → ∃ j, j < m ∧ ∃ g sz rws g' a bs, h' (ren rs n j) = some (.rows true g sz rws) ∧ φ (ren rs n j) = some (g', some (a, bs)) ∧ a.block = k := by
  rintro k ⟨j, g, sz, rws, g', a, bs, ho, hp, rfl⟩
  obtain ⟨hj, rws', h1, _⟩ := hgiv _ _ _ _ _ ho
  rw [hφ0 j hj] at hp
  exact ⟨j, hj, g, sz, rws', g', a, bs, h1, hp, rfl⟩
 have hgmut' : ∀ k, Mut φ0 (mkH HA) k → Mut φ h' k := fun k hk => by
  obtain ⟨j, _, g, sz, rws, g', a, bs, h1, h2, h3⟩ := hgmut k hk
  exact ⟨_, g, sz, rws, g', a, bs, h1, h2, h3⟩
 have hgen : ∀ {o mt g sz rws g' A}, h' o = some (.rows mt g sz rws) → φ o = some (g', A) → g' = g := by
  intro o mt g sz rws g' A ho hp
  obtain ⟨A2, hA2, _⟩ := hH'.obj _ _ _ _ _ ho
  rw [hp] at hA2
  simp only [Option.some.injEq, Prod.mk.injEq] at hA2
  exact hA2.1
 have hM1 : ∀ k, Or M1 (Mut φ0 (mkH HA)) k → Or M0 (Mut φ h') k := by
  rintro k ((hk | hk) | hk)
  ·exact .inl hk
  ·exact .inr (hrmut k hk)
  ·exact .inr (hgmut' k hk)
 have hH1 : zgk φ0 m w M1 (mkH HA) := by
  refine ⟨fun k hk => hH'.blk (hk.imp id (hrmut k)), fun o ho => if_neg (by omega), fun j mt g sz rws hj => ?_, fun o o' mt g sz rws mt' g' sz' rws' a a' b b' ho ho' hne hmm hp hp' => ?_, hH'.glob.keep (fun _ _ _ => rfl) (fun k hk => .inl (hM1 k hk))⟩
  ·obtain ⟨hjm, rws', h1, h2, h3⟩ := hgiv _ _ _ _ _ hj
   obtain ⟨A, hA1, hc⟩ := hH'.obj _ _ _ _ _ h1
   refine ⟨A, by rw [hφ0 j hjm]; exact hA1, hc.imp (fun h => ⟨h.1, ?_⟩) ?_⟩
   ·obtain ⟨_, rfl⟩ := h
    exact List.eq_nil_of_length_eq_zero h2.shape.1.symm
   ·rintro ⟨a, bs, c1, c3, hd⟩
    refine ⟨a, bs, c1, ?_, hd.turn rfl h2.shape.1.symm (h2.shape.2.2 sz) (fun c9 => h2.back hφ0 hM1 h3 c9)⟩
    ·rintro (hk | ⟨o', g1, sz1, rs1, g1', a', bs', ho1, hp1, he⟩)
     ·exact c3 hk
     ·simp only [hr] at ho1
      split at ho1
      ·cases ho1
      ·rename_i hni
       obtain rfl := hgen ho1 hp1
       subst c1
       exact hH'.inj _ _ _ _ _ _ _ _ _ _ _ _ _ _ ho1 h1 (fun e => hni (e ▸ zhm (by omega))) (.inl rfl) hp1 hA1 he
  ·obtain ⟨hj, r1, h1, _⟩ := hgiv _ _ _ _ _ ho
   obtain ⟨hj', r1', h1', _⟩ := hgiv _ _ _ _ _ ho'
   rw [hφ0 o hj] at hp
   rw [hφ0 o' hj'] at hp'
   exact hH'.inj _ _ _ _ _ _ _ _ _ _ _ _ _ _ h1 h1' (fun e => hne (hσ _ _ e)) hmm hp hp'
 have hargs1 : zaE φ0 w (Or M1 (Mut φ0 (mkH HA))) args0 vs := hargs0.back hφ0 hM1 hb0 hv
 refine (hp.2 _ φ0 w vs hH1 hargs1).mono ?_
 rintro e w' ⟨v, φ1, r, h1, n', rfl, hK, hH2, hx, st⟩
 obtain ⟨φ2, hH3, hx3, hm3, hst⟩ := hK.sound hH2 (tmps := fun _ => v) (fun _ => hx)
 have hx3 := hx3 0
 simp only [mkE, zat] at hx3
 have hlater : ∀ j x, j < m → φ (ren rs n j) = some x → ∃ x', φ2 j = some x' ∧ x.1 ≤ x'.1 ∧ (x'.1 = x.1 → x' = x) := by
  intro j x hj hx
  obtain ⟨x', h1, h2, h3⟩ := st.le j x (by rw [hφ0 j hj]; exact hx)
  exact ⟨x', hst j x' (by omega) h1, h2, h3⟩
 let φ3 : zas := fun o => if o ∈ rs then φ2 (rs.idxOf o) else if o < n then φ o else φ2 (o - n + m)
 have hidx : ∀ j, j < m → rs.idxOf (ren rs n j) = j := by
  intro j hj
  have h1 := List.idxOf_lt_length_of_mem (zhm (rs := rs) (n := n) (j := j) (by omega))
  refine hσ _ _ ?_
  have h2 := List.getElem_idxOf h1
  unfold ren at h1 h2 ⊢
  rw [if_pos h1, List.getD_eq_getElem?_getD, List.getElem?_eq_getElem h1]
  exact h2
 have e3 : ∀ o, φ3 (ren rs n o) = φ2 o := by
  intro o
  by_cases ho : o < m
  ·simp only [φ3]
   rw [if_pos (zhm (by omega)), hidx o ho]
  ·have hge : ren rs n o = n + (o - m) := by unfold ren; rw [if_neg (by omega), hm]
   simp only [φ3]
   rw [hge, if_neg (fun hmem => by have := hlt _ hmem; omega), if_neg (by omega)]
   congr 1; omega
 have e3' : ∀ o, o < n → o ∉ rs → φ3 o = φ o := fun o ho hni => by simp only [φ3]; rw [if_neg hni, if_pos ho]
 have hltn : ∀ o x, φ o = some x → o < n := fun o x ho => Nat.lt_of_not_le fun hle => by rw [hH.fresh o hle] at ho; cases ho
 have hren : ∀ o, o ∈ rs → ∃ j, j < m ∧ o = ren rs n j := by
  intro o ho
  obtain ⟨j, hj, rfl⟩ := List.getElem_of_mem ho
  exact ⟨j, by omega, by unfold ren; rw [if_pos hj, List.getD_eq_getElem?_getD, List.getElem?_eq_getElem hj]; rfl⟩
 have hle3 : φ.le φ3 := by
  intro o x ho
  by_cases hmem : o ∈ rs
  ·obtain ⟨j, hj, rfl⟩ := hren o hmem
   rw [e3]; exact hlater j x hj ho
  ·exact ⟨x, by rw [e3' o (hltn _ _ ho) hmem]; exact ho, Nat.le_refl _, fun _ => rfl⟩
 have hheap : ∀ k, k < w.heap.size → ¬ Mut φ0 (mkH HA) k → w'.heap[k]? = w.heap[k]? := fun k hk hn => st.fr.block k hk hn
 have hsrc : ∀ o y, zdV HH (zlA rs h') o = some y → (∃ o0 x, o = ren rs n o0 ∧ mkH H0 o0 = some x ∧ RnO (ren rs n) x y) ∨ (o < n ∧ o ∉ rs ∧ h' o = some y) := by
  intro o x ho
  rw [zgb] at ho
  split at ho
  ·rename_i y hy
   cases ho
   exact .inl (hHH.at hσ hy)
  ·rw [zv9] at ho
   split at ho
   ·cases ho
   ·rename_i hni
    cases x with
    | rows mt g sz rws =>
     obtain ⟨A, hA, _⟩ := hH'.obj _ _ _ _ _ ho
     exact .inr ⟨hltn _ _ hA, hni, ho⟩
 have hmut : ∀ k, Mut φ3 (zdV HH (zlA rs h')) k → Mut φ2 (mkH H0) k ∨ Mut φ hr k := by
  rintro k ⟨o, g, sz, rws, g', a, bs, ho, hp, rfl⟩
  rcases hsrc o _ ho with ⟨o0, x, rfl, h1, h2⟩ | ⟨h1, hni, h2⟩
  ·cases h2 with
   | rows h2 => rw [e3] at hp; exact .inl ⟨o0, g, sz, _, g', a, bs, h1, hp, rfl⟩
  ·rw [e3' o h1 hni] at hp
   exact .inr ⟨o, g, sz, rws, g', a, bs, by simp only [hr]; rw [if_neg hni]; exact h2, hp, rfl⟩
 have hmnew : ∀ k, Mut φ2 (mkH H0) k → Mut φ0 (mkH HA) k ∨ w.heap.size ≤ k := fun k hk => st.mutd k (hm3 k hk)
 have hsub : ∀ k, Or M0 (Mut φ3 (zdV HH (zlA rs h'))) k → Or M1 (Mut φ2 (mkH H0)) k := fun k hk => hk.elim (fun h => .inl (.inl h)) fun h => (hmut k h).elim .inr fun h => .inl (.inr h)
 have hmutd : ∀ k, Mut φ3 (zdV HH (zlA rs h')) k → Mut φ h' k ∨ w.heap.size ≤ k := fun k hk =>
  (hmut k hk).elim (fun h => (hmnew k h).imp (hgmut' k) id) fun h => .inl (hrmut k h)
 have hsub' : ∀ k, Or M0 (Mut φ3 (zdV HH (zlA rs h'))) k → Or M0 (Mut φ h') k ∨ w.heap.size ≤ k := fun k hk => hk.elim (fun h => .inl (.inl h)) fun h => (hmutd k h).imp .inr id
 have hblk : ∀ o x g' a bs, h' o = some x → φ o = some (g', some (a, bs)) → a.block < w.heap.size := by
  intro o x g' a bs ho hp
  cases x with
  | rows mt g sz rws =>
   obtain ⟨A, hA, hc⟩ := hH'.obj _ _ _ _ _ ho
   rw [hp] at hA
   simp only [Option.some.injEq, Prod.mk.injEq] at hA
   obtain ⟨rfl, rfl⟩ := hA
   rcases hc with ⟨h, _⟩ | ⟨a', bs', h, _, h2⟩
   ·cases h
   ·simp only [Option.some.injEq, Prod.mk.injEq] at h
    obtain ⟨rfl, rfl⟩ := h
    exact h2.blk
 have hkeep : ∀ o mt g sz rws g' a bs, o ∉ rs → h' o = some (.rows mt g sz rws) → φ o = some (g', some (a, bs)) → ¬ Mut φ0 (mkH HA) a.block := by
  intro o mt g sz rws g' a bs hni ho hp hk
  obtain ⟨j, hj, g1, sz1, rws1, g1', a1, bs1, q1, q2, q3⟩ := hgmut _ hk
  obtain rfl := hgen ho hp
  obtain rfl := hgen q1 q2
  exact hH'.inj _ _ _ _ _ _ _ _ _ _ _ _ _ _ q1 ho (fun e => hni (e ▸ zhm (by omega))) (.inl rfl) q2 hp q3
 have hfar : ∀ o0 mt g sz rws g' a bs o' y g1 a' b', mkH H0 o0 = some (.rows mt g sz rws) → φ2 o0 = some (g', some (a, bs)) → o' ∉ rs → h' o' = some y → φ o' = some (g1, some (a', b')) →
   (mt = true ∨ ∃ g sz rs, y = .rows true g sz rs) → a.block ≠ a'.block := by
  intro o0 mt g sz rws g' a bs o' y g1 a' b' q1 q2 hni q3 q4 hmm
  have hb1 := hblk _ _ _ _ _ q3 q4
  rcases hmm with rfl | ⟨g2, sz2, rs2, rfl⟩
  ·rcases hmnew a.block ⟨o0, g, sz, rws, _, a, bs, q1, q2, rfl⟩ with hk | hk
   ·intro he
    cases y with
    | rows mt1 g1' sz1 rws1 => exact hkeep _ _ _ _ _ _ _ _ hni q3 q4 (he ▸ hk)
   ·omega
  ·intro he
   obtain ⟨A, hA, hc⟩ := hH3.obj _ _ _ _ _ q1
   rw [q2] at hA
   simp only [Option.some.injEq, Prod.mk.injEq] at hA
   obtain ⟨_, rfl⟩ := hA
   rcases hc with ⟨h, _⟩ | ⟨a1, bs1, h, hn0, _⟩
   ·cases h
   ·simp only [Option.some.injEq, Prod.mk.injEq] at h
    obtain ⟨rfl, rfl⟩ := h
    exact hn0 (.inr ⟨o', g2, sz2, rs2, _, a', b', by simp only [hr]; rw [if_neg hni]; exact q3, q4, he.symm⟩)
 refine ⟨v, φ3, R, zdV HH (zlA rs h'), n + (k2 - m), rfl, hk, ⟨fun k hk => Nat.lt_of_lt_of_le (hH.m0 k hk) st.fr.size, fun o ho => ?_, fun o mt g sz rws ho => ?_, fun o o' mt g sz rws mt' g' sz' rws' a a' b b' ho ho' hne hmm hp hp' => ?_,
   hH'.glob.keep (fun k hn hk => hheap k hk (fun hg => hn (.inr (hgmut' k hg)))) hsub'⟩,
  hR.rel e3 hsub hx3, st0.trans ⟨hle3, hsub', ⟨st.fr.os, st.fr.tape, st.fr.output, st.fr.drawn, st.fr.size, fun k hk hn => hheap k hk (fun hg => hn (hgmut' k hg))⟩, hmutd⟩⟩
 ·have h1 : ren rs n (o - n + m) = o := by unfold ren; rw [if_neg (by omega)]; omega
  rw [← h1, e3]; exact hH3.fresh _ (by omega)
 ·rcases hsrc o _ ho with ⟨o0, x, rfl, h1, h2⟩ | ⟨h1, hni, h2⟩
  ·cases h2 with
   | rows hs =>
    obtain ⟨A, hA, hc⟩ := hH3.obj _ _ _ _ _ h1
    refine ⟨A, by rw [e3]; exact hA, hc.imp (fun h => ⟨h.1, ?_⟩) ?_⟩
    ·obtain ⟨_, rfl⟩ := h
     exact List.eq_nil_of_length_eq_zero hs.shape.1
    ·rintro ⟨a, bs, c1, c3, hd⟩
     exact ⟨a, bs, c1, fun hk => c3 (.inl hk), hd.turn rfl hs.shape.1 (hs.shape.2.1 sz) (fun c9 => hs.rel e3 hsub c9)⟩
  ·obtain ⟨A, hA, hc⟩ := hH'.obj _ _ _ _ _ h2
   refine ⟨A, by rw [e3' o h1 hni]; exact hA, hc.imp id ?_⟩
   rintro ⟨a, bs, c1, c3, hd⟩
   exact ⟨a, bs, c1, c3, hd.keep (hheap _ hd.blk (hkeep _ _ _ _ _ _ _ _ hni h2 (by rw [hA, c1]))) (fun c9 => c9.keep hle3 (fun k hn hk => hheap k hk (fun hg => hn (.inr (hgmut' k hg)))) hsub')⟩
 ·rcases hsrc o _ ho with ⟨o0, x, rfl, q1, q2⟩ | ⟨q1, qn, q2⟩ <;> rcases hsrc o' _ ho' with ⟨o0', x', rfl, q1', q2'⟩ | ⟨q1', qn', q2'⟩
  ·cases q2; cases q2'
   rw [e3] at hp hp'
   exact hH3.inj _ _ _ _ _ _ _ _ _ _ _ _ _ _ q1 q1' (fun e => hne (by rw [e])) hmm hp hp'
  ·cases q2
   rw [e3] at hp; rw [e3' o' q1' qn'] at hp'
   exact hfar _ _ _ _ _ _ _ _ _ _ _ _ _ q1 hp qn' q2' hp' (hmm.imp id fun h => by subst h; exact ⟨_, _, _, rfl⟩)
  ·cases q2'
   rw [e3' o q1 qn] at hp; rw [e3] at hp'
   exact Ne.symm (hfar _ _ _ _ _ _ _ _ _ _ _ _ _ q1' hp' qn q2 hp (hmm.symm.imp id fun h => by subst h; exact ⟨_, _, _, rfl⟩))
  ·rw [e3' o q1 qn] at hp; rw [e3' o' q1' qn'] at hp'
   exact hH'.inj _ _ _ _ _ _ _ _ _ _ _ _ _ _ q2 q2' hne hmm hp hp'
theorem Bel.mono {n m : Nat} (hnm : n ≤ m) {x : AV} (h : Bel n x) : Bel m x := by
 induction h with
 | top => exact .top
 | v x => exact .v x
 | agg _ ih => exact .agg ih
 | tup _ ih => exact .tup ih
 | lst _ ih => exact .lst ih
 | fp _ ih => exact .fp ih
 | ref h => exact .ref (by omega)
 | sl h => exact .sl (by omega)
 | mp h => exact .mp (by omega)
 | fn _ _ ih1 ih2 => exact .fn ih1 ih2
 | gd _ ih => exact .gd ih
theorem zBf {P : Program} {n : Nat} {ops : List Oper} {Q : zbQ} {m i : Nat} {rest : List Oper} {e : Env} {h : zao} {acc : List zeR} {dst : Option Tmp} {f : FuncId} {first caps args args0 : List AV} {R0 R : AV} {o : Nat} {mt : Bool} {g g' sz : Nat} {rws rws' : List (List AV)}
  (hp : zhW P f args0 [(0, .rows mt g sz rws)] 1 R0 [(0, .rows true g' sz rws')] 1) (ho : h o = some (.rows mt g sz rws)) (hcl : ∀ r ∈ rws, ∀ c ∈ r, Bel 0 c) (hcl' : ∀ r ∈ rws', ∀ c ∈ r, Bel 0 c)
  (hargs : ∀ n₁, RnL (ren [o] n₁) args0 (first ++ args ++ caps)) (hb0 : ∀ c ∈ args0, Bel 1 c) (hb : ∀ n₁, o < n₁ → ∀ c ∈ first ++ args ++ caps, Bel n₁ c)
  (hR : ∀ n₁, Rn (ren [o] n₁) R0 R) (hfl : zqG R ∨ ∃ g sz i len, R = .sl o g sz i len)
  (hk : adr P n ops Q m (i + 1) rest (put e dst R) (upd h o (some (.rows true g' sz rws'))) (acc ++ [([o], [o])])) : zaw P n ops Q m i rest dst (.fn (.func f) first caps) args e h acc := by
 refine ⟨R, [o], [(o, some (.rows true g' sz rws'))], .inr (.inr (.inl ⟨f, first, caps, rfl, ?_, ?_, ?_, fun h₁ n₁ hx hn => ?_⟩)), hk⟩
 ·intro o' ho'
  simp only [List.mem_singleton] at ho'
  subst ho'
  exact ⟨_, ho⟩
 ·intro p hp
  simp only [List.mem_singleton] at hp
  subst hp
  exact ⟨by simp, g', sz, rws', rfl, hcl'⟩
 ·exact hfl.imp id fun ⟨g, sz, i, len, h⟩ => ⟨o, g, sz, i, len, h, by simp⟩
 ·have hon := hn o (by simp)
  have r0 : ren [o] n₁ 0 = o := rfl
  refine zAX (args' := first ++ args ++ caps) (HH := [(o, .rows true g' sz rws')]) [o] h₁ hp (by simp) (by simpa using hon) rfl (Nat.le_refl _) (.refl _) ?_ ?_ (.refl _ _ _ _) (hb n₁ hon) (hargs n₁) hb0 (hR n₁)
   (.cons r0.symm (.rows (.same hcl')) .nil) ⟨rfl, ?_, rfl⟩
  ·intro j hj
   obtain rfl : j = 0 := by omega
   exact ⟨.rows mt g sz rws, .rows mt g sz rws, by simp [mkH, zat], by rw [r0, ← hx o (by simp)]; exact ho, .rows (.same hcl)⟩
  ·intro p hp
   simp only [List.mem_singleton] at hp
   subst hp
   refine ⟨by simp, fun r hr c hc => ?_⟩
   exact Bel.mono (Nat.zero_le _) (hcl r hr c hc)
  ·funext a
   simp only [zdV, zlA, zai, upd]
   split <;> rfl
theorem zA2 {P : Program} {n : Nat} {ops : List Oper} {Q : zbQ} {m i : Nat} {rest : List Oper} {e : Env} {h : zao} {acc : List zeR} {dst : Option Tmp} {f : FuncId} {first caps args args' : List AV} {R : Nat → AV} {HH : Nat → List (Nat × zbn)} {k2 : Nat}
  (b : Nat) (hbb : b = n + ops.length + 16 * i) (hp : zgS P f args' R HH k2) (hk16 : k2 ≤ 16) (hnR : zft (R 0)) (hnH : ∀ p ∈ HH 0, zoW p.2) (hle : ∀ h₁ : zao, zan h₁ noH 0 (first ++ args ++ caps) args') (hb : ∀ c ∈ args', Bel 0 c)
  (hnd : ((HH b).map (·.1)).Nodup) (hk : adr P n ops Q m (i + 1) rest (put e dst (R b)) (zdV (HH b) h) (acc ++ [([zdm], (HH b).map (·.1))])) : zaw P n ops Q m i rest dst (.fn (.func f) first caps) args e h acc := by
 subst hbb
 refine ⟨R _, [zdm], (HH (n + ops.length + 16 * i)).map (fun p => (p.1, some p.2)), .inr (.inr (.inr ⟨f, first, caps, args', R 0, HH 0, HH (n + ops.length + 16 * i), k2, rfl, by simp, hk16, hb, hp.1, hnR, hnH, (hp.2 _).1, (hp.2 _).2, hnd, rfl, fun h₁ _ => hle h₁⟩)), ?_⟩
 rw [zfY hnd, List.map_map]
 exact hk
end Go.Av
end
section
open Go Go.Proofs
namespace Go.Av
theorem zqN (l : List StD) : zd9 l [] = l := rfl
theorem zt2 (l more : List StD) (s : StD) : zd9 l (more ++ [s]) = if s ∈ zd9 l more then zd9 l more else zd9 l more ++ [s] := by
 unfold zd9; rw [List.foldl_append]; rfl
theorem zng (l more : List StD) {i : Nat} (h : i < more.length) : zd9 l (more.take (i + 1)) = if nth more i ∈ zd9 l (more.take i) then zd9 l (more.take i) else zd9 l (more.take i) ++ [nth more i] := by
 rw [List.take_add_one, List.getElem?_eq_getElem h, zau _ _ h, Option.toList_some, zt2]
theorem zgm : ∀ (more l : List StD), l.length ≤ (zd9 l more).length ∧ (zd9 l more).length ≤ l.length + more.length
 | [], l => by simp [zd9]
 | s :: more, l => by
  have e : zd9 l (s :: more) = zd9 (if s ∈ l then l else l ++ [s]) more := rfl
  rw [e]
  by_cases h : s ∈ l
  ·have := zgm more l
   rw [if_pos h]; simp; omega
  ·have := zgm more (l ++ [s])
   rw [if_neg h]; simp at this ⊢; omega
theorem zh9 {P : StD → Prop} : ∀ {more l : List StD}, (∀ s ∈ l, P s) → (∀ s ∈ more, P s) → ∀ s ∈ zd9 l more, P s
 | [], l, h, _ => h
 | s :: more, l, h, h' => by
  have e : zd9 l (s :: more) = zd9 (if s ∈ l then l else l ++ [s]) more := rfl
  rw [e]
  refine zh9 (fun t ht => ?_) (fun t ht => h' t (List.mem_cons_of_mem _ ht))
  split at ht
  ·exact h t ht
  ·rcases List.mem_append.1 ht with ht | ht
   ·exact h t ht
   ·simp at ht; subst ht; exact h' _ (by simp)
theorem zrF (l more : List StD) (hl : l.length + more.length ≤ 17179869184) (h1 : ∀ s ∈ l, zaK s.p) (h2 : ∀ s ∈ more, zaK s.p) :
  zhW Tryz.prog 308 [.sl 0 l.length 8 0 l.length, zbb more] [(0, .rows true l.length 8 (l.map zal))] 1 (.sl 0 (zd9 l more).length 8 0 (zd9 l more).length) [(0, .rows true (zd9 l more).length 8 ((zd9 l more).map zal))] 1 := by
 unfold zhW
 refine zAJ (by kernel_rfl) Tryz.func308 rfl rfl (Nat.le_of_ble_eq_true rfl) (by kernel_rfl) ?_
 repeat first|refine wV fun _=>?_|simp [go_sem]
 refine zAC (zAG (α := Nat × List StD) (fun a => ⟨[(0, .sl 0 a.2.length 8 0 a.2.length), (1, zbb more), (5, .v (.int .i64 a.1))], [(0, .rows true a.2.length 8 (a.2.map zal))], 1⟩)
  (fun d a => a.1 + d = more.length ∧ a.2 = zd9 l (more.take a.1)) ?_ more.length (0, l) ?_) ?_ ?_
 ·rintro d ⟨i, out⟩ ⟨i1, i2⟩ hrec
  simp only at i1 i2
  have hol := zgm (more.take i) l
  rw [← i2] at hol
  have hof : ∀ s ∈ out, zaK s.p := by rw [i2]; exact zh9 h1 (fun s hs => h2 s (List.mem_of_mem_take hs))
  repeat first|refine wV fun _=>?_|simp [go_sem]
  refine zAE (fun hi => ?_) (fun hi => ?_) <;> simp at hi
  ·have htl : (more.take i).length = i := by simp; omega
   have hfi := h2 _ (zaj hi)
   have hsu := zng l more hi
   rw [← i2] at hsu
   repeat first|refine wV fun _=>?_|simp [go_sem]
   refine zAC (zAG (α := Nat) (fun k => ⟨[(0, .sl 0 out.length 8 0 out.length), (1, zbb more), (5, .v (.int .i64 i)), (6, .v (.bool (decide (nth more i ∈ out.take k)))), (7, .v (.int .i64 k))], [(0, .rows true out.length 8 (out.map zal))], 1⟩)
    (fun d k => k + d = out.length) ?_ out.length 0 ?_) ?_ ?_
   ·rintro d2 k k1 hrec2
    repeat first|refine wV fun _=>?_|simp [go_sem]
    refine zAE (fun hk => ?_) (fun hk => ?_) <;> simp at hk
    ·have hfk := hof _ (zaj hk)
     have htk : out.take (k + 1) = out.take k ++ [nth out k] := by rw [List.take_add_one, List.getElem?_eq_getElem hk, zau _ _ hk]; rfl
     repeat first|refine wV fun _=>?_|simp [go_sem, hi, hk]
     refine zAO _ (fun _ => zpe _ _ hfk hfi) (by simp [go_sem]) ?_
     repeat first|refine wV fun _=>?_|simp [go_sem, hi, hk]
     refine zAC (hrec2 (d2 - 1) (by omega) (k + 1) (by omega)) ?_ (by simp)
     simp [go_sem, zaf, htk, eq_comm (a := nth more i) (b := nth out k)]
    ·have hkl : k = out.length := by omega
     subst hkl
     repeat first|refine wV fun _=>?_|simp [go_sem]
     by_cases hm : nth more i ∈ out
     ·rw [if_pos hm] at hsu
      repeat first|refine wV fun _=>?_|simp [go_sem, hm]
      refine zAC (hrec (d - 1) (by omega) (i + 1, out) ⟨by simp only; omega, hsu.symm⟩) ?_ (by simp)
      simp [go_sem, zaf]
     ·rw [if_neg hm] at hsu
      repeat first|refine wV fun _=>?_|simp [go_sem, hm, hi]
      refine zAC (hrec (d - 1) (by omega) (i + 1, out ++ [nth more i]) ⟨by simp only; omega, hsu.symm⟩) ?_ (by simp)
      simp [go_sem, zaf]
   ·omega
   ·simp [go_sem, zaf]
   ·simp
  ·have hil : i = more.length := by omega
   subst hil
   rw [List.take_length] at i2
   rw [← i2]
   repeat first|refine wV fun _=>?_|simp [go_sem]
   simp [go_sem, zaf]
 ·simp [zqN]
 ·simp [go_sem, zaf]
 ·simp
theorem zpb (g : zad) (hg : GOk g) (s : StD) (hs : zeS g s) (x : Int × Int) (hx : zea g.next.length g.kinds.length g.rights x) :
  zaP Tryz.prog 309 [.agg (zae g), .agg (zal s), .agg (zaO x)] (zbb (zbG g s x)) := by
 refine pF Tryz.func309 ?_
 have hal := hs.p.al
 have hc0 := hs.c0
 have hc1 := hs.c1
 have hcur : s.cursor.toNat < s.p.at_.length := by omega
 have hat := hs.p.at (i := s.cursor.toNat) (by omega)
 have hO := ze2 (nth s.p.at_ s.cursor.toNat)
 have hTo := fun n => ziv g.board hg.board s.p.side n s.cursor
 have hOn := fun u b => zpc u b
 have hSl := fun n => znd g hg s hs n
 have hTk := zpf g hg s hs
 have hPu := fun n => zpd g hg s hs n
 have r0 := hg.r0
 have r4 := hg.r4
 obtain ⟨op, n⟩ := x
 obtain ⟨xo, xd, xz, xk, xr⟩ := hx
 simp only at xo xd xz xk xr
 unfold zbG
 generalize hm : zak (nth s.p.at_ s.cursor.toNat) = m at *
 obtain ⟨mk, ms⟩ := m
 repeat first|refine wV fun _=>?_|simp [go_sem, hcur]
 refine zAD hO (by simp [go_sem]) ?_
 rcases (show op = 1 ∨ op = 2 ∨ op = 3 ∨ op = 4 ∨ op = 5 ∨ op = 6 ∨ op = 7 ∨ op = 8 ∨ op = 9 ∨ op = 10 by omega) with rfl | rfl | rfl | rfl | rfl | rfl | rfl | rfl | rfl | rfl
 ·repeat first|refine wV fun _=>?_|simp [go_sem]
  refine zAD (hTo n) (by simp [go_sem]) ?_
  repeat first|refine wV fun _=>?_|simp [go_sem]
  refine zAD (hOn { s with cursor := toB g.board s.p.side n s.cursor } _) (by simp [go_sem]) ?_
  repeat first|refine wV fun _=>?_|simp [go_sem]
 ·repeat first|refine wV fun _=>?_|simp [go_sem]
  refine zAD (hSl n) (by simp [go_sem]) ?_
  repeat first|refine wV fun _=>?_|simp [go_sem]
 ·repeat first|refine wV fun _=>?_|simp [go_sem]
  refine zAD (hOn s _) (by simp [go_sem]) ?_
  repeat first|refine wV fun _=>?_|simp [go_sem]
 ·repeat first|refine wV fun _=>?_|simp [go_sem]
  refine zAD (hOn s _) (by simp [go_sem]) ?_
  repeat first|refine wV fun _=>?_|simp [go_sem]
 ·repeat first|refine wV fun _=>?_|simp [go_sem]
  refine zAD (hOn s _) (by simp [go_sem]) ?_
  repeat first|refine wV fun _=>?_|simp [go_sem]
 ·repeat first|refine wV fun _=>?_|simp [go_sem]
  refine zAD hTk (by simp [go_sem]) ?_
  repeat first|refine wV fun _=>?_|simp [go_sem]
 ·repeat first|refine wV fun _=>?_|simp [go_sem]
  refine zAD (hPu n) (by simp [go_sem]) ?_
  repeat first|refine wV fun _=>?_|simp [go_sem]
 ·repeat first|refine wV fun _=>?_|simp [go_sem]
  exact frX
 ·have hn := xr (by omega)
  repeat first|refine wV fun _=>?_|simp [go_sem]
  refine zAF (hOn s _) (by simp [go_sem]) ?_
  repeat first|refine wV fun _=>?_|simp [go_sem]
 ·have hn := xr (by omega)
  have hpn := zim hn.1 (show n ≤ 4 by omega)
  repeat first|refine wV fun _=>?_|simp [go_sem]
  exact frX
end Go.Av
end
section
/- Our library: ranges zdV functions, and iterators: equations and steps. -/
namespace Go.Av
open Go
section
variable {P : Program} {n0 : Nat} {Q : zbQ} {e : Env} {h : zao} {n : Nat} {ops rest : List Oper}
def zdP (P : Program) (n0 : Nat) (ps : List Tmp) (a b : Code) (Q : zbQ) (v : AV) (e : Env) (h : zao) (n : Nat) : Prop :=
 (∃ f caps caps' more rows h', v = .fn (.func f) [] caps ∧ Frz h h' ∧ zan h h' n caps caps' ∧ (∀ c ∈ caps', Bel 0 c) ∧ zlQ P f caps' more rows ∧
  (∀ xs ∈ rows, xs.length = ps.length) ∧ Fgt n0 (zbh n0 more ps (fun n1 => awp P n1 a) (fun n1 => awp P n1 b) Q rows) e h' n) ∨
 (∃ f caps caps' o gn sz rs rs' more rows h', v = .fn (.func f) [] caps ∧ Frz h h' ∧ h' o = some (.rows true gn sz rs) ∧ zam h h' n rs rs' ∧ (∀ r ∈ rs', ∀ c ∈ r, Bel 0 c) ∧
  zfT h h' n o caps caps' ∧ zoX P f caps' [(0, .rows true gn sz rs')] 1 more rows ∧
  (∀ xs ∈ rows, xs.length = ps.length) ∧ Fgt n0 (zbh n0 more ps (fun n1 => awp P n1 a) (fun n1 => awp P n1 b) Q rows) e (upd h' o none) n)
theorem zmd (g : Operand) (ps : List Tmp) (a b : Code) : awp P n0 (.rangeFunc g ps.toArray a b) Q e h n = zdP P n0 ps a b Q (ev e g) e h n := rfl
@[congr] theorem zyK {ps : List Tmp} {a b : Code} {v v' : AV} (hv : v = v') : zdP P n0 ps a b Q v e h n = zdP P n0 ps a b Q v' e h n := by subst hv; rfl
theorem zdP.mk {ps : List Tmp} {a b : Code} {f : FuncId} {caps : List AV} (caps' : List AV) (h' : zao) {more : Nat} {rows : List (List AV)} (C : zlQ P f caps' more rows) (hfz : Frz h h') (hle : zan h h' n caps caps') (hb : ∀ c ∈ caps', Bel 0 c)
  (hlen : ∀ xs ∈ rows, xs.length = ps.length) (hk : Fgt n0 (zbh n0 more ps (fun n1 => awp P n1 a) (fun n1 => awp P n1 b) Q rows) e h' n) : zdP P n0 ps a b Q (.fn (.func f) [] caps) e h n :=
 .inl ⟨f, caps, caps', more, rows, h', rfl, hfz, hle, hb, C, hlen, hk⟩
theorem zdP.give {ps : List Tmp} {a b : Code} {f : FuncId} {caps : List AV} (caps' : List AV) (h' : zao) (o : Nat) {gn sz : Nat} {rs : List (List AV)} (rs' : List (List AV)) {more : Nat} {rows : List (List AV)}
  (C : zoX P f caps' [(0, .rows true gn sz rs')] 1 more rows) (hfz : Frz h h') (ho : h' o = some (.rows true gn sz rs)) (hr : zam h h' n rs rs') (hbr : ∀ r ∈ rs', ∀ c ∈ r, Bel 0 c) (hg : zfT h h' n o caps caps')
  (hlen : ∀ xs ∈ rows, xs.length = ps.length) (hk : Fgt n0 (zbh n0 more ps (fun n1 => awp P n1 a) (fun n1 => awp P n1 b) Q rows) e (upd h' o none) n) : zdP P n0 ps a b Q (.fn (.func f) [] caps) e h n :=
 .inr ⟨f, caps, caps', o, gn, sz, rs, rs', more, rows, h', rfl, hfz, ho, hr, hbr, hg, C, hlen, hk⟩
theorem zAY {ps : List Tmp} {a b : Code} {more : Nat} {xs : List AV} {rs : List (List AV)} (hn : n0 ≤ n)
  (hk : awp P n a (ztU (awp P n b (zit (Fgt n0 (zbh n0 more ps (fun n1 => awp P n1 a) (fun n1 => awp P n1 b) Q rs)) Q e))) (zfk ps xs e) h n) :
  zbh n0 more ps (fun n1 => awp P n1 a) (fun n1 => awp P n1 b) Q (xs :: rs) e h n := ⟨hn, hk⟩
theorem Fgt.to {K : Env → zao → Nat → Prop} {E : List (Nat × AV)} {HH : List (Nat × zbn)} {n' : Nat} (hk : K (mkE E) (mkH HH) n') (hw : Wk e h n E HH n') (hn : n0 ≤ n') : Fgt n0 K e h n := .inr ⟨E, HH, n', hw, hn, hk⟩
theorem zAU {α : Type} (S : α → List (Nat × AV) × List (Nat × zbn) × Nat) (inv : List (List AV) → α → Prop) {ps : List Tmp} {A B : Nat → zbQ → Env → zao → Nat → Prop} {more : Nat}
  (h0 : ∀ d, inv [] d → more = 0 ∧ Q .normal (mkE (S d).1) (mkH (S d).2.1) (S d).2.2)
  (h1 : ∀ xs rs d, inv (xs :: rs) d → (∀ d', inv rs d' → zbh n0 more ps A B Q rs (mkE (S d').1) (mkH (S d').2.1) (S d').2.2) → zbh n0 more ps A B Q (xs :: rs) (mkE (S d).1) (mkH (S d).2.1) (S d).2.2) :
  ∀ rows d, inv rows d → zbh n0 more ps A B Q rows (mkE (S d).1) (mkH (S d).2.1) (S d).2.2
 | [], d, hi => h0 d hi
 | xs :: rs, d, hi => h1 xs rs d hi fun d' hi' => zAU S inv h0 h1 rs d' hi'
theorem zna {K : Env → zao → Nat → Prop} : ztU K .normal e h n = K e h n := rfl
theorem zlS {K : Env → zao → Nat → Prop} {e0 : Env} : zit K Q e0 .normal e h n = K (upd e0 GH (e GH)) h n := rfl
theorem zrz {K : Env → zao → Nat → Prop} {e0 : Env} : zit K Q e0 .ret e h n = Q .ret (upd e0 GH (e GH)) h n := rfl
theorem zo0 {K : Env → zao → Nat → Prop} {e0 : Env} {id : Nat} : zit K Q e0 (.exit id) e h n = Q (.exit id) (upd e0 GH (e GH)) h n := rfl
theorem zv6 {xs : List AV} : zfk [] xs e = e := by simp [zfk]
theorem ztd {t : Tmp} {ps : List Tmp} {x : AV} {xs : List AV} : zfk (t :: ps) (x :: xs) e = zfk ps xs (upd e t x) := rfl
theorem zpi {rs : List ResultVar} {l more : Nat} : RetI P rs l more .normal e h n = ((zm0 P e h rs).1 ∧ ((more = 0 ∧ e GH = za2 l 0 []) ∨ e GH = za2 l 2 [])) := rfl
theorem zwQ {rs : List ResultVar} {l more : Nat} : RetI P rs l more .ret e h n = ((zm0 P e h rs).1 ∧ ((more = 0 ∧ e GH = za2 l 0 []) ∨ e GH = za2 l 2 [])) := rfl
theorem zoP.mk {dst : Option Tmp} {l more : Nat} {args xs : List AV} {rs : List (List AV)} (h' : zao) (hg : e GH = za2 l more (xs :: rs)) (hfz : Frz h h') (hle : zan h h' n args xs) (hb : ∀ c ∈ xs, Bel 0 c)
  (hT : zbd P ops Q rest (put (upd e GH (za2 l more rs)) dst (.v (.bool true))) h' n) (hF : zbd P ops Q rest (put (upd e GH (za2 l 2 [])) dst (.v (.bool false))) h' n) : zoP P ops Q rest dst l args e h n :=
 ⟨l, more, xs :: rs, rfl, hg, h', hfz, hle, hb, hT, hF⟩
theorem zoP.exh {dst : Option Tmp} {l : Nat} {args : List AV} (hg : e GH = za2 l 1 []) : zoP P ops Q rest dst l args e h n := ⟨l, 1, [], rfl, hg, rfl⟩
theorem aGC.yld {dst : Option Tmp} {l more : Nat} {args xs : List AV} {rs : List (List AV)} (h' : zao) (hg : e GH = za2 l more (xs :: rs)) (hfz : Frz h h') (hle : zan h h' n args xs) (hb : ∀ c ∈ xs, Bel 0 c)
  (hT : zbd P ops Q rest (put (upd e GH (za2 l more rs)) dst (.gd true (.v (.bool true)))) h' n) (hF : zbd P ops Q rest (put (upd e GH (za2 l 2 [])) dst (.gd true (.v (.bool false)))) h' n) :
  aGC P ops Q rest dst true (.fn (.yield l) [] []) args e h n := .inr (.inr ⟨rfl, l, more, xs :: rs, rfl, hg, h', hfz, hle, hb, hT, hF⟩)
theorem aGC.exh {dst : Option Tmp} {l : Nat} {args : List AV} (hg : e GH = za2 l 1 []) : aGC P ops Q rest dst true (.fn (.yield l) [] []) args e h n := .inr (.inr ⟨rfl, l, 1, [], rfl, hg, rfl⟩)
theorem zm6 {h h' : zao} {o : Nat} : zfT h h' n o [] [] = True := eq_true .nil
theorem zm7 {h h' : zao} {o g sz i off : Nat} {xs ys : List AV} : zfT h h' n o (.ref o g sz i off :: xs) (.ref 0 g sz i off :: ys) = zfT h h' n o xs ys := by
 refine propext ⟨fun hg => ?_, .ref⟩
 cases hg with
 | ref t => exact t
 | le hx hb t => cases hb with | ref hb => exact absurd hb (Nat.not_lt_zero _)
theorem zqI {h h' : zao} {o : Nat} {x : AV} {cells xs ys : List AV} : zfT h h' n o (x :: xs) (.fp cells :: ys) = (LeV h h' n x (.fp cells) ∧ (∀ c ∈ cells, Bel 0 c) ∧ zfT h h' n o xs ys) := by
 refine propext ⟨fun hg => ?_, fun ⟨h1, h2, h3⟩ => .le h1 (.fp h2) h3⟩
 cases hg with
 | le hx hb t => cases hb with | fp hb => exact ⟨hx, hb, t⟩
attribute [go_sem] zm6 zm7 zqI
attribute [go_sem] zmd zna zlS zrz zo0 zv6 ztd zpi zwQ zpm
end
end Go.Av
end
section
open Go Go.Proofs
namespace Go.Av
def zb6 (b : zaJ) (side d : Int) : Nat → Int → List Int
 | 0, _ => []
 | k + 1, x => if 0 ≤ x then x :: zb6 b side d k (toB b side d x) else []
def zbm (b : zaJ) (side d : Int) : Nat → Int → Nat
 | 0, x => if 0 ≤ x then 1 else 0
 | k + 1, x => if 0 ≤ x then zbm b side d k (toB b side d x) else 0
theorem zjZ {b : zaJ} {side d : Int} : ∀ {k : Nat} {x : Int}, zbm b side d k x ≠ 2
 | 0, x => by unfold zbm; split <;> omega
 | k + 1, x => by unfold zbm; split; exact zjZ; omega
theorem zty (b : zaJ) (hb : za1 b) (side d c : Int) (k : Nat) : zlQ Tryz.prog 306 [.fp (zdC b), .fp [.v (.int .i64 side)], .fp [.v (.int .i64 d)], .fp [.v (.int .i64 c)]]
  (zbm b side d k (toB b side d c)) ((zb6 b side d k (toB b side d c)).map zbB) := by
 refine zAV (by kernel_rfl) Tryz.func306 rfl rfl (Nat.le_of_ble_eq_true rfl) (by kernel_rfl) (fun l => ?_) (hm2 := zjZ)
 have hbl : ∀ n, (∀ c' ∈ zdC b, Bel n c') = True := fun n => by simp [go_sem]
 have hel : (zdC b).length = 3 := rfl
 have hT : ∀ x, zaP Tryz.prog 243 [.agg (zdC b), .v (.int .i64 side), .v (.int .i64 d), .v (.int .i64 x)] (.v (.int .i64 (toB b side d x))) := fun x => zic b hb side d x
 have hg : ∀ (n k : Nat) (x : Int), Bel n (za2 l (zbm b side d k x) ((zb6 b side d k x).map zbB)) := fun n k x => by
  simp only [za2, zm2, zir, List.forall_mem_cons, ztM, zbR]
  simp [go_sem]
 obtain ⟨eb, heb⟩ : ∃ eb, eb = zdC b := ⟨_, rfl⟩
 rw [← heb] at hbl hel hT ⊢
 have hte : eb.take 3 = eb := List.take_of_length_le (by omega)
 repeat first|refine wV fun _=>?_|simp [go_sem, hel, GH, hte]
 refine zAD (hT c) (by simp [go_sem, hbl]) ?_
 repeat first|refine wV fun _=>?_|simp [go_sem, hel, GH, hte]
 refine zAC (zAG (α := Nat × Int) (fun a => ⟨[(0, .fn (.yield l) [] []), (1, .fp eb), (2, .fp [.v (.int .i64 side)]), (3, .fp [.v (.int .i64 d)]), (6, .v (.int .i64 a.2)), (1000000007, za2 l (zbm b side d a.1 a.2) ((zb6 b side d a.1 a.2).map zbB))], [], 0⟩)
  (fun f a => f = a.1 ∧ zbm b side d a.1 a.2 = zbm b side d k (toB b side d c)) ?_ k (k, toB b side d c) ?_) ?_ ?_
 ·rintro f ⟨k', x⟩ ⟨i1, i2⟩ hrec
  simp only at i1 i2
  subst i1
  repeat first|refine wV fun _=>?_|simp [go_sem, hel, GH, hte]
  by_cases hx : 0 ≤ x
  ·simp only [hx, decide_true]
   cases f with
   | zero => exact aGC.exh (by simp [upd, GH, zbm, zb6, hx])
   | succ f =>
    refine aGC.yld (more := zbm b side d f (toB b side d x)) (xs := [.v (.int .i64 x)]) (rs := (zb6 b side d f (toB b side d x)).map zbB) noH (by simp [upd, GH, zbm, zb6, hx, zbB]) (.refl _) (.refl _ _ _ _) (by simp [go_sem]) ?_ ?_
    ·repeat first|refine wV fun _=>?_|simp [go_sem, hel, GH, hte]
     refine zAD (hT x) (by simp [go_sem, hbl]) ?_
     repeat first|refine wV fun _=>?_|simp [go_sem, hel, GH, hte]
     rw [zbm, if_pos hx] at i2
     refine zAC (hrec f (by omega) (f, toB b side d x) ⟨rfl, i2⟩) ?_ (by simp)
     simp [go_sem, zaf, hbl, hg, GH]
    ·repeat first|refine wV fun _=>?_|simp [go_sem, hel, GH, hte]
  ·have hm : zbm b side d f x = 0 := by cases f <;> simp [zbm, hx]
   have hr : zb6 b side d f x = [] := by cases f <;> simp [zb6, hx]
   simp only [hx, decide_false]
   refine aGC.skip (.v (.bool false)) ?_
   repeat first|refine wV fun _=>?_|simp [go_sem, hel, GH, hte]
   rw [← i2, hm, hr]
   exact .inl ⟨rfl, rfl⟩
 ·exact ⟨rfl, rfl⟩
 ·simp [go_sem, zaf, hbl, hg, GH]
 ·simp
def zoK (n : Nat) : AV := .fn (.func 306) [] [.ref n 0 3 0 0, .ref (n + 1) 0 1 0 0, .ref (n + 2) 0 1 0 0, .ref (n + 3) 0 1 0 0]
def zoJ (b : zaJ) (side d c : Int) (n : Nat) : List (Nat × zbn) := [(n, .rows true 0 3 [zdC b]), (n + 1, .rows true 0 1 [[.v (.int .i64 side)]]), (n + 2, .rows true 0 1 [[.v (.int .i64 d)]]), (n + 3, .rows true 0 1 [[.v (.int .i64 c)]])]
theorem ztz (b : zaJ) (side d c : Int) : zgS Tryz.prog 290 [.agg (zdC b), .v (.int .i64 side), .v (.int .i64 d), .v (.int .i64 c)] zoK (zoJ b side d c) 4 := by
 refine ⟨?_, fun n => ⟨by simp [go_sem, zoK], by simp [go_sem, zoJ]⟩⟩
 refine zAJ (by kernel_rfl) Tryz.func290 rfl rfl (Nat.le_of_ble_eq_true rfl) (by kernel_rfl) ?_
 repeat first|refine wV fun _=>?_|simp [go_sem, zoK, zoJ]
 simp [go_sem, zaf]
theorem zkR (b : zaJ) (hb : za1 b) (side d c : Int) : zaP Tryz.prog 244 [.agg (zdC b), .v (.int .i64 side), .v (.int .i64 d), .v (.int .i64 c)] (zap (zf7 b side d c)) := by
 refine pF Tryz.func244 ?_
 have hbl : ∀ n, (∀ c' ∈ zdC b, Bel n c') = True := fun n => by simp [go_sem]
 have hel : (zdC b).length = 3 := rfl
 have hS : zgS Tryz.prog 290 [.agg (zdC b), .v (.int .i64 side), .v (.int .i64 d), .v (.int .i64 c)] (fun n => zoK n) (fun n => zoJ b side d c n) 4 := ztz b side d c
 have hQ := fun k => zty b hb side d c k
 simp only [zoK, zoJ] at hS
 have hte : (zdC b).take 3 = zdC b := rfl
 obtain ⟨eb, heb⟩ : ∃ eb, eb = zdC b := ⟨_, rfl⟩
 rw [← heb] at hbl hel hS hQ hte ⊢
 have hc1 := hb.c1
 have hc0 := hb.c0
 repeat first|refine wV fun _=>?_|simp [go_sem, hel, hte, GH]
 refine zAH hS (by simp [go_sem, hbl]) ?_
 repeat first|refine wV fun _=>?_|simp [go_sem, hel, hte, GH]
 refine zdP.mk [.fp eb, .fp [.v (.int .i64 side)], .fp [.v (.int .i64 d)], .fp [.v (.int .i64 c)]] (zbt _ [3, 4, 5, 6]) (hQ (b.cells.toNat + 1)) (zcw _ _) ?_ (by simp [go_sem, hbl]) (by simp [zbB]) ?_
 ·refine zan.cons (.frzP rfl ?_ ?_ ?_ ?_) (zan.cons (.frzP rfl ?_ ?_ ?_ ?_) (zan.cons (.frzP rfl ?_ ?_ ?_ ?_) (zan.cons (.frzP rfl ?_ ?_ ?_ ?_) .nil))) <;> first | exact zan.refl _ _ _ _ | simp [zbt, zbV, upd]
 refine Fgt.to (zAU (α := Nat × Int × List Int) (fun a => ([(7, .ref 1 0 1 0 0), (9, .ref 2 0 1 0 0)], [(1, .rows true 0 1 [[.v (.int .i64 c)]]), (2, .rows true 0 1 [[.sl 7 a.2.2.length 1 0 a.2.2.length]]), (7, .rows true a.2.2.length 1 (a.2.2.map zbB))], 8))
  (fun rows a => rows = (zb6 b side d a.1 a.2.1).map zbB ∧ zbm b side d a.1 a.2.1 = zbm b side d (b.cells.toNat + 1) (toB b side d c) ∧ a.1 + a.2.2.length = b.cells.toNat + 1 ∧ a.2.1 < b.cells ∧ a.2.2.Nodup ∧
   (∀ y ∈ a.2.2, 0 ≤ y ∧ y < b.cells) ∧ zf7 b side d c = zdI b side d c a.1 a.2.1 a.2.2) ?_ ?_ _ (b.cells.toNat + 1, toB b side d c, []) ?_) ?_ ?_
 ·rintro ⟨f, x, seen⟩ ⟨i0, i1, i2, i3, i4, i5, i6⟩
  simp only at i0 i1 i2 i3 i4 i5 i6
  have hsl : seen.length ≤ b.cells.toNat := zfA _ _ i4 (fun y hy => by have := i5 y hy; omega)
  obtain ⟨f, rfl⟩ : ∃ f', f = f' + 1 := ⟨f - 1, by omega⟩
  have hx : ¬ 0 ≤ x := fun hx => by simp [zb6, hx] at i0
  rw [zbm, if_neg hx] at i1
  rw [zdI, if_neg (fun h => hx h.1)] at i6
  refine ⟨i1.symm, ?_⟩
  rw [i6]
  repeat first|refine wV fun _=>?_|simp [go_sem, hel]
  exact frX
 ·rintro xs rs ⟨f, x, seen⟩ ⟨i0, i1, i2, i3, i4, i5, i6⟩ hrec
  simp only at i0 i1 i2 i3 i4 i5 i6
  have hsl : seen.length ≤ b.cells.toNat := zfA _ _ i4 (fun y hy => by have := i5 y hy; omega)
  cases f with
  | zero => simp [zb6] at i0
  | succ f =>
  have hx : 0 ≤ x := by
   by_cases hx : 0 ≤ x
   ·exact hx
   ·simp [zb6, hx] at i0
  rw [zb6, if_pos hx] at i0
  simp only [List.map_cons, List.cons.injEq] at i0
  obtain ⟨rfl, rfl⟩ := i0
  rw [zbm, if_pos hx] at i1
  rw [zdI] at i6
  refine zAY (Nat.zero_le _) ?_
  repeat first|refine wV fun _=>?_|simp [go_sem, hel, GH, zbB]
  refine zBc [zap seen, .v (.int .i64 x)] (.v (.bool (decide (x ∈ seen)))) (fun _ => zlO seen x (by omega)) (.v _) ?_ (by simp [go_sem]) ?_
  ·refine zan.cons ?_ (zan.cons (.refl _) zan.nil)
   refine LeV.frz rfl ?_ ?_ (zAN ?_) <;> simp [noH, List.take_of_length_le]
  repeat first|refine wV fun _=>?_|simp [go_sem, hel, GH]
  refine zAE (fun hc => ?_) (fun hc => ?_) <;> simp at hc
  ·rw [if_neg (by rintro ⟨h1, h2, h3⟩; rcases hc with h | h <;> contradiction)] at i6
   rw [i6]
   repeat first|refine wV fun _=>?_|simp [go_sem, hel, GH]
   exact frX
  ·rw [if_pos ⟨hx, by simpa using hc⟩] at i6
   repeat first|refine wV fun _=>?_|simp [go_sem, hel, GH]
   refine Fgt.to (hrec (f, toB b side d x, seen ++ [x]) ⟨rfl, i1, by simp only [List.length_append, List.length_singleton]; omega, zeQ hb _ _ _, ?_, ?_, i6⟩) ?_ (by simp)
   ·refine List.nodup_append.2 ⟨i4, by simp, ?_⟩
    intro y hy z hz
    simp at hz
    subst hz
    rintro rfl
    exact hc.2 hy
   ·intro y hy
    rcases List.mem_append.1 hy with h | h
    ·exact i5 y h
    ·simp at h; omega
   ·simp [go_sem, zaf, GH] <;> (first|done|exact blX)
 ·exact ⟨rfl, rfl, by simp, zeQ hb _ _ _, by simp, by simp, rfl⟩
 ·simp [go_sem, zaf]
 ·simp
theorem zfd (c : Int) : zaP Tryz.prog 126 [.v (.int .i64 c)] (.tup [.v (.int .i64 (zak c).1), .v (.int .i64 (zak c).2)]) := by
 refine pF Tryz.func126 ?_
 unfold zak
 by_cases h1 : c < 1
 ·rw [if_neg (by omega)]
  repeat first|refine wV fun _=>?_|simp [go_sem, h1]
 ·by_cases h2 : 12 < c
  ·rw [if_neg (by omega)]
   repeat first|refine wV fun _=>?_|simp [go_sem, h1, h2]
  ·rw [if_pos (by omega)]
   have e1 : (c - 1).tdiv 2 = (c - 1) / 2 := Int.tdiv_eq_ediv_of_nonneg (by omega)
   have e2 : (c - 1).tmod 2 = (c - 1) % 2 := Int.tmod_eq_emod_of_nonneg (by omega)
   have b1 : 0 ≤ (c - 1).tdiv 2 ∧ (c - 1).tdiv 2 ≤ 12 := by omega
   have b2 : 0 ≤ (c - 1).tmod 2 ∧ (c - 1).tmod 2 ≤ 12 := by omega
   clear e1 e2
   repeat first|refine wV fun _=>?_|simp [go_sem, h1, h2]
theorem zdx (k s : Int) : zaP Tryz.prog 133 [.v (.int .i64 k), .v (.int .i64 s)] (.v (.int .i64 (zaL k s))) := by
 refine pF Tryz.func133 ?_
 unfold zaL
 by_cases h1 : k < 0
 ·rw [if_neg (by omega)]
  repeat first|refine wV fun _=>?_|simp [go_sem, h1]
 by_cases h2 : 6 ≤ k
 ·rw [if_neg (by omega)]
  repeat first|refine wV fun _=>?_|simp [go_sem, h1, h2]
 by_cases h3 : s < 0
 ·rw [if_neg (by omega)]
  repeat first|refine wV fun _=>?_|simp [go_sem, h1, h2, h3]
 by_cases h4 : 1 < s
 ·rw [if_neg (by omega)]
  repeat first|refine wV fun _=>?_|simp [go_sem, h1, h2, h3, h4]
 ·rw [if_pos (by omega), show 2 * k + 1 + s = 1 + 2 * k + s by omega]
  repeat first|refine wV fun _=>?_|simp [go_sem, h1, h2, h3, h4]
theorem zld (x : Int) : zaP Tryz.prog 147 [.v (.int .i64 x)] (.v (.bool false)) := by
 refine pF Tryz.func147 ?_
 repeat first|refine wV fun _=>?_|simp [go_sem]
theorem zdq (a b : Int) : zaP Tryz.prog 92 [.v (.int .i64 a), .v (.int .i64 b)] (.v (.int .i64 (za3 a b))) := by
 refine pF Tryz.func92 ?_
 repeat first|refine wV fun _=>?_|simp [go_sem]
 refine zAD (zld a) (by simp [go_sem]) ?_
 repeat first|refine wV fun _=>?_|simp [go_sem]
 refine zAD (zld b) (by simp [go_sem]) ?_
 unfold za3
 by_cases h1 : a < b
 ·rw [if_pos h1]
  repeat first|refine wV fun _=>?_|simp [go_sem, h1]
 ·by_cases h2 : b < a
  ·rw [if_neg h1, if_pos h2]
   repeat first|refine wV fun _=>?_|simp [go_sem, h1, h2]
  ·rw [if_neg h1, if_neg h2]
   repeat first|refine wV fun _=>?_|simp [go_sem, h1, h2]
def orI : List Int → Int
 | [] => 0
 | x :: l => if x = 0 then orI l else x
theorem zqX (l : List Int) (hl : zeY l) : zaP Tryz.prog 90 [zap l] (.v (.int .i64 (orI l))) := by
 refine pF Tryz.func90 ?_
 unfold zeY at hl
 repeat first|refine wV fun _=>?_|simp [go_sem]
 refine zAC (zAG (α := Nat) (fun j => ⟨[(3, .v (.int .i64 0)), (6, zap l), (7, .v (.int .i64 l.length)), (8, .v (.int .i64 j))], [], 0⟩)
  (fun d j => j + d = l.length ∧ orI l = orI (l.drop j)) ?_ l.length 0 ?_) ?_ ?_
 ·rintro d j ⟨i1, i2⟩ hrec
  repeat first|refine wV fun _=>?_|simp [go_sem]
  refine zAE (fun hj => ?_) (fun hj => ?_) <;> simp at hj
  ·rw [ze6 hj, orI] at i2
   repeat first|refine wV fun _=>?_|simp [go_sem, hj]
   by_cases h0 : nth l j = 0
   ·rw [if_pos h0] at i2
    repeat first|refine wV fun _=>?_|simp [go_sem, h0]
    refine zAC (hrec (d - 1) (by omega) (j + 1) ⟨by omega, i2⟩) ?_ (by simp)
    simp [go_sem, zaf]
   ·rw [if_neg h0] at i2
    rw [i2]
    repeat first|refine wV fun _=>?_|simp [go_sem, h0]
  ·rw [List.drop_eq_nil_of_le hj, orI] at i2
   rw [i2]
   repeat first|refine wV fun _=>?_|simp [go_sem]
 ·simp
 ·simp [go_sem, zaf]
 ·simp
theorem zeK (a b : List Int) (ha : zeY a) (hb : zeY b) : zaP Tryz.prog 91 [zap a, zap b] (.v (.int .i64 (zeb a b))) := by
 refine pF Tryz.func91 ?_
 unfold zeY at ha hb
 repeat first|refine wV fun _=>?_|simp [go_sem]
 refine zAC (zAG (α := Nat) (fun j => ⟨[(0, zap a), (1, zap b), (9, zap a), (10, .v (.int .i64 a.length)), (11, .v (.int .i64 j))], [], 0⟩)
  (fun d j => j + d = a.length ∧ j ≤ b.length ∧ zeb a b = zeb (a.drop j) (b.drop j)) ?_ a.length 0 ?_) ?_ ?_
 ·rintro d j ⟨i1, i2, i3⟩ hrec
  repeat first|refine wV fun _=>?_|simp [go_sem]
  refine zAE (fun hj => ?_) (fun hj => ?_) <;> simp at hj
  ·rw [ze6 hj] at i3
   repeat first|refine wV fun _=>?_|simp [go_sem, hj]
   by_cases hk : j < b.length
   ·rw [ze6 hk, zeb] at i3
    have hk' : ¬ b.length ≤ j := by omega
    repeat first|refine wV fun _=>?_|simp [go_sem, hj, hk, hk']
    refine zAD (zdq _ _) (by simp [go_sem]) ?_
    by_cases he : nth a j = nth b j
    ·rw [if_pos he] at i3
     have hn : za3 (nth a j) (nth b j) = 0 := by simp [za3, he]
     rw [hn]
     repeat first|refine wV fun _=>?_|simp [go_sem]
     refine zAC (hrec (d - 1) (by omega) (j + 1) ⟨by omega, by omega, i3⟩) ?_ (by simp)
     simp [go_sem, zaf]
    ·rw [if_neg he] at i3
     have hn : za3 (nth a j) (nth b j) ≠ 0 := by unfold za3; split <;> (try split) <;> omega
     rw [i3]
     repeat first|refine wV fun _=>?_|simp [go_sem, hn]
   ·have hk' : b.length ≤ j := by omega
    rw [List.drop_eq_nil_of_le hk', zfM] at i3
    have : zeb a b = 1 := by rw [i3]; unfold za3; rw [if_neg (by simp only [List.length_cons]; omega), if_pos (by simp only [List.length_cons]; omega)]
    rw [this]
    repeat first|refine wV fun _=>?_|simp [go_sem, hj, hk, hk']
  ·have hja : j = a.length := by omega
   subst hja
   rw [List.drop_eq_nil_of_le (Nat.le_refl _), zgu] at i3
   rw [i3]
   unfold za3
   by_cases hb' : a.length < b.length
   ·rw [if_pos (by simp; omega)]
    repeat first|refine wV fun _=>?_|simp [go_sem, hb']
   ·rw [if_neg (by simp; omega), if_neg (by omega)]
    repeat first|refine wV fun _=>?_|simp [go_sem, hb']
 ·simp
 ·simp [go_sem, zaf]
 ·simp
theorem zzM (p q : zag) : orI [zeb p.at_ q.at_, zeb p.h0 q.h0, zeb p.h1 q.h1, za3 p.rights q.rights, za3 p.side q.side] = za7 p q := by
 unfold za7
 simp only [orI]
 repeat' split
 all_goals first | rfl | omega
theorem zbz (p q : zag) (hp : zaK p) (hq : zaK q) : zaP Tryz.prog 37 [.agg (zac p), .agg (zac q)] (.v (.int .i64 (za7 p q))) := by
 refine pF Tryz.func37 ?_
 obtain ⟨p1, p2, p3⟩ := hp
 obtain ⟨q1, q2, q3⟩ := hq
 rw [← zzM]
 have c1 := zeK _ _ p1 q1
 have c2 := zeK _ _ p2 q2
 have c3 := zeK _ _ p3 q3
 have c4 := zdq p.rights q.rights
 have c5 := zdq p.side q.side
 generalize zeb p.at_ q.at_ = x1 at *
 generalize zeb p.h0 q.h0 = x2 at *
 generalize zeb p.h1 q.h1 = x3 at *
 generalize za3 p.rights q.rights = x4 at *
 generalize za3 p.side q.side = x5 at *
 repeat first|refine wV fun _=>?_|simp [go_sem]
 refine zAF c1 (by simp [go_sem]) ?_
 repeat first|refine wV fun _=>?_|simp [go_sem]
 refine zAF c2 (by simp [go_sem]) ?_
 repeat first|refine wV fun _=>?_|simp [go_sem]
 refine zAF c3 (by simp [go_sem]) ?_
 repeat first|refine wV fun _=>?_|simp [go_sem]
 refine zAF c4 (by simp [go_sem]) ?_
 repeat first|refine wV fun _=>?_|simp [go_sem]
 refine zAF c5 (by simp [go_sem]) ?_
 repeat first|refine wV fun _=>?_|simp [go_sem]
 refine zaw.frz [zap [x1, x2, x3, x4, x5]] _ [31] [(31, some (.rows false 0 1 ([x1, x2, x3, x4, x5].map zbB)))] (zqX _ (by unfold zeY; simp)) ?_ ?_ (by simp [go_sem]) ?_
 ·intro p hp
  simp only [List.mem_singleton] at hp
  subst hp
  exact ⟨by simp, 0, 1, _, rfl, by simp [upd, go_sem]⟩
 ·intro h₁ hS
  have h7 := hS 31 (by simp)
  simp [go_sem] at h7
  exact .cons (zaB h7.symm (by simp) (by simp [zai, upd]) (by simp [go_sem])) .nil
 ·repeat first|refine wV fun _=>?_|simp [go_sem]
end Go.Av
end
section
/- Contracts, runs of the program: own, man, provided, and the steps. -/
open Go Go.Proofs
namespace Go.Av
def zrf (n : Nat) (s : StD) : AV := .agg [.sl (n + 2) 1 1 0 s.p.at_.length, .sl (n + 81) 1 1 0 s.p.h0.length, .sl (n + 161) 1 1 0 s.p.h1.length, .v (.int .i64 s.p.rights), .v (.int .i64 s.p.side), .v (.int .i64 s.kind), .v (.int .i64 s.cursor), .v (.bool s.took)]
def zov (n : Nat) (s : StD) : List (Nat × zbn) := [(n + 2, .rows true 1 1 (s.p.at_.map zbB)), (n + 81, .rows true 1 1 (s.p.h0.map zbB)), (n + 161, .rows true 1 1 (s.p.h1.map zbB))]
attribute [go_sem] zrf zov
theorem zgJ (s : StD) (ha : zaK s.p) : zgS Tryz.prog 132 [.agg (zal s)] (fun n => zrf n s) (fun n => zov n s) 241 := by
 refine ⟨zAJ (by kernel_rfl) Tryz.func132 rfl rfl (Nat.le_of_ble_eq_true rfl) (by kernel_rfl) ?_, fun n => ⟨by simp [go_sem], by simp [go_sem]⟩⟩
 obtain ⟨a1, a2, a3⟩ := ha
 have h1 := zdv s.p.at_ a1
 have h2 := zdv s.p.h0 a2
 have h3 := zdv s.p.h1 a3
 repeat first|refine wV fun _=>?_|simp [go_sem]
 refine zAH h1 (by simp [go_sem]) ?_
 repeat first|refine wV fun _=>?_|simp [go_sem]
 refine zA2 81 (by rfl) (h2) (by decide) (by simp [go_sem]) (by simp [go_sem]) (fun _ => zan.refl _ _ _ _) (by simp [go_sem]) (by simp [go_sem]) ?_
 repeat first|refine wV fun _=>?_|simp [go_sem]
 refine zA2 161 (by rfl) (h3) (by decide) (by simp [go_sem]) (by simp [go_sem]) (fun _ => zan.refl _ _ _ _) (by simp [go_sem]) (by simp [go_sem]) ?_
 ((repeat (first|with_reducible (first|refine wL fun _=>?_|refine wD fun _=>?_|refine wZ ?_)|simp [go_sem])); refine zBd (by kernel_rfl) ?_)
 repeat first|refine wV fun _=>?_|simp [go_sem]
 simp [go_sem, zaf]
theorem zmG (s : StD) (hc : s.cursor.toNat < s.p.at_.length) (h0 : 0 ≤ s.cursor) : zaP Tryz.prog 299 [.agg (zal s)] (.tup [.v (.int .i64 (zak (nth s.p.at_ s.cursor.toNat)).1), .v (.int .i64 (zak (nth s.p.at_ s.cursor.toNat)).2)]) := by
 refine pF Tryz.func299 ?_
 have hO := zfd (nth s.p.at_ s.cursor.toNat)
 generalize zak (nth s.p.at_ s.cursor.toNat) = m at *
 repeat first|refine wV fun _=>?_|simp [go_sem, hc]
 refine zAD hO (by simp [go_sem]) ?_
 repeat first|refine wV fun _=>?_|simp [go_sem]
theorem zcg (s : StD) (b : Bool) : zaP Tryz.prog 298 [.agg (zal s), .v (.bool b)] (zbb (zcD s b)) := by
 refine pF Tryz.func298 ?_
 cases b
 ·repeat first|refine wV fun _=>?_|simp [go_sem, zcD]
 ·repeat first|refine wV fun _=>?_|simp [go_sem, zcD]
  exact frX
abbrev zke (f : FuncId) (g : zad) (s : StD) (n : Int) (r : List StD) : Prop := zaP Tryz.prog f [.agg (zal s), .agg (zae g), .v (.int .i64 n)] (zbb r)
section
variable (g : zad) (hg : GOk g) (s : StD) (hs : zeS g s) (n : Int)
theorem zwD (hg : GOk g) : zke 264 g s n (zcD { s with cursor := toB g.board s.p.side n s.cursor } (decide (0 ≤ toB g.board s.p.side n s.cursor))) := by
 refine pF Tryz.func264 ?_
 have hT := zic g.board hg.board s.p.side n s.cursor
 have hP := zcg { s with cursor := toB g.board s.p.side n s.cursor }
 repeat first|refine wV fun _=>?_|simp [go_sem]
 refine zAD hT (by simp [go_sem]) ?_
 repeat first|refine wV fun _=>?_|simp [go_sem]
 refine zAD (hP _) (by simp [go_sem]) ?_
 repeat first|refine wV fun _=>?_|simp [go_sem]
theorem ztr (hg : GOk g) (hs : zeS g s) : zke 265 g s n (zjU g.board s n) := by
 refine pF Tryz.func265 ?_
 have hL := zkR g.board hg.board s.p.side n s.cursor
 have hlm := zei hg.board (side := s.p.side) (d := n) (c := s.cursor)
 have hll := zjm (b := g.board) (side := s.p.side) (d := n) (c := s.cursor)
 have c9 := hg.c9
 have c1 := hg.c1
 have hal := hs.p.al
 rw [show g.board.cells = g.cells from rfl] at hlm hll
 unfold zjU
 generalize zf7 g.board s.p.side n s.cursor = line at *
 generalize hR : zbl s line = R
 repeat first|refine wV fun _=>?_|simp [go_sem]
 refine zAD hL (by simp [go_sem]) ?_
 repeat first|refine wV fun _=>?_|simp [go_sem]
 refine zAC (zAG (α := Nat × List StD) (fun a => ⟨[(3, .ref 0 0 8 0 0), (7, .sl 2 a.2.length 8 0 a.2.length), (19, zap line), (20, .v (.int .i64 line.length)), (21, .v (.int .i64 a.1))], [(0, .rows true 0 8 [zal s]), (2, .rows true a.2.length 8 (a.2.map zal))], 3⟩)
  (fun d a => a.1 + d = line.length ∧ a.2.length = a.1 ∧ R = a.2 ++ zbl s (line.drop a.1)) ?_ line.length (0, []) ?_) ?_ ?_
 ·rintro d ⟨i, out⟩ ⟨i1, i2, i3⟩ hrec
  simp only at i1 i2 i3
  repeat first|refine wV fun _=>?_|simp [go_sem]
  refine zAE (fun hi => ?_) (fun hi => ?_) <;> simp at hi
  ·have hli := hlm _ (zaj hi)
   have hlt : (nth line i).toNat < s.p.at_.length := by omega
   rw [zaQ hi, zbl] at i3
   repeat first|refine wV fun _=>?_|simp [go_sem, hi, hlt]
   refine zAE (fun hz => ?_) (fun hz => ?_) <;> simp at hz
   ·rw [if_neg (by simpa using hz)] at i3
    repeat first|refine wV fun _=>?_|simp [go_sem]
    rw [i3]
    exact frX
   ·rw [if_pos (by simpa using hz)] at i3
    repeat first|refine wV fun _=>?_|simp [go_sem]
    refine zAC (hrec (d - 1) (by omega) (i + 1, out ++ [{ s with cursor := nth line i }]) ⟨by simp only; omega, by simp; omega, by simpa using i3⟩) ?_ (by simp)
    simp [go_sem, zaf]
  ·rw [List.drop_eq_nil_of_le hi, zbl] at i3
   repeat first|refine wV fun _=>?_|simp [go_sem]
   rw [i3]
   exact frX
 ·simp [hR]
 ·simp [go_sem, zaf]
 ·simp
theorem zop (hg : GOk g) (hs : zeS g s) : s.cursor.toNat < s.p.at_.length ∧ 0 ≤ s.cursor ∧ (nth s.p.at_ s.cursor.toNat = 0 ∧ zak (nth s.p.at_ s.cursor.toNat) = (-1, -1) ∨ nth s.p.at_ s.cursor.toNat ≠ 0 ∧ 0 ≤ (zak (nth s.p.at_ s.cursor.toNat)).1 ∧ (zak (nth s.p.at_ s.cursor.toNat)).1 < g.kinds.length ∧
  ((zak (nth s.p.at_ s.cursor.toNat)).2 = 0 ∨ (zak (nth s.p.at_ s.cursor.toNat)).2 = 1)) ∧ (s.p.side = 0 ∨ s.p.side = 1) := by
 have hal := hs.p.al
 have hc0 := hs.c0
 have hc1 := hs.c1
 have hcur : s.cursor.toNat < s.p.at_.length := by omega
 have hat := hs.p.at (i := s.cursor.toNat) (by omega)
 have hman := zaR hat.1 hat.2 hg.k6
 refine ⟨hcur, hc0, ?_, hs.p.s⟩
 rcases hman with ⟨h1, h2⟩ | ⟨h1, h2, h3, h4, _⟩
 ·exact .inl ⟨h1, h2⟩
 ·exact .inr ⟨h1, h2, h3, h4⟩
theorem zss (hg : GOk g) (hs : zeS g s) : zke 266 g s n (zcD s (decide ((zak (nth s.p.at_ s.cursor.toNat)).1 < 0))) := by
 refine pF Tryz.func266 ?_
 obtain ⟨hcur, h0, hm, hsd⟩ := zop g s hg hs
 have e : decide ((zak (nth s.p.at_ s.cursor.toNat)).1 < 0) = decide (nth s.p.at_ s.cursor.toNat = 0) := by
  rcases hm with ⟨h1, h2⟩ | ⟨h1, h2, _, _⟩
  ·rw [h2]; simp [h1]
  ·simp; omega
 rw [e]
 have hP := zcg s
 repeat first|refine wV fun _=>?_|simp [go_sem, hcur]
 refine zAF (hP _) (by simp [go_sem]) ?_
 repeat first|refine wV fun _=>?_|simp [go_sem]
theorem zsv (hg : GOk g) (hs : zeS g s) : zke 267 g s n (zcD s (decide (0 ≤ (zak (nth s.p.at_ s.cursor.toNat)).1 ∧ (zak (nth s.p.at_ s.cursor.toNat)).2 ≠ s.p.side))) := by
 refine pF Tryz.func267 ?_
 obtain ⟨hcur, h0, hm, hsd⟩ := zop g s hg hs
 have hO := zmG s hcur h0
 have hP := zcg s
 have e : decide (0 ≤ (zak (nth s.p.at_ s.cursor.toNat)).1 ∧ (zak (nth s.p.at_ s.cursor.toNat)).2 ≠ s.p.side) = decide ((zak (nth s.p.at_ s.cursor.toNat)).2 = 1 - s.p.side) := by
  rcases hm with ⟨h1, h2⟩ | ⟨h1, h2, _, _⟩
  ·rw [h2]; simp; omega
  ·simp only [decide_eq_decide]; omega
 rw [e]
 generalize zak (nth s.p.at_ s.cursor.toNat) = m at *
 repeat first|refine wV fun _=>?_|simp [go_sem]
 refine zAD hO (by simp [go_sem]) ?_
 repeat first|refine wV fun _=>?_|simp [go_sem]
 refine zAD (hP _) (by simp [go_sem]) ?_
 repeat first|refine wV fun _=>?_|simp [go_sem]
theorem zpY (hg : GOk g) (hs : zeS g s) : zke 268 g s n (zcD s (decide (0 ≤ (zak (nth s.p.at_ s.cursor.toNat)).1 ∧ (zak (nth s.p.at_ s.cursor.toNat)).2 = s.p.side))) := by
 refine pF Tryz.func268 ?_
 obtain ⟨hcur, h0, hm, hsd⟩ := zop g s hg hs
 have hO := zmG s hcur h0
 have hP := zcg s
 have e : decide (0 ≤ (zak (nth s.p.at_ s.cursor.toNat)).1 ∧ (zak (nth s.p.at_ s.cursor.toNat)).2 = s.p.side) = decide ((zak (nth s.p.at_ s.cursor.toNat)).2 = s.p.side) := by
  rcases hm with ⟨h1, h2⟩ | ⟨h1, h2, _, _⟩
  ·rw [h2]; simp; omega
  ·simp only [decide_eq_decide]; omega
 rw [e]
 generalize zak (nth s.p.at_ s.cursor.toNat) = m at *
 repeat first|refine wV fun _=>?_|simp [go_sem]
 refine zAD hO (by simp [go_sem]) ?_
 repeat first|refine wV fun _=>?_|simp [go_sem]
 refine zAD (hP _) (by simp [go_sem]) ?_
 repeat first|refine wV fun _=>?_|simp [go_sem]
theorem zws (hg : GOk g) (hs : zeS g s) : zke 269 g s n (zkD g s) := by
 refine pF Tryz.func269 ?_
 obtain ⟨hcur, h0, hm, hsd⟩ := zop g s hg hs
 have hO := zmG s hcur h0
 have hP := zcg
 have hcp := zgJ s (hs.p.fits hg)
 unfold zkD
 generalize hme : zak (nth s.p.at_ s.cursor.toNat) = m at *
 obtain ⟨mk, ms⟩ := m
 simp only [Prod.mk.injEq] at hm
 repeat first|refine wV fun _=>?_|simp [go_sem]
 refine zAD hO (by simp [go_sem]) ?_
 repeat first|refine wV fun _=>?_|simp [go_sem]
 refine zAE (fun hc => ?_) (fun hc => ?_) <;> simp at hc
 ·rw [if_pos (by omega)]
  repeat first|refine wV fun _=>?_|simp [go_sem]
 ·rw [if_neg (by omega)]
  repeat first|refine wV fun _=>?_|simp [go_sem]
  refine zAH hcp (by simp [go_sem]) ?_
  have hmk : mk.toNat < g.kinds.length := by omega
  have hmk' : 0 ≤ mk := by omega
  repeat first|refine wV fun _=>?_|simp [go_sem, hcur, hmk]
  refine zAE (fun hk => ?_) (fun hk => ?_)
  ·rw [if_neg (by simpa using hk)]
   repeat first|refine wV fun _=>?_|simp [go_sem, clr]
   (first|done|exact dpX)
  ·rw [if_pos (by simpa using hk)]
   have hl0 := hs.p.h0.len
   have hl1 := hs.p.h1.len
   rcases hsd with hsd | hsd
   ·have hmk0 : mk.toNat < s.p.h0.length := by omega
    have hv := hs.p.h0.v _ hmk0
    obtain ⟨u, hu⟩ : ∃ u : StD, u = { s with p := (clr s.p s.cursor).withHand s.p.side ((s.p.hand s.p.side).set mk.toNat (nth (s.p.hand s.p.side) mk.toNat + 1)), took := true } := ⟨_, rfl⟩
    have hres : (if 8 < nth (s.p.hand s.p.side) mk.toNat + 1 then [] else [u]) = zcD u (decide (nth s.p.h0 mk.toNat + 1 ≤ 8)) := by
     have : s.p.hand s.p.side = s.p.h0 := by simp [zag.hand, hsd]
     rw [this]
     unfold zcD
     by_cases h8 : 8 < nth s.p.h0 mk.toNat + 1
     ·rw [if_pos h8, if_neg (by simp; omega)]
     ·rw [if_neg h8, if_pos (by simp; omega)]
    rw [← hu, hres]
    have hue : zal u = [.lst 1 ((s.p.at_.map zbB).set s.cursor.toNat [.v (.int .i64 0)]), .lst 1 ((s.p.h0.map zbB).set mk.toNat [.v (.int .i64 (nth s.p.h0 mk.toNat + 1))]), .lst 1 (s.p.h1.map zbB), .v (.int .i64 s.p.rights), .v (.int .i64 s.p.side), .v (.int .i64 s.kind), .v (.int .i64 s.cursor), .v (.bool true)] := by
     rw [hu]; simp [zal, zag.withHand, zag.hand, clr, hsd, zap, zbB, List.map_set]
    have hP' := hP u
    rw [hue, hsd] at hP'
    (repeat (first|with_reducible (first|refine wL fun _=>?_|refine wD fun _=>?_|refine wE ?_)|simp [go_sem, hsd, hmk0, hcur]))
    refine znm.frz (zbt _ [4, 83, 163]) (zcw _ _) ?_
    repeat first|refine wV fun _=>?_|simp [go_sem, hsd, hmk0, hcur, zbt, zbV]
    refine zaw.frz _ _ [4, 83, 163] [] (hP' (decide (nth s.p.h0 mk.toNat + 1 ≤ 8))) (by simp) ?_ (by simp [go_sem]) ?_
    ·intro h₁ hS
     have e4 := hS 4 (by simp)
     have e5 := hS 83 (by simp)
     have e6 := hS 163 (by simp)
     simp [upd, zbt, zbV] at e4 e5 e6
     refine .cons (.agg (.cons (zaB e4.symm (by simp) (by simp [zai, ← e4]) (by simp; exact List.take_of_length_le (by simp))) (.cons (zaB e5.symm (by simp) (by simp [zai, ← e5]) (by simp; exact List.take_of_length_le (by simp))) (.cons (zaB e6.symm (by simp) (by simp [zai, ← e6]) (by simp; exact List.take_of_length_le (by simp))) (.refl _ _ _ _))))) (.refl _ _ _ _)
    ·repeat first|refine wV fun _=>?_|simp [go_sem]
   ·have hmk0 : mk.toNat < s.p.h1.length := by omega
    have hv := hs.p.h1.v _ hmk0
    obtain ⟨u, hu⟩ : ∃ u : StD, u = { s with p := (clr s.p s.cursor).withHand s.p.side ((s.p.hand s.p.side).set mk.toNat (nth (s.p.hand s.p.side) mk.toNat + 1)), took := true } := ⟨_, rfl⟩
    have hres : (if 8 < nth (s.p.hand s.p.side) mk.toNat + 1 then [] else [u]) = zcD u (decide (nth s.p.h1 mk.toNat + 1 ≤ 8)) := by
     have : s.p.hand s.p.side = s.p.h1 := by simp [zag.hand, hsd]
     rw [this]
     unfold zcD
     by_cases h8 : 8 < nth s.p.h1 mk.toNat + 1
     ·rw [if_pos h8, if_neg (by simp; omega)]
     ·rw [if_neg h8, if_pos (by simp; omega)]
    rw [← hu, hres]
    have hue : zal u = [.lst 1 ((s.p.at_.map zbB).set s.cursor.toNat [.v (.int .i64 0)]), .lst 1 (s.p.h0.map zbB), .lst 1 ((s.p.h1.map zbB).set mk.toNat [.v (.int .i64 (nth s.p.h1 mk.toNat + 1))]), .v (.int .i64 s.p.rights), .v (.int .i64 s.p.side), .v (.int .i64 s.kind), .v (.int .i64 s.cursor), .v (.bool true)] := by
     rw [hu]; simp [zal, zag.withHand, zag.hand, clr, hsd, zap, zbB, List.map_set]
    have hP' := hP u
    rw [hue, hsd] at hP'
    (repeat (first|with_reducible (first|refine wL fun _=>?_|refine wD fun _=>?_|refine wE ?_)|simp [go_sem, hsd, hmk0, hcur]))
    refine znm.frz (zbt _ [4, 83, 163]) (zcw _ _) ?_
    repeat first|refine wV fun _=>?_|simp [go_sem, hsd, hmk0, hcur, zbt, zbV]
    refine zaw.frz _ _ [4, 83, 163] [] (hP' (decide (nth s.p.h1 mk.toNat + 1 ≤ 8))) (by simp) ?_ (by simp [go_sem]) ?_
    ·intro h₁ hS
     have e4 := hS 4 (by simp)
     have e5 := hS 83 (by simp)
     have e6 := hS 163 (by simp)
     simp [upd, zbt, zbV] at e4 e5 e6
     refine .cons (.agg (.cons (zaB e4.symm (by simp) (by simp [zai, ← e4]) (by simp; exact List.take_of_length_le (by simp))) (.cons (zaB e5.symm (by simp) (by simp [zai, ← e5]) (by simp; exact List.take_of_length_le (by simp))) (.cons (zaB e6.symm (by simp) (by simp [zai, ← e6]) (by simp; exact List.take_of_length_le (by simp))) (.refl _ _ _ _))))) (.refl _ _ _ _)
    ·repeat first|refine wV fun _=>?_|simp [go_sem]
theorem zv5 (hg : GOk g) (hs : zeS g s) : zke 270 g s n (zkA g s n) := by
 refine pF Tryz.func270 ?_
 have hT := zic g.board hg.board s.p.side n s.cursor
 have hal := hs.p.al
 have hc0 := hs.c0
 have hc1 := hs.c1
 have hcur : s.cursor.toNat < s.p.at_.length := by omega
 have hcp := zgJ s (hs.p.fits hg)
 have hto := zeQ hg.board s.p.side n s.cursor
 rw [show g.board.cells = g.cells from rfl] at hto
 unfold zkA
 generalize toB g.board s.p.side n s.cursor = to at *
 repeat first|refine wV fun _=>?_|simp [go_sem]
 refine zAD hT (by simp [go_sem]) ?_
 by_cases ht : to < 0
 ·rw [if_pos (.inr (.inl ht))]
  have ht0 : to.toNat = 0 := by omega
  have h0l : 0 < s.p.at_.length := by omega
  repeat first|refine wV fun _=>?_|simp [go_sem, hcur, ht, ht0, h0l]
 ·have htl : to.toNat < s.p.at_.length := by omega
  have ht' : 0 ≤ to := by omega
  repeat first|refine wV fun _=>?_|simp [go_sem, hcur, ht, htl]
  refine zAE (fun hc => ?_) (fun hc => ?_) <;> simp at hc
  ·rw [if_pos (by by_cases h : nth s.p.at_ s.cursor.toNat = 0; exact .inl h; exact .inr (hc.resolve_left h))]
   repeat first|refine wV fun _=>?_|simp [go_sem]
  ·rw [if_neg (by rintro (h | h); exact hc.1 h; exact h hc.2)]
   repeat first|refine wV fun _=>?_|simp [go_sem, hcur]
   refine zAH hcp (by simp [go_sem]) ?_
   repeat first|refine wV fun _=>?_|simp [go_sem, hcur, htl]
   (first|done|exact dpX)
theorem zpI : zke 271 g s n [{ s with kind := n }] := by
 refine pF Tryz.func271 ?_
 repeat first|refine wV fun _=>?_|simp [go_sem]
 exact frX
theorem zvM (h0 : 0 ≤ n) (h4 : n < 64) : zke 272 g s n (zcD s (decide (zgi .i64 (s.p.rights.fdiv (2 ^ n.toNat)) 1 = 1))) := by
 refine pF Tryz.func272 ?_
 have hP := zcg s
 repeat first|refine wV fun _=>?_|simp [go_sem]
 refine zAF (hP _) (by simp [go_sem]) ?_
 repeat first|refine wV fun _=>?_|simp [go_sem]
theorem zvC (h0 : 0 ≤ n) (h4 : n ≤ 4) : zke 273 g s n [{ s with p := { s.p with rights := zbS .i64 s.p.rights (2 ^ n.toNat) } }] := by
 refine pF Tryz.func273 ?_
 have hpn := zim h0 h4
 repeat first|refine wV fun _=>?_|simp [go_sem]
 exact frX
end
end Go.Av
end
section
open Go Go.Proofs
namespace Go.Av
theorem zwq (g : zad) (hg : GOk g) (s : StD) (hs : zeS g s) (x : Int × Int) (hx : zea g.next.length g.kinds.length g.rights x) :
  zaP Tryz.prog 228 [.agg (zae g), .agg (zal s), .agg (zaO x)] (zbb (zbG g s x)) := by
 refine pF Tryz.func228 ?_
 have r4 := hg.r4
 obtain ⟨op, n⟩ := x
 obtain ⟨xo, xd, xz, xk, xr⟩ := hx
 simp only at xo xd xz xk xr
 rcases (show op = 1 ∨ op = 2 ∨ op = 3 ∨ op = 4 ∨ op = 5 ∨ op = 6 ∨ op = 7 ∨ op = 8 ∨ op = 9 ∨ op = 10 by omega) with rfl | rfl | rfl | rfl | rfl | rfl | rfl | rfl | rfl | rfl
 ·have hS := zwD g s n hg
  repeat first|refine wV fun _=>?_|simp [go_sem]
  refine zAF hS (by simp [go_sem]) ?_
  repeat first|refine wV fun _=>?_|simp [go_sem]
  exact zAP (by simp [zbG, zbb, zal, zap])
 ·have hS := ztr g s n hg hs
  repeat first|refine wV fun _=>?_|simp [go_sem]
  refine zAF hS (by simp [go_sem]) ?_
  repeat first|refine wV fun _=>?_|simp [go_sem]
  exact zAP (by simp [zbG, zbb, zal, zap])
 ·have hS := zss g s n hg hs
  repeat first|refine wV fun _=>?_|simp [go_sem]
  refine zAF hS (by simp [go_sem]) ?_
  repeat first|refine wV fun _=>?_|simp [go_sem]
  exact zAP (by simp [zbG, zbb, zal, zap])
 ·have hS := zsv g s n hg hs
  repeat first|refine wV fun _=>?_|simp [go_sem]
  refine zAF hS (by simp [go_sem]) ?_
  repeat first|refine wV fun _=>?_|simp [go_sem]
  exact zAP (by simp [zbG, zbb, zal, zap])
 ·have hS := zpY g s n hg hs
  repeat first|refine wV fun _=>?_|simp [go_sem]
  refine zAF hS (by simp [go_sem]) ?_
  repeat first|refine wV fun _=>?_|simp [go_sem]
  exact zAP (by simp [zbG, zbb, zal, zap])
 ·have hS := zws g s n hg hs
  repeat first|refine wV fun _=>?_|simp [go_sem]
  refine zAF hS (by simp [go_sem]) ?_
  repeat first|refine wV fun _=>?_|simp [go_sem]
  exact zAP (by simp [zbG, zbb, zal, zap])
 ·have hS := zv5 g s n hg hs
  repeat first|refine wV fun _=>?_|simp [go_sem]
  refine zAF hS (by simp [go_sem]) ?_
  repeat first|refine wV fun _=>?_|simp [go_sem]
  exact zAP (by simp [zbG, zbb, zal, zap])
 ·have hS := zpI g s n
  repeat first|refine wV fun _=>?_|simp [go_sem]
  refine zAF hS (by simp [go_sem]) ?_
  repeat first|refine wV fun _=>?_|simp [go_sem]
  exact zAP (by simp [zbG, zbb, zal, zap])
 ·have hn := xr (by omega)
  have hS := zvM g s n hn.1 (by omega)
  repeat first|refine wV fun _=>?_|simp [go_sem]
  refine zAF hS (by simp [go_sem]) ?_
  repeat first|refine wV fun _=>?_|simp [go_sem]
  exact zAP (by simp [zbG, zbb, zal, zap])
 ·have hn := xr (by omega)
  have hS := zvC g s n hn.1 (by omega)
  repeat first|refine wV fun _=>?_|simp [go_sem]
  refine zAF hS (by simp [go_sem]) ?_
  repeat first|refine wV fun _=>?_|simp [go_sem]
  exact zAP (by simp [zbG, zbb, zal, zap])
end Go.Av
end
section
namespace Go.Av
open Go
theorem zaa.clear {P : Program} {f : FuncId} {args : List AV} {h : zao} {n : Nat} {K : zcy}
  (hc : zaa P f args h n (fun r h' n' => ∃ o mt g sz rs, sz ≠ 2 ∧ h' o = some (.rows mt g sz rs) ∧ K r (upd h' o (some (.rows mt g sz []))) n')) : zaa P f args h n K := by
 refine ⟨hc.1, fun M0 φ w vs hH hargs => (hc.2 M0 φ w vs hH hargs).mono ?_⟩
 rintro e w' ⟨v, φ', r, h', n', rfl, ⟨o, mt, g, sz, rs, hsz, ho, hK⟩, hH', hx, st⟩
 have hmut : Mut φ' (upd h' o (some (.rows mt g sz []))) = Mut φ' h' := by
  funext k
  refine propext ⟨?_, ?_⟩
  ·rintro ⟨o1, g1, sz1, rs1, g', a, bs, h1, h2, h3⟩
   by_cases he : o1 = o
   ·subst he
    rw [zat] at h1
    simp only [Option.some.injEq, zbn.rows.injEq] at h1
    obtain ⟨rfl, rfl, rfl, _⟩ := h1
    exact ⟨o1, g, sz, rs, g', a, bs, ho, h2, h3⟩
   ·rw [zbj _ _ he] at h1
    exact ⟨o1, g1, sz1, rs1, g', a, bs, h1, h2, h3⟩
  ·rintro ⟨o1, g1, sz1, rs1, g', a, bs, h1, h2, h3⟩
   by_cases he : o1 = o
   ·subst he
    rw [ho] at h1
    simp only [Option.some.injEq, zbn.rows.injEq] at h1
    obtain ⟨rfl, rfl, rfl, _⟩ := h1
    exact ⟨o1, g, sz, [], g', a, bs, by rw [zat], h2, h3⟩
   ·exact ⟨o1, g1, sz1, rs1, g', a, bs, by rw [zbj _ _ he]; exact h1, h2, h3⟩
 have hold : ∀ o1 mt1 g1 sz1 rs1, upd h' o (some (.rows mt g sz [])) o1 = some (.rows mt1 g1 sz1 rs1) → ∃ rs2, h' o1 = some (.rows mt1 g1 sz1 rs2) ∧ (rs1 = rs2 ∨ rs1 = []) := by
  intro o1 mt1 g1 sz1 rs1 h1
  by_cases he : o1 = o
  ·subst he
   rw [zat] at h1
   simp only [Option.some.injEq, zbn.rows.injEq] at h1
   obtain ⟨rfl, rfl, rfl, rfl⟩ := h1
   exact ⟨rs, ho, .inr rfl⟩
  ·rw [zbj _ _ he] at h1
   exact ⟨rs1, h1, .inl rfl⟩
 refine ⟨v, φ', r, _, n', rfl, hK, ⟨hH'.m0, hH'.fresh, fun o1 mt1 g1 sz1 rs1 h1 => ?_, fun o1 o2 mt1 g1 sz1 rs1 mt2 g2 sz2 rs2 a a' b b' h1 h2 => ?_, by rw [hmut]; exact hH'.glob⟩, by rw [hmut]; exact hx, st.le, by rw [hmut]; exact st.or, st.fr, by rw [hmut]; exact st.mutd⟩
 ·obtain ⟨rs2, h2, h3⟩ := hold _ _ _ _ _ h1
  obtain ⟨A, hA, hobj⟩ := hH'.obj _ _ _ _ _ h2
  rcases h3 with rfl | rfl
  ·rw [hmut]; exact ⟨A, hA, hobj⟩
  ·by_cases he : o1 = o
   ·subst he
    rw [ho] at h2
    simp only [Option.some.injEq, zbn.rows.injEq] at h2
    obtain ⟨rfl, rfl, rfl, rfl⟩ := h2
    refine ⟨A, hA, hobj.imp (fun h => ⟨h.1, rfl⟩) ?_⟩
    rintro ⟨a, bs, e1, e3, ⟨C, T, e2, e4, e5, e6, e7, e8, e9⟩ | ⟨es, clk, e2, e4, e5, e6, e9⟩⟩
    ·exact ⟨a, bs, e1, e3, .inl ⟨C, T, e2, e4, e5, by simp, by simp; omega, by simp, by simpa using zaE.nil⟩⟩
    ·exact absurd e6.1 hsz
   ·rw [zbj _ _ he] at h1
    rw [h1] at h2
    simp only [Option.some.injEq, zbn.rows.injEq] at h2
    obtain ⟨_, _, _, rfl⟩ := h2
    rw [hmut]; exact ⟨A, hA, hobj⟩
 ·obtain ⟨rs3, h3, _⟩ := hold _ _ _ _ _ h1
  obtain ⟨rs4, h4, _⟩ := hold _ _ _ _ _ h2
  exact hH'.inj _ _ _ _ _ _ _ _ _ _ _ _ _ _ h3 h4
end Go.Av
end
section
open Go Go.Proofs
namespace Go.Av
theorem zrt (m : Int) (h0 : 0 ≤ m) (h1 : m ≤ 17179869184) : zgS Tryz.prog 209 [zAI, .v (.int .i64 m)] (fun n => .sl n 0 1 0 0) (fun n => [(n, .rows true 0 1 [])]) 1 := by
 refine ⟨?_, fun n => ⟨by simp [go_sem], by simp [go_sem]⟩⟩
 by_cases hm : m = 0
 ·subst hm
  refine zAJ (by kernel_rfl) Tryz.func209 rfl rfl (Nat.le_of_ble_eq_true rfl) (by kernel_rfl) ?_
  repeat first|refine wV fun _=>?_|simp [go_sem]
  simp [go_sem, zaf]
 ·refine zaa.clear ?_
  refine zAJ (by kernel_rfl) Tryz.func209 rfl rfl (Nat.le_of_ble_eq_true rfl) (by kernel_rfl) ?_
  repeat first|refine wV fun _=>?_|simp [go_sem]
  (refine zAE (fun hF => by first | omega | (simp at hF; omega)) (fun hF => ?_); clear hF)
  repeat first|refine wV fun _=>?_|simp [go_sem]
  (refine zAE (fun hT => ?_) (fun hT => by first | omega | (simp at hT; omega)); clear hT)
  repeat first|refine wV fun _=>?_|simp [go_sem]
  refine ⟨0, 0, 1, by decide, ⟨rfl, rfl, rfl⟩, ?_⟩
  simp [go_sem, zaf]
theorem zm5 (a b c d : List Int) (ha : a.length ≤ 1000) (hb : b.length ≤ 1000) (hc : c.length ≤ 1000) (hd : d.length ≤ 1000) : zaP Tryz.prog 157 [.lst 1 [[zap a], [zap b], [zap c], [zap d]]] (zap (a ++ b ++ c ++ d)) := by
 refine pF Tryz.func157 ?_
 repeat first|refine wV fun _=>?_|simp [go_sem]
 refine zAK ?_
 repeat first|refine wV fun _=>?_|simp [go_sem]
 (refine zAE (fun hF => by first | omega | (simp at hF; omega)) (fun hF => ?_); clear hF)
 repeat first|refine wV fun _=>?_|simp [go_sem]
 refine zAK ?_
 repeat first|refine wV fun _=>?_|simp [go_sem]
 (refine zAE (fun hF => by first | omega | (simp at hF; omega)) (fun hF => ?_); clear hF)
 repeat first|refine wV fun _=>?_|simp [go_sem]
 refine zAK ?_
 repeat first|refine wV fun _=>?_|simp [go_sem]
 (refine zAE (fun hF => by first | omega | (simp at hF; omega)) (fun hF => ?_); clear hF)
 repeat first|refine wV fun _=>?_|simp [go_sem]
 refine zAK ?_
 repeat first|refine wV fun _=>?_|simp [go_sem]
 (refine zAE (fun hF => by first | omega | (simp at hF; omega)) (fun hF => ?_); clear hF)
 repeat first|refine wV fun _=>?_|simp [go_sem]
 refine zAK ?_
 repeat first|refine wV fun _=>?_|simp [go_sem]
 refine zAH (zrt _ (by omega) (by omega)) (by simp [go_sem]) ?_
 repeat first|refine wV fun _=>?_|simp [go_sem]
 refine zAK ?_
 repeat first|refine wV fun _=>?_|simp [go_sem]
 refine zAK ?_
 repeat first|refine wV fun _=>?_|simp [go_sem]
 refine zAK ?_
 repeat first|refine wV fun _=>?_|simp [go_sem]
 refine zAK ?_
 repeat first|refine wV fun _=>?_|simp [go_sem]
 refine zAK ?_
 repeat first|refine wV fun _=>?_|simp [go_sem]
 exact frX

theorem znC : ∀ l : List Int, zd1 (l.map zi0) = some l
 | [] => rfl
 | n :: l => by rw [List.map_cons, zi0, zd1, znC l]; rfl
def zmZ (p : zag) : List Int := p.at_ ++ p.h0 ++ p.h1 ++ [p.rights, p.side]
def zf6 (p : zag) : ByteArray := zeq (zmZ p)
theorem zqJ (p : zag) (ha : p.at_.length ≤ 100) (hb : p.h0.length ≤ 100) (hc : p.h1.length ≤ 100) (hv : ∀ x ∈ zmZ p, 0 ≤ x ∧ x ≤ 255) : zaP Tryz.prog 107 [.agg (zac p)] (.v (.string (zf6 p))) := by
 refine pF Tryz.func107 ?_
 have hC : zaP Tryz.prog 157 [.lst 1 [[.lst 1 (p.at_.map zbB)], [.lst 1 (p.h0.map zbB)], [.lst 1 (p.h1.map zbB)], [.lst 1 [[.v (.int .i64 p.rights)], [.v (.int .i64 p.side)]]]]] (zap (p.at_ ++ p.h0 ++ p.h1 ++ [p.rights, p.side])) :=
  zm5 p.at_ p.h0 p.h1 [p.rights, p.side] (by omega) (by omega) (by omega) (by simp)
 have hll : (zmZ p).length ≤ 302 := by simp [zmZ]; omega
 unfold zf6
 rw [show p.at_ ++ p.h0 ++ p.h1 ++ [p.rights, p.side] = zmZ p from rfl] at hC
 generalize zmZ p = l at *
 repeat first|refine wV fun _=>?_|simp [go_sem]
 refine zAL [1, 2] hC ?_ (by simp [go_sem]) ?_
 ·(first|done|exact leX)
 repeat first|refine wV fun _=>?_|simp [go_sem]
 refine zAC (zAG (α := Nat) (fun i => ⟨[(3, .sl 3 i 1 0 i), (20, zap l), (21, .v (.int .i64 l.length)), (22, .v (.int .i64 i))], [(3, .rows true i 1 ((l.take i).map zi0))], 4⟩)
  (fun d i => i + d = l.length) ?_ l.length 0 ?_) ?_ ?_
 ·rintro d i i1 hrec
  repeat first|refine wV fun _=>?_|simp [go_sem]
  refine zAE (fun hi => ?_) (fun hi => ?_) <;> simp at hi
  ·have hx := hv _ (zaj hi)
   have hem : (nth l i).emod 256 = nth l i := Int.emod_eq_of_lt hx.1 (by omega)
   have hem2 : nth l i % 256 = nth l i := hem
   repeat first|refine wV fun _=>?_|simp [go_sem, hi, hem, hem2]
   refine zAC (hrec (d - 1) (by omega) (i + 1) (by omega)) ?_ (by simp)
   rw [List.take_add_one, List.getElem?_eq_getElem hi, ← zau _ _ hi]
   simp [go_sem, zaf, zi0, hem, hem2]
   intro x hx c hc
   obtain ⟨y, _, rfl⟩ := List.mem_map.1 (List.mem_of_mem_take hx)
   simp only [zi0, List.mem_singleton] at hc
   subst hc
   exact .v _
  ·have hb : zd1 (List.take i (List.map zi0 l)) = some l := by rw [List.take_of_length_le (by simp; omega)]; exact znC l
   have hb2 : zd1 (List.take i (List.take i (List.map zi0 l))) = some l := by rw [List.take_take, Nat.min_self]; exact hb
   repeat first|refine wV fun _=>?_|simp [go_sem, hb, hb2]
 ·omega
 ·simp [go_sem, zaf]
 ·simp
def ziY (n : Int) : ByteArray := zeq [48 + n]
theorem zqs (n : Int) (h0 : 0 ≤ n) (h1 : n < 10) : zaP Tryz.prog 328 [.v (.int .i64 n)] (.v (.string (ziY n))) := by
 refine pF Tryz.func328 ?_
 rcases (show n = 0 ∨ n = 1 ∨ n = 2 ∨ n = 3 ∨ n = 4 ∨ n = 5 ∨ n = 6 ∨ n = 7 ∨ n = 8 ∨ n = 9 by omega) with rfl | rfl | rfl | rfl | rfl | rfl | rfl | rfl | rfl | rfl <;> ((repeat (first|refine wV fun _=>?_|simp [go_sem]))) <;> exact zAP (by kernel_rfl)
theorem zoF (n : Int) (h0 : 0 ≤ n) (h1 : n < 10) : zaP Tryz.prog 312 [.v (.int .i64 n), .v (.int .i64 10)] (.v (.string (ziY n))) := by
 refine pF Tryz.func312 ?_
 have hS := zqs n h0 h1
 have h1' : n < 100 := by omega
 repeat first|refine wV fun _=>?_|simp [go_sem, h0, h1']
 refine zAD hS (by simp [go_sem]) ?_
 repeat first|refine wV fun _=>?_|simp [go_sem]
theorem ztl (n : Int) (h0 : 0 ≤ n) (h1 : n < 10) : zaP Tryz.prog 300 [.v (.int .i64 n)] (.v (.string (ziY n))) := by
 refine pF Tryz.func300 ?_
 have hS := zoF n h0 h1
 repeat first|refine wV fun _=>?_|simp [go_sem]
 refine zAD hS (by simp [go_sem]) ?_
 repeat first|refine wV fun _=>?_|simp [go_sem]
theorem zm8 (n : Int) (h0 : 0 ≤ n) (h1 : n < 10) : zaP Tryz.prog 274 [.v (.int .i64 n)] (.v (.string (ziY n))) := by
 refine pF Tryz.func274 ?_
 have hS := ztl n h0 h1
 repeat first|refine wV fun _=>?_|simp [go_sem]
 refine zAD hS (by simp [go_sem]) ?_
 repeat first|refine wV fun _=>?_|simp [go_sem]
theorem ztk (b : Bool) : zaP Tryz.prog 301 [.v (.bool b)] (.v (.string (if b then zeq [116, 114, 117, 101] else zeq [102, 97, 108, 115, 101]))) := by
 refine pF Tryz.func301 ?_
 cases b
 ·repeat first|refine wV fun _=>?_|simp [go_sem]
  exact zAP (by kernel_rfl)
 ·repeat first|refine wV fun _=>?_|simp [go_sem]
  exact zAP (by kernel_rfl)
theorem ztO (b : Bool) : zaP Tryz.prog 275 [.v (.bool b)] (.v (.string (if b then zeq [116, 114, 117, 101] else zeq [102, 97, 108, 115, 101]))) := by
 refine pF Tryz.func275 ?_
 have hS := ztk b
 repeat first|refine wV fun _=>?_|simp [go_sem]
 refine zAD hS (by simp [go_sem]) ?_
 repeat first|refine wV fun _=>?_|simp [go_sem]
theorem zhS : ∀ (l : List Int) (r : ByteArray), (l.foldl (fun r n => r.push (UInt8.ofNat n.toNat)) r).data.toList = r.data.toList ++ l.map fun n => UInt8.ofNat n.toNat
 | [], r => by simp
 | n :: l, r => by
  rw [List.foldl_cons, zhS l]
  simp [ByteArray.push]
theorem zfo (l : List Int) : (zeq l).data.toList = l.map fun n => UInt8.ofNat n.toNat := by
 unfold zeq; rw [zhS]; rfl
theorem zfE (l : List Int) : (zeq l).size = l.length := by
 rw [← ByteArray.size_data, ← Array.length_toList, zfo, List.length_map]
def zh3 (s : StD) : ByteArray := ziY s.kind ++ zeq [32] ++ ziY s.cursor ++ zeq [32] ++ (if s.took then zeq [116, 114, 117, 101] else zeq [102, 97, 108, 115, 101]) ++ zeq [32] ++ zf6 s.p
theorem zxR (s : StD) (hk : 0 ≤ s.kind ∧ s.kind < 10) (hc : 0 ≤ s.cursor ∧ s.cursor < 10) (h1 : s.p.at_.length ≤ 100) (h2 : s.p.h0.length ≤ 100) (h3 : s.p.h1.length ≤ 100) (hv : ∀ x ∈ zmZ s.p, 0 ≤ x ∧ x ≤ 255) :
  zaP Tryz.prog 229 [.agg (zal s)] (.v (.string (zh3 s))) := by
 refine pF Tryz.func229 ?_
 have hK := zm8 s.kind hk.1 hk.2
 have hC := zm8 s.cursor hc.1 hc.2
 have hB := ztO s.took
 have hP := zqJ s.p h1 h2 h3 hv
 have hdk : (ziY s.kind).size = 1 := zfE _
 have hdc : (ziY s.cursor).size = 1 := zfE _
 have hdb : (if s.took then zeq [116, 114, 117, 101] else zeq [102, 97, 108, 115, 101]).size ≤ 5 := by split <;> simp [zfE]
 have hdp : (zf6 s.p).size ≤ 302 := by unfold zf6; rw [zfE]; simp [zmZ]; omega
 have h32 : (ByteArray.mk ⟨[32]⟩).size = 1 := rfl
 unfold zh3
 rw [show zeq [32] = ByteArray.mk ⟨[32]⟩ from rfl]
 generalize ziY s.kind = dk at *
 generalize ziY s.cursor = dc at *
 generalize (if s.took then zeq [116, 114, 117, 101] else zeq [102, 97, 108, 115, 101]) = db at *
 generalize zf6 s.p = dp at *
 generalize ByteArray.mk ⟨[32]⟩ = sp at *
 repeat first|refine wV fun _=>?_|simp [go_sem]
 refine zAF hK (by simp [go_sem]) ?_
 repeat first|refine wV fun _=>?_|simp [go_sem]
 refine zAF hC (by simp [go_sem]) ?_
 repeat first|refine wV fun _=>?_|simp [go_sem]
 refine zAF hB (by simp [go_sem]) ?_
 repeat first|refine wV fun _=>?_|simp [go_sem]
 refine zAF hP (by simp [go_sem]) ?_
 repeat first|refine wV fun _=>?_|simp [go_sem]
def zbH (g : zad) (p : zag) (cell : Int) (prog : List (Int × Int)) (n : Nat) : List StD := (prog.take n).foldl (zga g) [zep p cell]
theorem zgh (g : zad) (p : zag) (cell : Int) (prog : List (Int × Int)) : zbH g p cell prog 0 = [zep p cell] := rfl
theorem zgg (g : zad) (p : zag) (cell : Int) (prog : List (Int × Int)) {n : Nat} (h : n < prog.length) : zbH g p cell prog (n + 1) = zga g (zbH g p cell prog n) (nth prog n) := by
 unfold zbH
 rw [List.take_add_one, List.getElem?_eq_getElem h, zau _ _ h, Option.toList_some, List.foldl_append]; rfl
theorem zgf (g : zad) (p : zag) (cell : Int) (prog : List (Int × Int)) : zbH g p cell prog prog.length = zd4 g p cell prog := by
 unfold zbH zd4; rw [List.take_length]
def zcQ (g : zad) (now : List StD) (x : Int × Int) (n : Nat) : List StD := (now.take n).foldl (fun next s => zd9 next (zbG g s x)) []
theorem zlv (g : zad) (now : List StD) (x : Int × Int) : zcQ g now x 0 = [] := rfl
theorem zhk (g : zad) (now : List StD) (x : Int × Int) {n : Nat} (h : n < now.length) : zcQ g now x (n + 1) = zd9 (zcQ g now x n) (zbG g (nth now n) x) := by
 unfold zcQ
 rw [List.take_add_one, List.getElem?_eq_getElem h, zau _ _ h, Option.toList_some, List.foldl_append]; rfl
theorem zjF (g : zad) (now : List StD) (x : Int × Int) : zcQ g now x now.length = zga g now x := by
 unfold zcQ zga; rw [List.take_length]
theorem zmN {g : zad} (hg : GOk g) {now : List StD} {x : Int × Int} (hx : zea g.next.length g.kinds.length g.rights x) {side : Int} (hn : ∀ s ∈ now, zeS g s ∧ s.p.side = side) :
  ∀ n, n ≤ now.length → (∀ s ∈ zcQ g now x n, zeS g s ∧ s.p.side = side) ∧ (zcQ g now x n).length ≤ 10 * n := by
 intro n
 induction n with
 | zero => intro _; simp [zcQ]
 | succ n ih =>
  intro h
  obtain ⟨h1, h2⟩ := ih (by omega)
  have hs := hn _ (zaj (show n < now.length by omega))
  rw [zhk g now x (by omega)]
  refine ⟨zh9 h1 (fun s hs' => ?_), ?_⟩
  ·obtain ⟨k1, k2⟩ := zgQ hg hs.1 hx s hs'
   exact ⟨k1, k2.trans hs.2⟩
  ·have k1 := (zgm (zbG g (nth now n) x) (zcQ g now x n)).2
   have k2 := zj1 hg (nth now n) x
   omega
theorem zjY {g : zad} (hg : GOk g) {p : zag} (hp : POk g p) {cell : Int} (h0 : 0 ≤ cell) (h1 : cell < g.cells) (hm : 0 ≤ (zak (nth p.at_ cell.toNat)).1) : zeS g (zep p cell) ∧ (zep p cell).p.side = p.side := by
 have hat := hp.at (i := cell.toNat) (by omega)
 have hk := zaR hat.1 hat.2 hg.k6
 refine ⟨⟨hp.clr _, h0, h1, ?_⟩, rfl⟩
 simp only [zep]
 rcases hk with ⟨_, e⟩ | ⟨_, a, b, _⟩
 ·rw [e] at hm; simp at hm
 ·exact ⟨a, b⟩
theorem zgP {g : zad} (hg : GOk g) {p : zag} (hp : POk g p) {cell : Int} (h0 : 0 ≤ cell) (h1 : cell < g.cells) (hm : 0 ≤ (zak (nth p.at_ cell.toNat)).1)
  {prog : List (Int × Int)} (hpr : ∀ x ∈ prog, zea g.next.length g.kinds.length g.rights x) :
  ∀ n, n ≤ prog.length → (∀ s ∈ zbH g p cell prog n, zeS g s ∧ s.p.side = p.side) ∧ (zbH g p cell prog n).length ≤ 10 ^ n := by
 intro n
 induction n with
 | zero => intro _; rw [zgh]; exact ⟨fun s hs => by simp at hs; subst hs; exact zjY hg hp h0 h1 hm, by simp⟩
 | succ n ih =>
  intro h
  obtain ⟨k1, k2⟩ := ih (by omega)
  rw [zgg g p cell prog (by omega), ← zjF]
  obtain ⟨j1, j2⟩ := zmN hg (hpr _ (zaj (show n < prog.length by omega))) k1 _ (Nat.le_refl _)
  refine ⟨j1, ?_⟩
  rw [Nat.pow_succ]
  omega
theorem zil {n : Nat} (h : n ≤ 8) : 10 ^ n ≤ 100000000 := by
 have := Nat.pow_le_pow_right (n := 10) (by omega) h
 exact this
def stR (g : zad) (p : zag) (cell : Int) (prog : List (Int × Int)) (n : Nat) : List (List AV) := (List.range n).map fun j => [zbb (zbH g p cell prog j)]
theorem zyx (g : zad) (p : zag) (cell : Int) (prog : List (Int × Int)) (n : Nat) : stR g p cell prog (n + 1) = stR g p cell prog n ++ [[zbb (zbH g p cell prog n)]] := by simp [stR, List.range_succ]
@[go_sem] theorem zqz (g : zad) (p : zag) (cell : Int) (prog : List (Int × Int)) (n : Nat) : (stR g p cell prog n).length = n := by simp [stR]
@[go_sem ↓] theorem bel_stR {m : Nat} {g : zad} {p : zag} {cell : Int} {prog : List (Int × Int)} {n : Nat} : (∀ r ∈ stR g p cell prog n, ∀ c ∈ r, Bel m c) = True := by
 refine eq_true fun r hr c hc => ?_
 obtain ⟨j, _, rfl⟩ := List.mem_map.1 hr
 simp only [List.mem_cons, List.not_mem_nil, or_false] at hc
 subst hc
 exact of_eq_true zpL
theorem zAf (g : zad) (p : zag) (cell : Int) (prog : List (Int × Int)) {n j : Nat} (h : j < n) : nth (stR g p cell prog n) j = [zbb (zbH g p cell prog j)] := by
 unfold stR; rw [zcC _ _ _ (by simpa using h)]; simp [nth, h]
theorem zuB {n : Nat} (l : List StD) : Bel n (zbb l) := of_eq_true zpL
structure zb4 (g : zad) (p : zag) (cell i : Int) : Prop where
 c0 : 0 ≤ cell
 c1 : cell < g.cells
 man : 0 ≤ (zak (nth p.at_ cell.toNat)).1
 side : (zak (nth p.at_ cell.toNat)).2 = p.side
 i0 : 0 ≤ i
 i1 : i < (nth g.kinds (zak (nth p.at_ cell.toNat)).1.toNat).progs.length
def zeF (side : Int) (x : Int × Int) (s : StD) (l : List zb8) : List zb8 := if x.1 = 0 then l ++ (zfQ side s).toList else l
def zx2 (p : zag) (l : List zb8) : List (Nat × zbn) := [(0, .rows true 0 5 [zac p]), (1, .rows true 0 1 [[.sl 2 l.length 6 0 l.length]]), (2, .rows true l.length 6 (l.map zaF))]
theorem zvz (g : zad) (hg : GOk g) (p : zag) (hp : POk g p) (s : StD) (hs : zeS g s) (hsd : s.p.side = p.side) (x : Int × Int) (l : List zb8) (hl : l.length ≤ 100000000) :
  zhW Tryz.prog 184 [.agg (zal s), .agg (zaO x), .ref 0 0 5 0 0, .ref 1 0 1 0 0] (zx2 p l) 3 (.tup []) (zx2 p (zeF p.side x s l)) 3 := by
 unfold zhW zx2
 refine zAJ (by kernel_rfl) Tryz.func184 rfl rfl (Nat.le_of_ble_eq_true rfl) (by kernel_rfl) ?_
 obtain ⟨hcur, h0, hm, _⟩ := zop g s hg hs
 have hcp := zgJ s (hs.p.fits hg)
 have hC := zdx s.kind p.side
 have hps := hp.s
 obtain ⟨op, xn⟩ := x
 repeat first|refine wV fun _=>?_|simp [go_sem, hcur]
 refine zAE (fun hc => ?_) (fun hc => ?_) <;> simp at hc
 ·have e : zeF p.side (op, xn) s l = l := by
   unfold zeF zfQ
   by_cases h : op = 0
   ·rw [if_pos h, if_neg (hc.resolve_left fun hn => hn h)]; simp
   ·rw [if_neg h]
  rw [e]
  repeat first|refine wV fun _=>?_|simp [go_sem]
  simp [go_sem, zaf]
 ·have e : zeF p.side (op, xn) s l = l ++ [⟨{ s.p with at_ := s.p.at_.set s.cursor.toNat (zaL s.kind p.side), side := 1 - p.side }, s.took⟩] := by
   unfold zeF zfQ
   rw [if_pos hc.1, if_pos hc.2]; rfl
  rw [e]
  generalize zaL s.kind p.side = code at *
  repeat first|refine wV fun _=>?_|simp [go_sem, hcur]
  refine zAH hcp (by simp [go_sem]) ?_
  repeat first|refine wV fun _=>?_|simp [go_sem, hcur]
  refine zAF hC (by simp [go_sem]) ?_
  repeat first|refine wV fun _=>?_|simp [go_sem, hcur]
  simp [go_sem, zaf]
  (first|done|exact rwX)
theorem zcA {n : Nat} (l : List zb8) : ∀ r ∈ l.map zaF, ∀ c ∈ r, Bel n c := by
 intro r hr c hc
 obtain ⟨x, _, rfl⟩ := List.mem_map.1 hr
 revert c
 simp [go_sem]
def zok (h : zao) (a b c : Nat) (p : zag) (l : List zb8) : zao := upd (upd (upd h a (some (.rows true 0 5 [zac p]))) b (some (.rows true 0 1 [[.sl c l.length 6 0 l.length]]))) c (some (.rows true l.length 6 (l.map zaF)))
theorem zol (g : zad) (hg : GOk g) (p : zag) (hp : POk g p) (s : StD) (hs : zeS g s) (hsd : s.p.side = p.side) (x : Int × Int) (l : List zb8) (hl : l.length ≤ 100000000) {h : zao} {n a b c : Nat}
  (hd : [a, b, c].Nodup) (hlt : ∀ j ∈ [a, b, c], j < n) (ha : h a = some (.rows true 0 5 [zac p])) (hb : h b = some (.rows true 0 1 [[.sl c l.length 6 0 l.length]])) (hc : h c = some (.rows true l.length 6 (l.map zaF))) {K : zcy}
  (hK : K (.tup []) (zok h a b c p (zeF p.side x s l)) n) :
  zaa Tryz.prog 184 [.agg (zal s), .agg (zaO x), .ref a 0 5 0 0, .ref b 0 1 0 0] h n K := by
 have hbs : ∀ m, Bel m (.agg (zal s)) := fun m => by simp [go_sem]
 have hbx : ∀ m, Bel m (.agg (zaO x)) := fun m => by simp [go_sem]
 have hbp : ∀ m, ∀ c ∈ zac p, Bel m c := fun m => by simp [go_sem]
 refine zAX (args' := [.agg (zal s), .agg (zaO x), .ref a 0 5 0 0, .ref b 0 1 0 0])
  (HH := [(a, .rows true 0 5 [zac p]), (b, .rows true 0 1 [[.sl c (zeF p.side x s l).length 6 0 (zeF p.side x s l).length]]), (c, .rows true (zeF p.side x s l).length 6 ((zeF p.side x s l).map zaF))])
  [a, b, c] h (zvz g hg p hp s hs hsd x l hl) hd hlt rfl (Nat.le_refl _) (.refl _) ?_ ?_ (.refl _ _ _ _) ?_ ?_ ?_ (.same ?_) ?_ ?_
 ·intro j hj
  rcases (show j = 0 ∨ j = 1 ∨ j = 2 by omega) with rfl | rfl | rfl
  ·exact ⟨_, _, rfl, ha, .rows (.same (by intro r hr; simp only [List.mem_singleton] at hr; subst hr; exact hbp _))⟩
  ·exact ⟨_, _, rfl, hb, .rows (.cons (.cons (.sl rfl) .nil) .nil)⟩
  ·exact ⟨_, _, rfl, hc, .rows (.same (zcA _))⟩
 ·intro q hq
  simp only [zx2, List.mem_cons, List.not_mem_nil, or_false] at hq
  rcases hq with rfl | rfl | rfl
  ·exact ⟨Nat.le_of_ble_eq_true rfl, by intro r hr; simp only [List.mem_singleton] at hr; subst hr; exact hbp _⟩
  ·exact ⟨Nat.le_of_ble_eq_true rfl, by simp [go_sem, zy4]⟩
  ·exact ⟨Nat.le_of_ble_eq_true rfl, zcA _⟩
 ·intro y hy
  simp only [List.mem_cons, List.not_mem_nil, or_false] at hy
  rcases hy with rfl | rfl | rfl | rfl
  ·exact hbs _
  ·exact hbx _
  ·exact .ref (hlt a (by simp))
  ·exact .ref (hlt b (by simp))
 ·exact .cons (.same (hbs _)) (.cons (.same (hbx _)) (.cons (.ref rfl) (.cons (.ref rfl) .nil)))
 ·intro y hy
  simp only [List.mem_cons, List.not_mem_nil, or_false] at hy
  rcases hy with rfl | rfl | rfl | rfl
  ·exact hbs _
  ·exact hbx _
  ·exact .ref (by decide)
  ·exact .ref (by decide)
 ·exact .tup (by simp)
 ·exact .cons rfl (.rows (.same (by intro r hr; simp only [List.mem_singleton] at hr; subst hr; exact hbp _))) (.cons rfl (.rows (.cons (.cons (.sl rfl) .nil) .nil)) (.cons rfl (.rows (.same (zcA _))) .nil))
 ·have e : zdV [(a, .rows true 0 5 [zac p]), (b, .rows true 0 1 [[.sl c (zeF p.side x s l).length 6 0 (zeF p.side x s l).length]]), (c, .rows true (zeF p.side x s l).length 6 ((zeF p.side x s l).map zaF))] (zlA [a, b, c] h) = zok h a b c p (zeF p.side x s l) := by
   simp only [List.nodup_cons, List.mem_cons, List.not_mem_nil, or_false, not_or, List.nodup_nil, and_true, not_false_eq_true] at hd
   obtain ⟨⟨d1, d2⟩, d3⟩ := hd
   funext j
   simp only [zdV, zlA, zok, upd]
   by_cases j1 : j = a
   ·subst j1; simp [d1, d2]
   ·by_cases j2 : j = b
    ·subst j2; simp [d3, j1]
    ·by_cases j3 : j = c
     ·subst j3; simp [j1, j2]
     ·simp [j1, j2, j3]
  rw [e]
  exact hK
def zz3 (s : StD) : List Int := [48 + s.kind, 32, 48 + s.cursor, 32] ++ ((if s.took then [116, 114, 117, 101] else [102, 97, 108, 115, 101]) ++ ([32] ++ zmZ s.p))
theorem zjj (s : StD) : (zh3 s).data.toList = (zz3 s).map fun n => UInt8.ofNat n.toNat := by
 unfold zh3 ziY zf6 zz3
 cases s.took <;> simp [ByteArray.data_append, zfo]
theorem u8_inj {x y : Int} (hx : 0 ≤ x ∧ x ≤ 255) (hy : 0 ≤ y ∧ y ≤ 255) (h : UInt8.ofNat x.toNat = UInt8.ofNat y.toNat) : x = y := by
 have h1 := congrArg UInt8.toNat h
 rw [UInt8.toNat_ofNat', UInt8.toNat_ofNat'] at h1
 omega
theorem zhe : ∀ {l l' : List Int}, (∀ x ∈ l, 0 ≤ x ∧ x ≤ 255) → (∀ x ∈ l', 0 ≤ x ∧ x ≤ 255) → (l.map fun n => UInt8.ofNat n.toNat) = (l'.map fun n => UInt8.ofNat n.toNat) → l = l'
 | [], [], _, _, _ => rfl
 | [], _ :: _, _, _, h => by simp at h
 | _ :: _, [], _, _, h => by simp at h
 | x :: l, y :: l', h1, h2, h => by
  simp only [List.map_cons, List.cons.injEq] at h
  rw [u8_inj (h1 x (by simp)) (h2 y (by simp)) h.1, zhe (fun z hz => h1 z (by simp [hz])) (fun z hz => h2 z (by simp [hz])) h.2]
theorem ziG {g : zad} (hg : GOk g) {p : zag} (hp : POk g p) : ∀ x ∈ zmZ p, 0 ≤ x ∧ x ≤ 255 := by
 have k6 := hg.k6
 have r0 := hp.r0
 have r1 := hp.r1
 have hr : (2 : Int) ^ g.rights.toNat ≤ 16 := by
  have h1 := hg.r0
  have h2 := hg.r4
  rcases (show g.rights = 0 ∨ g.rights = 1 ∨ g.rights = 2 ∨ g.rights = 3 ∨ g.rights = 4 by omega) with h | h | h | h | h <;> rw [h] <;> decide
 have hh : ∀ l, zeZ g l → ∀ x ∈ l, 0 ≤ x ∧ x ≤ 255 := by
  intro l hl x hx
  obtain ⟨i, hi, rfl⟩ := List.mem_iff_getElem.1 hx
  have := hl.v i hi
  rw [zau _ _ hi] at this
  omega
 intro x hx
 simp only [zmZ, List.mem_append, List.mem_cons, List.not_mem_nil, or_false] at hx
 rcases hx with ((hx | hx) | hx) | hx | hx
 ·have := hp.av x hx; omega
 ·exact hh _ hp.h0 x hx
 ·exact hh _ hp.h1 x hx
 ·omega
 ·have := hp.s; omega
theorem zxQ {g : zad} (hg : GOk g) {a b : StD} (ha : zeS g a) (hb : zeS g b) (h : zh3 a = zh3 b) : a = b := by
 have k6 := hg.k6
 have c9 := hg.c9
 have hv : ∀ s, zeS g s → ∀ x ∈ zz3 s, 0 ≤ x ∧ x ≤ 255 := by
  intro s hs x hx
  have hk := hs.k
  have h0 := hs.c0
  have h1 := hs.c1
  unfold zz3 at hx
  rcases List.mem_append.1 hx with hx | hx
  ·simp at hx; omega
  rcases List.mem_append.1 hx with hx | hx
  ·by_cases ht : s.took = true <;> simp [ht] at hx <;> omega
  rcases List.mem_append.1 hx with hx | hx
  ·simp at hx; omega
  ·exact ziG hg hs.p x hx
 have h1 : zz3 a = zz3 b := zhe (hv a ha) (hv b hb) (by rw [← zjj, ← zjj, h])
 obtain ⟨pa, ka, ca, ta⟩ := a
 obtain ⟨pb, kb, cb, tb⟩ := b
 unfold zz3 at h1
 simp only [List.cons_append, List.nil_append, List.cons.injEq, true_and] at h1
 obtain ⟨e1, e2, h1⟩ := h1
 obtain rfl : ka = kb := by omega
 obtain rfl : ca = cb := by omega
 have h2 : ta = tb ∧ zmZ pa = zmZ pb := by
  cases ta <;> cases tb <;> simp at h1 ⊢
  ·exact h1
  ·exact h1
 obtain ⟨rfl, h2⟩ := h2
 have a1 := ha.p.al
 have b1 := hb.p.al
 have a2 := ha.p.h0.len
 have b2 := hb.p.h0.len
 have a3 := ha.p.h1.len
 have b3 := hb.p.h1.len
 obtain ⟨pat, ph0, ph1, pr, ps⟩ := pa
 obtain ⟨qat, qh0, qh1, qr, qs⟩ := pb
 simp only [zmZ, List.append_assoc] at h2 a1 b1 a2 b2 a3 b3
 obtain ⟨e3, h3⟩ := List.append_inj h2 (by omega)
 obtain ⟨e4, h4⟩ := List.append_inj h3 (by omega)
 obtain ⟨e5, h5⟩ := List.append_inj h4 (by omega)
 simp only [List.cons.injEq, and_true] at h5
 rw [e3, e4, e5, h5.1, h5.2]
def zeO (s : StD) : List AV := [.v (.string (zh3 s)), .v (.bool true)]
theorem zxk {n : Nat} {l : List StD} : (∀ r ∈ l.map zeO, ∀ c ∈ r, Bel n c) = True := by
 refine eq_true ?_
 intro r hr c hc
 obtain ⟨x, _, rfl⟩ := List.mem_map.1 hr
 simp only [zeO, List.mem_cons, List.not_mem_nil, or_false] at hc
 rcases hc with rfl | rfl <;> exact .v _
attribute [go_sem ↓] zxk
theorem zn0 (t : StD) : ∀ (next : List StD), (∀ s ∈ next, zh3 t = zh3 s → t = s) → zc2 .string (.v (.string (zh3 t))) (next.map zeO) = some (if t ∈ next then some (.v (.bool true)) else none)
 | [], _ => by simp [zc2]
 | s :: next, h => by
  rw [List.map_cons, zc2]
  have e : zmB .string (.v (.string (zh3 t))) (cel (zeO s) 0) = some (zh3 t == zh3 s) := rfl
  rw [e, zgs]
  by_cases hk : zh3 t = zh3 s
  ·have := h s (by simp) hk
   subst this
   simp [zeO, cel]
  ·have hne : t ≠ s := fun e => hk (by rw [e])
   rw [decide_eq_false hk]
   simp only
   rw [zn0 t next (fun u hu => h u (by simp [hu]))]
   simp [hne]
theorem zrj (t : StD) : ∀ (next : List StD), (∀ s ∈ next, zh3 t = zh3 s → t = s) → t ∉ next → zej .string (.v (.string (zh3 t))) (.v (.bool true)) (next.map zeO) = some ((next ++ [t]).map zeO)
 | [], _, _ => by simp [zej, zeO]
 | s :: next, h, hn => by
  rw [List.map_cons, zej]
  have e : zmB .string (.v (.string (zh3 t))) (cel (zeO s) 0) = some (zh3 t == zh3 s) := rfl
  rw [e, zgs]
  have hk : zh3 t ≠ zh3 s := fun e => hn (by rw [h s (by simp) e]; simp)
  rw [decide_eq_false hk]
  simp only
  rw [zrj t next (fun u hu => h u (by simp [hu])) (fun hm => hn (by simp [hm]))]
  simp
def zdl (g : zad) (p : zag) (cell i : Int) : List zb8 := (zd4 g p cell (za0 g p cell i)).filterMap (zfQ p.side)
theorem zyu (g : zad) (hg : GOk g) (p : zag) (hp : POk g p) (cell i : Int) (hc : zb4 g p cell i) :
  zhW Tryz.prog 183 [.agg (zae g), .agg (zac p), .v (.int .i64 cell), .v (.int .i64 i), .fn (.func 184) [] [.ref 0 0 5 0 0, .ref 1 0 1 0 0]]
   [(0, .rows true 0 5 [zac p]), (1, .rows true 0 1 [[zAI]])] 2 (.v (.int .i64 0))
   [(0, .rows true 0 5 [zac p]), (1, .rows true 0 1 [[.sl 247 (zdl g p cell i).length 6 0 (zdl g p cell i).length]]), (247, .rows true (zdl g p cell i).length 6 ((zdl g p cell i).map zaF))] 248 := by
 unfold zhW
 refine zAJ (by kernel_rfl) Tryz.func183 rfl rfl (Nat.le_of_ble_eq_true rfl) (by kernel_rfl) ?_
 have hal := hp.al
 obtain ⟨c0, c1, cm, cs, i0, i1⟩ := hc
 have hcur : cell.toNat < p.at_.length := by omega
 have hat := hp.at (i := cell.toNat) (by omega)
 have hO := zfd (nth p.at_ cell.toNat)
 have hman := zaR hat.1 hat.2 hg.k6
 have hV := zkL g (by have := hg.k6; unfold zgU; omega) ⟨hg.r0, by have := hg.r4; omega⟩ p (hp.fits hg)
 rw [zmM.2 hp] at hV
 have hkl : (zak (nth p.at_ cell.toNat)).1.toNat < g.kinds.length := by
  rcases hman with ⟨_, e⟩ | ⟨_, a, b, _⟩
  ·rw [e] at cm; simp at cm
  ·omega
 have hil : i.toNat < (nth g.kinds (zak (nth p.at_ cell.toNat)).1.toNat).progs.length := by omega
 have hpg := hg.pr _ (zaj hkl) _ (zaj hil)
 have hst := fun n hn => zgP hg hp c0 c1 cm (prog := za0 g p cell i) hpg.st n hn
 have hz := zgh g p cell (za0 g p cell i)
 have hsu := fun n hn => zgg g p cell (za0 g p cell i) (n := n) hn
 have hla := zgf g p cell (za0 g p cell i)
 have hp8 := hpg.len
 have hpst := hpg.st
 have hpe : za0 g p cell i = nth (nth g.kinds (zak (nth p.at_ cell.toNat)).1.toNat).progs i.toNat := rfl
 rw [← hpe] at hp8 hpst
 have hlo : zdl g p cell i = (zd4 g p cell (za0 g p cell i)).filterMap (zfQ p.side) := rfl
 rw [hlo]
 obtain ⟨prog, hprog⟩ : ∃ q, q = za0 g p cell i := ⟨_, rfl⟩
 rw [← hprog] at hst hz hsu hp8 hpst hpe hla ⊢
 have hcp := zgJ ⟨p, (zak (nth p.at_ cell.toNat)).1, cell, false⟩ (hp.fits hg)
 generalize hm : zak (nth p.at_ cell.toNat) = m at *
 obtain ⟨mk, ms⟩ := m
 simp only at cm cs i1 hkl hil hpe hcp
 repeat first|refine wV fun _=>?_|simp [go_sem]
 refine zAD hV (by simp [go_sem]) ?_
 repeat first|refine wV fun _=>?_|simp [go_sem, hcur]
 (refine zAE (fun hF => by first | omega | (simp at hF; omega)) (fun hF => ?_); clear hF)
 repeat first|refine wV fun _=>?_|simp [go_sem, hcur]
 refine zAD hO (by simp [go_sem]) ?_
 repeat first|refine wV fun _=>?_|simp [go_sem, hkl, hil, cs]
 (refine zAE (fun hF => by first | omega | (simp at hF; omega)) (fun hF => ?_); clear hF)
 repeat first|refine wV fun _=>?_|simp [go_sem]
 refine zAH hcp (by simp [go_sem]) ?_
 repeat first|refine wV fun _=>?_|simp [go_sem, hcur, hkl, hil]
 rw [← hpe]
 have hsz : ∀ n, n ≤ prog.length → (zbH g p cell prog n).length ≤ 100000000 := fun n hn => Nat.le_trans (hst n hn).2 (zil (by omega))
 have hst0 : zbb (zbH g p cell prog 0) = .lst 8 [[.lst 1 ((p.at_.map zbB).set cell.toNat [.v (.int .i64 0)]), zap p.h0, zap p.h1, .v (.int .i64 p.rights), .v (.int .i64 p.side), .v (.int .i64 mk), .v (.int .i64 cell), .v (.bool false)]] := by
  rw [hz]; simp [zbb, zep, zal, clr, hm, zap, zbB, List.map_set]
 refine zAC (zAG (α := Nat) (fun k => ⟨[(4, .fn (.func 184) [] [.ref 0 0 5 0 0, .ref 1 0 1 0 0]), (5, .ref 2 0 9 0 0), (14, zbb (zbH g p cell prog k)), (87, zax prog), (88, .v (.int .i64 prog.length)), (89, .v (.int .i64 k))],
   [(0, .rows true 0 5 [zac p]), (1, .rows true 0 1 [[.sl 247 0 6 0 0]]), (2, .rows true 0 9 [zae g]), (247, .rows true 0 6 [])], 248⟩)
  (fun d k => k + d = prog.length) ?_ prog.length 0 ?_) ?_ ?_
 ·rintro d k k1 hrec
  repeat first|refine wV fun _=>?_|simp [go_sem]
  refine zAE (fun hk => ?_) (fun hk => ?_) <;> simp at hk
  ·have hkk := hst k (by omega)
   have hks := hsz k (by omega)
   have hks' := hsz (k + 1) (by omega)
   have hsk := hsu k hk
   have hxs := hpst _ (zaj hk)
   have hpo := fun n hn => zmN hg hxs hkk.1 n hn
   have hpa := zjF g (zbH g p cell prog k) (nth prog k)
   have hpz := zlv g (zbH g p cell prog k) (nth prog k)
   have hps := fun n hn => zhk g (zbH g p cell prog k) (nth prog k) (n := n) hn
   rw [← hsk] at hpa
   obtain ⟨now, hnow⟩ : ∃ now, now = zbH g p cell prog k := ⟨_, rfl⟩
   rw [← hnow] at hkk hks hpo hpa hpz hps ⊢
   obtain ⟨x, hx⟩ : ∃ x, x = nth prog k := ⟨_, rfl⟩
   rw [← hx] at hxs hpo hpa hpz hps
   repeat first|refine wV fun _=>?_|simp [go_sem, hk, ← hx]
   refine zAC (zAG (α := Nat) (fun n => ⟨[(4, .fn (.func 184) [] [.ref 0 0 5 0 0, .ref 1 0 1 0 0]), (5, .ref 2 0 9 0 0), (16, .ref 248 0 2 0 0), (17, .sl 250 (zcQ g now x n).length 8 0 (zcQ g now x n).length), (18, .mp 249), (87, zax prog), (88, .v (.int .i64 prog.length)), (89, .v (.int .i64 k)), (94, zbb now), (95, .v (.int .i64 now.length)), (96, .v (.int .i64 n))],
     [(0, .rows true 0 5 [zac p]), (1, .rows true 0 1 [[.sl 247 0 6 0 0]]), (2, .rows true 0 9 [zae g]), (247, .rows true 0 6 []), (248, .rows true 0 2 [zaO x]), (249, .rows true 0 2 ((zcQ g now x n).map zeO)), (250, .rows true (zcQ g now x n).length 8 ((zcQ g now x n).map zal))], 251⟩)
    (fun d n => n + d = now.length) ?_ now.length 0 ?_) ?_ ?_
   ·rintro d2 n n1 hrec2
    repeat first|refine wV fun _=>?_|simp [go_sem]
    refine zAE (fun hn => ?_) (fun hn => ?_) <;> simp at hn
    ·have hsn := hkk.1 _ (zaj hn)
     have hpn := hps n hn
     have hpoN := hpo n (by omega)
     have hpoS := hpo (n + 1) (by omega)
     have hSt := zwq g hg (nth now n) hsn.1 x hxs
     have hsl := zj1 hg (nth now n) x
     have hso := zgQ hg hsn.1 hxs
     have hlk : zeF p.side x (nth now n) [] = [] := by unfold zeF; rw [if_neg (by have := hxs.1; omega)]
     obtain ⟨s, hs⟩ : ∃ s, s = nth now n := ⟨_, rfl⟩
     rw [← hs] at hsn hpn hSt hsl hso hlk
     obtain ⟨more, hmore⟩ : ∃ more, more = zbG g s x := ⟨_, rfl⟩
     rw [← hmore] at hpn hSt hsl hso
     have hat := fun j hj => zng (zcQ g now x n) more (i := j) hj
     have hal' := fun j => zgm (more.take j) (zcQ g now x n)
     have haok : ∀ j, ∀ u ∈ zd9 (zcQ g now x n) (more.take j), zeS g u := fun j => zh9 (fun u hu => (hpoN.1 u hu).1) (fun u hu => (hso u (List.mem_of_mem_take hu)).1)
     have haz : zd9 (zcQ g now x n) (more.take 0) = zcQ g now x n := by simp [zqN]
     have haa : zd9 (zcQ g now x n) (more.take more.length) = zcQ g now x (n + 1) := by rw [List.take_length, hpn]
     obtain ⟨nx, hnx⟩ : ∃ nx : Nat → List StD, nx = fun j => zd9 (zcQ g now x n) (more.take j) := ⟨_, rfl⟩
     have hnx' : ∀ j, zd9 (zcQ g now x n) (more.take j) = nx j := fun j => by rw [hnx]
     simp only [hnx'] at hat hal' haok haz haa
     clear hnx hnx'
     repeat first|refine wV fun _=>?_|simp [go_sem, hn, ← hs]
     refine zol g hg p hp s hsn.1 hsn.2 x [] (by simp) (a := 0) (b := 1) (c := 247) (by decide) (by simp) (by simp [upd, zac, zap]) (by simp [upd]) (by simp [upd]) ?_
     rw [hlk]
     simp only [zok]
     repeat first|refine wV fun _=>?_|simp [go_sem]
     refine zAD hSt (by simp [go_sem]) ?_
     repeat first|refine wV fun _=>?_|simp [go_sem]
     refine zAC (zAG (α := Nat) (fun j => ⟨[(4, .fn (.func 184) [] [.ref 0 0 5 0 0, .ref 1 0 1 0 0]), (5, .ref 2 0 9 0 0), (16, .ref 248 0 2 0 0), (17, .sl 250 (nx j).length 8 0 (nx j).length), (18, .mp 249), (87, zax prog), (88, .v (.int .i64 prog.length)), (89, .v (.int .i64 k)), (94, zbb now), (95, .v (.int .i64 now.length)), (96, .v (.int .i64 n)), (107, zbb more), (108, .v (.int .i64 more.length)), (109, .v (.int .i64 j))],
       [(0, .rows true 0 5 [zac p]), (1, .rows true 0 1 [[.sl 247 0 6 0 0]]), (2, .rows true 0 9 [zae g]), (247, .rows true 0 6 []), (248, .rows true 0 2 [zaO x]), (249, .rows true 0 2 ((nx j).map zeO)), (250, .rows true (nx j).length 8 ((nx j).map zal))], 252⟩)
      (fun d j => j + d = more.length) ?_ more.length 0 ?_) ?_ ?_
     ·rintro d3 j j1 hrec3
      repeat first|refine wV fun _=>?_|simp [go_sem]
      refine zAE (fun hj => ?_) (fun hj => ?_) <;> simp at hj
      ·have htj := (hso _ (zaj hj)).1
       have hatj := hat j hj
       have halj := hal' j
       have hmj : (more.take j).length ≤ 10 := by rw [List.length_take]; omega
       obtain ⟨t, ht⟩ : ∃ t, t = nth more j := ⟨_, rfl⟩
       rw [← ht] at htj hatj
       have hk6 := hg.k6
       have hc9 := hg.c9
       have hta := htj.p.al
       have ht0 := htj.p.h0.len
       have ht1 := htj.p.h1.len
       have htk := htj.k
       have htc0 := htj.c0
       have htc1 := htj.c1
       have hKey := zxR t (by omega) (by omega) (by omega) (by omega) (by omega) (ziG hg htj.p)
       have hin : ∀ u ∈ nx j, zh3 t = zh3 u → t = u := fun u hu e => zxQ hg htj (haok j u hu) e
       have hfind := zn0 t (nx j) hin
       have hput := zrj t (nx j) hin
       repeat first|refine wV fun _=>?_|simp [go_sem, hj, ← ht]
       refine zAD hKey (by simp [go_sem]) ?_
       by_cases hmem : t ∈ nx j
       ·rw [if_pos hmem] at hatj hfind
        repeat first|refine wV fun _=>?_|simp [go_sem, hfind]
        refine zAC (hrec3 (d3 - 1) (by omega) (j + 1) (by omega)) ?_ (by simp)
        simp [go_sem, zaf, hatj]
       ·rw [if_neg hmem] at hatj hfind
        have hput := hput hmem
        repeat first|refine wV fun _=>?_|simp [go_sem, hfind, hput]
        refine zAC (hrec3 (d3 - 1) (by omega) (j + 1) (by omega)) ?_ (by simp)
        simp [go_sem, zaf, hatj]
        intro c hc
        simp only [zeO, List.mem_cons, List.not_mem_nil, or_false] at hc
        rcases hc with rfl | rfl <;> exact .v _
      ·have hnl : j = more.length := by omega
       subst hnl
       rw [haa]
       repeat first|refine wV fun _=>?_|simp [go_sem]
       refine zAC (hrec2 (d2 - 1) (by omega) (n + 1) (by omega)) ?_ (by simp)
       simp [go_sem, zaf]
     ·omega
     ·simp [go_sem, zaf, haz]
     ·simp
    ·have hnl : n = now.length := by omega
     subst hnl
     rw [hpa]
     repeat first|refine wV fun _=>?_|simp [go_sem]
     refine zAC (hrec (d - 1) (by omega) (k + 1) (by omega)) ?_ (by simp)
     simp [go_sem, zaf]
     exact frX
   ·omega
   ·simp [go_sem, zaf, hpz]
   ·simp
  ·have hkl' : k = prog.length := by omega
   subst hkl'
   rw [hla]
   have hl8 := hsz prog.length (Nat.le_refl _)
   have hlok := (hst prog.length (Nat.le_refl _)).1
   rw [hla] at hl8 hlok
   generalize zd4 g p cell prog = last at *
   repeat first|refine wV fun _=>?_|simp [go_sem]
   refine zAC (zAG (α := Nat) (fun j => ⟨[(4, .fn (.func 184) [] [.ref 0 0 5 0 0, .ref 1 0 1 0 0]), (129, zbb last), (130, .v (.int .i64 last.length)), (131, .v (.int .i64 j))],
     [(0, .rows true 0 5 [zac p]), (1, .rows true 0 1 [[.sl 247 ((last.take j).filterMap (zfQ p.side)).length 6 0 ((last.take j).filterMap (zfQ p.side)).length]]), (247, .rows true ((last.take j).filterMap (zfQ p.side)).length 6 (((last.take j).filterMap (zfQ p.side)).map zaF))], 248⟩)
    (fun d j => j + d = last.length) ?_ last.length 0 ?_) ?_ ?_
   ·rintro d4 j j1 hrec4
    repeat first|refine wV fun _=>?_|simp [go_sem]
    refine zAE (fun hj => ?_) (fun hj => ?_) <;> simp at hj
    ·have hsj := hlok _ (zaj hj)
     have hol : ((last.take j).filterMap (zfQ p.side)).length ≤ 100000000 := Nat.le_trans (List.length_filterMap_le _ _) (by rw [List.length_take]; omega)
     have hse : (last.take (j + 1)).filterMap (zfQ p.side) = zeF p.side (0, 0) (nth last j) ((last.take j).filterMap (zfQ p.side)) := by
      rw [List.take_add_one, List.getElem?_eq_getElem hj, zau _ _ hj, List.filterMap_append]
      simp only [Option.toList_some, List.filterMap_cons, List.filterMap_nil, zeF, if_true]
      cases zfQ p.side last[j] <;> rfl
     obtain ⟨out, hout⟩ : ∃ out, out = (last.take j).filterMap (zfQ p.side) := ⟨_, rfl⟩
     rw [← hout] at hol hse ⊢
     obtain ⟨t, ht⟩ : ∃ t, t = nth last j := ⟨_, rfl⟩
     rw [← ht] at hsj hse
     repeat first|refine wV fun _=>?_|simp [go_sem, hj, ← ht]
     refine zol g hg p hp t hsj.1 hsj.2 (0, 0) out hol (a := 0) (b := 1) (c := 247) (by decide) (by simp) (by simp [upd, zac, zap]) (by simp [upd]) (by simp [upd]) ?_
     rw [← hse]
     simp only [zok]
     repeat first|refine wV fun _=>?_|simp [go_sem]
     refine zAC (hrec4 (d4 - 1) (by omega) (j + 1) (by omega)) ?_ (by simp)
     simp [go_sem, zaf]
    ·have hnl : j = last.length := by omega
     subst hnl
     rw [List.take_length]
     repeat first|refine wV fun _=>?_|simp [go_sem]
     simp [go_sem, zaf]
   ·omega
   ·simp [go_sem, zaf]
   ·simp
 ·omega
 ·simp [go_sem, zaf]
  rw [show AV.lst 8 (List.map zal (zbH g p cell prog 0)) = _ from hst0]
  (first|done|exact dpX)
 ·simp
theorem zrE (g : zad) (hg : GOk g) (p : zag) (hp : POk g p) (cell i : Int) (hc : zb4 g p cell i) :
  zaP Tryz.prog 293 [.agg (zae g), .agg (zac p), .v (.int .i64 cell), .v (.int .i64 i)]
   (.agg [.lst 1 (stR g p cell (za0 g p cell i) ((za0 g p cell i).length + 1)), .v (.int .i64 0)]) := by
 refine pF Tryz.func293 ?_
 have hal := hp.al
 obtain ⟨c0, c1, cm, cs, i0, i1⟩ := hc
 have hcur : cell.toNat < p.at_.length := by omega
 have hat := hp.at (i := cell.toNat) (by omega)
 have hO := ze2 (nth p.at_ cell.toNat)
 have hman := zaR hat.1 hat.2 hg.k6
 have hcp := zdB p (hp.fits hg)
 have hV := zph g (by have := hg.k6; unfold zgU; omega) ⟨hg.r0, by have := hg.r4; omega⟩ p (hp.fits hg)
 rw [zmM.2 hp] at hV
 have hkl : (zak (nth p.at_ cell.toNat)).1.toNat < g.kinds.length := by
  rcases hman with ⟨_, e⟩ | ⟨_, a, b, _⟩
  ·rw [e] at cm; simp at cm
  ·omega
 have hil : i.toNat < (nth g.kinds (zak (nth p.at_ cell.toNat)).1.toNat).progs.length := by omega
 have hpg := hg.pr _ (zaj hkl) _ (zaj hil)
 have hst := fun n hn => zgP hg hp c0 c1 cm (prog := za0 g p cell i) hpg.st n hn
 have hz := zgh g p cell (za0 g p cell i)
 have hsu := fun n hn => zgg g p cell (za0 g p cell i) (n := n) hn
 have hR := fun n => zyx g p cell (za0 g p cell i) n
 have hp8 := hpg.len
 have hpst := hpg.st
 have hpe : za0 g p cell i = nth (nth g.kinds (zak (nth p.at_ cell.toNat)).1.toNat).progs i.toNat := rfl
 rw [← hpe] at hp8 hpst
 obtain ⟨prog, hprog⟩ : ∃ q, q = za0 g p cell i := ⟨_, rfl⟩
 rw [← hprog] at hst hz hsu hR hp8 hpst hpe ⊢
 generalize hm : zak (nth p.at_ cell.toNat) = m at *
 obtain ⟨mk, ms⟩ := m
 simp only at cm cs i1 hkl hil hpe
 repeat first|refine wV fun _=>?_|simp [go_sem]
 refine zAD hV (by simp [go_sem]) ?_
 repeat first|refine wV fun _=>?_|simp [go_sem]
 (refine zAE (fun hF => by first | omega | (simp at hF; omega)) (fun hF => ?_); clear hF)
 repeat first|refine wV fun _=>?_|simp [go_sem, hcur]
 refine zAD hO (by simp [go_sem]) ?_
 repeat first|refine wV fun _=>?_|simp [go_sem, hkl, hil]
 refine zAE (fun hF => by simp at hF; omega) (fun hF => ?_)
 clear hF
 repeat first|refine wV fun _=>?_|simp [go_sem]
 refine zA2 28 (by rfl) (hcp) (by decide) (by simp [go_sem]) (by simp [go_sem]) (fun _ => zan.refl _ _ _ _) (by simp [go_sem]) (by simp [go_sem]) ?_
 ((repeat (first|with_reducible (first|refine wL fun _=>?_|refine wD fun _=>?_|refine wZ ?_)|simp [go_sem])); refine zBd (by kernel_rfl) ?_)
 repeat first|refine wV fun _=>?_|simp [go_sem, hcur, hkl, hil]
 rw [← hpe]
 have hsz : ∀ n, n ≤ prog.length → (zbH g p cell prog n).length ≤ 100000000 := fun n hn => Nat.le_trans (hst n hn).2 (zil (by omega))
 have hst0 : zbb (zbH g p cell prog 0) = .lst 8 [[.lst 1 ((p.at_.map zbB).set cell.toNat [.v (.int .i64 0)]), zap p.h0, zap p.h1, .v (.int .i64 p.rights), .v (.int .i64 p.side), .v (.int .i64 mk), .v (.int .i64 cell), .v (.bool false)]] := by
  rw [hz]; simp [zbb, zep, zal, clr, hm, zap, zbB, List.map_set]
 have hR0 : stR g p cell prog 1 = [[zbb (zbH g p cell prog 0)]] := rfl
 refine zAC (zAG (α := Nat) (fun k => ⟨[(4, .ref 0 0 9 0 0), (8, .ref 2 0 2 0 0), (11, .ref 146 0 2 0 0), (12, zbb (zbH g p cell prog k)), (13, zax prog), (14, .v (.int .i64 k))],
   [(0, .rows true 0 9 [zae g]), (2, .rows true 0 2 [[zAI, .v (.int .i64 0)]]), (142, .rows true k 1 (stR g p cell prog (k + 1))), (146, .rows true 0 2 [[.sl 142 k 1 0 (k + 1), .v (.int .i64 0)]])], 148⟩)
  (fun d k => k + d = prog.length) ?_ prog.length 0 ?_) ?_ ?_
 ·rintro d k k1 hrec
  repeat first|refine wV fun _=>?_|simp [go_sem]
  refine zAE (fun hk => ?_) (fun hk => ?_) <;> simp at hk
  ·have hkk := hst k (by omega)
   have hks := hsz k (by omega)
   have hks' := hsz (k + 1) (by omega)
   have hsk := hsu k hk
   have hxs := hpst _ (zaj hk)
   have hpo := fun n hn => zmN hg hxs hkk.1 n hn
   have hpa := zjF g (zbH g p cell prog k) (nth prog k)
   have hpz := zlv g (zbH g p cell prog k) (nth prog k)
   have hps := fun n hn => zhk g (zbH g p cell prog k) (nth prog k) (n := n) hn
   rw [← hsk] at hpa
   obtain ⟨now, hnow⟩ : ∃ now, now = zbH g p cell prog k := ⟨_, rfl⟩
   rw [← hnow] at hkk hks hpo hpa hpz hps ⊢
   obtain ⟨x, hx⟩ : ∃ x, x = nth prog k := ⟨_, rfl⟩
   rw [← hx] at hxs hpo hpa hpz hps
   repeat first|refine wV fun _=>?_|simp [go_sem]
   refine zAC (zAG (α := Nat) (fun n => ⟨[(4, .ref 0 0 9 0 0), (8, .ref 2 0 2 0 0), (11, .ref 146 0 2 0 0), (12, zbb now), (13, zax prog), (14, .v (.int .i64 k)), (15, .sl 148 (zcQ g now x n).length 8 0 (zcQ g now x n).length), (16, .v (.int .i64 n))],
     [(0, .rows true 0 9 [zae g]), (2, .rows true 0 2 [[zAI, .v (.int .i64 0)]]), (142, .rows true k 1 (stR g p cell prog (k + 1))), (146, .rows true 0 2 [[.sl 142 k 1 0 (k + 1), .v (.int .i64 0)]]), (148, .rows true (zcQ g now x n).length 8 ((zcQ g now x n).map zal))], 149⟩)
    (fun d n => n + d = now.length) ?_ now.length 0 ?_) ?_ ?_
   ·rintro d2 n n1 hrec2
    repeat first|refine wV fun _=>?_|simp [go_sem]
    refine zAE (fun hn => ?_) (fun hn => ?_) <;> simp at hn
    ·have hsn := hkk.1 _ (zaj hn)
     have hpn := hps n hn
     have hpoN := hpo n (by omega)
     have hpoS := hpo (n + 1) (by omega)
     have hSt := zpb g hg (nth now n) hsn.1 x hxs
     have hsl := zj1 hg (nth now n) x
     have hso := zgQ hg hsn.1 hxs
     have hAd := zrF (zcQ g now x n) (zbG g (nth now n) x) (by omega) (fun s hs => (hpoN.1 s hs).1.p.fits hg) (fun s hs => (hso s hs).1.p.fits hg)
     rw [← hpn] at hAd
     repeat first|refine wV fun _=>?_|simp [go_sem, hn, hk, ← hx]
     refine zAF hSt (by simp [go_sem]) ?_
     repeat first|refine wV fun _=>?_|simp [go_sem]
     refine zBf (o := 148) hAd rfl (of_eq_true zqV) (of_eq_true zqV) (fun _ => .cons (.sl rfl) (.cons (.same (zuB _)) .nil)) (by simp [go_sem]) (fun n₁ hn₁ => by simp [go_sem, hn₁]) (fun _ => .sl rfl) (.inr ⟨_, _, _, _, rfl⟩) ?_
     repeat first|refine wV fun _=>?_|simp [go_sem]
     refine zAC (hrec2 (d2 - 1) (by omega) (n + 1) (by omega)) ?_ (by simp)
     simp [go_sem, zaf]
    ·have hnl : n = now.length := by omega
     subst hnl
     rw [hpa]
     repeat first|refine wV fun _=>?_|simp [go_sem]
     have hRk := hR (k + 1)
     refine zAC (hrec (d - 1) (by omega) (k + 1) (by omega)) ?_ (by simp)
     simp [go_sem, zaf, hRk]
     refine ⟨?_, zar (.refl _) (.cons (.cons ?_ .nil) .nil)⟩ <;> exact frX
   ·omega
   ·simp [go_sem, zaf, hpz]
   ·simp
  ·have hkl' : k = prog.length := by omega
   subst hkl'
   repeat first|refine wV fun _=>?_|simp [go_sem]
   exact zaB rfl (by rw [zqz]; omega) (by simp [noH, upd]) (by rw [List.drop_zero, List.take_of_length_le (by rw [zqz]; omega)])
 ·omega
 ·simp [go_sem, zaf, hR0]
  rw [show AV.lst 8 (List.map zal (zbH g p cell prog 0)) = _ from hst0]
  refine ⟨?_, ?_⟩
  ·(first|done|exact dpX)
  ·(first|done|exact dpX)
 ·simp
end Go.Av
end
