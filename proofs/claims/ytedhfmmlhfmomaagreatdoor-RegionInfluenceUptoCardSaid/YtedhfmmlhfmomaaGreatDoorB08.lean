/- Texts of ours, part 8: our library and contracts of functions. -/
import Derived.Test.YtedhfmmlhfmomaaGreatDoorB07
set_option linter.unusedSimpArgs false
set_option linter.unusedVariables false
set_option maxRecDepth 100000
set_option maxHeartbeats 40000000
section
/- Our library, part 17: calls of functions that are given objects of ours and turn them. -/
namespace Go.Av
open Go

mutual
inductive Rn (σ : Nat → Nat) : AV → AV → Prop
 | same {x : AV} (h : Bel 0 x) : Rn σ x x
 | ref {o o' g sz i off : Nat} (h : o' = σ o) : Rn σ (.ref o g sz i off) (.ref o' g sz i off)
 | sl {o o' g sz i len : Nat} (h : o' = σ o) : Rn σ (.sl o g sz i len) (.sl o' g sz i len)
 | agg {xs ys : List AV} (h : RnL σ xs ys) : Rn σ (.agg xs) (.agg ys)
 | tup {xs ys : List AV} (h : RnL σ xs ys) : Rn σ (.tup xs) (.tup ys)
 | fn {f : Fn} {a b a' b' : List AV} (h : RnL σ a a') (h' : RnL σ b b') : Rn σ (.fn f a b) (.fn f a' b')
inductive RnL (σ : Nat → Nat) : List AV → List AV → Prop
 | nil : RnL σ [] []
 | cons {x y : AV} {xs ys : List AV} (h : Rn σ x y) (t : RnL σ xs ys) : RnL σ (x :: xs) (y :: ys)
end
inductive zuB (σ : Nat → Nat) : List (List AV) → List (List AV) → Prop
 | same {rs : List (List AV)} (h : ∀ r ∈ rs, ∀ c ∈ r, Bel 0 c) : zuB σ rs rs
 | nil : zuB σ [] []
 | cons {x y : List AV} {xs ys : List (List AV)} (h : RnL σ x y) (t : zuB σ xs ys) : zuB σ (x :: xs) (y :: ys)
inductive RnO (σ : Nat → Nat) : zbi → zbi → Prop
 | rows {mt : Bool} {g sz : Nat} {rs rs' : List (List AV)} (h : zuB σ rs rs') : RnO σ (.rows mt g sz rs) (.rows mt g sz rs')
inductive RnH (σ : Nat → Nat) : List (Nat × zbi) → List (Nat × zbi) → Prop
 | nil : RnH σ [] []
 | cons {o o' : Nat} {x y : zbi} {l l' : List (Nat × zbi)} (e : o' = σ o) (h : RnO σ x y) (t : RnH σ l l') : RnH σ ((o, x) :: l) ((o', y) :: l')
section
variable {σ : Nat → Nat} {φ φ' : zas} {w : World} {M M' : Nat → Prop}
theorem Rn.rel (hφ : ∀ o, φ' (σ o) = φ o) (hM : ∀ k, M' k → M k) {x y : AV} (hs : Rn σ x y) : ∀ {v : Value}, Rel φ w M x v → Rel φ' w M' y v := by
 refine Rn.rec (σ := σ) (motive_1 := fun x y _ => ∀ {v : Value}, Rel φ w M x v → Rel φ' w M' y v) (motive_2 := fun xs ys _ => ∀ {vs : List Value}, zaH φ w M xs vs → zaH φ' w M' ys vs)
  ?_ ?_ ?_ ?_ ?_ ?_ ?_ ?_ hs
 ·intro x hb v hx; exact hx.closed hM hb
 ·intro o o' g sz i off e v hx
  subst e
  cases hx with | ref ho hg h => exact .ref (by rw [hφ]; exact ho) hg h
 ·intro o o' g sz i len e v hx
  subst e
  cases hx with | sl ho hg h => exact .sl (by rw [hφ]; exact ho) hg h
 ·intro xs ys _ ih v hx
  cases hx with | agg hv h => exact .agg hv (ih h)
 ·intro xs ys _ ih v hx
  cases hx with | tup h => exact .tup (ih h)
 ·intro f a b a' b' _ _ ih1 ih2 v hx
  cases hx with | fn h1 h2 => exact .fn (ih1 h1) (ih2 h2)
 ·intro vs hx; cases hx; exact .nil
 ·intro x y xs ys _ _ ih1 ih2 vs hx
  cases hx with | cons h t => exact .cons (ih1 h) (ih2 t)
theorem Rn.back {m : Nat} (hφ : ∀ o, o < m → φ o = φ' (σ o)) (hM : ∀ k, M k → M' k) {x y : AV} (hs : Rn σ x y) : Bel m x → ∀ {v : Value}, Rel φ' w M' y v → Rel φ w M x v := by
 refine Rn.rec (σ := σ) (motive_1 := fun x y _ => Bel m x → ∀ {v : Value}, Rel φ' w M' y v → Rel φ w M x v) (motive_2 := fun xs ys _ => (∀ c ∈ xs, Bel m c) → ∀ {vs : List Value}, zaH φ' w M' ys vs → zaH φ w M xs vs)
  ?_ ?_ ?_ ?_ ?_ ?_ ?_ ?_ hs
 ·intro x hb _ v hx; exact hx.closed hM hb
 ·intro o o' g sz i off e hb v hx
  subst e
  cases hb with | ref hb => cases hx with | ref ho hg h => exact .ref (by rw [hφ _ hb]; exact ho) hg h
 ·intro o o' g sz i len e hb v hx
  subst e
  cases hb with | sl hb => cases hx with | sl ho hg h => exact .sl (by rw [hφ _ hb]; exact ho) hg h
 ·intro xs ys _ ih hb v hx
  cases hb with | agg hb => cases hx with | agg hv h => exact .agg hv (ih hb h)
 ·intro xs ys _ ih hb v hx
  cases hb with | tup hb => cases hx with | tup h => exact .tup (ih hb h)
 ·intro f a b a' b' _ _ ih1 ih2 hb v hx
  cases hb with | fn hb hb' => cases hx with | fn h1 h2 => exact .fn (ih1 hb h1) (ih2 hb' h2)
 ·intro _ vs hx; cases hx; exact .nil
 ·intro x y xs ys _ _ ih1 ih2 hb vs hx
  cases hx with | cons h t => exact .cons (ih1 (hb _ (by simp)) h) (ih2 (fun c hc => hb c (by simp [hc])) t)
theorem RnL.rel (hφ : ∀ o, φ' (σ o) = φ o) (hM : ∀ k, M' k → M k) : ∀ {xs ys : List AV} {vs : List Value}, RnL σ xs ys → zaH φ w M xs vs → zaH φ' w M' ys vs
 | [], _, _, .nil, .nil => .nil
 | _ :: _, _, _, .cons h t, .cons h' t' => .cons (h.rel hφ hM h') (t.rel hφ hM t')
theorem RnL.back {m : Nat} (hφ : ∀ o, o < m → φ o = φ' (σ o)) (hM : ∀ k, M k → M' k) : ∀ {xs ys : List AV} {vs : List Value}, RnL σ xs ys → (∀ c ∈ xs, Bel m c) → zaH φ' w M' ys vs → zaH φ w M xs vs
 | [], _, _, .nil, _, .nil => .nil
 | _ :: _, _, _, .cons h t, hb, .cons h' t' => .cons (h.back hφ hM (hb _ (by simp)) h') (t.back hφ hM (fun c hc => hb c (by simp [hc])) t')
theorem RnL.length : ∀ {xs ys : List AV}, RnL σ xs ys → ys.length = xs.length
 | [], _, .nil => rfl
 | _ :: _, _, .cons _ t => by simp [t.length]
theorem zuB.rel (hφ : ∀ o, φ' (σ o) = φ o) (hM : ∀ k, M' k → M k) {xs ys : List (List AV)} (hs : zuB σ xs ys) :
  ∀ {vs : List Value}, zaH φ w M xs.flatten vs → zaH φ' w M' ys.flatten vs := by
 induction hs with
 | same h =>
  intro vs hx
  refine zBA hx.length fun k hk hk' => (hx.get k hk hk').closed hM ?_
  obtain ⟨r, hr, hc⟩ := List.mem_flatten.1 (List.getElem_mem hk)
  exact h r hr _ hc
 | nil => intro vs hx; cases hx; exact .nil
 | cons h _ ih =>
  intro vs hx
  rw [List.flatten_cons] at hx ⊢
  obtain ⟨us, ts, rfl, h1, h2⟩ := hx.split
  exact (h.rel hφ hM h1).append (ih h2)
theorem zuB.back {m : Nat} (hφ : ∀ o, o < m → φ o = φ' (σ o)) (hM : ∀ k, M k → M' k) {xs ys : List (List AV)} (hs : zuB σ xs ys) :
  (∀ r ∈ xs, ∀ c ∈ r, Bel m c) → ∀ {vs : List Value}, zaH φ' w M' ys.flatten vs → zaH φ w M xs.flatten vs := by
 induction hs with
 | same h =>
  intro _ vs hx
  refine zBA hx.length fun k hk hk' => (hx.get k hk hk').closed hM ?_
  obtain ⟨r, hr, hc⟩ := List.mem_flatten.1 (List.getElem_mem hk)
  exact h r hr _ hc
 | nil => intro _ vs hx; cases hx; exact .nil
 | cons h _ ih =>
  intro hb vs hx
  rw [List.flatten_cons] at hx ⊢
  obtain ⟨us, ts, rfl, h1, h2⟩ := hx.split
  exact (h.back hφ hM (hb _ (by simp)) h1).append (ih (fun r hr => hb r (by simp [hr])) h2)
theorem zuB.shape {xs ys : List (List AV)} (hs : zuB σ xs ys) : ys.length = xs.length ∧ (∀ sz, (∀ r ∈ xs, r.length = sz) → ∀ r ∈ ys, r.length = sz) ∧ ∀ sz, (∀ r ∈ ys, r.length = sz) → ∀ r ∈ xs, r.length = sz := by
 induction hs with
 | same h => exact ⟨rfl, fun _ h => h, fun _ h => h⟩
 | nil => exact ⟨rfl, fun _ h => h, fun _ h => h⟩
 | cons h _ ih =>
  refine ⟨by simp [ih.1], fun sz hr r hm => ?_, fun sz hr r hm => ?_⟩
  ·rcases List.mem_cons.1 hm with rfl | hm
   ·rw [h.length]; exact hr _ (by simp)
   ·exact ih.2.1 sz (fun r hr' => hr r (by simp [hr'])) r hm
  ·rcases List.mem_cons.1 hm with rfl | hm
   ·rw [← h.length]; exact hr _ (by simp)
   ·exact ih.2.2 sz (fun r hr' => hr r (by simp [hr'])) r hm
theorem RnH.at {l l' : List (Nat × zbi)} (hinj : ∀ a b, σ a = σ b → a = b) (hs : RnH σ l l') {o : Nat} {y : zbi} (ho : mkH l' o = some y) : ∃ o0 x, o = σ o0 ∧ mkH l o0 = some x ∧ RnO σ x y := by
 induction hs with
 | nil => cases ho
 | @cons o1 o1' x1 y1 l l' e1 h _ ih =>
  simp only [mkH, upd] at ho ⊢
  split at ho
  ·rename_i e
   cases ho
   exact ⟨o1, x1, e.trans e1, by simp, h⟩
  ·rename_i e
   obtain ⟨o0, x, rfl, h1, h2⟩ := ih ho
   refine ⟨o0, x, rfl, ?_, h2⟩
   rw [if_neg (fun h => e (by rw [h, e1]))]; exact h1
end
def ren (rs : List Nat) (n : Nat) (j : Nat) : Nat := if j < rs.length then rs.getD j 0 else n + (j - rs.length)
def zll : List Nat → zan → zan
 | [], h => h
 | o :: l, h => upd (zll l h) o none
theorem zw8 (h : zan) : ∀ (l : List Nat) (o : Nat), zll l h o = if o ∈ l then none else h o
 | [], o => by simp [zll]
 | a :: l, o => by
  simp only [zll, upd, List.mem_cons]
  by_cases e : o = a
  ·simp [e]
  ·simp [e, zw8 h l o]
theorem zih {rs : List Nat} {n j : Nat} (h : j < rs.length) : ren rs n j ∈ rs := by
 unfold ren; rw [if_pos h, List.getD_eq_getElem?_getD, List.getElem?_eq_getElem h]; exact List.getElem_mem h
theorem zA0 {rs : List Nat} {n : Nat} (hd : rs.Nodup) (hlt : ∀ o ∈ rs, o < n) : ∀ a b, ren rs n a = ren rs n b → a = b := by
 intro a b he
 by_cases ha : a < rs.length <;> by_cases hb : b < rs.length
 ·unfold ren at he
  rw [if_pos ha, if_pos hb, List.getD_eq_getElem?_getD, List.getD_eq_getElem?_getD, List.getElem?_eq_getElem ha, List.getElem?_eq_getElem hb] at he
  exact (List.getElem_inj hd).1 (by simpa using he)
 ·have h1 := hlt _ (zih (n := n) ha)
  rw [he] at h1
  unfold ren at h1
  rw [if_neg hb] at h1; omega
 ·have h1 := hlt _ (zih (n := n) hb)
  rw [← he] at h1
  unfold ren at h1
  rw [if_neg ha] at h1; omega
 ·unfold ren at he
  rw [if_neg ha, if_neg hb] at he; omega
def zjp (P : Program) (f : FuncId) (args : List AV) (HA : List (Nat × zbi)) (m : Nat) (R0 : AV) (H0 : List (Nat × zbi)) (k2 : Nat) : Prop :=
 zaa P f args (mkH HA) m (fun r h n' => Wk (fun _ => r) h n' [(0, R0)] H0 k2)
theorem zBB {P : Program} {f : FuncId} {args args' args0 : List AV} {h : zan} {n m k2 : Nat} {K : zco} {R0 R : AV} {HA H0 HH : List (Nat × zbi)} (rs : List Nat) (h' : zan)
  (hp : zjp P f args0 HA m R0 H0 k2) (hd : rs.Nodup) (hlt : ∀ o ∈ rs, o < n) (hm : rs.length = m) (hmk : m ≤ k2) (hfz : Frz h h')
  (hA : ∀ j, j < m → ∃ x y, mkH HA j = some x ∧ h' (ren rs n j) = some y ∧ RnO (ren rs n) x y) (hAb : ∀ p ∈ HA, p.1 < m ∧ zzH m p.2)
  (hle : zam h h' n args args') (hb' : ∀ c ∈ args', Bel n c) (hargs0 : RnL (ren rs n) args0 args') (hb0 : ∀ c ∈ args0, Bel m c)
  (hR : Rn (ren rs n) R0 R) (hHH : RnH (ren rs n) H0 HH) (hk : K R (zdM HH (zll rs h')) (n + (k2 - m))) : zaa P f args h n K := by
 refine ⟨hp.1, fun M0 φ w vs hH hargs => ?_⟩
 obtain ⟨hH', st0⟩ := hH.freeze hfz
 have hσ := zA0 hd hlt
 have hmt : ∀ o g sz rs, h' o = some (.rows true g sz rs) → h o = some (.rows true g sz rs) := by
  intro o g sz rs ho
  rcases hfz o with h1 | ⟨g1, sz1, rs1, h1, h2⟩
  ·rw [← h1]; exact ho
  ·rw [h2] at ho; cases ho
 have hmut0 : ∀ k, Mut φ h' k → Mut φ h k := by
  rintro k ⟨o, g, sz, rs, g', a, bs, ho, hp, rfl⟩
  exact ⟨o, g, sz, rs, g', a, bs, hmt _ _ _ _ ho, hp, rfl⟩
 have hv : zaH φ w (Or M0 (Mut φ h')) args' vs := by
  refine zam.rel (φ' := φ) (n' := n) hH (fun {x v} _ hx => hx.keep φ.le_refl (fun _ _ _ => rfl) (fun k hk => .inl (hk.imp id (hmut0 k)))) ?_ (fun o g sz h1 _ h2 => by omega) hle hb' hargs
  rintro o mt g sz rs a bs ho hp ho' h0 (hk | ⟨o', g', sz', rs', g'', a', bs', ho1, hp1, he⟩)
  ·exact h0 hk
  ·have hne : o' ≠ o := fun e => by subst e; exact ho' _ _ _ ho1
   have ho0 := hmt _ _ _ _ ho1
   have hg : g'' = g' := by
    obtain ⟨A2, hA2, _⟩ := hH.obj _ _ _ _ _ ho0
    rw [hp1] at hA2
    simp only [Option.some.injEq, Prod.mk.injEq] at hA2
    exact hA2.1
   subst hg
   exact hH.inj _ _ _ _ _ _ _ _ _ _ _ _ _ _ ho0 ho hne (.inl rfl) hp1 hp he
 let hr : zan := fun o => if o ∈ rs then none else h' o
 have hrmut : ∀ k, Mut φ hr k → Mut φ h' k := by
  rintro k ⟨o, g, sz, rs1, g', a, bs, ho, hp, rfl⟩
  simp only [hr] at ho
  split at ho
  ·cases ho
  ·exact ⟨o, g, sz, rs1, g', a, bs, ho, hp, rfl⟩
 let M1 : Nat → Prop := Or M0 (Mut φ hr)
 let φ0 : zas := fun j => if j < m then φ (ren rs n j) else none
 have hφ0 : ∀ j, j < m → φ0 j = φ (ren rs n j) := fun j hj => if_pos hj
 have hgiv : ∀ j mt g sz rws, mkH HA j = some (.rows mt g sz rws) → j < m ∧ ∃ rws', h' (ren rs n j) = some (.rows mt g sz rws') ∧ zuB (ren rs n) rws rws' ∧ ∀ r ∈ rws, ∀ c ∈ r, Bel m c := by
  intro j mt g sz rws hj
  have hjm := hAb _ (zd9 hj)
  obtain ⟨x, y, h1, h2, h3⟩ := hA j hjm.1
  rw [hj] at h1
  cases h1
  cases h3 with
  | rows h3 => exact ⟨hjm.1, _, h2, h3, hjm.2⟩
 have hgmut : ∀ k, Mut φ0 (mkH HA) k → ∃ j, j < m ∧ ∃ g sz rws g' a bs, h' (ren rs n j) = some (.rows true g sz rws) ∧ φ (ren rs n j) = some (g', some (a, bs)) ∧ a.block = k := by
  rintro k ⟨j, g, sz, rws, g', a, bs, ho, hp, rfl⟩
  obtain ⟨hj, rws', h1, _⟩ := hgiv _ _ _ _ _ ho
  rw [hφ0 j hj] at hp
  exact ⟨j, hj, g, sz, rws', g', a, bs, h1, hp, rfl⟩
 have hgmut' : ∀ k, Mut φ0 (mkH HA) k → Mut φ h' k := fun k hk => by
  obtain ⟨j, _, g, sz, rws, g', a, bs, h1, h2, h3⟩ := hgmut k hk
  exact ⟨_, g, sz, rws, g', a, bs, h1, h2, h3⟩
 have hgen : ∀ {o mt g sz rws g' A}, h' o = some (.rows mt g sz rws) → φ o = some (g', A) → g' = g := by
  intro o mt g sz rws g' A ho hp
  obtain ⟨A2, hA2, _⟩ := hH'.obj _ _ _ _ _ ho
  rw [hp] at hA2
  simp only [Option.some.injEq, Prod.mk.injEq] at hA2
  exact hA2.1
 have hM1 : ∀ k, Or M1 (Mut φ0 (mkH HA)) k → Or M0 (Mut φ h') k := by
  rintro k ((hk | hk) | hk)
  ·exact .inl hk
  ·exact .inr (hrmut k hk)
  ·exact .inr (hgmut' k hk)
 have hH1 : zgX φ0 m w M1 (mkH HA) := by
  refine ⟨fun k hk => hH'.blk (hk.imp id (hrmut k)), fun o ho => if_neg (by omega), fun j mt g sz rws hj => ?_, fun o o' mt g sz rws mt' g' sz' rws' a a' b b' ho ho' hne hmm hp hp' => ?_, hH'.glob.keep (fun _ _ _ => rfl) (fun k hk => .inl (hM1 k hk))⟩
  ·obtain ⟨hjm, rws', h1, h2, h3⟩ := hgiv _ _ _ _ _ hj
   obtain ⟨A, hA1, hc⟩ := hH'.obj _ _ _ _ _ h1
   refine ⟨A, by rw [hφ0 j hjm]; exact hA1, hc.imp (fun h => ⟨h.1, ?_⟩) ?_⟩
   ·obtain ⟨_, rfl⟩ := h
    exact List.eq_nil_of_length_eq_zero h2.shape.1.symm
   ·rintro ⟨a, bs, c1, c3, hd⟩
    refine ⟨a, bs, c1, ?_, hd.turn rfl h2.shape.1.symm (h2.shape.2.2 sz) (fun c9 => h2.back hφ0 hM1 h3 c9)⟩
    ·rintro (hk | ⟨o', g1, sz1, rs1, g1', a', bs', ho1, hp1, he⟩)
     ·exact c3 hk
     ·simp only [hr] at ho1
      split at ho1
      ·cases ho1
      ·rename_i hni
       obtain rfl := hgen ho1 hp1
       subst c1
       exact hH'.inj _ _ _ _ _ _ _ _ _ _ _ _ _ _ ho1 h1 (fun e => hni (e ▸ zih (by omega))) (.inl rfl) hp1 hA1 he
  ·obtain ⟨hj, r1, h1, _⟩ := hgiv _ _ _ _ _ ho
   obtain ⟨hj', r1', h1', _⟩ := hgiv _ _ _ _ _ ho'
   rw [hφ0 o hj] at hp
   rw [hφ0 o' hj'] at hp'
   exact hH'.inj _ _ _ _ _ _ _ _ _ _ _ _ _ _ h1 h1' (fun e => hne (hσ _ _ e)) hmm hp hp'
 have hargs1 : zaH φ0 w (Or M1 (Mut φ0 (mkH HA))) args0 vs := hargs0.back hφ0 hM1 hb0 hv
 refine (hp.2 _ φ0 w vs hH1 hargs1).mono ?_
 rintro e w' ⟨v, φ1, r, h1, n', rfl, hK, hH2, hx, st⟩
 obtain ⟨φ2, hH3, hx3, hm3, hst⟩ := hK.sound hH2 (tmps := fun _ => v) (fun _ => hx)
 have hx3 := hx3 0
 simp only [mkE, zau] at hx3
 have hlater : ∀ j x, j < m → φ (ren rs n j) = some x → ∃ x', φ2 j = some x' ∧ x.1 ≤ x'.1 ∧ (x'.1 = x.1 → x' = x) := by
  intro j x hj hx
  obtain ⟨x', h1, h2, h3⟩ := st.le j x (by rw [hφ0 j hj]; exact hx)
  exact ⟨x', hst j x' (by omega) h1, h2, h3⟩
 let φ3 : zas := fun o => if o ∈ rs then φ2 (rs.idxOf o) else if o < n then φ o else φ2 (o - n + m)
 have hidx : ∀ j, j < m → rs.idxOf (ren rs n j) = j := by
  intro j hj
  have h1 := List.idxOf_lt_length_of_mem (zih (rs := rs) (n := n) (j := j) (by omega))
  refine hσ _ _ ?_
  have h2 := List.getElem_idxOf h1
  unfold ren at h1 h2 ⊢
  rw [if_pos h1, List.getD_eq_getElem?_getD, List.getElem?_eq_getElem h1]
  exact h2
 have e3 : ∀ o, φ3 (ren rs n o) = φ2 o := by
  intro o
  by_cases ho : o < m
  ·simp only [φ3]
   rw [if_pos (zih (by omega)), hidx o ho]
  ·have hge : ren rs n o = n + (o - m) := by unfold ren; rw [if_neg (by omega), hm]
   simp only [φ3]
   rw [hge, if_neg (fun hmem => by have := hlt _ hmem; omega), if_neg (by omega)]
   congr 1; omega
 have e3' : ∀ o, o < n → o ∉ rs → φ3 o = φ o := fun o ho hni => by simp only [φ3]; rw [if_neg hni, if_pos ho]
 have hltn : ∀ o x, φ o = some x → o < n := fun o x ho => Nat.lt_of_not_le fun hle => by rw [hH.fresh o hle] at ho; cases ho
 have hren : ∀ o, o ∈ rs → ∃ j, j < m ∧ o = ren rs n j := by
  intro o ho
  obtain ⟨j, hj, rfl⟩ := List.getElem_of_mem ho
  exact ⟨j, by omega, by unfold ren; rw [if_pos hj, List.getD_eq_getElem?_getD, List.getElem?_eq_getElem hj]; rfl⟩
 have hle3 : φ.le φ3 := by
  intro o x ho
  by_cases hmem : o ∈ rs
  ·obtain ⟨j, hj, rfl⟩ := hren o hmem
   rw [e3]; exact hlater j x hj ho
  ·exact ⟨x, by rw [e3' o (hltn _ _ ho) hmem]; exact ho, Nat.le_refl _, fun _ => rfl⟩
 have hheap : ∀ k, k < w.heap.size → ¬ Mut φ0 (mkH HA) k → w'.heap[k]? = w.heap[k]? := fun k hk hn => st.fr.block k hk hn
 have hsrc : ∀ o y, zdM HH (zll rs h') o = some y → (∃ o0 x, o = ren rs n o0 ∧ mkH H0 o0 = some x ∧ RnO (ren rs n) x y) ∨ (o < n ∧ o ∉ rs ∧ h' o = some y) := by
  intro o x ho
  rw [zgO] at ho
  split at ho
  ·rename_i y hy
   cases ho
   exact .inl (hHH.at hσ hy)
  ·rw [zw8] at ho
   split at ho
   ·cases ho
   ·rename_i hni
    cases x with
    | rows mt g sz rws =>
     obtain ⟨A, hA, _⟩ := hH'.obj _ _ _ _ _ ho
     exact .inr ⟨hltn _ _ hA, hni, ho⟩
 have hmut : ∀ k, Mut φ3 (zdM HH (zll rs h')) k → Mut φ2 (mkH H0) k ∨ Mut φ hr k := by
  rintro k ⟨o, g, sz, rws, g', a, bs, ho, hp, rfl⟩
  rcases hsrc o _ ho with ⟨o0, x, rfl, h1, h2⟩ | ⟨h1, hni, h2⟩
  ·cases h2 with
   | rows h2 => rw [e3] at hp; exact .inl ⟨o0, g, sz, _, g', a, bs, h1, hp, rfl⟩
  ·rw [e3' o h1 hni] at hp
   exact .inr ⟨o, g, sz, rws, g', a, bs, by simp only [hr]; rw [if_neg hni]; exact h2, hp, rfl⟩
 have hmnew : ∀ k, Mut φ2 (mkH H0) k → Mut φ0 (mkH HA) k ∨ w.heap.size ≤ k := fun k hk => st.mutd k (hm3 k hk)
 have hsub : ∀ k, Or M0 (Mut φ3 (zdM HH (zll rs h'))) k → Or M1 (Mut φ2 (mkH H0)) k := fun k hk => hk.elim (fun h => .inl (.inl h)) fun h => (hmut k h).elim .inr fun h => .inl (.inr h)
 have hmutd : ∀ k, Mut φ3 (zdM HH (zll rs h')) k → Mut φ h' k ∨ w.heap.size ≤ k := fun k hk =>
  (hmut k hk).elim (fun h => (hmnew k h).imp (hgmut' k) id) fun h => .inl (hrmut k h)
 have hsub' : ∀ k, Or M0 (Mut φ3 (zdM HH (zll rs h'))) k → Or M0 (Mut φ h') k ∨ w.heap.size ≤ k := fun k hk => hk.elim (fun h => .inl (.inl h)) fun h => (hmutd k h).imp .inr id
 have hblk : ∀ o x g' a bs, h' o = some x → φ o = some (g', some (a, bs)) → a.block < w.heap.size := by
  intro o x g' a bs ho hp
  cases x with
  | rows mt g sz rws =>
   obtain ⟨A, hA, hc⟩ := hH'.obj _ _ _ _ _ ho
   rw [hp] at hA
   simp only [Option.some.injEq, Prod.mk.injEq] at hA
   obtain ⟨rfl, rfl⟩ := hA
   rcases hc with ⟨h, _⟩ | ⟨a', bs', h, _, h2⟩
   ·cases h
   ·simp only [Option.some.injEq, Prod.mk.injEq] at h
    obtain ⟨rfl, rfl⟩ := h
    exact h2.blk
 have hkeep : ∀ o mt g sz rws g' a bs, o ∉ rs → h' o = some (.rows mt g sz rws) → φ o = some (g', some (a, bs)) → ¬ Mut φ0 (mkH HA) a.block := by
  intro o mt g sz rws g' a bs hni ho hp hk
  obtain ⟨j, hj, g1, sz1, rws1, g1', a1, bs1, q1, q2, q3⟩ := hgmut _ hk
  obtain rfl := hgen ho hp
  obtain rfl := hgen q1 q2
  exact hH'.inj _ _ _ _ _ _ _ _ _ _ _ _ _ _ q1 ho (fun e => hni (e ▸ zih (by omega))) (.inl rfl) q2 hp q3
 have hfar : ∀ o0 mt g sz rws g' a bs o' y g1 a' b', mkH H0 o0 = some (.rows mt g sz rws) → φ2 o0 = some (g', some (a, bs)) → o' ∉ rs → h' o' = some y → φ o' = some (g1, some (a', b')) →
   (mt = true ∨ ∃ g sz rs, y = .rows true g sz rs) → a.block ≠ a'.block := by
  intro o0 mt g sz rws g' a bs o' y g1 a' b' q1 q2 hni q3 q4 hmm
  have hb1 := hblk _ _ _ _ _ q3 q4
  rcases hmm with rfl | ⟨g2, sz2, rs2, rfl⟩
  ·rcases hmnew a.block ⟨o0, g, sz, rws, _, a, bs, q1, q2, rfl⟩ with hk | hk
   ·intro he
    cases y with
    | rows mt1 g1' sz1 rws1 => exact hkeep _ _ _ _ _ _ _ _ hni q3 q4 (he ▸ hk)
   ·omega
  ·intro he
   obtain ⟨A, hA, hc⟩ := hH3.obj _ _ _ _ _ q1
   rw [q2] at hA
   simp only [Option.some.injEq, Prod.mk.injEq] at hA
   obtain ⟨_, rfl⟩ := hA
   rcases hc with ⟨h, _⟩ | ⟨a1, bs1, h, hn0, _⟩
   ·cases h
   ·simp only [Option.some.injEq, Prod.mk.injEq] at h
    obtain ⟨rfl, rfl⟩ := h
    exact hn0 (.inr ⟨o', g2, sz2, rs2, _, a', b', by simp only [hr]; rw [if_neg hni]; exact q3, q4, he.symm⟩)
 refine ⟨v, φ3, R, zdM HH (zll rs h'), n + (k2 - m), rfl, hk, ⟨fun k hk => Nat.lt_of_lt_of_le (hH.m0 k hk) st.fr.size, fun o ho => ?_, fun o mt g sz rws ho => ?_, fun o o' mt g sz rws mt' g' sz' rws' a a' b b' ho ho' hne hmm hp hp' => ?_,
   hH'.glob.keep (fun k hn hk => hheap k hk (fun hg => hn (.inr (hgmut' k hg)))) hsub'⟩,
  hR.rel e3 hsub hx3, st0.trans ⟨hle3, hsub', ⟨st.fr.os, st.fr.tape, st.fr.output, st.fr.drawn, st.fr.size, fun k hk hn => hheap k hk (fun hg => hn (hgmut' k hg))⟩, hmutd⟩⟩
 ·have h1 : ren rs n (o - n + m) = o := by unfold ren; rw [if_neg (by omega)]; omega
  rw [← h1, e3]; exact hH3.fresh _ (by omega)
 ·rcases hsrc o _ ho with ⟨o0, x, rfl, h1, h2⟩ | ⟨h1, hni, h2⟩
  ·cases h2 with
   | rows hs =>
    obtain ⟨A, hA, hc⟩ := hH3.obj _ _ _ _ _ h1
    refine ⟨A, by rw [e3]; exact hA, hc.imp (fun h => ⟨h.1, ?_⟩) ?_⟩
    ·obtain ⟨_, rfl⟩ := h
     exact List.eq_nil_of_length_eq_zero hs.shape.1
    ·rintro ⟨a, bs, c1, c3, hd⟩
     exact ⟨a, bs, c1, fun hk => c3 (.inl hk), hd.turn rfl hs.shape.1 (hs.shape.2.1 sz) (fun c9 => hs.rel e3 hsub c9)⟩
  ·obtain ⟨A, hA, hc⟩ := hH'.obj _ _ _ _ _ h2
   refine ⟨A, by rw [e3' o h1 hni]; exact hA, hc.imp id ?_⟩
   rintro ⟨a, bs, c1, c3, hd⟩
   exact ⟨a, bs, c1, c3, hd.keep (hheap _ hd.blk (hkeep _ _ _ _ _ _ _ _ hni h2 (by rw [hA, c1]))) (fun c9 => c9.keep hle3 (fun k hn hk => hheap k hk (fun hg => hn (.inr (hgmut' k hg)))) hsub')⟩
 ·rcases hsrc o _ ho with ⟨o0, x, rfl, q1, q2⟩ | ⟨q1, qn, q2⟩ <;> rcases hsrc o' _ ho' with ⟨o0', x', rfl, q1', q2'⟩ | ⟨q1', qn', q2'⟩
  ·cases q2; cases q2'
   rw [e3] at hp hp'
   exact hH3.inj _ _ _ _ _ _ _ _ _ _ _ _ _ _ q1 q1' (fun e => hne (by rw [e])) hmm hp hp'
  ·cases q2
   rw [e3] at hp; rw [e3' o' q1' qn'] at hp'
   exact hfar _ _ _ _ _ _ _ _ _ _ _ _ _ q1 hp qn' q2' hp' (hmm.imp id fun h => by subst h; exact ⟨_, _, _, rfl⟩)
  ·cases q2'
   rw [e3' o q1 qn] at hp; rw [e3] at hp'
   exact Ne.symm (hfar _ _ _ _ _ _ _ _ _ _ _ _ _ q1' hp' qn q2 hp (hmm.symm.imp id fun h => by subst h; exact ⟨_, _, _, rfl⟩))
  ·rw [e3' o q1 qn] at hp; rw [e3' o' q1' qn'] at hp'
   exact hH'.inj _ _ _ _ _ _ _ _ _ _ _ _ _ _ q2 q2' hne hmm hp hp'
theorem Bel.mono {n m : Nat} (hnm : n ≤ m) {x : AV} (h : Bel n x) : Bel m x := by
 induction h with
 | top => exact .top
 | v x => exact .v x
 | agg _ ih => exact .agg ih
 | tup _ ih => exact .tup ih
 | lst _ ih => exact .lst ih
 | fp _ ih => exact .fp ih
 | ref h => exact .ref (by omega)
 | sl h => exact .sl (by omega)
 | mp h => exact .mp (by omega)
 | fn _ _ ih1 ih2 => exact .fn ih1 ih2
 | gd _ ih => exact .gd ih
theorem zBL {P : Program} {n : Nat} {ops : List Oper} {Q : zbK} {m i : Nat} {rest : List Oper} {e : Env} {h : zan} {acc : List zfe} {dst : Option Tmp} {f : FuncId} {first caps args args' : List AV} {R : Nat → AV} {HH : Nat → List (Nat × zbi)} {k2 : Nat}
  (b : Nat) (hbb : b = n + ops.length + 16 * i) (hp : zlt P f args' R HH k2) (hk16 : k2 ≤ 16) (hnR : zfn (R 0)) (hnH : ∀ p ∈ HH 0, znR p.2) (hle : ∀ h₁ : zan, zam h₁ noH 0 (first ++ args ++ caps) args') (hb : ∀ c ∈ args', Bel 0 c)
  (hnd : ((HH b).map (·.1)).Nodup) (hk : adr P n ops Q m (i + 1) rest (put e dst (R b)) (zdM (HH b) h) (acc ++ [([zcO], (HH b).map (·.1))])) : zaQ P n ops Q m i rest dst (.fn (.func f) first caps) args e h acc := by
 subst hbb
 refine ⟨R _, [zcO], (HH (n + ops.length + 16 * i)).map (fun p => (p.1, some p.2)), .inr (.inr (.inr ⟨f, first, caps, args', R 0, HH 0, HH (n + ops.length + 16 * i), k2, rfl, by simp, hk16, hb, hp.1, hnR, hnH, (hp.2 _).1, (hp.2 _).2, hnd, rfl, fun h₁ _ => hle h₁⟩)), ?_⟩
 rw [zeH hnd, List.map_map]
 exact hk
theorem zBQ {P : Program} {n : Nat} {ops : List Oper} {Q : zbK} {m i : Nat} {rest : List Oper} {e : Env} {h : zan} {acc : List zfe} {dst : Option Tmp} {f : FuncId} {first caps args args' : List AV} {R : Nat → AV} {HH : Nat → List (Nat × zbi)} {k2 : Nat}
  (S : List Nat) (b : Nat) (hbb : b = n + ops.length + 16 * i) (hp : zlt P f args' R HH k2) (hk16 : k2 ≤ 16) (hnR : zfn (R 0)) (hnH : ∀ p ∈ HH 0, znR p.2) (hle : ∀ h₁ : zan, (∀ o ∈ S, h o = h₁ o) → zam h₁ noH 0 (first ++ args ++ caps) args') (hb : ∀ c ∈ args', Bel 0 c)
  (hnd : ((HH b).map (·.1)).Nodup) (hk : adr P n ops Q m (i + 1) rest (put e dst (R b)) (zdM (HH b) h) (acc ++ [(zcO :: S, (HH b).map (·.1))])) : zaQ P n ops Q m i rest dst (.fn (.func f) first caps) args e h acc := by
 subst hbb
 refine ⟨R _, zcO :: S, (HH (n + ops.length + 16 * i)).map (fun p => (p.1, some p.2)), .inr (.inr (.inr ⟨f, first, caps, args', R 0, HH 0, HH (n + ops.length + 16 * i), k2, rfl, by simp, hk16, hb, hp.1, hnR, hnH, (hp.2 _).1, (hp.2 _).2, hnd, rfl, fun h₁ h2 => hle h₁ fun o ho => h2 o (List.mem_cons_of_mem _ ho)⟩)), ?_⟩
 rw [zeH hnd, List.map_map]
 exact hk
end Go.Av
end
section
open Go Go.Proofs
namespace Go.Av
theorem zxS (l : List StD) : zfg l [] = l := rfl
theorem zuV (l more : List StD) (s : StD) : zfg l (more ++ [s]) = if s ∈ zfg l more then zfg l more else zfg l more ++ [s] := by
 unfold zfg; rw [List.foldl_append]; rfl
theorem zuW (l more : List StD) {i : Nat} (h : i < more.length) : zfg l (more.take (i + 1)) = if nth more i ∈ zfg l (more.take i) then zfg l (more.take i) else zfg l (more.take i) ++ [nth more i] := by
 rw [List.take_add_one, List.getElem?_eq_getElem h, zaA _ _ h, Option.toList_some, zuV]
theorem ziZ : ∀ (more l : List StD), l.length ≤ (zfg l more).length ∧ (zfg l more).length ≤ l.length + more.length
 | [], l => by simp [zfg]
 | s :: more, l => by
  have e : zfg l (s :: more) = zfg (if s ∈ l then l else l ++ [s]) more := rfl
  rw [e]
  by_cases h : s ∈ l
  ·have := ziZ more l
   rw [if_pos h]; simp; omega
  ·have := ziZ more (l ++ [s])
   rw [if_neg h]; simp at this ⊢; omega
theorem zmI {P : StD → Prop} : ∀ {more l : List StD}, (∀ s ∈ l, P s) → (∀ s ∈ more, P s) → ∀ s ∈ zfg l more, P s
 | [], l, h, _ => h
 | s :: more, l, h, h' => by
  have e : zfg l (s :: more) = zfg (if s ∈ l then l else l ++ [s]) more := rfl
  rw [e]
  refine zmI (fun t ht => ?_) (fun t ht => h' t (List.mem_cons_of_mem _ ht))
  split at ht
  ·exact h t ht
  ·rcases List.mem_append.1 ht with ht | ht
   ·exact h t ht
   ·simp at ht; subst ht; exact h' _ (by simp)
def zdg (g : zac) (p : zal) (cell : Int) (prog : List (Int × Int)) (n : Nat) : List StD := (prog.take n).foldl (zgN g) [zfd p cell]
theorem zkO (g : zac) (p : zal) (cell : Int) (prog : List (Int × Int)) : zdg g p cell prog 0 = [zfd p cell] := rfl
theorem zkN (g : zac) (p : zal) (cell : Int) (prog : List (Int × Int)) {n : Nat} (h : n < prog.length) : zdg g p cell prog (n + 1) = zgN g (zdg g p cell prog n) (nth prog n) := by
 unfold zdg
 rw [List.take_add_one, List.getElem?_eq_getElem h, zaA _ _ h, Option.toList_some, List.foldl_append]; rfl
theorem zkM (g : zac) (p : zal) (cell : Int) (prog : List (Int × Int)) : zdg g p cell prog prog.length = zfh g p cell prog := by
 unfold zdg zfh; rw [List.take_length]
def zdv (g : zac) (now : List StD) (x : Int × Int) (n : Nat) : List StD := (now.take n).foldl (fun next s => zfg next (zbV g s x)) []
theorem zt5 (g : zac) (now : List StD) (x : Int × Int) : zdv g now x 0 = [] := rfl
theorem zme (g : zac) (now : List StD) (x : Int × Int) {n : Nat} (h : n < now.length) : zdv g now x (n + 1) = zfg (zdv g now x n) (zbV g (nth now n) x) := by
 unfold zdv
 rw [List.take_add_one, List.getElem?_eq_getElem h, zaA _ _ h, Option.toList_some, List.foldl_append]; rfl
theorem zpg (g : zac) (now : List StD) (x : Int × Int) : zdv g now x now.length = zgN g now x := by
 unfold zdv zgN; rw [List.take_length]
theorem zr8 {g : zac} (hg : GOk g) {now : List StD} {x : Int × Int} (hx : zeg g.next.length g.kinds.length g.rights x) {side : Int} (hn : ∀ s ∈ now, zgS g s ∧ s.p.side = side) :
  ∀ n, n ≤ now.length → (∀ s ∈ zdv g now x n, zgS g s ∧ s.p.side = side) ∧ (zdv g now x n).length ≤ 10 * n := by
 intro n
 induction n with
 | zero => intro _; simp [zdv]
 | succ n ih =>
  intro h
  obtain ⟨h1, h2⟩ := ih (by omega)
  have hs := hn _ (zah (show n < now.length by omega))
  rw [zme g now x (by omega)]
  refine ⟨zmI h1 (fun s hs' => ?_), ?_⟩
  ·obtain ⟨k1, k2⟩ := zjl hg hs.1 hx s hs'
   exact ⟨k1, k2.trans hs.2⟩
  ·have k1 := (ziZ (zbV g (nth now n) x) (zdv g now x n)).2
   have k2 := zpx hg (nth now n) x
   omega
theorem zkP {g : zac} (hg : GOk g) {p : zal} (hp : POk g p) {cell : Int} (h0 : 0 ≤ cell) (h1 : cell < g.cells) (hm : 0 ≤ (zav (nth p.at_ cell.toNat)).1) : zgS g (zfd p cell) ∧ (zfd p cell).p.side = p.side := by
 have hat := hp.at (i := cell.toNat) (by omega)
 have hk := zbl hat.1 hat.2 hg.k6
 refine ⟨⟨hp.clr _, h0, h1, ?_⟩, rfl⟩
 simp only [zfd]
 rcases hk with ⟨_, e⟩ | ⟨_, a, b, _⟩
 ·rw [e] at hm; simp at hm
 ·exact ⟨a, b⟩
theorem zpw {g : zac} (hg : GOk g) {p : zal} (hp : POk g p) {cell : Int} (h0 : 0 ≤ cell) (h1 : cell < g.cells) (hm : 0 ≤ (zav (nth p.at_ cell.toNat)).1)
  {prog : List (Int × Int)} (hpr : ∀ x ∈ prog, zeg g.next.length g.kinds.length g.rights x) :
  ∀ n, n ≤ prog.length → (∀ s ∈ zdg g p cell prog n, zgS g s ∧ s.p.side = p.side) ∧ (zdg g p cell prog n).length ≤ 10 ^ n := by
 intro n
 induction n with
 | zero => intro _; rw [zkO]; exact ⟨fun s hs => by simp at hs; subst hs; exact zkP hg hp h0 h1 hm, by simp⟩
 | succ n ih =>
  intro h
  obtain ⟨k1, k2⟩ := ih (by omega)
  rw [zkN g p cell prog (by omega), ← zpg]
  obtain ⟨j1, j2⟩ := zr8 hg (hpr _ (zah (show n < prog.length by omega))) k1 _ (Nat.le_refl _)
  refine ⟨j1, ?_⟩
  rw [Nat.pow_succ]
  omega
theorem zsb {n : Nat} (h : n ≤ 8) : 10 ^ n ≤ 100000000 := by
 have := Nat.pow_le_pow_right (n := 10) (by omega) h
 exact this
def stR (g : zac) (p : zal) (cell : Int) (prog : List (Int × Int)) (n : Nat) : List (List AV) := (List.range n).map fun j => [zbz (zdg g p cell prog j)]
@[go_sem] theorem stR_len (g : zac) (p : zal) (cell : Int) (prog : List (Int × Int)) (n : Nat) : (stR g p cell prog n).length = n := by simp [stR]
@[go_sem ↓] theorem bel_stR {m : Nat} {g : zac} {p : zal} {cell : Int} {prog : List (Int × Int)} {n : Nat} : (∀ r ∈ stR g p cell prog n, ∀ c ∈ r, Bel m c) = True := by
 refine eq_true fun r hr c hc => ?_
 obtain ⟨j, _, rfl⟩ := List.mem_map.1 hr
 simp only [List.mem_cons, List.not_mem_nil, or_false] at hc
 subst hc
 exact of_eq_true zvt
structure zct (g : zac) (p : zal) (cell i : Int) : Prop where
 c0 : 0 ≤ cell
 c1 : cell < g.cells
 man : 0 ≤ (zav (nth p.at_ cell.toNat)).1
 side : (zav (nth p.at_ cell.toNat)).2 = p.side
 i0 : 0 ≤ i
 i1 : i < (nth g.kinds (zav (nth p.at_ cell.toNat)).1.toNat).progs.length
structure TkD where
 p : zal
 kind : Int
 took : Bool
 deriving DecidableEq
instance : Inhabited TkD := ⟨⟨default, 0, false⟩⟩
def zxn (g : zac) (side : Int) (t : TkD) (a : Int) : TkD × Bool :=
 let m := zav (nth t.p.at_ a.toNat)
 if m.2 ≠ 1 - side then (t, false) else
 if (nth g.kinds m.1.toNat).keep = true then
  (⟨(clr t.p a).withHand side ((t.p.hand side).set m.1.toNat (nth (t.p.hand side) m.1.toNat + 1)), t.kind, true⟩, decide (nth (t.p.hand side) m.1.toNat + 1 ≤ 8))
 else (⟨clr t.p a, t.kind, true⟩, true)
def zw1 (t : TkD) (a b : Int) : TkD × Bool :=
 if nth t.p.at_ a.toNat = 0 ∨ nth t.p.at_ b.toNat ≠ 0 then (t, false)
 else (⟨{ t.p with at_ := (t.p.at_.set b.toNat (nth t.p.at_ a.toNat)).set a.toNat 0 }, t.kind, t.took⟩, true)
def doA (g : zac) (side : Int) (t : TkD) (x : zed) : TkD × Bool :=
 if x.1 = 3 then (t, decide (nth t.p.at_ x.2.1.toNat = 0))
 else if x.1 = 4 then (t, decide ((zav (nth t.p.at_ x.2.1.toNat)).2 = 1 - side))
 else if x.1 = 5 then (t, decide ((zav (nth t.p.at_ x.2.1.toNat)).2 = side))
 else if x.1 = 6 then zxn g side t x.2.1
 else if x.1 = 7 then zw1 t x.2.1 x.2.2
 else if x.1 = 8 then (⟨t.p, x.2.1, t.took⟩, true)
 else if x.1 = 9 then (t, decide (zkU .i64 (t.p.rights.fdiv (2 ^ x.2.1.toNat)) 1 = 1))
 else if x.1 = 10 then (⟨{ t.p with rights := zdh .i64 t.p.rights (2 ^ x.2.1.toNat) }, t.kind, t.took⟩, true)
 else (t, true)
def zfs (g : zac) (side : Int) : TkD → List zed → Option TkD
 | t, [] => some t
 | t, x :: l => if (doA g side t x).2 = true then zfs g side (doA g side t x).1 l else none
theorem zeK (g : zac) (side : Int) : ∀ (l m : List zed) (t : TkD), zfs g side t (l ++ m) = (zfs g side t l).bind fun t => zfs g side t m
 | [], m, t => rfl
 | x :: l, m, t => by
  simp only [List.cons_append, zfs]
  split
  ·exact zeK g side l m _
  ·rfl
def stT (t : TkD) (c : Int) : StD := ⟨t.p, t.kind, c, t.took⟩
def stW (g : zac) (side : Int) (t : TkD) (w : zaK) : Option StD := (zfs g side t w.acts).map fun t => stT t w.to
theorem znB (g : zac) (side : Int) (t : TkD) (w : zaK) (to : Int) (more : List zed) :
  stW g side t (onP w to more) = ((zfs g side t w.acts).bind fun t => zfs g side t more).map fun t => stT t to := by
 unfold stW onP
 rw [zeK]
theorem zvM (g : zac) (side : Int) (t : TkD) (c : Int) : doA g side t (3, c, 0) = (t, decide (nth t.p.at_ c.toNat = 0)) := by simp [doA]
theorem zin {g : zac} {side : Int} {t : TkD} {w : zaK} : ∀ {l : List Int} {passed : List zed}, ((zfs g side t w.acts).bind fun t => zfs g side t passed) = none → (zbU w l passed).filterMap (stW g side t) = []
 | [], _, _ => rfl
 | c :: l, passed, h => by
  rw [zbU, List.filterMap_cons, znB, h]
  refine zin ?_
  cases hd : zfs g side t w.acts with
  | none => rfl
  | some u =>
   rw [hd] at h
   simp only [Option.bind_some] at h ⊢
   rw [zeK, h]; rfl
theorem zms {g : zac} {side : Int} {t u : TkD} {w : zaK} (hd : zfs g side t w.acts = some u) : ∀ {l : List Int} {passed : List zed}, zfs g side u passed = some u →
  (zbU w l passed).filterMap (stW g side t) = zcf (stT u w.to) l
 | [], _, _ => rfl
 | c :: l, passed, h => by
  rw [zbU, List.filterMap_cons, znB, hd, Option.bind_some, h, zcf]
  simp only [Option.map_some]
  congr 1
  have he : zfs g side u (passed ++ [(3, c, 0)]) = if nth u.p.at_ c.toNat = 0 then some u else none := by
   rw [zeK, h, Option.bind_some]
   simp only [zfs, zvM, decide_eq_true_eq]
  show _ = if nth u.p.at_ c.toNat = 0 then _ else _
  split
  ·rename_i h0
   rw [if_pos h0] at he
   exact zms hd he
  ·rename_i h0
   rw [if_neg h0] at he
   refine zin ?_
   rw [hd, Option.bind_some, he]
theorem zv0 {g : zac} {side : Int} {t : TkD} {w : zaK} (h : zfs g side t w.acts = none) (x : Int × Int) : (zkW g.board side w x).filterMap (stW g side t) = [] := by
 have ho : ∀ to more, stW g side t (onP w to more) = none := fun to more => by rw [znB, h]; rfl
 unfold zkW
 split
 ·split
  ·rfl
  ·split <;> simp [ho]
 ·split
  ·exact zin (by rw [h]; rfl)
  ·split <;> simp [ho]
theorem zoA {g : zac} (hg : GOk g) {side : Int} {t u : TkD} {w : zaK} (hd : zfs g side t w.acts = some u) (hs : zgS g (stT u w.to)) (hside : u.p.side = side) {x : Int × Int}
  (hx : zeg g.next.length g.kinds.length g.rights x) : (zkW g.board side w x).filterMap (stW g side t) = zbV g (stT u w.to) x := by
 have ho : ∀ to more, stW g side t (onP w to more) = (zfs g side u more).map fun t => stT t to := fun to more => by rw [znB, hd]; rfl
 have one : ∀ to a, stW g side t (onP w to [a]) = if (doA g side u a).2 = true then some (stT (doA g side u a).1 to) else none := fun to a => by
  rw [ho]; simp only [zfs]; split <;> rfl
 have hsl := hs.p.s
 have hat := hs.p.at (i := w.to.toNat) (by have := hs.c0; have := hs.c1; simp only [stT] at *; omega)
 have hm := zbl hat.1 hat.2 hg.k6
 have hto := zgv hg.board side x.2 w.to
 have ht := hx.op
 simp only [stT] at hsl hat hm
 rw [hside] at hsl
 unfold zbV zkW
 simp only [show (stT u w.to).p = u.p from rfl, show (stT u w.to).cursor = w.to from rfl, hside]
 by_cases h1 : x.1 = 1
 ·simp only [h1, true_or, if_true]
  by_cases hn : toB g.board side x.2 w.to < 0
  ·rw [if_pos hn, show decide (0 ≤ toB g.board side x.2 w.to) = false by simpa using hn]; rfl
  ·rw [if_neg hn, show decide (0 ≤ toB g.board side x.2 w.to) = true by simpa using hn]
   simp only [List.filterMap_cons, ho, zfs, Option.map_some, List.filterMap_nil, zcT, if_true, stT]
 by_cases h7 : x.1 = 7
 ·simp only [h7, or_true, if_true, show ((7 : Int) = 1) = False by decide, show ((7 : Int) = 2) = False by decide, show ((7 : Int) = 3) = False by decide, show ((7 : Int) = 4) = False by decide,
   show ((7 : Int) = 5) = False by decide, show ((7 : Int) = 6) = False by decide, if_false, zrh]
  simp only [show (stT u w.to).p = u.p from rfl, show (stT u w.to).cursor = w.to from rfl, hside]
  by_cases hn : toB g.board side x.2 w.to < 0
  ·rw [if_pos hn, if_pos (.inr (.inl hn))]; rfl
  ·rw [if_neg hn]
   simp only [List.filterMap_cons, List.filterMap_nil, one, doA, show ((7 : Int) = 3) = False by decide, show ((7 : Int) = 4) = False by decide, show ((7 : Int) = 5) = False by decide,
    show ((7 : Int) = 6) = False by decide, if_false, if_true, zw1]
   by_cases hc : nth u.p.at_ w.to.toNat = 0 ∨ nth u.p.at_ (toB g.board side x.2 w.to).toNat ≠ 0
   ·have hc' : nth u.p.at_ w.to.toNat = 0 ∨ toB g.board side x.2 w.to < 0 ∨ nth u.p.at_ (toB g.board side x.2 w.to).toNat ≠ 0 := by rcases hc with h | h; exact .inl h; exact .inr (.inr h)
    simp only [if_pos hc, if_pos hc', Bool.false_eq_true, if_false]
   ·have hc' : ¬ (nth u.p.at_ w.to.toNat = 0 ∨ toB g.board side x.2 w.to < 0 ∨ nth u.p.at_ (toB g.board side x.2 w.to).toNat ≠ 0) := by rintro (h | h | h); exact hc (.inl h); exact hn h; exact hc (.inr h)
    simp only [if_neg hc, if_neg hc', if_true, stT, hside]
 rw [if_neg (by omega)]
 by_cases h2 : x.1 = 2
 ·simp only [h2, show ((2 : Int) = 1) = False by decide, if_true, if_false, zpv]
  simp only [show (stT u w.to).p = u.p from rfl, show (stT u w.to).cursor = w.to from rfl, hside]
  exact zms hd rfl
 rw [if_neg h2, if_neg h1, if_neg h2]
 by_cases h8 : x.1 = 8
 ·simp [h8, one, doA, stT]
 by_cases h9 : x.1 = 9
 ·simp only [h9, one, doA, zcT, show ((9 : Int) = 8) = False by decide, show ((9 : Int) = 10) = False by decide, show ((9 : Int) = 3) = False by decide, show ((9 : Int) = 4) = False by decide, show ((9 : Int) = 5) = False by decide,
   show ((9 : Int) = 6) = False by decide, show ((9 : Int) = 7) = False by decide, if_true, if_false, or_true, true_or, false_or, or_false, List.filterMap_cons, List.filterMap_nil]
  split <;> simp_all [stT]
 by_cases h10 : x.1 = 10
 ·simp [h10, one, doA, stT, hside]
 rw [if_neg (by omega)]
 simp only [one, List.filterMap_cons, List.filterMap_nil]
 by_cases h3 : x.1 = 3
 ·simp only [h3, if_true, doA, zcT]
  rcases hm with ⟨h0, e⟩ | ⟨h0, e1, e2, e3, e4⟩
  ·rw [e]; simp [h0, stT]
  ·rw [if_neg (by simpa using h0), if_neg (by simp; omega)]
 by_cases h4 : x.1 = 4
 ·simp only [h4, show ((4 : Int) = 3) = False by decide, if_true, if_false, doA, zcT]
  rcases hm with ⟨h0, e⟩ | ⟨h0, e1, e2, e3, e4⟩
  ·rw [e, if_neg (by simp; omega), if_neg (by simp)]
  ·by_cases hs' : (zav (nth u.p.at_ w.to.toNat)).2 = 1 - side
   ·rw [if_pos (by simpa using hs'), if_pos (by simp; omega)]
   ·rw [if_neg (by simpa using hs'), if_neg (by simp; omega)]
 by_cases h5 : x.1 = 5
 ·simp only [h5, show ((5 : Int) = 3) = False by decide, show ((5 : Int) = 4) = False by decide, if_true, if_false, doA, zcT]
  rcases hm with ⟨h0, e⟩ | ⟨h0, e1, e2, e3, e4⟩
  ·rw [e, if_neg (by simp; omega), if_neg (by simp)]
  ·by_cases hs' : (zav (nth u.p.at_ w.to.toNat)).2 = side
   ·rw [if_pos (by simpa using hs'), if_pos (by simp; omega)]
   ·rw [if_neg (by simpa using hs'), if_neg (by simp; omega)]
 have h6 : x.1 = 6 := by omega
 simp only [h6, show ((6 : Int) = 3) = False by decide, show ((6 : Int) = 4) = False by decide, show ((6 : Int) = 5) = False by decide, if_true, if_false, doA, zxn, zrt]
 simp only [show (stT u w.to).p = u.p from rfl, show (stT u w.to).cursor = w.to from rfl, hside]
 rcases hm with ⟨h0, e⟩ | ⟨h0, e1, e2, e3, e4⟩
 ·have hne : (-1 : Int) ≠ 1 - side := by omega
  rw [e]
  simp [hne]
 ·by_cases hs' : (zav (nth u.p.at_ w.to.toNat)).2 = 1 - side
  ·rw [if_neg (not_not_intro hs'), if_neg (show ¬ ((zav (nth u.p.at_ w.to.toNat)).1 < 0 ∨ (zav (nth u.p.at_ w.to.toNat)).2 = side) by omega)]
   by_cases hk : (nth g.kinds (zav (nth u.p.at_ w.to.toNat)).1.toNat).keep = true
   ·rw [if_pos hk, if_pos hk]
    by_cases h9 : nth (u.p.hand side) (zav (nth u.p.at_ w.to.toNat)).1.toNat + 1 ≤ 8
    ·have h9' : ¬ 8 < nth (u.p.hand side) (zav (nth u.p.at_ w.to.toNat)).1.toNat + 1 := by omega
     simp only [h9, h9', decide_true, if_true, if_false, stT]
    ·have h9' : 8 < nth (u.p.hand side) (zav (nth u.p.at_ w.to.toNat)).1.toNat + 1 := by omega
     simp only [h9, h9', decide_false, if_true, Bool.false_eq_true, if_false]
   ·rw [if_neg hk, if_neg hk]; simp [stT]
  ·rw [if_pos hs', if_pos (show (zav (nth u.p.at_ w.to.toNat)).1 < 0 ∨ (zav (nth u.p.at_ w.to.toNat)).2 = side by omega)]; simp
theorem zrH : ∀ {more l : List StD} {s : StD}, s ∈ zfg l more ↔ s ∈ l ∨ s ∈ more
 | [], l, s => by simp [zfg]
 | m :: more, l, s => by
  show s ∈ zfg (if m ∈ l then l else l ++ [m]) more ↔ _
  rw [zrH]
  split
  ·rename_i h
   simp only [List.mem_cons]
   exact ⟨fun h => by rcases h with h | h <;> simp [h], fun h => by rcases h with h | rfl | h; exact .inl h; exact .inl ‹_›; exact .inr h⟩
  ·simp only [List.mem_append, List.mem_cons, List.mem_singleton, List.not_mem_nil, or_false]
   exact or_assoc
theorem zl9 (g : zac) (x : Int × Int) : ∀ (now acc : List StD) (s : StD), s ∈ now.foldl (fun next s => zfg next (zbV g s x)) acc ↔ s ∈ acc ∨ ∃ r ∈ now, s ∈ zbV g r x
 | [], acc, s => by simp
 | r :: now, acc, s => by
  rw [List.foldl_cons, zl9 g x now, zrH]
  simp only [List.mem_cons, exists_eq_or_imp]
  exact or_assoc
theorem zpa (g : zac) (x : Int × Int) (now : List StD) (s : StD) : s ∈ zgN g now x ↔ ∃ r ∈ now, s ∈ zbV g r x := by
 unfold zgN
 rw [zl9]; simp
theorem zsd {g : zac} (hg : GOk g) {side : Int} {t : TkD} : ∀ (prog : List (Int × Int)) (nowP : List zaK) (nowS : List StD), (∀ x ∈ prog, zeg g.next.length g.kinds.length g.rights x) →
  (∀ s, s ∈ nowP.filterMap (stW g side t) ↔ s ∈ nowS) → (∀ s ∈ nowS, zgS g s ∧ s.p.side = side) →
  ∀ s, s ∈ (prog.foldl (znC g.board side) nowP).filterMap (stW g side t) ↔ s ∈ prog.foldl (zgN g) nowS
 | [], nowP, nowS, _, h, _, s => h s
 | x :: prog, nowP, nowS, hp, h, hk, s => by
  rw [List.foldl_cons, List.foldl_cons]
  have hx := hp x (by simp)
  refine zsd hg prog _ _ (fun y hy => hp y (by simp [hy])) (fun s => ?_) (fun s hs => ?_) s
  ·rw [zpa]
   unfold znC
   rw [List.filterMap_flatMap, List.mem_flatMap]
   constructor
   ·rintro ⟨w, hw, hs⟩
    cases hd : zfs g side t w.acts with
    | none => rw [zv0 hd] at hs; simp at hs
    | some u =>
     have hu : stT u w.to ∈ nowS := (h _).1 (List.mem_filterMap.2 ⟨w, hw, by simp [stW, hd]⟩)
     rw [zoA hg hd (hk _ hu).1 (hk _ hu).2 hx] at hs
     exact ⟨_, hu, hs⟩
   ·rintro ⟨r, hr, hs⟩
    obtain ⟨w, hw, e⟩ := List.mem_filterMap.1 ((h r).2 hr)
    unfold stW at e
    cases hd : zfs g side t w.acts with
    | none => rw [hd] at e; simp at e
    | some u =>
     rw [hd] at e
     simp only [Option.map_some, Option.some.injEq] at e
     subst e
     exact ⟨w, hw, by rw [zoA hg hd (hk _ hr).1 (hk _ hr).2 hx]; exact hs⟩
  ·obtain ⟨r, hr, hs⟩ := (zpa g x nowS s).1 hs
   obtain ⟨k1, k2⟩ := zjl hg (hk r hr).1 hx s hs
   exact ⟨k1, k2.trans (hk r hr).2⟩
def zcD (p : zal) (cell : Int) : TkD := ⟨clr p cell, (zav (nth p.at_ cell.toNat)).1, false⟩
def zpe (g : zac) (side : Int) (t : TkD) (w : zaK) : Option zcU := (stW g side t w).bind (zhz side)
def zfI (g : zac) (p : zal) (cell : Int) : List zaK :=
 zeQ g.board (zav (nth p.at_ cell.toNat)).2 (nth g.kinds (zav (nth p.at_ cell.toNat)).1.toNat).progs cell
def zwR (g : zac) (p : zal) (cell : Int) : List zcU := (zfI g p cell).filterMap (zpe g (zav (nth p.at_ cell.toNat)).2 (zcD p cell))
def zug (g : zac) (p : zal) (cell : Int) : List zcU := if nth p.at_ cell.toNat = 0 then [] else zcI znM (zwR g p cell)
def zbv (p : zal) (s : Int) : zal := { p with side := s }
def zse (g : zac) (p : zal) (cell : Int) : List zcU :=
 if (zav (nth p.at_ cell.toNat)).1 < 0 then [] else
 zcI znM ((List.range (nth g.kinds (zav (nth p.at_ cell.toNat)).1.toNat).progs.length).flatMap fun (i : Nat) => ze0 g (zbv p (zav (nth p.at_ cell.toNat)).2) cell i)
def TkD.sd (t : TkD) (s : Int) : TkD := { t with p := zbv t.p s }
theorem zAy (p : zal) (s side : Int) : (zbv p s).hand side = p.hand side := rfl
theorem zry (p : zal) (s side : Int) (l : List Int) : (zbv p s).withHand side l = zbv (p.withHand side l) s := by unfold zal.withHand; split <;> rfl
theorem doA_sd (g : zac) (side : Int) (t : TkD) (s : Int) (x : zed) : doA g side (t.sd s) x = ((doA g side t x).1.sd s, (doA g side t x).2) := by
 unfold doA zxn zw1
 simp only [TkD.sd, show (zbv t.p s).at_ = t.p.at_ from rfl, show (zbv t.p s).rights = t.p.rights from rfl, zAy]
 have hc : clr (zbv t.p s) x.2.1 = zbv (clr t.p x.2.1) s := rfl
 rw [hc, zry]
 split; · rfl
 split; · rfl
 split; · rfl
 split
 ·split; · rfl
  split <;> rfl
 split
 ·split <;> rfl
 split; · rfl
 split; · rfl
 split <;> rfl
theorem zvO (g : zac) (side : Int) (s : Int) : ∀ (l : List zed) (t : TkD), zfs g side (t.sd s) l = (zfs g side t l).map fun t => t.sd s
 | [], t => rfl
 | x :: l, t => by
  simp only [zfs, doA_sd]
  split
  ·exact zvO g side s l _
  ·rfl
theorem zAU (g : zac) (side : Int) (t : TkD) (s : Int) (w : zaK) : zpe g side (t.sd s) w = zpe g side t w := by
 unfold zpe stW
 rw [zvO]
 cases zfs g side t w.acts with
 | none => rfl
 | some u => rfl
theorem zpr {g : zac} (hg : GOk g) {p : zal} (hp : POk g p) {cell : Int} (h0 : 0 ≤ cell) (h1 : cell < g.cells) : zug g p cell = zse g p cell := by
 have hat := hp.at (i := cell.toNat) (by omega)
 unfold zug zse
 rcases zbl hat.1 hat.2 hg.k6 with ⟨hz, e⟩ | ⟨hz, e1, e2, e3, e4⟩
 ·rw [if_pos hz, e, if_pos (by decide)]
 rw [if_neg hz, if_neg (by omega)]
 generalize hs : (zav (nth p.at_ cell.toNat)).2 = side at e3 e4
 refine zkK zdi fun o => ?_
 have hq : POk g (zbv p side) := hp.side e3
 have hst : zcD p cell = zcD p cell := rfl
 have hout : ∀ w, zpe g side (zcD p cell) w = zpe g side ((zcD p cell).sd side) w := fun w => (zAU g side _ side w).symm
 obtain ⟨progs, hpg⟩ : ∃ l, l = (nth g.kinds (zav (nth p.at_ cell.toNat)).1.toNat).progs := ⟨_, rfl⟩
 have hkm : nth g.kinds (zav (nth p.at_ cell.toNat)).1.toNat ∈ g.kinds := zah (by omega)
 have key : ∀ prog ∈ progs, ∀ o, o ∈ (zbu g.board side prog cell).filterMap (zpe g side (zcD p cell)) ↔ o ∈ (zfh g (zbv p side) cell prog).filterMap (zhz side) := by
  intro prog hm o
  have hok := hg.pr _ hkm prog (hpg ▸ hm)
  have hs0 := zkP hg hq h0 h1 (show 0 ≤ (zav (nth (zbv p side).at_ cell.toNat)).1 from e1)
  have hmem := zsd hg (side := side) (t := (zcD p cell).sd side) prog [⟨[], cell⟩] [zfd (zbv p side) cell] hok.st (fun s => by simp [stW, zfs, zcD, stT, zfd, TkD.sd, zbv, clr])
   (fun s hs => by rw [List.mem_singleton] at hs; subst hs; exact ⟨hs0.1, hs0.2⟩)
  rw [show zpe g side (zcD p cell) = zpe g side ((zcD p cell).sd side) from funext hout]
  simp only [List.mem_filterMap, zpe, Option.bind_eq_some_iff]
  constructor
  ·rintro ⟨w, hw, s, h3, h4⟩
   exact ⟨s, (hmem s).1 (List.mem_filterMap.2 ⟨w, hw, h3⟩), h4⟩
  ·rintro ⟨s, h3, h4⟩
   obtain ⟨w, hw, h5⟩ := List.mem_filterMap.1 ((hmem s).2 h3)
   exact ⟨w, hw, s, h5, h4⟩
 have e5 : zwR g p cell = progs.flatMap fun prog => (zbu g.board side prog cell).filterMap (zpe g side (zcD p cell)) := by
  unfold zwR zfI zeQ
  rw [hs, ← hpg, List.filterMap_flatMap]
 have hr : ∀ i, i < progs.length → ze0 g (zbv p side) cell (i : Int) = zcI znM ((zfh g (zbv p side) cell (nth progs i)).filterMap (zhz side)) := fun i _ => by
  unfold ze0 zbI
  rw [show nth (zbv p side).at_ cell.toNat = nth p.at_ cell.toNat from rfl, ← hpg]
  rfl
 rw [e5, List.mem_flatMap, List.mem_flatMap]
 rw [← hpg]
 constructor
 ·rintro ⟨prog, hm, h⟩
  obtain ⟨i, hi, rfl⟩ := List.mem_iff_getElem.1 hm
  refine ⟨i, List.mem_range.2 hi, ?_⟩
  rw [hr i hi, za9, zaA _ _ hi]
  exact (key _ hm o).1 h
 ·rintro ⟨i, hi, h⟩
  have hi' := List.mem_range.1 hi
  rw [hr i hi', za9, zaA _ _ hi'] at h
  exact ⟨_, List.getElem_mem hi', (key _ (List.getElem_mem hi') o).2 h⟩
theorem zw5 {side : Int} {s : StD} {o : zcU} (h : zhz side s = some o) : o.pos.side = 1 - side := by
 unfold zhz at h
 split at h
 ·simp at h; subst h; rfl
 ·cases h
theorem zpq {g : zac} {p : zal} {cell : Int} {o : zcU} (h : o ∈ zug g p cell) : o.pos.side = 1 - (zav (nth p.at_ cell.toNat)).2 ∧ nth p.at_ cell.toNat ≠ 0 := by
 unfold zug at h
 split at h
 ·simp at h
 ·rename_i h0
  rw [za9] at h
  obtain ⟨w, _, h⟩ := List.mem_filterMap.1 h
  unfold zpe at h
  obtain ⟨s, _, h⟩ := Option.bind_eq_some_iff.1 h
  exact ⟨zw5 h, h0⟩
structure za2 (l : List Int) : Prop where
 len : l.length = 64
 le : ∀ c, c < 64 → 0 ≤ nth l c ∧ nth l c ≤ c
def ziU (l : List Int) : Nat → Int → Int
 | 0, c => c
 | f + 1, c => if nth l c.toNat = c then c else ziU l f (nth l c.toNat)
def zaX (l : List Int) (c : Int) : Int := ziU l (c.toNat + 1) c
theorem zml {l : List Int} (hl : za2 l) : ∀ (f : Nat) (c : Int), 0 ≤ c → c < 64 → c.toNat < f → 0 ≤ ziU l f c ∧ ziU l f c ≤ c ∧ nth l (ziU l f c).toNat = ziU l f c
 | 0, c, _, _, h => by omega
 | f + 1, c, h0, h1, h2 => by
  have h := hl.le c.toNat (by omega)
  rw [ziU]
  split
  ·rename_i e; exact ⟨h0, Int.le_refl _, e⟩
  ·obtain ⟨a, b, d⟩ := zml hl f (nth l c.toNat) h.1 (by omega) (by omega)
   exact ⟨a, by omega, d⟩
theorem zmk {l : List Int} (hl : za2 l) : ∀ (f f' : Nat) (c : Int), 0 ≤ c → c < 64 → c.toNat < f → c.toNat < f' → ziU l f c = ziU l f' c
 | 0, _, c, _, _, h, _ => by omega
 | _, 0, c, _, _, _, h => by omega
 | f + 1, f' + 1, c, h0, h1, h2, h3 => by
  have h := hl.le c.toNat (by omega)
  rw [ziU, ziU]
  split
  ·rfl
  ·exact zmk hl f f' _ h.1 (by omega) (by omega) (by omega)
theorem zev {l : List Int} (hl : za2 l) {c : Int} (h0 : 0 ≤ c) (h1 : c < 64) : 0 ≤ zaX l c ∧ zaX l c ≤ c ∧ nth l (zaX l c).toNat = zaX l c := zml hl _ c h0 h1 (by omega)
theorem zew {l : List Int} (hl : za2 l) {c : Int} (h0 : 0 ≤ c) (h1 : c < 64) : zaX l c = if nth l c.toNat = c then c else zaX l (nth l c.toNat) := by
 have h := hl.le c.toNat (by omega)
 unfold zaX
 rw [ziU]
 split
 ·rfl
 ·exact zmk hl _ _ _ h.1 (by omega) (by omega) (by omega)
def ziR (l : List Int) (a b : Int) : List Int := l.set (max a b).toNat (min a b)
theorem zr0 {l : List Int} (hl : za2 l) {a b : Int} (ha : 0 ≤ a) (hb : 0 ≤ b) : za2 (ziR l a b) := by
 refine ⟨by simpa [ziR] using hl.len, fun c hc => ?_⟩
 unfold ziR
 rw [zbP]
 split
 ·omega
 ·exact hl.le c hc
theorem zmm {l : List Int} (hl : za2 l) {a b : Int} (ha : 0 ≤ a) (hb : 0 ≤ b) (ha' : a < 64) (hb' : b < 64) (hra : nth l a.toNat = a) (hrb : nth l b.toNat = b) :
  ∀ (n : Nat) (c : Int), c.toNat < n → 0 ≤ c → c < 64 → zaX (ziR l a b) c = if zaX l c = max a b then min a b else zaX l c
 | 0, c, h, _, _ => by omega
 | n + 1, c, hn, h0, h1 => by
  have hk := zr0 hl ha hb
  have hle := hl.le c.toNat (by omega)
  have hn' : nth (ziR l a b) c.toNat = if c = max a b then min a b else nth l c.toNat := by
   unfold ziR
   rw [zbP]
   have := hl.len
   by_cases e : c = max a b
   ·rw [if_pos ⟨by omega, by omega⟩, if_pos e]
   ·rw [if_neg (by omega), if_neg e]
  have hmM : nth l (max a b).toNat = max a b := by
   rcases Int.le_total a b with h | h
   ·rw [Int.max_eq_right h]; exact hrb
   ·rw [Int.max_eq_left h]; exact hra
  have hmin : nth l (min a b).toNat = min a b := by
   rcases Int.le_total a b with h | h
   ·rw [Int.min_eq_left h]; exact hra
   ·rw [Int.min_eq_right h]; exact hrb
  rw [zew hk h0 h1, hn', zew hl h0 h1]
  by_cases e : c = max a b
  ·rw [if_pos e, e, if_pos hmM, if_pos rfl]
   by_cases e2 : min a b = max a b
   ·rw [if_pos e2]; exact e2.symm
   ·rw [if_neg e2, zew hk (by omega) (by omega), if_pos]
    unfold ziR
    rw [zbP, if_neg (by omega)]
    exact hmin
  ·rw [if_neg e]
   by_cases e2 : nth l c.toNat = c
   ·rw [if_pos e2, if_pos e2, if_neg e]
   ·rw [if_neg e2, if_neg e2]
    exact zmm hl ha hb ha' hb' hra hrb n _ (by omega) hle.1 (by omega)
def za8 (l : List Int) (first : Int) (others : List Int) : List Int := others.foldl (fun l c => ziR l (zaX l first) (zaX l c)) l
def zhp (l : List Int) (first : Int) (others : List Int) : Int := others.foldl (fun m c => min m (zaX l c)) (zaX l first)
theorem zj9 (l : List Int) (first : Int) (others : List Int) (c : Int) : zhp l first (others ++ [c]) = min (zhp l first others) (zaX l c) := by
 unfold zhp; rw [List.foldl_append]; rfl
theorem zj5 (l : List Int) (first : Int) (others : List Int) (c : Int) : za8 l first (others ++ [c]) = ziR (za8 l first others) (zaX (za8 l first others) first) (zaX (za8 l first others) c) := by
 unfold za8; rw [List.foldl_append]; rfl
theorem zsm {α : Type} {P : List α → Prop} (h0 : P []) (h1 : ∀ l a, P l → P (l ++ [a])) (l : List α) : P l := by
 rw [← List.reverse_reverse l]
 generalize l.reverse = r
 induction r with
 | nil => exact h0
 | cons a r ih => rw [List.reverse_cons]; exact h1 _ _ ih
theorem zlY (l : List Int) (first : Int) : ∀ (others : List Int), (∃ c, (c = first ∨ c ∈ others) ∧ zhp l first others = zaX l c) ∧ ∀ c, (c = first ∨ c ∈ others) → zhp l first others ≤ zaX l c := by
 refine zsm ?_ ?_
 case _ => exact ⟨⟨first, .inl rfl, rfl⟩, fun c hc => by rcases hc with rfl | hc; exact Int.le_refl _; simp at hc⟩
 case _ =>
  intro others d ih
  obtain ⟨⟨c, hc, e⟩, h⟩ := ih
  rw [zj9]
  refine ⟨?_, fun x hx => ?_⟩
  ·rcases Int.le_total (zhp l first others) (zaX l d) with h1 | h1
   ·rw [Int.min_eq_left h1]
    exact ⟨c, hc.imp id (fun h => by simp [h]), e⟩
   ·rw [Int.min_eq_right h1]
    exact ⟨d, .inr (by simp), rfl⟩
  ·rcases hx with rfl | hx
   ·have := h x (.inl rfl); omega
   ·rcases List.mem_append.1 hx with hx | hx
    ·have := h x (.inr hx); omega
    ·simp only [List.mem_singleton] at hx; subst hx; omega
theorem zgJ {l : List Int} (hl : za2 l) {first : Int} (hf : 0 ≤ first ∧ first < 64) : ∀ (others : List Int), (∀ c ∈ others, 0 ≤ c ∧ c < 64) →
  za2 (za8 l first others) ∧ ∀ x, 0 ≤ x → x < 64 → ((∃ c, (c = first ∨ c ∈ others) ∧ zaX l x = zaX l c) → zaX (za8 l first others) x = zhp l first others) ∧
   ((¬ ∃ c, (c = first ∨ c ∈ others) ∧ zaX l x = zaX l c) → zaX (za8 l first others) x = zaX l x) := by
 refine zsm ?_ ?_
 case _ =>
  intro _
  refine ⟨hl, fun x _ _ => ⟨fun ⟨c, hc, e⟩ => ?_, fun _ => rfl⟩⟩
  rcases hc with rfl | hc
  ·exact e
  ·simp at hc
 case _ =>
  intro others d ih ho
  obtain ⟨h1, h2⟩ := ih (fun c hc => ho c (by simp [hc]))
  have hd := ho d (by simp)
  obtain ⟨⟨c0, hc0, e0⟩, hmin⟩ := zlY l first others
  have hfr := (h2 first hf.1 hf.2).1 ⟨first, .inl rfl, rfl⟩
  rw [zj5, zj9, hfr]
  generalize zhp l first others = m at *
  generalize za8 l first others = l1 at *
  have sf := zev h1 hf.1 hf.2
  rw [hfr] at sf
  have sd := zev h1 hd.1 hd.2
  refine ⟨zr0 h1 sf.1 sd.1, fun x x0 x1 => ?_⟩
  have hr := zmm h1 sf.1 sd.1 (by omega) (by omega) sf.2.2 sd.2.2 (x.toNat + 1) x (by omega) x0 x1
  rw [hr]
  obtain ⟨g1, g2⟩ := h2 x x0 x1
  obtain ⟨k1, k2⟩ := h2 d hd.1 hd.2
  have hmem : ∀ c, (c = first ∨ c ∈ others ++ [d]) ↔ ((c = first ∨ c ∈ others) ∨ c = d) := fun c => by
   rw [List.mem_append, List.mem_singleton]; exact (or_assoc).symm
  by_cases hds : ∃ c, (c = first ∨ c ∈ others) ∧ zaX l d = zaX l c
  ·have kd := k1 hds
   obtain ⟨c1, hc1, e1⟩ := hds
   have hle := hmin c1 hc1
   rw [kd, Int.max_self, Int.min_self, Int.min_eq_left (by omega)]
   refine ⟨fun ⟨c, hc, e⟩ => ?_, fun hn => ?_⟩
   ·have hx : zaX l1 x = m := by
     rcases (hmem c).1 hc with hc | rfl
     ·exact g1 ⟨c, hc, e⟩
     ·exact g1 ⟨c1, hc1, e.trans e1⟩
    rw [if_pos hx]
   ·have hx := g2 (fun ⟨c, hc, e⟩ => hn ⟨c, (hmem c).2 (.inl hc), e⟩)
    rw [if_neg, hx]
    rw [hx]
    intro e
    exact hn ⟨c0, (hmem c0).2 (.inl hc0), e.trans e0⟩
  ·have kd := k2 hds
   rw [kd]
   refine ⟨fun ⟨c, hc, e⟩ => ?_, fun hn => ?_⟩
   ·rcases (hmem c).1 hc with hc | rfl
    ·rw [g1 ⟨c, hc, e⟩]
     split <;> omega
    ·have hx := g2 (fun ⟨c', hc', e'⟩ => hds ⟨c', hc', e.symm.trans e'⟩)
     rw [hx, e]
     split <;> omega
   ·have hx := g2 (fun ⟨c, hc, e⟩ => hn ⟨c, (hmem c).2 (.inl hc), e⟩)
    rw [hx, if_neg]
    intro e
    have h3 : zaX l x ≠ m := fun e' => hn ⟨c0, (hmem c0).2 (.inl hc0), e'.trans e0⟩
    have h4 : zaX l x ≠ zaX l d := fun e' => hn ⟨d, (hmem d).2 (.inr rfl), e'⟩
    omega
def zca (l : List Int) (n : Nat) : List Int := (List.range n).map fun (c : Nat) => zaX l c
theorem zf3 (l : List Int) {n : Nat} {c : Int} (h0 : 0 ≤ c) (h1 : c < n) : nth (zca l n) c.toNat = zaX l c := by
 unfold zca
 have h : c.toNat < (List.range n).length := by rw [List.length_range]; omega
 rw [zcb _ _ _ h, zaA _ _ h, List.getElem_range, show ((c.toNat : Nat) : Int) = c by omega]
def zbh (a : zed) : List Int := if a.1 = 3 ∨ a.1 = 4 ∨ a.1 = 5 ∨ a.1 = 6 then [a.2.1] else if a.1 = 7 then [a.2.1, a.2.2] else []
theorem ztj (a : zed) : (zbh a).length ≤ 2 := by
 unfold zbh
 split
 ·simp
 ·split <;> simp
def zbH (cell : Int) (p : zaK) : List Int := [cell, p.to] ++ p.acts.flatMap zbh
def zpM (n : Nat) (p : zaK) : Prop := (0 ≤ p.to ∧ p.to < n) ∧ p.acts.length ≤ 1048576 ∧ ∀ a ∈ p.acts, ∀ c ∈ zbh a, 0 ≤ c ∧ c < n
def zgB (n : Nat) (s : List (List (List zaK))) : Prop := s.length ≤ 6 ∧ ∀ k ∈ s, k.length = n ∧ ∀ x ∈ k, x.length ≤ 1099511627776 ∧ ∀ p ∈ x, zpM n p
def zuU (c : Int) (l : List Int) (acts : List zed) : List Int := acts.foldl (fun l a => za8 l c (zbh a)) l
def zrc (c : Int) (l : List Int) (p : zaK) : List Int := zuU c (za8 l c [p.to]) p.acts
def zmf (c : Int) (l : List Int) (ps : List zaK) : List Int := ps.foldl (zrc c) l
def zgj (l : List Int) : Nat → List (List zaK) → List Int
 | _, [] => l
 | c, ps :: k => zgj (zmf c l ps) (c + 1) k
def zgp (l : List Int) (s : List (List (List zaK))) : List Int := s.foldl (fun l k => zgj l 0 k) l
def idL : List Int := (List.range 64).map fun (c : Nat) => (c : Int)
def zdI (c : zga) : List Int := zgp (zgp idL c.1) c.2
theorem zwa : za2 idL := by
 refine ⟨by simp [idL], fun c hc => ?_⟩
 have : nth idL c = (c : Int) := by
  unfold idL
  rw [zcb _ _ _ (by simpa using hc), zaA _ _ (by simpa using hc), List.getElem_range]
 omega
theorem zhl {l : List Int} (hl : za2 l) {n : Nat} (hn : n ≤ 64) {c : Int} (hc : 0 ≤ c ∧ c < n) {others : List Int} (ho : ∀ c ∈ others, 0 ≤ c ∧ c < n) : za2 (za8 l c others) :=
 (zgJ hl (first := c) ⟨hc.1, by omega⟩ others (fun d hd => by have := ho d hd; omega)).1
theorem zrG {n : Nat} (hn : n ≤ 64) {c : Int} (hc : 0 ≤ c ∧ c < n) : ∀ (acts : List zed) {l : List Int}, za2 l → (∀ a ∈ acts, ∀ c ∈ zbh a, 0 ≤ c ∧ c < n) → za2 (zuU c l acts)
 | [], _, hl, _ => hl
 | a :: acts, l, hl, h => zrG hn hc acts (zhl hl hn hc (h a (by simp))) (fun b hb => h b (by simp [hb]))
theorem zr9 {n : Nat} (hn : n ≤ 64) {c : Int} (hc : 0 ≤ c ∧ c < n) {p : zaK} (hp : zpM n p) {l : List Int} (hl : za2 l) : za2 (zrc c l p) :=
 zrG hn hc p.acts (zhl hl hn hc (fun d hd => by rw [List.mem_singleton] at hd; subst hd; exact hp.1)) hp.2.2
theorem zkw {n : Nat} (hn : n ≤ 64) {c : Int} (hc : 0 ≤ c ∧ c < n) : ∀ (ps : List zaK) {l : List Int}, za2 l → (∀ p ∈ ps, zpM n p) → za2 (zmf c l ps)
 | [], _, hl, _ => hl
 | p :: ps, l, hl, h => zkw hn hc ps (zr9 hn hc (h p (by simp)) hl) (fun q hq => h q (by simp [hq]))
theorem zjJ {n : Nat} (hn : n ≤ 64) : ∀ (k : List (List zaK)) (c : Nat) {l : List Int}, za2 l → c + k.length ≤ n → (∀ x ∈ k, ∀ p ∈ x, zpM n p) → za2 (zgj l c k)
 | [], _, _, hl, _, _ => hl
 | ps :: k, c, l, hl, hc, h => by
  rw [zgj]
  simp only [List.length_cons] at hc
  exact zjJ hn k (c + 1) (zkw hn ⟨by omega, by omega⟩ ps hl (h ps (by simp))) (by omega) (fun x hx => h x (by simp [hx]))
theorem zho {n : Nat} (hn : n ≤ 64) : ∀ (s : List (List (List zaK))) {l : List Int}, za2 l → (∀ k ∈ s, k.length = n ∧ ∀ x ∈ k, x.length ≤ 1099511627776 ∧ ∀ p ∈ x, zpM n p) → za2 (zgp l s)
 | [], _, hl, _ => hl
 | k :: s, l, hl, h => by
  have hk := h k (by simp)
  exact zho hn s (zjJ hn k 0 hl (by omega) (fun x hx => (hk.2 x hx).2)) (fun q hq => h q (by simp [hq]))
theorem zo2 {n : Nat} (hn : n ≤ 64) {c : zga} (h1 : zgB n c.1) (h2 : zgB n c.2) : za2 (zdI c) := zho hn c.2 (zho hn c.1 zwa h1.2) h2.2
theorem zvC {cells kinds rights : Int} {a : zed} (ha : zzG cells kinds rights a) : ∀ c ∈ zbh a, 0 ≤ c ∧ c < cells := by
 intro c hc
 unfold zzG at ha
 unfold zbh at hc
 split at hc
 ·rw [List.mem_singleton] at hc
  subst hc
  omega
 ·split at hc
  ·simp only [List.mem_cons, List.not_mem_nil, or_false] at hc
   rcases hc with rfl | rfl <;> omega
  ·cases hc
theorem zhk (l : List Int) (c : Int) (xs ys : List Int) : za8 l c (xs ++ ys) = za8 (za8 l c xs) c ys := by unfold za8; rw [List.foldl_append]
theorem zrF (c : Int) : ∀ (acts : List zed) (l : List Int), zuU c l acts = za8 l c (acts.flatMap zbh)
 | [], l => rfl
 | a :: acts, l => by
  rw [List.flatMap_cons, zhk]
  exact zrF c acts _
theorem zyX (c : Int) (l : List Int) (p : zaK) : zrc c l p = za8 l c (p.to :: p.acts.flatMap zbh) := by
 unfold zrc
 rw [zrF, ← zhk]
 rfl
def zge (l : List Int) (j : List Int) : List Int := za8 l (nth j 0) j.tail
def zgk : Nat → List (List zaK) → List (List Int)
 | _, [] => []
 | c, ps :: k => ps.map (fun p => zbH (c : Int) p) ++ zgk (c + 1) k
def zj8 (s : List (List (List zaK))) : List (List Int) := s.flatMap (zgk 0)
def zBa (c : zga) : List (List Int) := zj8 c.1 ++ zj8 c.2
theorem zAY (c : Int) (l : List Int) (p : zaK) : zrc c l p = zge l (zbH c p) := by rw [zyX]; rfl
theorem zsa (c : Int) : ∀ (ps : List zaK) (l : List Int), zmf c l ps = (ps.map (fun p => zbH c p)).foldl zge l
 | [], l => rfl
 | p :: ps, l => by
  show zmf c (zrc c l p) ps = _
  rw [zsa c ps, zAY]; rfl
theorem zrR : ∀ (k : List (List zaK)) (c : Nat) (l : List Int), zgj l c k = (zgk c k).foldl zge l
 | [], _, _ => rfl
 | ps :: k, c, l => by
  rw [zgj, zgk, List.foldl_append, zrR k, zsa]
theorem znr : ∀ (s : List (List (List zaK))) (l : List Int), zgp l s = (zj8 s).foldl zge l
 | [], _ => rfl
 | k :: s, l => by
  show zgp (zgj l 0 k) s = _
  rw [znr s, zrR]
  unfold zj8
  rw [List.flatMap_cons, List.foldl_append]
theorem zyJ (c : zga) : zdI c = (zBa c).foldl zge idL := by
 unfold zdI zBa
 rw [znr, znr, List.foldl_append]
def JOk (n : Nat) (j : List Int) : Prop := j ≠ [] ∧ ∀ c ∈ j, 0 ≤ c ∧ c < n
theorem ztM {n : Nat} {c : Int} (hc : 0 ≤ c ∧ c < n) {p : zaK} (hp : zpM n p) : JOk n (zbH c p) := by
 refine ⟨by simp [zbH], fun d hd => ?_⟩
 unfold zbH at hd
 rw [List.mem_append, List.mem_flatMap] at hd
 rcases hd with hd | ⟨a, ha, hd⟩
 ·simp only [List.mem_cons, List.not_mem_nil, or_false] at hd
  rcases hd with rfl | rfl
  ·exact hc
  ·exact hp.1
 ·exact hp.2.2 a ha d hd
theorem zoj {n : Nat} : ∀ (k : List (List zaK)) (c : Nat), c + k.length ≤ n → (∀ x ∈ k, ∀ p ∈ x, zpM n p) → ∀ j ∈ zgk c k, JOk n j
 | [], _, _, _, j, hj => by simp [zgk] at hj
 | ps :: k, c, hc, h, j, hj => by
  simp only [List.length_cons] at hc
  rw [zgk, List.mem_append] at hj
  rcases hj with hj | hj
  ·obtain ⟨p, hp, rfl⟩ := List.mem_map.1 hj
   exact ztM ⟨by omega, by omega⟩ (h ps (by simp) p hp)
  ·exact zoj k (c + 1) (by omega) (fun x hx => h x (by simp [hx])) j hj
theorem zo0 {n : Nat} {s : List (List (List zaK))} (h : zgB n s) : ∀ j ∈ zj8 s, JOk n j := by
 intro j hj
 obtain ⟨k, hk, hj⟩ := List.mem_flatMap.1 hj
 obtain ⟨h1, h2⟩ := h.2 k hk
 exact zoj k 0 (by omega) (fun x hx => (h2 x hx).2) j hj
theorem zz8 {n : Nat} {c : zga} (h1 : zgB n c.1) (h2 : zgB n c.2) : ∀ j ∈ zBa c, JOk n j := by
 intro j hj
 rcases List.mem_append.1 hj with hj | hj
 ·exact zo0 h1 j hj
 ·exact zo0 h2 j hj
theorem zep {l : List Int} (hl : za2 l) {n : Nat} (hn : n ≤ 64) {j : List Int} (hj : JOk n j) :
  za2 (zge l j) ∧ ∃ m, (∃ c ∈ j, m = zaX l c) ∧ ∀ x, 0 ≤ x → x < 64 → ((∃ c ∈ j, zaX l x = zaX l c) → zaX (zge l j) x = m) ∧
   ((¬ ∃ c ∈ j, zaX l x = zaX l c) → zaX (zge l j) x = zaX l x) := by
 obtain ⟨hne, hr⟩ := hj
 cases j with
 | nil => exact absurd rfl hne
 | cons a j =>
  have ha := hr a (by simp)
  obtain ⟨h1, h2⟩ := zgJ hl (first := a) ⟨ha.1, by omega⟩ j (fun c hc => by have := hr c (by simp [hc]); omega)
  obtain ⟨⟨c0, hc0, e0⟩, _⟩ := zlY l a j
  refine ⟨h1, zhp l a j, ⟨c0, List.mem_cons.2 hc0, e0⟩, fun x x0 x1 => ?_⟩
  obtain ⟨g1, g2⟩ := h2 x x0 x1
  exact ⟨fun ⟨c, hc, e⟩ => g1 ⟨c, List.mem_cons.1 hc, e⟩, fun h => g2 fun ⟨c, hc, e⟩ => h ⟨c, List.mem_cons.2 hc, e⟩⟩
theorem ztJ {l : List Int} (hl : za2 l) {n : Nat} (hn : n ≤ 64) {j : List Int} (hj : JOk n j) {x y : Int} (x0 : 0 ≤ x) (x1 : x < 64) (y0 : 0 ≤ y) (y1 : y < 64)
  (h : zaX l x = zaX l y) : zaX (zge l j) x = zaX (zge l j) y := by
 obtain ⟨_, m, _, h2⟩ := zep hl hn hj
 obtain ⟨a1, a2⟩ := h2 x x0 x1
 obtain ⟨b1, b2⟩ := h2 y y0 y1
 by_cases hc : ∃ c ∈ j, zaX l x = zaX l c
 ·rw [a1 hc, b1 (by rw [← h]; exact hc)]
 ·rw [a2 hc, b2 (by rw [← h]; exact hc), h]
theorem ztK {l : List Int} (hl : za2 l) {n : Nat} (hn : n ≤ 64) {j : List Int} (hj : JOk n j) {x y : Int} (hx : x ∈ j) (hy : y ∈ j) : zaX (zge l j) x = zaX (zge l j) y := by
 obtain ⟨_, m, _, h2⟩ := zep hl hn hj
 have a := hj.2 x hx
 have b := hj.2 y hy
 rw [(h2 x a.1 (by omega)).1 ⟨x, hx, rfl⟩, (h2 y b.1 (by omega)).1 ⟨y, hy, rfl⟩]
theorem zlO {n : Nat} (hn : n ≤ 64) {x y : Int} (x0 : 0 ≤ x) (x1 : x < 64) (y0 : 0 ≤ y) (y1 : y < 64) : ∀ (all : List (List Int)) {l : List Int}, za2 l → (∀ j ∈ all, JOk n j) →
  zaX l x = zaX l y → zaX (all.foldl zge l) x = zaX (all.foldl zge l) y
 | [], _, _, _, h => h
 | j :: all, l, hl, hj, h => zlO hn x0 x1 y0 y1 all (zep hl hn (hj j (by simp))).1 (fun k hk => hj k (by simp [hk])) (ztJ hl hn (hj j (by simp)) x0 x1 y0 y1 h)
theorem zlP {n : Nat} (hn : n ≤ 64) : ∀ (all : List (List Int)) {l : List Int}, za2 l → (∀ j ∈ all, JOk n j) → ∀ j ∈ all, ∀ x ∈ j, ∀ y ∈ j, zaX (all.foldl zge l) x = zaX (all.foldl zge l) y
 | [], _, _, _, j, hj, _, _, _, _ => by simp at hj
 | k :: all, l, hl, h, j, hj, x, hx, y, hy => by
  have hk := h k (by simp)
  rw [List.foldl_cons]
  rcases List.mem_cons.1 hj with rfl | hj
  ·have a := hk.2 x hx
   have b := hk.2 y hy
   exact zlO hn a.1 (by omega) b.1 (by omega) all (zep hl hn hk).1 (fun k hk => h k (by simp [hk])) (ztK hl hn hk hx hy)
  ·exact zlP hn all (zep hl hn hk).1 (fun k hk => h k (by simp [hk])) j hj x hx y hy
theorem ztX {n : Nat} (hn : n ≤ 64) {c : zga} (h1 : zgB n c.1) (h2 : zgB n c.2) : ∀ j ∈ zBa c, ∀ x ∈ j, ∀ y ∈ j, nth (zca (zdI c) n) x.toNat = nth (zca (zdI c) n) y.toNat := by
 intro j hj x hx y hy
 have hJ := zz8 h1 h2
 have a := (hJ j hj).2 x hx
 have b := (hJ j hj).2 y hy
 rw [zf3 _ a.1 a.2, zf3 _ b.1 b.2, zyJ]
 exact zlP hn _ zwa hJ j hj x hx y hy
theorem zq1 {n : Nat} (hn : n ≤ 64) {c : zga} (h1 : zgB n c.1) (h2 : zgB n c.2) {x : Int} (x0 : 0 ≤ x) (x1 : x < n) :
  0 ≤ nth (zca (zdI c) n) x.toNat ∧ nth (zca (zdI c) n) x.toNat ≤ x ∧ nth (zca (zdI c) n) (nth (zca (zdI c) n) x.toNat).toNat = nth (zca (zdI c) n) x.toNat := by
 have hl := zo2 hn h1 h2
 obtain ⟨a, b, d⟩ := zev hl x0 (by omega)
 rw [zf3 _ x0 x1, zf3 _ a (by omega)]
 refine ⟨a, b, ?_⟩
 rw [zew hl a (by omega), if_pos d]
theorem zeG (a b : zal) (ha : zbw a) (hb : zbw b) : zaJ Tryz.prog 62 [.agg (zag a), .agg (zag b)] (.v (.bool (decide (zcK a b = 0)))) := by
 refine pF Tryz.func62 ?_
 repeat first|refine wV fun _=>?_|simp [go_sem]
 refine zBi (ziq a b ha hb) (by simp [go_sem]) ?_
 repeat first|refine wV fun _=>?_|simp [go_sem]
attribute [go_sem ↓] zte zya List.forall_mem_append
theorem zAb {x : AV} (h : Bel 0 x) : ∀ c ∈ [x], Bel 0 c := by simpa using h
theorem zdA {n : Nat} (l : List zal) : Bel n (zaV l) := of_eq_true zzp
def outsF (side : Int) (l : List StD) (n : Nat) : List zcU := ((l.take n).filterMap (zhz side)).foldl (fun a x => zwi x a) []
@[go_sem] theorem zBg (side : Int) (l : List StD) : outsF side l 0 = [] := rfl
def zck (g : zac) (p : zal) (k : Nat) : List zal := (List.range k).flatMap fun k => (List.range p.at_.length).filterMap fun c => zhW g p k c
def zc8 (g : zac) (p : zal) (k c : Nat) : List zal := zck g p k ++ (List.range c).filterMap fun c => zhW g p k c
theorem zlI (g : zac) (p : zal) (k : Nat) : zc8 g p k p.at_.length = zck g p (k + 1) := by simp [zc8, zck, List.range_succ, List.flatMap_append]
theorem zjQ (g : zac) (p : zal) (k : Nat) : zc8 g p k 0 = zck g p k := by simp [zc8]
theorem zeL (g : zac) (p : zal) (k c : Nat) : zc8 g p k (c + 1) = zc8 g p k c ++ (zhW g p k c).toList := by
 simp only [zc8, List.range_succ, List.filterMap_append, List.append_assoc]
 cases h : zhW g p k c <;> simp [h]
theorem zhX (g : zac) (p : zal) : zck g p g.kinds.length = zvP g p := rfl
theorem zen {α : Type} (f : Nat → List α) (m : Nat) (hf : ∀ k, (f k).length ≤ m) : ∀ n, ((List.range n).flatMap f).length ≤ n * m
 | 0 => by simp
 | n + 1 => by
  have := zen f m hf n
  have := hf n
  simp only [List.range_succ, List.flatMap_append, List.length_append, List.flatMap_cons, List.flatMap_nil, List.append_nil, Nat.add_mul, Nat.one_mul]
  omega
theorem zfV (g : zac) (p : zal) (k : Nat) : (zck g p k).length ≤ k * p.at_.length :=
 zen _ _ (fun k => Nat.le_trans (List.length_filterMap_le _ _) (by simp)) k
theorem zlJ (g : zac) (p : zal) (k c : Nat) : (zc8 g p k c).length ≤ k * p.at_.length + c := by
 have h1 := zfV g p k
 have h2 : ((List.range c).filterMap fun c => zhW g p k c).length ≤ c := Nat.le_trans (List.length_filterMap_le _ _) (by simp)
 simp only [zc8, List.length_append]
 omega
theorem zm6 {g : zac} (hg : GOk g) {p : zal} (hp : POk g p) {k c : Nat} (hk : k < g.kinds.length) {q : zal} (h : zhW g p k c = some q) : POk g q ∧ q.side = 1 - p.side := by
 unfold zhW at h
 split at h
 ·cases h
 ·rename_i hc
  simp only [Option.some.injEq] at h
  subst h
  have k6 := hg.k6
  have hcode : zc7 k p.side = 1 + 2 * k + p.side := zom (K := g.kinds.length) ⟨by omega, by omega⟩ k6 hp.s
  have hs := hp.s
  have hh := hp.hand p.side
  have hl := hh.len
  have hv := hh.v k (by omega)
  refine ⟨POk.side (POk.withHand (hp.setAt c (by rw [hcode]; omega)) _ (hh.set k ?_ ?_)) (by omega), rfl⟩
  ·simp only [not_or] at hc; omega
  ·intro _; exact hv.2.2 (by simp only [not_or] at hc; omega)
theorem zqS {g : zac} (hg : GOk g) {p : zal} (hp : POk g p) {cell : Int} (h0 : 0 ≤ cell) (h1 : cell < g.cells) (hm : 0 ≤ (zav (nth p.at_ cell.toNat)).1) :
  (zav (nth p.at_ cell.toNat)).1.toNat < g.kinds.length := by
 have hat := hp.at (i := cell.toNat) (by omega)
 rcases zbl hat.1 hat.2 hg.k6 with ⟨_, e⟩ | ⟨_, a, b, _⟩
 ·rw [e] at hm; simp at hm
 ·omega
theorem zw0 {g : zac} (hg : GOk g) {p : zal} (hp : POk g p) {cell i : Int} (hc : zct g p cell i) : zgi g.next.length g.kinds.length g.rights (zbI g p cell i) :=
 hg.pr _ (zah (zqS hg hp hc.c0 hc.c1 hc.man)) _ (zah (by have := hc.i0; have := hc.i1; omega))
theorem zjd {g : zac} (hg : GOk g) {p : zal} (hp : POk g p) {cell i : Int} (hc : zct g p cell i) :
  (∀ s ∈ zfh g p cell (zbI g p cell i), zgS g s ∧ s.p.side = p.side) ∧ (zfh g p cell (zbI g p cell i)).length ≤ 100000000 := by
 have hpg := zw0 hg hp hc
 have h := zpw hg hp hc.c0 hc.c1 hc.man hpg.st _ (Nat.le_refl _)
 rw [zkM] at h
 exact ⟨h.1, Nat.le_trans h.2 (zsb hpg.len)⟩
theorem zw4 {g : zac} (hg : GOk g) {s : StD} (hs : zgS g s) {side : Int} (hsd : side = 0 ∨ side = 1) {o : zcU} (h : zhz side s = some o) : POk g o.pos ∧ o.pos.side = 1 - side := by
 unfold zhz at h
 split at h
 ·simp only [Option.some.injEq] at h
  subst h
  have hc : zc7 s.kind side = 1 + 2 * s.kind + side := zom (K := g.kinds.length) hs.k hg.k6 hsd
  have hk := hs.k
  exact ⟨POk.side (hs.p.setAt _ (by rw [hc]; omega)) (by omega), rfl⟩
 ·cases h
theorem zy8 {g : zac} (hg : GOk g) {p : zal} (hp : POk g p) {cell i : Int} (hc : zct g p cell i) : ∀ o ∈ ze0 g p cell i, POk g o.pos ∧ o.pos.side = 1 - p.side := by
 intro o ho
 unfold ze0 at ho
 rw [za9] at ho
 obtain ⟨s, hs, h⟩ := List.mem_filterMap.1 ho
 exact zw4 hg ((zjd hg hp hc).1 s hs).1 hp.s h
theorem zps {g : zac} (hg : GOk g) {p : zal} (hp : POk g p) {cell i : Int} (hc : zct g p cell i) : (ze0 g p cell i).length ≤ 100000000 := by
 unfold ze0
 have h1 := zhE znM ((zfh g p cell (zbI g p cell i)).filterMap (zhz p.side))
 have h2 : ((zfh g p cell (zbI g p cell i)).filterMap (zhz p.side)).length ≤ (zfh g p cell (zbI g p cell i)).length := List.length_filterMap_le _ _
 have h3 := (zjd hg hp hc).2
 omega
theorem zjK {g : zac} {p : zal} {c i : Nat} (hp : POk g p) (hc : c < p.at_.length) (hm : 0 ≤ (zav (nth p.at_ c)).1 ∧ (zav (nth p.at_ c)).2 = p.side)
  (hi : i < (nth g.kinds (zav (nth p.at_ c)).1.toNat).progs.length) : zct g p c i := by
 have := hp.al
 exact ⟨by omega, by omega, hm.1, hm.2, by omega, by simp only [Int.toNat_natCast]; omega⟩
theorem zo9 {g : zac} {p : zal} (hp : POk g p) {o : zcU} : o ∈ zgg g p ↔ ∃ c i : Nat, zct g p c i ∧ o ∈ ze0 g p c i := by
 have hal := hp.al
 unfold zgg
 rw [List.mem_flatMap]
 constructor
 ·rintro ⟨c, hc, ho⟩
  rw [List.mem_range] at hc
  unfold zdK at ho
  split at ho
  ·rename_i hm
   obtain ⟨i, hi, ho⟩ := List.mem_flatMap.1 ho
   rw [List.mem_range] at hi
   exact ⟨c, i, zjK hp hc hm hi, ho⟩
  ·simp at ho
 ·rintro ⟨c, i, hc, ho⟩
  refine ⟨c, ?_, ?_⟩
  ·have := hc.c1; rw [List.mem_range]; omega
  ·have h1 := hc.man
   have h2 := hc.side
   have h3 := hc.i1
   simp only [Int.toNat_natCast] at h1 h2 h3
   unfold zdK
   rw [if_pos ⟨h1, h2⟩]
   exact List.mem_flatMap.2 ⟨i, by rw [List.mem_range]; omega, ho⟩
theorem zr5 {g : zac} (hg : GOk g) {p : zal} (hp : POk g p) : ∀ o ∈ zgg g p, POk g o.pos ∧ o.pos.side = 1 - p.side := by
 intro o ho
 obtain ⟨c, i, hc, ho⟩ := (zo9 hp).1 ho
 exact zy8 hg hp hc o ho
theorem zbS {α : Type} (f : Nat → List α) (m : Nat) : ∀ n, (∀ k, k < n → (f k).length ≤ m) → ((List.range n).flatMap f).length ≤ n * m
 | 0, _ => by simp
 | n + 1, hf => by
  have := zbS f m n (fun k hk => hf k (by omega))
  have := hf n (by omega)
  simp only [List.range_succ, List.flatMap_append, List.length_append, List.flatMap_cons, List.flatMap_nil, List.append_nil, Nat.add_mul, Nat.one_mul]
  omega
theorem zt0 {g : zac} (hg : GOk g) {p : zal} (hp : POk g p) {c : Nat} (hc : c < p.at_.length) : (zdK g p c).length ≤ 800000000 := by
 unfold zdK
 split
 ·rename_i hm
  have hal := hp.al
  have hk := zqS hg hp (cell := c) (by omega) (by omega) (by simpa using hm.1)
  simp only [Int.toNat_natCast] at hk
  have h8 := hg.pn _ (zah hk)
  have h1 := zbS (fun (i : Nat) => ze0 g p c i) 100000000 (nth g.kinds (zav (nth p.at_ c)).1.toNat).progs.length (fun i hi => zps hg hp (zjK hp hc hm hi))
  have h2 : (nth g.kinds (zav (nth p.at_ c)).1.toNat).progs.length * 100000000 ≤ 8 * 100000000 := Nat.mul_le_mul_right _ h8
  omega
 ·simp
theorem zwQ {g : zac} (hg : GOk g) {p : zal} (hp : POk g p) {k : Nat} (hk : k ≤ p.at_.length) : ((List.range k).flatMap (zdK g p)).length ≤ 7200000000 := by
 have hal := hp.al
 have c9 := hg.c9
 have h1 := zbS (zdK g p) 800000000 k (fun c hc => zt0 hg hp (by omega))
 have h2 : k * 800000000 ≤ 9 * 800000000 := Nat.mul_le_mul_right _ (by omega)
 omega
theorem zwS {g : zac} (hg : GOk g) {p : zal} (hp : POk g p) : (zgg g p).length ≤ 7200000000 := zwQ hg hp (Nat.le_refl _)
theorem zoq {g : zac} (hg : GOk g) {p : zal} (hp : POk g p) : ∀ q ∈ zdB g p, POk g q ∧ q.side = 1 - p.side := by
 intro q hq
 unfold zdB at hq
 rw [za9] at hq
 obtain ⟨k, hk, hq⟩ := List.mem_flatMap.1 hq
 obtain ⟨c, hc, hq⟩ := List.mem_filterMap.1 hq
 exact zm6 hg hp (by simpa using hk) hq
theorem zlK {g : zac} (hg : GOk g) {p : zal} (hp : POk g p) : (zdB g p).length ≤ 54 := by
 have h1 := zhE zcK (zvP g p)
 have h2 := zfV g p g.kinds.length
 rw [zhX] at h2
 have hal := hp.al
 have c9 := hg.c9
 have h3 : g.kinds.length * p.at_.length ≤ 6 * 9 := Nat.mul_le_mul hg.k6 (by omega)
 unfold zdB
 omega
theorem zwC {g : zac} (hg : GOk g) {p : zal} (hp : POk g p) : ∀ q ∈ zhr g p, POk g q ∧ q.side = 1 - p.side := by
 intro q hq
 unfold zhr at hq
 rcases List.mem_append.1 hq with hq | hq
 ·obtain ⟨o, ho, rfl⟩ := List.mem_map.1 hq
  exact zr5 hg hp o (List.mem_filter.1 ho).1
 ·split at hq
  ·simp at hq
  ·exact zoq hg hp q hq
theorem zcN {g : zac} (hg : GOk g) {p : zal} (hp : POk g p) : ∀ q ∈ zaN g p, POk g q ∧ q.side = 1 - p.side := by
 intro q hq
 unfold zaN at hq
 split at hq
 ·simp at hq
 ·exact zwC hg hp q (za9.1 hq)
theorem zpC (p : zal) (side : Int) (l : List Int) : (p.withHand side l).at_ = p.at_ := by
 unfold zal.withHand
 split <;> rfl
theorem zvL {g : zac} {side : Int} {t : TkD} {x : zed} {z : Nat} (hz : ∀ c ∈ zbh x, c.toNat ≠ z) : nth (doA g side t x).1.p.at_ z = nth t.p.at_ z ∧ (doA g side t x).1.p.at_.length = t.p.at_.length := by
 unfold doA
 by_cases h6 : x.1 = 6
 ·have h1 : x.2.1.toNat ≠ z := hz _ (by simp [zbh, h6])
  rw [if_neg (by omega), if_neg (by omega), if_neg (by omega), if_pos h6]
  unfold zxn
  simp only
  split
  ·exact ⟨rfl, rfl⟩
  ·split
   ·simp only [zpC, clr]
    rw [zbP, if_neg (fun h => h1 h.1)]
    exact ⟨rfl, by simp⟩
   ·simp only [clr]
    rw [zbP, if_neg (fun h => h1 h.1)]
    exact ⟨rfl, by simp⟩
 ·by_cases h7 : x.1 = 7
  ·have h1 : x.2.1.toNat ≠ z := hz _ (by simp [zbh, h7])
   have h2 : x.2.2.toNat ≠ z := hz _ (by simp [zbh, h7])
   rw [if_neg (by omega), if_neg (by omega), if_neg (by omega), if_neg h6, if_pos h7]
   unfold zw1
   split
   ·exact ⟨rfl, rfl⟩
   ·simp only
    rw [zbP, if_neg (fun h => h1 h.1), zbP, if_neg (fun h => h2 h.1)]
    exact ⟨rfl, by simp⟩
  ·repeat' split
   all_goals first | exact ⟨rfl, rfl⟩ | exact absurd ‹x.1 = 6› h6 | exact absurd ‹x.1 = 7› h7
theorem zlG {g : zac} {side : Int} {z : Nat} : ∀ {l : List zed} {t u : TkD}, zfs g side t l = some u → (∀ c ∈ l.flatMap zbh, c.toNat ≠ z) → nth u.p.at_ z = nth t.p.at_ z ∧ u.p.at_.length = t.p.at_.length
 | [], t, u, h, _ => by
  simp only [zfs, Option.some.injEq] at h
  subst h
  exact ⟨rfl, rfl⟩
 | x :: l, t, u, h, hz => by
  rw [zfs] at h
  split at h
  ·have h1 := zlG (z := z) h fun c hc => hz c (by rw [List.flatMap_cons]; exact List.mem_append.2 (.inr hc))
   have h2 := zvL (g := g) (side := side) (t := t) (x := x) (z := z) fun c hc => hz c (by rw [List.flatMap_cons]; exact List.mem_append.2 (.inl hc))
   exact ⟨h1.1.trans h2.1, h1.2.trans h2.2⟩
  ·cases h
theorem ztZ {g : zac} {side : Int} {p : zal} {cell : Int} {w : zaK} {o : zcU} {z : Nat} (h : zpe g side (zcD p cell) w = some o) (hz : ∀ c ∈ zbH cell w, c.toNat ≠ z) : nth o.pos.at_ z = nth p.at_ z := by
 unfold zpe stW at h
 cases hd : zfs g side (zcD p cell) w.acts with
 | none => rw [hd] at h; simp at h
 | some u =>
  rw [hd] at h
  simp only [Option.map_some, Option.bind_some] at h
  have h1 := zlG (z := z) hd fun c hc => hz c (by unfold zbH; exact List.mem_append.2 (.inr hc))
  have h2 : cell.toNat ≠ z := hz _ (by simp [zbH])
  have h3 : w.to.toNat ≠ z := hz _ (by simp [zbH])
  unfold zhz at h
  split at h
  ·simp only [Option.some.injEq] at h
   subst h
   simp only [stT]
   rw [zbP, if_neg (fun h => h3 h.1), h1.1]
   simp only [zcD, clr]
   rw [zbP, if_neg (fun h => h2 h.1)]
  ·cases h
theorem zlC : ∀ (k : List (List zaK)) (c j : Nat) (w : zaK), j < k.length → w ∈ nth k j → zbH ((c + j : Nat) : Int) w ∈ zgk c k
 | [], c, j, w, h, _ => by simp at h
 | ps :: k, c, 0, w, h, hw => by
  rw [zgk]
  exact List.mem_append.2 (.inl (List.mem_map.2 ⟨w, hw, rfl⟩))
 | ps :: k, c, j + 1, w, h, hw => by
  rw [zgk]
  refine List.mem_append.2 (.inr ?_)
  have := zlC k (c + 1) j w (by simpa using h) hw
  rwa [show c + 1 + j = c + (j + 1) by omega] at this
theorem zqQ {g : zac} (hg : GOk g) {side : Int} (hs : side = 0 ∨ side = 1) {k : Nat} (hk : k < g.kinds.length) {c : Nat} (hc : (c : Int) < g.cells) {w : zaK} (hw : w ∈ zeQ g.board side (nth g.kinds k).progs c) : zbH c w ∈ zBa (zdj g) := by
 have h1 : zbH c w ∈ zj8 (zce g side) := by
  unfold zj8
  refine List.mem_flatMap.2 ⟨zdo g.board side (nth g.kinds k).progs, List.mem_map.2 ⟨_, zah hk, rfl⟩, ?_⟩
  have e : g.board.cells = g.cells := rfl
  have hlr : c < (List.range g.board.cells.toNat).length := by rw [List.length_range]; omega
  have := zlC (zdo g.board side (nth g.kinds k).progs) 0 c w (by unfold zdo; rw [List.length_map]; exact hlr) (by
   unfold zdo
   rw [zcb _ _ _ hlr, zaA _ _ hlr, List.getElem_range]
   exact hw)
  rwa [Nat.zero_add] at this
 unfold zBa zdj
 rcases hs with rfl | rfl
 ·exact List.mem_append.2 (.inl h1)
 ·exact List.mem_append.2 (.inr h1)
end Go.Av
end
section
/- Our library: ranges zdM functions, and iterators: equations and steps. -/
namespace Go.Av
open Go
section
variable {P : Program} {n0 : Nat} {Q : zbK} {e : Env} {h : zan} {n : Nat} {ops rest : List Oper}
def zgZ (P : Program) (n0 : Nat) (ps : List Tmp) (a b : Code) (Q : zbK) (v : AV) (e : Env) (h : zan) (n : Nat) : Prop :=
 (∃ f caps caps' more rows h', v = .fn (.func f) [] caps ∧ Frz h h' ∧ zam h h' n caps caps' ∧ (∀ c ∈ caps', Bel 0 c) ∧ zxG P f caps' more rows ∧
  (∀ xs ∈ rows, xs.length = ps.length) ∧ Fgt n0 (zb6 n0 more ps (fun n1 => awp P n1 a) (fun n1 => awp P n1 b) Q rows) e h' n) ∨
 (∃ f caps caps' o gn sz rs rs' more rows h', v = .fn (.func f) [] caps ∧ Frz h h' ∧ h' o = some (.rows true gn sz rs) ∧ zak h h' n rs rs' ∧ (∀ r ∈ rs', ∀ c ∈ r, Bel 0 c) ∧
  zgx h h' n o caps caps' ∧ zuL P f caps' [(0, .rows true gn sz rs')] 1 more rows ∧
  (∀ xs ∈ rows, xs.length = ps.length) ∧ Fgt n0 (zb6 n0 more ps (fun n1 => awp P n1 a) (fun n1 => awp P n1 b) Q rows) e (upd h' o none) n)
theorem zmV (g : Operand) (ps : List Tmp) (a b : Code) : awp P n0 (.rangeFunc g ps.toArray a b) Q e h n = zgZ P n0 ps a b Q (ev e g) e h n := rfl
@[congr] theorem zzj {ps : List Tmp} {a b : Code} {v v' : AV} (hv : v = v') : zgZ P n0 ps a b Q v e h n = zgZ P n0 ps a b Q v' e h n := by subst hv; rfl
theorem zgZ.mk {ps : List Tmp} {a b : Code} {f : FuncId} {caps : List AV} (caps' : List AV) (h' : zan) {more : Nat} {rows : List (List AV)} (C : zxG P f caps' more rows) (hfz : Frz h h') (hle : zam h h' n caps caps') (hb : ∀ c ∈ caps', Bel 0 c)
  (hlen : ∀ xs ∈ rows, xs.length = ps.length) (hk : Fgt n0 (zb6 n0 more ps (fun n1 => awp P n1 a) (fun n1 => awp P n1 b) Q rows) e h' n) : zgZ P n0 ps a b Q (.fn (.func f) [] caps) e h n :=
 .inl ⟨f, caps, caps', more, rows, h', rfl, hfz, hle, hb, C, hlen, hk⟩
theorem zgZ.give {ps : List Tmp} {a b : Code} {f : FuncId} {caps : List AV} (caps' : List AV) (h' : zan) (o : Nat) {gn sz : Nat} {rs : List (List AV)} (rs' : List (List AV)) {more : Nat} {rows : List (List AV)}
  (C : zuL P f caps' [(0, .rows true gn sz rs')] 1 more rows) (hfz : Frz h h') (ho : h' o = some (.rows true gn sz rs)) (hr : zak h h' n rs rs') (hbr : ∀ r ∈ rs', ∀ c ∈ r, Bel 0 c) (hg : zgx h h' n o caps caps')
  (hlen : ∀ xs ∈ rows, xs.length = ps.length) (hk : Fgt n0 (zb6 n0 more ps (fun n1 => awp P n1 a) (fun n1 => awp P n1 b) Q rows) e (upd h' o none) n) : zgZ P n0 ps a b Q (.fn (.func f) [] caps) e h n :=
 .inr ⟨f, caps, caps', o, gn, sz, rs, rs', more, rows, h', rfl, hfz, ho, hr, hbr, hg, C, hlen, hk⟩
theorem zBO {ps : List Tmp} {a b : Code} {more : Nat} {xs : List AV} {rs : List (List AV)} (hn : n0 ≤ n)
  (hk : awp P n a (zuM (awp P n b (zjq (Fgt n0 (zb6 n0 more ps (fun n1 => awp P n1 a) (fun n1 => awp P n1 b) Q rs)) Q e))) (zfK ps xs e) h n) :
  zb6 n0 more ps (fun n1 => awp P n1 a) (fun n1 => awp P n1 b) Q (xs :: rs) e h n := ⟨hn, hk⟩
theorem Fgt.to {K : Env → zan → Nat → Prop} {E : List (Nat × AV)} {HH : List (Nat × zbi)} {n' : Nat} (hk : K (mkE E) (mkH HH) n') (hw : Wk e h n E HH n') (hn : n0 ≤ n') : Fgt n0 K e h n := .inr ⟨E, HH, n', hw, hn, hk⟩
theorem zBG {α : Type} (S : α → List (Nat × AV) × List (Nat × zbi) × Nat) (inv : List (List AV) → α → Prop) {ps : List Tmp} {A B : Nat → zbK → Env → zan → Nat → Prop} {more : Nat}
  (h0 : ∀ d, inv [] d → more = 0 ∧ Q .normal (mkE (S d).1) (mkH (S d).2.1) (S d).2.2)
  (h1 : ∀ xs rs d, inv (xs :: rs) d → (∀ d', inv rs d' → zb6 n0 more ps A B Q rs (mkE (S d').1) (mkH (S d').2.1) (S d').2.2) → zb6 n0 more ps A B Q (xs :: rs) (mkE (S d).1) (mkH (S d).2.1) (S d).2.2) :
  ∀ rows d, inv rows d → zb6 n0 more ps A B Q rows (mkE (S d).1) (mkH (S d).2.1) (S d).2.2
 | [], d, hi => h0 d hi
 | xs :: rs, d, hi => h1 xs rs d hi fun d' hi' => zBG S inv h0 h1 rs d' hi'
theorem znS {K : Env → zan → Nat → Prop} : zuM K .normal e h n = K e h n := rfl
theorem zmC {K : Env → zan → Nat → Prop} {e0 : Env} : zjq K Q e0 .normal e h n = K (upd e0 GH (e GH)) h n := rfl
theorem zsz {K : Env → zan → Nat → Prop} {e0 : Env} : zjq K Q e0 .ret e h n = Q .ret (upd e0 GH (e GH)) h n := rfl
theorem zpQ {K : Env → zan → Nat → Prop} {e0 : Env} {id : Nat} : zjq K Q e0 (.exit id) e h n = Q (.exit id) (upd e0 GH (e GH)) h n := rfl
theorem zw3 {xs : List AV} : zfK [] xs e = e := by simp [zfK]
theorem zub {t : Tmp} {ps : List Tmp} {x : AV} {xs : List AV} : zfK (t :: ps) (x :: xs) e = zfK ps xs (upd e t x) := rfl
theorem zp0 {rs : List ResultVar} {l more : Nat} : RetI P rs l more .normal e h n = ((znN P e h rs).1 ∧ ((more = 0 ∧ e GH = zbn l 0 []) ∨ e GH = zbn l 2 [])) := rfl
theorem zxI {rs : List ResultVar} {l more : Nat} : RetI P rs l more .ret e h n = ((znN P e h rs).1 ∧ ((more = 0 ∧ e GH = zbn l 0 []) ∨ e GH = zbn l 2 [])) := rfl
theorem zz5.mk {dst : Option Tmp} {l more : Nat} {args xs : List AV} {rs : List (List AV)} (h' : zan) (hg : e GH = zbn l more (xs :: rs)) (hfz : Frz h h') (hle : zam h h' n args xs) (hb : ∀ c ∈ xs, Bel 0 c)
  (hT : za7 P ops Q rest (put (upd e GH (zbn l more rs)) dst (.v (.bool true))) h' n) (hF : za7 P ops Q rest (put (upd e GH (zbn l 2 [])) dst (.v (.bool false))) h' n) : zz5 P ops Q rest dst l args e h n :=
 ⟨l, more, xs :: rs, rfl, hg, h', hfz, hle, hb, hT, hF⟩
theorem zz5.exh {dst : Option Tmp} {l : Nat} {args : List AV} (hg : e GH = zbn l 1 []) : zz5 P ops Q rest dst l args e h n := ⟨l, 1, [], rfl, hg, rfl⟩
theorem aGC.yld {dst : Option Tmp} {l more : Nat} {args xs : List AV} {rs : List (List AV)} (h' : zan) (hg : e GH = zbn l more (xs :: rs)) (hfz : Frz h h') (hle : zam h h' n args xs) (hb : ∀ c ∈ xs, Bel 0 c)
  (hT : za7 P ops Q rest (put (upd e GH (zbn l more rs)) dst (.gd true (.v (.bool true)))) h' n) (hF : za7 P ops Q rest (put (upd e GH (zbn l 2 [])) dst (.gd true (.v (.bool false)))) h' n) :
  aGC P ops Q rest dst true (.fn (.yield l) [] []) args e h n := .inr (.inr ⟨rfl, l, more, xs :: rs, rfl, hg, h', hfz, hle, hb, hT, hF⟩)
theorem aGC.exh {dst : Option Tmp} {l : Nat} {args : List AV} (hg : e GH = zbn l 1 []) : aGC P ops Q rest dst true (.fn (.yield l) [] []) args e h n := .inr (.inr ⟨rfl, l, 1, [], rfl, hg, rfl⟩)
theorem zuI {h h' : zan} {o : Nat} : zgx h h' n o [] [] = True := eq_true .nil
theorem zuJ {h h' : zan} {o g sz i off : Nat} {xs ys : List AV} : zgx h h' n o (.ref o g sz i off :: xs) (.ref 0 g sz i off :: ys) = zgx h h' n o xs ys := by
 refine propext ⟨fun hg => ?_, .ref⟩
 cases hg with
 | ref t => exact t
 | le hx hb t => cases hb with | ref hb => exact absurd hb (Nat.not_lt_zero _)
theorem zxB {h h' : zan} {o : Nat} {x : AV} {cells xs ys : List AV} : zgx h h' n o (x :: xs) (.fp cells :: ys) = (LeV h h' n x (.fp cells) ∧ (∀ c ∈ cells, Bel 0 c) ∧ zgx h h' n o xs ys) := by
 refine propext ⟨fun hg => ?_, fun ⟨h1, h2, h3⟩ => .le h1 (.fp h2) h3⟩
 cases hg with
 | le hx hb t => cases hb with | fp hb => exact ⟨hx, hb, t⟩
attribute [go_sem] zuI zuJ zxB
attribute [go_sem] zmV znS zmC zsz zpQ zw3 zub zp0 zxI zp3
end
end Go.Av
end
section
namespace Go.Av
open Go
theorem zaa.clear {P : Program} {f : FuncId} {args : List AV} {h : zan} {n : Nat} {K : zco}
  (hc : zaa P f args h n (fun r h' n' => ∃ o mt g sz rs, sz ≠ 2 ∧ h' o = some (.rows mt g sz rs) ∧ K r (upd h' o (some (.rows mt g sz []))) n')) : zaa P f args h n K := by
 refine ⟨hc.1, fun M0 φ w vs hH hargs => (hc.2 M0 φ w vs hH hargs).mono ?_⟩
 rintro e w' ⟨v, φ', r, h', n', rfl, ⟨o, mt, g, sz, rs, hsz, ho, hK⟩, hH', hx, st⟩
 have hmut : Mut φ' (upd h' o (some (.rows mt g sz []))) = Mut φ' h' := by
  funext k
  refine propext ⟨?_, ?_⟩
  ·rintro ⟨o1, g1, sz1, rs1, g', a, bs, h1, h2, h3⟩
   by_cases he : o1 = o
   ·subst he
    rw [zau] at h1
    simp only [Option.some.injEq, zbi.rows.injEq] at h1
    obtain ⟨rfl, rfl, rfl, _⟩ := h1
    exact ⟨o1, g, sz, rs, g', a, bs, ho, h2, h3⟩
   ·rw [zbc _ _ he] at h1
    exact ⟨o1, g1, sz1, rs1, g', a, bs, h1, h2, h3⟩
  ·rintro ⟨o1, g1, sz1, rs1, g', a, bs, h1, h2, h3⟩
   by_cases he : o1 = o
   ·subst he
    rw [ho] at h1
    simp only [Option.some.injEq, zbi.rows.injEq] at h1
    obtain ⟨rfl, rfl, rfl, _⟩ := h1
    exact ⟨o1, g, sz, [], g', a, bs, by rw [zau], h2, h3⟩
   ·exact ⟨o1, g1, sz1, rs1, g', a, bs, by rw [zbc _ _ he]; exact h1, h2, h3⟩
 have hold : ∀ o1 mt1 g1 sz1 rs1, upd h' o (some (.rows mt g sz [])) o1 = some (.rows mt1 g1 sz1 rs1) → ∃ rs2, h' o1 = some (.rows mt1 g1 sz1 rs2) ∧ (rs1 = rs2 ∨ rs1 = []) := by
  intro o1 mt1 g1 sz1 rs1 h1
  by_cases he : o1 = o
  ·subst he
   rw [zau] at h1
   simp only [Option.some.injEq, zbi.rows.injEq] at h1
   obtain ⟨rfl, rfl, rfl, rfl⟩ := h1
   exact ⟨rs, ho, .inr rfl⟩
  ·rw [zbc _ _ he] at h1
   exact ⟨rs1, h1, .inl rfl⟩
 refine ⟨v, φ', r, _, n', rfl, hK, ⟨hH'.m0, hH'.fresh, fun o1 mt1 g1 sz1 rs1 h1 => ?_, fun o1 o2 mt1 g1 sz1 rs1 mt2 g2 sz2 rs2 a a' b b' h1 h2 => ?_, by rw [hmut]; exact hH'.glob⟩, by rw [hmut]; exact hx, st.le, by rw [hmut]; exact st.or, st.fr, by rw [hmut]; exact st.mutd⟩
 ·obtain ⟨rs2, h2, h3⟩ := hold _ _ _ _ _ h1
  obtain ⟨A, hA, hobj⟩ := hH'.obj _ _ _ _ _ h2
  rcases h3 with rfl | rfl
  ·rw [hmut]; exact ⟨A, hA, hobj⟩
  ·by_cases he : o1 = o
   ·subst he
    rw [ho] at h2
    simp only [Option.some.injEq, zbi.rows.injEq] at h2
    obtain ⟨rfl, rfl, rfl, rfl⟩ := h2
    refine ⟨A, hA, hobj.imp (fun h => ⟨h.1, rfl⟩) ?_⟩
    rintro ⟨a, bs, e1, e3, ⟨C, T, e2, e4, e5, e6, e7, e8, e9⟩ | ⟨es, clk, e2, e4, e5, e6, e9⟩⟩
    ·exact ⟨a, bs, e1, e3, .inl ⟨C, T, e2, e4, e5, by simp, by simp; omega, by simp, by simpa using zaH.nil⟩⟩
    ·exact absurd e6.1 hsz
   ·rw [zbc _ _ he] at h1
    rw [h1] at h2
    simp only [Option.some.injEq, zbi.rows.injEq] at h2
    obtain ⟨_, _, _, rfl⟩ := h2
    rw [hmut]; exact ⟨A, hA, hobj⟩
 ·obtain ⟨rs3, h3, _⟩ := hold _ _ _ _ _ h1
  obtain ⟨rs4, h4, _⟩ := hold _ _ _ _ _ h2
  exact hH'.inj _ _ _ _ _ _ _ _ _ _ _ _ _ _ h3 h4
end Go.Av
end
section
open Go Go.Proofs
namespace Go.Av
def zb3 (b : zaD) (side d : Int) : Nat → Int → List Int
 | 0, _ => []
 | k + 1, x => if 0 ≤ x then x :: zb3 b side d k (toB b side d x) else []
def zbg (b : zaD) (side d : Int) : Nat → Int → Nat
 | 0, x => if 0 ≤ x then 1 else 0
 | k + 1, x => if 0 ≤ x then zbg b side d k (toB b side d x) else 0
theorem zkQ {b : zaD} {side d : Int} : ∀ {k : Nat} {x : Int}, zbg b side d k x ≠ 2
 | 0, x => by unfold zbg; split <;> omega
 | k + 1, x => by unfold zbg; split; exact zkQ; omega
theorem zur (b : zaD) (hb : zaR b) (side d c : Int) (k : Nat) : zxG Tryz.prog 306 [.fp (zcv b), .fp [.v (.int .i64 side)], .fp [.v (.int .i64 d)], .fp [.v (.int .i64 c)]]
  (zbg b side d k (toB b side d c)) ((zb3 b side d k (toB b side d c)).map zbd) := by
 refine zBH (by kernel_rfl) Tryz.func306 rfl rfl (Nat.le_of_ble_eq_true rfl) (by kernel_rfl) (fun l => ?_) (hm2 := zkQ)
 have hbl : ∀ n, (∀ c' ∈ zcv b, Bel n c') = True := fun n => by simp [go_sem]
 have hel : (zcv b).length = 3 := rfl
 have hT : ∀ x, zaJ Tryz.prog 243 [.agg (zcv b), .v (.int .i64 side), .v (.int .i64 d), .v (.int .i64 x)] (.v (.int .i64 (toB b side d x))) := fun x => zi3 b hb side d x
 have hg : ∀ (n k : Nat) (x : Int), Bel n (zbn l (zbg b side d k x) ((zb3 b side d k x).map zbd)) := fun n k x => by
  simp only [zbn, zuE, zpI, List.forall_mem_cons, zzL, zb7]
  simp [go_sem]
 obtain ⟨eb, heb⟩ : ∃ eb, eb = zcv b := ⟨_, rfl⟩
 rw [← heb] at hbl hel hT ⊢
 have hte : eb.take 3 = eb := List.take_of_length_le (by omega)
 repeat first|refine wV fun _=>?_|simp [go_sem, hel, GH, hte]
 refine zBi (hT c) (by simp [go_sem, hbl]) ?_
 repeat first|refine wV fun _=>?_|simp [go_sem, hel, GH, hte]
 refine zBh (zBk (α := Nat × Int) (fun a => ⟨[(0, .fn (.yield l) [] []), (1, .fp eb), (2, .fp [.v (.int .i64 side)]), (3, .fp [.v (.int .i64 d)]), (6, .v (.int .i64 a.2)), (1000000007, zbn l (zbg b side d a.1 a.2) ((zb3 b side d a.1 a.2).map zbd))], [], 0⟩)
  (fun f a => f = a.1 ∧ zbg b side d a.1 a.2 = zbg b side d k (toB b side d c)) ?_ k (k, toB b side d c) ?_) ?_ ?_
 ·rintro f ⟨k', x⟩ ⟨i1, i2⟩ hrec
  simp only at i1 i2
  subst i1
  repeat first|refine wV fun _=>?_|simp [go_sem, hel, GH, hte]
  by_cases hx : 0 ≤ x
  ·simp only [hx, decide_true]
   cases f with
   | zero => exact aGC.exh (by simp [upd, GH, zbg, zb3, hx])
   | succ f =>
    refine aGC.yld (more := zbg b side d f (toB b side d x)) (xs := [.v (.int .i64 x)]) (rs := (zb3 b side d f (toB b side d x)).map zbd) noH (by simp [upd, GH, zbg, zb3, hx, zbd]) (.refl _) (.refl _ _ _ _) (by simp [go_sem]) ?_ ?_
    ·repeat first|refine wV fun _=>?_|simp [go_sem, hel, GH, hte]
     refine zBi (hT x) (by simp [go_sem, hbl]) ?_
     repeat first|refine wV fun _=>?_|simp [go_sem, hel, GH, hte]
     rw [zbg, if_pos hx] at i2
     refine zBh (hrec f (by omega) (f, toB b side d x) ⟨rfl, i2⟩) ?_ (by simp)
     simp [go_sem, zaf, hbl, hg, GH]
    ·repeat first|refine wV fun _=>?_|simp [go_sem, hel, GH, hte]
  ·have hm : zbg b side d f x = 0 := by cases f <;> simp [zbg, hx]
   have hr : zb3 b side d f x = [] := by cases f <;> simp [zb3, hx]
   simp only [hx, decide_false]
   refine aGC.skip (.v (.bool false)) ?_
   repeat first|refine wV fun _=>?_|simp [go_sem, hel, GH, hte]
   rw [← i2, hm, hr]
   exact .inl ⟨rfl, rfl⟩
 ·exact ⟨rfl, rfl⟩
 ·simp [go_sem, zaf, hbl, hg, GH]
 ·simp
def zpz (n : Nat) : AV := .fn (.func 306) [] [.ref n 0 3 0 0, .ref (n + 1) 0 1 0 0, .ref (n + 2) 0 1 0 0, .ref (n + 3) 0 1 0 0]
def zpy (b : zaD) (side d c : Int) (n : Nat) : List (Nat × zbi) := [(n, .rows true 0 3 [zcv b]), (n + 1, .rows true 0 1 [[.v (.int .i64 side)]]), (n + 2, .rows true 0 1 [[.v (.int .i64 d)]]), (n + 3, .rows true 0 1 [[.v (.int .i64 c)]])]
theorem zus (b : zaD) (side d c : Int) : zlt Tryz.prog 290 [.agg (zcv b), .v (.int .i64 side), .v (.int .i64 d), .v (.int .i64 c)] zpz (zpy b side d c) 4 := by
 refine ⟨?_, fun n => ⟨by simp [go_sem, zpz], by simp [go_sem, zpy]⟩⟩
 refine zBm (by kernel_rfl) Tryz.func290 rfl rfl (Nat.le_of_ble_eq_true rfl) (by kernel_rfl) ?_
 repeat first|refine wV fun _=>?_|simp [go_sem, zpz, zpy]
 simp [go_sem, zaf]
theorem zlA (b : zaD) (hb : zaR b) (side d c : Int) : zaJ Tryz.prog 244 [.agg (zcv b), .v (.int .i64 side), .v (.int .i64 d), .v (.int .i64 c)] (zaj (zgf b side d c)) := by
 refine pF Tryz.func244 ?_
 have hbl : ∀ n, (∀ c' ∈ zcv b, Bel n c') = True := fun n => by simp [go_sem]
 have hel : (zcv b).length = 3 := rfl
 have hS : zlt Tryz.prog 290 [.agg (zcv b), .v (.int .i64 side), .v (.int .i64 d), .v (.int .i64 c)] (fun n => zpz n) (fun n => zpy b side d c n) 4 := zus b side d c
 have hQ := fun k => zur b hb side d c k
 simp only [zpz, zpy] at hS
 have hte : (zcv b).take 3 = zcv b := rfl
 obtain ⟨eb, heb⟩ : ∃ eb, eb = zcv b := ⟨_, rfl⟩
 rw [← heb] at hbl hel hS hQ hte ⊢
 have hc1 := hb.c1
 have hc0 := hb.c0
 repeat first|refine wV fun _=>?_|simp [go_sem, hel, hte, GH]
 refine zBq hS (by simp [go_sem, hbl]) ?_
 repeat first|refine wV fun _=>?_|simp [go_sem, hel, hte, GH]
 refine zgZ.mk [.fp eb, .fp [.v (.int .i64 side)], .fp [.v (.int .i64 d)], .fp [.v (.int .i64 c)]] (zbB _ [3, 4, 5, 6]) (hQ (b.cells.toNat + 1)) (zc5 _ _) ?_ (by simp [go_sem, hbl]) (by simp [zbd]) ?_
 ·refine zam.cons (.frzP rfl ?_ ?_ ?_ ?_) (zam.cons (.frzP rfl ?_ ?_ ?_ ?_) (zam.cons (.frzP rfl ?_ ?_ ?_ ?_) (zam.cons (.frzP rfl ?_ ?_ ?_ ?_) .nil))) <;> first | exact zam.refl _ _ _ _ | simp [zbB, zb5, upd]
 refine Fgt.to (zBG (α := Nat × Int × List Int) (fun a => ([(7, .ref 1 0 1 0 0), (9, .ref 2 0 1 0 0)], [(1, .rows true 0 1 [[.v (.int .i64 c)]]), (2, .rows true 0 1 [[.sl 7 a.2.2.length 1 0 a.2.2.length]]), (7, .rows true a.2.2.length 1 (a.2.2.map zbd))], 8))
  (fun rows a => rows = (zb3 b side d a.1 a.2.1).map zbd ∧ zbg b side d a.1 a.2.1 = zbg b side d (b.cells.toNat + 1) (toB b side d c) ∧ a.1 + a.2.2.length = b.cells.toNat + 1 ∧ a.2.1 < b.cells ∧ a.2.2.Nodup ∧
   (∀ y ∈ a.2.2, 0 ≤ y ∧ y < b.cells) ∧ zgf b side d c = zdH b side d c a.1 a.2.1 a.2.2) ?_ ?_ _ (b.cells.toNat + 1, toB b side d c, []) ?_) ?_ ?_
 ·rintro ⟨f, x, seen⟩ ⟨i0, i1, i2, i3, i4, i5, i6⟩
  simp only at i0 i1 i2 i3 i4 i5 i6
  have hsl : seen.length ≤ b.cells.toNat := zf2 _ _ i4 (fun y hy => by have := i5 y hy; omega)
  obtain ⟨f, rfl⟩ : ∃ f', f = f' + 1 := ⟨f - 1, by omega⟩
  have hx : ¬ 0 ≤ x := fun hx => by simp [zb3, hx] at i0
  rw [zbg, if_neg hx] at i1
  rw [zdH, if_neg (fun h => hx h.1)] at i6
  refine ⟨i1.symm, ?_⟩
  rw [i6]
  repeat first|refine wV fun _=>?_|simp [go_sem, hel]
  exact frX
 ·rintro xs rs ⟨f, x, seen⟩ ⟨i0, i1, i2, i3, i4, i5, i6⟩ hrec
  simp only at i0 i1 i2 i3 i4 i5 i6
  have hsl : seen.length ≤ b.cells.toNat := zf2 _ _ i4 (fun y hy => by have := i5 y hy; omega)
  cases f with
  | zero => simp [zb3] at i0
  | succ f =>
  have hx : 0 ≤ x := by
   by_cases hx : 0 ≤ x
   ·exact hx
   ·simp [zb3, hx] at i0
  rw [zb3, if_pos hx] at i0
  simp only [List.map_cons, List.cons.injEq] at i0
  obtain ⟨rfl, rfl⟩ := i0
  rw [zbg, if_pos hx] at i1
  rw [zdH] at i6
  refine zBO (Nat.zero_le _) ?_
  repeat first|refine wV fun _=>?_|simp [go_sem, hel, GH, zbd]
  refine zBF [zaj seen, .v (.int .i64 x)] (.v (.bool (decide (x ∈ seen)))) (fun _ => zmA seen x (by omega)) (.v _) ?_ (by simp [go_sem]) ?_
  ·refine zam.cons ?_ (zam.cons (.refl _) zam.nil)
   refine LeV.frz rfl ?_ ?_ (zBs ?_) <;> simp [noH, List.take_of_length_le]
  repeat first|refine wV fun _=>?_|simp [go_sem, hel, GH]
  refine zBj (fun hc => ?_) (fun hc => ?_) <;> simp at hc
  ·rw [if_neg (by rintro ⟨h1, h2, h3⟩; rcases hc with h | h <;> contradiction)] at i6
   rw [i6]
   repeat first|refine wV fun _=>?_|simp [go_sem, hel, GH]
   exact frX
  ·rw [if_pos ⟨hx, by simpa using hc⟩] at i6
   repeat first|refine wV fun _=>?_|simp [go_sem, hel, GH]
   refine Fgt.to (hrec (f, toB b side d x, seen ++ [x]) ⟨rfl, i1, by simp only [List.length_append, List.length_singleton]; omega, zgv hb _ _ _, ?_, ?_, i6⟩) ?_ (by simp)
   ·refine List.nodup_append.2 ⟨i4, by simp, ?_⟩
    intro y hy z hz
    simp at hz
    subst hz
    rintro rfl
    exact hc.2 hy
   ·intro y hy
    rcases List.mem_append.1 hy with h | h
    ·exact i5 y h
    ·simp at h; omega
   ·simp [go_sem, zaf, GH] <;> (first|done|exact blX)
 ·exact ⟨rfl, rfl, by simp, zgv hb _ _ _, by simp, by simp, rfl⟩
 ·simp [go_sem, zaf]
 ·simp
theorem nofz_A {l : List zed} : (∀ r ∈ l.map zbt, ∀ c ∈ r, zfn c) = True := by
 refine eq_true ?_
 intro r hr c hc
 obtain ⟨x, _, rfl⟩ := List.mem_map.1 hr
 revert c
 simp [go_sem]
attribute [go_sem ↓] nofz_A
theorem zuH (m : Int) (h0 : 0 ≤ m) (h1 : m ≤ 17179869184) : zlt Tryz.prog 289 [zBo, .v (.int .i64 m)] (fun n => .sl n 0 3 0 0) (fun n => [(n, .rows true 0 3 [])]) 1 := by
 refine ⟨?_, fun n => ⟨by simp [go_sem], by simp [go_sem]⟩⟩
 by_cases hm : m = 0
 ·subst hm
  refine zBm (by kernel_rfl) Tryz.func289 rfl rfl (Nat.le_of_ble_eq_true rfl) (by kernel_rfl) ?_
  repeat first|refine wV fun _=>?_|simp [go_sem]
  simp [go_sem, zaf]
 ·refine zaa.clear ?_
  refine zBm (by kernel_rfl) Tryz.func289 rfl rfl (Nat.le_of_ble_eq_true rfl) (by kernel_rfl) ?_
  repeat first|refine wV fun _=>?_|simp [go_sem]
  (refine zBj (fun hF => by first | omega | (simp at hF; omega)) (fun hF => ?_); clear hF)
  repeat first|refine wV fun _=>?_|simp [go_sem]
  (refine zBj (fun hT => ?_) (fun hT => by first | omega | (simp at hT; omega)); clear hT)
  repeat first|refine wV fun _=>?_|simp [go_sem]
  refine ⟨0, 0, 3, by decide, ⟨rfl, rfl, rfl⟩, ?_⟩
  simp [go_sem, zaf]
theorem zpK (a b : List zed) (ha : a.length ≤ 1048576) (hb : b.length ≤ 1048576) : zlt Tryz.prog 242 [.lst 1 [[zcG a], [zcG b]]]
  (fun n => .sl n 2 3 0 (a.length + b.length)) (fun n => [(n, .rows true 2 3 ((a ++ b).map zbt))]) 1 := by
 refine ⟨?_, fun n => ⟨by simp [go_sem], by simp [go_sem]⟩⟩
 refine zBm (by kernel_rfl) Tryz.func242 rfl rfl (Nat.le_of_ble_eq_true rfl) (by kernel_rfl) ?_
 repeat first|refine wV fun _=>?_|simp [go_sem]
 refine zBn ?_
 repeat first|refine wV fun _=>?_|simp [go_sem]
 (refine zBj (fun hF => by first | omega | (simp at hF; omega)) (fun hF => ?_); clear hF)
 repeat first|refine wV fun _=>?_|simp [go_sem]
 refine zBn ?_
 repeat first|refine wV fun _=>?_|simp [go_sem]
 (refine zBj (fun hF => by first | omega | (simp at hF; omega)) (fun hF => ?_); clear hF)
 repeat first|refine wV fun _=>?_|simp [go_sem]
 refine zBn ?_
 repeat first|refine wV fun _=>?_|simp [go_sem]
 refine zBq (zuH _ (by omega) (by omega)) (by simp [go_sem]) ?_
 repeat first|refine wV fun _=>?_|simp [go_sem]
 refine zBn ?_
 repeat first|refine wV fun _=>?_|simp [go_sem]
 refine zBn ?_
 repeat first|refine wV fun _=>?_|simp [go_sem]
 refine zBn ?_
 repeat first|refine wV fun _=>?_|simp [go_sem]
 simp [go_sem, zaf]
theorem zvY (p : zaK) (to : Int) (more : List zed) (ha : p.acts.length ≤ 1048576) (hb : more.length ≤ 1048576) : zlt Tryz.prog 241 [.v (.int .i64 to), zcG more, .fp (zaw p)]
  (fun n => .agg [.sl (n + 2) 2 3 0 (p.acts.length + more.length), .v (.int .i64 to)]) (fun n => [(n + 2, .rows true 2 3 ((p.acts ++ more).map zbt))]) 3 := by
 refine ⟨?_, fun n => ⟨by simp [go_sem], by simp [go_sem]⟩⟩
 refine zBm (by kernel_rfl) Tryz.func241 rfl rfl (Nat.le_of_ble_eq_true rfl) (by kernel_rfl) ?_
 repeat first|refine wV fun _=>?_|simp [go_sem]
 refine zBx (zpK p.acts more ha hb) (by simp [go_sem]) (by simp [go_sem]) ?_ (by simp [go_sem]) ?_
 ·simp only [zcG]
  refine zam.cons ?_ zam.nil
  refine zaL rfl (by simp) (by simp [noH, upd]) ?_
  simp [go_sem]
 ·repeat first|refine wV fun _=>?_|simp [go_sem]
  simp [go_sem, zaf]
theorem zhD (p : zaK) : ∀ (l : List Int) (passed : List zed) (c : Int), zbU p (l ++ [c]) passed = zbU p l passed ++ [onP p c (passed ++ l.map fun c => (3, c, 0))]
 | [], passed, c => by simp [zbU, onP]
 | d :: l, passed, c => by simp [zbU, zhD p l]
def zie (l : List Int) : List zed := l.map fun c => (3, c, 0)
theorem zpi (l : List Int) (c : Int) : zie (l ++ [c]) = zie l ++ [(3, c, 0)] := by simp [zie]
theorem zwW (l : List Int) : (zie l).length = l.length := by simp [zie]
theorem zrq (p : zaK) (l : List Int) {i : Nat} (h : i < l.length) : zbU p (l.take (i + 1)) [] = zbU p (l.take i) [] ++ [onP p (nth l i) (zie (l.take i))] ∧ zie (l.take (i + 1)) = zie (l.take i) ++ [(3, nth l i, 0)] := by
 rw [List.take_add_one, List.getElem?_eq_getElem h, zaA _ _ h, Option.toList_some, zhD, zpi]
 exact ⟨by simp [zie], rfl⟩
theorem zqE (b : zaD) (hb : zaR b) (h9 : b.cells ≤ 9) (side : Int) (p : zaK) (hp : p.acts.length ≤ 1000000) (x : Int × Int) :
  zaJ Tryz.prog 194 [.agg (zcv b), .v (.int .i64 side), .agg (zaw p), .agg [.v (.int .i64 x.1), .v (.int .i64 x.2)]] (zbm (zkW b side p x)) := by
 refine pF Tryz.func194 ?_
 obtain ⟨op, N⟩ := x
 have hT := zi3 b hb side N p.to
 have hL := zlA b hb side N p.to
 have hll := zje hb (side := side) (d := N) (c := p.to)
 have hO := fun to more (h : more.length ≤ 1048576) => zvY p to more (by omega) h
 have hE : zkW b side p (op, N) = if op = 1 ∨ op = 7 then
  if toB b side N p.to < 0 then [] else if op = 1 then [onP p (toB b side N p.to) []] else [onP p p.to [(7, p.to, toB b side N p.to)]]
  else if op = 2 then zbU p (zgf b side N p.to) []
  else if op = 8 ∨ op = 9 ∨ op = 10 then [onP p p.to [(op, N, 0)]]
  else [onP p p.to [(op, p.to, 0)]] := rfl
 generalize toB b side N p.to = to at *
 generalize zgf b side N p.to = line at *
 generalize zkW b side p (op, N) = R at *
 have hbl : ∀ n, (∀ c' ∈ zcv b, Bel n c') = True := fun n => by simp [go_sem]
 have hel : (zcv b).length = 3 := rfl
 have hte : (zcv b).take 3 = zcv b := rfl
 obtain ⟨eb, heb⟩ : ∃ eb, eb = zcv b := ⟨_, rfl⟩
 rw [← heb] at hbl hel hT hL hte ⊢
 repeat first|refine wV fun _=>?_|simp [go_sem, hel, hte]
 refine zBj (fun h1 => ?_) (fun h1 => ?_) <;> simp at h1
 ·subst h1
  repeat first|refine wV fun _=>?_|simp [go_sem, hel, hte]
  refine zBi hT (by simp [go_sem, hbl]) ?_
  repeat first|refine wV fun _=>?_|simp [go_sem, hel, hte]
  refine zBj (fun ht => ?_) (fun ht => ?_) <;> simp at ht
  ·rw [if_pos (by omega), if_pos ht] at hE
   rw [hE]
   repeat first|refine wV fun _=>?_|simp [go_sem, hel, hte]
  ·rw [if_pos (by omega), if_neg (by omega), if_pos rfl] at hE
   rw [hE]
   repeat first|refine wV fun _=>?_|simp [go_sem, hel, hte]
   refine zBx (hO to [] (by simp)) (by simp [go_sem]) (by simp [go_sem]) ?_ (by simp [go_sem]) ?_
   ·(first|done|exact leX)
   ·repeat first|refine wV fun _=>?_|simp [go_sem, hel, hte, onP]
    (first|done|exact leX)
 ·repeat first|refine wV fun _=>?_|simp [go_sem, hel, hte]
  refine zBj (fun h7 => ?_) (fun h7 => ?_) <;> simp at h7
  ·subst h7
   repeat first|refine wV fun _=>?_|simp [go_sem, hel, hte]
   refine zBi hT (by simp [go_sem, hbl]) ?_
   repeat first|refine wV fun _=>?_|simp [go_sem, hel, hte]
   refine zBj (fun ht => ?_) (fun ht => ?_) <;> simp at ht
   ·rw [if_pos (by omega), if_pos ht] at hE
    rw [hE]
    repeat first|refine wV fun _=>?_|simp [go_sem, hel, hte]
   ·rw [if_pos (by omega), if_neg (by omega), if_neg (by omega)] at hE
    rw [hE]
    repeat first|refine wV fun _=>?_|simp [go_sem, hel, hte]
    refine zBx (hO p.to [(7, p.to, to)] (by simp)) (by simp [go_sem]) (by simp [go_sem]) ?_ (by simp [go_sem]) ?_
    ·(first|done|exact leX)
    ·repeat first|refine wV fun _=>?_|simp [go_sem, hel, hte, onP]
     (first|done|exact leX)
  ·rw [if_neg (by omega)] at hE
   repeat first|refine wV fun _=>?_|simp [go_sem, hel, hte]
   refine zBj (fun h2 => ?_) (fun h2 => ?_) <;> simp at h2
   ·subst h2
    rw [if_pos rfl] at hE
    repeat first|refine wV fun _=>?_|simp [go_sem, hel, hte]
    refine zBi hL (by simp [go_sem, hbl]) ?_
    repeat first|refine wV fun _=>?_|simp [go_sem, hel, hte]
    refine zBh (zBk (α := Nat) (fun i => ⟨[(9, .fn (.func 241) [] [.ref 1 0 2 0 0]), (11, .sl 3 i 2 0 i), (12, .sl 4 i 3 0 i), (55, zaj line), (56, .v (.int .i64 line.length)), (57, .v (.int .i64 i))],
      [(1, .rows true 0 2 [zaw p]), (3, .rows true i 2 ((zbU p (line.take i) []).map zaw)), (4, .rows true i 3 ((zie (line.take i)).map zbt))], 5⟩)
     (fun d i => i + d = line.length) ?_ line.length 0 ?_) ?_ ?_
    ·rintro d i i1 hrec
     have hsl : (zbU p (line.take i) []).length = i := by rw [zil]; simp; omega
     have hpl : (zie (line.take i)).length = i := by rw [zwW]; simp; omega
     repeat first|refine wV fun _=>?_|simp [go_sem, hel, hte]
     refine zBj (fun hi => ?_) (fun hi => ?_) <;> simp at hi
     ·obtain ⟨s1, s2⟩ := zrq p line hi
      repeat first|refine wV fun _=>?_|simp [go_sem, hi]
      refine zBx (hO (nth line i) (zie (line.take i)) (by omega)) (by simp [go_sem]) (by simp [go_sem]) ?_ (by simp [go_sem]) ?_
      ·((try simp only [zaq, zaE, zbt, zcG, zaw, zbm, zaM, zar, zag, zdC, zbz, zaV, zaj, zad, List.map_cons, List.map_nil, List.nil_append, List.append_nil, List.cons_append]); (repeat (first | (with_reducible first|exact zam.nil|exact zak.nil|exact LeV.refl _|exact zam.refl _ _ _ _|exact zak.refl _|refine zam.cons ?_ ?_|refine zak.cons ?_ ?_|refine LeV.agg ?_|refine LeV.tup ?_|refine LeV.fn ?_ ?_|exact LeV.nil _|refine zao (zak.refl _) ?_) | ((refine zaL rfl (by simp [hpl]) (by simp [zbB, zb5, upd, noH]) ?_); (first | (simp [go_sem, hpl]; done) | (simp [go_sem, hpl]; exact List.take_of_length_le (by simp [hpl])))) | ((refine LeV.frz rfl (by simp [hpl]) (by simp [zbB, zb5, upd, noH]) ?_); (simp only [List.drop_zero, List.take_succ_cons, List.take_zero, List.map_cons, List.map_nil])) | ((refine LeV.frzP rfl (by simp [hpl]) (by simp) (by simp [zbB, zb5, upd, noH]) ?_); (simp only [zbe, List.drop_zero])))))
      ·repeat first|refine wV fun _=>?_|simp [go_sem, hi, hsl, hpl]
       refine zBh (hrec (d - 1) (by omega) (i + 1) (by omega)) ?_ (by simp)
       simp [go_sem, zaf, s1, s2, onP, hpl]
       ((try simp only [zaq, zaE, zbt, zcG, zaw, zbm, zaM, zar, zag, zdC, zbz, zaV, zaj, zad, List.map_cons, List.map_nil, List.nil_append, List.append_nil, List.cons_append]); (repeat (first | (with_reducible first|exact zam.nil|exact zak.nil|exact LeV.refl _|exact zam.refl _ _ _ _|exact zak.refl _|refine zam.cons ?_ ?_|refine zak.cons ?_ ?_|refine LeV.agg ?_|refine LeV.tup ?_|refine LeV.fn ?_ ?_|exact LeV.nil _|refine zao (zak.refl _) ?_) | ((refine zaL rfl (by simp [hpl]) (by simp [zbB, zb5, upd, noH]) ?_); (first | (simp [go_sem, hpl]; done) | (simp [go_sem, hpl]; exact List.take_of_length_le (by simp [hpl])))) | ((refine LeV.frz rfl (by simp [hpl]) (by simp [zbB, zb5, upd, noH]) ?_); (simp only [List.drop_zero, List.take_succ_cons, List.take_zero, List.map_cons, List.map_nil])) | ((refine LeV.frzP rfl (by simp [hpl]) (by simp) (by simp [zbB, zb5, upd, noH]) ?_); (simp only [zbe, List.drop_zero])))))
     ·have hil : i = line.length := by omega
      subst hil
      rw [List.take_length] at hsl ⊢
      rw [hE]
      repeat first|refine wV fun _=>?_|simp [go_sem, hsl]
      ((try simp only [zaq, zaE, zbt, zcG, zaw, zbm, zaM, zar, zag, zdC, zbz, zaV, zaj, zad, List.map_cons, List.map_nil, List.nil_append, List.append_nil, List.cons_append]); (repeat (first | (with_reducible first|exact zam.nil|exact zak.nil|exact LeV.refl _|exact zam.refl _ _ _ _|exact zak.refl _|refine zam.cons ?_ ?_|refine zak.cons ?_ ?_|refine LeV.agg ?_|refine LeV.tup ?_|refine LeV.fn ?_ ?_|exact LeV.nil _|refine zao (zak.refl _) ?_) | ((refine zaL rfl (by simp [hsl]) (by simp [zbB, zb5, upd, noH]) ?_); (first | (simp [go_sem, hsl]; done) | (simp [go_sem, hsl]; exact List.take_of_length_le (by simp [hsl])))) | ((refine LeV.frz rfl (by simp [hsl]) (by simp [zbB, zb5, upd, noH]) ?_); (simp only [List.drop_zero, List.take_succ_cons, List.take_zero, List.map_cons, List.map_nil])) | ((refine LeV.frzP rfl (by simp [hsl]) (by simp) (by simp [zbB, zb5, upd, noH]) ?_); (simp only [zbe, List.drop_zero])))))
    ·simp
    ·simp [go_sem, zaf, zbU, zie]
    ·simp
   ·rw [if_neg h2] at hE
    repeat first|refine wV fun _=>?_|simp [go_sem, hel, hte]
    refine zBj (fun h8 => ?_) (fun h8 => ?_) <;> simp at h8
    ·subst h8
     rw [if_pos (by omega)] at hE
     rw [hE]
     repeat first|refine wV fun _=>?_|simp [go_sem, hel, hte]
     refine zBx (hO p.to [(8, N, 0)] (by simp)) (by simp [go_sem]) (by simp [go_sem]) ?_ (by simp [go_sem]) ?_
     ·(first|done|exact leX)
     ·repeat first|refine wV fun _=>?_|simp [go_sem, hel, hte, onP]
      (first|done|exact leX)
    ·repeat first|refine wV fun _=>?_|simp [go_sem, hel, hte]
     refine zBj (fun h99 => ?_) (fun h99 => ?_) <;> simp at h99
     ·subst h99
      rw [if_pos (by omega)] at hE
      rw [hE]
      repeat first|refine wV fun _=>?_|simp [go_sem, hel, hte]
      refine zBx (hO p.to [(9, N, 0)] (by simp)) (by simp [go_sem]) (by simp [go_sem]) ?_ (by simp [go_sem]) ?_
      ·(first|done|exact leX)
      ·repeat first|refine wV fun _=>?_|simp [go_sem, hel, hte, onP]
       (first|done|exact leX)
     ·repeat first|refine wV fun _=>?_|simp [go_sem, hel, hte]
      refine zBj (fun h10 => ?_) (fun h10 => ?_) <;> simp at h10
      ·subst h10
       rw [if_pos (by omega)] at hE
       rw [hE]
       repeat first|refine wV fun _=>?_|simp [go_sem, hel, hte]
       refine zBx (hO p.to [(10, N, 0)] (by simp)) (by simp [go_sem]) (by simp [go_sem]) ?_ (by simp [go_sem]) ?_
       ·(first|done|exact leX)
       ·repeat first|refine wV fun _=>?_|simp [go_sem, hel, hte, onP]
        (first|done|exact leX)
      ·rw [if_neg (by omega)] at hE
       rw [hE]
       repeat first|refine wV fun _=>?_|simp [go_sem, hel, hte]
       refine zBx (hO p.to [(op, p.to, 0)] (by simp)) (by simp [go_sem]) (by simp [go_sem]) ?_ (by simp [go_sem]) ?_
       ·(first|done|exact leX)
       ·repeat first|refine wV fun _=>?_|simp [go_sem, hel, hte, onP]
        (first|done|exact leX)
end Go.Av
end
