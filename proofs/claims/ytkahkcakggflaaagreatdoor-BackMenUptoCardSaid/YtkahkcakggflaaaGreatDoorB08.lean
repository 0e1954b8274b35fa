/- Texts of ours, part 8: our library and contracts of functions. -/
import Derived.Test.YtkahkcakggflaaaGreatDoorB07
set_option linter.unusedSimpArgs false
set_option linter.unusedVariables false
set_option maxRecDepth 100000
set_option maxHeartbeats 40000000
section
/- Our library, part 17: calls of functions that are given objects of ours and turn them. -/
namespace Go.Av
open Go

mutual
inductive Rn (σ : Nat → Nat) : AV → AV → Prop
 | same {x : AV} (h : Bel 0 x) : Rn σ x x
 | ref {o o' g sz i off : Nat} (h : o' = σ o) : Rn σ (.ref o g sz i off) (.ref o' g sz i off)
 | sl {o o' g sz i len : Nat} (h : o' = σ o) : Rn σ (.sl o g sz i len) (.sl o' g sz i len)
 | agg {xs ys : List AV} (h : RnL σ xs ys) : Rn σ (.agg xs) (.agg ys)
 | tup {xs ys : List AV} (h : RnL σ xs ys) : Rn σ (.tup xs) (.tup ys)
 | fn {f : Fn} {a b a' b' : List AV} (h : RnL σ a a') (h' : RnL σ b b') : Rn σ (.fn f a b) (.fn f a' b')
inductive RnL (σ : Nat → Nat) : List AV → List AV → Prop
 | nil : RnL σ [] []
 | cons {x y : AV} {xs ys : List AV} (h : Rn σ x y) (t : RnL σ xs ys) : RnL σ (x :: xs) (y :: ys)
end
inductive zuE (σ : Nat → Nat) : List (List AV) → List (List AV) → Prop
 | same {rs : List (List AV)} (h : ∀ r ∈ rs, ∀ c ∈ r, Bel 0 c) : zuE σ rs rs
 | nil : zuE σ [] []
 | cons {x y : List AV} {xs ys : List (List AV)} (h : RnL σ x y) (t : zuE σ xs ys) : zuE σ (x :: xs) (y :: ys)
inductive RnO (σ : Nat → Nat) : zbt → zbt → Prop
 | rows {mt : Bool} {g sz : Nat} {rs rs' : List (List AV)} (h : zuE σ rs rs') : RnO σ (.rows mt g sz rs) (.rows mt g sz rs')
inductive RnH (σ : Nat → Nat) : List (Nat × zbt) → List (Nat × zbt) → Prop
 | nil : RnH σ [] []
 | cons {o o' : Nat} {x y : zbt} {l l' : List (Nat × zbt)} (e : o' = σ o) (h : RnO σ x y) (t : RnH σ l l') : RnH σ ((o, x) :: l) ((o', y) :: l')
section
variable {σ : Nat → Nat} {φ φ' : zaA} {w : World} {M M' : Nat → Prop}
theorem Rn.rel (hφ : ∀ o, φ' (σ o) = φ o) (hM : ∀ k, M' k → M k) {x y : AV} (hs : Rn σ x y) : ∀ {v : Value}, Rel φ w M x v → Rel φ' w M' y v := by
 refine Rn.rec (σ := σ) (motive_1 := fun x y _ => ∀ {v : Value}, Rel φ w M x v → Rel φ' w M' y v) (motive_2 := fun xs ys _ => ∀ {vs : List Value}, zaP φ w M xs vs → zaP φ' w M' ys vs)
  ?_ ?_ ?_ ?_ ?_ ?_ ?_ ?_ hs
 ·intro x hb v hx; exact hx.closed hM hb
 ·intro o o' g sz i off e v hx
  subst e
  cases hx with | ref ho hg h => exact .ref (by rw [hφ]; exact ho) hg h
 ·intro o o' g sz i len e v hx
  subst e
  cases hx with | sl ho hg h => exact .sl (by rw [hφ]; exact ho) hg h
 ·intro xs ys _ ih v hx
  cases hx with | agg hv h => exact .agg hv (ih h)
 ·intro xs ys _ ih v hx
  cases hx with | tup h => exact .tup (ih h)
 ·intro f a b a' b' _ _ ih1 ih2 v hx
  cases hx with | fn h1 h2 => exact .fn (ih1 h1) (ih2 h2)
 ·intro vs hx; cases hx; exact .nil
 ·intro x y xs ys _ _ ih1 ih2 vs hx
  cases hx with | cons h t => exact .cons (ih1 h) (ih2 t)
theorem Rn.back {m : Nat} (hφ : ∀ o, o < m → φ o = φ' (σ o)) (hM : ∀ k, M k → M' k) {x y : AV} (hs : Rn σ x y) : Bel m x → ∀ {v : Value}, Rel φ' w M' y v → Rel φ w M x v := by
 refine Rn.rec (σ := σ) (motive_1 := fun x y _ => Bel m x → ∀ {v : Value}, Rel φ' w M' y v → Rel φ w M x v) (motive_2 := fun xs ys _ => (∀ c ∈ xs, Bel m c) → ∀ {vs : List Value}, zaP φ' w M' ys vs → zaP φ w M xs vs)
  ?_ ?_ ?_ ?_ ?_ ?_ ?_ ?_ hs
 ·intro x hb _ v hx; exact hx.closed hM hb
 ·intro o o' g sz i off e hb v hx
  subst e
  cases hb with | ref hb => cases hx with | ref ho hg h => exact .ref (by rw [hφ _ hb]; exact ho) hg h
 ·intro o o' g sz i len e hb v hx
  subst e
  cases hb with | sl hb => cases hx with | sl ho hg h => exact .sl (by rw [hφ _ hb]; exact ho) hg h
 ·intro xs ys _ ih hb v hx
  cases hb with | agg hb => cases hx with | agg hv h => exact .agg hv (ih hb h)
 ·intro xs ys _ ih hb v hx
  cases hb with | tup hb => cases hx with | tup h => exact .tup (ih hb h)
 ·intro f a b a' b' _ _ ih1 ih2 hb v hx
  cases hb with | fn hb hb' => cases hx with | fn h1 h2 => exact .fn (ih1 hb h1) (ih2 hb' h2)
 ·intro _ vs hx; cases hx; exact .nil
 ·intro x y xs ys _ _ ih1 ih2 hb vs hx
  cases hx with | cons h t => exact .cons (ih1 (hb _ (by simp)) h) (ih2 (fun c hc => hb c (by simp [hc])) t)
theorem RnL.rel (hφ : ∀ o, φ' (σ o) = φ o) (hM : ∀ k, M' k → M k) : ∀ {xs ys : List AV} {vs : List Value}, RnL σ xs ys → zaP φ w M xs vs → zaP φ' w M' ys vs
 | [], _, _, .nil, .nil => .nil
 | _ :: _, _, _, .cons h t, .cons h' t' => .cons (h.rel hφ hM h') (t.rel hφ hM t')
theorem RnL.back {m : Nat} (hφ : ∀ o, o < m → φ o = φ' (σ o)) (hM : ∀ k, M k → M' k) : ∀ {xs ys : List AV} {vs : List Value}, RnL σ xs ys → (∀ c ∈ xs, Bel m c) → zaP φ' w M' ys vs → zaP φ w M xs vs
 | [], _, _, .nil, _, .nil => .nil
 | _ :: _, _, _, .cons h t, hb, .cons h' t' => .cons (h.back hφ hM (hb _ (by simp)) h') (t.back hφ hM (fun c hc => hb c (by simp [hc])) t')
theorem RnL.length : ∀ {xs ys : List AV}, RnL σ xs ys → ys.length = xs.length
 | [], _, .nil => rfl
 | _ :: _, _, .cons _ t => by simp [t.length]
theorem zuE.rel (hφ : ∀ o, φ' (σ o) = φ o) (hM : ∀ k, M' k → M k) {xs ys : List (List AV)} (hs : zuE σ xs ys) :
  ∀ {vs : List Value}, zaP φ w M xs.flatten vs → zaP φ' w M' ys.flatten vs := by
 induction hs with
 | same h =>
  intro vs hx
  refine zBE hx.length fun k hk hk' => (hx.get k hk hk').closed hM ?_
  obtain ⟨r, hr, hc⟩ := List.mem_flatten.1 (List.getElem_mem hk)
  exact h r hr _ hc
 | nil => intro vs hx; cases hx; exact .nil
 | cons h _ ih =>
  intro vs hx
  rw [List.flatten_cons] at hx ⊢
  obtain ⟨us, ts, rfl, h1, h2⟩ := hx.split
  exact (h.rel hφ hM h1).append (ih h2)
theorem zuE.back {m : Nat} (hφ : ∀ o, o < m → φ o = φ' (σ o)) (hM : ∀ k, M k → M' k) {xs ys : List (List AV)} (hs : zuE σ xs ys) :
  (∀ r ∈ xs, ∀ c ∈ r, Bel m c) → ∀ {vs : List Value}, zaP φ' w M' ys.flatten vs → zaP φ w M xs.flatten vs := by
 induction hs with
 | same h =>
  intro _ vs hx
  refine zBE hx.length fun k hk hk' => (hx.get k hk hk').closed hM ?_
  obtain ⟨r, hr, hc⟩ := List.mem_flatten.1 (List.getElem_mem hk)
  exact h r hr _ hc
 | nil => intro _ vs hx; cases hx; exact .nil
 | cons h _ ih =>
  intro hb vs hx
  rw [List.flatten_cons] at hx ⊢
  obtain ⟨us, ts, rfl, h1, h2⟩ := hx.split
  exact (h.back hφ hM (hb _ (by simp)) h1).append (ih (fun r hr => hb r (by simp [hr])) h2)
theorem zuE.shape {xs ys : List (List AV)} (hs : zuE σ xs ys) : ys.length = xs.length ∧ (∀ sz, (∀ r ∈ xs, r.length = sz) → ∀ r ∈ ys, r.length = sz) ∧ ∀ sz, (∀ r ∈ ys, r.length = sz) → ∀ r ∈ xs, r.length = sz := by
 induction hs with
 | same h => exact ⟨rfl, fun _ h => h, fun _ h => h⟩
 | nil => exact ⟨rfl, fun _ h => h, fun _ h => h⟩
 | cons h _ ih =>
  refine ⟨by simp [ih.1], fun sz hr r hm => ?_, fun sz hr r hm => ?_⟩
  ·rcases List.mem_cons.1 hm with rfl | hm
   ·rw [h.length]; exact hr _ (by simp)
   ·exact ih.2.1 sz (fun r hr' => hr r (by simp [hr'])) r hm
  ·rcases List.mem_cons.1 hm with rfl | hm
   ·rw [← h.length]; exact hr _ (by simp)
   ·exact ih.2.2 sz (fun r hr' => hr r (by simp [hr'])) r hm
theorem RnH.at {l l' : List (Nat × zbt)} (hinj : ∀ a b, σ a = σ b → a = b) (hs : RnH σ l l') {o : Nat} {y : zbt} (ho : mkH l' o = some y) : ∃ o0 x, o = σ o0 ∧ mkH l o0 = some x ∧ RnO σ x y := by
 induction hs with
 | nil => cases ho
 | @cons o1 o1' x1 y1 l l' e1 h _ ih =>
  simp only [mkH, upd] at ho ⊢
  split at ho
  ·rename_i e
   cases ho
   exact ⟨o1, x1, e.trans e1, by simp, h⟩
  ·rename_i e
   obtain ⟨o0, x, rfl, h1, h2⟩ := ih ho
   refine ⟨o0, x, rfl, ?_, h2⟩
   rw [if_neg (fun h => e (by rw [h, e1]))]; exact h1
end
def ren (rs : List Nat) (n : Nat) (j : Nat) : Nat := if j < rs.length then rs.getD j 0 else n + (j - rs.length)
def zml : List Nat → zav → zav
 | [], h => h
 | o :: l, h => upd (zml l h) o none
theorem zwX (h : zav) : ∀ (l : List Nat) (o : Nat), zml l h o = if o ∈ l then none else h o
 | [], o => by simp [zml]
 | a :: l, o => by
  simp only [zml, upd, List.mem_cons]
  by_cases e : o = a
  ·simp [e]
  ·simp [e, zwX h l o]
theorem zid {rs : List Nat} {n j : Nat} (h : j < rs.length) : ren rs n j ∈ rs := by
 unfold ren; rw [if_pos h, List.getD_eq_getElem?_getD, List.getElem?_eq_getElem h]; exact List.getElem_mem h
theorem zA5 {rs : List Nat} {n : Nat} (hd : rs.Nodup) (hlt : ∀ o ∈ rs, o < n) : ∀ a b, ren rs n a = ren rs n b → a = b := by
 intro a b he
 by_cases ha : a < rs.length <;> by_cases hb : b < rs.length
 ·unfold ren at he
  rw [if_pos ha, if_pos hb, List.getD_eq_getElem?_getD, List.getD_eq_getElem?_getD, List.getElem?_eq_getElem ha, List.getElem?_eq_getElem hb] at he
  exact (List.getElem_inj hd).1 (by simpa using he)
 ·have h1 := hlt _ (zid (n := n) ha)
  rw [he] at h1
  unfold ren at h1
  rw [if_neg hb] at h1; omega
 ·have h1 := hlt _ (zid (n := n) hb)
  rw [← he] at h1
  unfold ren at h1
  rw [if_neg ha] at h1; omega
 ·unfold ren at he
  rw [if_neg ha, if_neg hb] at he; omega
def ziQ (P : Program) (f : FuncId) (args : List AV) (HA : List (Nat × zbt)) (m : Nat) (R0 : AV) (H0 : List (Nat × zbt)) (k2 : Nat) : Prop :=
 zaa P f args (mkH HA) m (fun r h n' => Wk (fun _ => r) h n' [(0, R0)] H0 k2)
theorem zBG {P : Program} {f : FuncId} {args args' args0 : List AV} {h : zav} {n m k2 : Nat} {K : zcS} {R0 R : AV} {HA H0 HH : List (Nat × zbt)} (rs : List Nat) (h' : zav)
  (hp : ziQ P f args0 HA m R0 H0 k2) (hd : rs.Nodup) (hlt : ∀ o ∈ rs, o < n) (hm : rs.length = m) (hmk : m ≤ k2) (hfz : Frz h h')
  (hA : ∀ j, j < m → ∃ x y, mkH HA j = some x ∧ h' (ren rs n j) = some y ∧ RnO (ren rs n) x y) (hAb : ∀ p ∈ HA, p.1 < m ∧ zzK m p.2)
  (hle : zai h h' n args args') (hb' : ∀ c ∈ args', Bel n c) (hargs0 : RnL (ren rs n) args0 args') (hb0 : ∀ c ∈ args0, Bel m c)
  (hR : Rn (ren rs n) R0 R) (hHH : RnH (ren rs n) H0 HH) (hk : K R (zd7 HH (zml rs h')) (n + (k2 - m))) : zaa P f args h n K := by
 refine ⟨hp.1, fun M0 φ w vs hH hargs => ?_⟩
 obtain ⟨hH', st0⟩ := hH.freeze hfz
 have hσ := zA5 hd hlt
 have hmt : ∀ o g sz rs, h' o = some (.rows true g sz rs) → h o = some (.rows true g sz rs) := by
  intro o g sz rs ho
  rcases hfz o with h1 | ⟨g1, sz1, rs1, h1, h2⟩
  ·rw [← h1]; exact ho
  ·rw [h2] at ho; cases ho
 have hmut0 : ∀ k, Mut φ h' k → Mut φ h k := by
  rintro k ⟨o, g, sz, rs, g', a, bs, ho, hp, rfl⟩
  exact ⟨o, g, sz, rs, g', a, bs, hmt _ _ _ _ ho, hp, rfl⟩
 have hv : zaP φ w (Or M0 (Mut φ h')) args' vs := by
  refine zai.rel (φ' := φ) (n' := n) hH (fun {x v} _ hx => hx.keep φ.le_refl (fun _ _ _ => rfl) (fun k hk => .inl (hk.imp id (hmut0 k)))) ?_ (fun o g sz h1 _ h2 => by omega) hle hb' hargs
  rintro o mt g sz rs a bs ho hp ho' h0 (hk | ⟨o', g', sz', rs', g'', a', bs', ho1, hp1, he⟩)
  ·exact h0 hk
  ·have hne : o' ≠ o := fun e => by subst e; exact ho' _ _ _ ho1
   have ho0 := hmt _ _ _ _ ho1
   have hg : g'' = g' := by
    obtain ⟨A2, hA2, _⟩ := hH.obj _ _ _ _ _ ho0
    rw [hp1] at hA2
    simp only [Option.some.injEq, Prod.mk.injEq] at hA2
    exact hA2.1
   subst hg
   exact hH.inj _ _ _ _ _ _ _ _ _ _ _ _ _ _ ho0 ho hne (.inl rfl) hp1 hp he
 let hr : zav := fun o => if o ∈ rs then none else h' o
 have hrmut : ∀ k, Mut φ hr k → Mut φ h' k := by
  rintro k ⟨o, g, sz, rs1, g', a, bs, ho, hp, rfl⟩
  simp only [hr] at ho
  split at ho
  ·cases ho
  ·exact ⟨o, g, sz, rs1, g', a, bs, ho, hp, rfl⟩
 let M1 : Nat → Prop := Or M0 (Mut φ hr)
 let φ0 : zaA := fun j => if j < m then φ (ren rs n j) else none
 have hφ0 : ∀ j, j < m → φ0 j = φ (ren rs n j) := fun j hj => if_pos hj
 have hgiv : ∀ j mt g sz rws, mkH HA j = some (.rows mt g sz rws) → j < m ∧ ∃ rws', h' (ren rs n j) = some (.rows mt g sz rws') ∧ zuE (ren rs n) rws rws' ∧ ∀ r ∈ rws, ∀ c ∈ r, Bel m c := by
  intro j mt g sz rws hj
  have hjm := hAb _ (zet hj)
  obtain ⟨x, y, h1, h2, h3⟩ := hA j hjm.1
  rw [hj] at h1
  cases h1
  cases h3 with
  | rows h3 => exact ⟨hjm.1, _, h2, h3, hjm.2⟩
 have hgmut : ∀ k, Mut φ0 (mkH HA) k → ∃ j, j < m ∧ ∃ g sz rws g' a bs, h' (ren rs n j) = some (.rows true g sz rws) ∧ φ (ren rs n j) = some (g', some (a, bs)) ∧ a.block = k := by
  rintro k ⟨j, g, sz, rws, g', a, bs, ho, hp, rfl⟩
  obtain ⟨hj, rws', h1, _⟩ := hgiv _ _ _ _ _ ho
  rw [hφ0 j hj] at hp
  exact ⟨j, hj, g, sz, rws', g', a, bs, h1, hp, rfl⟩
 have hgmut' : ∀ k, Mut φ0 (mkH HA) k → Mut φ h' k := fun k hk => by
  obtain ⟨j, _, g, sz, rws, g', a, bs, h1, h2, h3⟩ := hgmut k hk
  exact ⟨_, g, sz, rws, g', a, bs, h1, h2, h3⟩
 have hgen : ∀ {o mt g sz rws g' A}, h' o = some (.rows mt g sz rws) → φ o = some (g', A) → g' = g := by
  intro o mt g sz rws g' A ho hp
  obtain ⟨A2, hA2, _⟩ := hH'.obj _ _ _ _ _ ho
  rw [hp] at hA2
  simp only [Option.some.injEq, Prod.mk.injEq] at hA2
  exact hA2.1
 have hM1 : ∀ k, Or M1 (Mut φ0 (mkH HA)) k → Or M0 (Mut φ h') k := by
  rintro k ((hk | hk) | hk)
  ·exact .inl hk
  ·exact .inr (hrmut k hk)
  ·exact .inr (hgmut' k hk)
 have hH1 : zg1 φ0 m w M1 (mkH HA) := by
  refine ⟨fun k hk => hH'.blk (hk.imp id (hrmut k)), fun o ho => if_neg (by omega), fun j mt g sz rws hj => ?_, fun o o' mt g sz rws mt' g' sz' rws' a a' b b' ho ho' hne hmm hp hp' => ?_, hH'.glob.keep (fun _ _ _ => rfl) (fun k hk => .inl (hM1 k hk))⟩
  ·obtain ⟨hjm, rws', h1, h2, h3⟩ := hgiv _ _ _ _ _ hj
   obtain ⟨A, hA1, hc⟩ := hH'.obj _ _ _ _ _ h1
   refine ⟨A, by rw [hφ0 j hjm]; exact hA1, hc.imp (fun h => ⟨h.1, ?_⟩) ?_⟩
   ·obtain ⟨_, rfl⟩ := h
    exact List.eq_nil_of_length_eq_zero h2.shape.1.symm
   ·rintro ⟨a, bs, c1, c3, hd⟩
    refine ⟨a, bs, c1, ?_, hd.turn rfl h2.shape.1.symm (h2.shape.2.2 sz) (fun c9 => h2.back hφ0 hM1 h3 c9)⟩
    ·rintro (hk | ⟨o', g1, sz1, rs1, g1', a', bs', ho1, hp1, he⟩)
     ·exact c3 hk
     ·simp only [hr] at ho1
      split at ho1
      ·cases ho1
      ·rename_i hni
       obtain rfl := hgen ho1 hp1
       subst c1
       exact hH'.inj _ _ _ _ _ _ _ _ _ _ _ _ _ _ ho1 h1 (fun e => hni (e ▸ zid (by omega))) (.inl rfl) hp1 hA1 he
  ·obtain ⟨hj, r1, h1, _⟩ := hgiv _ _ _ _ _ ho
   obtain ⟨hj', r1', h1', _⟩ := hgiv _ _ _ _ _ ho'
   rw [hφ0 o hj] at hp
   rw [hφ0 o' hj'] at hp'
   exact hH'.inj _ _ _ _ _ _ _ _ _ _ _ _ _ _ h1 h1' (fun e => hne (hσ _ _ e)) hmm hp hp'
 have hargs1 : zaP φ0 w (Or M1 (Mut φ0 (mkH HA))) args0 vs := hargs0.back hφ0 hM1 hb0 hv
 refine (hp.2 _ φ0 w vs hH1 hargs1).mono ?_
 rintro e w' ⟨v, φ1, r, h1, n', rfl, hK, hH2, hx, st⟩
 obtain ⟨φ2, hH3, hx3, hm3, hst⟩ := hK.sound hH2 (tmps := fun _ => v) (fun _ => hx)
 have hx3 := hx3 0
 simp only [mkE, zaB] at hx3
 have hlater : ∀ j x, j < m → φ (ren rs n j) = some x → ∃ x', φ2 j = some x' ∧ x.1 ≤ x'.1 ∧ (x'.1 = x.1 → x' = x) := by
  intro j x hj hx
  obtain ⟨x', h1, h2, h3⟩ := st.le j x (by rw [hφ0 j hj]; exact hx)
  exact ⟨x', hst j x' (by omega) h1, h2, h3⟩
 let φ3 : zaA := fun o => if o ∈ rs then φ2 (rs.idxOf o) else if o < n then φ o else φ2 (o - n + m)
 have hidx : ∀ j, j < m → rs.idxOf (ren rs n j) = j := by
  intro j hj
  have h1 := List.idxOf_lt_length_of_mem (zid (rs := rs) (n := n) (j := j) (by omega))
  refine hσ _ _ ?_
  have h2 := List.getElem_idxOf h1
  unfold ren at h1 h2 ⊢
  rw [if_pos h1, List.getD_eq_getElem?_getD, List.getElem?_eq_getElem h1]
  exact h2
 have e3 : ∀ o, φ3 (ren rs n o) = φ2 o := by
  intro o
  by_cases ho : o < m
  ·simp only [φ3]
   rw [if_pos (zid (by omega)), hidx o ho]
  ·have hge : ren rs n o = n + (o - m) := by unfold ren; rw [if_neg (by omega), hm]
   simp only [φ3]
   rw [hge, if_neg (fun hmem => by have := hlt _ hmem; omega), if_neg (by omega)]
   congr 1; omega
 have e3' : ∀ o, o < n → o ∉ rs → φ3 o = φ o := fun o ho hni => by simp only [φ3]; rw [if_neg hni, if_pos ho]
 have hltn : ∀ o x, φ o = some x → o < n := fun o x ho => Nat.lt_of_not_le fun hle => by rw [hH.fresh o hle] at ho; cases ho
 have hren : ∀ o, o ∈ rs → ∃ j, j < m ∧ o = ren rs n j := by
  intro o ho
  obtain ⟨j, hj, rfl⟩ := List.getElem_of_mem ho
  exact ⟨j, by omega, by unfold ren; rw [if_pos hj, List.getD_eq_getElem?_getD, List.getElem?_eq_getElem hj]; rfl⟩
 have hle3 : φ.le φ3 := by
  intro o x ho
  by_cases hmem : o ∈ rs
  ·obtain ⟨j, hj, rfl⟩ := hren o hmem
   rw [e3]; exact hlater j x hj ho
  ·exact ⟨x, by rw [e3' o (hltn _ _ ho) hmem]; exact ho, Nat.le_refl _, fun _ => rfl⟩
 have hheap : ∀ k, k < w.heap.size → ¬ Mut φ0 (mkH HA) k → w'.heap[k]? = w.heap[k]? := fun k hk hn => st.fr.block k hk hn
 have hsrc : ∀ o y, zd7 HH (zml rs h') o = some y → (∃ o0 x, o = ren rs n o0 ∧ mkH H0 o0 = some x ∧ RnO (ren rs n) x y) ∨ (o < n ∧ o ∉ rs ∧ h' o = some y) := by
  intro o x ho
  rw [zgO] at ho
  split at ho
  ·rename_i y hy
   cases ho
   exact .inl (hHH.at hσ hy)
  ·rw [zwX] at ho
   split at ho
   ·cases ho
   ·rename_i hni
    cases x with
    | rows mt g sz rws =>
     obtain ⟨A, hA, _⟩ := hH'.obj _ _ _ _ _ ho
     exact .inr ⟨hltn _ _ hA, hni, ho⟩
 have hmut : ∀ k, Mut φ3 (zd7 HH (zml rs h')) k → Mut φ2 (mkH H0) k ∨ Mut φ hr k := by
  rintro k ⟨o, g, sz, rws, g', a, bs, ho, hp, rfl⟩
  rcases hsrc o _ ho with ⟨o0, x, rfl, h1, h2⟩ | ⟨h1, hni, h2⟩
  ·cases h2 with
   | rows h2 => rw [e3] at hp; exact .inl ⟨o0, g, sz, _, g', a, bs, h1, hp, rfl⟩
  ·rw [e3' o h1 hni] at hp
   exact .inr ⟨o, g, sz, rws, g', a, bs, by simp only [hr]; rw [if_neg hni]; exact h2, hp, rfl⟩
 have hmnew : ∀ k, Mut φ2 (mkH H0) k → Mut φ0 (mkH HA) k ∨ w.heap.size ≤ k := fun k hk => st.mutd k (hm3 k hk)
 have hsub : ∀ k, Or M0 (Mut φ3 (zd7 HH (zml rs h'))) k → Or M1 (Mut φ2 (mkH H0)) k := fun k hk => hk.elim (fun h => .inl (.inl h)) fun h => (hmut k h).elim .inr fun h => .inl (.inr h)
 have hmutd : ∀ k, Mut φ3 (zd7 HH (zml rs h')) k → Mut φ h' k ∨ w.heap.size ≤ k := fun k hk =>
  (hmut k hk).elim (fun h => (hmnew k h).imp (hgmut' k) id) fun h => .inl (hrmut k h)
 have hsub' : ∀ k, Or M0 (Mut φ3 (zd7 HH (zml rs h'))) k → Or M0 (Mut φ h') k ∨ w.heap.size ≤ k := fun k hk => hk.elim (fun h => .inl (.inl h)) fun h => (hmutd k h).imp .inr id
 have hblk : ∀ o x g' a bs, h' o = some x → φ o = some (g', some (a, bs)) → a.block < w.heap.size := by
  intro o x g' a bs ho hp
  cases x with
  | rows mt g sz rws =>
   obtain ⟨A, hA, hc⟩ := hH'.obj _ _ _ _ _ ho
   rw [hp] at hA
   simp only [Option.some.injEq, Prod.mk.injEq] at hA
   obtain ⟨rfl, rfl⟩ := hA
   rcases hc with ⟨h, _⟩ | ⟨a', bs', h, _, h2⟩
   ·cases h
   ·simp only [Option.some.injEq, Prod.mk.injEq] at h
    obtain ⟨rfl, rfl⟩ := h
    exact h2.blk
 have hkeep : ∀ o mt g sz rws g' a bs, o ∉ rs → h' o = some (.rows mt g sz rws) → φ o = some (g', some (a, bs)) → ¬ Mut φ0 (mkH HA) a.block := by
  intro o mt g sz rws g' a bs hni ho hp hk
  obtain ⟨j, hj, g1, sz1, rws1, g1', a1, bs1, q1, q2, q3⟩ := hgmut _ hk
  obtain rfl := hgen ho hp
  obtain rfl := hgen q1 q2
  exact hH'.inj _ _ _ _ _ _ _ _ _ _ _ _ _ _ q1 ho (fun e => hni (e ▸ zid (by omega))) (.inl rfl) q2 hp q3
 have hfar : ∀ o0 mt g sz rws g' a bs o' y g1 a' b', mkH H0 o0 = some (.rows mt g sz rws) → φ2 o0 = some (g', some (a, bs)) → o' ∉ rs → h' o' = some y → φ o' = some (g1, some (a', b')) →
   (mt = true ∨ ∃ g sz rs, y = .rows true g sz rs) → a.block ≠ a'.block := by
  intro o0 mt g sz rws g' a bs o' y g1 a' b' q1 q2 hni q3 q4 hmm
  have hb1 := hblk _ _ _ _ _ q3 q4
  rcases hmm with rfl | ⟨g2, sz2, rs2, rfl⟩
  ·rcases hmnew a.block ⟨o0, g, sz, rws, _, a, bs, q1, q2, rfl⟩ with hk | hk
   ·intro he
    cases y with
    | rows mt1 g1' sz1 rws1 => exact hkeep _ _ _ _ _ _ _ _ hni q3 q4 (he ▸ hk)
   ·omega
  ·intro he
   obtain ⟨A, hA, hc⟩ := hH3.obj _ _ _ _ _ q1
   rw [q2] at hA
   simp only [Option.some.injEq, Prod.mk.injEq] at hA
   obtain ⟨_, rfl⟩ := hA
   rcases hc with ⟨h, _⟩ | ⟨a1, bs1, h, hn0, _⟩
   ·cases h
   ·simp only [Option.some.injEq, Prod.mk.injEq] at h
    obtain ⟨rfl, rfl⟩ := h
    exact hn0 (.inr ⟨o', g2, sz2, rs2, _, a', b', by simp only [hr]; rw [if_neg hni]; exact q3, q4, he.symm⟩)
 refine ⟨v, φ3, R, zd7 HH (zml rs h'), n + (k2 - m), rfl, hk, ⟨fun k hk => Nat.lt_of_lt_of_le (hH.m0 k hk) st.fr.size, fun o ho => ?_, fun o mt g sz rws ho => ?_, fun o o' mt g sz rws mt' g' sz' rws' a a' b b' ho ho' hne hmm hp hp' => ?_,
   hH'.glob.keep (fun k hn hk => hheap k hk (fun hg => hn (.inr (hgmut' k hg)))) hsub'⟩,
  hR.rel e3 hsub hx3, st0.trans ⟨hle3, hsub', ⟨st.fr.os, st.fr.tape, st.fr.output, st.fr.drawn, st.fr.size, fun k hk hn => hheap k hk (fun hg => hn (hgmut' k hg))⟩, hmutd⟩⟩
 ·have h1 : ren rs n (o - n + m) = o := by unfold ren; rw [if_neg (by omega)]; omega
  rw [← h1, e3]; exact hH3.fresh _ (by omega)
 ·rcases hsrc o _ ho with ⟨o0, x, rfl, h1, h2⟩ | ⟨h1, hni, h2⟩
  ·cases h2 with
   | rows hs =>
    obtain ⟨A, hA, hc⟩ := hH3.obj _ _ _ _ _ h1
    refine ⟨A, by rw [e3]; exact hA, hc.imp (fun h => ⟨h.1, ?_⟩) ?_⟩
    ·obtain ⟨_, rfl⟩ := h
     exact List.eq_nil_of_length_eq_zero hs.shape.1
    ·rintro ⟨a, bs, c1, c3, hd⟩
     exact ⟨a, bs, c1, fun hk => c3 (.inl hk), hd.turn rfl hs.shape.1 (hs.shape.2.1 sz) (fun c9 => hs.rel e3 hsub c9)⟩
  ·obtain ⟨A, hA, hc⟩ := hH'.obj _ _ _ _ _ h2
   refine ⟨A, by rw [e3' o h1 hni]; exact hA, hc.imp id ?_⟩
   rintro ⟨a, bs, c1, c3, hd⟩
   exact ⟨a, bs, c1, c3, hd.keep (hheap _ hd.blk (hkeep _ _ _ _ _ _ _ _ hni h2 (by rw [hA, c1]))) (fun c9 => c9.keep hle3 (fun k hn hk => hheap k hk (fun hg => hn (.inr (hgmut' k hg)))) hsub')⟩
 ·rcases hsrc o _ ho with ⟨o0, x, rfl, q1, q2⟩ | ⟨q1, qn, q2⟩ <;> rcases hsrc o' _ ho' with ⟨o0', x', rfl, q1', q2'⟩ | ⟨q1', qn', q2'⟩
  ·cases q2; cases q2'
   rw [e3] at hp hp'
   exact hH3.inj _ _ _ _ _ _ _ _ _ _ _ _ _ _ q1 q1' (fun e => hne (by rw [e])) hmm hp hp'
  ·cases q2
   rw [e3] at hp; rw [e3' o' q1' qn'] at hp'
   exact hfar _ _ _ _ _ _ _ _ _ _ _ _ _ q1 hp qn' q2' hp' (hmm.imp id fun h => by subst h; exact ⟨_, _, _, rfl⟩)
  ·cases q2'
   rw [e3' o q1 qn] at hp; rw [e3] at hp'
   exact Ne.symm (hfar _ _ _ _ _ _ _ _ _ _ _ _ _ q1' hp' qn q2 hp (hmm.symm.imp id fun h => by subst h; exact ⟨_, _, _, rfl⟩))
  ·rw [e3' o q1 qn] at hp; rw [e3' o' q1' qn'] at hp'
   exact hH'.inj _ _ _ _ _ _ _ _ _ _ _ _ _ _ q2 q2' hne hmm hp hp'
theorem Bel.mono {n m : Nat} (hnm : n ≤ m) {x : AV} (h : Bel n x) : Bel m x := by
 induction h with
 | top => exact .top
 | v x => exact .v x
 | agg _ ih => exact .agg ih
 | tup _ ih => exact .tup ih
 | lst _ ih => exact .lst ih
 | fp _ ih => exact .fp ih
 | ref h => exact .ref (by omega)
 | sl h => exact .sl (by omega)
 | mp h => exact .mp (by omega)
 | fn _ _ ih1 ih2 => exact .fn ih1 ih2
 | gd _ ih => exact .gd ih
theorem zB1 {P : Program} {n : Nat} {ops : List Oper} {Q : zb0} {m i : Nat} {rest : List Oper} {e : Env} {h : zav} {acc : List zfi} {dst : Option Tmp} {f : FuncId} {first caps args args0 : List AV} {R0 R : AV} {o : Nat} {mt : Bool} {g g' sz : Nat} {rws rws' : List (List AV)}
  (hp : ziQ P f args0 [(0, .rows mt g sz rws)] 1 R0 [(0, .rows true g' sz rws')] 1) (ho : h o = some (.rows mt g sz rws)) (hcl : ∀ r ∈ rws, ∀ c ∈ r, Bel 0 c) (hcl' : ∀ r ∈ rws', ∀ c ∈ r, Bel 0 c)
  (hargs : ∀ n₁, RnL (ren [o] n₁) args0 (first ++ args ++ caps)) (hb0 : ∀ c ∈ args0, Bel 1 c) (hb : ∀ n₁, o < n₁ → ∀ c ∈ first ++ args ++ caps, Bel n₁ c)
  (hR : ∀ n₁, Rn (ren [o] n₁) R0 R) (hfl : zrv R ∨ ∃ g sz i len, R = .sl o g sz i len)
  (hk : adr P n ops Q m (i + 1) rest (put e dst R) (upd h o (some (.rows true g' sz rws'))) (acc ++ [([o], [o])])) : zay P n ops Q m i rest dst (.fn (.func f) first caps) args e h acc := by
 refine ⟨R, [o], [(o, some (.rows true g' sz rws'))], .inr (.inr (.inl ⟨f, first, caps, rfl, ?_, ?_, ?_, fun h₁ n₁ hx hn => ?_⟩)), hk⟩
 ·intro o' ho'
  simp only [List.mem_singleton] at ho'
  subst ho'
  exact ⟨_, ho⟩
 ·intro p hp
  simp only [List.mem_singleton] at hp
  subst hp
  exact ⟨by simp, g', sz, rws', rfl, hcl'⟩
 ·exact hfl.imp id fun ⟨g, sz, i, len, h⟩ => ⟨o, g, sz, i, len, h, by simp⟩
 ·have hon := hn o (by simp)
  have r0 : ren [o] n₁ 0 = o := rfl
  refine zBG (args' := first ++ args ++ caps) (HH := [(o, .rows true g' sz rws')]) [o] h₁ hp (by simp) (by simpa using hon) rfl (Nat.le_refl _) (.refl _) ?_ ?_ (.refl _ _ _ _) (hb n₁ hon) (hargs n₁) hb0 (hR n₁)
   (.cons r0.symm (.rows (.same hcl')) .nil) ⟨rfl, ?_, rfl⟩
  ·intro j hj
   obtain rfl : j = 0 := by omega
   exact ⟨.rows mt g sz rws, .rows mt g sz rws, by simp [mkH, zaB], by rw [r0, ← hx o (by simp)]; exact ho, .rows (.same hcl)⟩
  ·intro p hp
   simp only [List.mem_singleton] at hp
   subst hp
   refine ⟨by simp, fun r hr c hc => ?_⟩
   exact Bel.mono (Nat.zero_le _) (hcl r hr c hc)
  ·funext a
   simp only [zd7, zml, zao, upd]
   split <;> rfl
theorem zBN {P : Program} {n : Nat} {ops : List Oper} {Q : zb0} {m i : Nat} {rest : List Oper} {e : Env} {h : zav} {acc : List zfi} {dst : Option Tmp} {f : FuncId} {first caps args args' : List AV} {R : Nat → AV} {HH : Nat → List (Nat × zbt)} {k2 : Nat}
  (b : Nat) (hbb : b = n + ops.length + 16 * i) (hp : zgp P f args' R HH k2) (hk16 : k2 ≤ 16) (hnR : zfr (R 0)) (hnH : ∀ p ∈ HH 0, znL p.2) (hle : ∀ h₁ : zav, zai h₁ noH 0 (first ++ args ++ caps) args') (hb : ∀ c ∈ args', Bel 0 c)
  (hnd : ((HH b).map (·.1)).Nodup) (hk : adr P n ops Q m (i + 1) rest (put e dst (R b)) (zd7 (HH b) h) (acc ++ [([zc9], (HH b).map (·.1))])) : zay P n ops Q m i rest dst (.fn (.func f) first caps) args e h acc := by
 subst hbb
 refine ⟨R _, [zc9], (HH (n + ops.length + 16 * i)).map (fun p => (p.1, some p.2)), .inr (.inr (.inr ⟨f, first, caps, args', R 0, HH 0, HH (n + ops.length + 16 * i), k2, rfl, by simp, hk16, hb, hp.1, hnR, hnH, (hp.2 _).1, (hp.2 _).2, hnd, rfl, fun h₁ _ => hle h₁⟩)), ?_⟩
 rw [zeV hnd, List.map_map]
 exact hk
theorem zBY {P : Program} {n : Nat} {ops : List Oper} {Q : zb0} {m i : Nat} {rest : List Oper} {e : Env} {h : zav} {acc : List zfi} {dst : Option Tmp} {f : FuncId} {first caps args args' : List AV} {R : Nat → AV} {HH : Nat → List (Nat × zbt)} {k2 : Nat}
  (S : List Nat) (b : Nat) (hbb : b = n + ops.length + 16 * i) (hp : zgp P f args' R HH k2) (hk16 : k2 ≤ 16) (hnR : zfr (R 0)) (hnH : ∀ p ∈ HH 0, znL p.2) (hle : ∀ h₁ : zav, (∀ o ∈ S, h o = h₁ o) → zai h₁ noH 0 (first ++ args ++ caps) args') (hb : ∀ c ∈ args', Bel 0 c)
  (hnd : ((HH b).map (·.1)).Nodup) (hk : adr P n ops Q m (i + 1) rest (put e dst (R b)) (zd7 (HH b) h) (acc ++ [(zc9 :: S, (HH b).map (·.1))])) : zay P n ops Q m i rest dst (.fn (.func f) first caps) args e h acc := by
 subst hbb
 refine ⟨R _, zc9 :: S, (HH (n + ops.length + 16 * i)).map (fun p => (p.1, some p.2)), .inr (.inr (.inr ⟨f, first, caps, args', R 0, HH 0, HH (n + ops.length + 16 * i), k2, rfl, by simp, hk16, hb, hp.1, hnR, hnH, (hp.2 _).1, (hp.2 _).2, hnd, rfl, fun h₁ h2 => hle h₁ fun o ho => h2 o (List.mem_cons_of_mem _ ho)⟩)), ?_⟩
 rw [zeV hnd, List.map_map]
 exact hk
end Go.Av
end
section
open Go Go.Proofs
namespace Go.Av
theorem zrB (l : List StD) : zev l [] = l := rfl
theorem zuT (l more : List StD) (s : StD) : zev l (more ++ [s]) = if s ∈ zev l more then zev l more else zev l more ++ [s] := by
 unfold zev; rw [List.foldl_append]; rfl
theorem znW (l more : List StD) {i : Nat} (h : i < more.length) : zev l (more.take (i + 1)) = if nth more i ∈ zev l (more.take i) then zev l (more.take i) else zev l (more.take i) ++ [nth more i] := by
 rw [List.take_add_one, List.getElem?_eq_getElem h, zaJ _ _ h, Option.toList_some, zuT]
theorem zg6 : ∀ (more l : List StD), l.length ≤ (zev l more).length ∧ (zev l more).length ≤ l.length + more.length
 | [], l => by simp [zev]
 | s :: more, l => by
  have e : zev l (s :: more) = zev (if s ∈ l then l else l ++ [s]) more := rfl
  rw [e]
  by_cases h : s ∈ l
  ·have := zg6 more l
   rw [if_pos h]; simp; omega
  ·have := zg6 more (l ++ [s])
   rw [if_neg h]; simp at this ⊢; omega
theorem zi1 {P : StD → Prop} : ∀ {more l : List StD}, (∀ s ∈ l, P s) → (∀ s ∈ more, P s) → ∀ s ∈ zev l more, P s
 | [], l, h, _ => h
 | s :: more, l, h, h' => by
  have e : zev l (s :: more) = zev (if s ∈ l then l else l ++ [s]) more := rfl
  rw [e]
  refine zi1 (fun t ht => ?_) (fun t ht => h' t (List.mem_cons_of_mem _ ht))
  split at ht
  ·exact h t ht
  ·rcases List.mem_append.1 ht with ht | ht
   ·exact h t ht
   ·simp at ht; subst ht; exact h' _ (by simp)
def zbR (g : zaf) (p : zaj) (cell : Int) (prog : List (Int × Int)) (n : Nat) : List StD := (prog.take n).foldl (zgN g) [zeM p cell]
theorem zgW (g : zaf) (p : zaj) (cell : Int) (prog : List (Int × Int)) : zbR g p cell prog 0 = [zeM p cell] := rfl
theorem zgV (g : zaf) (p : zaj) (cell : Int) (prog : List (Int × Int)) {n : Nat} (h : n < prog.length) : zbR g p cell prog (n + 1) = zgN g (zbR g p cell prog n) (nth prog n) := by
 unfold zbR
 rw [List.take_add_one, List.getElem?_eq_getElem h, zaJ _ _ h, Option.toList_some, List.foldl_append]; rfl
theorem zgU (g : zaf) (p : zaj) (cell : Int) (prog : List (Int × Int)) : zbR g p cell prog prog.length = zeq g p cell prog := by
 unfold zbR zeq; rw [List.take_length]
def zdb (g : zaf) (now : List StD) (x : Int × Int) (n : Nat) : List StD := (now.take n).foldl (fun next s => zev next (zbY g s x)) []
theorem zmj (g : zaf) (now : List StD) (x : Int × Int) : zdb g now x 0 = [] := rfl
theorem zh9 (g : zaf) (now : List StD) (x : Int × Int) {n : Nat} (h : n < now.length) : zdb g now x (n + 1) = zev (zdb g now x n) (zbY g (nth now n) x) := by
 unfold zdb
 rw [List.take_add_one, List.getElem?_eq_getElem h, zaJ _ _ h, Option.toList_some, List.foldl_append]; rfl
theorem zkt (g : zaf) (now : List StD) (x : Int × Int) : zdb g now x now.length = zgN g now x := by
 unfold zdb zgN; rw [List.take_length]
theorem zns {g : zaf} (hg : GOk g) {now : List StD} {x : Int × Int} (hx : zex g.next.length g.kinds.length g.rights x) {side : Int} (hn : ∀ s ∈ now, zfn g s ∧ s.p.side = side) :
  ∀ n, n ≤ now.length → (∀ s ∈ zdb g now x n, zfn g s ∧ s.p.side = side) ∧ (zdb g now x n).length ≤ 10 * n := by
 intro n
 induction n with
 | zero => intro _; simp [zdb]
 | succ n ih =>
  intro h
  obtain ⟨h1, h2⟩ := ih (by omega)
  have hs := hn _ (zan (show n < now.length by omega))
  rw [zh9 g now x (by omega)]
  refine ⟨zi1 h1 (fun s hs' => ?_), ?_⟩
  ·obtain ⟨k1, k2⟩ := zhE hg hs.1 hx s hs'
   exact ⟨k1, k2.trans hs.2⟩
  ·have k1 := (zg6 (zbY g (nth now n) x) (zdb g now x n)).2
   have k2 := zkM hg (nth now n) x
   omega
theorem zkI {g : zaf} (hg : GOk g) {p : zaj} (hp : POk g p) {cell : Int} (h0 : 0 ≤ cell) (h1 : cell < g.cells) (hm : 0 ≤ (zaq (nth p.at_ cell.toNat)).1) : zfn g (zeM p cell) ∧ (zeM p cell).p.side = p.side := by
 have hat := hp.at (i := cell.toNat) (by omega)
 have hk := zaU hat.1 hat.2 hg.k6
 refine ⟨⟨hp.clr _, h0, h1, ?_⟩, rfl⟩
 simp only [zeM]
 rcases hk with ⟨_, e⟩ | ⟨_, a, b, _⟩
 ·rw [e] at hm; simp at hm
 ·exact ⟨a, b⟩
theorem zhD {g : zaf} (hg : GOk g) {p : zaj} (hp : POk g p) {cell : Int} (h0 : 0 ≤ cell) (h1 : cell < g.cells) (hm : 0 ≤ (zaq (nth p.at_ cell.toNat)).1)
  {prog : List (Int × Int)} (hpr : ∀ x ∈ prog, zex g.next.length g.kinds.length g.rights x) :
  ∀ n, n ≤ prog.length → (∀ s ∈ zbR g p cell prog n, zfn g s ∧ s.p.side = p.side) ∧ (zbR g p cell prog n).length ≤ 10 ^ n := by
 intro n
 induction n with
 | zero => intro _; rw [zgW]; exact ⟨fun s hs => by simp at hs; subst hs; exact zkI hg hp h0 h1 hm, by simp⟩
 | succ n ih =>
  intro h
  obtain ⟨k1, k2⟩ := ih (by omega)
  rw [zgV g p cell prog (by omega), ← zkt]
  obtain ⟨j1, j2⟩ := zns hg (hpr _ (zan (show n < prog.length by omega))) k1 _ (Nat.le_refl _)
  refine ⟨j1, ?_⟩
  rw [Nat.pow_succ]
  omega
theorem zjf {n : Nat} (h : n ≤ 8) : 10 ^ n ≤ 100000000 := by
 have := Nat.pow_le_pow_right (n := 10) (by omega) h
 exact this
def stR (g : zaf) (p : zaj) (cell : Int) (prog : List (Int × Int)) (n : Nat) : List (List AV) := (List.range n).map fun j => [zaQ (zbR g p cell prog j)]
@[go_sem] theorem zrn (g : zaf) (p : zaj) (cell : Int) (prog : List (Int × Int)) (n : Nat) : (stR g p cell prog n).length = n := by simp [stR]
@[go_sem ↓] theorem bel_stR {m : Nat} {g : zaf} {p : zaj} {cell : Int} {prog : List (Int × Int)} {n : Nat} : (∀ r ∈ stR g p cell prog n, ∀ c ∈ r, Bel m c) = True := by
 refine eq_true fun r hr c hc => ?_
 obtain ⟨j, _, rfl⟩ := List.mem_map.1 hr
 simp only [List.mem_cons, List.not_mem_nil, or_false] at hc
 subst hc
 exact of_eq_true zqw
structure zcn (g : zaf) (p : zaj) (cell i : Int) : Prop where
 c0 : 0 ≤ cell
 c1 : cell < g.cells
 man : 0 ≤ (zaq (nth p.at_ cell.toNat)).1
 side : (zaq (nth p.at_ cell.toNat)).2 = p.side
 i0 : 0 ≤ i
 i1 : i < (nth g.kinds (zaq (nth p.at_ cell.toNat)).1.toNat).progs.length
structure TkD where
 p : zaj
 kind : Int
 took : Bool
 deriving DecidableEq
instance : Inhabited TkD := ⟨⟨default, 0, false⟩⟩
def zgY (g : zaf) (side : Int) (t : TkD) (a : Int) : TkD × Bool :=
 let m := zaq (nth t.p.at_ a.toNat)
 if m.2 ≠ 1 - side then (t, false) else
 if (nth g.kinds m.1.toNat).keep = true then
  (⟨(clr t.p a).withHand side ((t.p.hand side).set m.1.toNat (nth (t.p.hand side) m.1.toNat + 1)), t.kind, true⟩, decide (nth (t.p.hand side) m.1.toNat + 1 ≤ 8))
 else (⟨clr t.p a, t.kind, true⟩, true)
def zgR (t : TkD) (a b : Int) : TkD × Bool :=
 if nth t.p.at_ a.toNat = 0 ∨ nth t.p.at_ b.toNat ≠ 0 then (t, false)
 else (⟨{ t.p with at_ := (t.p.at_.set b.toNat (nth t.p.at_ a.toNat)).set a.toNat 0 }, t.kind, t.took⟩, true)
def doA (g : zaf) (side : Int) (t : TkD) (x : zct) : TkD × Bool :=
 if x.1 = 3 then (t, decide (nth t.p.at_ x.2.1.toNat = 0))
 else if x.1 = 4 then (t, decide ((zaq (nth t.p.at_ x.2.1.toNat)).2 = 1 - side))
 else if x.1 = 5 then (t, decide ((zaq (nth t.p.at_ x.2.1.toNat)).2 = side))
 else if x.1 = 6 then zgY g side t x.2.1
 else if x.1 = 7 then zgR t x.2.1 x.2.2
 else if x.1 = 8 then (⟨t.p, x.2.1, t.took⟩, true)
 else if x.1 = 9 then (t, decide (zhO .i64 (t.p.rights.fdiv (2 ^ x.2.1.toNat)) 1 = 1))
 else if x.1 = 10 then (⟨{ t.p with rights := zbz .i64 t.p.rights (2 ^ x.2.1.toNat) }, t.kind, t.took⟩, true)
 else (t, true)
def zdY (g : zaf) (side : Int) : TkD → List zct → Option TkD
 | t, [] => some t
 | t, x :: l => if (doA g side t x).2 = true then zdY g side (doA g side t x).1 l else none
theorem ze0 (g : zaf) (side : Int) : ∀ (l m : List zct) (t : TkD), zdY g side t (l ++ m) = (zdY g side t l).bind fun t => zdY g side t m
 | [], m, t => rfl
 | x :: l, m, t => by
  simp only [List.cons_append, zdY]
  split
  ·exact ze0 g side l m _
  ·rfl
def stT (t : TkD) (c : Int) : StD := ⟨t.p, t.kind, c, t.took⟩
def stW (g : zaf) (side : Int) (t : TkD) (w : za2) : Option StD := (zdY g side t w.acts).map fun t => stT t w.to
theorem znv (g : zaf) (side : Int) (t : TkD) (w : za2) (to : Int) (more : List zct) :
  stW g side t (onP w to more) = ((zdY g side t w.acts).bind fun t => zdY g side t more).map fun t => stT t to := by
 unfold stW onP
 rw [ze0]
theorem zvO (g : zaf) (side : Int) (t : TkD) (c : Int) : doA g side t (3, c, 0) = (t, decide (nth t.p.at_ c.toNat = 0)) := by simp [doA]
theorem zii {g : zaf} {side : Int} {t : TkD} {w : za2} : ∀ {l : List Int} {passed : List zct}, ((zdY g side t w.acts).bind fun t => zdY g side t passed) = none → (zch w l passed).filterMap (stW g side t) = []
 | [], _, _ => rfl
 | c :: l, passed, h => by
  rw [zch, List.filterMap_cons, znv, h]
  refine zii ?_
  cases hd : zdY g side t w.acts with
  | none => rfl
  | some u =>
   rw [hd] at h
   simp only [Option.bind_some] at h ⊢
   rw [ze0, h]; rfl
theorem zmr {g : zaf} {side : Int} {t u : TkD} {w : za2} (hd : zdY g side t w.acts = some u) : ∀ {l : List Int} {passed : List zct}, zdY g side u passed = some u →
  (zch w l passed).filterMap (stW g side t) = zbQ (stT u w.to) l
 | [], _, _ => rfl
 | c :: l, passed, h => by
  rw [zch, List.filterMap_cons, znv, hd, Option.bind_some, h, zbQ]
  simp only [Option.map_some]
  congr 1
  have he : zdY g side u (passed ++ [(3, c, 0)]) = if nth u.p.at_ c.toNat = 0 then some u else none := by
   rw [ze0, h, Option.bind_some]
   simp only [zdY, zvO, decide_eq_true_eq]
  show _ = if nth u.p.at_ c.toNat = 0 then _ else _
  split
  ·rename_i h0
   rw [if_pos h0] at he
   exact zmr hd he
  ·rename_i h0
   rw [if_neg h0] at he
   refine zii ?_
   rw [hd, Option.bind_some, he]
theorem zv1 {g : zaf} {side : Int} {t : TkD} {w : za2} (h : zdY g side t w.acts = none) (x : Int × Int) : (zi8 g.board side w x).filterMap (stW g side t) = [] := by
 have ho : ∀ to more, stW g side t (onP w to more) = none := fun to more => by rw [znv, h]; rfl
 unfold zi8
 split
 ·split
  ·rfl
  ·split <;> simp [ho]
 ·split
  ·exact zii (by rw [h]; rfl)
  ·split <;> simp [ho]
theorem zoH {g : zaf} (hg : GOk g) {side : Int} {t u : TkD} {w : za2} (hd : zdY g side t w.acts = some u) (hs : zfn g (stT u w.to)) (hside : u.p.side = side) {x : Int × Int}
  (hx : zex g.next.length g.kinds.length g.rights x) : (zi8 g.board side w x).filterMap (stW g side t) = zbY g (stT u w.to) x := by
 have ho : ∀ to more, stW g side t (onP w to more) = (zdY g side u more).map fun t => stT t to := fun to more => by rw [znv, hd]; rfl
 have one : ∀ to a, stW g side t (onP w to [a]) = if (doA g side u a).2 = true then some (stT (doA g side u a).1 to) else none := fun to a => by
  rw [ho]; simp only [zdY]; split <;> rfl
 have hsl := hs.p.s
 have hat := hs.p.at (i := w.to.toNat) (by have := hs.c0; have := hs.c1; simp only [stT] at *; omega)
 have hm := zaU hat.1 hat.2 hg.k6
 have hto := zfV hg.board side x.2 w.to
 have ht := hx.op
 simp only [stT] at hsl hat hm
 rw [hside] at hsl
 unfold zbY zi8
 simp only [show (stT u w.to).p = u.p from rfl, show (stT u w.to).cursor = w.to from rfl, hside]
 by_cases h1 : x.1 = 1
 ·simp only [h1, true_or, if_true]
  by_cases hn : toB g.board side x.2 w.to < 0
  ·rw [if_pos hn, show decide (0 ≤ toB g.board side x.2 w.to) = false by simpa using hn]; rfl
  ·rw [if_neg hn, show decide (0 ≤ toB g.board side x.2 w.to) = true by simpa using hn]
   simp only [List.filterMap_cons, ho, zdY, Option.map_some, List.filterMap_nil, zcV, if_true, stT]
 by_cases h7 : x.1 = 7
 ·simp only [h7, or_true, if_true, show ((7 : Int) = 1) = False by decide, show ((7 : Int) = 2) = False by decide, show ((7 : Int) = 3) = False by decide, show ((7 : Int) = 4) = False by decide,
   show ((7 : Int) = 5) = False by decide, show ((7 : Int) = 6) = False by decide, if_false, znu]
  simp only [show (stT u w.to).p = u.p from rfl, show (stT u w.to).cursor = w.to from rfl, hside]
  by_cases hn : toB g.board side x.2 w.to < 0
  ·rw [if_pos hn, if_pos (.inr (.inl hn))]; rfl
  ·rw [if_neg hn]
   simp only [List.filterMap_cons, List.filterMap_nil, one, doA, show ((7 : Int) = 3) = False by decide, show ((7 : Int) = 4) = False by decide, show ((7 : Int) = 5) = False by decide,
    show ((7 : Int) = 6) = False by decide, if_false, if_true, zgR]
   by_cases hc : nth u.p.at_ w.to.toNat = 0 ∨ nth u.p.at_ (toB g.board side x.2 w.to).toNat ≠ 0
   ·have hc' : nth u.p.at_ w.to.toNat = 0 ∨ toB g.board side x.2 w.to < 0 ∨ nth u.p.at_ (toB g.board side x.2 w.to).toNat ≠ 0 := by rcases hc with h | h; exact .inl h; exact .inr (.inr h)
    simp only [if_pos hc, if_pos hc', Bool.false_eq_true, if_false]
   ·have hc' : ¬ (nth u.p.at_ w.to.toNat = 0 ∨ toB g.board side x.2 w.to < 0 ∨ nth u.p.at_ (toB g.board side x.2 w.to).toNat ≠ 0) := by rintro (h | h | h); exact hc (.inl h); exact hn h; exact hc (.inr h)
    simp only [if_neg hc, if_neg hc', if_true, stT, hside]
 rw [if_neg (by omega)]
 by_cases h2 : x.1 = 2
 ·simp only [h2, show ((2 : Int) = 1) = False by decide, if_true, if_false, zkF]
  simp only [show (stT u w.to).p = u.p from rfl, show (stT u w.to).cursor = w.to from rfl, hside]
  exact zmr hd rfl
 rw [if_neg h2, if_neg h1, if_neg h2]
 by_cases h8 : x.1 = 8
 ·simp [h8, one, doA, stT]
 by_cases h9 : x.1 = 9
 ·simp only [h9, one, doA, zcV, show ((9 : Int) = 8) = False by decide, show ((9 : Int) = 10) = False by decide, show ((9 : Int) = 3) = False by decide, show ((9 : Int) = 4) = False by decide, show ((9 : Int) = 5) = False by decide,
   show ((9 : Int) = 6) = False by decide, show ((9 : Int) = 7) = False by decide, if_true, if_false, or_true, true_or, false_or, or_false, List.filterMap_cons, List.filterMap_nil]
  split <;> simp_all [stT]
 by_cases h10 : x.1 = 10
 ·simp [h10, one, doA, stT, hside]
 rw [if_neg (by omega)]
 simp only [one, List.filterMap_cons, List.filterMap_nil]
 by_cases h3 : x.1 = 3
 ·simp only [h3, if_true, doA, zcV]
  rcases hm with ⟨h0, e⟩ | ⟨h0, e1, e2, e3, e4⟩
  ·rw [e]; simp [h0, stT]
  ·rw [if_neg (by simpa using h0), if_neg (by simp; omega)]
 by_cases h4 : x.1 = 4
 ·simp only [h4, show ((4 : Int) = 3) = False by decide, if_true, if_false, doA, zcV]
  rcases hm with ⟨h0, e⟩ | ⟨h0, e1, e2, e3, e4⟩
  ·rw [e, if_neg (by simp; omega), if_neg (by simp)]
  ·by_cases hs' : (zaq (nth u.p.at_ w.to.toNat)).2 = 1 - side
   ·rw [if_pos (by simpa using hs'), if_pos (by simp; omega)]
   ·rw [if_neg (by simpa using hs'), if_neg (by simp; omega)]
 by_cases h5 : x.1 = 5
 ·simp only [h5, show ((5 : Int) = 3) = False by decide, show ((5 : Int) = 4) = False by decide, if_true, if_false, doA, zcV]
  rcases hm with ⟨h0, e⟩ | ⟨h0, e1, e2, e3, e4⟩
  ·rw [e, if_neg (by simp; omega), if_neg (by simp)]
  ·by_cases hs' : (zaq (nth u.p.at_ w.to.toNat)).2 = side
   ·rw [if_pos (by simpa using hs'), if_pos (by simp; omega)]
   ·rw [if_neg (by simpa using hs'), if_neg (by simp; omega)]
 have h6 : x.1 = 6 := by omega
 simp only [h6, show ((6 : Int) = 3) = False by decide, show ((6 : Int) = 4) = False by decide, show ((6 : Int) = 5) = False by decide, if_true, if_false, doA, zgY, znz]
 simp only [show (stT u w.to).p = u.p from rfl, show (stT u w.to).cursor = w.to from rfl, hside]
 rcases hm with ⟨h0, e⟩ | ⟨h0, e1, e2, e3, e4⟩
 ·have hne : (-1 : Int) ≠ 1 - side := by omega
  rw [e]
  simp [hne]
 ·by_cases hs' : (zaq (nth u.p.at_ w.to.toNat)).2 = 1 - side
  ·rw [if_neg (not_not_intro hs'), if_neg (show ¬ ((zaq (nth u.p.at_ w.to.toNat)).1 < 0 ∨ (zaq (nth u.p.at_ w.to.toNat)).2 = side) by omega)]
   by_cases hk : (nth g.kinds (zaq (nth u.p.at_ w.to.toNat)).1.toNat).keep = true
   ·rw [if_pos hk, if_pos hk]
    by_cases h9 : nth (u.p.hand side) (zaq (nth u.p.at_ w.to.toNat)).1.toNat + 1 ≤ 8
    ·have h9' : ¬ 8 < nth (u.p.hand side) (zaq (nth u.p.at_ w.to.toNat)).1.toNat + 1 := by omega
     simp only [h9, h9', decide_true, if_true, if_false, stT]
    ·have h9' : 8 < nth (u.p.hand side) (zaq (nth u.p.at_ w.to.toNat)).1.toNat + 1 := by omega
     simp only [h9, h9', decide_false, if_true, Bool.false_eq_true, if_false]
   ·rw [if_neg hk, if_neg hk]; simp [stT]
  ·rw [if_pos hs', if_pos (show (zaq (nth u.p.at_ w.to.toNat)).1 < 0 ∨ (zaq (nth u.p.at_ w.to.toNat)).2 = side by omega)]; simp
theorem zrA : ∀ {more l : List StD} {s : StD}, s ∈ zev l more ↔ s ∈ l ∨ s ∈ more
 | [], l, s => by simp [zev]
 | m :: more, l, s => by
  show s ∈ zev (if m ∈ l then l else l ++ [m]) more ↔ _
  rw [zrA]
  split
  ·rename_i h
   simp only [List.mem_cons]
   exact ⟨fun h => by rcases h with h | h <;> simp [h], fun h => by rcases h with h | rfl | h; exact .inl h; exact .inl ‹_›; exact .inr h⟩
  ·simp only [List.mem_append, List.mem_cons, List.mem_singleton, List.not_mem_nil, or_false]
   exact or_assoc
theorem zmg (g : zaf) (x : Int × Int) : ∀ (now acc : List StD) (s : StD), s ∈ now.foldl (fun next s => zev next (zbY g s x)) acc ↔ s ∈ acc ∨ ∃ r ∈ now, s ∈ zbY g r x
 | [], acc, s => by simp
 | r :: now, acc, s => by
  rw [List.foldl_cons, zmg g x now, zrA]
  simp only [List.mem_cons, exists_eq_or_imp]
  exact or_assoc
theorem zpf (g : zaf) (x : Int × Int) (now : List StD) (s : StD) : s ∈ zgN g now x ↔ ∃ r ∈ now, s ∈ zbY g r x := by
 unfold zgN
 rw [zmg]; simp
theorem zsd {g : zaf} (hg : GOk g) {side : Int} {t : TkD} : ∀ (prog : List (Int × Int)) (nowP : List za2) (nowS : List StD), (∀ x ∈ prog, zex g.next.length g.kinds.length g.rights x) →
  (∀ s, s ∈ nowP.filterMap (stW g side t) ↔ s ∈ nowS) → (∀ s ∈ nowS, zfn g s ∧ s.p.side = side) →
  ∀ s, s ∈ (prog.foldl (zkL g.board side) nowP).filterMap (stW g side t) ↔ s ∈ prog.foldl (zgN g) nowS
 | [], nowP, nowS, _, h, _, s => h s
 | x :: prog, nowP, nowS, hp, h, hk, s => by
  rw [List.foldl_cons, List.foldl_cons]
  have hx := hp x (by simp)
  refine zsd hg prog _ _ (fun y hy => hp y (by simp [hy])) (fun s => ?_) (fun s hs => ?_) s
  ·rw [zpf]
   unfold zkL
   rw [List.filterMap_flatMap, List.mem_flatMap]
   constructor
   ·rintro ⟨w, hw, hs⟩
    cases hd : zdY g side t w.acts with
    | none => rw [zv1 hd] at hs; simp at hs
    | some u =>
     have hu : stT u w.to ∈ nowS := (h _).1 (List.mem_filterMap.2 ⟨w, hw, by simp [stW, hd]⟩)
     rw [zoH hg hd (hk _ hu).1 (hk _ hu).2 hx] at hs
     exact ⟨_, hu, hs⟩
   ·rintro ⟨r, hr, hs⟩
    obtain ⟨w, hw, e⟩ := List.mem_filterMap.1 ((h r).2 hr)
    unfold stW at e
    cases hd : zdY g side t w.acts with
    | none => rw [hd] at e; simp at e
    | some u =>
     rw [hd] at e
     simp only [Option.map_some, Option.some.injEq] at e
     subst e
     exact ⟨w, hw, by rw [zoH hg hd (hk _ hr).1 (hk _ hr).2 hx]; exact hs⟩
  ·obtain ⟨r, hr, hs⟩ := (zpf g x nowS s).1 hs
   obtain ⟨k1, k2⟩ := zhE hg (hk r hr).1 hx s hs
   exact ⟨k1, k2.trans (hk r hr).2⟩
def zde (p : zaj) (cell : Int) : TkD := ⟨clr p cell, (zaq (nth p.at_ cell.toNat)).1, false⟩
def zt2 (g : zaf) (side : Int) (t : TkD) (w : za2) : Option zcu := (stW g side t w).bind (zgm side)
def znt (g : zaf) (p : zaj) (cell : Int) : List za2 :=
 zbA g.board (zaq (nth p.at_ cell.toNat)).2 (nth g.kinds (zaq (nth p.at_ cell.toNat)).1.toNat).progs cell
def zwO (g : zaf) (p : zaj) (cell : Int) : List zcu := (znt g p cell).filterMap (zt2 g (zaq (nth p.at_ cell.toNat)).2 (zde p cell))
def runO (g : zaf) (p : zaj) (cell : Int) : List zcu := if nth p.at_ cell.toNat = 0 then [] else zbp ziu (zwO g p cell)
def zbM (p : zaj) (s : Int) : zaj := { p with side := s }
def zse (g : zaf) (p : zaj) (cell : Int) : List zcu :=
 if (zaq (nth p.at_ cell.toNat)).1 < 0 then [] else
 zbp ziu ((List.range (nth g.kinds (zaq (nth p.at_ cell.toNat)).1.toNat).progs.length).flatMap fun (i : Nat) => zds g (zbM p (zaq (nth p.at_ cell.toNat)).2) cell i)
def TkD.sd (t : TkD) (s : Int) : TkD := { t with p := zbM t.p s }
theorem zAH (p : zaj) (s side : Int) : (zbM p s).hand side = p.hand side := rfl
theorem zrt (p : zaj) (s side : Int) (l : List Int) : (zbM p s).withHand side l = zbM (p.withHand side l) s := by unfold zaj.withHand; split <;> rfl
theorem doA_sd (g : zaf) (side : Int) (t : TkD) (s : Int) (x : zct) : doA g side (t.sd s) x = ((doA g side t x).1.sd s, (doA g side t x).2) := by
 unfold doA zgY zgR
 simp only [TkD.sd, show (zbM t.p s).at_ = t.p.at_ from rfl, show (zbM t.p s).rights = t.p.rights from rfl, zAH]
 have hc : clr (zbM t.p s) x.2.1 = zbM (clr t.p x.2.1) s := rfl
 rw [hc, zrt]
 split; · rfl
 split; · rfl
 split; · rfl
 split
 ·split; · rfl
  split <;> rfl
 split
 ·split <;> rfl
 split; · rfl
 split; · rfl
 split <;> rfl
theorem zvP (g : zaf) (side : Int) (s : Int) : ∀ (l : List zct) (t : TkD), zdY g side (t.sd s) l = (zdY g side t l).map fun t => t.sd s
 | [], t => rfl
 | x :: l, t => by
  simp only [zdY, doA_sd]
  split
  ·exact zvP g side s l _
  ·rfl
theorem zA4 (g : zaf) (side : Int) (t : TkD) (s : Int) (w : za2) : zt2 g side (t.sd s) w = zt2 g side t w := by
 unfold zt2 stW
 rw [zvP]
 cases zdY g side t w.acts with
 | none => rfl
 | some u => rfl
theorem zpt {g : zaf} (hg : GOk g) {p : zaj} (hp : POk g p) {cell : Int} (h0 : 0 ≤ cell) (h1 : cell < g.cells) : runO g p cell = zse g p cell := by
 have hat := hp.at (i := cell.toNat) (by omega)
 unfold runO zse
 rcases zaU hat.1 hat.2 hg.k6 with ⟨hz, e⟩ | ⟨hz, e1, e2, e3, e4⟩
 ·rw [if_pos hz, e, if_pos (by decide)]
 rw [if_neg hz, if_neg (by omega)]
 generalize hs : (zaq (nth p.at_ cell.toNat)).2 = side at e3 e4
 refine zrm zcm fun o => ?_
 have hq : POk g (zbM p side) := hp.side e3
 have hst : zde p cell = zde p cell := rfl
 have hout : ∀ w, zt2 g side (zde p cell) w = zt2 g side ((zde p cell).sd side) w := fun w => (zA4 g side _ side w).symm
 obtain ⟨progs, hpg⟩ : ∃ l, l = (nth g.kinds (zaq (nth p.at_ cell.toNat)).1.toNat).progs := ⟨_, rfl⟩
 have hkm : nth g.kinds (zaq (nth p.at_ cell.toNat)).1.toNat ∈ g.kinds := zan (by omega)
 have key : ∀ prog ∈ progs, ∀ o, o ∈ (zbF g.board side prog cell).filterMap (zt2 g side (zde p cell)) ↔ o ∈ (zeq g (zbM p side) cell prog).filterMap (zgm side) := by
  intro prog hm o
  have hok := hg.pr _ hkm prog (hpg ▸ hm)
  have hs0 := zkI hg hq h0 h1 (show 0 ≤ (zaq (nth (zbM p side).at_ cell.toNat)).1 from e1)
  have hmem := zsd hg (side := side) (t := (zde p cell).sd side) prog [⟨[], cell⟩] [zeM (zbM p side) cell] hok.st (fun s => by simp [stW, zdY, zde, stT, zeM, TkD.sd, zbM, clr])
   (fun s hs => by rw [List.mem_singleton] at hs; subst hs; exact ⟨hs0.1, hs0.2⟩)
  rw [show zt2 g side (zde p cell) = zt2 g side ((zde p cell).sd side) from funext hout]
  simp only [List.mem_filterMap, zt2, Option.bind_eq_some_iff]
  constructor
  ·rintro ⟨w, hw, s, h3, h4⟩
   exact ⟨s, (hmem s).1 (List.mem_filterMap.2 ⟨w, hw, h3⟩), h4⟩
  ·rintro ⟨s, h3, h4⟩
   obtain ⟨w, hw, h5⟩ := List.mem_filterMap.1 ((hmem s).2 h3)
   exact ⟨w, hw, s, h5, h4⟩
 have e5 : zwO g p cell = progs.flatMap fun prog => (zbF g.board side prog cell).filterMap (zt2 g side (zde p cell)) := by
  unfold zwO znt zbA
  rw [hs, ← hpg, List.filterMap_flatMap]
 have hr : ∀ i, i < progs.length → zds g (zbM p side) cell (i : Int) = zbp ziu ((zeq g (zbM p side) cell (nth progs i)).filterMap (zgm side)) := fun i _ => by
  unfold zds zbb
  rw [show nth (zbM p side).at_ cell.toNat = nth p.at_ cell.toNat from rfl, ← hpg]
  rfl
 rw [e5, List.mem_flatMap, List.mem_flatMap]
 rw [← hpg]
 constructor
 ·rintro ⟨prog, hm, h⟩
  obtain ⟨i, hi, rfl⟩ := List.mem_iff_getElem.1 hm
  refine ⟨i, List.mem_range.2 hi, ?_⟩
  rw [hr i hi, zbc, zaJ _ _ hi]
  exact (key _ hm o).1 h
 ·rintro ⟨i, hi, h⟩
  have hi' := List.mem_range.1 hi
  rw [hr i hi', zbc, zaJ _ _ hi'] at h
  exact ⟨_, List.getElem_mem hi', (key _ (List.getElem_mem hi') o).2 h⟩
theorem zgz (a b : zaj) (ha : za0 a) (hb : za0 b) : zaC Tryz.prog 64 [.agg (zad a), .agg (zad b)] (.v (.bool (decide (zbB a b = 0)))) := by
 refine pF Tryz.func64 ?_
 repeat first|with_reducible refine wV fun _=>?_|simp [go_sem]
 refine zBn (zd8 a b ha hb) (by simp [go_sem]) ?_
 repeat first|with_reducible refine wV fun _=>?_|simp [go_sem]
attribute [go_sem ↓] ztk zx4 List.forall_mem_append
theorem zxq {x : AV} (h : Bel 0 x) : ∀ c ∈ [x], Bel 0 c := by simpa using h
theorem zce {n : Nat} (l : List zaj) : Bel n (zaz l) := of_eq_true zvp
def zhs (side : Int) (l : List StD) (n : Nat) : List zcu := ((l.take n).filterMap (zgm side)).foldl (fun a x => zbO x a) []
@[go_sem] theorem zBl (side : Int) (l : List StD) : zhs side l 0 = [] := rfl
def zbE (g : zaf) (p : zaj) (k : Nat) : List zaj := (List.range k).flatMap fun k => (List.range p.at_.length).filterMap fun c => zfA g p k c
def zcJ (g : zaf) (p : zaj) (k c : Nat) : List zaj := zbE g p k ++ (List.range c).filterMap fun c => zfA g p k c
theorem zhV (g : zaf) (p : zaj) (k : Nat) : zcJ g p k p.at_.length = zbE g p (k + 1) := by simp [zcJ, zbE, List.range_succ, List.flatMap_append]
theorem zgI (g : zaf) (p : zaj) (k : Nat) : zcJ g p k 0 = zbE g p k := by simp [zcJ]
theorem zcw (g : zaf) (p : zaj) (k c : Nat) : zcJ g p k (c + 1) = zcJ g p k c ++ (zfA g p k c).toList := by
 simp only [zcJ, List.range_succ, List.filterMap_append, List.append_assoc]
 cases h : zfA g p k c <;> simp [h]
theorem zf4 (g : zaf) (p : zaj) : zbE g p g.kinds.length = zvQ g p := rfl
theorem zeD {α : Type} (f : Nat → List α) (m : Nat) (hf : ∀ k, (f k).length ≤ m) : ∀ n, ((List.range n).flatMap f).length ≤ n * m
 | 0 => by simp
 | n + 1 => by
  have := zeD f m hf n
  have := hf n
  simp only [List.range_succ, List.flatMap_append, List.length_append, List.flatMap_cons, List.flatMap_nil, List.append_nil, Nat.add_mul, Nat.one_mul]
  omega
theorem zeB (g : zaf) (p : zaj) (k : Nat) : (zbE g p k).length ≤ k * p.at_.length :=
 zeD _ _ (fun k => Nat.le_trans (List.length_filterMap_le _ _) (by simp)) k
theorem zf3 (g : zaf) (p : zaj) (k c : Nat) : (zcJ g p k c).length ≤ k * p.at_.length + c := by
 have h1 := zeB g p k
 have h2 : ((List.range c).filterMap fun c => zfA g p k c).length ≤ c := Nat.le_trans (List.length_filterMap_le _ _) (by simp)
 simp only [zcJ, List.length_append]
 omega
theorem zi6 {g : zaf} (hg : GOk g) {p : zaj} (hp : POk g p) {k c : Nat} (hk : k < g.kinds.length) {q : zaj} (h : zfA g p k c = some q) : POk g q ∧ q.side = 1 - p.side := by
 unfold zfA at h
 split at h
 ·cases h
 ·rename_i hc
  simp only [Option.some.injEq] at h
  subst h
  have k6 := hg.k6
  have hcode : zaD k p.side = 1 + 2 * k + p.side := zor (K := g.kinds.length) ⟨by omega, by omega⟩ k6 hp.s
  have hs := hp.s
  have hh := hp.hand p.side
  have hl := hh.len
  have hv := hh.v k (by omega)
  refine ⟨POk.side (POk.withHand (hp.setAt c (by rw [hcode]; omega)) _ (hh.set k ?_ ?_)) (by omega), rfl⟩
  ·simp only [not_or] at hc; omega
  ·intro _; exact hv.2.2 (by simp only [not_or] at hc; omega)
theorem znk {g : zaf} (hg : GOk g) {p : zaj} (hp : POk g p) {cell : Int} (h0 : 0 ≤ cell) (h1 : cell < g.cells) (hm : 0 ≤ (zaq (nth p.at_ cell.toNat)).1) :
  (zaq (nth p.at_ cell.toNat)).1.toNat < g.kinds.length := by
 have hat := hp.at (i := cell.toNat) (by omega)
 rcases zaU hat.1 hat.2 hg.k6 with ⟨_, e⟩ | ⟨_, a, b, _⟩
 ·rw [e] at hm; simp at hm
 ·omega
theorem zwS {g : zaf} (hg : GOk g) {p : zaj} (hp : POk g p) {cell i : Int} (hc : zcn g p cell i) : znN g.next.length g.kinds.length g.rights (zbb g p cell i) :=
 hg.pr _ (zan (znk hg hp hc.c0 hc.c1 hc.man)) _ (zan (by have := hc.i0; have := hc.i1; omega))
theorem zjc {g : zaf} (hg : GOk g) {p : zaj} (hp : POk g p) {cell i : Int} (hc : zcn g p cell i) :
  (∀ s ∈ zeq g p cell (zbb g p cell i), zfn g s ∧ s.p.side = p.side) ∧ (zeq g p cell (zbb g p cell i)).length ≤ 100000000 := by
 have hpg := zwS hg hp hc
 have h := zhD hg hp hc.c0 hc.c1 hc.man hpg.st _ (Nat.le_refl _)
 rw [zgU] at h
 exact ⟨h.1, Nat.le_trans h.2 (zjf hpg.len)⟩
theorem zwV {g : zaf} (hg : GOk g) {s : StD} (hs : zfn g s) {side : Int} (hsd : side = 0 ∨ side = 1) {o : zcu} (h : zgm side s = some o) : POk g o.pos ∧ o.pos.side = 1 - side := by
 unfold zgm at h
 split at h
 ·simp only [Option.some.injEq] at h
  subst h
  have hc : zaD s.kind side = 1 + 2 * s.kind + side := zor (K := g.kinds.length) hs.k hg.k6 hsd
  have hk := hs.k
  exact ⟨POk.side (hs.p.setAt _ (by rw [hc]; omega)) (by omega), rfl⟩
 ·cases h
theorem zza {g : zaf} (hg : GOk g) {p : zaj} (hp : POk g p) {cell i : Int} (hc : zcn g p cell i) : ∀ o ∈ zds g p cell i, POk g o.pos ∧ o.pos.side = 1 - p.side := by
 intro o ho
 unfold zds at ho
 rw [zbc] at ho
 obtain ⟨s, hs, h⟩ := List.mem_filterMap.1 ho
 exact zwV hg ((zjc hg hp hc).1 s hs).1 hp.s h
theorem zkB {g : zaf} (hg : GOk g) {p : zaj} (hp : POk g p) {cell i : Int} (hc : zcn g p cell i) : (zds g p cell i).length ≤ 100000000 := by
 unfold zds
 have h1 := zdL ziu ((zeq g p cell (zbb g p cell i)).filterMap (zgm p.side))
 have h2 : ((zeq g p cell (zbb g p cell i)).filterMap (zgm p.side)).length ≤ (zeq g p cell (zbb g p cell i)).length := List.length_filterMap_le _ _
 have h3 := (zjc hg hp hc).2
 omega
theorem zfy {g : zaf} {p : zaj} {c i : Nat} (hp : POk g p) (hc : c < p.at_.length) (hm : 0 ≤ (zaq (nth p.at_ c)).1 ∧ (zaq (nth p.at_ c)).2 = p.side)
  (hi : i < (nth g.kinds (zaq (nth p.at_ c)).1.toNat).progs.length) : zcn g p c i := by
 have := hp.al
 exact ⟨by omega, by omega, hm.1, hm.2, by omega, by simp only [Int.toNat_natCast]; omega⟩
theorem zpa {g : zaf} {p : zaj} (hp : POk g p) {o : zcu} : o ∈ zdC g p ↔ ∃ c i : Nat, zcn g p c i ∧ o ∈ zds g p c i := by
 have hal := hp.al
 unfold zdC
 rw [List.mem_flatMap]
 constructor
 ·rintro ⟨c, hc, ho⟩
  rw [List.mem_range] at hc
  unfold zdk at ho
  split at ho
  ·rename_i hm
   obtain ⟨i, hi, ho⟩ := List.mem_flatMap.1 ho
   rw [List.mem_range] at hi
   exact ⟨c, i, zfy hp hc hm hi, ho⟩
  ·simp at ho
 ·rintro ⟨c, i, hc, ho⟩
  refine ⟨c, ?_, ?_⟩
  ·have := hc.c1; rw [List.mem_range]; omega
  ·have h1 := hc.man
   have h2 := hc.side
   have h3 := hc.i1
   simp only [Int.toNat_natCast] at h1 h2 h3
   unfold zdk
   rw [if_pos ⟨h1, h2⟩]
   exact List.mem_flatMap.2 ⟨i, by rw [List.mem_range]; omega, ho⟩
theorem zr9 {g : zaf} (hg : GOk g) {p : zaj} (hp : POk g p) : ∀ o ∈ zdC g p, POk g o.pos ∧ o.pos.side = 1 - p.side := by
 intro o ho
 obtain ⟨c, i, hc, ho⟩ := (zpa hp).1 ho
 exact zza hg hp hc o ho
theorem zbJ {α : Type} (f : Nat → List α) (m : Nat) : ∀ n, (∀ k, k < n → (f k).length ≤ m) → ((List.range n).flatMap f).length ≤ n * m
 | 0, _ => by simp
 | n + 1, hf => by
  have := zbJ f m n (fun k hk => hf k (by omega))
  have := hf n (by omega)
  simp only [List.range_succ, List.flatMap_append, List.length_append, List.flatMap_cons, List.flatMap_nil, List.append_nil, Nat.add_mul, Nat.one_mul]
  omega
theorem zt3 {g : zaf} (hg : GOk g) {p : zaj} (hp : POk g p) {c : Nat} (hc : c < p.at_.length) : (zdk g p c).length ≤ 800000000 := by
 unfold zdk
 split
 ·rename_i hm
  have hal := hp.al
  have hk := znk hg hp (cell := c) (by omega) (by omega) (by simpa using hm.1)
  simp only [Int.toNat_natCast] at hk
  have h8 := hg.pn _ (zan hk)
  have h1 := zbJ (fun (i : Nat) => zds g p c i) 100000000 (nth g.kinds (zaq (nth p.at_ c)).1.toNat).progs.length (fun i hi => zkB hg hp (zfy hp hc hm hi))
  have h2 : (nth g.kinds (zaq (nth p.at_ c)).1.toNat).progs.length * 100000000 ≤ 8 * 100000000 := Nat.mul_le_mul_right _ h8
  omega
 ·simp
theorem zpj {g : zaf} (hg : GOk g) {p : zaj} (hp : POk g p) {k : Nat} (hk : k ≤ p.at_.length) : ((List.range k).flatMap (zdk g p)).length ≤ 7200000000 := by
 have hal := hp.al
 have c9 := hg.c9
 have h1 := zbJ (zdk g p) 800000000 k (fun c hc => zt3 hg hp (by omega))
 have h2 : k * 800000000 ≤ 9 * 800000000 := Nat.mul_le_mul_right _ (by omega)
 omega
theorem zkp {g : zaf} (hg : GOk g) {p : zaj} (hp : POk g p) : (zdC g p).length ≤ 7200000000 := zpj hg hp (Nat.le_refl _)
theorem zov {g : zaf} (hg : GOk g) {p : zaj} (hp : POk g p) : ∀ q ∈ zcK g p, POk g q ∧ q.side = 1 - p.side := by
 intro q hq
 unfold zcK at hq
 rw [zbc] at hq
 obtain ⟨k, hk, hq⟩ := List.mem_flatMap.1 hq
 obtain ⟨c, hc, hq⟩ := List.mem_filterMap.1 hq
 exact zi6 hg hp (by simpa using hk) hq
theorem zf5 {g : zaf} (hg : GOk g) {p : zaj} (hp : POk g p) : (zcK g p).length ≤ 54 := by
 have h1 := zdL zbB (zvQ g p)
 have h2 := zeB g p g.kinds.length
 rw [zf4] at h2
 have hal := hp.al
 have c9 := hg.c9
 have h3 : g.kinds.length * p.at_.length ≤ 6 * 9 := Nat.mul_le_mul hg.k6 (by omega)
 unfold zcK
 omega
theorem zpd {g : zaf} (hg : GOk g) {p : zaj} (hp : POk g p) : ∀ q ∈ zdH g p, POk g q ∧ q.side = 1 - p.side := by
 intro q hq
 unfold zdH at hq
 rcases List.mem_append.1 hq with hq | hq
 ·obtain ⟨o, ho, rfl⟩ := List.mem_map.1 hq
  exact zr9 hg hp o (List.mem_filter.1 ho).1
 ·split at hq
  ·simp at hq
  ·exact zov hg hp q hq
theorem zme {g : zaf} (hg : GOk g) {p : zaj} (hp : POk g p) : (zdH g p).length ≤ 7200000054 := by
 have h1 := zkp hg hp
 have h2 := zf5 hg hp
 have h3 : ((zdC g p).filter fun o => !zgl g p || o.took).length ≤ (zdC g p).length := List.length_filter_le _ _
 unfold zdH
 rw [List.length_append, List.length_map]
 split <;> simp <;> omega
theorem zc8 {g : zaf} (hg : GOk g) {p : zaj} (hp : POk g p) : ∀ q ∈ zaH g p, POk g q ∧ q.side = 1 - p.side := by
 intro q hq
 unfold zaH at hq
 split at hq
 ·simp at hq
 ·exact zpd hg hp q (zbc.1 hq)
theorem zh5 {g : zaf} (hg : GOk g) {p : zaj} (hp : POk g p) : (zaH g p).length ≤ 7200000054 := by
 unfold zaH
 split
 ·simp
 ·exact Nat.le_trans (zdL _ _) (zme hg hp)
theorem zfY (p : zaj) (side : Int) (l : List Int) : (p.withHand side l).at_ = p.at_ := by
 unfold zaj.withHand
 split <;> rfl
theorem zrS {g : zaf} (hg : GOk g) {side : Int} (hs : side = 0 ∨ side = 1) {t : TkD} (ht : POk g t.p) {x : zct} (hx : zdg g.cells g.kinds.length g.rights x) (h : (doA g side t x).2 = true) : POk g (doA g side t x).1.p := by
 obtain ⟨op, a, b⟩ := x
 unfold zdg at hx
 simp only at hx
 rcases (show op = 3 ∨ op = 4 ∨ op = 5 ∨ op = 6 ∨ op = 7 ∨ op = 8 ∨ op = 9 ∨ op = 10 by omega) with rfl | rfl | rfl | rfl | rfl | rfl | rfl | rfl
 ·exact ht
 ·exact ht
 ·exact ht
 ·have hat := ht.at (i := a.toNat) (by omega)
  have hman := zaU hat.1 hat.2 hg.k6
  have hdo : doA g side t (6, a, b) = zgY g side t a := rfl
  rw [hdo] at h ⊢
  unfold zgY at h ⊢
  simp only at h ⊢
  split
  ·exact ht
  ·rename_i hm
   rw [if_neg hm] at h
   split
   ·rename_i hk
    rw [if_pos hk] at h
    simp only [decide_eq_true_eq] at h
    have hk1 : (zaq (nth t.p.at_ a.toNat)).1.toNat < g.kinds.length := by
     rcases hman with ⟨_, e⟩ | ⟨_, e1, e2, _⟩
     ·rw [e] at hm
      simp at hm
      omega
     ·omega
    have hh := ht.hand side
    have hv := hh.v _ (show (zaq (nth t.p.at_ a.toNat)).1.toNat < (t.p.hand side).length by rw [hh.len]; exact hk1)
    exact (ht.clr a).withHand side (hh.set _ ⟨by omega, h⟩ (fun _ => hk))
   ·exact ht.clr a
 ·have hdo : doA g side t (7, a, b) = zgR t a b := rfl
  rw [hdo]
  unfold zgR
  split
  ·exact ht
  ·have hat := ht.at (i := a.toNat) (by omega)
   exact (ht.setAt b.toNat hat).setAt a.toNat ⟨by omega, by omega⟩
 ·exact ht
 ·exact ht
 ·have h0 := ht.r0
  have h1 := ht.r1
  have hr : (2 : Int) ^ g.rights.toNat ≤ 16 := by
   have r0 := hg.r0
   have r4 := hg.r4
   rcases (show g.rights.toNat = 0 ∨ g.rights.toNat = 1 ∨ g.rights.toNat = 2 ∨ g.rights.toNat = 3 ∨ g.rights.toNat = 4 by omega) with e | e | e | e | e <;> rw [e] <;> decide
  have r4 := hg.r4
  have hn := zn6 h0 (show t.p.rights < 16 by omega) (show a.toNat < 4 by omega)
  exact ⟨ht.al, ht.av, ht.h0, ht.h1, hn.1, by simp only [doA]; exact Int.lt_of_le_of_lt hn.2 h1, ht.s⟩
theorem zm6 {g : zaf} (hg : GOk g) {side : Int} (hs : side = 0 ∨ side = 1) : ∀ {l : List zct} {t u : TkD}, POk g t.p → (∀ a ∈ l, zdg g.cells g.kinds.length g.rights a) → zdY g side t l = some u → POk g u.p
 | [], t, u, ht, _, h => by simp only [zdY, Option.some.injEq] at h; subst h; exact ht
 | x :: l, t, u, ht, hl, h => by
  simp only [zdY] at h
  split at h
  ·rename_i hd
   exact zm6 hg hs (zrS hg hs ht (hl x (by simp)) hd) (fun a ha => hl a (by simp [ha])) h
  ·cases h
abbrev Inc (l : List zaj) : Prop := l.Pairwise (fun a b => zbB a b < 0)
theorem Inc.lt {l : List zaj} (h : Inc l) {i j : Nat} (hij : i < j) (hj : j < l.length) : zbB (nth l i) (nth l j) < 0 := by
 rw [zaJ _ _ (by omega), zaJ _ _ hj]
 exact List.pairwise_iff_getElem.1 h _ _ _ _ hij
theorem Inc.sign {l : List zaj} (h : Inc l) {i j : Nat} (hi : i < l.length) (hj : j < l.length) : (zbB (nth l i) (nth l j) = 0 ↔ i = j) ∧ (zbB (nth l i) (nth l j) < 0 ↔ i < j) := by
 have hs := zbd.swap (nth l i) (nth l j)
 rcases Nat.lt_trichotomy i j with h' | h' | h'
 ·have := h.lt h' hj
  exact ⟨⟨by omega, by omega⟩, ⟨by omega, by omega⟩⟩
 ·subst h'
  have := (zbd.eq (nth l i) (nth l i)).2 rfl
  exact ⟨⟨by omega, by omega⟩, ⟨by omega, by omega⟩⟩
 ·have := h.lt h' hi
  exact ⟨⟨by omega, by omega⟩, ⟨by omega, by omega⟩⟩
theorem Inc.inj {l : List zaj} (h : Inc l) {i j : Nat} (hi : i < l.length) (hj : j < l.length) (e : nth l i = nth l j) : i = j :=
 (h.sign hi hj).1.1 ((zbd.eq _ _).2 e)
theorem ze6 {α : Type} [Inhabited α] {l : List α} {x : α} (h : x ∈ l) : ∃ j, j < l.length ∧ nth l j = x := by
 obtain ⟨j, hj, rfl⟩ := List.getElem_of_mem h
 exact ⟨j, hj, zaJ _ _ hj⟩
theorem zmc {g : zaf} {p q : zaj} : q ∈ zaH g p ↔ zcp g p < 0 ∧ ((∃ o ∈ zdC g p, (zgl g p = true → o.took = true) ∧ o.pos = q) ∨ (zgl g p = false ∧ q ∈ zcK g p)) := by
 unfold zaH
 split
 ·rename_i h
  simp only [List.not_mem_nil, false_iff, not_and]
  intro h'
  omega
 ·rename_i h
  rw [zbc]
  unfold zdH
  rw [List.mem_append, List.mem_map]
  constructor
  ·rintro (⟨o, ho, rfl⟩ | hq)
   ·obtain ⟨h1, h2⟩ := List.mem_filter.1 ho
    refine ⟨by omega, .inl ⟨o, h1, fun hm => ?_, rfl⟩⟩
    rw [hm] at h2
    simpa using h2
   ·split at hq
    ·simp at hq
    ·rename_i hm
     exact ⟨by omega, .inr ⟨by simpa using hm, hq⟩⟩
  ·rintro ⟨_, ⟨o, h1, h2, rfl⟩ | ⟨hm, hq⟩⟩
   ·refine .inl ⟨o, List.mem_filter.2 ⟨h1, ?_⟩, rfl⟩
    cases hm : zgl g p
    ·rfl
    ·simpa using h2 hm
   ·refine .inr ?_
    rw [hm]
    exact hq
theorem zdc {g : zaf} (hg : GOk g) {p : zaj} (hp : POk g p) : p.rights < 16 := by
 have h4 := hg.r4
 have h0 := hg.r0
 have := hp.r1
 have e : (2 : Int) ^ g.rights.toNat ≤ 2 ^ 4 := by
  rcases (show g.rights.toNat = 0 ∨ g.rights.toNat = 1 ∨ g.rights.toNat = 2 ∨ g.rights.toNat = 3 ∨ g.rights.toNat = 4 by omega) with h | h | h | h | h <;> rw [h] <;> decide
 omega
def zqX (a : Int) (n : Nat) : Bool := decide (zhO .i64 a (2 ^ n) = 0)
def zdv (g : zaf) (side : Int) (p : zaj) (x : zct) : List zaj :=
 if x.1 = 6 then (List.range g.kinds.length).flatMap fun (k : Nat) =>
  let q := { p with at_ := p.at_.set x.2.1.toNat (zaD k (1 - side)) }
  let r := if (nth g.kinds k).keep = true then q.withHand side ((q.hand side).set k (nth (q.hand side) k - 1)) else q
  if nth p.at_ x.2.1.toNat = 0 ∧ 0 ≤ nth (r.hand side) k then [r] else []
 else if x.1 = 7 then if nth p.at_ x.2.2.toNat ≠ 0 ∧ nth p.at_ x.2.1.toNat = 0 then [{ p with at_ := (p.at_.set x.2.1.toNat (nth p.at_ x.2.2.toNat)).set x.2.2.toNat 0 }] else []
 else if x.1 = 10 then if zqX p.rights x.2.1.toNat = true then [p, { p with rights := orN .i64 p.rights (2 ^ x.2.1.toNat) }] else []
 else [p]
def zwm : Bool := (List.range 16).all fun (a : Nat) => (List.range 4).all fun (n : Nat) => zqX (zbz .i64 (a : Int) (2 ^ n)) n && (decide ((a : Int) = zbz .i64 (a : Int) (2 ^ n)) || decide ((a : Int) = orN .i64 (zbz .i64 (a : Int) (2 ^ n)) (2 ^ n)))
theorem zo5 : zwm = true := by kernel_rfl
theorem zwn {a : Int} (h0 : 0 ≤ a) (h1 : a < 16) {n : Nat} (hn : n < 4) : zqX (zbz .i64 a (2 ^ n)) n = true ∧ (a = zbz .i64 a (2 ^ n) ∨ a = orN .i64 (zbz .i64 a (2 ^ n)) (2 ^ n)) := by
 have key := zo5
 unfold zwm at key
 have k1 := List.all_eq_true.1 key a.toNat (List.mem_range.2 (by omega))
 have k2 := List.all_eq_true.1 k1 n (List.mem_range.2 hn)
 rw [Int.toNat_of_nonneg h0] at k2
 simp only [Bool.and_eq_true, Bool.or_eq_true, decide_eq_true_eq] at k2
 exact k2
theorem zzb {l : List Int} {i : Nat} {v : Int} : (l.set i v).set i (nth l i) = l := by
 by_cases h : i < l.length
 ·rw [List.set_set, zaJ _ _ h]
  exact List.set_getElem_self h
 ·rw [List.set_set, List.set_eq_of_length_le (by omega)]
theorem zso {l : List Int} {i : Nat} : l.set i (nth l i) = l := by
 by_cases h : i < l.length
 ·rw [zaJ _ _ h]
  exact List.set_getElem_self h
 ·rw [List.set_eq_of_length_le (by omega)]
theorem zBM {p q : zaj} (h1 : p.at_ = q.at_) (h2 : p.h0 = q.h0) (h3 : p.h1 = q.h1) (h4 : p.rights = q.rights) (h5 : p.side = q.side) : p = q := by
 obtain ⟨a, b, c, d, e⟩ := p
 obtain ⟨a', b', c', d', e'⟩ := q
 simp only at h1 h2 h3 h4 h5
 subst h1; subst h2; subst h3; subst h4; subst h5
 rfl
theorem zhl (p : zaj) (side : Int) (l : List Int) : (p.withHand side l).hand side = l := by
 unfold zaj.withHand zaj.hand
 split <;> rfl
theorem zlI {c : Int} {K : Nat} (h0 : 0 ≤ c) (h1 : c ≤ 2 * K) (hK : K ≤ 6) (hc : c ≠ 0) : zaD (zaq c).1 (zaq c).2 = c := by
 rcases zaU h0 h1 hK with ⟨h, _⟩ | ⟨_, a, b, d, e⟩
 ·exact absurd h hc
 ·unfold zaD
  rw [if_pos ⟨⟨by omega, by omega⟩, by omega, by omega⟩]
  omega
theorem zzk {g : zaf} (hg : GOk g) {side : Int} (hs : side = 0 ∨ side = 1) {t : TkD} (ht : POk g t.p) {x : zct} (hx : zdg g.cells g.kinds.length g.rights x) (h : (doA g side t x).2 = true) : t.p ∈ zdv g side (doA g side t x).1.p x := by
 obtain ⟨op, a, b⟩ := x
 unfold zdg at hx
 simp only at hx
 rcases (show op = 3 ∨ op = 4 ∨ op = 5 ∨ op = 6 ∨ op = 7 ∨ op = 8 ∨ op = 9 ∨ op = 10 by omega) with rfl | rfl | rfl | rfl | rfl | rfl | rfl | rfl
 ·exact List.mem_singleton.2 rfl
 ·exact List.mem_singleton.2 rfl
 ·exact List.mem_singleton.2 rfl
 ·have hat := ht.at (i := a.toNat) (by omega)
  have hman := zaU hat.1 hat.2 hg.k6
  have hdo : doA g side t (6, a, b) = zgY g side t a := rfl
  rw [hdo] at h ⊢
  unfold zgY at h ⊢
  simp only at h ⊢
  split
  ·rename_i hm
   rw [if_pos hm] at h
   simp at h
  ·rename_i hm
   rw [if_neg hm] at h
   rcases hman with ⟨_, e⟩ | ⟨hne, e1, e2, e3, e4⟩
   ·rw [e] at hm
    simp at hm
    omega
   ·have hms : (zaq (nth t.p.at_ a.toNat)).2 = 1 - side := by omega
    have hcode : zaD (zaq (nth t.p.at_ a.toNat)).1 (1 - side) = nth t.p.at_ a.toNat := by rw [← hms]; exact zlI hat.1 hat.2 hg.k6 hne
    have hal := ht.al
    obtain ⟨k, hk⟩ : ∃ k : Nat, (zaq (nth t.p.at_ a.toNat)).1 = k := ⟨(zaq (nth t.p.at_ a.toNat)).1.toNat, by omega⟩
    rw [hk] at hcode e2 h ⊢
    rw [Int.toNat_natCast] at h ⊢
    have hkl : k < g.kinds.length := by omega
    have hun : ∀ p : zaj, zdv g side p (6, a, b) = (List.range g.kinds.length).flatMap fun (k : Nat) =>
      let q := { p with at_ := p.at_.set a.toNat (zaD k (1 - side)) }
      let r := if (nth g.kinds k).keep = true then q.withHand side ((q.hand side).set k (nth (q.hand side) k - 1)) else q
      if nth p.at_ a.toNat = 0 ∧ 0 ≤ nth (r.hand side) k then [r] else [] := fun p => rfl
    rw [hun, List.mem_flatMap]
    refine ⟨k, List.mem_range.2 hkl, ?_⟩
    have hh := ht.hand side
    have hkh : k < (t.p.hand side).length := by rw [hh.len]; exact hkl
    have hv := hh.v k hkh
    have hz : nth (t.p.at_.set a.toNat 0) a.toNat = 0 := by
     rw [zcr]
     split
     ·rfl
     ·rename_i hn
      exact absurd ⟨rfl, by omega⟩ hn
    by_cases hkeep : (nth g.kinds k).keep = true
    ·rw [if_pos hkeep]
     simp only [if_pos hkeep]
     have e5 : ((clr t.p a).withHand side ((t.p.hand side).set k (nth (t.p.hand side) k + 1))).at_ = t.p.at_.set a.toNat 0 := zfY _ _ _
     rw [e5]
     have e6 : ∀ (P : zaj) (L A : List Int), ({ (P.withHand side L) with at_ := A } : zaj) = ({ P with at_ := A } : zaj).withHand side L := fun P L A => by unfold zaj.withHand; split <;> rfl
     have e7 : nth ((t.p.hand side).set k (nth (t.p.hand side) k + 1)) k = nth (t.p.hand side) k + 1 := by rw [zcr, if_pos ⟨rfl, hkh⟩]
     have e8 : ∀ (P : zaj) (L M : List Int), (P.withHand side L).withHand side M = P.withHand side M := fun P L M => by unfold zaj.withHand; split <;> rfl
     simp only [e6, zhl, e8, e7, Int.add_sub_cancel, List.set_set, hcode, zso]
     rw [if_pos ⟨hz, hv.1⟩, List.mem_singleton]
     have e10 : ({ (clr t.p a) with at_ := t.p.at_ } : zaj) = t.p := rfl
     rw [e10]
     unfold zaj.withHand zaj.hand
     split <;> rfl
    ·rw [if_neg hkeep]
     simp only [if_neg hkeep]
     have e5 : (clr t.p a).at_ = t.p.at_.set a.toNat 0 := rfl
     rw [e5, hcode, List.set_set, zso]
     have e10 : ({ (clr t.p a) with at_ := t.p.at_ } : zaj) = t.p := rfl
     rw [e10, if_pos ⟨hz, hv.1⟩]
     exact List.mem_singleton.2 rfl
 ·have hdo : doA g side t (7, a, b) = zgR t a b := rfl
  rw [hdo] at h ⊢
  unfold zgR at h ⊢
  split
  ·rename_i hm
   rw [if_pos hm] at h
   simp at h
  ·rename_i hm
   have hal := ht.al
   have hm1 : nth t.p.at_ a.toNat ≠ 0 := fun e => hm (.inl e)
   have hm2 : nth t.p.at_ b.toNat = 0 := Classical.byContradiction fun e => hm (.inr e)
   have hab : a.toNat ≠ b.toNat := fun e => hm1 (by rw [e]; exact hm2)
   have hbl : b.toNat < t.p.at_.length := by omega
   have hal2 : a.toNat < t.p.at_.length := by omega
   have hun : ∀ p : zaj, zdv g side p (7, a, b) = if nth p.at_ b.toNat ≠ 0 ∧ nth p.at_ a.toNat = 0 then [{ p with at_ := (p.at_.set a.toNat (nth p.at_ b.toNat)).set b.toNat 0 }] else [] := fun p => rfl
   rw [hun]
   simp only
   have e1 : nth ((t.p.at_.set b.toNat (nth t.p.at_ a.toNat)).set a.toNat 0) b.toNat = nth t.p.at_ a.toNat := by
    rw [zcr, if_neg (fun h => hab h.1), zcr, if_pos ⟨rfl, hbl⟩]
   have e2 : nth ((t.p.at_.set b.toNat (nth t.p.at_ a.toNat)).set a.toNat 0) a.toNat = 0 := by
    rw [zcr, if_pos ⟨rfl, by rw [List.length_set]; exact hal2⟩]
   rw [e1, e2, if_pos ⟨hm1, rfl⟩, List.mem_singleton]
   refine zBM ?_ rfl rfl rfl rfl
   refine List.ext_getElem (by simp) fun j h1 h2 => ?_
   simp only [List.getElem_set]
   by_cases ej : b.toNat = j
   ·subst ej
    rw [if_pos rfl, ← zaJ _ _ h1]; exact hm2
   ·rw [if_neg ej]
    by_cases ej2 : a.toNat = j
    ·subst ej2
     rw [if_pos rfl, zaJ _ _ h1]
    ·rw [if_neg ej2, if_neg ej2, if_neg ej]
 ·exact List.mem_singleton.2 rfl
 ·exact List.mem_singleton.2 rfl
 ·have h0 := ht.r0
  have h1 := zdc hg ht
  have r4 := hg.r4
  obtain ⟨k1, k2⟩ := zwn h0 h1 (n := a.toNat) (by omega)
  have hun : ∀ p : zaj, zdv g side p (10, a, b) = if zqX p.rights a.toNat = true then [p, { p with rights := orN .i64 p.rights (2 ^ a.toNat) }] else [] := fun p => rfl
  have hdo : (doA g side t (10, a, b)).1.p = { t.p with rights := zbz .i64 t.p.rights (2 ^ a.toNat) } := rfl
  rw [hdo, hun]
  simp only
  rw [if_pos k1]
  rcases k2 with k2 | k2
  ·exact List.mem_cons.2 (.inl (zBM rfl rfl rfl k2 rfl))
  ·exact List.mem_cons.2 (.inr (List.mem_singleton.2 (zBM rfl rfl rfl k2 rfl)))
def zcH (g : zaf) (side : Int) : zaj → List zct → List zaj
 | p, [] => [p]
 | p, x :: l => (zdv g side p x).flatMap fun q => zcH g side q l
theorem zfW (g : zaf) (side : Int) : ∀ (l m : List zct) (p : zaj), zcH g side p (l ++ m) = (zcH g side p l).flatMap fun q => zcH g side q m
 | [], m, p => by simp [zcH]
 | x :: l, m, p => by
  rw [List.cons_append, zcH, zcH, List.flatMap_assoc]
  congr 1
  funext q
  exact zfW g side l m q
theorem zpC (g : zaf) (side : Int) (p : zaj) (x : zct) : zcH g side p [x] = zdv g side p x := by simp [zcH]
theorem zpD {g : zaf} (hg : GOk g) {side : Int} (hs : side = 0 ∨ side = 1) : ∀ {l : List zct} {t u : TkD}, POk g t.p → (∀ a ∈ l, zdg g.cells g.kinds.length g.rights a) → zdY g side t l = some u → t.p ∈ zcH g side u.p l.reverse
 | [], t, u, ht, _, h => by
  simp only [zdY, Option.some.injEq] at h
  subst h
  exact List.mem_singleton.2 rfl
 | x :: l, t, u, ht, hl, h => by
  simp only [zdY] at h
  split at h
  ·rename_i hd
   have h1 := zrS hg hs ht (hl x (by simp)) hd
   have ih := zpD hg hs h1 (fun a ha => hl a (by simp [ha])) h
   rw [List.reverse_cons, zfW, List.mem_flatMap]
   exact ⟨_, ih, by rw [zpC]; exact zzk hg hs ht (hl x (by simp)) hd⟩
  ·cases h
theorem zys (g : zaf) (side : Int) (t : TkD) (x : zct) : (doA g side t x).1.p.side = t.p.side := by
 have hw : ∀ (P : zaj) (L : List Int), (P.withHand side L).side = P.side := fun P L => by unfold zaj.withHand; split <;> rfl
 unfold doA
 repeat' split
 all_goals first | rfl | skip
 ·unfold zgY
  simp only
  repeat' split
  ·rfl
  ·rw [hw]; rfl
  ·rfl
 ·unfold zgR
  split <;> rfl
theorem zou (g : zaf) (side : Int) : ∀ {l : List zct} {t u : TkD}, zdY g side t l = some u → u.p.side = t.p.side
 | [], t, u, h => by simp only [zdY, Option.some.injEq] at h; subst h; rfl
 | x :: l, t, u, h => by
  simp only [zdY] at h
  split at h
  ·rw [zou g side h, zys]
  ·cases h
theorem zyr {g : zaf} {side : Int} {t : TkD} {x : zct} (hx : zdg g.cells g.kinds.length g.rights x) (h : 0 ≤ t.kind ∧ t.kind < g.kinds.length) : 0 ≤ (doA g side t x).1.kind ∧ (doA g side t x).1.kind < g.kinds.length := by
 obtain ⟨op, a, b⟩ := x
 unfold zdg at hx
 simp only at hx
 rcases (show op = 3 ∨ op = 4 ∨ op = 5 ∨ op = 6 ∨ op = 7 ∨ op = 8 ∨ op = 9 ∨ op = 10 by omega) with rfl | rfl | rfl | rfl | rfl | rfl | rfl | rfl
 ·exact h
 ·exact h
 ·exact h
 ·show 0 ≤ (zgY g side t a).1.kind ∧ (zgY g side t a).1.kind < g.kinds.length
  unfold zgY
  simp only
  repeat' split
  all_goals exact h
 ·show 0 ≤ (zgR t a b).1.kind ∧ (zgR t a b).1.kind < g.kinds.length
  unfold zgR
  split <;> exact h
 ·show 0 ≤ a ∧ a < g.kinds.length
  omega
 ·exact h
 ·exact h
theorem zjT {g : zaf} {side : Int} : ∀ {l : List zct} {t u : TkD}, (∀ a ∈ l, zdg g.cells g.kinds.length g.rights a) → zdY g side t l = some u → 0 ≤ t.kind ∧ t.kind < g.kinds.length → 0 ≤ u.kind ∧ u.kind < g.kinds.length
 | [], t, u, _, h, hk => by simp only [zdY, Option.some.injEq] at h; subst h; exact hk
 | x :: l, t, u, hl, h, hk => by
  simp only [zdY] at h
  split at h
  ·exact zjT (fun a ha => hl a (by simp [ha])) h (zyr (hl x (by simp)) hk)
  ·cases h
theorem zo9 {g : zaf} (hg : GOk g) {p : zaj} (hp : POk g p) {o : zcu} : o ∈ zdC g p ↔ ∃ c : Nat, (c : Int) < g.cells ∧ nth p.at_ c ≠ 0 ∧ (zaq (nth p.at_ c)).2 = p.side ∧ o ∈ runO g p c := by
 have hal := hp.al
 rw [zpa hp]
 constructor
 ·rintro ⟨c, i, hc, ho⟩
  have c1 := hc.c1
  have hman := hc.man
  have hside := hc.side
  have hi1 := hc.i1
  simp only [Int.toNat_natCast] at hman hside hi1
  refine ⟨c, c1, fun h0 => ?_, hside, ?_⟩
  ·rw [h0] at hman; exact absurd hman (by decide)
  rw [zpt hg hp (by omega) c1]
  unfold zse
  simp only [Int.toNat_natCast]
  rw [if_neg (by omega), zbc, hside]
  exact List.mem_flatMap.2 ⟨i, List.mem_range.2 (by omega), ho⟩
 ·rintro ⟨c, c1, h0, hside, ho⟩
  rw [zpt hg hp (by omega) c1] at ho
  unfold zse at ho
  simp only [Int.toNat_natCast] at ho
  split at ho
  ·simp at ho
  rename_i hm
  rw [zbc, hside] at ho
  obtain ⟨i, hi, ho⟩ := List.mem_flatMap.1 ho
  exact ⟨c, i, ⟨by omega, c1, by simp only [Int.toNat_natCast]; omega, by simp only [Int.toNat_natCast]; exact hside, by omega, by simp only [Int.toNat_natCast]; exact_mod_cast List.mem_range.1 hi⟩, ho⟩
def zfw (g : zaf) (side : Int) (p : zaj) (k c : Nat) (w : za2) : List zaj :=
 if (zaq (nth p.at_ w.to.toNat)).2 = side then
  ((zcH g side { p with at_ := p.at_.set w.to.toNat 0, side := side } w.acts.reverse).filter fun q => decide (nth q.at_ c = 0)).map fun q => { q with at_ := q.at_.set c (zaD k side) }
 else []
def zeX (g : zaf) (side : Int) (p : zaj) : List zaj :=
 (List.range g.kinds.length).flatMap fun (k : Nat) => (List.range g.cells.toNat).flatMap fun (c : Nat) => (zbA g.board side (nth g.kinds k).progs c).flatMap (zfw g side p k c)
def ziU (side : Int) (p : zaj) (c : Nat) : zaj :=
 let k := (zaq (nth p.at_ c)).1.toNat
 let q := { p with at_ := p.at_.set c 0, side := side }
 q.withHand side ((q.hand side).set k (nth (q.hand side) k + 1))
def zgF (g : zaf) (side : Int) (p : zaj) : List zaj :=
 ((List.range p.at_.length).filter fun c => decide ((zaq (nth p.at_ c)).2 = side) && (nth g.kinds (zaq (nth p.at_ c)).1.toNat).keep).map (ziU side p)
def zdi (g : zaf) (p : zaj) : List zaj := zeX g (1 - p.side) p ++ zgF g (1 - p.side) p
def zyf (side : Int) (p : zaj) : List zaj := ((List.range p.at_.length).filter fun c => decide ((zaq (nth p.at_ c)).2 = side)).map (ziU side p)
def zdj (g : zaf) (p : zaj) : List zaj := zeX g (1 - p.side) p ++ zyf (1 - p.side) p
theorem zyg {g : zaf} (hg : GOk g) {q : zaj} (hq : POk g q) {o : zcu} (ho : o ∈ zdC g q) : q ∈ zeX g q.side o.pos := by
 obtain ⟨c, c1, h0, hside, ho⟩ := (zo9 hg hq).1 ho
 have hal := hq.al
 have hat := hq.at (i := c) (by omega)
 unfold runO at ho
 simp only [Int.toNat_natCast] at ho
 rw [if_neg h0, zbc] at ho
 unfold zwO at ho
 obtain ⟨w, hw, hwo⟩ := List.mem_filterMap.1 ho
 simp only [Int.toNat_natCast] at hwo
 rw [hside] at hwo
 unfold znt at hw
 simp only [Int.toNat_natCast] at hw
 rw [hside] at hw
 rcases zaU hat.1 hat.2 hg.k6 with ⟨hz, _⟩ | ⟨_, e1, e2, e3, _⟩
 ·exact absurd hz h0
 have hcode := zlI hat.1 hat.2 hg.k6 h0
 rw [hside] at hcode
 obtain ⟨k, hk⟩ : ∃ k : Nat, (zaq (nth q.at_ c)).1 = k := ⟨(zaq (nth q.at_ c)).1.toNat, by omega⟩
 rw [hk] at e2 hcode hw
 rw [Int.toNat_natCast] at hw
 have hkl : k < g.kinds.length := by omega
 have hpo := zf7 hg (side := q.side) (zan hkl) (cell := (c : Int)) ⟨by omega, c1⟩ w hw
 unfold zt2 stW at hwo
 cases hd : zdY g q.side (zde q c) w.acts with
 | none => rw [hd] at hwo; simp at hwo
 | some u =>
  rw [hd] at hwo
  simp only [Option.map_some, Option.bind_some] at hwo
  have hst : POk g (zde q c).p := hq.clr c
  have hu := zm6 hg hq.s hst hpo.acts hd
  have hus := zou g q.side hd
  have hun := zpD hg hq.s hst hpo.acts hd
  have hts : (zde q c).p.side = q.side := rfl
  rw [hts] at hus
  have hual := hu.al
  have hto := hpo.to
  unfold zgm at hwo
  split at hwo
  ·rename_i hz
   simp only [stT] at hz hwo
   simp only [Option.some.injEq] at hwo
   subst hwo
   simp only
   unfold zeX
   refine List.mem_flatMap.2 ⟨k, List.mem_range.2 hkl, List.mem_flatMap.2 ⟨c, List.mem_range.2 (by omega), List.mem_flatMap.2 ⟨w, hw, ?_⟩⟩⟩
   unfold zfw
   have hn : nth (u.p.at_.set w.to.toNat (zaD u.kind q.side)) w.to.toNat = zaD u.kind q.side := by rw [zcr, if_pos ⟨rfl, by omega⟩]
   have hkind : 0 ≤ u.kind ∧ u.kind < g.kinds.length := zjT hpo.acts hd (by show 0 ≤ (zaq (nth q.at_ (c : Int).toNat)).1 ∧ (zaq (nth q.at_ (c : Int).toNat)).1 < g.kinds.length; rw [Int.toNat_natCast, hk]; omega)
   have hk6 := hg.k6
   have hms : (zaq (zaD u.kind q.side)).2 = q.side := by
    rcases hq.s with h | h <;> rw [h] <;> unfold zaD <;> rw [if_pos ⟨⟨by omega, by omega⟩, by omega, by omega⟩] <;> unfold zaq <;> rw [if_pos (by omega)] <;> simp only <;> rw [Int.tmod_eq_emod_of_nonneg (by omega)] <;> omega
   rw [hn, if_pos hms]
   have hlift : ({ u.p with at_ := (u.p.at_.set w.to.toNat (zaD u.kind q.side)).set w.to.toNat 0, side := q.side } : zaj) = u.p := by
    refine zBM ?_ rfl rfl rfl hus.symm
    simp only
    rw [List.set_set]
    conv => lhs; rw [← hz]
    rw [zaJ _ _ (by omega)]
    exact List.set_getElem_self _
   have hl2 : ({ ({ u.p with at_ := u.p.at_.set w.to.toNat (zaD u.kind q.side), side := 1 - q.side } : zaj) with at_ := (u.p.at_.set w.to.toNat (zaD u.kind q.side)).set w.to.toNat 0, side := q.side } : zaj) = u.p := hlift
   refine List.mem_map.2 ⟨(zde q c).p, List.mem_filter.2 ⟨?_, ?_⟩, ?_⟩
   ·have := hun
    rw [← hlift] at this
    exact this
   ·rw [decide_eq_true_eq]
    show nth (q.at_.set (c : Int).toNat 0) c = 0
    rw [Int.toNat_natCast, zcr, if_pos ⟨rfl, by omega⟩]
   ·refine zBM ?_ rfl rfl rfl rfl
    show (q.at_.set (c : Int).toNat 0).set c (zaD k q.side) = q.at_
    rw [Int.toNat_natCast, hcode, zzb]
  ·cases hwo
theorem zvC {g : zaf} (hg : GOk g) {q : zaj} (hq : POk g q) {p : zaj} (hp : p ∈ zcK g q) : q ∈ zgF g q.side p := by
 unfold zcK at hp
 rw [zbc] at hp
 obtain ⟨k, hk, hp⟩ := List.mem_flatMap.1 hp
 obtain ⟨c, hc, hp⟩ := List.mem_filterMap.1 hp
 have hk := List.mem_range.1 hk
 have hc := List.mem_range.1 hc
 have hh := hq.hand q.side
 have hkh : k < (q.hand q.side).length := by rw [hh.len]; exact hk
 have hv := hh.v k hkh
 have hk6 := hg.k6
 unfold zfA at hp
 split at hp
 ·cases hp
 rename_i hn
 have hn1 : nth (q.hand q.side) k ≠ 0 := fun h => hn (.inl h)
 have hn2 : nth q.at_ c = 0 := Classical.byContradiction fun h => hn (.inr h)
 simp only [Option.some.injEq] at hp
 have hkeep := hv.2.2 (by omega)
 have hpa : p.at_ = q.at_.set c (zaD k q.side) := by rw [← hp]; exact zfY _ _ _
 have hpn : nth p.at_ c = zaD k q.side := by rw [hpa, zcr, if_pos ⟨rfl, hc⟩]
 have hm : zaq (zaD k q.side) = ((k : Int), q.side) := by
  rcases hq.s with h | h <;> rw [h] <;> unfold zaD <;> rw [if_pos ⟨⟨by omega, by omega⟩, by omega, by omega⟩] <;> unfold zaq <;> rw [if_pos (by omega)] <;> refine Prod.ext ?_ ?_ <;> simp only
  ·rw [Int.tdiv_eq_ediv_of_nonneg (by omega)]; omega
  ·rw [Int.tmod_eq_emod_of_nonneg (by omega)]; omega
  ·rw [Int.tdiv_eq_ediv_of_nonneg (by omega)]; omega
  ·rw [Int.tmod_eq_emod_of_nonneg (by omega)]; omega
 unfold zgF
 refine List.mem_map.2 ⟨c, List.mem_filter.2 ⟨List.mem_range.2 (by rw [hpa, List.length_set]; exact hc), ?_⟩, ?_⟩
 ·rw [hpn, hm]
  simp [hkeep]
 ·unfold ziU
  rw [hpn, hm]
  simp only [Int.toNat_natCast]
  rw [← hp]
  have e1 : ∀ (P : zaj) (L : List Int) (s : Int), ({ (P.withHand q.side L) with side := s } : zaj).hand q.side = L := fun P L s => by unfold zaj.withHand zaj.hand; split <;> rfl
  have e2 : ∀ (P : zaj) (L : List Int), (P.withHand q.side L).at_ = P.at_ := fun P L => zfY _ _ _
  have e3 : ∀ (P : zaj) (L A M : List Int) (s s2 : Int), ({ ({ (P.withHand q.side L) with side := s } : zaj) with at_ := A, side := s2 } : zaj).withHand q.side M = ({ P with at_ := A, side := s2 } : zaj).withHand q.side M := fun P L A M s s2 => by unfold zaj.withHand; split <;> rfl
  have e4 : ∀ (P : zaj) (L A : List Int) (s s2 : Int), ({ ({ (P.withHand q.side L) with side := s } : zaj) with at_ := A, side := s2 } : zaj).hand q.side = L := fun P L A s s2 => by unfold zaj.withHand zaj.hand; split <;> rfl
  rw [e4, e3]
  have e5 : nth ((q.hand q.side).set k (nth (q.hand q.side) k - 1)) k = nth (q.hand q.side) k - 1 := by rw [zcr, if_pos ⟨rfl, hkh⟩]
  have e6 : ((q.hand q.side).set k (nth (q.hand q.side) k - 1)).set k (nth (q.hand q.side) k - 1 + 1) = q.hand q.side := by
   rw [List.set_set, Int.sub_add_cancel, zaJ _ _ hkh]
   exact List.set_getElem_self hkh
  rw [e5, e6]
  simp only [e2]
  have e7 : (q.at_.set c (zaD k q.side)).set c 0 = q.at_ := by
   rw [List.set_set]
   conv => lhs; rw [← hn2]
   rw [zaJ _ _ hc]
   exact List.set_getElem_self _
  rw [e7]
  unfold zaj.withHand zaj.hand
  split <;> rfl
theorem zon {g : zaf} (hg : GOk g) {q p : zaj} (hq : POk g q) (hp : p ∈ zaH g q) : q ∈ zeX g (1 - p.side) p ∨ q ∈ zgF g (1 - p.side) p := by
 have hps : 1 - p.side = q.side := by
  have := (zc8 hg hq p hp).2
  omega
 rw [hps]
 rcases (zmc.1 hp).2 with ⟨o, ho, _, rfl⟩ | ⟨_, hd⟩
 ·exact .inl (zyg hg hq ho)
 ·exact .inr (zvC hg hq hd)
def zaG (g : zaf) (p : zaj) : List zaj := (zbp zbB (zdi g p)).filter fun q => zeI g q && decide (p ∈ zaH g q)
theorem zb9 {g : zaf} (hg : GOk g) {p q : zaj} : q ∈ zaG g p ↔ POk g q ∧ p ∈ zaH g q := by
 unfold zaG
 rw [List.mem_filter, zbc, Bool.and_eq_true, decide_eq_true_eq, ze8]
 constructor
 ·rintro ⟨_, h⟩; exact h
 ·rintro ⟨h1, h2⟩
  refine ⟨?_, h1, h2⟩
  unfold zdi
  exact List.mem_append.2 (zon hg h1 h2)
theorem zbN (g : zaf) (p : zaj) : Inc (zaG g p) := List.Pairwise.filter _ (zhC zbd _)
def zbG (g : zaf) (p : zaj) : List zaj × Int := if 4000 < (zaG g p).length then ([], 2) else (zaG g p, 0)
def zb5 (g : zaf) : Nat → List zaj → List zaj × Int
 | 0, l => (l, 0)
 | n + 1, l => if l.all (fun q => decide ((zaG g q).length ≤ 4000)) = true then
   if 4000 < (zbp zbB (l.flatMap (zaG g))).length then ([], 2) else zb5 g n (zbp zbB (l.flatMap (zaG g)))
  else ([], 2)
def zcW (g : zaf) (p : zaj) (n : Int) : List zaj × Int := if n < 0 ∨ 6 < n then ([], 1) else zb5 g n.toNat [p]
theorem zdn {g : zaf} (hg : GOk g) {p q : zaj} (h : q ∈ zaG g p) : POk g q := ((zb9 hg).1 h).1
theorem zqA (g : zaf) (p : zaj) : zcW g p 0 = ([p], 0) := rfl
theorem zmt {l : List zaj} (h : Inc l) : zbp zbB l = l := zek zbd h fun _ => Iff.rfl
structure znU (g : zaf) : Prop where
 ok : GOk g
 c4 : g.cells ≤ 4
 k1 : g.kinds.length = 1
 keep : ∀ k ∈ g.kinds, k.keep = false
 r1 : g.rights ≤ 1
def zaT : Nat → List (List Int)
 | 0 => [[]]
 | c + 1 => (zaT c).flatMap fun l => [l ++ [0], l ++ [1], l ++ [2]]
theorem ze5 : ∀ {c : Nat} {l : List Int}, l ∈ zaT c ↔ l.length = c ∧ ∀ x ∈ l, 0 ≤ x ∧ x ≤ 2
 | 0, l => by
  simp only [zaT, List.mem_singleton]
  constructor
  ·rintro rfl; simp
  ·rintro ⟨h, _⟩; exact List.length_eq_zero_iff.1 h
 | c + 1, l => by
  simp only [zaT, List.mem_flatMap]
  constructor
  ·rintro ⟨m, hm, h⟩
   obtain ⟨h1, h2⟩ := ze5.1 hm
   simp only [List.mem_cons, List.not_mem_nil, or_false] at h
   rcases h with rfl | rfl | rfl <;> refine ⟨by simp [h1], fun x hx => ?_⟩ <;> rcases List.mem_append.1 hx with hx | hx <;> first | exact h2 x hx | (simp only [List.mem_singleton] at hx; omega)
  ·rintro ⟨h1, h2⟩
   have hne : l ≠ [] := by intro h; rw [h] at h1; simp at h1
   have e := (List.dropLast_concat_getLast hne).symm
   refine ⟨l.dropLast, ze5.2 ⟨by simp [h1], fun x hx => h2 x (List.dropLast_subset l hx)⟩, ?_⟩
   have hl := h2 _ (List.getLast_mem hne)
   simp only [List.mem_cons, List.not_mem_nil, or_false]
   rcases (show l.getLast hne = 0 ∨ l.getLast hne = 1 ∨ l.getLast hne = 2 by omega) with h | h | h <;> rw [h] at e
   ·exact .inl e
   ·exact .inr (.inl e)
   ·exact .inr (.inr e)
def zei (g : zaf) (l : List Int) : List zaj := (List.range (2 ^ g.rights.toNat)).flatMap fun (r : Nat) => [(⟨l, [0], [0], (r : Int), 0⟩ : zaj), ⟨l, [0], [0], (r : Int), 1⟩]
def zb4 (g : zaf) : List zaj := (zaT g.cells.toNat).flatMap (zei g)
theorem zf8 {g : zaf} (h : znU g) {q : zaj} : q ∈ zb4 g ↔ POk g q := by
 have hg := h.ok
 have c1 := hg.c1
 have hk := h.k1
 have r0 := hg.r0
 have r1 := h.r1
 have hpw : ((2 ^ g.rights.toNat : Nat) : Int) = (2 : Int) ^ g.rights.toNat := by
  rcases (show g.rights.toNat = 0 ∨ g.rights.toNat = 1 by omega) with e | e <;> rw [e] <;> rfl
 have hz : zew g [0] := ⟨by rw [hk]; rfl, fun i hi => by
  obtain rfl : i = 0 := by simpa using hi
  exact ⟨by decide, by decide, by intro h0; exact absurd h0 (by decide)⟩⟩
 have hz2 : ∀ l, zew g l → l = [0] := fun l hl => by
  have h1 := hl.len
  rw [hk] at h1
  obtain ⟨x, rfl⟩ := List.length_eq_one_iff.1 h1
  have h2 := hl.v 0 (by simp)
  have h3 := h.keep _ (zan (show 0 < g.kinds.length by omega))
  have h4 : nth [x] 0 = x := rfl
  rw [h4] at h2
  by_cases hx : 0 < x
  ·have := h2.2.2 hx
   rw [h3] at this
   cases this
  ·have : x = 0 := by omega
   rw [this]
 unfold zb4 zei
 simp only [List.mem_flatMap, ze5, List.mem_range, List.mem_cons, List.not_mem_nil, or_false]
 constructor
 ·rintro ⟨l, ⟨h1, h2⟩, r, hr, h3⟩
  have hr2 : (r : Int) < 2 ^ g.rights.toNat := by rw [← hpw]; exact_mod_cast hr
  rcases h3 with rfl | rfl
  ·exact ⟨by show ((l.length : Nat) : Int) = g.cells; omega, fun c hc => by have := h2 c hc; rw [hk]; omega, hz, hz, by simp, hr2, .inl rfl⟩
  ·exact ⟨by show ((l.length : Nat) : Int) = g.cells; omega, fun c hc => by have := h2 c hc; rw [hk]; omega, hz, hz, by simp, hr2, .inr rfl⟩
 ·intro hq
  have hal := hq.al
  have q0 := hq.r0
  have q1 := hq.r1
  refine ⟨q.at_, ⟨by omega, fun c hc => by have := hq.av c hc; rw [hk] at this; omega⟩, q.rights.toNat, by omega, ?_⟩
  have e1 := hz2 _ hq.h0
  have e2 := hz2 _ hq.h1
  obtain ⟨a, b, c, r, s⟩ := q
  simp only at e1 e2 q0
  subst e1
  subst e2
  rw [Int.toNat_of_nonneg q0]
  rcases hq.s with e | e <;> simp only at e <;> subst e
  ·exact .inl rfl
  ·exact .inr rfl
def orOne : Bool := (List.range 5).all fun (r : Nat) => (List.range (2 ^ r)).all fun (a : Nat) => (List.range r).all fun (n : Nat) => decide (0 ≤ orN .i64 (a : Int) (2 ^ n) ∧ orN .i64 (a : Int) (2 ^ n) < 2 ^ r)
theorem zt1 : orOne = true := by kernel_rfl
theorem or_in {r : Nat} (hr : r ≤ 4) {a : Int} (h0 : 0 ≤ a) (h1 : a < 2 ^ r) {n : Nat} (hn : n < r) : 0 ≤ orN .i64 a (2 ^ n) ∧ orN .i64 a (2 ^ n) < 2 ^ r := by
 have key := zt1
 unfold orOne at key
 have hp : (2 : Int) ^ r = ((2 ^ r : Nat) : Int) := by
  rcases (show r = 0 ∨ r = 1 ∨ r = 2 ∨ r = 3 ∨ r = 4 by omega) with h | h | h | h | h <;> subst h <;> decide
 have k1 := List.all_eq_true.1 key r (List.mem_range.2 (by omega))
 have k2 := List.all_eq_true.1 k1 a.toNat (List.mem_range.2 (by omega))
 have k3 := of_decide_eq_true (List.all_eq_true.1 k2 n (List.mem_range.2 hn))
 rwa [Int.toNat_of_nonneg h0] at k3
theorem ziv {g : zaf} (hg : GOk g) {k : Nat} (hk : k < g.kinds.length) {s : Int} (hs : s = 0 ∨ s = 1) : 1 ≤ zaD k s ∧ zaD k s ≤ 2 * g.kinds.length := by
 have := hg.k6
 unfold zaD
 rw [if_pos ⟨⟨by omega, by omega⟩, by omega, by omega⟩]
 omega
def tkP (g : zaf) (side : Int) (p : zaj) (a k : Nat) : zaj :=
 if (nth g.kinds k).keep = true then ({ p with at_ := p.at_.set a (zaD k (1 - side)) } : zaj).withHand side ((p.hand side).set k (nth (p.hand side) k - 1)) else { p with at_ := p.at_.set a (zaD k (1 - side)) }
def tkL (g : zaf) (side : Int) (p : zaj) (a k : Nat) : List zaj := if nth p.at_ a = 0 ∧ 0 ≤ nth ((tkP g side p a k).hand side) k then [tkP g side p a k] else []
theorem zgg {g : zaf} {side : Int} {p : zaj} {x : zct} (h : x.1 = 6) : zdv g side p x = (List.range g.kinds.length).flatMap (tkL g side p x.2.1.toNat) := by
 unfold zdv
 rw [if_pos h]
 rfl
theorem zsr {g : zaf} (hg : GOk g) {side : Int} (hs : side = 0 ∨ side = 1) {p : zaj} (hp : POk g p) {x : zct} (hx : zdg g.cells g.kinds.length g.rights x) : ∀ q ∈ zdv g side p x, POk g q ∧ q.side = p.side := by
 obtain ⟨op, a, b⟩ := x
 unfold zdg at hx
 simp only at hx
 have hal := hp.al
 have hws : ∀ (P : zaj) (s : Int) (l : List Int), (P.withHand s l).side = P.side := fun P s l => by unfold zaj.withHand; split <;> rfl
 intro q hq
 by_cases h6 : op = 6
 ·rw [zgg h6] at hq
  obtain ⟨k, hk, hq⟩ := List.mem_flatMap.1 hq
  have hk := List.mem_range.1 hk
  have hc := ziv hg hk (s := 1 - side) (by omega)
  have h1 : POk g { p with at_ := p.at_.set a.toNat (zaD k (1 - side)) } := hp.setAt _ (by omega)
  have hh := hp.hand side
  have hkl : k < (p.hand side).length := by rw [hh.len]; exact hk
  have hv := hh.v k hkl
  unfold tkL at hq
  simp only at hq
  split at hq
  ·rename_i hcond
   rw [List.mem_singleton] at hq
   subst hq
   have h2 := hcond.2
   unfold tkP at h2 ⊢
   by_cases hkeep : (nth g.kinds k).keep = true
   ·rw [if_pos hkeep] at h2 ⊢
    rw [zhl, zcr, if_pos ⟨rfl, hkl⟩] at h2
    exact ⟨h1.withHand side (hh.set k ⟨h2, by omega⟩ fun _ => hkeep), hws _ _ _⟩
   ·rw [if_neg hkeep]
    exact ⟨h1, rfl⟩
  ·cases hq
 unfold zdv at hq
 rw [if_neg h6] at hq
 by_cases h7 : op = 7
 ·rw [if_pos h7] at hq
  split at hq
  ·simp only [List.mem_singleton] at hq
   subst hq
   have hb := hp.at (i := b.toNat) (by omega)
   exact ⟨(hp.setAt a.toNat hb).setAt b.toNat (by omega), rfl⟩
  ·cases hq
 rw [if_neg h7] at hq
 by_cases h10 : op = 10
 ·rw [if_pos h10] at hq
  split at hq
  ·simp only [List.mem_cons, List.not_mem_nil, or_false] at hq
   rcases hq with rfl | rfl
   ·exact ⟨hp, rfl⟩
   ·have h4 := hg.r4
    obtain ⟨o1, o2⟩ := or_in (r := g.rights.toNat) (by omega) hp.r0 hp.r1 (n := a.toNat) (by omega)
    exact ⟨⟨hp.al, hp.av, hp.h0, hp.h1, o1, o2, hp.s⟩, rfl⟩
  ·cases hq
 rw [if_neg h10] at hq
 simp only [List.mem_singleton] at hq
 subst hq
 exact ⟨hp, rfl⟩
theorem zkT {g : zaf} (hg : GOk g) (side : Int) (p : zaj) (x : zct) : (zdv g side p x).length ≤ if x.1 = 6 then 6 else if x.1 = 10 then 2 else 1 := by
 have hk := hg.k6
 by_cases h6 : x.1 = 6
 ·rw [if_pos h6, zgg h6, List.length_flatMap]
  have := zeP (fun (k : Nat) => (tkL g side p x.2.1.toNat k).length) 1 (List.range g.kinds.length) (fun k _ => by simp only [tkL]; split <;> simp)
  rw [List.length_range] at this
  omega
 unfold zdv
 rw [if_neg h6, if_neg h6]
 by_cases h7 : x.1 = 7
 ·rw [if_pos h7, if_neg (show ¬ x.1 = 10 by omega)]
  split <;> simp
 rw [if_neg h7]
 by_cases h10 : x.1 = 10
 ·rw [if_pos h10, if_pos h10]
  split <;> simp
 rw [if_neg h10, if_neg h10]
 simp
theorem zhH {g : zaf} (hg : GOk g) {side : Int} (hs : side = 0 ∨ side = 1) : ∀ {l : List zct} {p : zaj}, POk g p → (∀ a ∈ l, zdg g.cells g.kinds.length g.rights a) → ∀ q ∈ zcH g side p l, POk g q ∧ q.side = p.side
 | [], p, hp, _, q, hq => by
  simp only [zcH, List.mem_singleton] at hq
  subst hq
  exact ⟨hp, rfl⟩
 | x :: l, p, hp, hl, q, hq => by
  rw [zcH] at hq
  obtain ⟨r, hr, hq⟩ := List.mem_flatMap.1 hq
  obtain ⟨h1, h2⟩ := zsr hg hs hp (hl x (by simp)) r hr
  obtain ⟨h3, h4⟩ := zhH hg hs h1 (fun a ha => hl a (by simp [ha])) q hq
  exact ⟨h3, h4.trans h2⟩
theorem zba {α β : Type} (f : α → List β) (b : Nat) : ∀ l : List α, (∀ a ∈ l, (f a).length ≤ b) → (l.flatMap f).length ≤ l.length * b
 | [], _ => by simp
 | a :: l, h => by
  rw [List.flatMap_cons, List.length_append, List.length_cons, Nat.add_mul, Nat.one_mul]
  have h1 := h a (by simp)
  have h2 := zba f b l fun x hx => h x (by simp [hx])
  omega
theorem zkU {g : zaf} (hg : GOk g) (side : Int) : ∀ (l : List zct) (p : zaj), (zcH g side p l).length ≤ 6 ^ za3 l 6 * 2 ^ za3 l 10
 | [], p => by simp [zcH, za3]
 | x :: l, p => by
  rw [zcH]
  have h1 := zba (fun q => zcH g side q l) (6 ^ za3 l 6 * 2 ^ za3 l 10) (zdv g side p x) fun q _ => zkU hg side l q
  have h2 := zkT hg side p x
  have hc : ∀ op, za3 (x :: l) op = za3 l op + if x.1 = op then 1 else 0 := fun op => by
   unfold za3
   rw [List.countP_cons]
   by_cases h : x.1 = op <;> simp [h]
  rw [hc, hc]
  refine Nat.le_trans h1 (Nat.le_trans (Nat.mul_le_mul_right _ h2) ?_)
  by_cases h6 : x.1 = 6
  ·rw [if_pos h6, if_pos h6, if_neg (by omega), Nat.pow_succ, Nat.add_zero, Nat.mul_comm 6, Nat.mul_assoc, Nat.mul_comm _ 6, ← Nat.mul_assoc]
   exact Nat.le_refl _
  ·rw [if_neg h6, if_neg h6, Nat.add_zero]
   by_cases h10 : x.1 = 10
   ·rw [if_pos h10, if_pos h10, Nat.pow_succ, Nat.mul_comm 2, Nat.mul_assoc]
    exact Nat.le_refl _
   ·rw [if_neg h10, if_neg h10, Nat.one_mul, Nat.add_zero]
    exact Nat.le_refl _
theorem zv0 {b : zaM} {side : Int} {w : za2} {x : Int × Int} : ∀ v ∈ zi8 b side w x, za3 v.acts 10 ≤ za3 w.acts 10 + ztO x 10 := by
 intro v hv
 unfold zi8 at hv
 unfold ztO
 split at hv
 ·rename_i h17
  split at hv
  ·simp at hv
  ·split at hv
   ·simp only [List.mem_singleton] at hv
    subst hv
    simp only [onP, List.append_nil]
    omega
   ·simp only [List.mem_singleton] at hv
    subst hv
    simp only [onP, zbK, zdN]
    rw [if_neg (by decide)]
    omega
 ·split at hv
  ·obtain ⟨more, e1, e2, e3, e4⟩ := zge hv
   rw [List.append_nil] at e1
   rw [e1, zbK, ziw e4 (by omega)]
   omega
  ·split at hv
   ·simp only [List.mem_singleton] at hv
    subst hv
    simp only [onP, zbK, zdN]
    omega
   ·simp only [List.mem_singleton] at hv
    subst hv
    simp only [onP, zbK, zdN]
    omega
theorem zlQ {b : zaM} {side : Int} : ∀ {prog : List (Int × Int)} {now : List za2} {t : Nat}, (∀ w ∈ now, za3 w.acts 10 ≤ t) → ∀ w ∈ prog.foldl (zkL b side) now, za3 w.acts 10 ≤ t + prog.length
 | [], now, t, h, w, hw => by simpa using h w hw
 | x :: prog, now, t, h, w, hw => by
  rw [List.foldl_cons] at hw
  have := zlQ (prog := prog) (now := zkL b side now x) (t := t + 1) (fun v hv => by
   obtain ⟨u, hu, hv⟩ := List.mem_flatMap.1 hv
   have h1 := zv0 v hv
   have h2 := h u hu
   have h3 : ztO x 10 ≤ 1 := by unfold ztO; split <;> omega
   omega) w hw
  simp only [List.length_cons]
  omega
theorem zl3 {g : zaf} (hg : GOk g) {side : Int} {k : zgh} (hk : k ∈ g.kinds) {cell : Int} : ∀ w ∈ zbA g.board side k.progs cell, za3 w.acts 10 ≤ 8 := by
 intro w hw
 obtain ⟨p, hp, hw⟩ := List.mem_flatMap.1 hw
 have ok := (hg.pr k hk p hp).len
 have := zlQ (b := g.board) (side := side) (prog := p) (now := [⟨[], cell⟩]) (t := 0) (fun v hv => by
  simp only [List.mem_singleton] at hv
  subst hv
  simp [za3]) w hw
 omega
theorem zga {a m n : Nat} (ha : 1 ≤ a) (h : m ≤ n) : a ^ m ≤ a ^ n := Nat.pow_le_pow_right ha h
theorem zjJ {g : zaf} (hg : GOk g) {side : Int} {p : zaj} {k c : Nat} (hk : k < g.kinds.length) (hc : (c : Int) < g.cells) : ∀ w ∈ zbA g.board side (nth g.kinds k).progs c, (zcH g side { p with at_ := p.at_.set w.to.toNat 0, side := side } w.acts.reverse).length ≤ 9216 := by
 intro w hw
 have h1 := (zf7 hg (side := side) (zan hk) (cell := (c : Int)) ⟨by omega, hc⟩ w hw).take
 have h2 := zl3 hg (side := side) (zan hk) (cell := (c : Int)) w hw
 have hr : ∀ op, za3 w.acts.reverse op = za3 w.acts op := fun op => by unfold za3; exact List.countP_reverse ..
 have h3 := zkU hg side w.acts.reverse { p with at_ := p.at_.set w.to.toNat 0, side := side }
 rw [hr, hr] at h3
 exact Nat.le_trans h3 (Nat.mul_le_mul (zga (n := 2) (by omega) h1) (zga (n := 8) (by omega) h2))
theorem zye {g : zaf} (hg : GOk g) {side : Int} (hs : side = 0 ∨ side = 1) {p : zaj} (hp : POk g p) : ∀ q ∈ zeX g side p, POk g q := by
 intro q hq
 unfold zeX at hq
 obtain ⟨k, hk, hq⟩ := List.mem_flatMap.1 hq
 obtain ⟨c, hc, hq⟩ := List.mem_flatMap.1 hq
 obtain ⟨w, hw, hq⟩ := List.mem_flatMap.1 hq
 have hk := List.mem_range.1 hk
 have hc := List.mem_range.1 hc
 unfold zfw at hq
 split at hq
 ·obtain ⟨r, hr, rfl⟩ := List.mem_map.1 hq
  have hr := (List.mem_filter.1 hr).1
  have hpo := zf7 hg (side := side) (zan hk) (cell := (c : Int)) ⟨by omega, by omega⟩ w hw
  have h1 : POk g { p with at_ := p.at_.set w.to.toNat 0, side := side } := by
   have := hp.setAt w.to.toNat (v := 0) (by omega)
   exact ⟨this.al, this.av, this.h0, this.h1, this.r0, this.r1, hs⟩
  obtain ⟨h2, _⟩ := zhH hg hs h1 (l := w.acts.reverse) (fun a ha => hpo.acts a (List.mem_reverse.1 ha)) r hr
  have hcd := ziv hg hk hs
  exact h2.setAt c (by omega)
 ·cases hq
theorem zl2 {g : zaf} (hg : GOk g) (hs : zbm g) (side : Int) {k : Nat} (hk : k < g.kinds.length) (c : Int) : (zbA g.board side (nth g.kinds k).progs c).length ≤ 72 := by
 have hkm := zan hk
 have c9 := hg.c9
 have c1 := hg.c1
 have := zba (fun p => zbF g.board side p c) 9 (nth g.kinds k).progs fun p hp => by
  have h := zic hg.board hg.c1 side p c
  have h2 : g.board.cells.toNat ≤ 9 := by have : g.board.cells = g.cells := rfl; omega
  have h1 := hs _ hkm p hp
  rcases (show zaI p 2 = 0 ∨ zaI p 2 = 1 by omega) with e | e <;> rw [e] at h <;> simp at h <;> omega
 have h8 := hg.pn _ hkm
 unfold zbA
 omega
theorem zhR {g : zaf} (hg : GOk g) (hs : zbm g) {p : zaj} (hp : POk g p) : (zdi g p).length ≤ 35831817 := by
 have c9 := hg.c9
 have c1 := hg.c1
 have k6 := hg.k6
 have hal := hp.al
 have h1 : (zeX g (1 - p.side) p).length ≤ 35831808 := by
  have := zba (fun (k : Nat) => (List.range g.cells.toNat).flatMap fun (c : Nat) => (zbA g.board (1 - p.side) (nth g.kinds k).progs c).flatMap (zfw g (1 - p.side) p k c)) (9 * (72 * 9216)) (List.range g.kinds.length) fun k hk => by
   have hk := List.mem_range.1 hk
   have := zba (fun (c : Nat) => (zbA g.board (1 - p.side) (nth g.kinds k).progs c).flatMap (zfw g (1 - p.side) p k c)) (72 * 9216) (List.range g.cells.toNat) fun c hc => by
    have hc := List.mem_range.1 hc
    have h2 := zl2 hg hs (1 - p.side) hk c
    have := zba (zfw g (1 - p.side) p k c) 9216 (zbA g.board (1 - p.side) (nth g.kinds k).progs c) fun w hw => by
     have h3 := zjJ hg (side := 1 - p.side) (p := p) hk (show (c : Int) < g.cells by omega) w hw
     unfold zfw
     split
     ·rw [List.length_map]
      exact Nat.le_trans (List.length_filter_le _ _) h3
     ·simp
    refine Nat.le_trans this ?_
    omega
   rw [List.length_range] at this
   refine Nat.le_trans this ?_
   omega
  rw [List.length_range] at this
  unfold zeX
  omega
 have h2 : (zgF g (1 - p.side) p).length ≤ 9 := by
  unfold zgF
  rw [List.length_map]
  have := List.length_filter_le (fun c => decide ((zaq (nth p.at_ c)).2 = 1 - p.side) && (nth g.kinds (zaq (nth p.at_ c)).1.toNat).keep) (List.range p.at_.length)
  rw [List.length_range] at this
  omega
 unfold zdi
 rw [List.length_append]
 omega
def SzP (g : zaf) (q : zaj) : Prop := (q.at_.length : Int) = g.cells ∧ q.h0.length = g.kinds.length ∧ q.h1.length = g.kinds.length
theorem zrZ {g : zaf} {p : zaj} (hp : POk g p) (side : Int) (c : Nat) : SzP g (ziU side p c) := by
 have h1 := hp.al
 have h2 := hp.h0.len
 have h3 := hp.h1.len
 unfold ziU SzP zaj.withHand zaj.hand
 simp only
 split <;> simp [List.length_set, h1, h2, h3]
theorem zrP {g : zaf} (hg : GOk g) {p : zaj} (hp : POk g p) : (∀ q ∈ zdi g p, SzP g q) ∧ ∀ q ∈ zdj g p, SzP g q := by
 have hs := hp.s
 have hA : ∀ q ∈ zeX g (1 - p.side) p, SzP g q := fun q hq => by
  have := zye hg (side := 1 - p.side) (by omega) hp q hq
  exact ⟨this.al, this.h0.len, this.h1.len⟩
 refine ⟨fun q hq => ?_, fun q hq => ?_⟩
 ·rcases List.mem_append.1 hq with h | h
  ·exact hA q h
  ·obtain ⟨c, _, rfl⟩ := List.mem_map.1 h
   exact zrZ hp _ _
 ·rcases List.mem_append.1 hq with h | h
  ·exact hA q h
  ·obtain ⟨c, _, rfl⟩ := List.mem_map.1 h
   exact zrZ hp _ _
def zrI (g : zaf) (p : zaj) (l : List zaj) (i : Nat) : List zaj := (l.take i).filter fun q => zeI g q && decide (p ∈ zaH g q)
theorem zoj (g : zaf) (p : zaj) (l : List zaj) : zrI g p l 0 = [] := by simp [zrI]
theorem zoi {g : zaf} {p : zaj} {l : List zaj} {i : Nat} (hi : i < l.length) : zrI g p l (i + 1) = if zeI g (nth l i) = true ∧ p ∈ zaH g (nth l i) then zrI g p l i ++ [nth l i] else zrI g p l i := by
 unfold zrI
 rw [List.take_add_one, List.getElem?_eq_getElem hi, ← zaJ _ _ hi, Option.toList_some, List.filter_append]
 by_cases h : zeI g (nth l i) = true ∧ p ∈ zaH g (nth l i)
 ·rw [if_pos h]
  simp [h.1, h.2]
 ·rw [if_neg h]
  have : (zeI g (nth l i) && decide (p ∈ zaH g (nth l i))) = false := by
   rw [Bool.eq_false_iff]
   intro h2
   rw [Bool.and_eq_true, decide_eq_true_eq] at h2
   exact h h2
  simp [this]
theorem zx3 (g : zaf) (p : zaj) : zrI g p (zbp zbB (zdi g p)) (zbp zbB (zdi g p)).length = zaG g p := by
 unfold zrI zaG
 rw [List.take_length]
theorem zrJ (g : zaf) (p : zaj) (l : List zaj) (i : Nat) : (zrI g p l i).length ≤ l.length := by
 unfold zrI
 have h1 := List.length_filter_le (fun q => zeI g q && decide (p ∈ zaH g q)) (l.take i)
 rw [List.length_take] at h1
 omega
theorem zoo {g : zaf} {n : Nat} {l : List zaj} {q : zaj} (hq : q ∈ l) (h : 4000 < (zaG g q).length) : zb5 g (n + 1) l = ([], 2) := by
 rw [zb5, if_neg]
 intro h2
 have := of_decide_eq_true (List.all_eq_true.1 h2 q hq)
 omega
theorem zrQ {g : zaf} {n : Nat} {l : List zaj} (h : ∀ q ∈ l, (zaG g q).length ≤ 4000) : zb5 g (n + 1) l = if 4000 < (zbp zbB (l.flatMap (zaG g))).length then ([], 2) else zb5 g n (zbp zbB (l.flatMap (zaG g))) := by
 rw [zb5, if_pos (List.all_eq_true.2 fun q hq => decide_eq_true (h q hq))]
def zwF (g : zaf) (l : List zaj) (k : Nat) : List zaj := (l.take k).flatMap (zaG g)
theorem zpi (g : zaf) (l : List zaj) : zwF g l 0 = [] := rfl
theorem zph (g : zaf) {l : List zaj} {k : Nat} (hk : k < l.length) : zwF g l (k + 1) = zwF g l k ++ zaG g (nth l k) := by
 unfold zwF
 rw [List.take_add_one, List.getElem?_eq_getElem hk, ← zaJ _ _ hk, Option.toList_some, List.flatMap_append]
 simp
theorem zr5 (g : zaf) (l : List zaj) : zwF g l l.length = l.flatMap (zaG g) := by
 unfold zwF
 rw [List.take_length]
theorem zr6 {g : zaf} {l : List zaj} {k : Nat} (h : ∀ j, j < k → j < l.length → (zaG g (nth l j)).length ≤ 4000) : (zwF g l k).length ≤ l.length * 4000 := by
 unfold zwF
 have := zba (zaG g) 4000 (l.take k) fun q hq => by
  obtain ⟨j, hj, rfl⟩ := ze6 hq
  rw [List.length_take] at hj
  have e : nth (l.take k) j = nth l j := by
   unfold nth
   rw [List.getD_eq_getElem?_getD, List.getD_eq_getElem?_getD, List.getElem?_take_of_lt (by omega)]
  rw [e]
  exact h j (by omega) (by omega)
 rw [List.length_take] at this
 exact Nat.le_trans this (Nat.mul_le_mul_right _ (Nat.min_le_right _ _))
theorem zwG {g : zaf} (hg : GOk g) {l : List zaj} {k : Nat} : ∀ q ∈ zwF g l k, POk g q := fun q hq => by
 obtain ⟨r, _, hq⟩ := List.mem_flatMap.1 hq
 exact zdn hg hq
theorem zrH {g : zaf} {p : zaj} (h : (zaG g p).length ≤ 4000) : zbG g p = (zaG g p, 0) := by
 unfold zbG
 rw [if_neg (by omega)]
theorem zoh {g : zaf} {p : zaj} (h : 4000 < (zaG g p).length) : zbG g p = ([], 2) := by
 unfold zbG
 rw [if_pos h]
def tkF (g : zaf) (side : Int) (p : zaj) (a i : Nat) : List zaj := ((List.range g.kinds.length).drop i).flatMap (tkL g side p a)
theorem zzg {g : zaf} (side : Int) (p : zaj) (a : Nat) {i : Nat} (hi : i < g.kinds.length) : tkF g side p a i = tkL g side p a i ++ tkF g side p a (i + 1) := by
 unfold tkF
 have e : (List.range g.kinds.length).drop i = i :: (List.range g.kinds.length).drop (i + 1) := by
  rw [List.drop_eq_getElem_cons (by simpa using hi)]; simp
 rw [e, List.flatMap_cons]
theorem zA9 (g : zaf) (side : Int) (p : zaj) (a : Nat) : tkF g side p a g.kinds.length = [] := by
 unfold tkF
 rw [List.drop_eq_nil_of_le (by simp)]
 rfl
end Go.Av
end
section
/- Our library: ranges zd7 functions, and iterators: equations and steps. -/
namespace Go.Av
open Go
section
variable {P : Program} {n0 : Nat} {Q : zb0} {e : Env} {h : zav} {n : Nat} {ops rest : List Oper}
def zey (P : Program) (n0 : Nat) (ps : List Tmp) (a b : Code) (Q : zb0) (v : AV) (e : Env) (h : zav) (n : Nat) : Prop :=
 (∃ f caps caps' more rows h', v = .fn (.func f) [] caps ∧ Frz h h' ∧ zai h h' n caps caps' ∧ (∀ c ∈ caps', Bel 0 c) ∧ znM P f caps' more rows ∧
  (∀ xs ∈ rows, xs.length = ps.length) ∧ Fgt n0 (zbx n0 more ps (fun n1 => awp P n1 a) (fun n1 => awp P n1 b) Q rows) e h' n) ∨
 (∃ f caps caps' o gn sz rs rs' more rows h', v = .fn (.func f) [] caps ∧ Frz h h' ∧ h' o = some (.rows true gn sz rs) ∧ zae h h' n rs rs' ∧ (∀ r ∈ rs', ∀ c ∈ r, Bel 0 c) ∧
  zgy h h' n o caps caps' ∧ zpL P f caps' [(0, .rows true gn sz rs')] 1 more rows ∧
  (∀ xs ∈ rows, xs.length = ps.length) ∧ Fgt n0 (zbx n0 more ps (fun n1 => awp P n1 a) (fun n1 => awp P n1 b) Q rows) e (upd h' o none) n)
theorem zmU (g : Operand) (ps : List Tmp) (a b : Code) : awp P n0 (.rangeFunc g ps.toArray a b) Q e h n = zey P n0 ps a b Q (ev e g) e h n := rfl
@[congr] theorem zzp {ps : List Tmp} {a b : Code} {v v' : AV} (hv : v = v') : zey P n0 ps a b Q v e h n = zey P n0 ps a b Q v' e h n := by subst hv; rfl
theorem zey.mk {ps : List Tmp} {a b : Code} {f : FuncId} {caps : List AV} (caps' : List AV) (h' : zav) {more : Nat} {rows : List (List AV)} (C : znM P f caps' more rows) (hfz : Frz h h') (hle : zai h h' n caps caps') (hb : ∀ c ∈ caps', Bel 0 c)
  (hlen : ∀ xs ∈ rows, xs.length = ps.length) (hk : Fgt n0 (zbx n0 more ps (fun n1 => awp P n1 a) (fun n1 => awp P n1 b) Q rows) e h' n) : zey P n0 ps a b Q (.fn (.func f) [] caps) e h n :=
 .inl ⟨f, caps, caps', more, rows, h', rfl, hfz, hle, hb, C, hlen, hk⟩
theorem zey.give {ps : List Tmp} {a b : Code} {f : FuncId} {caps : List AV} (caps' : List AV) (h' : zav) (o : Nat) {gn sz : Nat} {rs : List (List AV)} (rs' : List (List AV)) {more : Nat} {rows : List (List AV)}
  (C : zpL P f caps' [(0, .rows true gn sz rs')] 1 more rows) (hfz : Frz h h') (ho : h' o = some (.rows true gn sz rs)) (hr : zae h h' n rs rs') (hbr : ∀ r ∈ rs', ∀ c ∈ r, Bel 0 c) (hg : zgy h h' n o caps caps')
  (hlen : ∀ xs ∈ rows, xs.length = ps.length) (hk : Fgt n0 (zbx n0 more ps (fun n1 => awp P n1 a) (fun n1 => awp P n1 b) Q rows) e (upd h' o none) n) : zey P n0 ps a b Q (.fn (.func f) [] caps) e h n :=
 .inr ⟨f, caps, caps', o, gn, sz, rs, rs', more, rows, h', rfl, hfz, ho, hr, hbr, hg, C, hlen, hk⟩
theorem zBI {ps : List Tmp} {a b : Code} {more : Nat} {xs : List AV} {rs : List (List AV)} (hn : n0 ≤ n)
  (hk : awp P n a (zuK (awp P n b (zjl (Fgt n0 (zbx n0 more ps (fun n1 => awp P n1 a) (fun n1 => awp P n1 b) Q rs)) Q e))) (zfR ps xs e) h n) :
  zbx n0 more ps (fun n1 => awp P n1 a) (fun n1 => awp P n1 b) Q (xs :: rs) e h n := ⟨hn, hk⟩
theorem Fgt.to {K : Env → zav → Nat → Prop} {E : List (Nat × AV)} {HH : List (Nat × zbt)} {n' : Nat} (hk : K (mkE E) (mkH HH) n') (hw : Wk e h n E HH n') (hn : n0 ≤ n') : Fgt n0 K e h n := .inr ⟨E, HH, n', hw, hn, hk⟩
theorem zBF {α : Type} (S : α → List (Nat × AV) × List (Nat × zbt) × Nat) (inv : List (List AV) → α → Prop) {ps : List Tmp} {A B : Nat → zb0 → Env → zav → Nat → Prop} {more : Nat}
  (h0 : ∀ d, inv [] d → more = 0 ∧ Q .normal (mkE (S d).1) (mkH (S d).2.1) (S d).2.2)
  (h1 : ∀ xs rs d, inv (xs :: rs) d → (∀ d', inv rs d' → zbx n0 more ps A B Q rs (mkE (S d').1) (mkH (S d').2.1) (S d').2.2) → zbx n0 more ps A B Q (xs :: rs) (mkE (S d).1) (mkH (S d).2.1) (S d).2.2) :
  ∀ rows d, inv rows d → zbx n0 more ps A B Q rows (mkE (S d).1) (mkH (S d).2.1) (S d).2.2
 | [], d, hi => h0 d hi
 | xs :: rs, d, hi => h1 xs rs d hi fun d' hi' => zBF S inv h0 h1 rs d' hi'
theorem znO {K : Env → zav → Nat → Prop} : zuK K .normal e h n = K e h n := rfl
theorem zmC {K : Env → zav → Nat → Prop} {e0 : Env} : zjl K Q e0 .normal e h n = K (upd e0 GH (e GH)) h n := rfl
theorem zsE {K : Env → zav → Nat → Prop} {e0 : Env} : zjl K Q e0 .ret e h n = Q .ret (upd e0 GH (e GH)) h n := rfl
theorem zpP {K : Env → zav → Nat → Prop} {e0 : Env} {id : Nat} : zjl K Q e0 (.exit id) e h n = Q (.exit id) (upd e0 GH (e GH)) h n := rfl
theorem zwU {xs : List AV} : zfR [] xs e = e := by simp [zfR]
theorem zue {t : Tmp} {ps : List Tmp} {x : AV} {xs : List AV} : zfR (t :: ps) (x :: xs) e = zfR ps xs (upd e t x) := rfl
theorem zp5 {rs : List ResultVar} {l more : Nat} : RetI P rs l more .normal e h n = ((znE P e h rs).1 ∧ ((more = 0 ∧ e GH = zbi l 0 []) ∨ e GH = zbi l 2 [])) := rfl
theorem zxC {rs : List ResultVar} {l more : Nat} : RetI P rs l more .ret e h n = ((znE P e h rs).1 ∧ ((more = 0 ∧ e GH = zbi l 0 []) ∨ e GH = zbi l 2 [])) := rfl
theorem zsO.mk {dst : Option Tmp} {l more : Nat} {args xs : List AV} {rs : List (List AV)} (h' : zav) (hg : e GH = zbi l more (xs :: rs)) (hfz : Frz h h') (hle : zai h h' n args xs) (hb : ∀ c ∈ xs, Bel 0 c)
  (hT : zbq P ops Q rest (put (upd e GH (zbi l more rs)) dst (.v (.bool true))) h' n) (hF : zbq P ops Q rest (put (upd e GH (zbi l 2 [])) dst (.v (.bool false))) h' n) : zsO P ops Q rest dst l args e h n :=
 ⟨l, more, xs :: rs, rfl, hg, h', hfz, hle, hb, hT, hF⟩
theorem zsO.exh {dst : Option Tmp} {l : Nat} {args : List AV} (hg : e GH = zbi l 1 []) : zsO P ops Q rest dst l args e h n := ⟨l, 1, [], rfl, hg, rfl⟩
theorem aGC.yld {dst : Option Tmp} {l more : Nat} {args xs : List AV} {rs : List (List AV)} (h' : zav) (hg : e GH = zbi l more (xs :: rs)) (hfz : Frz h h') (hle : zai h h' n args xs) (hb : ∀ c ∈ xs, Bel 0 c)
  (hT : zbq P ops Q rest (put (upd e GH (zbi l more rs)) dst (.gd true (.v (.bool true)))) h' n) (hF : zbq P ops Q rest (put (upd e GH (zbi l 2 [])) dst (.gd true (.v (.bool false)))) h' n) :
  aGC P ops Q rest dst true (.fn (.yield l) [] []) args e h n := .inr (.inr ⟨rfl, l, more, xs :: rs, rfl, hg, h', hfz, hle, hb, hT, hF⟩)
theorem aGC.exh {dst : Option Tmp} {l : Nat} {args : List AV} (hg : e GH = zbi l 1 []) : aGC P ops Q rest dst true (.fn (.yield l) [] []) args e h n := .inr (.inr ⟨rfl, l, 1, [], rfl, hg, rfl⟩)
theorem znI {h h' : zav} {o : Nat} : zgy h h' n o [] [] = True := eq_true .nil
theorem znJ {h h' : zav} {o g sz i off : Nat} {xs ys : List AV} : zgy h h' n o (.ref o g sz i off :: xs) (.ref 0 g sz i off :: ys) = zgy h h' n o xs ys := by
 refine propext ⟨fun hg => ?_, .ref⟩
 cases hg with
 | ref t => exact t
 | le hx hb t => cases hb with | ref hb => exact absurd hb (Nat.not_lt_zero _)
theorem zrx {h h' : zav} {o : Nat} {x : AV} {cells xs ys : List AV} : zgy h h' n o (x :: xs) (.fp cells :: ys) = (LeV h h' n x (.fp cells) ∧ (∀ c ∈ cells, Bel 0 c) ∧ zgy h h' n o xs ys) := by
 refine propext ⟨fun hg => ?_, fun ⟨h1, h2, h3⟩ => .le h1 (.fp h2) h3⟩
 cases hg with
 | le hx hb t => cases hb with | fp hb => exact ⟨hx, hb, t⟩
attribute [go_sem] znI znJ zrx
attribute [go_sem] zmU znO zmC zsE zpP zwU zue zp5 zxC zp9
end
end Go.Av
end
