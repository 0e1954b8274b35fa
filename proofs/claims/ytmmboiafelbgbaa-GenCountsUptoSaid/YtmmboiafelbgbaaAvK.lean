/- Our library, part 17: calls of functions that are given objects of ours and turn them. -/
import Derived.Test.YtmmboiafelbgbaaAvE
section
set_option linter.unusedSimpArgs false
set_option linter.unusedVariables false
namespace Go.Av
open Go

mutual
/-- y is x, its objects renamed -/
inductive Rn (σ : Nat → Nat) : AV → AV → Prop
  | same {x : AV} (h : Bel 0 x) : Rn σ x x
  | ref {o o' g sz i off : Nat} (h : o' = σ o) : Rn σ (.ref o g sz i off) (.ref o' g sz i off)
  | sl {o o' g sz i len : Nat} (h : o' = σ o) : Rn σ (.sl o g sz i len) (.sl o' g sz i len)
  | agg {xs ys : List AV} (h : RnL σ xs ys) : Rn σ (.agg xs) (.agg ys)
  | tup {xs ys : List AV} (h : RnL σ xs ys) : Rn σ (.tup xs) (.tup ys)
  | fn {f : Fn} {a b a' b' : List AV} (h : RnL σ a a') (h' : RnL σ b b') : Rn σ (.fn f a b) (.fn f a' b')
inductive RnL (σ : Nat → Nat) : List AV → List AV → Prop
  | nil : RnL σ [] []
  | cons {x y : AV} {xs ys : List AV} (h : Rn σ x y) (t : RnL σ xs ys) : RnL σ (x :: xs) (y :: ys)
end
inductive RnLL (σ : Nat → Nat) : List (List AV) → List (List AV) → Prop
  | same {rs : List (List AV)} (h : ∀ r ∈ rs, ∀ c ∈ r, Bel 0 c) : RnLL σ rs rs
  | nil : RnLL σ [] []
  | cons {x y : List AV} {xs ys : List (List AV)} (h : RnL σ x y) (t : RnLL σ xs ys) : RnLL σ (x :: xs) (y :: ys)
inductive RnO (σ : Nat → Nat) : AObj → AObj → Prop
  | rows {mt : Bool} {g sz : Nat} {rs rs' : List (List AV)} (h : RnLL σ rs rs') : RnO σ (.rows mt g sz rs) (.rows mt g sz rs')
inductive RnH (σ : Nat → Nat) : List (Nat × AObj) → List (Nat × AObj) → Prop
  | nil : RnH σ [] []
  | cons {o o' : Nat} {x y : AObj} {l l' : List (Nat × AObj)} (e : o' = σ o) (h : RnO σ x y) (t : RnH σ l l') : RnH σ ((o, x) :: l) ((o', y) :: l')
section
variable {σ : Nat → Nat} {φ φ' : Place} {w : World} {M M' : Nat → Prop}
theorem Rn.rel (hφ : ∀ o, φ' (σ o) = φ o) (hM : ∀ k, M' k → M k) {x y : AV} (hs : Rn σ x y) : ∀ {v : Value}, Rel φ w M x v → Rel φ' w M' y v := by
  refine Rn.rec (σ := σ) (motive_1 := fun x y _ => ∀ {v : Value}, Rel φ w M x v → Rel φ' w M' y v) (motive_2 := fun xs ys _ => ∀ {vs : List Value}, RelL φ w M xs vs → RelL φ' w M' ys vs)
    ?_ ?_ ?_ ?_ ?_ ?_ ?_ ?_ hs
  · intro x hb v hx; exact hx.closed hM hb
  · intro o o' g sz i off e v hx
    subst e
    cases hx with | ref ho hg h => exact .ref (by rw [hφ]; exact ho) hg h
  · intro o o' g sz i len e v hx
    subst e
    cases hx with | sl ho hg h => exact .sl (by rw [hφ]; exact ho) hg h
  · intro xs ys _ ih v hx
    cases hx with | agg hv h => exact .agg hv (ih h)
  · intro xs ys _ ih v hx
    cases hx with | tup h => exact .tup (ih h)
  · intro f a b a' b' _ _ ih1 ih2 v hx
    cases hx with | fn h1 h2 => exact .fn (ih1 h1) (ih2 h2)
  · intro vs hx; cases hx; exact .nil
  · intro x y xs ys _ _ ih1 ih2 vs hx
    cases hx with | cons h t => exact .cons (ih1 h) (ih2 t)
theorem Rn.back {m : Nat} (hφ : ∀ o, o < m → φ o = φ' (σ o)) (hM : ∀ k, M k → M' k) {x y : AV} (hs : Rn σ x y) : Bel m x → ∀ {v : Value}, Rel φ' w M' y v → Rel φ w M x v := by
  refine Rn.rec (σ := σ) (motive_1 := fun x y _ => Bel m x → ∀ {v : Value}, Rel φ' w M' y v → Rel φ w M x v) (motive_2 := fun xs ys _ => (∀ c ∈ xs, Bel m c) → ∀ {vs : List Value}, RelL φ' w M' ys vs → RelL φ w M xs vs)
    ?_ ?_ ?_ ?_ ?_ ?_ ?_ ?_ hs
  · intro x hb _ v hx; exact hx.closed hM hb
  · intro o o' g sz i off e hb v hx
    subst e
    cases hb with | ref hb => cases hx with | ref ho hg h => exact .ref (by rw [hφ _ hb]; exact ho) hg h
  · intro o o' g sz i len e hb v hx
    subst e
    cases hb with | sl hb => cases hx with | sl ho hg h => exact .sl (by rw [hφ _ hb]; exact ho) hg h
  · intro xs ys _ ih hb v hx
    cases hb with | agg hb => cases hx with | agg hv h => exact .agg hv (ih hb h)
  · intro xs ys _ ih hb v hx
    cases hb with | tup hb => cases hx with | tup h => exact .tup (ih hb h)
  · intro f a b a' b' _ _ ih1 ih2 hb v hx
    cases hb with | fn hb hb' => cases hx with | fn h1 h2 => exact .fn (ih1 hb h1) (ih2 hb' h2)
  · intro _ vs hx; cases hx; exact .nil
  · intro x y xs ys _ _ ih1 ih2 hb vs hx
    cases hx with | cons h t => exact .cons (ih1 (hb _ (by simp)) h) (ih2 (fun c hc => hb c (by simp [hc])) t)
theorem RnL.rel (hφ : ∀ o, φ' (σ o) = φ o) (hM : ∀ k, M' k → M k) : ∀ {xs ys : List AV} {vs : List Value}, RnL σ xs ys → RelL φ w M xs vs → RelL φ' w M' ys vs
  | [], _, _, .nil, .nil => .nil
  | _ :: _, _, _, .cons h t, .cons h' t' => .cons (h.rel hφ hM h') (t.rel hφ hM t')
theorem RnL.back {m : Nat} (hφ : ∀ o, o < m → φ o = φ' (σ o)) (hM : ∀ k, M k → M' k) : ∀ {xs ys : List AV} {vs : List Value}, RnL σ xs ys → (∀ c ∈ xs, Bel m c) → RelL φ' w M' ys vs → RelL φ w M xs vs
  | [], _, _, .nil, _, .nil => .nil
  | _ :: _, _, _, .cons h t, hb, .cons h' t' => .cons (h.back hφ hM (hb _ (by simp)) h') (t.back hφ hM (fun c hc => hb c (by simp [hc])) t')
theorem RnL.length : ∀ {xs ys : List AV}, RnL σ xs ys → ys.length = xs.length
  | [], _, .nil => rfl
  | _ :: _, _, .cons _ t => by simp [t.length]
theorem RnLL.rel (hφ : ∀ o, φ' (σ o) = φ o) (hM : ∀ k, M' k → M k) {xs ys : List (List AV)} (hs : RnLL σ xs ys) :
    ∀ {vs : List Value}, RelL φ w M xs.flatten vs → RelL φ' w M' ys.flatten vs := by
  induction hs with
  | same h =>
    intro vs hx
    refine RelL.of_get hx.length fun k hk hk' => (hx.get k hk hk').closed hM ?_
    obtain ⟨r, hr, hc⟩ := List.mem_flatten.1 (List.getElem_mem hk)
    exact h r hr _ hc
  | nil => intro vs hx; cases hx; exact .nil
  | cons h _ ih =>
    intro vs hx
    rw [List.flatten_cons] at hx ⊢
    obtain ⟨us, ts, rfl, h1, h2⟩ := hx.split
    exact (h.rel hφ hM h1).append (ih h2)
theorem RnLL.back {m : Nat} (hφ : ∀ o, o < m → φ o = φ' (σ o)) (hM : ∀ k, M k → M' k) {xs ys : List (List AV)} (hs : RnLL σ xs ys) :
    (∀ r ∈ xs, ∀ c ∈ r, Bel m c) → ∀ {vs : List Value}, RelL φ' w M' ys.flatten vs → RelL φ w M xs.flatten vs := by
  induction hs with
  | same h =>
    intro _ vs hx
    refine RelL.of_get hx.length fun k hk hk' => (hx.get k hk hk').closed hM ?_
    obtain ⟨r, hr, hc⟩ := List.mem_flatten.1 (List.getElem_mem hk)
    exact h r hr _ hc
  | nil => intro _ vs hx; cases hx; exact .nil
  | cons h _ ih =>
    intro hb vs hx
    rw [List.flatten_cons] at hx ⊢
    obtain ⟨us, ts, rfl, h1, h2⟩ := hx.split
    exact (h.back hφ hM (hb _ (by simp)) h1).append (ih (fun r hr => hb r (by simp [hr])) h2)
theorem RnLL.shape {xs ys : List (List AV)} (hs : RnLL σ xs ys) : ys.length = xs.length ∧ (∀ sz, (∀ r ∈ xs, r.length = sz) → ∀ r ∈ ys, r.length = sz) ∧ ∀ sz, (∀ r ∈ ys, r.length = sz) → ∀ r ∈ xs, r.length = sz := by
  induction hs with
  | same h => exact ⟨rfl, fun _ h => h, fun _ h => h⟩
  | nil => exact ⟨rfl, fun _ h => h, fun _ h => h⟩
  | cons h _ ih =>
    refine ⟨by simp [ih.1], fun sz hr r hm => ?_, fun sz hr r hm => ?_⟩
    · rcases List.mem_cons.1 hm with rfl | hm
      · rw [h.length]; exact hr _ (by simp)
      · exact ih.2.1 sz (fun r hr' => hr r (by simp [hr'])) r hm
    · rcases List.mem_cons.1 hm with rfl | hm
      · rw [← h.length]; exact hr _ (by simp)
      · exact ih.2.2 sz (fun r hr' => hr r (by simp [hr'])) r hm
theorem RnH.at {l l' : List (Nat × AObj)} (hinj : ∀ a b, σ a = σ b → a = b) (hs : RnH σ l l') {o : Nat} {y : AObj} (ho : mkH l' o = some y) : ∃ o0 x, o = σ o0 ∧ mkH l o0 = some x ∧ RnO σ x y := by
  induction hs with
  | nil => cases ho
  | @cons o1 o1' x1 y1 l l' e1 h _ ih =>
    simp only [mkH, upd] at ho ⊢
    split at ho
    · rename_i e
      cases ho
      exact ⟨o1, x1, e.trans e1, by simp, h⟩
    · rename_i e
      obtain ⟨o0, x, rfl, h1, h2⟩ := ih ho
      refine ⟨o0, x, rfl, ?_, h2⟩
      rw [if_neg (fun h => e (by rw [h, e1]))]; exact h1
end
/-- where the objects of the one that is called lie with the caller: the first ones are given, the others are new -/
def ren (rs : List Nat) (n : Nat) (j : Nat) : Nat := if j < rs.length then rs.getD j 0 else n + (j - rs.length)
def remH : List Nat → Heap → Heap
  | [], h => h
  | o :: l, h => upd (remH l h) o none
theorem remH_eq (h : Heap) : ∀ (l : List Nat) (o : Nat), remH l h o = if o ∈ l then none else h o
  | [], o => by simp [remH]
  | a :: l, o => by
    simp only [remH, upd, List.mem_cons]
    by_cases e : o = a
    · simp [e]
    · simp [e, remH_eq h l o]
theorem ren_mem {rs : List Nat} {n j : Nat} (h : j < rs.length) : ren rs n j ∈ rs := by
  unfold ren; rw [if_pos h, List.getD_eq_getElem?_getD, List.getElem?_eq_getElem h]; exact List.getElem_mem h
theorem ren_inj {rs : List Nat} {n : Nat} (hd : rs.Nodup) (hlt : ∀ o ∈ rs, o < n) : ∀ a b, ren rs n a = ren rs n b → a = b := by
  intro a b he
  by_cases ha : a < rs.length <;> by_cases hb : b < rs.length
  · unfold ren at he
    rw [if_pos ha, if_pos hb, List.getD_eq_getElem?_getD, List.getD_eq_getElem?_getD, List.getElem?_eq_getElem ha, List.getElem?_eq_getElem hb] at he
    exact (List.getElem_inj hd).1 (by simpa using he)
  · have h1 := hlt _ (ren_mem (n := n) ha)
    rw [he] at h1
    unfold ren at h1
    rw [if_neg hb] at h1; omega
  · have h1 := hlt _ (ren_mem (n := n) hb)
    rw [← he] at h1
    unfold ren at h1
    rw [if_neg ha] at h1; omega
  · unfold ren at he
    rw [if_neg ha, if_neg hb] at he; omega
/-- f, called at args where the objects HA lie (ids below m), gives R0 and leaves the objects H0: k2 ids -/
def OwnsA (P : Program) (f : FuncId) (args : List AV) (HA : List (Nat × AObj)) (m : Nat) (R0 : AV) (H0 : List (Nat × AObj)) (k2 : Nat) : Prop :=
  ACallP P f args (mkH HA) m (fun r h n' => Wk (fun _ => r) h n' [(0, R0)] H0 k2)
/-- A CALL OF A FUNCTION THAT IS GIVEN OBJECTS OF OURS (those of rs), and turns them. -/
theorem ACallP.ownsA {P : Program} {f : FuncId} {args args' args0 : List AV} {h : Heap} {n m k2 : Nat} {K : CallK} {R0 R : AV} {HA H0 HH : List (Nat × AObj)} (rs : List Nat) (h' : Heap)
    (hp : OwnsA P f args0 HA m R0 H0 k2) (hd : rs.Nodup) (hlt : ∀ o ∈ rs, o < n) (hm : rs.length = m) (hmk : m ≤ k2) (hfz : Frz h h')
    (hA : ∀ j, j < m → ∃ x y, mkH HA j = some x ∧ h' (ren rs n j) = some y ∧ RnO (ren rs n) x y) (hAb : ∀ p ∈ HA, p.1 < m ∧ BelO m p.2)
    (hle : LeRow h h' n args args') (hb' : ∀ c ∈ args', Bel n c) (hargs0 : RnL (ren rs n) args0 args') (hb0 : ∀ c ∈ args0, Bel m c)
    (hR : Rn (ren rs n) R0 R) (hHH : RnH (ren rs n) H0 HH) (hk : K R (over HH (remH rs h')) (n + (k2 - m))) : ACallP P f args h n K := by
  refine ⟨hp.1, fun M0 φ w vs hH hargs => ?_⟩
  obtain ⟨hH', st0⟩ := hH.freeze hfz
  have hσ := ren_inj hd hlt
  have hmt : ∀ o g sz rs, h' o = some (.rows true g sz rs) → h o = some (.rows true g sz rs) := by
    intro o g sz rs ho
    rcases hfz o with h1 | ⟨g1, sz1, rs1, h1, h2⟩
    · rw [← h1]; exact ho
    · rw [h2] at ho; cases ho
  have hmut0 : ∀ k, Mut φ h' k → Mut φ h k := by
    rintro k ⟨o, g, sz, rs, g', a, bs, ho, hp, rfl⟩
    exact ⟨o, g, sz, rs, g', a, bs, hmt _ _ _ _ ho, hp, rfl⟩
  -- the arguments, where what is frozen is frozen
  have hv : RelL φ w (Or M0 (Mut φ h')) args' vs := by
    refine LeRow.rel (φ' := φ) (n' := n) hH (fun {x v} _ hx => hx.keep φ.le_refl (fun _ _ _ => rfl) (fun k hk => .inl (hk.imp id (hmut0 k)))) ?_ (fun o g sz h1 _ h2 => by omega) hle hb' hargs
    rintro o mt g sz rs a bs ho hp ho' h0 (hk | ⟨o', g', sz', rs', g'', a', bs', ho1, hp1, he⟩)
    · exact h0 hk
    · have hne : o' ≠ o := fun e => by subst e; exact ho' _ _ _ ho1
      have ho0 := hmt _ _ _ _ ho1
      have hg : g'' = g' := by
        obtain ⟨A2, hA2, _⟩ := hH.obj _ _ _ _ _ ho0
        rw [hp1] at hA2
        simp only [Option.some.injEq, Prod.mk.injEq] at hA2
        exact hA2.1
      subst hg
      exact hH.inj _ _ _ _ _ _ _ _ _ _ _ _ _ _ ho0 ho hne (.inl rfl) hp1 hp he
  -- what is not given
  let hr : Heap := fun o => if o ∈ rs then none else h' o
  have hrmut : ∀ k, Mut φ hr k → Mut φ h' k := by
    rintro k ⟨o, g, sz, rs1, g', a, bs, ho, hp, rfl⟩
    simp only [hr] at ho
    split at ho
    · cases ho
    · exact ⟨o, g, sz, rs1, g', a, bs, ho, hp, rfl⟩
  let M1 : Nat → Prop := Or M0 (Mut φ hr)
  let φ0 : Place := fun j => if j < m then φ (ren rs n j) else none
  have hφ0 : ∀ j, j < m → φ0 j = φ (ren rs n j) := fun j hj => if_pos hj
  -- a given object
  have hgiv : ∀ j mt g sz rws, mkH HA j = some (.rows mt g sz rws) → j < m ∧ ∃ rws', h' (ren rs n j) = some (.rows mt g sz rws') ∧ RnLL (ren rs n) rws rws' ∧ ∀ r ∈ rws, ∀ c ∈ r, Bel m c := by
    intro j mt g sz rws hj
    have hjm := hAb _ (mkH_mem hj)
    obtain ⟨x, y, h1, h2, h3⟩ := hA j hjm.1
    rw [hj] at h1
    cases h1
    cases h3 with
    | rows h3 => exact ⟨hjm.1, _, h2, h3, hjm.2⟩
  have hgmut : ∀ k, Mut φ0 (mkH HA) k → ∃ j, j < m ∧ ∃ g sz rws g' a bs, h' (ren rs n j) = some (.rows true g sz rws) ∧ φ (ren rs n j) = some (g', some (a, bs)) ∧ a.block = k := by
    rintro k ⟨j, g, sz, rws, g', a, bs, ho, hp, rfl⟩
    obtain ⟨hj, rws', h1, _⟩ := hgiv _ _ _ _ _ ho
    rw [hφ0 j hj] at hp
    exact ⟨j, hj, g, sz, rws', g', a, bs, h1, hp, rfl⟩
  have hgmut' : ∀ k, Mut φ0 (mkH HA) k → Mut φ h' k := fun k hk => by
    obtain ⟨j, _, g, sz, rws, g', a, bs, h1, h2, h3⟩ := hgmut k hk
    exact ⟨_, g, sz, rws, g', a, bs, h1, h2, h3⟩
  have hgen : ∀ {o mt g sz rws g' A}, h' o = some (.rows mt g sz rws) → φ o = some (g', A) → g' = g := by
    intro o mt g sz rws g' A ho hp
    obtain ⟨A2, hA2, _⟩ := hH'.obj _ _ _ _ _ ho
    rw [hp] at hA2
    simp only [Option.some.injEq, Prod.mk.injEq] at hA2
    exact hA2.1
  have hM1 : ∀ k, Or M1 (Mut φ0 (mkH HA)) k → Or M0 (Mut φ h') k := by
    rintro k ((hk | hk) | hk)
    · exact .inl hk
    · exact .inr (hrmut k hk)
    · exact .inr (hgmut' k hk)
  have hH1 : HRel φ0 m w M1 (mkH HA) := by
    refine ⟨fun k hk => hH'.blk (hk.imp id (hrmut k)), fun o ho => if_neg (by omega), fun j mt g sz rws hj => ?_, fun o o' mt g sz rws mt' g' sz' rws' a a' b b' ho ho' hne hmm hp hp' => ?_⟩
    · obtain ⟨hjm, rws', h1, h2, h3⟩ := hgiv _ _ _ _ _ hj
      obtain ⟨A, hA1, hc⟩ := hH'.obj _ _ _ _ _ h1
      refine ⟨A, by rw [hφ0 j hjm]; exact hA1, hc.imp (fun h => ⟨h.1, ?_⟩) ?_⟩
      · obtain ⟨_, rfl⟩ := h
        exact List.eq_nil_of_length_eq_zero h2.shape.1.symm
      · rintro ⟨a, bs, C, T, c1, c2, c3, c4, c5, c6, c7, c8, c9⟩
        refine ⟨a, bs, C, T, c1, c2, ?_, c4, c5, h2.shape.2.2 sz c6, by rw [← h2.shape.1]; exact c7, by rw [← h2.shape.1]; exact c8, ?_⟩
        · rintro (hk | ⟨o', g1, sz1, rs1, g1', a', bs', ho1, hp1, he⟩)
          · exact c3 hk
          · simp only [hr] at ho1
            split at ho1
            · cases ho1
            · rename_i hni
              obtain rfl := hgen ho1 hp1
              subst c1
              exact hH'.inj _ _ _ _ _ _ _ _ _ _ _ _ _ _ ho1 h1 (fun e => hni (e ▸ ren_mem (by omega))) (.inl rfl) hp1 hA1 he
        · rw [← h2.shape.1]
          exact h2.back hφ0 hM1 h3 c9
    · obtain ⟨hj, r1, h1, _⟩ := hgiv _ _ _ _ _ ho
      obtain ⟨hj', r1', h1', _⟩ := hgiv _ _ _ _ _ ho'
      rw [hφ0 o hj] at hp
      rw [hφ0 o' hj'] at hp'
      exact hH'.inj _ _ _ _ _ _ _ _ _ _ _ _ _ _ h1 h1' (fun e => hne (hσ _ _ e)) hmm hp hp'
  have hargs1 : RelL φ0 w (Or M1 (Mut φ0 (mkH HA))) args0 vs := hargs0.back hφ0 hM1 hb0 hv
  refine (hp.2 _ φ0 w vs hH1 hargs1).mono ?_
  rintro e w' ⟨v, φ1, r, h1, n', rfl, hK, hH2, hx, st⟩
  obtain ⟨φ2, hH3, hx3, hm3, hst⟩ := hK.sound hH2 (tmps := fun _ => v) (fun _ => hx)
  have hx3 := hx3 0
  simp only [mkE, upd_same] at hx3
  -- the given ids, later
  have hlater : ∀ j x, j < m → φ (ren rs n j) = some x → ∃ x', φ2 j = some x' ∧ x.1 ≤ x'.1 ∧ (x'.1 = x.1 → x' = x) := by
    intro j x hj hx
    obtain ⟨x', h1, h2, h3⟩ := st.le j x (by rw [hφ0 j hj]; exact hx)
    exact ⟨x', hst j x' (by omega) h1, h2, h3⟩
  let φ3 : Place := fun o => if o ∈ rs then φ2 (rs.idxOf o) else if o < n then φ o else φ2 (o - n + m)
  have hidx : ∀ j, j < m → rs.idxOf (ren rs n j) = j := by
    intro j hj
    have h1 := List.idxOf_lt_length_of_mem (ren_mem (rs := rs) (n := n) (j := j) (by omega))
    refine hσ _ _ ?_
    have h2 := List.getElem_idxOf h1
    unfold ren at h1 h2 ⊢
    rw [if_pos h1, List.getD_eq_getElem?_getD, List.getElem?_eq_getElem h1]
    exact h2
  have e3 : ∀ o, φ3 (ren rs n o) = φ2 o := by
    intro o
    by_cases ho : o < m
    · simp only [φ3]
      rw [if_pos (ren_mem (by omega)), hidx o ho]
    · have hge : ren rs n o = n + (o - m) := by unfold ren; rw [if_neg (by omega), hm]
      simp only [φ3]
      rw [hge, if_neg (fun hmem => by have := hlt _ hmem; omega), if_neg (by omega)]
      congr 1; omega
  have e3' : ∀ o, o < n → o ∉ rs → φ3 o = φ o := fun o ho hni => by simp only [φ3]; rw [if_neg hni, if_pos ho]
  have hltn : ∀ o x, φ o = some x → o < n := fun o x ho => Nat.lt_of_not_le fun hle => by rw [hH.fresh o hle] at ho; cases ho
  have hren : ∀ o, o ∈ rs → ∃ j, j < m ∧ o = ren rs n j := by
    intro o ho
    obtain ⟨j, hj, rfl⟩ := List.getElem_of_mem ho
    exact ⟨j, by omega, by unfold ren; rw [if_pos hj, List.getD_eq_getElem?_getD, List.getElem?_eq_getElem hj]; rfl⟩
  have hle3 : φ.le φ3 := by
    intro o x ho
    by_cases hmem : o ∈ rs
    · obtain ⟨j, hj, rfl⟩ := hren o hmem
      rw [e3]; exact hlater j x hj ho
    · exact ⟨x, by rw [e3' o (hltn _ _ ho) hmem]; exact ho, Nat.le_refl _, fun _ => rfl⟩
  have hheap : ∀ k, k < w.heap.size → ¬ Mut φ0 (mkH HA) k → w'.heap[k]? = w.heap[k]? := fun k hk hn => st.fr.block k hk hn
  -- where an object comes from
  have hsrc : ∀ o y, over HH (remH rs h') o = some y → (∃ o0 x, o = ren rs n o0 ∧ mkH H0 o0 = some x ∧ RnO (ren rs n) x y) ∨ (o < n ∧ o ∉ rs ∧ h' o = some y) := by
    intro o x ho
    rw [over_eq] at ho
    split at ho
    · rename_i y hy
      cases ho
      exact .inl (hHH.at hσ hy)
    · rw [remH_eq] at ho
      split at ho
      · cases ho
      · rename_i hni
        cases x with
        | rows mt g sz rws =>
          obtain ⟨A, hA, _⟩ := hH'.obj _ _ _ _ _ ho
          exact .inr ⟨hltn _ _ hA, hni, ho⟩
  have hmut : ∀ k, Mut φ3 (over HH (remH rs h')) k → Mut φ2 (mkH H0) k ∨ Mut φ hr k := by
    rintro k ⟨o, g, sz, rws, g', a, bs, ho, hp, rfl⟩
    rcases hsrc o _ ho with ⟨o0, x, rfl, h1, h2⟩ | ⟨h1, hni, h2⟩
    · cases h2 with
      | rows h2 => rw [e3] at hp; exact .inl ⟨o0, g, sz, _, g', a, bs, h1, hp, rfl⟩
    · rw [e3' o h1 hni] at hp
      exact .inr ⟨o, g, sz, rws, g', a, bs, by simp only [hr]; rw [if_neg hni]; exact h2, hp, rfl⟩
  have hmnew : ∀ k, Mut φ2 (mkH H0) k → Mut φ0 (mkH HA) k ∨ w.heap.size ≤ k := fun k hk => st.mutd k (hm3 k hk)
  have hsub : ∀ k, Or M0 (Mut φ3 (over HH (remH rs h'))) k → Or M1 (Mut φ2 (mkH H0)) k := fun k hk => hk.elim (fun h => .inl (.inl h)) fun h => (hmut k h).elim .inr fun h => .inl (.inr h)
  have hmutd : ∀ k, Mut φ3 (over HH (remH rs h')) k → Mut φ h' k ∨ w.heap.size ≤ k := fun k hk =>
    (hmut k hk).elim (fun h => (hmnew k h).imp (hgmut' k) id) fun h => .inl (hrmut k h)
  have hsub' : ∀ k, Or M0 (Mut φ3 (over HH (remH rs h'))) k → Or M0 (Mut φ h') k ∨ w.heap.size ≤ k := fun k hk => hk.elim (fun h => .inl (.inl h)) fun h => (hmutd k h).imp .inr id
  have hblk : ∀ o x g' a bs, h' o = some x → φ o = some (g', some (a, bs)) → a.block < w.heap.size := by
    intro o x g' a bs ho hp
    cases x with
    | rows mt g sz rws =>
      obtain ⟨A, hA, hc⟩ := hH'.obj _ _ _ _ _ ho
      rw [hp] at hA
      simp only [Option.some.injEq, Prod.mk.injEq] at hA
      obtain ⟨rfl, rfl⟩ := hA
      rcases hc with ⟨h, _⟩ | ⟨a', bs', C, T, h, _, _, h2, _⟩
      · cases h
      · simp only [Option.some.injEq, Prod.mk.injEq] at h
        obtain ⟨rfl, rfl⟩ := h
        exact (Array.getElem?_eq_some_iff.1 h2).1
  -- an object that was not given lies in no block that was turned
  have hkeep : ∀ o mt g sz rws g' a bs, o ∉ rs → h' o = some (.rows mt g sz rws) → φ o = some (g', some (a, bs)) → ¬ Mut φ0 (mkH HA) a.block := by
    intro o mt g sz rws g' a bs hni ho hp hk
    obtain ⟨j, hj, g1, sz1, rws1, g1', a1, bs1, q1, q2, q3⟩ := hgmut _ hk
    obtain rfl := hgen ho hp
    obtain rfl := hgen q1 q2
    exact hH'.inj _ _ _ _ _ _ _ _ _ _ _ _ _ _ q1 ho (fun e => hni (e ▸ ren_mem (by omega))) (.inl rfl) q2 hp q3
  have hfar : ∀ o0 mt g sz rws g' a bs o' y g1 a' b', mkH H0 o0 = some (.rows mt g sz rws) → φ2 o0 = some (g', some (a, bs)) → o' ∉ rs → h' o' = some y → φ o' = some (g1, some (a', b')) →
      (mt = true ∨ ∃ g sz rs, y = .rows true g sz rs) → a.block ≠ a'.block := by
    intro o0 mt g sz rws g' a bs o' y g1 a' b' q1 q2 hni q3 q4 hmm
    have hb1 := hblk _ _ _ _ _ q3 q4
    rcases hmm with rfl | ⟨g2, sz2, rs2, rfl⟩
    · rcases hmnew a.block ⟨o0, g, sz, rws, _, a, bs, q1, q2, rfl⟩ with hk | hk
      · intro he
        cases y with
        | rows mt1 g1' sz1 rws1 => exact hkeep _ _ _ _ _ _ _ _ hni q3 q4 (he ▸ hk)
      · omega
    · intro he
      obtain ⟨A, hA, hc⟩ := hH3.obj _ _ _ _ _ q1
      rw [q2] at hA
      simp only [Option.some.injEq, Prod.mk.injEq] at hA
      obtain ⟨_, rfl⟩ := hA
      rcases hc with ⟨h, _⟩ | ⟨a1, bs1, C, T, h, _, hn0, _⟩
      · cases h
      · simp only [Option.some.injEq, Prod.mk.injEq] at h
        obtain ⟨rfl, rfl⟩ := h
        exact hn0 (.inr ⟨o', g2, sz2, rs2, _, a', b', by simp only [hr]; rw [if_neg hni]; exact q3, q4, he.symm⟩)
  refine ⟨v, φ3, R, over HH (remH rs h'), n + (k2 - m), rfl, hk, ⟨fun k hk => Nat.lt_of_lt_of_le (hH.m0 k hk) st.fr.size, fun o ho => ?_, fun o mt g sz rws ho => ?_, fun o o' mt g sz rws mt' g' sz' rws' a a' b b' ho ho' hne hmm hp hp' => ?_⟩,
    hR.rel e3 hsub hx3, st0.trans ⟨hle3, hsub', ⟨st.fr.os, st.fr.tape, st.fr.output, st.fr.size, fun k hk hn => hheap k hk (fun hg => hn (hgmut' k hg))⟩, hmutd⟩⟩
  · have h1 : ren rs n (o - n + m) = o := by unfold ren; rw [if_neg (by omega)]; omega
    rw [← h1, e3]; exact hH3.fresh _ (by omega)
  · rcases hsrc o _ ho with ⟨o0, x, rfl, h1, h2⟩ | ⟨h1, hni, h2⟩
    · cases h2 with
      | rows hs =>
        obtain ⟨A, hA, hc⟩ := hH3.obj _ _ _ _ _ h1
        refine ⟨A, by rw [e3]; exact hA, hc.imp (fun h => ⟨h.1, ?_⟩) ?_⟩
        · obtain ⟨_, rfl⟩ := h
          exact List.eq_nil_of_length_eq_zero hs.shape.1
        · rintro ⟨a, bs, C, T, c1, c2, c3, c4, c5, c6, c7, c8, c9⟩
          refine ⟨a, bs, C, T, c1, c2, fun hk => c3 (.inl hk), c4, c5, hs.shape.2.1 sz c6, by rw [hs.shape.1]; exact c7, by rw [hs.shape.1]; exact c8, ?_⟩
          rw [hs.shape.1]
          exact hs.rel e3 hsub c9
    · obtain ⟨A, hA, hc⟩ := hH'.obj _ _ _ _ _ h2
      refine ⟨A, by rw [e3' o h1 hni]; exact hA, hc.imp id ?_⟩
      rintro ⟨a, bs, C, T, c1, c2, c3, c4, c5, c6, c7, c8, c9⟩
      refine ⟨a, bs, C, T, c1, c2, c3, ?_, c5, c6, c7, c8, c9.keep hle3 (fun k hn hk => hheap k hk (fun hg => hn (.inr (hgmut' k hg)))) hsub'⟩
      rw [hheap _ (Array.getElem?_eq_some_iff.1 c4).1 (hkeep _ _ _ _ _ _ _ _ hni h2 (by rw [hA, c1]))]; exact c4
  · rcases hsrc o _ ho with ⟨o0, x, rfl, q1, q2⟩ | ⟨q1, qn, q2⟩ <;> rcases hsrc o' _ ho' with ⟨o0', x', rfl, q1', q2'⟩ | ⟨q1', qn', q2'⟩
    · cases q2; cases q2'
      rw [e3] at hp hp'
      exact hH3.inj _ _ _ _ _ _ _ _ _ _ _ _ _ _ q1 q1' (fun e => hne (by rw [e])) hmm hp hp'
    · cases q2
      rw [e3] at hp; rw [e3' o' q1' qn'] at hp'
      exact hfar _ _ _ _ _ _ _ _ _ _ _ _ _ q1 hp qn' q2' hp' (hmm.imp id fun h => by subst h; exact ⟨_, _, _, rfl⟩)
    · cases q2'
      rw [e3' o q1 qn] at hp; rw [e3] at hp'
      exact Ne.symm (hfar _ _ _ _ _ _ _ _ _ _ _ _ _ q1' hp' qn q2 hp (hmm.symm.imp id fun h => by subst h; exact ⟨_, _, _, rfl⟩))
    · rw [e3' o q1 qn] at hp; rw [e3' o' q1' qn'] at hp'
      exact hH'.inj _ _ _ _ _ _ _ _ _ _ _ _ _ _ q2 q2' hne hmm hp hp'
theorem Bel.mono {n m : Nat} (hnm : n ≤ m) {x : AV} (h : Bel n x) : Bel m x := by
  induction h with
  | top => exact .top
  | v x => exact .v x
  | agg _ ih => exact .agg ih
  | tup _ ih => exact .tup ih
  | lst _ ih => exact .lst ih
  | fp _ ih => exact .fp ih
  | ref h => exact .ref (by omega)
  | sl h => exact .sl (by omega)
  | fn _ _ ih1 ih2 => exact .fn ih1 ih2
  | gd _ ih => exact .gd ih
/-- one object is given, and turned: in a region that draws -/
theorem dCall.own1 {P : Program} {n : Nat} {ops : List Oper} {Q : Post} {m i : Nat} {rest : List Oper} {e : Env} {h : Heap} {acc : List DRec} {dst : Option Tmp} {f : FuncId} {first caps args args0 : List AV} {R0 R : AV} {o : Nat} {mt : Bool} {g g' sz : Nat} {rws rws' : List (List AV)}
    (hp : OwnsA P f args0 [(0, .rows mt g sz rws)] 1 R0 [(0, .rows true g' sz rws')] 1) (ho : h o = some (.rows mt g sz rws)) (hcl : ∀ r ∈ rws, ∀ c ∈ r, Bel 0 c) (hcl' : ∀ r ∈ rws', ∀ c ∈ r, Bel 0 c)
    (hargs : ∀ n₁, RnL (ren [o] n₁) args0 (first ++ args ++ caps)) (hb0 : ∀ c ∈ args0, Bel 1 c) (hb : ∀ n₁, o < n₁ → ∀ c ∈ first ++ args ++ caps, Bel n₁ c)
    (hR : ∀ n₁, Rn (ren [o] n₁) R0 R) (hfl : Flat R ∨ ∃ g sz i len, R = .sl o g sz i len)
    (hk : adr P n ops Q m (i + 1) rest (put e dst R) (upd h o (some (.rows true g' sz rws'))) (acc ++ [([o], [o])])) : dCall P n ops Q m i rest dst (.fn (.func f) first caps) args e h acc := by
  refine ⟨R, [o], [(o, some (.rows true g' sz rws'))], .inr (.inr (.inl ⟨f, first, caps, rfl, ?_, ?_, ?_, fun h₁ n₁ hx hn => ?_⟩)), hk⟩
  · intro o' ho'
    simp only [List.mem_singleton] at ho'
    subst ho'
    exact ⟨_, ho⟩
  · intro p hp
    simp only [List.mem_singleton] at hp
    subst hp
    exact ⟨by simp, g', sz, rws', rfl, hcl'⟩
  · exact hfl.imp id fun ⟨g, sz, i, len, h⟩ => ⟨o, g, sz, i, len, h, by simp⟩
  · have hon := hn o (by simp)
    have r0 : ren [o] n₁ 0 = o := rfl
    refine ACallP.ownsA (args' := first ++ args ++ caps) (HH := [(o, .rows true g' sz rws')]) [o] h₁ hp (by simp) (by simpa using hon) rfl (Nat.le_refl _) (.refl _) ?_ ?_ (.refl _ _ _ _) (hb n₁ hon) (hargs n₁) hb0 (hR n₁)
      (.cons r0.symm (.rows (.same hcl')) .nil) ⟨rfl, ?_, rfl⟩
    · intro j hj
      obtain rfl : j = 0 := by omega
      exact ⟨.rows mt g sz rws, .rows mt g sz rws, by simp [mkH, upd_same], by rw [r0, ← hx o (by simp)]; exact ho, .rows (.same hcl)⟩
    · intro p hp
      simp only [List.mem_singleton] at hp
      subst hp
      refine ⟨by simp, fun r hr c hc => ?_⟩
      exact Bel.mono (Nat.zero_le _) (hcl r hr c hc)
    · funext a
      simp only [over, remH, applyW, upd]
      split <;> rfl
/-- a call that gives new objects: in a region that draws -/
theorem dCall.owns {P : Program} {n : Nat} {ops : List Oper} {Q : Post} {m i : Nat} {rest : List Oper} {e : Env} {h : Heap} {acc : List DRec} {dst : Option Tmp} {f : FuncId} {first caps args args' : List AV} {R : Nat → AV} {HH : Nat → List (Nat × AObj)} {k2 : Nat}
    (b : Nat) (hbb : b = n + ops.length + 16 * i) (hp : Owns P f args' R HH k2) (hk16 : k2 ≤ 16) (hnR : NoFz (R 0)) (hnH : ∀ p ∈ HH 0, NoFzO p.2) (hle : ∀ h₁ : Heap, LeRow h₁ noH 0 (first ++ args ++ caps) args') (hb : ∀ c ∈ args', Bel 0 c)
    (hnd : ((HH b).map (·.1)).Nodup) (hk : adr P n ops Q m (i + 1) rest (put e dst (R b)) (over (HH b) h) (acc ++ [([newMark], (HH b).map (·.1))])) : dCall P n ops Q m i rest dst (.fn (.func f) first caps) args e h acc := by
  subst hbb
  refine ⟨R _, [newMark], (HH (n + ops.length + 16 * i)).map (fun p => (p.1, some p.2)), .inr (.inr (.inr ⟨f, first, caps, args', R 0, HH 0, HH (n + ops.length + 16 * i), k2, rfl, by simp, hk16, hb, hp.1, hnR, hnH, (hp.2 _).1, (hp.2 _).2, hnd, rfl, hle⟩)), ?_⟩
  rw [applyW_over hnd, List.map_map]
  exact hk
end Go.Av
end
section
set_option linter.unusedSimpArgs false
set_option linter.unusedVariables false
namespace Go.Av
open Go
section
variable {P : Program} {n0 : Nat} {Q : Post} {e : Env} {h : Heap} {n : Nat} {ops rest : List Oper}
def aRange (P : Program) (n0 : Nat) (ps : List Tmp) (a b : Code) (Q : Post) (v : AV) (e : Env) (h : Heap) (n : Nat) : Prop :=
  ∃ f caps caps' more rows h', v = .fn (.func f) [] caps ∧ Frz h h' ∧ LeRow h h' n caps caps' ∧ (∀ c ∈ caps', Bel 0 c) ∧ PSeq P f caps' more rows ∧
    (∀ xs ∈ rows, xs.length = ps.length) ∧ Fgt n0 (ARange n0 more ps (fun n1 => awp P n1 a) (fun n1 => awp P n1 b) Q rows) e h' n
theorem awp_rangeFunc (g : Operand) (ps : List Tmp) (a b : Code) : awp P n0 (.rangeFunc g ps.toArray a b) Q e h n = aRange P n0 ps a b Q (ev e g) e h n := rfl
@[congr] theorem aRange_congr {ps : List Tmp} {a b : Code} {v v' : AV} (hv : v = v') : aRange P n0 ps a b Q v e h n = aRange P n0 ps a b Q v' e h n := by subst hv; rfl
theorem aRange.mk {ps : List Tmp} {a b : Code} {f : FuncId} {caps : List AV} (caps' : List AV) (h' : Heap) {more : Nat} {rows : List (List AV)} (C : PSeq P f caps' more rows) (hfz : Frz h h') (hle : LeRow h h' n caps caps') (hb : ∀ c ∈ caps', Bel 0 c)
    (hlen : ∀ xs ∈ rows, xs.length = ps.length) (hk : Fgt n0 (ARange n0 more ps (fun n1 => awp P n1 a) (fun n1 => awp P n1 b) Q rows) e h' n) : aRange P n0 ps a b Q (.fn (.func f) [] caps) e h n :=
  ⟨f, caps, caps', more, rows, h', rfl, hfz, hle, hb, C, hlen, hk⟩
/-- a round -/
theorem ARange.go {ps : List Tmp} {a b : Code} {more : Nat} {xs : List AV} {rs : List (List AV)} (hn : n0 ≤ n)
    (hk : awp P n a (QNone (awp P n b (QRound (Fgt n0 (ARange n0 more ps (fun n1 => awp P n1 a) (fun n1 => awp P n1 b) Q rs)) Q e))) (putPs ps xs e) h n) :
    ARange n0 more ps (fun n1 => awp P n1 a) (fun n1 => awp P n1 b) Q (xs :: rs) e h n := ⟨hn, hk⟩
theorem ARange.stop {ps : List Tmp} {A B : Nat → Post → Env → Heap → Nat → Prop} {more : Nat} (hm : more = 0) (hk : Q .normal e h n) : ARange n0 more ps A B Q [] e h n := ⟨hm, hk⟩
theorem Fgt.to {K : Env → Heap → Nat → Prop} {E : List (Nat × AV)} {HH : List (Nat × AObj)} {n' : Nat} (hk : K (mkE E) (mkH HH) n') (hw : Wk e h n E HH n') (hn : n0 ≤ n') : Fgt n0 K e h n := .inr ⟨E, HH, n', hw, hn, hk⟩
/-- a range, by induction over its rows -/
theorem ARange.ind {α : Type} (S : α → List (Nat × AV) × List (Nat × AObj) × Nat) (inv : List (List AV) → α → Prop) {ps : List Tmp} {A B : Nat → Post → Env → Heap → Nat → Prop} {more : Nat}
    (h0 : ∀ d, inv [] d → more = 0 ∧ Q .normal (mkE (S d).1) (mkH (S d).2.1) (S d).2.2)
    (h1 : ∀ xs rs d, inv (xs :: rs) d → (∀ d', inv rs d' → ARange n0 more ps A B Q rs (mkE (S d').1) (mkH (S d').2.1) (S d').2.2) → ARange n0 more ps A B Q (xs :: rs) (mkE (S d).1) (mkH (S d).2.1) (S d).2.2) :
    ∀ rows d, inv rows d → ARange n0 more ps A B Q rows (mkE (S d).1) (mkH (S d).2.1) (S d).2.2
  | [], d, hi => h0 d hi
  | xs :: rs, d, hi => h1 xs rs d hi fun d' hi' => ARange.ind S inv h0 h1 rs d' hi'
theorem QNone_normal {K : Env → Heap → Nat → Prop} : QNone K .normal e h n = K e h n := rfl
theorem QRound_normal {K : Env → Heap → Nat → Prop} {e0 : Env} : QRound K Q e0 .normal e h n = K (upd e0 GH (e GH)) h n := rfl
theorem QRound_ret {K : Env → Heap → Nat → Prop} {e0 : Env} : QRound K Q e0 .ret e h n = Q .ret (upd e0 GH (e GH)) h n := rfl
theorem QRound_exit {K : Env → Heap → Nat → Prop} {e0 : Env} {id : Nat} : QRound K Q e0 (.exit id) e h n = Q (.exit id) (upd e0 GH (e GH)) h n := rfl
theorem putPs_nil {xs : List AV} : putPs [] xs e = e := by simp [putPs]
theorem putPs_cons {t : Tmp} {ps : List Tmp} {x : AV} {xs : List AV} : putPs (t :: ps) (x :: xs) e = putPs ps xs (upd e t x) := rfl
theorem RetI_normal {rs : List ResultVar} {l more : Nat} : RetI P rs l more .normal e h n = ((resL P e h rs).1 ∧ ((more = 0 ∧ e GH = ghost l 0 []) ∨ e GH = ghost l 2 [])) := rfl
theorem RetI_ret {rs : List ResultVar} {l more : Nat} : RetI P rs l more .ret e h n = ((resL P e h rs).1 ∧ ((more = 0 ∧ e GH = ghost l 0 []) ∨ e GH = ghost l 2 [])) := rfl
/-- a yield -/
theorem aYld.mk {dst : Option Tmp} {l more : Nat} {args xs : List AV} {rs : List (List AV)} (h' : Heap) (hg : e GH = ghost l more (xs :: rs)) (hfz : Frz h h') (hle : LeRow h h' n args xs) (hb : ∀ c ∈ xs, Bel 0 c)
    (hT : aops P ops Q rest (put (upd e GH (ghost l more rs)) dst (.v (.bool true))) h' n) (hF : aops P ops Q rest (put (upd e GH (ghost l 2 [])) dst (.v (.bool false))) h' n) : aYld P ops Q rest dst l args e h n :=
  ⟨l, more, xs :: rs, rfl, hg, h', hfz, hle, hb, hT, hF⟩
theorem aYld.exh {dst : Option Tmp} {l : Nat} {args : List AV} (hg : e GH = ghost l 1 []) : aYld P ops Q rest dst l args e h n := ⟨l, 1, [], rfl, hg, rfl⟩
theorem aGC.yld {dst : Option Tmp} {l more : Nat} {args xs : List AV} {rs : List (List AV)} (h' : Heap) (hg : e GH = ghost l more (xs :: rs)) (hfz : Frz h h') (hle : LeRow h h' n args xs) (hb : ∀ c ∈ xs, Bel 0 c)
    (hT : aops P ops Q rest (put (upd e GH (ghost l more rs)) dst (.gd true (.v (.bool true)))) h' n) (hF : aops P ops Q rest (put (upd e GH (ghost l 2 [])) dst (.gd true (.v (.bool false)))) h' n) :
    aGC P ops Q rest dst true (.fn (.yield l) [] []) args e h n := .inr (.inr ⟨rfl, l, more, xs :: rs, rfl, hg, h', hfz, hle, hb, hT, hF⟩)
theorem aGC.exh {dst : Option Tmp} {l : Nat} {args : List AV} (hg : e GH = ghost l 1 []) : aGC P ops Q rest dst true (.fn (.yield l) [] []) args e h n := .inr (.inr ⟨rfl, l, 1, [], rfl, hg, rfl⟩)
attribute [go_sem] awp_rangeFunc QNone_normal QRound_normal QRound_ret QRound_exit putPs_nil putPs_cons RetI_normal RetI_ret aCall_yield
end
end Go.Av
end
section
set_option linter.unusedSimpArgs false
set_option linter.unusedVariables false
namespace Go.Av
open Go
theorem ACallP.clear {P : Program} {f : FuncId} {args : List AV} {h : Heap} {n : Nat} {K : CallK}
    (hc : ACallP P f args h n (fun r h' n' => ∃ o mt g sz rs, h' o = some (.rows mt g sz rs) ∧ K r (upd h' o (some (.rows mt g sz []))) n')) : ACallP P f args h n K := by
  refine ⟨hc.1, fun M0 φ w vs hH hargs => (hc.2 M0 φ w vs hH hargs).mono ?_⟩
  rintro e w' ⟨v, φ', r, h', n', rfl, ⟨o, mt, g, sz, rs, ho, hK⟩, hH', hx, st⟩
  have hmut : Mut φ' (upd h' o (some (.rows mt g sz []))) = Mut φ' h' := by
    funext k
    refine propext ⟨?_, ?_⟩
    · rintro ⟨o1, g1, sz1, rs1, g', a, bs, h1, h2, h3⟩
      by_cases he : o1 = o
      · subst he
        rw [upd_same] at h1
        simp only [Option.some.injEq, AObj.rows.injEq] at h1
        obtain ⟨rfl, rfl, rfl, _⟩ := h1
        exact ⟨o1, g, sz, rs, g', a, bs, ho, h2, h3⟩
      · rw [upd_ne _ _ he] at h1
        exact ⟨o1, g1, sz1, rs1, g', a, bs, h1, h2, h3⟩
    · rintro ⟨o1, g1, sz1, rs1, g', a, bs, h1, h2, h3⟩
      by_cases he : o1 = o
      · subst he
        rw [ho] at h1
        simp only [Option.some.injEq, AObj.rows.injEq] at h1
        obtain ⟨rfl, rfl, rfl, _⟩ := h1
        exact ⟨o1, g, sz, [], g', a, bs, by rw [upd_same], h2, h3⟩
      · exact ⟨o1, g1, sz1, rs1, g', a, bs, by rw [upd_ne _ _ he]; exact h1, h2, h3⟩
  have hold : ∀ o1 mt1 g1 sz1 rs1, upd h' o (some (.rows mt g sz [])) o1 = some (.rows mt1 g1 sz1 rs1) → ∃ rs2, h' o1 = some (.rows mt1 g1 sz1 rs2) ∧ (rs1 = rs2 ∨ rs1 = []) := by
    intro o1 mt1 g1 sz1 rs1 h1
    by_cases he : o1 = o
    · subst he
      rw [upd_same] at h1
      simp only [Option.some.injEq, AObj.rows.injEq] at h1
      obtain ⟨rfl, rfl, rfl, rfl⟩ := h1
      exact ⟨rs, ho, .inr rfl⟩
    · rw [upd_ne _ _ he] at h1
      exact ⟨rs1, h1, .inl rfl⟩
  refine ⟨v, φ', r, _, n', rfl, hK, ⟨hH'.m0, hH'.fresh, fun o1 mt1 g1 sz1 rs1 h1 => ?_, fun o1 o2 mt1 g1 sz1 rs1 mt2 g2 sz2 rs2 a a' b b' h1 h2 => ?_⟩, by rw [hmut]; exact hx, st.le, by rw [hmut]; exact st.or, st.fr, by rw [hmut]; exact st.mutd⟩
  · obtain ⟨rs2, h2, h3⟩ := hold _ _ _ _ _ h1
    obtain ⟨A, hA, hobj⟩ := hH'.obj _ _ _ _ _ h2
    rcases h3 with rfl | rfl
    · rw [hmut]; exact ⟨A, hA, hobj⟩
    · refine ⟨A, hA, hobj.imp (fun h => ⟨h.1, rfl⟩) ?_⟩
      rintro ⟨a, bs, C, T, e1, e2, e3, e4, e5, e6, e7, e8, e9⟩
      exact ⟨a, bs, C, T, e1, e2, e3, e4, e5, by simp, by simp; omega, by simp, by simpa using RelL.nil⟩
  · obtain ⟨rs3, h3, _⟩ := hold _ _ _ _ _ h1
    obtain ⟨rs4, h4, _⟩ := hold _ _ _ _ _ h2
    exact hH'.inj _ _ _ _ _ _ _ _ _ _ _ _ _ _ h3 h4
end Go.Av
end
