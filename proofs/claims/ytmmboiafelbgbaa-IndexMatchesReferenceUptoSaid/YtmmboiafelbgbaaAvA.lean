/- Our library, part 10: forgetting is sound; code is sound. -/
import Derived.Test.YtmmboiafelbgbaaAv9
set_option linter.unusedSimpArgs false
set_option linter.unusedVariables false
namespace Go.Av
open Go

section weaken
variable {φ : Place} {n : Nat} {w : World} {M0 : Nat → Prop} {h : Heap}
/-- the places that are kept -/
def cutP (φ : Place) (n n' : Nat) (h' : Heap) : Place := fun o => if o < n' then (if o < n then φ o else match h' o with | some (.rows _ g _ _) => some (g, none) | none => none) else none
theorem cutP_old {φ : Place} {n n' o : Nat} {h' : Heap} (h1 : o < n') (h2 : o < n) : cutP φ n n' h' o = φ o := by simp [cutP, h1, h2]

theorem Rel.cut {M M' : Nat → Prop} {n' : Nat} {h' : Heap} (hf : ∀ o, n ≤ o → φ o = none) (hM : ∀ k, M' k → M k) {x : AV} {v : Value} (hx : Rel φ w M x v) (hb : Bel n' x) :
    Rel (cutP φ n n' h') w M' x v := by
  refine Rel.rec (φ := φ) (w := w) (M := M) (motive_1 := fun x v _ => Bel n' x → Rel (cutP φ n n' h') w M' x v) (motive_2 := fun xs vs _ => (∀ c ∈ xs, Bel n' c) → RelL (cutP φ n n' h') w M' xs vs)
    ?_ ?_ ?_ ?_ ?_ ?_ ?_ ?_ ?_ ?_ ?_ ?_ ?_ hx hb
  · exact fun v _ => .top v
  · exact fun v _ => .v v
  · exact fun hv _ ih hb => by cases hb with | agg hb => exact .agg hv (ih hb)
  · exact fun _ ih hb => by cases hb with | tup hb => exact .tup (ih hb)
  · exact fun sz A cap _ => .nil sz A cap
  · intro sz rows a len cap C T fz hs hm hb hr hl hc hcap hv _ ih hbel
    cases hbel with
    | lst hbel =>
      refine .lst hs (fun hk => hm (hM _ hk)) hb hr hl hc hcap hv (ih fun c hc => ?_)
      obtain ⟨r, hr, hc⟩ := List.mem_flatten.1 hc
      exact hbel r hr c hc
  · intro cells a C T fz hs hm hb hc hv _ ih hbel
    cases hbel with | fp hbel => exact .fp hs (fun hk => hm (hM _ hk)) hb hc hv (ih hbel)
  · intro o g sz i off g' A v ho hg h hbel
    cases hbel with
    | ref hbel =>
      have : o < n := Nat.lt_of_not_le fun hle => by rw [hf o hle] at ho; cases ho
      exact .ref (by rw [cutP_old hbel this]; exact ho) hg h
  · intro o g sz i len g' A v ho hg h hbel
    cases hbel with
    | sl hbel =>
      have : o < n := Nat.lt_of_not_le fun hle => by rw [hf o hle] at ho; cases ho
      exact .sl (by rw [cutP_old hbel this]; exact ho) hg h
  · exact fun _ _ ih1 ih2 hb => by cases hb with | fn hb hb' => exact .fn (ih1 hb) (ih2 hb')
  · exact fun _ h' ih hb => by cases hb with | gd hb => exact .gd (fun hg => ih hg hb) h'
  · exact fun _ => .nil
  · exact fun _ _ ih1 ih2 hb => .cons (ih1 (hb _ (by simp))) (ih2 fun c hc => hb c (by simp [hc]))

theorem mkH_mem {HH : List (Nat × AObj)} {o : Nat} {x : AObj} (ho : mkH HH o = some x) : (o, x) ∈ HH := by
  induction HH with
  | nil => cases ho
  | cons p l ih =>
    obtain ⟨o', y⟩ := p
    simp only [mkH, upd] at ho
    split at ho
    · rename_i e; subst e; simp only [Option.some.injEq] at ho; subst ho; simp
    · simp [ih ho]
theorem mkE_mem {E : List (Nat × AV)} (t : Nat) : mkE E t = .top ∨ (t, mkE E t) ∈ E := by
  induction E with
  | nil => exact .inl rfl
  | cons p l ih =>
    obtain ⟨t', x⟩ := p
    simp only [mkE, upd]
    split
    · rename_i e; subst e; right; simp
    · rcases ih with ih | ih
      · exact .inl ih
      · right; simp [ih]

theorem LeRow.length {h h' : Heap} {n : Nat} : ∀ {xs ys : List AV}, LeRow h h' n xs ys → xs.length = ys.length
  | [], _, .nil => rfl
  | _ :: _, _, .cons _ t => by simp [t.length]
theorem LeRow.append {h h' : Heap} {n : Nat} : ∀ {xs ys xs' ys' : List AV}, LeRow h h' n xs ys → LeRow h h' n xs' ys' → LeRow h h' n (xs ++ xs') (ys ++ ys')
  | [], _, _, _, .nil, h2 => h2
  | _ :: _, _, _, _, .cons hx t, h2 => .cons hx (t.append h2)
theorem LeRows.spec {h h' : Heap} {n : Nat} : ∀ {rs rs' : List (List AV)}, LeRows h h' n rs rs' → LeRow h h' n rs.flatten rs'.flatten ∧ rs.length = rs'.length ∧ ∀ sz, (∀ r ∈ rs, r.length = sz) → ∀ r ∈ rs', r.length = sz
  | [], _, .refl _ => ⟨.nil, rfl, fun _ h => h⟩
  | [], _, .nil => ⟨.nil, rfl, fun _ h => h⟩
  | _ :: _, _, .refl _ => ⟨.refl _ _ _ _, rfl, fun _ h => h⟩
  | _ :: _, _, .cons hx t => by
    obtain ⟨i1, i2, i3⟩ := t.spec
    refine ⟨hx.append i1, by simp [i2], fun sz hs r hr => ?_⟩
    rcases List.mem_cons.1 hr with rfl | hr
    · rw [← hx.length]; exact hs _ (by simp)
    · exact i3 sz (fun r hr => hs r (by simp [hr])) r hr
theorem RelL.split {φ : Place} {w : World} {M : Nat → Prop} : ∀ {xs ys : List AV} {vs : List Value}, RelL φ w M (xs ++ ys) vs → ∃ us ts, vs = us ++ ts ∧ RelL φ w M xs us ∧ RelL φ w M ys ts
  | [], _, vs, h => ⟨[], vs, rfl, .nil, h⟩
  | _ :: _, _, _, .cons h t => by
    obtain ⟨us, ts, rfl, h1, h2⟩ := t.split
    exact ⟨_ :: us, ts, rfl, .cons h h1, h2⟩
/-- WHAT IS FORGOTTEN, VALUE BY VALUE. -/
theorem LeV.rel {F : Nat → Prop} (hH : HRelF φ F w M0 h) {h' : Heap} {φ' : Place} {M' : Nat → Prop} {n' : Nat} (hcut : ∀ {x : AV} {v : Value}, Bel n' x → Rel φ w (Or M0 (Mut φ h)) x v → Rel φ' w M' x v)
    (hblk : ∀ o mt g sz rs a bs, h o = some (.rows mt g sz rs) → φ o = some (g, some (a, bs)) → (∀ g sz rs, h' o ≠ some (.rows true g sz rs)) → ¬ M0 a.block → ¬ M' a.block)
    (hown : ∀ o g sz, n ≤ o → h' o = some (.rows true g sz []) → o < n' → φ' o = some (g, none)) :
    ∀ {x y : AV}, LeV h h' n x y → ∀ {v : Value}, Bel n' y → Rel φ w (Or M0 (Mut φ h)) x v → Rel φ' w M' y v := by
  have hfrz : ∀ {o g sz i len : Nat} {mt : Bool} {rs rows : List (List AV)} {v : Value}, h o = some (.rows mt g sz rs) → i + len ≤ rs.length → (∀ g sz rs, h' o ≠ some (.rows true g sz rs)) →
      LeRows h h' n ((rs.drop i).take len) rows → (∀ {vs : List Value}, RelL φ w (Or M0 (Mut φ h)) ((rs.drop i).take len).flatten vs → RelL φ' w M' rows.flatten vs) →
      Rel φ w (Or M0 (Mut φ h)) (.sl o g sz i len) v → Rel φ' w M' (.lst sz rows) v := by
    intro o g sz i len mt rs rows v ho hl ho' hr hb hx
    obtain ⟨A, cap, rfl, hcap, hA⟩ := hH.sl_alive (by simp [alive, ho]) hx
    obtain ⟨_, q2, q3⟩ := hr.spec
    have hrl : rows.length = len := by rw [← q2]; simp; omega
    rcases hA with ⟨rfl, rfl, rfl, _⟩ | ⟨rfl, _, _⟩ | ⟨a, bs, hp, rfl, hcb⟩
    · have : rows = [] := List.eq_nil_of_length_eq_zero hrl
      subst this; exact .nil _ _ _
    · have : rows = [] := List.eq_nil_of_length_eq_zero hrl
      subst this; exact .nil _ _ _
    · obtain ⟨A', hA', hobj⟩ := hH.obj _ _ _ _ _ ho
      rw [hp] at hA'
      simp only [Option.some.injEq, Prod.mk.injEq, true_and] at hA'
      subst hA'
      rcases hobj with ⟨hobj, _⟩ | ⟨a₁, bs₁, C, T, e1, hsp, h0, hcell, hC, hrr, hl', hv, hrel⟩
      · cases hobj
      simp only [Option.some.injEq, Prod.mk.injEq] at e1
      obtain ⟨rfl, rfl⟩ := e1
      have hm := Nat.mul_le_mul_right sz hl
      rw [Nat.add_mul] at hm
      have e1 : (C.toList.drop (a.off + i * sz)).take (len * sz) = (((C.toList.drop a.off).take (rs.length * sz)).drop (i * sz)).take (len * sz) := by
        rw [List.drop_take, List.drop_drop, List.take_take]; congr 1; omega
      refine .lst (a := ⟨a.block, a.off + i * sz, none⟩) (C := C) (T := T) (fz := (0, 0)) rfl (hblk o mt g sz rs a bs ho hp ho' h0) hcell ?_ hrl.symm (by rw [hrl]; simp only; omega) hcap ?_ ?_
      · exact q3 sz fun r hr0 => hrr r (List.mem_of_mem_drop (List.mem_of_mem_take hr0))
      · intro c hc
        rw [hrl] at hc
        simp only [e1] at hc
        exact hv c (List.mem_of_mem_drop (List.mem_of_mem_take hc))
      · rw [hrl]
        simp only [e1]
        refine hb ?_
        rw [flatten_take (fun r hr0 => hrr r (List.mem_of_mem_drop hr0)), flatten_drop hrr]
        exact (hrel.drop _).take _
  have hfrzP : ∀ {o g sz i off : Nat} {mt : Bool} {rs : List (List AV)} {cells : List AV} {v : Value}, h o = some (.rows mt g sz rs) → i < rs.length → off < sz → (∀ g sz rs, h' o ≠ some (.rows true g sz rs)) →
      LeRow h h' n ((nth rs i).drop off) cells → (∀ {vs : List Value}, RelL φ w (Or M0 (Mut φ h)) ((nth rs i).drop off) vs → RelL φ' w M' cells vs) →
      Rel φ w (Or M0 (Mut φ h)) (.ref o g sz i off) v → Rel φ' w M' (.fp cells) v := by
    intro o g sz i off mt rs cells v ho hi hoff ho' hr hb hx
    obtain ⟨A', hA', hobj⟩ := hH.obj _ _ _ _ _ ho
    cases hx with
    | ref hp hg hh =>
      rw [hA'] at hp
      simp only [Option.some.injEq, Prod.mk.injEq] at hp
      obtain ⟨rfl, rfl⟩ := hp
      obtain ⟨a, bs, rfl, rfl⟩ := hh rfl
      rcases hobj with ⟨hobj, _⟩ | ⟨a₁, bs₁, C, T, e1, hsp, h0, hcell, hC, hrr, hl', hv, hrel⟩
      · cases hobj
      simp only [Option.some.injEq, Prod.mk.injEq] at e1
      obtain ⟨rfl, rfl⟩ := e1
      have hlen : ((nth rs i).drop off).length = sz - off := by
        have : (nth rs i).length = sz := by
          have : nth rs i = rs[i] := by simp [nth, hi]
          rw [this]; exact hrr _ (List.getElem_mem hi)
        simp [this]
      have hcl : cells.length = sz - off := by rw [← hr.length]; exact hlen
      have hm := Nat.mul_le_mul_right sz (show i + 1 ≤ rs.length from hi)
      rw [Nat.add_mul] at hm
      have e1 : (C.toList.drop (a.off + i * sz + off)).take (sz - off) = (((C.toList.drop a.off).take (rs.length * sz)).drop (i * sz + off)).take (sz - off) := by
        rw [List.drop_take, List.drop_drop, List.take_take]; congr 1
        · omega
        · congr 1; omega
      refine .fp (a := ⟨a.block, a.off + i * sz + off, none⟩) (C := C) (T := T) (fz := (0, 0)) rfl (hblk o mt g sz rs a bs ho hA' ho' h0) hcell (by rw [hcl]; simp only; omega) ?_ ?_
      · intro c hc
        rw [hcl] at hc
        simp only [e1] at hc
        exact hv c (List.mem_of_mem_drop (List.mem_of_mem_take hc))
      · rw [hcl]
        simp only [e1]
        refine hb ?_
        have e2 : (nth rs i).drop off = (rs.flatten.drop (i * sz + off)).take (sz - off) := by
          have e3 : nth rs i = rs[i] := by simp [nth, hi]
          have e4 := flatten_drop hrr i
          rw [← List.drop_drop, ← e4, List.drop_eq_getElem_cons hi, List.flatten_cons, e3]
          have : rs[i].length = sz := hrr _ (List.getElem_mem hi)
          rw [List.drop_append_of_le_length (by omega), List.take_append_of_le_length (by simp [this]), List.take_of_length_le (by simp [this])]
        rw [e2]
        exact (hrel.drop _).take _
  intro x y hle
  refine LeV.rec (h := h) (h' := h') (n := n)
    (motive_1 := fun x y _ => ∀ {v : Value}, Bel n' y → Rel φ w (Or M0 (Mut φ h)) x v → Rel φ' w M' y v)
    (motive_2 := fun xs ys _ => ∀ {vs : List Value}, (∀ c ∈ ys, Bel n' c) → RelL φ w (Or M0 (Mut φ h)) xs vs → RelL φ' w M' ys vs)
    (motive_3 := fun xs ys _ => ∀ {vs : List Value}, (∀ r ∈ ys, ∀ c ∈ r, Bel n' c) → RelL φ w (Or M0 (Mut φ h)) xs.flatten vs → RelL φ' w M' ys.flatten vs)
    ?_ ?_ ?_ ?_ ?_ ?_ ?_ ?_ ?_ ?_ ?_ ?_ ?_ ?_ hle
  · intro x v hb hx; exact hcut hb hx
  · intro x v hb hx; exact .top _
  · intro o g sz i len mt rs rows ho hl ho' hr ih v hb hx
    exact hfrz ho hl ho' hr (fun hx => ih (by cases hb with | lst hb => exact hb) hx) hx
  · intro o g sz i off mt rs cells ho hi hoff ho' hr ih v hb hx
    exact hfrzP ho hi hoff ho' hr (fun hx => ih (by cases hb with | fp hb => exact hb) hx) hx
  · intro A c sz v hb hx; cases hx; exact .nil _ _ _
  · intro o g sz hn ho' v hb hx
    cases hx
    cases hb with
    | sl hb => exact .sl (hown o g sz hn ho' hb) (Nat.le_refl _) fun _ => .inl ⟨rfl, rfl, rfl, rfl⟩
  · intro xs ys _ ih v hb hx
    cases hx with | agg hv hrel => cases hb with | agg hb => exact .agg hv (ih hb hrel)
  · intro xs ys _ ih v hb hx
    cases hx with | tup hrel => cases hb with | tup hb => exact .tup (ih hb hrel)
  · intro f a b a' b' _ _ ih1 ih2 v hb hx
    cases hx with | fn h1 h2 => cases hb with | fn hb hb' => exact .fn (ih1 hb h1) (ih2 hb' h2)
  · intro vs _ hx; cases hx; exact .nil
  · intro x y xs ys _ _ ih1 ih2 vs hb hx
    cases hx with | cons h1 h2 => exact .cons (ih1 (hb _ (by simp)) h1) (ih2 (fun c hc => hb c (by simp [hc])) h2)
  · intro rs vs hb hx
    refine RelL.of_get hx.length fun k hk hk' => hcut ?_ (hx.get k hk hk')
    obtain ⟨r, hr2, hc2⟩ := List.mem_flatten.1 (List.getElem_mem hk)
    exact hb r hr2 _ hc2
  · intro vs _ hx; cases hx; exact .nil
  · intro x y xs ys _ _ ih1 ih2 vs hb hx
    rw [List.flatten_cons] at hx ⊢
    obtain ⟨us, ts, rfl, h1, h2⟩ := hx.split
    exact (ih1 (hb _ (by simp)) h1).append (ih2 (fun c hc => hb c (by simp [hc])) h2)
theorem LeRow.rel {F : Nat → Prop} (hH : HRelF φ F w M0 h) {h' : Heap} {φ' : Place} {M' : Nat → Prop} {n' : Nat} (hcut : ∀ {x : AV} {v : Value}, Bel n' x → Rel φ w (Or M0 (Mut φ h)) x v → Rel φ' w M' x v)
    (hblk : ∀ o mt g sz rs a bs, h o = some (.rows mt g sz rs) → φ o = some (g, some (a, bs)) → (∀ g sz rs, h' o ≠ some (.rows true g sz rs)) → ¬ M0 a.block → ¬ M' a.block)
    (hown : ∀ o g sz, n ≤ o → h' o = some (.rows true g sz []) → o < n' → φ' o = some (g, none)) :
    ∀ {xs ys : List AV}, LeRow h h' n xs ys → (∀ c ∈ ys, Bel n' c) → ∀ {vs : List Value}, RelL φ w (Or M0 (Mut φ h)) xs vs → RelL φ' w M' ys vs := by
  intro xs
  induction xs with
  | nil => intro ys hle _ vs hx; cases hle; cases hx; exact .nil
  | cons x xs ih =>
    intro ys hle hb vs hx
    cases hle with
    | cons hx0 ht =>
      cases hx with
      | cons h1 h2 => exact .cons (LeV.rel hH hcut hblk hown hx0 (hb _ (by simp)) h1) (ih ht (fun c hc => hb c (by simp [hc])) h2)
theorem Wk.sound {e : Env} {E : List (Nat × AV)} {HH : List (Nat × AObj)} {n' : Nat} (hk : Wk e h n E HH n') (hH : HRel φ n w M0 h) {tmps : Nat → Value}
    (he : ∀ t, Rel φ w (Or M0 (Mut φ h)) (e t) (tmps t)) :
    ∃ φ', HRel φ' n' w M0 (mkH HH) ∧ (∀ t, Rel φ' w (Or M0 (Mut φ' (mkH HH))) (mkE E t) (tmps t)) ∧ (∀ k, Mut φ' (mkH HH) k → Mut φ h k) ∧
      (∀ o x, o < n' → φ o = some x → φ' o = some x) := by
  have hold : ∀ o mt g sz rs, mkH HH o = some (.rows mt g sz rs) → o < n' ∧ BelO n' (.rows mt g sz rs) ∧
      ((∃ mt0 rs0, h o = some (.rows mt0 g sz rs0) ∧ (mt = true → mt0 = true) ∧ LeRows h (mkH HH) n rs0 rs ∧ o < n ∧ cutP φ n n' (mkH HH) o = φ o) ∨
       (h o = none ∧ mt = true ∧ rs = [] ∧ n ≤ o ∧ cutP φ n n' (mkH HH) o = some (g, none))) := by
    intro o mt g sz rs ho
    obtain ⟨h1, h2, h3⟩ := hk.obj _ (mkH_mem ho)
    refine ⟨h1, h3, ?_⟩
    simp only at h2 h1
    generalize hho : h o = q at h2
    cases h2 with
    | same hm hr =>
      have hlt : o < n := by
        obtain ⟨A, hA, _⟩ := hH.obj _ _ _ _ _ hho
        exact Nat.lt_of_not_le fun hle => by rw [hH.fresh o hle] at hA; cases hA
      exact .inl ⟨_, _, rfl, hm, hr, hlt, cutP_old h1 hlt⟩
    | own hn => exact .inr ⟨rfl, rfl, rfl, hn, by simp [cutP, h1, show ¬ o < n by omega, ho]⟩
  have hmut : ∀ k, Mut (cutP φ n n' (mkH HH)) (mkH HH) k → Mut φ h k := by
    rintro k ⟨o, g, sz, rs, g', a, bs, ho, hp, rfl⟩
    obtain ⟨_, _, hc⟩ := hold _ _ _ _ _ ho
    rcases hc with ⟨mt0, rs0, ho0, hm, _, _, hcut⟩ | ⟨_, _, _, _, hcut⟩
    · rw [hcut] at hp
      have := hm rfl
      subst this
      exact ⟨o, g, sz, rs0, g', a, bs, ho0, hp, rfl⟩
    · rw [hcut] at hp; cases hp
  have hor : ∀ k, Or M0 (Mut (cutP φ n n' (mkH HH)) (mkH HH)) k → Or M0 (Mut φ h) k := fun k hk => hk.imp id (hmut k)
  have hcut0 : ∀ {x : AV} {v : Value}, Bel n' x → Rel φ w (Or M0 (Mut φ h)) x v → Rel (cutP φ n n' (mkH HH)) w (Or M0 (Mut (cutP φ n n' (mkH HH)) (mkH HH))) x v := fun hb hx => hx.cut hH.fresh hor hb
  have hblk : ∀ o mt g sz rs a bs, h o = some (.rows mt g sz rs) → φ o = some (g, some (a, bs)) → (∀ g sz rs, mkH HH o ≠ some (.rows true g sz rs)) → ¬ M0 a.block → ¬ Or M0 (Mut (cutP φ n n' (mkH HH)) (mkH HH)) a.block := by
    rintro o mt g sz rs a bs ho hp ho' h0 (hk | ⟨o', g', sz', rs', g'', a', bs', ho1, hp1, he⟩)
    · exact h0 hk
    · obtain ⟨_, _, hc⟩ := hold _ _ _ _ _ ho1
      rcases hc with ⟨mt0, rs0, ho0, hm0, _, _, hcut⟩ | ⟨_, _, _, _, hcut⟩
      · rw [hcut] at hp1
        have hne : o' ≠ o := fun e => by subst e; exact ho' _ _ _ ho1
        have hm1 := hm0 rfl
        subst hm1
        have hg : g'' = g' := by
          obtain ⟨A2, hA2, _⟩ := hH.obj _ _ _ _ _ ho0
          rw [hp1] at hA2
          simp only [Option.some.injEq, Prod.mk.injEq] at hA2
          exact hA2.1
        subst hg
        exact hH.inj _ _ _ _ _ _ _ _ _ _ _ _ _ _ ho0 ho hne (.inl rfl) hp1 hp he
      · rw [hcut] at hp1; cases hp1
  have hown : ∀ o g sz, n ≤ o → mkH HH o = some (.rows true g sz []) → o < n' → cutP φ n n' (mkH HH) o = some (g, none) := by
    intro o g sz hn ho' hb
    simp [cutP, hb, show ¬ o < n by omega, ho']
  have hval : ∀ {x y : AV} {v : Value}, LeV h (mkH HH) n x y → Bel n' y → Rel φ w (Or M0 (Mut φ h)) x v → Rel (cutP φ n n' (mkH HH)) w (Or M0 (Mut (cutP φ n n' (mkH HH)) (mkH HH))) y v :=
    fun hle hb hx => LeV.rel hH hcut0 hblk hown hle hb hx
  have hrow : ∀ {xs ys : List AV}, LeRow h (mkH HH) n xs ys → (∀ c ∈ ys, Bel n' c) → ∀ {vs : List Value}, RelL φ w (Or M0 (Mut φ h)) xs vs →
      RelL (cutP φ n n' (mkH HH)) w (Or M0 (Mut (cutP φ n n' (mkH HH)) (mkH HH))) ys vs :=
    fun hle hb _ hx => LeRow.rel hH hcut0 hblk hown hle hb hx
  have hrows : ∀ {rs rs' : List (List AV)}, LeRows h (mkH HH) n rs rs' → LeRow h (mkH HH) n rs.flatten rs'.flatten ∧ rs.length = rs'.length ∧ ∀ sz, (∀ r ∈ rs, r.length = sz) → ∀ r ∈ rs', r.length = sz := fun hle => hle.spec
  refine ⟨cutP φ n n' (mkH HH), ⟨hH.m0, fun o ho => by simp [cutP, show ¬ o < n' by omega], ?_, ?_⟩, ?_, hmut, ?_⟩
  · intro o mt g sz rs ho
    obtain ⟨hlt, hbel, hc⟩ := hold _ _ _ _ _ ho
    rcases hc with ⟨mt0, rs0, ho0, hm, hr, hlt', hcut⟩ | ⟨_, _, rfl, _, hcut⟩
    · obtain ⟨A, hA, hobj⟩ := hH.obj _ _ _ _ _ ho0
      obtain ⟨i1, i2, i3⟩ := hrows hr
      refine ⟨A, by rw [hcut]; exact hA, hobj.imp (fun h => ⟨h.1, ?_⟩) ?_⟩
      · obtain ⟨_, rfl⟩ := h
        exact List.eq_nil_of_length_eq_zero (by rw [← i2]; rfl)
      · rintro ⟨a, bs, C, T, e1, e2, e3, e4, e5, e6, e7, e8, e9⟩
        refine ⟨a, bs, C, T, e1, e2, e3, e4, e5, i3 sz e6, by rw [← i2]; exact e7, by rw [← i2]; exact e8, ?_⟩
        rw [← i2]
        refine hrow i1 (fun c hc => ?_) e9
        obtain ⟨r, hr, hc⟩ := List.mem_flatten.1 hc
        exact hbel r hr c hc
    · exact ⟨none, hcut, .inl ⟨rfl, rfl⟩⟩
  · intro o o' mt g sz rs mt' g' sz' rs' a a' b b' h1 h2 hne hmt p1 p2
    obtain ⟨_, _, c1⟩ := hold _ _ _ _ _ h1
    obtain ⟨_, _, c2⟩ := hold _ _ _ _ _ h2
    rcases c1 with ⟨mt1, rs1, ho1, hm1, _, _, hcut1⟩ | ⟨_, _, _, _, hcut1⟩
    · rcases c2 with ⟨mt2, rs2, ho2, hm2, _, _, hcut2⟩ | ⟨_, _, _, _, hcut2⟩
      · rw [hcut1] at p1
        rw [hcut2] at p2
        exact hH.inj _ _ _ _ _ _ _ _ _ _ _ _ _ _ ho1 ho2 hne (hmt.imp hm1 hm2) p1 p2
      · rw [hcut2] at p2; cases p2
    · rw [hcut1] at p1; cases p1
  · intro t
    rcases mkE_mem (E := E) t with ht | ht
    · rw [ht]; exact .top _
    · obtain ⟨h1, h2⟩ := hk.env _ ht
      exact hval h1 h2 (he t)
  · intro o x hlt hx
    have : o < n := Nat.lt_of_not_le fun hle => by rw [hH.fresh o hle] at hx; cases hx
    rw [cutP_old hlt this]; exact hx
end weaken
end Go.Av
