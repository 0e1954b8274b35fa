/- Our library, part 12: a region that draws its order. -/
import Derived.Test.YtmmboiafelbgbaaAvB
import Derived.OrdersIn
set_option linter.unusedSimpArgs false
set_option linter.unusedVariables false
namespace Go.Av
open Go

theorem not_mut_noH {φ : Place} {k : Nat} : ¬ Mut φ noH k := by rintro ⟨o, g, sz, rs, g', a, bs, ho, _⟩; cases ho
theorem Flat.rel {x : AV} (hf : Flat x) {φ φ' : Place} {w w' : World} {M M' : Nat → Prop} : ∀ {v : Value}, Rel φ w M x v → Rel φ' w' M' x v := by
  induction hf with
  | v x => intro v h; cases h; exact .v _
  | @tup xs h ih =>
    intro v hx
    cases hx with
    | tup hr => exact .tup (RelL.of_get hr.length fun k hk hv => ih _ (List.getElem_mem _) (hr.get k hk hv))
  | @agg xs h ih =>
    intro v hx
    cases hx with
    | agg hcv hr => exact .agg hcv (RelL.of_get hr.length fun k hk hv => ih _ (List.getElem_mem _) (hr.get k hk hv))

theorem Rel.closed {φ φ' : Place} {w : World} {M M' : Nat → Prop} (hM : ∀ k, M' k → M k) {x : AV} {v : Value} (hx : Rel φ w M x v) (hb : Bel 0 x) : Rel φ' w M' x v := by
  refine Rel.rec (φ := φ) (w := w) (M := M) (motive_1 := fun x v _ => Bel 0 x → Rel φ' w M' x v) (motive_2 := fun xs vs _ => (∀ c ∈ xs, Bel 0 c) → RelL φ' w M' xs vs)
    ?_ ?_ ?_ ?_ ?_ ?_ ?_ ?_ ?_ ?_ ?_ ?_ ?_ hx hb
  · exact fun v _ => .top v
  · exact fun v _ => .v v
  · exact fun hv _ ih hb => by cases hb with | agg hb => exact .agg hv (ih hb)
  · exact fun _ ih hb => by cases hb with | tup hb => exact .tup (ih hb)
  · exact fun sz A cap _ => .nil sz A cap
  · intro sz rows a len cap C T fz hs hm hb hr hl hc hcap hv _ ih hbel
    cases hbel with
    | lst hbel =>
      refine .lst hs (fun hk => hm (hM _ hk)) hb hr hl hc hcap hv (ih fun c hc => ?_)
      obtain ⟨r, hr, hc⟩ := List.mem_flatten.1 hc
      exact hbel r hr c hc
  · intro cells a C T fz hs hm hb hc hv _ ih hbel
    cases hbel with | fp hbel => exact .fp hs (fun hk => hm (hM _ hk)) hb hc hv (ih hbel)
  · intro o g sz i off g' A v ho hg h hbel
    cases hbel with | ref hbel => exact absurd hbel (Nat.not_lt_zero _)
  · intro o g sz i len g' A v ho hg h hbel
    cases hbel with | sl hbel => exact absurd hbel (Nat.not_lt_zero _)
  · exact fun _ _ ih1 ih2 hb => by cases hb with | fn hb hb' => exact .fn (ih1 hb) (ih2 hb')
  · exact fun _ h' ih hb => by cases hb with | gd hb => exact .gd (fun hg => ih hg hb) h'
  · exact fun _ => .nil
  · exact fun _ _ ih1 ih2 hb => .cons (ih1 (hb _ (by simp))) (ih2 fun c hc => hb c (by simp [hc]))
/-- the arguments as data -/
theorem view_args {φ : Place} {F : Nat → Prop} {n : Nat} {w : World} {M0 : Nat → Prop} {h h' : Heap} (hH : HRelF φ F w M0 h) (hfz : ∀ o g sz rs, h' o = some (.rows true g sz rs) → h o = some (.rows true g sz rs))
    {args args' : List AV} {vs : List Value} (hle : LeRow h h' n args args') (hb : ∀ c ∈ args', Bel 0 c) (hr : RelL φ w (Or M0 (Mut φ h)) args vs) : RelL noP w (Or M0 (Mut φ h')) args' vs := by
  have hmut : ∀ k, Mut φ h' k → Mut φ h k := by
    rintro k ⟨o, g, sz, rs, g', a, bs, ho, hp, rfl⟩
    exact ⟨o, g, sz, rs, g', a, bs, hfz _ _ _ _ ho, hp, rfl⟩
  refine LeRow.rel (φ' := noP) (n' := 0) hH (fun {x v} hb hx => ?_) ?_ (fun o g sz _ _ h0 => by omega) hle hb hr
  · exact hx.closed (fun k hk => hk.imp id (hmut k)) hb
  · rintro o mt g sz rs a bs ho hp ho' h0 (hk | ⟨o', g', sz', rs', g'', a', bs', ho1, hp1, he⟩)
    · exact h0 hk
    · have hne : o' ≠ o := fun e => by subst e; exact ho' _ _ _ ho1
      have ho0 := hfz _ _ _ _ ho1
      have hg : g'' = g' := by
        obtain ⟨A2, hA2, _⟩ := hH.obj _ _ _ _ _ ho0
        rw [hp1] at hA2
        simp only [Option.some.injEq, Prod.mk.injEq] at hA2
        exact hA2.1
      subst hg
      exact hH.inj _ _ _ _ _ _ _ _ _ _ _ _ _ _ ho0 ho hne (.inl rfl) hp1 hp he


/-! ### what an operation looks at -/
section local_
variable {P : Program} {id : Nat} {e e' : Env} {h h' : Heap}
theorem alive_congr {o g sz : Nat} (he : h o = h' o) : alive h o g sz = alive h' o g sz := by unfold alive; rw [he]
theorem isCell_congr {x : AV} (hx : ∀ o ∈ x.ids, h o = h' o) : x.isCell h = x.isCell h' := by
  cases x <;> first | rfl | exact alive_congr (hx _ (by simp [AV.ids]))
theorem okCells_congr {x : AV} (hx : ∀ o ∈ x.ids, h o = h' o) : x.okCells h = x.okCells h' := by
  cases x <;> first | rfl | exact isCell_congr hx
theorem evLoad_congr {t : TypeId} {x : AV} (hx : ∀ o ∈ x.ids, h o = h' o) : evLoad P t x h = evLoad P t x h' := by
  cases x with
  | ref o g sz i off => have := hx o (by simp [AV.ids]); simp only [evLoad, this]
  | _ => rfl
theorem evStore_congr {t : TypeId} {x v : AV} (hx : ∀ o ∈ x.ids, h o = h' o) (hv : ∀ o ∈ v.ids, h o = h' o) : evStore P t x v h = evStore P t x v h' := by
  cases x with
  | ref o g sz i off => have := hx o (by simp [AV.ids]); simp only [evStore, this, okCells_congr hv]
  | _ => rfl
theorem evFieldAddr_congr {t : TypeId} {x : AV} {f : Nat} (hx : ∀ o ∈ x.ids, h o = h' o) : evFieldAddr P t x f h = evFieldAddr P t x f h' := by
  unfold evFieldAddr
  split
  · cases x <;> first | rfl | (simp only; rw [alive_congr (hx _ (by simp [AV.ids]))])
  · rfl
theorem evIndexAddr_congr {t : TypeId} {x i : AV} (hx : ∀ o ∈ x.ids, h o = h' o) : evIndexAddr P t x i h = evIndexAddr P t x i h' := by
  unfold evIndexAddr
  split
  · rw [alive_congr (hx _ (by simp [AV.ids]))]
  · rfl
  · split
    · rw [alive_congr (hx _ (by simp [AV.ids]))]
    · rfl
  · rfl
  · rfl
theorem evLen_congr {t : TypeId} {x : AV} (hx : ∀ o ∈ x.ids, h o = h' o) : evLen P t x h = evLen P t x h' := by
  unfold evLen
  split
  · rw [alive_congr (hx _ (by simp [AV.ids]))]
  all_goals rfl
theorem evSlice_congr {t : TypeId} {x : AV} {lo hi mx : Option AV} (hx : ∀ o ∈ x.ids, h o = h' o) : evSlice P t x lo hi mx h = evSlice P t x lo hi mx h' := by
  unfold evSlice
  split
  · split
    · rw [alive_congr (hx _ (by simp [AV.ids]))]
    · rfl
  all_goals rfl
theorem rowsOf_congr {x : AV} {sz : Nat} (hx : ∀ o ∈ x.ids, h o = h' o) : rowsOf x sz h = rowsOf x sz h' := by
  cases x with
  | sl o g sz i len => have := hx o (by simp [AV.ids]); simp only [rowsOf, this]
  | v y => unfold rowsOf; split <;> simp_all
  | _ => rfl
theorem evAppend_congr {tys : List TypeId} {s x : AV} (hs : ∀ o ∈ s.ids, h o = h' o) (hx : ∀ o ∈ x.ids, h o = h' o) : evAppend P id tys s x h = evAppend P id tys s x h' := by
  unfold evAppend
  split
  · split
    · split
      · rename_i sz _ _ _ _ _
        rw [rowsOf_congr hx]
        cases s with
        | sl o g sz i len => have := hs o (by simp [AV.ids]); simp only [this]
        | v y => split <;> (try split) <;> simp_all
        | _ => rfl
      · rfl
    · rfl
  · rfl
theorem evCopy_congr {tys : List TypeId} {s x : AV} (hs : ∀ o ∈ s.ids, h o = h' o) (hx : ∀ o ∈ x.ids, h o = h' o) : evCopy P tys s x h = evCopy P tys s x h' := by
  unfold evCopy
  split
  · split
    · split
      · rw [rowsOf_congr hx]
        cases s with
        | sl o g sz i len => have := hs o (by simp [AV.ids]); simp only [this]
        | _ => rfl
      · rfl
    · rfl
  · rfl
theorem fillRows_congr {sz : Nat} : ∀ {l : List (Nat × AV)} {rs : List (List AV)}, (∀ p ∈ l, ∀ o ∈ p.2.ids, h o = h' o) → fillRows h sz rs l = fillRows h' sz rs l
  | [], _, _ => rfl
  | (i, x) :: l, rs, hx => by
    unfold fillRows
    rw [okCells_congr (hx (i, x) (by simp)), fillRows_congr (fun p hp => hx p (by simp [hp]))]
theorem fillCells_congr {s : TypeId} : ∀ {l : List (Nat × AV)} {cs : List AV}, (∀ p ∈ l, ∀ o ∈ p.2.ids, h o = h' o) → fillCells P h s cs l = fillCells P h' s cs l
  | [], _, _ => rfl
  | (i, x) :: l, cs, hx => by
    unfold fillCells
    split
    · simp only
      rw [okCells_congr (hx (i, x) (by simp)), fillCells_congr (fun p hp => hx p (by simp [hp]))]
    · rfl
theorem fillArr_congr {sz : Nat} : ∀ {l : List (Nat × AV)} {cs : List AV}, (∀ p ∈ l, ∀ o ∈ p.2.ids, h o = h' o) → fillArr h sz cs l = fillArr h' sz cs l
  | [], _, _ => rfl
  | (i, x) :: l, cs, hx => by
    unfold fillArr
    rw [okCells_congr (hx (i, x) (by simp)), fillArr_congr (fun p hp => hx p (by simp [hp]))]
theorem parts_congr {ps : Array (Nat × Operand)} (he : ∀ x ∈ ps.toList.map (·.2), ev e x = ev e' x) : (ps.toList.map fun p => (p.1, ev e p.2)) = ps.toList.map fun p => (p.1, ev e' p.2) := by
  apply List.map_congr_left
  intro p hp
  rw [he p.2 (List.mem_map.2 ⟨p, hp, rfl⟩)]

theorem evConv_congr {s d : TypeId} {x : AV} (h1 : ∀ e0, rowsOf x e0 h = rowsOf x e0 h') : evConv P s d x h = evConv P s d x h' := by
  have h2 : ∀ e0, evStr P e0 x h = evStr P e0 x h' := fun e0 => by unfold evStr; rw [h1]
  cases x <;> (unfold evConv; split <;> first | rfl | exact h2 _ | (simp_all; done))
/-- ONE OPERATION LOOKS AT ITS OPERANDS, AND AT THE OBJECTS THAT THEY NAME. -/
theorem aev_congr {op : Op} (he : ∀ x ∈ op.operands, ev e x = ev e' x) (hh : ∀ o ∈ (op.operands.toList.map (ev e)).flatMap AV.ids, h o = h' o) : aev P id op e h = aev P id op e' h' := by
  have hx : ∀ x ∈ op.operands, ∀ o ∈ (ev e x).ids, h o = h' o := fun x hx o ho => hh o (List.mem_flatMap.2 ⟨ev e x, List.mem_map.2 ⟨x, by simpa using hx, rfl⟩, ho⟩)
  cases op with
  | move x => simp only [aev]; rw [he x (by simp [Op.operands])]
  | assign x => simp only [aev]; rw [he x (by simp [Op.operands])]
  | pick c x y => simp only [aev]; rw [he c (by simp [Op.operands]), he x (by simp [Op.operands]), he y (by simp [Op.operands])]
  | alloc t => rfl
  | box t x => simp only [aev]; rw [okCells_congr (hx x (by simp [Op.operands])), he x (by simp [Op.operands])]
  | build t ps =>
    have h1 : ∀ x ∈ ps.toList.map (·.2), ev e x = ev e' x := fun x hx => he x (by simp [Op.operands]; simpa using hx)
    have h2 : ∀ p ∈ (ps.toList.map fun p => (p.1, ev e p.2)), ∀ o ∈ p.2.ids, h o = h' o := by
      intro p hp o ho
      obtain ⟨q, hq, rfl⟩ := List.mem_map.1 hp
      exact hx q.2 (by simp [Op.operands]; exact ⟨q.1, by simpa using hq⟩) o ho
    simp only [aev]
    rw [← parts_congr h1]
    unfold evBuild
    split
    · rw [fillCells_congr h2]
    · split
      · rw [fillArr_congr h2]
      · rfl
    · rfl
  | buildSlice t len ps =>
    have h1 : ∀ x ∈ ps.toList.map (·.2), ev e x = ev e' x := fun x hx => he x (by simp [Op.operands]; simpa using hx)
    have h2 : ∀ p ∈ (ps.toList.map fun p => (p.1, ev e p.2)), ∀ o ∈ p.2.ids, h o = h' o := by
      intro p hp o ho
      obtain ⟨q, hq, rfl⟩ := List.mem_map.1 hp
      exact hx q.2 (by simp [Op.operands]; exact ⟨q.1, by simpa using hq⟩) o ho
    simp only [aev]
    rw [← parts_congr h1]
    unfold evBuildSlice
    split
    · split
      · rw [fillRows_congr h2]
      · rfl
    · rfl
  | load t x => simp only [aev]; rw [evLoad_congr (hx x (by simp [Op.operands])), he x (by simp [Op.operands])]
  | store t x y => simp only [aev]; rw [evStore_congr (hx x (by simp [Op.operands])) (hx y (by simp [Op.operands])), he x (by simp [Op.operands]), he y (by simp [Op.operands])]
  | binOp o t x y t' => simp only [aev]; rw [he x (by simp [Op.operands]), he y (by simp [Op.operands])]
  | unOp o t x => simp only [aev]; rw [he x (by simp [Op.operands])]
  | convert s d x =>
    have h1 : ∀ e0, rowsOf (ev e x) e0 h = rowsOf (ev e x) e0 h' := fun e0 => rowsOf_congr (hx x (by simp [Op.operands]))
    simp only [aev]
    rw [← he x (by simp [Op.operands])]
    exact evConv_congr h1
  | makeFunc f xs ys =>
    simp only [aev]
    rw [List.map_congr_left (fun x hx => he x (by simp [Op.operands]; exact .inl (by simpa using hx))), List.map_congr_left (fun x hx => he x (by simp [Op.operands]; exact .inr (by simpa using hx)))]
  | makeSlice t l c => simp only [aev]; rw [he l (by simp [Op.operands]), he c (by simp [Op.operands])]
  | slice t x lo hi mx =>
    simp only [aev]
    have m1 : lo.map (ev e) = lo.map (ev e') := by cases lo with
      | none => rfl
      | some y => simp only [Option.map_some]; rw [he y (by simp [Op.operands])]
    have m2 : hi.map (ev e) = hi.map (ev e') := by cases hi with
      | none => rfl
      | some y => simp only [Option.map_some]; rw [he y (by simp [Op.operands])]
    have m3 : mx.map (ev e) = mx.map (ev e') := by cases mx with
      | none => rfl
      | some y => simp only [Option.map_some]; rw [he y (by simp [Op.operands])]
    rw [evSlice_congr (hx x (by simp [Op.operands])), m1, m2, m3, he x (by simp [Op.operands])]
  | fieldAddr t x f => simp only [aev]; rw [evFieldAddr_congr (hx x (by simp [Op.operands])), he x (by simp [Op.operands])]
  | field t x f => simp only [aev]; rw [he x (by simp [Op.operands])]
  | indexAddr t x i => simp only [aev]; rw [evIndexAddr_congr (hx x (by simp [Op.operands])), he x (by simp [Op.operands]), he i (by simp [Op.operands])]
  | index t x i => simp only [aev]; rw [he x (by simp [Op.operands]), he i (by simp [Op.operands])]
  | extract x i => simp only [aev]; rw [he x (by simp [Op.operands])]
  | call c =>
    obtain ⟨callee, args, ats⟩ := c
    cases callee with
    | builtin b =>
      have ha : ∀ x ∈ args.toList, ev e x = ev e' x := fun x hx => he x (by simp [Op.operands, Call.operands]; simpa using hx)
      have hb : ∀ x ∈ args.toList, ∀ o ∈ (ev e x).ids, h o = h' o := fun x hx' => hx x (by simp [Op.operands, Call.operands]; simpa using hx')
      cases b with
      | len =>
        simp only [aev]
        split
        · rename_i x t hxx _
          rw [hxx] at ha hb
          rw [evLen_congr (hb x (by simp)), ha x (by simp)]
        · rfl
      | append =>
        simp only [aev]
        split
        · rename_i s x hxx
          rw [hxx] at ha hb
          rw [evAppend_congr (hb s (by simp)) (hb x (by simp)), ha s (by simp), ha x (by simp)]
        · rfl
      | copy =>
        simp only [aev]
        split
        · rename_i s x hxx
          rw [hxx] at ha hb
          rw [evCopy_congr (hb s (by simp)) (hb x (by simp)), ha s (by simp), ha x (by simp)]
        · rfl
      | min =>
        simp only [aev]
        split
        · rename_i x y hxx
          rw [hxx] at ha
          rw [ha x (by simp), ha y (by simp)]
        · rfl
      | max =>
        simp only [aev]
        split
        · rename_i x y hxx
          rw [hxx] at ha
          rw [ha x (by simp), ha y (by simp)]
        · rfl
      | _ => rfl
    | _ => rfl
  | _ => rfl
end local_

/-! ### one operation, for itself -/
def Raw (P : Program) (k : Nat) (op : Op) (e : Env) (h : Heap) (x : AV) (wr : List (Nat × Option AObj)) (rd : List Nat) : Prop := match op with
  | .call { callee := .value f, args, .. } => PCallW P (ev e f) (args.toList.map (ev e)) h x rd wr
  | op => (aev P k op e h).cond ∧ x = (aev P k op e h).val ∧ wr = (aev P k op e h).wr ∧ rd = (op.operands.toList.map (ev e)).flatMap AV.ids
def OpOk (P : Program) (ops : List Oper) (k : Nat) (o : Oper) (e : Env) (h : Heap) (x : AV) (wr : List (Nat × Option AObj)) (rd : List Nat) : Prop := match o.guard with
  | none => Raw P k o.op e h x wr rd
  | some (j, want) => ∃ t g r, slotOf ops j = some t ∧ guardB (e t) want = some g ∧ (∀ t ∈ gT o.op, okG g (e t)) ∧ x = .gd g r ∧ (g = false → wr = []) ∧ (g = true → Raw P k o.op (gE o.op e) h r wr rd)

theorem PCall.congr {P : Program} {fv : AV} {args : List AV} {h h₁ : Heap} {r : AV} {S : List Nat} (hp : PCall P fv args h r S) (hx : ∀ o ∈ S, h o = h₁ o) : PCall P fv args h₁ r S := by
  obtain ⟨f, first, caps, args', rfl, hb, hpu, hc⟩ := hp
  exact ⟨f, first, caps, args', rfl, hb, hpu, hc.imp (fun hc => ⟨fun h₂ h2 => hc.1 h₂ fun o ho => (hx o ho).trans (h2 o ho), hc.2⟩) id⟩

theorem PCallW.congr {P : Program} {fv : AV} {args : List AV} {h h₁ : Heap} {r : AV} {S : List Nat} {wr : List (Nat × Option AObj)} (hp : PCallW P fv args h r S wr) (hx : ∀ o ∈ S, h o = h₁ o) : PCallW P fv args h₁ r S wr := by
  rcases hp with ⟨h0, hp⟩ | ⟨f, first, caps, args', rfl, hb, hpu, hw, hc⟩
  · exact .inl ⟨h0, hp.congr hx⟩
  · refine .inr ⟨f, first, caps, args', rfl, hb, hpu, fun p hp => ?_, fun h₂ h2 => hc h₂ fun o ho => (hx o ho).trans (h2 o ho)⟩
    obtain ⟨h1, g, sz, rs, h2, h3⟩ := hw p hp
    exact ⟨h1, g, sz, rs, h2, by rw [← hx _ h1]; exact h3⟩

section
variable {P : Program} {k : Nat} {e e' : Env} {h h' : Heap} {x : AV} {wr : List (Nat × Option AObj)} {rd : List Nat}
theorem Raw.congr {op : Op} (he : ∀ x ∈ op.operands, ev e x = ev e' x) (hh : ∀ o ∈ rd, h o = h' o) (hr : Raw P k op e h x wr rd) : Raw P k op e' h' x wr rd := by
  unfold Raw at hr ⊢
  split
  · rename_i f args ats
    have h1 : ev e f = ev e' f := he f (by simp [Op.operands, Call.operands])
    have h2 : args.toList.map (ev e) = args.toList.map (ev e') := List.map_congr_left (fun x hx => he x (by simp [Op.operands, Call.operands]; exact .inr (by simpa using hx)))
    rw [← h1, ← h2]
    exact hr.congr hh
  · rename_i hne
    split at hr
    · exact absurd rfl (hne _ _ _)
    · obtain ⟨h1, h2, h3, rfl⟩ := hr
      rw [← aev_congr he hh]
      exact ⟨h1, h2, h3, by rw [List.map_congr_left (fun x hx => he x (by simpa using hx))]⟩
theorem ev_congr {op : Op} (he : ∀ t ∈ opTmps op, e t = e' t) : ∀ x ∈ op.operands, ev e x = ev e' x := by
  intro x hx
  cases x with
  | tmp t => exact he t (by simp only [opTmps, List.mem_filterMap]; exact ⟨.tmp t, by simpa using hx, rfl⟩)
  | _ => rfl
theorem gE_or (op : Op) (e : Env) : gE op e = e ∧ gT op = [] ∨ gE op e = (fun t => unG (e t)) ∧ gT op = opTmps op := by
  cases op <;> first | exact .inl ⟨rfl, rfl⟩ | exact .inr ⟨rfl, rfl⟩
theorem gT_sub {op : Op} {t : Tmp} (h : t ∈ gT op) : t ∈ opTmps op := by
  rcases gE_or op (fun _ => .top) with ⟨_, h1⟩ | ⟨_, h1⟩ <;> rw [h1] at h
  · cases h
  · exact h
theorem OpOk.congr {ops : List Oper} {o : Oper} (he : ∀ t ∈ namesOf ops o, e t = e' t) (hh : ∀ o ∈ rd, h o = h' o) (hr : OpOk P ops k o e h x wr rd) : OpOk P ops k o e' h' x wr rd := by
  have he1 : ∀ t ∈ opTmps o.op, e t = e' t := fun t ht => he t (by simp [namesOf, ht])
  unfold OpOk at hr ⊢
  split at hr
  · rename_i hg
    exact hr.congr (ev_congr he1) hh
  · rename_i j want hg
    obtain ⟨t, g, r, h1, h2, h3, h4, h5, h6⟩ := hr
    have he2 : ∀ t ∈ opTmps o.op, gE o.op e t = gE o.op e' t := fun t ht => by
      have h0 : ∀ e, gE o.op e t = match o.op with | .pick _ _ _ => e t | _ => unG (e t) := fun e => by cases o.op <;> rfl
      rw [h0, h0, he1 t ht]
    refine ⟨t, g, r, h1, ?_, ?_, h4, h5, fun hg => (h6 hg).congr (ev_congr he2) hh⟩
    · rw [← he t (by simp [namesOf, hg, h1])]; exact h2
    · intro t ht; rw [← he1 t (gT_sub ht)]; exact h3 t ht
end

/-! ### the operations in a list's order -/
abbrev DOp := Nat × Oper × DRec
def Tr (P : Program) (ops : List Oper) (n : Nat) : List DOp → Env → Heap → Env → Heap → Prop
  | [], e, h, e', h' => e' = e ∧ h' = h
  | (i, o, rc) :: L, e, h, e', h' => ∃ x wr, OpOk P ops (n + i) o e h x wr rc.1 ∧ wr.map (·.1) = rc.2 ∧ Tr P ops n L (put e o.dst x) (applyW wr h) e' h'
def ixs : Nat → List Oper → List DRec → List DOp
  | i, o :: l, r :: rs => (i, o, r) :: ixs (i + 1) l rs
  | _, _, _ => []
theorem adrawGo_tr {P : Program} {n : Nat} {ops : List Oper} {K : Env → Heap → List DRec → Prop} : ∀ {rest : List Oper} {i : Nat} {e : Env} {h : Heap} {acc : List DRec}, adrawGo P n ops K i rest e h acc →
    ∃ recs e' h', recs.length = rest.length ∧ Tr P ops n (ixs i rest recs) e h e' h' ∧ K e' h' (acc ++ recs)
  | [], i, e, h, acc, hh => ⟨[], e, h, rfl, ⟨rfl, rfl⟩, by rw [List.append_nil]; exact hh⟩
  | o :: rest, i, e, h, acc, hh => by
    have key : ∀ {x wr rc}, OpOk P ops (n + i) o e h x wr rc.1 → wr.map (·.1) = rc.2 → adrawGo P n ops K (i + 1) rest (put e o.dst x) (applyW wr h) (acc ++ [rc]) →
        ∃ recs e' h', recs.length = (o :: rest).length ∧ Tr P ops n (ixs i (o :: rest) recs) e h e' h' ∧ K e' h' (acc ++ recs) := by
      intro x wr rc h1 h2 h3
      obtain ⟨recs, e', h', hl, ht, hk⟩ := adrawGo_tr h3
      exact ⟨rc :: recs, e', h', by simp [hl], ⟨x, wr, h1, h2, ht⟩, by simpa using hk⟩
    unfold adrawGo at hh
    split at hh
    · rename_i hg
      split at hh
      · rename_i f args ats hop
        obtain ⟨r, S, wr, h1, h3⟩ := hh
        refine key (x := r) (wr := wr) ?_ rfl h3
        unfold OpOk
        rw [hg, hop]
        exact h1
      · rename_i op hne
        refine key (x := (aev P (n + i) o.op e h).val) (wr := (aev P (n + i) o.op e h).wr) ?_ rfl hh.2
        unfold OpOk
        rw [hg]
        simp only
        unfold Raw
        split
        · rename_i hop; exact absurd hop (hne _ _ _)
        · exact ⟨hh.1, rfl, rfl, rfl⟩
    · rename_i j want hg
      split at hh
      · exact hh.elim
      · rename_i g hb
        cases ht : slotOf ops j with
        | none => rw [ht] at hb; cases hb
        | some t =>
          rw [ht] at hb
          split at hh
          · rename_i f args ats hop
            obtain ⟨hok, r, S, wr, h1, h2, h3⟩ := hh
            refine key (x := .gd g r) (wr := wr) ?_ rfl h3
            unfold OpOk
            rw [hg]
            refine ⟨t, g, r, ht, hb, fun t ht => hok t (gT_sub ht), rfl, h2, fun hgt => ?_⟩
            rw [hop]; exact h1 hgt
          · rename_i op hne
            obtain ⟨hok, h1, h3⟩ := hh
            refine key (x := .gd g (aev P (n + i) o.op (gE o.op e) h).val) (wr := gW g (aev P (n + i) o.op (gE o.op e) h).wr) ?_ rfl h3
            unfold OpOk
            rw [hg]
            refine ⟨t, g, _, ht, hb, hok, rfl, fun hgf => by rw [hgf]; rfl, fun hgt => ?_⟩
            unfold Raw
            split
            · rename_i hop; exact absurd hop (hne _ _ _)
            · exact ⟨h1 hgt, rfl, by rw [hgt]; rfl, rfl⟩

theorem disj_spec {a b : List Nat} (h : disj a b = true) : ∀ x ∈ a, x ∉ b := by
  simpa [disj] using h
theorem applyW_other : ∀ {wr : List (Nat × Option AObj)} {h : Heap} {o : Nat}, o ∉ wr.map (·.1) → applyW wr h o = h o
  | [], _, _, _ => rfl
  | (a, x) :: l, h, o, hn => by
    simp only [List.map_cons, List.mem_cons, not_or] at hn
    simp only [applyW]
    rw [applyW_other hn.2, upd_ne _ _ hn.1]
theorem upd_comm {α : Type} (f : Nat → α) {a b : Nat} (x y : α) (h : a ≠ b) : upd (upd f a x) b y = upd (upd f b y) a x := by
  funext j
  simp only [upd]
  by_cases h1 : j = b <;> by_cases h2 : j = a <;> simp_all
theorem applyW_upd : ∀ {wr : List (Nat × Option AObj)} {h : Heap} {o : Nat} {x : Option AObj}, o ∉ wr.map (·.1) → applyW wr (upd h o x) = upd (applyW wr h) o x
  | [], _, _, _, _ => rfl
  | (a, y) :: l, h, o, x, hn => by
    simp only [List.map_cons, List.mem_cons, not_or] at hn
    simp only [applyW]
    rw [upd_comm _ _ _ hn.1, applyW_upd hn.2]
theorem applyW_comm : ∀ {w1 w2 : List (Nat × Option AObj)} {h : Heap}, (∀ o ∈ w1.map (·.1), o ∉ w2.map (·.1)) → applyW w2 (applyW w1 h) = applyW w1 (applyW w2 h)
  | [], _, _, _ => rfl
  | (a, y) :: l, w2, h, hn => by
    simp only [applyW]
    rw [applyW_comm (fun o ho => hn o (by simp [ho])), applyW_upd (hn a (by simp))]
theorem put_other {e : Env} {d : Option Tmp} {x : AV} {t : Tmp} (h : t ∉ d.toList) : put e d x t = e t := by
  cases d with
  | none => rfl
  | some d => simp only [Option.toList_some, List.mem_singleton] at h; exact upd_ne _ _ h
theorem put_comm {e : Env} {d d' : Option Tmp} {x y : AV} (h : ∀ t ∈ d.toList, t ∉ d'.toList) : put (put e d x) d' y = put (put e d' y) d x := by
  cases d with
  | none => rfl
  | some d =>
    cases d' with
    | none => rfl
    | some d' => simp only [Option.toList_some, List.mem_singleton, forall_eq] at h; exact upd_comm _ _ _ h

theorem Tr.bubble {P : Program} {ops : List Oper} {n i : Nat} {o : Oper} {rc : DRec} {L2 : List DOp} {e' : Env} {h' : Heap} : ∀ {L1 : List DOp} {e : Env} {h : Heap}, Tr P ops n (L1 ++ (i, o, rc) :: L2) e h e' h' →
    (∀ y ∈ L1, freeP ops y.2.1 o y.2.2 rc = true) → ∃ x wr, OpOk P ops (n + i) o e h x wr rc.1 ∧ wr.map (·.1) = rc.2 ∧ Tr P ops n (L1 ++ L2) (put e o.dst x) (applyW wr h) e' h'
  | [], e, h, ht, _ => ht
  | (j, y, ry) :: L1, e, h, ht, hf => by
    obtain ⟨x1, w1, h1, h2, h3⟩ := ht
    obtain ⟨x2, w2, h4, h5, h6⟩ := Tr.bubble h3 fun y hy => hf y (by simp [hy])
    have hfr := hf (j, y, ry) (by simp)
    simp only [freeP, Bool.and_eq_true] at hfr
    obtain ⟨⟨⟨⟨⟨f1, f2⟩, f3⟩, f4⟩, f5⟩, f6⟩ := hfr
    have f1 := disj_spec f1
    have f2 := disj_spec f2
    have f3 := disj_spec f3
    have f4 := disj_spec f4
    have f5 := disj_spec f5
    have f6 := disj_spec f6
    refine ⟨x2, w2, h4.congr (fun t ht => put_other fun hd => f1 t hd ht) (fun o ho => applyW_other fun hd => f4 o (h2 ▸ hd) ho), h5, x1, w1, h1.congr (fun t ht => (put_other fun hd => f2 t hd ht).symm) (fun o ho => (applyW_other fun hd => f5 o (h5 ▸ hd) ho).symm), h2, ?_⟩
    rw [← put_comm f3, ← applyW_comm (fun o ho ho' => f6 o (h2 ▸ ho) (h5 ▸ ho'))]
    exact h6

/-! ### what comes before what -/
def MaskOk (ops : List Oper) (acc : List Nat) : Prop := ∀ k i, (acc.getD k 0).testBit i = true → ∃ o, ops[k]? = some o ∧ ∃ e ∈ o.after.toList, Region.binds .any e = true ∧ (e.on = i ∨ (acc.getD e.on 0).testBit i = true)
theorem fold_bits {acc : List Nat} {i : Nat} : ∀ {l : List Edge} {s : Nat}, (l.foldl (fun s e => if Region.binds .any e then s ||| 2 ^ e.on ||| acc.getD e.on 0 else s) s).testBit i = true →
    s.testBit i = true ∨ ∃ e ∈ l, Region.binds .any e = true ∧ (e.on = i ∨ (acc.getD e.on 0).testBit i = true)
  | [], s, h => .inl h
  | e :: l, s, h => by
    simp only [List.foldl_cons] at h
    rcases fold_bits h with h1 | ⟨e', he', h2⟩
    · split at h1
      · rename_i hb
        simp only [Nat.testBit_or, Nat.testBit_two_pow, Bool.or_eq_true, decide_eq_true_eq] at h1
        rcases h1 with (h1 | h1) | h1
        · exact .inl h1
        · exact .inr ⟨e, by simp, hb, .inl h1⟩
        · exact .inr ⟨e, by simp, hb, .inr h1⟩
      · exact .inl h1
    · exact .inr ⟨e', by simp [he'], h2⟩
theorem masks_ok {ops : List Oper} : ∀ {l : List Oper} {acc : List Nat}, ops.drop acc.length = l → MaskOk ops acc → MaskOk ops (masks l acc)
  | [], acc, _, h => h
  | o :: l, acc, hd, h => by
    unfold masks
    have hlt : acc.length < ops.length := by
      rcases Nat.lt_or_ge acc.length ops.length with h | h
      · exact h
      · rw [List.drop_eq_nil_of_le h] at hd; cases hd
    rw [List.drop_eq_getElem_cons hlt] at hd
    simp only [List.cons.injEq] at hd
    refine masks_ok (by simpa using hd.2) fun k i hb => ?_
    have mono : ∀ k i, (acc.getD k 0).testBit i = true → ∀ z, ((acc ++ [z]).getD k 0).testBit i = true := by
      intro k i hb z
      rcases Nat.lt_or_ge k acc.length with hk | hk
      · rw [List.getD_eq_getElem?_getD] at hb ⊢; rw [List.getElem?_append_left hk]; exact hb
      · rw [List.getD_eq_getElem?_getD, List.getElem?_eq_none hk] at hb; simp at hb
    rcases Nat.lt_trichotomy k acc.length with hk | hk | hk
    · have hb' : (acc.getD k 0).testBit i = true := by
        rw [List.getD_eq_getElem?_getD] at hb ⊢; rw [List.getElem?_append_left hk] at hb; exact hb
      obtain ⟨o', ho', e, he, h1, h2⟩ := h k i hb'
      exact ⟨o', ho', e, he, h1, h2.imp id fun h => mono _ _ h _⟩
    · subst hk
      rw [List.getD_eq_getElem?_getD, List.getElem?_append_right (Nat.le_refl _)] at hb
      simp only [Nat.sub_self, List.getElem?_cons_zero, Option.getD_some] at hb
      rcases fold_bits hb with h1 | ⟨e, he, h1, h2⟩
      · simp at h1
      · exact ⟨o, by rw [List.getElem?_eq_getElem hlt, hd.1], e, he, h1, h2.imp id fun h => mono _ _ h _⟩
    · rw [List.getD_eq_getElem?_getD, List.getElem?_eq_none (by simp; omega)] at hb; simp at hb

/-! ### a call of a function that only computes -/
theorem PCall.sound {P : Program} {φ : Place} {F : Nat → Prop} {w : World} {M0 : Nat → Prop} {h : Heap} (hH : HRelF φ F w M0 h) {fv : AV} {args : List AV} {r : AV} {S : List Nat} (hp : PCall P fv args h r S) {f : Value} {vs : List Value}
    (hf : Rel φ w (Or M0 (Mut φ h)) fv f) (ha : RelL φ w (Or M0 (Mut φ h)) args vs) :
    ∃ f' fs cs, f = .func (.func f') ⟨fs⟩ ⟨cs⟩ ∧ Enters P f' ∧ Calls P f' ⟨fs ++ vs ++ cs⟩ w fun e w' => ∃ v, e = .returned v ∧ Rel φ w' (Or M0 (Mut φ h)) r v ∧ HRelF φ F w' M0 h ∧ Step φ w M0 h φ w' h := by
  obtain ⟨f', first, caps, args', rfl, hb, hpu, hc⟩ := hp
  cases hf with
  | @fn _ _ _ fs cs h1 h2 =>
    refine ⟨f', fs, cs, rfl, hpu.1, ?_⟩
    have hall := (h1.append ha).append h2
    rcases hc with ⟨hle, hfl⟩ | rfl
    · have hv := view_args (h' := noH) hH (fun o g sz rs ho => by cases ho) (hle h fun _ _ => rfl) hb hall
      refine (hpu.2 _ w _ (fun k hk => hk.elim (hH.m0 k) fun h => (not_mut_noH h).elim) hv).mono ?_
      rintro e w' ⟨v, rfl, hr, hfr⟩
      have st : Step φ w M0 h φ w' h := ⟨φ.le_refl, fun k hk => .inl hk, ⟨hfr.os, hfr.tape, hfr.output, hfr.size, fun k hk _ => hfr.block k hk (fun h => h)⟩, fun k hk => .inl hk⟩
      exact ⟨v, rfl, hfl.rel hr, hH.keepw st (fun k hk => hfr.block k hk fun h => h), st⟩
    · have hv := view_args (h' := h) (n := 0) hH (fun o g sz rs ho => ho) (.refl _ _ _ _) hb hall
      refine (hpu.2 _ w _ (fun k hk => hH.blk hk) hv).mono ?_
      rintro e w' ⟨v, rfl, hr, hfr⟩
      have st : Step φ w M0 h φ w' h := ⟨φ.le_refl, fun k hk => .inl hk, ⟨hfr.os, hfr.tape, hfr.output, hfr.size, fun k hk _ => hfr.block k hk (fun h => h)⟩, fun k hk => .inl hk⟩
      exact ⟨v, rfl, hr.keep (fun o x ho => by cases ho) (fun _ _ _ => rfl) (fun k hk => .inl hk), hH.keepw st (fun k hk => hfr.block k hk fun h => h), st⟩

/-- some objects are frozen -/
def Frz (h h' : Heap) : Prop := ∀ o, h' o = h o ∨ ∃ g sz rs, h o = some (.rows true g sz rs) ∧ h' o = some (.rows false g sz rs)
theorem Frz.refl (h : Heap) : Frz h h := fun _ => .inl rfl
theorem HRelF.freeze {φ : Place} {F : Nat → Prop} {w : World} {M0 : Nat → Prop} {h h' : Heap} (hH : HRelF φ F w M0 h) (hf : Frz h h') : HRelF φ F w M0 h' ∧ Step φ w M0 h φ w h' := by
  have hmut : ∀ k, Mut φ h' k → Mut φ h k := by
    rintro k ⟨o, g, sz, rs, g', a, bs, ho, hp, rfl⟩
    rcases hf o with h1 | ⟨g1, sz1, rs1, _, h2⟩
    · exact ⟨o, g, sz, rs, g', a, bs, by rw [← h1]; exact ho, hp, rfl⟩
    · rw [h2] at ho; cases ho
  have hold : ∀ o mt g sz rs, h' o = some (.rows mt g sz rs) → ∃ mt', h o = some (.rows mt' g sz rs) ∧ (mt = true → mt' = true) := by
    intro o mt g sz rs ho
    rcases hf o with h1 | ⟨g1, sz1, rs1, h1, h2⟩
    · exact ⟨mt, by rw [← h1]; exact ho, id⟩
    · rw [h2] at ho
      simp only [Option.some.injEq, AObj.rows.injEq] at ho
      obtain ⟨rfl, rfl, rfl, rfl⟩ := ho
      exact ⟨true, h1, fun _ => rfl⟩
  have st : Step φ w M0 h φ w h' := ⟨φ.le_refl, fun k hk => .inl (hk.imp id (hmut k)), Fr.refl _ _, fun k hk => .inl (hmut k hk)⟩
  refine ⟨⟨hH.m0, hH.fresh, fun o mt g sz rs ho => ?_, ?_⟩, st⟩
  · obtain ⟨mt', ho', _⟩ := hold _ _ _ _ _ ho
    obtain ⟨A, hA, h1⟩ := hH.obj _ _ _ _ _ ho'
    refine ⟨A, hA, h1.imp id ?_⟩
    rintro ⟨a, bs, C, T, e1, e2, e3, e4, e5, e6, e7, e8, e9⟩
    exact ⟨a, bs, C, T, e1, e2, e3, e4, e5, e6, e7, e8, st.relL e9⟩
  · intro o o' mt g sz rs mt' g' sz' rs' a a' b b' h1 h2 hne hm p1 p2
    obtain ⟨m1, q1, i1⟩ := hold _ _ _ _ _ h1
    obtain ⟨m2, q2, i2⟩ := hold _ _ _ _ _ h2
    exact hH.inj _ _ _ _ _ _ _ _ _ _ _ _ _ _ q1 q2 hne (hm.imp i1 i2) p1 p2
theorem applyW_or : ∀ (wr : List (Nat × Option AObj)) (h : Heap) (o : Nat), applyW wr h o = h o ∨ ∃ p ∈ wr, p.1 = o ∧ applyW wr h o = p.2
  | [], h, o => .inl rfl
  | (k, x) :: wr, h, o => by
    rcases applyW_or wr (upd h k x) o with h1 | ⟨p, hp, h2, h3⟩
    · simp only [applyW]
      rw [h1]
      by_cases he : o = k
      · subst he
        exact .inr ⟨(o, x), by simp, rfl, by rw [upd_same]⟩
      · exact .inl (upd_ne _ _ he)
    · exact .inr ⟨p, by simp [hp], h2, h3⟩
theorem PCallW.sound {P : Program} {φ : Place} {F : Nat → Prop} {w : World} {M0 : Nat → Prop} {h : Heap} (hH : HRelF φ F w M0 h) {fv : AV} {args : List AV} {r : AV} {S : List Nat} {wr : List (Nat × Option AObj)} (hp : PCallW P fv args h r S wr) {f : Value} {vs : List Value}
    (hf : Rel φ w (Or M0 (Mut φ h)) fv f) (ha : RelL φ w (Or M0 (Mut φ h)) args vs) :
    ∃ f' fs cs, f = .func (.func f') ⟨fs⟩ ⟨cs⟩ ∧ Enters P f' ∧ Calls P f' ⟨fs ++ vs ++ cs⟩ w fun e w' => ∃ v, e = .returned v ∧ Rel φ w' (Or M0 (Mut φ (applyW wr h))) r v ∧ HRelF φ F w' M0 (applyW wr h) ∧ Step φ w M0 h φ w' (applyW wr h) := by
  rcases hp with ⟨rfl, hp⟩ | ⟨f', first, caps, args', rfl, hb, hpu, hw, hc⟩
  · exact hp.sound hH hf ha
  · have hfz : Frz h (applyW wr h) := fun o => by
      rcases applyW_or wr h o with h1 | ⟨p, hp, rfl, h3⟩
      · exact .inl h1
      · obtain ⟨_, g, sz, rs, h4, h5⟩ := hw p hp
        exact .inr ⟨g, sz, rs, h5, h3.trans h4⟩
    obtain ⟨hH', st0⟩ := hH.freeze hfz
    have hmt : ∀ o g sz rs, applyW wr h o = some (.rows true g sz rs) → h o = some (.rows true g sz rs) := by
      intro o g sz rs ho
      rcases hfz o with h1 | ⟨g1, sz1, rs1, h1, h2⟩
      · rw [← h1]; exact ho
      · rw [h2] at ho; cases ho
    cases hf with
    | @fn _ _ _ fs cs h1 h2 =>
      refine ⟨f', fs, cs, rfl, hpu.1, ?_⟩
      have hall := (h1.append ha).append h2
      have hv := view_args (h' := applyW wr h) hH hmt (hc h fun _ _ => rfl) hb hall
      refine (hpu.2 _ w _ (fun k hk => hH'.blk hk) hv).mono ?_
      rintro e w' ⟨v, rfl, hr, hfr⟩
      have st : Step φ w M0 (applyW wr h) φ w' (applyW wr h) := ⟨φ.le_refl, fun k hk => .inl hk, ⟨hfr.os, hfr.tape, hfr.output, hfr.size, fun k hk _ => hfr.block k hk (fun h => h)⟩, fun k hk => .inl hk⟩
      exact ⟨v, rfl, hr.keep (fun o x ho => by cases ho) (fun _ _ _ => rfl) (fun k hk => .inl hk), hH'.keepw st (fun k hk => hfr.block k hk fun h => h), st0.trans st⟩

/-- the state, some ids free -/
structure SRF (B : Base) (N : Nat) (D : List Deferred) (F : Nat → Prop) (φ : Place) (e : Env) (h : Heap) (a : Act) (w : World) : Prop where
  env : ∀ t, Rel φ w (Or B.M0 (Mut φ h)) (e t) (a.tmps.getD t undef)
  size : a.tmps.size = N
  defs : a.defers = D
  heap : HRelF φ F w B.M0 h
  step : Step B.φ B.w B.M0 B.h φ w h
theorem SRF.put {B : Base} {N : Nat} {D : List Deferred} {F F' : Nat → Prop} {φ φ' : Place} {e : Env} {h h' : Heap} {a : Act} {w w' : World} (hs : SRF B N D F φ e h a w) {dst : Option Tmp} (hd : match dst with | none => True | some d => d < N)
    {x : AV} {v : Value} (hx : Rel φ' w' (Or B.M0 (Mut φ' h')) x v) (hH : HRelF φ' F' w' B.M0 h') (st : Step φ w B.M0 h φ' w' h') : SRF B N D F' φ' (put e dst x) h' (a.put dst v) w' := by
  cases dst with
  | none => exact ⟨fun t => st.rel (hs.env t), hs.size, hs.defs, hH, hs.step.trans st⟩
  | some d =>
    refine ⟨fun t => ?_, by simp [Act.put, hs.size], hs.defs, hH, hs.step.trans st⟩
    simp only [Av.put, Act.put, upd]
    by_cases ht : t = d
    · subst ht
      rw [if_pos rfl]
      have : t < a.tmps.size := by rw [hs.size]; exact hd
      simpa [Array.getD_eq_getD_getElem?, this] using hx
    · rw [if_neg ht]
      have : (a.tmps.setIfInBounds d v).getD t undef = a.tmps.getD t undef := by
        simp [Array.getD_eq_getD_getElem?, Array.getElem?_setIfInBounds, Ne.symm ht]
      rw [this]
      exact st.rel (hs.env t)

theorem not_defer_of_cond {P : Program} {k : Nat} {op : Op} {e : Env} {h : Heap} (hc : (aev P k op e h).cond) : ∀ c, op ≠ .defer c := by
  intro c hop
  rw [hop] at hc
  exact hc
/-- ONE OPERATION OF A DRAWN REGION. -/
theorem raw_step {P : Program} {B : Base} {N : Nat} {D : List Deferred} {F : Nat → Prop} {r : Option Nat} {m : Nat} {φ : Place} {e e' : Env} {h : Heap} {a : Act} {w : World} {o : Oper} {k : Nat} {x : AV} {wr : List (Nat × Option AObj)} {rd : List Nat} {K : Act → World → Prop} {Q : Exit → Act → World → Prop}
    (hs : SRF B N D F φ e h a w) (hk : F k) (hev : ∀ x ∈ o.op.operands, Rel φ w (Or B.M0 (Mut φ h)) (ev e' x) (a.eval x)) (hr : Raw P k o.op e' h x wr rd)
    (hK : ∀ v φ' w', Rel φ' w' (Or B.M0 (Mut φ' (applyW wr h))) x v → HRelF φ' (fun o => F o ∧ o ≠ k) w' B.M0 (applyW wr h) → Step φ w B.M0 h φ' w' (applyW wr h) → K (a.put o.dst v) w') : o.wpIn (WF r) m P a w K Q := by
  have habout : ∀ f, Oper.about P w a.eval o = some f → (WF r).fn f := fun _ _ => trivial
  have hdepth : (WF r).depth.isSome = true → 1 ≤ m := by intro h; simp [WF, Fence.wide] at h
  refine ⟨habout, ?_⟩
  unfold Raw at hr
  split at hr
  · rename_i fo args ats hop
    have hp := hr
    rw [Oper.semAt_eq _ _ _ (fun c => by rw [hop]; simp)]
    have hfo := hev fo (by simp [hop, Op.operands, Call.operands])
    have hargs : RelL φ w (Or B.M0 (Mut φ h)) (args.toList.map (ev e')) (args.toList.map a.eval) := relL_map fun x hx => hev x (by simp [hop, Op.operands, Call.operands]; exact .inr (by simpa using hx))
    obtain ⟨f', fs, cs, hval, hen, hcalls⟩ := hp.sound hs.heap hfo hargs
    have hrun := run_call (P := P) (w := w) (args := args) (ats := ats) (ty := o.type) hval hen
    have hex : execOp a.eval o = (do let d ← resolve a.eval { callee := .value fo, args, argTypes := ats } o.type; invoke d.target d.args) := by simp [execOp, hop]
    rw [hex, hrun]
    refine ⟨hdepth, callsIn_WF (hcalls.mono ?_)⟩
    rintro en w' ⟨v, rfl, hx, hH', st⟩
    exact hK v φ w' hx (hH'.sub fun o ho => ho.1) st
  · obtain ⟨hc, rfl, rfl, _⟩ := hr
    rw [Oper.semAt_eq _ _ _ (not_defer_of_cond hc)]
    obtain ⟨nx, v, w', φ', hrun, hnx, hx, hH', st⟩ := aev_good hs.heap hk hev hc
    rw [hrun]
    have hH' : HRelF φ' (fun o => F o ∧ o ≠ k) w' B.M0 (applyW (aev P k o.op e' h).wr h) := hH'.sub fun u ho => by
      generalize (aev P k o.op e' h).al = al
      cases al with
      | zero => exact ho.1
      | succ j => exact ho
    rcases hnx with rfl | ⟨rfl, rfl⟩
    · exact hK v φ' w' hx hH' st
    · exact hK undef φ' w' hx hH' st
theorem op_step {P : Program} {B : Base} {N : Nat} {D : List Deferred} {F : Nat → Prop} {r : Option Nat} {m : Nat} {φ : Place} {e : Env} {h : Heap} {a : Act} {w : World} {ops : Array Oper} {i : Nat} {o : Oper} {k : Nat} {x : AV} {wr : List (Nat × Option AObj)} {rd : List Nat} {K : Act → World → Prop} {Q : Exit → Act → World → Prop}
    (hi : ops[i]? = some o) (hd : match o.dst with | none => True | some d => d < N) (hs : SRF B N D F φ e h a w) (hk : F k) (hr : OpOk P ops.toList k o e h x wr rd)
    (hK : ∀ φ' a' w', SRF B N D (fun o => F o ∧ o ≠ k) φ' (put e o.dst x) (applyW wr h) a' w' → K a' w') : wpOpIn (WF r) m P ops Q i K a w := by
  have hev : ∀ x, Rel φ w (Or B.M0 (Mut φ h)) (ev e x) (a.eval x) := rel_ev hs.env
  unfold wpOpIn
  rw [hi]
  simp only
  unfold OpOk at hr
  split at hr
  · rename_i hg
    have hw : Region.wanted o (yielded ops a.tmps) = true := by simp [Region.wanted, hg]
    rw [if_pos hw]
    exact raw_step hs hk (fun x _ => hev x) hr fun v φ' w' hx hH' st => hK φ' _ w' (hs.put hd hx hH' st)
  · rename_i j want hg
    obtain ⟨t, g, y, ht, hb, hok, rfl, hwf, hraw⟩ := hr
    have hw := guard_wanted' hs.env hg (by rw [ht]; exact hb)
    rw [hw]
    cases g with
    | true =>
      rw [if_pos rfl]
      refine raw_step (e' := gE o.op e) hs hk (fun x hx => ?_) (hraw rfl) fun v φ' w' hx hH' st => hK φ' _ w' (hs.put hd (.gd (fun _ => hx) (fun h => by cases h)) hH' st)
      rcases gE_or o.op e with ⟨he1, _⟩ | ⟨he1, he2⟩
      · rw [he1]; exact hev x
      rw [he1]
      rw [he2] at hok
      cases x with
      | tmp t =>
        have hmt : t ∈ opTmps o.op := by
          simp only [opTmps, List.mem_filterMap]
          exact ⟨.tmp t, by simpa using hx, rfl⟩
        have h1 := hok t hmt
        have h2 := hs.env t
        simp only [ev]
        show Rel φ w _ (unG (e t)) (a.tmps.getD t undef)
        generalize e t = y at h1 h2
        cases y with
        | gd g' y => cases h2 with | gd h3 _ => exact h3 (h1 rfl)
        | _ => exact h2
      | const v => exact hev (.const v)
      | global g => exact hev (.global g)
      | func f => exact hev (.func f)
    | false =>
      rw [if_neg (by simp)]
      obtain rfl := hwf rfl
      exact ⟨fun _ _ => trivial, hK φ _ w (hs.put hd (.gd (fun h => by cases h) (fun _ => rfl)) (hs.heap.sub fun o ho => ho.1) (.refl _ _ _ _))⟩

theorem split_mem {α : Type} {l : List α} {x : α} (h : x ∈ l) : ∃ a b, l = a ++ x :: b := List.append_of_mem h
/-- WHATEVER ORDER IS DRAWN. -/
theorem any_sound {P : Program} {B : Base} {N : Nat} {D : List Deferred} {r : Option Nat} {m : Nat} {ops : Array Oper} {Q : Post} {n : Nat} {mk : List Nat} {e' : Env} {h' : Heap} (hd : ∀ o ∈ ops.toList, match o.dst with | none => True | some d => d < N)
    (hmk : MaskOk ops.toList mk) (hq : Q .normal e' h' (n + ops.size)) : ∀ (fuel : Nat) (listed : Array Bool) (L : List DOp) {φ : Place} {e : Env} {h : Heap} {a : Act} {w : World},
    L.length ≤ fuel → listed.size = ops.size → (∀ y ∈ L, ops[y.1]? = some y.2.1 ∧ listed.getD y.1 true = false ∧ ∀ ed ∈ y.2.1.after.toList, Region.binds .any ed = true → ed.on < y.1) →
    (∀ i, listed.getD i true = false → ∃ y ∈ L, y.1 = i) →
    L.Pairwise (fun y x => y.1 < x.1 ∧ ((mk.getD x.1 0).testBit y.1 = true ∨ freeP ops.toList y.2.1 x.2.1 y.2.2 x.2.2 = true)) →
    (∀ i, listed.getD i false = true → ∀ j, (mk.getD i 0).testBit j = true → listed.getD j true = true) →
    SRF B N D (fun o => n + ops.size ≤ o ∨ ∃ y ∈ L, o = n + y.1) φ e h a w → Tr P ops.toList n L e h e' h' →
    wpAnyIn (WF r) m P .any ops (SQ B N D Q) fuel listed a w := by
  intro fuel
  have htf : ∀ (listed : Array Bool) (i : Nat), i < listed.size → listed.getD i true = listed.getD i false := by
    intro l i hi; simp [Array.getD_eq_getD_getElem?, hi]
  induction fuel with
  | zero =>
    intro listed L φ e h a w hl hsz hL hU hp hcl hs ht
    have : L = [] := List.eq_nil_of_length_eq_zero (by omega)
    subst this
    obtain ⟨rfl, rfl⟩ := ht
    refine ⟨List.eq_nil_iff_forall_not_mem.2 fun i hi => ?_, φ, _, _, _, ⟨hs.env, hs.size, hs.defs, hs.heap.sub fun o ho => .inl ho, hs.step⟩, hq⟩
    obtain ⟨y, hy, _⟩ := hU i (mem_ready.1 hi).1
    cases hy
  | succ fuel ih =>
    intro listed L φ e h a w hl hsz hL hU hp hcl hs ht
    refine ⟨fun hnil => ?_, fun i hi => ?_⟩
    · cases L with
      | nil =>
        obtain ⟨rfl, rfl⟩ := ht
        exact ⟨φ, _, _, _, ⟨hs.env, hs.size, hs.defs, hs.heap.sub fun o ho => .inl ho, hs.step⟩, hq⟩
      | cons x L =>
        have hx := hL x (by simp)
        have : x.1 ∈ Region.ready .any ops listed := by
          refine mem_ready.2 ⟨hx.2.1, x.2.1, hx.1, fun ed he hb => ?_⟩
          have hlt := hx.2.2 ed (by simpa using he) hb
          have hsz1 : x.1 < ops.size := by
            rcases Nat.lt_or_ge x.1 ops.size with h | h
            · exact h
            · rw [Array.getElem?_eq_none h] at hx; cases hx.1
          rw [← htf _ _ (by omega)]
          cases hc : listed.getD ed.on true with
          | true => rfl
          | false =>
            obtain ⟨y, hy, he⟩ := hU _ hc
            rcases List.mem_cons.1 hy with rfl | hy
            · omega
            · have := (List.pairwise_cons.1 hp).1 y hy
              omega
        rw [hnil] at this
        cases this
    · obtain ⟨hun, o, ho, hpre⟩ := mem_ready.1 hi
      obtain ⟨⟨i', o', rc⟩, hy, rfl⟩ := hU i hun
      have hx := hL _ hy
      simp only at ho hun hx hpre
      rw [ho] at hx
      obtain ⟨heq, hx2, hx3⟩ := hx
      simp only [Option.some.injEq] at heq
      subst heq
      have hsz1 : i' < ops.size := by
        rcases Nat.lt_or_ge i' ops.size with h | h
        · exact h
        · rw [Array.getElem?_eq_none h] at ho; cases ho
      -- what its mask names has been done
      have hmask : ∀ j, (mk.getD i' 0).testBit j = true → listed.getD j true = true := by
        intro j hj
        obtain ⟨o1, ho1, ed, he, hb, h1⟩ := hmk _ _ hj
        rw [Array.getElem?_toList, ho] at ho1
        simp only [Option.some.injEq] at ho1
        subst ho1
        have hlst := hpre ed (by simpa using he) hb
        rcases h1 with rfl | h1
        · have := hx3 ed he hb
          rw [htf _ _ (by omega)]; exact hlst
        · exact hcl _ hlst _ h1
      obtain ⟨L1, L2, rfl⟩ := split_mem hy
      rw [List.pairwise_append] at hp
      obtain ⟨hp1, hp2, hp12⟩ := hp
      rw [List.pairwise_cons] at hp2
      obtain ⟨x, wr, hok, hwr, ht'⟩ := ht.bubble fun y hy => by
        have h1 := hp12 y hy (i', o, rc) (by simp)
        rcases h1.2 with h2 | h2
        · have := hmask _ h2
          rw [(hL y (by simp [hy])).2.1] at this
          cases this
        · exact h2
      have hne : ∀ y ∈ L1 ++ L2, y.1 ≠ i' := by
        intro y hy
        rcases List.mem_append.1 hy with hy | hy
        · have := (hp12 y hy (i', o, rc) (by simp)).1
          simp only at this
          omega
        · have := (hp2.1 y hy).1
          simp only at this
          omega
      refine op_step ho (hd o (by rw [← Array.getElem?_toList] at ho; exact List.mem_of_getElem? ho)) hs (.inr ⟨(i', o, rc), by simp, rfl⟩) hok fun φ' a' w' hs' => ?_
      refine ih _ (L1 ++ L2) (by simp only [List.length_append, List.length_cons] at hl ⊢; omega) (by simpa using hsz) (fun y hy => ?_) (fun j hj => ?_) ?_ (fun j hj b hb => ?_) ⟨hs'.env, hs'.size, hs'.defs, hs'.heap.sub fun u hu => ?_, hs'.step⟩ ht'
      · have h1 := hL y (by rcases List.mem_append.1 hy with h | h <;> simp [h])
        refine ⟨h1.1, ?_, h1.2.2⟩
        rw [getD_set_ne true (Ne.symm (hne y hy))]
        exact h1.2.1
      · by_cases hji : j = i'
        · subst hji
          simp [Array.getD_eq_getD_getElem?, hsz, hsz1] at hj
        · rw [getD_set_ne true (Ne.symm hji)] at hj
          obtain ⟨y, hy, rfl⟩ := hU j hj
          refine ⟨y, ?_, rfl⟩
          simp only [List.mem_append, List.mem_cons] at hy ⊢
          rcases hy with h | rfl | h
          · exact .inl h
          · exact absurd rfl hji
          · exact .inr h
      · rw [List.pairwise_append]
        exact ⟨hp1, hp2.2, fun y hy z hz => hp12 y hy z (by simp [hz])⟩
      · have hset : ∀ b, listed.getD b true = true → (listed.setIfInBounds i' true).getD b true = true := by
          intro b hb
          by_cases hbi : b = i'
          · subst hbi; simp [Array.getD_eq_getD_getElem?, hsz, hsz1]
          · rw [getD_set_ne true (Ne.symm hbi)]; exact hb
        by_cases hji : j = i'
        · subst hji; exact hset _ (hmask _ hb)
        · rw [getD_set_ne false (Ne.symm hji)] at hj
          exact hset _ (hcl _ hj _ hb)
      · rcases hu with h | ⟨y, hy, rfl⟩
        · exact ⟨.inl h, by omega⟩
        · refine ⟨.inr ⟨y, by rcases List.mem_append.1 hy with h | h <;> simp [h], rfl⟩, ?_⟩
          have := hne y hy
          omega

theorem ixs_get : ∀ {l : List Oper} {rs : List DRec} {i : Nat} {y : DOp}, y ∈ ixs i l rs → ∃ k, y.1 = i + k ∧ l[k]? = some y.2.1 ∧ rs[k]? = some y.2.2
  | [], _, _, _, h => by cases h
  | _ :: _, [], _, _, h => by cases h
  | o :: l, r :: rs, i, y, h => by
    rcases List.mem_cons.1 h with rfl | h
    · exact ⟨0, rfl, rfl, rfl⟩
    · obtain ⟨k, h1, h2, h3⟩ := ixs_get h
      exact ⟨k + 1, by omega, by simpa using h2, by simpa using h3⟩
theorem ixs_length : ∀ {l : List Oper} {rs : List DRec} {i : Nat}, rs.length = l.length → (ixs i l rs).length = l.length
  | [], [], _, _ => rfl
  | o :: l, r :: rs, i, h => by simp only [ixs, List.length_cons] at h ⊢; rw [ixs_length (by omega)]
  | [], _ :: _, _, h => by cases h
  | _ :: _, [], _, h => by cases h
theorem ixs_has : ∀ {l : List Oper} {rs : List DRec} {i k : Nat}, rs.length = l.length → k < l.length → ∃ y ∈ ixs i l rs, y.1 = i + k
  | o :: l, r :: rs, i, 0, h, hk => ⟨_, List.mem_cons_self .., rfl⟩
  | o :: l, r :: rs, i, k + 1, h, hk => by
    obtain ⟨y, hy, he⟩ := ixs_has (i := i + 1) (k := k) (l := l) (rs := rs) (by simpa using h) (by simpa using hk)
    exact ⟨y, List.mem_cons_of_mem _ hy, by omega⟩
  | [], _, _, _, _, hk => by cases hk
  | _ :: _, [], _, _, h, _ => by cases h
theorem ixs_pairwise {R : DOp → DOp → Prop} : ∀ {l : List Oper} {rs : List DRec} {i : Nat}, (∀ a b (x y : DOp), a < b → x.1 = i + a → y.1 = i + b → l[a]? = some x.2.1 → rs[a]? = some x.2.2 → l[b]? = some y.2.1 → rs[b]? = some y.2.2 → R x y) → (ixs i l rs).Pairwise R
  | [], _, _, _ => .nil
  | _ :: _, [], _, _ => .nil
  | o :: l, r :: rs, i, h => by
    refine List.pairwise_cons.2 ⟨fun y hy => ?_, ixs_pairwise fun a b x y hab hx hy h1 h2 h3 h4 => h (a + 1) (b + 1) x y (by omega) (by omega) (by omega) (by simpa using h1) (by simpa using h2) (by simpa using h3) (by simpa using h4)⟩
    obtain ⟨k, h1, h2, h3⟩ := ixs_get hy
    exact h 0 (k + 1) (i, o, r) y (by omega) rfl (by omega) rfl rfl (by simpa using h2) (by simpa using h3)

theorem adraw_sound {P : Program} (hmix : P.follows .mixedOrders = true) {B : Base} {N : Nat} {D : List Deferred} {r : Option Nat} {m : Nat} {id : Nat} {ops : Array Oper} {Q : Post} (hd : ∀ o ∈ ops.toList, match o.dst with | none => True | some d => d < N)
    {φ : Place} {e : Env} {h : Heap} {n : Nat} {a : Act} {w : World} (hs : SR B N D φ e h n a w) (hh : adraw P ops.toList Q e h n) : (Code.region id ops true).wpIn (WF r) m P (SQ B N D Q) a w := by
  refine wpIn_region_any hmix ?_
  obtain ⟨recs, e', h', hlen, htr, hok, hq⟩ := adrawGo_tr hh
  simp only [List.nil_append, okDraw, Bool.and_eq_true, decide_eq_true_eq, List.all_eq_true, List.mem_range, Bool.or_eq_true, Bool.not_eq_true'] at hok
  obtain ⟨_, hok⟩ := hok
  have hmk : MaskOk ops.toList (masks ops.toList []) := masks_ok (by simp) fun k i hb => by simp at hb
  have gd : ∀ {α : Type} [Inhabited α] {l : List α} {k : Nat} {x : α}, l[k]? = some x → l.getD k default = x := by
    intro α _ l k x hx; rw [List.getD_eq_getElem?_getD, hx]; rfl
  have st : Step φ w B.M0 h φ { w with drawn := w.drawn + 1 } h := ⟨φ.le_refl, fun k hk => .inl hk, ⟨rfl, rfl, rfl, Nat.le_refl _, fun _ _ _ => rfl⟩, fun k hk => .inl hk⟩
  refine any_sound (mk := masks ops.toList []) (L := ixs 0 ops.toList recs) (n := n) hd hmk (by simpa using hq) ops.size _ (by rw [ixs_length hlen]; simp) (by simp) (fun y hy => ?_) (fun i hi => ?_) (ixs_pairwise fun i j x y hij hx hy h1 h2 h3 h4 => ?_) (fun i hi => ?_) ⟨fun t => st.rel (hs.env t), hs.size, hs.defs, (hs.heap.keepw st fun _ _ => rfl).sub fun o ho => ?_, hs.step.trans st⟩ htr
  · obtain ⟨k, h1, h2, h3⟩ := ixs_get hy
    have hk : k < ops.size := by
      rcases Nat.lt_or_ge k ops.size with h | h
      · exact h
      · rw [List.getElem?_eq_none (by simpa using h)] at h2; cases h2
    rw [Nat.zero_add] at h1
    refine ⟨by rw [h1, ← Array.getElem?_toList]; exact h2, by simp [Array.getD_eq_getD_getElem?, h1, hk], fun ed he hb => ?_⟩
    have := (hok k (by simpa using hk)).1
    rw [gd h2] at this
    rcases this ed he with h | h
    · rw [hb] at h; cases h
    · omega
  · have hi' : i < ops.size := by
      rcases Nat.lt_or_ge i ops.size with h | h
      · exact h
      · simp [Array.getD_eq_getD_getElem?, Nat.not_lt.2 h] at hi
    obtain ⟨y, hy, he⟩ := ixs_has (i := 0) (k := i) hlen (by simpa using hi')
    exact ⟨y, hy, by omega⟩
  · have hj : j < ops.toList.length := by
      rcases Nat.lt_or_ge j ops.toList.length with h | h
      · exact h
      · rw [List.getElem?_eq_none h] at h3; cases h3
    have := (hok j hj).2 i hij
    rw [gd h1, gd h2, gd h3, gd h4] at this
    refine ⟨by omega, ?_⟩
    rw [hx, hy, Nat.zero_add, Nat.zero_add]
    exact this
  · rcases Nat.lt_or_ge i ops.size with h | h
    · simp [Array.getD_eq_getD_getElem?, h] at hi
    · simp [Array.getD_eq_getD_getElem?, Nat.not_lt.2 h] at hi
  · rcases ho with h | ⟨y, hy, rfl⟩ <;> omega
end Go.Av
