/- Our library, part 8: the abstract operations are sound: stores, make, append. -/
import Derived.Test.YtodgjebghpgjbaaGreatDoorAv7
import Derived.MapKept
section
set_option linter.unusedSimpArgs false
set_option linter.unusedVariables false
namespace Go.Av
open Go

section
variable {P : Program} {φ φ' : Place} {F : Nat → Prop} {n : Nat} {w w' : World} {M0 : Nat → Prop} {h h' : Heap}

theorem upd_self {α : Type} (f : Nat → α) (k : Nat) : upd f k (f k) = f := by
 funext j; simp only [upd]; split
 ·rename_i e; rw [e]
 ·rfl
theorem HRelF.of_heap (hH : HRelF φ F w M0 h) (hh : w'.heap = w.heap) : HRelF φ F w' M0 h := by
 refine ⟨by rw [hh]; exact hH.m0, hH.fresh, fun o mt g sz rs ho => ?_, hH.inj, hH.glob.keep (fun k _ _ => by rw [hh]) (fun k hk => .inl hk)⟩
 obtain ⟨A, hA, h1⟩ := hH.obj o mt g sz rs ho
 refine ⟨A, hA, h1.imp id ?_⟩
 rintro ⟨a, bs, e1, e3, e4⟩
 exact ⟨a, bs, e1, e3, e4.keep (by rw [hh]) (fun e9 => e9.keep φ.le_refl (fun k _ _ => by rw [hh]) (fun k hk => .inl hk))⟩
theorem Step.of_heap (ho : w'.os = w.os) (ht : w'.tape = w.tape) (hp : w'.output = w.output) (hd : w.drawn ≤ w'.drawn) (hh : w'.heap = w.heap) : Step φ w M0 h φ w' h :=
 ⟨φ.le_refl, fun _ h => .inl h, ⟨ho, ht, hp, hd, by rw [hh]; exact Nat.le_refl _, fun k _ _ => by rw [hh]⟩, fun _ h => .inl h⟩

theorem HRelF.keepw (hH : HRelF φ F w M0 h) (st : Step φ w M0 h φ w' h) (hall : ∀ k, k < w.heap.size → w'.heap[k]? = w.heap[k]?) : HRelF φ F w' M0 h := by
 refine ⟨fun k hk => Nat.lt_of_lt_of_le (hH.m0 k hk) st.fr.size, hH.fresh, fun o mt g sz rs ho => ?_, hH.inj, hH.glob.keep (fun k _ hk => hall k hk) (fun k hk => .inl hk)⟩
 obtain ⟨A, hA, h1⟩ := hH.obj o mt g sz rs ho
 refine ⟨A, hA, h1.imp id ?_⟩
 rintro ⟨a, bs, e1, e3, e4⟩
 exact ⟨a, bs, e1, e3, e4.keep (hall _ e4.blk) (fun e9 => st.relL e9)⟩

theorem store_good (hH : HRelF φ F w M0 h) {t : TypeId} {x y : AV} {v u : Value} (hx : Rel φ w (Or M0 (Mut φ h)) x v) (hy : Rel φ w (Or M0 (Mut φ h)) y u)
  (hc : (evStore P t x y h).cond) : ∃ w' φ', (Instr.storeAt t v u).run P w = .ok () w' ∧ HRelF φ' F w' M0 (applyW (evStore P t x y h).wr h) ∧
   Step φ w M0 h φ' w' (applyW (evStore P t x y h).wr h) ∧ (evStore P t x y h).val = .top := by
 unfold evStore at hc ⊢
 split at hc
 ·rename_i o g sz i off
  split at hc
  ·rename_i mt g' sz' rs ho
   by_cases hgs : g = g' ∧ sz = sz' ∧ mt = true
   ·simp only [hgs, and_self, if_true] at hc
    obtain ⟨rfl, rfl, rfl⟩ := hgs
    simp only [ho, and_self, if_true]
    obtain ⟨hi, hsz, hle, hok⟩ := hc
    obtain ⟨a, bs, C, T, hp, hs, h0, hb, hC, hr, hl, hle', hrow, hcv⟩ := hH.at_row ho hi (ref_spot hx)
    obtain rfl := ref_at hx hp
    obtain ⟨h1, h2⟩ := cells_of hH hy hok
    have hlen := h1.length
    obtain ⟨A, hA, hobj⟩ := hH.obj _ _ _ _ _ ho
    rw [hp] at hA
    simp only [Option.some.injEq, Prod.mk.injEq, true_and] at hA
    subst hA
    rcases hobj with ⟨hobj, _⟩ | ⟨a', bs', e, _, hd⟩
    ·cases hobj
    simp only [Option.some.injEq, Prod.mk.injEq] at e
    obtain ⟨rfl, rfl⟩ := e
    obtain ⟨C', T', hb', _, _, _, hv, hrel⟩ := hd.cells hs
    rw [hb] at hb'
    simp only [Option.some.injEq, Obj.cells.injEq] at hb'
    obtain ⟨rfl, rfl, _⟩ := hb'
    obtain ⟨w', hrun, hw'⟩ := run_storeCells (P := P) (a := ⟨a.block, a.off + i * sz + off, none⟩) (T := T) rfl u.cells.toList 0 w C hb (by simp only; omega) h2
    have hrows : (if off = 0 ∧ y.cells.length = sz then y.cells else setMany (nth rs i) off y.cells) = setMany rs[i] off y.cells := by
     have e0 : nth rs i = rs[i] := by simp [nth, hi]
     rw [e0]
     split
     ·rename_i e; rw [e.1, setMany_zero (by rw [hr _ (List.getElem_mem _), e.2])]
     ·rfl
    rw [hrows]
    have hM : ∀ k, ¬ Or M0 (Mut φ h) k → k ≠ a.block := fun k hk e => hk (.inr ⟨o, g, sz, rs, g, a, bs, ho, hp, e.symm⟩)
    have hle0 : φ.le (upd φ o (some (g, some (a, bs)))) := by rw [← hp, upd_self]; exact φ.le_refl
    have hflat : (rs.set i (setMany rs[i] off y.cells)).flatten = setMany rs.flatten (i * sz + off) y.cells := flatten_set hr i hi off y.cells hle
    obtain ⟨g1, g2, g3⟩ := hH.set (w' := w') (F' := F) (o := o) (mt := true) (g := g) (sz := sz) (rs := rs.set i (setMany rs[i] off y.cells)) (A := some (a, bs))
     (fun _ h => h) (hH.place_old ho hp).2 (by rw [hw'.size]; exact Nat.le_refl _) hle0 (fun k hk _ => hw'.other k (hM k hk))
     (fun o' mt' g' sz' rs' a₁ b₁ hne ho' hp' => by
      have := hH.inj _ _ _ _ _ _ _ _ _ _ _ _ _ _ ho ho' (Ne.symm hne) (.inl rfl) hp hp'
      refine ⟨hw'.other _ (Ne.symm this), fun a₂ b₂ e => ?_⟩
      simp only [Option.some.injEq, Prod.mk.injEq] at e
      obtain ⟨rfl, rfl⟩ := e
      exact this)
     (fun a₁ b₁ e => by
      simp only [Option.some.injEq, Prod.mk.injEq] at e
      obtain ⟨rfl, rfl⟩ := e
      exact .inl (.inr ⟨o, g, sz, rs, g, a, bs, ho, hp, rfl⟩))
     (.inr ⟨a, bs, _, T, rfl, hs, h0, hw'.at_, by simpa [← Array.length_toList, putL_length] using hC,
      fun r hm => by
       rcases List.mem_or_eq_of_mem_set hm with h | h
       ·exact hr r h
       ·rw [h, setMany_length, hr _ (List.getElem_mem _)],
      by rw [List.length_set]; exact hl,
      fun c hm => by
       simp only [List.length_set, Nat.add_zero] at hm
       rw [show a.off + i * sz + off = a.off + (i * sz + off) by omega, putL_window _ _ _ _ _ (by omega)] at hm
       rcases putL_mem _ _ _ _ hm with h | h
       ·exact hv c h
       ·exact h2 c h,
      by
       simp only [List.length_set, Nat.add_zero]
       rw [show a.off + i * sz + off = a.off + (i * sz + off) by omega, putL_window _ _ _ _ _ (by omega), hflat]
       exact RelL.setMany _ hrel h1⟩)
    refine ⟨w', _, ?_, g1, ⟨hle0, g2, ⟨hw'.os, hw'.tape, hw'.output, hw'.drawn, by rw [hw'.size]; exact Nat.le_refl _, fun k _ hu => hw'.other k (fun e => hu ⟨o, g, sz, rs, g, a, bs, ho, hp, e.symm⟩)⟩, fun k hk => ?_⟩, trivial⟩
    ·have hneq : ¬ (u.cells.size ≠ y.cells.length) := by rw [← Array.length_toList, hlen]; simp
     simp only [Instr.storeAt, Instr.sureAddr, storeVar, Sem.run_bind, Sem.run_pure, Result.andThen_ok, run_sizeOf hsz, hneq, if_false]
     exact hrun
    ·rcases g3 k hk with h | ⟨a₁, b₁, e, rfl⟩
     ·exact .inl h
     ·simp only [Option.some.injEq, Prod.mk.injEq] at e
      obtain ⟨rfl, rfl⟩ := e
      exact .inl ⟨o, g, sz, rs, g, a, bs, ho, hp, rfl⟩
   ·simp only [hgs, if_false] at hc
  ·exact hc.elim
 ·exact hc.elim

theorem evStore_al {t : TypeId} {x y : AV} : (evStore P t x y h).al = 0 := by
 unfold evStore
 split
 ·split
  ·split <;> rfl
  ·rfl
 ·rfl
theorem run_typeBytes {t : TypeId} {b : Nat} (hb : tby P t = some b) : ∃ i, (typeInfo t).run P w = .ok i w ∧ i.bytes = b := by
 unfold tby at hb
 cases hu : P.info? t with
 | none => simp [hu] at hb
 | some d => simp only [hu, Option.map_some, Option.some.injEq] at hb; exact ⟨d, by simp [typeInfo, hu], hb⟩
theorem wrap64 {n : Int} (h0 : 0 ≤ n) (h1 : n ≤ 17592186044416) : IntKind.i64.wrap n = n := wrap_InR ⟨by simp [IntKind.min, IntKind.signed, IntKind.bits]; omega, by simp [IntKind.max, IntKind.signed, IntKind.bits]; omega⟩
theorem replicate_le {z : List AV} {u : List Value} {M : Nat → Prop} (hz : RelL φ w M z u) {l c : Nat} (hlc : l ≤ c) :
  RelL φ w M (List.replicate l z).flatten ((List.replicate c u).flatten.take (l * z.length)) := by
 have e : (List.replicate c u).flatten.take (l * z.length) = (List.replicate l u).flatten := by
  obtain ⟨d, rfl⟩ : ∃ d, c = l + d := ⟨c - l, by omega⟩
  have hl : (List.replicate l u).flatten.length = l * z.length := by simp [hz.length]
  rw [← List.replicate_append_replicate, List.flatten_append, List.take_left' hl]
 rw [e]; exact rep_cells hz l
theorem makeSlice_good (hH : HRelF φ F w M0 h) (hn : F n) {t : TypeId} {l c : AV} {vl vc : Value} (hl : Rel φ w (Or M0 (Mut φ h)) l vl) (hcc : Rel φ w (Or M0 (Mut φ h)) c vc)
  (hc : (evMakeSlice P n t l c).cond) : Good P φ F n w M0 h (evMakeSlice P n t l c) (Instr.makeSlice t vl vc) := by
 unfold evMakeSlice at hc ⊢
 split at hc
 ·rename_i e l c ht
  cases hl; cases hcc
  split at hc
  ·rename_i sz z by_ hsz hz hb
   try simp only [hsz, hz, hb]
   obtain ⟨h1, h2, h3, h4, h5, h6⟩ := hc
   obtain ⟨u, hu, rfl, hcv⟩ := run_zeroValue (P := P) (w := w) hz
   obtain ⟨inf, hinf, rfl⟩ := run_typeBytes (P := P) (w := w) hb
   have hus : u.cells.size = sz := by simpa using h2
   have hsz' : u.cells.size = (u.cells.toList.map AV.v).length := by simp
   have w1 : IntKind.i64.wrap l = l := wrap64 h3 (by omega)
   have w2 : IntKind.i64.wrap c = c := wrap64 (by omega) (by omega)
   have hC : ((Array.range (c.toNat * sz)).map (u.cells[· % u.cells.size]!)).toList = (List.replicate c.toNat u.cells.toList).flatten := by
    rw [← hus]; exact range_rep u.cells (by omega) _
   have hb1 : (inf.bytes : Int) * c ≤ 2 ^ 48 := by
    have : (inf.bytes : Int) * c ≤ 1024 * c := Int.mul_le_mul_of_nonneg_right (by omega) (by omega)
    omega
   have hb2 : (inf.bytes : Int) * l ≤ 2 ^ 48 := by
    have : (inf.bytes : Int) * l ≤ 1024 * l := Int.mul_le_mul_of_nonneg_right (by omega) (by omega)
    omega
   have hlc : l.toNat ≤ c.toNat := by omega
   have hmul := Nat.mul_le_mul_right sz hlc
   have hCs : ((Array.range (c.toNat * sz)).map (u.cells[· % u.cells.size]!)).size = c.toNat * sz := by simp
   obtain ⟨a, b⟩ := hH.new hn (sz := sz) (rs := List.replicate l.toNat (u.cells.toList.map .v)) (C := (Array.range (c.toNat * sz)).map (u.cells[· % u.cells.size]!)) (T := e)
    (fun r hr => by rw [(List.mem_replicate.1 hr).2]; simpa using hus) (by rw [List.length_replicate, hCs]; exact hmul)
    (fun x hm => by
     have hm := List.mem_of_mem_take hm
     rw [hC] at hm
     obtain ⟨q, hq, hm⟩ := List.mem_flatten.1 hm
     rw [(List.mem_replicate.1 hq).2] at hm
     exact hcv x hm)
    (by
     rw [List.length_replicate, hC]
     have := replicate_le (zero_cells (φ := φ) (w := w) (M := Or M0 (Mut φ h)) u.cells.toList) hlc
     rw [h2] at this
     exact this)
   refine ⟨.slice (some ⟨w.heap.size, 0, none⟩) l.toNat c.toNat, _, _, ?_, ?_, a, b⟩
   ·have hn1 : (decide (c < 0) || decide ((inf.bytes : Int) * c > 2 ^ 48)) = false := by simp; omega
    have hneg : ¬ (((decide (c < 0) || decide ((inf.bytes : Int) * c > 2 ^ 48)) || decide (l < 0) || decide (l > c)) = true) := by rw [hn1]; simp; omega
    have hz0 : (if c.toNat * sz = 0 then pure #[] else do pure (← zeroValue e).cells : Sem (Array Value)).run P w = .ok (if c.toNat * sz = 0 then #[] else u.cells) w := by
     split <;> simp [hu]
    have hC0 : ((Array.range (c.toNat * sz)).map ((if c.toNat * sz = 0 then #[] else u.cells)[· % (if c.toNat * sz = 0 then (#[] : Array Value) else u.cells).size]!)) = (Array.range (c.toNat * sz)).map (u.cells[· % u.cells.size]!) := by
     by_cases h0 : c.toNat * sz = 0
     ·rw [h0]; simp
     ·simp only [h0, if_false]
    unfold Instr.makeSlice
    simp only [Sem.run_bind, run_underlying (tk_sl ht), Result.andThen_ok, asInt, run_asIntOf, Sem.run_pure, hinf, w1, w2]
    rw [Sem.run_ite, if_neg hneg]
    simp only [Sem.run_bind, run_askRoom, Result.andThen_ok, run_sizeOf hsz]
    have hz1 := hz0
    simp only [Sem.run_ite] at hz1 ⊢
    split at hz1
    ·rename_i h0
     simp only [h0, if_true, Sem.run_bind, Sem.run_pure, Result.andThen_ok, run_newRow]
     have e0 : ∀ f : Nat → Value, Array.map f (Array.range 0) = #[] := fun f => by simp
     simp only [e0]
    ·rename_i h0
     simp only [h0, if_false, Sem.run_bind, hu, Sem.run_pure, Result.andThen_ok, run_newRow]
   ·refine .sl (upd_same _ _ _) (Nat.le_refl _) fun _ => .inr (.inr ⟨_, _, c.toNat, rfl, rfl, by simp, hlc, ?_⟩)
    simp only [hCs]; omega
  ·exact hc.elim
 ·exact hc.elim
theorem rowsOf_run2 (hH : HRelF φ F w M0 h) {x : AV} {v : Value} {sz : Nat} (hsz : 0 < sz) (hx : Rel φ w (Or M0 (Mut φ h)) x v) (hc : (rowsOf x sz h).1) :
  (Builtin.lenOf v).run P w = .ok (rowsOf x sz h).2.length w ∧ (∀ r ∈ (rowsOf x sz h).2, r.length = sz) ∧ ∃ X : Array Value, X.size = (rowsOf x sz h).2.length * sz ∧
   RelL φ w (Or M0 (Mut φ h)) (rowsOf x sz h).2.flatten X.toList ∧ (∀ u ∈ X.toList, cellV u = true) ∧
   ∀ w' : World, w'.heap = w.heap → ∀ n ≤ (rowsOf x sz h).2.length, (Builtin.firstCells sz n v).run P w' = .ok ⟨X.toList.take (n * sz)⟩ w' := by
 unfold rowsOf at hc ⊢
 split at hc
 ·rename_i o g sz' i len
  split at hc
  ·rename_i mt g' sz'' rs ho
   obtain ⟨rfl, rfl, rfl, hle⟩ := hc
   have hlen : ((rs.drop i).take len).length = len := by simp; omega
   simp only [ho, hlen]
   have hal : alive h o g sz := by simp [alive, ho]
   obtain ⟨A, cap, rfl, hcap, hA⟩ := hH.sl_alive hal hx
   refine ⟨rfl, ?_, ?_⟩
   ·intro r hr
    obtain ⟨A', _, h1⟩ := hH.obj _ _ _ _ _ ho
    have hm := List.mem_of_mem_drop (List.mem_of_mem_take hr)
    rcases h1 with ⟨_, rfl⟩ | ⟨a, bs, _, _, hrr⟩
    ·cases hm
    ·exact hrr.rows r hm
   ·rcases hA with ⟨rfl, rfl, rfl, _⟩ | ⟨rfl, _, hA⟩ | ⟨a, bs, hp, hsp, rfl, hcb⟩
    ·exact ⟨#[], by simp, by simp; exact .nil, by simp, fun w' _ n hn => by (try simp at hn); (try subst hn); simp [Builtin.firstCells]⟩
    ·obtain ⟨a', rfl⟩ := Option.isSome_iff_exists.1 hA
     exact ⟨#[], by simp, by simp; exact .nil, by simp, fun w' _ n hn => by (try simp at hn); (try subst hn); simp [Builtin.firstCells, loadCells, loadCellsFrom]⟩
    ·obtain ⟨A', hA', h1⟩ := hH.obj _ _ _ _ _ ho
     rw [hp] at hA'
     simp only [Option.some.injEq, Prod.mk.injEq, true_and] at hA'
     subst hA'
     rcases h1 with ⟨h1, _⟩ | ⟨a', bs', e, h0, hd⟩
     ·cases h1
     simp only [Option.some.injEq, Prod.mk.injEq] at e
     obtain ⟨rfl, rfl⟩ := e
     obtain ⟨C, T, hb, hC, hr, hl, hv, hrel⟩ := hd.cells hsp
     have hm := Nat.mul_le_mul_right sz hle
     rw [Nat.add_mul] at hm
     have e1 : (C.toList.drop (a.off + i * sz)).take (len * sz) = (((C.toList.drop a.off).take (rs.length * sz)).drop (i * sz)).take (len * sz) := by
      rw [List.drop_take, List.drop_drop, List.take_take]; congr 1; omega
     refine ⟨⟨(C.toList.drop (a.off + i * sz)).take (len * sz)⟩, by simp; omega, ?_, ?_, fun w' hw' n hn => ?_⟩
     ·simp only [e1]
      rw [flatten_take (fun r hr0 => hr r (List.mem_of_mem_drop hr0)), flatten_drop hr]
      exact (hrel.drop _).take _
     ·intro u hu
      simp only [e1] at hu
      exact hv u (List.mem_of_mem_drop (List.mem_of_mem_take hu))
     ·simp only [Builtin.firstCells]
      have hnm := Nat.mul_le_mul_right sz hn
      rw [run_loadCells (a := ⟨a.block, a.off + i * sz, none⟩) rfl (by rw [hw']; exact hb) (n * sz) (by simp only; omega), List.take_take, Nat.min_eq_left hnm]
  ·exact hc.elim
 ·rename_i sz' rows
  cases hx with
  | nil _ A cap => exact ⟨rfl, by simp, #[], by simp, by simp; exact .nil, by simp, fun w' _ n hn => by (try simp at hn); (try subst hn); cases A <;> simp [Builtin.firstCells, loadCells, loadCellsFrom]⟩
  | @lst _ _ a len cap C T fz hs hM hb hr hl hcs hcap hv hrel =>
   subst hl
   rcases hc with rfl | rfl
   ·exact ⟨rfl, by simp, #[], by simp, by simp; exact .nil, by simp, fun w' _ n hn => by (try simp at hn); (try subst hn); simp [Builtin.firstCells, loadCells, loadCellsFrom]⟩
   ·exact ⟨rfl, hr, ⟨(C.toList.drop a.off).take (rows.length * sz)⟩, by simp; omega, hrel, hv, fun w' hw' n hn => by
     have hnm := Nat.mul_le_mul_right sz hn
     simp only at hnm
     simp only [Builtin.firstCells]; rw [run_loadCells hs (by rw [hw']; exact hb) (n * sz) (by omega), List.take_take, Nat.min_eq_left hnm]⟩
 ·rename_i A c
  cases hx
  exact ⟨rfl, by simp, #[], by simp, by simp; exact .nil, by simp, fun w' _ n hn => by (try simp at hn); (try subst hn); cases A <;> simp [Builtin.firstCells, loadCells, loadCellsFrom]⟩
 ·exact hc.elim

theorem rowsOf_run (hH : HRelF φ F w M0 h) {x : AV} {v : Value} {sz : Nat} (hsz : 0 < sz) (hx : Rel φ w (Or M0 (Mut φ h)) x v) (hc : (rowsOf x sz h).1) :
  (Builtin.lenOf v).run P w = .ok (rowsOf x sz h).2.length w ∧ (∀ r ∈ (rowsOf x sz h).2, r.length = sz) ∧ ∃ X : Array Value, X.size = (rowsOf x sz h).2.length * sz ∧
   RelL φ w (Or M0 (Mut φ h)) (rowsOf x sz h).2.flatten X.toList ∧ (∀ u ∈ X.toList, cellV u = true) ∧
   ∀ w' : World, w'.heap = w.heap → (Builtin.firstCells sz (rowsOf x sz h).2.length v).run P w' = .ok X w' := by
 obtain ⟨h1, h2, X, h3, h4, h5, h6⟩ := rowsOf_run2 (P := P) hH hsz hx hc
 refine ⟨h1, h2, X, h3, h4, h5, fun w' hw' => ?_⟩
 rw [h6 w' hw' _ (Nat.le_refl _), List.take_of_length_le (by rw [Array.length_toList, h3]; exact Nat.le_refl _)]
theorem growBy_le (need : Nat) : ∀ (k c : Nat), c < need → Builtin.growBy need k c ≤ 2 * need + 192
 | 0, c, hc => by simp [Builtin.growBy]; omega
 | k + 1, c, hc => by
  simp only [Builtin.growBy]
  rw [if_neg (by omega)]
  by_cases h : c + (c + 768) / 4 < need
  ·exact growBy_le need k _ h
  ·have : Builtin.growBy need k (c + (c + 768) / 4) = c + (c + 768) / 4 := by
    cases k with
    | zero => rfl
    | succ k => simp only [Builtin.growBy]; rw [if_pos (by omega)]
   rw [this]; omega
theorem nextcap_le {need cap : Nat} (hc : cap < need) : Builtin.nextslicecap need cap ≤ 2 * need + 192 := by
 unfold Builtin.nextslicecap
 split
 ·omega
 ·split
  ·omega
  ·exact growBy_le _ _ _ hc
theorem zeroCells_list (u : Array Value) (k : Nat) (hu : 0 < u.size) : (Builtin.zeroCells u k).toList = (List.replicate k u.toList).flatten := range_rep u hu k

theorem run_append_in {e st xt : TypeId} {sz len cap m : Nat} {base : Option Addr} {v : Value} (h1 : P.underlying st = some (.slice e)) (h2 : ∃ e', tk P xt = .sl e') (hsz : tsz P e = some sz)
  (hn : (Builtin.lenOf v).run P w = .ok m w) (hle : len + m ≤ cap) {X : Array Value} (hX : (Builtin.firstCells sz m v).run P w = .ok X w) {ty : TypeId} :
  (Builtin.append_ #[st, xt] ty #[.slice base len cap, v]).run P w = ((match base with | some a => storeCells (a.add (len * sz)) X.toList | none => pure ()).run P w).andThen fun _ w' => .ok (.slice base (len + m) cap) w' := by
 obtain ⟨e', h2⟩ := h2
 unfold Builtin.append_
 simp only [List.getElem?_toArray, List.getElem?_cons_zero, List.getElem?_cons_succ, Sem.run_bind, run_underlying h1, Result.andThen_ok, run_sizeOf hsz, run_underlying (tk_sl h2), Sem.run_pure,
  Bool.false_eq_true, if_false, hn, hle, if_true, Bool.not_false, hX]
 cases base <;> simp
theorem run_append_new {e st xt : TypeId} {sz len cap m by_ : Nat} {base : Option Addr} {v : Value} (h1 : P.underlying st = some (.slice e)) (h2 : ∃ e', tk P xt = .sl e') (hsz : tsz P e = some sz)
  (hby : tby P e = some by_) (hn : (Builtin.lenOf v).run P w = .ok m w) (hlt : ¬ len + m ≤ cap) (hb1 : by_ ≤ 1024) (hb0 : 0 < by_) (hb2 : (len + m) * by_ ≤ 17592186044416) {X Y : Array Value} {u : Value}
  (hX : ∀ w' : World, w'.heap = w.heap → (Builtin.firstCells sz m v).run P w' = .ok X w') (hY : ∀ w' : World, w'.heap = w.heap → (Builtin.firstCells sz len (.slice base len cap)).run P w' = .ok Y w')
  (hu : ∀ w' : World, (zeroValue e).run P w' = .ok u w') {ty : TypeId} :
  ∃ newcap d, (w.drawn ≤ d ∧ len + m ≤ newcap) ∧ (Builtin.append_ #[st, xt] ty #[.slice base len cap, v]).run P w =
   .ok (.slice (some ⟨w.heap.size, 0, none⟩) (len + m) newcap) { w with heap := w.heap.push (.cells (Y ++ X ++ Builtin.zeroCells u.cells (newcap - (len + m))) e), drawn := d } := by
 obtain ⟨e', h2⟩ := h2
 obtain ⟨inf, hinf, rfl⟩ := run_typeBytes (P := P) (w := w) hby
 have hmm : len + m ≤ 17592186044416 := Nat.le_trans (Nat.le_mul_of_pos_right _ hb0) hb2
 have hcap : cap < len + m := by omega
 have hnext := nextcap_le hcap
 have hbig : ¬ (Builtin.nextslicecap (len + m) cap * inf.bytes > 2 ^ 48) := by
  have a1 := Nat.mul_le_mul_right inf.bytes hnext
  have a2 : (2 * (len + m) + 192) * inf.bytes = 2 * ((len + m) * inf.bytes) + 192 * inf.bytes := by rw [Nat.add_mul, Nat.mul_assoc]
  omega
 have hmax : ¬ (((len + m : Nat) : Int) > IntKind.i64.max ∧ (False ∨ inf.bytes = 0)) := by
  rintro ⟨hh, _⟩
  simp [IntKind.max, IntKind.signed, IntKind.bits] at hh
  omega
 obtain ⟨q, hq⟩ : ∃ q, q = (Question.appendCap (len + m) cap e).cut (w.tape w.drawn (.appendCap (len + m) cap e)) := ⟨_, rfl⟩
 have hqle : len + m ≤ q := by rw [hq]; simp only [Question.cut]; omega
 refine ⟨q, w.drawn + 1, ⟨Nat.le_succ _, hqle⟩, ?_⟩
 have hti : ∀ w' : World, (typeInfo e).run P w' = .ok inf w' := by
  intro w'
  unfold typeInfo at hinf ⊢
  simp only [Sem.run_bind, run_program, Result.andThen_ok] at hinf ⊢
  cases hi : P.info? e with
  | none => simp [hi] at hinf
  | some i => simp [hi] at hinf ⊢; exact hinf
 have hX' := hX { w with drawn := w.drawn + 1 } rfl
 have hY' := hY { w with drawn := w.drawn + 1 } rfl
 have hu' := hu { w with drawn := w.drawn + 1 }
 unfold Builtin.append_
 simp only [List.getElem?_toArray, List.getElem?_cons_zero, List.getElem?_cons_succ, Sem.run_bind, run_underlying h1, Result.andThen_ok, run_sizeOf hsz, run_underlying (tk_sl h2), Sem.run_pure,
  Bool.false_eq_true, if_false, hn, hlt, Bool.not_false, if_true, hti, hmax, hbig, run_choose, Question.forced, ← hq, run_askRoom, hY', hX', hu', run_newRow, Sem.run_map]
theorem run_append_zeros {e st xt : TypeId} {sz by_ : Nat} {l : Int} {k : IntKind} (h1 : P.underlying st = some (.slice e)) (h2 : P.underlying xt = some (.int k)) (hsz : tsz P e = some sz) (hsz0 : 0 < sz)
  (hby : tby P e = some by_) (hl : 0 < l) (hl2 : l ≤ 17179869184) (hb1 : by_ ≤ 1024) {u : Value} (hu : ∀ w' : World, (zeroValue e).run P w' = .ok u w') {ty : TypeId} :
  ∃ newcap d, (w.drawn ≤ d ∧ l.toNat ≤ newcap) ∧ (Builtin.append_ #[st, xt] ty #[.slice none 0 0, .int .i64 l]).run P w =
   .ok (.slice (some ⟨w.heap.size, 0, none⟩) l.toNat newcap) { w with heap := w.heap.push (.cells (Builtin.zeroCells u.cells l.toNat ++ Builtin.zeroCells u.cells (newcap - l.toNat)) e), drawn := d } := by
 obtain ⟨inf, hinf, rfl⟩ := run_typeBytes (P := P) (w := w) hby
 have hcap : 0 < 0 + l.toNat := by omega
 have hnext := nextcap_le (need := 0 + l.toNat) (cap := 0) hcap
 have hb2 : (inf.bytes : Int) * l ≤ 1024 * l := Int.mul_le_mul_of_nonneg_right (by omega) (by omega)
 have hb3 : ¬ (l * (inf.bytes : Int) > 2 ^ 48) := by rw [Int.mul_comm]; omega
 have hbig : ¬ (Builtin.nextslicecap (0 + l.toNat) 0 * inf.bytes > 2 ^ 48) := by
  have a1 := Nat.mul_le_mul_right inf.bytes hnext
  have a2 : (2 * (0 + l.toNat) + 192) * inf.bytes ≤ (2 * (0 + l.toNat) + 192) * 1024 := Nat.mul_le_mul_left _ hb1
  omega
 have hmax : ¬ (((0 + l.toNat : Nat) : Int) > IntKind.i64.max ∧ (True ∨ inf.bytes = 0)) := by
  rintro ⟨hh, _⟩
  simp [IntKind.max, IntKind.signed, IntKind.bits] at hh
  omega
 have w1 : IntKind.i64.wrap l = l := wrap64 (by omega) (by omega)
 obtain ⟨q, hq⟩ : ∃ q, q = (Question.appendCap (0 + l.toNat) 0 e).cut (w.tape w.drawn (.appendCap (0 + l.toNat) 0 e)) := ⟨_, rfl⟩
 have hqle : l.toNat ≤ q := by rw [hq]; simp only [Question.cut]; omega
 refine ⟨q, w.drawn + 1, ⟨Nat.le_succ _, hqle⟩, ?_⟩
 have hti : ∀ w' : World, (typeInfo e).run P w' = .ok inf w' := by
  intro w'
  unfold typeInfo at hinf ⊢
  simp only [Sem.run_bind, run_program, Result.andThen_ok] at hinf ⊢
  cases hi : P.info? e with
  | none => simp [hi] at hinf
  | some i => simp [hi] at hinf ⊢; exact hinf
 have hneg : ¬ l < 0 := by omega
 have hns : ¬ l.toNat * sz = 0 := by
  have := Nat.mul_pos (show 0 < l.toNat by omega) hsz0
  omega
 have hlt : ¬ 0 + l.toNat ≤ 0 := by omega
 unfold Builtin.append_
 simp only [List.getElem?_toArray, List.getElem?_cons_zero, List.getElem?_cons_succ, Sem.run_bind, run_underlying h1, Result.andThen_ok, run_sizeOf hsz, run_underlying h2, Sem.run_pure,
  if_true, asInt, run_asIntOf, w1, hneg, if_false, hti, hb3, hns, Bool.not_true, Bool.false_eq_true, hlt, hmax, hbig, run_choose, Question.forced, ← hq, run_askRoom, Builtin.firstCells, hu, run_newRow, Sem.run_map]
 simp
theorem appendN_good (hH : HRelF φ F w M0 h) (hn : F n) {st xt : TypeId} {k : IntKind} {ty : TypeId} {s x : AV} {vs vx : Value} (hk : tk P xt = .int k) (hs : Rel φ w (Or M0 (Mut φ h)) s vs) (hx : Rel φ w (Or M0 (Mut φ h)) x vx)
  (hc : (evAppendN P n st s x).cond) : Good P φ F n w M0 h (evAppendN P n st s x) (Builtin.append_ #[st, xt] ty #[vs, vx]) := by
 have h2 : ∃ k, P.underlying xt = some (.int k) := by
  unfold tk at hk
  split at hk <;> first | exact ⟨_, by assumption⟩ | cases hk
 obtain ⟨k', h2⟩ := h2
 unfold evAppendN at hc ⊢
 split at hc
 ·rename_i e l ht
  cases hs; cases hx
  split at hc
  ·rename_i sz z by_ hsz hz hb
   try simp only [hsz, hz, hb]
   obtain ⟨h1, h3, h4, h5, h6⟩ := hc
   have hu0 := fun w' : World => run_zeroValue (P := P) (w := w') hz
   obtain ⟨u, hu, hzu, hcv⟩ := hu0 w
   have huall : ∀ w' : World, (zeroValue e).run P w' = .ok u w' := by
    intro w'
    obtain ⟨u', hu', hzu', _⟩ := hu0 w'
    have : (zeroValue e).run P w' = .ok u w' := by
     unfold zeroValue typeInfo at hu ⊢
     simp only [Sem.run_bind, run_program, Result.andThen_ok] at hu ⊢
     cases hi : P.info? e with
     | none => simp [hi] at hu
     | some i =>
      simp only [hi, Sem.run_pure, Result.andThen_ok] at hu ⊢
      cases hz' : i.zero with
      | none => simp [hz'] at hu
      | some z' => simp [hz'] at hu ⊢; exact hu
    exact this
   subst hzu
   have hus : u.cells.size = sz := by simpa using h3
   obtain ⟨q, d, ⟨hdw, hq⟩, hrun⟩ := run_append_zeros (P := P) (w := w) (ty := ty) (tk_sl ht) h2 hsz h1 hb h4 h6 h5 huall
   have hZ : ∀ m, (Builtin.zeroCells u.cells m).toList = (List.replicate m u.cells.toList).flatten := fun m => by
    unfold Builtin.zeroCells
    exact range_rep u.cells (by omega) _
   have hZs : ∀ m, (Builtin.zeroCells u.cells m).size = m * sz := fun m => by simp [Builtin.zeroCells, hus]
   have hH1 := hH.of_heap (w' := { w with drawn := d }) rfl
   have hst : Step φ w M0 h φ { w with drawn := d } h := .of_heap rfl rfl rfl hdw rfl
   have htk : (Builtin.zeroCells u.cells l.toNat ++ Builtin.zeroCells u.cells (q - l.toNat)).toList.take (l.toNat * sz) = (List.replicate l.toNat u.cells.toList).flatten := by
    rw [Array.toList_append, List.take_left' (by rw [Array.length_toList, hZs]), hZ]
   have hCs : (Builtin.zeroCells u.cells l.toNat ++ Builtin.zeroCells u.cells (q - l.toNat)).size = q * sz := by
    rw [Array.size_append, hZs, hZs, ← Nat.add_mul]; congr 1; omega
   obtain ⟨a, b⟩ := hH1.new hn (sz := sz) (rs := List.replicate l.toNat (u.cells.toList.map .v)) (C := Builtin.zeroCells u.cells l.toNat ++ Builtin.zeroCells u.cells (q - l.toNat)) (T := e)
    (fun r hr => by rw [(List.mem_replicate.1 hr).2]; simpa using hus) (by rw [List.length_replicate, hCs]; exact Nat.mul_le_mul_right _ hq)
    (fun x hm => by
     rw [List.length_replicate] at hm
     have hm : x ∈ (List.replicate l.toNat u.cells.toList).flatten := by rw [← htk]; exact hm
     obtain ⟨q, hq, hm⟩ := List.mem_flatten.1 hm
     rw [(List.mem_replicate.1 hq).2] at hm
     exact hcv x hm)
    (by
     rw [List.length_replicate, htk]
     have := replicate_le (zero_cells (φ := φ) (w := { w with drawn := d }) (M := Or M0 (Mut φ h)) u.cells.toList) (Nat.le_refl l.toNat)
     have hlen : (List.replicate l.toNat u.cells.toList).flatten.length = l.toNat * sz := by rw [← hZ, Array.length_toList, hZs]
     rw [h3, List.take_of_length_le (by rw [hlen]; exact Nat.le_refl _)] at this
     exact this)
   refine ⟨_, _, _, hrun, ?_, a, hst.trans b⟩
   refine .sl (upd_same _ _ _) (Nat.le_refl _) fun _ => .inr (.inr ⟨_, _, q, rfl, rfl, by simp, hq, ?_⟩)
   simp only [hCs]; omega
  ·exact hc.elim
 ·exact hc.elim
theorem append_good (hH : HRelF φ F w M0 h) (hn : F n) {tys : Array TypeId} {ty : TypeId} {s x : AV} {vs vx : Value} (hs : Rel φ w (Or M0 (Mut φ h)) s vs) (hx : Rel φ w (Or M0 (Mut φ h)) x vx)
  (hc : (evAppend P n tys.toList s x h).cond) : Good P φ F n w M0 h (evAppend P n tys.toList s x h) (Builtin.append_ tys ty #[vs, vx]) := by
 unfold evAppend at hc ⊢
 split at hc
 ·rename_i st xt htys
  obtain rfl : tys = #[st, xt] := by apply Array.ext'; simpa using htys
  simp only at htys
  split at hc
  ·rename_i e e' ht ht'
   split at hc
   ·rename_i sz by_ z hsz hby hz
    have hu0 := fun w' : World => run_zeroValue (P := P) (w := w') hz
    obtain ⟨u, hu, hzu, hcv⟩ := hu0 w
    have huall : ∀ w' : World, (zeroValue e).run P w' = .ok u w' := by
     intro w'
     obtain ⟨u', hu', hzu', _⟩ := hu0 w'
     have : (zeroValue e).run P w' = .ok u w' := by
      unfold zeroValue typeInfo at hu ⊢
      simp only [Sem.run_bind, run_program, Result.andThen_ok] at hu ⊢
      cases hi : P.info? e with
      | none => simp [hi] at hu
      | some i =>
       simp only [hi, Sem.run_pure, Result.andThen_ok] at hu ⊢
       cases hz' : i.zero with
       | none => simp [hz'] at hu
       | some z' => simp [hz'] at hu ⊢; exact hu
     exact this
    split at hc
    · -- onto nil
     cases hs
     obtain ⟨h1, h2, h3, h4, h5, h6⟩ := hc
     obtain ⟨r1, r2, X, r3, r4, r5, r6⟩ := rowsOf_run (P := P) hH h2 hx h1
     have hus : 0 < u.cells.size := by rw [hzu] at h3; simp at h3; omega
     have hus' : u.cells.size = sz := by rw [hzu] at h3; simpa using h3
     by_cases h0 : (rowsOf x sz h).2.length = 0
     ·have hnil : (rowsOf x sz h).2 = [] := List.eq_nil_of_length_eq_zero h0
      have hX0 : X.toList = [] := by
       apply List.eq_nil_of_length_eq_zero
       rw [Array.length_toList, r3, h0]; simp
      obtain ⟨a, b⟩ := hH.newNil hn sz
      refine ⟨.slice none 0 0, w, _, ?_, ?_, by simp only [applyW, hnil]; exact a, by simp only [applyW, hnil]; exact b⟩
      ·have := run_append_in (P := P) (w := w) (len := 0) (cap := 0) (base := none) (ty := ty) (tk_sl ht) ⟨e', ht'⟩ hsz r1 (by omega) (r6 w rfl)
       rw [this]
       simp [h0]
      ·simp only [hnil]
       exact .sl (upd_same _ _ _) (Nat.le_refl _) fun _ => .inl ⟨rfl, rfl, rfl, rfl⟩
     ·obtain ⟨nc, d, ⟨hdw, hnc⟩, hrun⟩ := run_append_new (P := P) (w := w) (len := 0) (cap := 0) (base := none) (ty := ty) (Y := #[]) (tk_sl ht) ⟨e', ht'⟩ hsz hby r1 (by omega) h5 h4 (by simpa using h6) r6
       (fun w' _ => by simp [Builtin.firstCells]) huall
      simp only [Nat.zero_add] at hnc hrun
      have hH1 := hH.of_heap (w' := { w with drawn := d }) rfl
      have hst : Step φ w M0 h φ { w with drawn := d } h := .of_heap rfl rfl rfl hdw rfl
      have hCl : (#[] ++ X ++ Builtin.zeroCells u.cells (nc - (rowsOf x sz h).2.length)).toList.take ((rowsOf x sz h).2.length * sz) = X.toList := by
       have : X.toList.length = (rowsOf x sz h).2.length * sz := by rw [Array.length_toList, r3]
       simp only [Array.toList_append, List.nil_append]
       rw [List.take_left' this]
      have hCs : (#[] ++ X ++ Builtin.zeroCells u.cells (nc - (rowsOf x sz h).2.length)).size = nc * sz := by
       have : (Builtin.zeroCells u.cells (nc - (rowsOf x sz h).2.length)).size = (nc - (rowsOf x sz h).2.length) * sz := by
        simp [Builtin.zeroCells, hus']
       simp only [Array.size_append, this, r3]
       rw [show (#[] : Array Value).size = 0 from rfl, Nat.zero_add, ← Nat.add_mul]
       congr 1; omega
      obtain ⟨a, b⟩ := hH1.new hn (sz := sz) (rs := (rowsOf x sz h).2) (C := #[] ++ X ++ Builtin.zeroCells u.cells (nc - (rowsOf x sz h).2.length)) (T := e) r2
       (by rw [hCs]; exact Nat.mul_le_mul_right _ hnc) (by rw [hCl]; exact r5) (by rw [hCl]; exact hst.relL r4)
      refine ⟨_, _, _, hrun, ?_, a, hst.trans b⟩
      refine .sl (upd_same _ _ _) (Nat.le_refl _) fun _ => .inr (.inr ⟨_, _, nc, rfl, rfl, by simp, hnc, ?_⟩)
      simp only [hCs]; omega
    · -- onto an owned slice
     rename_i o g sz' i len
     split at hc
     ·rename_i mt g' sz'' rs ho
      obtain ⟨h1, h2, h3, rfl, rfl, rfl, rfl, h8, h9, h5, h6⟩ := hc
      simp only [ho]
      obtain ⟨r1, r2, X, r3, r4, r5, r6⟩ := rowsOf_run (P := P) hH h2 hx h1
      have hus : 0 < u.cells.size := by rw [hzu] at h3; simp at h3; omega
      have hus' : u.cells.size = sz := by rw [hzu] at h3; simpa using h3
      have hal : alive h o g sz := by simp [alive, ho]
      obtain ⟨A, cap, rfl, hcap, hA⟩ := hH.sl_alive hal hs
      obtain ⟨A0, hA0, hobj⟩ := hH.obj _ _ _ _ _ ho
      have hrr : ∀ r ∈ rs.drop i ++ (rowsOf x sz h).2, r.length = sz := by
       intro r hm
       rcases List.mem_append.1 hm with hm | hm
       ·rcases hobj with ⟨_, rfl⟩ | ⟨a, bs, _, _, hr⟩
        ·simp at hm
        ·exact hr.rows r (List.mem_of_mem_drop hm)
       ·exact r2 r hm
      have hol : ¬ F o := fun hle => by rw [hH.fresh o hle] at hA0; cases hA0
      have hold : ∃ Y : Array Value, Y.size = len * sz ∧ RelL φ w (Or M0 (Mut φ h)) (rs.drop i).flatten Y.toList ∧ (∀ c ∈ Y.toList, cellV c = true) ∧
        ∀ w' : World, w'.heap = w.heap → (Builtin.firstCells sz len (.slice A len cap)).run P w' = .ok Y w' := by
       have hself := rowsOf_run (P := P) (x := .sl o g sz i len) hH h2 hs (by simp [rowsOf, ho]; omega)
       obtain ⟨_, _, Y, y1, y2, y3, y4⟩ := hself
       have e1 : (rowsOf (.sl o g sz i len) sz h).2 = rs.drop i := by
        simp only [rowsOf, ho]; exact List.take_of_length_le (by simp; omega)
       have e2 : (rs.drop i).length = len := by simp; omega
       rw [e1, e2] at y1 y4
       rw [e1] at y2
       exact ⟨Y, y1, y2, y3, y4⟩
      obtain ⟨Y, y1, y2, y3, y4⟩ := hold
      have hdl : (rs.drop i).length = len := by simp; omega
      by_cases hle : len + (rowsOf x sz h).2.length ≤ cap
      ·rcases hA with ⟨rfl, rfl, rfl, rfl⟩ | ⟨rfl, rfl, hA⟩ | ⟨a, bs, hp, hsp, rfl, hcb⟩
       · -- a nil slice, nothing added
        have h0 : (rowsOf x sz h).2.length = 0 := by omega
        have hnil : (rowsOf x sz h).2 = [] := List.eq_nil_of_length_eq_zero h0
        have hdn : rs.drop 0 = [] := List.eq_nil_of_length_eq_zero hdl
        have hle0 : φ.le (upd φ o (some (g + 1, none))) := by
         intro o' y hy
         by_cases eo : o' = o
         ·subst eo; rw [hA0] at hy; simp only [Option.some.injEq] at hy; subst hy
          exact ⟨_, upd_same _ _ _, by simp, fun hh => by simp at hh⟩
         ·exact ⟨y, by rw [upd_ne _ _ eo]; exact hy, Nat.le_refl _, fun _ => rfl⟩
        obtain ⟨q1, q2, q3⟩ := hH.set (w' := w) (F' := F) (o := o) (mt := true) (g := g + 1) (sz := sz) (rs := []) (A := none) (fun _ h => h) hol (Nat.le_refl _) hle0
         (fun k _ hk => rfl) (fun o' mt g sz rs a b _ ho hp => ⟨rfl, fun a₁ b₁ e => by cases e⟩) (fun a b e => by cases e) (.inl (.inl ⟨rfl, rfl⟩))
        refine ⟨.slice none 0 0, w, _, ?_, ?_, by simp only [applyW, hnil, hdn, List.append_nil]; exact q1, ⟨hle0, by simp only [applyW, hnil, hdn, List.append_nil]; exact q2, Fr.refl _ _, ?_⟩⟩
        ·have := run_append_in (P := P) (w := w) (len := 0) (cap := 0) (base := none) (ty := ty) (tk_sl ht) ⟨e', ht'⟩ hsz r1 hle (r6 w rfl)
         rw [this]; simp [h0]
        ·simp only [h0]
         exact .sl (upd_same _ _ _) (Nat.le_refl _) fun _ => .inl ⟨rfl, rfl, rfl, rfl⟩
        ·simp only [applyW, hnil, hdn, List.append_nil]
         intro k hk
         rcases q3 k hk with h | ⟨a, b, e, _⟩
         ·exact .inl h
         ·cases e
       ·have h0 : (rowsOf x sz h).2.length = 0 := by omega
        have hnil : (rowsOf x sz h).2 = [] := List.eq_nil_of_length_eq_zero h0
        have hdn : rs.drop i = [] := List.eq_nil_of_length_eq_zero hdl
        obtain ⟨a', rfl⟩ := Option.isSome_iff_exists.1 hA
        have hX0 : X.toList = [] := by
         apply List.eq_nil_of_length_eq_zero
         rw [Array.length_toList, r3, h0]; simp
        have hle0 : φ.le (upd φ o (some (g + 1, none))) := by
         intro o' y hy
         by_cases eo : o' = o
         ·subst eo; rw [hA0] at hy; simp only [Option.some.injEq] at hy; subst hy
          exact ⟨_, upd_same _ _ _, by simp, fun hh => by simp at hh⟩
         ·exact ⟨y, by rw [upd_ne _ _ eo]; exact hy, Nat.le_refl _, fun _ => rfl⟩
        obtain ⟨q1, q2, q3⟩ := hH.set (w' := w) (F' := F) (o := o) (mt := true) (g := g + 1) (sz := sz) (rs := []) (A := none) (fun _ h => h) hol (Nat.le_refl _) hle0
         (fun k _ hk => rfl) (fun o' mt g sz rs a b _ ho hp => ⟨rfl, fun a₁ b₁ e => by cases e⟩) (fun a b e => by cases e) (.inl (.inl ⟨rfl, rfl⟩))
        refine ⟨.slice (some a') 0 0, w, _, ?_, ?_, by simp only [applyW, hnil, hdn, List.append_nil]; exact q1, ⟨hle0, by simp only [applyW, hnil, hdn, List.append_nil]; exact q2, Fr.refl _ _, ?_⟩⟩
        ·have := run_append_in (P := P) (w := w) (len := 0) (cap := 0) (base := some a') (ty := ty) (tk_sl ht) ⟨e', ht'⟩ hsz r1 hle (r6 w rfl)
         rw [this]; simp [h0, hX0, storeCells]
        ·simp only [h0]
         exact .sl (upd_same _ _ _) (Nat.le_refl _) fun _ => .inr (.inl ⟨rfl, a', rfl⟩)
        ·simp only [applyW, hnil, hdn, List.append_nil]
         intro k hk
         rcases q3 k hk with h | ⟨a, b, e, _⟩
         ·exact .inl h
         ·cases e
       · -- in place
        rw [hp] at hA0
        simp only [Option.some.injEq, Prod.mk.injEq, true_and] at hA0
        subst hA0
        rcases hobj with ⟨hobj, _⟩ | ⟨a₁, bs₁, e1, h0, hd⟩
        ·cases hobj
        simp only [Option.some.injEq, Prod.mk.injEq] at e1
        obtain ⟨rfl, rfl⟩ := e1
        obtain ⟨C, T, hb, hC, hr, hl, hv, hrel⟩ := hd.cells hsp
        have hXl : X.toList.length = (rowsOf x sz h).2.length * sz := by rw [Array.length_toList, r3]
        have hmul := Nat.mul_le_mul_right sz hle
        rw [Nat.add_mul] at hmul
        obtain ⟨w', hrun, hw'⟩ := run_storeCells (P := P) (a := ⟨a.block, a.off + i * sz + len * sz, none⟩) (T := T) rfl X.toList 0 w C hb (by simp only [hXl]; omega) r5
        have hM : ∀ k, ¬ Or M0 (Mut φ h) k → k ≠ a.block := fun k hk e => hk (.inr ⟨o, g, sz, rs, g, a, bs, ho, hp, e.symm⟩)
        have hle0 : φ.le (upd φ o (some (g + 1, some ((⟨a.block, a.off + i * sz, none⟩ : Addr), bs)))) := by
         intro o' y hy
         by_cases eo : o' = o
         ·subst eo; rw [hp] at hy; simp only [Option.some.injEq] at hy; subst hy
          exact ⟨_, upd_same _ _ _, by simp, fun hh => by simp at hh⟩
         ·exact ⟨y, by rw [upd_ne _ _ eo]; exact hy, Nat.le_refl _, fun _ => rfl⟩
        have hYe : Y.toList = (C.toList.drop (a.off + i * sz)).take (len * sz) := by
         have h1 := y4 w rfl
         simp only [Builtin.firstCells] at h1
         rw [run_loadCells (a := ⟨a.block, a.off + i * sz, none⟩) rfl hb (len * sz) (by simp only; omega)] at h1
         simp only [Result.ok.injEq, and_true] at h1
         rw [← h1]
        have hlen' : (rs.drop i ++ (rowsOf x sz h).2).length = len + (rowsOf x sz h).2.length := by simp only [List.length_append, hdl]
        have hwin : (((⟨putL C.toList (a.off + i * sz + len * sz) X.toList⟩ : Array Value).toList.drop (a.off + i * sz)).take ((len + (rowsOf x sz h).2.length) * sz)) = Y.toList ++ X.toList := by
         rw [putL_window _ _ _ _ _ (by rw [hXl, Nat.add_mul]; omega)]
         have e2 : (C.toList.drop (a.off + i * sz)).take ((len + (rowsOf x sz h).2.length) * sz) = Y.toList ++ ((C.toList.drop (a.off + i * sz)).drop (len * sz)).take ((rowsOf x sz h).2.length * sz) := by
          rw [hYe, Nat.add_mul, List.take_add]
         rw [e2]
         have happ : ∀ (us p q : List Value) (k : Nat), putL (p ++ q) (p.length + k) us = p ++ putL q k us := by
          intro us
          induction us with
          | nil => intro p q k; rfl
          | cons c cs ih => intro p q k; rw [putL, putL, List.set_append_right _ _ (by omega), Nat.add_assoc, show p.length + k - p.length = k by omega, ih p _ (k + 1)]
         have hall : ∀ (us l p : List Value), l.length = us.length → putL (p ++ l) p.length us = p ++ us := by
          intro us
          induction us with
          | nil => intro l p hh; simp at hh; subst hh; simp [putL]
          | cons c cs ih =>
           intro l p hh
           cases l with
           | nil => simp at hh
           | cons y l =>
            rw [putL, List.set_append_right _ _ (by omega)]
            simp only [Nat.sub_self, List.set_cons_zero]
            have := ih l (p ++ [c]) (by simpa using hh)
            simpa using this
         have hYl : Y.toList.length = len * sz := by rw [Array.length_toList, y1]
         rw [← hYl]
         apply hall
         rw [List.length_take, List.length_drop, List.length_drop, hXl, Array.length_toList, hYl]
         omega
        obtain ⟨q1, q2, q3⟩ := hH.set (w' := w') (F' := F) (o := o) (mt := true) (g := g + 1) (sz := sz) (rs := rs.drop i ++ (rowsOf x sz h).2) (A := some (⟨a.block, a.off + i * sz, none⟩, bs))
         (fun _ h => h) hol (by rw [hw'.size]; exact Nat.le_refl _) hle0 (fun k hk _ => hw'.other k (hM k hk))
         (fun o' mt' g' sz' rs' a₁ b₁ hne ho' hp' => by
          have := hH.inj _ _ _ _ _ _ _ _ _ _ _ _ _ _ ho ho' (Ne.symm hne) (.inl rfl) hp hp'
          refine ⟨hw'.other _ (Ne.symm this), fun a₂ b₂ e => ?_⟩
          simp only [Option.some.injEq, Prod.mk.injEq] at e
          obtain ⟨rfl, rfl⟩ := e
          exact this)
         (fun a₁ b₁ e => by
          simp only [Option.some.injEq, Prod.mk.injEq] at e
          obtain ⟨rfl, rfl⟩ := e
          exact .inl (.inr ⟨o, g, sz, rs, g, a, bs, ho, hp, rfl⟩))
         (.inr ⟨_, bs, _, T, rfl, rfl, h0, hw'.at_, by simpa [← Array.length_toList, putL_length] using hC, hrr,
          by rw [hlen']; simp only [Nat.add_mul]; omega,
          fun c hm => by
           rw [hlen'] at hm
           simp only [Nat.add_zero] at hm
           rw [hwin] at hm
           rcases List.mem_append.1 hm with hm | hm
           ·exact y3 c hm
           ·exact r5 c hm,
          by
           rw [hlen']
           simp only [Nat.add_zero]
           rw [hwin, List.flatten_append]
           exact y2.append r4⟩)
        refine ⟨.slice (some ⟨a.block, a.off + i * sz, none⟩) (len + (rowsOf x sz h).2.length) cap, w', _, ?_, ?_, q1, ⟨hle0, q2, ⟨hw'.os, hw'.tape, hw'.output, hw'.drawn, by rw [hw'.size]; exact Nat.le_refl _,
         fun k _ hu => hw'.other k (fun e => hu ⟨o, g, sz, rs, g, a, bs, ho, hp, e.symm⟩)⟩, fun k hk => ?_⟩⟩
        ·have := run_append_in (P := P) (w := w) (len := len) (cap := cap) (base := some ⟨a.block, a.off + i * sz, none⟩) (ty := ty) (tk_sl ht) ⟨e', ht'⟩ hsz r1 hle (r6 w rfl)
         rw [this]
         simp only [add_plain (a := ⟨a.block, a.off + i * sz, none⟩) rfl, hrun, Result.andThen_ok]
        ·refine .sl (upd_same _ _ _) (Nat.le_refl _) fun _ => .inr (.inr ⟨_, _, cap, rfl, rfl, by simp, hle, ?_⟩)
         simp only; omega
        ·rcases q3 k hk with h | ⟨a₁, b₁, e, rfl⟩
         ·exact .inl h
         ·simp only [Option.some.injEq, Prod.mk.injEq] at e
          obtain ⟨rfl, rfl⟩ := e
          exact .inl ⟨o, g, sz, rs, g, a, bs, ho, hp, rfl⟩
      · -- into a new block
       obtain ⟨nc, d, ⟨hdw, hnc⟩, hrun⟩ := run_append_new (P := P) (w := w) (len := len) (cap := cap) (base := A) (ty := ty) (Y := Y) (tk_sl ht) ⟨e', ht'⟩ hsz hby r1 hle h5 h9 h6 r6 y4 huall
       have hH1 := hH.of_heap (w' := { w with drawn := d }) rfl
       have hst : Step φ w M0 h φ { w with drawn := d } h := .of_heap rfl rfl rfl hdw rfl
       obtain ⟨Z, hZ⟩ : ∃ Z : Array Value, Z = Y ++ X ++ Builtin.zeroCells u.cells (nc - (len + (rowsOf x sz h).2.length)) := ⟨_, rfl⟩
       rw [← hZ] at hrun
       have hlen' : (rs.drop i ++ (rowsOf x sz h).2).length = len + (rowsOf x sz h).2.length := by simp only [List.length_append, hdl]
       have hCl : Z.toList.take ((len + (rowsOf x sz h).2.length) * sz) = Y.toList ++ X.toList := by
        have : (Y.toList ++ X.toList).length = (len + (rowsOf x sz h).2.length) * sz := by rw [List.length_append, Array.length_toList, Array.length_toList, r3, y1, Nat.add_mul]
        rw [hZ]
        simp only [Array.toList_append]
        rw [List.take_left' this]
       have hCs : Z.size = nc * sz := by
        have : (Builtin.zeroCells u.cells (nc - (len + (rowsOf x sz h).2.length))).size = (nc - (len + (rowsOf x sz h).2.length)) * sz := by
         simp [Builtin.zeroCells, hus']
        rw [hZ]
        simp only [Array.size_append, this, r3, y1]
        rw [← Nat.add_mul, ← Nat.add_mul]
        congr 1; omega
       have hle0 : φ.le (upd φ o (some (g + 1, some ((⟨w.heap.size, 0, none⟩ : Addr), Z.size)))) := by
        intro o' y hy
        by_cases eo : o' = o
        ·subst eo; rw [hA0] at hy; simp only [Option.some.injEq] at hy; subst hy
         exact ⟨_, upd_same _ _ _, by simp, fun hh => by simp at hh⟩
        ·exact ⟨y, by rw [upd_ne _ _ eo]; exact hy, Nat.le_refl _, fun _ => rfl⟩
       obtain ⟨q1, q2, q3⟩ := hH1.set (w' := { w with heap := w.heap.push (.cells Z e), drawn := d }) (F' := F) (o := o) (mt := true) (g := g + 1) (sz := sz) (rs := rs.drop i ++ (rowsOf x sz h).2)
        (A := some (⟨w.heap.size, 0, none⟩, Z.size)) (fun _ h => h) hol (by simp) hle0 (fun k _ hk => heap_push w _ k hk)
        (fun o' mt g sz rs a b _ ho hp => by
         have := (hH.place_old ho hp).1
         refine ⟨heap_push w _ _ this, fun a₁ b₁ e => ?_⟩
         simp only [Option.some.injEq, Prod.mk.injEq] at e
         obtain ⟨rfl, _⟩ := e
         exact fun e => by simp only at e; omega)
        (fun a b e => by
         simp only [Option.some.injEq, Prod.mk.injEq] at e
         obtain ⟨rfl, _⟩ := e
         exact .inr (Nat.le_refl _))
        (.inr ⟨⟨w.heap.size, 0, none⟩, Z.size, Z, e, rfl, rfl, fun hm => by have := hH.m0 _ hm; simp only at this; omega, heap_push_new w _, rfl, hrr,
         by rw [hlen', hCs]; simp only [Nat.zero_add]; exact Nat.mul_le_mul_right _ hnc,
         fun c hm => by
          rw [hlen'] at hm
          simp only [List.drop_zero, hCl] at hm
          rcases List.mem_append.1 hm with hm | hm
          ·exact y3 c hm
          ·exact r5 c hm,
         by
          rw [hlen']
          simp only [List.drop_zero, hCl, List.flatten_append]
          exact hst.relL (y2.append r4)⟩)
       refine ⟨_, _, _, hrun, ?_, q1, ⟨hle0, q2, ⟨rfl, rfl, rfl, hdw, by simp, fun k hk _ => heap_push w _ k hk⟩, fun k hk => ?_⟩⟩
       ·refine .sl (upd_same _ _ _) (Nat.le_refl _) fun _ => .inr (.inr ⟨_, _, nc, rfl, rfl, by simp, hnc, ?_⟩)
        simp only [hCs]; omega
       ·rcases q3 k hk with h | ⟨a₁, b₁, e, rfl⟩
        ·exact .inl h
        ·simp only [Option.some.injEq, Prod.mk.injEq] at e
         obtain ⟨rfl, rfl⟩ := e
         exact .inr (Nat.le_refl _)
     ·exact hc.elim
    ·exact hc.elim
   ·exact hc.elim
  ·exact hc.elim
 ·exact hc.elim
theorem app_good (hH : HRelF φ F w M0 h) (hn : F n) {tys : Array TypeId} {ty : TypeId} {s x : AV} {vs vx : Value} (hs : Rel φ w (Or M0 (Mut φ h)) s vs) (hx : Rel φ w (Or M0 (Mut φ h)) x vx)
  (hc : (evApp P n tys.toList s x h).cond) : Good P φ F n w M0 h (evApp P n tys.toList s x h) (Builtin.append_ tys ty #[vs, vx]) := by
 unfold evApp at hc
 split at hc
 ·rename_i st xt htys
  obtain rfl : tys = #[st, xt] := by apply Array.ext'; simpa using htys
  have e0 : evApp P n (#[st, xt] : Array TypeId).toList s x h = bif isInt (tk P xt) then evAppendN P n st s x else evAppend P n [st, xt] s x h := rfl
  rw [e0]
  cases hi : tk P xt with
  | int k =>
   simp only [hi, isInt, cond_true] at hc ⊢
   exact appendN_good hH hn hi hs hx hc
  | _ =>
   simp only [hi, isInt, cond_false] at hc ⊢
   exact append_good hH hn hs hx hc
 ·exact hc.elim
theorem cap_reads (hH : HRelF φ F w M0 h) {t : TypeId} {x : AV} {v : Value} {ats : Array TypeId} {ty : TypeId} (ha : ats[0]? = some t) (hx : Rel φ w (Or M0 (Mut φ h)) x v) (hc : (evCap P t x).cond) :
  Reads P φ w (Or M0 (Mut φ h)) (evCap P t x) (Builtin.cap_ ats ty #[v]) := by
 unfold evCap at hc ⊢
 split at hc
 ·rename_i e ht
  cases hx
  exact ⟨_, by simp [Builtin.cap_, ha, run_underlying (tk_sl ht), goInt], .v _, rfl, rfl⟩
 ·exact hc.elim

theorem setMany_eq : ∀ (cs l : List AV) (k : Nat), k + cs.length ≤ l.length → setMany l k cs = l.take k ++ cs ++ l.drop (k + cs.length)
 | [], l, k, _ => by simp [setMany]
 | c :: cs, l, k, h => by
  simp only [List.length_cons] at h
  rw [setMany, setMany_eq cs (l.set k c) (k + 1) (by simp; omega)]
  rw [List.drop_set_of_lt (by omega), List.take_succ_eq_append_getElem (by simp; omega), List.take_set_of_le (Nat.le_refl _)]
  simp [Nat.add_assoc, Nat.add_comm 1]
theorem flatten_splice {rs xs : List (List AV)} {sz : Nat} (hr : ∀ r ∈ rs, r.length = sz) (hx : ∀ r ∈ xs, r.length = sz) (i : Nat) (h : i + xs.length ≤ rs.length) :
  (rs.take i ++ xs ++ rs.drop (i + xs.length)).flatten = setMany rs.flatten (i * sz) xs.flatten := by
 have hm := Nat.mul_le_mul_right sz h
 rw [Nat.add_mul] at hm
 rw [setMany_eq _ _ _ (by rw [flatten_length hx, flatten_length hr]; exact hm), List.flatten_append, List.flatten_append, flatten_take hr, flatten_drop hr, flatten_length hx, Nat.add_mul]
theorem copy_good (hH : HRelF φ F w M0 h) {tys : Array TypeId} {ty : TypeId} {s x : AV} {vs vx : Value} (hs : Rel φ w (Or M0 (Mut φ h)) s vs) (hx : Rel φ w (Or M0 (Mut φ h)) x vx)
  (hc : (evCopy P tys.toList s x h).cond) : Good P φ F n w M0 h (evCopy P tys.toList s x h) (Builtin.copy_ tys ty #[vs, vx]) := by
 unfold evCopy at hc ⊢
 split at hc
 ·rename_i st rest htys
  have h0t : tys[0]? = some st := by rw [← Array.getElem?_toList, htys]; rfl
  split at hc
  ·rename_i e ht
   split at hc
   ·rename_i sz hsz
    split at hc
    ·rename_i o g sz' i len
     split at hc
     ·rename_i mt g' sz'' rs ho
      obtain ⟨h1, h2, rfl, rfl, rfl, rfl, h8, h9⟩ := hc
      simp only [ho]
      obtain ⟨r1, r2, X, r3, r4, r5, r6⟩ := rowsOf_run2 (P := P) hH h2 hx h1
      have hal : alive h o g sz := by simp [alive, ho]
      obtain ⟨A, cap, rfl, hcap, hA⟩ := hH.sl_alive hal hs
      generalize hm : min (rowsOf x sz h).2.length len = m at *
      have hmx : m ≤ (rowsOf x sz h).2.length := by omega
      have hml : m ≤ len := by omega
      have hXm : (X.toList.take (m * sz)).length = m * sz := by
       rw [List.length_take, Array.length_toList, r3]
       exact Nat.min_eq_left (Nat.mul_le_mul_right sz hmx)
      have hrun0 : (Builtin.copy_ tys ty #[.slice A len cap, vx]).run P w = ((match A with | some a => storeCells a (X.toList.take (m * sz)) | none => pure ()).run P w).andThen fun _ w' => .ok (goInt m) w' := by
       have h6 := r6 w rfl m hmx
       have hmin : Nat.min (rowsOf x sz h).2.length len = m := hm
       cases A <;> simp [Builtin.copy_, h0t, run_underlying (tk_sl ht), r1, hmin, run_sizeOf hsz, h6]
      have hint : goInt m = .int .i64 m := by simp [goInt]
      obtain ⟨A0, hA0, hobj⟩ := hH.obj _ _ _ _ _ ho
      have hol : ¬ F o := fun hle => by rw [hH.fresh o hle] at hA0; cases hA0
      by_cases hm0 : m = 0
      ·subst hm0
       have hrs : rs.take i ++ (rowsOf x sz h).2.take 0 ++ rs.drop (i + 0) = rs := by simp
       have hupd : upd h o (some (.rows true g sz rs)) = h := by rw [← ho, upd_self]
       refine ⟨.int .i64 0, w, φ, ?_, ?_, ?_, ?_⟩
       ·rw [hrun0]; cases A <;> simp [storeCells, goInt]
       ·exact .v _
       ·simp only [applyW, hrs, hupd]; exact hH
       ·simp only [applyW, hrs, hupd]; exact .refl _ _ _ _
      ·rcases hA with ⟨rfl, rfl, rfl, rfl⟩ | ⟨rfl, rfl, hA⟩ | ⟨a, bs, hp, hsp, rfl, hcb⟩
       ·omega
       ·omega
       ·rw [hp] at hA0
        simp only [Option.some.injEq, Prod.mk.injEq, true_and] at hA0
        subst hA0
        rcases hobj with ⟨hobj, _⟩ | ⟨a₁, bs₁, e1, h0, hd⟩
        ·cases hobj
        simp only [Option.some.injEq, Prod.mk.injEq] at e1
        obtain ⟨rfl, rfl⟩ := e1
        obtain ⟨C, T, hb, hC, hr, hl, hv, hrel⟩ := hd.cells hsp
        have hmul := Nat.mul_le_mul_right sz (show i + m ≤ rs.length by omega)
        rw [Nat.add_mul] at hmul
        obtain ⟨w', hrun, hw'⟩ := run_storeCells (P := P) (a := ⟨a.block, a.off + i * sz, none⟩) (T := T) rfl (X.toList.take (m * sz)) 0 w C hb (by simp only [hXm]; omega) (fun u hu => r5 u (List.mem_of_mem_take hu))
        have hM : ∀ k, ¬ Or M0 (Mut φ h) k → k ≠ a.block := fun k hk e => hk (.inr ⟨o, g, sz, rs, g, a, bs, ho, hp, e.symm⟩)
        have hle0 : φ.le (upd φ o (some (g, some (a, bs)))) := by rw [← hp, upd_self]; exact φ.le_refl
        have hxt : ∀ r ∈ (rowsOf x sz h).2.take m, r.length = sz := fun r hr0 => r2 r (List.mem_of_mem_take hr0)
        have htl : ((rowsOf x sz h).2.take m).length = m := by simp; omega
        have hflat := flatten_splice hr hxt i (by rw [htl]; omega)
        rw [htl] at hflat
        have hnl : (rs.take i ++ (rowsOf x sz h).2.take m ++ rs.drop (i + m)).length = rs.length := by simp; omega
        have hxr : RelL φ w (Or M0 (Mut φ h)) ((rowsOf x sz h).2.take m).flatten (X.toList.take (m * sz)) := by
         rw [flatten_take r2]; exact r4.take _
        obtain ⟨g1, g2, g3⟩ := hH.set (w' := w') (F' := F) (o := o) (mt := true) (g := g) (sz := sz) (rs := rs.take i ++ (rowsOf x sz h).2.take m ++ rs.drop (i + m)) (A := some (a, bs))
         (fun _ h => h) hol (by rw [hw'.size]; exact Nat.le_refl _) hle0 (fun k hk _ => hw'.other k (hM k hk))
         (fun o' mt' g' sz' rs' a₁ b₁ hne ho' hp' => by
          have := hH.inj _ _ _ _ _ _ _ _ _ _ _ _ _ _ ho ho' (Ne.symm hne) (.inl rfl) hp hp'
          refine ⟨hw'.other _ (Ne.symm this), fun a₂ b₂ e => ?_⟩
          simp only [Option.some.injEq, Prod.mk.injEq] at e
          obtain ⟨rfl, rfl⟩ := e
          exact this)
         (fun a₁ b₁ e => by
          simp only [Option.some.injEq, Prod.mk.injEq] at e
          obtain ⟨rfl, rfl⟩ := e
          exact .inl (.inr ⟨o, g, sz, rs, g, a, bs, ho, hp, rfl⟩))
         (.inr ⟨a, bs, _, T, rfl, hsp, h0, hw'.at_, by simpa [← Array.length_toList, putL_length] using hC,
          fun r hm => by
           rcases List.mem_append.1 hm with hm | hm
           ·rcases List.mem_append.1 hm with hm | hm
            ·exact hr r (List.mem_of_mem_take hm)
            ·exact hxt r hm
           ·exact hr r (List.mem_of_mem_drop hm),
          by rw [hnl]; exact hl,
          fun c hm => by
           rw [hnl] at hm
           simp only [Nat.add_zero] at hm
           rw [putL_window _ _ _ _ _ (by rw [hXm]; omega)] at hm
           rcases putL_mem _ _ _ _ hm with h | h
           ·exact hv c h
           ·exact r5 c (List.mem_of_mem_take h),
          by
           rw [hnl]
           simp only [Nat.add_zero]
           rw [putL_window _ _ _ _ _ (by rw [hXm]; omega), hflat]
           exact RelL.setMany _ hrel hxr⟩)
        refine ⟨.int .i64 m, w', _, ?_, .v _, g1, ⟨hle0, g2, ⟨hw'.os, hw'.tape, hw'.output, hw'.drawn, by rw [hw'.size]; exact Nat.le_refl _, fun k _ hu => hw'.other k (fun e => hu ⟨o, g, sz, rs, g, a, bs, ho, hp, e.symm⟩)⟩, fun k hk => ?_⟩⟩
        ·rw [hrun0]
         simp only
         rw [hrun]
         simp [hint]
        ·rcases g3 k hk with h | ⟨a₁, b₁, e, rfl⟩
         ·exact .inl h
         ·simp only [Option.some.injEq, Prod.mk.injEq] at e
          obtain ⟨rfl, rfl⟩ := e
          exact .inl ⟨o, g, sz, rs, g, a, bs, ho, hp, rfl⟩
     ·exact hc.elim
    ·exact hc.elim
   ·exact hc.elim
  ·exact hc.elim
 ·exact hc.elim
theorem clear_good (hH : HRelF φ F w M0 h) {tys : Array TypeId} {ty : TypeId} {s : AV} {vs : Value} (hs : Rel φ w (Or M0 (Mut φ h)) s vs)
  (hc : (evClear P tys.toList s h).cond) : Good P φ F n w M0 h (evClear P tys.toList s h) (Builtin.clear_ tys ty #[vs]) := by
 unfold evClear at hc ⊢
 split at hc
 ·rename_i st rest htys
  have h0t : tys[0]? = some st := by rw [← Array.getElem?_toList, htys]; rfl
  split at hc
  ·rename_i e ht
   split at hc
   ·rename_i sz z hsz hz
    split at hc
    ·rename_i o g sz' i len
     split at hc
     ·rename_i mt g' sz'' rs ho
      obtain ⟨h2, hzl, rfl, rfl, rfl, rfl, h8, h9⟩ := hc
      simp only [ho]
      obtain ⟨u, hzv, hzc, hu1⟩ := run_zeroValue (P := P) (w := w) hz
      have hal : alive h o g sz := by simp [alive, ho]
      obtain ⟨A, cap, rfl, hcap, hA⟩ := hH.sl_alive hal hs
      obtain ⟨A0, hA0, hobj⟩ := hH.obj _ _ _ _ _ ho
      have hol : ¬ F o := fun hle => by rw [hH.fresh o hle] at hA0; cases hA0
      by_cases hm0 : len = 0
      ·subst hm0
       have hrs : rs.take i ++ List.replicate 0 z ++ rs.drop (i + 0) = rs := by simp
       have hupd : upd h o (some (.rows true g sz rs)) = h := by rw [← ho, upd_self]
       refine ⟨.tuple #[], w, φ, ?_, ?_, ?_, ?_⟩
       ·cases A <;> simp [Builtin.clear_, h0t, run_underlying (tk_sl ht)]
       ·exact .tup (vs := []) .nil
       ·simp only [applyW, hrs, hupd]; exact hH
       ·simp only [applyW, hrs, hupd]; exact .refl _ _ _ _
      ·rcases hA with ⟨rfl, rfl, rfl, rfl⟩ | ⟨rfl, rfl, hA⟩ | ⟨a, bs, hp, hsp, rfl, hcb⟩
       ·omega
       ·omega
       ·rw [hp] at hA0
        simp only [Option.some.injEq, Prod.mk.injEq, true_and] at hA0
        subst hA0
        rcases hobj with ⟨hobj, _⟩ | ⟨a₁, bs₁, e1, h0, hd⟩
        ·cases hobj
        simp only [Option.some.injEq, Prod.mk.injEq] at e1
        obtain ⟨rfl, rfl⟩ := e1
        obtain ⟨C, T, hb, hC, hr, hl, hv, hrel⟩ := hd.cells hsp
        have hus : u.cells.size = sz := by rw [← hzl, hzc]; simp
        obtain ⟨X, hX⟩ : ∃ X, X = (Builtin.zeroCells u.cells len).toList := ⟨_, rfl⟩
        have hXl : X = (List.replicate len u.cells.toList).flatten := by rw [hX, zeroCells_list _ _ (by omega)]
        have hXm : X.length = len * sz := by rw [hX]; simp [Builtin.zeroCells, hus]
        have hX1 : ∀ v ∈ X, cellV v = true := by
         rw [hXl]
         intro v hv'
         obtain ⟨l, hl', hv'⟩ := List.mem_flatten.1 hv'
         rw [List.eq_of_mem_replicate hl'] at hv'
         exact hu1 v hv'
        have hrun0 : (Builtin.clear_ tys ty #[.slice (some ⟨a.block, a.off + i * sz, none⟩) len cap]).run P w = ((storeCells ⟨a.block, a.off + i * sz, none⟩ X).run P w).andThen fun _ w' => .ok (.tuple #[]) w' := by
         obtain ⟨m, rfl⟩ : ∃ m, len = m + 1 := ⟨len - 1, by omega⟩
         rw [hX]
         simp [Builtin.clear_, h0t, run_underlying (tk_sl ht), hzv]
        have hmul := Nat.mul_le_mul_right sz (show i + len ≤ rs.length by omega)
        rw [Nat.add_mul] at hmul
        obtain ⟨w', hrun, hw'⟩ := run_storeCells (P := P) (a := ⟨a.block, a.off + i * sz, none⟩) (T := T) rfl X 0 w C hb (by simp only [hXm]; omega) hX1
        have hM : ∀ k, ¬ Or M0 (Mut φ h) k → k ≠ a.block := fun k hk e => hk (.inr ⟨o, g, sz, rs, g, a, bs, ho, hp, e.symm⟩)
        have hle0 : φ.le (upd φ o (some (g, some (a, bs)))) := by rw [← hp, upd_self]; exact φ.le_refl
        have hxt : ∀ r ∈ List.replicate len z, r.length = sz := fun r hr0 => by rw [List.eq_of_mem_replicate hr0, hzl]
        have htl : (List.replicate len z).length = len := by simp
        have hflat := flatten_splice hr hxt i (by rw [htl]; omega)
        rw [htl] at hflat
        have hnl : (rs.take i ++ List.replicate len z ++ rs.drop (i + len)).length = rs.length := by simp; omega
        have hxr : RelL φ w (Or M0 (Mut φ h)) (List.replicate len z).flatten X := by
         rw [hXl, hzc]
         exact rep_cells (zero_cells (φ := φ) (w := w) (M := Or M0 (Mut φ h)) u.cells.toList) len
        obtain ⟨g1, g2, g3⟩ := hH.set (w' := w') (F' := F) (o := o) (mt := true) (g := g) (sz := sz) (rs := rs.take i ++ List.replicate len z ++ rs.drop (i + len)) (A := some (a, bs))
         (fun _ h => h) hol (by rw [hw'.size]; exact Nat.le_refl _) hle0 (fun k hk _ => hw'.other k (hM k hk))
         (fun o' mt' g' sz' rs' a₁ b₁ hne ho' hp' => by
          have := hH.inj _ _ _ _ _ _ _ _ _ _ _ _ _ _ ho ho' (Ne.symm hne) (.inl rfl) hp hp'
          refine ⟨hw'.other _ (Ne.symm this), fun a₂ b₂ e => ?_⟩
          simp only [Option.some.injEq, Prod.mk.injEq] at e
          obtain ⟨rfl, rfl⟩ := e
          exact this)
         (fun a₁ b₁ e => by
          simp only [Option.some.injEq, Prod.mk.injEq] at e
          obtain ⟨rfl, rfl⟩ := e
          exact .inl (.inr ⟨o, g, sz, rs, g, a, bs, ho, hp, rfl⟩))
         (.inr ⟨a, bs, _, T, rfl, hsp, h0, hw'.at_, by simpa [← Array.length_toList, putL_length] using hC,
          fun r hm => by
           rcases List.mem_append.1 hm with hm | hm
           ·rcases List.mem_append.1 hm with hm | hm
            ·exact hr r (List.mem_of_mem_take hm)
            ·exact hxt r hm
           ·exact hr r (List.mem_of_mem_drop hm),
          by rw [hnl]; exact hl,
          fun c hm => by
           rw [hnl] at hm
           simp only [Nat.add_zero] at hm
           rw [putL_window _ _ _ _ _ (by rw [hXm]; omega)] at hm
           rcases putL_mem _ _ _ _ hm with h | h
           ·exact hv c h
           ·exact hX1 c h,
          by
           rw [hnl]
           simp only [Nat.add_zero]
           rw [putL_window _ _ _ _ _ (by rw [hXm]; omega), hflat]
           exact RelL.setMany _ hrel hxr⟩)
        refine ⟨.tuple #[], w', _, ?_, .tup (vs := []) .nil, g1, ⟨hle0, g2, ⟨hw'.os, hw'.tape, hw'.output, hw'.drawn, by rw [hw'.size]; exact Nat.le_refl _, fun k _ hu => hw'.other k (fun e => hu ⟨o, g, sz, rs, g, a, bs, ho, hp, e.symm⟩)⟩, fun k hk => ?_⟩⟩
        ·rw [hrun0, hrun]
         simp
        ·rcases g3 k hk with h | ⟨a₁, b₁, e, rfl⟩
         ·exact .inl h
         ·simp only [Option.some.injEq, Prod.mk.injEq] at e
          obtain ⟨rfl, rfl⟩ := e
          exact .inl ⟨o, g, sz, rs, g, a, bs, ho, hp, rfl⟩
     ·exact hc.elim
    ·cases hs
     refine ⟨.tuple #[], w, φ, ?_, .tup (vs := []) .nil, hH, .refl _ _ _ _⟩
     simp [Builtin.clear_, h0t, run_underlying (tk_sl ht)]
    ·exact hc.elim
   ·exact hc.elim
  ·exact hc.elim
 ·exact hc.elim
theorem HRelF.sub (hH : HRelF φ F w M0 h) {F' : Nat → Prop} (hs : ∀ o, F' o → F o) : HRelF φ F' w M0 h := ⟨hH.m0, fun o ho => hH.fresh o (hs o ho), hH.obj, hH.inj, hH.glob⟩
theorem Fal_le {n : Nat} (k : Nat) (hH : HRelF φ (Fal (fun o => n ≤ o) n k) w M0 h) : HRel φ (n + k) w M0 h := by
 cases k with
 | zero => exact hH
 | succ k => exact hH.sub fun o ho => ⟨by omega, by omega⟩
end
end Go.Av
end
section
set_option linter.unusedSimpArgs false
set_option linter.unusedVariables false
namespace Go.Av
open Go
section maps
variable {P : Program} {φ : Place} {F : Nat → Prop} {w : World} {M0 : Nat → Prop} {h : Heap} {n : Nat}
theorem tk_map {t k e : TypeId} (h : tk P t = .map k e) : P.underlying t = some (.map k e) := by
  unfold tk at h; split at h <;> simp_all
theorem keyK_desc {t : TypeId} (h : keyK (tk P t) = true) : ∃ d, P.underlying t = some d ∧ ((d = .string ∧ tk P t = .string) ∨ (d = .bool ∧ tk P t = .bool) ∨ ∃ k, d = .int k ∧ tk P t = .int k) := by
  unfold tk at *
  split at h <;> simp_all [keyK]
theorem run_checkKey {t : TypeId} (h : keyK (tk P t) = true) (e : Bool) (v : Value) : (Instr.checkKey e 10000 t v).run P w = .ok () w := by
  obtain ⟨d, hd, hk⟩ := keyK_desc h
  unfold Instr.checkKey
  simp only [Sem.run_bind, run_underlying hd, Result.andThen]
  rcases hk with ⟨rfl, _⟩ | ⟨rfl, _⟩ | ⟨k, rfl, _⟩ <;> rfl
theorem bytes_eq {a b : ByteArray} (h : (a == b) = true) : a = b := by
  have h' : (a.data == b.data) = true := h
  exact ByteArray.ext (by simpa using h')
theorem bytes_self (a : ByteArray) : (a == a) = true := by
  show (a.data == a.data) = true
  simp
theorem bytes_beq (a b : ByteArray) : (a == b) = decide (a = b) := by
  by_cases h : a = b
  · subst h; rw [bytes_self]; simp
  · rw [decide_eq_false h]
    cases e : a == b with
    | false => rfl
    | true => exact absurd (bytes_eq e) h
theorem keyEq_run {t : TypeId} {d : TypeDesc} (hd : (d = .string ∧ tk P t = .string) ∨ (d = .bool ∧ tk P t = .bool) ∨ ∃ k, d = .int k ∧ tk P t = .int k) {φ' : Place} {M M' : Nat → Prop} {w' : World} {a b : AV} {u v : Value} (ha : Rel φ w M a u) (hb : Rel φ' w' M' b v) {r : Bool}
    (h : keyEq (tk P t) a b = some r) : Instr.sameNow d u v = some r ∧ (r = true → Instr.sameBits 10000 v u = true) := by
  rcases hd with ⟨rfl, ht⟩ | ⟨rfl, ht⟩ | ⟨k, rfl, ht⟩ <;> rw [ht] at h <;> unfold keyEq at h <;> split at h <;> simp_all
  · cases ha; cases hb
    rename_i a b _
    refine ⟨by simp [Instr.sameNow, h], fun e => ?_⟩
    rw [e] at h
    rw [bytes_eq h]
    simp [Instr.sameBits, bytes_self]
  · cases ha; cases hb
    rename_i a b _
    subst h
    refine ⟨by simp [Instr.sameNow], fun e => ?_⟩
    simp at e
    subst e
    simp [Instr.sameBits]
  · cases ha; cases hb
    obtain ⟨rfl, h⟩ := h
    subst h
    refine ⟨by simp [Instr.sameNow], fun e => ?_⟩
    simp at e
    subst e
    simp [Instr.sameBits]
def Entries (φ : Place) (w : World) (M : Nat → Prop) (rs : List (List AV)) (es : List MapEntry) : Prop := RelL φ w M rs.flatten (es.flatMap fun e => [e.key, e.val])
theorem Entries.nil_inv {M : Nat → Prop} {es : List MapEntry} (h : Entries φ w M [] es) : es = [] := by
  cases es with
  | nil => rfl
  | cons e es => exact absurd h (by unfold Entries; intro h; simp at h; cases h)
theorem Entries.cons_inv {M : Nat → Prop} {r : List AV} {rs : List (List AV)} {es : List MapEntry} (hr : r.length = 2) (h : Entries φ w M (r :: rs) es) : ∃ e es' k x, es = e :: es' ∧ r = [k, x] ∧ Rel φ w M k e.key ∧ Rel φ w M x e.val ∧ Entries φ w M rs es' := by
  match r, hr with
  | [k, x], _ =>
    cases es with
    | nil => unfold Entries at h; simp at h; cases h
    | cons e es =>
      unfold Entries at h
      simp only [List.flatten_cons, List.flatMap_cons, List.cons_append, List.nil_append] at h
      cases h with
      | cons h1 h => cases h with
        | cons h2 h => exact ⟨e, es, k, x, rfl, rfl, h1, h2, h⟩
theorem Entries.cons {M : Nat → Prop} {k x : AV} {rs : List (List AV)} {e : MapEntry} {es : List MapEntry} (h1 : Rel φ w M k e.key) (h2 : Rel φ w M x e.val) (h : Entries φ w M rs es) : Entries φ w M ([k, x] :: rs) (e :: es) := by
  unfold Entries
  simp only [List.flatten_cons, List.flatMap_cons, List.cons_append, List.nil_append]
  exact .cons h1 (.cons h2 h)
theorem mapFind_run {t : TypeId} {d : TypeDesc} (hd : (d = .string ∧ tk P t = .string) ∨ (d = .bool ∧ tk P t = .bool) ∨ ∃ k, d = .int k ∧ tk P t = .int k) {M : Nat → Prop} {k : AV} {v : Value} (hk : Rel φ w M k v) :
    ∀ (rs : List (List AV)) (es : List MapEntry) (i : Nat), (∀ r ∈ rs, r.length = 2) → Entries φ w M rs es → ∀ o, mapFind (tk P t) k rs = some o →
      ∃ r, Instr.findNow d v es i = some r ∧ ((o = none ∧ r = none) ∨ ∃ x j u, o = some x ∧ r = some (j, u) ∧ Rel φ w M x u)
  | [], es, i, _, he, o, h => by
    obtain rfl := he.nil_inv
    simp only [mapFind, Option.some.injEq] at h
    exact ⟨none, rfl, .inl ⟨h.symm, rfl⟩⟩
  | r :: rs, es, i, hl, he, o, h => by
    obtain ⟨e, es', k', x, rfl, rfl, h1, h2, h3⟩ := he.cons_inv (hl _ (by simp))
    rw [mapFind] at h
    split at h
    · rename_i hq
      obtain ⟨q1, _⟩ := keyEq_run hd hk h1 (by simpa [cel] using hq)
      simp only [Option.some.injEq] at h
      exact ⟨some (i, e.val), by simp [Instr.findNow, q1], .inr ⟨x, i, e.val, by rw [← h]; rfl, rfl, h2⟩⟩
    · rename_i hq
      obtain ⟨q1, _⟩ := keyEq_run hd hk h1 (by simpa [cel] using hq)
      obtain ⟨r, g1, g2⟩ := mapFind_run hd hk rs es' (i + 1) (fun r hr => hl r (by simp [hr])) h3 o h
      exact ⟨r, by simp [Instr.findNow, q1, g1], g2⟩
    · cases h
theorem mapPut_run {t : TypeId} {d : TypeDesc} (hd : (d = .string ∧ tk P t = .string) ∨ (d = .bool ∧ tk P t = .bool) ∨ ∃ k, d = .int k ∧ tk P t = .int k) {M : Nat → Prop} {k x : AV} {v u : Value} (hk : Rel φ w M k v) (hx : Rel φ w M x u) :
    ∀ (rs : List (List AV)) (es : List MapEntry) (i : Nat), (∀ r ∈ rs, r.length = 2) → Entries φ w M rs es → ∀ rs', mapPut (tk P t) k x rs = some rs' →
      (∀ r ∈ rs', r.length = 2) ∧
      ((Instr.findNow d v es i = some none ∧ rs'.length = rs.length + 1 ∧ ∀ b, Entries φ w M rs' (es ++ [{ key := v, val := u, born := b }])) ∨
       ∃ j a b e, es = a ++ e :: b ∧ a.length = j ∧ Instr.findNow d v es i = some (some (i + j, e.val)) ∧ Instr.sameBits 10000 e.key v = true ∧ rs'.length = rs.length ∧ Entries φ w M rs' (a ++ { e with key := v, val := u } :: b))
  | [], es, i, _, he, rs', h => by
    obtain rfl := he.nil_inv
    simp only [mapPut, Option.some.injEq] at h
    subst h
    exact ⟨by simp, .inl ⟨rfl, rfl, fun b => Entries.cons hk hx (by unfold Entries; exact .nil)⟩⟩
  | r :: rs, es, i, hl, he, rs', h => by
    obtain ⟨e, es', k', x', rfl, rfl, h1, h2, h3⟩ := he.cons_inv (hl _ (by simp))
    have hl' : ∀ r ∈ rs, r.length = 2 := fun r hr => hl r (by simp [hr])
    rw [mapPut] at h
    split at h
    · rename_i hq
      obtain ⟨q1, q2⟩ := keyEq_run hd hk h1 (by simpa [cel] using hq)
      simp only [Option.some.injEq] at h
      subst h
      refine ⟨fun r hr => ?_, .inr ⟨0, [], es', e, rfl, rfl, by simp [Instr.findNow, q1], q2 rfl, rfl, Entries.cons hk hx h3⟩⟩
      rcases List.mem_cons.1 hr with rfl | hr
      · rfl
      · exact hl' r hr
    · rename_i hq
      obtain ⟨q1, _⟩ := keyEq_run hd hk h1 (by simpa [cel] using hq)
      rw [Option.map_eq_some_iff] at h
      obtain ⟨rs1, hr1, rfl⟩ := h
      obtain ⟨g0, g⟩ := mapPut_run hd hk hx rs es' (i + 1) hl' h3 rs1 hr1
      refine ⟨fun r hr => ?_, ?_⟩
      · rcases List.mem_cons.1 hr with rfl | hr
        · rfl
        · exact g0 r hr
      · rcases g with ⟨g1, g2, g3⟩ | ⟨j, a, b, e2, g1, g2, g3, g4, g5, g6⟩
        · exact .inl ⟨by simp [Instr.findNow, q1, g1], by simp [g2], fun b => Entries.cons h1 h2 (g3 b)⟩
        · refine .inr ⟨j + 1, e :: a, b, e2, by rw [g1]; rfl, by simp [g2], ?_, g4, by simp [g5], Entries.cons h1 h2 g6⟩
          simp only [Instr.findNow, q1, g3]
          congr 3; omega
    · cases h
theorem HRelF.mp_at (hH : HRelF φ F w M0 h) {o sz : Nat} {mt : Bool} {rs : List (List AV)} (ho : h o = some (.rows mt 0 sz rs)) {M : Nat → Prop} {v : Value} (hx : Rel φ w M (.mp o) v) :
    ∃ a bs es clk, φ o = some (0, some (a, bs)) ∧ a.spot ≠ none ∧ ¬ M0 a.block ∧ v = .map (some a.block) ∧ w.heap[a.block]? = some (.map es clk) ∧ es.size = rs.length ∧ (sz = 2 ∧ ∀ r ∈ rs, r.length = 2) ∧ Entries φ w (Or M0 (Mut φ h)) rs es.toList := by
  obtain ⟨A, hA, h1⟩ := hH.obj _ _ _ _ _ ho
  cases hx with
  | mp hp hh =>
    rw [hA] at hp
    simp only [Option.some.injEq, Prod.mk.injEq] at hp
    obtain ⟨rfl, rfl⟩ := hp
    obtain ⟨a, bs, rfl, hs, rfl⟩ := hh rfl
    rcases h1 with ⟨h1, _⟩ | ⟨a', bs', e, h0, hd⟩
    · cases h1
    simp only [Option.some.injEq, Prod.mk.injEq] at e
    obtain ⟨rfl, rfl⟩ := e
    obtain ⟨es, clk, g1, g2, g3, g4⟩ := hd.map hs
    exact ⟨a, bs, es, clk, hA, hs, h0, rfl, g1, g2, ⟨g3.1, by rw [← g3.1]; exact g3.2⟩, g4⟩
theorem makeMap_good (hH : HRelF φ F w M0 h) (hn : F n) {t : TypeId} {r : Option Operand} {vr : Option Value} (hr : r = none → vr = none) (hc : (evMakeMap P n t r).cond) : Good P φ F n w M0 h (evMakeMap P n t r) (Instr.makeMap t vr) := by
  unfold evMakeMap at hc ⊢
  split at hc
  · obtain rfl := hr rfl
    obtain ⟨a, b⟩ := hH.newMap hn
    exact ⟨.map (some w.heap.size), _, _, by simp [Instr.makeMap], .mp (upd_same _ _ _) (fun _ => ⟨_, _, rfl, by simp, rfl⟩), a, b⟩
  · exact hc.elim
theorem run_tz1 {t : TypeId} {z : Value} (h : tz1 P t = some z) : (zeroValue t).run P w = .ok z w := by
  unfold tz1 at h
  cases hu : P.info? t with
  | none => simp [hu] at h
  | some d =>
    simp only [hu, Option.bind_some] at h
    cases hz : d.zero with
    | none => simp [hz] at h
    | some u =>
      have hzu : u = z := by
        simp only [hz, Option.bind_some] at h
        cases u <;> simp at h <;> exact h
      subst hzu
      simp [zeroValue, typeInfo, hu, hz]
theorem lookup_reads (hH : HRelF φ F w M0 h) {t : TypeId} {m k : AV} {ok : Bool} {v u : Value} (hm : Rel φ w (Or M0 (Mut φ h)) m v) (hk : Rel φ w (Or M0 (Mut φ h)) k u) (hc : (evLookup P t m k ok h).cond) :
    Reads P φ w (Or M0 (Mut φ h)) (evLookup P t m k ok h) (Instr.lookup t v u ok) := by
  unfold evLookup at hc ⊢
  split at hc
  · rename_i kt et o ht
    split at hc
    · rename_i mt rs ho
      obtain ⟨a, bs, es, clk, hp, hs, h0, rfl, hb, hl, ⟨_, h2⟩, he⟩ := hH.mp_at ho hm
      have key : ∀ r, mapFind (tk P kt) k rs = some r → keyK (tk P kt) = true → ∃ rr, (Instr.findKey kt u es.toList).run P w = .ok rr w ∧ ((r = none ∧ rr = none) ∨ ∃ x j z, r = some x ∧ rr = some (j, z) ∧ Rel φ w (Or M0 (Mut φ h)) x z) := by
        intro r hr hkk
        obtain ⟨d, hd, hdd⟩ := keyK_desc hkk
        obtain ⟨rr, g1, g2⟩ := mapFind_run hdd hk rs es.toList 0 h2 he r hr
        refine ⟨rr, ?_, g2⟩
        simp [Instr.findKey, run_underlying hd, g1]
      split at hc
      · rename_i _ _ x hx
        obtain ⟨rr, g1, g2⟩ := key _ hx hc
        rcases g2 with ⟨h, _⟩ | ⟨x', j, z, e1, rfl, g2⟩
        · cases h
        cases e1
        cases ok with
        | true => exact ⟨.tuple ⟨[z, .bool true]⟩, by simp [Instr.lookup, run_underlying (tk_map ht), MapKept.run_getObj_map hb, run_checkKey hc, g1, Result.andThen], .tup (.cons g2 (.cons (.v _) .nil)), rfl, rfl⟩
        | false => exact ⟨z, by simp [Instr.lookup, run_underlying (tk_map ht), MapKept.run_getObj_map hb, run_checkKey hc, g1, Result.andThen], g2, rfl, rfl⟩
      · rename_i _ _ z hx hz
        obtain ⟨rr, g1, g2⟩ := key _ hx hc
        rcases g2 with ⟨_, rfl⟩ | ⟨x', j, z, e1, rfl, g2⟩
        · cases ok with
          | true => exact ⟨.tuple ⟨[z, .bool false]⟩, by simp [Instr.lookup, run_underlying (tk_map ht), MapKept.run_getObj_map hb, run_checkKey hc, g1, run_tz1 hz, Result.andThen], .tup (.cons (.v _) (.cons (.v _) .nil)), rfl, rfl⟩
          | false => exact ⟨z, by simp [Instr.lookup, run_underlying (tk_map ht), MapKept.run_getObj_map hb, run_checkKey hc, g1, run_tz1 hz, Result.andThen], .v _, rfl, rfl⟩
        · cases e1
      · exact hc.elim
    · exact hc.elim
  · exact hc.elim
theorem mapSet_good (hH : HRelF φ F w M0 h) {o : Nat} {rs rs' : List (List AV)} (ho : h o = some (.rows true 0 2 rs)) {a : Addr} {bs : Nat} (hp : φ o = some (0, some (a, bs))) (hs : a.spot ≠ none) (h0 : ¬ M0 a.block)
    {es : Array MapEntry} {clk : Nat} (hb : w.heap[a.block]? = some (.map es clk)) {es' : Array MapEntry} {clk' : Nat} (hl : es'.size = rs'.length) (h2 : ∀ r ∈ rs', r.length = 2) (he : Entries φ w (Or M0 (Mut φ h)) rs' es'.toList) :
    ∃ φ', HRelF φ' F { w with heap := w.heap.setIfInBounds a.block (.map es' clk') } M0 (upd h o (some (.rows true 0 2 rs'))) ∧
      Step φ w M0 h φ' { w with heap := w.heap.setIfInBounds a.block (.map es' clk') } (upd h o (some (.rows true 0 2 rs'))) := by
  obtain ⟨q1, q2⟩ := MapKept.heap_set (o' := .map es' clk') hb
  have hM : ∀ k, ¬ Or M0 (Mut φ h) k → k ≠ a.block := fun k hk e => hk (.inr ⟨o, 0, 2, rs, 0, a, bs, ho, hp, e.symm⟩)
  have hle0 : φ.le (upd φ o (some (0, some (a, bs)))) := by rw [← hp, upd_self]; exact φ.le_refl
  have hsz : (w.heap.setIfInBounds a.block (.map es' clk')).size = w.heap.size := by simp
  obtain ⟨g1, g2, g3⟩ := hH.set (w' := { w with heap := w.heap.setIfInBounds a.block (.map es' clk') }) (F' := F) (o := o) (mt := true) (g := 0) (sz := 2) (rs := rs') (A := some (a, bs))
    (fun _ h => h) (hH.place_old ho hp).2 (by simp) hle0 (fun k hk _ => q2 k (hM k hk))
    (fun o' mt' g' sz' rs1 a₁ b₁ hne ho' hp' => by
      have := hH.inj _ _ _ _ _ _ _ _ _ _ _ _ _ _ ho ho' (Ne.symm hne) (.inl rfl) hp hp'
      refine ⟨q2 _ (Ne.symm this), fun a₂ b₂ e => ?_⟩
      simp only [Option.some.injEq, Prod.mk.injEq] at e
      obtain ⟨rfl, rfl⟩ := e
      exact this)
    (fun a₁ b₁ e => by
      simp only [Option.some.injEq, Prod.mk.injEq] at e
      obtain ⟨rfl, rfl⟩ := e
      exact .inl (.inr ⟨o, 0, 2, rs, 0, a, bs, ho, hp, rfl⟩))
    (.inl (.inr ⟨a, bs, es', clk', rfl, hs, h0, q1, hl, ⟨rfl, h2⟩, he⟩))
  refine ⟨_, g1, hle0, g2, ⟨rfl, rfl, rfl, Nat.le_refl _, by simp, fun k _ hu => q2 k (fun e => hu ⟨o, 0, 2, rs, 0, a, bs, ho, hp, e.symm⟩)⟩, fun k hk => ?_⟩
  rcases g3 k hk with h | ⟨a₁, b₁, e, rfl⟩
  · exact .inl h
  · simp only [Option.some.injEq, Prod.mk.injEq] at e
    obtain ⟨rfl, rfl⟩ := e
    exact .inl ⟨o, 0, 2, rs, 0, a, bs, ho, hp, rfl⟩
theorem modify_mid {α : Type} (f : α → α) (e : α) (l2 : List α) : ∀ l1 : List α, (l1 ++ e :: l2).modify l1.length f = l1 ++ f e :: l2
  | [] => rfl
  | a :: l1 => by simp [modify_mid f e l2 l1]
theorem mapUpd_good (hH : HRelF φ F w M0 h) {t : TypeId} {m k x : AV} {v u z : Value} (hm : Rel φ w (Or M0 (Mut φ h)) m v) (hk : Rel φ w (Or M0 (Mut φ h)) k u) (hx : Rel φ w (Or M0 (Mut φ h)) x z)
    (hc : (evMapUpd P t m k x h).cond) : ∃ w' φ', (Instr.mapUpdate t v u z).run P w = .ok () w' ∧ HRelF φ' F w' M0 (applyW (evMapUpd P t m k x h).wr h) ∧
      Step φ w M0 h φ' w' (applyW (evMapUpd P t m k x h).wr h) ∧ (evMapUpd P t m k x h).val = .top := by
  unfold evMapUpd at hc ⊢
  split at hc
  · rename_i kt et o ht
    split at hc
    · rename_i rs ho
      obtain ⟨a, bs, es, clk, hp, hs, h0, rfl, hb, hl, ⟨_, h2⟩, he⟩ := hH.mp_at ho hm
      split at hc
      · rename_i rs' hput
        obtain ⟨d, hd, hdd⟩ := keyK_desc hc
        simp only [ho, hput]
        obtain ⟨i1, i2⟩ := mapPut_run hdd hk hx rs es.toList 0 h2 he rs' hput
        rcases i2 with ⟨j1, j2, j3⟩ | ⟨j, l1, l2, e, j1, j2, j3, j4, j5, j6⟩
        · obtain ⟨φ', g1, g2⟩ := mapSet_good (clk' := clk + 1) hH ho hp hs h0 hb (es' := es.push { key := u, val := z, born := clk }) (by simp [hl, j2]) i1 (by simpa using j3 clk)
          exact ⟨_, φ', by simp [Instr.mapUpdate, run_underlying (tk_map ht), MapKept.run_getObj_map hb, run_checkKey hc, MapKept.run_findKey hd j1, MapKept.run_setObj_map _ hb, Result.andThen], g1, g2, trivial⟩
        · have hj : es[j]? = some e := by rw [← Array.getElem?_toList, j1, ← j2]; simp
          have hmod : (es.modify j fun e => { e with key := u, val := z }).toList = l1 ++ { e with key := u, val := z } :: l2 := by
            rw [Array.toList_modify, j1, ← j2, modify_mid]
          obtain ⟨φ', g1, g2⟩ := mapSet_good (clk' := clk) hH ho hp hs h0 hb (es' := es.modify j fun e => { e with key := u, val := z }) (by simp [hl, j5]) i1 (by rw [hmod]; exact j6)
          refine ⟨_, φ', ?_, g1, g2, trivial⟩
          rw [Nat.zero_add] at j3
          simp [Instr.mapUpdate, run_underlying (tk_map ht), MapKept.run_getObj_map hb, run_checkKey hc, MapKept.run_findKey hd j3, hj, Instr.keyThatStays, j4, MapKept.run_setObj_map _ hb, Result.andThen]
      · exact hc.elim
    · exact hc.elim
  · exact hc.elim
theorem evMapUpd_al {t : TypeId} {m k x : AV} : (evMapUpd P t m k x h).al = 0 := by
  unfold evMapUpd
  split
  · split
    · split <;> rfl
    · rfl
  · rfl
end maps
end Go.Av
end
