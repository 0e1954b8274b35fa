/- Our library, part 5: the abstract operations are sound: reading ones. -/
import Derived.Test.YtmmboiafelbgbaaAv4
set_option linter.unusedSimpArgs false
set_option linter.unusedVariables false
namespace Go.Av
open Go

/-! ### types -/
section types
variable {P : Program} {w : World} {t : TypeId}
theorem run_underlying {d : TypeDesc} (h : P.underlying t = some d) : (underlying t).run P w = .ok d w := by simp [underlying, h]
theorem run_isAgg {b : Bool} (h : tagg P t = some b) : (isAgg t).run P w = .ok b w := by
  unfold tagg at h
  cases hu : P.underlying t with
  | none => simp [hu] at h
  | some d =>
    simp only [hu, Option.map_some, Option.some.injEq] at h
    unfold isAgg
    simp only [Sem.run_bind, run_underlying hu, Result.andThen_ok]
    subst h
    cases d <;> simp
theorem run_sizeOf {s : Nat} (h : tsz P t = some s) : (sizeOf t).run P w = .ok s w := by
  unfold tsz at h
  cases hu : P.info? t with
  | none => simp [hu] at h
  | some d => simp only [hu, Option.map_some, Option.some.injEq] at h; simp [sizeOf, typeInfo, hu, h]
theorem run_zeroValue {z : List AV} (h : tz P t = some z) : ∃ u, (zeroValue t).run P w = .ok u w ∧ z = u.cells.toList.map .v ∧ ∀ c ∈ u.cells.toList, cellV c = true := by
  unfold tz at h
  cases hu : P.info? t with
  | none => simp [hu] at h
  | some d =>
    simp only [hu, Option.bind_some] at h
    cases hz : d.zero with
    | none => simp [hz] at h
    | some u =>
      simp only [hz, Option.bind_some] at h
      split at h
      · rename_i hall
        simp only [Option.some.injEq] at h
        exact ⟨u, by simp [zeroValue, typeInfo, hu, hz], h.symm, fun c hc => List.all_eq_true.1 hall c hc⟩
      · cases h
theorem tk_sl {e : TypeId} (h : tk P t = .sl e) : P.underlying t = some (.slice e) := by
  unfold tk at h; split at h <;> simp_all
theorem tk_arr {n : Nat} {e : TypeId} (h : tk P t = .arr n e) : P.underlying t = some (.array n e) := by
  unfold tk at h; split at h <;> simp_all
theorem tk_int {k : IntKind} (h : tk P t = .int k) : P.underlying t = some (.int k) := by
  unfold tk at h; split at h <;> simp_all
theorem tk_string (h : tk P t = .string) : P.underlying t = some .string := by
  unfold tk at h; split at h <;> simp_all
theorem tk_str (h : tk P t = .str) : ∃ fs, P.underlying t = some (.struct fs) := by
  unfold tk at h; split at h <;> simp_all
variable {a : Addr} {C : Array Value} {T : TypeId} {fz : Nat × Nat}
theorem run_loadVar_agg {s : Nat} (h : tagg P t = some true) (h' : tsz P t = some s) (hs : a.spot = none) (hb : w.heap[a.block]? = some (.cells C T fz)) (hc : a.off + s ≤ C.size) :
    (loadVar t a).run P w = .ok (.agg ⟨(C.toList.drop a.off).take s⟩) w := by
  simp [loadVar, run_isAgg h, run_sizeOf h', run_loadCells hs hb s hc]
theorem run_loadVar_one (h : tagg P t = some false) (hs : a.spot = none) (hb : w.heap[a.block]? = some (.cells C T fz)) (hc : a.off < C.size) :
    (loadVar t a).run P w = .ok C[a.off] w := by
  unfold loadVar
  simp only [Sem.run_bind, run_isAgg h, Result.andThen_ok, Bool.false_eq_true, if_false]
  exact run_load_at hs hb hc
end types

section reads
variable {P : Program} {φ : Place} {F : Nat → Prop} {w : World} {M0 : Nat → Prop} {h : Heap}

/-- an object that is alive, in memory -/
theorem HRelF.at_row (hH : HRelF φ F w M0 h) {o g sz i : Nat} {mt : Bool} {rs : List (List AV)} (ho : h o = some (.rows mt g sz rs)) (hi : i < rs.length) :
    ∃ a bs C T, φ o = some (g, some (a, bs)) ∧ a.spot = none ∧ ¬ M0 a.block ∧ w.heap[a.block]? = some (.cells C T (0, 0)) ∧ C.size = bs ∧ (∀ r ∈ rs, r.length = sz) ∧
      a.off + rs.length * sz ≤ bs ∧ i * sz + sz ≤ rs.length * sz ∧
      RelL φ w (Or M0 (Mut φ h)) rs[i] ((C.toList.drop (a.off + i * sz)).take sz) ∧ (∀ u ∈ (C.toList.drop (a.off + i * sz)).take sz, cellV u = true) := by
  obtain ⟨A, hA, h1⟩ := hH.obj _ _ _ _ _ ho
  rcases h1 with ⟨_, h1⟩ | ⟨a, bs, C, T, hA', hs, h0, hb, hC, hr, hl, hv, hrel⟩
  · subst h1; simp at hi
  · subst hA'
    have hle : i * sz + sz ≤ rs.length * sz := by
      have := Nat.mul_le_mul_right sz (show i + 1 ≤ rs.length from hi)
      rw [Nat.add_mul] at this; omega
    have e : ((C.toList.drop (a.off + i * sz)).take sz) = (((C.toList.drop a.off).take (rs.length * sz)).drop (i * sz)).take sz := by
      rw [List.drop_take, List.drop_drop, List.take_take]
      congr 1
      omega
    refine ⟨a, bs, C, T, hA, hs, h0, hb, hC, hr, hl, hle, ?_, ?_⟩
    · rw [e, flatten_drop_take hr i hi]
      exact (hrel.drop _).take _
    · intro u hu
      rw [e] at hu
      exact hv u (List.mem_of_mem_drop (List.mem_of_mem_take hu))
theorem ref_at {x : Value} {o g sz i off : Nat} {M : Nat → Prop} (hx : Rel φ w M (.ref o g sz i off) x) {a : Addr} {bs : Nat} (hp : φ o = some (g, some (a, bs))) :
    x = .pointer (some ⟨a.block, a.off + i * sz + off, none⟩) := by
  cases hx with
  | ref ho hg hh =>
    rw [hp] at ho
    simp only [Option.some.injEq, Prod.mk.injEq] at ho
    obtain ⟨rfl, rfl⟩ := ho
    obtain ⟨a', bs', e, hv⟩ := hh rfl
    simp only [Option.some.injEq, Prod.mk.injEq] at e
    obtain ⟨rfl, rfl⟩ := e
    exact hv

/-- what a reading operation owes -/
def Reads (P : Program) (φ : Place) (w : World) (M : Nat → Prop) (r : Res) (s : Sem Value) : Prop :=
  ∃ u, s.run P w = .ok u w ∧ Rel φ w M r.val u ∧ r.wr = [] ∧ r.al = 0

theorem load_reads (hH : HRelF φ F w M0 h) {t : TypeId} {x : AV} {v : Value} (hx : Rel φ w (Or M0 (Mut φ h)) x v) (hc : (evLoad P t x h).cond) :
    Reads P φ w (Or M0 (Mut φ h)) (evLoad P t x h) (Instr.loadAt t v) := by
  unfold evLoad at hc ⊢
  split at hc
  · rename_i o g sz i off
    split at hc
    · rename_i mt g' sz' rs ho
      by_cases hgs : g = g' ∧ sz = sz'
      · simp only [hgs, and_self, if_true] at hc
        obtain ⟨rfl, rfl⟩ := hgs
        simp only [ho, and_self, if_true]
        obtain ⟨hi, hc⟩ := hc
        obtain ⟨a, bs, C, T, hp, hs, _, hb, hC, hr, hl, hle, hrow, hcv⟩ := hH.at_row ho hi
        obtain rfl := ref_at hx hp
        have e0 : nth rs i = rs[i] := by simp [nth, hi]
        rw [e0] at hc ⊢
        have hlen : rs[i].length = sz := hr _ (List.getElem_mem _)
        have hlen' : ((C.toList.drop (a.off + i * sz)).take sz).length = sz := by rw [← hrow.length, hlen]
        unfold ldRow at hc ⊢
        split at hc
        · rename_i s ha hz
          try simp only [ha, hz] at hc
          try simp only [ha, hz]
          by_cases hw : off = 0 ∧ s = sz
          · simp only [hw, and_self, if_true]
            obtain ⟨rfl, rfl⟩ := hw
            refine ⟨.agg ⟨(C.toList.drop (a.off + i * s)).take s⟩, ?_, .agg hcv hrow, rfl, rfl⟩
            simp only [Instr.loadAt, Instr.sureAddr, Sem.run_bind, Sem.run_pure, Result.andThen_ok]
            exact run_loadVar_agg (a := ⟨a.block, a.off + i * s + 0, none⟩) ha hz rfl hb (by simp; omega)
          · simp only [hw, if_false] at hc ⊢
            refine ⟨.agg ⟨(C.toList.drop (a.off + i * sz + off)).take s⟩, ?_, ?_, rfl, rfl⟩
            · simp only [Instr.loadAt, Instr.sureAddr, Sem.run_bind, Sem.run_pure, Result.andThen_ok]
              exact run_loadVar_agg (a := ⟨a.block, a.off + i * sz + off, none⟩) ha hz rfl hb (by simp; omega)
            · have e : (C.toList.drop (a.off + i * sz + off)).take s = (((C.toList.drop (a.off + i * sz)).take sz).drop off).take s := by
                rw [List.drop_take, List.drop_drop, List.take_take]; congr 1; omega
              refine .agg ?_ (by rw [e]; exact (hrow.drop off).take s)
              intro u hu
              rw [e] at hu
              exact hcv u (List.mem_of_mem_drop (List.mem_of_mem_take hu))
        · rename_i ha
          try simp only [ha] at hc
          try simp only [ha]
          have hlt : a.off + i * sz + off < C.size := by omega
          refine ⟨C[a.off + i * sz + off], ?_, ?_, rfl, rfl⟩
          · simp only [Instr.loadAt, Instr.sureAddr, Sem.run_bind, Sem.run_pure, Result.andThen_ok]
            exact run_loadVar_one (a := ⟨a.block, a.off + i * sz + off, none⟩) ha rfl hb hlt
          · have := hrow.get off (by omega) (by omega)
            simp only [List.getElem_take, List.getElem_drop, Array.getElem_toList] at this
            simpa [cel, List.getD_eq_getElem?_getD, show off < rs[i].length by omega] using this
        · exact hc.elim
      · simp only [hgs, if_false] at hc
    · exact hc.elim
  · rename_i cells
    cases hx with
    | @fp _ a C T fz hs hM hb hl hcv hrel =>
      split at hc
      · rename_i s ha hz
        try simp only [ha, hz] at hc
        try simp only [ha, hz]
        refine ⟨.agg ⟨(C.toList.drop a.off).take s⟩, ?_, ?_, rfl, rfl⟩
        · simp only [Instr.loadAt, Instr.sureAddr, Sem.run_bind, Sem.run_pure, Result.andThen_ok]
          exact run_loadVar_agg ha hz hs hb (by omega)
        · have e : (C.toList.drop a.off).take s = ((C.toList.drop a.off).take cells.length).take s := by rw [List.take_take]; congr 1; omega
          refine .agg ?_ (by rw [e]; exact hrel.take s)
          intro u hu
          rw [e] at hu
          exact hcv u (List.mem_of_mem_take hu)
      · rename_i ha
        try simp only [ha] at hc
        try simp only [ha]
        have hlt : a.off < C.size := by omega
        refine ⟨C[a.off], ?_, ?_, rfl, rfl⟩
        · simp only [Instr.loadAt, Instr.sureAddr, Sem.run_bind, Sem.run_pure, Result.andThen_ok]
          exact run_loadVar_one ha hs hb hlt
        · have hq : 0 < ((C.toList.drop a.off).take cells.length).length := by rw [← hrel.length]; exact hc
          have := hrel.get 0 hc hq
          simp only [List.getElem_take, List.getElem_drop, Array.getElem_toList, Nat.add_zero] at this
          simpa [cel, List.getD_eq_getElem?_getD, hc] using this
      · exact hc.elim
  · exact hc.elim

theorem run_fieldPlace {s : TypeId} {fs : Array Field} {f d : Nat} {fl : Field} (_hu : P.underlying s = some (.struct fs)) (hf : fs[f]? = some fl)
    (hd : foff P s f = some d) {a : Addr} (ha : a.spot = none) : (fieldPlace a fl).run P w = .ok ⟨a.block, a.off + d, none⟩ w := by
  unfold foff at hd
  simp only [_hu, hf, Option.bind_some] at hd
  cases hi : P.info? fl.type with
  | none => simp [hi] at hd
  | some i =>
    simp only [hi, Option.map_some, Option.bind_some] at hd
    by_cases h0 : i.size = 0
    · simp [h0] at hd
    · simp only [h0, if_false, Option.some.injEq] at hd
      have : (sizeOf fl.type).run P w = .ok i.size w := by simp [sizeOf, typeInfo, hi]
      simp [fieldPlace, this, h0, add_plain ha, hd]
theorem foff_some {s : TypeId} {f d : Nat} (hd : foff P s f = some d) : ∃ fs fl, P.underlying s = some (.struct fs) ∧ fs[f]? = some fl ∧ fl.offset = d := by
  unfold foff at hd
  split at hd
  · rename_i fs hu
    cases hf : fs[f]? with
    | none => simp [hf] at hd
    | some fl =>
      refine ⟨fs, fl, hu, hf, ?_⟩
      simp only [hf, Option.bind_some] at hd
      cases hi : P.info? fl.type with
      | none => simp [hi] at hd
      | some i =>
        simp only [hi, Option.map_some, Option.bind_some] at hd
        by_cases h0 : i.size = 0
        · simp [h0] at hd
        · simpa [h0] using hd
  · cases hd

theorem ref_step {x : Value} {o g sz i off : Nat} {M : Nat → Prop} (hx : Rel φ w M (.ref o g sz i off) x) (i' off' : Nat) (u : Value)
    (hu : ∀ a : Addr, x = .pointer (some ⟨a.block, a.off + i * sz + off, none⟩) → u = .pointer (some ⟨a.block, a.off + i' * sz + off', none⟩)) :
    Rel φ w M (.ref o g sz i' off') u := by
  cases hx with
  | ref ho hg hh => exact .ref ho hg fun e => let ⟨a, bs, hA, hv⟩ := hh e; ⟨a, bs, hA, hu a hv⟩

theorem HRelF.alive_at (hH : HRelF φ F w M0 h) {o g sz : Nat} (ha : alive h o g sz) : ∃ mt rs A, h o = some (.rows mt g sz rs) ∧ φ o = some (g, A) := by
  unfold alive at ha
  split at ha
  · rename_i mt g' sz' rs ho
    obtain ⟨rfl, rfl⟩ := ha
    obtain ⟨A, hA, _⟩ := hH.obj _ _ _ _ _ ho
    exact ⟨mt, rs, A, ho, hA⟩
  · exact ha.elim
theorem HRelF.ref_alive (hH : HRelF φ F w M0 h) {o g sz i off : Nat} (ha : alive h o g sz) {M : Nat → Prop} {v : Value} (hx : Rel φ w M (.ref o g sz i off) v) :
    ∃ a : Addr, v = .pointer (some ⟨a.block, a.off + i * sz + off, none⟩) := by
  obtain ⟨mt, rs, A, _, hp⟩ := hH.alive_at ha
  cases hx with
  | ref ho hg hh =>
    rw [hp] at ho
    simp only [Option.some.injEq, Prod.mk.injEq] at ho
    obtain ⟨rfl, rfl⟩ := ho
    obtain ⟨a, bs, _, hv⟩ := hh rfl
    exact ⟨a, hv⟩

theorem fieldAddr_reads (hH : HRelF φ F w M0 h) {s : TypeId} {x : AV} {v : Value} {f : Nat} {M : Nat → Prop}
    (hx : Rel φ w M x v) (hc : (evFieldAddr P s x f h).cond) : Reads P φ w M (evFieldAddr P s x f h) (Instr.fieldAt s v f) := by
  unfold evFieldAddr at hc ⊢
  split at hc
  · rename_i d hd
    obtain ⟨fs, fl, hu, hf, hoff⟩ := foff_some hd
    have hrun : ∀ a : Addr, a.spot = none → (Instr.fieldAt s (.pointer (some a)) f).run P w = .ok (.pointer (some ⟨a.block, a.off + d, none⟩)) w := by
      intro a ha
      simp only [Instr.fieldAt, Sem.run_bind, run_underlying hu, Result.andThen_ok, hf, Instr.sureAddr, Sem.run_pure, run_fieldPlace hu hf hd ha]
    split at hc
    · rename_i o g sz i off
      obtain ⟨a, rfl⟩ := hH.ref_alive hc hx
      exact ⟨_, hrun ⟨a.block, a.off + i * sz + off, none⟩ rfl, ref_step hx i (off + d) _ (fun b hb => by
        simp only [Value.pointer.injEq, Option.some.injEq, Addr.mk.injEq, and_true] at hb ⊢
        omega), rfl, rfl⟩
    · rename_i cells
      cases hx with
      | @fp _ a C T fz hs hM hb hl hcv hrel =>
        refine ⟨_, hrun a hs, .fp (a := ⟨a.block, a.off + d, none⟩) rfl hM hb ?_ ?_ ?_, rfl, rfl⟩
        · simp only [List.length_drop]; omega
        · intro u hu'
          refine hcv u ?_
          have e : (C.toList.drop (a.off + d)).take (cells.drop d).length = ((C.toList.drop a.off).take cells.length).drop d := by
            rw [List.drop_take, List.drop_drop, List.length_drop]
          simp only at hu'
          rw [e] at hu'
          exact List.mem_of_mem_drop hu'
        · have e : (C.toList.drop (a.off + d)).take (cells.drop d).length = ((C.toList.drop a.off).take cells.length).drop d := by
            rw [List.drop_take, List.drop_drop, List.length_drop]
          simp only
          rw [e]; exact hrel.drop d
    · exact hc.elim
  · exact hc.elim
end reads
end Go.Av
