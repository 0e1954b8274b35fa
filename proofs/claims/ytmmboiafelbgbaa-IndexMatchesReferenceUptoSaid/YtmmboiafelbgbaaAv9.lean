/- Our library, part 9: one operation, and a region in the text's order. -/
import Derived.Test.YtmmboiafelbgbaaAv8
import Derived.Laws.BytesString
set_option linter.unusedSimpArgs false
set_option linter.unusedVariables false
namespace Go.Av
open Go

section
variable {P : Program} {φ : Place} {F : Nat → Prop} {n : Nat} {w : World} {M0 : Nat → Prop} {h : Heap}

theorem bytesOf_vals {φ : Place} {w : World} {M : Nat → Prop} : ∀ {rs : List (List AV)} {ns : List Int} {vs : List Value}, bytesOf rs = some ns → RelL φ w M rs.flatten vs → vs = ns.map (Value.int .u8)
  | [], ns, vs, h, hr => by simp [bytesOf] at h; subst h; cases hr; rfl
  | r :: rs, ns, vs, h, hr => by
    unfold bytesOf at h
    split at h
    · rename_i heq; cases heq
    · rename_i n rs' heq
      cases heq
      simp only [Option.map_eq_some_iff] at h
      obtain ⟨ns', h1, rfl⟩ := h
      simp only [List.flatten_cons, List.cons_append, List.nil_append] at hr
      cases hr with
      | cons a b =>
        cases a
        rw [bytesOf_vals h1 b]; rfl
    · cases h
theorem rowsOf_slice (hH : HRelF φ F w M0 h) {x : AV} {v : Value} {sz : Nat} (hx : Rel φ w (Or M0 (Mut φ h)) x v) (hc : (rowsOf x sz h).1) : ∃ a l c, v = .slice a l c := by
  unfold rowsOf at hc
  split at hc
  · split at hc
    · rename_i o g sz' i len mt g' sz'' rs ho
      obtain ⟨rfl, rfl, rfl, _⟩ := hc
      obtain ⟨A, cap, rfl, _⟩ := hH.sl_alive (by simp [alive, ho]) hx
      exact ⟨_, _, _, rfl⟩
    · exact hc.elim
  · cases hx <;> exact ⟨_, _, _, rfl⟩
  · cases hx; exact ⟨_, _, _, rfl⟩
  · exact hc.elim
theorem conv_reads (hH : HRelF φ F w M0 h) {s d : TypeId} {x : AV} {v : Value} (hx : Rel φ w (Or M0 (Mut φ h)) x v) (hc : (evConv P s d x h).cond) : Reads P φ w (Or M0 (Mut φ h)) (evConv P s d x h) (convert s d v) := by
  unfold evConv at hc ⊢
  split at hc
  · rename_i k k' k'' m h1 h2
    cases hx
    exact ⟨_, by simp [convert, run_underlying (tk_int h1), run_underlying (tk_int h2), Conv.intToInt, wrap_InR hc], .v _, rfl, rfl⟩
  · rename_i x2 t1 t2 x3 e h1 h2
    unfold evStr at hc ⊢
    split at hc
    · rename_i ns he hb
      obtain ⟨r1, r2, X, r3, r4, r5, r6⟩ := rowsOf_run (P := P) hH Nat.one_pos hx hc
      have hX := bytesOf_vals hb r4
      have h6 := r6 w rfl
      obtain ⟨a, l, c, rfl⟩ := rowsOf_slice hH hx hc
      refine ⟨_, ?_, .v _, rfl, rfl⟩
      rw [run_convert_bytes_string w s d e a l c (tk_sl h1) (tk_int he) (tk_string h2)]
      have hX2 : X = (ns.map (Value.int .u8)).toArray := by rw [← hX]
      have hl : l = (rowsOf x2 1 h).2.length := by
        have := r1
        simp [Builtin.lenOf, Sem.run_pure] at this
        first | exact this | omega
      cases a with
      | none =>
        have h0 : X = #[] := by
          have := h6
          simp [Builtin.firstCells, Sem.run_pure] at this
          exact this
        have : ns = [] := by
          rw [h0] at hX
          simpa using hX.symm
        subst this
        rfl
      | some a =>
        rw [run_bytesToString w a l c ns]
        · rfl
        · rw [hl, ← hX2]
          have := h6
          simp only [Builtin.firstCells, Nat.mul_one] at this
          exact this
    · exact hc.elim
  · exact hc.elim
theorem Rel.ofV {M : Nat → Prop} (x : Value) : Rel φ w M (ofV x) x := by
  cases x with
  | agg cs =>
    simp only [Av.ofV]
    split
    · rename_i hall
      exact .agg (vs := cs.toList) (fun u hu => List.all_eq_true.1 hall u hu) (zero_cells _)
    · exact .v _
  | _ => exact .v _
/-- operands -/
theorem rel_ev {M : Nat → Prop} {e : Env} {a : Act} (he : ∀ t, Rel φ w M (e t) (a.tmps.getD t undef)) (x : Operand) : Rel φ w M (ev e x) (a.eval x) := by
  cases x with
  | tmp t => exact he t
  | const v => exact Rel.ofV v
  | global g => exact .v _
  | func f => exact .fn (fs := []) (cs := []) .nil .nil
theorem relL_map {M : Nat → Prop} {e : Env} {a : Act} : ∀ {xs : List Operand}, (∀ x ∈ xs, Rel φ w M (ev e x) (a.eval x)) → RelL φ w M (xs.map (ev e)) (xs.map a.eval)
  | [], _ => .nil
  | x :: xs, h => .cons (h x (by simp)) (relL_map fun y hy => h y (by simp [hy]))
theorem parts_map {M : Nat → Prop} {e : Env} {a : Act} {ps : Array (Nat × Operand)} (h : ∀ x ∈ (ps.toList.map (·.2)), Rel φ w M (ev e x) (a.eval x)) :
    (ps.toList.map fun p => (p.1, ev e p.2)).length = (ps.map fun (p : Nat × Operand) => (p.1, a.eval p.2)).toList.length ∧
    ∀ (k : Nat) (hk : k < (ps.toList.map fun p => (p.1, ev e p.2)).length) (hk' : k < (ps.map fun (p : Nat × Operand) => (p.1, a.eval p.2)).toList.length),
      (ps.toList.map fun p => (p.1, ev e p.2))[k].1 = (ps.map fun (p : Nat × Operand) => (p.1, a.eval p.2)).toList[k].1 ∧
      Rel φ w M (ps.toList.map fun p => (p.1, ev e p.2))[k].2 (ps.map fun (p : Nat × Operand) => (p.1, a.eval p.2)).toList[k].2 := by
  refine ⟨by simp, fun k hk hk' => ⟨by simp, ?_⟩⟩
  simp only [List.getElem_map, Array.toList_map, Array.getElem_toList]
  refine h _ ?_
  simp only [List.mem_map]
  exact ⟨ps.toList[k]'(by simpa using hk), List.getElem_mem _, by simp⟩

theorem opt_map {M : Nat → Prop} {e : Env} {a : Act} (x : Option Operand) (h : ∀ y ∈ x.toArray, Rel φ w M (ev e y) (a.eval y)) :
    (match x.map (ev e), x.map a.eval with | none, none => True | some x, some v => Rel φ w M x v | _, _ => False) := by
  cases x with
  | none => trivial
  | some y => exact h y (by simp)

/-- ONE OPERATION. -/
theorem aev_good (hH : HRelF φ F w M0 h) (hn : F n) {e : Env} {a : Act} {o : Oper} (he : ∀ x ∈ o.op.operands, Rel φ w (Or M0 (Mut φ h)) (ev e x) (a.eval x)) (hc : (aev P n o.op e h).cond) :
    ∃ nx v w' φ', (execOp a.eval o).run P w = .ok nx w' ∧ (nx = .value v ∨ (nx = .skip ∧ v = undef)) ∧ Rel φ' w' (Or M0 (Mut φ' (applyW (aev P n o.op e h).wr h))) (aev P n o.op e h).val v ∧
      HRelF φ' (Fal F n (aev P n o.op e h).al) w' M0 (applyW (aev P n o.op e h).wr h) ∧ Step φ w M0 h φ' w' (applyW (aev P n o.op e h).wr h) := by
  have fin : ∀ {r : Res} {s : Sem Value}, Good P φ F n w M0 h r s → (execOp a.eval o).run P w = ((do pure (.value (← s)) : Sem Next)).run P w →
      ∃ nx v w' φ', (execOp a.eval o).run P w = .ok nx w' ∧ (nx = .value v ∨ (nx = .skip ∧ v = undef)) ∧ Rel φ' w' (Or M0 (Mut φ' (applyW r.wr h))) r.val v ∧
      HRelF φ' (Fal F n r.al) w' M0 (applyW r.wr h) ∧ Step φ w M0 h φ' w' (applyW r.wr h) := by
    intro r s hg heq
    obtain ⟨u, w', φ', h1, h2, h3, h4⟩ := hg
    refine ⟨.value u, u, w', φ', ?_, .inl rfl, h2, h3, h4⟩
    rw [heq]; simp [h1]
  have hmove : ∀ x : Operand, o.op.operands = #[x] → Reads P φ w (Or M0 (Mut φ h)) (.ok (ev e x)) (pure (a.eval x)) :=
    fun x hx => ⟨_, rfl, he x (by simp [hx]), rfl, rfl⟩
  unfold aev at hc ⊢
  cases hop : o.op with
  | move x => exact fin (Reads.good hH (hmove x (by simp [hop, Op.operands]))) (by simp [execOp, hop])
  | assign x => exact fin (Reads.good hH (hmove x (by simp [hop, Op.operands]))) (by simp [execOp, hop])
  | pick c x y =>
    simp only [hop] at hc ⊢
    exact fin (Reads.good hH (pick_reads (he c (by simp [hop, Op.operands])) (he x (by simp [hop, Op.operands])) (he y (by simp [hop, Op.operands])) hc)) (by simp [execOp, hop])
  | alloc t =>
    simp only [hop] at hc ⊢
    split at hc
    · rename_i z hz
      try simp only [hz]
      exact fin (alloc_good (P := P) hH hn hz) (by simp [execOp, hop])
    · exact hc.elim
  | box t x =>
    simp only [hop] at hc ⊢
    exact fin (box_good (P := P) (t := t) hH hn (he x (by simp [hop, Op.operands])) hc) (by simp [execOp, hop])
  | build t ps =>
    simp only [hop] at hc ⊢
    obtain ⟨h1, h2⟩ := parts_map (φ := φ) (w := w) (M := Or M0 (Mut φ h)) (e := e) (a := a) (ps := ps) (fun x hx => he x (by simp [hop, Op.operands]; simpa using hx))
    exact fin (Reads.good hH (build_good hH h1 h2 hc)) (by simp [execOp, hop])
  | buildSlice t len ps =>
    simp only [hop] at hc ⊢
    obtain ⟨h1, h2⟩ := parts_map (φ := φ) (w := w) (M := Or M0 (Mut φ h)) (e := e) (a := a) (ps := ps) (fun x hx => he x (by simp [hop, Op.operands]; simpa using hx))
    exact fin (buildSlice_good hH hn h1 h2 hc) (by simp [execOp, hop])
  | load t x =>
    simp only [hop] at hc ⊢
    exact fin (Reads.good hH (load_reads hH (he x (by simp [hop, Op.operands])) hc)) (by simp [execOp, hop])
  | store t x y =>
    simp only [hop] at hc ⊢
    obtain ⟨w', φ', h1, h2, h3, h4⟩ := store_good (P := P) hH (he x (by simp [hop, Op.operands])) (he y (by simp [hop, Op.operands])) hc
    refine ⟨.skip, undef, w', φ', by simp [execOp, hop, h1], .inr ⟨rfl, rfl⟩, by rw [h4]; exact .top _, by rw [evStore_al]; exact h2, h3⟩
  | binOp op t x y t' =>
    simp only [hop] at hc ⊢
    exact fin (Reads.good hH (bin2_reads (t := t) (xo := x) (yo := y) (he x (by simp [hop, Op.operands])) (he y (by simp [hop, Op.operands])) hc)) (by simp [execOp, hop])
  | unOp op t x =>
    simp only [hop] at hc ⊢
    exact fin (Reads.good hH (un_reads (he x (by simp [hop, Op.operands])) hc)) (by simp [execOp, hop])
  | convert s d x =>
    simp only [hop] at hc ⊢
    exact fin (Reads.good hH (conv_reads hH (he x (by simp [hop, Op.operands])) hc)) (by simp [execOp, hop])
  | makeFunc f xs ys =>
    have h1 := relL_map (xs := xs.toList) (fun x hx => he x (by simp [hop, Op.operands]; exact .inl (by simpa using hx)))
    have h2 := relL_map (xs := ys.toList) (fun x hx => he x (by simp [hop, Op.operands]; exact .inr (by simpa using hx)))
    refine fin (Reads.good hH (s := Instr.makeFunc f (xs.map a.eval) (ys.map a.eval)) ⟨_, rfl, ?_, rfl, rfl⟩) (by simp [execOp, hop])
    have e1 : xs.map a.eval = ⟨xs.toList.map a.eval⟩ := by apply Array.ext'; simp
    have e2 : ys.map a.eval = ⟨ys.toList.map a.eval⟩ := by apply Array.ext'; simp
    rw [e1, e2]
    exact .fn h1 h2
  | makeSlice t l c =>
    simp only [hop] at hc ⊢
    exact fin (makeSlice_good hH hn (he l (by simp [hop, Op.operands])) (he c (by simp [hop, Op.operands])) hc) (by simp [execOp, hop])
  | slice t x lo hi mx =>
    simp only [hop] at hc ⊢
    refine fin (Reads.good hH (slice_reads (vlo := lo.map a.eval) (vhi := hi.map a.eval) (vmx := mx.map a.eval) hH (he x (by simp [hop, Op.operands]))
      (opt_map lo fun y hy => he y ?_) (opt_map hi fun y hy => he y ?_) (fun hm => by cases mx <;> simp at hm ⊢) hc)) (by simp [execOp, hop])
    · simp only [hop, Op.operands, Array.mem_append]; exact .inl (.inl (.inr hy))
    · simp only [hop, Op.operands, Array.mem_append]; exact .inl (.inr hy)
  | fieldAddr t x f =>
    simp only [hop] at hc ⊢
    exact fin (Reads.good hH (fieldAddr_reads hH (he x (by simp [hop, Op.operands])) hc)) (by simp [execOp, hop])
  | field t x f =>
    simp only [hop] at hc ⊢
    exact fin (Reads.good hH (field_reads (he x (by simp [hop, Op.operands])) hc)) (by simp [execOp, hop])
  | indexAddr t x i =>
    simp only [hop] at hc ⊢
    exact fin (Reads.good hH (indexAddr_reads hH (he x (by simp [hop, Op.operands])) (he i (by simp [hop, Op.operands])) hc)) (by simp [execOp, hop])
  | index t x i =>
    simp only [hop] at hc ⊢
    exact fin (Reads.good hH (index_reads (he x (by simp [hop, Op.operands])) (he i (by simp [hop, Op.operands])) hc)) (by simp [execOp, hop])
  | extract x i =>
    simp only [hop] at hc ⊢
    exact fin (Reads.good hH (extract_reads (he x (by simp [hop, Op.operands])) hc)) (by simp [execOp, hop])
  | call c =>
    obtain ⟨callee, args, ats⟩ := c
    cases callee with
    | builtin b =>
      cases b with
      | len =>
        simp only [hop] at hc ⊢
        split at hc
        · rename_i x t hx ht
          have e1 : args = #[x] := by apply Array.ext'; simpa using hx
          have e2 : ats = #[t] := by apply Array.ext'; simpa using ht
          subst e1 e2
          exact fin (Reads.good hH (len_reads (ats := #[t]) (ty := o.type) hH rfl (he x (by simp [hop, Op.operands, Call.operands])) hc)) (by simp [execOp, hop, resolve, invoke, builtin])
        · exact hc.elim
      | append =>
        simp only [hop] at hc ⊢
        split at hc
        · rename_i s x hx
          have e1 : args = #[s, x] := by apply Array.ext'; simpa using hx
          subst e1
          exact fin (append_good (tys := ats) (ty := o.type) hH hn (he s (by simp [hop, Op.operands, Call.operands])) (he x (by simp [hop, Op.operands, Call.operands])) hc) (by simp [execOp, hop, resolve, invoke, builtin])
        · exact hc.elim
      | copy =>
        simp only [hop] at hc ⊢
        split at hc
        · rename_i s x hx
          have e1 : args = #[s, x] := by apply Array.ext'; simpa using hx
          subst e1
          have hg := copy_good (tys := ats) (ty := o.type) (n := n) hH (he s (by simp [hop, Op.operands, Call.operands])) (he x (by simp [hop, Op.operands, Call.operands])) hc
          exact fin hg (by simp [execOp, hop, resolve, invoke, builtin])
        · exact hc.elim
      | min =>
        simp only [hop] at hc ⊢
        split at hc
        · rename_i x y hx
          have e1 : args = #[x, y] := by apply Array.ext'; simpa using hx
          subst e1
          exact fin (Reads.good hH (min_reads (ats := ats) (ty := o.type) (he x (by simp [hop, Op.operands, Call.operands])) (he y (by simp [hop, Op.operands, Call.operands])) hc)) (by simp [execOp, hop, resolve, invoke, builtin])
        · exact hc.elim
      | max =>
        simp only [hop] at hc ⊢
        split at hc
        · rename_i x y hx
          have e1 : args = #[x, y] := by apply Array.ext'; simpa using hx
          subst e1
          exact fin (Reads.good hH (max_reads (ats := ats) (ty := o.type) (he x (by simp [hop, Op.operands, Call.operands])) (he y (by simp [hop, Op.operands, Call.operands])) hc)) (by simp [execOp, hop, resolve, invoke, builtin])
        · exact hc.elim
      | _ => rw [hop] at hc; exact hc.elim
    | _ => rw [hop] at hc; exact hc.elim
  | _ => rw [hop] at hc; exact hc.elim
end
end Go.Av
