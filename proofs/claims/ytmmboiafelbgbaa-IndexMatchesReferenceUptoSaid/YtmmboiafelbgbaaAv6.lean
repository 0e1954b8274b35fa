/- Our library, part 6: the abstract operations are sound: the other reading ones. -/
import Derived.Test.YtmmboiafelbgbaaAv5
set_option linter.unusedSimpArgs false
set_option linter.unusedVariables false
namespace Go.Av
open Go

theorem wrap_InR {k : IntKind} {n : Int} (h : InR k n) : k.wrap n = n := by
  obtain ⟨h1, h2⟩ := h
  cases k <;> simp [IntKind.min, IntKind.max, IntKind.signed, IntKind.bits] at h1 h2 <;> simp [IntKind.wrap, IntKind.signed, IntKind.bits] <;> omega

section reads
variable {P : Program} {φ : Place} {F : Nat → Prop} {w : World} {M0 : Nat → Prop} {h : Heap}

theorem HRelF.sl_alive (hH : HRelF φ F w M0 h) {o g sz i len : Nat} (ha : alive h o g sz) {M : Nat → Prop} {v : Value} (hx : Rel φ w M (.sl o g sz i len) v) :
    ∃ A cap, v = .slice A len cap ∧ len ≤ cap ∧ ((A = none ∧ i = 0 ∧ len = 0 ∧ cap = 0) ∨ (len = 0 ∧ cap = 0 ∧ A.isSome = true) ∨
      ∃ a bs, φ o = some (g, some (a, bs)) ∧ A = some ⟨a.block, a.off + i * sz, none⟩ ∧ a.off + i * sz + cap * sz ≤ bs) := by
  obtain ⟨mt, rs, A, _, hp⟩ := hH.alive_at ha
  cases hx with
  | sl ho hg hh =>
    rw [hp] at ho
    simp only [Option.some.injEq, Prod.mk.injEq] at ho
    obtain ⟨rfl, rfl⟩ := ho
    rcases hh rfl with ⟨_, rfl, rfl, rfl⟩ | ⟨rfl, a', rfl⟩ | ⟨a, bs, cap, rfl, rfl, hl, hc⟩
    · exact ⟨none, 0, rfl, Nat.le_refl _, .inl ⟨rfl, rfl, rfl, rfl⟩⟩
    · exact ⟨some a', 0, rfl, Nat.le_refl _, .inr (.inl ⟨rfl, rfl, rfl⟩)⟩
    · exact ⟨_, cap, rfl, hl, .inr (.inr ⟨a, bs, hp, rfl, hc⟩)⟩

theorem run_asIntOf (k : IntKind) (x : Int) : (asIntOf (.int k x)).run P w = .ok (k, x) w := rfl

theorem indexAddr_reads (hH : HRelF φ F w M0 h) {t : TypeId} {x ix : AV} {v u : Value} (hx : Rel φ w (Or M0 (Mut φ h)) x v) (hi : Rel φ w (Or M0 (Mut φ h)) ix u)
    (hc : (evIndexAddr P t x ix h).cond) : Reads P φ w (Or M0 (Mut φ h)) (evIndexAddr P t x ix h) (Instr.indexAt t v u) := by
  unfold evIndexAddr at hc ⊢
  split at hc
  · rename_i e o g sz i len k n' ht
    cases hi
    obtain ⟨hal, hsz, h0, hlt⟩ := hc
    obtain ⟨A, cap, rfl, hcap, hA⟩ := hH.sl_alive hal hx
    have hlen : 0 < len := by omega
    rcases hA with ⟨_, _, rfl, _⟩ | ⟨rfl, _⟩ | ⟨a, bs, hp, rfl, hb⟩
    · omega
    · omega
    refine ⟨.pointer (some ⟨a.block, a.off + i * sz + n'.toNat * sz, none⟩), ?_, ?_, rfl, rfl⟩
    · have h2 : 0 ≤ n' ∧ n' < (len : Int) := by omega
      simp [Instr.indexAt, run_asIntOf, run_underlying (tk_sl ht), h2, run_sizeOf hsz, add_plain]
    · exact .ref hp (Nat.le_refl _) fun _ => ⟨a, bs, rfl, by simp [Nat.add_mul, Nat.add_assoc]⟩
  · rename_i e sz rows k n' ht
    cases hi
    obtain ⟨hsz, h0, hlt⟩ := hc
    cases hx with
    | nil => simp at hlt
    | @lst _ _ a len cap C T fz hs hM hb hr hl hc hcap hv hrel =>
      have hle : n'.toNat * sz + sz ≤ rows.length * sz := by
        have := Nat.mul_le_mul_right sz (show n'.toNat + 1 ≤ rows.length from hlt)
        rw [Nat.add_mul] at this; omega
      have hg : nth rows n'.toNat = rows[n'.toNat] := by simp [nth, hlt]
      have hrl : rows[n'.toNat].length = sz := hr _ (List.getElem_mem _)
      have e1 : (C.toList.drop (a.off + n'.toNat * sz)).take rows[n'.toNat].length = (((C.toList.drop a.off).take (rows.length * sz)).drop (n'.toNat * sz)).take sz := by
        rw [List.drop_take, List.drop_drop, List.take_take, hrl]; congr 1; omega
      refine ⟨.pointer (some ⟨a.block, a.off + n'.toNat * sz, none⟩), ?_, ?_, rfl, rfl⟩
      · have h2 : 0 ≤ n' ∧ n' < (len : Int) := by omega
        simp [Instr.indexAt, run_asIntOf, run_underlying (tk_sl ht), h2, run_sizeOf hsz, add_plain hs]
      · simp only [hg]
        refine .fp (a := ⟨a.block, a.off + n'.toNat * sz, none⟩) rfl hM hb (by simp only [hrl]; omega) ?_ ?_
        · intro u hu
          rw [e1] at hu
          exact hv u (List.mem_of_mem_drop (List.mem_of_mem_take hu))
        · rw [e1, flatten_drop_take hr _ hlt]
          exact (hrel.drop _).take _
  · rename_i len e o g sz i off k n' ht
    cases hi
    split at hc
    · rename_i s hsz
      obtain ⟨hal, h0, hlt⟩ := hc
      obtain ⟨a, rfl⟩ := hH.ref_alive hal hx
      try simp only [hsz]
      refine ⟨.pointer (some ⟨a.block, a.off + i * sz + off + n'.toNat * s, none⟩), ?_, ?_, rfl, rfl⟩
      · have h2 : 0 ≤ n' ∧ n' < (len : Int) := ⟨h0, hlt⟩
        simp [Instr.indexAt, run_asIntOf, run_underlying (tk_arr ht), h2, run_sizeOf hsz, Instr.sureAddr, add_plain]
      · exact ref_step hx _ _ _ (fun b hb => by simp only [Value.pointer.injEq, Option.some.injEq, Addr.mk.injEq, and_true] at hb ⊢; omega)
    · exact hc.elim
  · rename_i len e cells k n' ht
    cases hi
    split at hc
    · rename_i s hsz
      obtain ⟨h0, hlt, hle⟩ := hc
      try simp only [hsz]
      cases hx with
      | @fp _ a C T fz hs hM hb hl hcv hrel =>
        have e1 : (C.toList.drop (a.off + n'.toNat * s)).take (cells.drop (n'.toNat * s)).length = ((C.toList.drop a.off).take cells.length).drop (n'.toNat * s) := by
          rw [List.drop_take, List.drop_drop, List.length_drop]
        refine ⟨.pointer (some ⟨a.block, a.off + n'.toNat * s, none⟩), ?_, ?_, rfl, rfl⟩
        · have h2 : 0 ≤ n' ∧ n' < (len : Int) := ⟨h0, hlt⟩
          simp [Instr.indexAt, run_asIntOf, run_underlying (tk_arr ht), h2, run_sizeOf hsz, Instr.sureAddr, add_plain hs]
        · refine .fp (a := ⟨a.block, a.off + n'.toNat * s, none⟩) rfl hM hb (by simp only [List.length_drop]; omega) ?_ ?_
          · intro u hu
            simp only at hu
            rw [e1] at hu
            exact hcv u (List.mem_of_mem_drop hu)
          · simp only
            rw [e1]; exact hrel.drop _
    · exact hc.elim
  · exact hc.elim

theorem run_part_agg {t : TypeId} {s d : Nat} (h1 : tagg P t = some true) (h2 : tsz P t = some s) (vs : List Value) :
    (part t ⟨vs⟩ d).run P w = .ok (.agg ⟨(vs.drop d).take s⟩) w := by
  have e : (Array.extract (⟨vs⟩ : Array Value) d (d + s)) = ⟨(vs.drop d).take s⟩ := by
    apply Array.ext'
    simp [Array.toList_extract, List.extract_eq_take_drop]
  simp [part, run_isAgg h1, run_sizeOf h2, e]
theorem run_part_one {t : TypeId} {d : Nat} (h1 : tagg P t = some false) (vs : List Value) (hd : d < vs.length) :
    (part t ⟨vs⟩ d).run P w = .ok vs[d] w := by
  simp [part, run_isAgg h1, hd]

theorem agg_part {cs : List AV} {v : Value} {M : Nat → Prop} (hx : Rel φ w M (.agg cs) v) (d s : Nat) : ∃ vs, v = .agg ⟨vs⟩ ∧ RelL φ w M cs vs ∧ Rel φ w M (.agg ((cs.drop d).take s)) (.agg ⟨(vs.drop d).take s⟩) := by
  cases hx with
  | agg hv hrel => exact ⟨_, rfl, hrel, .agg (fun u hu => hv u (List.mem_of_mem_drop (List.mem_of_mem_take hu))) ((hrel.drop d).take s)⟩
theorem RelL.getD {cs : List AV} {vs : List Value} {M : Nat → Prop} (h : RelL φ w M cs vs) (d : Nat) (hd : d < cs.length) : ∃ hd' : d < vs.length, Rel φ w M (cel cs d) vs[d] := by
  have hd' : d < vs.length := by rw [← h.length]; exact hd
  exact ⟨hd', by have := h.get d hd hd'; simpa [cel, List.getD_eq_getElem?_getD, hd] using this⟩

theorem field_reads {s : TypeId} {x : AV} {v : Value} {f : Nat} {M : Nat → Prop} (hx : Rel φ w M x v) (hc : (evField P s x f).cond) :
    Reads P φ w M (evField P s x f) (Instr.field s v f) := by
  unfold evField at hc ⊢
  split at hc
  · rename_i d t cs hd ht
    obtain ⟨fs, fl, hu, hf, hoff⟩ := foff_some hd
    have hty : fl.type = t := by simp [ftyp, hu, hf] at ht; exact ht
    split at hc
    · rename_i m ha hz
      try simp only [ha, hz]
      obtain ⟨vs, rfl, hrel, hr⟩ := agg_part hx d m
      exact ⟨_, by simp [Instr.field, run_underlying hu, hf, asAgg, hty, hoff, run_part_agg ha hz], hr, rfl, rfl⟩
    · rename_i ha
      try simp only [ha] at hc
      try simp only [ha]
      obtain ⟨vs, rfl, hrel, _⟩ := agg_part hx d 0
      obtain ⟨hd', hr⟩ := hrel.getD d hc
      exact ⟨_, by simp only [Instr.field, Sem.run_bind, run_underlying hu, Result.andThen_ok, hf, asAgg, Sem.run_pure, hty, hoff, run_part_one ha vs hd'], hr, rfl, rfl⟩
    · exact hc.elim
  · exact hc.elim

theorem index_reads {t : TypeId} {x ix : AV} {v u : Value} {M : Nat → Prop} (hx : Rel φ w M x v) (hi : Rel φ w M ix u) (hc : (evIndex P t x ix).cond) :
    Reads P φ w M (evIndex P t x ix) (Instr.index t v u) := by
  unfold evIndex at hc ⊢
  split at hc
  · rename_i len e cs k n' ht
    cases hi
    split at hc
    · rename_i s ha hz
      try simp only [ha, hz]
      obtain ⟨h0, hlt, hle⟩ := hc
      obtain ⟨vs, rfl, hrel, hr⟩ := agg_part hx (n'.toNat * s) s
      have h2 : 0 ≤ n' ∧ n' < (len : Int) := ⟨h0, hlt⟩
      exact ⟨_, by simp [Instr.index, run_asIntOf, run_underlying (tk_arr ht), h2, run_sizeOf hz, run_part_agg ha hz], hr, rfl, rfl⟩
    · rename_i s ha hz
      try simp only [ha, hz]
      obtain ⟨h0, hlt, hle⟩ := hc
      obtain ⟨vs, rfl, hrel, _⟩ := agg_part hx 0 0
      obtain ⟨hd', hr⟩ := hrel.getD (n'.toNat * s) hle
      have h2 : 0 ≤ n' ∧ n' < (len : Int) := ⟨h0, hlt⟩
      refine ⟨_, ?_, hr, rfl, rfl⟩
      simp only [Instr.index, Sem.run_bind, run_asIntOf, Result.andThen_ok, run_underlying (tk_arr ht), h2, and_self, if_true, run_sizeOf hz, run_part_one ha vs hd']
    · exact hc.elim
  · rename_i s k n' ht
    cases hi; cases hx
    obtain ⟨h0, hlt⟩ := hc
    have hb : s[n'.toNat]? = some (s.data.toList.getD n'.toNat 0) := by
      have hsz : n'.toNat < s.size := by simpa using hlt
      rw [getElem?_pos s n'.toNat hsz]
      have : n'.toNat < s.data.size := hsz
      simp [List.getD_eq_getElem?_getD, ByteArray.getElem_eq_getElem_data, Array.getElem?_eq_getElem this]
    refine ⟨_, ?_, .v _, rfl, rfl⟩
    simp [Instr.index, run_asIntOf, run_underlying (tk_string ht), h0, hb]
  · exact hc.elim

theorem len_reads (hH : HRelF φ F w M0 h) {t : TypeId} {x : AV} {v : Value} {ats : Array TypeId} {ty : TypeId} (ha : ats[0]? = some t) (hx : Rel φ w (Or M0 (Mut φ h)) x v) (hc : (evLen P t x h).cond) :
    Reads P φ w (Or M0 (Mut φ h)) (evLen P t x h) (Builtin.len_ ats ty #[v]) := by
  unfold evLen at hc ⊢
  split at hc
  · rename_i e o g sz i len ht
    obtain ⟨A, cap, rfl, _⟩ := hH.sl_alive hc hx
    exact ⟨_, by simp [Builtin.len_, ha, run_underlying (tk_sl ht), goInt], .v _, rfl, rfl⟩
  · rename_i e sz rows ht
    cases hx with
    | nil => exact ⟨_, by simp [Builtin.len_, ha, run_underlying (tk_sl ht), goInt], .v _, rfl, rfl⟩
    | lst hs hM hb hr hl hc hcap hv hrel => subst hl; exact ⟨_, by simp [Builtin.len_, ha, run_underlying (tk_sl ht), goInt], .v _, rfl, rfl⟩
  · rename_i e ht
    cases hx
    exact ⟨_, by simp [Builtin.len_, ha, run_underlying (tk_sl ht), goInt], .v _, rfl, rfl⟩
  · rename_i s ht
    cases hx
    exact ⟨_, by simp [Builtin.len_, ha, run_underlying (tk_string ht), goInt], .v _, rfl, rfl⟩
  · rename_i e ht
    exact ⟨_, by simp [Builtin.len_, ha, run_underlying (tk_arr ht), goInt], .v _, rfl, rfl⟩
  · exact hc.elim

theorem bin_reads {op : BinOp} {x y : AV} {v u : Value} {t : TypeId} {xo yo : Operand} {M : Nat → Prop} (hx : Rel φ w M x v) (hy : Rel φ w M y u) (hc : (evBin op x y).cond) :
    Reads P φ w M (evBin op x y) (do eqGuard op t xo yo v u; binOp op t v u) := by
  unfold evBin at hc ⊢
  split at hc
  case h_1 k a k' b =>
    cases hx; cases hy
    obtain ⟨h0, h1, h2, h3⟩ := hc
    have e : min b.toNat 64 = b.toNat := by omega
    refine ⟨_, ?_, .v _, rfl, rfl⟩
    simp [eqGuard, binOp, Op.shift, show ¬ b < 0 by omega, h3, e, wrap_InR h2]
  case h_2 k a k' b =>
    cases hx; cases hy
    obtain ⟨h0, h1, h3⟩ := hc
    have e : min b.toNat 64 = b.toNat := by omega
    refine ⟨_, ?_, .v _, rfl, rfl⟩
    simp [eqGuard, binOp, Op.shift, show ¬ b < 0 by omega, h3, e]
  case h_3 k a k' b => cases hx; cases hy; obtain ⟨rfl, h2⟩ := hc; exact ⟨_, by simp [eqGuard, binOp, Op.intArith, wrap_InR h2], .v _, rfl, rfl⟩
  case h_4 k a k' b => cases hx; cases hy; obtain ⟨rfl, h2⟩ := hc; exact ⟨_, by simp [eqGuard, binOp, Op.intArith, wrap_InR h2], .v _, rfl, rfl⟩
  case h_5 k a k' b => cases hx; cases hy; obtain ⟨rfl, h2⟩ := hc; exact ⟨_, by simp [eqGuard, binOp, Op.intArith, wrap_InR h2], .v _, rfl, rfl⟩
  case h_6 k a k' b => cases hx; cases hy; obtain ⟨rfl, h2, h3⟩ := hc; exact ⟨_, by simp [eqGuard, binOp, Op.intDiv, h2, wrap_InR h3], .v _, rfl, rfl⟩
  case h_7 k a k' b => cases hx; cases hy; obtain ⟨rfl, h2⟩ := hc; exact ⟨_, by simp [eqGuard, binOp, Op.intDiv, h2], .v _, rfl, rfl⟩
  case h_8 k a k' b => cases hx; cases hy; obtain rfl := hc; exact ⟨_, by simp [eqGuard, binOp, Op.intBits, andN, orN, andNotN], .v _, rfl, rfl⟩
  case h_9 k a k' b => cases hx; cases hy; obtain rfl := hc; exact ⟨_, by simp [eqGuard, binOp, Op.intBits, andN, orN, andNotN], .v _, rfl, rfl⟩
  case h_10 k a k' b => cases hx; cases hy; obtain rfl := hc; exact ⟨_, by simp [eqGuard, binOp, Op.intBits, andN, orN, andNotN], .v _, rfl, rfl⟩
  case h_11 k a k' b => cases hx; cases hy; obtain rfl := hc; exact ⟨_, by simp [eqGuard, binOp, Op.intCmp]; rfl, .v _, rfl, rfl⟩
  case h_12 k a k' b => cases hx; cases hy; obtain rfl := hc; exact ⟨_, by simp [eqGuard, binOp, Op.intCmp]; rfl, .v _, rfl, rfl⟩
  case h_13 k a k' b => cases hx; cases hy; obtain rfl := hc; exact ⟨_, by simp [eqGuard, binOp, Op.intCmp], .v _, rfl, rfl⟩
  case h_14 k a k' b => cases hx; cases hy; obtain rfl := hc; exact ⟨_, by simp [eqGuard, binOp, Op.intCmp], .v _, rfl, rfl⟩
  case h_15 k a k' b => cases hx; cases hy; obtain rfl := hc; exact ⟨_, by simp [eqGuard, binOp, Op.intCmp], .v _, rfl, rfl⟩
  case h_16 k a k' b => cases hx; cases hy; obtain rfl := hc; exact ⟨_, by simp [eqGuard, binOp, Op.intCmp], .v _, rfl, rfl⟩
  case h_17 => exact hc.elim

theorem un_reads {op : UnOp} {x : AV} {v : Value} {M : Nat → Prop} (hx : Rel φ w M x v) (hc : (evUn op x).cond) : Reads P φ w M (evUn op x) (Op.unary op v) := by
  unfold evUn at hc ⊢
  split at hc
  · cases hx; exact ⟨_, by simp [Op.unary], .v _, rfl, rfl⟩
  · cases hx; exact ⟨_, by simp [Op.unary, Op.intArith]; exact wrap_InR hc, .v _, rfl, rfl⟩
  · exact hc.elim

theorem pB_rel {c : AV} {v : Value} {M : Nat → Prop} {g b : Bool} (h : Rel φ w M c v) (hp : pB c = some (g, b)) : g = true → v = .bool b := by
  intro hg
  unfold pB at hp
  split at hp
  · simp only [Option.some.injEq, Prod.mk.injEq] at hp
    obtain ⟨rfl, rfl⟩ := hp
    cases h; rfl
  · simp only [Option.some.injEq, Prod.mk.injEq] at hp
    obtain ⟨rfl, rfl⟩ := hp
    cases h with | gd h _ => cases h hg; rfl
  · cases hp
theorem pick_reads {c a b : AV} {vc va vb : Value} {M : Nat → Prop} (h1 : Rel φ w M c vc) (h2 : Rel φ w M a va) (h3 : Rel φ w M b vb) (hc : (evPick c a b).cond) :
    Reads P φ w M (evPick c a b) (do pure (if ← asBool vc then va else vb)) := by
  unfold evPick at hc ⊢
  split at hc
  · rename_i g c' g1 x g2 y e1 e2 e3
    try simp only [e1, e2, e3]
    obtain ⟨q1, q2, q3⟩ := hc
    have := pB_rel h1 e1 q1
    subst this
    refine ⟨_, by simp [asBool]; rfl, ?_, rfl, rfl⟩
    cases c' with
    | true => have := pB_rel h2 e2 (q2 rfl); subst this; exact .v _
    | false => have := pB_rel h3 e3 (q3 rfl); subst this; exact .v _
  · exact hc.elim
theorem tk_bool {t : TypeId} (h : tk P t = .bool) : P.underlying t = some .bool := by
  unfold tk at h; split at h <;> simp_all
theorem equal_bool {t : TypeId} (h : tk P t = .bool) (a b : Bool) : (Op.equal t (.bool a) (.bool b)).run P w = .ok (a == b) w := by
  unfold Op.equal
  rw [show Op.maxDepth = (Op.maxDepth - 1) + 1 from rfl, Op.equalIn]
  simp [run_underlying (tk_bool h)]
theorem equal_nil {t e : TypeId} (h : tk P t = .sl e) (A : Option Addr) (l c : Nat) : (Op.equal t (.slice A l c) (.slice none 0 0)).run P w = .ok A.isNone w := by
  unfold Op.equal
  rw [show Op.maxDepth = (Op.maxDepth - 1) + 1 from rfl, Op.equalIn]
  cases A <;> simp [run_underlying (tk_sl h)]
theorem bin2_reads {op : BinOp} {x y : AV} {v u : Value} {t : TypeId} {xo yo : Operand} {M : Nat → Prop} (hx : Rel φ w M x v) (hy : Rel φ w M y u) (hc : (evBin2 P op t x y).cond) :
    Reads P φ w M (evBin2 P op t x y) (do eqGuard op t xo yo v u; binOp op t v u) := by
  unfold evBin2 at hc ⊢
  split at hc
  · rename_i z hz
    try simp only [hz]
    unfold evEq at hz
    split at hz
    · rename_i ht; cases hx; cases hy; cases hz
      exact ⟨_, by simp [eqGuard, binOp, equal_bool ht], .v _, rfl, rfl⟩
    · rename_i ht; cases hx; cases hy; cases hz
      exact ⟨_, by simp [eqGuard, binOp, equal_bool ht], .v _, rfl, rfl⟩
    · rename_i ht; cases hy; cases hz
      cases hx with
      | lst => exact ⟨_, by simp [eqGuard, binOp, equal_nil ht], .v _, rfl, rfl⟩
    · rename_i ht; cases hy; cases hz
      cases hx with
      | lst => exact ⟨_, by simp [eqGuard, binOp, equal_nil ht], .v _, rfl, rfl⟩
    · rename_i ht; cases hx; cases hy; cases hz
      exact ⟨_, by simp [eqGuard, binOp, equal_nil ht], .v _, rfl, rfl⟩
    · rename_i ht; cases hx; cases hy; cases hz
      exact ⟨_, by simp [eqGuard, binOp, equal_nil ht], .v _, rfl, rfl⟩
    · cases hx; cases hy; cases hz
      exact ⟨_, by simp [eqGuard, binOp, Op.stringOp], .v _, rfl, rfl⟩
    · cases hx; cases hy; cases hz
      exact ⟨_, by simp [eqGuard, binOp, Op.stringOp], .v _, rfl, rfl⟩
    · cases hz
  · rename_i hz
    try simp only [hz]
    exact bin_reads hx hy hc
theorem min_reads {x y : AV} {v u : Value} {ats : Array TypeId} {ty : TypeId} {M : Nat → Prop} (hx : Rel φ w M x v) (hy : Rel φ w M y u) (hc : (evMin x y).cond) : Reads P φ w M (evMin x y) (Builtin.min_ ats ty #[v, u]) := by
  unfold evMin at hc ⊢
  split at hc
  · cases hx; cases hy; exact ⟨_, by simp [Builtin.min_, Builtin.min2], .v _, rfl, rfl⟩
  · exact hc.elim
theorem max_reads {x y : AV} {v u : Value} {ats : Array TypeId} {ty : TypeId} {M : Nat → Prop} (hx : Rel φ w M x v) (hy : Rel φ w M y u) (hc : (evMax x y).cond) : Reads P φ w M (evMax x y) (Builtin.max_ ats ty #[v, u]) := by
  unfold evMax at hc ⊢
  split at hc
  · cases hx; cases hy; exact ⟨_, by simp [Builtin.max_, Builtin.max2], .v _, rfl, rfl⟩
  · exact hc.elim

theorem extract_reads {x : AV} {v : Value} {i : Nat} {M : Nat → Prop} (hx : Rel φ w M x v) (hc : (evExtract x i).cond) : Reads P φ w M (evExtract x i) (Instr.extract v i) := by
  unfold evExtract at hc ⊢
  split at hc
  · cases hx with
    | tup hrel =>
      obtain ⟨hd', hr⟩ := hrel.getD i hc
      exact ⟨_, by simp [Instr.extract, hd'], hr, rfl, rfl⟩
  · exact hc.elim

theorem optInt_run {d : Int} {x : Option AV} {v : Option Value} {l : Int} {M : Nat → Prop} (hx : match x, v with | none, none => True | some x, some v => Rel φ w M x v | _, _ => False) (h : optInt d x = some l) :
    (v = none ∧ l = d) ∨ ∃ k, v = some (.int k l) := by
  unfold optInt at h
  split at h
  · cases v with
    | none => simp at h; exact .inl ⟨rfl, h.symm⟩
    | some v => exact hx.elim
  · rename_i k m
    cases v with
    | none => exact hx.elim
    | some v => cases hx; simp at h; subst h; exact .inr ⟨_, rfl⟩
  · cases h
theorem run_sliceBound {k : IntKind} {x : Int} {y : Nat} {c : BoundsCode} (h0 : 0 ≤ x) (h1 : x ≤ y) : (Instr.sliceBound (.int k x) y c).run P w = .ok x.toNat w := by
  simp [Instr.sliceBound, run_asIntOf, h0, h1]
theorem run_sliceBounds {b : Bool} {len cap : Nat} {lo hi : Option Value} {l h' : Int} (hl : (lo = none ∧ l = 0) ∨ ∃ k, lo = some (.int k l)) (hh : (hi = none ∧ h' = len) ∨ ∃ k, hi = some (.int k h'))
    (h0 : 0 ≤ l) (h1 : l ≤ h') (h2 : h' ≤ len) (h3 : len ≤ cap) : (Instr.sliceBounds b len cap lo hi none).run P w = .ok (l.toNat, h'.toNat, cap) w := by
  unfold Instr.sliceBounds
  have hb : ∀ k c, (Instr.sliceBound (.int k h') cap c).run P w = .ok h'.toNat w := fun k c => run_sliceBound (by omega) (by omega)
  have hb' : ∀ k c, (Instr.sliceBound (.int k l) h'.toNat c).run P w = .ok l.toNat w := fun k c => run_sliceBound h0 (by omega)
  rcases hl with ⟨rfl, rfl⟩ | ⟨k, rfl⟩ <;> rcases hh with ⟨rfl, rfl⟩ | ⟨k', rfl⟩ <;> simp [hb] <;> (try (have := hb' k .sliceB; first | (simp [this]; done) | (simp only [Int.toNat_natCast] at this; simp [this])))

theorem slice_reads (hH : HRelF φ F w M0 h) {t : TypeId} {x : AV} {lo hi mx : Option AV} {v : Value} {vlo vhi vmx : Option Value} (hx : Rel φ w (Or M0 (Mut φ h)) x v)
    (hlo : match lo, vlo with | none, none => True | some x, some v => Rel φ w (Or M0 (Mut φ h)) x v | _, _ => False)
    (hhi : match hi, vhi with | none, none => True | some x, some v => Rel φ w (Or M0 (Mut φ h)) x v | _, _ => False)
    (hmx : mx = none → vmx = none)
    (hc : (evSlice P t x lo hi mx h).cond) : Reads P φ w (Or M0 (Mut φ h)) (evSlice P t x lo hi mx h) (Instr.sliceAt t v vlo vhi vmx) := by
  unfold evSlice at hc ⊢
  split at hc
  · rename_i e o g sz i len ht
    obtain rfl := hmx rfl
    split at hc
    · rename_i l h' hl hh
      try simp only [hl, hh]
      obtain ⟨hal, hsz, h0, h1, h2⟩ := hc
      obtain ⟨A, cap, rfl, hcap, hA⟩ := hH.sl_alive hal hx
      have hb := run_sliceBounds (P := P) (w := w) (b := true) (optInt_run hlo hl) (optInt_run hhi hh) h0 h1 h2 hcap
      refine ⟨.slice (if cap = l.toNat then A else A.map (·.add (l.toNat * sz))) (h'.toNat - l.toNat) (cap - l.toNat), ?_, ?_, rfl, rfl⟩
      · simp [Instr.sliceAt, Instr.slice, run_underlying (tk_sl ht), hb, run_sizeOf hsz]
      · obtain ⟨mt, rs, A', _, hp⟩ := hH.alive_at hal
        refine .sl hp (Nat.le_refl _) fun _ => ?_
        rcases hA with ⟨rfl, rfl, rfl, rfl⟩ | ⟨rfl, rfl, hA⟩ | ⟨a, bs, hp', rfl, hcb⟩
        · have : l = 0 := by omega
          have : h' = 0 := by omega
          subst_vars
          cases hx with
          | sl ho hg hh' =>
            rw [hp] at ho
            simp only [Option.some.injEq, Prod.mk.injEq] at ho
            obtain ⟨rfl, rfl⟩ := ho
            rcases hh' rfl with ⟨rfl, _, _, _⟩ | ⟨_, a', he⟩ | ⟨a, bs, cap, rfl, he, _⟩
            · exact .inl ⟨rfl, rfl, rfl, rfl⟩
            · cases he
            · cases he
        · refine .inr (.inl ⟨by omega, ?_⟩)
          cases A with
          | none => cases hA
          | some a => exact ⟨a, by simp [show l.toNat = 0 by omega, show h'.toNat = 0 by omega]⟩
        · rw [hp'] at hp
          simp only [Option.some.injEq, Prod.mk.injEq, true_and] at hp
          subst hp
          by_cases hcl : cap = l.toNat
          · refine .inr (.inl ⟨by omega, ⟨a.block, a.off + i * sz, none⟩, ?_⟩)
            rw [if_pos hcl, show h'.toNat - l.toNat = 0 by omega, show cap - l.toNat = 0 by omega]
          · refine .inr (.inr ⟨a, bs, cap - l.toNat, rfl, ?_, by omega, ?_⟩)
            · simp [hcl, add_plain, Nat.add_mul, Nat.add_assoc]
            · have e1 : (i + l.toNat) * sz + (cap - l.toNat) * sz = i * sz + cap * sz := by
                rw [← Nat.add_mul, ← Nat.add_mul]; congr 1; omega
              omega
    · exact hc.elim
  · rename_i e sz rows ht
    obtain rfl := hmx rfl
    split at hc
    · rename_i l h' hl hh
      try simp only [hl, hh]
      obtain ⟨hsz, h0, h1, h2⟩ := hc
      cases hx with
      | nil _ A cap =>
        have e1 : l = 0 := by simp at h2; omega
        have e2 : h' = 0 := by simp at h2; omega
        subst e1 e2
        have hb := run_sliceBounds (P := P) (w := w) (b := true) (len := 0) (cap := cap) (optInt_run hlo hl) (optInt_run hhi hh) h0 h1 (by omega) (by omega)
        refine ⟨.slice (if cap = 0 then A else A.map (·.add (0 * sz))) 0 (cap - 0), ?_, ?_, rfl, rfl⟩
        · have hb' : (Instr.sliceBounds true 0 cap vlo vhi none).run P w = .ok (0, 0, cap) w := hb
          simp [Instr.sliceAt, Instr.slice, run_underlying (tk_sl ht), hb', run_sizeOf hsz]
        · simp only [Int.toNat_zero, Nat.sub_self, List.take_zero]; exact .nil _ _ _
      | @lst _ _ a len cap C T fz hs hM hb hr hle hc hcap hv hrel =>
        subst hle
        have hbb := run_sliceBounds (P := P) (w := w) (b := true) (len := rows.length) (cap := cap) (optInt_run hlo hl) (optInt_run hhi hh) h0 h1 h2 hcap
        have hlen : ((rows.drop l.toNat).take (h'.toNat - l.toNat)).length = h'.toNat - l.toNat := by simp; omega
        refine ⟨.slice (if cap = l.toNat then some a else (some a).map (·.add (l.toNat * sz))) (h'.toNat - l.toNat) (cap - l.toNat), ?_, ?_, rfl, rfl⟩
        · simp [Instr.sliceAt, Instr.slice, run_underlying (tk_sl ht), hbb, run_sizeOf hsz]
        · by_cases hcl : cap = l.toNat
          · have e0 : h'.toNat - l.toNat = 0 := by omega
            simp only [e0, List.take_zero]; exact .nil _ _ _
          · have hr' : ∀ r ∈ (rows.drop l.toNat).take (h'.toNat - l.toNat), r.length = sz := fun r hr0 => hr r (List.mem_of_mem_drop (List.mem_of_mem_take hr0))
            have hm : (l.toNat + (h'.toNat - l.toNat)) * sz ≤ rows.length * sz := Nat.mul_le_mul_right _ (by omega)
            have hm' := Nat.add_mul l.toNat (h'.toNat - l.toNat) sz
            have e1 : (C.toList.drop (a.off + l.toNat * sz)).take ((h'.toNat - l.toNat) * sz) = (((C.toList.drop a.off).take (rows.length * sz)).drop (l.toNat * sz)).take ((h'.toNat - l.toNat) * sz) := by
              rw [List.drop_take, List.drop_drop, List.take_take]; congr 1; omega
            rw [if_neg hcl, Option.map_some, add_plain hs]
            refine .lst (a := ⟨a.block, a.off + l.toNat * sz, none⟩) rfl hM hb hr' hlen.symm (by rw [hlen]; simp only; omega) (by omega) ?_ ?_
            · intro u hu
              rw [hlen, e1] at hu
              exact hv u (List.mem_of_mem_drop (List.mem_of_mem_take hu))
            · rw [hlen]; simp only; rw [e1, flatten_take (fun r hr0 => hr r (List.mem_of_mem_drop hr0)), flatten_drop hr]
              exact (hrel.drop _).take _
    · exact hc.elim
  · rename_i s ht
    obtain rfl := hmx rfl
    split at hc
    · rename_i l h' hl hh
      try simp only [hl, hh]
      obtain ⟨h0, h1, h2⟩ := hc
      cases hx
      have hb := run_sliceBounds (P := P) (w := w) (b := false) (len := s.size) (cap := s.size) (optInt_run hlo hl) (optInt_run hhi hh) h0 h1 (by simpa using h2) (Nat.le_refl _)
      exact ⟨_, by simp [Instr.sliceAt, Instr.slice, run_underlying (tk_string ht), hb], .v _, rfl, rfl⟩
    · exact hc.elim
  · exact hc.elim
end reads
end Go.Av
