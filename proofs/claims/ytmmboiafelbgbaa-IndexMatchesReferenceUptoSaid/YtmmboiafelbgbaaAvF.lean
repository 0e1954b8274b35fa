/- Our library, part 13: code is sound. -/
import Derived.Test.YtmmboiafelbgbaaAvD
set_option linter.unusedSimpArgs false
set_option linter.unusedVariables false
namespace Go.Av
open Go

/-- CODE. -/
theorem awp_sound {P : Program} (hmix : P.follows .mixedOrders = true) {B : Base} {N : Nat} {D : List Deferred} {r : Option Nat} {m : Nat} : ∀ {c : Code} {Q : Post}, dstB N c = true → ∀ {φ : Place} {e : Env} {h : Heap} {n : Nat} {a : Act} {w : World},
    SR B N D φ e h n a w → awp P B.n0 c Q e h n → c.wpIn (WF r) m P (SQ B N D Q) a w := by
  intro c
  induction c with
  | skip => intro Q _ φ e h n a w hs hh; exact wpIn_skip ⟨φ, e, h, n, hs, hh⟩
  | label l => intro Q _ φ e h n a w hs hh; exact wpIn_label ⟨φ, e, h, n, hs, hh⟩
  | region id ops draw =>
    intro Q hd φ e h n a w hs hh
    cases draw with
    | false =>
      refine wpIn_region ?_
      rw [List.range_eq_range']
      refine aops_sound (fun o ho => ?_) ops.size 0 (by omega) hs hh
      simp only [dstB, List.all_eq_true] at hd
      have := hd o ho
      split at this <;> simp_all
    | true =>
      refine adraw_sound hmix (fun o ho => ?_) hs hh
      simp only [dstB, List.all_eq_true] at hd
      have := hd o ho
      split at this <;> simp_all
  | seq x y ihx ihy =>
    intro Q hd φ e h n a w hs hh
    simp only [dstB, Bool.and_eq_true] at hd
    refine wpIn_seq (wpIn_mono (ihx hd.1 hs hh) ?_)
    rintro ex a' w' ⟨φ', e', h', n', hs', hq⟩
    cases ex with
    | normal => exact ihy hd.2 hs' hq
    | _ => exact ⟨φ', e', h', n', hs', hq⟩
  | cond o x y ihx ihy =>
    intro Q hd φ e h n a w hs hh
    simp only [dstB, Bool.and_eq_true] at hd
    unfold awp at hh
    split at hh
    · rename_i t ht
      have hr := rel_ev hs.env o
      rw [ht] at hr
      generalize hq : a.eval o = q at hr
      cases hr
      cases t with
      | true => exact wpIn_cond hq (ihx hd.1 hs (hh.1 rfl))
      | false => exact wpIn_cond hq (ihy hd.2 hs (hh.2 rfl))
    · exact hh.elim
  | block id x ih =>
    intro Q hd φ e h n a w hs hh
    refine wpIn_block (wpIn_mono (ih hd hs hh) ?_)
    rintro ex a' w' ⟨φ', e', h', n', hs', hq⟩
    cases ex with
    | exit id' =>
      simp only [QBlock] at hq
      simp only [Exit.inBlock]
      split at hq
      · rename_i e0; rw [if_pos e0]; exact ⟨φ', e', h', n', hs', hq⟩
      · rename_i e0; rw [if_neg e0]; exact ⟨φ', e', h', n', hs', hq⟩
    | _ => exact ⟨φ', e', h', n', hs', hq⟩
  | loop x ih =>
    intro Q hd φ e h n a w hs hh b k cs hro hb hr
    have key := hh (fun e h n => ∀ φ a w, SR B N D φ e h n a w →
      ∃ ex a' w', SQ B N D Q ex a' w' ∧ ArrivesIn (Machine.fenced P (WF r)) P (lone (b.atR a (.code x :: .inLoop x :: k)) cs w) b k cs ex a' w') ?_ ?_ φ a w hs
    · obtain ⟨ex, a', w', hq, harr⟩ := key
      exact ⟨ex, a', w', hq, .of_steps (.one (fenced_calm hb hr rfl) stepR_loop) harr⟩
    · intro e h n hB φ a w hs
      obtain ⟨ex, a₁, w₁, ⟨φ', e', h', n', hs', hq⟩, harr⟩ := ih hd hs hB b (.inLoop x :: k) cs hro hb hr
      cases ex with
      | normal =>
        obtain ⟨ex, a₂, w₂, hq₂, harr₂⟩ := hq φ' a₁ w₁ hs'
        exact ⟨ex, a₂, w₂, hq₂, .of_steps (StepsIn.trans harr (.one (fenced_calm (fr := b.atR a₁ (.inLoop x :: k)) hb hr rfl) stepR_inLoop)) harr₂⟩
      | exit id => exact ⟨_, a₁, w₁, ⟨φ', e', h', n', hs', hq⟩, .pass (x := .inLoop x) rfl (fun _ _ => .inl (by simp)) harr⟩
      | goto l => exact ⟨_, a₁, w₁, ⟨φ', e', h', n', hs', hq⟩, .pass (x := .inLoop x) rfl (fun _ _ => .inl (by simp)) harr⟩
      | ret => exact ⟨_, a₁, w₁, ⟨φ', e', h', n', hs', hq⟩, .pass (x := .inLoop x) rfl (fun _ _ => .inl (by simp)) harr⟩
      | panic ch => exact ⟨_, a₁, w₁, ⟨φ', e', h', n', hs', hq⟩, .pass (x := .inLoop x) rfl (fun _ _ => .inl (by simp)) harr⟩
      | outgrown => exact ⟨_, a₁, w₁, ⟨φ', e', h', n', hs', hq⟩, .pass (x := .inLoop x) rfl (fun _ _ => .inl (by simp)) harr⟩
    · intro e h n E HH n' hk hn hX φ a w hs
      obtain ⟨φ', h1, h2, h3, h4⟩ := hk.sound hs.heap hs.env
      refine hX φ' a w ⟨h2, hs.size, hs.defs, h1, ?_⟩
      refine ⟨?_, fun k hk => ?_, hs.step.fr, fun k hk => hs.step.mutd k (h3 k hk)⟩
      · intro o x hx
        obtain ⟨x', hx', l1, l2⟩ := hs.step.le o x hx
        have : o < B.n0 := Nat.lt_of_not_le fun hle => by rw [B.fresh o hle] at hx; cases hx
        exact ⟨x', h4 o x' (by omega) hx', l1, l2⟩
      · rcases hk with hk | hk
        · exact hs.step.or k (.inl hk)
        · exact hs.step.or k (.inr (h3 k hk))
  | exit id => intro Q _ φ e h n a w hs hh; exact wpIn_exit ⟨φ, e, h, n, hs, hh⟩
  | ret => intro Q _ φ e h n a w hs hh; exact wpIn_ret ⟨φ, e, h, n, hs, hh⟩
  | _ => intro Q _ φ e h n a w hs hh; exact hh.elim
end Go.Av
