/- Contracts, part 4: pos.Valid. -/
import Derived.Test.YtmmboiafelbgbaaC3

set_option linter.unusedSimpArgs false
set_option linter.unusedVariables false
open Go Go.Proofs
set_option maxRecDepth 20000
namespace Go.Av
def posOk (g : GameD) (p : PosD) : Bool :=
  decide ((p.at_.length : Int) = g.cells) && !(p.at_.any fun x => !contOk g x) && handOk g p.h0 && handOk g p.h1 && decide (0 ≤ p.rights) && decide (p.rights < 2 ^ g.rights.toNat) && (decide (p.side = 0) || decide (p.side = 1))
def FitsR (g : GameD) : Prop := 0 ≤ g.rights ∧ g.rights ≤ 60
theorem Valid_pure (g : GameD) (hg : FitsG g) (hr : FitsR g) (p : PosD) (hp : FitsP p) : Pure Try.prog 74 [.agg (encGame g), .agg (encPos p)] (.v (.bool (posOk g p))) := by
  refine Pure.of (ACallP.of_awp (by kernel_rfl) Try.func74 rfl rfl (Nat.le_of_ble_eq_true rfl) (by kernel_rfl) ?_)
  obtain ⟨p1, p2, p3⟩ := hp
  obtain ⟨r1, r2⟩ := hr
  simp [go_sem]
  refine dGC.flat [encIs p.at_, .fn (.func 101) [] [.fp [.fn (.func 100) [.agg (encGame g)] []]]] (.v (.bool (p.at_.any fun x => !contOk g x))) [3]
    (fun _ => ContainsFunc_pure _ p1 _ [] _ _ (fun x _ => notContent_pure g hg x) (by simp) (by simp [go_sem])) (.v _) (fun h₁ hS => ?_) (by simp [go_sem]) ?_
  · have := hS 3 (by simp)
    simp [go_sem] at this
    simp only [List.nil_append, List.append_nil, encIs]
    exact .cons (.refl _) (.cons (.fn .nil (.cons (.frzP this.symm (by simp) (by simp) (by simp [noH]) (by simp [nth, go_sem])) .nil)) .nil)
  simp [go_sem]
  refine dGC.plain _ (fun _ => hand_pure g hg p.h0 p2) (by simp [go_sem]) ?_
  simp [go_sem]
  refine dGC.plain _ (fun _ => hand_pure g hg p.h1 p3) (by simp [go_sem]) ?_
  simp [go_sem]
  have hpow : (0 : Int) ≤ 2 ^ g.rights.toNat ∧ (2 : Int) ^ g.rights.toNat ≤ 1152921504606846976 := by
    have h1 : g.rights.toNat ≤ 60 := by omega
    have h2 : (2 : Int) ^ g.rights.toNat ≤ 2 ^ 60 := by have := Nat.pow_le_pow_right (n := 2) (by omega) h1; exact_mod_cast this
    exact ⟨Int.pow_nonneg (by omega), by simpa using h2⟩
  refine VC.mkD (by intros; omega) fun _ => ?_
  simp [go_sem]
  refine VC.mkD (fun a1 a2 a3 a4 a5 a6 => ⟨⟨⟨⟨⟨⟨a1, a2⟩, a3⟩, a4⟩, a5⟩, a6⟩, fun a7 => ⟨⟨⟨⟨⟨⟨a1, a2⟩, a3⟩, a4⟩, a5⟩, a6⟩, a7⟩⟩) fun _ => ?_
  simp [go_sem]
  refine dEnd.mk (by kernel_rfl) ?_
  simp [go_sem]
  exact LeV.of_eq (by simp [posOk])
end Go.Av
