/- Texts of ours, part 7: our library and contracts of functions. -/
import Derived.Test.YtedhfmmlhfmomaaGreatDoorB06
set_option linter.unusedSimpArgs false
set_option linter.unusedVariables false
set_option maxRecDepth 100000
set_option maxHeartbeats 40000000
section
open Go Go.Proofs
namespace Go.Av
theorem zdv (l : List Int) (hl : zeY l) : zgS Tryz.prog 124 [zap l] (fun n => .sl n 1 1 0 l.length) (fun n => [(n, .rows true 1 1 (l.map zbB))]) 1 := by
 refine ⟨zA5 (fun hne => zAJ (by kernel_rfl) Tryz.func124 rfl rfl (Nat.le_of_ble_eq_true rfl) (by kernel_rfl) ?_)
  (fun he A c => zAJ (by kernel_rfl) Tryz.func124 rfl rfl (Nat.le_of_ble_eq_true rfl) (by kernel_rfl) ?_), fun n => ⟨?_, ?_⟩⟩
 ·unfold zeY at hl
  obtain ⟨x, l, rfl⟩ := List.exists_cons_of_ne_nil (show l ≠ [] by intro h; subst h; exact hne rfl)
  simp only [List.length_cons] at hl
  simp [go_sem]
  refine zAZ (by omega) fun _ => ?_
  simp [go_sem, zaf]
 ·obtain rfl : l = [] := by simpa using he
  simp [go_sem]
  refine zAE (fun h => ?_) (fun h => ?_)
  ·simp at h
   subst h
   simp [go_sem, zaf]
  ·simp [go_sem, zaf]
 ·simp [go_sem]
 ·simp [go_sem]
def idxOf (p : Int → Bool) (l : List Int) : Int := match l.findIdx? p with | some i => (i : Int) | none => -1
theorem zxO {p : Int → Bool} {l : List Int} {j : Nat} (hj : j < l.length) (h : ∀ i, i < j → p (nth l i) = false) (hp : p (nth l j) = true) : idxOf p l = j := by
 have : l.findIdx? p = some j := by
  rw [List.findIdx?_eq_some_iff_getElem]
  refine ⟨hj, by rw [← zau _ _ hj]; exact hp, fun i hi => ?_⟩
  have := h i hi
  rw [zau _ _ (by omega)] at this
  simp [this]
 simp [idxOf, this]
theorem zsH {p : Int → Bool} {l : List Int} (h : ∀ i, i < l.length → p (nth l i) = false) : idxOf p l = -1 := by
 have : l.findIdx? p = none := by
  rw [List.findIdx?_eq_none_iff]
  intro x hx
  obtain ⟨i, hi, rfl⟩ := List.getElem_of_mem hx
  have := h i hi
  rw [zau _ _ hi] at this
  exact this
 simp [idxOf, this]
theorem zvo {p : Int → Bool} {l : List Int} : decide (0 ≤ idxOf p l) = l.any p := by
 unfold idxOf
 cases h : l.findIdx? p with
 | none =>
  rw [List.findIdx?_eq_none_iff] at h
  simp
  simpa using h
 | some i =>
  have := List.findIdx?_isSome (xs := l) (p := p)
  rw [h] at this
  simp at this ⊢
  exact this
theorem zkb (l : List Int) (hl : zeY l) (f : FuncId) (first caps : List AV) (p : Int → Bool) (hp : ∀ x ∈ l, zaP Tryz.prog f (first ++ .v (.int .i64 x) :: caps) (.v (.bool (p x)))) (hb : ∀ c ∈ first, Bel 0 c) (hb' : ∀ c ∈ caps, Bel 0 c) :
  zaP Tryz.prog 191 [zap l, .fn (.func f) first caps] (.v (.int .i64 (idxOf p l))) := by
 refine pF Tryz.func191 ?_
 unfold zeY at hl
 simp [go_sem]
 refine zAC (zAG (α := Nat) (fun j => ⟨[(0, zap l), (1, .fn (.func f) first caps), (7, .v (.int .i64 l.length)), (8, .v (.int .i64 j))], [], 0⟩)
  (fun d j => j + d = l.length ∧ (∀ i < j, p (nth l i) = false)) ?_ l.length 0 ?_) ?_ ?_
 ·rintro d j ⟨i1, i2⟩ hrec
  simp [go_sem]
  refine zAE (fun hj => ?_) (fun hj => ?_)
  ·simp at hj
   simp [go_sem]
   refine zAZ hj fun _ => ?_
   simp [go_sem, hj]
   refine zAD (hp _ (zaj hj)) (fun c hc => by
    rcases List.mem_append.1 hc with h | h
    ·exact hb c h
    ·rcases List.mem_cons.1 h with rfl | h
     ·exact .v _
     ·exact hb' c h) ?_
   simp [go_sem]
   refine zAE (fun h => ?_) (fun h => ?_)
   ·simp [go_sem, zxO hj i2 h]
   ·simp [go_sem]
    refine zAZ (by omega) fun _ => ?_
    simp [go_sem]
    refine zAC (hrec (d - 1) (by omega) (j + 1) ⟨by omega, fun i hi => ?_⟩) ?_ (by simp)
    ·rcases Nat.lt_or_ge i j with h' | h'
     ·exact i2 i h'
     ·obtain rfl : i = j := by omega
      exact h
    ·simp [go_sem, zaf]
     exact ⟨hb, hb'⟩
  ·simp at hj
   simp [go_sem, zsH fun i hi => i2 i (by omega)]
 ·simp
 ·simp [go_sem, zaf]
  exact ⟨hb, hb'⟩
 ·simp
theorem zgT (l : List Int) (hl : zeY l) (f : FuncId) (first caps : List AV) (p : Int → Bool) (hp : ∀ x ∈ l, zaP Tryz.prog f (first ++ .v (.int .i64 x) :: caps) (.v (.bool (p x)))) (hb : ∀ c ∈ first, Bel 0 c) (hb' : ∀ c ∈ caps, Bel 0 c) :
  zaP Tryz.prog 136 [zap l, .fn (.func f) first caps] (.v (.bool (l.any p))) := by
 refine pF Tryz.func136 ?_
 simp [go_sem]
 refine zAD (zkb l hl f first caps p hp hb hb') (by simp [go_sem]; exact ⟨hb, hb'⟩) ?_
 simp [go_sem, zvo]
theorem zgr {n : Nat} {α : Type} {f : α → List AV} {l : List α} {sz : Nat} (h : ∀ x, ∀ c ∈ f x, Bel n c) : Bel n (.lst sz (l.map f)) := by
 refine .lst fun r hr c hc => ?_
 obtain ⟨x, _, rfl⟩ := List.mem_map.1 hr
 exact h x c hc
theorem zuE {n : Nat} {l : List zfU} : Bel n (.lst 3 (l.map zaV)) = True := eq_true (zgr fun k c hc => by
 simp only [zaV, List.mem_cons, List.mem_nil_iff, or_false] at hc
 rcases hc with rfl | rfl | rfl
 ·exact .v _
 ·refine zgr fun p c hc => ?_
  simp only [List.mem_cons, List.mem_nil_iff, or_false] at hc
  subst hc
  exact zgr fun s c hc => by
   simp only [zaO, List.mem_cons, List.mem_nil_iff, or_false] at hc
   rcases hc with rfl | rfl <;> exact .v _
 ·exact .v _)
theorem zpM {n : Nat} {l : List (Int × Int × Int × Int)} : Bel n (.lst 4 (l.map zaZ)) = True := eq_true (zgr fun k c hc => by
 simp only [zaZ, List.mem_cons, List.mem_nil_iff, or_false] at hc
 rcases hc with rfl | rfl | rfl | rfl <;> exact .v _)
theorem zzE {n : Nat} {l : List (List Int)} : Bel n (.lst 1 (l.map fun l => [.lst 1 (l.map zbB)])) = True := eq_true (zgr fun k c hc => by
 simp only [List.mem_cons, List.mem_nil_iff, or_false] at hc
 subst hc
 exact of_eq_true zqT)
attribute [go_sem high] zuE zpM zzE
def zkV (g : zad) (x : Int) : Bool := decide (0 ≤ x) && decide (x ≤ 2 * g.kinds.length)
def zgU (g : zad) : Prop := g.kinds.length ≤ 1000000
theorem znG (g : zad) (hg : zgU g) (x : Int) : zaP Tryz.prog 134 [.agg (zae g), .v (.int .i64 x)] (.v (.bool (zkV g x))) := by
 refine pF Tryz.func134 ?_
 unfold zgU at hg
 simp [go_sem]
 refine zAZ (by omega) fun _ => ?_
 simp [go_sem, zkV]
theorem zjy (g : zad) (hg : zgU g) (x : Int) : zaP Tryz.prog 135 [.v (.int .i64 x), .fp [.fn (.func 134) [.agg (zae g)] []]] (.v (.bool !zkV g x)) := by
 refine pF Tryz.func135 ?_
 simp [go_sem]
 refine zAD (znG g hg x) (by simp [go_sem]) ?_
 simp [go_sem]
def zb5 : List Int → List zfU → Bool
 | x :: l, k :: ks => decide (0 ≤ x) && decide (x ≤ 8) && (!decide (0 < x) || k.keep) && zb5 l ks
 | _, _ => true
def zdH (g : zad) (l : List Int) : Bool := decide (l.length = g.kinds.length) && zb5 l g.kinds
theorem zod (g : zad) (hg : zgU g) (l : List Int) (hl : zeY l) : zaP Tryz.prog 137 [.agg (zae g), zap l] (.v (.bool (zdH g l))) := by
 refine pF Tryz.func137 ?_
 unfold zgU at hg
 unfold zeY at hl
 simp [go_sem]
 refine zAE (fun hn => ?_) (fun hn => ?_)
 ·simp at hn
  have hn' : l.length ≠ g.kinds.length := by omega
  simp [go_sem, zdH, hn']
 ·simp at hn
  have hn' : l.length = g.kinds.length := by omega
  simp [go_sem]
  have hk : zdH g l = zb5 l g.kinds := by simp [zdH, hn']
  rw [hk]
  refine zAC (zAG (α := Nat) (fun j => ⟨[(2, .ref 0 0 9 0 0), (14, zap l), (15, .v (.int .i64 l.length)), (16, .v (.int .i64 j))], [(0, .rows true 0 9 [zae g])], 1⟩)
   (fun d j => j + d = l.length ∧ zb5 l g.kinds = zb5 (l.drop j) (g.kinds.drop j)) ?_ l.length 0 ?_) ?_ ?_
  ·rintro d j ⟨i1, i2⟩ hrec
   simp [go_sem]
   refine zAE (fun hj => ?_) (fun hj => ?_)
   ·simp at hj
    have hj2 : j < g.kinds.length := by omega
    rw [ze6 hj, show g.kinds.drop j = nth g.kinds j :: g.kinds.drop (j + 1) by rw [List.drop_eq_getElem_cons hj2, zau _ _ hj2], zb5] at i2
    simp [go_sem]
    refine zAZ hj fun _ => ?_
    simp [go_sem, hj]
    refine zAZ (by intros; omega) fun _ => ?_
    simp [go_sem, hj2]
    refine zAZ (by intros; omega) fun _ => ?_
    simp [go_sem]
    refine zAE (fun hb => ?_) (fun hb => ?_)
    ·have : zb5 l g.kinds = false := by
      rw [i2]; generalize nth l j = x at *; generalize (nth g.kinds j).keep = y at *
      cases y <;> simp at hb ⊢ <;> omega
     simp [go_sem, this]
    ·have : zb5 l g.kinds = zb5 (List.drop (j + 1) l) (List.drop (j + 1) g.kinds) := by
      rw [i2]; generalize nth l j = x at *; generalize (nth g.kinds j).keep = y at *
      cases y <;> simp at hb ⊢ <;> omega
     simp [go_sem]
     refine zAZ (by omega) fun _ => ?_
     simp [go_sem]
     refine zAC (hrec (d - 1) (by omega) (j + 1) ⟨by omega, this⟩) ?_ (by simp)
     simp [go_sem, zaf]
   ·simp at hj
    rw [List.drop_eq_nil_of_le hj] at i2
    have : zb5 l g.kinds = true := by rw [i2]; rfl
    simp [go_sem, this]
  ·simp
  ·simp [go_sem, zaf]
  ·simp
def zfi (g : zad) (p : zag) : Bool :=
 decide ((p.at_.length : Int) = g.cells) && !(p.at_.any fun x => !zkV g x) && zdH g p.h0 && zdH g p.h1 && decide (0 ≤ p.rights) && decide (p.rights < 2 ^ g.rights.toNat) && (decide (p.side = 0) || decide (p.side = 1))
def FitsR (g : zad) : Prop := 0 ≤ g.rights ∧ g.rights ≤ 60
theorem zkL (g : zad) (hg : zgU g) (hr : FitsR g) (p : zag) (hp : zaK p) : zaP Tryz.prog 74 [.agg (zae g), .agg (zac p)] (.v (.bool (zfi g p))) := by
 refine pF Tryz.func74 ?_
 obtain ⟨p1, p2, p3⟩ := hp
 obtain ⟨r1, r2⟩ := hr
 simp [go_sem]
 try ((with_reducible refine wZ ?_); (try simp [go_sem]))
 refine zBe [zap p.at_, .fn (.func 135) [] [.fp [.fn (.func 134) [.agg (zae g)] []]]] (.v (.bool (p.at_.any fun x => !zkV g x))) [3]
  (fun _ => zgT _ p1 _ [] _ _ (fun x _ => zjy g hg x) (by simp) (by simp [go_sem])) (.v _) (fun h₁ hS => ?_) (by simp [go_sem]) ?_
 ·have := hS 3 (by simp)
  simp [go_sem] at this
  simp only [List.nil_append, List.append_nil, zap]
  exact .cons (.refl _) (.cons (.fn .nil (.cons (.frzP this.symm (by simp) (by simp) (by simp [noH]) (by simp [nth, go_sem])) .nil)) .nil)
 simp [go_sem]
 try ((with_reducible refine wZ ?_); (try simp [go_sem]))
 refine zAO _ (fun _ => zod g hg p.h0 p2) (by simp [go_sem]) ?_
 simp [go_sem]
 try ((with_reducible refine wZ ?_); (try simp [go_sem]))
 refine zAO _ (fun _ => zod g hg p.h1 p3) (by simp [go_sem]) ?_
 simp [go_sem]
 have hpow : (0 : Int) ≤ 2 ^ g.rights.toNat ∧ (2 : Int) ^ g.rights.toNat ≤ 1152921504606846976 := by
  have h1 : g.rights.toNat ≤ 60 := by omega
  have h2 : (2 : Int) ^ g.rights.toNat ≤ 2 ^ 60 := by have := Nat.pow_le_pow_right (n := 2) (by omega) h1; exact_mod_cast this
  exact ⟨Int.pow_nonneg (by omega), by simpa using h2⟩
 try ((with_reducible refine wZ ?_); (try simp [go_sem]))
 refine zA3 (by intros; omega) fun _ => ?_
 simp [go_sem]
 try ((with_reducible refine wZ ?_); (try simp [go_sem]))
 refine zA3 (fun a1 a2 a3 a4 a5 a6 => ⟨⟨⟨⟨⟨⟨a1, a2⟩, a3⟩, a4⟩, a5⟩, a6⟩, fun a7 => ⟨⟨⟨⟨⟨⟨a1, a2⟩, a3⟩, a4⟩, a5⟩, a6⟩, a7⟩⟩) fun _ => ?_
 simp [go_sem]
 try ((with_reducible refine wZ ?_); (try simp [go_sem]))
 refine zkX.mk (by kernel_rfl) ?_
 simp [go_sem]
 exact zAP (by simp [zfi])
theorem zar {h h' : zao} {n : Nat} : ∀ {xs xs' ys ys' : List (List AV)}, zam h h' n xs xs' → zam h h' n ys ys' → zam h h' n (xs ++ ys) (xs' ++ ys')
 | [], _, _, _, .refl _, h2 => h2
 | [], _, _, _, .nil, h2 => h2
 | x :: xs, _, _, _, .refl _, h2 => .cons (.refl _ _ _ _) (zar (.refl xs) h2)
 | _ :: _, _, _, _, .cons a b, h2 => .cons a (zar b h2)
theorem zAN {h h' : zao} {n : Nat} {xs ys : List (List AV)} (e : xs = ys) : zam h h' n xs ys := e ▸ .refl _
def zbV : Option zbn → Option zbn
 | some (.rows _ g sz rs) => some (.rows false g sz rs)
 | none => none
def zbt (h : zao) (os : List Nat) : zao := fun o => if os.contains o then zbV (h o) else h o
theorem zsE (h : zao) (os : List Nat) (o : Nat) : zbt h os o = if os.contains o then zbV (h o) else h o := rfl
theorem zvk (mt : Bool) (g sz : Nat) (rs : List (List AV)) : zbV (some (.rows mt g sz rs)) = some (.rows false g sz rs) := rfl
theorem zcw (h : zao) (os : List Nat) : Frz h (zbt h os) := by
 intro o
 unfold zbt
 split
 ·cases ho : h o with
  | none => exact .inl rfl
  | some x =>
   cases x with
   | rows mt g sz rs =>
    cases mt with
    | true => exact .inr ⟨g, sz, rs, rfl, rfl⟩
    | false => exact .inl rfl
 ·exact .inl rfl
theorem zAL {P : Program} {f : FuncId} {args args' : List AV} {r : AV} {h : zao} {n : Nat} {K : zcy} (os : List Nat) (hp : zaP P f args' r) (hle : zan h (zbt h os) n args args') (hb : ∀ c ∈ args', Bel 0 c)
  (hk : K r (zbt h os) n) : zaa P f args h n K := zA4 (zbt h os) hp (zcw h os) hle hb hk
attribute [go_sem] zsE zvk
def zi0 (n : Int) : List AV := [.v (.int .u8 n)]
def zst (l : List Int) : AV := .lst 1 (l.map zi0)
theorem bel_U {n : Nat} {l : List Int} : (∀ r ∈ l.map zi0, ∀ c ∈ r, Bel n c) = True := by
 refine eq_true ?_
 intro r hr c hc
 obtain ⟨x, _, rfl⟩ := List.mem_map.1 hr
 simp only [zi0, List.mem_singleton] at hc
 subst hc; exact .v _
theorem bel_Us {n : Nat} {l : List Int} : Bel n (.lst 1 (l.map zi0)) = True := by rw [zbR, bel_U]
attribute [go_sem] zi0 zst
attribute [go_sem high] bel_Us
theorem zgK {g : zad} {p : zag} : zfi g p = true ↔ ((p.at_.length : Int) = g.cells ∧ (∀ x ∈ p.at_, 0 ≤ x ∧ x ≤ 2 * g.kinds.length) ∧ zdH g p.h0 = true ∧ zdH g p.h1 = true ∧ 0 ≤ p.rights ∧ p.rights < 2 ^ g.rights.toNat ∧ (p.side = 0 ∨ p.side = 1)) := by
 unfold zfi
 simp [zkV, and_assoc]
theorem zot {α : Type} [Inhabited α] {l : List α} {c : Nat} {x : α} (h : c < l.length) : nth (l.set c x) c = x := by simp [nth, h]
attribute [go_sem] zot
theorem zaQ {α : Type} [Inhabited α] {l : List α} {j : Nat} (h : j < l.length) : l.drop j = nth l j :: l.drop (j + 1) := by rw [List.drop_eq_getElem_cons h, zau _ _ h]
theorem zk9 (g : zad) (hg : zgU g) (l : List Int) (hl : l.length ≤ 9223372036854775807) : zaP Tryz.prog 87 [.agg (zae g), zap l] (.v (.bool (zdH g l))) := by
 refine pF Tryz.func87 ?_
 unfold zgU at hg
 repeat first|refine wV fun _=>?_|simp [go_sem]
 refine zAE (fun hn => ?_) (fun hn => ?_) <;> simp at hn
 ·have e : zdH g l = false := by simp [zdH]; intro h; omega
  rw [e]
  repeat first|refine wV fun _=>?_|simp [go_sem]
 ·repeat first|refine wV fun _=>?_|simp [go_sem]
  have e : zdH g l = zb5 l g.kinds := by simp [zdH]; intro; omega
  rw [e]
  refine zAC (zAG (α := Nat) (fun j => ⟨[(1, zap l), (2, .ref 0 0 9 0 0), (5, .v (.int .i64 j))], [(0, .rows true 0 9 [zae g])], 1⟩)
   (fun d j => j + d = l.length ∧ zb5 l g.kinds = zb5 (l.drop j) (g.kinds.drop j)) ?_ l.length 0 ?_) ?_ ?_
  ·rintro d j ⟨i1, i2⟩ hrec
   repeat first|refine wV fun _=>?_|simp [go_sem]
   refine zAE (fun hj => ?_) (fun hj => ?_) <;> simp at hj
   ·have hjk : j < g.kinds.length := by omega
    rw [zaQ hj, zaQ hjk, zb5] at i2
    generalize hR : zb5 (List.drop (j + 1) l) (List.drop (j + 1) g.kinds) = R at *
    cases hkp : (nth g.kinds j).keep
    ·rw [hkp] at i2
     repeat first|refine wV fun _=>?_|simp [go_sem, hj, hjk, hkp]
     refine zAE (fun hb => ?_) (fun hb => ?_) <;> simp at hb
     ·have e2 : zb5 l g.kinds = false := by rw [i2]; simp; intros; omega
      rw [e2]
      repeat first|refine wV fun _=>?_|simp [go_sem]
     ·have e2 : zb5 l g.kinds = R := by
       rw [i2]
       simp [show 0 ≤ nth l j by omega, show nth l j ≤ 8 by omega, show ¬ 0 < nth l j by omega]
      repeat first|refine wV fun _=>?_|simp [go_sem]
      refine zAC (hrec (d - 1) (by omega) (j + 1) ⟨by omega, by rw [e2, hR]⟩) ?_ (by simp)
      simp [go_sem, zaf]
    ·rw [hkp] at i2
     repeat first|refine wV fun _=>?_|simp [go_sem, hj, hjk, hkp]
     refine zAE (fun hb => ?_) (fun hb => ?_) <;> simp at hb
     ·have e2 : zb5 l g.kinds = false := by rw [i2]; simp; intros; omega
      rw [e2]
      repeat first|refine wV fun _=>?_|simp [go_sem]
     ·have e2 : zb5 l g.kinds = R := by
       rw [i2]
       simp [show 0 ≤ nth l j by omega, show nth l j ≤ 8 by omega]
      repeat first|refine wV fun _=>?_|simp [go_sem]
      refine zAC (hrec (d - 1) (by omega) (j + 1) ⟨by omega, by rw [e2, hR]⟩) ?_ (by simp)
      simp [go_sem, zaf]
   ·rw [List.drop_eq_nil_of_le hj, show ∀ ks, zb5 [] ks = true from fun ks => by simp [zb5]] at i2
    rw [i2]
    repeat first|refine wV fun _=>?_|simp [go_sem]
  ·exact ⟨by simp, rfl⟩
  ·simp [go_sem, zaf]
  ·simp
theorem zph (g : zad) (hg : zgU g) (hr : FitsR g) (p : zag) (hp : zaK p) : zaP Tryz.prog 35 [.agg (zae g), .agg (zac p)] (.v (.bool (zfi g p))) := by
 refine pF Tryz.func35 ?_
 obtain ⟨p1, p2, p3⟩ := hp
 obtain ⟨r1, r2⟩ := hr
 have hpow : (0 : Int) ≤ 2 ^ g.rights.toNat ∧ (2 : Int) ^ g.rights.toNat ≤ 1152921504606846976 := by
  have h1 : g.rights.toNat ≤ 60 := by omega
  have h2 : (2 : Int) ^ g.rights.toNat ≤ 2 ^ 60 := by have := Nat.pow_le_pow_right (n := 2) (by omega) h1; exact_mod_cast this
  exact ⟨Int.pow_nonneg (by omega), by simpa using h2⟩
 unfold zgU at hg
 repeat first|refine wV fun _=>?_|simp [go_sem]
 refine zAO _ (fun _ => zk9 g hg p.h0 (by unfold zeY at p2; omega)) (by simp [go_sem]) ?_
 repeat first|refine wV fun _=>?_|simp [go_sem]
 refine zAO _ (fun _ => zk9 g hg p.h1 (by unfold zeY at p3; omega)) (by simp [go_sem]) ?_
 generalize hpw : (2 : Int) ^ g.rights.toNat = pw at *
 repeat first|refine wV fun _=>?_|simp [go_sem, hpw]
 unfold zeY at p1
 refine zAE (fun hv => ?_) (fun hv => ?_) <;> simp at hv
 ·have e : zfi g p = false := by
   rw [Bool.eq_false_iff]
   intro h
   obtain ⟨a1, a2, a3, a4, a5, a6, a7⟩ := zgK.1 h
   rw [hpw] at a6
   rw [a3, a4] at hv
   simp at hv
   omega
  rw [e]
  repeat first|refine wV fun _=>?_|simp [go_sem]
 ·have hn : ∀ x : Int, (∀ y ∈ p.at_, 0 ≤ y ∧ y ≤ 2 * g.kinds.length) → zfi g p = true := fun _ h => by
   rw [zgK, hpw]
   obtain ⟨⟨⟨⟨⟨⟨b1, b2⟩, b3⟩, b4⟩, b5⟩, b6⟩, b7⟩ := hv
   exact ⟨b1, h, b2, b3, b4, b5, by omega⟩
  repeat first|refine wV fun _=>?_|simp [go_sem]
  refine zAC (zAG (α := Nat) (fun j => ⟨[(2, .ref 0 0 9 0 0), (3, .ref 1 0 5 0 0), (5, .v (.int .i64 j))], [(0, .rows true 0 9 [zae g]), (1, .rows true 0 5 [zac p])], 2⟩)
   (fun d j => j + d = p.at_.length ∧ ∀ i, i < j → 0 ≤ nth p.at_ i ∧ nth p.at_ i ≤ 2 * g.kinds.length) ?_ p.at_.length 0 ?_) ?_ ?_
  ·rintro d j ⟨i1, i2⟩ hrec
   repeat first|refine wV fun _=>?_|simp [go_sem]
   refine zAE (fun hj => ?_) (fun hj => ?_) <;> simp at hj
   ·repeat first|refine wV fun _=>?_|simp [go_sem, hj]
    refine zAE (fun hb => ?_) (fun hb => ?_) <;> simp at hb
    ·have e : zfi g p = false := by
      rw [Bool.eq_false_iff]
      intro h
      have := (zgK.1 h).2.1 _ (zaj hj)
      omega
     rw [e]
     repeat first|refine wV fun _=>?_|simp [go_sem]
    ·repeat first|refine wV fun _=>?_|simp [go_sem]
     refine zAC (hrec (d - 1) (by omega) (j + 1) ⟨by omega, fun i hi => ?_⟩) ?_ (by simp)
     ·rcases Nat.lt_or_ge i j with h | h
      ·exact i2 i h
      ·obtain rfl : i = j := by omega
       exact hb
     ·simp [go_sem, zaf]
   ·have e := hn 0 (fun y hy => by
     obtain ⟨i, hi, rfl⟩ := List.getElem_of_mem hy
     rw [← zau _ _ hi]
     exact i2 i (by omega))
    rw [e]
    repeat first|refine wV fun _=>?_|simp [go_sem]
  ·exact ⟨by simp, fun i hi => by omega⟩
  ·simp [go_sem, zaf]
  ·simp
def zaI (l : List zag) : AV := .lst 5 (l.map zac)
attribute [go_sem] zaI
instance : Inhabited zag := ⟨⟨[], [], [], 0, 0⟩⟩
theorem zzB {n : Nat} {p : zag} : ∀ c ∈ zac p, Bel n c := by simp [go_sem]
theorem zsf {n : Nat} {l : List zag} : (∀ r ∈ l.map zac, ∀ c ∈ r, Bel n c) = True := by
 refine eq_true ?_
 intro r hr c hc
 obtain ⟨x, _, rfl⟩ := List.mem_map.1 hr
 exact zzB c hc
theorem zuy {n : Nat} {l : List zag} : Bel n (.lst 5 (l.map zac)) = True := by rw [zbR, zsf]
attribute [go_sem high] zuy
def zgB (l : List zag) (p : zag) : Nat → Nat → Nat → Int
 | 0, _, _ => -1
 | f + 1, lo, hi => if lo < hi then (if za7 p (nth l ((lo + hi) / 2)) = 0 then (((lo + hi) / 2 : Nat) : Int) else if za7 p (nth l ((lo + hi) / 2)) < 0 then zgB l p f lo ((lo + hi) / 2) else zgB l p f ((lo + hi) / 2 + 1) hi) else -1
def zxL (l : List zag) (p : zag) : Int := zgB l p (l.length + 1) 0 l.length
theorem ztP (l : List zag) (p : zag) (hl : l.length ≤ 1099511627776) (hf : ∀ q ∈ l, zaK q) (hp : zaK p) : zaP Tryz.prog 57 [zaI l, .agg (zac p)] (.v (.int .i64 (zxL l p))) := by
 refine pF Tryz.func57 ?_
 repeat first|refine wV fun _=>?_|simp [go_sem]
 refine zAC (zAG (α := Nat × Nat) (fun a => ⟨[(0, zaI l), (3, .ref 0 0 5 0 0), (5, .v (.int .i64 a.1)), (6, .v (.int .i64 a.2))], [(0, .rows true 0 5 [zac p])], 1⟩)
  (fun d a => a.2 ≤ l.length ∧ a.2 - a.1 < d ∧ zxL l p = zgB l p d a.1 a.2) ?_ (l.length + 1) (0, l.length) ?_) ?_ ?_
 ·rintro d ⟨lo, hi⟩ ⟨i1, i2, i3⟩ hrec
  simp only at i1 i2 i3
  obtain ⟨d, rfl⟩ : ∃ d', d = d' + 1 := ⟨d - 1, by omega⟩
  rw [zgB] at i3
  have hdiv : ((lo : Int) + hi).tdiv 2 = ((lo + hi) / 2 : Nat) := by rw [Int.tdiv_eq_ediv_of_nonneg (by omega)]; omega
  repeat first|refine wV fun _=>?_|simp [go_sem]
  refine zAE (fun hlt => ?_) (fun hlt => ?_) <;> simp at hlt
  ·rw [if_pos hlt] at i3
   have hm : (lo + hi) / 2 < l.length := by omega
   have hm2 : lo ≤ (lo + hi) / 2 ∧ (lo + hi) / 2 < hi := by omega
   generalize hmid : (lo + hi) / 2 = mid at *
   repeat first|refine wV fun _=>?_|simp [go_sem, hdiv, hm]
   refine zAF (zcE p (nth l mid) hp (hf _ (zaj hm))) (by simp [go_sem]) ?_
   generalize hc : za7 p (nth l mid) = c at *
   repeat first|refine wV fun _=>?_|simp [go_sem]
   refine zAE (fun hz => ?_) (fun hz => ?_) <;> simp at hz
   ·rw [if_pos hz] at i3
    rw [i3]
    repeat first|refine wV fun _=>?_|simp [go_sem]
   ·rw [if_neg hz] at i3
    repeat first|refine wV fun _=>?_|simp [go_sem]
    refine zAE (fun hn => ?_) (fun hn => ?_) <;> simp at hn
    ·rw [if_pos hn] at i3
     repeat first|refine wV fun _=>?_|simp [go_sem]
     refine zAC (hrec d (by omega) (lo, mid) ⟨by simp only; omega, by simp only; omega, i3⟩) ?_ (by simp)
     simp [go_sem, zaf]
    ·rw [if_neg (by omega)] at i3
     repeat first|refine wV fun _=>?_|simp [go_sem]
     refine zAC (hrec d (by omega) (mid + 1, hi) ⟨by simp only; omega, by simp only; omega, i3⟩) ?_ (by simp)
     simp [go_sem, zaf]
  ·rw [if_neg (by omega)] at i3
   rw [i3]
   repeat first|refine wV fun _=>?_|simp [go_sem]
 ·exact ⟨by simp, by simp, rfl⟩
 ·simp [go_sem, zaf]
 ·simp
end Go.Av
end
section
open Go Go.Proofs
namespace Go.Av
structure Cmp {α : Type} (c : α → α → Int) : Prop where
 swap : ∀ a b, c b a = - c a b
 eq : ∀ a b, c a b = 0 ↔ a = b
 tr : ∀ a b d, c a b ≤ 0 → c b d ≤ 0 → c a d ≤ 0
theorem zbM : Cmp za3 := by
 refine ⟨fun a b => ?_, fun a b => ?_, fun a b d => ?_⟩ <;> unfold za3 <;> (repeat' split) <;> omega
def zz9 (x y : Int) : Int := if x ≠ 0 then x else y
theorem Cmp.prod {α β : Type} {c : α → α → Int} {d : β → β → Int} (hc : Cmp c) (hd : Cmp d) : Cmp (fun (p q : α × β) => zz9 (c p.1 q.1) (d p.2 q.2)) := by
 refine ⟨fun p q => ?_, fun p q => ?_, fun p q r => ?_⟩
 ·have h1 := hc.swap p.1 q.1
  have h2 := hd.swap p.2 q.2
  simp only [zz9]
  split <;> split <;> omega
 ·have h1 := hc.eq p.1 q.1
  have h2 := hd.eq p.2 q.2
  simp only [zz9]
  constructor
  ·intro h
   split at h
   ·contradiction
   ·rename_i h0
    exact Prod.ext (h1.1 (by omega)) (h2.1 h)
  ·rintro rfl
   have a := h1.2 rfl
   have b := h2.2 rfl
   split <;> omega
 ·intro h1 h2
  simp only [zz9] at h1 h2 ⊢
  have e1 := hc.eq p.1 q.1
  have e2 := hc.eq q.1 r.1
  have e3 := hc.eq p.1 r.1
  have s1 := hc.swap p.1 q.1
  have s2 := hc.swap q.1 r.1
  have s3 := hc.swap p.1 r.1
  have t1 := hc.tr p.1 q.1 r.1
  have t2 := hd.tr p.2 q.2 r.2
  split at h1
  ·rename_i n1
   split at h2
   ·rename_i n2
    split
    ·omega
    ·rename_i n3
     have := e3.1 (by omega)
     rw [this] at h1 n1
     omega
   ·rename_i n2
    have := e2.1 (by omega)
    rw [this] at h1 n1
    rw [if_pos n1]; exact h1
  ·rename_i n1
   have := e1.1 (by omega)
   split at h2
   ·rename_i n2
    rw [← this] at h2 n2
    rw [if_pos n2]; exact h2
   ·rename_i n2
    rw [← this] at n2
    rw [if_neg n2]
    exact t2 h1 h2
theorem Cmp.pull {α β : Type} {c : β → β → Int} (hc : Cmp c) (f : α → β) (hf : ∀ a b, f a = f b → a = b) : Cmp (fun a b => c (f a) (f b)) :=
 ⟨fun a b => hc.swap _ _, fun a b => ⟨fun h => hf _ _ ((hc.eq _ _).1 h), fun h => (hc.eq _ _).2 (by rw [h])⟩, fun a b d => hc.tr _ _ _⟩
theorem zmh : Cmp zeb := by
 refine ⟨?_, ?_, ?_⟩
 ·intro a
  induction a with
  | nil => intro b; cases b with
   | nil => rfl
   | cons y b => simp only [zeb]; exact zbM.swap _ _
  | cons x a ih => intro b; cases b with
   | nil => simp only [zeb]; exact zbM.swap _ _
   | cons y b =>
    have := zbM.swap x y
    simp only [zeb]
    split
    ·rename_i h; rw [if_pos h.symm]; exact ih b
    ·rename_i h; rw [if_neg (fun e => h e.symm)]; exact this
 ·intro a
  induction a with
  | nil => intro b; cases b with
   | nil => simp [zeb, za3]
   | cons y b => simp [zeb, za3]
  | cons x a ih => intro b; cases b with
   | nil => simp [zeb, za3]; split <;> (try split) <;> omega
   | cons y b =>
    have := zbM.eq x y
    simp only [zeb]
    split
    ·rename_i h; rw [ih b]; simp [h]
    ·rename_i h; rw [this]; simp [h]
 ·intro a
  induction a with
  | nil => intro b d _ _; cases d with
   | nil => simp [zeb, za3]
   | cons z d => simp [zeb, za3]
  | cons x a ih =>
   intro b d h1 h2
   cases b with
   | nil => simp [zeb, za3] at h1; split at h1 <;> (try split at h1) <;> omega
   | cons y b =>
    cases d with
    | nil => simp [zeb, za3] at h2; split at h2 <;> (try split at h2) <;> omega
    | cons z d =>
     simp only [zeb] at h1 h2 ⊢
     have t := zbM.tr x y z
     have e1 := zbM.eq x z
     have s1 := zbM.swap y z
     have e2 := zbM.eq x y
     split at h1
     ·rename_i xy
      subst xy
      split at h2
      ·rename_i yz; subst yz; rw [if_pos rfl]; exact ih _ _ h1 h2
      ·rename_i yz; rw [if_neg yz]; exact h2
     ·rename_i xy
      split at h2
      ·rename_i yz; subst yz; rw [if_neg xy]; exact h1
      ·rename_i yz
       by_cases xz : x = z
       ·subst xz; omega
       ·rw [if_neg xz]; exact t h1 h2
def tupP (p : zag) : List Int × List Int × List Int × Int × Int := (p.at_, p.h0, p.h1, p.rights, p.side)
theorem zaM : Cmp za7 :=
 Cmp.pull (zmh.prod (zmh.prod (zmh.prod (zbM.prod zbM)))) tupP (fun a b h => by cases a; cases b; simp [tupP] at h; simp [h])
theorem zpO {p q : zag} : za7 p q = 0 ↔ p = q := zaM.eq p q
section sort
variable {α : Type} {c : α → α → Int} (hc : Cmp c)
def leC (c : α → α → Int) (a b : α) : Bool := decide (c a b ≤ 0)
def zcu (c : α → α → Int) (l : List α) : List α := l.mergeSort (leC c)
include hc
theorem zyX (a b d : α) (h1 : leC c a b = true) (h2 : leC c b d = true) : leC c a d = true := by
 simp only [leC, decide_eq_true_eq] at *
 exact hc.tr _ _ _ h1 h2
theorem zvv (a b : α) : (leC c a b || leC c b a) = true := by
 have := hc.swap a b
 simp only [leC, Bool.or_eq_true, decide_eq_true_eq]
 omega
theorem zxV {a b : α} (h1 : leC c a b = true) (h2 : leC c b a = true) : a = b := by
 have := hc.swap a b
 simp only [leC, decide_eq_true_eq] at *
 exact (hc.eq _ _).1 (by omega)
theorem zio (l : List α) : (zcu c l).Pairwise (fun a b => leC c a b = true) := List.pairwise_mergeSort (zyX hc) (zvv hc) l
theorem zfn {l r : List α} (hp : r.Perm l) (hs : r.Pairwise (fun a b => leC c a b = true)) : zcu c l = r :=
 List.Perm.eq_of_pairwise (fun a b _ _ h1 h2 => zxV hc h1 h2) (zio hc l) hs ((List.mergeSort_perm l _).trans hp.symm)
theorem zqy (a b : List α) : List.merge (zcu c a) (zcu c b) (leC c) = zcu c (a ++ b) :=
 (zfn hc ((List.merge_perm_append (le := leC c)).trans ((List.mergeSort_perm a _).append (List.mergeSort_perm b _)))
  (List.pairwise_merge (zyX hc) (zvv hc) _ _ (zio hc a) (zio hc b))).symm
omit hc in
theorem zlF (l : List α) : (zcu c l).Perm l := List.mergeSort_perm l _
omit hc in
theorem zen (l : List α) : (zcu c l).length = l.length := (zlF l).length_eq
omit hc in
theorem zeo {l : List α} {x : α} : x ∈ zcu c l ↔ x ∈ l := (zlF l).mem_iff
omit hc in
theorem zwj : zcu c [] = [] := by simp [zcu]
omit hc in
theorem zwk (a : α) : zcu c [a] = [a] := by simp [zcu]
omit hc in
theorem zjV {l : List α} (h : l.length < 2) : zcu c l = l := by
 match l, h with
 | [], _ => exact zwj
 | [a], _ => exact zwk a
end sort
section once
variable {α : Type} [DecidableEq α]
def zbc : α → List α → List α
 | _, [] => []
 | a, b :: l => if b = a then zbc a l else b :: zbc b l
def zbp : List α → List α
 | [] => []
 | a :: l => a :: zbc a l
theorem zez : ∀ {l : List α} {a x : α}, (x = a ∨ x ∈ zbc a l) ↔ (x = a ∨ x ∈ l)
 | [], a, x => by simp [zbc]
 | b :: l, a, x => by
  simp only [zbc]
  split
  ·rename_i h; subst h
   rw [zez (l := l)]
   simp
  ·have := zez (l := l) (a := b) (x := x)
   simp only [List.mem_cons]
   rw [this]
theorem zuV {l : List α} {x : α} : x ∈ zbp l ↔ x ∈ l := by
 cases l with
 | nil => simp [zbp]
 | cons a l => simp only [zbp, List.mem_cons]; exact zez
theorem zg2 : ∀ (l : List α) (a : α), (zbc a l).length ≤ l.length
 | [], a => by simp [zbc]
 | b :: l, a => by
  simp only [zbc]
  split
  ·have := zg2 l a; simp; omega
  ·have := zg2 l b; simp; omega
theorem zxB (l : List α) : (zbp l).length ≤ l.length := by
 cases l with
 | nil => simp [zbp]
 | cons a l => simp [zbp]; exact zg2 l a
theorem zg3 {c : α → α → Int} (hc : Cmp c) : ∀ {l : List α} {a : α}, (a :: l).Pairwise (fun a b => leC c a b = true) → (a :: zbc a l).Pairwise (fun a b => c a b < 0)
 | [], a, _ => by simp [zbc]
 | b :: l, a, h => by
  simp only [zbc]
  rw [List.pairwise_cons] at h
  obtain ⟨h1, h2⟩ := h
  split
  ·rename_i e; subst e; exact zg3 hc h2
  ·rename_i e
   have ih := zg3 hc h2
   rw [List.pairwise_cons]
   refine ⟨fun x hx => ?_, ih⟩
   have hx' : x = b ∨ x ∈ l := zez.1 (by simpa using hx)
   have hax : c a x ≤ 0 := by
    have := h1 x (by simpa using hx')
    simpa [leC] using this
   have hab : c a b ≤ 0 := by
    have := h1 b (by simp)
    simpa [leC] using this
   have hbx : c b x ≤ 0 := by
    rcases hx' with rfl | hm
    ·have := (hc.eq x x).2 rfl; omega
    ·rw [List.pairwise_cons] at h2
     have := h2.1 x hm
     simpa [leC] using this
   rcases Int.lt_or_eq_of_le hax with h | h
   ·exact h
   ·have ex := (hc.eq _ _).1 h
    subst ex
    have := hc.swap a b
    exact absurd ((hc.eq b a).1 (by omega)) e
def zaU (c : α → α → Int) (l : List α) : List α := zbp (zcu c l)
theorem zaS {c : α → α → Int} {l : List α} {x : α} : x ∈ zaU c l ↔ x ∈ l := by rw [zaU, zuV, zeo]
theorem zdY {c : α → α → Int} (hc : Cmp c) (l : List α) : (zaU c l).Pairwise (fun a b => c a b < 0) := by
 have h := zio hc l
 unfold zaU
 cases hs : zcu c l with
 | nil => simp [zbp]
 | cons a m => rw [hs] at h; exact zg3 hc h
theorem zda (c : α → α → Int) (l : List α) : (zaU c l).length ≤ l.length := by
 have := zxB (zcu c l)
 rw [zen] at this
 exact this
omit [DecidableEq α] in
theorem zlG {c : α → α → Int} (hc : Cmp c) : ∀ {l r : List α}, l.Pairwise (fun a b => c a b < 0) → r.Pairwise (fun a b => c a b < 0) → (∀ x, x ∈ l ↔ x ∈ r) → l = r
 | [], r, _, _, h => by
  cases r with
  | nil => rfl
  | cons b r => have := (h b).2 (by simp); simp at this
 | a :: l, [], _, _, h => by have := (h a).1 (by simp); simp at this
 | a :: l, b :: r, h1, h2, h => by
  rw [List.pairwise_cons] at h1 h2
  have irr : ∀ x : α, ¬ c x x < 0 := fun x hx => by have := (hc.eq x x).2 rfl; omega
  have ab : a = b := by
   rcases List.mem_cons.1 ((h a).1 (by simp)) with e | m
   ·exact e
   ·rcases List.mem_cons.1 ((h b).2 (by simp)) with e | m'
    ·exact e.symm
    ·have k1 := h2.1 a m
     have k2 := h1.1 b m'
     have := hc.swap a b
     omega
  subst ab
  rw [zlG hc h1.2 h2.2 (fun x => ?_)]
  constructor
  ·intro hx
   rcases List.mem_cons.1 ((h x).1 (List.mem_cons_of_mem _ hx)) with e | m
   ·subst e; exact absurd (h1.1 _ hx) (irr _)
   ·exact m
  ·intro hx
   rcases List.mem_cons.1 ((h x).2 (List.mem_cons_of_mem _ hx)) with e | m
   ·subst e; exact absurd (h2.1 _ hx) (irr _)
   ·exact m
theorem zbo {c : α → α → Int} (hc : Cmp c) {l r : List α} (hr : r.Pairwise (fun a b => c a b < 0)) (h : ∀ x, x ∈ l ↔ x ∈ r) : zaU c l = r :=
 zlG hc (zdY hc l) hr (fun x => by rw [zaS]; exact h x)
theorem zjW {c : α → α → Int} (hc : Cmp c) {l r : List α} (h : ∀ x, x ∈ l ↔ x ∈ r) : zaU c l = zaU c r :=
 zbo hc (zdY hc r) (fun x => by rw [zaS]; exact h x)
end once
end Go.Av
end
section
open Go Go.Proofs
namespace Go.Av
structure zaJ where
 cells : Int
 next : List (List Int)
 turn : List Int
 deriving DecidableEq
def zdC (b : zaJ) : List AV := [.v (.int .i64 b.cells), zbY b.next, zap b.turn]
attribute [go_sem] zdC
def zad.board (g : zad) : zaJ := ⟨g.cells, g.next, g.turn⟩
structure za1 (b : zaJ) : Prop where
 tl : b.turn.length = b.next.length
 tv : ∀ t ∈ b.turn, 0 ≤ t ∧ t < b.next.length
 nl : ∀ l ∈ b.next, (l.length : Int) = b.cells
 nv : ∀ l ∈ b.next, ∀ x ∈ l, -1 ≤ x ∧ x < b.cells
 c0 : 0 ≤ b.cells
 c1 : b.cells ≤ 1048576
 n1 : b.next.length ≤ 1048576
def toB (b : zaJ) (side d c : Int) : Int :=
 if side < 0 ∨ 1 < side ∨ d < 0 ∨ (b.next.length : Int) ≤ d ∨ c < 0 ∨ b.cells ≤ c then -1 else nth (nth b.next (if side = 1 then (nth b.turn d.toNat) else d).toNat) c.toNat
theorem zwu {b : zaJ} (hb : za1 b) (side d c : Int) : -1 ≤ toB b side d c ∧ toB b side d c < b.cells ∨ toB b side d c = -1 := by
 unfold toB
 split
 ·exact .inr rfl
 ·rename_i h
  left
  have hd : (if side = 1 then (nth b.turn d.toNat) else d).toNat < b.next.length := by
   split
   ·have := hb.tv _ (zaj (l := b.turn) (i := d.toNat) (by have := hb.tl; omega))
    omega
   ·omega
  have hl := hb.nl _ (zaj hd)
  exact hb.nv _ (zaj hd) _ (zaj (by omega))
theorem ziv (b : zaJ) (hb : za1 b) (side d c : Int) : zaP Tryz.prog 206 [.agg (zdC b), .v (.int .i64 side), .v (.int .i64 d), .v (.int .i64 c)] (.v (.int .i64 (toB b side d c))) := by
 refine pF Tryz.func206 ?_
 obtain ⟨tl, tv, nl, nv, c0, c1, n1⟩ := hb
 repeat first|refine wV fun _=>?_|simp [go_sem]
 refine zAE (fun hs => ?_) (fun hs => ?_) <;> simp at hs
 ·have e : toB b side d c = -1 := by unfold toB; rw [if_pos (by omega)]
  rw [e]
  repeat first|refine wV fun _=>?_|simp [go_sem]
 ·have hdt : d.toNat < b.next.length := by omega
  have hdu : d.toNat < b.turn.length := by omega
  have e : toB b side d c = nth (nth b.next (if side = 1 then (nth b.turn d.toNat) else d).toNat) c.toNat := by unfold toB; rw [if_neg (by omega)]
  repeat first|refine wV fun _=>?_|simp [go_sem]
  refine zAE (fun h1 => ?_) (fun h1 => ?_) <;> simp at h1
  ·rw [if_pos h1] at e
   have ht := tv _ (zaj hdu)
   have hn : (nth b.turn d.toNat).toNat < b.next.length := by omega
   have hl := nl _ (zaj hn)
   have hc : c.toNat < (nth b.next (nth b.turn d.toNat).toNat).length := by omega
   rw [e]
   repeat first|refine wV fun _=>?_|simp [go_sem, hdu, hn, hc]
  ·rw [if_neg h1] at e
   have hl := nl _ (zaj hdt)
   have hc : c.toNat < (nth b.next d.toNat).length := by omega
   rw [e]
   repeat first|refine wV fun _=>?_|simp [go_sem, hdt, hc]
theorem zic (b : zaJ) (hb : za1 b) (side d c : Int) : zaP Tryz.prog 243 [.agg (zdC b), .v (.int .i64 side), .v (.int .i64 d), .v (.int .i64 c)] (.v (.int .i64 (toB b side d c))) := by
 refine pF Tryz.func243 ?_
 obtain ⟨tl, tv, nl, nv, c0, c1, n1⟩ := hb
 repeat first|refine wV fun _=>?_|simp [go_sem]
 refine zAE (fun hs => ?_) (fun hs => ?_) <;> simp at hs
 ·have e : toB b side d c = -1 := by unfold toB; rw [if_pos (by omega)]
  rw [e]
  repeat first|refine wV fun _=>?_|simp [go_sem]
 ·have hdt : d.toNat < b.next.length := by omega
  have hdu : d.toNat < b.turn.length := by omega
  have e : toB b side d c = nth (nth b.next (if side = 1 then (nth b.turn d.toNat) else d).toNat) c.toNat := by unfold toB; rw [if_neg (by omega)]
  repeat first|refine wV fun _=>?_|simp [go_sem]
  refine zAE (fun h1 => ?_) (fun h1 => ?_) <;> simp at h1
  ·rw [if_pos h1] at e
   have ht := tv _ (zaj hdu)
   have hn : (nth b.turn d.toNat).toNat < b.next.length := by omega
   have hl := nl _ (zaj hn)
   have hc : c.toNat < (nth b.next (nth b.turn d.toNat).toNat).length := by omega
   rw [e]
   repeat first|refine wV fun _=>?_|simp [go_sem, hdu, hn, hc]
  ·rw [if_neg h1] at e
   have hl := nl _ (zaj hdt)
   have hc : c.toNat < (nth b.next d.toNat).length := by omega
   rw [e]
   repeat first|refine wV fun _=>?_|simp [go_sem, hdt, hc]
theorem zrB (l : List Int) (n : Int) (hl : l.length ≤ 1099511627776) : zaP Tryz.prog 252 [zap l, .v (.int .i64 n)] (.v (.bool (decide (n ∈ l)))) := by
 refine pF Tryz.func252 ?_
 generalize hr : decide (n ∈ l) = res
 repeat first|refine wV fun _=>?_|simp [go_sem]
 refine zAC (zAG (α := Nat) (fun j => ⟨[(0, zap l), (1, .v (.int .i64 n)), (5, .v (.int .i64 j))], [], 0⟩)
  (fun d j => j + d = l.length ∧ res = decide (n ∈ l.drop j)) ?_ l.length 0 ?_) ?_ ?_
 ·rintro d j ⟨i1, i2⟩ hrec
  repeat first|refine wV fun _=>?_|simp [go_sem]
  refine zAE (fun hj => ?_) (fun hj => ?_) <;> simp at hj
  ·rw [ze6 hj] at i2
   repeat first|refine wV fun _=>?_|simp [go_sem, hj]
   refine zAE (fun he => ?_) (fun he => ?_) <;> simp at he
   ·have e : res = true := by rw [i2, he]; simp
    rw [e]
    repeat first|refine wV fun _=>?_|simp [go_sem]
   ·have e : res = decide (n ∈ l.drop (j + 1)) := by rw [i2]; simp [Ne.symm he]
    repeat first|refine wV fun _=>?_|simp [go_sem]
    refine zAC (hrec (d - 1) (by omega) (j + 1) ⟨by omega, e⟩) ?_ (by simp)
    simp [go_sem, zaf]
  ·have e : res = false := by rw [i2, List.drop_eq_nil_of_le hj]; simp
   rw [e]
   repeat first|refine wV fun _=>?_|simp [go_sem]
 ·exact ⟨by simp, hr.symm⟩
 ·simp [go_sem, zaf]
 ·simp
def zhI (l : List Int) (n : Int) : Int := match l.findIdx? (· == n) with | some i => (i : Int) | none => -1
theorem zvp {n : Int} {l : List Int} {j : Nat} (hj : j < l.length) (h : ∀ i, i < j → nth l i ≠ n) (hp : nth l j = n) : zhI l n = j := by
 have : l.findIdx? (· == n) = some j := by
  rw [List.findIdx?_eq_some_iff_getElem]
  refine ⟨hj, by rw [← zau _ _ hj, hp]; simp, fun i hi => ?_⟩
  have := h i hi
  rw [zau _ _ (by omega)] at this
  simp [this]
 simp [zhI, this]
theorem zp2 {n : Int} {l : List Int} (h : ∀ i, i < l.length → nth l i ≠ n) : zhI l n = -1 := by
 have : l.findIdx? (· == n) = none := by
  rw [List.findIdx?_eq_none_iff]
  intro x hx
  obtain ⟨i, hi, rfl⟩ := List.getElem_of_mem hx
  have := h i hi
  rw [zau _ _ hi] at this
  simp [this]
 simp [zhI, this]
theorem zsI {l : List Int} {n : Int} : decide (0 ≤ zhI l n) = decide (n ∈ l) := by
 by_cases h : n ∈ l
 ·cases hf : l.findIdx? (· == n) with
  | none =>
   rw [List.findIdx?_eq_none_iff] at hf
   have := hf n h
   simp at this
  | some i => simp [zhI, hf, h]
 ·have : l.findIdx? (· == n) = none := by
   rw [List.findIdx?_eq_none_iff]
   intro x hx
   have : x ≠ n := fun e => h (e ▸ hx)
   simp [this]
  simp [zhI, this, h]
theorem zrv (l : List Int) (n : Int) (hl : l.length ≤ 1099511627776) : zaP Tryz.prog 307 [zap l, .v (.int .i64 n)] (.v (.int .i64 (zhI l n))) := by
 refine pF Tryz.func307 ?_
 repeat first|refine wV fun _=>?_|simp [go_sem]
 refine zAC (zAG (α := Nat) (fun j => ⟨[(0, zap l), (1, .v (.int .i64 n)), (7, .v (.int .i64 l.length)), (8, .v (.int .i64 j))], [], 0⟩)
  (fun d j => j + d = l.length ∧ ∀ i, i < j → nth l i ≠ n) ?_ l.length 0 ?_) ?_ ?_
 ·rintro d j ⟨i1, i2⟩ hrec
  repeat first|refine wV fun _=>?_|simp [go_sem]
  refine zAE (fun hj => ?_) (fun hj => ?_) <;> simp at hj
  ·repeat first|refine wV fun _=>?_|simp [go_sem, hj]
   refine zAE (fun he => ?_) (fun he => ?_) <;> simp at he
   ·rw [zvp hj i2 he.symm]
    repeat first|refine wV fun _=>?_|simp [go_sem]
   ·repeat first|refine wV fun _=>?_|simp [go_sem]
    refine zAC (hrec (d - 1) (by omega) (j + 1) ⟨by omega, fun i hi => ?_⟩) ?_ (by simp)
    ·rcases Nat.lt_or_ge i j with h | h
     ·exact i2 i h
     ·obtain rfl : i = j := by omega
      exact fun e => he e.symm
    ·simp [go_sem, zaf]
  ·rw [zp2 (fun i hi => i2 i (by omega))]
   repeat first|refine wV fun _=>?_|simp [go_sem]
 ·exact ⟨by simp, fun i hi => by omega⟩
 ·simp [go_sem, zaf]
 ·simp
theorem zlO (l : List Int) (n : Int) (hl : l.length ≤ 1099511627776) : zaP Tryz.prog 291 [zap l, .v (.int .i64 n)] (.v (.bool (decide (n ∈ l)))) := by
 refine pF Tryz.func291 ?_
 repeat first|refine wV fun _=>?_|simp [go_sem]
 refine zAD (zrv l n hl) (by simp [go_sem]) ?_
 rw [← zsI]
 repeat first|refine wV fun _=>?_|simp [go_sem]
def zdI (b : zaJ) (side d c : Int) : Nat → Int → List Int → List Int
 | 0, _, seen => seen
 | f + 1, x, seen => if 0 ≤ x ∧ x ≠ c ∧ ¬ x ∈ seen then zdI b side d c f (toB b side d x) (seen ++ [x]) else seen
def zf7 (b : zaJ) (side d c : Int) : List Int := zdI b side d c (b.cells.toNat + 1) (toB b side d c) []
theorem zfA : ∀ (n : Nat) (l : List Int), l.Nodup → (∀ x ∈ l, 0 ≤ x ∧ x < n) → l.length ≤ n
 | 0, l, _, h => by
  cases l with
  | nil => simp
  | cons x l => have := h x (by simp); omega
 | n + 1, l, hn, h => by
  by_cases hm : (n : Int) ∈ l
  ·have := zfA n (l.erase n) (hn.erase _) (fun x hx => by
    have h1 := (hn.mem_erase_iff).1 hx
    have := h x h1.2
    have := h1.1
    omega)
   rw [List.length_erase_of_mem hm] at this
   omega
  ·have := zfA n l hn (fun x hx => by
    have := h x hx
    have : x ≠ n := fun e => hm (e ▸ hx)
    omega)
   omega
theorem zeQ {b : zaJ} (hb : za1 b) (side d c : Int) : toB b side d c < b.cells := by
 have := hb.c0
 rcases zwu hb side d c with h | h <;> omega
theorem zo6 (b : zaJ) (hb : za1 b) (side d c : Int) : zaP Tryz.prog 208 [.agg (zdC b), .v (.int .i64 side), .v (.int .i64 d), .v (.int .i64 c)] (zap (zf7 b side d c)) := by
 refine pF Tryz.func208 ?_
 have hbl : ∀ n, (∀ c' ∈ zdC b, Bel n c') = True := fun n => by simp [go_sem]
 have hel : (zdC b).length = 3 := rfl
 have hT : ∀ x, zaP Tryz.prog 206 [.agg (zdC b), .v (.int .i64 side), .v (.int .i64 d), .v (.int .i64 x)] (.v (.int .i64 (toB b side d x))) := fun x => ziv b hb side d x
 obtain ⟨eb, heb⟩ : ∃ eb, eb = zdC b := ⟨_, rfl⟩
 rw [← heb] at hbl hel hT ⊢
 have hc1 := hb.c1
 have hc0 := hb.c0
 repeat first|refine wV fun _=>?_|simp [go_sem, hel]
 refine zAD (hT c) (by simp [go_sem, hbl]) ?_
 repeat first|refine wV fun _=>?_|simp [go_sem, hel]
 refine zAC (zAG (α := Int × List Int) (fun a => ⟨[(1, .v (.int .i64 side)), (2, .v (.int .i64 d)), (3, .v (.int .i64 c)), (4, .ref 0 0 3 0 0), (9, .sl 1 a.2.length 1 0 a.2.length), (10, .v (.int .i64 a.1))],
   [(0, .rows true 0 3 [eb]), (1, .rows true a.2.length 1 (a.2.map zbB))], 2⟩)
  (fun f a => f + a.2.length = b.cells.toNat + 1 ∧ a.1 < b.cells ∧ a.2.Nodup ∧ (∀ y ∈ a.2, 0 ≤ y ∧ y < b.cells) ∧ zf7 b side d c = zdI b side d c f a.1 a.2) ?_ (b.cells.toNat + 1) (toB b side d c, []) ?_) ?_ ?_
 ·rintro f ⟨x, seen⟩ ⟨i1, i2, i3, i4, i5⟩ hrec
  simp only at i1 i2 i3 i4 i5
  have hsl : seen.length ≤ b.cells.toNat := zfA _ _ i3 (fun y hy => by have := i4 y hy; omega)
  obtain ⟨f, rfl⟩ : ∃ f', f = f' + 1 := ⟨f - 1, by omega⟩
  rw [zdI] at i5
  repeat first|refine wV fun _=>?_|simp [go_sem, hel]
  refine zBc [zap seen, .v (.int .i64 x)] (.v (.bool (decide (x ∈ seen)))) (fun _ => zrB seen x (by omega)) (.v _) ?_ (by simp [go_sem]) ?_
  ·refine zan.cons ?_ (zan.cons (.refl _) zan.nil)
   refine LeV.frz rfl ?_ ?_ (zAN ?_) <;> simp [noH, List.take_of_length_le]
  ·repeat first|refine wV fun _=>?_|simp [go_sem, hel]
   refine zAE (fun hx => ?_) (fun hx => ?_) <;> simp at hx
   ·rw [if_pos (by simpa [and_assoc] using hx)] at i5
    repeat first|refine wV fun _=>?_|simp [go_sem, hel]
    refine zAD (hT x) (by simp [go_sem, hbl]) ?_
    repeat first|refine wV fun _=>?_|simp [go_sem, hel]
    refine zAC (hrec f (by omega) (toB b side d x, seen ++ [x]) ⟨by simp only [List.length_append, List.length_singleton]; omega, zeQ hb _ _ _, ?_, ?_, i5⟩) ?_ (by simp)
    ·refine List.nodup_append.2 ⟨i3, by simp, ?_⟩
     intro y hy z hz
     simp at hz
     subst hz
     rintro rfl
     exact hx.2 hy
    ·intro y hy
     rcases List.mem_append.1 hy with h | h
     ·exact i4 y h
     ·simp at h; omega
    ·simp [go_sem, zaf, hbl]
     (first|done|exact blX)
   ·rw [if_neg (by simpa [and_assoc] using hx)] at i5
    rw [i5]
    repeat first|refine wV fun _=>?_|simp [go_sem, hel]
    exact frX
 ·exact ⟨by simp, zeQ hb _ _ _, by simp, by simp, rfl⟩
 ·simp [go_sem, zaf, hbl]
 ·simp
def dxL : List Int := [0, 1, 1, 1, 0, -1, -1, -1]
def dyL : List Int := [-1, -1, 0, 1, 1, 1, 0, -1]
def zfz (w h : Int) (d : Nat) (c : Nat) : Int :=
  if (0 ≤ (c : Int).tmod w + nth dxL d ∧ (c : Int).tmod w + nth dxL d < w) ∧ 0 ≤ (c : Int).tdiv w + nth dyL d ∧ (c : Int).tdiv w + nth dyL d < h then ((c : Int).tdiv w + nth dyL d) * w + ((c : Int).tmod w + nth dxL d) else -1
def zdG (w h : Nat) (d : Nat) (n : Nat) : List Int := (List.range n).map (zfz w h d)
def zbK (w h : Nat) (d : Nat) : List (List Int) := (List.range d).map fun d => zdG w h d (w * h)
def zbL (d : Nat) : List Int := (List.range d).map fun i : Nat => Int.tmod ((i : Int) + 4) 8
def zc1 (w h : Nat) : zaJ := ⟨w * h, zbK w h 8, zbL 8⟩
theorem zhH (w h d n : Nat) : zdG w h d (n + 1) = zdG w h d n ++ [zfz w h d n] := by simp [zdG, List.range_succ]
theorem zmy (w h d : Nat) : zbK w h (d + 1) = zbK w h d ++ [zdG w h d (w * h)] := by simp [zbK, List.range_succ]
theorem zmz (d : Nat) : zbL (d + 1) = zbL d ++ [Int.tmod ((d : Int) + 4) 8] := by simp [zbL, List.range_succ]
theorem zo5 (w h : Nat) (hw : 1 ≤ w ∧ w ≤ 8) (hh : 1 ≤ h ∧ h ≤ 8) : zaP Tryz.prog 120 [.v (.int .i64 w), .v (.int .i64 h)] (.tup [.agg (zdC (zc1 w h)), .v (.int .i64 0)]) := by
  refine pF Tryz.func120 ?_
  have hwh : (w : Int) * h ≤ 64 := by
    have : w * h ≤ 8 * 8 := Nat.mul_le_mul hw.2 hh.2
    exact_mod_cast this
  have hwh0 : (1 : Int) ≤ (w : Int) * h := by
    have : 1 * 1 ≤ w * h := Nat.mul_le_mul hw.1 hh.1
    exact_mod_cast this
  obtain ⟨D, hD⟩ : ∃ D : Nat, D = w * h := ⟨_, rfl⟩
  have hD' : (w : Int) * h = D := by rw [hD]; simp
  rw [hD'] at hwh hwh0
  have e1 : (zdC (zc1 w h)) = [.v (.int .i64 D), zbY (zbK w h 8), zap (zbL 8)] := by simp [zdC, zc1, hD']
  rw [e1]
  have hdx : ∀ x ∈ dxL, -1 ≤ x ∧ x ≤ 1 := by decide
  have hdy : ∀ x ∈ dyL, -1 ≤ x ∧ x ≤ 1 := by decide
  have ldx : dxL.length = 8 := rfl
  have ldy : dyL.length = 8 := rfl
  have edx : dxL.map zbB = [[.v (.int .i64 0)], [.v (.int .i64 1)], [.v (.int .i64 1)], [.v (.int .i64 1)], [.v (.int .i64 0)], [.v (.int .i64 (-1))], [.v (.int .i64 (-1))], [.v (.int .i64 (-1))]] := rfl
  have edy : dyL.map zbB = [[.v (.int .i64 (-1))], [.v (.int .i64 (-1))], [.v (.int .i64 0)], [.v (.int .i64 1)], [.v (.int .i64 1)], [.v (.int .i64 1)], [.v (.int .i64 0)], [.v (.int .i64 (-1))]] := rfl
  have hst : ∀ d c, zfz w h d c = zfz w h d c := fun _ _ => rfl
  repeat first|refine wV fun _=>?_|simp [go_sem, hD']
  (refine zAE (fun hF => by first | omega | (simp at hF; omega)) (fun hF => ?_); clear hF)
  repeat first|refine wV fun _=>?_|simp [go_sem, hD']
  refine zAC (zAG (α := Nat) (fun d => ⟨[(0, .v (.int .i64 w)), (1, .v (.int .i64 h)), (4, .ref 0 0 3 0 0), (6, .sl 1 0 1 0 8), (7, .sl 2 0 1 0 8), (8, .ref 3 0 3 0 0), (9, .v (.int .i64 d))],
      [(0, .rows true 0 3 [[.v (.int .i64 0), .v (.slice none 0 0), .v (.slice none 0 0)]]), (1, .rows true 0 1 (dxL.map zbB)), (2, .rows true 0 1 (dyL.map zbB)),
       (3, .rows true 0 3 [[.v (.int .i64 D), .sl 4 d 1 0 d, .sl 5 d 1 0 d]]), (4, .rows true d 1 ((zbK w h d).map fun l => [zap l])), (5, .rows true d 1 ((zbL d).map zbB))], 6⟩)
    (fun r d => d + r = 8) ?_ 8 0 ?_) ?_ ?_
  · rintro r d i1 hrec
    have lgn : (zbK w h d).length = d := by simp [zbK]
    have lgt : (zbL d).length = d := by simp [zbL]
    repeat first|refine wV fun _=>?_|simp [go_sem]
    refine zAE (fun hd => ?_) (fun hd => ?_) <;> simp at hd
    · have hd1 : d < dxL.length := by omega
      have hd2 : d < dyL.length := by omega
      have bx := hdx _ (zaj hd1)
      have by_ := hdy _ (zaj hd2)
      have hgs : ∀ c, zfz w h d c = if (0 ≤ (c : Int).tmod w + nth dxL d ∧ (c : Int).tmod w + nth dxL d < w) ∧ 0 ≤ (c : Int).tdiv w + nth dyL d ∧ (c : Int).tdiv w + nth dyL d < h then ((c : Int).tdiv w + nth dyL d) * w + ((c : Int).tmod w + nth dxL d) else -1 := fun _ => rfl
      repeat first|refine wV fun _=>?_|simp [go_sem]
      refine zAC (zAG (α := Nat) (fun c => ⟨[(0, .v (.int .i64 w)), (1, .v (.int .i64 h)), (4, .ref 0 0 3 0 0), (6, .sl 1 0 1 0 8), (7, .sl 2 0 1 0 8), (8, .ref 3 0 3 0 0), (9, .v (.int .i64 d)), (10, .sl 6 c 1 0 c), (11, .v (.int .i64 c))],
          [(0, .rows true 0 3 [[.v (.int .i64 0), .v (.slice none 0 0), .v (.slice none 0 0)]]), (1, .rows true 0 1 (dxL.map zbB)), (2, .rows true 0 1 (dyL.map zbB)),
           (3, .rows true 0 3 [[.v (.int .i64 D), .sl 4 d 1 0 d, .sl 5 d 1 0 d]]), (4, .rows true d 1 ((zbK w h d).map fun l => [zap l])), (5, .rows true d 1 ((zbL d).map zbB)), (6, .rows true c 1 ((zdG w h d c).map zbB))], 7⟩)
        (fun s c => c + s = D) ?_ D 0 ?_) ?_ ?_
      · rintro s c j1 hrec2
        have lgr : (zdG w h d c).length = c := by simp [zdG]
        repeat first|refine wV fun _=>?_|simp [go_sem, hD']
        refine zAE (fun hc => ?_) (fun hc => ?_) <;> simp at hc
        · have m0 := Int.tmod_nonneg (w : Int) (show (0 : Int) ≤ c by omega)
          have m1 := Int.tmod_lt_of_pos (c : Int) (show (0 : Int) < w by omega)
          have q0 : 0 ≤ (c : Int).tdiv w := Int.tdiv_nonneg (by omega) (by omega)
          have q1 : (c : Int).tdiv w ≤ c := by rw [Int.tdiv_eq_ediv_of_nonneg (by omega)]; exact Int.ediv_le_self _ (by omega)
          have hgs := hgs c
          generalize hmv : (c : Int).tmod w = mv at *
          generalize hqv : (c : Int).tdiv w = qv at *
          generalize hvx : nth dxL d = vx at *
          generalize hvy : nth dyL d = vy at *
          have hp : 0 ≤ qv + vy → qv + vy < h → 0 ≤ (qv + vy) * w ∧ (qv + vy) * w ≤ 64 := fun k1 k2 =>
            ⟨Int.mul_nonneg k1 (by omega), by have := Int.mul_le_mul (show qv + vy ≤ 8 by omega) (show (w : Int) ≤ 8 by omega) (by omega) (by omega); omega⟩
          repeat first|refine wV fun _=>?_|simp [go_sem, hd1, hd2, hmv, hqv, hD', hvx, hvy]
          refine zAE (fun hg => ?_) (fun hg => ?_) <;> simp at hg
          · rw [if_pos (by omega)] at hgs
            have hp := hp (by omega) (by omega)
            generalize hpw : (qv + vy) * (w : Int) = pw at *
            repeat first|refine wV fun _=>?_|simp [go_sem, hpw]
            refine zAC (hrec2 (s - 1) (by omega) (c + 1) (by omega)) ?_ (by simp)
            simp [go_sem, zaf, zhH, hgs]
            (first|done|exact blX)
          · rw [if_neg (by omega)] at hgs
            repeat first|refine wV fun _=>?_|simp [go_sem]
            refine zAC (hrec2 (s - 1) (by omega) (c + 1) (by omega)) ?_ (by simp)
            simp [go_sem, zaf, zhH, hgs]
            (first|done|exact blX)
        · have hcD : c = w * h := by omega
          subst hcD
          have hgn := zmy w h d
          have hgt := zmz d
          repeat first|refine wV fun _=>?_|simp [go_sem]
          refine zAC (hrec (r - 1) (by omega) (d + 1) (by omega)) ?_ (by simp)
          simp [go_sem, zaf, hgn, hgt]
          refine ⟨⟨?_, ?_⟩, ?_⟩
          · refine zar (.refl _) ?_
            refine zam.cons (zan.cons ?_ zan.nil) zam.nil
            refine LeV.frz rfl ?_ ?_ (zAN ?_) <;> simp [mkH, upd, lgr, List.take_of_length_le]
          · rintro r (⟨a, _, rfl⟩ | rfl) c hc <;> simp at hc <;> subst hc <;> exact of_eq_true zqT
          · (first|done|exact blX)
      · simp
      · simp [go_sem, zaf, zdG]
      · simp
    · have hd8 : d = 8 := by omega
      subst hd8
      repeat first|refine wV fun _=>?_|simp [go_sem]
      refine ⟨?_, ?_⟩ <;> (refine LeV.frz rfl ?_ ?_ (zAN ?_) <;> simp [noH, lgn, lgt, List.take_of_length_le])
  · simp
  · simp [go_sem, zaf, edx, edy, zbK, zbL]
  · simp
def zeL (b : zaJ) (c : Int) (d x : Nat) : Int := if (x : Int) = c ∨ nth (nth b.next d) x = c then -1 else nth (nth b.next d) x
def zbP (b : zaJ) (c : Int) (d n : Nat) : List Int := (List.range n).map (zeL b c d)
def za4 (b : zaJ) (c : Int) (d : Nat) : List (List Int) := (List.range d).map fun d => zbP b c d b.cells.toNat
def zb7 (b : zaJ) (c : Int) : zaJ := ⟨b.cells, za4 b c b.next.length, b.turn⟩
theorem zfr (b : zaJ) (c : Int) (d n : Nat) : zbP b c d (n + 1) = zbP b c d n ++ [zeL b c d n] := by simp [zbP, List.range_succ]
theorem zh6 (b : zaJ) (c : Int) (d : Nat) : za4 b c (d + 1) = za4 b c d ++ [zbP b c d b.cells.toNat] := by simp [za4, List.range_succ]
theorem zkc (b : zaJ) (hb : za1 b) (c : Int) (h0 : 0 ≤ c) (h1 : c < b.cells) : zaP Tryz.prog 121 [.agg (zdC b), .v (.int .i64 c)] (.tup [.agg (zdC (zb7 b c)), .v (.int .i64 0)]) := by
  refine pF Tryz.func121 ?_
  obtain ⟨tl, tv, nl, nv, c0, c1, n1⟩ := hb
  have e1 : (zdC (zb7 b c)) = [.v (.int .i64 b.cells), zbY (za4 b c b.next.length), zap b.turn] := rfl
  rw [e1]
  repeat first|refine wV fun _=>?_|simp [go_sem]
  (refine zAE (fun hF => by first | omega | (simp at hF; omega)) (fun hF => ?_); clear hF)
  repeat first|refine wV fun _=>?_|simp [go_sem]
  refine zAC (zAG (α := Nat) (fun d => ⟨[(1, .v (.int .i64 c)), (2, .ref 0 0 3 0 0), (4, .ref 1 0 3 0 0), (6, .ref 9 0 3 0 0), (7, .v (.int .i64 d))],
      [(0, .rows true 0 3 [zdC b]), (1, .rows true 0 3 [[.v (.int .i64 0), .v (.slice none 0 0), .v (.slice none 0 0)]]), (4, .rows true 1 1 (b.turn.map zbB)),
       (9, .rows true 0 3 [[.v (.int .i64 b.cells), .sl 11 d 1 0 d, .sl 4 1 1 0 b.turn.length]]), (11, .rows true d 1 ((za4 b c d).map fun l => [zap l]))], 12⟩)
    (fun r d => d + r = b.next.length) ?_ b.next.length 0 ?_) ?_ ?_
  · rintro r d i1 hrec
    have lgn : (za4 b c d).length = d := by simp [za4]
    repeat first|refine wV fun _=>?_|simp [go_sem]
    refine zAE (fun hd => ?_) (fun hd => ?_) <;> simp at hd
    · have hlen := nl _ (zaj hd)
      repeat first|refine wV fun _=>?_|simp [go_sem]
      refine zAC (zAG (α := Nat) (fun x => ⟨[(1, .v (.int .i64 c)), (2, .ref 0 0 3 0 0), (4, .ref 1 0 3 0 0), (6, .ref 9 0 3 0 0), (7, .v (.int .i64 d)), (8, .sl 12 x 1 0 x), (9, .v (.int .i64 x))],
          [(0, .rows true 0 3 [zdC b]), (1, .rows true 0 3 [[.v (.int .i64 0), .v (.slice none 0 0), .v (.slice none 0 0)]]), (4, .rows true 1 1 (b.turn.map zbB)),
           (9, .rows true 0 3 [[.v (.int .i64 b.cells), .sl 11 d 1 0 d, .sl 4 1 1 0 b.turn.length]]), (11, .rows true d 1 ((za4 b c d).map fun l => [zap l])), (12, .rows true x 1 ((zbP b c d x).map zbB))], 13⟩)
        (fun s x => x + s = b.cells.toNat) ?_ b.cells.toNat 0 ?_) ?_ ?_
      · rintro s x j1 hrec2
        have lgr : (zbP b c d x).length = x := by simp [zbP]
        repeat first|refine wV fun _=>?_|simp [go_sem]
        refine zAE (fun hx => ?_) (fun hx => ?_) <;> simp at hx
        · have hxl : x < (nth b.next d).length := by omega
          have hgs : zeL b c d x = if (x : Int) = c ∨ nth (nth b.next d) x = c then -1 else nth (nth b.next d) x := rfl
          repeat first|refine wV fun _=>?_|simp [go_sem, hd, hxl]
          refine zAE (fun hg => ?_) (fun hg => ?_) <;> simp at hg
          · rw [if_pos (by omega)] at hgs
            repeat first|refine wV fun _=>?_|simp [go_sem]
            refine zAC (hrec2 (s - 1) (by omega) (x + 1) (by omega)) ?_ (by simp)
            simp [go_sem, zaf, zfr, hgs]
            (first|done|exact blX)
          · rw [if_neg (by omega)] at hgs
            repeat first|refine wV fun _=>?_|simp [go_sem]
            refine zAC (hrec2 (s - 1) (by omega) (x + 1) (by omega)) ?_ (by simp)
            simp [go_sem, zaf, zfr, hgs]
            (first|done|exact blX)
        · have hcD : x = b.cells.toNat := by omega
          subst hcD
          have hgn := zh6 b c d
          repeat first|refine wV fun _=>?_|simp [go_sem]
          refine zAC (hrec (r - 1) (by omega) (d + 1) (by omega)) ?_ (by simp)
          simp [go_sem, zaf, hgn]
          refine ⟨?_, ?_⟩
          · refine zar (.refl _) ?_
            refine zam.cons (zan.cons ?_ zan.nil) zam.nil
            refine LeV.frz rfl ?_ ?_ (zAN ?_) <;> simp [mkH, upd, lgr, List.take_of_length_le]
          · rintro r (⟨a, _, rfl⟩ | rfl) c hc <;> simp at hc <;> subst hc <;> exact of_eq_true zqT
      · simp
      · simp [go_sem, zaf, zbP]
      · simp
    · have hd8 : d = b.next.length := by omega
      subst hd8
      repeat first|refine wV fun _=>?_|simp [go_sem]
      refine ⟨?_, ?_⟩ <;> (refine LeV.frz rfl ?_ ?_ (zAN ?_) <;> simp [noH, lgn, List.take_of_length_le])
  · simp
  · simp [go_sem, zaf, za4]
  · simp
theorem zhx {w h : Nat} (hw : 1 ≤ w ∧ w ≤ 8) (hh : 1 ≤ h ∧ h ≤ 8) : za1 (zc1 w h) := by
 have hwh : w * h ≤ 64 := Nat.mul_le_mul hw.2 hh.2
 have e : ((w : Int) * h) = ((w * h : Nat) : Int) := by simp
 refine ⟨by simp [zc1, zbL, zbK], ?_, ?_, ?_, ?_, ?_, by simp [zc1, zbK]⟩
 ·intro t ht
  simp only [zc1, zbL, List.mem_map, List.mem_range] at ht
  obtain ⟨i, hi, rfl⟩ := ht
  have h1 := Int.tmod_nonneg 8 (show (0 : Int) ≤ (i : Int) + 4 by omega)
  have h2 := Int.tmod_lt_of_pos ((i : Int) + 4) (show (0 : Int) < 8 by decide)
  simp [zc1, zbK]; omega
 ·intro l hl
  simp only [zc1, zbK, List.mem_map, List.mem_range] at hl
  obtain ⟨i, hi, rfl⟩ := hl
  simp [zdG, zc1]
 ·intro l hl x hx
  simp only [zc1, zbK, List.mem_map, List.mem_range] at hl
  obtain ⟨i, hi, rfl⟩ := hl
  simp only [zdG, List.mem_map, List.mem_range] at hx
  obtain ⟨c, hc, rfl⟩ := hx
  simp only [zc1, zfz]
  split
  ·rename_i hg
   obtain ⟨⟨g1, g2⟩, g3, g4⟩ := hg
   generalize (c : Int).tmod w + nth dxL i = x at *
   generalize (c : Int).tdiv w + nth dyL i = y at *
   have k1 : 0 ≤ y * w := Int.mul_nonneg g3 (by omega)
   have k2 : y * w ≤ (h - 1) * w := Int.mul_le_mul_of_nonneg_right (by omega) (by omega)
   have k3 : ((h : Int) - 1) * w = w * h - w := by rw [Int.sub_mul, Int.mul_comm]; simp
   omega
  ·omega
 ·simp [zc1]; omega
 ·simp only [zc1]; omega
theorem ziP {b : zaJ} (hb : za1 b) (c : Int) : za1 (zb7 b c) := by
 have hl : (za4 b c b.next.length).length = b.next.length := by simp [za4]
 have hc0 := hb.c0
 refine ⟨by simp only [zb7, hl]; exact hb.tl, ?_, ?_, ?_, hb.c0, hb.c1, by simp only [zb7, hl]; exact hb.n1⟩
 ·intro t ht
  simp only [zb7, hl]
  exact hb.tv t ht
 ·intro l hl
  simp only [zb7, za4, List.mem_map, List.mem_range] at hl
  obtain ⟨i, hi, rfl⟩ := hl
  simp [zbP, zb7]; omega
 ·intro l hl x hx
  simp only [zb7, za4, List.mem_map, List.mem_range] at hl
  obtain ⟨i, hi, rfl⟩ := hl
  simp only [zbP, List.mem_map, List.mem_range] at hx
  obtain ⟨k, hk, rfl⟩ := hx
  simp only [zb7, zeL]
  split
  ·omega
  ·have h1 := hb.nl _ (zaj hi)
   exact hb.nv _ (zaj hi) _ (zaj (by omega))
def zeV (w h cut : Int) : zaJ :=
 if 200 < cut then zb7 (zc1 (1 + w.tmod 3).toNat (1 + h.tmod 3).toNat) (cut.tmod (zc1 (1 + w.tmod 3).toNat (1 + h.tmod 3).toNat).cells) else zc1 (1 + w.tmod 3).toNat (1 + h.tmod 3).toNat
theorem zhy {w h : Int} (hw : 0 ≤ w) (hh : 0 ≤ h) (cut : Int) : za1 (zeV w h cut) := by
 have a0 := Int.tmod_nonneg 3 hw
 have a1 := Int.tmod_lt_of_pos w (show (0 : Int) < 3 by decide)
 have b0 := Int.tmod_nonneg 3 hh
 have b1 := Int.tmod_lt_of_pos h (show (0 : Int) < 3 by decide)
 have hg : za1 (zc1 (1 + w.tmod 3).toNat (1 + h.tmod 3).toNat) := zhx (by omega) (by omega)
 unfold zeV
 split
 ·exact ziP hg _
 ·exact hg
theorem zo7 (w h cut : Int) (hw : 0 ≤ w ∧ w ≤ 255) (hh : 0 ≤ h ∧ h ≤ 255) (hc : 0 ≤ cut ∧ cut ≤ 255) : zaP Tryz.prog 66 [.v (.int .u8 w), .v (.int .u8 h), .v (.int .u8 cut)] (.agg (zdC (zeV w h cut))) := by
 refine pF Tryz.func66 ?_
 have a0 := Int.tmod_nonneg 3 hw.1
 have a1 := Int.tmod_lt_of_pos w (show (0 : Int) < 3 by decide)
 have b0 := Int.tmod_nonneg 3 hh.1
 have b1 := Int.tmod_lt_of_pos h (show (0 : Int) < 3 by decide)
 obtain ⟨W, hW⟩ : ∃ W : Nat, 1 + w.tmod 3 = W := ⟨(1 + w.tmod 3).toNat, by omega⟩
 obtain ⟨H, hH⟩ : ∃ H : Nat, 1 + h.tmod 3 = H := ⟨(1 + h.tmod 3).toNat, by omega⟩
 have e : zeV w h cut = if 200 < cut then zb7 (zc1 W H) (cut.tmod (zc1 W H).cells) else zc1 W H := by unfold zeV; rw [hW, hH]; rfl
 rw [e]
 have hG := zo5 W H (by omega) (by omega)
 have hok : za1 (zc1 W H) := zhx (by omega) (by omega)
 have hcl : 1 ≤ (zc1 W H).cells := by
  have : 1 * 1 ≤ W * H := Nat.mul_le_mul (by omega) (by omega)
  simp only [zc1]; exact_mod_cast this
 generalize zc1 W H = b at *
 have m0 := Int.tmod_nonneg b.cells hc.1
 have m1 := Int.tmod_lt_of_pos cut (show (0 : Int) < b.cells by omega)
 have hWo := zkc b hok (cut.tmod b.cells) m0 m1
 have hel : (zdC b).length = 3 := rfl
 have hbl : ∀ n, (∀ c' ∈ zdC b, Bel n c') = True := fun n => by simp [go_sem]
 repeat first|refine wV fun _=>?_|simp [go_sem, hW, hH]
 refine zAD hG (by simp [go_sem]) ?_
 repeat first|refine wV fun _=>?_|simp [go_sem]
 refine zAE (fun hcut => ?_) (fun hcut => ?_) <;> simp at hcut
 ·rw [if_pos hcut]
  repeat first|refine wV fun _=>?_|simp [go_sem]
  refine zAF hWo (by simp [go_sem]) ?_
  repeat first|refine wV fun _=>?_|simp [go_sem]
 ·rw [if_neg (by omega)]
  repeat first|refine wV fun _=>?_|simp [go_sem]
def zax (p : List (Int × Int)) : AV := .lst 2 (p.map zaO)
theorem bel_S {n : Nat} {l : List (Int × Int)} : (∀ r ∈ l.map zaO, ∀ c ∈ r, Bel n c) = True := by
  refine eq_true ?_
  intro r hr c hc
  obtain ⟨x, _, rfl⟩ := List.mem_map.1 hr
  simp only [zaO, List.mem_cons, List.mem_nil_iff, or_false] at hc
  rcases hc with rfl | rfl <;> exact .v _
theorem zme {n : Nat} {l : List (Int × Int)} : Bel n (.lst 2 (l.map zaO)) = True := by rw [zbR, bel_S]
attribute [go_sem] zax
attribute [go_sem high] zme
theorem ztW (l : List Int) (i : Nat) (hi : i ≤ 1000) (hl : l.length ≤ 9223372036854775807) (hv : ∀ x ∈ l, 0 ≤ x ∧ x ≤ 255) : zaP Tryz.prog 182 [zst l, .v (.int .i64 i)] (.v (.int .i64 (if i < l.length then nth l i else 0))) := by
  refine pF Tryz.func182 ?_
  repeat first|refine wV fun _=>?_|simp [go_sem]
  refine zAE (fun h => ?_) (fun h => ?_) <;> simp at h
  · have hb := hv _ (zaj h)
    rw [if_pos h]
    repeat first|refine wV fun _=>?_|simp [go_sem, h]
  · rw [if_neg (by omega)]
    repeat first|refine wV fun _=>?_|simp [go_sem]
def zoQ (d e k r : Int) : List (List (Int × Int)) :=
  [[(1, d), (3, 0)], [(1, d), (4, 0), (6, 0)], [(2, d)], [(2, d), (4, 0), (6, 0)], [(1, d), (4, 0), (6, 0), (1, d)], [(1, d), (1, e)], [(1, d), (7, d)], [(1, d), (3, 0), (8, k)],
   [(9, r), (1, d), (1, d), (10, r)], [(1, d), (5, 0), (1, d), (3, 0)], [(10, r), (1, d)], [(1, d), (4, 0), (6, 0), (1, (d + 4).tmod 8)], [(1, d), (4, 0), (6, 0), (1, e), (4, 0), (6, 0)], [(2, d), (5, 0), (1, d)], [(1, d), (4, 0), (6, 0), (8, k)], [(1, d), (7, d), (1, e)]]
theorem zrD (a b c d e : Int) (hv : ∀ x ∈ [a, b, c, d, e], 0 ≤ x ∧ x ≤ 255) : zaP Tryz.prog 123 [zst [a, b, c, d, e]] (zax (nth (zoQ (b.tmod 8) (c.tmod 8) (d.tmod 6) (e.tmod 4)) (a.tmod 16).toNat)) := by
  refine pF Tryz.func123 ?_
  have hA := fun (i : Nat) (hi : i < 5) => ztW [a, b, c, d, e] i (by omega) (by simp) hv
  have h0 := hA 0 (by omega)
  have h1 := hA 1 (by omega)
  have h2 := hA 2 (by omega)
  have h3 := hA 3 (by omega)
  have h4 := hA 4 (by omega)
  clear hA
  simp [nth] at h0 h1 h2 h3 h4 hv
  obtain ⟨v0, v1, v2, v3, v4⟩ := hv
  have b0 := Int.tmod_nonneg 8 v1.1
  have b1 := Int.tmod_lt_of_pos b (show (0 : Int) < 8 by decide)
  have a0 := Int.tmod_nonneg 16 v0.1
  have a1 := Int.tmod_lt_of_pos a (show (0 : Int) < 16 by decide)
  repeat first|refine wV fun _=>?_|simp [go_sem]
  refine zAD h1 (by simp [go_sem]) ?_
  repeat first|refine wV fun _=>?_|simp [go_sem]
  refine zAD h2 (by simp [go_sem]) ?_
  repeat first|refine wV fun _=>?_|simp [go_sem]
  refine zAD h3 (by simp [go_sem]) ?_
  repeat first|refine wV fun _=>?_|simp [go_sem]
  refine zAD h4 (by simp [go_sem]) ?_
  generalize hbv : b.tmod 8 = B at *
  generalize hcv : c.tmod 8 = C at *
  generalize hdv : d.tmod 6 = D at *
  generalize hev : e.tmod 4 = E at *
  repeat first|refine wV fun _=>?_|simp [go_sem, hbv, hcv, hdv, hev]
  refine zAD h0 (by simp [go_sem]) ?_
  repeat first|refine wV fun _=>?_|simp [go_sem]
  obtain ⟨i, hi⟩ : ∃ i : Nat, a.tmod 16 = i := ⟨(a.tmod 16).toNat, by omega⟩
  rw [hi] at a0 a1 ⊢
  rcases (show i = 0 ∨ i = 1 ∨ i = 2 ∨ i = 3 ∨ i = 4 ∨ i = 5 ∨ i = 6 ∨ i = 7 ∨ i = 8 ∨ i = 9 ∨ i = 10 ∨ i = 11 ∨ i = 12 ∨ i = 13 ∨ i = 14 ∨ i = 15 by omega) with rfl | rfl | rfl | rfl | rfl | rfl | rfl | rfl | rfl | rfl | rfl | rfl | rfl | rfl | rfl | rfl <;>
    (simp [nth, cel, zoQ, zaO]; refine LeV.frz rfl ?_ ?_ (zAN ?_) <;> simp [noH])
def zbv (dirs kinds rights : Int) (x : Int × Int) : Option (Int × Int) :=
 if x.1 = 1 ∨ x.1 = 2 ∨ x.1 = 7 then some (x.1, x.2.tmod dirs) else if x.1 = 8 then some (x.1, x.2.tmod kinds)
 else if x.1 = 9 ∨ x.1 = 10 then (if rights = 0 then none else some (x.1, x.2.tmod rights)) else some x
def zyU (dirs kinds rights : Int) (p : List (Int × Int)) : List (Int × Int) := if p.filterMap (zbv dirs kinds rights) = [] then [(3, 0)] else p.filterMap (zbv dirs kinds rights)
theorem zvh {α β : Type} [Inhabited α] (f : α → Option β) (l : List α) (j : Nat) (h : j < l.length) : (l.take (j + 1)).filterMap f = (l.take j).filterMap f ++ (f (nth l j)).toList := by
 rw [List.take_add_one, List.filterMap_append, List.getElem?_eq_getElem h, zau _ _ h]
 cases hf : f l[j] <;> simp [hf]
theorem zrC (p : List (Int × Int)) (hp : p.length ≤ 1048576) (dirs kinds rights : Int) (hd : 1 ≤ dirs) (hk : 1 ≤ kinds) (hr : 0 ≤ rights) :
  zaP Tryz.prog 122 [zax p, .v (.int .i64 dirs), .v (.int .i64 kinds), .v (.int .i64 rights)] (zax (zyU dirs kinds rights p)) := by
 refine pF Tryz.func122 ?_
 repeat first|refine wV fun _=>?_|simp [go_sem]
 refine zAC (zAG (α := Nat × List (Int × Int)) (fun a => ⟨[(0, zax p), (1, .v (.int .i64 dirs)), (2, .v (.int .i64 kinds)), (3, .v (.int .i64 rights)), (9, .sl 0 a.2.length 2 0 a.2.length), (10, .v (.int .i64 a.1))], [(0, .rows true a.2.length 2 (a.2.map zaO))], 1⟩)
  (fun d a => a.1 + d = p.length ∧ a.2 = (p.take a.1).filterMap (zbv dirs kinds rights) ∧ a.2.length ≤ a.1) ?_ p.length (0, []) ?_) ?_ ?_
 ·rintro d ⟨j, out⟩ ⟨i1, i2, i3⟩ hrec
  simp only at i1 i2 i3
  repeat first|refine wV fun _=>?_|simp [go_sem]
  refine zAE (fun hj => ?_) (fun hj => ?_) <;> simp at hj
  ·have hs := zvh (zbv dirs kinds rights) p j hj
   rw [← i2] at hs
   generalize hx : nth p j = x at *
   obtain ⟨op, n⟩ := x
   have hgo : ∀ y, zbv dirs kinds rights (op, n) = some y → out ++ [y] = (p.take (j + 1)).filterMap (zbv dirs kinds rights) ∧ (out ++ [y]).length ≤ j + 1 := fun y hy => by rw [hs, hy]; simp; omega
   have hbel : ∀ y : Int × Int, ∀ r ∈ (out ++ [y]).map zaO, ∀ c ∈ r, Bel 1 c := fun y => of_eq_true bel_S
   rcases (show (op = 1 ∨ op = 2 ∨ op = 7) ∨ op = 8 ∨ (op = 9 ∨ op = 10) ∨ (op ≠ 1 ∧ op ≠ 2 ∧ op ≠ 7 ∧ op ≠ 8 ∧ op ≠ 9 ∧ op ≠ 10) by omega) with c1 | c1 | c1 | ⟨c1, c2, c3, c4, c5, c6⟩
   ·have hf : zbv dirs kinds rights (op, n) = some (op, n.tmod dirs) := by unfold zbv; rw [if_pos c1]
    obtain ⟨k1, k2⟩ := hgo _ hf
    have hb := hbel (op, n.tmod dirs)
    rcases c1 with rfl | rfl | rfl <;>
    ·repeat first|refine wV fun _=>?_|simp [go_sem, hj, hx]
     refine zAC (hrec (d - 1) (by omega) (j + 1, out ++ [(_, n.tmod dirs)]) ⟨by simp only; omega, k1, k2⟩) ?_ (by simp)
     simp [go_sem, zaf] at hb ⊢
     try exact hb
   ·have hf : zbv dirs kinds rights (op, n) = some (op, n.tmod kinds) := by unfold zbv; rw [if_neg (by omega), if_pos c1]
    obtain ⟨k1, k2⟩ := hgo _ hf
    have hb := hbel (op, n.tmod kinds)
    subst c1
    repeat first|refine wV fun _=>?_|simp [go_sem, hj, hx]
    refine zAC (hrec (d - 1) (by omega) (j + 1, out ++ [(_, n.tmod kinds)]) ⟨by simp only; omega, k1, k2⟩) ?_ (by simp)
    simp [go_sem, zaf] at hb ⊢
    try exact hb
   ·by_cases hr0 : rights = 0
    ·have hf : zbv dirs kinds rights (op, n) = none := by unfold zbv; rw [if_neg (by omega), if_neg (by omega), if_pos c1, if_pos hr0]
     rw [hf, Option.toList_none, List.append_nil] at hs
     have hb := hbel (op, n)
     subst hr0
     rcases c1 with rfl | rfl <;>
     ·repeat first|refine wV fun _=>?_|simp [go_sem, hj, hx]
      refine zAC (hrec (d - 1) (by omega) (j + 1, out) ⟨by simp only; omega, hs.symm, by simp only; omega⟩) ?_ (by simp)
      simp [go_sem, zaf]
      rintro r x y _ rfl c hc
      simp at hc
      rcases hc with rfl | rfl <;> exact .v _
    ·have hf : zbv dirs kinds rights (op, n) = some (op, n.tmod rights) := by unfold zbv; rw [if_neg (by omega), if_neg (by omega), if_pos c1, if_neg hr0]
     obtain ⟨k1, k2⟩ := hgo _ hf
     have hb := hbel (op, n.tmod rights)
     rcases c1 with rfl | rfl <;>
     ·repeat first|refine wV fun _=>?_|simp [go_sem, hj, hx, hr0]
      refine zAC (hrec (d - 1) (by omega) (j + 1, out ++ [(_, n.tmod rights)]) ⟨by simp only; omega, k1, k2⟩) ?_ (by simp)
      simp [go_sem, zaf] at hb ⊢
      try exact hb
   ·have hf : zbv dirs kinds rights (op, n) = some (op, n) := by unfold zbv; rw [if_neg (by omega), if_neg (by omega), if_neg (by omega)]
    obtain ⟨k1, k2⟩ := hgo _ hf
    have hb := hbel (op, n)
    repeat first|refine wV fun _=>?_|simp [go_sem, hj, hx, c1, c2, c3, c4, c5, c6]
    refine zAC (hrec (d - 1) (by omega) (j + 1, out ++ [(op, n)]) ⟨by simp only; omega, k1, k2⟩) ?_ (by simp)
    simp [go_sem, zaf] at hb ⊢
    try exact hb
  ·have hout : zyU dirs kinds rights p = if out = [] then [(3, 0)] else out := by
    unfold zyU
    rw [i2, List.take_of_length_le hj]
   rw [hout]
   repeat first|refine wV fun _=>?_|simp [go_sem]
   refine zAE (fun ho => ?_) (fun ho => ?_) <;> simp at ho
   ·rw [if_pos ho]
    repeat first|refine wV fun _=>?_|simp [go_sem]
    refine LeV.frz rfl ?_ ?_ (zAN ?_) <;> simp [noH]
   ·rw [if_neg ho]
    repeat first|refine wV fun _=>?_|simp [go_sem]
    refine LeV.frz rfl ?_ ?_ (zAN ?_) <;> simp [noH, List.take_of_length_le]
 ·simp
 ·simp [go_sem, zaf]
 ·simp
def zkx (n dirs kinds rights : Int) : List (Int × Int) :=
 zyU dirs kinds rights (nth (zoQ ((n.tdiv 16).tmod 8) ((n.tdiv 16 + n.tmod 5).tmod 8) ((n.tdiv 3).tmod 6) (n.tmod 4)) (n.tmod 16).toNat)
theorem zx1 (d e k r : Int) (i : Nat) : (nth (zoQ d e k r) i).length ≤ 6 := by
 rcases Nat.lt_or_ge i 16 with h | h
 ·have : ∀ l ∈ zoQ d e k r, l.length ≤ 6 := by simp [zoQ]
  exact this _ (zaj h)
 ·have : nth (zoQ d e k r) i = [] := by
   unfold nth
   rw [List.getD_eq_getElem?_getD, List.getElem?_eq_none (by exact h)]; rfl
  rw [this]; simp
theorem zeu (n dirs kinds rights : Int) (hn : 0 ≤ n ∧ n ≤ 255) (hd : 1 ≤ dirs) (hk : 1 ≤ kinds) (hr : 0 ≤ rights) :
  zaP Tryz.prog 67 [.v (.int .u8 n), .v (.int .i64 dirs), .v (.int .i64 kinds), .v (.int .i64 rights)] (zax (zkx n dirs kinds rights)) := by
 refine pF Tryz.func67 ?_
 have q0 : 0 ≤ n.tdiv 16 ∧ n.tdiv 16 ≤ 15 := by rw [Int.tdiv_eq_ediv_of_nonneg hn.1]; omega
 have q1 : 0 ≤ n.tdiv 3 ∧ n.tdiv 3 ≤ 255 := by rw [Int.tdiv_eq_ediv_of_nonneg hn.1]; omega
 have m0 := Int.tmod_nonneg 5 hn.1
 have m1 := Int.tmod_lt_of_pos n (show (0 : Int) < 5 by decide)
 have hL := zrD n (n.tdiv 16) (n.tdiv 16 + n.tmod 5) (n.tdiv 3) n (by simp; omega)
 unfold zkx
 have hpl := zx1 ((n.tdiv 16).tmod 8) ((n.tdiv 16 + n.tmod 5).tmod 8) ((n.tdiv 3).tmod 6) (n.tmod 4) (n.tmod 16).toNat
 generalize nth (zoQ ((n.tdiv 16).tmod 8) ((n.tdiv 16 + n.tmod 5).tmod 8) ((n.tdiv 3).tmod 6) (n.tmod 4)) (n.tmod 16).toNat = p at *
 have hF := zrC p (by omega) dirs kinds rights hd hk hr
 generalize hqa : n.tdiv 16 = qa at *
 generalize hqb : n.tdiv 3 = qb at *
 generalize hmc : n.tmod 5 = mc at *
 repeat first|refine wV fun _=>?_|simp [go_sem, hqa, hqb, hmc]
 refine zAL [0] hL ?_ (by simp [go_sem]) ?_
 ·refine zan.cons ?_ zan.nil
  refine LeV.frz rfl ?_ ?_ (zAN ?_) <;> simp [zbt, zbV, upd, zi0]
 ·repeat first|refine wV fun _=>?_|simp [go_sem]
  refine zAD hF (by simp [go_sem]) ?_
  repeat first|refine wV fun _=>?_|simp [go_sem]
theorem ziw (n a b : Int) : zaP Tryz.prog 198 [.v (.int .i64 n), .v (.int .i64 a), .v (.int .i64 b)] (.v (.bool (decide (a ≤ n ∧ n ≤ b)))) := by
 refine pF Tryz.func198 ?_
 repeat first|refine wV fun _=>?_|simp [go_sem]
def zak (c : Int) : Int × Int := if 1 ≤ c ∧ c ≤ 12 then ((c - 1).tdiv 2, (c - 1).tmod 2) else (-1, -1)
theorem ze2 (c : Int) : zaP Tryz.prog 142 [.v (.int .i64 c)] (.agg [.v (.int .i64 (zak c).1), .v (.int .i64 (zak c).2)]) := by
 refine pF Tryz.func142 ?_
 repeat first|refine wV fun _=>?_|simp [go_sem]
 refine zAD (ziw c 1 12) (by simp [go_sem]) ?_
 by_cases h : 1 ≤ c ∧ c ≤ 12
 ·have e : zak c = ((c - 1).tdiv 2, (c - 1).tmod 2) := by unfold zak; rw [if_pos h]
  have q : (c - 1).tdiv 2 = (c - 1) / 2 := Int.tdiv_eq_ediv_of_nonneg (by omega)
  rw [e]
  repeat first|refine wV fun _=>?_|simp [go_sem, h, q]
 ·have e : zak c = (-1, -1) := by unfold zak; rw [if_neg h]
  rw [e]
  repeat first|refine wV fun _=>?_|simp [go_sem, h]
def zaL (k s : Int) : Int := if (0 ≤ k ∧ k ≤ 5) ∧ 0 ≤ s ∧ s ≤ 1 then 2 * k + 1 + s else 0
theorem zev (k s : Int) : zaP Tryz.prog 145 [.v (.int .i64 k), .v (.int .i64 s)] (.v (.int .i64 (zaL k s))) := by
 refine pF Tryz.func145 ?_
 repeat first|refine wV fun _=>?_|simp [go_sem]
 refine zAD (ziw k 0 5) (by simp [go_sem]) ?_
 repeat first|refine wV fun _=>?_|simp [go_sem]
 refine zAS _ (fun _ => ziw s 0 1) (by simp [go_sem]) ?_
 repeat first|refine wV fun _=>?_|simp [go_sem]
 refine zAE (fun h => ?_) (fun h => ?_) <;> simp at h
 ·have e : zaL k s = 0 := by unfold zaL; rw [if_neg (by omega)]
  rw [e]
  repeat first|refine wV fun _=>?_|simp [go_sem]
 ·have e : zaL k s = 2 * k + 1 + s := by unfold zaL; rw [if_pos (by omega)]
  rw [e]
  repeat first|refine wV fun _=>?_|simp [go_sem]
  exact zAP (by congr 2; omega)
structure StD where
 p : zag
 kind : Int
 cursor : Int
 took : Bool
 deriving DecidableEq
structure zb8 where
 pos : zag
 took : Bool
 deriving DecidableEq
instance : Inhabited StD := ⟨⟨default, 0, 0, false⟩⟩
instance : Inhabited zb8 := ⟨⟨default, false⟩⟩
def zal (s : StD) : List AV := [zap s.p.at_, zap s.p.h0, zap s.p.h1, .v (.int .i64 s.p.rights), .v (.int .i64 s.p.side), .v (.int .i64 s.kind), .v (.int .i64 s.cursor), .v (.bool s.took)]
def zbb (l : List StD) : AV := .lst 8 (l.map zal)
def zaF (o : zb8) : List AV := [zap o.pos.at_, zap o.pos.h0, zap o.pos.h1, .v (.int .i64 o.pos.rights), .v (.int .i64 o.pos.side), .v (.bool o.took)]
def zcS (l : List zb8) : AV := .lst 6 (l.map zaF)
attribute [go_sem] zal zbb zaF zcS
theorem zqV {n : Nat} {l : List StD} : (∀ r ∈ l.map zal, ∀ c ∈ r, Bel n c) = True := by
 refine eq_true ?_
 intro r hr c hc
 obtain ⟨x, _, rfl⟩ := List.mem_map.1 hr
 revert c
 simp [go_sem]
theorem zpL {n : Nat} {l : List StD} : Bel n (.lst 8 (l.map zal)) = True := by rw [zbR, zqV]
theorem zqU {n : Nat} {l : List zb8} : (∀ r ∈ l.map zaF, ∀ c ∈ r, Bel n c) = True := by
 refine eq_true ?_
 intro r hr c hc
 obtain ⟨x, _, rfl⟩ := List.mem_map.1 hr
 revert c
 simp [go_sem]
theorem zzA {n : Nat} {l : List zb8} : Bel n (.lst 6 (l.map zaF)) = True := by rw [zbR, zqU]
attribute [go_sem high] zpL zzA
def zag.hand (p : zag) (side : Int) : List Int := if side = 0 then p.h0 else p.h1
def zag.withHand (p : zag) (side : Int) (l : List Int) : zag := if side = 0 then { p with h0 := l } else { p with h1 := l }
structure zea (dirs kinds rights : Int) (x : Int × Int) : Prop where
 op : 1 ≤ x.1 ∧ x.1 ≤ 10
 dir : x.1 = 1 ∨ x.1 = 2 ∨ x.1 = 7 → 0 ≤ x.2 ∧ x.2 < dirs
 zero : x.1 = 3 ∨ x.1 = 4 ∨ x.1 = 5 ∨ x.1 = 6 → x.2 = 0
 kind : x.1 = 8 → 0 ≤ x.2 ∧ x.2 < kinds
 right : x.1 = 9 ∨ x.1 = 10 → 0 ≤ x.2 ∧ x.2 < rights
def zaA (p : List (Int × Int)) (op : Int) : Nat := p.countP (fun x => x.1 == op)
structure zm9 (dirs kinds rights : Int) (p : List (Int × Int)) : Prop where
 ne : 1 ≤ p.length
 len : p.length ≤ 8
 st : ∀ x ∈ p, zea dirs kinds rights x
 take : zaA p 6 ≤ 2
 push : zaA p 7 ≤ 1
 become : zaA p 8 ≤ 1
structure zfs (cells kinds : Int) (c : Int × Int × Int × Int) : Prop where
 cond : c.1 = 1 ∨ c.1 = 2 ∨ c.1 = 3
 kind : 0 ≤ c.2.1 ∧ c.2.1 < kinds
 n : 0 ≤ c.2.2.1 ∧ (c.1 = 2 → c.2.2.1 < cells) ∧ (c.1 = 1 → c.2.2.1 = 0) ∧ c.2.2.1 ≤ 64
 then_ : 1 ≤ c.2.2.2 ∧ c.2.2.2 ≤ 3
 few : c.1 = 3 → c.2.1 = 0
structure GOk (g : zad) : Prop where
 board : za1 g.board
 c1 : 1 ≤ g.cells
 c9 : g.cells ≤ 9
 d1 : 1 ≤ g.next.length
 d8 : g.next.length ≤ 8
 turn : ∀ d, d < g.turn.length → nth g.turn (nth g.turn d).toNat = d
 k1 : 1 ≤ g.kinds.length
 k6 : g.kinds.length ≤ 6
 pn : ∀ k ∈ g.kinds, k.progs.length ≤ 8
 pr : ∀ k ∈ g.kinds, ∀ p ∈ k.progs, zm9 g.next.length g.kinds.length g.rights p
 r0 : 0 ≤ g.rights
 r4 : g.rights ≤ 4
 cl : ∀ c ∈ g.clauses, zfs g.cells g.kinds.length c
 cn : g.clauses.length ≤ 6
 bl : 1 ≤ g.blocked ∧ g.blocked ≤ 3
 en : 1 ≤ g.endless ∧ g.endless ≤ 3
def zbl (s : StD) : List Int → List StD
 | [] => []
 | c :: l => { s with cursor := c } :: (if nth s.p.at_ c.toNat = 0 then zbl s l else [])
def zjU (b : zaJ) (s : StD) (n : Int) : List StD := zbl s (zf7 b s.p.side n s.cursor)
def clr (p : zag) (c : Int) : zag := { p with at_ := p.at_.set c.toNat 0 }
def zkD (g : zad) (s : StD) : List StD :=
 let m := zak (nth s.p.at_ s.cursor.toNat)
 if m.1 < 0 ∨ m.2 = s.p.side then [] else
 if (nth g.kinds m.1.toNat).keep = true then
  if 8 < nth (s.p.hand s.p.side) m.1.toNat + 1 then []
  else [{ s with p := (clr s.p s.cursor).withHand s.p.side ((s.p.hand s.p.side).set m.1.toNat (nth (s.p.hand s.p.side) m.1.toNat + 1)), took := true }]
 else [{ s with p := clr s.p s.cursor, took := true }]
def zkA (g : zad) (s : StD) (n : Int) : List StD :=
 let to := toB g.board s.p.side n s.cursor
 if nth s.p.at_ s.cursor.toNat = 0 ∨ to < 0 ∨ nth s.p.at_ to.toNat ≠ 0 then []
 else [{ s with p := { s.p with at_ := (s.p.at_.set to.toNat (nth s.p.at_ s.cursor.toNat)).set s.cursor.toNat 0 } }]
def zcD (s : StD) (b : Bool) : List StD := if b then [s] else []
def zbG (g : zad) (s : StD) (x : Int × Int) : List StD :=
 let m := zak (nth s.p.at_ s.cursor.toNat)
 if x.1 = 1 then zcD { s with cursor := toB g.board s.p.side x.2 s.cursor } (decide (0 ≤ toB g.board s.p.side x.2 s.cursor))
 else if x.1 = 2 then zjU g.board s x.2
 else if x.1 = 3 then zcD s (decide (m.1 < 0))
 else if x.1 = 4 then zcD s (decide (0 ≤ m.1 ∧ m.2 ≠ s.p.side))
 else if x.1 = 5 then zcD s (decide (0 ≤ m.1 ∧ m.2 = s.p.side))
 else if x.1 = 6 then zkD g s
 else if x.1 = 7 then zkA g s x.2
 else if x.1 = 8 then [{ s with kind := x.2 }]
 else if x.1 = 9 then zcD s (decide (zgi .i64 (s.p.rights.fdiv (2 ^ x.2.toNat)) 1 = 1))
 else if x.1 = 10 then [{ s with p := { s.p with rights := zbS .i64 s.p.rights (2 ^ x.2.toNat) } }]
 else [s]
def zd9 (l : List StD) (more : List StD) : List StD := more.foldl (fun l s => if s ∈ l then l else l ++ [s]) l
def zga (g : zad) (now : List StD) (x : Int × Int) : List StD := now.foldl (fun next s => zd9 next (zbG g s x)) []
def zep (p : zag) (cell : Int) : StD := ⟨clr p cell, (zak (nth p.at_ cell.toNat)).1, cell, false⟩
def zd4 (g : zad) (p : zag) (cell : Int) (prog : List (Int × Int)) : List StD := prog.foldl (zga g) [zep p cell]
def za0 (g : zad) (p : zag) (cell i : Int) : List (Int × Int) := nth (nth g.kinds (zak (nth p.at_ cell.toNat)).1.toNat).progs i.toNat
def zfQ (side : Int) (s : StD) : Option zb8 :=
 if nth s.p.at_ s.cursor.toNat = 0 then some ⟨{ s.p with at_ := s.p.at_.set s.cursor.toNat (zaL s.kind side), side := 1 - side }, s.took⟩ else none
def zhA (a b : zb8) : Int := zz9 (za7 a.pos b.pos) (za3 (if a.took then 1 else 0) (if b.took then 1 else 0))
theorem zb3 : Cmp zhA := by
 have h : Cmp (fun (a b : Bool) => za3 (if a then 1 else 0) (if b then 1 else 0)) :=
  zbM.pull (fun b : Bool => if b then (1 : Int) else 0) (fun a b => by cases a <;> cases b <;> simp)
 exact (zaM.prod h).pull (fun o : zb8 => (o.pos, o.took)) (fun a b e => by cases a; cases b; simp at e; simp [e])
def zoi (a b : zb8) : Bool := decide (za7 a.pos b.pos < 0) || (decide (za7 a.pos b.pos = 0) && !a.took && b.took)
theorem zmE (a b : zb8) : zoi a b = decide (zhA a b < 0) := by
 unfold zoi zhA zz9
 by_cases h : za7 a.pos b.pos = 0
 ·rw [if_neg (by simpa using h)]
  simp only [h]
  cases a.took <;> cases b.took <;> simp [za3]
 ·rw [if_pos h]
  simp [h]
def zbE (x : zb8) : List zb8 → List zb8
 | [] => [x]
 | y :: l => if zoi y x then y :: zbE x l else if zoi x y then x :: y :: l else y :: l
theorem zeE {x z : zb8} : ∀ {l : List zb8}, z ∈ zbE x l ↔ z = x ∨ z ∈ l
 | [] => by simp [zbE]
 | y :: l => by
  simp only [zbE]
  split
  ·rw [List.mem_cons, zeE, List.mem_cons]
   exact ⟨fun h => by rcases h with h | h | h <;> simp [h], fun h => by rcases h with h | h | h <;> simp [h]⟩
  ·split
   ·simp
   ·rename_i h1 h2
    rw [zmE] at h1 h2
    have := zb3.swap x y
    have e := (zb3.eq x y).1 (by simp at h1 h2; omega)
    subst e
    simp
theorem zlb {x : zb8} : ∀ {l : List zb8}, l.Pairwise (fun a b => zhA a b < 0) → (zbE x l).Pairwise (fun a b => zhA a b < 0)
 | [], _ => by simp [zbE]
 | y :: l, h => by
  rw [List.pairwise_cons] at h
  simp only [zbE]
  split
  ·rename_i h1
   rw [zmE] at h1
   rw [List.pairwise_cons]
   refine ⟨fun z hz => ?_, zlb h.2⟩
   rcases zeE.1 hz with rfl | hz
   ·simpa using h1
   ·exact h.1 z hz
  ·split
   ·rename_i h1
    rw [zmE] at h1
    have hxy : zhA x y < 0 := by simpa using h1
    refine List.pairwise_cons.2 ⟨fun z hz => ?_, List.pairwise_cons.2 h⟩
    rcases List.mem_cons.1 hz with rfl | hz
    ·exact hxy
    ·have hyz := h.1 z hz
     have t := zb3.tr x y z (by omega) (by omega)
     rcases Int.lt_or_eq_of_le t with h | h
     ·exact h
     ·have e := (zb3.eq _ _).1 h
      subst e
      have := zb3.swap x y
      omega
   ·exact List.pairwise_cons.2 h
theorem zfe : ∀ (l acc : List zb8), acc.Pairwise (fun a b => zhA a b < 0) →
  (l.foldl (fun a x => zbE x a) acc).Pairwise (fun a b => zhA a b < 0) ∧ ∀ z, z ∈ l.foldl (fun a x => zbE x a) acc ↔ z ∈ l ∨ z ∈ acc
 | [], acc, h => ⟨h, fun z => by simp⟩
 | x :: l, acc, h => by
  obtain ⟨h1, h2⟩ := zfe l (zbE x acc) (zlb h)
  refine ⟨h1, fun z => ?_⟩
  rw [List.foldl_cons, h2, zeE, List.mem_cons]
  exact ⟨fun h => by rcases h with h | h | h <;> simp [h], fun h => by rcases h with (h | h) | h <;> simp [h]⟩
theorem zp4 (l : List zb8) : l.foldl (fun a x => zbE x a) [] = zaU zhA l :=
 (zbo zb3 (zfe l [] (by simp)).1 (fun z => by rw [(zfe l [] (by simp)).2]; simp)).symm
def zc5 (g : zad) (p : zag) (cell i : Int) : List zb8 := zaU zhA ((zd4 g p cell (za0 g p cell i)).filterMap (zfQ p.side))
def zfI (g : zad) (p : zag) (k c : Nat) : Option zag :=
 if nth (p.hand p.side) k = 0 ∨ nth p.at_ c ≠ 0 then none
 else some { ({ p with at_ := p.at_.set c (zaL k p.side) }.withHand p.side ((p.hand p.side).set k (nth (p.hand p.side) k - 1))) with side := 1 - p.side }
def zu1 (g : zad) (p : zag) : List zag := (List.range g.kinds.length).flatMap fun k => (List.range p.at_.length).filterMap fun c => zfI g p k c
def zcF (g : zad) (p : zag) : List zag := zaU za7 (zu1 g p)
def zeh (p : zag) (side kind : Int) (c : Int) : Bool := decide (0 ≤ (zak c).1) && decide ((zak c).2 = side) && (decide (kind < 0) || decide ((zak c).1 = kind))
def ztI (p : zag) (side kind : Int) : Nat := p.at_.countP (zeh p side kind)
def zdA (c : Int × Int × Int × Int) (p : zag) : Bool :=
 if c.1 = 1 then decide (ztI p p.side c.2.1 = 0)
 else if c.1 = 2 then decide (nth p.at_ c.2.2.1.toNat = zaL c.2.1 (1 - p.side))
 else decide ((ztI p p.side (-1) : Int) ≤ c.2.2.1)
def zcU (g : zad) (p : zag) : Int := match g.clauses.findIdx? (fun c => zdA c p) with | some i => (i : Int) | none => -1
def zcW (g : zad) (p : zag) (c : Nat) : List zb8 :=
 if 0 ≤ (zak (nth p.at_ c)).1 ∧ (zak (nth p.at_ c)).2 = p.side then
  (List.range (nth g.kinds (zak (nth p.at_ c)).1.toNat).progs.length).flatMap fun (i : Nat) => zc5 g p c i
 else []
def zdj (g : zad) (p : zag) : List zb8 := (List.range p.at_.length).flatMap (zcW g p)
def zfJ (g : zad) (p : zag) : Bool := g.must && (zdj g p).any (·.took)
def zcV (g : zad) (p : zag) : List zag := ((zdj g p).filter fun o => !zfJ g p || o.took).map (·.pos) ++ (if zfJ g p then [] else zcF g p)
def zaC (g : zad) (p : zag) : List zag := if 0 ≤ zcU g p then [] else zaU za7 (zcV g p)
def zdu (g : zad) : zag → List Int → List zag
 | p, [] => [p]
 | p, k :: l => if zaC g p = [] then [p] else p :: zdu g (nth (zaC g p) (k.emod (zaC g p).length).toNat) l
structure zhY where
 w : Int
 h : Int
 cut : Int
 k0 : List Int
 k1 : List Int
 c : List (Int × Int × Int)
 f0 : Int
 f1 : Int
 f2 : Int
 f3 : Int
 f4 : Int
 f5 : Int
def U8 (n : Int) : Prop := 0 ≤ n ∧ n ≤ 255
structure zrH (x : zhY) : Prop where
 w : U8 x.w
 h : U8 x.h
 cut : U8 x.cut
 k0 : ∀ n ∈ x.k0, U8 n
 k1 : ∀ n ∈ x.k1, U8 n
 c : ∀ t ∈ x.c, U8 t.1 ∧ U8 t.2.1 ∧ U8 t.2.2
 f0 : U8 x.f0
 f1 : U8 x.f1
 f2 : U8 x.f2
 f3 : U8 x.f3
 f4 : U8 x.f4
 f5 : U8 x.f5
def zu2 (c : Int × Int × Int) : List AV := [.v (.int .u8 c.1), .v (.int .u8 c.2.1), .v (.int .u8 c.2.2)]
def zcL (x : zhY) : List AV := [.v (.int .u8 x.w), .v (.int .u8 x.h), .v (.int .u8 x.cut), zst x.k0, zst x.k1, .lst 3 (x.c.map zu2),
 .v (.int .u8 x.f0), .v (.int .u8 x.f1), .v (.int .u8 x.f2), .v (.int .u8 x.f3), .v (.int .u8 x.f4), .v (.int .u8 x.f5)]
attribute [go_sem] zu2 zcL
theorem zyN {n : Nat} {l : List (Int × Int × Int)} : (∀ r ∈ l.map zu2, ∀ c ∈ r, Bel n c) = True := by
 refine eq_true ?_
 intro r hr c hc
 obtain ⟨x, _, rfl⟩ := List.mem_map.1 hr
 revert c
 simp [go_sem]
theorem zzx {n : Nat} {l : List (Int × Int × Int)} : Bel n (.lst 3 (l.map zu2)) = True := by rw [zbR, zyN]
theorem zzz {n : Nat} {l : List zfU} : (∀ r ∈ l.map zaV, ∀ c ∈ r, Bel n c) = True := by
 refine eq_true ?_
 intro r hr c hc
 obtain ⟨x, _, rfl⟩ := List.mem_map.1 hr
 simp only [zaV, List.mem_cons, List.not_mem_nil, or_false] at hc
 rcases hc with rfl | rfl | rfl
 ·exact .v _
 ·refine .lst fun r hr c hc => ?_
  obtain ⟨p, _, rfl⟩ := List.mem_map.1 hr
  simp only [List.mem_cons, List.not_mem_nil, or_false] at hc
  subst hc
  exact of_eq_true zme
 ·exact .v _
theorem bel_Ks {n : Nat} {l : List zfU} : Bel n (.lst 3 (l.map zaV)) = True := by rw [zbR, zzz]
theorem zuw {n : Nat} {l : List (Int × Int × Int × Int)} : (∀ r ∈ l.map zaZ, ∀ c ∈ r, Bel n c) = True := by
 refine eq_true ?_
 intro r hr c hc
 obtain ⟨x, _, rfl⟩ := List.mem_map.1 hr
 revert c
 simp [go_sem]
theorem zzy {n : Nat} {l : List (Int × Int × Int × Int)} : Bel n (.lst 4 (l.map zaZ)) = True := by rw [zbR, zuw]
theorem zux {n : Nat} {l : List (List (Int × Int))} : (∀ r ∈ l.map (fun p => [zax p]), ∀ c ∈ r, Bel n c) = True := by
 refine eq_true ?_
 intro r hr c hc
 obtain ⟨p, _, rfl⟩ := List.mem_map.1 hr
 simp only [List.mem_cons, List.not_mem_nil, or_false] at hc
 subst hc
 exact of_eq_true zme
theorem zzC {n : Nat} {l : List (List (Int × Int))} : Bel n (.lst 1 (l.map (fun p => [zax p]))) = True := by rw [zbR, zux]
attribute [go_sem high] zzx bel_Ks zzy zzC
attribute [go_sem ↓] zyN zzz zuw zux zsf zxi zqV zqU List.forall_mem_append
def zqh : ByteArray := ⟨#[97]⟩
def zqi : ByteArray := ⟨#[98, 101, 101]⟩
def zuH (f : Int) (i : Nat) : Bool := decide (zgi .u8 (f.fdiv (2 ^ i)) 1 = 1)
def zdg (x : zhY) : Nat := if x.k1 = [] then 1 else 2
def zhY.board (x : zhY) : zaJ := zeV x.w x.h x.cut
def zhY.rights (x : zhY) : Int := x.f0.tmod 3
def zhY.ks (x : zhY) (i : Nat) : List Int := if i = 0 then x.k0 else x.k1
def zeP (x : zhY) (i : Nat) : zfU :=
 ⟨if i = 0 then zqh else zqi, ((x.ks i).take 4).map (fun n => zkx n x.board.next.length (zdg x) x.rights), zuH x.f2 i⟩
def zbe (cells kinds : Int) (c : Int × Int × Int) : Int × Int × Int × Int :=
 (1 + c.1.tmod 3, (if 1 + c.1.tmod 3 ≠ 3 then c.2.1.tmod kinds else 0), (if 1 + c.1.tmod 3 = 2 then c.2.2.tmod cells else if 1 + c.1.tmod 3 = 3 then c.2.2.tmod 3 else 0), 1 + (c.1.tdiv 4).tmod 3)
def zhd (x : zhY) : zad :=
 { cells := x.board.cells, next := x.board.next, turn := x.board.turn, kinds := (List.range (zdg x)).map (zeP x), rights := x.rights, must := decide (x.f1.tmod 4 = 3), clauses := (x.c.take 3).map (zbe x.board.cells (zdg x)), blocked := if x.f3.tmod 4 = 3 then 1 + (x.f3.tdiv 4).tmod 3 else 3, endless := if x.f4.tmod 4 = 3 then 1 + (x.f4.tdiv 4).tmod 3 else 2 }
@[go_sem] theorem zwL (s : ByteArray) : (Value.string s).oneCell' = true := rfl
def ksR (x : zhY) (i : Nat) : List (List AV) := ((List.range i).map (zeP x)).map zaV
def zwK (k : zfU) : List AV := zaV k
theorem zij (x : zhY) (i : Nat) : ksR x (i + 1) = ksR x i ++ [zwK (zeP x i)] := by simp [ksR, List.range_succ, zwK]
@[go_sem] theorem ksR_zero (x : zhY) : ksR x 0 = [] := rfl
@[go_sem] theorem zvs (x : zhY) (i : Nat) : (ksR x i).length = i := by simp [ksR]
@[go_sem ↓] theorem bel_ksR {n : Nat} {x : zhY} {i : Nat} : (∀ r ∈ ksR x i, ∀ c ∈ r, Bel n c) = True := zzz
def psR (f : Int → List (Int × Int)) (l : List Int) (n : Nat) : List (List AV) := ((l.take n).map f).map fun p => [zax p]
theorem zin (f : Int → List (Int × Int)) (l : List Int) {n : Nat} (h : n < l.length) : psR f l (n + 1) = psR f l n ++ [[zax (f (nth l n))]] := by
 unfold psR
 rw [List.take_add_one, List.getElem?_eq_getElem h, zau _ _ h, Option.toList_some, List.map_append, List.map_append]
 rfl
theorem zfj (f : Int → List (Int × Int)) (l : List Int) {n : Nat} (h : n ≤ l.length) : (psR f l n).length = n := by simp [psR]; omega
@[go_sem] theorem psR_zero (f : Int → List (Int × Int)) (l : List Int) : psR f l 0 = [] := rfl
@[go_sem ↓] theorem bel_psR {m : Nat} {f : Int → List (Int × Int)} {l : List Int} {n : Nat} : (∀ r ∈ psR f l n, ∀ c ∈ r, Bel m c) = True := zux
def clR (cells kinds : Int) (l : List (Int × Int × Int)) (n : Nat) : List (List AV) := ((l.take n).map (zbe cells kinds)).map zaZ
def zsj (c : Int × Int × Int × Int) : List AV := zaZ c
theorem zqY (cells kinds : Int) (l : List (Int × Int × Int)) {n : Nat} (h : n < l.length) : clR cells kinds l (n + 1) = clR cells kinds l n ++ [zsj (zbe cells kinds (nth l n))] := by
 unfold clR
 rw [List.take_add_one, List.getElem?_eq_getElem h, zau _ _ h, Option.toList_some, List.map_append, List.map_append]
 rfl
theorem zmg (cells kinds : Int) (l : List (Int × Int × Int)) {n : Nat} (h : n ≤ l.length) : (clR cells kinds l n).length = n := by simp [clR]; omega
@[go_sem] theorem clR_zero (cells kinds : Int) (l : List (Int × Int × Int)) : clR cells kinds l 0 = [] := rfl
@[go_sem ↓] theorem bel_clR {m : Nat} {cells kinds : Int} {l : List (Int × Int × Int)} {n : Nat} : (∀ r ∈ clR cells kinds l n, ∀ c ∈ r, Bel m c) = True := zuw
theorem zlm (w h cut : Int) : (zeV w h cut).next.length = 8 := by
 unfold zeV
 split <;> simp [zb7, za4, zc1, zbK]
theorem zjo {w h : Int} (hw : 0 ≤ w) (hh : 0 ≤ h) (cut : Int) : 1 ≤ (zeV w h cut).cells ∧ (zeV w h cut).cells ≤ 9 := by
 have a0 := Int.tmod_nonneg 3 hw
 have a1 := Int.tmod_lt_of_pos w (show (0 : Int) < 3 by decide)
 have b0 := Int.tmod_nonneg 3 hh
 have b1 := Int.tmod_lt_of_pos h (show (0 : Int) < 3 by decide)
 have e : (zeV w h cut).cells = ((1 + w.tmod 3).toNat : Int) * ((1 + h.tmod 3).toNat : Int) := by
  unfold zeV
  split <;> simp [zb7, zc1]
 rw [e]
 obtain ⟨W, hW⟩ : ∃ W : Nat, 1 + w.tmod 3 = W := ⟨(1 + w.tmod 3).toNat, by omega⟩
 obtain ⟨H, hH⟩ : ∃ H : Nat, 1 + h.tmod 3 = H := ⟨(1 + h.tmod 3).toNat, by omega⟩
 rw [hW, hH, Int.toNat_natCast, Int.toNat_natCast]
 rcases (show W = 1 ∨ W = 2 ∨ W = 3 by omega) with rfl | rfl | rfl <;> omega
@[go_sem ↓] theorem bel_setI {n k : Nat} {l : List Int} {v : Value} : (∀ r ∈ (l.map zbB).set k [.v v], ∀ c ∈ r, Bel n c) = True := by
 refine eq_true fun r hr c hc => ?_
 rcases List.mem_or_eq_of_mem_set hr with hr | rfl
 ·exact of_eq_true zxi r hr c hc
 ·simp only [List.mem_cons, List.not_mem_nil, or_false] at hc; subst hc; exact .v _
structure zkd where
 cell : List Int
 kind : List Int
 hand : List Int
 rights : Int
 side : Int
structure ziB (x : zkd) : Prop where
 c6 : x.cell.length = 6
 k6 : x.kind.length = 6
 h4 : x.hand.length = 4
 cv : ∀ n ∈ x.cell, U8 n
 kv : ∀ n ∈ x.kind, U8 n
 hv : ∀ n ∈ x.hand, U8 n
 r : U8 x.rights
 s : U8 x.side
def zcM (x : zkd) : List AV := x.cell.map (fun n => .v (.int .u8 n)) ++ (x.kind.map (fun n => .v (.int .u8 n)) ++ (x.hand.map (fun n => .v (.int .u8 n)) ++ [.v (.int .u8 x.rights), .v (.int .u8 x.side)]))
theorem zuO (l : List Int) (r : List AV) (i : Nat) (h : i < l.length) : cel (l.map (fun n => AV.v (.int .u8 n)) ++ r) i = .v (.int .u8 (nth l i)) := by
 unfold cel nth
 rw [List.getD_eq_getElem?_getD, List.getD_eq_getElem?_getD, List.getElem?_append_left (by simpa using h), List.getElem?_map, List.getElem?_eq_getElem h]
 rfl
theorem zpN (l : List Int) (r : List AV) (i : Nat) : cel (l.map (fun n => AV.v (.int .u8 n)) ++ r) (l.length + i) = cel r i := by
 unfold cel
 rw [List.getD_eq_getElem?_getD, List.getD_eq_getElem?_getD, List.getElem?_append_right (by simp)]
 simp
structure RawRow (x : zkd) (er : List AV) : Prop where
 len : er.length = 18
 c : ∀ i, i < 6 → cel er i = .v (.int .u8 (nth x.cell i))
 k : ∀ i, i < 6 → cel er (6 + i) = .v (.int .u8 (nth x.kind i))
 h : ∀ i, i < 4 → cel er (12 + i) = .v (.int .u8 (nth x.hand i))
 r : cel er 16 = .v (.int .u8 x.rights)
 s : cel er 17 = .v (.int .u8 x.side)
 b : ∀ n, (∀ c ∈ er, Bel n c) = True
theorem zoB {x : zkd} (hx : ziB x) : RawRow x (zcM x) := by
 obtain ⟨a, b, c, _, _, _, _, _⟩ := hx
 have e1 : ∀ i, cel (zcM x) (6 + i) = cel (x.kind.map (fun n => AV.v (.int .u8 n)) ++ (x.hand.map (fun n => AV.v (.int .u8 n)) ++ [.v (.int .u8 x.rights), .v (.int .u8 x.side)])) i := fun i => by
  have := zpN x.cell (x.kind.map (fun n => .v (.int .u8 n)) ++ (x.hand.map (fun n => .v (.int .u8 n)) ++ [.v (.int .u8 x.rights), .v (.int .u8 x.side)])) i
  rw [a] at this; exact this
 have e2 : ∀ i, cel (zcM x) (12 + i) = cel (x.hand.map (fun n => AV.v (.int .u8 n)) ++ [.v (.int .u8 x.rights), .v (.int .u8 x.side)]) i := fun i => by
  have := zpN x.kind (x.hand.map (fun n => .v (.int .u8 n)) ++ [.v (.int .u8 x.rights), .v (.int .u8 x.side)]) i
  rw [b] at this
  rw [show 12 + i = 6 + (6 + i) by omega, e1, this]
 have e3 : ∀ i, cel (zcM x) (16 + i) = cel [AV.v (.int .u8 x.rights), .v (.int .u8 x.side)] i := fun i => by
  have := zpN x.hand [.v (.int .u8 x.rights), .v (.int .u8 x.side)] i
  rw [c] at this
  rw [show 16 + i = 12 + (4 + i) by omega, e2, this]
 refine ⟨by simp [zcM, a, b, c], fun i hi => zuO x.cell _ i (by omega), fun i hi => ?_, fun i hi => ?_, e3 0, e3 1, fun n => eq_true ?_⟩
 ·rw [e1]; exact zuO x.kind _ i (by omega)
 ·rw [e2]; exact zuO x.hand _ i (by omega)
 ·intro c hc
  simp only [zcM, List.mem_append, List.mem_map, List.mem_cons, List.not_mem_nil, or_false] at hc
  rcases hc with ⟨_, _, rfl⟩ | ⟨_, _, rfl⟩ | ⟨_, _, rfl⟩ | rfl | rfl <;> exact .v _
def zkQ (g : zad) (x : zkd) (l : List Int) (i : Nat) : List Int :=
 if (nth x.cell i).tmod (g.cells + 1) < g.cells then l.set ((nth x.cell i).tmod (g.cells + 1)).toNat (1 + 2 * (nth x.kind i).tmod g.kinds.length + (i : Int).tmod 2) else l
def zdJ (g : zad) (x : zkd) (n : Nat) : List Int := (List.range n).foldl (zkQ g x) (List.replicate g.cells.toNat 0)
theorem zf8 (g : zad) (x : zkd) (n : Nat) : zdJ g x (n + 1) = zkQ g x (zdJ g x n) n := by simp [zdJ, List.range_succ]
theorem zsc (g : zad) (x : zkd) (l : List Int) (i : Nat) : (zkQ g x l i).length = l.length := by unfold zkQ; split <;> simp
theorem zhc (g : zad) (x : zkd) (n : Nat) : (zdJ g x n).length = g.cells.toNat := by
 induction n with
 | zero => simp [zdJ]
 | succ n ih => rw [zf8, zsc, ih]
def zp0 (g : zad) (x : zkd) (s k : Nat) : Int :=
 if (nth g.kinds k).keep = true then (if 250 < nth x.hand (2 * s + k) then 8 else (nth x.hand (2 * s + k)).tmod 3) else 0
def zd3 (g : zad) (x : zkd) (s n : Nat) : List Int := (List.range g.kinds.length).map fun j => if j < n then zp0 g x s j else 0
theorem zdf (g : zad) (x : zkd) (s n : Nat) : (zd3 g x s n).length = g.kinds.length := by simp [zd3]
theorem zk7 (g : zad) (x : zkd) (s : Nat) : zd3 g x s 0 = List.replicate g.kinds.length 0 := by
 unfold zd3
 apply List.ext_getElem <;> simp
theorem zk6 (g : zad) (x : zkd) (s n : Nat) : zd3 g x s (n + 1) = (zd3 g x s n).set n (zp0 g x s n) := by
 apply List.ext_getElem
 ·simp [zd3]
 ·intro i h1 h2
  simp only [zd3, List.getElem_map, List.getElem_range, List.getElem_set]
  by_cases h : n = i
  ·subst h; simp
  ·rw [if_neg h]
   by_cases h' : i < n
   ·rw [if_pos h', if_pos (by omega)]
   ·rw [if_neg h', if_neg (by omega)]
theorem zk5 (g : zad) (x : zkd) (s n : Nat) (h : zp0 g x s n = 0) : zd3 g x s (n + 1) = zd3 g x s n := by
 unfold zd3
 apply List.map_congr_left
 intro j _
 by_cases h' : j < n
 ·rw [if_pos h', if_pos (by omega)]
 ·rw [if_neg h']
  split
  ·obtain rfl : j = n := by omega
   exact h
  ·rfl
def zd5 (g : zad) (x : zkd) : zag := ⟨zdJ g x 6, zd3 g x 0 (min g.kinds.length 2), zd3 g x 1 (min g.kinds.length 2), x.rights.tmod (2 ^ g.rights.toNat), x.side.tmod 2⟩
theorem nth_z {α : Type} [Inhabited α] (x : α) (l : List α) : nth (x :: l) 0 = x := rfl
theorem zcx {α : Type} [Inhabited α] (l : List α) (i j : Nat) (v : α) : nth (l.set i v) j = if i = j ∧ j < l.length then v else nth l j := by
 unfold nth
 rw [List.getD_eq_getElem?_getD, List.getD_eq_getElem?_getD, List.getElem?_set]
 by_cases h : i = j
 ·subst h
  by_cases h2 : i < l.length
  ·simp [h2]
  ·simp [h2, List.getElem?_eq_none (Nat.not_lt.1 h2)]
 ·simp [h]
structure zeZ (g : zad) (l : List Int) : Prop where
 len : l.length = g.kinds.length
 v : ∀ i, i < l.length → 0 ≤ nth l i ∧ nth l i ≤ 8 ∧ (0 < nth l i → (nth g.kinds i).keep = true)
theorem zhb : ∀ (l : List Int) (ks : List zfU), l.length = ks.length → (zb5 l ks = true ↔ ∀ i, i < l.length → 0 ≤ nth l i ∧ nth l i ≤ 8 ∧ (0 < nth l i → (nth ks i).keep = true))
 | [], [], _ => by simp [zb5]
 | x :: l, k :: ks, h => by
  have ih := zhb l ks (by simpa using h)
  rw [zb5]
  simp only [Bool.and_eq_true, decide_eq_true_eq, Bool.or_eq_true, Bool.not_eq_true']
  rw [ih]
  constructor
  ·rintro ⟨⟨⟨h1, h2⟩, h3⟩, h4⟩ i hi
   cases i with
   | zero =>
    refine ⟨h1, h2, fun h => ?_⟩
    rcases h3 with h3 | h3
    ·rw [nth_z] at h; simp at h3; omega
    ·exact h3
   | succ i => exact h4 i (by simpa using hi)
  ·intro h
   have h0 := h 0 (by simp)
   refine ⟨⟨⟨h0.1, h0.2.1⟩, ?_⟩, fun i hi => h (i + 1) (by simpa using hi)⟩
   by_cases hx : 0 < x
   ·exact .inr (h0.2.2 hx)
   ·exact .inl (by simpa using hx)
theorem zk8 {g : zad} {l : List Int} : zdH g l = true ↔ zeZ g l := by
 unfold zdH
 rw [Bool.and_eq_true, decide_eq_true_eq]
 exact ⟨fun ⟨a, b⟩ => ⟨a, (zhb _ _ a).1 b⟩, fun ⟨a, b⟩ => ⟨a, (zhb _ _ a).2 b⟩⟩
structure POk (g : zad) (p : zag) : Prop where
 al : (p.at_.length : Int) = g.cells
 av : ∀ c ∈ p.at_, 0 ≤ c ∧ c ≤ 2 * g.kinds.length
 h0 : zeZ g p.h0
 h1 : zeZ g p.h1
 r0 : 0 ≤ p.rights
 r1 : p.rights < 2 ^ g.rights.toNat
 s : p.side = 0 ∨ p.side = 1
theorem zmM {g : zad} {p : zag} : zfi g p = true ↔ POk g p := by
 rw [zgK, zk8, zk8]
 exact ⟨fun ⟨a, b, c, d, e, f, g⟩ => ⟨a, b, c, d, e, f, g⟩, fun ⟨a, b, c, d, e, f, g⟩ => ⟨a, b, c, d, e, f, g⟩⟩
theorem POk.fits {g : zad} (hg : GOk g) {p : zag} (h : POk g p) : zaK p := by
 have := hg.c9
 have := hg.k6
 have a := h.al
 have b := h.h0.len
 have c := h.h1.len
 unfold zaK zeY
 omega
structure zeS (g : zad) (s : StD) : Prop where
 p : POk g s.p
 c0 : 0 ≤ s.cursor
 c1 : s.cursor < g.cells
 k : 0 ≤ s.kind ∧ s.kind < g.kinds.length
theorem zaR {c : Int} {K : Nat} (h0 : 0 ≤ c) (h1 : c ≤ 2 * K) (hK : K ≤ 6) :
  (c = 0 ∧ zak c = (-1, -1)) ∨ (c ≠ 0 ∧ 0 ≤ (zak c).1 ∧ (zak c).1 < K ∧ ((zak c).2 = 0 ∨ (zak c).2 = 1) ∧ c = 1 + 2 * (zak c).1 + (zak c).2) := by
 unfold zak
 by_cases hc : c = 0
 ·left; rw [if_neg (by omega)]; exact ⟨hc, rfl⟩
 ·right
  rw [if_pos (by omega)]
  have e1 : (c - 1).tdiv 2 = (c - 1) / 2 := Int.tdiv_eq_ediv_of_nonneg (by omega)
  have e2 : (c - 1).tmod 2 = (c - 1) % 2 := Int.tmod_eq_emod_of_nonneg (by omega)
  simp only [e1, e2]
  omega
theorem znF {k s : Int} {K : Nat} (hk : 0 ≤ k ∧ k < K) (hK : K ≤ 6) (hs : s = 0 ∨ s = 1) : zaL k s = 1 + 2 * k + s := by
 unfold zaL
 rw [if_pos (by omega)]; omega
theorem znr : ∀ (r : Fin 16) (m : Fin 4), 0 ≤ zbS .i64 (r.val : Int) (2 ^ m.val) ∧ zbS .i64 (r.val : Int) (2 ^ m.val) ≤ (r.val : Int) := by decide
theorem znq {r : Int} {m : Nat} (h0 : 0 ≤ r) (h1 : r < 16) (hm : m < 4) : 0 ≤ zbS .i64 r (2 ^ m) ∧ zbS .i64 r (2 ^ m) ≤ r := by
 have := znr ⟨r.toNat, by omega⟩ ⟨m, hm⟩
 simp only [Int.toNat_of_nonneg h0] at this
 exact this
theorem zim {r : Int} (h0 : 0 ≤ r) (h4 : r ≤ 4) : (1 : Int) ≤ 2 ^ r.toNat ∧ (2 : Int) ^ r.toNat ≤ 16 := by
 rcases (show r.toNat = 0 ∨ r.toNat = 1 ∨ r.toNat = 2 ∨ r.toNat = 3 ∨ r.toNat = 4 by omega) with h | h | h | h | h <;> rw [h] <;> decide
theorem zli {b : zaJ} (hb : za1 b) {side d c : Int} : ∀ (f : Nat) (x : Int) (seen : List Int), x < b.cells → (∀ y ∈ seen, 0 ≤ y ∧ y < b.cells) → ∀ y ∈ zdI b side d c f x seen, 0 ≤ y ∧ y < b.cells
 | 0, x, seen, _, h, y, hy => h y hy
 | f + 1, x, seen, hx, h, y, hy => by
  rw [zdI] at hy
  split at hy
  ·rename_i hc
   refine zli hb f _ _ (zeQ hb _ _ _) (fun z hz => ?_) y hy
   rcases List.mem_append.1 hz with hz | hz
   ·exact h z hz
   ·simp at hz; omega
  ·exact h y hy
theorem zei {b : zaJ} (hb : za1 b) {side d c : Int} : ∀ y ∈ zf7 b side d c, 0 ≤ y ∧ y < b.cells :=
 zli hb _ _ _ (zeQ hb _ _ _) (by simp)
theorem zlh {b : zaJ} {side d c : Int} : ∀ (f : Nat) (x : Int) (seen : List Int), (zdI b side d c f x seen).length ≤ seen.length + f
 | 0, x, seen => by simp [zdI]
 | f + 1, x, seen => by
  rw [zdI]
  split
  ·have := zlh (b := b) (side := side) (d := d) (c := c) f (toB b side d x) (seen ++ [x])
   simp at this; omega
  ·omega
theorem zjm {b : zaJ} {side d c : Int} : (zf7 b side d c).length ≤ b.cells.toNat + 1 := by
 have := zlh (b := b) (side := side) (d := d) (c := c) (b.cells.toNat + 1) (toB b side d c) []
 simpa [zf7] using this
theorem POk.setAt {g : zad} {p : zag} (h : POk g p) (i : Nat) {v : Int} (hv : 0 ≤ v ∧ v ≤ 2 * g.kinds.length) : POk g { p with at_ := p.at_.set i v } :=
 ⟨by simpa using h.al, fun c hc => by rcases List.mem_or_eq_of_mem_set hc with hc | rfl; exact h.av c hc; exact hv, h.h0, h.h1, h.r0, h.r1, h.s⟩
theorem POk.hand {g : zad} {p : zag} (h : POk g p) (side : Int) : zeZ g (p.hand side) := by unfold zag.hand; split; exact h.h0; exact h.h1
theorem POk.withHand {g : zad} {p : zag} (h : POk g p) (side : Int) {l : List Int} (hl : zeZ g l) : POk g (p.withHand side l) := by
 unfold zag.withHand
 split
 ·exact ⟨h.al, h.av, hl, h.h1, h.r0, h.r1, h.s⟩
 ·exact ⟨h.al, h.av, h.h0, hl, h.r0, h.r1, h.s⟩
theorem zeZ.set {g : zad} {l : List Int} (h : zeZ g l) (i : Nat) {v : Int} (hv : 0 ≤ v ∧ v ≤ 8) (hk : 0 < v → (nth g.kinds i).keep = true) : zeZ g (l.set i v) := by
 refine ⟨by simpa using h.len, fun j hj => ?_⟩
 have hj' : j < l.length := by simpa using hj
 rw [zcx]
 split
 ·rename_i e
  obtain ⟨rfl, _⟩ := e
  exact ⟨hv.1, hv.2, hk⟩
 ·exact h.v j hj'
theorem POk.at {g : zad} {p : zag} (h : POk g p) {i : Nat} (hi : (i : Int) < g.cells) : 0 ≤ nth p.at_ i ∧ nth p.at_ i ≤ 2 * g.kinds.length :=
 h.av _ (zaj (by have := h.al; omega))
theorem POk.side {g : zad} {p : zag} (h : POk g p) {s : Int} (hs : s = 0 ∨ s = 1) : POk g { p with side := s } := ⟨h.al, h.av, h.h0, h.h1, h.r0, h.r1, hs⟩
theorem zmV (p : zag) (s : Int) (l : List Int) : (p.withHand s l).side = p.side := by unfold zag.withHand; split <;> rfl
theorem POk.clr {g : zad} {p : zag} (h : POk g p) (c : Int) : POk g (clr p c) := h.setAt _ (by omega)
theorem zlD {g : zad} {s : StD} (h : zeS g s) : ∀ {l : List Int}, (∀ y ∈ l, 0 ≤ y ∧ y < g.cells) → ∀ t ∈ zbl s l, zeS g t ∧ t.p.side = s.p.side
 | [], _, t, ht => by simp [zbl] at ht
 | c :: l, hl, t, ht => by
  rw [zbl, List.mem_cons] at ht
  rcases ht with rfl | ht
  ·have := hl c (by simp)
   exact ⟨⟨h.p, this.1, this.2, h.k⟩, rfl⟩
  ·split at ht
   ·exact zlD h (fun y hy => hl y (List.mem_cons_of_mem _ hy)) t ht
   ·simp at ht
theorem zjT {s : StD} : ∀ (l : List Int), (zbl s l).length ≤ l.length
 | [] => by simp [zbl]
 | c :: l => by
  rw [zbl]
  have := zjT (s := s) l
  split <;> simp <;> omega
theorem zgQ {g : zad} (hg : GOk g) {s : StD} (h : zeS g s) {x : Int × Int} (hx : zea g.next.length g.kinds.length g.rights x) : ∀ t ∈ zbG g s x, zeS g t ∧ t.p.side = s.p.side := by
 intro t ht
 have hb := hg.board
 have hcur : (s.cursor.toNat : Int) < g.cells := by have := h.c0; have := h.c1; omega
 have hat := h.p.at hcur
 have only : ∀ {u : StD} {b : Bool}, t ∈ zcD u b → b = true ∧ t = u := fun {u b} hu => by
  unfold zcD at hu
  split at hu
  ·rename_i hb'; exact ⟨hb', by simpa using hu⟩
  ·simp at hu
 have hbc : g.board.cells = g.cells := rfl
 unfold zbG at ht
 simp only at ht
 split at ht
 ·obtain ⟨h1, rfl⟩ := only ht
  have := zeQ hb s.p.side x.2 s.cursor
  exact ⟨⟨h.p, by simpa using h1, by rw [hbc] at this; exact this, h.k⟩, rfl⟩
 split at ht
 ·exact zlD h (fun y hy => zei hb y hy) t ht
 split at ht
 ·obtain ⟨h1, rfl⟩ := only ht; exact ⟨h, rfl⟩
 split at ht
 ·obtain ⟨h1, rfl⟩ := only ht; exact ⟨h, rfl⟩
 split at ht
 ·obtain ⟨h1, rfl⟩ := only ht; exact ⟨h, rfl⟩
 split at ht
 ·unfold zkD at ht
  simp only at ht
  split at ht
  ·simp at ht
  ·rename_i hm
   split at ht
   ·rename_i hkeep
    split at ht
    ·simp at ht
    ·rename_i h8
     simp only [List.mem_singleton] at ht
     subst ht
     refine ⟨⟨(h.p.clr _).withHand _ ((h.p.hand _).set _ ?_ (fun _ => hkeep)), h.c0, h.c1, h.k⟩, zmV _ _ _⟩
     have hh := h.p.hand s.p.side
     rcases zaR hat.1 hat.2 hg.k6 with ⟨e, e2⟩ | ⟨e, e2, e3, _⟩
     ·rw [e2] at hm; simp at hm
     ·have := hh.v (zak (nth s.p.at_ s.cursor.toNat)).1.toNat (by rw [hh.len]; omega)
      omega
   ·simp only [List.mem_singleton] at ht
    subst ht
    exact ⟨⟨h.p.clr _, h.c0, h.c1, h.k⟩, rfl⟩
 split at ht
 ·unfold zkA at ht
  simp only at ht
  split at ht
  ·simp at ht
  ·simp only [List.mem_singleton] at ht
   subst ht
   exact ⟨⟨(h.p.setAt _ hat).setAt _ (by omega), h.c0, h.c1, h.k⟩, rfl⟩
 split at ht
 ·rename_i e
  simp only [List.mem_singleton] at ht
  subst ht
  exact ⟨⟨h.p, h.c0, h.c1, hx.kind e⟩, rfl⟩
 split at ht
 ·obtain ⟨h1, rfl⟩ := only ht; exact ⟨h, rfl⟩
 split at ht
 ·rename_i e
  simp only [List.mem_singleton] at ht
  subst ht
  have hr := hx.right (.inr e)
  have hp := zim hg.r0 hg.r4
  have a := h.p.r0
  have b := h.p.r1
  have c := hg.r4
  obtain ⟨k1, k2⟩ := znq (r := s.p.rights) (m := x.2.toNat) a (by omega) (by omega)
  exact ⟨⟨⟨h.p.al, h.p.av, h.p.h0, h.p.h1, k1, by simp only; omega, h.p.s⟩, h.c0, h.c1, h.k⟩, rfl⟩
 ·simp only [List.mem_singleton] at ht
  subst ht
  exact ⟨h, rfl⟩
theorem zj1 {g : zad} (hg : GOk g) (s : StD) (x : Int × Int) : (zbG g s x).length ≤ 10 := by
 have c9 := hg.c9
 have on : ∀ (u : StD) (b : Bool), (zcD u b).length ≤ 10 := fun u b => by unfold zcD; split <;> simp
 unfold zbG
 simp only
 split; exact on _ _
 split
 ·have h1 := zjT (s := s) (zf7 g.board s.p.side x.2 s.cursor)
  have h2 := zjm (b := g.board) (side := s.p.side) (d := x.2) (c := s.cursor)
  have : g.board.cells = g.cells := rfl
  unfold zjU; omega
 split; exact on _ _
 split; exact on _ _
 split; exact on _ _
 split
 ·unfold zkD; simp only; (repeat' split) <;> simp
 split
 ·unfold zkA; simp only; (repeat' split) <;> simp
 split; simp
 split; exact on _ _
 split <;> simp
theorem zpe (a b : StD) (ha : zaK a.p) (hb : zaK b.p) : zaP Tryz.prog 314 [.agg (zal a), .agg (zal b)] (.v (.bool (decide (a = b)))) := by
 refine pF Tryz.func314 ?_
 have hC := zcE _ _ ha hb
 have he := zpO (p := a.p) (q := b.p)
 obtain ⟨pa, ka, ca, ta⟩ := a
 obtain ⟨pb, kb, cb, tb⟩ := b
 simp only at hC he
 repeat first|refine wV fun _=>?_|simp [go_sem]
 refine zAS _ (fun _ => hC) (by simp [go_sem]) ?_
 repeat first|refine wV fun _=>?_|simp [go_sem]
 refine zAP ?_
 by_cases h1 : pa = pb <;> by_cases h2 : ka = kb <;> by_cases h3 : ca = cb <;> cases ta <;> cases tb <;> simp_all
theorem zpc (s : StD) (b : Bool) : zaP Tryz.prog 315 [.agg (zal s), .v (.bool b)] (zbb (zcD s b)) := by
 refine pF Tryz.func315 ?_
 cases b
 ·repeat first|refine wV fun _=>?_|simp [go_sem, zcD]
  exact frX
 ·repeat first|refine wV fun _=>?_|simp [go_sem, zcD]
  exact frX
theorem znd (g : zad) (hg : GOk g) (s : StD) (hs : zeS g s) (n : Int) : zaP Tryz.prog 316 [.agg (zae g), .agg (zal s), .v (.int .i64 n)] (zbb (zjU g.board s n)) := by
 refine pF Tryz.func316 ?_
 have hL := zo6 g.board hg.board s.p.side n s.cursor
 have hlm := zei hg.board (side := s.p.side) (d := n) (c := s.cursor)
 have hll := zjm (b := g.board) (side := s.p.side) (d := n) (c := s.cursor)
 have c9 := hg.c9
 have c1 := hg.c1
 have hal := hs.p.al
 rw [show g.board.cells = g.cells from rfl] at hlm hll
 unfold zjU
 generalize zf7 g.board s.p.side n s.cursor = line at *
 generalize hR : zbl s line = R
 repeat first|refine wV fun _=>?_|simp [go_sem]
 refine zAD hL (by simp [go_sem]) ?_
 repeat first|refine wV fun _=>?_|simp [go_sem]
 refine zAC (zAG (α := Nat × List StD) (fun a => ⟨[(4, .ref 1 0 8 0 0), (7, .sl 2 a.2.length 8 0 a.2.length), (8, zap line), (9, .v (.int .i64 a.1))], [(1, .rows true 0 8 [zal s]), (2, .rows true a.2.length 8 (a.2.map zal))], 3⟩)
  (fun d a => a.1 + d = line.length ∧ a.2.length = a.1 ∧ R = a.2 ++ zbl s (line.drop a.1)) ?_ line.length (0, []) ?_) ?_ ?_
 ·rintro d ⟨i, out⟩ ⟨i1, i2, i3⟩ hrec
  simp only at i1 i2 i3
  repeat first|refine wV fun _=>?_|simp [go_sem]
  refine zAE (fun hi => ?_) (fun hi => ?_) <;> simp at hi
  ·have hli := hlm _ (zaj hi)
   have hlt : (nth line i).toNat < s.p.at_.length := by omega
   rw [zaQ hi, zbl] at i3
   repeat first|refine wV fun _=>?_|simp [go_sem, hi, hlt]
   refine zAE (fun hz => ?_) (fun hz => ?_) <;> simp at hz
   ·rw [if_neg (by simpa using hz)] at i3
    repeat first|refine wV fun _=>?_|simp [go_sem]
    rw [i3]
    exact frX
   ·rw [if_pos (by simpa using hz)] at i3
    repeat first|refine wV fun _=>?_|simp [go_sem]
    refine zAC (hrec (d - 1) (by omega) (i + 1, out ++ [{ s with cursor := nth line i }]) ⟨by simp only; omega, by simp; omega, by simpa using i3⟩) ?_ (by simp)
    simp [go_sem, zaf]
  ·rw [List.drop_eq_nil_of_le hi, zbl] at i3
   repeat first|refine wV fun _=>?_|simp [go_sem]
   rw [i3]
   exact frX
 ·simp [hR]
 ·simp [go_sem, zaf]
 ·simp
theorem zpf (g : zad) (hg : GOk g) (s : StD) (hs : zeS g s) : zaP Tryz.prog 317 [.agg (zae g), .agg (zal s)] (zbb (zkD g s)) := by
 refine pF Tryz.func317 ?_
 have hal := hs.p.al
 have hc0 := hs.c0
 have hc1 := hs.c1
 have hcur : s.cursor.toNat < s.p.at_.length := by omega
 have hO := ze2 (nth s.p.at_ s.cursor.toNat)
 have hat := hs.p.at (i := s.cursor.toNat) (by omega)
 have hman := zaR hat.1 hat.2 hg.k6
 have hcp := zdB s.p (hs.p.fits hg)
 unfold zkD
 generalize hm : zak (nth s.p.at_ s.cursor.toNat) = m at *
 obtain ⟨mk, ms⟩ := m
 simp only [Prod.mk.injEq] at hman
 repeat first|refine wV fun _=>?_|simp [go_sem, hcur]
 refine zAD hO (by simp [go_sem]) ?_
 repeat first|refine wV fun _=>?_|simp [go_sem]
 refine zAE (fun hc => ?_) (fun hc => ?_) <;> simp at hc
 ·rw [if_pos hc]
  repeat first|refine wV fun _=>?_|simp [go_sem]
  exact frX
 ·rw [if_neg (by omega)]
  repeat first|refine wV fun _=>?_|simp [go_sem]
  refine zAH hcp (by simp [go_sem]) ?_
  have hmk : mk.toNat < g.kinds.length := by omega
  repeat first|refine wV fun _=>?_|simp [go_sem, hcur, hmk]
  refine zAE (fun hk => ?_) (fun hk => ?_)
  ·rw [if_pos hk]
   have hl0 := hs.p.h0.len
   have hl1 := hs.p.h1.len
   rcases hs.p.s with hsd | hsd
   ·have hmk0 : mk.toNat < s.p.h0.length := by omega
    have hmk' : 0 ≤ mk := by omega
    have hv := hs.p.h0.v _ hmk0
    repeat first|refine wV fun _=>?_|simp [go_sem, hsd, hmk0, hcur]
    refine zAE (fun h8 => ?_) (fun h8 => ?_) <;> simp at h8
    ·rw [if_pos (by simpa [zag.hand, hsd] using h8)]
     repeat first|refine wV fun _=>?_|simp [go_sem]
     exact frX
    ·rw [if_neg (by simpa [zag.hand, hsd] using h8)]
     repeat first|refine wV fun _=>?_|simp [go_sem, hsd, zag.withHand, zag.hand, clr]
     (first|done|exact dpX)
   ·have hmk0 : mk.toNat < s.p.h1.length := by omega
    have hmk' : 0 ≤ mk := by omega
    have hv := hs.p.h1.v _ hmk0
    repeat first|refine wV fun _=>?_|simp [go_sem, hsd, hmk0, hcur]
    refine zAE (fun h8 => ?_) (fun h8 => ?_) <;> simp at h8
    ·rw [if_pos (by simpa [zag.hand, hsd] using h8)]
     repeat first|refine wV fun _=>?_|simp [go_sem]
     exact frX
    ·rw [if_neg (by simpa [zag.hand, hsd] using h8)]
     repeat first|refine wV fun _=>?_|simp [go_sem, hsd, zag.withHand, zag.hand, clr]
     (first|done|exact dpX)
  ·rw [if_neg (by simpa using hk)]
   repeat first|refine wV fun _=>?_|simp [go_sem, clr]
   (first|done|exact dpX)
theorem zpd (g : zad) (hg : GOk g) (s : StD) (hs : zeS g s) (n : Int) : zaP Tryz.prog 318 [.agg (zae g), .agg (zal s), .v (.int .i64 n)] (zbb (zkA g s n)) := by
 refine pF Tryz.func318 ?_
 have hT := ziv g.board hg.board s.p.side n s.cursor
 repeat first|refine wV fun _=>?_|simp [go_sem]
 refine zAD hT (by simp [go_sem]) ?_
 have hal := hs.p.al
 have hc0 := hs.c0
 have hc1 := hs.c1
 have hcur : s.cursor.toNat < s.p.at_.length := by omega
 have hcp := zdB s.p (hs.p.fits hg)
 have hto := zeQ hg.board s.p.side n s.cursor
 rw [show g.board.cells = g.cells from rfl] at hto
 unfold zkA
 generalize toB g.board s.p.side n s.cursor = to at *
 by_cases ht : to < 0
 ·rw [if_pos (.inr (.inl ht))]
  have ht0 : to.toNat = 0 := by omega
  have h0l : 0 < s.p.at_.length := by omega
  repeat first|refine wV fun _=>?_|simp [go_sem, hcur, ht, ht0, h0l]
  exact frX
 ·have htl : to.toNat < s.p.at_.length := by omega
  have ht' : 0 ≤ to := by omega
  repeat first|refine wV fun _=>?_|simp [go_sem, hcur, ht, htl]
  refine zAE (fun hc => ?_) (fun hc => ?_) <;> simp at hc
  ·rw [if_pos (by by_cases h : nth s.p.at_ s.cursor.toNat = 0; exact .inl h; exact .inr (hc.resolve_left h))]
   repeat first|refine wV fun _=>?_|simp [go_sem]
   exact frX
  ·rw [if_neg (by rintro (h | h); exact hc.1 h; exact h hc.2)]
   repeat first|refine wV fun _=>?_|simp [go_sem, hcur]
   refine zAH hcp (by simp [go_sem]) ?_
   repeat first|refine wV fun _=>?_|simp [go_sem, hcur, htl]
   (first|done|exact dpX)
end Go.Av
end
