/- Texts of ours, part 9: our library and contracts of functions. -/
import Derived.Test.YtedhfmmlhfmomaaGreatDoorB08
import Derived.Shelf.SlSortCmp.NoneTotal
import Derived.Test.YtedhfmmlhfmomaaGreatDoorProg
set_option linter.unusedSimpArgs false
set_option linter.unusedVariables false
set_option maxRecDepth 100000
set_option maxHeartbeats 40000000
section
open Go Go.Proofs
namespace Go.Av
def zfY (x : zf0) : zf0 := { x with w := x.w.tmod 2, h := x.h.tmod 2, k1 := [], f2 := 0, f0 := x.f0.tmod 2 }
theorem zk4 {a : Int} (h : U8 a) : (a.tmod 2 = 0 ∨ a.tmod 2 = 1) ∧ U8 (a.tmod 2) := by
 have h0 := Int.tmod_nonneg 2 h.1
 have h1 := Int.tmod_lt_of_pos a (show (0 : Int) < 2 by decide)
 exact ⟨by omega, by omega, by omega⟩
theorem zpg {x : zf0} (hx : zlo x) : zlo (zfY x) :=
 ⟨(zk4 hx.w).2, (zk4 hx.h).2, hx.cut, hx.k0, fun n hn => (by cases hn), hx.c, (zk4 hx.f0).2, hx.f1, (show U8 0 from ⟨by decide, by decide⟩), hx.f3, hx.f4, hx.f5⟩
theorem zqC {w h : Int} (hw : w = 0 ∨ w = 1) (hh : h = 0 ∨ h = 1) (cut : Int) : (zdK w h cut).cells ≤ 4 := by
 have key : ∀ a b : Nat, a ≤ 2 → b ≤ 2 → (zcv a b).cells ≤ 4 := by
  intro a b ha hb
  have : a = 0 ∨ a = 1 ∨ a = 2 := by omega
  have : b = 0 ∨ b = 1 ∨ b = 2 := by omega
  rcases ‹a = 0 ∨ a = 1 ∨ a = 2› with rfl | rfl | rfl <;> rcases ‹b = 0 ∨ b = 1 ∨ b = 2› with rfl | rfl | rfl <;> decide
 have e : ∀ z : Int, z = 0 ∨ z = 1 → (1 + z.tmod 3).toNat ≤ 2 := by rintro z (rfl | rfl) <;> decide
 have k1 := key _ _ (e w hw) (e h hh)
 unfold zdK
 split
 ·unfold zbD
  simp only
  omega
 ·exact k1
theorem ztH {x : zf0} (hx : zlo x) : ziI (zeX (zfY x)) := by
 have hg := zvo (zpg hx)
 have hk : zch (zfY x) = 1 := rfl
 refine ⟨hg, zqC (zk4 hx.w).1 (zk4 hx.h).1 x.cut, ?_, fun k hk => ?_, ?_⟩
 ·show ((List.range (zch (zfY x))).map _).length = 1
  rw [hk]
  rfl
 ·obtain ⟨i, hi, rfl⟩ := List.mem_map.1 hk
  have hi := List.mem_range.1 hi
  rw [show zch (zfY x) = 1 from rfl] at hi
  obtain rfl : i = 0 := by omega
  simp only [zdI, zfY]
  decide +kernel
 ·show (x.f0.tmod 2).tmod 3 ≤ 1
  rcases (zk4 hx.f0).1 with h | h <;> rw [h] <;> decide
theorem zsj {g : zae} {n : Nat} {l : List zag} {q : zag} (hq : q ∈ l) (h : 4000 < (zap g q).length) : zbO g (n + 1) l = ([], 2) := by
 rw [zbO, if_neg]
 intro h2
 have := of_decide_eq_true (List.all_eq_true.1 h2 q hq)
 omega
theorem zuQ {g : zae} {n : Nat} {l : List zag} (h : ∀ q ∈ l, (zap g q).length ≤ 4000) : zbO g (n + 1) l = if 4000 < (zbj zbw (l.flatMap (zap g))).length then ([], 2) else zbO g n (zbj zbw (l.flatMap (zap g))) := by
 rw [zbO, if_pos (List.all_eq_true.2 fun q hq => decide_eq_true (h q hq))]
def zlc (g : zae) (l : List zag) (k : Nat) : List zag := (l.take k).flatMap (zap g)
theorem zmC (g : zae) (l : List zag) : zlc g l 0 = [] := rfl
theorem zmB (g : zae) {l : List zag} {k : Nat} (hk : k < l.length) : zlc g l (k + 1) = zlc g l k ++ zap g (nth l k) := by
 unfold zlc
 rw [List.take_add_one, List.getElem?_eq_getElem hk, ← zaB _ _ hk, Option.toList_some, List.flatMap_append]
 simp
theorem zoX (g : zae) (l : List zag) : zlc g l l.length = l.flatMap (zap g) := by
 unfold zlc
 rw [List.take_length]
theorem zoY {g : zae} {l : List zag} {k : Nat} (h : ∀ j, j < k → j < l.length → (zap g (nth l j)).length ≤ 4000) : (zlc g l k).length ≤ l.length * 4000 := by
 unfold zlc
 have := zbn (zap g) 4000 (l.take k) fun q hq => by
  obtain ⟨j, hj, rfl⟩ := zkT hq
  rw [List.length_take] at hj
  have e : nth (l.take k) j = nth l j := by
   unfold nth
   rw [List.getD_eq_getElem?_getD, List.getD_eq_getElem?_getD, List.getElem?_take_of_lt (by omega)]
  rw [e]
  exact h j (by omega) (by omega)
 rw [List.length_take] at this
 exact Nat.le_trans this (Nat.mul_le_mul_right _ (Nat.min_le_right _ _))
theorem ztf {g : zae} (hg : GOk g) {l : List zag} {k : Nat} : ∀ q ∈ zlc g l k, POk g q := fun q hq => by
 obtain ⟨r, _, hq⟩ := List.mem_flatMap.1 hq
 exact zc1 hg hq
theorem zux {g : zae} {p : zag} (h : (zap g p).length ≤ 4000) : zdA g p = (zap g p, 0) := by
 unfold zdA
 rw [if_neg (by omega)]
theorem zrW {g : zae} {p : zag} (h : 4000 < (zap g p).length) : zdA g p = ([], 2) := by
 unfold zdA
 rw [if_pos h]
def tkF (g : zae) (side : Int) (p : zag) (a i : Nat) : List zag := ((List.range g.kinds.length).drop i).flatMap (tkL g side p a)
theorem zvF {g : zae} (side : Int) (p : zag) (a : Nat) {i : Nat} (hi : i < g.kinds.length) : tkF g side p a i = tkL g side p a i ++ tkF g side p a (i + 1) := by
 unfold tkF
 have e : (List.range g.kinds.length).drop i = i :: (List.range g.kinds.length).drop (i + 1) := by
  rw [List.drop_eq_getElem_cons (by simpa using hi)]; simp
 rw [e, List.flatMap_cons]
theorem zxy (g : zae) (side : Int) (p : zag) (a : Nat) : tkF g side p a g.kinds.length = [] := by
 unfold tkF
 rw [List.drop_eq_nil_of_le (by simp)]
 rfl
end Go.Av
end
section
/- Our library: ranges zdx functions, and iterators: equations and steps. -/
namespace Go.Av
open Go
section
variable {P : Program} {n0 : Nat} {Q : zbx} {e : Env} {h : zal} {n : Nat} {ops rest : List Oper}
def zdz (P : Program) (n0 : Nat) (ps : List Tmp) (a b : Code) (Q : zbx) (v : AV) (e : Env) (h : zal) (n : Nat) : Prop :=
 (∃ f caps caps' more rows h', v = .fn (.func f) [] caps ∧ Frz h h' ∧ zam h h' n caps caps' ∧ (∀ c ∈ caps', Bel 0 c) ∧ zlk P f caps' more rows ∧
  (∀ xs ∈ rows, xs.length = ps.length) ∧ Fgt n0 (zbf n0 more ps (fun n1 => awp P n1 a) (fun n1 => awp P n1 b) Q rows) e h' n) ∨
 (∃ f caps caps' o gn sz rs rs' more rows h', v = .fn (.func f) [] caps ∧ Frz h h' ∧ h' o = some (.rows true gn sz rs) ∧ zak h h' n rs rs' ∧ (∀ r ∈ rs', ∀ c ∈ r, Bel 0 c) ∧
  zfb h h' n o caps caps' ∧ zm7 P f caps' [(0, .rows true gn sz rs')] 1 more rows ∧
  (∀ xs ∈ rows, xs.length = ps.length) ∧ Fgt n0 (zbf n0 more ps (fun n1 => awp P n1 a) (fun n1 => awp P n1 b) Q rows) e (upd h' o none) n)
theorem zkq (g : Operand) (ps : List Tmp) (a b : Code) : awp P n0 (.rangeFunc g ps.toArray a b) Q e h n = zdz P n0 ps a b Q (ev e g) e h n := rfl
@[congr] theorem zvN {ps : List Tmp} {a b : Code} {v v' : AV} (hv : v = v') : zdz P n0 ps a b Q v e h n = zdz P n0 ps a b Q v' e h n := by subst hv; rfl
theorem zdz.mk {ps : List Tmp} {a b : Code} {f : FuncId} {caps : List AV} (caps' : List AV) (h' : zal) {more : Nat} {rows : List (List AV)} (C : zlk P f caps' more rows) (hfz : Frz h h') (hle : zam h h' n caps caps') (hb : ∀ c ∈ caps', Bel 0 c)
  (hlen : ∀ xs ∈ rows, xs.length = ps.length) (hk : Fgt n0 (zbf n0 more ps (fun n1 => awp P n1 a) (fun n1 => awp P n1 b) Q rows) e h' n) : zdz P n0 ps a b Q (.fn (.func f) [] caps) e h n :=
 .inl ⟨f, caps, caps', more, rows, h', rfl, hfz, hle, hb, C, hlen, hk⟩
theorem zdz.give {ps : List Tmp} {a b : Code} {f : FuncId} {caps : List AV} (caps' : List AV) (h' : zal) (o : Nat) {gn sz : Nat} {rs : List (List AV)} (rs' : List (List AV)) {more : Nat} {rows : List (List AV)}
  (C : zm7 P f caps' [(0, .rows true gn sz rs')] 1 more rows) (hfz : Frz h h') (ho : h' o = some (.rows true gn sz rs)) (hr : zak h h' n rs rs') (hbr : ∀ r ∈ rs', ∀ c ∈ r, Bel 0 c) (hg : zfb h h' n o caps caps')
  (hlen : ∀ xs ∈ rows, xs.length = ps.length) (hk : Fgt n0 (zbf n0 more ps (fun n1 => awp P n1 a) (fun n1 => awp P n1 b) Q rows) e (upd h' o none) n) : zdz P n0 ps a b Q (.fn (.func f) [] caps) e h n :=
 .inr ⟨f, caps, caps', o, gn, sz, rs, rs', more, rows, h', rfl, hfz, ho, hr, hbr, hg, C, hlen, hk⟩
theorem zx5 {ps : List Tmp} {a b : Code} {more : Nat} {xs : List AV} {rs : List (List AV)} (hn : n0 ≤ n)
  (hk : awp P n a (zrk (awp P n b (zhn (Fgt n0 (zbf n0 more ps (fun n1 => awp P n1 a) (fun n1 => awp P n1 b) Q rs)) Q e))) (zeC ps xs e) h n) :
  zbf n0 more ps (fun n1 => awp P n1 a) (fun n1 => awp P n1 b) Q (xs :: rs) e h n := ⟨hn, hk⟩
theorem Fgt.to {K : Env → zal → Nat → Prop} {E : List (Nat × AV)} {HH : List (Nat × zbd)} {n' : Nat} (hk : K (mkE E) (mkH HH) n') (hw : Wk e h n E HH n') (hn : n0 ≤ n') : Fgt n0 K e h n := .inr ⟨E, HH, n', hw, hn, hk⟩
theorem zx2 {α : Type} (S : α → List (Nat × AV) × List (Nat × zbd) × Nat) (inv : List (List AV) → α → Prop) {ps : List Tmp} {A B : Nat → zbx → Env → zal → Nat → Prop} {more : Nat}
  (h0 : ∀ d, inv [] d → more = 0 ∧ Q .normal (mkE (S d).1) (mkH (S d).2.1) (S d).2.2)
  (h1 : ∀ xs rs d, inv (xs :: rs) d → (∀ d', inv rs d' → zbf n0 more ps A B Q rs (mkE (S d').1) (mkH (S d').2.1) (S d').2.2) → zbf n0 more ps A B Q (xs :: rs) (mkE (S d).1) (mkH (S d).2.1) (S d).2.2) :
  ∀ rows d, inv rows d → zbf n0 more ps A B Q rows (mkE (S d).1) (mkH (S d).2.1) (S d).2.2
 | [], d, hi => h0 d hi
 | xs :: rs, d, hi => h1 xs rs d hi fun d' hi' => zx2 S inv h0 h1 rs d' hi'
theorem zlm {K : Env → zal → Nat → Prop} : zrk K .normal e h n = K e h n := rfl
theorem zj8 {K : Env → zal → Nat → Prop} {e0 : Env} : zhn K Q e0 .normal e h n = K (upd e0 GH (e GH)) h n := rfl
theorem zps {K : Env → zal → Nat → Prop} {e0 : Env} : zhn K Q e0 .ret e h n = Q .ret (upd e0 GH (e GH)) h n := rfl
theorem zna {K : Env → zal → Nat → Prop} {e0 : Env} {id : Nat} : zhn K Q e0 (.exit id) e h n = Q (.exit id) (upd e0 GH (e GH)) h n := rfl
theorem zto {xs : List AV} : zeC [] xs e = e := by simp [zeC]
theorem zqQ {t : Tmp} {ps : List Tmp} {x : AV} {xs : List AV} : zeC (t :: ps) (x :: xs) e = zeC ps xs (upd e t x) := rfl
theorem znk {rs : List ResultVar} {l more : Nat} : RetI P rs l more .normal e h n = ((zld P e h rs).1 ∧ ((more = 0 ∧ e GH = za2 l 0 []) ∨ e GH = za2 l 2 [])) := rfl
theorem zt5 {rs : List ResultVar} {l more : Nat} : RetI P rs l more .ret e h n = ((zld P e h rs).1 ∧ ((more = 0 ∧ e GH = za2 l 0 []) ∨ e GH = za2 l 2 [])) := rfl
theorem zpy.mk {dst : Option Tmp} {l more : Nat} {args xs : List AV} {rs : List (List AV)} (h' : zal) (hg : e GH = za2 l more (xs :: rs)) (hfz : Frz h h') (hle : zam h h' n args xs) (hb : ∀ c ∈ xs, Bel 0 c)
  (hT : za7 P ops Q rest (put (upd e GH (za2 l more rs)) dst (.v (.bool true))) h' n) (hF : za7 P ops Q rest (put (upd e GH (za2 l 2 [])) dst (.v (.bool false))) h' n) : zpy P ops Q rest dst l args e h n :=
 ⟨l, more, xs :: rs, rfl, hg, h', hfz, hle, hb, hT, hF⟩
theorem zpy.exh {dst : Option Tmp} {l : Nat} {args : List AV} (hg : e GH = za2 l 1 []) : zpy P ops Q rest dst l args e h n := ⟨l, 1, [], rfl, hg, rfl⟩
theorem aGC.yld {dst : Option Tmp} {l more : Nat} {args xs : List AV} {rs : List (List AV)} (h' : zal) (hg : e GH = za2 l more (xs :: rs)) (hfz : Frz h h') (hle : zam h h' n args xs) (hb : ∀ c ∈ xs, Bel 0 c)
  (hT : za7 P ops Q rest (put (upd e GH (za2 l more rs)) dst (.gd true (.v (.bool true)))) h' n) (hF : za7 P ops Q rest (put (upd e GH (za2 l 2 [])) dst (.gd true (.v (.bool false)))) h' n) :
  aGC P ops Q rest dst true (.fn (.yield l) [] []) args e h n := .inr (.inr ⟨rfl, l, more, xs :: rs, rfl, hg, h', hfz, hle, hb, hT, hF⟩)
theorem aGC.exh {dst : Option Tmp} {l : Nat} {args : List AV} (hg : e GH = za2 l 1 []) : aGC P ops Q rest dst true (.fn (.yield l) [] []) args e h n := .inr (.inr ⟨rfl, l, 1, [], rfl, hg, rfl⟩)
theorem zlh {h h' : zal} {o : Nat} : zfb h h' n o [] [] = True := eq_true .nil
theorem zli {h h' : zal} {o g sz i off : Nat} {xs ys : List AV} : zfb h h' n o (.ref o g sz i off :: xs) (.ref 0 g sz i off :: ys) = zfb h h' n o xs ys := by
 refine propext ⟨fun hg => ?_, .ref⟩
 cases hg with
 | ref t => exact t
 | le hx hb t => cases hb with | ref hb => exact absurd hb (Nat.not_lt_zero _)
theorem zoy {h h' : zal} {o : Nat} {x : AV} {cells xs ys : List AV} : zfb h h' n o (x :: xs) (.fp cells :: ys) = (LeV h h' n x (.fp cells) ∧ (∀ c ∈ cells, Bel 0 c) ∧ zfb h h' n o xs ys) := by
 refine propext ⟨fun hg => ?_, fun ⟨h1, h2, h3⟩ => .le h1 (.fp h2) h3⟩
 cases hg with
 | le hx hb t => cases hb with | fp hb => exact ⟨hx, hb, t⟩
attribute [go_sem] zlh zli zoy
attribute [go_sem] zkq zlm zj8 zps zna zto zqQ znk zt5 znn
end
end Go.Av
end
section
open Go Go.Proofs
namespace Go.Av
def zbM (b : zaF) (side d : Int) : Nat → Int → List Int
 | 0, _ => []
 | k + 1, x => if 0 ≤ x then x :: zbM b side d k (toB b side d x) else []
def zbb (b : zaF) (side d : Int) : Nat → Int → Nat
 | 0, x => if 0 ≤ x then 1 else 0
 | k + 1, x => if 0 ≤ x then zbb b side d k (toB b side d x) else 0
theorem zit {b : zaF} {side d : Int} : ∀ {k : Nat} {x : Int}, zbb b side d k x ≠ 2
 | 0, x => by unfold zbb; split <;> omega
 | k + 1, x => by unfold zbb; split; exact zit; omega
theorem zq4 (b : zaF) (hb : zaW b) (side d c : Int) (k : Nat) : zlk Tryz.prog 306 [.fp (zdE b), .fp [.v (.int .i64 side)], .fp [.v (.int .i64 d)], .fp [.v (.int .i64 c)]]
  (zbb b side d k (toB b side d c)) ((zbM b side d k (toB b side d c)).map zcf) := by
 refine zx3 (by kernel_rfl) Tryz.func306 rfl rfl (Nat.le_of_ble_eq_true rfl) (by kernel_rfl) (fun l => ?_) (hm2 := zit)
 have hbl : ∀ n, (∀ c' ∈ zdE b, Bel n c') = True := fun n => by simp [go_sem]
 have hel : (zdE b).length = 3 := rfl
 have hT : ∀ x, zaS Tryz.prog 243 [.agg (zdE b), .v (.int .i64 side), .v (.int .i64 d), .v (.int .i64 x)] (.v (.int .i64 (toB b side d x))) := fun x => zhb b hb side d x
 have hg : ∀ (n k : Nat) (x : Int), Bel n (za2 l (zbb b side d k x) ((zbM b side d k x).map zcf)) := fun n k x => by
  simp only [za2, zow, zj2, List.forall_mem_cons, ztZ, zbG]
  simp [go_sem]
 obtain ⟨eb, heb⟩ : ∃ eb, eb = zdE b := ⟨_, rfl⟩
 rw [← heb] at hbl hel hT ⊢
 have hte : eb.take 3 = eb := List.take_of_length_le (by omega)
 repeat first|refine wV fun _=>?_|simp [go_sem, hel, GH, hte]
 refine zxM (hT c) (by simp [go_sem, hbl]) ?_
 repeat first|refine wV fun _=>?_|simp [go_sem, hel, GH, hte]
 refine zxL (zxP (α := Nat × Int) (fun a => ⟨[(0, .fn (.yield l) [] []), (1, .fp eb), (2, .fp [.v (.int .i64 side)]), (3, .fp [.v (.int .i64 d)]), (6, .v (.int .i64 a.2)), (1000000007, za2 l (zbb b side d a.1 a.2) ((zbM b side d a.1 a.2).map zcf))], [], 0⟩)
  (fun f a => f = a.1 ∧ zbb b side d a.1 a.2 = zbb b side d k (toB b side d c)) ?_ k (k, toB b side d c) ?_) ?_ ?_
 ·rintro f ⟨k', x⟩ ⟨i1, i2⟩ hrec
  simp only at i1 i2
  subst i1
  repeat first|refine wV fun _=>?_|simp [go_sem, hel, GH, hte]
  by_cases hx : 0 ≤ x
  ·simp only [hx, decide_true]
   cases f with
   | zero => exact aGC.exh (by simp [upd, GH, zbb, zbM, hx])
   | succ f =>
    refine aGC.yld (more := zbb b side d f (toB b side d x)) (xs := [.v (.int .i64 x)]) (rs := (zbM b side d f (toB b side d x)).map zcf) noH (by simp [upd, GH, zbb, zbM, hx, zcf]) (.refl _) (.refl _ _ _ _) (by simp [go_sem]) ?_ ?_
    ·repeat first|refine wV fun _=>?_|simp [go_sem, hel, GH, hte]
     refine zxM (hT x) (by simp [go_sem, hbl]) ?_
     repeat first|refine wV fun _=>?_|simp [go_sem, hel, GH, hte]
     rw [zbb, if_pos hx] at i2
     refine zxL (hrec f (by omega) (f, toB b side d x) ⟨rfl, i2⟩) ?_ (by simp)
     simp [go_sem, zah, hbl, hg, GH]
    ·repeat first|refine wV fun _=>?_|simp [go_sem, hel, GH, hte]
  ·have hm : zbb b side d f x = 0 := by cases f <;> simp [zbb, hx]
   have hr : zbM b side d f x = [] := by cases f <;> simp [zbM, hx]
   simp only [hx, decide_false]
   refine aGC.skip (.v (.bool false)) ?_
   repeat first|refine wV fun _=>?_|simp [go_sem, hel, GH, hte]
   rw [← i2, hm, hr]
   exact .inl ⟨rfl, rfl⟩
 ·exact ⟨rfl, rfl⟩
 ·simp [go_sem, zah, hbl, hg, GH]
 ·simp
def zmT (n : Nat) : AV := .fn (.func 306) [] [.ref n 0 3 0 0, .ref (n + 1) 0 1 0 0, .ref (n + 2) 0 1 0 0, .ref (n + 3) 0 1 0 0]
def zmS (b : zaF) (side d c : Int) (n : Nat) : List (Nat × zbd) := [(n, .rows true 0 3 [zdE b]), (n + 1, .rows true 0 1 [[.v (.int .i64 side)]]), (n + 2, .rows true 0 1 [[.v (.int .i64 d)]]), (n + 3, .rows true 0 1 [[.v (.int .i64 c)]])]
theorem zq5 (b : zaF) (side d c : Int) : zgB Tryz.prog 290 [.agg (zdE b), .v (.int .i64 side), .v (.int .i64 d), .v (.int .i64 c)] zmT (zmS b side d c) 4 := by
 refine ⟨?_, fun n => ⟨by simp [go_sem, zmT], by simp [go_sem, zmS]⟩⟩
 refine zxR (by kernel_rfl) Tryz.func290 rfl rfl (Nat.le_of_ble_eq_true rfl) (by kernel_rfl) ?_
 repeat first|refine wV fun _=>?_|simp [go_sem, zmT, zmS]
 simp [go_sem, zah]
theorem zjf (b : zaF) (hb : zaW b) (side d c : Int) : zaS Tryz.prog 244 [.agg (zdE b), .v (.int .i64 side), .v (.int .i64 d), .v (.int .i64 c)] (zar (zg2 b side d c)) := by
 refine pF Tryz.func244 ?_
 have hbl : ∀ n, (∀ c' ∈ zdE b, Bel n c') = True := fun n => by simp [go_sem]
 have hel : (zdE b).length = 3 := rfl
 have hS : zgB Tryz.prog 290 [.agg (zdE b), .v (.int .i64 side), .v (.int .i64 d), .v (.int .i64 c)] (fun n => zmT n) (fun n => zmS b side d c n) 4 := zq5 b side d c
 have hQ := fun k => zq4 b hb side d c k
 simp only [zmT, zmS] at hS
 have hte : (zdE b).take 3 = zdE b := rfl
 obtain ⟨eb, heb⟩ : ∃ eb, eb = zdE b := ⟨_, rfl⟩
 rw [← heb] at hbl hel hS hQ hte ⊢
 have hc1 := hb.c1
 have hc0 := hb.c0
 repeat first|refine wV fun _=>?_|simp [go_sem, hel, hte, GH]
 refine zxQ hS (by simp [go_sem, hbl]) ?_
 repeat first|refine wV fun _=>?_|simp [go_sem, hel, hte, GH]
 refine zdz.mk [.fp eb, .fp [.v (.int .i64 side)], .fp [.v (.int .i64 d)], .fp [.v (.int .i64 c)]] (zbp _ [3, 4, 5, 6]) (hQ (b.cells.toNat + 1)) (zcb _ _) ?_ (by simp [go_sem, hbl]) (by simp [zcf]) ?_
 ·refine zam.cons (.frzP rfl ?_ ?_ ?_ ?_) (zam.cons (.frzP rfl ?_ ?_ ?_ ?_) (zam.cons (.frzP rfl ?_ ?_ ?_ ?_) (zam.cons (.frzP rfl ?_ ?_ ?_ ?_) .nil))) <;> first | exact zam.refl _ _ _ _ | simp [zbp, zbP, upd]
 refine Fgt.to (zx2 (α := Nat × Int × List Int) (fun a => ([(7, .ref 1 0 1 0 0), (9, .ref 2 0 1 0 0)], [(1, .rows true 0 1 [[.v (.int .i64 c)]]), (2, .rows true 0 1 [[.sl 7 a.2.2.length 1 0 a.2.2.length]]), (7, .rows true a.2.2.length 1 (a.2.2.map zcf))], 8))
  (fun rows a => rows = (zbM b side d a.1 a.2.1).map zcf ∧ zbb b side d a.1 a.2.1 = zbb b side d (b.cells.toNat + 1) (toB b side d c) ∧ a.1 + a.2.2.length = b.cells.toNat + 1 ∧ a.2.1 < b.cells ∧ a.2.2.Nodup ∧
   (∀ y ∈ a.2.2, 0 ≤ y ∧ y < b.cells) ∧ zg2 b side d c = zdJ b side d c a.1 a.2.1 a.2.2) ?_ ?_ _ (b.cells.toNat + 1, toB b side d c, []) ?_) ?_ ?_
 ·rintro ⟨f, x, seen⟩ ⟨i0, i1, i2, i3, i4, i5, i6⟩
  simp only at i0 i1 i2 i3 i4 i5 i6
  have hsl : seen.length ≤ b.cells.toNat := zfQ _ _ i4 (fun y hy => by have := i5 y hy; omega)
  obtain ⟨f, rfl⟩ : ∃ f', f = f' + 1 := ⟨f - 1, by omega⟩
  have hx : ¬ 0 ≤ x := fun hx => by simp [zbM, hx] at i0
  rw [zbb, if_neg hx] at i1
  rw [zdJ, if_neg (fun h => hx h.1)] at i6
  refine ⟨i1.symm, ?_⟩
  rw [i6]
  repeat first|refine wV fun _=>?_|simp [go_sem, hel]
  exact frX
 ·rintro xs rs ⟨f, x, seen⟩ ⟨i0, i1, i2, i3, i4, i5, i6⟩ hrec
  simp only at i0 i1 i2 i3 i4 i5 i6
  have hsl : seen.length ≤ b.cells.toNat := zfQ _ _ i4 (fun y hy => by have := i5 y hy; omega)
  cases f with
  | zero => simp [zbM] at i0
  | succ f =>
  have hx : 0 ≤ x := by
   by_cases hx : 0 ≤ x
   ·exact hx
   ·simp [zbM, hx] at i0
  rw [zbM, if_pos hx] at i0
  simp only [List.map_cons, List.cons.injEq] at i0
  obtain ⟨rfl, rfl⟩ := i0
  rw [zbb, if_pos hx] at i1
  rw [zdJ] at i6
  refine zx5 (Nat.zero_le _) ?_
  repeat first|refine wV fun _=>?_|simp [go_sem, hel, GH, zcf]
  refine zyq [zar seen, .v (.int .i64 x)] (.v (.bool (decide (x ∈ seen)))) (fun _ => zj5 seen x (by omega)) (.v _) ?_ (by simp [go_sem]) ?_
  ·refine zam.cons ?_ (zam.cons (.refl _) zam.nil)
   refine LeV.frz rfl ?_ ?_ (zxV ?_) <;> simp [noH, List.take_of_length_le]
  repeat first|refine wV fun _=>?_|simp [go_sem, hel, GH]
  refine zxN (fun hc => ?_) (fun hc => ?_) <;> simp at hc
  ·rw [if_neg (by rintro ⟨h1, h2, h3⟩; rcases hc with h | h <;> contradiction)] at i6
   rw [i6]
   repeat first|refine wV fun _=>?_|simp [go_sem, hel, GH]
   exact frX
  ·rw [if_pos ⟨hx, by simpa using hc⟩] at i6
   repeat first|refine wV fun _=>?_|simp [go_sem, hel, GH]
   refine Fgt.to (hrec (f, toB b side d x, seen ++ [x]) ⟨rfl, i1, by simp only [List.length_append, List.length_singleton]; omega, zgT hb _ _ _, ?_, ?_, i6⟩) ?_ (by simp)
   ·refine List.nodup_append.2 ⟨i4, by simp, ?_⟩
    intro y hy z hz
    simp at hz
    subst hz
    rintro rfl
    exact hc.2 hy
   ·intro y hy
    rcases List.mem_append.1 hy with h | h
    ·exact i5 y h
    ·simp at h; omega
   ·simp [go_sem, zah, GH] <;> (first|done|exact blX)
 ·exact ⟨rfl, rfl, by simp, zgT hb _ _ _, by simp, by simp, rfl⟩
 ·simp [go_sem, zah]
 ·simp
theorem zeu (c : Int) : zaS Tryz.prog 126 [.v (.int .i64 c)] (.tup [.v (.int .i64 (zan c).1), .v (.int .i64 (zan c).2)]) := by
 refine pF Tryz.func126 ?_
 unfold zan
 by_cases h1 : c < 1
 ·rw [if_neg (by omega)]
  repeat first|refine wV fun _=>?_|simp [go_sem, h1]
 ·by_cases h2 : 12 < c
  ·rw [if_neg (by omega)]
   repeat first|refine wV fun _=>?_|simp [go_sem, h1, h2]
  ·rw [if_pos (by omega)]
   have e1 : (c - 1).tdiv 2 = (c - 1) / 2 := Int.tdiv_eq_ediv_of_nonneg (by omega)
   have e2 : (c - 1).tmod 2 = (c - 1) % 2 := Int.tmod_eq_emod_of_nonneg (by omega)
   have b1 : 0 ≤ (c - 1).tdiv 2 ∧ (c - 1).tdiv 2 ≤ 12 := by omega
   have b2 : 0 ≤ (c - 1).tmod 2 ∧ (c - 1).tmod 2 ≤ 12 := by omega
   clear e1 e2
   repeat first|refine wV fun _=>?_|simp [go_sem, h1, h2]
theorem zc3 (k s : Int) : zaS Tryz.prog 133 [.v (.int .i64 k), .v (.int .i64 s)] (.v (.int .i64 (zaK k s))) := by
 refine pF Tryz.func133 ?_
 unfold zaK
 by_cases h1 : k < 0
 ·rw [if_neg (by omega)]
  repeat first|refine wV fun _=>?_|simp [go_sem, h1]
 by_cases h2 : 6 ≤ k
 ·rw [if_neg (by omega)]
  repeat first|refine wV fun _=>?_|simp [go_sem, h1, h2]
 by_cases h3 : s < 0
 ·rw [if_neg (by omega)]
  repeat first|refine wV fun _=>?_|simp [go_sem, h1, h2, h3]
 by_cases h4 : 1 < s
 ·rw [if_neg (by omega)]
  repeat first|refine wV fun _=>?_|simp [go_sem, h1, h2, h3, h4]
 ·rw [if_pos (by omega), show 2 * k + 1 + s = 1 + 2 * k + s by omega]
  repeat first|refine wV fun _=>?_|simp [go_sem, h1, h2, h3, h4]
theorem zjx (x : Int) : zaS Tryz.prog 147 [.v (.int .i64 x)] (.v (.bool false)) := by
 refine pF Tryz.func147 ?_
 repeat first|refine wV fun _=>?_|simp [go_sem]
theorem zcV (a b : Int) : zaS Tryz.prog 92 [.v (.int .i64 a), .v (.int .i64 b)] (.v (.int .i64 (za0 a b))) := by
 refine pF Tryz.func92 ?_
 repeat first|refine wV fun _=>?_|simp [go_sem]
 refine zxM (zjx a) (by simp [go_sem]) ?_
 repeat first|refine wV fun _=>?_|simp [go_sem]
 refine zxM (zjx b) (by simp [go_sem]) ?_
 unfold za0
 by_cases h1 : a < b
 ·rw [if_pos h1]
  repeat first|refine wV fun _=>?_|simp [go_sem, h1]
 ·by_cases h2 : b < a
  ·rw [if_neg h1, if_pos h2]
   repeat first|refine wV fun _=>?_|simp [go_sem, h1, h2]
  ·rw [if_neg h1, if_neg h2]
   repeat first|refine wV fun _=>?_|simp [go_sem, h1, h2]
def orI : List Int → Int
 | [] => 0
 | x :: l => if x = 0 then orI l else x
theorem zoL (l : List Int) (hl : zeh l) : zaS Tryz.prog 90 [zar l] (.v (.int .i64 (orI l))) := by
 refine pF Tryz.func90 ?_
 unfold zeh at hl
 repeat first|refine wV fun _=>?_|simp [go_sem]
 refine zxL (zxP (α := Nat) (fun j => ⟨[(3, .v (.int .i64 0)), (6, zar l), (7, .v (.int .i64 l.length)), (8, .v (.int .i64 j))], [], 0⟩)
  (fun d j => j + d = l.length ∧ orI l = orI (l.drop j)) ?_ l.length 0 ?_) ?_ ?_
 ·rintro d j ⟨i1, i2⟩ hrec
  repeat first|refine wV fun _=>?_|simp [go_sem]
  refine zxN (fun hj => ?_) (fun hj => ?_) <;> simp at hj
  ·rw [zfE hj, orI] at i2
   repeat first|refine wV fun _=>?_|simp [go_sem, hj]
   by_cases h0 : nth l j = 0
   ·rw [if_pos h0] at i2
    repeat first|refine wV fun _=>?_|simp [go_sem, h0]
    refine zxL (hrec (d - 1) (by omega) (j + 1) ⟨by omega, i2⟩) ?_ (by simp)
    simp [go_sem, zah]
   ·rw [if_neg h0] at i2
    rw [i2]
    repeat first|refine wV fun _=>?_|simp [go_sem, h0]
  ·rw [List.drop_eq_nil_of_le hj, orI] at i2
   rw [i2]
   repeat first|refine wV fun _=>?_|simp [go_sem]
 ·simp
 ·simp [go_sem, zah]
 ·simp
theorem zd8 (a b : List Int) (ha : zeh a) (hb : zeh b) : zaS Tryz.prog 91 [zar a, zar b] (.v (.int .i64 (zdC a b))) := by
 refine pF Tryz.func91 ?_
 unfold zeh at ha hb
 repeat first|refine wV fun _=>?_|simp [go_sem]
 refine zxL (zxP (α := Nat) (fun j => ⟨[(0, zar a), (1, zar b), (9, zar a), (10, .v (.int .i64 a.length)), (11, .v (.int .i64 j))], [], 0⟩)
  (fun d j => j + d = a.length ∧ j ≤ b.length ∧ zdC a b = zdC (a.drop j) (b.drop j)) ?_ a.length 0 ?_) ?_ ?_
 ·rintro d j ⟨i1, i2, i3⟩ hrec
  repeat first|refine wV fun _=>?_|simp [go_sem]
  refine zxN (fun hj => ?_) (fun hj => ?_) <;> simp at hj
  ·rw [zfE hj] at i3
   repeat first|refine wV fun _=>?_|simp [go_sem, hj]
   by_cases hk : j < b.length
   ·rw [zfE hk, zdC] at i3
    have hk' : ¬ b.length ≤ j := by omega
    repeat first|refine wV fun _=>?_|simp [go_sem, hj, hk, hk']
    refine zxM (zcV _ _) (by simp [go_sem]) ?_
    by_cases he : nth a j = nth b j
    ·rw [if_pos he] at i3
     have hn : za0 (nth a j) (nth b j) = 0 := by simp [za0, he]
     rw [hn]
     repeat first|refine wV fun _=>?_|simp [go_sem]
     refine zxL (hrec (d - 1) (by omega) (j + 1) ⟨by omega, by omega, i3⟩) ?_ (by simp)
     simp [go_sem, zah]
    ·rw [if_neg he] at i3
     have hn : za0 (nth a j) (nth b j) ≠ 0 := by unfold za0; split <;> (try split) <;> omega
     rw [i3]
     repeat first|refine wV fun _=>?_|simp [go_sem, hn]
   ·have hk' : b.length ≤ j := by omega
    rw [List.drop_eq_nil_of_le hk', ze3] at i3
    have : zdC a b = 1 := by rw [i3]; unfold za0; rw [if_neg (by simp only [List.length_cons]; omega), if_pos (by simp only [List.length_cons]; omega)]
    rw [this]
    repeat first|refine wV fun _=>?_|simp [go_sem, hj, hk, hk']
  ·have hja : j = a.length := by omega
   subst hja
   rw [List.drop_eq_nil_of_le (Nat.le_refl _), zfC] at i3
   rw [i3]
   unfold za0
   by_cases hb' : a.length < b.length
   ·rw [if_pos (by simp; omega)]
    repeat first|refine wV fun _=>?_|simp [go_sem, hb']
   ·rw [if_neg (by simp; omega), if_neg (by omega)]
    repeat first|refine wV fun _=>?_|simp [go_sem, hb']
 ·simp
 ·simp [go_sem, zah]
 ·simp
theorem zwU (p q : zag) : orI [zdC p.at_ q.at_, zdC p.h0 q.h0, zdC p.h1 q.h1, za0 p.rights q.rights, za0 p.side q.side] = zbw p q := by
 unfold zbw
 simp only [orI]
 repeat' split
 all_goals first | rfl | omega
theorem zbA (p q : zag) (hp : za3 p) (hq : za3 q) : zaS Tryz.prog 37 [.agg (zad p), .agg (zad q)] (.v (.int .i64 (zbw p q))) := by
 refine pF Tryz.func37 ?_
 obtain ⟨p1, p2, p3⟩ := hp
 obtain ⟨q1, q2, q3⟩ := hq
 rw [← zwU]
 have c1 := zd8 _ _ p1 q1
 have c2 := zd8 _ _ p2 q2
 have c3 := zd8 _ _ p3 q3
 have c4 := zcV p.rights q.rights
 have c5 := zcV p.side q.side
 generalize zdC p.at_ q.at_ = x1 at *
 generalize zdC p.h0 q.h0 = x2 at *
 generalize zdC p.h1 q.h1 = x3 at *
 generalize za0 p.rights q.rights = x4 at *
 generalize za0 p.side q.side = x5 at *
 repeat first|refine wV fun _=>?_|simp [go_sem]
 refine zxO c1 (by simp [go_sem]) ?_
 repeat first|refine wV fun _=>?_|simp [go_sem]
 refine zxO c2 (by simp [go_sem]) ?_
 repeat first|refine wV fun _=>?_|simp [go_sem]
 refine zxO c3 (by simp [go_sem]) ?_
 repeat first|refine wV fun _=>?_|simp [go_sem]
 refine zxO c4 (by simp [go_sem]) ?_
 repeat first|refine wV fun _=>?_|simp [go_sem]
 refine zxO c5 (by simp [go_sem]) ?_
 repeat first|refine wV fun _=>?_|simp [go_sem]
 refine zaC.frz [zar [x1, x2, x3, x4, x5]] _ [31] [(31, some (.rows false 0 1 ([x1, x2, x3, x4, x5].map zcf)))] (zoL _ (by unfold zeh; simp)) ?_ ?_ (by simp [go_sem]) ?_
 ·intro p hp
  simp only [List.mem_singleton] at hp
  subst hp
  exact ⟨by simp, 0, 1, _, rfl, by simp [upd, go_sem]⟩
 ·intro h₁ hS
  have h7 := hS 31 (by simp)
  simp [go_sem] at h7
  exact .cons (zaL h7.symm (by simp) (by simp [zai, upd]) (by simp [go_sem])) .nil
 ·repeat first|refine wV fun _=>?_|simp [go_sem]
end Go.Av
end
section
/- Contracts, runs of the program: own, man, provided, and the steps. -/
open Go Go.Proofs
namespace Go.Av
def zo2 (n : Nat) (s : StD) : AV := .agg [.sl (n + 2) 1 1 0 s.p.at_.length, .sl (n + 81) 1 1 0 s.p.h0.length, .sl (n + 161) 1 1 0 s.p.h1.length, .v (.int .i64 s.p.rights), .v (.int .i64 s.p.side), .v (.int .i64 s.kind), .v (.int .i64 s.cursor), .v (.bool s.took)]
def zmE (n : Nat) (s : StD) : List (Nat × zbd) := [(n + 2, .rows true 1 1 (s.p.at_.map zcf)), (n + 81, .rows true 1 1 (s.p.h0.map zcf)), (n + 161, .rows true 1 1 (s.p.h1.map zcf))]
attribute [go_sem] zo2 zmE
theorem zfR (s : StD) (ha : za3 s.p) : zgB Tryz.prog 132 [.agg (zas s)] (fun n => zo2 n s) (fun n => zmE n s) 241 := by
 refine ⟨zxR (by kernel_rfl) Tryz.func132 rfl rfl (Nat.le_of_ble_eq_true rfl) (by kernel_rfl) ?_, fun n => ⟨by simp [go_sem], by simp [go_sem]⟩⟩
 obtain ⟨a1, a2, a3⟩ := ha
 have h1 := zc0 s.p.at_ a1
 have h2 := zc0 s.p.h0 a2
 have h3 := zc0 s.p.h1 a3
 repeat first|refine wV fun _=>?_|simp [go_sem]
 refine zxQ h1 (by simp [go_sem]) ?_
 repeat first|refine wV fun _=>?_|simp [go_sem]
 refine zyd 81 (by rfl) (h2) (by decide) (by simp [go_sem]) (by simp [go_sem]) (fun _ => zam.refl _ _ _ _) (by simp [go_sem]) (by simp [go_sem]) ?_
 repeat first|refine wV fun _=>?_|simp [go_sem]
 refine zyd 161 (by rfl) (h3) (by decide) (by simp [go_sem]) (by simp [go_sem]) (fun _ => zam.refl _ _ _ _) (by simp [go_sem]) (by simp [go_sem]) ?_
 ((repeat (first|with_reducible (first|refine wL fun _=>?_|refine wD fun _=>?_|refine wZ ?_)|simp [go_sem])); refine zyr (by kernel_rfl) ?_)
 repeat first|refine wV fun _=>?_|simp [go_sem]
 simp [go_sem, zah]
theorem zkS (s : StD) (hc : s.cursor.toNat < s.p.at_.length) (h0 : 0 ≤ s.cursor) : zaS Tryz.prog 299 [.agg (zas s)] (.tup [.v (.int .i64 (zan (nth s.p.at_ s.cursor.toNat)).1), .v (.int .i64 (zan (nth s.p.at_ s.cursor.toNat)).2)]) := by
 refine pF Tryz.func299 ?_
 have hO := zeu (nth s.p.at_ s.cursor.toNat)
 generalize zan (nth s.p.at_ s.cursor.toNat) = m at *
 repeat first|refine wV fun _=>?_|simp [go_sem, hc]
 refine zxM hO (by simp [go_sem]) ?_
 repeat first|refine wV fun _=>?_|simp [go_sem]
theorem zbU (s : StD) (b : Bool) : zaS Tryz.prog 298 [.agg (zas s), .v (.bool b)] (zbJ (zcL s b)) := by
 refine pF Tryz.func298 ?_
 cases b
 ·repeat first|refine wV fun _=>?_|simp [go_sem, zcL]
 ·repeat first|refine wV fun _=>?_|simp [go_sem, zcL]
  exact frX
abbrev ziH (f : FuncId) (g : zae) (s : StD) (n : Int) (r : List StD) : Prop := zaS Tryz.prog f [.agg (zas s), .agg (zaf g), .v (.int .i64 n)] (zbJ r)
section
variable (g : zae) (hg : GOk g) (s : StD) (hs : zf4 g s) (n : Int)
theorem ztR (hg : GOk g) : ziH 264 g s n (zcL { s with cursor := toB g.board s.p.side n s.cursor } (decide (0 ≤ toB g.board s.p.side n s.cursor))) := by
 refine pF Tryz.func264 ?_
 have hT := zhb g.board hg.board s.p.side n s.cursor
 have hP := zbU { s with cursor := toB g.board s.p.side n s.cursor }
 repeat first|refine wV fun _=>?_|simp [go_sem]
 refine zxM hT (by simp [go_sem]) ?_
 repeat first|refine wV fun _=>?_|simp [go_sem]
 refine zxM (hP _) (by simp [go_sem]) ?_
 repeat first|refine wV fun _=>?_|simp [go_sem]
theorem zqZ (hg : GOk g) (hs : zf4 g s) : ziH 265 g s n (zmO g.board s n) := by
 refine pF Tryz.func265 ?_
 have hL := zjf g.board hg.board s.p.side n s.cursor
 have hlm := zev hg.board (side := s.p.side) (d := n) (c := s.cursor)
 have hll := zmp (b := g.board) (side := s.p.side) (d := n) (c := s.cursor)
 have c9 := hg.c9
 have c1 := hg.c1
 have hal := hs.p.al
 rw [show g.board.cells = g.cells from rfl] at hlm hll
 unfold zmO
 generalize zg2 g.board s.p.side n s.cursor = line at *
 generalize hR : zcu s line = R
 repeat first|refine wV fun _=>?_|simp [go_sem]
 refine zxM hL (by simp [go_sem]) ?_
 repeat first|refine wV fun _=>?_|simp [go_sem]
 refine zxL (zxP (α := Nat × List StD) (fun a => ⟨[(3, .ref 0 0 8 0 0), (7, .sl 2 a.2.length 8 0 a.2.length), (19, zar line), (20, .v (.int .i64 line.length)), (21, .v (.int .i64 a.1))], [(0, .rows true 0 8 [zas s]), (2, .rows true a.2.length 8 (a.2.map zas))], 3⟩)
  (fun d a => a.1 + d = line.length ∧ a.2.length = a.1 ∧ R = a.2 ++ zcu s (line.drop a.1)) ?_ line.length (0, []) ?_) ?_ ?_
 ·rintro d ⟨i, out⟩ ⟨i1, i2, i3⟩ hrec
  simp only at i1 i2 i3
  repeat first|refine wV fun _=>?_|simp [go_sem]
  refine zxN (fun hi => ?_) (fun hi => ?_) <;> simp at hi
  ·have hli := hlm _ (zaj hi)
   have hlt : (nth line i).toNat < s.p.at_.length := by omega
   rw [zaQ hi, zcu] at i3
   repeat first|refine wV fun _=>?_|simp [go_sem, hi, hlt]
   refine zxN (fun hz => ?_) (fun hz => ?_) <;> simp at hz
   ·rw [if_neg (by simpa using hz)] at i3
    repeat first|refine wV fun _=>?_|simp [go_sem]
    rw [i3]
    exact frX
   ·rw [if_pos (by simpa using hz)] at i3
    repeat first|refine wV fun _=>?_|simp [go_sem]
    refine zxL (hrec (d - 1) (by omega) (i + 1, out ++ [{ s with cursor := nth line i }]) ⟨by simp only; omega, by simp; omega, by simpa using i3⟩) ?_ (by simp)
    simp [go_sem, zah]
  ·rw [List.drop_eq_nil_of_le hi, zcu] at i3
   repeat first|refine wV fun _=>?_|simp [go_sem]
   rw [i3]
   exact frX
 ·simp [hR]
 ·simp [go_sem, zah]
 ·simp
theorem zmv (hg : GOk g) (hs : zf4 g s) : s.cursor.toNat < s.p.at_.length ∧ 0 ≤ s.cursor ∧ (nth s.p.at_ s.cursor.toNat = 0 ∧ zan (nth s.p.at_ s.cursor.toNat) = (-1, -1) ∨ nth s.p.at_ s.cursor.toNat ≠ 0 ∧ 0 ≤ (zan (nth s.p.at_ s.cursor.toNat)).1 ∧ (zan (nth s.p.at_ s.cursor.toNat)).1 < g.kinds.length ∧
  ((zan (nth s.p.at_ s.cursor.toNat)).2 = 0 ∨ (zan (nth s.p.at_ s.cursor.toNat)).2 = 1)) ∧ (s.p.side = 0 ∨ s.p.side = 1) := by
 have hal := hs.p.al
 have hc0 := hs.c0
 have hc1 := hs.c1
 have hcur : s.cursor.toNat < s.p.at_.length := by omega
 have hat := hs.p.at (i := s.cursor.toNat) (by omega)
 have hman := zaX hat.1 hat.2 hg.k6
 refine ⟨hcur, hc0, ?_, hs.p.s⟩
 rcases hman with ⟨h1, h2⟩ | ⟨h1, h2, h3, h4, _⟩
 ·exact .inl ⟨h1, h2⟩
 ·exact .inr ⟨h1, h2, h3, h4⟩
theorem zqg (hg : GOk g) (hs : zf4 g s) : ziH 266 g s n (zcL s (decide ((zan (nth s.p.at_ s.cursor.toNat)).1 < 0))) := by
 refine pF Tryz.func266 ?_
 obtain ⟨hcur, h0, hm, hsd⟩ := zmv g s hg hs
 have e : decide ((zan (nth s.p.at_ s.cursor.toNat)).1 < 0) = decide (nth s.p.at_ s.cursor.toNat = 0) := by
  rcases hm with ⟨h1, h2⟩ | ⟨h1, h2, _, _⟩
  ·rw [h2]; simp [h1]
  ·simp; omega
 rw [e]
 have hP := zbU s
 repeat first|refine wV fun _=>?_|simp [go_sem, hcur]
 refine zxO (hP _) (by simp [go_sem]) ?_
 repeat first|refine wV fun _=>?_|simp [go_sem]
theorem zqj (hg : GOk g) (hs : zf4 g s) : ziH 267 g s n (zcL s (decide (0 ≤ (zan (nth s.p.at_ s.cursor.toNat)).1 ∧ (zan (nth s.p.at_ s.cursor.toNat)).2 ≠ s.p.side))) := by
 refine pF Tryz.func267 ?_
 obtain ⟨hcur, h0, hm, hsd⟩ := zmv g s hg hs
 have hO := zkS s hcur h0
 have hP := zbU s
 have e : decide (0 ≤ (zan (nth s.p.at_ s.cursor.toNat)).1 ∧ (zan (nth s.p.at_ s.cursor.toNat)).2 ≠ s.p.side) = decide ((zan (nth s.p.at_ s.cursor.toNat)).2 = 1 - s.p.side) := by
  rcases hm with ⟨h1, h2⟩ | ⟨h1, h2, _, _⟩
  ·rw [h2]; simp; omega
  ·simp only [decide_eq_decide]; omega
 rw [e]
 generalize zan (nth s.p.at_ s.cursor.toNat) = m at *
 repeat first|refine wV fun _=>?_|simp [go_sem]
 refine zxM hO (by simp [go_sem]) ?_
 repeat first|refine wV fun _=>?_|simp [go_sem]
 refine zxM (hP _) (by simp [go_sem]) ?_
 repeat first|refine wV fun _=>?_|simp [go_sem]
theorem znV (hg : GOk g) (hs : zf4 g s) : ziH 268 g s n (zcL s (decide (0 ≤ (zan (nth s.p.at_ s.cursor.toNat)).1 ∧ (zan (nth s.p.at_ s.cursor.toNat)).2 = s.p.side))) := by
 refine pF Tryz.func268 ?_
 obtain ⟨hcur, h0, hm, hsd⟩ := zmv g s hg hs
 have hO := zkS s hcur h0
 have hP := zbU s
 have e : decide (0 ≤ (zan (nth s.p.at_ s.cursor.toNat)).1 ∧ (zan (nth s.p.at_ s.cursor.toNat)).2 = s.p.side) = decide ((zan (nth s.p.at_ s.cursor.toNat)).2 = s.p.side) := by
  rcases hm with ⟨h1, h2⟩ | ⟨h1, h2, _, _⟩
  ·rw [h2]; simp; omega
  ·simp only [decide_eq_decide]; omega
 rw [e]
 generalize zan (nth s.p.at_ s.cursor.toNat) = m at *
 repeat first|refine wV fun _=>?_|simp [go_sem]
 refine zxM hO (by simp [go_sem]) ?_
 repeat first|refine wV fun _=>?_|simp [go_sem]
 refine zxM (hP _) (by simp [go_sem]) ?_
 repeat first|refine wV fun _=>?_|simp [go_sem]
theorem ztF (hg : GOk g) (hs : zf4 g s) : ziH 269 g s n (zq7 g s) := by
 refine pF Tryz.func269 ?_
 obtain ⟨hcur, h0, hm, hsd⟩ := zmv g s hg hs
 have hO := zkS s hcur h0
 have hP := zbU
 have hcp := zfR s (hs.p.fits hg)
 unfold zq7
 generalize hme : zan (nth s.p.at_ s.cursor.toNat) = m at *
 obtain ⟨mk, ms⟩ := m
 simp only [Prod.mk.injEq] at hm
 repeat first|refine wV fun _=>?_|simp [go_sem]
 refine zxM hO (by simp [go_sem]) ?_
 repeat first|refine wV fun _=>?_|simp [go_sem]
 refine zxN (fun hc => ?_) (fun hc => ?_) <;> simp at hc
 ·rw [if_pos (by omega)]
  repeat first|refine wV fun _=>?_|simp [go_sem]
 ·rw [if_neg (by omega)]
  repeat first|refine wV fun _=>?_|simp [go_sem]
  refine zxQ hcp (by simp [go_sem]) ?_
  have hmk : mk.toNat < g.kinds.length := by omega
  have hmk' : 0 ≤ mk := by omega
  repeat first|refine wV fun _=>?_|simp [go_sem, hcur, hmk]
  refine zxN (fun hk => ?_) (fun hk => ?_)
  ·rw [if_neg (by simpa using hk)]
   repeat first|refine wV fun _=>?_|simp [go_sem, clr]
   (first|done|exact dpX)
  ·rw [if_pos (by simpa using hk)]
   have hl0 := hs.p.h0.len
   have hl1 := hs.p.h1.len
   rcases hsd with hsd | hsd
   ·have hmk0 : mk.toNat < s.p.h0.length := by omega
    have hv := hs.p.h0.v _ hmk0
    obtain ⟨u, hu⟩ : ∃ u : StD, u = { s with p := (clr s.p s.cursor).withHand s.p.side ((s.p.hand s.p.side).set mk.toNat (nth (s.p.hand s.p.side) mk.toNat + 1)), took := true } := ⟨_, rfl⟩
    have hres : (if 8 < nth (s.p.hand s.p.side) mk.toNat + 1 then [] else [u]) = zcL u (decide (nth s.p.h0 mk.toNat + 1 ≤ 8)) := by
     have : s.p.hand s.p.side = s.p.h0 := by simp [zag.hand, hsd]
     rw [this]
     unfold zcL
     by_cases h8 : 8 < nth s.p.h0 mk.toNat + 1
     ·rw [if_pos h8, if_neg (by simp; omega)]
     ·rw [if_neg h8, if_pos (by simp; omega)]
    rw [← hu, hres]
    have hue : zas u = [.lst 1 ((s.p.at_.map zcf).set s.cursor.toNat [.v (.int .i64 0)]), .lst 1 ((s.p.h0.map zcf).set mk.toNat [.v (.int .i64 (nth s.p.h0 mk.toNat + 1))]), .lst 1 (s.p.h1.map zcf), .v (.int .i64 s.p.rights), .v (.int .i64 s.p.side), .v (.int .i64 s.kind), .v (.int .i64 s.cursor), .v (.bool true)] := by
     rw [hu]; simp [zas, zag.withHand, zag.hand, clr, hsd, zar, zcf, List.map_set]
    have hP' := hP u
    rw [hue, hsd] at hP'
    (repeat (first|with_reducible (first|refine wL fun _=>?_|refine wD fun _=>?_|refine wE ?_)|simp [go_sem, hsd, hmk0, hcur]))
    refine zla.frz (zbp _ [4, 83, 163]) (zcb _ _) ?_
    repeat first|refine wV fun _=>?_|simp [go_sem, hsd, hmk0, hcur, zbp, zbP]
    refine zaC.frz _ _ [4, 83, 163] [] (hP' (decide (nth s.p.h0 mk.toNat + 1 ≤ 8))) (by simp) ?_ (by simp [go_sem]) ?_
    ·intro h₁ hS
     have e4 := hS 4 (by simp)
     have e5 := hS 83 (by simp)
     have e6 := hS 163 (by simp)
     simp [upd, zbp, zbP] at e4 e5 e6
     refine .cons (.agg (.cons (zaL e4.symm (by simp) (by simp [zai, ← e4]) (by simp; exact List.take_of_length_le (by simp))) (.cons (zaL e5.symm (by simp) (by simp [zai, ← e5]) (by simp; exact List.take_of_length_le (by simp))) (.cons (zaL e6.symm (by simp) (by simp [zai, ← e6]) (by simp; exact List.take_of_length_le (by simp))) (.refl _ _ _ _))))) (.refl _ _ _ _)
    ·repeat first|refine wV fun _=>?_|simp [go_sem]
   ·have hmk0 : mk.toNat < s.p.h1.length := by omega
    have hv := hs.p.h1.v _ hmk0
    obtain ⟨u, hu⟩ : ∃ u : StD, u = { s with p := (clr s.p s.cursor).withHand s.p.side ((s.p.hand s.p.side).set mk.toNat (nth (s.p.hand s.p.side) mk.toNat + 1)), took := true } := ⟨_, rfl⟩
    have hres : (if 8 < nth (s.p.hand s.p.side) mk.toNat + 1 then [] else [u]) = zcL u (decide (nth s.p.h1 mk.toNat + 1 ≤ 8)) := by
     have : s.p.hand s.p.side = s.p.h1 := by simp [zag.hand, hsd]
     rw [this]
     unfold zcL
     by_cases h8 : 8 < nth s.p.h1 mk.toNat + 1
     ·rw [if_pos h8, if_neg (by simp; omega)]
     ·rw [if_neg h8, if_pos (by simp; omega)]
    rw [← hu, hres]
    have hue : zas u = [.lst 1 ((s.p.at_.map zcf).set s.cursor.toNat [.v (.int .i64 0)]), .lst 1 (s.p.h0.map zcf), .lst 1 ((s.p.h1.map zcf).set mk.toNat [.v (.int .i64 (nth s.p.h1 mk.toNat + 1))]), .v (.int .i64 s.p.rights), .v (.int .i64 s.p.side), .v (.int .i64 s.kind), .v (.int .i64 s.cursor), .v (.bool true)] := by
     rw [hu]; simp [zas, zag.withHand, zag.hand, clr, hsd, zar, zcf, List.map_set]
    have hP' := hP u
    rw [hue, hsd] at hP'
    (repeat (first|with_reducible (first|refine wL fun _=>?_|refine wD fun _=>?_|refine wE ?_)|simp [go_sem, hsd, hmk0, hcur]))
    refine zla.frz (zbp _ [4, 83, 163]) (zcb _ _) ?_
    repeat first|refine wV fun _=>?_|simp [go_sem, hsd, hmk0, hcur, zbp, zbP]
    refine zaC.frz _ _ [4, 83, 163] [] (hP' (decide (nth s.p.h1 mk.toNat + 1 ≤ 8))) (by simp) ?_ (by simp [go_sem]) ?_
    ·intro h₁ hS
     have e4 := hS 4 (by simp)
     have e5 := hS 83 (by simp)
     have e6 := hS 163 (by simp)
     simp [upd, zbp, zbP] at e4 e5 e6
     refine .cons (.agg (.cons (zaL e4.symm (by simp) (by simp [zai, ← e4]) (by simp; exact List.take_of_length_le (by simp))) (.cons (zaL e5.symm (by simp) (by simp [zai, ← e5]) (by simp; exact List.take_of_length_le (by simp))) (.cons (zaL e6.symm (by simp) (by simp [zai, ← e6]) (by simp; exact List.take_of_length_le (by simp))) (.refl _ _ _ _))))) (.refl _ _ _ _)
    ·repeat first|refine wV fun _=>?_|simp [go_sem]
theorem ztn (hg : GOk g) (hs : zf4 g s) : ziH 270 g s n (zqP g s n) := by
 refine pF Tryz.func270 ?_
 have hT := zhb g.board hg.board s.p.side n s.cursor
 have hal := hs.p.al
 have hc0 := hs.c0
 have hc1 := hs.c1
 have hcur : s.cursor.toNat < s.p.at_.length := by omega
 have hcp := zfR s (hs.p.fits hg)
 have hto := zgT hg.board s.p.side n s.cursor
 rw [show g.board.cells = g.cells from rfl] at hto
 unfold zqP
 generalize toB g.board s.p.side n s.cursor = to at *
 repeat first|refine wV fun _=>?_|simp [go_sem]
 refine zxM hT (by simp [go_sem]) ?_
 by_cases ht : to < 0
 ·rw [if_pos (.inr (.inl ht))]
  have ht0 : to.toNat = 0 := by omega
  have h0l : 0 < s.p.at_.length := by omega
  repeat first|refine wV fun _=>?_|simp [go_sem, hcur, ht, ht0, h0l]
 ·have htl : to.toNat < s.p.at_.length := by omega
  have ht' : 0 ≤ to := by omega
  repeat first|refine wV fun _=>?_|simp [go_sem, hcur, ht, htl]
  refine zxN (fun hc => ?_) (fun hc => ?_) <;> simp at hc
  ·rw [if_pos (by by_cases h : nth s.p.at_ s.cursor.toNat = 0; exact .inl h; exact .inr (hc.resolve_left h))]
   repeat first|refine wV fun _=>?_|simp [go_sem]
  ·rw [if_neg (by rintro (h | h); exact hc.1 h; exact h hc.2)]
   repeat first|refine wV fun _=>?_|simp [go_sem, hcur]
   refine zxQ hcp (by simp [go_sem]) ?_
   repeat first|refine wV fun _=>?_|simp [go_sem, hcur, htl]
   (first|done|exact dpX)
theorem znJ : ziH 271 g s n [{ s with kind := n }] := by
 refine pF Tryz.func271 ?_
 repeat first|refine wV fun _=>?_|simp [go_sem]
 exact frX
theorem ztc (h0 : 0 ≤ n) (h4 : n < 64) : ziH 272 g s n (zcL s (decide (ziC .i64 (s.p.rights.fdiv (2 ^ n.toNat)) 1 = 1))) := by
 refine pF Tryz.func272 ?_
 have hP := zbU s
 repeat first|refine wV fun _=>?_|simp [go_sem]
 refine zxO (hP _) (by simp [go_sem]) ?_
 repeat first|refine wV fun _=>?_|simp [go_sem]
theorem zs3 (h0 : 0 ≤ n) (h4 : n ≤ 4) : ziH 273 g s n [{ s with p := { s.p with rights := zbH .i64 s.p.rights (2 ^ n.toNat) } }] := by
 refine pF Tryz.func273 ?_
 have hpn := zo5 h0 h4
 repeat first|refine wV fun _=>?_|simp [go_sem]
 exact frX
end
end Go.Av
end
section
open Go Go.Proofs
namespace Go.Av
theorem ztD (g : zae) (hg : GOk g) (s : StD) (hs : zf4 g s) (x : Int × Int) (hx : ze2 g.next.length g.kinds.length g.rights x) :
  zaS Tryz.prog 228 [.agg (zaf g), .agg (zas s), .agg (zaM x)] (zbJ (zcS g s x)) := by
 refine pF Tryz.func228 ?_
 have r4 := hg.r4
 obtain ⟨op, n⟩ := x
 obtain ⟨xo, xd, xz, xk, xr⟩ := hx
 simp only at xo xd xz xk xr
 rcases (show op = 1 ∨ op = 2 ∨ op = 3 ∨ op = 4 ∨ op = 5 ∨ op = 6 ∨ op = 7 ∨ op = 8 ∨ op = 9 ∨ op = 10 by omega) with rfl | rfl | rfl | rfl | rfl | rfl | rfl | rfl | rfl | rfl
 ·have hS := ztR g s n hg
  repeat first|refine wV fun _=>?_|simp [go_sem]
  refine zxO hS (by simp [go_sem]) ?_
  repeat first|refine wV fun _=>?_|simp [go_sem]
  exact zxY (by simp [zcS, zbJ, zas, zar])
 ·have hS := zqZ g s n hg hs
  repeat first|refine wV fun _=>?_|simp [go_sem]
  refine zxO hS (by simp [go_sem]) ?_
  repeat first|refine wV fun _=>?_|simp [go_sem]
  exact zxY (by simp [zcS, zbJ, zas, zar])
 ·have hS := zqg g s n hg hs
  repeat first|refine wV fun _=>?_|simp [go_sem]
  refine zxO hS (by simp [go_sem]) ?_
  repeat first|refine wV fun _=>?_|simp [go_sem]
  exact zxY (by simp [zcS, zbJ, zas, zar])
 ·have hS := zqj g s n hg hs
  repeat first|refine wV fun _=>?_|simp [go_sem]
  refine zxO hS (by simp [go_sem]) ?_
  repeat first|refine wV fun _=>?_|simp [go_sem]
  exact zxY (by simp [zcS, zbJ, zas, zar])
 ·have hS := znV g s n hg hs
  repeat first|refine wV fun _=>?_|simp [go_sem]
  refine zxO hS (by simp [go_sem]) ?_
  repeat first|refine wV fun _=>?_|simp [go_sem]
  exact zxY (by simp [zcS, zbJ, zas, zar])
 ·have hS := ztF g s n hg hs
  repeat first|refine wV fun _=>?_|simp [go_sem]
  refine zxO hS (by simp [go_sem]) ?_
  repeat first|refine wV fun _=>?_|simp [go_sem]
  exact zxY (by simp [zcS, zbJ, zas, zar])
 ·have hS := ztn g s n hg hs
  repeat first|refine wV fun _=>?_|simp [go_sem]
  refine zxO hS (by simp [go_sem]) ?_
  repeat first|refine wV fun _=>?_|simp [go_sem]
  exact zxY (by simp [zcS, zbJ, zas, zar])
 ·have hS := znJ g s n
  repeat first|refine wV fun _=>?_|simp [go_sem]
  refine zxO hS (by simp [go_sem]) ?_
  repeat first|refine wV fun _=>?_|simp [go_sem]
  exact zxY (by simp [zcS, zbJ, zas, zar])
 ·have hn := xr (by omega)
  have hS := ztc g s n hn.1 (by omega)
  repeat first|refine wV fun _=>?_|simp [go_sem]
  refine zxO hS (by simp [go_sem]) ?_
  repeat first|refine wV fun _=>?_|simp [go_sem]
  exact zxY (by simp [zcS, zbJ, zas, zar])
 ·have hn := xr (by omega)
  have hS := zs3 g s n hn.1 (by omega)
  repeat first|refine wV fun _=>?_|simp [go_sem]
  refine zxO hS (by simp [go_sem]) ?_
  repeat first|refine wV fun _=>?_|simp [go_sem]
  exact zxY (by simp [zcS, zbJ, zas, zar])
end Go.Av
end
section
namespace Go.Av
open Go
theorem zaa.clear {P : Program} {f : FuncId} {args : List AV} {h : zal} {n : Nat} {K : zcc}
  (hc : zaa P f args h n (fun r h' n' => ∃ o mt g sz rs, sz ≠ 2 ∧ h' o = some (.rows mt g sz rs) ∧ K r (upd h' o (some (.rows mt g sz []))) n')) : zaa P f args h n K := by
 refine ⟨hc.1, fun M0 φ w vs hH hargs => (hc.2 M0 φ w vs hH hargs).mono ?_⟩
 rintro e w' ⟨v, φ', r, h', n', rfl, ⟨o, mt, g, sz, rs, hsz, ho, hK⟩, hH', hx, st⟩
 have hmut : Mut φ' (upd h' o (some (.rows mt g sz []))) = Mut φ' h' := by
  funext k
  refine propext ⟨?_, ?_⟩
  ·rintro ⟨o1, g1, sz1, rs1, g', a, bs, h1, h2, h3⟩
   by_cases he : o1 = o
   ·subst he
    rw [zau] at h1
    simp only [Option.some.injEq, zbd.rows.injEq] at h1
    obtain ⟨rfl, rfl, rfl, _⟩ := h1
    exact ⟨o1, g, sz, rs, g', a, bs, ho, h2, h3⟩
   ·rw [za9 _ _ he] at h1
    exact ⟨o1, g1, sz1, rs1, g', a, bs, h1, h2, h3⟩
  ·rintro ⟨o1, g1, sz1, rs1, g', a, bs, h1, h2, h3⟩
   by_cases he : o1 = o
   ·subst he
    rw [ho] at h1
    simp only [Option.some.injEq, zbd.rows.injEq] at h1
    obtain ⟨rfl, rfl, rfl, _⟩ := h1
    exact ⟨o1, g, sz, [], g', a, bs, by rw [zau], h2, h3⟩
   ·exact ⟨o1, g1, sz1, rs1, g', a, bs, by rw [za9 _ _ he]; exact h1, h2, h3⟩
 have hold : ∀ o1 mt1 g1 sz1 rs1, upd h' o (some (.rows mt g sz [])) o1 = some (.rows mt1 g1 sz1 rs1) → ∃ rs2, h' o1 = some (.rows mt1 g1 sz1 rs2) ∧ (rs1 = rs2 ∨ rs1 = []) := by
  intro o1 mt1 g1 sz1 rs1 h1
  by_cases he : o1 = o
  ·subst he
   rw [zau] at h1
   simp only [Option.some.injEq, zbd.rows.injEq] at h1
   obtain ⟨rfl, rfl, rfl, rfl⟩ := h1
   exact ⟨rs, ho, .inr rfl⟩
  ·rw [za9 _ _ he] at h1
   exact ⟨rs1, h1, .inl rfl⟩
 refine ⟨v, φ', r, _, n', rfl, hK, ⟨hH'.m0, hH'.fresh, fun o1 mt1 g1 sz1 rs1 h1 => ?_, fun o1 o2 mt1 g1 sz1 rs1 mt2 g2 sz2 rs2 a a' b b' h1 h2 => ?_, by rw [hmut]; exact hH'.glob⟩, by rw [hmut]; exact hx, st.le, by rw [hmut]; exact st.or, st.fr, by rw [hmut]; exact st.mutd⟩
 ·obtain ⟨rs2, h2, h3⟩ := hold _ _ _ _ _ h1
  obtain ⟨A, hA, hobj⟩ := hH'.obj _ _ _ _ _ h2
  rcases h3 with rfl | rfl
  ·rw [hmut]; exact ⟨A, hA, hobj⟩
  ·by_cases he : o1 = o
   ·subst he
    rw [ho] at h2
    simp only [Option.some.injEq, zbd.rows.injEq] at h2
    obtain ⟨rfl, rfl, rfl, rfl⟩ := h2
    refine ⟨A, hA, hobj.imp (fun h => ⟨h.1, rfl⟩) ?_⟩
    rintro ⟨a, bs, e1, e3, ⟨C, T, e2, e4, e5, e6, e7, e8, e9⟩ | ⟨es, clk, e2, e4, e5, e6, e9⟩⟩
    ·exact ⟨a, bs, e1, e3, .inl ⟨C, T, e2, e4, e5, by simp, by simp; omega, by simp, by simpa using zay.nil⟩⟩
    ·exact absurd e6.1 hsz
   ·rw [za9 _ _ he] at h1
    rw [h1] at h2
    simp only [Option.some.injEq, zbd.rows.injEq] at h2
    obtain ⟨_, _, _, rfl⟩ := h2
    rw [hmut]; exact ⟨A, hA, hobj⟩
 ·obtain ⟨rs3, h3, _⟩ := hold _ _ _ _ _ h1
  obtain ⟨rs4, h4, _⟩ := hold _ _ _ _ _ h2
  exact hH'.inj _ _ _ _ _ _ _ _ _ _ _ _ _ _ h3 h4
end Go.Av
end
section
open Go Go.Proofs
namespace Go.Av
theorem zpm (m : Int) (h0 : 0 ≤ m) (h1 : m ≤ 17179869184) : zgB Tryz.prog 209 [zxT, .v (.int .i64 m)] (fun n => .sl n 0 1 0 0) (fun n => [(n, .rows true 0 1 [])]) 1 := by
 refine ⟨?_, fun n => ⟨by simp [go_sem], by simp [go_sem]⟩⟩
 by_cases hm : m = 0
 ·subst hm
  refine zxR (by kernel_rfl) Tryz.func209 rfl rfl (Nat.le_of_ble_eq_true rfl) (by kernel_rfl) ?_
  repeat first|refine wV fun _=>?_|simp [go_sem]
  simp [go_sem, zah]
 ·refine zaa.clear ?_
  refine zxR (by kernel_rfl) Tryz.func209 rfl rfl (Nat.le_of_ble_eq_true rfl) (by kernel_rfl) ?_
  repeat first|refine wV fun _=>?_|simp [go_sem]
  (refine zxN (fun hF => by first | omega | (simp at hF; omega)) (fun hF => ?_); clear hF)
  repeat first|refine wV fun _=>?_|simp [go_sem]
  (refine zxN (fun hT => ?_) (fun hT => by first | omega | (simp at hT; omega)); clear hT)
  repeat first|refine wV fun _=>?_|simp [go_sem]
  refine ⟨0, 0, 1, by decide, ⟨rfl, rfl, rfl⟩, ?_⟩
  simp [go_sem, zah]
theorem zlg (a b c d : List Int) (ha : a.length ≤ 1000) (hb : b.length ≤ 1000) (hc : c.length ≤ 1000) (hd : d.length ≤ 1000) : zaS Tryz.prog 157 [.lst 1 [[zar a], [zar b], [zar c], [zar d]]] (zar (a ++ b ++ c ++ d)) := by
 refine pF Tryz.func157 ?_
 repeat first|refine wV fun _=>?_|simp [go_sem]
 refine zxS ?_
 repeat first|refine wV fun _=>?_|simp [go_sem]
 (refine zxN (fun hF => by first | omega | (simp at hF; omega)) (fun hF => ?_); clear hF)
 repeat first|refine wV fun _=>?_|simp [go_sem]
 refine zxS ?_
 repeat first|refine wV fun _=>?_|simp [go_sem]
 (refine zxN (fun hF => by first | omega | (simp at hF; omega)) (fun hF => ?_); clear hF)
 repeat first|refine wV fun _=>?_|simp [go_sem]
 refine zxS ?_
 repeat first|refine wV fun _=>?_|simp [go_sem]
 (refine zxN (fun hF => by first | omega | (simp at hF; omega)) (fun hF => ?_); clear hF)
 repeat first|refine wV fun _=>?_|simp [go_sem]
 refine zxS ?_
 repeat first|refine wV fun _=>?_|simp [go_sem]
 (refine zxN (fun hF => by first | omega | (simp at hF; omega)) (fun hF => ?_); clear hF)
 repeat first|refine wV fun _=>?_|simp [go_sem]
 refine zxS ?_
 repeat first|refine wV fun _=>?_|simp [go_sem]
 refine zxQ (zpm _ (by omega) (by omega)) (by simp [go_sem]) ?_
 repeat first|refine wV fun _=>?_|simp [go_sem]
 refine zxS ?_
 repeat first|refine wV fun _=>?_|simp [go_sem]
 refine zxS ?_
 repeat first|refine wV fun _=>?_|simp [go_sem]
 refine zxS ?_
 repeat first|refine wV fun _=>?_|simp [go_sem]
 refine zxS ?_
 repeat first|refine wV fun _=>?_|simp [go_sem]
 refine zxS ?_
 repeat first|refine wV fun _=>?_|simp [go_sem]
 exact frX

theorem zlI : ∀ l : List Int, zds (l.map zqh) = some l
 | [] => rfl
 | n :: l => by rw [List.map_cons, zqh, zds, zlI l]; rfl
def zoF (p : zag) : List Int := p.at_ ++ p.h0 ++ p.h1 ++ [p.rights, p.side]
def zv2 (p : zag) : ByteArray := zdP (zoF p)
theorem zt0 (p : zag) (ha : p.at_.length ≤ 100) (hb : p.h0.length ≤ 100) (hc : p.h1.length ≤ 100) (hv : ∀ x ∈ zoF p, 0 ≤ x ∧ x ≤ 255) : zaS Tryz.prog 107 [.agg (zad p)] (.v (.string (zv2 p))) := by
 refine pF Tryz.func107 ?_
 have hC : zaS Tryz.prog 157 [.lst 1 [[.lst 1 (p.at_.map zcf)], [.lst 1 (p.h0.map zcf)], [.lst 1 (p.h1.map zcf)], [.lst 1 [[.v (.int .i64 p.rights)], [.v (.int .i64 p.side)]]]]] (zar (p.at_ ++ p.h0 ++ p.h1 ++ [p.rights, p.side])) :=
  zlg p.at_ p.h0 p.h1 [p.rights, p.side] (by omega) (by omega) (by omega) (by simp)
 have hll : (zoF p).length ≤ 302 := by simp [zoF]; omega
 unfold zv2
 rw [show p.at_ ++ p.h0 ++ p.h1 ++ [p.rights, p.side] = zoF p from rfl] at hC
 generalize zoF p = l at *
 repeat first|refine wV fun _=>?_|simp [go_sem]
 refine zxW [1, 2] hC ?_ (by simp [go_sem]) ?_
 ·(first|done|exact leX)
 repeat first|refine wV fun _=>?_|simp [go_sem]
 refine zxL (zxP (α := Nat) (fun i => ⟨[(3, .sl 3 i 1 0 i), (20, zar l), (21, .v (.int .i64 l.length)), (22, .v (.int .i64 i))], [(3, .rows true i 1 ((l.take i).map zqh))], 4⟩)
  (fun d i => i + d = l.length) ?_ l.length 0 ?_) ?_ ?_
 ·rintro d i i1 hrec
  repeat first|refine wV fun _=>?_|simp [go_sem]
  refine zxN (fun hi => ?_) (fun hi => ?_) <;> simp at hi
  ·have hx := hv _ (zaj hi)
   have hem : (nth l i).emod 256 = nth l i := Int.emod_eq_of_lt hx.1 (by omega)
   have hem2 : nth l i % 256 = nth l i := hem
   repeat first|refine wV fun _=>?_|simp [go_sem, hi, hem, hem2]
   refine zxL (hrec (d - 1) (by omega) (i + 1) (by omega)) ?_ (by simp)
   rw [List.take_add_one, List.getElem?_eq_getElem hi, ← zaB _ _ hi]
   simp [go_sem, zah, zqh, hem, hem2]
   intro x hx c hc
   obtain ⟨y, _, rfl⟩ := List.mem_map.1 (List.mem_of_mem_take hx)
   simp only [zqh, List.mem_singleton] at hc
   subst hc
   exact .v _
  ·have hb : zds (List.take i (List.map zqh l)) = some l := by rw [List.take_of_length_le (by simp; omega)]; exact zlI l
   have hb2 : zds (List.take i (List.take i (List.map zqh l))) = some l := by rw [List.take_take, Nat.min_self]; exact hb
   repeat first|refine wV fun _=>?_|simp [go_sem, hb, hb2]
 ·omega
 ·simp [go_sem, zah]
 ·simp
def zhK (n : Int) : ByteArray := zdP [48 + n]
theorem zoj (n : Int) (h0 : 0 ≤ n) (h1 : n < 10) : zaS Tryz.prog 328 [.v (.int .i64 n)] (.v (.string (zhK n))) := by
 refine pF Tryz.func328 ?_
 rcases (show n = 0 ∨ n = 1 ∨ n = 2 ∨ n = 3 ∨ n = 4 ∨ n = 5 ∨ n = 6 ∨ n = 7 ∨ n = 8 ∨ n = 9 by omega) with rfl | rfl | rfl | rfl | rfl | rfl | rfl | rfl | rfl | rfl <;> ((repeat (first|refine wV fun _=>?_|simp [go_sem]))) <;> exact zxY (by kernel_rfl)
theorem zmM (n : Int) (h0 : 0 ≤ n) (h1 : n < 10) : zaS Tryz.prog 312 [.v (.int .i64 n), .v (.int .i64 10)] (.v (.string (zhK n))) := by
 refine pF Tryz.func312 ?_
 have hS := zoj n h0 h1
 have h1' : n < 100 := by omega
 repeat first|refine wV fun _=>?_|simp [go_sem, h0, h1']
 refine zxM hS (by simp [go_sem]) ?_
 repeat first|refine wV fun _=>?_|simp [go_sem]
theorem zqW (n : Int) (h0 : 0 ≤ n) (h1 : n < 10) : zaS Tryz.prog 300 [.v (.int .i64 n)] (.v (.string (zhK n))) := by
 refine pF Tryz.func300 ?_
 have hS := zmM n h0 h1
 repeat first|refine wV fun _=>?_|simp [go_sem]
 refine zxM hS (by simp [go_sem]) ?_
 repeat first|refine wV fun _=>?_|simp [go_sem]
theorem zlj (n : Int) (h0 : 0 ≤ n) (h1 : n < 10) : zaS Tryz.prog 274 [.v (.int .i64 n)] (.v (.string (zhK n))) := by
 refine pF Tryz.func274 ?_
 have hS := zqW n h0 h1
 repeat first|refine wV fun _=>?_|simp [go_sem]
 refine zxM hS (by simp [go_sem]) ?_
 repeat first|refine wV fun _=>?_|simp [go_sem]
theorem zqV (b : Bool) : zaS Tryz.prog 301 [.v (.bool b)] (.v (.string (if b then zdP [116, 114, 117, 101] else zdP [102, 97, 108, 115, 101]))) := by
 refine pF Tryz.func301 ?_
 cases b
 ·repeat first|refine wV fun _=>?_|simp [go_sem]
  exact zxY (by kernel_rfl)
 ·repeat first|refine wV fun _=>?_|simp [go_sem]
  exact zxY (by kernel_rfl)
theorem zri (b : Bool) : zaS Tryz.prog 275 [.v (.bool b)] (.v (.string (if b then zdP [116, 114, 117, 101] else zdP [102, 97, 108, 115, 101]))) := by
 refine pF Tryz.func275 ?_
 have hS := zqV b
 repeat first|refine wV fun _=>?_|simp [go_sem]
 refine zxM hS (by simp [go_sem]) ?_
 repeat first|refine wV fun _=>?_|simp [go_sem]
theorem zgR : ∀ (l : List Int) (r : ByteArray), (l.foldl (fun r n => r.push (UInt8.ofNat n.toNat)) r).data.toList = r.data.toList ++ l.map fun n => UInt8.ofNat n.toNat
 | [], r => by simp
 | n :: l, r => by
  rw [List.foldl_cons, zgR l]
  simp [ByteArray.push]
theorem zgS (l : List Int) : (zdP l).data.toList = l.map fun n => UInt8.ofNat n.toNat := by
 unfold zdP; rw [zgR]; rfl
theorem zeT (l : List Int) : (zdP l).size = l.length := by
 rw [← ByteArray.size_data, ← Array.length_toList, zgS, List.length_map]
def zg1 (s : StD) : ByteArray := zhK s.kind ++ zdP [32] ++ zhK s.cursor ++ zdP [32] ++ (if s.took then zdP [116, 114, 117, 101] else zdP [102, 97, 108, 115, 101]) ++ zdP [32] ++ zv2 s.p
theorem zvf (s : StD) (hk : 0 ≤ s.kind ∧ s.kind < 10) (hc : 0 ≤ s.cursor ∧ s.cursor < 10) (h1 : s.p.at_.length ≤ 100) (h2 : s.p.h0.length ≤ 100) (h3 : s.p.h1.length ≤ 100) (hv : ∀ x ∈ zoF s.p, 0 ≤ x ∧ x ≤ 255) :
  zaS Tryz.prog 229 [.agg (zas s)] (.v (.string (zg1 s))) := by
 refine pF Tryz.func229 ?_
 have hK := zlj s.kind hk.1 hk.2
 have hC := zlj s.cursor hc.1 hc.2
 have hB := zri s.took
 have hP := zt0 s.p h1 h2 h3 hv
 have hdk : (zhK s.kind).size = 1 := zeT _
 have hdc : (zhK s.cursor).size = 1 := zeT _
 have hdb : (if s.took then zdP [116, 114, 117, 101] else zdP [102, 97, 108, 115, 101]).size ≤ 5 := by split <;> simp [zeT]
 have hdp : (zv2 s.p).size ≤ 302 := by unfold zv2; rw [zeT]; simp [zoF]; omega
 have h32 : (ByteArray.mk ⟨[32]⟩).size = 1 := rfl
 unfold zg1
 rw [show zdP [32] = ByteArray.mk ⟨[32]⟩ from rfl]
 generalize zhK s.kind = dk at *
 generalize zhK s.cursor = dc at *
 generalize (if s.took then zdP [116, 114, 117, 101] else zdP [102, 97, 108, 115, 101]) = db at *
 generalize zv2 s.p = dp at *
 generalize ByteArray.mk ⟨[32]⟩ = sp at *
 repeat first|refine wV fun _=>?_|simp [go_sem]
 refine zxO hK (by simp [go_sem]) ?_
 repeat first|refine wV fun _=>?_|simp [go_sem]
 refine zxO hC (by simp [go_sem]) ?_
 repeat first|refine wV fun _=>?_|simp [go_sem]
 refine zxO hB (by simp [go_sem]) ?_
 repeat first|refine wV fun _=>?_|simp [go_sem]
 refine zxO hP (by simp [go_sem]) ?_
 repeat first|refine wV fun _=>?_|simp [go_sem]
def zd1 (side : Int) (x : Int × Int) (s : StD) (l : List zdg) : List zdg := if x.1 = 0 then l ++ (zhj side s).toList else l
def zvn (p : zag) (l : List zdg) : List (Nat × zbd) := [(0, .rows true 0 5 [zad p]), (1, .rows true 0 1 [[.sl 2 l.length 6 0 l.length]]), (2, .rows true l.length 6 (l.map zaH))]
theorem zs0 (g : zae) (hg : GOk g) (p : zag) (hp : POk g p) (s : StD) (hs : zf4 g s) (hsd : s.p.side = p.side) (x : Int × Int) (l : List zdg) (hl : l.length ≤ 100000000) :
  zj6 Tryz.prog 184 [.agg (zas s), .agg (zaM x), .ref 0 0 5 0 0, .ref 1 0 1 0 0] (zvn p l) 3 (.tup []) (zvn p (zd1 p.side x s l)) 3 := by
 unfold zj6 zvn
 refine zxR (by kernel_rfl) Tryz.func184 rfl rfl (Nat.le_of_ble_eq_true rfl) (by kernel_rfl) ?_
 obtain ⟨hcur, h0, hm, _⟩ := zmv g s hg hs
 have hcp := zfR s (hs.p.fits hg)
 have hC := zc3 s.kind p.side
 have hps := hp.s
 obtain ⟨op, xn⟩ := x
 repeat first|refine wV fun _=>?_|simp [go_sem, hcur]
 refine zxN (fun hc => ?_) (fun hc => ?_) <;> simp at hc
 ·have e : zd1 p.side (op, xn) s l = l := by
   unfold zd1 zhj
   by_cases h : op = 0
   ·rw [if_pos h, if_neg (hc.resolve_left fun hn => hn h)]; simp
   ·rw [if_neg h]
  rw [e]
  repeat first|refine wV fun _=>?_|simp [go_sem]
  simp [go_sem, zah]
 ·have e : zd1 p.side (op, xn) s l = l ++ [⟨{ s.p with at_ := s.p.at_.set s.cursor.toNat (zaK s.kind p.side), side := 1 - p.side }, s.took⟩] := by
   unfold zd1 zhj
   rw [if_pos hc.1, if_pos hc.2]; rfl
  rw [e]
  generalize zaK s.kind p.side = code at *
  repeat first|refine wV fun _=>?_|simp [go_sem, hcur]
  refine zxQ hcp (by simp [go_sem]) ?_
  repeat first|refine wV fun _=>?_|simp [go_sem, hcur]
  refine zxO hC (by simp [go_sem]) ?_
  repeat first|refine wV fun _=>?_|simp [go_sem, hcur]
  simp [go_sem, zah]
  (first|done|exact rwX)
theorem zce {n : Nat} (l : List zdg) : ∀ r ∈ l.map zaH, ∀ c ∈ r, Bel n c := by
 intro r hr c hc
 obtain ⟨x, _, rfl⟩ := List.mem_map.1 hr
 revert c
 simp [go_sem]
def zmq (h : zal) (a b c : Nat) (p : zag) (l : List zdg) : zal := upd (upd (upd h a (some (.rows true 0 5 [zad p]))) b (some (.rows true 0 1 [[.sl c l.length 6 0 l.length]]))) c (some (.rows true l.length 6 (l.map zaH)))
theorem zmr (g : zae) (hg : GOk g) (p : zag) (hp : POk g p) (s : StD) (hs : zf4 g s) (hsd : s.p.side = p.side) (x : Int × Int) (l : List zdg) (hl : l.length ≤ 100000000) {h : zal} {n a b c : Nat}
  (hd : [a, b, c].Nodup) (hlt : ∀ j ∈ [a, b, c], j < n) (ha : h a = some (.rows true 0 5 [zad p])) (hb : h b = some (.rows true 0 1 [[.sl c l.length 6 0 l.length]])) (hc : h c = some (.rows true l.length 6 (l.map zaH))) {K : zcc}
  (hK : K (.tup []) (zmq h a b c p (zd1 p.side x s l)) n) :
  zaa Tryz.prog 184 [.agg (zas s), .agg (zaM x), .ref a 0 5 0 0, .ref b 0 1 0 0] h n K := by
 have hbs : ∀ m, Bel m (.agg (zas s)) := fun m => by simp [go_sem]
 have hbx : ∀ m, Bel m (.agg (zaM x)) := fun m => by simp [go_sem]
 have hbp : ∀ m, ∀ c ∈ zad p, Bel m c := fun m => by simp [go_sem]
 refine zx4 (args' := [.agg (zas s), .agg (zaM x), .ref a 0 5 0 0, .ref b 0 1 0 0])
  (HH := [(a, .rows true 0 5 [zad p]), (b, .rows true 0 1 [[.sl c (zd1 p.side x s l).length 6 0 (zd1 p.side x s l).length]]), (c, .rows true (zd1 p.side x s l).length 6 ((zd1 p.side x s l).map zaH))])
  [a, b, c] h (zs0 g hg p hp s hs hsd x l hl) hd hlt rfl (Nat.le_refl _) (.refl _) ?_ ?_ (.refl _ _ _ _) ?_ ?_ ?_ (.same ?_) ?_ ?_
 ·intro j hj
  rcases (show j = 0 ∨ j = 1 ∨ j = 2 by omega) with rfl | rfl | rfl
  ·exact ⟨_, _, rfl, ha, .rows (.same (by intro r hr; simp only [List.mem_singleton] at hr; subst hr; exact hbp _))⟩
  ·exact ⟨_, _, rfl, hb, .rows (.cons (.cons (.sl rfl) .nil) .nil)⟩
  ·exact ⟨_, _, rfl, hc, .rows (.same (zce _))⟩
 ·intro q hq
  simp only [zvn, List.mem_cons, List.not_mem_nil, or_false] at hq
  rcases hq with rfl | rfl | rfl
  ·exact ⟨Nat.le_of_ble_eq_true rfl, by intro r hr; simp only [List.mem_singleton] at hr; subst hr; exact hbp _⟩
  ·exact ⟨Nat.le_of_ble_eq_true rfl, by simp [go_sem, zv8]⟩
  ·exact ⟨Nat.le_of_ble_eq_true rfl, zce _⟩
 ·intro y hy
  simp only [List.mem_cons, List.not_mem_nil, or_false] at hy
  rcases hy with rfl | rfl | rfl | rfl
  ·exact hbs _
  ·exact hbx _
  ·exact .ref (hlt a (by simp))
  ·exact .ref (hlt b (by simp))
 ·exact .cons (.same (hbs _)) (.cons (.same (hbx _)) (.cons (.ref rfl) (.cons (.ref rfl) .nil)))
 ·intro y hy
  simp only [List.mem_cons, List.not_mem_nil, or_false] at hy
  rcases hy with rfl | rfl | rfl | rfl
  ·exact hbs _
  ·exact hbx _
  ·exact .ref (by decide)
  ·exact .ref (by decide)
 ·exact .tup (by simp)
 ·exact .cons rfl (.rows (.same (by intro r hr; simp only [List.mem_singleton] at hr; subst hr; exact hbp _))) (.cons rfl (.rows (.cons (.cons (.sl rfl) .nil) .nil)) (.cons rfl (.rows (.same (zce _))) .nil))
 ·have e : zdx [(a, .rows true 0 5 [zad p]), (b, .rows true 0 1 [[.sl c (zd1 p.side x s l).length 6 0 (zd1 p.side x s l).length]]), (c, .rows true (zd1 p.side x s l).length 6 ((zd1 p.side x s l).map zaH))] (zkZ [a, b, c] h) = zmq h a b c p (zd1 p.side x s l) := by
   simp only [List.nodup_cons, List.mem_cons, List.not_mem_nil, or_false, not_or, List.nodup_nil, and_true, not_false_eq_true] at hd
   obtain ⟨⟨d1, d2⟩, d3⟩ := hd
   funext j
   simp only [zdx, zkZ, zmq, upd]
   by_cases j1 : j = a
   ·subst j1; simp [d1, d2]
   ·by_cases j2 : j = b
    ·subst j2; simp [d3, j1]
    ·by_cases j3 : j = c
     ·subst j3; simp [j1, j2]
     ·simp [j1, j2, j3]
  rw [e]
  exact hK
def zxd (s : StD) : List Int := [48 + s.kind, 32, 48 + s.cursor, 32] ++ ((if s.took then [116, 114, 117, 101] else [102, 97, 108, 115, 101]) ++ ([32] ++ zoF s.p))
theorem zh0 (s : StD) : (zg1 s).data.toList = (zxd s).map fun n => UInt8.ofNat n.toNat := by
 unfold zg1 zhK zv2 zxd
 cases s.took <;> simp [ByteArray.data_append, zgS]
theorem u8_inj {x y : Int} (hx : 0 ≤ x ∧ x ≤ 255) (hy : 0 ≤ y ∧ y ≤ 255) (h : UInt8.ofNat x.toNat = UInt8.ofNat y.toNat) : x = y := by
 have h1 := congrArg UInt8.toNat h
 rw [UInt8.toNat_ofNat', UInt8.toNat_ofNat'] at h1
 omega
theorem zjG : ∀ {l l' : List Int}, (∀ x ∈ l, 0 ≤ x ∧ x ≤ 255) → (∀ x ∈ l', 0 ≤ x ∧ x ≤ 255) → (l.map fun n => UInt8.ofNat n.toNat) = (l'.map fun n => UInt8.ofNat n.toNat) → l = l'
 | [], [], _, _, _ => rfl
 | [], _ :: _, _, _, h => by simp at h
 | _ :: _, [], _, _, h => by simp at h
 | x :: l, y :: l', h1, h2, h => by
  simp only [List.map_cons, List.cons.injEq] at h
  rw [u8_inj (h1 x (by simp)) (h2 y (by simp)) h.1, zjG (fun z hz => h1 z (by simp [hz])) (fun z hz => h2 z (by simp [hz])) h.2]
theorem zrK {g : zae} (hg : GOk g) {p : zag} (hp : POk g p) : ∀ x ∈ zoF p, 0 ≤ x ∧ x ≤ 255 := by
 have k6 := hg.k6
 have r0 := hp.r0
 have r1 := hp.r1
 have hr : (2 : Int) ^ g.rights.toNat ≤ 16 := by
  have h1 := hg.r0
  have h2 := hg.r4
  rcases (show g.rights = 0 ∨ g.rights = 1 ∨ g.rights = 2 ∨ g.rights = 3 ∨ g.rights = 4 by omega) with h | h | h | h | h <;> rw [h] <;> decide
 have hh : ∀ l, zeb g l → ∀ x ∈ l, 0 ≤ x ∧ x ≤ 255 := by
  intro l hl x hx
  obtain ⟨i, hi, rfl⟩ := List.mem_iff_getElem.1 hx
  have := hl.v i hi
  rw [zaB _ _ hi] at this
  omega
 intro x hx
 simp only [zoF, List.mem_append, List.mem_cons, List.not_mem_nil, or_false] at hx
 rcases hx with ((hx | hx) | hx) | hx | hx
 ·have := hp.av x hx; omega
 ·exact hh _ hp.h0 x hx
 ·exact hh _ hp.h1 x hx
 ·omega
 ·have := hp.s; omega
theorem zve {g : zae} (hg : GOk g) {a b : StD} (ha : zf4 g a) (hb : zf4 g b) (h : zg1 a = zg1 b) : a = b := by
 have k6 := hg.k6
 have c9 := hg.c9
 have hv : ∀ s, zf4 g s → ∀ x ∈ zxd s, 0 ≤ x ∧ x ≤ 255 := by
  intro s hs x hx
  have hk := hs.k
  have h0 := hs.c0
  have h1 := hs.c1
  unfold zxd at hx
  rcases List.mem_append.1 hx with hx | hx
  ·simp at hx; omega
  rcases List.mem_append.1 hx with hx | hx
  ·by_cases ht : s.took = true <;> simp [ht] at hx <;> omega
  rcases List.mem_append.1 hx with hx | hx
  ·simp at hx; omega
  ·exact zrK hg hs.p x hx
 have h1 : zxd a = zxd b := zjG (hv a ha) (hv b hb) (by rw [← zh0, ← zh0, h])
 obtain ⟨pa, ka, ca, ta⟩ := a
 obtain ⟨pb, kb, cb, tb⟩ := b
 unfold zxd at h1
 simp only [List.cons_append, List.nil_append, List.cons.injEq, true_and] at h1
 obtain ⟨e1, e2, h1⟩ := h1
 obtain rfl : ka = kb := by omega
 obtain rfl : ca = cb := by omega
 have h2 : ta = tb ∧ zoF pa = zoF pb := by
  cases ta <;> cases tb <;> simp at h1 ⊢
  ·exact h1
  ·exact h1
 obtain ⟨rfl, h2⟩ := h2
 have a1 := ha.p.al
 have b1 := hb.p.al
 have a2 := ha.p.h0.len
 have b2 := hb.p.h0.len
 have a3 := ha.p.h1.len
 have b3 := hb.p.h1.len
 obtain ⟨pat, ph0, ph1, pr, ps⟩ := pa
 obtain ⟨qat, qh0, qh1, qr, qs⟩ := pb
 simp only [zoF, List.append_assoc] at h2 a1 b1 a2 b2 a3 b3
 obtain ⟨e3, h3⟩ := List.append_inj h2 (by omega)
 obtain ⟨e4, h4⟩ := List.append_inj h3 (by omega)
 obtain ⟨e5, h5⟩ := List.append_inj h4 (by omega)
 simp only [List.cons.injEq, and_true] at h5
 rw [e3, e4, e5, h5.1, h5.2]
def zec (s : StD) : List AV := [.v (.string (zg1 s)), .v (.bool true)]
theorem zuC {n : Nat} {l : List StD} : (∀ r ∈ l.map zec, ∀ c ∈ r, Bel n c) = True := by
 refine eq_true ?_
 intro r hr c hc
 obtain ⟨x, _, rfl⟩ := List.mem_map.1 hr
 simp only [zec, List.mem_cons, List.not_mem_nil, or_false] at hc
 rcases hc with rfl | rfl <;> exact .v _
attribute [go_sem ↓] zuC
theorem zmb (t : StD) : ∀ (next : List StD), (∀ s ∈ next, zg1 t = zg1 s → t = s) → zdv .string (.v (.string (zg1 t))) (next.map zec) = some (if t ∈ next then some (.v (.bool true)) else none)
 | [], _ => by simp [zdv]
 | s :: next, h => by
  rw [List.map_cons, zdv]
  have e : zn0 .string (.v (.string (zg1 t))) (cel (zec s) 0) = some (zg1 t == zg1 s) := rfl
  rw [e, zlJ]
  by_cases hk : zg1 t = zg1 s
  ·have := h s (by simp) hk
   subst this
   simp [zec, cel]
  ·have hne : t ≠ s := fun e => hk (by rw [e])
   rw [decide_eq_false hk]
   simp only
   rw [zmb t next (fun u hu => h u (by simp [hu]))]
   simp [hne]
theorem zo9 (t : StD) : ∀ (next : List StD), (∀ s ∈ next, zg1 t = zg1 s → t = s) → t ∉ next → zfO .string (.v (.string (zg1 t))) (.v (.bool true)) (next.map zec) = some ((next ++ [t]).map zec)
 | [], _, _ => by simp [zfO, zec]
 | s :: next, h, hn => by
  rw [List.map_cons, zfO]
  have e : zn0 .string (.v (.string (zg1 t))) (cel (zec s) 0) = some (zg1 t == zg1 s) := rfl
  rw [e, zlJ]
  have hk : zg1 t ≠ zg1 s := fun e => hn (by rw [h s (by simp) e]; simp)
  rw [decide_eq_false hk]
  simp only
  rw [zo9 t next (fun u hu => h u (by simp [hu])) (fun hm => hn (by simp [hm]))]
  simp
def zcQ (g : zae) (p : zag) (cell i : Int) : List zdg := (zgl g p cell (zcU g p cell i)).filterMap (zhj p.side)
theorem zvA (g : zae) (hg : GOk g) (p : zag) (hp : POk g p) (cell i : Int) (hc : zcE g p cell i) :
  zj6 Tryz.prog 183 [.agg (zaf g), .agg (zad p), .v (.int .i64 cell), .v (.int .i64 i), .fn (.func 184) [] [.ref 0 0 5 0 0, .ref 1 0 1 0 0]]
   [(0, .rows true 0 5 [zad p]), (1, .rows true 0 1 [[zxT]])] 2 (.v (.int .i64 0))
   [(0, .rows true 0 5 [zad p]), (1, .rows true 0 1 [[.sl 247 (zcQ g p cell i).length 6 0 (zcQ g p cell i).length]]), (247, .rows true (zcQ g p cell i).length 6 ((zcQ g p cell i).map zaH))] 248 := by
 unfold zj6
 refine zxR (by kernel_rfl) Tryz.func183 rfl rfl (Nat.le_of_ble_eq_true rfl) (by kernel_rfl) ?_
 have hal := hp.al
 obtain ⟨c0, c1, cm, cs, i0, i1⟩ := hc
 have hcur : cell.toNat < p.at_.length := by omega
 have hat := hp.at (i := cell.toNat) (by omega)
 have hO := zeu (nth p.at_ cell.toNat)
 have hman := zaX hat.1 hat.2 hg.k6
 have hV := zja g (by have := hg.k6; unfold zf2; omega) ⟨hg.r0, by have := hg.r4; omega⟩ p (hp.fits hg)
 rw [zkY.2 hp] at hV
 have hkl : (zan (nth p.at_ cell.toNat)).1.toNat < g.kinds.length := by
  rcases hman with ⟨_, e⟩ | ⟨_, a, b, _⟩
  ·rw [e] at cm; simp at cm
  ·omega
 have hil : i.toNat < (nth g.kinds (zan (nth p.at_ cell.toNat)).1.toNat).progs.length := by omega
 have hpg := hg.pr _ (zaj hkl) _ (zaj hil)
 have hst := fun n hn => zmP hg hp c0 c1 cm (prog := zcU g p cell i) hpg.st n hn
 have hz := zis g p cell (zcU g p cell i)
 have hsu := fun n hn => zir g p cell (zcU g p cell i) (n := n) hn
 have hla := ziq g p cell (zcU g p cell i)
 have hp8 := hpg.len
 have hpst := hpg.st
 have hpe : zcU g p cell i = nth (nth g.kinds (zan (nth p.at_ cell.toNat)).1.toNat).progs i.toNat := rfl
 rw [← hpe] at hp8 hpst
 have hlo : zcQ g p cell i = (zgl g p cell (zcU g p cell i)).filterMap (zhj p.side) := rfl
 rw [hlo]
 obtain ⟨prog, hprog⟩ : ∃ q, q = zcU g p cell i := ⟨_, rfl⟩
 rw [← hprog] at hst hz hsu hp8 hpst hpe hla ⊢
 have hcp := zfR ⟨p, (zan (nth p.at_ cell.toNat)).1, cell, false⟩ (hp.fits hg)
 generalize hm : zan (nth p.at_ cell.toNat) = m at *
 obtain ⟨mk, ms⟩ := m
 simp only at cm cs i1 hkl hil hpe hcp
 repeat first|refine wV fun _=>?_|simp [go_sem]
 refine zxM hV (by simp [go_sem]) ?_
 repeat first|refine wV fun _=>?_|simp [go_sem, hcur]
 (refine zxN (fun hF => by first | omega | (simp at hF; omega)) (fun hF => ?_); clear hF)
 repeat first|refine wV fun _=>?_|simp [go_sem, hcur]
 refine zxM hO (by simp [go_sem]) ?_
 repeat first|refine wV fun _=>?_|simp [go_sem, hkl, hil, cs]
 (refine zxN (fun hF => by first | omega | (simp at hF; omega)) (fun hF => ?_); clear hF)
 repeat first|refine wV fun _=>?_|simp [go_sem]
 refine zxQ hcp (by simp [go_sem]) ?_
 repeat first|refine wV fun _=>?_|simp [go_sem, hcur, hkl, hil]
 rw [← hpe]
 have hsz : ∀ n, n ≤ prog.length → (zcM g p cell prog n).length ≤ 100000000 := fun n hn => Nat.le_trans (hst n hn).2 (zo4 (by omega))
 have hst0 : zbJ (zcM g p cell prog 0) = .lst 8 [[.lst 1 ((p.at_.map zcf).set cell.toNat [.v (.int .i64 0)]), zar p.h0, zar p.h1, .v (.int .i64 p.rights), .v (.int .i64 p.side), .v (.int .i64 mk), .v (.int .i64 cell), .v (.bool false)]] := by
  rw [hz]; simp [zbJ, zfX, zas, clr, hm, zar, zcf, List.map_set]
 refine zxL (zxP (α := Nat) (fun k => ⟨[(4, .fn (.func 184) [] [.ref 0 0 5 0 0, .ref 1 0 1 0 0]), (5, .ref 2 0 9 0 0), (14, zbJ (zcM g p cell prog k)), (87, zaD prog), (88, .v (.int .i64 prog.length)), (89, .v (.int .i64 k))],
   [(0, .rows true 0 5 [zad p]), (1, .rows true 0 1 [[.sl 247 0 6 0 0]]), (2, .rows true 0 9 [zaf g]), (247, .rows true 0 6 [])], 248⟩)
  (fun d k => k + d = prog.length) ?_ prog.length 0 ?_) ?_ ?_
 ·rintro d k k1 hrec
  repeat first|refine wV fun _=>?_|simp [go_sem]
  refine zxN (fun hk => ?_) (fun hk => ?_) <;> simp at hk
  ·have hkk := hst k (by omega)
   have hks := hsz k (by omega)
   have hks' := hsz (k + 1) (by omega)
   have hsk := hsu k hk
   have hxs := hpst _ (zaj hk)
   have hpo := fun n hn => zo3 hg hxs hkk.1 n hn
   have hpa := zmF g (zcM g p cell prog k) (nth prog k)
   have hpz := zqL g (zcM g p cell prog k) (nth prog k)
   have hps := fun n hn => zjM g (zcM g p cell prog k) (nth prog k) (n := n) hn
   rw [← hsk] at hpa
   obtain ⟨now, hnow⟩ : ∃ now, now = zcM g p cell prog k := ⟨_, rfl⟩
   rw [← hnow] at hkk hks hpo hpa hpz hps ⊢
   obtain ⟨x, hx⟩ : ∃ x, x = nth prog k := ⟨_, rfl⟩
   rw [← hx] at hxs hpo hpa hpz hps
   repeat first|refine wV fun _=>?_|simp [go_sem, hk, ← hx]
   refine zxL (zxP (α := Nat) (fun n => ⟨[(4, .fn (.func 184) [] [.ref 0 0 5 0 0, .ref 1 0 1 0 0]), (5, .ref 2 0 9 0 0), (16, .ref 248 0 2 0 0), (17, .sl 250 (zcZ g now x n).length 8 0 (zcZ g now x n).length), (18, .mp 249), (87, zaD prog), (88, .v (.int .i64 prog.length)), (89, .v (.int .i64 k)), (94, zbJ now), (95, .v (.int .i64 now.length)), (96, .v (.int .i64 n))],
     [(0, .rows true 0 5 [zad p]), (1, .rows true 0 1 [[.sl 247 0 6 0 0]]), (2, .rows true 0 9 [zaf g]), (247, .rows true 0 6 []), (248, .rows true 0 2 [zaM x]), (249, .rows true 0 2 ((zcZ g now x n).map zec)), (250, .rows true (zcZ g now x n).length 8 ((zcZ g now x n).map zas))], 251⟩)
    (fun d n => n + d = now.length) ?_ now.length 0 ?_) ?_ ?_
   ·rintro d2 n n1 hrec2
    repeat first|refine wV fun _=>?_|simp [go_sem]
    refine zxN (fun hn => ?_) (fun hn => ?_) <;> simp at hn
    ·have hsn := hkk.1 _ (zaj hn)
     have hpn := hps n hn
     have hpoN := hpo n (by omega)
     have hpoS := hpo (n + 1) (by omega)
     have hSt := ztD g hg (nth now n) hsn.1 x hxs
     have hsl := zmR hg (nth now n) x
     have hso := zk2 hg hsn.1 hxs
     have hlk : zd1 p.side x (nth now n) [] = [] := by unfold zd1; rw [if_neg (by have := hxs.1; omega)]
     obtain ⟨s, hs⟩ : ∃ s, s = nth now n := ⟨_, rfl⟩
     rw [← hs] at hsn hpn hSt hsl hso hlk
     obtain ⟨more, hmore⟩ : ∃ more, more = zcS g s x := ⟨_, rfl⟩
     rw [← hmore] at hpn hSt hsl hso
     have hat := fun j hj => zrv (zcZ g now x n) more (i := j) hj
     have hal' := fun j => zg8 (more.take j) (zcZ g now x n)
     have haok : ∀ j, ∀ u ∈ zfq (zcZ g now x n) (more.take j), zf4 g u := fun j => zkd (fun u hu => (hpoN.1 u hu).1) (fun u hu => (hso u (List.mem_of_mem_take hu)).1)
     have haz : zfq (zcZ g now x n) (more.take 0) = zcZ g now x n := by simp [zuf]
     have haa : zfq (zcZ g now x n) (more.take more.length) = zcZ g now x (n + 1) := by rw [List.take_length, hpn]
     obtain ⟨nx, hnx⟩ : ∃ nx : Nat → List StD, nx = fun j => zfq (zcZ g now x n) (more.take j) := ⟨_, rfl⟩
     have hnx' : ∀ j, zfq (zcZ g now x n) (more.take j) = nx j := fun j => by rw [hnx]
     simp only [hnx'] at hat hal' haok haz haa
     clear hnx hnx'
     repeat first|refine wV fun _=>?_|simp [go_sem, hn, ← hs]
     refine zmr g hg p hp s hsn.1 hsn.2 x [] (by simp) (a := 0) (b := 1) (c := 247) (by decide) (by simp) (by simp [upd, zad, zar]) (by simp [upd]) (by simp [upd]) ?_
     rw [hlk]
     simp only [zmq]
     repeat first|refine wV fun _=>?_|simp [go_sem]
     refine zxM hSt (by simp [go_sem]) ?_
     repeat first|refine wV fun _=>?_|simp [go_sem]
     refine zxL (zxP (α := Nat) (fun j => ⟨[(4, .fn (.func 184) [] [.ref 0 0 5 0 0, .ref 1 0 1 0 0]), (5, .ref 2 0 9 0 0), (16, .ref 248 0 2 0 0), (17, .sl 250 (nx j).length 8 0 (nx j).length), (18, .mp 249), (87, zaD prog), (88, .v (.int .i64 prog.length)), (89, .v (.int .i64 k)), (94, zbJ now), (95, .v (.int .i64 now.length)), (96, .v (.int .i64 n)), (107, zbJ more), (108, .v (.int .i64 more.length)), (109, .v (.int .i64 j))],
       [(0, .rows true 0 5 [zad p]), (1, .rows true 0 1 [[.sl 247 0 6 0 0]]), (2, .rows true 0 9 [zaf g]), (247, .rows true 0 6 []), (248, .rows true 0 2 [zaM x]), (249, .rows true 0 2 ((nx j).map zec)), (250, .rows true (nx j).length 8 ((nx j).map zas))], 252⟩)
      (fun d j => j + d = more.length) ?_ more.length 0 ?_) ?_ ?_
     ·rintro d3 j j1 hrec3
      repeat first|refine wV fun _=>?_|simp [go_sem]
      refine zxN (fun hj => ?_) (fun hj => ?_) <;> simp at hj
      ·have htj := (hso _ (zaj hj)).1
       have hatj := hat j hj
       have halj := hal' j
       have hmj : (more.take j).length ≤ 10 := by rw [List.length_take]; omega
       obtain ⟨t, ht⟩ : ∃ t, t = nth more j := ⟨_, rfl⟩
       rw [← ht] at htj hatj
       have hk6 := hg.k6
       have hc9 := hg.c9
       have hta := htj.p.al
       have ht0 := htj.p.h0.len
       have ht1 := htj.p.h1.len
       have htk := htj.k
       have htc0 := htj.c0
       have htc1 := htj.c1
       have hKey := zvf t (by omega) (by omega) (by omega) (by omega) (by omega) (zrK hg htj.p)
       have hin : ∀ u ∈ nx j, zg1 t = zg1 u → t = u := fun u hu e => zve hg htj (haok j u hu) e
       have hfind := zmb t (nx j) hin
       have hput := zo9 t (nx j) hin
       repeat first|refine wV fun _=>?_|simp [go_sem, hj, ← ht]
       refine zxM hKey (by simp [go_sem]) ?_
       by_cases hmem : t ∈ nx j
       ·rw [if_pos hmem] at hatj hfind
        repeat first|refine wV fun _=>?_|simp [go_sem, hfind]
        refine zxL (hrec3 (d3 - 1) (by omega) (j + 1) (by omega)) ?_ (by simp)
        simp [go_sem, zah, hatj]
       ·rw [if_neg hmem] at hatj hfind
        have hput := hput hmem
        repeat first|refine wV fun _=>?_|simp [go_sem, hfind, hput]
        refine zxL (hrec3 (d3 - 1) (by omega) (j + 1) (by omega)) ?_ (by simp)
        simp [go_sem, zah, hatj]
        intro c hc
        simp only [zec, List.mem_cons, List.not_mem_nil, or_false] at hc
        rcases hc with rfl | rfl <;> exact .v _
      ·have hnl : j = more.length := by omega
       subst hnl
       rw [haa]
       repeat first|refine wV fun _=>?_|simp [go_sem]
       refine zxL (hrec2 (d2 - 1) (by omega) (n + 1) (by omega)) ?_ (by simp)
       simp [go_sem, zah]
     ·omega
     ·simp [go_sem, zah, haz]
     ·simp
    ·have hnl : n = now.length := by omega
     subst hnl
     rw [hpa]
     repeat first|refine wV fun _=>?_|simp [go_sem]
     refine zxL (hrec (d - 1) (by omega) (k + 1) (by omega)) ?_ (by simp)
     simp [go_sem, zah]
     exact frX
   ·omega
   ·simp [go_sem, zah, hpz]
   ·simp
  ·have hkl' : k = prog.length := by omega
   subst hkl'
   rw [hla]
   have hl8 := hsz prog.length (Nat.le_refl _)
   have hlok := (hst prog.length (Nat.le_refl _)).1
   rw [hla] at hl8 hlok
   generalize zgl g p cell prog = last at *
   repeat first|refine wV fun _=>?_|simp [go_sem]
   refine zxL (zxP (α := Nat) (fun j => ⟨[(4, .fn (.func 184) [] [.ref 0 0 5 0 0, .ref 1 0 1 0 0]), (129, zbJ last), (130, .v (.int .i64 last.length)), (131, .v (.int .i64 j))],
     [(0, .rows true 0 5 [zad p]), (1, .rows true 0 1 [[.sl 247 ((last.take j).filterMap (zhj p.side)).length 6 0 ((last.take j).filterMap (zhj p.side)).length]]), (247, .rows true ((last.take j).filterMap (zhj p.side)).length 6 (((last.take j).filterMap (zhj p.side)).map zaH))], 248⟩)
    (fun d j => j + d = last.length) ?_ last.length 0 ?_) ?_ ?_
   ·rintro d4 j j1 hrec4
    repeat first|refine wV fun _=>?_|simp [go_sem]
    refine zxN (fun hj => ?_) (fun hj => ?_) <;> simp at hj
    ·have hsj := hlok _ (zaj hj)
     have hol : ((last.take j).filterMap (zhj p.side)).length ≤ 100000000 := Nat.le_trans (List.length_filterMap_le _ _) (by rw [List.length_take]; omega)
     have hse : (last.take (j + 1)).filterMap (zhj p.side) = zd1 p.side (0, 0) (nth last j) ((last.take j).filterMap (zhj p.side)) := by
      rw [List.take_add_one, List.getElem?_eq_getElem hj, zaB _ _ hj, List.filterMap_append]
      simp only [Option.toList_some, List.filterMap_cons, List.filterMap_nil, zd1, if_true]
      cases zhj p.side last[j] <;> rfl
     obtain ⟨out, hout⟩ : ∃ out, out = (last.take j).filterMap (zhj p.side) := ⟨_, rfl⟩
     rw [← hout] at hol hse ⊢
     obtain ⟨t, ht⟩ : ∃ t, t = nth last j := ⟨_, rfl⟩
     rw [← ht] at hsj hse
     repeat first|refine wV fun _=>?_|simp [go_sem, hj, ← ht]
     refine zmr g hg p hp t hsj.1 hsj.2 (0, 0) out hol (a := 0) (b := 1) (c := 247) (by decide) (by simp) (by simp [upd, zad, zar]) (by simp [upd]) (by simp [upd]) ?_
     rw [← hse]
     simp only [zmq]
     repeat first|refine wV fun _=>?_|simp [go_sem]
     refine zxL (hrec4 (d4 - 1) (by omega) (j + 1) (by omega)) ?_ (by simp)
     simp [go_sem, zah]
    ·have hnl : j = last.length := by omega
     subst hnl
     rw [List.take_length]
     repeat first|refine wV fun _=>?_|simp [go_sem]
     simp [go_sem, zah]
   ·omega
   ·simp [go_sem, zah]
   ·simp
 ·omega
 ·simp [go_sem, zah]
  rw [show AV.lst 8 (List.map zas (zcM g p cell prog 0)) = _ from hst0]
  (first|done|exact dpX)
 ·simp
theorem zuR (a b : zdg) : orI [zbw a.pos b.pos, za0 (if a.took then 1 else 0) (if b.took then 1 else 0)] = zlM a b := by
 unfold zlM zxJ
 simp only [orI]
 repeat' split
 all_goals first | rfl | omega
theorem zfo (a b : zdg) (ha : za3 a.pos) (hb : za3 b.pos) : zaS Tryz.prog 186 [.agg (zaH a), .agg (zaH b)] (.v (.int .i64 (zlM a b))) := by
 refine pF Tryz.func186 ?_
 rw [← zuR]
 have c1 := zbA _ _ ha hb
 obtain ⟨pa, ta⟩ := a
 obtain ⟨pb, tb⟩ := b
 have c4 := zcV (if ta then 1 else 0) (if tb then 1 else 0)
 simp only at c1 c4 ⊢
 generalize hx1 : zbw pa pb = x1 at *
 generalize hx2 : za0 (if ta then 1 else 0) (if tb then 1 else 0) = x2 at *
 cases ta <;> cases tb <;> simp only [if_true, Bool.false_eq_true, if_false] at c4 <;>
 ·repeat first|refine wV fun _=>?_|simp [go_sem]
  refine zxO c1 (by simp [go_sem]) ?_
  repeat first|refine wV fun _=>?_|simp [go_sem]
  refine zxO c4 (by simp [go_sem]) ?_
  repeat first|refine wV fun _=>?_|simp [go_sem]
  refine zaC.frz [zar [x1, x2]] _ [17] [(17, some (.rows false 0 1 ([x1, x2].map zcf)))] (zoL _ (by unfold zeh; simp)) ?_ ?_ (by simp [go_sem]) ?_
  ·intro p hp
   simp only [List.mem_singleton] at hp
   subst hp
   exact ⟨by simp, 0, 1, _, rfl, by simp [upd, go_sem]⟩
  ·intro h₁ hS
   have h7 := hS 17 (by simp)
   simp [go_sem] at h7
   exact .cons (zaL h7.symm (by simp) (by simp [zai, upd]) (by simp [go_sem])) .nil
  ·repeat first|refine wV fun _=>?_|simp [go_sem]
theorem zqU (a b : zdg) (ha : za3 a.pos) (hb : za3 b.pos) : zaS Tryz.prog 188 [.agg (zaH a), .agg (zaH b)] (.v (.bool (decide (a = b)))) := by
 refine pF Tryz.func188 ?_
 have c1 := zfo a b ha hb
 have e : decide (a = b) = decide (zlM a b = 0) := by rw [decide_eq_decide]; exact (zcO.eq a b).symm
 rw [e]
 generalize zlM a b = x at *
 repeat first|refine wV fun _=>?_|simp [go_sem]
 refine zxM c1 (by simp [go_sem]) ?_
 repeat first|refine wV fun _=>?_|simp [go_sem]
theorem zog (a b : zag) (ha : za3 a) (hb : za3 b) : zaS Tryz.prog 131 [.agg (zad a), .agg (zad b)] (.v (.bool (decide (a = b)))) := by
 refine pF Tryz.func131 ?_
 have c1 := zbA a b ha hb
 have e : decide (a = b) = decide (zbw a b = 0) := by rw [decide_eq_decide]; exact (zaT.eq a b).symm
 rw [e]
 generalize zbw a b = x at *
 repeat first|refine wV fun _=>?_|simp [go_sem]
 refine zxM c1 (by simp [go_sem]) ?_
 repeat first|refine wV fun _=>?_|simp [go_sem]
def zk8 : List AV := [.v (.slice none 0 0), .v (.slice none 0 0), .v (.slice none 0 0), .v (.int .i64 0), .v (.int .i64 0), .v (.bool false)]
theorem zhJ {α : Type} [DecidableEq α] {l : List α} (h : l.length < 2) : zbe l = l := by
 match l, h with
 | [], _ => rfl
 | [a], _ => rfl
 | a :: b :: l, h => simp only [List.length_cons] at h; omega
end Go.Av
end
section
namespace Go.Av
open Go Go.Sort Go.Shelf Go.Proofs
structure El (w : World) (M : Nat → Prop) {α : Type} (en : α → List AV) (Q : α → Prop) where
 x : α
 vs : List Value
 q : Q x
 rel : zay noP w M (en x) vs
 cells : ∀ v ∈ vs, zbI v = true
theorem zqf {w : World} {M : Nat → Prop} {α : Type} {en : α → List AV} {Q : α → Prop} : ∀ {l : List α} {W : List Value}, (∀ x ∈ l, Q x) → zay noP w M (l.map en).flatten W → (∀ v ∈ W, zbI v = true) →
  ∃ ls : List (El w M en Q), ls.map (·.x) = l ∧ (ls.map (·.vs)).flatten = W
 | [], W, _, h, _ => by cases h; exact ⟨[], rfl, rfl⟩
 | x :: l, W, hq, h, hc => by
  rw [List.map_cons, List.flatten_cons] at h
  obtain ⟨us, ts, rfl, h1, h2⟩ := h.split
  obtain ⟨ls, e1, e2⟩ := zqf (fun y hy => hq y (by simp [hy])) h2 (fun v hv => hc v (by simp [hv]))
  exact ⟨⟨x, us, hq x (by simp), h1, fun v hv => hc v (by simp [hv])⟩ :: ls, by simp [e1], by simp [e2]⟩
theorem zoQ {k : Nat} (hk : 0 < k) : ∀ (ls : List (List Value)) (t : Nat), (∀ r ∈ ls, r.length = k) → t < ls.length * k → ls.flatten[t]? = (ls[t / k]?).bind (·[t % k]?)
 | [], t, _, h => by simp at h
 | r :: ls, t, hr, h => by
  have hl : r.length = k := hr r (by simp)
  rw [List.flatten_cons]
  by_cases ht : t < k
  ·rw [List.getElem?_append_left (by omega), Nat.div_eq_of_lt ht, Nat.mod_eq_of_lt ht]; rfl
  ·obtain ⟨s, rfl⟩ : ∃ s, t = s + k := ⟨t - k, by omega⟩
   have hs : s < ls.length * k := by simp only [List.length_cons, Nat.add_mul, Nat.one_mul] at h; omega
   rw [List.getElem?_append_right (by omega), hl, Nat.add_sub_cancel, zoQ hk ls s (fun r hr' => hr r (by simp [hr'])) hs, Nat.add_div_right _ hk, Nat.add_mod_right, List.getElem?_cons_succ]
theorem zqp {β : Type} [Inhabited β] (enc : β → List Value) {k : Nat} (hk0 : 0 < k) (hk : ∀ x, (enc x).length = k) (d : Array β) : (flatK enc k d).toList = (d.toList.map enc).flatten := by
 refine List.ext_getElem? fun t => ?_
 have hr : ∀ r ∈ d.toList.map enc, r.length = k := fun r hr => by obtain ⟨x, _, rfl⟩ := List.mem_map.1 hr; exact hk x
 have hlen : ((d.toList.map enc).flatten).length = d.size * k := by
  have : ∀ ls : List (List Value), (∀ r ∈ ls, r.length = k) → ls.flatten.length = ls.length * k := by
   intro ls
   induction ls with
   | nil => intro _; simp
   | cons r ls ih => intro h; rw [List.flatten_cons, List.length_append, ih (fun r hr => h r (by simp [hr])), h r (by simp), List.length_cons, Nat.add_mul]; omega
  rw [this _ hr]; simp
 by_cases ht : t < d.size * k
 ·have h1 := get_flatK enc k d t ht
  have hq : t / k < d.size := Nat.div_lt_of_lt_mul (by rw [Nat.mul_comm]; exact ht)
  have hm : t % k < k := Nat.mod_lt _ hk0
  have hs : t < (flatK enc k d).size := by rw [size_flatK]; exact ht
  rw [zoQ hk0 _ t hr (by simpa using ht), Array.getElem?_toList, Array.getElem?_eq_getElem hs, ← getElem!_pos (flatK enc k d) t hs, h1, List.getElem?_map, Array.getElem?_toList, Array.getElem?_eq_getElem hq,
   getElem!_pos d (t / k) hq]
  simp only [Option.map_some, Option.bind_some]
  rw [List.getElem?_eq_getElem (by rw [hk]; exact hm), getElem!_pos _ _ (by rw [hk]; exact hm)]
 ·rw [List.getElem?_eq_none (by rw [Array.length_toList, size_flatK]; omega), List.getElem?_eq_none (by omega)]
theorem zq2 {w : World} {blk off : Nat} {C : Array Value} {T : TypeId} (hb : w.heap[blk]? = some (.cells C T (0, 0))) {F : Array Value} (hF : off + F.size ≤ C.size) (n : Nat) (os : Array Obj) :
  ∃ C', (grow (putRow id (Sort.ahead w n) blk off F) os).heap[blk]? = some (.cells C' T (0, 0)) ∧ C'.size = C.size ∧ (C'.toList.drop off).take F.size = F.toList ∧
   (∀ j, j ≠ blk → j < w.heap.size → (grow (putRow id (Sort.ahead w n) blk off F) os).heap[j]? = w.heap[j]?) ∧ w.heap.size ≤ (grow (putRow id (Sort.ahead w n) blk off F) os).heap.size := by
 have hlt : blk < w.heap.size := (Array.getElem?_eq_some_iff.1 hb).1
 have hsz : (putRow id (Sort.ahead w n) blk off F).heap.size = w.heap.size := by rw [Sort.size_putRow]; rfl
 have hold : ∀ j, j < w.heap.size → (grow (putRow id (Sort.ahead w n) blk off F) os).heap[j]? = (w.heap.modify blk (onCells (putCells id off F)))[j]? := by
  intro j hj
  show (_ ++ os)[j]? = _
  rw [Array.getElem?_append_left (by rw [hsz]; exact hj)]
  rfl
 refine ⟨putCells id off F C, ?_, by simp [putCells], ?_, fun j hj hjl => ?_, ?_⟩
 ·rw [hold blk hlt, Array.getElem?_modify]
  simp [hb, onCells]
 ·refine List.ext_getElem? fun j => ?_
  by_cases hj : j < F.size
  ·rw [List.getElem?_take, if_pos hj, List.getElem?_drop, Array.getElem?_toList, Array.getElem?_toList]
   simp only [putCells, Array.getElem?_mapIdx]
   rw [Array.getElem?_eq_getElem (show off + j < C.size by omega), Array.getElem?_eq_getElem hj]
   simp only [Option.map_some]
   rw [if_pos ⟨by omega, by omega⟩, show off + j - off = j by omega, getElem!_pos F j hj]
   rfl
  ·rw [List.getElem?_eq_none (by simp; omega), List.getElem?_eq_none (by simpa using hj)]
 ·rw [hold j hjl, Array.getElem?_modify, if_neg (Ne.symm hj)]
 ·rw [size_grow, hsz]; omega
theorem zio {w : World} {blk off : Nat} {C : Array Value} {T : TypeId} (hb : w.heap[blk]? = some (.cells C T (0, 0))) {β : Type} [Inhabited β] (enc : β → List Value) (k : Nat) (d : Array β) (hF : off + d.size * k ≤ C.size) (n : Nat) (os : Array Obj) :
  ∃ C', (sortWorldK enc k w blk off n d os).heap[blk]? = some (.cells C' T (0, 0)) ∧ C'.size = C.size ∧ (C'.toList.drop off).take (d.size * k) = (flatK enc k d).toList ∧
   (∀ j, j ≠ blk → j < w.heap.size → (sortWorldK enc k w blk off n d os).heap[j]? = w.heap[j]?) ∧ w.heap.size ≤ (sortWorldK enc k w blk off n d os).heap.size ∧
   (sortWorldK enc k w blk off n d os).os = w.os ∧ (sortWorldK enc k w blk off n d os).tape = w.tape ∧ (sortWorldK enc k w blk off n d os).output = w.output ∧ w.drawn ≤ (sortWorldK enc k w blk off n d os).drawn := by
 obtain ⟨C', h1, h2, h3, h4, h5⟩ := zq2 hb (F := flatK enc k d) (by rw [size_flatK]; exact hF) n os
 unfold sortWorldK putRowK
 rw [size_flatK] at h3
 exact ⟨C', h1, h2, h3, h4, h5, rfl, rfl, rfl, Nat.le_add_right _ _⟩
theorem zvE {α β : Type} {lt : α → α → Bool} (h : SWO lt) (f : β → α) : SWO (fun a b => lt (f a) (f b)) := ⟨fun _ => h.irrefl _, fun _ _ _ => h.trans _ _ _, fun _ _ _ => h.ntrans _ _ _⟩
theorem zx6 {P : Program} {ρ : Ren} (L : SlLaysF0.n6 P ρ) {α : Type} {k : Nat} (hk0 : 0 < k) (aE : ∀ w, (isAgg (ρ.t 24)).run P w = .ok true w) (zE : ∀ w, (Go.sizeOf (ρ.t 24)).run P w = .ok k w)
  (en : α → List AV) (henl : ∀ x, (en x).length = k) (henb : ∀ x, ∀ c ∈ en x, Bel 0 c) (Q : α → Prop) (cf : α → α → Int) (hO : SWO (fun a b : α => decide (cf a b < 0))) (g : FuncId)
  (hC : ∀ x y, Q x → Q y → zaS P g [.agg (en x), .agg (en y)] (.v (.int .i64 (cf x y)))) (hg : zdh P g) (l : List α) (hQ : ∀ x ∈ l, Q x) (hl : l.length < 4611686018427387904) {h : zal} {n o gn : Nat}
  (ho : h o = some (.rows true gn k (l.map en))) {K : zcc} (hK : ∀ l' : List α, l'.Perm l → l'.Pairwise (fun a b => ¬ cf b a < 0) → K (.tup []) (upd h o (some (.rows true gn k (l'.map en)))) n) :
  zaa P (ρ.f 6) [.sl o gn k 0 l.length, .fn (.func g) [] []] h n K := by
 have e6 : zdh P (ρ.f 6) := L.f6.enters rfl
 refine ⟨e6, fun M0 φ w vs hH hargs => ?_⟩
 cases hargs with
 | cons hs ht =>
 cases ht with
 | cons hf ht =>
 cases ht
 cases hf with
 | @fn _ _ _ fs cs q1 q2 =>
 cases q1; cases q2
 have hal : zb4 h o gn k := by simp [zb4, ho]
 obtain ⟨A, cap, rfl, hcap, hA⟩ := hH.sl_alive hal hs
 have hnone : l = [] → Calls P (ρ.f 6) ⟨[.slice A l.length cap, .func (.func g) ⟨[]⟩ ⟨[]⟩]⟩ w fun e w' => ∃ v φ' r h' n', e = .returned v ∧ K r h' n' ∧ zft φ' n' w' M0 h' ∧ Rel φ' w' (Or M0 (Mut φ' h')) r v ∧ zcm φ w M0 h φ' w' h' := by
  intro he
  subst he
  refine (AnyF.slices_SortFunc_none L A cap _ w).mono ?_
  rintro e w' ⟨rfl, rfl⟩
  have := hK [] (.refl _) .nil
  rw [← ho, zdq] at this
  exact ⟨_, φ, .tup [], h, n, rfl, this, hH, .tup (vs := []) .nil, .refl _ _ _ _⟩
 by_cases he : l = []
 ·exact hnone he
 have hlp : 0 < l.length := List.length_pos_iff.2 he
 rcases hA with ⟨rfl, _, h0, _⟩ | ⟨h0, rfl, _⟩ | ⟨a, bs, hp, hsp, rfl, hcb⟩
 ·omega
 ·omega
 obtain ⟨A0, hA0, hobj⟩ := hH.obj _ _ _ _ _ ho
 rw [hp] at hA0
 simp only [Option.some.injEq, Prod.mk.injEq, true_and] at hA0
 subst hA0
 rcases hobj with ⟨hobj, _⟩ | ⟨a₁, bs₁, e1, h0, hd⟩
 ·cases hobj
 simp only [Option.some.injEq, Prod.mk.injEq] at e1
 obtain ⟨rfl, rfl⟩ := e1
 obtain ⟨C, T, hb, hCs, hr, hle, hv, hrel⟩ := hd.cells hsp
 rw [List.length_map] at hle hv hrel
 have hrel0 : zay noP w (Or M0 (Mut φ h)) (l.map en).flatten ((C.toList.drop a.off).take (l.length * k)) := zfp (fun _ hk => hk) (fun c hc => by
  obtain ⟨r, hr, hc⟩ := List.mem_flatten.1 hc
  obtain ⟨x, _, rfl⟩ := List.mem_map.1 hr
  exact henb x c hc) hrel
 obtain ⟨ls, hlx, hlv⟩ := zqf (Q := Q) hQ hrel0 hv
 have hlen : ls.length = l.length := by rw [← hlx, List.length_map]
 obtain ⟨d, hd⟩ : ∃ d : Array (El w (Or M0 (Mut φ h)) en Q), d = ls.toArray := ⟨_, rfl⟩
 have hds : d.size = l.length := by rw [hd]; simpa using hlen
 haveI : Inhabited (El w (Or M0 (Mut φ h)) en Q) := ⟨ls[0]'(by omega)⟩
 have hkE : ∀ x : El w (Or M0 (Mut φ h)) en Q, x.vs.length = k := fun x => by rw [← x.rel.length, henl]
 have hMb : Or M0 (Mut φ h) a.block := .inr ⟨o, gn, k, _, gn, a, bs, ho, hp, rfl⟩
 have hblk : a.block < w.heap.size := (Array.getElem?_eq_some_iff.1 hb).1
 have hfl : ∀ d' : Array (El w (Or M0 (Mut φ h)) en Q), (flatK (fun x => x.vs) k d').toList = (d'.toList.map fun x => x.vs).flatten := fun d' => zqp _ hk0 hkE d'
 have hCal : Calls P (ρ.f 6) ⟨[.slice (some ⟨a.block, a.off + 0 * k, none⟩) l.length cap, .func (.func g) ⟨[]⟩ ⟨[]⟩]⟩ w fun e w' =>
   e = .returned (.tuple #[]) ∧ ∃ d' n os, PermIn 0 d.size d d' ∧ SortedIn (ltOf fun x y : El w (Or M0 (Mut φ h)) en Q => cf x.x y.x) 0 d.size d' ∧ w' = sortWorldK (fun x => x.vs) k w a.block a.off n d' os := by
  rw [Nat.zero_mul, Nat.add_zero, ← hds]
  refine AnyQ.slices_SortFunc L k aE zE (fun x : El w (Or M0 (Mut φ h)) en Q => x.vs) hkE (fun x => x.cells) (fun x y => cf x.x y.x) (zvE hO fun x : El w (Or M0 (Mut φ h)) en Q => x.x) g #[] a.block a.off cap d w hg ?_ ?_ hblk (by omega)
  ·intro m os dk hdk x y
   obtain ⟨hx1, hx2⟩ := hC x.x y.x x.q y.q
   obtain ⟨C', k1, k2, k3, k4, k5, k6, k7, k8, k9⟩ := zio (off := a.off) hb (fun x : El w (Or M0 (Mut φ h)) en Q => x.vs) k dk (by rw [hdk, hds]; omega) m os
   generalize sortWorldK (fun x : El w (Or M0 (Mut φ h)) en Q => x.vs) k w a.block a.off m dk os = X at *
   have hkeep : ∀ z : El w (Or M0 (Mut φ h)) en Q, zay noP X (Or M0 (Mut φ h)) (en z.x) z.vs := fun z =>
    z.rel.keep noP.le_refl (fun j hj hjl => k4 j (fun e => hj (e ▸ hMb)) hjl) (fun j hj => .inl hj)
   have hag : ∀ z : El w (Or M0 (Mut φ h)) en Q, Rel noP X (Or M0 (Mut φ h)) (.agg (en z.x)) (.agg z.vs.toArray) := fun z => .agg z.cells (hkeep z)
   refine (hx2 (Or M0 (Mut φ h)) X [.agg x.vs.toArray, .agg y.vs.toArray] (fun j hj => Nat.lt_of_lt_of_le (hH.blk hj) k5) (hH.glob.keep (fun j hj hjl => k4 j (fun e => hj (e ▸ hMb)) hjl) (fun j hj => .inl hj)) (.cons (hag x) (.cons (hag y) .nil))).mono ?_
   rintro e w' ⟨v, rfl, hrv, hfr⟩
   cases hrv
   refine ⟨rfl, w'.drawn - X.drawn, w'.heap.extract X.heap.size w'.heap.size, ?_⟩
   have hheap : X.heap ++ w'.heap.extract X.heap.size w'.heap.size = w'.heap := by
    refine Array.ext_getElem? fun j => ?_
    by_cases hj : j < X.heap.size
    ·rw [Array.getElem?_append_left hj, hfr.block j hj (fun h => h)]
    ·rw [Array.getElem?_append_right (by omega), Array.getElem?_extract]
     have := hfr.size
     split
     ·congr 1; omega
     ·rw [Array.getElem?_eq_none (by omega)]
   have hdr : X.drawn + (w'.drawn - X.drawn) = w'.drawn := by have := hfr.drawn; omega
   cases w' with
   | mk hp tp dr os' out =>
    have e1 := hfr.os; have e2 := hfr.tape; have e3 := hfr.output
    simp only at e1 e2 e3 hheap hdr
    subst e1 e2 e3
    simp only [grow, World.drewN, hheap, hdr]
  ·intro j hj
   have hjl : j < ((C.toList.drop a.off).take (l.length * k)).length := by
    rw [← hlv, ← show (d.toList.map fun x => x.vs) = ls.map (·.vs) by rw [hd], ← hfl, Array.length_toList]; exact hj
   have hget : (flatK (fun x : El w (Or M0 (Mut φ h)) en Q => x.vs) k d)[j]! = C[a.off + j]! := by
    have e1 : (flatK (fun x : El w (Or M0 (Mut φ h)) en Q => x.vs) k d).toList = (C.toList.drop a.off).take (l.length * k) := by rw [hfl, hd]; exact hlv
    have hjC : a.off + j < C.size := by simp at hjl; omega
    rw [getElem!_pos _ j hj, getElem!_pos C _ hjC, ← Array.getElem_toList, ← Array.getElem_toList (xs := C)]
    simp only [e1, List.getElem_take, List.getElem_drop]
   have hjC : a.off + j < C.size := by simp at hjl; omega
   refine ⟨?_, ?_⟩
   ·simp only [World.cell?, hb]
    rw [hget]
    simp [hjC]
   ·simp [World.frozen?, hb]
 refine hCal.mono ?_
 rintro e w' ⟨rfl, d', n', os, hperm, hsort, rfl⟩
 obtain ⟨hps, _, hpp⟩ := hperm
 obtain ⟨C', k1, k2, k3, k4, k5, k6, k7, k8, k9⟩ := zio (off := a.off) hb (fun x : El w (Or M0 (Mut φ h)) en Q => x.vs) k d' (by rw [hps, hds]; omega) n' os
 generalize sortWorldK (fun x : El w (Or M0 (Mut φ h)) en Q => x.vs) k w a.block a.off n' d' os = X at *
 obtain ⟨l', hl'⟩ : ∃ l' : List α, l' = d'.toList.map fun x => x.x := ⟨_, rfl⟩
 have hl'l : l'.length = l.length := by rw [hl', List.length_map, Array.length_toList, hps, hds]
 have hpl : l'.Perm l := by
  have h1 : (d'.extract 0 d.size).toList = d'.toList := by rw [← hps]; simp
  have h2 : (d.extract 0 d.size).toList = d.toList := by simp
  rw [h1, h2] at hpp
  have := hpp.map fun x => x.x
  rw [hl', ← hlx]
  simpa [hd] using this
 have hpw : l'.Pairwise (fun x y => ¬ cf y x < 0) := by
  rw [hl', List.pairwise_map, List.pairwise_iff_getElem]
  intro i j hi hj hij
  have hi' : i < d'.size := by simpa using hi
  have hj' : j < d'.size := by simpa using hj
  have := hsort i j (Nat.zero_le _) hij (by omega)
  rw [getElem!_pos d' i hi', getElem!_pos d' j hj'] at this
  simpa [ltOf] using this
 have hwin : (C'.toList.drop a.off).take (l'.length * k) = (d'.toList.map fun x => x.vs).flatten := by
  rw [hps, hds, hfl] at k3
  rw [hl'l]; exact k3
 have hrel' : zay φ w (Or M0 (Mut φ h)) (l'.map en).flatten ((C'.toList.drop a.off).take (l'.length * k)) := by
  rw [hwin, hl']
  generalize d'.toList = ds
  induction ds with
  | nil => exact .nil
  | cons z ds ih =>
   simp only [List.map_cons, List.flatten_cons]
   exact (z.rel.keep (fun o x ho => by cases ho) (fun _ _ _ => rfl) (fun k hk => .inl hk)).append ih
 have hle0 : φ.le (upd φ o (some (gn, some (a, bs)))) := by rw [← hp, zdq]; exact φ.le_refl
 have hol : ¬ n ≤ o := fun hle => by rw [hH.fresh o hle] at hp; cases hp
 obtain ⟨g1, g2, g3⟩ := hH.set (w' := X) (F' := fun o => n ≤ o) (o := o) (mt := true) (g := gn) (sz := k) (rs := l'.map en) (A := some (a, bs))
  (fun _ h => h) hol k5 hle0 (fun j hj hjl => k4 j (fun e => hj (e ▸ hMb)) hjl)
  (fun o' mt' g' sz' rs' a₁ b₁ hne ho' hp' => by
   have := hH.inj _ _ _ _ _ _ _ _ _ _ _ _ _ _ ho ho' (Ne.symm hne) (.inl rfl) hp hp'
   have hlt : a₁.block < w.heap.size := by
    obtain ⟨A1, hA1, hc1⟩ := hH.obj _ _ _ _ _ ho'
    rw [hp'] at hA1
    simp only [Option.some.injEq, Prod.mk.injEq, true_and] at hA1
    subst hA1
    rcases hc1 with ⟨hc1, _⟩ | ⟨a2, b2, e2, _, hb2⟩
    ·cases hc1
    ·simp only [Option.some.injEq, Prod.mk.injEq] at e2
     obtain ⟨rfl, rfl⟩ := e2
     exact hb2.blk
   refine ⟨k4 _ (Ne.symm this) hlt, fun a₂ b₂ e => ?_⟩
   simp only [Option.some.injEq, Prod.mk.injEq] at e
   obtain ⟨rfl, rfl⟩ := e
   exact this)
  (fun a₁ b₁ e => by
   simp only [Option.some.injEq, Prod.mk.injEq] at e
   obtain ⟨rfl, rfl⟩ := e
   exact .inl hMb)
  (.inr ⟨a, bs, C', T, rfl, hsp, h0, k1, by rw [k2]; exact hCs, fun r hr => by
    obtain ⟨x, _, rfl⟩ := List.mem_map.1 hr
    exact henl x, by rw [List.length_map, hl'l]; exact hle, fun c hm => by
    rw [List.length_map, hwin] at hm
    obtain ⟨r, hr, hm⟩ := List.mem_flatten.1 hm
    obtain ⟨z, _, rfl⟩ := List.mem_map.1 hr
    exact z.cells c hm, by rw [List.length_map]; exact hrel'⟩)
 refine ⟨_, _, .tup [], _, n, rfl, hK l' hpl hpw, g1, .tup (vs := []) .nil, ⟨hle0, g2, ⟨k6, k7, k8, k9, k5, fun j hj hu => k4 j (fun e => hu ⟨o, gn, k, _, gn, a, bs, ho, hp, e.symm⟩) hj⟩, fun j hj => ?_⟩⟩
 rcases g3 j hj with h | ⟨a₁, b₁, e, rfl⟩
 ·exact .inl h
 ·simp only [Option.some.injEq, Prod.mk.injEq] at e
  obtain ⟨rfl, rfl⟩ := e
  exact .inl ⟨o, gn, k, _, gn, a, bs, ho, hp, rfl⟩
end Go.Av
end
section
namespace Go.Proofs
open Go.Shelf
def ztT : Go.Shelf.Ren := ⟨fun | 6 => 185 | 15 => 190 | 14 => 230 | 28 => 239 | 29 => 240 | 20 => 276 | 21 => 277 | 22 => 278 | 23 => 279 | 24 => 280 | 25 => 281 | 26 => 282 | 27 => 283 | 46 => 302 | 47 => 285 | 48 => 286 | 49 => 303 | 50 => 304 | 57 => 313 | n => n, fun | 22 => 202 | 24 => 135 | 25 => 259 | 3 => 3 | 39 => 224 | 0 => 0 | 53 => 310 | 55 => 312 | 4 => 4 | 46 => 304 | 45 => 303 | 50 => 62 | 5 => 5 | 9 => 9 | 66 => 337 | 70 => 341 | 76 => 362 | 77 => 200 | n => n, fun n => n⟩
theorem zsort : Go.Proofs.SlLaysF0.n6 Tryz.prog ztT := {
 mixed := by kernel_rfl
 f6 := ⟨Tryz.f185.name, by decide, Tryz.func185.trans (congrArg some (by kernel_rfl))⟩
 f14 := ⟨Tryz.f230.name, by decide, Tryz.func230.trans (congrArg some (by kernel_rfl))⟩
 f15 := Tryz.func190.trans (congrArg some (by kernel_rfl))
 f20 := ⟨Tryz.f276.name, by decide, Tryz.func276.trans (congrArg some (by kernel_rfl))⟩
 f21 := ⟨Tryz.f277.name, by decide, Tryz.func277.trans (congrArg some (by kernel_rfl))⟩
 f22 := ⟨Tryz.f278.name, by decide, Tryz.func278.trans (congrArg some (by kernel_rfl))⟩
 f23 := ⟨Tryz.f279.name, by decide, Tryz.func279.trans (congrArg some (by kernel_rfl))⟩
 f24 := ⟨Tryz.f280.name, by decide, Tryz.func280.trans (congrArg some (by kernel_rfl))⟩
 f25 := ⟨Tryz.f281.name, by decide, Tryz.func281.trans (congrArg some (by kernel_rfl))⟩
 f26 := ⟨Tryz.f282.name, by decide, Tryz.func282.trans (congrArg some (by kernel_rfl))⟩
 f27 := ⟨Tryz.f283.name, by decide, Tryz.func283.trans (congrArg some (by kernel_rfl))⟩
 f28 := Tryz.func239.trans (congrArg some (by kernel_rfl))
 f29 := Tryz.func240.trans (congrArg some (by kernel_rfl))
 f46 := ⟨Tryz.f302.name, by decide, Tryz.func302.trans (congrArg some (by kernel_rfl))⟩
 f47 := Tryz.func285.trans (congrArg some (by kernel_rfl))
 f48 := Tryz.func286.trans (congrArg some (by kernel_rfl))
 f49 := ⟨Tryz.f303.name, by decide, Tryz.func303.trans (congrArg some (by kernel_rfl))⟩
 f50 := ⟨Tryz.f304.name, by decide, Tryz.func304.trans (congrArg some (by kernel_rfl))⟩
 f57 := ⟨Tryz.f313.name, by decide, Tryz.func313.trans (congrArg some (by kernel_rfl))⟩
 t0 := Tryz.underlying0
 a0 := Tryz.isAgg0
 z0 := Tryz.sizeOf0
 v0 := Tryz.zeroValue0
 t3 := Tryz.underlying3
 a3 := Tryz.isAgg3
 z3 := Tryz.sizeOf3
 v3 := Tryz.zeroValue3
 t4 := Tryz.underlying4
 a4 := Tryz.isAgg4
 z4 := Tryz.sizeOf4
 v4 := Tryz.zeroValue4
 t5 := Tryz.underlying5
 a5 := Tryz.isAgg5
 z5 := Tryz.sizeOf5
 v5 := Tryz.zeroValue5
 t9 := Tryz.underlying9
 a9 := Tryz.isAgg9
 z9 := Tryz.sizeOf9
 v9 := Tryz.zeroValue9
 t22 := Tryz.underlying202
 a22 := Tryz.isAgg202
 z22 := Tryz.sizeOf202
 v22 := Tryz.zeroValue202
 t25 := Tryz.underlying259
 a25 := Tryz.isAgg259
 z25 := Tryz.sizeOf259
 v25 := Tryz.zeroValue259
 t39 := Tryz.underlying224
 a39 := Tryz.isAgg224
 z39 := Tryz.sizeOf224
 v39 := Tryz.zeroValue224
 t45 := Tryz.underlying303
 a45 := Tryz.isAgg303
 z45 := Tryz.sizeOf303
 v45 := Tryz.zeroValue303
 t46 := Tryz.underlying304
 a46 := Tryz.isAgg304
 z46 := Tryz.sizeOf304
 v46 := Tryz.zeroValue304
 t50 := Tryz.underlying62
 a50 := Tryz.isAgg62
 z50 := Tryz.sizeOf62
 v50 := Tryz.zeroValue62
 t53 := Tryz.underlying310
 a53 := Tryz.isAgg310
 z53 := Tryz.sizeOf310
 v53 := Tryz.zeroValue310
 t55 := Tryz.underlying312
 a55 := Tryz.isAgg312
 z55 := Tryz.sizeOf312
 v55 := Tryz.zeroValue312
 t66 := Tryz.underlying337
 a66 := Tryz.isAgg337
 z66 := Tryz.sizeOf337
 v66 := Tryz.zeroValue337
 t70 := Tryz.underlying341
 a70 := Tryz.isAgg341
 z70 := Tryz.sizeOf341
 v70 := Tryz.zeroValue341
 t76 := Tryz.underlying362
 a76 := Tryz.isAgg362
 z76 := Tryz.sizeOf362
 v76 := Tryz.zeroValue362
 t77 := Tryz.underlying200
 a77 := Tryz.isAgg200
 z77 := Tryz.sizeOf200
 v77 := Tryz.zeroValue200 }
end Go.Proofs
end
section
open Go Go.Proofs
namespace Go.Av
theorem zj4 (l : List zdg) (gn : Nat) (hl : l.length ≤ 17179869184) (hf : ∀ o ∈ l, za3 o.pos) :
  zj6 Tryz.prog 187 [.sl 0 gn 6 0 l.length, .fn (.func 188) [] []] [(0, .rows true gn 6 (l.map zaH))] 1
   (.sl 0 gn 6 0 (zbe l).length) [(0, .rows true gn 6 ((zbe l).map zaH ++ List.replicate (l.length - (zbe l).length) zk8))] 1 := by
 unfold zj6
 by_cases h2 : l.length < 2
 ·rw [zhJ h2]
  refine zxR (by kernel_rfl) Tryz.func187 rfl rfl (Nat.le_of_ble_eq_true rfl) (by kernel_rfl) ?_
  repeat first|refine wV fun _=>?_|simp [go_sem]
  (refine zxN (fun hT => ?_) (fun hT => by first | omega | (simp at hT; omega)); clear hT)
  repeat first|refine wV fun _=>?_|simp [go_sem]
  simp [go_sem, zah]
 obtain ⟨D, hD⟩ : ∃ D, D = zbe l := ⟨_, rfl⟩
 rw [← hD]
 have hE : ∀ i j, i < l.length → j < l.length → zaS Tryz.prog 188 [.agg (zaH (nth l i)), .agg (zaH (nth l j))] (.v (.bool (decide (nth l i = nth l j)))) :=
  fun i j hi hj => zqU _ _ (hf _ (zaj hi)) (hf _ (zaj hj))
 refine zxR (by kernel_rfl) Tryz.func187 rfl rfl (Nat.le_of_ble_eq_true rfl) (by kernel_rfl) ?_
 repeat first|refine wV fun _=>?_|simp [go_sem]
 (refine zxN (fun hF => by first | omega | (simp at hF; omega)) (fun hF => ?_); clear hF)
 repeat first|refine wV fun _=>?_|simp [go_sem]
 refine zxL (zxP (α := Nat) (fun j => ⟨[(0, .sl 0 gn 6 0 l.length), (1, .fn (.func 188) [] []), (5, .v (.int .i64 j))], [(0, .rows true gn 6 (l.map zaH))], 1⟩)
  (fun d j => 1 ≤ j ∧ j + d = l.length ∧ D = l.take j ++ za5 (nth l (j - 1)) (l.drop j)) ?_ (l.length - 1) 1 ?_) ?_ ?_
 ·rintro d j ⟨i1, i2, i3⟩ hrec
  have e1 : ((j : Int) - 1).toNat = j - 1 := by omega
  repeat first|refine wV fun _=>?_|simp [go_sem]
  refine zxN (fun hj => ?_) (fun hj => ?_) <;> simp at hj
  ·have hj' : j - 1 < l.length := by omega
   rw [zaQ hj, za5] at i3
   repeat first|refine wV fun _=>?_|simp [go_sem, hj, hj', e1]
   refine zxO (hE j (j - 1) hj hj') (by simp [go_sem]) ?_
   repeat first|refine wV fun _=>?_|simp [go_sem, hj, hj', e1]
   by_cases he : nth l j = nth l (j - 1)
   ·rw [if_pos he] at i3
    repeat first|refine wV fun _=>?_|simp [go_sem, he, hj, hj', e1]
    refine zxL (zxP (α := Nat × List zdg × Nat) (fun a => ⟨[(0, .sl 0 gn 6 0 l.length), (1, .fn (.func 188) [] []), (5, .v (.int .i64 a.2.2)), (6, .sl 0 gn 6 j (l.length - j)), (7, .v (.int .i64 a.1))], [(0, .rows true gn 6 (a.2.1.map zaH))], 1⟩)
     (fun d a => 1 ≤ a.1 ∧ j + a.1 + d = l.length ∧ a.2.1.length = l.length ∧ a.2.2 ≤ j + a.1 - 1 ∧ a.2.1.drop (j + a.1 - 1) = l.drop (j + a.1 - 1) ∧ D = a.2.1.take a.2.2 ++ za5 (nth l (j + a.1 - 1)) (l.drop (j + a.1))) ?_ (l.length - j - 1) (1, l, j) ?_) ?_ ?_
    ·rintro d2 ⟨k2, R, k⟩ ⟨j1, j2, j3, j4, j5, j6⟩ hrec2
     simp only at j1 j2 j3 j4 j5 j6
     have e2 : ((k2 : Int) - 1).toNat = k2 - 1 := by omega
     have e3 : j + (k2 - 1) = j + k2 - 1 := by omega
     have hRn : ∀ m, j + k2 - 1 ≤ m → m < l.length → nth R m = nth l m := fun m h1 h2 => by
      have h3 : (R.drop (j + k2 - 1))[m - (j + k2 - 1)]? = (l.drop (j + k2 - 1))[m - (j + k2 - 1)]? := by rw [j5]
      rw [List.getElem?_drop, List.getElem?_drop, show j + k2 - 1 + (m - (j + k2 - 1)) = m by omega, List.getElem?_eq_getElem (by omega), List.getElem?_eq_getElem h2] at h3
      rw [zaB _ _ (by omega), zaB _ _ h2]
      exact Option.some.inj h3
     repeat first|refine wV fun _=>?_|simp [go_sem, j3]
     refine zxN (fun hk => ?_) (fun hk => ?_) <;> simp at hk
     ·have hk1 : j + k2 < l.length := by omega
      have hk0 : j + k2 - 1 < l.length := by omega
      have hr1 := hRn (j + k2) (by omega) hk1
      have hr0 := hRn (j + k2 - 1) (by omega) hk0
      rw [zaQ hk1, za5] at j6
      have hk2 : k2 - 1 < l.length - j := by omega
      have hk3 : k < l.length := by omega
      repeat first|refine wV fun _=>?_|simp [go_sem, j3, hk, hk1, hk0, hr1, hr0, e2, e3, hk2]
      refine zxO (hE (j + k2) (j + k2 - 1) hk1 hk0) (by simp [go_sem]) ?_
      repeat first|refine wV fun _=>?_|simp [go_sem, j3, hk, hk1, hk0, hr1, hr0, e2, e3, hk2]
      by_cases hc : nth l (j + k2) = nth l (j + k2 - 1)
      ·rw [if_pos hc] at j6
       repeat first|refine wV fun _=>?_|simp [go_sem, hc]
       refine zxL (hrec2 (d2 - 1) (by omega) (k2 + 1, R, k) ⟨by simp only; omega, by simp only; omega, j3, by simp only; omega, ?_, ?_⟩) ?_ (by simp)
       ·have := congrArg (List.drop 1) j5
        rw [List.drop_drop, List.drop_drop] at this
        rw [show j + (k2 + 1) - 1 = j + k2 - 1 + 1 by omega]
        exact this
       ·simp only
        rw [show j + (k2 + 1) - 1 = j + k2 by omega, hc]
        exact j6
       ·simp [go_sem, zah]
      ·rw [if_neg hc] at j6
       repeat first|refine wV fun _=>?_|simp [go_sem, hc, j3, hk, hk1, hk0, hr1, hr0, e2, e3, hk2, hk3]
       refine zxL (hrec2 (d2 - 1) (by omega) (k2 + 1, R.set k (nth l (j + k2)), k + 1) ⟨by simp only; omega, by simp only; omega, by simpa using j3, by simp only; omega, ?_, ?_⟩) ?_ (by simp)
       ·have := congrArg (List.drop 1) j5
        rw [List.drop_drop, List.drop_drop] at this
        simp only
        rw [show j + (k2 + 1) - 1 = j + k2 - 1 + 1 by omega, List.drop_set, if_pos (by omega)]
        exact this
       ·simp only
        rw [show j + (k2 + 1) - 1 = j + k2 by omega, List.take_add_one, List.take_set_of_le (by omega), List.getElem?_set_self (by omega), Option.toList_some, List.append_assoc]
        exact j6
       ·have hb : ∀ n, ∀ r ∈ ((R.set k (nth l (j + k2))).map zaH), ∀ c ∈ r, Bel n c := fun n => of_eq_true zoJ
        rw [List.map_set] at hb
        simp [go_sem, zah, List.map_set]
        exact hb 1
     ·rw [List.drop_eq_nil_of_le (by omega), za5, List.append_nil] at j6
      have hDl : D.length = k := by rw [j6, List.length_take]; omega
      have hd0 : List.drop (k + (l.length - k)) (R.map zaH) = [] := List.drop_eq_nil_of_le (by simp; omega)
      have hDm : D.map zaH = List.take k (R.map zaH) := by rw [j6, List.map_take]
      repeat first|refine wV fun _=>?_|simp [go_sem]
      simp [go_sem, zah, hd0, hDl, hDm, zk8]
      exact fun x hx => of_eq_true (zoJ (n := 1) (l := R)) x (List.mem_of_mem_take hx)
    ·refine ⟨Nat.le_refl _, by simp only; omega, rfl, by simp only; omega, rfl, ?_⟩
     simp only
     rw [Nat.add_sub_cancel, he]
     exact i3
    ·simp [go_sem, zah]
    ·simp
   ·rw [if_neg he] at i3
    repeat first|refine wV fun _=>?_|simp [go_sem, he, hj, hj', e1]
    refine zxL (hrec (d - 1) (by omega) (j + 1) ⟨by omega, by omega, ?_⟩) ?_ (by simp)
    ·rw [i3, Nat.add_sub_cancel, List.take_add_one, List.getElem?_eq_getElem hj, zaB _ _ hj, Option.toList_some, List.append_assoc]; rfl
    ·simp [go_sem, zah]
  ·rw [List.drop_eq_nil_of_le hj, List.take_of_length_le hj, za5, List.append_nil] at i3
   rw [i3]
   repeat first|refine wV fun _=>?_|simp [go_sem]
   simp [go_sem, zah]
 ·refine ⟨Nat.le_refl _, by omega, ?_⟩
  cases l with
  | nil => simp at h2
  | cons a l => rw [hD]; rfl
 ·simp [go_sem, zah]
 ·simp
theorem zkx (l : List zdg) (gn : Nat) (hl : l.length ≤ 17179869184) (hf : ∀ o ∈ l, za3 o.pos) {h : zal} {n o : Nat} (ho : h o = some (.rows true gn 6 (l.map zaH))) (hon : o < n) {K : zcc}
  (hK : K (.sl o gn 6 0 (zbe l).length) (upd h o (some (.rows true gn 6 ((zbe l).map zaH ++ List.replicate (l.length - (zbe l).length) zk8)))) n) :
  zaa Tryz.prog 187 [.sl o gn 6 0 l.length, .fn (.func 188) [] []] h n K := by
 have hz : ∀ m, ∀ r ∈ (zbe l).map zaH ++ List.replicate (l.length - (zbe l).length) zk8, ∀ c ∈ r, Bel m c := by
  intro m r hr c hc
  rcases List.mem_append.1 hr with hr | hr
  ·exact zce _ r hr c hc
  ·rw [List.eq_of_mem_replicate hr] at hc
   simp only [zk8, List.mem_cons, List.not_mem_nil, or_false] at hc
   rcases hc with rfl | rfl | rfl | rfl | rfl | rfl <;> exact .v _
 refine zx4 (args' := [.sl o gn 6 0 l.length, .fn (.func 188) [] []]) (HH := [(o, .rows true gn 6 ((zbe l).map zaH ++ List.replicate (l.length - (zbe l).length) zk8))])
  [o] h (zj4 l gn hl hf) (by simp) (by simpa using hon) rfl (Nat.le_refl _) (.refl _) ?_ ?_ (.refl _ _ _ _) ?_ ?_ ?_ (.sl rfl) ?_ ?_
 ·intro j hj
  obtain rfl : j = 0 := by omega
  exact ⟨_, _, rfl, ho, .rows (.same (zce _))⟩
 ·intro p hp
  simp only [List.mem_singleton] at hp
  subst hp
  exact ⟨Nat.le_of_ble_eq_true rfl, zce _⟩
 ·intro y hy
  simp only [List.mem_cons, List.not_mem_nil, or_false] at hy
  rcases hy with rfl | rfl
  ·exact .sl hon
  ·simp [go_sem]
 ·exact .cons (.sl rfl) (.cons (.same (by simp [go_sem])) .nil)
 ·intro y hy
  simp only [List.mem_cons, List.not_mem_nil, or_false] at hy
  rcases hy with rfl | rfl
  ·exact .sl (by decide)
  ·simp [go_sem]
 ·exact .cons rfl (.rows (.same (hz 0))) .nil
 ·have e : zdx [(o, .rows true gn 6 ((zbe l).map zaH ++ List.replicate (l.length - (zbe l).length) zk8))] (zkZ [o] h) = upd h o (some (.rows true gn 6 ((zbe l).map zaH ++ List.replicate (l.length - (zbe l).length) zk8))) := by
   funext j
   simp only [zdx, zkZ, upd]
   by_cases j1 : j = o
   ·simp [j1]
   ·simp [j1]
  rw [e, Nat.sub_self, Nat.add_zero]
  exact hK
theorem ziV (l : List zdg) (gn m : Nat) (hm : l.length = m) (hl : m ≤ 17179869184) (hf : ∀ o ∈ l, za3 o.pos) {h : zal} {n o : Nat} (ho : h o = some (.rows true gn 6 (l.map zaH))) (hon : o < n) {K : zcc}
  (hK : K (.sl o gn 6 0 (zbe l).length) (upd h o (some (.rows true gn 6 ((zbe l).map zaH ++ List.replicate (l.length - (zbe l).length) zk8)))) n) :
  zaa Tryz.prog 187 [.sl o gn 6 0 m, .fn (.func 188) [] []] h n K := by
 subst hm
 exact zkx l gn hl hf ho hon hK
theorem zvD : Go.Sort.SWO (fun a b : zdg => decide (zlM a b < 0)) := by
 refine ⟨fun x => ?_, fun x y z h1 h2 => ?_, fun x y z h1 h2 => ?_⟩
 ·have := zcO.swap x x
  simp; omega
 ·simp only [decide_eq_true_eq] at h1 h2 ⊢
  have t := zcO.tr x y z (by omega) (by omega)
  rcases Int.lt_or_eq_of_le t with h | h
  ·exact h
  ·have e := (zcO.eq _ _).1 h
   subst e
   have := zcO.swap x y
   omega
 ·simp only [decide_eq_false_iff_not] at h1 h2 ⊢
  have s1 := zcO.swap x y
  have s2 := zcO.swap y z
  have s3 := zcO.swap x z
  have t := zcO.tr z y x (by omega) (by omega)
  omega
theorem zq1 (l : List zdg) (hf : ∀ o ∈ l, za3 o.pos) (hl : l.length < 4611686018427387904) {h : zal} {n o gn : Nat} (ho : h o = some (.rows true gn 6 (l.map zaH))) {K : zcc}
  (hK : K (.tup []) (upd h o (some (.rows true gn 6 ((zb9 zlM l).map zaH)))) n) :
  zaa Tryz.prog 185 [.sl o gn 6 0 l.length, .fn (.func 186) [] []] h n K := by
 refine zx6 zsort (k := 6) (by omega) Tryz.isAgg135 Tryz.sizeOf135 zaH (fun _ => rfl) ?_ (fun o => za3 o.pos) zlM zvD _ (fun x y hx hy => zfo x y hx hy) ?_ l hf hl ho ?_
 ·intro x
  simp [go_sem]
 ·exact (zfo default default (by unfold za3 zeh; decide) (by unfold za3 zeh; decide)).1
 ·intro l' hp hs
  have : zb9 zlM l = l' := zeF zcO hp (hs.imp fun {a b} hab => by
   have := zcO.swap a b
   simp only [leC, decide_eq_true_eq]
   omega)
  rw [← this]
  exact hK
end Go.Av
end
section
namespace Go.Proofs
open Go.Shelf
def zrb : Go.Shelf.Ren := ⟨fun | 6 => 129 | 15 => 190 | 14 => 189 | 28 => 239 | 29 => 240 | 20 => 231 | 21 => 232 | 22 => 233 | 23 => 234 | 24 => 235 | 25 => 236 | 26 => 237 | 27 => 238 | 46 => 284 | 47 => 285 | 48 => 286 | 49 => 287 | 50 => 288 | 57 => 305 | n => n, fun | 22 => 47 | 24 => 45 | 25 => 78 | 3 => 3 | 39 => 224 | 0 => 0 | 53 => 310 | 55 => 312 | 4 => 4 | 46 => 304 | 45 => 303 | 50 => 62 | 5 => 5 | 9 => 9 | 66 => 337 | 70 => 341 | 76 => 362 | 77 => 200 | n => n, fun n => n⟩
theorem zsortP : Go.Proofs.SlLaysF0.n6 Tryz.prog zrb := {
 mixed := by kernel_rfl
 f6 := ⟨Tryz.f129.name, by decide, Tryz.func129.trans (congrArg some (by kernel_rfl))⟩
 f14 := ⟨Tryz.f189.name, by decide, Tryz.func189.trans (congrArg some (by kernel_rfl))⟩
 f15 := Tryz.func190.trans (congrArg some (by kernel_rfl))
 f20 := ⟨Tryz.f231.name, by decide, Tryz.func231.trans (congrArg some (by kernel_rfl))⟩
 f21 := ⟨Tryz.f232.name, by decide, Tryz.func232.trans (congrArg some (by kernel_rfl))⟩
 f22 := ⟨Tryz.f233.name, by decide, Tryz.func233.trans (congrArg some (by kernel_rfl))⟩
 f23 := ⟨Tryz.f234.name, by decide, Tryz.func234.trans (congrArg some (by kernel_rfl))⟩
 f24 := ⟨Tryz.f235.name, by decide, Tryz.func235.trans (congrArg some (by kernel_rfl))⟩
 f25 := ⟨Tryz.f236.name, by decide, Tryz.func236.trans (congrArg some (by kernel_rfl))⟩
 f26 := ⟨Tryz.f237.name, by decide, Tryz.func237.trans (congrArg some (by kernel_rfl))⟩
 f27 := ⟨Tryz.f238.name, by decide, Tryz.func238.trans (congrArg some (by kernel_rfl))⟩
 f28 := Tryz.func239.trans (congrArg some (by kernel_rfl))
 f29 := Tryz.func240.trans (congrArg some (by kernel_rfl))
 f46 := ⟨Tryz.f284.name, by decide, Tryz.func284.trans (congrArg some (by kernel_rfl))⟩
 f47 := Tryz.func285.trans (congrArg some (by kernel_rfl))
 f48 := Tryz.func286.trans (congrArg some (by kernel_rfl))
 f49 := ⟨Tryz.f287.name, by decide, Tryz.func287.trans (congrArg some (by kernel_rfl))⟩
 f50 := ⟨Tryz.f288.name, by decide, Tryz.func288.trans (congrArg some (by kernel_rfl))⟩
 f57 := ⟨Tryz.f305.name, by decide, Tryz.func305.trans (congrArg some (by kernel_rfl))⟩
 t0 := Tryz.underlying0
 a0 := Tryz.isAgg0
 z0 := Tryz.sizeOf0
 v0 := Tryz.zeroValue0
 t3 := Tryz.underlying3
 a3 := Tryz.isAgg3
 z3 := Tryz.sizeOf3
 v3 := Tryz.zeroValue3
 t4 := Tryz.underlying4
 a4 := Tryz.isAgg4
 z4 := Tryz.sizeOf4
 v4 := Tryz.zeroValue4
 t5 := Tryz.underlying5
 a5 := Tryz.isAgg5
 z5 := Tryz.sizeOf5
 v5 := Tryz.zeroValue5
 t9 := Tryz.underlying9
 a9 := Tryz.isAgg9
 z9 := Tryz.sizeOf9
 v9 := Tryz.zeroValue9
 t22 := Tryz.underlying47
 a22 := Tryz.isAgg47
 z22 := Tryz.sizeOf47
 v22 := Tryz.zeroValue47
 t25 := Tryz.underlying78
 a25 := Tryz.isAgg78
 z25 := Tryz.sizeOf78
 v25 := Tryz.zeroValue78
 t39 := Tryz.underlying224
 a39 := Tryz.isAgg224
 z39 := Tryz.sizeOf224
 v39 := Tryz.zeroValue224
 t45 := Tryz.underlying303
 a45 := Tryz.isAgg303
 z45 := Tryz.sizeOf303
 v45 := Tryz.zeroValue303
 t46 := Tryz.underlying304
 a46 := Tryz.isAgg304
 z46 := Tryz.sizeOf304
 v46 := Tryz.zeroValue304
 t50 := Tryz.underlying62
 a50 := Tryz.isAgg62
 z50 := Tryz.sizeOf62
 v50 := Tryz.zeroValue62
 t53 := Tryz.underlying310
 a53 := Tryz.isAgg310
 z53 := Tryz.sizeOf310
 v53 := Tryz.zeroValue310
 t55 := Tryz.underlying312
 a55 := Tryz.isAgg312
 z55 := Tryz.sizeOf312
 v55 := Tryz.zeroValue312
 t66 := Tryz.underlying337
 a66 := Tryz.isAgg337
 z66 := Tryz.sizeOf337
 v66 := Tryz.zeroValue337
 t70 := Tryz.underlying341
 a70 := Tryz.isAgg341
 z70 := Tryz.sizeOf341
 v70 := Tryz.zeroValue341
 t76 := Tryz.underlying362
 a76 := Tryz.isAgg362
 z76 := Tryz.sizeOf362
 v76 := Tryz.zeroValue362
 t77 := Tryz.underlying200
 a77 := Tryz.isAgg200
 z77 := Tryz.sizeOf200
 v77 := Tryz.zeroValue200 }
end Go.Proofs
end
