/- Texts of ours, part 11: contracts and facts for this claim. -/
import Derived.Test.YtkahkcakggflaaaGreatDoorB11
import Derived.Test.YtkahkcakggflaaaGreatDoorSGx10
set_option linter.unusedSimpArgs false
set_option linter.unusedVariables false
set_option maxRecDepth 100000
set_option maxHeartbeats 40000000
section
open Go Go.Proofs
namespace Go.Av
theorem zd2 (g : zaf) (hg : GOk g) (hs : zbg g) : zaC Tryz.prog 33 [.agg (zab g)] (.v (.bool (decide (zea (zbD g) ≤ 300)))) := by
 refine pF Tryz.func33 ?_
 have hC := zgN g hg
 have hF := zjK hg
 have hcnt := ztW hg hs
 have hk6 := hg.k6
 have hc9 := hg.c9
 have hc1 := hg.c1
 have hN := zoQ (zbD g) (by omega) (by rw [hF.sh.l1]; omega) (by rw [hF.sh.l2]; omega) (fun y hy => by
  rcases List.mem_append.1 hy with h | h
  ·have := hF.sh.c1 y h; omega
  ·have := hF.sh.c2 y h; omega)
 have hgb : ∀ n, (∀ c ∈ zab g, Bel n c) = True := fun n => by simp [go_sem]
 obtain ⟨eg, heg⟩ : ∃ eg, eg = zab g := ⟨_, rfl⟩
 have hel : eg.length = 9 := by rw [heg]; rfl
 rw [← heg] at hC hgb ⊢
 clear heg
 have hecl : (zbj (zbD g)).length = 2 := rfl
 have hecb : ∀ n, (∀ c ∈ zbj (zbD g), Bel n c) = True := fun n => by simp [go_sem]
 generalize zbj (zbD g) = ec at *
 repeat first|with_reducible refine wV fun _=>?_|simp [go_sem, hel]
 refine zyJ hC (by simp [go_sem, hgb]) ?_
 repeat first|with_reducible refine wV fun _=>?_|simp [go_sem, hel, hecl]
 refine zyJ hN (by simp [go_sem, hecb]) ?_
 have e : decide ((zea (zbD g) : Int) ≤ 300) = decide (zea (zbD g) ≤ 300) := by
  refine decide_eq_decide.2 ?_; omega
 repeat first|with_reducible refine wV fun _=>?_|simp [go_sem, e]
theorem zjl (g : zaf) (p : zaj) : (zbC g p).1.length ≤ 4000 := by
 unfold zbC
 split
 ·simp
 ·simp only; omega
theorem zjm {g : zaf} {p q : zaj} (h : q ∈ (zbC g p).1) : q ∈ zaG g p := by
 unfold zbC at h
 split at h
 ·cases h
 ·exact h
end Go.Av
end
section
open Go Go.Proofs Go.Av
namespace Go.Av
open Go.Proofs.YtkahkcakggflaaaGreatDoor
abbrev P4T := List Int × List Int × List Int × Int × Int × Unit
def zt4 (x : P4T) : List AV := (x.1.map fun n => [AV.v (.int .u8 n)]).flatten ++ ((x.2.1.map fun n => [AV.v (.int .u8 n)]).flatten ++ ((x.2.2.1.map fun n => [AV.v (.int .u8 n)]).flatten ++ ([.v (.int .u8 x.2.2.2.1)] ++ ([.v (.int .u8 x.2.2.2.2.1)] ++ []))))
theorem opn_p4 : Opn Tryz.prog 1048576 UpB 30 zdo zjd := by
 have hFF : Opn Tryz.prog 1048576 UpB 25 (fun l : List Int => (l.map fun n => [AV.v (.int .u8 n)]).flatten) (fun l => l.length = 6 ∧ ∀ x ∈ l, U8W x) :=
  Opn.array (sz := 1) (n := 6) zl5.upto Tryz.underlying25 (by kernel_rfl) (by kernel_rfl) zfK
 have h4 : Opn Tryz.prog 1048576 UpB 28 (fun l : List Int => (l.map fun n => [AV.v (.int .u8 n)]).flatten) (fun l => l.length = 4 ∧ ∀ x ∈ l, U8W x) :=
  Opn.array (sz := 1) (n := 4) zl5.upto Tryz.underlying28 (by kernel_rfl) (by kernel_rfl) zfK
 have hF : zia Tryz.prog 1048576 UpB [25, 25, 28, 5, 5] zt4 (fun x => (x.1.length = 6 ∧ ∀ y ∈ x.1, U8W y) ∧ (x.2.1.length = 6 ∧ ∀ y ∈ x.2.1, U8W y) ∧ (x.2.2.1.length = 4 ∧ ∀ y ∈ x.2.2.1, U8W y) ∧ U8W x.2.2.2.1 ∧ U8W x.2.2.2.2.1 ∧ True) :=
  zia.cons hFF (zia.cons hFF (zia.cons h4 (zia.cons zfK (zia.cons zfK zia.nil))))
 have hT : Opn Tryz.prog 1048576 UpB 30 zt4 (fun x => (x.1.length = 6 ∧ ∀ y ∈ x.1, U8W y) ∧ (x.2.1.length = 6 ∧ ∀ y ∈ x.2.1, U8W y) ∧ (x.2.2.1.length = 4 ∧ ∀ y ∈ x.2.2.1, U8W y) ∧ U8W x.2.2.2.1 ∧ U8W x.2.2.2.2.1 ∧ True) := Opn.struct zl5.upto (by kernel_rfl) hF
 intro H enc w fuel cs d ps k1 k2
 obtain ⟨x, r1, r2, r3, hx⟩ := hT enc w fuel cs d ps k1 k2
 obtain ⟨c, k, h, r, s, ⟨⟩⟩ := x
 obtain ⟨⟨a1, a2⟩, ⟨b1, b2⟩, ⟨c1, c2⟩, d1, e1, _⟩ := hx
 simp only at a1 a2 b1 b2 c1 c2 d1 e1
 have hfl : ∀ l : List Int, (l.map fun n => [AV.v (.int .u8 n)]).flatten = l.map fun n => AV.v (.int .u8 n) := fun l => by
  induction l with
  | nil => rfl
  | cons x l ih => simp only [List.map_cons, List.flatten_cons, ih]; rfl
 refine ⟨⟨c, k, h, r, s⟩, ?_, r2, r3, ⟨a1, b1, c1, fun n hn => bounds_u8 (a2 n hn), fun n hn => bounds_u8 (b2 n hn), fun n hn => bounds_u8 (c2 n hn), bounds_u8 d1, bounds_u8 e1⟩⟩
 unfold zt4 at r1
 rw [hfl, hfl, hfl] at r1
 exact r1
end Go.Av
end
section
open Go Go.Proofs Go.Av
namespace Go.Av
open Go.Proofs.YtkahkcakggflaaaGreatDoor
theorem zdv : Opn Tryz.prog 1048576 UpB 65 zcs zfq := by
 have hF : zia Tryz.prog 1048576 UpB [27, 30, 22] (fun x : zgr × zkJ × List Int × Unit => zcz x.1 ++ (zdo x.2.1 ++ ([.lst 1 (x.2.2.1.map fun n => [.v (.int .u8 n)])] ++ [])))
   (fun x => (zjc x.1 ∧ x.1.k0.length ≤ 1048576 ∧ x.1.k1.length ≤ 1048576 ∧ x.1.c.length ≤ 1048576) ∧ zjd x.2.1 ∧ (x.2.2.1.length ≤ 1048576 ∧ ∀ y ∈ x.2.2.1, U8W y) ∧ True) := zia.cons zuS (zia.cons opn_p4 (zia.cons zuT zia.nil))
 have hT : Opn Tryz.prog 1048576 UpB 65 (fun x : zgr × zkJ × List Int × Unit => zcz x.1 ++ (zdo x.2.1 ++ ([.lst 1 (x.2.2.1.map fun n => [.v (.int .u8 n)])] ++ [])))
   (fun x => (zjc x.1 ∧ x.1.k0.length ≤ 1048576 ∧ x.1.k1.length ≤ 1048576 ∧ x.1.c.length ≤ 1048576) ∧ zjd x.2.1 ∧ (x.2.2.1.length ≤ 1048576 ∧ ∀ y ∈ x.2.2.1, U8W y) ∧ True) := Opn.struct zl5.upto (by kernel_rfl) hF
 intro H enc w fuel cs d ps k1 k2
 obtain ⟨x, r1, r2, r3, hx⟩ := hT enc w fuel cs d ps k1 k2
 obtain ⟨g, p, k, ⟨⟩⟩ := x
 obtain ⟨⟨a1, a2, a3, a4⟩, b1, ⟨c1, c2⟩, _⟩ := hx
 simp only at a1 a2 a3 a4 b1 c1 c2
 exact ⟨⟨g, p, k⟩, r1, r2, r3, ⟨a1, b1, fun n hn => bounds_u8 (c2 n hn), by simp only; omega, by simp only; omega, by simp only; omega, by simp only; omega⟩⟩
end Go.Av
end
section
open Go Go.Proofs
namespace Go.Av
theorem zve {g : zaf} {q p : zaj} (h : p ∈ zaH g q) : zkr g q = (0, false) := by
 have h1 : ¬ 0 ≤ zcj g q := fun h2 => by rw [zgz h2] at h; cases h
 have h3 : ¬ zaH g q = [] := fun h2 => by rw [h2] at h; cases h
 unfold zkr
 rw [if_neg h1, if_neg h3]
theorem zge (x : zo6) (hx : zfq x) : zaC Tryz.prog 9 [.agg (zcs x)] (.v (.bool true)) := by
 refine pF Tryz.func9 ?_
 have hM := zdT x hx
 have hg := zec hx
 have hp := zkd hx
 have hos : zbg (zc6 x) := zdq x.g
 obtain ⟨er, her⟩ : ∃ er, er = zcs x := ⟨_, rfl⟩
 have herl : er.length = 31 := by rw [her]; exact zhl hx
 have herb : ∀ n, (∀ c ∈ er, Bel n c) = True := fun n => by rw [her]; exact zhk hx n
 rw [← her] at hM ⊢
 generalize zc6 x = g at *
 generalize zwL x = p at *
 have hS := zcW
 have hLi := zd2 g hg hos
 generalize decide (zea (zbD g) ≤ 300) = li at *
 have b1 := zb0 g hg hos p hp
 have hmem : ∀ q ∈ (zbC g p).1, POk g q ∧ p ∈ zaH g q := fun q hq => (zb6 hg).1 (zjm hq)
 have hinc : Inc (zbC g p).1 := by
  unfold zbC
  split
  ·exact List.Pairwise.nil
  ·exact zbK g p
 have he : (zbC g p).2 = 0 ∨ zbC g p = ([], 2) := by
  unfold zbC
  split
  ·exact .inr rfl
  ·exact .inl rfl
 have hV : ∀ q, POk g q → zaC Tryz.prog 39 [.agg (zab g), .agg (zad q)] (.v (.bool true)) := fun q hq => by
  have := zdU g (by have := hg.k6; unfold zfo; omega) ⟨hg.r0, by have := hg.r4; omega⟩ q (hq.fits hg)
  rwa [ze7.2 hq] at this
 have hLg := fun q hq => zhx g hg q hq p (hp.fits hg)
 have hSt := fun q hq => zo7 g hg q hq
 have hCm := fun a b ha hb => zbI a b ((hmem a ha).1.fits hg) ((hmem b hb).1.fits hg)
 have hsd : ∀ q, POk g q → p ∈ zaH g q → p.side = 1 - q.side := fun q h1 h2 => ((zc7 hg h1) p h2).2
 have hbl := zjl g p
 have hps := hp.s
 generalize zbC g p = v at *
 obtain ⟨L, e⟩ := v
 simp only at hmem hbl hinc he hCm
 have hegl : (zab g).length = 9 := rfl
 have hegb : ∀ n, (∀ c ∈ zab g, Bel n c) = True := fun n => by simp [go_sem]
 generalize zab g = eg at *
 unfold zbY at b1
 repeat first|with_reducible refine wV fun _=>?_|simp [go_sem, herl]
 refine zyJ hS (by simp [go_sem]) ?_
 repeat first|with_reducible refine wV fun _=>?_|simp [go_sem, herl]
 refine zyJ hM (by simp [go_sem, herb]) ?_
 repeat first|with_reducible refine wV fun _=>?_|simp [go_sem, herl, hegl]
 refine zyJ hLi (by simp [go_sem, hegb]) ?_
 cases li
 ·repeat first|with_reducible refine wV fun _=>?_|simp [go_sem, hegl]
 ·repeat first|with_reducible refine wV fun _=>?_|simp [go_sem, hegl]
  refine zyJ b1 (by simp [go_sem, hegb]) ?_
  rcases he with rfl | he
  ·repeat first|with_reducible refine wV fun _=>?_|simp [go_sem, hegl]
   refine zyI (zyN (α := Nat) (fun i => ⟨[(3, .v (.bool true)), (4, .ref 1 0 9 0 0), (5, .ref 2 0 5 0 0), (6, .ref 3 0 2 0 0), (7, .v (.int .i64 i))], [(1, .rows true 0 9 [eg]), (2, .rows true 0 5 [zad p]), (3, .rows true 0 2 [[zaz L, .v (.int .i64 0)]])], 4⟩)
    (fun d i => i + d = L.length) ?_ L.length 0 ?_) ?_ ?_
   ·rintro d i i1 hrec
    repeat first|with_reducible refine wV fun _=>?_|simp [go_sem, hegl]
    refine zyK (fun hi => ?_) (fun hi => ?_) <;> simp at hi
    ·have hmi := zan hi
     obtain ⟨hq, hm⟩ := hmem _ hmi
     have hVq := hV _ hq
     have hLq := hLg _ hq
     rw [decide_eq_true hm] at hLq
     have hSq := hSt _ hq
     rw [zve hm] at hSq
     have hs1 := hsd _ hq hm
     have hgi := zbb zad L i hi
     have e4 : ((i : Int) - 1).toNat = i - 1 := by omega
     have he2 : i - 1 < L.length := by omega
     have hgj := zbb zad L (i - 1) he2
     have hCi := hCm (nth L (i - 1)) (nth L i) (zan he2) hmi
     have hcmp := fun h : 0 < i => hinc.lt (show i - 1 < i by omega) hi
     generalize zbw (nth L (i - 1)) (nth L i) = cc at *
     generalize nth L (i - 1) = q0 at *
     generalize nth L i = q at *
     have hss : ¬ q.side = p.side := by omega
     repeat first|with_reducible refine wV fun _=>?_|simp [go_sem, hegl, hi, hgi]
     refine zyM hVq (by simp [go_sem, hegb]) ?_
     repeat first|with_reducible refine wV fun _=>?_|simp [go_sem, hegl, hi, hgi, hss]
     refine zyV _ (fun _ => hLq) (by simp [go_sem, hegb]) ?_
     repeat first|with_reducible refine wV fun _=>?_|simp [go_sem, hegl, hi, hgi, hss, e4, he2, hgj]
     refine zyV _ (fun _ => hCi) (by simp [go_sem]) ?_
     repeat first|with_reducible refine wV fun _=>?_|simp [go_sem, hegl, hi, hgi, hss]
     refine zyK (fun hF => ?_) (fun _ => ?_)
     ·exfalso
      simp at hF
      have := hcmp hF.1
      omega
     ·repeat first|with_reducible refine wV fun _=>?_|simp [go_sem, hegl, hi, hgi]
      refine zyJ hSq (by simp [go_sem, hegb]) ?_
      repeat first|with_reducible refine wV fun _=>?_|simp [go_sem, hegl]
      refine zyI (hrec (d - 1) (by omega) (i + 1) (by omega)) ?_ (by simp)
      simp [go_sem, zah, hegb]
    ·repeat first|with_reducible refine wV fun _=>?_|simp [go_sem, hegl]
   ·omega
   ·simp [go_sem, zah, hegb]
   ·simp
  ·obtain ⟨rfl, rfl⟩ := Prod.mk.inj he
   repeat first|with_reducible refine wV fun _=>?_|simp [go_sem, hegl]
end Go.Av
end
