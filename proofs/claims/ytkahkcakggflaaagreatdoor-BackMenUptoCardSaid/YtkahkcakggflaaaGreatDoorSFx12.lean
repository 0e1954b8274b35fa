/- Texts of ours, part 12: contracts and facts for this claim. -/
import Derived.Test.YtkahkcakggflaaaGreatDoorB12
import Derived.Test.YtkahkcakggflaaaGreatDoorSFx11
set_option linter.unusedSimpArgs false
set_option linter.unusedVariables false
set_option maxRecDepth 100000
set_option maxHeartbeats 40000000
section
open Go Go.Proofs Go.Av
namespace Go.Av
open Go.Proofs.YtkahkcakggflaaaGreatDoor
abbrev P4T := List Int × List Int × List Int × Int × Int × Unit
def zvS (x : P4T) : List AV := (x.1.map fun n => [AV.v (.int .u8 n)]).flatten ++ ((x.2.1.map fun n => [AV.v (.int .u8 n)]).flatten ++ ((x.2.2.1.map fun n => [AV.v (.int .u8 n)]).flatten ++ ([.v (.int .u8 x.2.2.2.1)] ++ ([.v (.int .u8 x.2.2.2.2.1)] ++ []))))
theorem opn_p4 : Opn Tryz.prog 1048576 UpB 30 zdp zjt := by
 have hFF : Opn Tryz.prog 1048576 UpB 25 (fun l : List Int => (l.map fun n => [AV.v (.int .u8 n)]).flatten) (fun l => l.length = 6 ∧ ∀ x ∈ l, U8W x) :=
  Opn.array (sz := 1) (n := 6) zmw.upto Tryz.underlying25 (by kernel_rfl) (by kernel_rfl) zfO
 have h4 : Opn Tryz.prog 1048576 UpB 28 (fun l : List Int => (l.map fun n => [AV.v (.int .u8 n)]).flatten) (fun l => l.length = 4 ∧ ∀ x ∈ l, U8W x) :=
  Opn.array (sz := 1) (n := 4) zmw.upto Tryz.underlying28 (by kernel_rfl) (by kernel_rfl) zfO
 have hF : zio Tryz.prog 1048576 UpB [25, 25, 28, 5, 5] zvS (fun x => (x.1.length = 6 ∧ ∀ y ∈ x.1, U8W y) ∧ (x.2.1.length = 6 ∧ ∀ y ∈ x.2.1, U8W y) ∧ (x.2.2.1.length = 4 ∧ ∀ y ∈ x.2.2.1, U8W y) ∧ U8W x.2.2.2.1 ∧ U8W x.2.2.2.2.1 ∧ True) :=
  zio.cons hFF (zio.cons hFF (zio.cons h4 (zio.cons zfO (zio.cons zfO zio.nil))))
 have hT : Opn Tryz.prog 1048576 UpB 30 zvS (fun x => (x.1.length = 6 ∧ ∀ y ∈ x.1, U8W y) ∧ (x.2.1.length = 6 ∧ ∀ y ∈ x.2.1, U8W y) ∧ (x.2.2.1.length = 4 ∧ ∀ y ∈ x.2.2.1, U8W y) ∧ U8W x.2.2.2.1 ∧ U8W x.2.2.2.2.1 ∧ True) := Opn.struct zmw.upto (by kernel_rfl) hF
 intro H enc w fuel cs d ps k1 k2
 obtain ⟨x, r1, r2, r3, hx⟩ := hT enc w fuel cs d ps k1 k2
 obtain ⟨c, k, h, r, s, ⟨⟩⟩ := x
 obtain ⟨⟨a1, a2⟩, ⟨b1, b2⟩, ⟨c1, c2⟩, d1, e1, _⟩ := hx
 simp only at a1 a2 b1 b2 c1 c2 d1 e1
 have hfl : ∀ l : List Int, (l.map fun n => [AV.v (.int .u8 n)]).flatten = l.map fun n => AV.v (.int .u8 n) := fun l => by
  induction l with
  | nil => rfl
  | cons x l ih => simp only [List.map_cons, List.flatten_cons, ih]; rfl
 refine ⟨⟨c, k, h, r, s⟩, ?_, r2, r3, ⟨a1, b1, c1, fun n hn => bounds_u8 (a2 n hn), fun n hn => bounds_u8 (b2 n hn), fun n hn => bounds_u8 (c2 n hn), bounds_u8 d1, bounds_u8 e1⟩⟩
 unfold zvS at r1
 rw [hfl, hfl, hfl] at r1
 exact r1
end Go.Av
end
section
open Go Go.Proofs Go.Av
namespace Go.Av
open Go.Proofs.YtkahkcakggflaaaGreatDoor
theorem zdw : Opn Tryz.prog 1048576 UpB 65 zcx zft := by
 have hF : zio Tryz.prog 1048576 UpB [27, 30, 22] (fun x : zgA × zk2 × List Int × Unit => zcE x.1 ++ (zdp x.2.1 ++ ([.lst 1 (x.2.2.1.map fun n => [.v (.int .u8 n)])] ++ [])))
   (fun x => (zjs x.1 ∧ x.1.k0.length ≤ 1048576 ∧ x.1.k1.length ≤ 1048576 ∧ x.1.c.length ≤ 1048576) ∧ zjt x.2.1 ∧ (x.2.2.1.length ≤ 1048576 ∧ ∀ y ∈ x.2.2.1, U8W y) ∧ True) := zio.cons zwH (zio.cons opn_p4 (zio.cons zwI zio.nil))
 have hT : Opn Tryz.prog 1048576 UpB 65 (fun x : zgA × zk2 × List Int × Unit => zcE x.1 ++ (zdp x.2.1 ++ ([.lst 1 (x.2.2.1.map fun n => [.v (.int .u8 n)])] ++ [])))
   (fun x => (zjs x.1 ∧ x.1.k0.length ≤ 1048576 ∧ x.1.k1.length ≤ 1048576 ∧ x.1.c.length ≤ 1048576) ∧ zjt x.2.1 ∧ (x.2.2.1.length ≤ 1048576 ∧ ∀ y ∈ x.2.2.1, U8W y) ∧ True) := Opn.struct zmw.upto (by kernel_rfl) hF
 intro H enc w fuel cs d ps k1 k2
 obtain ⟨x, r1, r2, r3, hx⟩ := hT enc w fuel cs d ps k1 k2
 obtain ⟨g, p, k, ⟨⟩⟩ := x
 obtain ⟨⟨a1, a2, a3, a4⟩, b1, ⟨c1, c2⟩, _⟩ := hx
 simp only at a1 a2 a3 a4 b1 c1 c2
 exact ⟨⟨g, p, k⟩, r1, r2, r3, ⟨a1, b1, fun n hn => bounds_u8 (c2 n hn), by simp only; omega, by simp only; omega, by simp only; omega, by simp only; omega⟩⟩
end Go.Av
end
section
open Go Go.Proofs
namespace Go.Av
theorem ztX {g : zaf} (hg : GOk g) {p : zaj} (hp : POk g p) : -9000 ≤ zfl p ∧ zfl p ≤ 9000 := by
 have hal := hp.al
 have c9 := hg.c9
 have k6 := hg.k6
 have l0 := hp.h0.len
 have l1 := hp.h1.len
 have v0 := hp.h0.v
 have v1 := hp.h1.v
 have b1 : 0 ≤ zcD p.at_ ∧ zcD p.at_ ≤ 9 := by
  unfold zcD
  have := List.countP_le_length (l := p.at_) (p := fun c => decide (c ≠ 0))
  omega
 have s1 := zeO p.h0 (fun x hx => by obtain ⟨j, hj, rfl⟩ := ze6 hx; exact ⟨(v0 j hj).1, (v0 j hj).2.1⟩)
 have s2 := zeO p.h1 (fun x hx => by obtain ⟨j, hj, rfl⟩ := ze6 hx; exact ⟨(v1 j hj).1, (v1 j hj).2.1⟩)
 unfold zfl
 omega
theorem zim (x : zp4) (hx : zft x) : zaC Tryz.prog 7 [.agg (zcx x)] (.v (.bool true)) := by
 refine pF Tryz.func7 ?_
 have hM := zdT x hx
 have hg := zec hx
 have hp := zkv hx
 have hos : zbm (zc7 x) := zdr x.g
 obtain ⟨er, her⟩ : ∃ er, er = zcx x := ⟨_, rfl⟩
 have herl : er.length = 31 := by rw [her]; exact zhy hx
 have herb : ∀ n, (∀ c ∈ er, Bel n c) = True := fun n => by rw [her]; exact zhx hx n
 rw [← her] at hM ⊢
 generalize zc7 x = g at *
 generalize zy1 x = p at *
 have hS := zc0
 have hLi := zd2 g hg hos
 generalize decide (zea (zbH g) ≤ 300) = li at *
 have b1 := zb3 g hg hos p hp
 have hmem : ∀ q ∈ (zbG g p).1, POk g q ∧ p ∈ zaH g q := fun q hq => (zb9 hg).1 (zjF hq)
 have hV : ∀ q, POk g q → zaC Tryz.prog 39 [.agg (zab g), .agg (zad q)] (.v (.bool true)) := fun q hq => by
  have := zdU g (by have := hg.k6; unfold zfp; omega) ⟨hg.r0, by have := hg.r4; omega⟩ q (hq.fits hg)
  rwa [ze8.2 hq] at this
 have hMn := fun q hq => zwy g hg q hq
 have hMp := hMn p hp
 have hbk : ∀ q, POk g q → p ∈ zaH g q → (zfl p ≤ zfl q ∧ zfl q ≤ zfl p + 2) ∧ zhO .i64 q.rights p.rights = p.rights := fun q h1 h2 => by
  have := zwB hg h1 h2
  exact ⟨this.1, of_decide_eq_true this.2⟩
 have hbl := zjE g p
 have hmr := ztX hg hp
 generalize zbG g p = v at *
 obtain ⟨L, e⟩ := v
 simp only at hmem hbl
 have hegl : (zab g).length = 9 := rfl
 have hegb : ∀ n, (∀ c ∈ zab g, Bel n c) = True := fun n => by simp [go_sem]
 generalize zab g = eg at *
 unfold zb1 at b1
 repeat first|with_reducible refine wV fun _=>?_|simp [go_sem, herl]
 refine zBn hS (by simp [go_sem]) ?_
 repeat first|with_reducible refine wV fun _=>?_|simp [go_sem, herl]
 refine zBn hM (by simp [go_sem, herb]) ?_
 repeat first|with_reducible refine wV fun _=>?_|simp [go_sem, herl, hegl]
 refine zBn hLi (by simp [go_sem, hegb]) ?_
 cases li
 ·repeat first|with_reducible refine wV fun _=>?_|simp [go_sem, hegl]
 ·repeat first|with_reducible refine wV fun _=>?_|simp [go_sem, hegl]
  refine zBn b1 (by simp [go_sem, hegb]) ?_
  repeat first|with_reducible refine wV fun _=>?_|simp [go_sem, hegl]
  refine zBm (zBr (α := Nat) (fun i => ⟨[(3, .v (.bool true)), (4, .ref 1 0 9 0 0), (5, .ref 2 0 5 0 0), (6, .ref 3 0 2 0 0), (7, .v (.int .i64 i))], [(1, .rows true 0 9 [eg]), (2, .rows true 0 5 [zad p]), (3, .rows true 0 2 [[zaz L, .v (.int .i64 e)]])], 4⟩)
   (fun d i => i + d = L.length) ?_ L.length 0 ?_) ?_ ?_
  ·rintro d i i1 hrec
   repeat first|with_reducible refine wV fun _=>?_|simp [go_sem, hegl]
   refine zBo (fun hi => ?_) (fun hi => ?_) <;> simp at hi
   ·obtain ⟨hq, hm⟩ := hmem _ (zan hi)
    have hVq := hV _ hq
    have hMq := hMn _ hq
    obtain ⟨⟨m1, m2⟩, m3⟩ := hbk _ hq hm
    have hgi := zbg zad L i hi
    generalize nth L i = q at *
    have n1 : ¬ zfl q < zfl p := by omega
    have n2 : ¬ zfl p + 2 < zfl q := by omega
    repeat first|with_reducible refine wV fun _=>?_|simp [go_sem, hegl, hi, hgi]
    refine zBq hVq (by simp [go_sem, hegb]) ?_
    repeat first|with_reducible refine wV fun _=>?_|simp [go_sem, hegl, hi, hgi]
    refine zBz _ (fun _ => hMq) (by simp [go_sem]) ?_
    repeat first|with_reducible refine wV fun _=>?_|simp [go_sem, hegl, hi, hgi]
    refine zBz _ (fun _ => hMp) (by simp [go_sem]) ?_
    repeat first|with_reducible refine wV fun _=>?_|simp [go_sem, hegl, hi, hgi, n1]
    refine zBz _ (fun _ => hMq) (by simp [go_sem]) ?_
    repeat first|with_reducible refine wV fun _=>?_|simp [go_sem, hegl, hi, hgi, n1]
    refine zBz _ (fun _ => hMp) (by simp [go_sem]) ?_
    repeat first|with_reducible refine wV fun _=>?_|simp [go_sem, hegl, hi, hgi, n1, n2, m3]
    refine zBm (hrec (d - 1) (by omega) (i + 1) (by omega)) ?_ (by simp)
    simp [go_sem, zah, hegb]
   ·repeat first|with_reducible refine wV fun _=>?_|simp [go_sem, hegl]
  ·omega
  ·simp [go_sem, zah, hegb]
  ·simp
end Go.Av
end
