/- Texts of ours, part 13: our library and contracts of functions. -/
import Derived.Test.YtedhfmmlhfmomaaGreatDoorB12
import GoSem.ClaimJoined
import Derived.Test.YtedhfmmlhfmomaaGreatDoorCards
import Derived.Test.YtedhfmmlhfmomaaGreatDoorTie
import Derived.Deep.DeepHandedRow
import Derived.LaidHandle
import Derived.LaidMore
import Derived.OpenShut
import Derived.Test.YtedhfmmlhfmomaaGreatDoorRows
set_option linter.unusedSimpArgs false
set_option linter.unusedVariables false
set_option maxRecDepth 100000
set_option maxHeartbeats 40000000
section
open Go Go.Proofs
namespace Go.Av
theorem zml (g : zad) (hg : GOk g) (side : Int) (cell : Int) (prog : List (Int × Int)) (hp : prog.length ≤ 8) :
    zaP Tryz.prog 139 [zax prog, .fp (zae g), .fp [.v (.int .i64 side)], .fp [.v (.int .i64 cell)]] (zcB (zcX g.board side prog cell)) := by
  refine pF Tryz.func139 ?_
  have hP := zta g.board hg.board hg.c1 hg.c9 side prog hp cell
  generalize zcX g.board side prog cell = R at *
  rw [show zdC g.board = [.v (.int .i64 g.cells), zbY g.next, zap g.turn] from rfl] at hP
  repeat first|refine wV fun _=>?_|simp [go_sem]
  refine zAD hP (by simp [go_sem]) ?_
  repeat first|refine wV fun _=>?_|simp [go_sem]
def zg8 (f : Nat → List AV) (z : List AV) (n c : Nat) : List (List AV) := (List.range n).map fun i => if i < c then f i else z
theorem znY (f : Nat → List AV) (z : List AV) (n c : Nat) : (zg8 f z n c).length = n := by simp [zg8]
theorem zk1 (f : Nat → List AV) (z : List AV) (n : Nat) : List.replicate n z = zg8 f z n 0 := by
  unfold zg8
  refine List.ext_getElem (by simp) fun i h1 h2 => ?_
  simp
theorem znZ (f : Nat → List AV) (z : List AV) (n c : Nat) : (zg8 f z n c).set c (f c) = zg8 f z n (c + 1) := by
  unfold zg8
  refine List.ext_getElem (by simp) fun i h1 h2 => ?_
  simp only [List.getElem_set, List.getElem_map, List.getElem_range]
  by_cases h : c = i
  · subst h; simp
  · rw [if_neg h]
    by_cases hi : i < c
    · rw [if_pos hi, if_pos (by omega)]
    · rw [if_neg hi, if_neg (by omega)]
theorem znX (f : Nat → List AV) (z : List AV) (n : Nat) : zg8 f z n n = (List.range n).map f := by
  unfold zg8
  refine List.map_congr_left fun i hi => ?_
  rw [if_pos (List.mem_range.1 hi)]
theorem zgA {f : Nat → List AV} {z : List AV} {n c m : Nat} (hf : ∀ i, ∀ x ∈ f i, Bel m x) (hz : ∀ x ∈ z, Bel m x) : ∀ r ∈ zg8 f z n c, ∀ x ∈ r, Bel m x := by
  intro r hr x hx
  unfold zg8 at hr
  obtain ⟨i, _, rfl⟩ := List.mem_map.1 hr
  split at hx
  · exact hf i x hx
  · exact hz x hx
theorem zq6 (h : zao) (o : Nat) (x : Option zbn) : zbt (upd h o x) [o] = upd h o (zbV x) := by
  funext a
  unfold zbt upd
  by_cases e : a = o
  · subst e; simp
  · simp [e]
def zkC (g : zad) (side : Int) (j : Nat) : List (List (List za5)) := (g.kinds.take j).map fun k => zkT g.board side k.progs
theorem ztp (g : zad) (side : Int) {j : Nat} (h : j < g.kinds.length) : zkC g side (j + 1) = zkC g side j ++ [zkT g.board side (nth g.kinds j).progs] := by
  unfold zkC
  rw [List.take_add_one, List.getElem?_eq_getElem h, zau _ _ h, Option.toList_some, List.map_append]
  rfl
theorem zwg (g : zad) (side : Int) : zkC g side g.kinds.length = zcT g side := by unfold zkC zcT; rw [List.take_length]
theorem ztq (g : zad) (side : Int) : zkC g side 0 = [] := by simp [zkC]
theorem zwh (g : zad) (side : Int) {j : Nat} (h : j ≤ g.kinds.length) : (zkC g side j).length = j := by simp [zkC]; omega
theorem zjk {g : zad} (hg : GOk g) (side : Int) {k : zfU} (hk : k ∈ g.kinds) (cell : Int) : (zcl g.board side k.progs cell).length ≤ 8589934592 := by
  have h := zg9 (fun p => zcX g.board side p cell) 43046721 k.progs (fun p hp => by
    have := zlw hg.board hg.c1 hg.c9 side p (hg.pr k hk p hp).len cell p.length
    unfold zek at this
    rwa [List.take_length] at this)
  have := hg.pn k hk
  have h2 : k.progs.length * 43046721 ≤ 8 * 43046721 := Nat.mul_le_mul_right _ this
  unfold zcl
  omega
theorem zlf {g : zad} (hg : GOk g) (s : Int) {k : zfU} (hk : k ∈ g.kinds) (c : Int) : zhu 1048576 (zcl g.board s k.progs c) := by
  intro w hw
  obtain ⟨p, hp, hw⟩ := List.mem_flatMap.1 hw
  have := zgc hg.board hg.c9 s p c p.length (Nat.le_refl _) w (by unfold zek; rwa [List.take_length])
  have := (hg.pr k hk p hp).len
  omega
theorem zm4 (g : zad) (hg : GOk g) : zaP Tryz.prog 76 [.agg (zae g)] (.agg (zcZ (zeT g))) := by
  refine pF Tryz.func76 ?_
  have hc9 := hg.c9
  have hc1 := hg.c1
  have hk6 := hg.k6
  have hF := fun (s : Int) (c : Int) (k : zfU) (hk : k ∈ g.kinds) => zsC k.progs (by have := hg.pn k hk; omega) 139 [.fp (zae g), .fp [.v (.int .i64 s)], .fp [.v (.int .i64 c)]] (fun p => zcX g.board s p c)
    (fun p hp => zml g hg s c p (hg.pr k hk p hp).len) (by simp [go_sem]) (zjk hg s hk c)
  have hkb : ∀ (s : Int) (k : zfU) (c : Nat), c < g.cells.toNat → True := fun _ _ _ _ => trivial
  have hR : zcZ (zeT g) = [zck (zcT g 0), zck (zcT g 1)] := rfl
  rw [hR]
  clear hR
  have hsk := fun (s : Int) (j : Nat) (h : j < g.kinds.length) => ztp g s h
  have hsa := fun s => zwg g s
  have hsz := fun s => ztq g s
  have hsl := fun (s : Int) (j : Nat) (h : j ≤ g.kinds.length) => zwh g s h
  obtain ⟨C, hC⟩ : ∃ C : Nat, g.cells = C := ⟨g.cells.toNat, by omega⟩
  have hcells : ∀ (s : Int) (j : Nat), zkT g.board s (nth g.kinds j).progs = (List.range C).map fun (c : Nat) => zcl g.board s (nth g.kinds j).progs c := fun s j => by
    unfold zkT
    rw [show g.board.cells.toNat = C by have : g.board.cells = g.cells := rfl; omega]
  generalize zkC g = K at *
  have heg : zae g = [.v (.int .i64 (C : Int)), zbY g.next, zap g.turn, .lst 3 (g.kinds.map zaV), .v (.int .i64 g.rights), .v (.bool g.must), .lst 4 (g.clauses.map zaZ), .v (.int .i64 g.blocked), .v (.int .i64 g.endless)] := by rw [← hC]; rfl
  rw [heg] at hF
  have hbl : ∀ n, (∀ c' ∈ zae g, Bel n c') = True := fun n => by simp [go_sem]
  have hel : (zae g).length = 9 := rfl
  repeat first|refine wV fun _=>?_|simp [go_sem, hel]
  refine zAC (zAG (α := Nat) (fun s => ⟨[(1, .ref 0 0 9 0 0), (2, .ref 1 0 2 0 0), (3, .ref 2 0 2 0 0), (9, .v (.int .i64 s))],
      [(0, .rows false 0 9 [zae g]), (1, .rows true 0 2 [[AV.v (.slice none 0 0), AV.v (.slice none 0 0)]]), (2, .rows true 0 2 [[if s = 0 then AV.v (.slice none 0 0) else zck (zcT g 0), if s < 2 then AV.v (.slice none 0 0) else zck (zcT g 1)]])], 3⟩)
    (fun d s => s + d = 2) ?_ 2 0 ?_) ?_ ?_
  · rintro d0 s s1 hrec
    rcases (show s = 0 ∨ s = 1 ∨ s = 2 by omega) with rfl | rfl | rfl
    · have hFs := hF 0
      have hsk := hsk 0
      have hsa := hsa 0
      have hsz := hsz 0
      have hsl := hsl 0
      have hcells := hcells 0
      repeat first|refine wV fun _=>?_|simp [go_sem, hel, hC]
      refine zAC (zAG (α := Nat) (fun j => ⟨[(1, .ref 0 0 9 0 0), (2, .ref 1 0 2 0 0), (3, .ref 2 0 2 0 0), (4, .ref 3 0 1 0 0), (9, .v (.int .i64 0)), (13, .lst 3 (g.kinds.map zaV)), (14, .v (.int .i64 g.kinds.length)), (15, .v (.int .i64 j))],
          [(0, .rows false 0 9 [zae g]), (1, .rows true 0 2 [[AV.v (.slice none 0 0), AV.v (.slice none 0 0)]]), (2, .rows true 0 2 [[.sl 4 j 1 0 j, AV.v (.slice none 0 0)]]), (3, .rows false 0 1 [[.v (.int .i64 0)]]), (4, .rows true j 1 ((K 0 j).map fun x => [zdr x]))], 5⟩)
        (fun d j => j + d = g.kinds.length) ?_ g.kinds.length 0 ?_) ?_ ?_
      · rintro d j j1 hrec2
        have hlj := hsl j (by omega)
        repeat first|refine wV fun _=>?_|simp [go_sem, hel, hC, hlj]
        refine zAE (fun hj => ?_) (fun hj => ?_) <;> simp at hj
        · have hkm := zaj hj
          have hpn := hg.pn _ hkm
          have hFk := fun (c : Nat) => hFs c _ hkm
          have hsj := hsk j hj
          have hcj := hcells j
          have hlj1 := hsl (j + 1) (by omega)
          have hkp : ∀ c : Int, (nth g.kinds j).progs.flatMap (fun p => zcX g.board 0 p c) = zcl g.board 0 (nth g.kinds j).progs c := fun c => rfl
          simp only [hkp] at hFk
          generalize zcl g.board 0 (nth g.kinds j).progs = KP at *
          repeat first|refine wV fun _=>?_|simp [go_sem, hel, hC, hj]
          rw [zk1 (fun (i : Nat) => [.lst 2 ((KP i).map zaH)])]
          refine zAC (zAG (α := Nat) (fun c => ⟨[(1, .ref 0 0 9 0 0), (2, .ref 1 0 2 0 0), (3, .ref 2 0 2 0 0), (4, .ref 3 0 1 0 0), (6, .ref 5 0 3 0 0), (7, .sl 6 0 1 0 C), (9, .v (.int .i64 0)), (13, .lst 3 (g.kinds.map zaV)), (14, .v (.int .i64 g.kinds.length)), (15, .v (.int .i64 j)), (24, .v (.int .i64 C)), (25, .v (.int .i64 c))],
              [(0, .rows false 0 9 [zae g]), (1, .rows true 0 2 [[AV.v (.slice none 0 0), AV.v (.slice none 0 0)]]), (2, .rows true 0 2 [[.sl 4 j 1 0 j, AV.v (.slice none 0 0)]]), (3, .rows false 0 1 [[.v (.int .i64 0)]]), (4, .rows true j 1 ((K 0 j).map fun x => [zdr x])),
               (5, .rows true 0 3 [zaV (nth g.kinds j)]), (6, .rows true 0 1 (zg8 (fun (i : Nat) => [.lst 2 ((KP i).map zaH)]) [AV.v (.slice none 0 0)] C c))], 7⟩)
            (fun d c => c + d = C) ?_ C 0 ?_) ?_ ?_
          · rintro d2 c c1' hrec3
            have hfl := znY (fun (i : Nat) => [.lst 2 ((KP i).map zaH)]) [AV.v (.slice none 0 0)] C c
            have hfs := znZ (fun (i : Nat) => [.lst 2 ((KP i).map zaH)]) [AV.v (.slice none 0 0)] C c
            repeat first|refine wV fun _=>?_|simp [go_sem, hel, hC, hlj, hfl]
            refine zAE (fun hc => ?_) (fun hc => ?_) <;> simp at hc
            · (repeat (first|with_reducible (first|refine wL fun _=>?_|refine wD fun _=>?_|refine wE ?_)|simp [go_sem, hel, hC, hj, hfl]))
              refine znm.frz (zbt _ [7]) (zcw _ _) ?_
              simp only [zq6]
              repeat first|refine wV fun _=>?_|simp [go_sem, hel, hC, hj, hfl]
              refine zaw.frz [.lst 1 ((nth g.kinds j).progs.map fun p => [zax p]), _] _ [0, 3, 7] [] (hFk c) (by simp) ?_ (by simp [go_sem]) ?_
              · intro h₁ hS
                have h0 := hS 0 (by simp)
                have h3 := hS 3 (by simp)
                have h7 := hS 7 (by simp)
                simp [upd, zbt, zbV] at h0 h3 h7
                refine .cons (.refl _) (.cons (.fn .nil (.cons (.frzP h0.symm (by simp) (by simp) (by simp [zai, upd, ← h0]) (.refl _ _ _ _)) (.cons (.frzP h3.symm (by simp) (by simp) (by simp [zai, upd, ← h3]) (.refl _ _ _ _)) (.cons (.frzP h7.symm (by simp) (by simp) (by simp [zai, upd, ← h7]) (.refl _ _ _ _)) .nil)))) .nil)
              · (repeat (first|refine wV fun _=>?_|simp [go_sem, hel, hC, hj, hfl]))
                refine zAC (hrec3 (d2 - 1) (by omega) (c + 1) (by omega)) ?_ (by simp)
                simp [go_sem, zaf, hfs, hC]
                exact zgA (fun i x hx => by simp only [List.mem_singleton] at hx; subst hx; exact of_eq_true zgY) (fun x hx => by simp only [List.mem_singleton] at hx; subst hx; exact .v _)
            · have hcC : c = C := by omega
              subst hcC
              rw [znX]
              repeat first|refine wV fun _=>?_|simp [go_sem, hel, hC, hj]
              refine zAC (hrec2 (d - 1) (by omega) (j + 1) (by omega)) ?_ (by simp)
              simp [go_sem, zaf, hsj, hcj, hC]
              (first|done|exact leX)
          · simp
          · simp [go_sem, zaf, hC]
            exact zgA (fun i x hx => by simp only [List.mem_singleton] at hx; subst hx; exact of_eq_true zgY) (fun x hx => by simp only [List.mem_singleton] at hx; subst hx; exact .v _)
          · simp
        · have hjl : j = g.kinds.length := by omega
          subst hjl
          rw [hsa]
          repeat first|refine wV fun _=>?_|simp [go_sem, hel, hC]
          refine zAC (hrec (d0 - 1) (by omega) (1) (by omega)) ?_ (by simp)
          have hsl' : (zcT g 0).length = g.kinds.length := by simp [zcT]
          simp [go_sem, zaf, hC]
          ((try simp only [zax, zaO, zbf, zcp, zaH, zcB, zaF, zal, zac, zcS, zbb, zaI, zap, zae, List.map_cons, List.map_nil, List.nil_append, List.append_nil, List.cons_append]); (repeat (first | (with_reducible first|exact zan.nil|exact zam.nil|exact LeV.refl _|exact zan.refl _ _ _ _|exact zam.refl _|refine zan.cons ?_ ?_|refine zam.cons ?_ ?_|refine LeV.agg ?_|refine LeV.tup ?_|refine LeV.fn ?_ ?_|exact LeV.nil _|refine zar (zam.refl _) ?_) | ((refine zaB rfl (by simp [hsl']) (by simp [zbt, zbV, upd, noH]) ?_); (first | (simp [go_sem, hsl']; done) | (simp [go_sem, hsl']; exact List.take_of_length_le (by simp [hsl'])))) | ((refine LeV.frz rfl (by simp [hsl']) (by simp [zbt, zbV, upd, noH]) ?_); (simp only [List.drop_zero, List.take_succ_cons, List.take_zero, List.map_cons, List.map_nil])) | ((refine LeV.frzP rfl (by simp [hsl']) (by simp) (by simp [zbt, zbV, upd, noH]) ?_); (simp only [zbg, List.drop_zero])))))
      · simp
      · simp [go_sem, zaf, hsz, hC]
      · simp
    · have hFs := hF 1
      have hsk := hsk 1
      have hsa := hsa 1
      have hsz := hsz 1
      have hsl := hsl 1
      have hcells := hcells 1
      repeat first|refine wV fun _=>?_|simp [go_sem, hel, hC]
      refine zAC (zAG (α := Nat) (fun j => ⟨[(1, .ref 0 0 9 0 0), (2, .ref 1 0 2 0 0), (3, .ref 2 0 2 0 0), (4, .ref 3 0 1 0 0), (9, .v (.int .i64 1)), (13, .lst 3 (g.kinds.map zaV)), (14, .v (.int .i64 g.kinds.length)), (15, .v (.int .i64 j))],
          [(0, .rows false 0 9 [zae g]), (1, .rows true 0 2 [[AV.v (.slice none 0 0), AV.v (.slice none 0 0)]]), (2, .rows true 0 2 [[zck (zcT g 0), .sl 4 j 1 0 j]]), (3, .rows false 0 1 [[.v (.int .i64 1)]]), (4, .rows true j 1 ((K 1 j).map fun x => [zdr x]))], 5⟩)
        (fun d j => j + d = g.kinds.length) ?_ g.kinds.length 0 ?_) ?_ ?_
      · rintro d j j1 hrec2
        have hlj := hsl j (by omega)
        repeat first|refine wV fun _=>?_|simp [go_sem, hel, hC, hlj]
        refine zAE (fun hj => ?_) (fun hj => ?_) <;> simp at hj
        · have hkm := zaj hj
          have hpn := hg.pn _ hkm
          have hFk := fun (c : Nat) => hFs c _ hkm
          have hsj := hsk j hj
          have hcj := hcells j
          have hlj1 := hsl (j + 1) (by omega)
          have hkp : ∀ c : Int, (nth g.kinds j).progs.flatMap (fun p => zcX g.board 1 p c) = zcl g.board 1 (nth g.kinds j).progs c := fun c => rfl
          simp only [hkp] at hFk
          generalize zcl g.board 1 (nth g.kinds j).progs = KP at *
          repeat first|refine wV fun _=>?_|simp [go_sem, hel, hC, hj]
          rw [zk1 (fun (i : Nat) => [.lst 2 ((KP i).map zaH)])]
          refine zAC (zAG (α := Nat) (fun c => ⟨[(1, .ref 0 0 9 0 0), (2, .ref 1 0 2 0 0), (3, .ref 2 0 2 0 0), (4, .ref 3 0 1 0 0), (6, .ref 5 0 3 0 0), (7, .sl 6 0 1 0 C), (9, .v (.int .i64 1)), (13, .lst 3 (g.kinds.map zaV)), (14, .v (.int .i64 g.kinds.length)), (15, .v (.int .i64 j)), (24, .v (.int .i64 C)), (25, .v (.int .i64 c))],
              [(0, .rows false 0 9 [zae g]), (1, .rows true 0 2 [[AV.v (.slice none 0 0), AV.v (.slice none 0 0)]]), (2, .rows true 0 2 [[zck (zcT g 0), .sl 4 j 1 0 j]]), (3, .rows false 0 1 [[.v (.int .i64 1)]]), (4, .rows true j 1 ((K 1 j).map fun x => [zdr x])),
               (5, .rows true 0 3 [zaV (nth g.kinds j)]), (6, .rows true 0 1 (zg8 (fun (i : Nat) => [.lst 2 ((KP i).map zaH)]) [AV.v (.slice none 0 0)] C c))], 7⟩)
            (fun d c => c + d = C) ?_ C 0 ?_) ?_ ?_
          · rintro d2 c c1' hrec3
            have hfl := znY (fun (i : Nat) => [.lst 2 ((KP i).map zaH)]) [AV.v (.slice none 0 0)] C c
            have hfs := znZ (fun (i : Nat) => [.lst 2 ((KP i).map zaH)]) [AV.v (.slice none 0 0)] C c
            repeat first|refine wV fun _=>?_|simp [go_sem, hel, hC, hlj, hfl]
            refine zAE (fun hc => ?_) (fun hc => ?_) <;> simp at hc
            · (repeat (first|with_reducible (first|refine wL fun _=>?_|refine wD fun _=>?_|refine wE ?_)|simp [go_sem, hel, hC, hj, hfl]))
              refine znm.frz (zbt _ [7]) (zcw _ _) ?_
              simp only [zq6]
              repeat first|refine wV fun _=>?_|simp [go_sem, hel, hC, hj, hfl]
              refine zaw.frz [.lst 1 ((nth g.kinds j).progs.map fun p => [zax p]), _] _ [0, 3, 7] [] (hFk c) (by simp) ?_ (by simp [go_sem]) ?_
              · intro h₁ hS
                have h0 := hS 0 (by simp)
                have h3 := hS 3 (by simp)
                have h7 := hS 7 (by simp)
                simp [upd, zbt, zbV] at h0 h3 h7
                refine .cons (.refl _) (.cons (.fn .nil (.cons (.frzP h0.symm (by simp) (by simp) (by simp [zai, upd, ← h0]) (.refl _ _ _ _)) (.cons (.frzP h3.symm (by simp) (by simp) (by simp [zai, upd, ← h3]) (.refl _ _ _ _)) (.cons (.frzP h7.symm (by simp) (by simp) (by simp [zai, upd, ← h7]) (.refl _ _ _ _)) .nil)))) .nil)
              · (repeat (first|refine wV fun _=>?_|simp [go_sem, hel, hC, hj, hfl]))
                refine zAC (hrec3 (d2 - 1) (by omega) (c + 1) (by omega)) ?_ (by simp)
                simp [go_sem, zaf, hfs, hC]
                exact zgA (fun i x hx => by simp only [List.mem_singleton] at hx; subst hx; exact of_eq_true zgY) (fun x hx => by simp only [List.mem_singleton] at hx; subst hx; exact .v _)
            · have hcC : c = C := by omega
              subst hcC
              rw [znX]
              repeat first|refine wV fun _=>?_|simp [go_sem, hel, hC, hj]
              refine zAC (hrec2 (d - 1) (by omega) (j + 1) (by omega)) ?_ (by simp)
              simp [go_sem, zaf, hsj, hcj, hC]
              (first|done|exact leX)
          · simp
          · simp [go_sem, zaf, hC]
            exact zgA (fun i x hx => by simp only [List.mem_singleton] at hx; subst hx; exact of_eq_true zgY) (fun x hx => by simp only [List.mem_singleton] at hx; subst hx; exact .v _)
          · simp
        · have hjl : j = g.kinds.length := by omega
          subst hjl
          rw [hsa]
          repeat first|refine wV fun _=>?_|simp [go_sem, hel, hC]
          refine zAC (hrec (d0 - 1) (by omega) (2) (by omega)) ?_ (by simp)
          have hsl' : (zcT g 1).length = g.kinds.length := by simp [zcT]
          simp [go_sem, zaf, hC]
          ((try simp only [zax, zaO, zbf, zcp, zaH, zcB, zaF, zal, zac, zcS, zbb, zaI, zap, zae, List.map_cons, List.map_nil, List.nil_append, List.append_nil, List.cons_append]); (repeat (first | (with_reducible first|exact zan.nil|exact zam.nil|exact LeV.refl _|exact zan.refl _ _ _ _|exact zam.refl _|refine zan.cons ?_ ?_|refine zam.cons ?_ ?_|refine LeV.agg ?_|refine LeV.tup ?_|refine LeV.fn ?_ ?_|exact LeV.nil _|refine zar (zam.refl _) ?_) | ((refine zaB rfl (by simp [hsl']) (by simp [zbt, zbV, upd, noH]) ?_); (first | (simp [go_sem, hsl']; done) | (simp [go_sem, hsl']; exact List.take_of_length_le (by simp [hsl'])))) | ((refine LeV.frz rfl (by simp [hsl']) (by simp [zbt, zbV, upd, noH]) ?_); (simp only [List.drop_zero, List.take_succ_cons, List.take_zero, List.map_cons, List.map_nil])) | ((refine LeV.frzP rfl (by simp [hsl']) (by simp) (by simp [zbt, zbV, upd, noH]) ?_); (simp only [zbg, List.drop_zero])))))
      · simp
      · simp [go_sem, zaf, hsz, hC]
      · simp
    · (repeat (first|refine wV fun _=>?_|simp [go_sem]))
  · simp
  · simp [go_sem, zaf]
  · simp
theorem zuz {n : Nat} {l : List (Int × Int)} : (∀ r ∈ l.map zaO, ∀ c ∈ r, Bel n c) = True := by
 refine eq_true ?_
 intro r hr c hc
 obtain ⟨x, _, rfl⟩ := List.mem_map.1 hr
 revert c
 simp [go_sem]
attribute [go_sem ↓] zuz
structure zlX (g : zad) (c : zoT) : Prop where
 l1 : c.1.length = g.kinds.length
 l2 : c.2.length = g.kinds.length
 c1 : ∀ x ∈ c.1, (x.length : Int) = g.cells
 c2 : ∀ x ∈ c.2, (x.length : Int) = g.cells
theorem zlX.side {g : zad} {c : zoT} (h : zlX g c) {s : Nat} (hs : s < 2) : ∃ l, cel [zck c.1, zck c.2] s = zck l ∧ l.length = g.kinds.length ∧ ∀ x ∈ l, (x.length : Int) = g.cells := by
 rcases (show s = 0 ∨ s = 1 by omega) with rfl | rfl
 ·exact ⟨_, rfl, h.l1, h.c1⟩
 ·exact ⟨_, rfl, h.l2, h.c2⟩
theorem zqv {g : zad} (hg : GOk g) : zlX g (zeT g) := by
 have h : ∀ s, ∀ x ∈ zcT g s, (x.length : Int) = g.cells := by
  intro s x hx
  obtain ⟨k, _, rfl⟩ := List.mem_map.1 hx
  have : g.board.cells = g.cells := rfl
  have := hg.c1
  simp [zkT]
  omega
 exact ⟨by simp [zeT, zcT], by simp [zeT, zcT], h 0, h 1⟩
theorem zwi (g : zad) (s : Int) {k c : Nat} (hk : k < g.kinds.length) (hc : c < g.cells.toNat) : nth (nth (zcT g s) k) c = zcl g.board s (nth g.kinds k).progs c := by
 unfold zcT
 rw [zcC _ _ _ hk]
 have hc' : c < (List.range g.board.cells.toNat).length := by rw [List.length_range]; exact hc
 show nth ((List.range g.board.cells.toNat).map fun (c : Nat) => zcl g.board s (nth g.kinds k).progs c) c = _
 rw [zcC _ _ _ hc', zau _ _ hc', List.getElem_range]
structure FitC (g : zad) (c : zoT) : Prop where
 sh : zlX g c
 len : ∀ l ∈ c.1 ++ c.2, ∀ x ∈ l, x.length ≤ 1099511627776 ∧ zhu 1048576 x
theorem zvg {g : zad} (hg : GOk g) : FitC g (zeT g) := by
 refine ⟨zqv hg, ?_⟩
 have h : ∀ s, ∀ l ∈ zcT g s, ∀ x ∈ l, x.length ≤ 1099511627776 ∧ zhu 1048576 x := by
  intro s l hl x hx
  obtain ⟨k, hk, rfl⟩ := List.mem_map.1 hl
  obtain ⟨c, _, rfl⟩ := List.mem_map.1 hx
  exact ⟨by have := zjk hg s hk (c : Nat); omega, zlf hg s hk _⟩
 intro l hl
 rcases List.mem_append.1 hl with hl | hl
 ·exact h 0 l hl
 ·exact h 1 l hl
theorem FitC.side {g : zad} {c : zoT} (h : FitC g c) {s : Nat} (hs : s < 2) : ∃ l, cel [zck c.1, zck c.2] s = zck l ∧ l.length = g.kinds.length ∧ (∀ x ∈ l, (x.length : Int) = g.cells) ∧ ∀ x ∈ l, ∀ y ∈ x, y.length ≤ 1099511627776 ∧ zhu 1048576 y := by
 rcases (show s = 0 ∨ s = 1 by omega) with rfl | rfl
 ·exact ⟨_, rfl, h.sh.l1, h.sh.c1, fun x hx => h.len x (by simp [hx])⟩
 ·exact ⟨_, rfl, h.sh.l2, h.sh.c2, fun x hx => h.len x (by simp [hx])⟩
theorem zsR (d e k r : Int) (i : Nat) : zaA (nth (zoQ d e k r) i) 2 ≤ 1 := by
 rcases Nat.lt_or_ge i 16 with h | h
 ·have : ∀ p ∈ zoQ d e k r, zaA p 2 ≤ 1 := by
   intro p hp
   simp only [zoQ, List.mem_cons, List.not_mem_nil, or_false] at hp
   rcases hp with rfl | rfl | rfl | rfl | rfl | rfl | rfl | rfl | rfl | rfl | rfl | rfl | rfl | rfl | rfl | rfl <;> simp [zaA]
  exact this _ (zaj h)
 ·have e : nth (zoQ d e k r) i = [] := by
   unfold nth
   rw [List.getD_eq_getElem?_getD, List.getElem?_eq_none (by exact h)]; rfl
  rw [e]
  simp [zaA]
theorem zsy {dirs kinds rights : Int} {p : List (Int × Int)} (h : zaA p 2 ≤ 1) : zaA (zyU dirs kinds rights p) 2 ≤ 1 := by
 unfold zyU
 split
 ·simp [zaA]
 ·exact Nat.le_trans (zfc 2 p) h
theorem zqd (x : zhY) : zfu (zhd x) := by
 intro k hk p hp
 obtain ⟨i, _, rfl⟩ := List.mem_map.1 hk
 obtain ⟨n, _, rfl⟩ := List.mem_map.1 hp
 exact zsy (zsR _ _ _ _ _)
def znD (n : Nat) : AV := .fn (.func 202) [] [.ref (n + 1) 0 2 0 0, .ref (n + 3) 0 1 0 0, .ref (n + 2) 0 5 0 0, .ref n 0 9 0 0]
theorem zsl (g : zad) (c : zoT) (p : zag) (hs : p.side = 0 ∨ p.side = 1) : zgS Tryz.prog 152 [.agg (zae g), .agg (zcZ c), .agg (zac p)] znD (fun n => [(n, .rows true 0 9 [zae g]), (n + 1, .rows true 0 2 [zcZ c]), (n + 2, .rows true 0 5 [zac p]), (n + 3, .rows true 0 1 [[.v (.int .i64 (1 - p.side))]])]) 4 := by
 refine ⟨?_, fun n => ⟨by simp [go_sem, znD], by simp [go_sem]⟩⟩
 refine zAJ (by kernel_rfl) Tryz.func152 rfl rfl (Nat.le_of_ble_eq_true rfl) (by kernel_rfl) ?_
 repeat first|refine wV fun _=>?_|simp [go_sem, znD]
 simp [go_sem, zaf]

def cKd (g : zad) (sd : Int) (p : zag) (k : Nat) : List zag := ((List.range g.kinds.length).drop k).flatMap (fun (k : Nat) => (List.range g.cells.toNat).flatMap fun (c : Nat) => (zcl g.board sd (nth g.kinds k).progs c).flatMap (zh1 g sd p k c)) ++ ziR g sd p
def cCl (g : zad) (sd : Int) (p : zag) (k c : Nat) : List zag := ((List.range g.cells.toNat).drop c).flatMap (fun (c : Nat) => (zcl g.board sd (nth g.kinds k).progs c).flatMap (zh1 g sd p k c)) ++ cKd g sd p (k + 1)
def cPt (g : zad) (sd : Int) (p : zag) (k c i : Nat) : List zag := ((zcl g.board sd (nth g.kinds k).progs c).drop i).flatMap (zh1 g sd p k c) ++ cCl g sd p k (c + 1)
theorem zf2 {n j : Nat} (h : j < n) : (List.range n).drop j = j :: (List.range n).drop (j + 1) := by
 rw [List.drop_eq_getElem_cons (by simpa using h)]; simp
theorem cKd_go {g : zad} {sd : Int} {p : zag} {k : Nat} (h : k < g.kinds.length) : cKd g sd p k = cCl g sd p k 0 := by
 unfold cCl cKd
 rw [zf2 h, List.flatMap_cons, List.append_assoc]
 rfl
theorem zzJ {g : zad} {sd : Int} {p : zag} : cKd g sd p g.kinds.length = ziR g sd p := by
 unfold cKd
 rw [List.drop_eq_nil_of_le (by simp)]
 rfl
theorem cCl_go {g : zad} {sd : Int} {p : zag} {k c : Nat} (h : c < g.cells.toNat) : cCl g sd p k c = cPt g sd p k c 0 := by
 unfold cPt cCl
 rw [zf2 h, List.flatMap_cons, List.append_assoc]
 rfl
theorem zzH {g : zad} {sd : Int} {p : zag} {k : Nat} : cCl g sd p k g.cells.toNat = cKd g sd p (k + 1) := by
 unfold cCl
 rw [List.drop_eq_nil_of_le (by simp)]
 rfl
theorem cPt_go {g : zad} {sd : Int} {p : zag} {k c i : Nat} (h : i < (zcl g.board sd (nth g.kinds k).progs c).length) : cPt g sd p k c i = zh1 g sd p k c (nth (zcl g.board sd (nth g.kinds k).progs c) i) ++ cPt g sd p k c (i + 1) := by
 unfold cPt
 rw [List.drop_eq_getElem_cons h, ← zau _ _ h, List.flatMap_cons, List.append_assoc]
theorem zzK {g : zad} {sd : Int} {p : zag} {k c : Nat} : cPt g sd p k c (zcl g.board sd (nth g.kinds k).progs c).length = cCl g sd p k (c + 1) := by
 unfold cPt
 rw [List.drop_eq_nil_of_le (Nat.le_refl _)]
 rfl
def cDr (g : zad) (sd : Int) (p : zag) (c : Nat) : List zag := (((List.range p.at_.length).drop c).filter fun c => decide ((zak (nth p.at_ c)).2 = sd) && (nth g.kinds (zak (nth p.at_ c)).1.toNat).keep).map (zoj sd p)
theorem zxo (g : zad) (sd : Int) (p : zag) : cDr g sd p 0 = ziR g sd p := rfl
theorem cDr_go {g : zad} {sd : Int} {p : zag} {c : Nat} (h : c < p.at_.length) : cDr g sd p c = if (zak (nth p.at_ c)).2 = sd ∧ (nth g.kinds (zak (nth p.at_ c)).1.toNat).keep = true then zoj sd p c :: cDr g sd p (c + 1) else cDr g sd p (c + 1) := by
 unfold cDr
 rw [zf2 h, List.filter_cons]
 by_cases h1 : (zak (nth p.at_ c)).2 = sd ∧ (nth g.kinds (zak (nth p.at_ c)).1.toNat).keep = true
 ·rw [if_pos h1, if_pos (by simp [h1.1, h1.2])]
  rfl
 ·rw [if_neg h1, if_neg (by
   intro h2
   rw [Bool.and_eq_true, decide_eq_true_eq] at h2
   exact h1 h2)]
theorem zzI (g : zad) (sd : Int) (p : zag) : cDr g sd p p.at_.length = [] := by
 unfold cDr
 rw [List.drop_eq_nil_of_le (by simp)]
 rfl
theorem zuM (g : zad) (hg : GOk g) (p : zag) (hp : POk g p) (sd : Int) (hsd : sd = 0 ∨ sd = 1) :
  zlQ Tryz.prog 202 [.fp (zcZ (zeT g)), .fp [.v (.int .i64 sd)], .fp (zac p), .fp (zae g)] 0 ((zh0 g sd p ++ ziR g sd p).map zch) := by
 refine zAV (by kernel_rfl) Tryz.func202 rfl rfl (Nat.le_of_ble_eq_true rfl) (by kernel_rfl) (fun l => ?_) (hm2 := by decide)
 have hgh : ∀ (n : Nat) (L : List zag), Bel n (za2 l 0 (L.map zch)) = True := fun n (L : List zag) => eq_true zuC
 have hf := hp.fits hg
 have hal := hp.al
 have c9 := hg.c9
 have c1 := hg.c1
 have k6 := hg.k6
 obtain ⟨cn, hcn⟩ : ∃ cn : Nat, cn = g.cells.toNat := ⟨_, rfl⟩
 have hF := zvg hg
 have hegl : (zae g).length = 9 := rfl
 have hegk : cel (zae g) 3 = .lst 3 (g.kinds.map zaV) := rfl
 have hegb : ∀ n, (∀ c ∈ zae g, Bel n c) = True := fun n => by simp [go_sem]
 have hcl : (zcZ (zeT g)).length = 2 := rfl
 have hcs : cel ((zcZ (zeT g)).drop sd.toNat) 0 = zck (zcT g sd) := by rcases hsd with rfl | rfl <;> rfl
 have hsl : (zcT g sd).length = g.kinds.length := by
  rcases hsd with rfl | rfl
  ·exact hF.sh.l1
  ·exact hF.sh.l2
 have hz : zh0 g sd p ++ ziR g sd p = cKd g sd p 0 := rfl
 rw [hz]
 have hecb : ∀ n, (∀ c ∈ zcZ (zeT g), Bel n c) = True := fun n => by simp [go_sem]
 generalize zcZ (zeT g) = ec at *
 obtain ⟨ck, hck⟩ : ∃ ck : Nat → List (List AV), ∀ k, ck k = (nth (zcT g sd) k).map fun y => [zcB y] := ⟨_, fun _ => rfl⟩
 have hckl : ∀ k, k < g.kinds.length → (ck k).length = cn := fun k hk => by
  rw [hck, List.length_map]
  have hm : nth (zcT g sd) k ∈ (zeT g).1 ++ (zeT g).2 := by
   have := zaj (l := zcT g sd) (i := k) (by omega)
   rcases hsd with rfl | rfl
   ·exact List.mem_append_left _ this
   ·exact List.mem_append_right _ this
  rcases List.mem_append.1 hm with h | h
  ·have := hF.sh.c1 _ h; omega
  ·have := hF.sh.c2 _ h; omega
 have hckn : ∀ k, k < g.kinds.length → ∀ c, c < cn → nth (ck k) c = [.lst 2 ((zcl g.board sd (nth g.kinds k).progs c).map zaH)] := fun k hk c hc => by
  have h1 := hckl k hk
  rw [hck, List.length_map] at h1
  rw [hck, zcC _ _ _ (by omega), zwi _ _ hk (by omega)]
  rfl
 have hckb : ∀ k n, (∀ r ∈ ck k, ∀ c ∈ r, Bel n c) = True := fun k n => eq_true fun r hr c hc => by
  rw [hck] at hr
  obtain ⟨y, _, rfl⟩ := List.mem_map.1 hr
  simp only [List.mem_singleton] at hc
  subst hc
  simp [go_sem]
 have hsn : ∀ k, k < g.kinds.length → nth ((zcT g sd).map fun x => [zdr x]) k = [.lst 1 (ck k)] := fun k hk => by rw [hck]; exact zcC _ _ _ (by omega)
 have hsl2 : ((zcT g sd).map fun x => [zdr x]).length = g.kinds.length := by rw [List.length_map]; exact hsl
 obtain ⟨es, hes⟩ : ∃ es, es = (zcT g sd).map fun x => [zdr x] := ⟨_, rfl⟩
 have hcs' : cel (ec.drop sd.toNat) 0 = .lst 1 es := by rw [hcs, hes]; rfl
 have heb : ∀ n, (∀ r ∈ es, ∀ c ∈ r, Bel n c) = True := fun n => eq_true fun r hr c hc => by
  rw [hes] at hr
  obtain ⟨y, _, rfl⟩ := List.mem_map.1 hr
  simp only [List.mem_singleton] at hc
  subst hc
  simp [go_sem]
 rw [← hes] at hsn hsl2
 clear hcs hes hck hsl hF
 have hsd0 : 0 ≤ sd := by omega
 have hsd2 : sd < 2 := by omega
 have hsd3 : sd.toNat ≤ 2 := by omega
 repeat first|refine wV fun _=>?_|simp [go_sem, GH, hcl, hcs', hsl2]
 refine zAC (zAG (α := Nat) (fun k => ⟨[(2, .fp [.v (.int .i64 sd)]), (3, .fp (zac p)), (4, .fp (zae g)), (5, .ref 0 0 1 0 0), (24, .lst 1 es), (25, .v (.int .i64 g.kinds.length)), (26, .v (.int .i64 k)), (1000000007, za2 l 0 ((cKd g sd p k).map zch))], [(0, .rows true 0 1 [[.fn (.yield l) [] []]])], 1⟩)
  (fun d k => k + d = g.kinds.length) ?_ g.kinds.length 0 ?_) ?_ ?_
 ·rintro d k k1 hrec
  repeat first|refine wV fun _=>?_|simp [go_sem, GH, hsl2]
  refine zAE (fun hk => ?_) (fun hk => ?_) <;> simp at hk
  ·have hsnk := hsn k hk
   have hckl := hckl k hk
   have hckn := hckn k hk
   have hckb := hckb k
   generalize ck k = ce at *
   rw [cKd_go hk]
   repeat first|refine wV fun _=>?_|simp [go_sem, GH, hsl2, hk, hsnk, hckl]
   refine zAC (zAG (α := Nat) (fun c => ⟨[(2, .fp [.v (.int .i64 sd)]), (3, .fp (zac p)), (4, .fp (zae g)), (5, .ref 0 0 1 0 0), (6, .ref 1 0 1 0 0), (24, .lst 1 es), (25, .v (.int .i64 g.kinds.length)), (26, .v (.int .i64 k)), (31, .lst 1 ce), (32, .v (.int .i64 cn)), (33, .v (.int .i64 c)), (1000000007, za2 l 0 ((cCl g sd p k c).map zch))],
     [(0, .rows true 0 1 [[.fn (.yield l) [] []]]), (1, .rows true 0 1 [[.v (.int .i64 k)]])], 2⟩)
    (fun d c => c + d = cn) ?_ cn 0 ?_) ?_ ?_
   ·rintro d2 c c1' hrec2
    repeat first|refine wV fun _=>?_|simp [go_sem, GH, hckl]
    refine zAE (fun hc => ?_) (fun hc => ?_) <;> simp at hc
    ·have hcn2 := hckn c hc
     have hkm := zaj hk
     have hwok := zii hg (side := sd) hkm (cell := (c : Int)) ⟨by omega, by omega⟩
     have hlen := zjk hg sd hkm (c : Int)
     have hacl := zlf hg sd hkm (c : Int)
     have hmw : ∀ {i : Nat}, i < (zcl g.board sd (nth g.kinds k).progs c).length → nth (zcl g.board sd (nth g.kinds k).progs c) i ∈ zcl g.board sd (nth g.kinds k).progs c := fun h => zaj h
     have hpg := fun i h => cPt_go (g := g) (sd := sd) (p := p) (k := k) (c := c) (i := i) h
     have hpe := zzK (g := g) (sd := sd) (p := p) (k := k) (c := c)
     rw [cCl_go (by omega)]
     generalize zcl g.board sd (nth g.kinds k).progs c = pt at *
     repeat first|refine wV fun _=>?_|simp [go_sem, GH, hckl, hc, hcn2]
     refine zAC (zAG (α := Nat) (fun i => ⟨[(2, .fp [.v (.int .i64 sd)]), (3, .fp (zac p)), (4, .fp (zae g)), (5, .ref 0 0 1 0 0), (6, .ref 1 0 1 0 0), (8, .ref 2 0 1 0 0), (24, .lst 1 es), (25, .v (.int .i64 g.kinds.length)), (26, .v (.int .i64 k)), (31, .lst 1 ce), (32, .v (.int .i64 cn)), (33, .v (.int .i64 c)), (38, .lst 2 (pt.map zaH)), (39, .v (.int .i64 pt.length)), (40, .v (.int .i64 i)), (1000000007, za2 l 0 ((cPt g sd p k c i).map zch))],
       [(0, .rows true 0 1 [[.fn (.yield l) [] []]]), (1, .rows true 0 1 [[.v (.int .i64 k)]]), (2, .rows true 0 1 [[.v (.int .i64 c)]])], 3⟩)
      (fun d i => i + d = pt.length) ?_ pt.length 0 ?_) ?_ ?_
     ·rintro d3 i i1 hrec3
      repeat first|refine wV fun _=>?_|simp [go_sem, GH]
      refine zAE (fun hi => ?_) (fun hi => ?_) <;> simp at hi
      ·have hw := hwok _ (zaj hi)
       have hgi := zcC zaH pt i hi
       have hmw := hmw hi
       have hpg := hpg i hi
       unfold zh1 at hpg
       generalize nth pt i = w at *
       obtain ⟨hw1, hw2, hw3, hw4, hw5⟩ := hw
       have hto : w.to.toNat < p.at_.length := by omega
       have hto0 := hw1.1
       have hMa := zfd (nth p.at_ w.to.toNat)
       have hal2 : w.acts.length ≤ 1048576 := by have := hacl w hmw; omega
       have hW := zer p hf w.to 0 hto0 hto
       have hlf : POk g ⟨p.at_.set w.to.toNat 0, p.h0, p.h1, p.rights, sd⟩ := by
        have := hp.setAt w.to.toNat (v := 0) (by omega)
        exact ⟨this.al, this.av, this.h0, this.h1, this.r0, this.r1, hsd⟩
       generalize p.at_.set w.to.toNat 0 = A at *
       have hA : zgS Tryz.prog 204 [.agg (zae g), .agg (zac ⟨A, p.h0, p.h1, p.rights, sd⟩), zcp w.acts] (fun n => zj4 n) (fun n => zj5 g ⟨A, p.h0, p.h1, p.rights, sd⟩ w.acts n) 3 := zhT _ _ _
       have hS := zqB g hg w.acts.length w.acts _ rfl hal2 hlf hw2
       have hro := zmT hg hsd hlf (l := w.acts.reverse) (fun a ha => hw2 a (List.mem_reverse.1 ha))
       simp only [zj4, zj5] at hA
       simp only at hS
       repeat first|refine wV fun _=>?_|simp [go_sem, GH, hi, hgi, hto, hto0]
       refine zAD hMa (by simp [go_sem]) ?_
       generalize zak (nth p.at_ w.to.toNat) = m at *
       obtain ⟨m1, m2⟩ := m
       replace hpg : cPt g sd p k c i = (if m2 = sd then _ else _) ++ _ := hpg
       repeat first|refine wV fun _=>?_|simp [go_sem, GH]
       refine zAE (fun hne => ?_) (fun hne => ?_) <;> simp at hne
       ·rw [if_neg hne, List.nil_append] at hpg
        rw [hpg]
        repeat first|refine wV fun _=>?_|simp [go_sem, GH]
        refine zAC (hrec3 (d3 - 1) (by omega) (i + 1) (by omega)) ?_ (by simp)
        simp [go_sem, zaf, GH, hgh, heb, hckb]
       ·subst hne
        rw [if_pos rfl] at hpg
        obtain ⟨fF, hfF⟩ : ∃ fF : List zag → List zag, ∀ ys, fF ys = ((ys.filter fun q => decide (nth q.at_ c = 0)).map fun q => { q with at_ := q.at_.set c (zaL k m2) }) ++ cPt g m2 p k c (i + 1) := ⟨_, fun _ => rfl⟩
        rw [← hfF] at hpg
        rw [hpg]
        repeat first|refine wV fun _=>?_|simp [go_sem, GH, hto0]
        refine zAD hW (by simp [go_sem]) ?_
        repeat first|refine wV fun _=>?_|simp [go_sem, GH]
        refine zAH hA (by simp [go_sem]) ?_
        repeat first|refine wV fun _=>?_|simp [go_sem, GH]
        refine zdP.mk [.fp [zcp w.acts], .fp (zac ⟨A, p.h0, p.h1, p.rights, m2⟩), .fp (zae g)] (zbt _ [5, 6, 7]) hS (zcw _ _) ?_ (by simp [go_sem]) (fun xs hx => by obtain ⟨y, _, rfl⟩ := List.mem_map.1 hx; rfl) ?_
        ·refine zan.cons (.frzP rfl ?_ ?_ ?_ ?_) (zan.cons (.frzP rfl ?_ ?_ ?_ ?_) (zan.cons (.frzP rfl ?_ ?_ ?_ ?_) .nil)) <;> first | exact zan.refl _ _ _ _ | (simp [zbt, zbV, upd]; done)
        generalize zc8 g m2 ⟨A, p.h0, p.h1, p.rights, m2⟩ w.acts.reverse = ys at *
        clear hS
        refine Fgt.to (zAU (α := List zag) (fun ys => ([(2, .fp [.v (.int .i64 m2)]), (3, .fp (zac p)), (4, .fp (zae g)), (5, .ref 0 0 1 0 0), (6, .ref 1 0 1 0 0), (8, .ref 2 0 1 0 0), (24, .lst 1 es), (25, .v (.int .i64 g.kinds.length)), (26, .v (.int .i64 k)), (31, .lst 1 ce), (32, .v (.int .i64 cn)), (33, .v (.int .i64 c)), (38, .lst 2 (pt.map zaH)), (39, .v (.int .i64 pt.length)), (40, .v (.int .i64 i)), (1000000007, za2 l 0 ((fF ys).map zch))],
          [(0, .rows true 0 1 [[.fn (.yield l) [] []]]), (1, .rows true 0 1 [[.v (.int .i64 k)]]), (2, .rows true 0 1 [[.v (.int .i64 c)]])], 3))
         (fun rows ys => rows = ys.map zch ∧ ∀ q ∈ ys, POk g q) ?_ ?_ _ ys ⟨rfl, fun q hq => (hro q hq).1⟩) ?_ ?_
        ·rintro ys ⟨i1, i2⟩
         obtain rfl : ys = [] := by
          cases ys with
          | nil => rfl
          | cons => cases i1
         refine ⟨rfl, ?_⟩
         rw [show fF [] = cPt g m2 p k c (i + 1) from by rw [hfF]; rfl]
         repeat first|refine wV fun _=>?_|simp [go_sem, GH]
         refine zAC (hrec3 (d3 - 1) (by omega) (i + 1) (by omega)) ?_ (by simp)
         simp [go_sem, zaf, GH, hgh, heb, hckb]
        ·rintro xs rs ys ⟨i1, i2⟩ hrec4
         obtain ⟨y, ys, rfl⟩ : ∃ q t, ys = q :: t := by
          cases ys with
          | nil => cases i1
          | cons q t => exact ⟨q, t, rfl⟩
         rw [List.map_cons, List.cons.injEq] at i1
         obtain ⟨rfl, rfl⟩ := i1
         have hy := i2 y (by simp)
         have hyl := hy.al
         have hcy : c < y.at_.length := by omega
         have hCo := zdx k m2
         have hWy := zer y (hy.fits hg) c (zaL k m2) (by omega) (by rw [Int.toNat_natCast]; exact hcy)
         rw [Int.toNat_natCast] at hWy
         have hfy : fF (y :: ys) = if nth y.at_ c = 0 then { y with at_ := y.at_.set c (zaL k m2) } :: fF ys else fF ys := by
          rw [hfF, hfF, List.filter_cons]
          by_cases hz : nth y.at_ c = 0
          ·rw [if_pos hz, if_pos (by simpa using hz)]
           rfl
          ·rw [if_neg hz, if_neg (by simpa using hz)]
         obtain ⟨Y, hY⟩ : ∃ Y, Y = { y with at_ := y.at_.set c (zaL k m2) } := ⟨_, rfl⟩
         rw [← hY] at hWy hfy
         generalize zaL k m2 = cd at *
         refine zAY (Nat.zero_le _) ?_
         by_cases hz : nth y.at_ c = 0
         ·rw [if_pos hz] at hfy
          rw [hfy]
          (repeat (first|with_reducible (first|refine wL fun _=>?_|refine wD fun _=>?_|refine wE ?_)|simp [go_sem, GH, zch]))
          refine znm.split 14 ?_
          repeat first|refine wV fun _=>?_|simp [go_sem, GH, hcy, hz]
          refine zAO (.v (.int .i64 cd)) (fun _ => hCo) (by simp [go_sem]) ?_
          repeat first|refine wV fun _=>?_|simp [go_sem, GH, hcy]
          refine zAO (.agg (zac Y)) (fun _ => hWy) (by simp [go_sem]) ?_
          repeat first|refine wV fun _=>?_|simp [go_sem, GH]
          refine aGC.yld (more := 0) (xs := zch Y) (rs := (fF ys).map zch) _ (by simp [upd, GH, zch, zac, zap]) (.refl _) (.refl _ _ _ _) (by simp [go_sem, zch]) ?_ ?_
          ·repeat first|refine wV fun _=>?_|simp [go_sem, GH]
           refine Fgt.to (hrec4 ys ⟨rfl, fun z hz => i2 z (by simp [hz])⟩) ?_ (by simp)
           simp [go_sem, zaf, GH, hgh, heb, hckb]
          ·repeat first|refine wV fun _=>?_|simp [go_sem, GH]
         ·rw [if_neg hz] at hfy
          rw [hfy]
          (repeat (first|with_reducible (first|refine wL fun _=>?_|refine wD fun _=>?_|refine wE ?_)|simp [go_sem, GH, zch]))
          refine znm.split 14 ?_
          repeat first|refine wV fun _=>?_|simp [go_sem, GH, hcy, hz]
          refine zAO (.v (.int .i64 cd)) (fun _ => hCo) (by simp [go_sem]) ?_
          repeat first|refine wV fun _=>?_|simp [go_sem, GH, hcy]
          refine zAO (.agg (zac Y)) (fun h => by cases h) (by simp [go_sem]) ?_
          repeat first|refine wV fun _=>?_|simp [go_sem, GH]
          refine aGC.skip (.v (.bool true)) ?_
          repeat first|refine wV fun _=>?_|simp [go_sem, GH]
          refine Fgt.to (hrec4 ys ⟨rfl, fun z hz => i2 z (by simp [hz])⟩) ?_ (by simp)
          simp [go_sem, zaf, GH, hgh, heb, hckb]
        ·simp [go_sem, zaf, GH, hgh, heb, hckb]
        ·simp
      ·obtain rfl : i = pt.length := by omega
       rw [hpe]
       repeat first|refine wV fun _=>?_|simp [go_sem, GH]
       refine zAC (hrec2 (d2 - 1) (by omega) (c + 1) (by omega)) ?_ (by simp)
       simp [go_sem, zaf, GH, hgh, heb, hckb]
     ·omega
     ·simp [go_sem, zaf, GH, hgh, heb, hckb]
     ·simp
    ·obtain rfl : c = cn := by omega
     rw [hcn, zzH]
     repeat first|refine wV fun _=>?_|simp [go_sem, GH]
     refine zAC (hrec (d - 1) (by omega) (k + 1) (by omega)) ?_ (by simp)
     simp [go_sem, zaf, GH, hgh, heb]
   ·omega
   ·simp [go_sem, zaf, GH, hgh, heb, hckb]
   ·simp
  ·obtain rfl : k = g.kinds.length := by omega
   rw [zzJ, ← zxo]
   clear hrec heb hckb hckn hckl hsn hsl2 hcs'
   repeat first|refine wV fun _=>?_|simp [go_sem, GH]
   refine zAC (zAG (α := Nat) (fun c => ⟨[(2, .fp [.v (.int .i64 sd)]), (3, .fp (zac p)), (4, .fp (zae g)), (5, .ref 0 0 1 0 0), (90, zap p.at_), (91, .v (.int .i64 p.at_.length)), (92, .v (.int .i64 c)), (1000000007, za2 l 0 ((cDr g sd p c).map zch))], [(0, .rows true 0 1 [[.fn (.yield l) [] []]])], 1⟩)
    (fun d c => c + d = p.at_.length) ?_ p.at_.length 0 ?_) ?_ ?_
   ·rintro d c c1' hrec
    repeat first|refine wV fun _=>?_|simp [go_sem, GH]
    refine zAE (fun hc => ?_) (fun hc => ?_) <;> simp at hc
    ·have hgo := cDr_go (g := g) (sd := sd) (p := p) hc
     have hv := hp.at (i := c) (by omega)
     have hman := zaR hv.1 hv.2 k6
     have hMa := zfd (nth p.at_ c)
     have hW := zer p hf c 0 (by omega) (by rw [Int.toNat_natCast]; exact hc)
     rw [Int.toNat_natCast] at hW
     have hlp : zoj sd p c = { (({ p with at_ := p.at_.set c 0 } : zag).withHand sd ((p.hand sd).set (zak (nth p.at_ c)).1.toNat (nth (p.hand sd) (zak (nth p.at_ c)).1.toNat + 1))) with side := sd } := by
      rcases hsd with rfl | rfl <;> rfl
     rw [hlp] at hgo
     clear hlp
     have hfA : zaK { p with at_ := p.at_.set c 0 } := ⟨by simpa [zeY] using hf.1, hf.2⟩
     have hCt := fun (kd : Int) h0 h1 h2 => zkW { p with at_ := p.at_.set c 0 } hfA sd kd 1 hsd h0 h1 h2
     generalize p.at_.set c 0 = A at *
     generalize zak (nth p.at_ c) = m at *
     obtain ⟨m1, m2⟩ := m
     repeat first|refine wV fun _=>?_|simp [go_sem, GH, hc]
     refine zAD hMa (by simp [go_sem]) ?_
     replace hgo : cDr g sd p c = if m2 = sd ∧ (nth g.kinds m1.toNat).keep = true then _ else _ := hgo
     by_cases hms : m2 = sd
     ·subst hms
      simp only [Prod.mk.injEq] at hman
      obtain ⟨hm0, hmk⟩ : 0 ≤ m1 ∧ m1 < g.kinds.length := by omega
      have hmk' : m1.toNat < g.kinds.length := by omega
      have hgk : nth (g.kinds.map zaV) m1.toNat = zaV (nth g.kinds m1.toNat) := zcC _ _ _ hmk'
      by_cases hkp : (nth g.kinds m1.toNat).keep = true
      ·rw [if_pos ⟨rfl, hkp⟩] at hgo
       have hhl := (hp.hand m2).len
       have hhv := (hp.hand m2).v m1.toNat (by omega)
       have hCt := hCt m1 hm0 (by show m1.toNat < (p.hand m2).length; omega) (by
        show -1000 ≤ nth (p.hand m2) m1.toNat + 1 ∧ nth (p.hand m2) m1.toNat + 1 ≤ 1000
        omega)
       obtain ⟨Q, hQ⟩ : ∃ Q, Q = (⟨A, p.h0, p.h1, p.rights, p.side⟩ : zag).withHand m2 ((p.hand m2).set m1.toNat (nth (p.hand m2) m1.toNat + 1)) := ⟨_, rfl⟩
       rw [← hQ] at hgo
       replace hCt : zaP Tryz.prog 205 [.agg (zac ⟨A, p.h0, p.h1, p.rights, p.side⟩), .v (.int .i64 m2), .v (.int .i64 m1), .v (.int .i64 1)] (.agg (zac Q)) := by rw [hQ]; exact hCt
       rw [hgo]
       repeat first|refine wV fun _=>?_|simp [go_sem, GH, hm0, hmk', hgk, hkp]
       refine zAF hW (by simp [go_sem]) ?_
       repeat first|refine wV fun _=>?_|simp [go_sem, GH]
       refine zAF hCt (by simp [go_sem]) ?_
       repeat first|refine wV fun _=>?_|simp [go_sem, GH]
       refine zoP.mk (more := 0) (xs := zch { Q with side := m2 }) (rs := (cDr g m2 p (c + 1)).map zch) _ (by simp [upd, GH]) (.refl _) (.refl _ _ _ _) (by simp [go_sem, zch]) ?_ ?_
       ·repeat first|refine wV fun _=>?_|simp [go_sem, GH]
        refine zAC (hrec (d - 1) (by omega) (c + 1) (by omega)) ?_ (by simp)
        simp [go_sem, zaf, GH, hgh]
       ·repeat first|refine wV fun _=>?_|simp [go_sem, GH]
      ·rw [if_neg (fun h => hkp h.2)] at hgo
       rw [hgo]
       repeat first|refine wV fun _=>?_|simp [go_sem, GH, hm0, hmk', hgk, hkp]
       refine zAC (hrec (d - 1) (by omega) (c + 1) (by omega)) ?_ (by simp)
       simp [go_sem, zaf, GH, hgh]
     ·rw [if_neg (fun h => hms h.1)] at hgo
      rw [hgo]
      simp only [Prod.mk.injEq] at hman
      have hmk' : m1.toNat < g.kinds.length := by have := hg.k1; omega
      have hgk : nth (g.kinds.map zaV) m1.toNat = zaV (nth g.kinds m1.toNat) := zcC _ _ _ hmk'
      repeat first|refine wV fun _=>?_|simp [go_sem, GH, hms, hgk]
      refine zAC (hrec (d - 1) (by omega) (c + 1) (by omega)) ?_ (by simp)
      simp [go_sem, zaf, GH, hgh]
    ·obtain rfl : c = p.at_.length := by omega
     rw [zzI]
     repeat first|refine wV fun _=>?_|simp [go_sem, GH]
   ·omega
   ·simp [go_sem, zaf, GH, hgh]
   ·simp
 ·omega
 ·simp [go_sem, zaf, GH, hgh, heb]
 ·simp
theorem zlI {α : Type} [Inhabited α] {l : List α} {i : Nat} (h : i < l.length) : l.take (i + 1) = l.take i ++ [nth l i] := by
 rw [List.take_add_one, List.getElem?_eq_getElem h, zau _ _ h]; rfl
theorem zka (l : List zag) (hl : l.length ≤ 17179869184) (f : FuncId) (caps : List AV) (C : zlQ Tryz.prog f caps 0 (l.map zch)) (hb' : ∀ c ∈ caps, Bel 0 c) :
  zaP Tryz.prog 201 [zAI, .fn (.func f) [] caps] (zaI l) := by
 refine pF Tryz.func201 ?_
 have hbn : ∀ n, (∀ c ∈ caps, Bel n c) = True := fun n => eq_true fun c hc => (hb' c hc).mono (Nat.zero_le n)
 obtain ⟨tk, htk⟩ : ∃ tk : Nat → List zag, ∀ k, tk k = l.take k := ⟨_, fun _ => rfl⟩
 have htl : ∀ k, k ≤ l.length → (tk k).length = k := fun k hk => by rw [htk]; simp; omega
 have hts : ∀ k, k < l.length → tk (k + 1) = tk k ++ [nth l k] := fun k hk => by rw [htk, htk]; exact zlI hk
 have ht0 : tk 0 = [] := by rw [htk]; rfl
 have hta : tk l.length = l := by rw [htk, List.take_length]
 clear htk
 repeat first|refine wV fun _=>?_|simp [go_sem, GH]
 refine zdP.mk caps _ C (.refl _) (.refl _ _ _ _) hb' (fun xs hx => by obtain ⟨y, _, rfl⟩ := List.mem_map.1 hx; rfl) ?_
 refine Fgt.to (zAU (α := Nat) (fun k => ([(2, .ref 0 0 1 0 0)], [(0, .rows true 0 1 [[.sl 1 k 5 0 k]]), (1, .rows true k 5 ((tk k).map zac))], 2))
  (fun rows k => rows = (l.drop k).map zch ∧ k ≤ l.length) ?_ ?_ _ 0 ?_) ?_ ?_
 ·rintro k ⟨i1, i2⟩
  have hk : k = l.length := by
   have := congrArg List.length i1
   simp at this
   omega
  subst hk
  refine ⟨rfl, ?_⟩
  rw [hta]
  repeat first|refine wV fun _=>?_|simp [go_sem, GH]
  exact frX
 ·rintro xs rs k ⟨i1, i2⟩ hrec
  have hk : k < l.length := by
   have := congrArg List.length i1
   simp at this
   omega
  rw [zaQ hk, List.map_cons, List.cons.injEq] at i1
  obtain ⟨rfl, rfl⟩ := i1
  have hts := hts k hk
  have hkl := htl k i2
  generalize hrs : (l.drop (k + 1)).map zch = rs at *
  refine zAY (Nat.zero_le _) ?_
  repeat first|refine wV fun _=>?_|simp [go_sem, GH, zch, hkl]
  refine Fgt.to (hrec (k + 1) ⟨hrs.symm, by omega⟩) ?_ (by simp)
  simp [go_sem, zaf, GH, hts, hkl]
 ·exact ⟨by simp, by omega⟩
 ·simp [go_sem, zaf, GH, ht0]
 ·simp
theorem zm3 (l : List zag) (hl : l.length ≤ 17179869184) (f : FuncId) (caps : List AV) (C : zlQ Tryz.prog f caps 0 (l.map zch)) (hb' : ∀ c ∈ caps, Bel 0 c) :
  zaP Tryz.prog 151 [.fn (.func f) [] caps] (zaI l) := by
 refine pF Tryz.func151 ?_
 have hA := zka l hl f caps C hb'
 have hbn : ∀ n, (∀ c ∈ caps, Bel n c) = True := fun n => eq_true fun c hc => (hb' c hc).mono (Nat.zero_le n)
 repeat first|refine wV fun _=>?_|simp [go_sem]
 refine zAD hA (by simp [go_sem, hbn]) ?_
 repeat first|refine wV fun _=>?_|simp [go_sem]
theorem SzP.fits {g : zad} (hg : GOk g) {q : zag} (h : SzP g q) : zaK q := by
 have := hg.c9
 have := hg.k6
 obtain ⟨h1, h2, h3⟩ := h
 refine ⟨?_, ?_, ?_⟩ <;> unfold zeY <;> omega
theorem zpK (g : zad) (hg : GOk g) (hs : zfu g) (p : zag) (hp : POk g p) : zaP Tryz.prog 100 [.agg (zae g), .agg (zcZ (zeT g)), .agg (zac p)] (.tup [zaI (zkq g p).1, .v (.int .i64 (zkq g p).2)]) := by
 refine pF Tryz.func100 ?_
 have hO : zgS Tryz.prog 152 [.agg (zae g), .agg (zcZ (zeT g)), .agg (zac p)] (fun n => znD n) (fun n => [(n, .rows true 0 9 [zae g]), (n + 1, .rows true 0 2 [zcZ (zeT g)]), (n + 2, .rows true 0 5 [zac p]), (n + 3, .rows true 0 1 [[.v (.int .i64 (1 - p.side))]])]) 4 := zsl g (zeT g) p hp.s
 simp only [znD] at hO
 have hQ := zuM g hg p hp (1 - p.side) (by have := hp.s; omega)
 change zlQ _ _ _ _ ((zdb g p).map zch) at hQ
 have hcl := zsk hg hs hp
 have hsz := (zxr hg hp).1
 have hCo := zm3 (zdb g p) (by omega) _ _ hQ (by simp [go_sem])
 have hSo := zc3 (zdb g p) (by omega) (fun q hq => (hsz q hq).fits hg)
 have hsl : (zaU za7 (zdb g p)).length ≤ 35831817 := Nat.le_trans (zda _ _) hcl
 have hszS : ∀ q ∈ zaU za7 (zdb g p), zaK q := fun q hq => (hsz q (zaS.1 hq)).fits hg
 have hall := zxg g p
 have hbs := fun i h => zut (g := g) (p := p) (l := zaU za7 (zdb g p)) (i := i) h
 have hb0 := zuu g p (zaU za7 (zdb g p))
 have hbl := zxh g p (zaU za7 (zdb g p))
 have hV := fun q hq => zkL g (by have := hg.k6; unfold zgU; omega) ⟨hg.r0, by have := hg.r4; omega⟩ q (hszS q hq)
 have hL := fun q (hq : zfi g q = true) => zkH g hg q (zmM.1 hq) p (hp.fits hg)
 have hBe : zkq g p = if 4000 < (zcj g p).length then ([], 2) else (zcj g p, 0) := rfl
 rw [← hall] at hBe
 rw [hBe]
 clear hall hBe hsz
 generalize zus g p (zaU za7 (zdb g p)) = bI at *
 generalize zaU za7 (zdb g p) = S at *
 repeat first|refine wV fun _=>?_|simp [go_sem]
 refine zAH hO (by simp [go_sem]) ?_
 repeat first|refine wV fun _=>?_|simp [go_sem]
 refine zAL [3, 4, 5, 6] hCo ?_ (by simp [go_sem]) ?_
 ·refine zan.cons (.fn .nil (zan.cons (.frzP rfl ?_ ?_ ?_ ?_) (zan.cons (.frzP rfl ?_ ?_ ?_ ?_) (zan.cons (.frzP rfl ?_ ?_ ?_ ?_) (zan.cons (.frzP rfl ?_ ?_ ?_ ?_) .nil))))) .nil <;> first | exact zan.refl _ _ _ _ | (simp [zbt, zbV, upd]; done)
 repeat first|refine wV fun _=>?_|simp [go_sem]
 refine zAD hSo (by simp [go_sem]) ?_
 repeat first|refine wV fun _=>?_|simp [go_sem]
 refine zAC (zAG (α := Nat) (fun i => ⟨[(3, .ref 0 0 9 0 0), (5, .ref 2 0 5 0 0), (8, .sl 7 (bI i).length 5 0 (bI i).length), (16, zaI S), (17, .v (.int .i64 S.length)), (18, .v (.int .i64 i))], [(0, .rows true 0 9 [zae g]), (2, .rows true 0 5 [zac p]), (7, .rows true (bI i).length 5 ((bI i).map zac))], 8⟩)
  (fun d i => i + d = S.length) ?_ S.length 0 ?_) ?_ ?_
 ·rintro d i i1 hrec
  have hbli := hbl i
  repeat first|refine wV fun _=>?_|simp [go_sem]
  refine zAE (fun hi => ?_) (fun hi => ?_) <;> simp at hi
  ·have hVi := hV _ (zaj hi)
   have hLi := hL (nth S i)
   have hbs := hbs i hi
   have hbls := hbl (i + 1)
   have hgi := zcC zac S i hi
   generalize nth S i = q at *
   generalize hok : zfi g q = ok at *
   repeat first|refine wV fun _=>?_|simp [go_sem, hi, hgi]
   refine zAD hVi (by simp [go_sem]) ?_
   repeat first|refine wV fun _=>?_|simp [go_sem]
   refine zAS (.v (.bool (decide (p ∈ zaC g q)))) (fun h => hLi h) (by simp [go_sem]) ?_
   by_cases hm : p ∈ zaC g q
   ·cases ok
    ·rw [if_neg (by simp)] at hbs
     repeat first|refine wV fun _=>?_|simp [go_sem, hm]
     refine zAC (hrec (d - 1) (by omega) (i + 1) (by omega)) ?_ (by simp)
     simp [go_sem, zaf, hbs]
    ·rw [if_pos ⟨rfl, hm⟩] at hbs
     repeat first|refine wV fun _=>?_|simp [go_sem, hm]
     refine zAC (hrec (d - 1) (by omega) (i + 1) (by omega)) ?_ (by simp)
     simp [go_sem, zaf, hbs]
   ·rw [if_neg (fun h => hm h.2)] at hbs
    cases ok
    ·repeat first|refine wV fun _=>?_|simp [go_sem, hm]
     refine zAC (hrec (d - 1) (by omega) (i + 1) (by omega)) ?_ (by simp)
     simp [go_sem, zaf, hbs]
    ·repeat first|refine wV fun _=>?_|simp [go_sem, hm]
     refine zAC (hrec (d - 1) (by omega) (i + 1) (by omega)) ?_ (by simp)
     simp [go_sem, zaf, hbs]
  ·obtain rfl : i = S.length := by omega
   generalize bI S.length = bl at *
   repeat first|refine wV fun _=>?_|simp [go_sem]
   refine zAE (fun hbig => ?_) (fun hbig => ?_) <;> simp at hbig
   ·rw [if_pos (by omega)]
    repeat first|refine wV fun _=>?_|simp [go_sem]
   ·rw [if_neg (by omega)]
    repeat first|refine wV fun _=>?_|simp [go_sem]
    exact frX
 ·omega
 ·simp [go_sem, zaf, hb0]
 ·simp
theorem ztL (g : zad) (hg : GOk g) (hs : zfu g) (p : zag) (hp : POk g p) : zaP Tryz.prog 47 [.agg (zae g), .agg (zac p)] (.tup [zaI (zkq g p).1, .v (.int .i64 (zkq g p).2)]) := by
 refine pF Tryz.func47 ?_
 have hC := zm4 g hg
 have hB := zpK g hg hs p hp
 generalize zkq g p = v at *
 generalize zeT g = cd at *
 repeat first|refine wV fun _=>?_|simp [go_sem]
 refine zAF hC (by simp [go_sem]) ?_
 repeat first|refine wV fun _=>?_|simp [go_sem]
 refine zAF hB (by simp [go_sem]) ?_
 repeat first|refine wV fun _=>?_|simp [go_sem]
theorem zz1 {l m : List zag} (hl : Inc l) (hm : Inc m) (h : ∀ q, q ∈ l ↔ q ∈ m) : l = m := by
 rw [← ztu hl]
 exact zbo zaM hm h
theorem zvu {g : zad} (hg : GOk g) {s p : zag} (hs : POk g s) {n : Int} (hf : zdF (zba g s n) = true) (hp : p ∈ zcs g s n) :
  (zeU g s p n).1 = (zcj g p).filter fun q => decide (q ∈ zcs g s n) := by
 unfold zeU
 rw [if_neg (by simp [hf]), if_pos hp]
 refine zz1 (List.Pairwise.filter _ (zoH g s n)) (List.Pairwise.filter _ (zpJ g p)) fun q => ?_
 rw [List.mem_filter, List.mem_filter, zjt hg]
 simp only [decide_eq_true_eq]
 exact ⟨fun ⟨h1, h2⟩ => ⟨⟨zl5 hg hs n q (zaS.1 h1), h2⟩, h1⟩, fun ⟨⟨_, h2⟩, h1⟩ => ⟨h1, h2⟩⟩
theorem zlP (x : zlV) (hx : zeM x) (a b : Int) (ha : U8 a) (hb : U8 b) :
  zaP Tryz.prog 11 [.agg (zdD x), .agg [.v (.int .u8 a), .v (.int .u8 b)]] (.v (.bool true)) := by
 refine pF Tryz.func11 ?_
 have hM := zoV x hx a b ha hb
 have hg := zeD hx
 have hs := zhs hx
 have hp := zyj hx a hb.1
 have hos : zfu (zbD x) := zqd x.g
 obtain ⟨er, her⟩ : ∃ er, er = zdD x := ⟨_, rfl⟩
 have herl : er.length = 31 := by rw [her]; exact zyo hx
 have herb : ∀ n, (∀ c ∈ er, Bel n c) = True := fun n => by rw [her]; exact zyn hx n
 rw [← her] at hM ⊢
 generalize zbD x = g at *
 generalize zc6 x = s at *
 generalize zv2 x a b = p at *
 have hS := zmP
 have hfp := hp.fits hg
 have hSm := zoI g hg s hs p
 have F2 := zdR g hg s hs p hfp 250
 have hB := ztL g hg hos p hp
 have hSe := ziD g hg s hs 250
 have hsl := zhp hg hs 250
 have hso := zjQ hg hs 250
 have hHa := fun q (hq : zaK q) => zru (zcs g s 250) q (by omega) (fun z hz => (hso z hz).fits hg) hq
 have hbo : ∀ q ∈ zcj g p, POk g q := fun q hq => zse hg hq
 have hE : zdF (zba g s 250) = true → (p ∈ zcs g s 250 ∧ zeU g s p 250 = ((zcj g p).filter fun q => decide (q ∈ zcs g s 250), 0)) ∨ (p ∉ zcs g s 250 ∧ zeU g s p 250 = ([], 270)) := fun h => by
  by_cases hin : p ∈ zcs g s 250
  ·refine .inl ⟨hin, Prod.ext (zvu hg hs h hin) ?_⟩
   unfold zeU
   rw [if_neg (by rw [h]; simp), if_pos hin]
  ·refine .inr ⟨hin, ?_⟩
   unfold zeU
   rw [if_neg (by rw [h]; simp), if_neg hin]
 have hbv : zkq g p = ([], 2) ∨ (zcj g p).length ≤ 4000 ∧ zkq g p = (zcj g p, 0) := by
  unfold zkq
  split
  ·exact .inl rfl
  ·exact .inr ⟨by omega, rfl⟩
 generalize zcs g s 250 = Z at *
 generalize zeU g s p 250 = V at *
 generalize zdF (zba g s 250) = fu at *
 generalize zkq g p = B at *
 obtain ⟨M, hMd⟩ : ∃ M, M = zcj g p := ⟨_, rfl⟩
 rw [← hMd] at hE hbv hbo
 have hfl : ∀ i, i < M.length → (M.take (i + 1)).filter (fun q => decide (q ∈ Z)) = if nth M i ∈ Z then (M.take i).filter (fun q => decide (q ∈ Z)) ++ [nth M i] else (M.take i).filter (fun q => decide (q ∈ Z)) := fun i hi => by
  rw [zlI hi, List.filter_append, List.filter_cons, List.filter_nil]
  by_cases h : nth M i ∈ Z
  ·rw [if_pos h, if_pos (decide_eq_true h)]
  ·rw [if_neg h, if_neg (by simp [h]), List.append_nil]
 obtain ⟨F, hF⟩ : ∃ F : Nat → List zag, ∀ i, F i = (M.take i).filter (fun q => decide (q ∈ Z)) := ⟨_, fun _ => rfl⟩
 simp only [← hF] at hfl
 have hF0 : F 0 = [] := by rw [hF]; rfl
 have hFa : F M.length = M.filter (fun q => decide (q ∈ Z)) := by rw [hF, List.take_length]
 have hFl : ∀ i, (F i).length ≤ M.length := fun i => by
  rw [hF]
  refine Nat.le_trans (List.length_filter_le _ _) ?_
  rw [List.length_take]; omega
 have hFo : ∀ i, ∀ q ∈ F i, zaK q := fun i q hq => by
  rw [hF, List.mem_filter] at hq
  exact (hbo q (List.mem_of_mem_take hq.1)).fits hg
 rw [← hFa] at hE
 clear hF hFa
 simp only [zaY] at F2
 repeat first|refine wV fun _=>?_|simp [go_sem, herl]
 refine zAD hS (by simp [go_sem]) ?_
 repeat first|refine wV fun _=>?_|simp [go_sem, herl]
 refine zAD hM (by simp [go_sem, herb]) ?_
 repeat first|refine wV fun _=>?_|simp [go_sem, herl]
 (first | refine zAD (hSm) (by simp [go_sem]) ?_ | refine zAS _ (fun _ => hSm) (by simp [go_sem]) ?_ | ((try ((with_reducible refine wZ ?_); (try simp [go_sem]))); first | refine zAF (hSm) (by simp [go_sem]) ?_ | refine zAO _ (fun _ => hSm) (by simp [go_sem]) ?_))
 cases fu
 ·repeat first|refine wV fun _=>?_|simp [go_sem]
 ·have hE := hE rfl
  repeat first|refine wV fun _=>?_|simp [go_sem]
  (first | refine zAD (F2) (by simp [go_sem]) ?_ | refine zAS _ (fun _ => F2) (by simp [go_sem]) ?_ | ((try ((with_reducible refine wZ ?_); (try simp [go_sem]))); first | refine zAF (F2) (by simp [go_sem]) ?_ | refine zAO _ (fun _ => F2) (by simp [go_sem]) ?_))
  repeat first|refine wV fun _=>?_|simp [go_sem]
  (first | refine zAD (hB) (by simp [go_sem]) ?_ | refine zAS _ (fun _ => hB) (by simp [go_sem]) ?_ | ((try ((with_reducible refine wZ ?_); (try simp [go_sem]))); first | refine zAF (hB) (by simp [go_sem]) ?_ | refine zAO _ (fun _ => hB) (by simp [go_sem]) ?_))
  repeat first|refine wV fun _=>?_|simp [go_sem]
  (first | refine zAD (hSe) (by simp [go_sem]) ?_ | refine zAS _ (fun _ => hSe) (by simp [go_sem]) ?_ | ((try ((with_reducible refine wZ ?_); (try simp [go_sem]))); first | refine zAF (hSe) (by simp [go_sem]) ?_ | refine zAO _ (fun _ => hSe) (by simp [go_sem]) ?_))
  rcases hbv with rfl | ⟨hl4, rfl⟩
  ·repeat first|refine wV fun _=>?_|simp [go_sem]
  ·have hHp := hHa p hfp
   rcases hE with ⟨hin, rfl⟩ | ⟨hin, rfl⟩
   ·rw [decide_eq_true hin] at hHp
    repeat first|refine wV fun _=>?_|simp [go_sem]
    refine zAO _ (fun _ => hHp) (by simp [go_sem]) ?_
    repeat first|refine wV fun _=>?_|simp [go_sem]
    refine zAC (zAG (α := Nat) (fun i => ⟨[(5, .v (.bool true)), (7, .ref 3 0 2 0 0), (8, zaI M), (10, zaI Z), (12, .sl 16 (F i).length 5 0 (F i).length), (13, .v (.int .i64 i))], [(3, .rows true 0 2 [[zaI (F M.length), .v (.int .i64 0)]]), (16, .rows true (F i).length 5 ((F i).map zac))], 17⟩)
     (fun d i => i + d = M.length) ?_ M.length 0 ?_) ?_ ?_
    ·rintro d i i1 hrec
     have hFi := hFl i
     repeat first|refine wV fun _=>?_|simp [go_sem]
     refine zAE (fun hi => ?_) (fun hi => ?_) <;> simp at hi
     ·have hgi := zcC zac M i hi
      have hHq := hHa _ ((hbo _ (zaj hi)).fits hg)
      have hfl := hfl i hi
      generalize nth M i = q at *
      by_cases hz : q ∈ Z
      ·rw [if_pos hz] at hfl
       rw [decide_eq_true hz] at hHq
       repeat first|refine wV fun _=>?_|simp [go_sem, hi, hgi]
       (first | refine zAD (hHq) (by simp [go_sem]) ?_ | refine zAS _ (fun _ => hHq) (by simp [go_sem]) ?_ | ((try ((with_reducible refine wZ ?_); (try simp [go_sem]))); first | refine zAF (hHq) (by simp [go_sem]) ?_ | refine zAO _ (fun _ => hHq) (by simp [go_sem]) ?_))
       repeat first|refine wV fun _=>?_|simp [go_sem, hi, hgi]
       refine zAC (hrec (d - 1) (by omega) (i + 1) (by omega)) ?_ (by simp)
       simp [go_sem, zaf, hfl]
      ·rw [if_neg hz] at hfl
       rw [decide_eq_false hz] at hHq
       repeat first|refine wV fun _=>?_|simp [go_sem, hi, hgi]
       (first | refine zAD (hHq) (by simp [go_sem]) ?_ | refine zAS _ (fun _ => hHq) (by simp [go_sem]) ?_ | ((try ((with_reducible refine wZ ?_); (try simp [go_sem]))); first | refine zAF (hHq) (by simp [go_sem]) ?_ | refine zAO _ (fun _ => hHq) (by simp [go_sem]) ?_))
       repeat first|refine wV fun _=>?_|simp [go_sem, hi, hgi]
       refine zAC (hrec (d - 1) (by omega) (i + 1) (by omega)) ?_ (by simp)
       simp [go_sem, zaf, hfl]
     ·obtain rfl : i = M.length := by omega
      have hSL := zfL (F M.length) (F M.length) (by omega) (by omega) (hFo _) (hFo _)
      rw [decide_eq_true rfl] at hSL
      generalize F M.length = R at *
      repeat first|refine wV fun _=>?_|simp [go_sem]
      refine zAL [16] hSL ?_ (by simp [go_sem]) ?_
      ·(first|done|exact agX)
      repeat first|refine wV fun _=>?_|simp [go_sem]
    ·omega
    ·simp [go_sem, zaf, hF0]
    ·simp
   ·rw [decide_eq_false hin] at hHp
    repeat first|refine wV fun _=>?_|simp [go_sem]
    refine zAO _ (fun _ => hHp) (by simp [go_sem]) ?_
    repeat first|refine wV fun _=>?_|simp [go_sem]
theorem zyD {P : Program} {t : TypeId} {fn : Fn} {first caps : Array Value} {l : List UInt8} (hl : l ≠ []) (h : funcToken P (t, .func fn first caps) = l) :
  ∃ f F, fn = .func f ∧ first = #[] ∧ caps = #[] ∧ P.funcs[f]? = some F ∧ P.funcNamed F.name = some f ∧ F.name.toUTF8.data.toList = l := by
 unfold funcToken at h
 cases fn with
 | func f =>
  simp only at h
  split at h
  ·rename_i hc
   simp only [Bool.and_eq_true, Array.isEmpty_iff] at hc
   split at h
   ·rename_i F hF
    split at h
    ·rename_i hn
     exact ⟨f, F, rfl, hc.1, hc.2, hF, by simpa using hn, h⟩
    ·exact absurd h.symm hl
   ·exact absurd h.symm hl
  ·exact absurd h.symm hl
 | _ => exact absurd h.symm hl
theorem zqA {P : Program} {w : World} {sp : Nat → Bool} {fuel : Nat} {e : TypeId} {d : TypeDesc} {v : Value} {l : List UInt8} {q : List MemPlace} (hd : P.underlying e = some d) (hf : ∃ a b c, d = .func a b c) (h : DataW.trod (funcToken P) P w 0 sp true fuel e [v] = some (.held l, q)) :
  ∃ fn first caps, v = .func fn first caps ∧ funcToken P (e, .func fn first caps) = l := by
 obtain ⟨a, b, c, rfl⟩ := hf
 cases fuel with
 | zero => simp [DataW.trod] at h
 | succ fuel =>
  simp only [DataW.trod, hd] at h
  cases v <;> simp at h
  exact ⟨_, _, _, rfl, h.1⟩
theorem zwv {P : Program} {w : World} {sp : Nat → Bool} {fuel : Nat} {e : TypeId} {d : TypeDesc} {v : Value} {q : List MemPlace} (hd : P.underlying e = some d) (hf : ∃ a b c, d = .func a b c) (h : DataW.trod (funcToken P) P w 0 sp true fuel e [v] = some (.nil, q)) : v = .nilFunc := by
 obtain ⟨a, b, c, rfl⟩ := hf
 cases fuel with
 | zero => simp [DataW.trod] at h
 | succ fuel =>
  simp only [DataW.trod, hd] at h
  cases v <;> simp at h
  rfl
theorem zsi {a b : String} (h : a.toUTF8.data.toList = b.toUTF8.data.toList) : a = b := by
 have h1 : a.toUTF8 = b.toUTF8 := ByteArray.ext (Array.toList_inj.1 h)
 exact String.toByteArray_inj.1 h1
theorem zmw {n : String} {k : FuncId} {l : List UInt8} {t : TypeId} {fn : Fn} {first caps : Array Value} (hk : Tryz.prog.funcNamed n = some k) (hl : n.toUTF8.data.toList = l) (hne : l ≠ []) (h : funcToken Tryz.prog (t, .func fn first caps) = l) : fn = .func k ∧ first = #[] ∧ caps = #[] := by
 obtain ⟨f, F, h1, h2, h3, h4, h5, h6⟩ := zyD hne h
 have e : F.name = n := zsi (h6.trans hl.symm)
 rw [e, hk] at h5
 cases h5
 exact ⟨h1, h2, h3⟩
def zq1 : DataW Unit := .agg [.nil, .iface "func" (.lit (.string [115, 107, 101, 119, 101, 114, 47, 112, 108, 97, 121, 46, 99, 111, 110, 100, 105, 116, 105, 111, 110, 115, 36, 49])), .iface "func" (.lit (.string [115, 107, 101, 119, 101, 114, 47, 112, 108, 97, 121, 46, 99, 111, 110, 100, 105, 116, 105, 111, 110, 115, 36, 50])), .iface "func" (.lit (.string [115, 107, 101, 119, 101, 114, 47, 112, 108, 97, 121, 46, 99, 111, 110, 100, 105, 116, 105, 111, 110, 115, 36, 51]))]
theorem zpP {W : World} (h : funcsAt Tryz.prog W "skewer/play.conditions" zq1) :
  ∃ cs T fz, W.heap[0]? = some (.cells cs T fz) ∧ cs.toList = [.nilFunc, .func (.func 359) #[] #[], .func (.func 361) #[] #[], .func (.func 362) #[] #[]] := by
 obtain ⟨g, t, cs, fuel, p, hg, ht, hcs, htr⟩ := h
 obtain rfl : g = 0 := (Option.some.inj ((show Tryz.prog.globalNamed "skewer/play.conditions" = some 0 by kernel_rfl).symm.trans hg)).symm
 obtain rfl : t = 198 := (Option.some.inj ((show (Tryz.prog.globals[0]?).map (·.type) = some 198 by kernel_rfl).symm.trans ht)).symm
 have hu : Tryz.prog.underlying 198 = some (.array 4 197) := by kernel_rfl
 have hc1 : Tryz.prog.cellsOf 197 = 1 := by kernel_rfl
 have hc4 : Tryz.prog.cellsOf 198 = 4 := by kernel_rfl
 have hheap : ∃ T fz, W.heap[0]? = some (.cells cs T fz) := by
  unfold World.var? at hcs
  rw [show Tryz.prog.globalNamed "skewer/play.conditions" = some 0 by kernel_rfl] at hcs
  simp only [Option.bind_some] at hcs
  split at hcs
  ·rename_i c T fz hb
   cases hcs
   exact ⟨T, fz, hb⟩
  ·cases hcs
 obtain ⟨T, fz, hb⟩ := hheap
 refine ⟨cs, T, fz, hb, ?_⟩
 cases fuel with
 | zero => simp [DataW.trod] at htr
 | succ fuel =>
  simp only [DataW.trod, hu, hc1, hc4, Nat.mul_one] at htr
  split at htr
  ·rename_i hl
   match hcl : cs.toList, hl with
   | [a, b, c, d], _ =>
    rw [hcl] at htr
    obtain ⟨xs, hm, hx⟩ := Option.map_eq_some_iff.1 htr
    simp only [show List.range 4 = [0, 1, 2, 3] from rfl, List.mapM_cons, List.mapM_nil, List.drop_zero, List.drop_succ_cons, List.take_succ_cons, List.take_zero, Option.bind_eq_bind, Option.bind_eq_some_iff, Option.pure_def, Option.some.injEq] at hm
    obtain ⟨⟨y0, q0⟩, h0, l1, ⟨⟨y1, q1⟩, h1, l2, ⟨⟨y2, q2⟩, h2, l3, ⟨⟨y3, q3⟩, h3, l4, rfl, rfl⟩, rfl⟩, rfl⟩, rfl⟩ := hm
    have hx1 := congrArg Prod.fst hx
    simp only [zq1, DataW.funcsOut, DataW.funcsOutAll, List.map_cons, List.map_nil, DataW.agg.injEq, List.cons.injEq, and_true] at hx1
    simp at hx1
    obtain ⟨rfl, rfl, rfl, rfl⟩ := hx1
    have hd : Tryz.prog.underlying 197 = some (.func #[39, 45, 75] #[4] false) := by kernel_rfl
    have hf : ∃ a b c, TypeDesc.func #[39, 45, 75] #[4] false = .func a b c := ⟨_, _, _, rfl⟩
    obtain rfl := zwv hd hf h0
    obtain ⟨f1, i1, c1, rfl, t1⟩ := zqA hd hf h1
    obtain ⟨f2, i2, c2, rfl, t2⟩ := zqA hd hf h2
    obtain ⟨f3, i3, c3, rfl, t3⟩ := zqA hd hf h3
    obtain ⟨rfl, rfl, rfl⟩ := zmw (n := "skewer/play.conditions$1") (k := 359) (by kernel_rfl) (by decide +kernel) (by simp) t1
    obtain ⟨rfl, rfl, rfl⟩ := zmw (n := "skewer/play.conditions$2") (k := 361) (by kernel_rfl) (by decide +kernel) (by simp) t2
    obtain ⟨rfl, rfl, rfl⟩ := zmw (n := "skewer/play.conditions$3") (k := 362) (by kernel_rfl) (by decide +kernel) (by simp) t3
    rfl
  ·cases htr
theorem zoa {W : World} (h : funcsAt Tryz.prog W "skewer/play.conditions" zq1) : zgV W (fun _ => False) := by
 obtain ⟨cs, T, fz, hb, hcs⟩ := zpP h
 have hsz : cs.size = 4 := by rw [← Array.length_toList, hcs]; rfl
 intro q hq
 have e : q = (0, [AV.v .nilFunc, .fn (.func 359) [] [], .fn (.func 361) [] [], .fn (.func 362) [] []]) := by simpa [glbs] using hq
 subst e
 refine Rel.fp (C := cs) (T := T) (fz := fz) rfl (fun h => h) hb (by simp [hsz]) ?_ ?_
 ·intro u hu
  simp only [hcs, List.drop_zero] at hu
  simp at hu
  rcases hu with rfl | rfl | rfl | rfl <;> rfl
 ·simp only [hcs, List.drop_zero]
  exact .cons (.v _) (.cons (.fn .nil .nil) (.cons (.fn .nil .nil) (.cons (.fn .nil .nil) .nil)))
end Go.Av
end
section
open Go Go.Proofs Go.Av Go.ChangeShapes Go.RowKit
namespace Go.Proofs.YtedhfmmlhfmomaaGreatDoor
theorem zxG : ownKnob Tryz.prog.godebug = none := by kernel_rfl
theorem zzW : laidOutB Tryz.prog = true := by kernel_rfl
abbrev zxE : List (String × DataW Unit) := [("math/bits.deBruijn32tab", Rows.laid_math_bits_deBruijn32tab), ("math/bits.deBruijn64tab", Rows.laid_math_bits_deBruijn64tab), ("internal/strconv.uint64pow10", Rows.laid_internal_strconv_uint64pow10), ("skewer/play.conditions", Rows.laid_skewer_play_conditions)]
theorem zxF (os : Os) (args : Array Value) : laidMetH Tryz.prog zxE ((World.doorLaid Tryz.prog 29 os).forCall (fun _ _ => 0) ⟨#[], args, []⟩).memory :=
 laidMetH_of_parts3 (fuel := 8) (laidMet_of_run' 8 (by kernel_rfl) (by kernel_rfl)) (by kernel_rfl) (by kernel_rfl)
theorem zu0 (os : Os) (args : Array Value) : ((World.doorLaid Tryz.prog 29 os).forCall (fun _ _ => 0) ⟨#[], args, []⟩).variablesB Tryz.prog = true := by kernel_rfl
theorem zuZ (os : Os) (args : Array Value) : (((World.doorLaid Tryz.prog 29 os).forCall (fun _ _ => 0) ⟨#[], args, []⟩).heap.toList.drop Tryz.prog.globals.size).take ((begin Tryz.prog (fun _ _ => 0) default).world.heap.size - Tryz.prog.globals.size) =
  (begin Tryz.prog (fun _ _ => 0) default).world.heap.toList.drop Tryz.prog.globals.size := by kernel_rfl
end Go.Proofs.YtedhfmmlhfmomaaGreatDoor
end
section
/- Our library, part 14: arguments, as the statements read them, are values of the abstract domain. -/
namespace Go.Av
open Go

abbrev NoM : Nat → Prop := fun _ => False

structure zlL (B : Nat) (bk : ∀ {H : Type}, DataW H → Nat) : Prop where
 len : ∀ {H : Type} (l r : List (DataW H)), bk (.slice l r) ≤ B → l.length ≤ maxLen → l.length ≤ B
 elem : ∀ {H : Type} (l r : List (DataW H)) d, d ∈ l → bk (.slice l r) ≤ B → bk d ≤ B
 part : ∀ {H : Type} (l : List (DataW H)) d, d ∈ l → bk (.agg l) ≤ B → bk d ≤ B
 str : ∀ {H : Type} (l : List UInt8), bk (DataW.lit (H := H) (.string l)) ≤ B → l.length ≤ maxLen → l.length ≤ B

theorem zlL.any : zlL maxLen (fun _ => 0) := ⟨fun _ _ _ h => h, fun _ _ _ _ _ => Nat.zero_le _, fun _ _ _ _ => Nat.zero_le _, fun _ _ h => h⟩

def Opn (P : Program) (B : Nat) (bk : ∀ {H : Type}, DataW H → Nat) {α : Type} (t : TypeId) (en : α → List AV) (Q : α → Prop) : Prop :=
 ∀ {H : Type} (enc : TypeId × Value → H) (w : World) (fuel : Nat) (cs : List Value) (d : DataW H) (ps : List MemPlace),
  DataW.trod enc P w 0 (fun _ => true) true fuel t cs = some (d, ps) → bk d ≤ B → ∃ x, zaE noP w NoM (en x) cs ∧ (∀ c ∈ cs, zb2 c = true) ∧ cs.length = P.cellsOf t ∧ Q x

section
variable {P : Program} {B : Nat} {bk : ∀ {H : Type}, DataW H → Nat}
theorem Opn.int {t : TypeId} {k : IntKind} (ht : P.underlying t = some (.int k)) (hc : P.cellsOf t = 1) : Opn P B bk t (fun n : Int => [.v (.int k n)]) (fun n => (Lit.int k n).wf = true) := by
 intro H enc w fuel cs d ps h _
 obtain ⟨n, rfl, _, hw⟩ := DataW.trod_int ht h
 exact ⟨n, .cons (.v _) .nil, by simp [zb2, Value.oneCell'], by simp [hc], hw⟩
theorem Opn.bool {t : TypeId} (ht : P.underlying t = some .bool) (hc : P.cellsOf t = 1) : Opn P B bk t (fun b : Bool => [.v (.bool b)]) (fun _ => True) := by
 intro H enc w fuel cs d ps h _
 obtain ⟨n, rfl, _⟩ := DataW.trod_bool ht h
 exact ⟨n, .cons (.v _) .nil, by simp [zb2, Value.oneCell'], by simp [hc], trivial⟩
theorem Opn.string {t : TypeId} (hB : zlL B bk) (ht : P.underlying t = some .string) (hc : P.cellsOf t = 1) : Opn P B bk t (fun s : ByteArray => [.v (.string s)]) (fun s => s.size ≤ B) := by
 intro H enc w fuel cs d ps h hb
 obtain ⟨n, rfl, hx, hm⟩ := DataW.trod_string ht h
 simp only [Prod.mk.injEq] at hx
 obtain ⟨rfl, _⟩ := hx
 refine ⟨n, .cons (.v _) .nil, by simp [zb2, Value.oneCell'], by simp [hc], ?_⟩
 have := hB.str _ hb (by simpa using hm)
 simpa using this
theorem Opn.imp {α : Type} {t : TypeId} {en : α → List AV} {Q Q' : α → Prop} (h : Opn P B bk t en Q) (hq : ∀ x, Q x → Q' x) : Opn P B bk t en Q' := by
 intro H enc w fuel cs d ps h1 h2
 obtain ⟨x, a, b, c, e⟩ := h enc w fuel cs d ps h1 h2
 exact ⟨x, a, b, c, hq x e⟩
theorem Opn.map {α β : Type} {t : TypeId} {en : α → List AV} {en' : β → List AV} {Q : α → Prop} {Q' : β → Prop} (h : Opn P B bk t en Q) (f : α → β) (hq : ∀ x, Q x → Q' (f x)) (he : ∀ x, Q x → en' (f x) = en x) : Opn P B bk t en' Q' := by
 intro H enc w fuel cs d ps h1 h2
 obtain ⟨x, a, b, c, e⟩ := h enc w fuel cs d ps h1 h2
 exact ⟨f x, by rw [he x e]; exact a, b, c, hq x e⟩
theorem zg1 {w : World} {a : Addr} {n : Nat} {cs : List Value} (h : w.cells? 0 a n = some cs) : cs.length = n ∧ ∀ i, i < n → w.cell? (a.add i) = cs[i]? := by
 unfold World.cells? at h
 rw [if_pos (Nat.zero_le _)] at h
 exact ⟨by simpa using mapM_some_length h, fun i hi => mapM_some_get h i i (by simp [hi])⟩
theorem ziS {w : World} {a : Addr} {v : Value} (h : w.cell? a = some v) : ∃ C T fz, w.heap[a.block]? = some (.cells C T fz) ∧ a.spot = none ∧ C[a.off]? = some v := by
 unfold World.cell? at h
 split at h
 ·rename_i C T fz hb
  split at h
  ·cases h
  ·rename_i hs
   refine ⟨C, T, fz, hb, ?_, h⟩
   cases hsp : a.spot with
   | none => rfl
   | some x => simp [hsp] at hs
 ·cases h
theorem ziE (a : Addr) (n : Nat) : (a.add n).block = a.block := by unfold Addr.add; split <;> rfl
theorem zpn (a : Addr) (n : Nat) : (a.add n).off = a.off + n := by
 unfold Addr.add
 split
 ·rename_i h; subst h; rfl
 ·rfl
theorem zhN {φ : zas} {w : World} {M : Nat → Prop} {rows : List (List AV)} {L : List Value} {sz : Nat} (hl : L.length = rows.length * sz)
  (h : ∀ i (hi : i < rows.length), zaE φ w M rows[i] ((L.drop (i * sz)).take sz)) : zaE φ w M rows.flatten L := by
 induction rows generalizing L with
 | nil => simp at hl; subst hl; exact .nil
 | cons r rows ih =>
  have h0 := h 0 (by simp)
  simp only [List.getElem_cons_zero, Nat.zero_mul, List.drop_zero] at h0
  rw [List.flatten_cons, ← List.take_append_drop sz L]
  refine zaE.append h0 (ih (by simp at hl ⊢; rw [hl, Nat.add_mul]; omega) fun i hi => ?_)
  have := h (i + 1) (by simpa using hi)
  simp only [List.getElem_cons_succ] at this
  rw [List.drop_drop, show sz + i * sz = (i + 1) * sz by rw [Nat.add_mul]; omega]
  exact this
theorem zi7 {α : Type} (n : Nat) (p : Nat → α → Prop) (h : ∀ i, i < n → ∃ x, p i x) : ∃ l : List α, l.length = n ∧ ∀ i (hi : i < l.length), p i l[i] := by
 induction n with
 | zero => exact ⟨[], rfl, fun i hi => by simp at hi⟩
 | succ n ih =>
  obtain ⟨l, hl, hp⟩ := ih fun i hi => h i (by omega)
  obtain ⟨x, hx⟩ := h n (by omega)
  refine ⟨l ++ [x], by simp [hl], fun i hi => ?_⟩
  rcases Nat.lt_or_ge i l.length with h1 | h1
  ·rw [List.getElem_append_left h1]; exact hp i h1
  ·have : i = n := by simp at hi; omega
   subst this
   simp [List.getElem_append_right, hl, hx]
theorem Opn.slice {α : Type} {t e : TypeId} {en : α → List AV} {Q : α → Prop} {sz : Nat} (hB : zlL B bk) (ht : P.underlying t = some (.slice e)) (hc : P.cellsOf t = 1) (hz : P.cellsOf e = sz) (hp : 0 < sz)
  (he : Opn P B bk e en Q) : Opn P B bk t (fun l : List α => [.lst sz (l.map en)]) (fun l => l.length ≤ B ∧ ∀ x ∈ l, Q x) := by
 intro H enc w fuel cs d ps h hb
 rcases DataW.trod_slice ht h with ⟨rfl, _⟩ | ⟨a, len, cap, zsr, rest, n, rfl, rfl, hx, _, hlen, hmax, hel, hget, _, _⟩
 ·exact ⟨[], .cons (.nil _ _ _) .nil, by simp [zb2, Value.oneCell'], by simp [hc], by simp, by simp⟩
 ·simp only [Prod.mk.injEq] at hx
  obtain ⟨rfl, _⟩ := hx
  rw [hz] at hget
  have key : ∀ i (hi : i < len), ∃ x ci, w.cells? 0 (a.add (i * sz)) sz = some ci ∧ zaE noP w NoM (en x) ci ∧ (∀ c ∈ ci, zb2 c = true) ∧ Q x := by
   intro i hi
   have h1 := hget i hi
   rw [List.getElem?_eq_getElem (by omega), Option.bind_eq_some_iff] at h1
   obtain ⟨ci, h2, h3⟩ := h1
   obtain ⟨x, a1, a2, _, a4⟩ := he enc w n ci zsr[i].1 zsr[i].2 h3 (hB.elem _ _ _ (List.mem_map.2 ⟨zsr[i], List.getElem_mem _, rfl⟩) hb)
   exact ⟨x, ci, h2, a1, a2, a4⟩
  have hlb : len ≤ B := by have := hB.len _ _ hb (by simp; omega); simp at this; omega
  obtain ⟨l, hl, hx⟩ := zi7 len _ key
  refine ⟨l, ?_, by simp [zb2, Value.oneCell'], by simp [hc], by omega, fun x hxm => ?_⟩
  ·rcases Nat.eq_zero_or_pos len with h0 | h0
   ·have : l = [] := List.eq_nil_of_length_eq_zero (by omega)
    subst this
    rw [h0]
    exact .cons (.nil _ _ _) .nil
   ·have cellI : ∀ i, i < len → ∀ j, j < sz → ∃ v, w.cell? (a.add (i * sz + j)) = some v ∧ zb2 v = true := by
     intro i hi j hj
     obtain ⟨x, ci, h2, a1, a2, a3⟩ := key i hi
     obtain ⟨hcl, hcg⟩ := zg1 h2
     refine ⟨ci[j], ?_, a2 _ (List.getElem_mem (by omega))⟩
     have := hcg j hj
     rw [List.getElem?_eq_getElem (by omega)] at this
     rw [← this]
     simp only [World.cell?, ziE, zpn, Nat.add_assoc]
     by_cases hj0 : j = 0
     ·subst hj0; simp [Addr.add]
     ·simp [Addr.add, hj0]
    obtain ⟨v0, hv0, _⟩ := cellI 0 h0 0 hp
    obtain ⟨C, T, fz, hC, hs, _⟩ := ziS hv0
    simp only [Nat.zero_mul, Nat.zero_add, Addr.add, if_true] at hC hs
    have cellC : ∀ k, k < len * sz → ∃ v, C[a.off + k]? = some v ∧ w.cell? (a.add k) = some v ∧ zb2 v = true := by
     intro k hk
     have hi : k / sz < len := Nat.div_lt_of_lt_mul (by rw [Nat.mul_comm]; exact hk)
     have hj : k % sz < sz := Nat.mod_lt _ hp
     obtain ⟨v, h1, h2⟩ := cellI _ hi _ hj
     rw [show k / sz * sz + k % sz = k by rw [Nat.mul_comm]; exact Nat.div_add_mod k sz] at h1
     obtain ⟨C', T', fz', hC', hs', hv'⟩ := ziS h1
     rw [ziE, hC] at hC'
     simp only [Option.some.injEq, Obj.cells.injEq] at hC'
     obtain ⟨rfl, _, _⟩ := hC'
     rw [zpn] at hv'
     exact ⟨v, hv', h1, h2⟩
    have hsz : a.off + len * sz ≤ C.size := by
     have hpos : 0 < len * sz := Nat.mul_pos h0 hp
     obtain ⟨v, h1, _⟩ := cellC (len * sz - 1) (by omega)
     have := (Array.getElem?_eq_some_iff.1 h1).1
     omega
    have hL : ((C.toList.drop a.off).take (len * sz)).length = len * sz := by simp; omega
    have hget : ∀ k, k < len * sz → ((C.toList.drop a.off).take (len * sz))[k]? = C[a.off + k]? := by
     intro k hk
     rw [List.getElem?_take, if_pos hk, List.getElem?_drop]; simp
    have hrl : ∀ i (hi : i < l.length), ∃ ci, w.cells? 0 (a.add (i * sz)) sz = some ci ∧ zaE noP w NoM (en l[i]) ci := fun i hi => by
     obtain ⟨ci, h2, a1, _⟩ := hx i hi
     exact ⟨ci, h2, a1⟩
    refine .cons (.lst (C := C) (T := T) (fz := fz) hs (fun h => h) hC (fun r hr => ?_) (by simp; omega) (by rw [List.length_map, hl]; exact hsz) (by omega) (fun u hu => ?_) ?_) .nil
    ·obtain ⟨x, hxm, rfl⟩ := List.mem_map.1 hr
     obtain ⟨i, hi, rfl⟩ := List.getElem_of_mem hxm
     obtain ⟨ci, h2, a1⟩ := hrl i hi
     rw [a1.length, (zg1 h2).1]
    ·rw [List.length_map, hl] at hu
     obtain ⟨k, hk, rfl⟩ := List.getElem_of_mem hu
     rw [hL] at hk
     obtain ⟨v, h1, _, h3⟩ := cellC k hk
     have := hget k hk
     rw [List.getElem?_eq_getElem (by omega), h1] at this
     simp only [Option.some.injEq] at this
     rw [this]; exact h3
    ·rw [List.length_map, hl]
     refine zhN (sz := sz) (by rw [hL, List.length_map, hl]) fun i hi => ?_
     rw [List.length_map] at hi
     obtain ⟨ci, h2, a1⟩ := hrl i hi
     rw [List.getElem_map]
     obtain ⟨hcl, hcg⟩ := zg1 h2
     have hle : (i + 1) * sz ≤ len * sz := Nat.mul_le_mul_right _ (by omega)
     rw [Nat.add_mul] at hle
     have : ci = (((C.toList.drop a.off).take (len * sz)).drop (i * sz)).take sz := by
      refine List.ext_getElem? fun j => ?_
      rcases Nat.lt_or_ge j sz with hj | hj
      ·rw [← hcg j hj, List.getElem?_take, if_pos hj, List.getElem?_drop, hget _ (by omega)]
       obtain ⟨v, h1, h3, _⟩ := cellC (i * sz + j) (by omega)
       rw [h1, ← h3]
       simp only [World.cell?, ziE, zpn, Nat.add_assoc]
       by_cases hj0 : j = 0
       ·subst hj0; simp [Addr.add]
       ·simp [Addr.add, hj0]
      ·rw [List.getElem?_eq_none (by omega), List.getElem?_eq_none (by simp; omega)]
     rw [← this]; exact a1
  ·obtain ⟨i, hi, rfl⟩ := List.getElem_of_mem hxm
   obtain ⟨ci, _, _, _, a4⟩ := hx i hi
   exact a4
theorem Opn.array {α : Type} {t e : TypeId} {en : α → List AV} {Q : α → Prop} {n sz : Nat} (hB : zlL B bk) (ht : P.underlying t = some (.array n e)) (hz : P.cellsOf e = sz) (hc : P.cellsOf t = n * sz)
  (he : Opn P B bk e en Q) : Opn P B bk t (fun l : List α => (l.map en).flatten) (fun l => l.length = n ∧ ∀ x ∈ l, Q x) := by
 intro H enc w fuel cs d ps h hb
 obtain ⟨xs, m, _, hx, hl, hxl, hget⟩ := DataW.trod_array ht h
 simp only [Prod.mk.injEq] at hx
 obtain ⟨rfl, _⟩ := hx
 rw [hz] at hget
 have key : ∀ i, i < n → ∃ x, zaE noP w NoM (en x) ((cs.drop (i * sz)).take sz) ∧ (∀ c ∈ (cs.drop (i * sz)).take sz, zb2 c = true) ∧ Q x := by
  intro i hi
  have h1 := hget i hi
  rw [List.getElem?_eq_getElem (by omega)] at h1
  obtain ⟨x, a1, a2, _, a4⟩ := he enc w m _ xs[i].1 xs[i].2 h1 (hB.part _ _ (List.mem_map.2 ⟨xs[i], List.getElem_mem _, rfl⟩) hb)
  exact ⟨x, a1, a2, a4⟩
 obtain ⟨l, hll, hx⟩ := zi7 n _ key
 rw [hc] at hl
 refine ⟨l, zhN (sz := sz) (by rw [List.length_map, hll]; exact hl) (fun i hi => ?_), fun c hcm => ?_, by rw [hc]; exact hl, hll, fun x hxm => ?_⟩
 ·rw [List.length_map] at hi
  rw [List.getElem_map]; exact (hx i hi).1
 ·obtain ⟨k, hk, rfl⟩ := List.getElem_of_mem hcm
  have hp : 0 < sz := Nat.pos_of_ne_zero fun h0 => by subst h0; simp at hl; subst hl; simp at hk
  have hi : k / sz < n := Nat.div_lt_of_lt_mul (by rw [Nat.mul_comm, ← hl]; exact hk)
  have hj : k % sz < sz := Nat.mod_lt _ hp
  have e : k / sz * sz + k % sz = k := by rw [Nat.mul_comm]; exact Nat.div_add_mod k sz
  refine (hx (k / sz) (by omega)).2.1 _ (List.mem_iff_getElem?.2 ⟨k % sz, ?_⟩)
  rw [List.getElem?_take, if_pos hj, List.getElem?_drop, e]
  exact List.getElem?_eq_getElem hk
 ·obtain ⟨i, hi, rfl⟩ := List.getElem_of_mem hxm
  exact (hx i hi).2.2
def zhv (P : Program) (B : Nat) (bk : ∀ {H : Type}, DataW H → Nat) {α : Type} (ts : List TypeId) (en : α → List AV) (Q : α → Prop) : Prop :=
 ∀ {H : Type} (enc : TypeId × Value → H) (w : World) (fuel : Nat) (cs : List Value), cs.length = (ts.map P.cellsOf).sum →
  (∀ i (hi : i < ts.length), ∃ d ps, DataW.trod enc P w 0 (fun _ => true) true fuel ts[i] ((cs.drop ((ts.take i).map P.cellsOf).sum).take (P.cellsOf ts[i])) = some (d, ps) ∧ bk d ≤ B) →
  ∃ x, zaE noP w NoM (en x) cs ∧ (∀ c ∈ cs, zb2 c = true) ∧ Q x
theorem zhv.nil : zhv P B bk [] (fun _ : Unit => []) (fun _ => True) := by
 intro H enc w fuel cs hl _
 have : cs = [] := List.eq_nil_of_length_eq_zero (by simpa using hl)
 subst this
 exact ⟨(), .nil, by simp, trivial⟩
theorem zhv.cons {α β : Type} {t : TypeId} {ts : List TypeId} {en : α → List AV} {Q : α → Prop} {en' : β → List AV} {Q' : β → Prop} (h : Opn P B bk t en Q) (h' : zhv P B bk ts en' Q') :
  zhv P B bk (t :: ts) (fun x : α × β => en x.1 ++ en' x.2) (fun x => Q x.1 ∧ Q' x.2) := by
 intro H enc w fuel cs hl hd
 obtain ⟨d, ps, h1, h2⟩ := hd 0 (by simp)
 simp only [List.getElem_cons_zero, List.take_zero, List.map_nil, List.sum_nil, List.drop_zero] at h1
 obtain ⟨x, a1, a2, a3, a4⟩ := h enc w fuel _ d ps h1 h2
 obtain ⟨y, b1, b2, b3⟩ := h' enc w fuel (cs.drop (P.cellsOf t)) (by simp at hl ⊢; omega) (fun i hi => by
  obtain ⟨d, ps, k1, k2⟩ := hd (i + 1) (by simpa using hi)
  simp only [List.getElem_cons_succ, List.take_succ_cons, List.map_cons, List.sum_cons] at k1
  exact ⟨d, ps, by rw [List.drop_drop]; exact k1, k2⟩)
 refine ⟨(x, y), ?_, fun c hc => ?_, a4, b3⟩
 ·rw [← List.take_append_drop (P.cellsOf t) cs]
  exact zaE.append a1 b1
 ·rw [← List.take_append_drop (P.cellsOf t) cs] at hc
  rcases List.mem_append.1 hc with hc | hc
  ·exact a2 c hc
  ·exact b2 c hc
def zq2 (P : Program) (t : TypeId) (ts : List TypeId) : Bool := match P.underlying t with
 | some (.struct fs) => decide (fs.toList.map (·.type) = ts) && decide (fs.toList.map (·.offset) = (List.range ts.length).map fun i => ((ts.take i).map P.cellsOf).sum) && decide (P.cellsOf t = (ts.map P.cellsOf).sum)
 | _ => false
theorem Opn.struct {α : Type} {t : TypeId} {ts : List TypeId} {en : α → List AV} {Q : α → Prop} (hB : zlL B bk) (ht : zq2 P t ts = true) (h : zhv P B bk ts en Q) : Opn P B bk t en Q := by
 unfold zq2 at ht
 split at ht
 ·rename_i fs hfs
  simp only [Bool.and_eq_true, decide_eq_true_eq] at ht
  obtain ⟨⟨h1, h2⟩, h3⟩ := ht
  intro H enc w fuel cs d ps hd hb
  obtain ⟨xs, n, _, hx, hl, hxl, hget⟩ := DataW.trod_struct hfs hd
  simp only [Prod.mk.injEq] at hx
  obtain ⟨rfl, _⟩ := hx
  have hlen : fs.size = ts.length := by rw [← h1]; simp
  obtain ⟨x, a1, a2, a3⟩ := h enc w n cs (by rw [hl, h3]) (fun i hi => by
   have hi' : i < fs.size := by omega
   have e1 : fs[i].type = ts[i] := by
    have := congrArg (fun l => l[i]?) h1
    simp [hi', List.getElem?_eq_getElem hi] at this
    exact this
   have e2 : fs[i].offset = ((ts.take i).map P.cellsOf).sum := by
    have := congrArg (fun l => l[i]?) h2
    simp [hi', hi] at this
    rw [this, List.map_take]
   have := hget i fs[i] (Array.getElem?_eq_getElem hi')
   rw [e1, e2, List.getElem?_eq_getElem (by omega)] at this
   exact ⟨xs[i].1, xs[i].2, this, hB.part _ _ (List.mem_map.2 ⟨xs[i], List.getElem_mem _, rfl⟩) hb⟩)
  exact ⟨x, a1, a2, hl, a3⟩
 ·cases ht
def outer (P : Program) (t : TypeId) : Bool := match P.underlying t with
 | some (.struct _) | some (.array _ _) => true
 | _ => false
def wrapAV (agg : Bool) (cs : List AV) : AV := if agg then .agg cs else cel cs 0
theorem zBi {α : Type} {t : TypeId} {en : α → List AV} {Q : α → Prop} (h : Opn P B bk t en Q) {ag : Bool} (ho : outer P t = ag) (h1 : ag = false → P.cellsOf t = 1) {H : Type} {enc : TypeId × Value → H} {W : World} {base : Nat} {r : Reach} {v : Value} {d : DataW H} {ps : List MemPlace}
  (hval : Value.okWide P W r base t v) (hd : DataW.Trod enc P W 0 (fun _ => true) true t v d ps) (hb : bk d ≤ B) : ∃ x, Rel noP W NoM (wrapAV ag (en x)) v ∧ Q x := by
 obtain ⟨fuel, hd⟩ := hd
 obtain ⟨x, a1, a2, a3, a4⟩ := h enc W fuel _ d ps hd hb
 refine ⟨x, ?_, a4⟩
 unfold outer at ho
 unfold Value.okWide at hval
 split at ho
 ·rename_i hu
  subst ho
  rw [hu] at hval
  obtain ⟨cs, rfl, _, _⟩ := hval
  exact .agg (vs := cs.toList) a2 a1
 ·rename_i hu
  subst ho
  rw [hu] at hval
  obtain ⟨cs, rfl, _, _⟩ := hval
  exact .agg (vs := cs.toList) a2 a1
 ·subst ho
  rw [h1 rfl] at a3
  have hv : v.cells.toList = [v] := by
   unfold Value.cells at a3 a2 ⊢
   split
   ·rename_i cs
    exfalso
    split at hval
    ·simp_all
    ·simp_all
    ·unfold Cell.okWide at hval
     split at hval <;> simp_all [Cell.ok]
   ·rfl
  rw [hv] at a1
  cases he : en x with
  | nil => rw [he] at a1; cases a1
  | cons y ys =>
   rw [he] at a1
   cases a1 with
   | cons a1 _ => exact a1

theorem ztc {f : Func} {s : ChangeSpec} {apart fresh handsOn again : Bool} {H : Type} {enc : TypeId × Value → H} {W W' : World} {args : Array Value} {v : Value} {ds gs : List (DataW H)} {before : List MemPlace}
  (hlo : laidOutB P = true) (hts : f.params.toList.all (fun t => P.readableRec t && decide (t < P.types.size)) = true) (hv : s.vars = [])
  (hW : DataW.Whole enc P f.params.toList s.vars apart W args.toList ds gs before)
  (hres : ∀ (b : Nat) (sp : Nat → Bool) (hd : Bool), DataW.TrodAll enc P W' b sp hd f.resultTypes.toList (v.resultList f.resultTypes.size) (s.fn H (ds ++ gs)).results [])
  (hargs : (s.fn H (ds ++ gs)).args = ds) (hvars : (s.fn H (ds ++ gs)).vars = [])
  (hfr : Fr W (fun _ => False) W')
  (hok : ∀ (j : Nat) (t : TypeId) (r : Value), f.resultTypes[j]? = some t → (v.resultList f.resultTypes.size)[j]? = some r → Value.okWide P W' .any 0 t r) :
  s.post enc P f apart fresh handsOn again W args v W' := by
 have hlt : ∀ p ∈ before, p.block < W.heap.size := fun p hp => hW.lt p hp
 have hsame : ∀ p : MemPlace, p.block < W.heap.size → W.sameAt W' p := fun p hp => (Go.RowKit.Below.same ⟨hfr.os, hfr.tape, hfr.output, hfr.size, fun k hk => hfr.block k hk (fun h => h)⟩ hp)
 obtain ⟨p, q, hA, hV, hpq, hz, hn⟩ := id hW
 rw [hv] at hV
 have hq : q = [] ∧ gs = [] := by
  cases gs with
  | nil => exact ⟨hV, rfl⟩
  | cons g gs => exact hV.elim
 obtain ⟨rfl, rfl⟩ := hq
 rw [List.append_nil] at hpq
 subst hpq
 have key : ∀ (sp : Nat → Bool) (ts : List TypeId) (vs : List Value) (ds : List (DataW H)) (ps : List MemPlace), ts.all (fun t => P.readableRec t && decide (t < P.types.size)) = true → (∀ x ∈ ps, x.block < W.heap.size) → (∀ x ∈ ps, sp x.block = true) →
   DataW.TrodAll enc P W 0 (fun _ => true) true ts vs ds ps → DataW.TrodAll enc P W' 0 sp true ts vs ds ps := by
  intro sp ts
  induction ts with
  | nil =>
   intro vs ds ps _ _ _ h
   cases vs <;> cases ds <;> simp [DataW.TrodAll] at h ⊢
   exact h
  | cons t ts ih =>
   intro vs ds ps ht hlt hsp h
   obtain ⟨v, vs', d, ds', a, b, rfl, rfl, rfl, h1, h2⟩ := ChangeShapes.trodAll_cons h
   simp only [List.all_cons, Bool.and_eq_true, decide_eq_true_eq] at ht
   obtain ⟨⟨hr, hs⟩, hts⟩ := ht
   exact ⟨a, b, WideElems.Trod_stays hlo hr hs h1 (fun x hx => hsame x (hlt x (List.mem_append_left _ hx))) (fun x hx => hsp x (List.mem_append_left _ hx)),
    ih _ _ _ (by simpa using hts) (fun x hx => hlt x (List.mem_append_right _ hx)) (fun x hx => hsp x (List.mem_append_right _ hx)) h2, rfl⟩
 have key' : ∀ sp : Nat → Bool, (∀ x ∈ before, sp x.block = true) → DataW.TrodAll enc P W' 0 sp true f.params.toList args.toList (s.fn H (ds ++ [])).args before := fun sp hsp => by
  rw [hargs]; exact key sp _ _ _ _ hts hlt hsp hA
 have kv : ∀ sp : Nat → Bool, DataW.TrodVars enc P W' sp s.vars (s.fn H (ds ++ [])).vars [] := fun sp => by rw [hv, hvars]; rfl
 refine ⟨ds, [], before, [], before, [], hW, hres _ _ _, key' _ (fun x hx => by simpa using hlt x hx), kv _, ?_, fun _ => ⟨hok, _, _, ([] ++ before) ++ [], ⟨[] ++ before, [], ChangeShapes.trodAll_append (key' _ fun _ _ => rfl) (hres _ _ _), kv _, rfl, ?_, ?_⟩, ?_⟩⟩
 ·refine ⟨hfr.os, hfr.output, fun i hi => ?_⟩
  rw [hfr.block i hi (fun h => h)]
  cases h : W.heap[i]? with
  | none => simp
  | some o => cases o <;> simp
 ·intro b off hp
  have hp' : MemPlace.cell b off ∈ before := by simpa using hp
  have hb := hlt _ hp'
  have := hz b off hp'
  unfold World.frozen? at this ⊢
  simp only [MemPlace.block] at hb
  rw [show W'.heap[b]? = W.heap[b]? from hfr.block b hb (fun h => h)]
  exact this
 ·intro ha
  simpa using hn ha
 ·intro x hx _
  simpa using hx
theorem zh2 {f : FuncId} {fn : Func} {tb : TypeId} {s : ChangeSpec} {apart fresh handsOn again : Bool} {H : Type} {enc : TypeId × Value → H} {W : World} {args : Array Value} {ds gs : List (DataW H)} {before : List MemPlace}
  (hlo : laidOutB P = true) (hts : fn.params.toList.all (fun t => P.readableRec t && decide (t < P.types.size)) = true) (hv : s.vars = []) (hrt : fn.resultTypes = #[tb]) (hb : P.underlying tb = some .bool)
  (hW : DataW.Whole enc P fn.params.toList s.vars apart W args.toList ds gs before)
  (hfn : gs = [] → s.fn H (ds ++ gs) = { results := [.lit (.bool true)], args := ds }) {avs : List AV} (hp : zaP P f avs (.v (.bool true))) (hr : zaE noP W NoM avs args.toList) (hg : zgV W NoM := by intro p hp; simp [glbs] at hp) :
  Calls P f args W fun e W' => ∃ v, e = .returned v ∧ s.post enc P fn apart fresh handsOn again W args v W' := by
 have hgs : gs = [] := by
  obtain ⟨p, q, hA, hV, _⟩ := hW
  rw [hv] at hV
  cases gs with
  | nil => rfl
  | cons g gs => exact hV.elim
 have := hp.2 NoM W args.toList (fun k hk => hk.elim) hg hr
 rw [show (⟨args.toList⟩ : Array Value) = args from rfl] at this
 refine this.mono ?_
 rintro e W' ⟨v, rfl, hv', hfr⟩
 cases hv'
 refine ⟨_, rfl, ztc hlo hts hv hW (fun b sp hd => ?_) (by rw [hfn hgs]) (by rw [hfn hgs]) hfr ?_⟩
 ·rw [hfn hgs, hrt]
  exact trodAll_cons_mk (RowKit.shut_bool hb _) ChangeShapes.trodAll_mk0
 ·exact RowKit.ok_one hrt rfl (RowKit.okWide_bool_mk hb true)
end
end Go.Av
end
section
open Go Go.Proofs
namespace Go.Av
open Go.Proofs.YtedhfmmlhfmomaaGreatDoor
theorem zyG {H : Type} (d : DataW H) : 1 ≤ Rows.uptoBulk d := by
 cases d with
 | lit l => cases l <;> simp [Rows.uptoBulk]
 | _ => simp [Rows.uptoBulk]
theorem zj6 {H : Type} {d : DataW H} {l : List (DataW H)} (h : d ∈ l) : Rows.uptoBulk d ≤ Rows.uptoBulkAll l := by
 induction l with
 | nil => cases h
 | cons x r ih =>
  simp only [Rows.uptoBulkAll]
  rcases List.mem_cons.1 h with e | e
  ·subst e; omega
  ·have := ih e; omega
theorem zqC {H : Type} (l : List (DataW H)) : l.length ≤ Rows.uptoBulkAll l := by
 induction l with
 | nil => simp [Rows.uptoBulkAll]
 | cons x r ih => have := zyG x; simp only [Rows.uptoBulkAll, List.length_cons]; omega
theorem zlL.upto {B : Nat} : zlL B (fun d => Rows.uptoBulk d) where
 len := fun l r h _ => by
  have := zqC l
  simp only [Rows.uptoBulk] at h; omega
 elem := fun l r d hd h => by
  have := zj6 hd
  simp only [Rows.uptoBulk] at h; omega
 part := fun l d hd h => by
  have := zj6 hd
  simp only [Rows.uptoBulk] at h; omega
 str := fun l h _ => by
  simp only [Rows.uptoBulk] at h; omega
theorem zlK {H : Type} {l : List (DataW H)} (hk : Rows.uptoSmall H l = true) {d : DataW H} (hd : d ∈ l) : Rows.uptoBulk d ≤ 1048576 := by
 have := zj6 hd
 have h := of_decide_eq_true hk
 omega
end Go.Av
end
section
open Go Go.Proofs Go.Av
namespace Go.Av
open Go.Proofs.YtedhfmmlhfmomaaGreatDoor
abbrev UpB : {H : Type} → DataW H → Nat := fun d => Rows.uptoBulk d
abbrev G3T := Int × Int × Int × List (List Int) × List (List Int) × List Int × Unit
def zyT (x : G3T) : List AV := [.v (.int .u8 x.1)] ++ ([.v (.int .u8 x.2.1)] ++ ([.v (.int .u8 x.2.2.1)] ++ ((x.2.2.2.1.map fun l => [AV.lst 1 (l.map fun n => [.v (.int .u8 n)])]).flatten ++
 ([AV.lst 3 (x.2.2.2.2.1.map fun l => (l.map fun n => [AV.v (.int .u8 n)]).flatten)] ++ ((x.2.2.2.2.2.1.map fun n => [AV.v (.int .u8 n)]).flatten ++ [])))))
abbrev P4T := List Int × List Int × List Int × Int × Int × Unit
def zu3 (x : P4T) : List AV := (x.1.map fun n => [AV.v (.int .u8 n)]).flatten ++ ((x.2.1.map fun n => [AV.v (.int .u8 n)]).flatten ++ ((x.2.2.1.map fun n => [AV.v (.int .u8 n)]).flatten ++ ([.v (.int .u8 x.2.2.2.1)] ++ ([.v (.int .u8 x.2.2.2.2.1)] ++ []))))
abbrev U8W (n : Int) : Prop := (Lit.int .u8 n).wf = true
theorem zfg : Opn Tryz.prog 1048576 UpB 5 (fun n : Int => [.v (.int .u8 n)]) U8W := Opn.int Tryz.underlying5 (by kernel_rfl)
theorem zvQ : Opn Tryz.prog 1048576 UpB 22 (fun l : List Int => [.lst 1 (l.map fun n => [.v (.int .u8 n)])]) (fun l => l.length ≤ 1048576 ∧ ∀ x ∈ l, U8W x) :=
 Opn.slice (sz := 1) zlL.upto Tryz.underlying22 (by kernel_rfl) (by kernel_rfl) Nat.one_pos zfg
theorem opn_g3 : Opn Tryz.prog 1048576 UpB 27 zcL (fun x => zrH x ∧ x.k0.length ≤ 1048576 ∧ x.k1.length ≤ 1048576 ∧ x.c.length ≤ 1048576) := by
 have hK : Opn Tryz.prog 1048576 UpB 23 (fun l : List (List Int) => (l.map fun l => [AV.lst 1 (l.map fun n => [.v (.int .u8 n)])]).flatten) (fun l => l.length = 2 ∧ ∀ x ∈ l, x.length ≤ 1048576 ∧ ∀ y ∈ x, U8W y) :=
  Opn.array (sz := 1) (n := 2) zlL.upto Tryz.underlying23 (by kernel_rfl) (by kernel_rfl) zvQ
 have h3 : Opn Tryz.prog 1048576 UpB 80 (fun l : List Int => (l.map fun n => [AV.v (.int .u8 n)]).flatten) (fun l => l.length = 3 ∧ ∀ x ∈ l, U8W x) :=
  Opn.array (sz := 1) (n := 3) zlL.upto Tryz.underlying80 (by kernel_rfl) (by kernel_rfl) zfg
 have hC : Opn Tryz.prog 1048576 UpB 24 (fun l : List (List Int) => [.lst 3 (l.map fun l => (l.map fun n => [AV.v (.int .u8 n)]).flatten)]) (fun l => l.length ≤ 1048576 ∧ ∀ x ∈ l, x.length = 3 ∧ ∀ y ∈ x, U8W y) :=
  Opn.slice (sz := 3) zlL.upto Tryz.underlying24 (by kernel_rfl) (by kernel_rfl) (by decide) h3
 have hFF : Opn Tryz.prog 1048576 UpB 25 (fun l : List Int => (l.map fun n => [AV.v (.int .u8 n)]).flatten) (fun l => l.length = 6 ∧ ∀ x ∈ l, U8W x) :=
  Opn.array (sz := 1) (n := 6) zlL.upto Tryz.underlying25 (by kernel_rfl) (by kernel_rfl) zfg
 have hF : zhv Tryz.prog 1048576 UpB [5, 5, 5, 23, 24, 25] zyT (fun x => U8W x.1 ∧ U8W x.2.1 ∧ U8W x.2.2.1 ∧ (x.2.2.2.1.length = 2 ∧ ∀ z ∈ x.2.2.2.1, z.length ≤ 1048576 ∧ ∀ y ∈ z, U8W y) ∧
   (x.2.2.2.2.1.length ≤ 1048576 ∧ ∀ z ∈ x.2.2.2.2.1, z.length = 3 ∧ ∀ y ∈ z, U8W y) ∧ (x.2.2.2.2.2.1.length = 6 ∧ ∀ y ∈ x.2.2.2.2.2.1, U8W y) ∧ True) :=
  zhv.cons zfg (zhv.cons zfg (zhv.cons zfg (zhv.cons hK (zhv.cons hC (zhv.cons hFF zhv.nil)))))
 have hT : Opn Tryz.prog 1048576 UpB 27 zyT (fun x => U8W x.1 ∧ U8W x.2.1 ∧ U8W x.2.2.1 ∧ (x.2.2.2.1.length = 2 ∧ ∀ z ∈ x.2.2.2.1, z.length ≤ 1048576 ∧ ∀ y ∈ z, U8W y) ∧
   (x.2.2.2.2.1.length ≤ 1048576 ∧ ∀ z ∈ x.2.2.2.2.1, z.length = 3 ∧ ∀ y ∈ z, U8W y) ∧ (x.2.2.2.2.2.1.length = 6 ∧ ∀ y ∈ x.2.2.2.2.2.1, U8W y) ∧ True) := Opn.struct zlL.upto (by kernel_rfl) hF
 intro H enc w fuel cs d ps k1 k2
 obtain ⟨x, r1, r2, r3, hx⟩ := hT enc w fuel cs d ps k1 k2
 obtain ⟨W, Hh, cut, K, C, F, ⟨⟩⟩ := x
 obtain ⟨h1, h2, h3', ⟨h4, h4'⟩, ⟨h5, h5'⟩, ⟨h6, h6'⟩, _⟩ := hx
 simp only at h1 h2 h3' h4 h4' h5 h5' h6 h6'
 match K, h4 with
 | [ka, kb], _ =>
  match F, h6 with
  | [f0, f1, f2, f3, f4, f5], _ =>
   have hCl : ∀ (C : List (List Int)), (∀ z ∈ C, z.length = 3) → (C.map fun l => (nth l 0, nth l 1, nth l 2)).map zu2 = C.map fun l => (l.map fun n => [AV.v (.int .u8 n)]).flatten := by
    intro C hC
    rw [List.map_map]
    refine List.map_congr_left fun l hl => ?_
    have := hC l hl
    match l, this with
    | [a, b, c], _ => rfl
   refine ⟨⟨W, Hh, cut, ka, kb, C.map fun l => (nth l 0, nth l 1, nth l 2), f0, f1, f2, f3, f4, f5⟩, ?_, r2, r3, ⟨bounds_u8 h1, bounds_u8 h2, bounds_u8 h3', fun n hn => bounds_u8 ((h4' ka (by simp)).2 n hn), fun n hn => bounds_u8 ((h4' kb (by simp)).2 n hn), ?_,
    bounds_u8 (h6' f0 (by simp)), bounds_u8 (h6' f1 (by simp)), bounds_u8 (h6' f2 (by simp)), bounds_u8 (h6' f3 (by simp)), bounds_u8 (h6' f4 (by simp)), bounds_u8 (h6' f5 (by simp))⟩, (h4' ka (by simp)).1, (h4' kb (by simp)).1, by simpa using h5⟩
   ·unfold zcL
    simp only
    rw [hCl C (fun z hz => (h5' z hz).1)]
    exact r1
   ·intro t ht
    obtain ⟨z, hz, rfl⟩ := List.mem_map.1 ht
    obtain ⟨q1, q2⟩ := h5' z hz
    match z, q1 with
    | [a, b, c], _ => exact ⟨bounds_u8 (q2 a (by simp)), bounds_u8 (q2 b (by simp)), bounds_u8 (q2 c (by simp))⟩
theorem opn_p4 : Opn Tryz.prog 1048576 UpB 30 zcM ziB := by
 have hFF : Opn Tryz.prog 1048576 UpB 25 (fun l : List Int => (l.map fun n => [AV.v (.int .u8 n)]).flatten) (fun l => l.length = 6 ∧ ∀ x ∈ l, U8W x) :=
  Opn.array (sz := 1) (n := 6) zlL.upto Tryz.underlying25 (by kernel_rfl) (by kernel_rfl) zfg
 have h4 : Opn Tryz.prog 1048576 UpB 28 (fun l : List Int => (l.map fun n => [AV.v (.int .u8 n)]).flatten) (fun l => l.length = 4 ∧ ∀ x ∈ l, U8W x) :=
  Opn.array (sz := 1) (n := 4) zlL.upto Tryz.underlying28 (by kernel_rfl) (by kernel_rfl) zfg
 have hF : zhv Tryz.prog 1048576 UpB [25, 25, 28, 5, 5] zu3 (fun x => (x.1.length = 6 ∧ ∀ y ∈ x.1, U8W y) ∧ (x.2.1.length = 6 ∧ ∀ y ∈ x.2.1, U8W y) ∧ (x.2.2.1.length = 4 ∧ ∀ y ∈ x.2.2.1, U8W y) ∧ U8W x.2.2.2.1 ∧ U8W x.2.2.2.2.1 ∧ True) :=
  zhv.cons hFF (zhv.cons hFF (zhv.cons h4 (zhv.cons zfg (zhv.cons zfg zhv.nil))))
 have hT : Opn Tryz.prog 1048576 UpB 30 zu3 (fun x => (x.1.length = 6 ∧ ∀ y ∈ x.1, U8W y) ∧ (x.2.1.length = 6 ∧ ∀ y ∈ x.2.1, U8W y) ∧ (x.2.2.1.length = 4 ∧ ∀ y ∈ x.2.2.1, U8W y) ∧ U8W x.2.2.2.1 ∧ U8W x.2.2.2.2.1 ∧ True) := Opn.struct zlL.upto (by kernel_rfl) hF
 intro H enc w fuel cs d ps k1 k2
 obtain ⟨x, r1, r2, r3, hx⟩ := hT enc w fuel cs d ps k1 k2
 obtain ⟨c, k, h, r, s, ⟨⟩⟩ := x
 obtain ⟨⟨a1, a2⟩, ⟨b1, b2⟩, ⟨c1, c2⟩, d1, e1, _⟩ := hx
 simp only at a1 a2 b1 b2 c1 c2 d1 e1
 have hfl : ∀ l : List Int, (l.map fun n => [AV.v (.int .u8 n)]).flatten = l.map fun n => AV.v (.int .u8 n) := fun l => by
  induction l with
  | nil => rfl
  | cons x l ih => simp only [List.map_cons, List.flatten_cons, ih]; rfl
 refine ⟨⟨c, k, h, r, s⟩, ?_, r2, r3, ⟨a1, b1, c1, fun n hn => bounds_u8 (a2 n hn), fun n hn => bounds_u8 (b2 n hn), fun n hn => bounds_u8 (c2 n hn), bounds_u8 d1, bounds_u8 e1⟩⟩
 unfold zu3 at r1
 rw [hfl, hfl, hfl] at r1
 exact r1
theorem zyd : Opn Tryz.prog 1048576 UpB 87 (fun y : Int × Int => [AV.v (.int .u8 y.1), AV.v (.int .u8 y.2)]) (fun y => U8 y.1 ∧ U8 y.2) := by
 have hA : Opn Tryz.prog 1048576 UpB 87 (fun l : List Int => (l.map fun n => [AV.v (.int .u8 n)]).flatten) (fun l => l.length = 2 ∧ ∀ x ∈ l, U8W x) :=
  Opn.array (sz := 1) (n := 2) zlL.upto Tryz.underlying87 (by kernel_rfl) (by kernel_rfl) zfg
 intro H enc w fuel cs d ps k1 k2
 obtain ⟨x, r1, r2, r3, h1, h2⟩ := hA enc w fuel cs d ps k1 k2
 match x, h1 with
 | [a, b], _ => exact ⟨(a, b), r1, r2, r3, bounds_u8 (h2 a (by simp)), bounds_u8 (h2 b (by simp))⟩
end Go.Av
end
section
open Go Go.Proofs Go.Av
namespace Go.Av
open Go.Proofs.YtedhfmmlhfmomaaGreatDoor
theorem zyc : Opn Tryz.prog 1048576 UpB 65 zdD zeM := by
 have hF : zhv Tryz.prog 1048576 UpB [27, 30, 22] (fun x : zhY × zkd × List Int × Unit => zcL x.1 ++ (zcM x.2.1 ++ ([.lst 1 (x.2.2.1.map fun n => [.v (.int .u8 n)])] ++ [])))
   (fun x => (zrH x.1 ∧ x.1.k0.length ≤ 1048576 ∧ x.1.k1.length ≤ 1048576 ∧ x.1.c.length ≤ 1048576) ∧ ziB x.2.1 ∧ (x.2.2.1.length ≤ 1048576 ∧ ∀ y ∈ x.2.2.1, U8W y) ∧ True) := zhv.cons opn_g3 (zhv.cons opn_p4 (zhv.cons zvQ zhv.nil))
 have hT : Opn Tryz.prog 1048576 UpB 65 (fun x : zhY × zkd × List Int × Unit => zcL x.1 ++ (zcM x.2.1 ++ ([.lst 1 (x.2.2.1.map fun n => [.v (.int .u8 n)])] ++ [])))
   (fun x => (zrH x.1 ∧ x.1.k0.length ≤ 1048576 ∧ x.1.k1.length ≤ 1048576 ∧ x.1.c.length ≤ 1048576) ∧ ziB x.2.1 ∧ (x.2.2.1.length ≤ 1048576 ∧ ∀ y ∈ x.2.2.1, U8W y) ∧ True) := Opn.struct zlL.upto (by kernel_rfl) hF
 intro H enc w fuel cs d ps k1 k2
 obtain ⟨x, r1, r2, r3, hx⟩ := hT enc w fuel cs d ps k1 k2
 obtain ⟨g, p, k, ⟨⟩⟩ := x
 obtain ⟨⟨a1, a2, a3, a4⟩, b1, ⟨c1, c2⟩, _⟩ := hx
 simp only at a1 a2 a3 a4 b1 c1 c2
 exact ⟨⟨g, p, k⟩, r1, r2, r3, ⟨a1, b1, fun n hn => bounds_u8 (c2 n hn), by simp only; omega, by simp only; omega, by simp only; omega, by simp only; omega⟩⟩
end Go.Av
end
