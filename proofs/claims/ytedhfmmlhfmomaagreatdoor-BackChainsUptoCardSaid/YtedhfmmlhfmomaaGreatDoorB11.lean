/- Texts of ours, part 11: our library and contracts of functions. -/
import Derived.Test.YtedhfmmlhfmomaaGreatDoorB10
set_option linter.unusedSimpArgs false
set_option linter.unusedVariables false
set_option maxRecDepth 100000
set_option maxHeartbeats 40000000
section
open Go Go.Proofs
namespace Go.Av
theorem zky (g : zae) (hg : GOk g) (side : Int) (cell : Int) (prog : List (Int × Int)) (hp : prog.length ≤ 8) :
    zaS Tryz.prog 139 [zaD prog, .fp (zaf g), .fp [.v (.int .i64 side)], .fp [.v (.int .i64 cell)]] (zco (zcx g.board side prog cell)) := by
  refine pF Tryz.func139 ?_
  have hP := zqM g.board hg.board hg.c1 hg.c9 side prog hp cell
  generalize zcx g.board side prog cell = R at *
  rw [show zdE g.board = [.v (.int .i64 g.cells), zbX g.next, zar g.turn] from rfl] at hP
  repeat first|refine wV fun _=>?_|simp [go_sem]
  refine zxM hP (by simp [go_sem]) ?_
  repeat first|refine wV fun _=>?_|simp [go_sem]
def zgh (f : Nat → List AV) (z : List AV) (n c : Nat) : List (List AV) := (List.range n).map fun i => if i < c then f i else z
theorem zl7 (f : Nat → List AV) (z : List AV) (n c : Nat) : (zgh f z n c).length = n := by simp [zgh]
theorem zjs (f : Nat → List AV) (z : List AV) (n : Nat) : List.replicate n z = zgh f z n 0 := by
  unfold zgh
  refine List.ext_getElem (by simp) fun i h1 h2 => ?_
  simp
theorem zl8 (f : Nat → List AV) (z : List AV) (n c : Nat) : (zgh f z n c).set c (f c) = zgh f z n (c + 1) := by
  unfold zgh
  refine List.ext_getElem (by simp) fun i h1 h2 => ?_
  simp only [List.getElem_set, List.getElem_map, List.getElem_range]
  by_cases h : c = i
  · subst h; simp
  · rw [if_neg h]
    by_cases hi : i < c
    · rw [if_pos hi, if_pos (by omega)]
    · rw [if_neg hi, if_neg (by omega)]
theorem zl6 (f : Nat → List AV) (z : List AV) (n : Nat) : zgh f z n n = (List.range n).map f := by
  unfold zgh
  refine List.map_congr_left fun i hi => ?_
  rw [if_pos (List.mem_range.1 hi)]
theorem zfJ {f : Nat → List AV} {z : List AV} {n c m : Nat} (hf : ∀ i, ∀ x ∈ f i, Bel m x) (hz : ∀ x ∈ z, Bel m x) : ∀ r ∈ zgh f z n c, ∀ x ∈ r, Bel m x := by
  intro r hr x hx
  unfold zgh at hr
  obtain ⟨i, _, rfl⟩ := List.mem_map.1 hr
  split at hx
  · exact hf i x hx
  · exact hz x hx
theorem zoS (h : zal) (o : Nat) (x : Option zbd) : zbp (upd h o x) [o] = upd h o (zbP x) := by
  funext a
  unfold zbp upd
  by_cases e : a = o
  · subst e; simp
  · simp [e]
def zi3 (g : zae) (side : Int) (j : Nat) : List (List (List za1)) := (g.kinds.take j).map fun k => zji g.board side k.progs
theorem zqX (g : zae) (side : Int) {j : Nat} (h : j < g.kinds.length) : zi3 g side (j + 1) = zi3 g side j ++ [zji g.board side (nth g.kinds j).progs] := by
  unfold zi3
  rw [List.take_add_one, List.getElem?_eq_getElem h, zaB _ _ h, Option.toList_some, List.map_append]
  rfl
theorem ztv (g : zae) (side : Int) : zi3 g side g.kinds.length = zcw g side := by unfold zi3 zcw; rw [List.take_length]
theorem zqY (g : zae) (side : Int) : zi3 g side 0 = [] := by simp [zi3]
theorem ztw (g : zae) (side : Int) {j : Nat} (h : j ≤ g.kinds.length) : (zi3 g side j).length = j := by simp [zi3]; omega
theorem zh1 {g : zae} (hg : GOk g) (side : Int) {k : zfc} (hk : k ∈ g.kinds) (cell : Int) : (zb2 g.board side k.progs cell).length ≤ 8589934592 := by
  have h := zgi (fun p => zcx g.board side p cell) 43046721 k.progs (fun p hp => by
    have := zjN hg.board hg.c1 hg.c9 side p (hg.pr k hk p hp).len cell p.length
    unfold zdL at this
    rwa [List.take_length] at this)
  have := hg.pn k hk
  have h2 : k.progs.length * 43046721 ≤ 8 * 43046721 := Nat.mul_le_mul_right _ this
  unfold zb2
  omega
theorem zjz {g : zae} (hg : GOk g) (s : Int) {k : zfc} (hk : k ∈ g.kinds) (c : Int) : zgy 1048576 (zb2 g.board s k.progs c) := by
  intro w hw
  obtain ⟨p, hp, hw⟩ := List.mem_flatMap.1 hw
  have := zfn hg.board hg.c9 s p c p.length (Nat.le_refl _) w (by unfold zdL; rwa [List.take_length])
  have := (hg.pr k hk p hp).len
  omega
theorem zgA (g : zae) (hg : GOk g) : zaS Tryz.prog 76 [.agg (zaf g)] (.agg (zbZ (zdt g))) := by
  refine pF Tryz.func76 ?_
  have hc9 := hg.c9
  have hc1 := hg.c1
  have hk6 := hg.k6
  have hF := fun (s : Int) (c : Int) (k : zfc) (hk : k ∈ g.kinds) => zqr k.progs (by have := hg.pn k hk; omega) 139 [.fp (zaf g), .fp [.v (.int .i64 s)], .fp [.v (.int .i64 c)]] (fun p => zcx g.board s p c)
    (fun p hp => zky g hg s c p (hg.pr k hk p hp).len) (by simp [go_sem]) (zh1 hg s hk c)
  have hkb : ∀ (s : Int) (k : zfc) (c : Nat), c < g.cells.toNat → True := fun _ _ _ _ => trivial
  have hR : zbZ (zdt g) = [zb0 (zcw g 0), zb0 (zcw g 1)] := rfl
  rw [hR]
  clear hR
  have hsk := fun (s : Int) (j : Nat) (h : j < g.kinds.length) => zqX g s h
  have hsa := fun s => ztv g s
  have hsz := fun s => zqY g s
  have hsl := fun (s : Int) (j : Nat) (h : j ≤ g.kinds.length) => ztw g s h
  obtain ⟨C, hC⟩ : ∃ C : Nat, g.cells = C := ⟨g.cells.toNat, by omega⟩
  have hcells : ∀ (s : Int) (j : Nat), zji g.board s (nth g.kinds j).progs = (List.range C).map fun (c : Nat) => zb2 g.board s (nth g.kinds j).progs c := fun s j => by
    unfold zji
    rw [show g.board.cells.toNat = C by have : g.board.cells = g.cells := rfl; omega]
  generalize zi3 g = K at *
  have heg : zaf g = [.v (.int .i64 (C : Int)), zbX g.next, zar g.turn, .lst 3 (g.kinds.map zaU), .v (.int .i64 g.rights), .v (.bool g.must), .lst 4 (g.clauses.map zaR), .v (.int .i64 g.blocked), .v (.int .i64 g.endless)] := by rw [← hC]; rfl
  rw [heg] at hF
  have hbl : ∀ n, (∀ c' ∈ zaf g, Bel n c') = True := fun n => by simp [go_sem]
  have hel : (zaf g).length = 9 := rfl
  repeat first|refine wV fun _=>?_|simp [go_sem, hel]
  refine zxL (zxP (α := Nat) (fun s => ⟨[(1, .ref 0 0 9 0 0), (2, .ref 1 0 2 0 0), (3, .ref 2 0 2 0 0), (9, .v (.int .i64 s))],
      [(0, .rows false 0 9 [zaf g]), (1, .rows true 0 2 [[AV.v (.slice none 0 0), AV.v (.slice none 0 0)]]), (2, .rows true 0 2 [[if s = 0 then AV.v (.slice none 0 0) else zb0 (zcw g 0), if s < 2 then AV.v (.slice none 0 0) else zb0 (zcw g 1)]])], 3⟩)
    (fun d s => s + d = 2) ?_ 2 0 ?_) ?_ ?_
  · rintro d0 s s1 hrec
    rcases (show s = 0 ∨ s = 1 ∨ s = 2 by omega) with rfl | rfl | rfl
    · have hFs := hF 0
      have hsk := hsk 0
      have hsa := hsa 0
      have hsz := hsz 0
      have hsl := hsl 0
      have hcells := hcells 0
      repeat first|refine wV fun _=>?_|simp [go_sem, hel, hC]
      refine zxL (zxP (α := Nat) (fun j => ⟨[(1, .ref 0 0 9 0 0), (2, .ref 1 0 2 0 0), (3, .ref 2 0 2 0 0), (4, .ref 3 0 1 0 0), (9, .v (.int .i64 0)), (13, .lst 3 (g.kinds.map zaU)), (14, .v (.int .i64 g.kinds.length)), (15, .v (.int .i64 j))],
          [(0, .rows false 0 9 [zaf g]), (1, .rows true 0 2 [[AV.v (.slice none 0 0), AV.v (.slice none 0 0)]]), (2, .rows true 0 2 [[.sl 4 j 1 0 j, AV.v (.slice none 0 0)]]), (3, .rows false 0 1 [[.v (.int .i64 0)]]), (4, .rows true j 1 ((K 0 j).map fun x => [zcW x]))], 5⟩)
        (fun d j => j + d = g.kinds.length) ?_ g.kinds.length 0 ?_) ?_ ?_
      · rintro d j j1 hrec2
        have hlj := hsl j (by omega)
        repeat first|refine wV fun _=>?_|simp [go_sem, hel, hC, hlj]
        refine zxN (fun hj => ?_) (fun hj => ?_) <;> simp at hj
        · have hkm := zaj hj
          have hpn := hg.pn _ hkm
          have hFk := fun (c : Nat) => hFs c _ hkm
          have hsj := hsk j hj
          have hcj := hcells j
          have hlj1 := hsl (j + 1) (by omega)
          have hkp : ∀ c : Int, (nth g.kinds j).progs.flatMap (fun p => zcx g.board 0 p c) = zb2 g.board 0 (nth g.kinds j).progs c := fun c => rfl
          simp only [hkp] at hFk
          generalize zb2 g.board 0 (nth g.kinds j).progs = KP at *
          repeat first|refine wV fun _=>?_|simp [go_sem, hel, hC, hj]
          rw [zjs (fun (i : Nat) => [.lst 2 ((KP i).map zaE)])]
          refine zxL (zxP (α := Nat) (fun c => ⟨[(1, .ref 0 0 9 0 0), (2, .ref 1 0 2 0 0), (3, .ref 2 0 2 0 0), (4, .ref 3 0 1 0 0), (6, .ref 5 0 3 0 0), (7, .sl 6 0 1 0 C), (9, .v (.int .i64 0)), (13, .lst 3 (g.kinds.map zaU)), (14, .v (.int .i64 g.kinds.length)), (15, .v (.int .i64 j)), (24, .v (.int .i64 C)), (25, .v (.int .i64 c))],
              [(0, .rows false 0 9 [zaf g]), (1, .rows true 0 2 [[AV.v (.slice none 0 0), AV.v (.slice none 0 0)]]), (2, .rows true 0 2 [[.sl 4 j 1 0 j, AV.v (.slice none 0 0)]]), (3, .rows false 0 1 [[.v (.int .i64 0)]]), (4, .rows true j 1 ((K 0 j).map fun x => [zcW x])),
               (5, .rows true 0 3 [zaU (nth g.kinds j)]), (6, .rows true 0 1 (zgh (fun (i : Nat) => [.lst 2 ((KP i).map zaE)]) [AV.v (.slice none 0 0)] C c))], 7⟩)
            (fun d c => c + d = C) ?_ C 0 ?_) ?_ ?_
          · rintro d2 c c1' hrec3
            have hfl := zl7 (fun (i : Nat) => [.lst 2 ((KP i).map zaE)]) [AV.v (.slice none 0 0)] C c
            have hfs := zl8 (fun (i : Nat) => [.lst 2 ((KP i).map zaE)]) [AV.v (.slice none 0 0)] C c
            repeat first|refine wV fun _=>?_|simp [go_sem, hel, hC, hlj, hfl]
            refine zxN (fun hc => ?_) (fun hc => ?_) <;> simp at hc
            · (repeat (first|with_reducible (first|refine wL fun _=>?_|refine wD fun _=>?_|refine wE ?_)|simp [go_sem, hel, hC, hj, hfl]))
              refine zla.frz (zbp _ [7]) (zcb _ _) ?_
              simp only [zoS]
              repeat first|refine wV fun _=>?_|simp [go_sem, hel, hC, hj, hfl]
              refine zaC.frz [.lst 1 ((nth g.kinds j).progs.map fun p => [zaD p]), _] _ [0, 3, 7] [] (hFk c) (by simp) ?_ (by simp [go_sem]) ?_
              · intro h₁ hS
                have h0 := hS 0 (by simp)
                have h3 := hS 3 (by simp)
                have h7 := hS 7 (by simp)
                simp [upd, zbp, zbP] at h0 h3 h7
                refine .cons (.refl _) (.cons (.fn .nil (.cons (.frzP h0.symm (by simp) (by simp) (by simp [zai, upd, ← h0]) (.refl _ _ _ _)) (.cons (.frzP h3.symm (by simp) (by simp) (by simp [zai, upd, ← h3]) (.refl _ _ _ _)) (.cons (.frzP h7.symm (by simp) (by simp) (by simp [zai, upd, ← h7]) (.refl _ _ _ _)) .nil)))) .nil)
              · (repeat (first|refine wV fun _=>?_|simp [go_sem, hel, hC, hj, hfl]))
                refine zxL (hrec3 (d2 - 1) (by omega) (c + 1) (by omega)) ?_ (by simp)
                simp [go_sem, zah, hfs, hC]
                exact zfJ (fun i x hx => by simp only [List.mem_singleton] at hx; subst hx; exact of_eq_true zf6) (fun x hx => by simp only [List.mem_singleton] at hx; subst hx; exact .v _)
            · have hcC : c = C := by omega
              subst hcC
              rw [zl6]
              repeat first|refine wV fun _=>?_|simp [go_sem, hel, hC, hj]
              refine zxL (hrec2 (d - 1) (by omega) (j + 1) (by omega)) ?_ (by simp)
              simp [go_sem, zah, hsj, hcj, hC]
              (first|done|exact leX)
          · simp
          · simp [go_sem, zah, hC]
            exact zfJ (fun i x hx => by simp only [List.mem_singleton] at hx; subst hx; exact of_eq_true zf6) (fun x hx => by simp only [List.mem_singleton] at hx; subst hx; exact .v _)
          · simp
        · have hjl : j = g.kinds.length := by omega
          subst hjl
          rw [hsa]
          repeat first|refine wV fun _=>?_|simp [go_sem, hel, hC]
          refine zxL (hrec (d0 - 1) (by omega) (1) (by omega)) ?_ (by simp)
          have hsl' : (zcw g 0).length = g.kinds.length := by simp [zcw]
          simp [go_sem, zah, hC]
          ((try simp only [zaD, zaM, zbc, zcl, zaE, zco, zaH, zas, zad, zed, zbJ, zaP, zar, zaf, List.map_cons, List.map_nil, List.nil_append, List.append_nil, List.cons_append]); (repeat (first | (with_reducible first|exact zam.nil|exact zak.nil|exact LeV.refl _|exact zam.refl _ _ _ _|exact zak.refl _|refine zam.cons ?_ ?_|refine zak.cons ?_ ?_|refine LeV.agg ?_|refine LeV.tup ?_|refine LeV.fn ?_ ?_|exact LeV.nil _|refine zat (zak.refl _) ?_) | ((refine zaL rfl (by simp [hsl']) (by simp [zbp, zbP, upd, noH]) ?_); (first | (simp [go_sem, hsl']; done) | (simp [go_sem, hsl']; exact List.take_of_length_le (by simp [hsl'])))) | ((refine LeV.frz rfl (by simp [hsl']) (by simp [zbp, zbP, upd, noH]) ?_); (simp only [List.drop_zero, List.take_succ_cons, List.take_zero, List.map_cons, List.map_nil])) | ((refine LeV.frzP rfl (by simp [hsl']) (by simp) (by simp [zbp, zbP, upd, noH]) ?_); (simp only [zbi, List.drop_zero])))))
      · simp
      · simp [go_sem, zah, hsz, hC]
      · simp
    · have hFs := hF 1
      have hsk := hsk 1
      have hsa := hsa 1
      have hsz := hsz 1
      have hsl := hsl 1
      have hcells := hcells 1
      repeat first|refine wV fun _=>?_|simp [go_sem, hel, hC]
      refine zxL (zxP (α := Nat) (fun j => ⟨[(1, .ref 0 0 9 0 0), (2, .ref 1 0 2 0 0), (3, .ref 2 0 2 0 0), (4, .ref 3 0 1 0 0), (9, .v (.int .i64 1)), (13, .lst 3 (g.kinds.map zaU)), (14, .v (.int .i64 g.kinds.length)), (15, .v (.int .i64 j))],
          [(0, .rows false 0 9 [zaf g]), (1, .rows true 0 2 [[AV.v (.slice none 0 0), AV.v (.slice none 0 0)]]), (2, .rows true 0 2 [[zb0 (zcw g 0), .sl 4 j 1 0 j]]), (3, .rows false 0 1 [[.v (.int .i64 1)]]), (4, .rows true j 1 ((K 1 j).map fun x => [zcW x]))], 5⟩)
        (fun d j => j + d = g.kinds.length) ?_ g.kinds.length 0 ?_) ?_ ?_
      · rintro d j j1 hrec2
        have hlj := hsl j (by omega)
        repeat first|refine wV fun _=>?_|simp [go_sem, hel, hC, hlj]
        refine zxN (fun hj => ?_) (fun hj => ?_) <;> simp at hj
        · have hkm := zaj hj
          have hpn := hg.pn _ hkm
          have hFk := fun (c : Nat) => hFs c _ hkm
          have hsj := hsk j hj
          have hcj := hcells j
          have hlj1 := hsl (j + 1) (by omega)
          have hkp : ∀ c : Int, (nth g.kinds j).progs.flatMap (fun p => zcx g.board 1 p c) = zb2 g.board 1 (nth g.kinds j).progs c := fun c => rfl
          simp only [hkp] at hFk
          generalize zb2 g.board 1 (nth g.kinds j).progs = KP at *
          repeat first|refine wV fun _=>?_|simp [go_sem, hel, hC, hj]
          rw [zjs (fun (i : Nat) => [.lst 2 ((KP i).map zaE)])]
          refine zxL (zxP (α := Nat) (fun c => ⟨[(1, .ref 0 0 9 0 0), (2, .ref 1 0 2 0 0), (3, .ref 2 0 2 0 0), (4, .ref 3 0 1 0 0), (6, .ref 5 0 3 0 0), (7, .sl 6 0 1 0 C), (9, .v (.int .i64 1)), (13, .lst 3 (g.kinds.map zaU)), (14, .v (.int .i64 g.kinds.length)), (15, .v (.int .i64 j)), (24, .v (.int .i64 C)), (25, .v (.int .i64 c))],
              [(0, .rows false 0 9 [zaf g]), (1, .rows true 0 2 [[AV.v (.slice none 0 0), AV.v (.slice none 0 0)]]), (2, .rows true 0 2 [[zb0 (zcw g 0), .sl 4 j 1 0 j]]), (3, .rows false 0 1 [[.v (.int .i64 1)]]), (4, .rows true j 1 ((K 1 j).map fun x => [zcW x])),
               (5, .rows true 0 3 [zaU (nth g.kinds j)]), (6, .rows true 0 1 (zgh (fun (i : Nat) => [.lst 2 ((KP i).map zaE)]) [AV.v (.slice none 0 0)] C c))], 7⟩)
            (fun d c => c + d = C) ?_ C 0 ?_) ?_ ?_
          · rintro d2 c c1' hrec3
            have hfl := zl7 (fun (i : Nat) => [.lst 2 ((KP i).map zaE)]) [AV.v (.slice none 0 0)] C c
            have hfs := zl8 (fun (i : Nat) => [.lst 2 ((KP i).map zaE)]) [AV.v (.slice none 0 0)] C c
            repeat first|refine wV fun _=>?_|simp [go_sem, hel, hC, hlj, hfl]
            refine zxN (fun hc => ?_) (fun hc => ?_) <;> simp at hc
            · (repeat (first|with_reducible (first|refine wL fun _=>?_|refine wD fun _=>?_|refine wE ?_)|simp [go_sem, hel, hC, hj, hfl]))
              refine zla.frz (zbp _ [7]) (zcb _ _) ?_
              simp only [zoS]
              repeat first|refine wV fun _=>?_|simp [go_sem, hel, hC, hj, hfl]
              refine zaC.frz [.lst 1 ((nth g.kinds j).progs.map fun p => [zaD p]), _] _ [0, 3, 7] [] (hFk c) (by simp) ?_ (by simp [go_sem]) ?_
              · intro h₁ hS
                have h0 := hS 0 (by simp)
                have h3 := hS 3 (by simp)
                have h7 := hS 7 (by simp)
                simp [upd, zbp, zbP] at h0 h3 h7
                refine .cons (.refl _) (.cons (.fn .nil (.cons (.frzP h0.symm (by simp) (by simp) (by simp [zai, upd, ← h0]) (.refl _ _ _ _)) (.cons (.frzP h3.symm (by simp) (by simp) (by simp [zai, upd, ← h3]) (.refl _ _ _ _)) (.cons (.frzP h7.symm (by simp) (by simp) (by simp [zai, upd, ← h7]) (.refl _ _ _ _)) .nil)))) .nil)
              · (repeat (first|refine wV fun _=>?_|simp [go_sem, hel, hC, hj, hfl]))
                refine zxL (hrec3 (d2 - 1) (by omega) (c + 1) (by omega)) ?_ (by simp)
                simp [go_sem, zah, hfs, hC]
                exact zfJ (fun i x hx => by simp only [List.mem_singleton] at hx; subst hx; exact of_eq_true zf6) (fun x hx => by simp only [List.mem_singleton] at hx; subst hx; exact .v _)
            · have hcC : c = C := by omega
              subst hcC
              rw [zl6]
              repeat first|refine wV fun _=>?_|simp [go_sem, hel, hC, hj]
              refine zxL (hrec2 (d - 1) (by omega) (j + 1) (by omega)) ?_ (by simp)
              simp [go_sem, zah, hsj, hcj, hC]
              (first|done|exact leX)
          · simp
          · simp [go_sem, zah, hC]
            exact zfJ (fun i x hx => by simp only [List.mem_singleton] at hx; subst hx; exact of_eq_true zf6) (fun x hx => by simp only [List.mem_singleton] at hx; subst hx; exact .v _)
          · simp
        · have hjl : j = g.kinds.length := by omega
          subst hjl
          rw [hsa]
          repeat first|refine wV fun _=>?_|simp [go_sem, hel, hC]
          refine zxL (hrec (d0 - 1) (by omega) (2) (by omega)) ?_ (by simp)
          have hsl' : (zcw g 1).length = g.kinds.length := by simp [zcw]
          simp [go_sem, zah, hC]
          ((try simp only [zaD, zaM, zbc, zcl, zaE, zco, zaH, zas, zad, zed, zbJ, zaP, zar, zaf, List.map_cons, List.map_nil, List.nil_append, List.append_nil, List.cons_append]); (repeat (first | (with_reducible first|exact zam.nil|exact zak.nil|exact LeV.refl _|exact zam.refl _ _ _ _|exact zak.refl _|refine zam.cons ?_ ?_|refine zak.cons ?_ ?_|refine LeV.agg ?_|refine LeV.tup ?_|refine LeV.fn ?_ ?_|exact LeV.nil _|refine zat (zak.refl _) ?_) | ((refine zaL rfl (by simp [hsl']) (by simp [zbp, zbP, upd, noH]) ?_); (first | (simp [go_sem, hsl']; done) | (simp [go_sem, hsl']; exact List.take_of_length_le (by simp [hsl'])))) | ((refine LeV.frz rfl (by simp [hsl']) (by simp [zbp, zbP, upd, noH]) ?_); (simp only [List.drop_zero, List.take_succ_cons, List.take_zero, List.map_cons, List.map_nil])) | ((refine LeV.frzP rfl (by simp [hsl']) (by simp) (by simp [zbp, zbP, upd, noH]) ?_); (simp only [zbi, List.drop_zero])))))
      · simp
      · simp [go_sem, zah, hsz, hC]
      · simp
    · (repeat (first|refine wV fun _=>?_|simp [go_sem]))
  · simp
  · simp [go_sem, zah]
  · simp
theorem zr4 {n : Nat} {l : List (Int × Int)} : (∀ r ∈ l.map zaM, ∀ c ∈ r, Bel n c) = True := by
 refine eq_true ?_
 intro r hr c hc
 obtain ⟨x, _, rfl⟩ := List.mem_map.1 hr
 revert c
 simp [go_sem]
attribute [go_sem ↓] zr4
structure zkb (g : zae) (c : zm4) : Prop where
 l1 : c.1.length = g.kinds.length
 l2 : c.2.length = g.kinds.length
 c1 : ∀ x ∈ c.1, (x.length : Int) = g.cells
 c2 : ∀ x ∈ c.2, (x.length : Int) = g.cells
theorem zkb.side {g : zae} {c : zm4} (h : zkb g c) {s : Nat} (hs : s < 2) : ∃ l, cel [zb0 c.1, zb0 c.2] s = zb0 l ∧ l.length = g.kinds.length ∧ ∀ x ∈ l, (x.length : Int) = g.cells := by
 rcases (show s = 0 ∨ s = 1 by omega) with rfl | rfl
 ·exact ⟨_, rfl, h.l1, h.c1⟩
 ·exact ⟨_, rfl, h.l2, h.c2⟩
theorem zol {g : zae} (hg : GOk g) : zkb g (zdt g) := by
 have h : ∀ s, ∀ x ∈ zcw g s, (x.length : Int) = g.cells := by
  intro s x hx
  obtain ⟨k, _, rfl⟩ := List.mem_map.1 hx
  have : g.board.cells = g.cells := rfl
  have := hg.c1
  simp [zji]
  omega
 exact ⟨by simp [zdt, zcw], by simp [zdt, zcw], h 0, h 1⟩
theorem ztx (g : zae) (s : Int) {k c : Nat} (hk : k < g.kinds.length) (hc : c < g.cells.toNat) : nth (nth (zcw g s) k) c = zb2 g.board s (nth g.kinds k).progs c := by
 unfold zcw
 rw [zbK _ _ _ hk]
 have hc' : c < (List.range g.board.cells.toNat).length := by rw [List.length_range]; exact hc
 show nth ((List.range g.board.cells.toNat).map fun (c : Nat) => zb2 g.board s (nth g.kinds k).progs c) c = _
 rw [zbK _ _ _ hc', zaB _ _ hc', List.getElem_range]
structure FitC (g : zae) (c : zm4) : Prop where
 sh : zkb g c
 len : ∀ l ∈ c.1 ++ c.2, ∀ x ∈ l, x.length ≤ 1099511627776 ∧ zgy 1048576 x
theorem zsH {g : zae} (hg : GOk g) : FitC g (zdt g) := by
 refine ⟨zol hg, ?_⟩
 have h : ∀ s, ∀ l ∈ zcw g s, ∀ x ∈ l, x.length ≤ 1099511627776 ∧ zgy 1048576 x := by
  intro s l hl x hx
  obtain ⟨k, hk, rfl⟩ := List.mem_map.1 hl
  obtain ⟨c, _, rfl⟩ := List.mem_map.1 hx
  exact ⟨by have := zh1 hg s hk (c : Nat); omega, zjz hg s hk _⟩
 intro l hl
 rcases List.mem_append.1 hl with hl | hl
 ·exact h 0 l hl
 ·exact h 1 l hl
theorem FitC.side {g : zae} {c : zm4} (h : FitC g c) {s : Nat} (hs : s < 2) : ∃ l, cel [zb0 c.1, zb0 c.2] s = zb0 l ∧ l.length = g.kinds.length ∧ (∀ x ∈ l, (x.length : Int) = g.cells) ∧ ∀ x ∈ l, ∀ y ∈ x, y.length ≤ 1099511627776 ∧ zgy 1048576 y := by
 rcases (show s = 0 ∨ s = 1 by omega) with rfl | rfl
 ·exact ⟨_, rfl, h.sh.l1, h.sh.c1, fun x hx => h.len x (by simp [hx])⟩
 ·exact ⟨_, rfl, h.sh.l2, h.sh.c2, fun x hx => h.len x (by simp [hx])⟩
theorem zqA (d e k r : Int) (i : Nat) : zaA (nth (zm1 d e k r) i) 2 ≤ 1 := by
 rcases Nat.lt_or_ge i 16 with h | h
 ·have : ∀ p ∈ zm1 d e k r, zaA p 2 ≤ 1 := by
   intro p hp
   simp only [zm1, List.mem_cons, List.not_mem_nil, or_false] at hp
   rcases hp with rfl | rfl | rfl | rfl | rfl | rfl | rfl | rfl | rfl | rfl | rfl | rfl | rfl | rfl | rfl | rfl <;> simp [zaA]
  exact this _ (zaj h)
 ·have e : nth (zm1 d e k r) i = [] := by
   unfold nth
   rw [List.getD_eq_getElem?_getD, List.getElem?_eq_none (by exact h)]; rfl
  rw [e]
  simp [zaA]
theorem zqn {dirs kinds rights : Int} {p : List (Int × Int)} (h : zaA p 2 ≤ 1) : zaA (zvZ dirs kinds rights p) 2 ≤ 1 := by
 unfold zvZ
 split
 ·simp [zaA]
 ·exact Nat.le_trans (zet 2 p) h
theorem zn7 (x : zf0) : zcF (zeX x) := by
 intro k hk p hp
 obtain ⟨i, _, rfl⟩ := List.mem_map.1 hk
 obtain ⟨n, _, rfl⟩ := List.mem_map.1 hp
 exact zqn (zqA _ _ _ _ _)
def zlK (n : Nat) : AV := .fn (.func 202) [] [.ref (n + 1) 0 2 0 0, .ref (n + 3) 0 1 0 0, .ref (n + 2) 0 5 0 0, .ref n 0 9 0 0]
theorem zp8 (g : zae) (c : zm4) (p : zag) (hs : p.side = 0 ∨ p.side = 1) : zgB Tryz.prog 152 [.agg (zaf g), .agg (zbZ c), .agg (zad p)] zlK (fun n => [(n, .rows true 0 9 [zaf g]), (n + 1, .rows true 0 2 [zbZ c]), (n + 2, .rows true 0 5 [zad p]), (n + 3, .rows true 0 1 [[.v (.int .i64 (1 - p.side))]])]) 4 := by
 refine ⟨?_, fun n => ⟨by simp [go_sem, zlK], by simp [go_sem]⟩⟩
 refine zxR (by kernel_rfl) Tryz.func152 rfl rfl (Nat.le_of_ble_eq_true rfl) (by kernel_rfl) ?_
 repeat first|refine wV fun _=>?_|simp [go_sem, zlK]
 simp [go_sem, zah]

def cKd (g : zae) (sd : Int) (p : zag) (k : Nat) : List zag := ((List.range g.kinds.length).drop k).flatMap (fun (k : Nat) => (List.range g.cells.toNat).flatMap fun (c : Nat) => (zb2 g.board sd (nth g.kinds k).progs c).flatMap (zgZ g sd p k c)) ++ zhD g sd p
def cCl (g : zae) (sd : Int) (p : zag) (k c : Nat) : List zag := ((List.range g.cells.toNat).drop c).flatMap (fun (c : Nat) => (zb2 g.board sd (nth g.kinds k).progs c).flatMap (zgZ g sd p k c)) ++ cKd g sd p (k + 1)
def cPt (g : zae) (sd : Int) (p : zag) (k c i : Nat) : List zag := ((zb2 g.board sd (nth g.kinds k).progs c).drop i).flatMap (zgZ g sd p k c) ++ cCl g sd p k (c + 1)
theorem zfj {n j : Nat} (h : j < n) : (List.range n).drop j = j :: (List.range n).drop (j + 1) := by
 rw [List.drop_eq_getElem_cons (by simpa using h)]; simp
theorem cKd_go {g : zae} {sd : Int} {p : zag} {k : Nat} (h : k < g.kinds.length) : cKd g sd p k = cCl g sd p k 0 := by
 unfold cCl cKd
 rw [zfj h, List.flatMap_cons, List.append_assoc]
 rfl
theorem zwR {g : zae} {sd : Int} {p : zag} : cKd g sd p g.kinds.length = zhD g sd p := by
 unfold cKd
 rw [List.drop_eq_nil_of_le (by simp)]
 rfl
theorem cCl_go {g : zae} {sd : Int} {p : zag} {k c : Nat} (h : c < g.cells.toNat) : cCl g sd p k c = cPt g sd p k c 0 := by
 unfold cPt cCl
 rw [zfj h, List.flatMap_cons, List.append_assoc]
 rfl
theorem zwP {g : zae} {sd : Int} {p : zag} {k : Nat} : cCl g sd p k g.cells.toNat = cKd g sd p (k + 1) := by
 unfold cCl
 rw [List.drop_eq_nil_of_le (by simp)]
 rfl
theorem cPt_go {g : zae} {sd : Int} {p : zag} {k c i : Nat} (h : i < (zb2 g.board sd (nth g.kinds k).progs c).length) : cPt g sd p k c i = zgZ g sd p k c (nth (zb2 g.board sd (nth g.kinds k).progs c) i) ++ cPt g sd p k c (i + 1) := by
 unfold cPt
 rw [List.drop_eq_getElem_cons h, ← zaB _ _ h, List.flatMap_cons, List.append_assoc]
theorem zwS {g : zae} {sd : Int} {p : zag} {k c : Nat} : cPt g sd p k c (zb2 g.board sd (nth g.kinds k).progs c).length = cCl g sd p k (c + 1) := by
 unfold cPt
 rw [List.drop_eq_nil_of_le (Nat.le_refl _)]
 rfl
def cDr (g : zae) (sd : Int) (p : zag) (c : Nat) : List zag := (((List.range p.at_.length).drop c).filter fun c => decide ((zan (nth p.at_ c)).2 = sd) && (nth g.kinds (zan (nth p.at_ c)).1.toNat).keep).map (zmo sd p)
theorem zuJ (g : zae) (sd : Int) (p : zag) : cDr g sd p 0 = zhD g sd p := rfl
theorem cDr_go {g : zae} {sd : Int} {p : zag} {c : Nat} (h : c < p.at_.length) : cDr g sd p c = if (zan (nth p.at_ c)).2 = sd ∧ (nth g.kinds (zan (nth p.at_ c)).1.toNat).keep = true then zmo sd p c :: cDr g sd p (c + 1) else cDr g sd p (c + 1) := by
 unfold cDr
 rw [zfj h, List.filter_cons]
 by_cases h1 : (zan (nth p.at_ c)).2 = sd ∧ (nth g.kinds (zan (nth p.at_ c)).1.toNat).keep = true
 ·rw [if_pos h1, if_pos (by simp [h1.1, h1.2])]
  rfl
 ·rw [if_neg h1, if_neg (by
   intro h2
   rw [Bool.and_eq_true, decide_eq_true_eq] at h2
   exact h1 h2)]
theorem zwQ (g : zae) (sd : Int) (p : zag) : cDr g sd p p.at_.length = [] := by
 unfold cDr
 rw [List.drop_eq_nil_of_le (by simp)]
 rfl
theorem zsf (g : zae) (hg : GOk g) (p : zag) (hp : POk g p) (sd : Int) (hsd : sd = 0 ∨ sd = 1) :
  zlk Tryz.prog 202 [.fp (zbZ (zdt g)), .fp [.v (.int .i64 sd)], .fp (zad p), .fp (zaf g)] 0 ((zgY g sd p ++ zhD g sd p).map zbV) := by
 refine zx3 (by kernel_rfl) Tryz.func202 rfl rfl (Nat.le_of_ble_eq_true rfl) (by kernel_rfl) (fun l => ?_) (hm2 := by decide)
 have hgh : ∀ (n : Nat) (L : List zag), Bel n (za2 l 0 (L.map zbV)) = True := fun n (L : List zag) => eq_true zr7
 have hf := hp.fits hg
 have hal := hp.al
 have c9 := hg.c9
 have c1 := hg.c1
 have k6 := hg.k6
 obtain ⟨cn, hcn⟩ : ∃ cn : Nat, cn = g.cells.toNat := ⟨_, rfl⟩
 have hF := zsH hg
 have hegl : (zaf g).length = 9 := rfl
 have hegk : cel (zaf g) 3 = .lst 3 (g.kinds.map zaU) := rfl
 have hegb : ∀ n, (∀ c ∈ zaf g, Bel n c) = True := fun n => by simp [go_sem]
 have hcl : (zbZ (zdt g)).length = 2 := rfl
 have hcs : cel ((zbZ (zdt g)).drop sd.toNat) 0 = zb0 (zcw g sd) := by rcases hsd with rfl | rfl <;> rfl
 have hsl : (zcw g sd).length = g.kinds.length := by
  rcases hsd with rfl | rfl
  ·exact hF.sh.l1
  ·exact hF.sh.l2
 have hz : zgY g sd p ++ zhD g sd p = cKd g sd p 0 := rfl
 rw [hz]
 have hecb : ∀ n, (∀ c ∈ zbZ (zdt g), Bel n c) = True := fun n => by simp [go_sem]
 generalize zbZ (zdt g) = ec at *
 obtain ⟨ck, hck⟩ : ∃ ck : Nat → List (List AV), ∀ k, ck k = (nth (zcw g sd) k).map fun y => [zco y] := ⟨_, fun _ => rfl⟩
 have hckl : ∀ k, k < g.kinds.length → (ck k).length = cn := fun k hk => by
  rw [hck, List.length_map]
  have hm : nth (zcw g sd) k ∈ (zdt g).1 ++ (zdt g).2 := by
   have := zaj (l := zcw g sd) (i := k) (by omega)
   rcases hsd with rfl | rfl
   ·exact List.mem_append_left _ this
   ·exact List.mem_append_right _ this
  rcases List.mem_append.1 hm with h | h
  ·have := hF.sh.c1 _ h; omega
  ·have := hF.sh.c2 _ h; omega
 have hckn : ∀ k, k < g.kinds.length → ∀ c, c < cn → nth (ck k) c = [.lst 2 ((zb2 g.board sd (nth g.kinds k).progs c).map zaE)] := fun k hk c hc => by
  have h1 := hckl k hk
  rw [hck, List.length_map] at h1
  rw [hck, zbK _ _ _ (by omega), ztx _ _ hk (by omega)]
  rfl
 have hckb : ∀ k n, (∀ r ∈ ck k, ∀ c ∈ r, Bel n c) = True := fun k n => eq_true fun r hr c hc => by
  rw [hck] at hr
  obtain ⟨y, _, rfl⟩ := List.mem_map.1 hr
  simp only [List.mem_singleton] at hc
  subst hc
  simp [go_sem]
 have hsn : ∀ k, k < g.kinds.length → nth ((zcw g sd).map fun x => [zcW x]) k = [.lst 1 (ck k)] := fun k hk => by rw [hck]; exact zbK _ _ _ (by omega)
 have hsl2 : ((zcw g sd).map fun x => [zcW x]).length = g.kinds.length := by rw [List.length_map]; exact hsl
 obtain ⟨es, hes⟩ : ∃ es, es = (zcw g sd).map fun x => [zcW x] := ⟨_, rfl⟩
 have hcs' : cel (ec.drop sd.toNat) 0 = .lst 1 es := by rw [hcs, hes]; rfl
 have heb : ∀ n, (∀ r ∈ es, ∀ c ∈ r, Bel n c) = True := fun n => eq_true fun r hr c hc => by
  rw [hes] at hr
  obtain ⟨y, _, rfl⟩ := List.mem_map.1 hr
  simp only [List.mem_singleton] at hc
  subst hc
  simp [go_sem]
 rw [← hes] at hsn hsl2
 clear hcs hes hck hsl hF
 have hsd0 : 0 ≤ sd := by omega
 have hsd2 : sd < 2 := by omega
 have hsd3 : sd.toNat ≤ 2 := by omega
 repeat first|refine wV fun _=>?_|simp [go_sem, GH, hcl, hcs', hsl2]
 refine zxL (zxP (α := Nat) (fun k => ⟨[(2, .fp [.v (.int .i64 sd)]), (3, .fp (zad p)), (4, .fp (zaf g)), (5, .ref 0 0 1 0 0), (24, .lst 1 es), (25, .v (.int .i64 g.kinds.length)), (26, .v (.int .i64 k)), (1000000007, za2 l 0 ((cKd g sd p k).map zbV))], [(0, .rows true 0 1 [[.fn (.yield l) [] []]])], 1⟩)
  (fun d k => k + d = g.kinds.length) ?_ g.kinds.length 0 ?_) ?_ ?_
 ·rintro d k k1 hrec
  repeat first|refine wV fun _=>?_|simp [go_sem, GH, hsl2]
  refine zxN (fun hk => ?_) (fun hk => ?_) <;> simp at hk
  ·have hsnk := hsn k hk
   have hckl := hckl k hk
   have hckn := hckn k hk
   have hckb := hckb k
   generalize ck k = ce at *
   rw [cKd_go hk]
   repeat first|refine wV fun _=>?_|simp [go_sem, GH, hsl2, hk, hsnk, hckl]
   refine zxL (zxP (α := Nat) (fun c => ⟨[(2, .fp [.v (.int .i64 sd)]), (3, .fp (zad p)), (4, .fp (zaf g)), (5, .ref 0 0 1 0 0), (6, .ref 1 0 1 0 0), (24, .lst 1 es), (25, .v (.int .i64 g.kinds.length)), (26, .v (.int .i64 k)), (31, .lst 1 ce), (32, .v (.int .i64 cn)), (33, .v (.int .i64 c)), (1000000007, za2 l 0 ((cCl g sd p k c).map zbV))],
     [(0, .rows true 0 1 [[.fn (.yield l) [] []]]), (1, .rows true 0 1 [[.v (.int .i64 k)]])], 2⟩)
    (fun d c => c + d = cn) ?_ cn 0 ?_) ?_ ?_
   ·rintro d2 c c1' hrec2
    repeat first|refine wV fun _=>?_|simp [go_sem, GH, hckl]
    refine zxN (fun hc => ?_) (fun hc => ?_) <;> simp at hc
    ·have hcn2 := hckn c hc
     have hkm := zaj hk
     have hwok := zhg hg (side := sd) hkm (cell := (c : Int)) ⟨by omega, by omega⟩
     have hlen := zh1 hg sd hkm (c : Int)
     have hacl := zjz hg sd hkm (c : Int)
     have hmw : ∀ {i : Nat}, i < (zb2 g.board sd (nth g.kinds k).progs c).length → nth (zb2 g.board sd (nth g.kinds k).progs c) i ∈ zb2 g.board sd (nth g.kinds k).progs c := fun h => zaj h
     have hpg := fun i h => cPt_go (g := g) (sd := sd) (p := p) (k := k) (c := c) (i := i) h
     have hpe := zwS (g := g) (sd := sd) (p := p) (k := k) (c := c)
     rw [cCl_go (by omega)]
     generalize zb2 g.board sd (nth g.kinds k).progs c = pt at *
     repeat first|refine wV fun _=>?_|simp [go_sem, GH, hckl, hc, hcn2]
     refine zxL (zxP (α := Nat) (fun i => ⟨[(2, .fp [.v (.int .i64 sd)]), (3, .fp (zad p)), (4, .fp (zaf g)), (5, .ref 0 0 1 0 0), (6, .ref 1 0 1 0 0), (8, .ref 2 0 1 0 0), (24, .lst 1 es), (25, .v (.int .i64 g.kinds.length)), (26, .v (.int .i64 k)), (31, .lst 1 ce), (32, .v (.int .i64 cn)), (33, .v (.int .i64 c)), (38, .lst 2 (pt.map zaE)), (39, .v (.int .i64 pt.length)), (40, .v (.int .i64 i)), (1000000007, za2 l 0 ((cPt g sd p k c i).map zbV))],
       [(0, .rows true 0 1 [[.fn (.yield l) [] []]]), (1, .rows true 0 1 [[.v (.int .i64 k)]]), (2, .rows true 0 1 [[.v (.int .i64 c)]])], 3⟩)
      (fun d i => i + d = pt.length) ?_ pt.length 0 ?_) ?_ ?_
     ·rintro d3 i i1 hrec3
      repeat first|refine wV fun _=>?_|simp [go_sem, GH]
      refine zxN (fun hi => ?_) (fun hi => ?_) <;> simp at hi
      ·have hw := hwok _ (zaj hi)
       have hgi := zbK zaE pt i hi
       have hmw := hmw hi
       have hpg := hpg i hi
       unfold zgZ at hpg
       generalize nth pt i = w at *
       obtain ⟨hw1, hw2, hw3, hw4, hw5⟩ := hw
       have hto : w.to.toNat < p.at_.length := by omega
       have hto0 := hw1.1
       have hMa := zeu (nth p.at_ w.to.toNat)
       have hal2 : w.acts.length ≤ 1048576 := by have := hacl w hmw; omega
       have hW := zdQ p hf w.to 0 hto0 hto
       have hlf : POk g ⟨p.at_.set w.to.toNat 0, p.h0, p.h1, p.rights, sd⟩ := by
        have := hp.setAt w.to.toNat (v := 0) (by omega)
        exact ⟨this.al, this.av, this.h0, this.h1, this.r0, this.r1, hsd⟩
       generalize p.at_.set w.to.toNat 0 = A at *
       have hA : zgB Tryz.prog 204 [.agg (zaf g), .agg (zad ⟨A, p.h0, p.h1, p.rights, sd⟩), zcl w.acts] (fun n => ziy n) (fun n => ziz g ⟨A, p.h0, p.h1, p.rights, sd⟩ w.acts n) 3 := zgU _ _ _
       have hS := zot g hg w.acts.length w.acts _ rfl hal2 hlf hw2
       have hro := zk5 hg hsd hlf (l := w.acts.reverse) (fun a ha => hw2 a (List.mem_reverse.1 ha))
       simp only [ziy, ziz] at hA
       simp only at hS
       repeat first|refine wV fun _=>?_|simp [go_sem, GH, hi, hgi, hto, hto0]
       refine zxM hMa (by simp [go_sem]) ?_
       generalize zan (nth p.at_ w.to.toNat) = m at *
       obtain ⟨m1, m2⟩ := m
       replace hpg : cPt g sd p k c i = (if m2 = sd then _ else _) ++ _ := hpg
       repeat first|refine wV fun _=>?_|simp [go_sem, GH]
       refine zxN (fun hne => ?_) (fun hne => ?_) <;> simp at hne
       ·rw [if_neg hne, List.nil_append] at hpg
        rw [hpg]
        repeat first|refine wV fun _=>?_|simp [go_sem, GH]
        refine zxL (hrec3 (d3 - 1) (by omega) (i + 1) (by omega)) ?_ (by simp)
        simp [go_sem, zah, GH, hgh, heb, hckb]
       ·subst hne
        rw [if_pos rfl] at hpg
        obtain ⟨fF, hfF⟩ : ∃ fF : List zag → List zag, ∀ ys, fF ys = ((ys.filter fun q => decide (nth q.at_ c = 0)).map fun q => { q with at_ := q.at_.set c (zaK k m2) }) ++ cPt g m2 p k c (i + 1) := ⟨_, fun _ => rfl⟩
        rw [← hfF] at hpg
        rw [hpg]
        repeat first|refine wV fun _=>?_|simp [go_sem, GH, hto0]
        refine zxM hW (by simp [go_sem]) ?_
        repeat first|refine wV fun _=>?_|simp [go_sem, GH]
        refine zxQ hA (by simp [go_sem]) ?_
        repeat first|refine wV fun _=>?_|simp [go_sem, GH]
        refine zdz.mk [.fp [zcl w.acts], .fp (zad ⟨A, p.h0, p.h1, p.rights, m2⟩), .fp (zaf g)] (zbp _ [5, 6, 7]) hS (zcb _ _) ?_ (by simp [go_sem]) (fun xs hx => by obtain ⟨y, _, rfl⟩ := List.mem_map.1 hx; rfl) ?_
        ·refine zam.cons (.frzP rfl ?_ ?_ ?_ ?_) (zam.cons (.frzP rfl ?_ ?_ ?_ ?_) (zam.cons (.frzP rfl ?_ ?_ ?_ ?_) .nil)) <;> first | exact zam.refl _ _ _ _ | (simp [zbp, zbP, upd]; done)
        generalize zcD g m2 ⟨A, p.h0, p.h1, p.rights, m2⟩ w.acts.reverse = ys at *
        clear hS
        refine Fgt.to (zx2 (α := List zag) (fun ys => ([(2, .fp [.v (.int .i64 m2)]), (3, .fp (zad p)), (4, .fp (zaf g)), (5, .ref 0 0 1 0 0), (6, .ref 1 0 1 0 0), (8, .ref 2 0 1 0 0), (24, .lst 1 es), (25, .v (.int .i64 g.kinds.length)), (26, .v (.int .i64 k)), (31, .lst 1 ce), (32, .v (.int .i64 cn)), (33, .v (.int .i64 c)), (38, .lst 2 (pt.map zaE)), (39, .v (.int .i64 pt.length)), (40, .v (.int .i64 i)), (1000000007, za2 l 0 ((fF ys).map zbV))],
          [(0, .rows true 0 1 [[.fn (.yield l) [] []]]), (1, .rows true 0 1 [[.v (.int .i64 k)]]), (2, .rows true 0 1 [[.v (.int .i64 c)]])], 3))
         (fun rows ys => rows = ys.map zbV ∧ ∀ q ∈ ys, POk g q) ?_ ?_ _ ys ⟨rfl, fun q hq => (hro q hq).1⟩) ?_ ?_
        ·rintro ys ⟨i1, i2⟩
         obtain rfl : ys = [] := by
          cases ys with
          | nil => rfl
          | cons => cases i1
         refine ⟨rfl, ?_⟩
         rw [show fF [] = cPt g m2 p k c (i + 1) from by rw [hfF]; rfl]
         repeat first|refine wV fun _=>?_|simp [go_sem, GH]
         refine zxL (hrec3 (d3 - 1) (by omega) (i + 1) (by omega)) ?_ (by simp)
         simp [go_sem, zah, GH, hgh, heb, hckb]
        ·rintro xs rs ys ⟨i1, i2⟩ hrec4
         obtain ⟨y, ys, rfl⟩ : ∃ q t, ys = q :: t := by
          cases ys with
          | nil => cases i1
          | cons q t => exact ⟨q, t, rfl⟩
         rw [List.map_cons, List.cons.injEq] at i1
         obtain ⟨rfl, rfl⟩ := i1
         have hy := i2 y (by simp)
         have hyl := hy.al
         have hcy : c < y.at_.length := by omega
         have hCo := zc3 k m2
         have hWy := zdQ y (hy.fits hg) c (zaK k m2) (by omega) (by rw [Int.toNat_natCast]; exact hcy)
         rw [Int.toNat_natCast] at hWy
         have hfy : fF (y :: ys) = if nth y.at_ c = 0 then { y with at_ := y.at_.set c (zaK k m2) } :: fF ys else fF ys := by
          rw [hfF, hfF, List.filter_cons]
          by_cases hz : nth y.at_ c = 0
          ·rw [if_pos hz, if_pos (by simpa using hz)]
           rfl
          ·rw [if_neg hz, if_neg (by simpa using hz)]
         obtain ⟨Y, hY⟩ : ∃ Y, Y = { y with at_ := y.at_.set c (zaK k m2) } := ⟨_, rfl⟩
         rw [← hY] at hWy hfy
         generalize zaK k m2 = cd at *
         refine zx5 (Nat.zero_le _) ?_
         by_cases hz : nth y.at_ c = 0
         ·rw [if_pos hz] at hfy
          rw [hfy]
          (repeat (first|with_reducible (first|refine wL fun _=>?_|refine wD fun _=>?_|refine wE ?_)|simp [go_sem, GH, zbV]))
          refine zla.split 14 ?_
          repeat first|refine wV fun _=>?_|simp [go_sem, GH, hcy, hz]
          refine zxX (.v (.int .i64 cd)) (fun _ => hCo) (by simp [go_sem]) ?_
          repeat first|refine wV fun _=>?_|simp [go_sem, GH, hcy]
          refine zxX (.agg (zad Y)) (fun _ => hWy) (by simp [go_sem]) ?_
          repeat first|refine wV fun _=>?_|simp [go_sem, GH]
          refine aGC.yld (more := 0) (xs := zbV Y) (rs := (fF ys).map zbV) _ (by simp [upd, GH, zbV, zad, zar]) (.refl _) (.refl _ _ _ _) (by simp [go_sem, zbV]) ?_ ?_
          ·repeat first|refine wV fun _=>?_|simp [go_sem, GH]
           refine Fgt.to (hrec4 ys ⟨rfl, fun z hz => i2 z (by simp [hz])⟩) ?_ (by simp)
           simp [go_sem, zah, GH, hgh, heb, hckb]
          ·repeat first|refine wV fun _=>?_|simp [go_sem, GH]
         ·rw [if_neg hz] at hfy
          rw [hfy]
          (repeat (first|with_reducible (first|refine wL fun _=>?_|refine wD fun _=>?_|refine wE ?_)|simp [go_sem, GH, zbV]))
          refine zla.split 14 ?_
          repeat first|refine wV fun _=>?_|simp [go_sem, GH, hcy, hz]
          refine zxX (.v (.int .i64 cd)) (fun _ => hCo) (by simp [go_sem]) ?_
          repeat first|refine wV fun _=>?_|simp [go_sem, GH, hcy]
          refine zxX (.agg (zad Y)) (fun h => by cases h) (by simp [go_sem]) ?_
          repeat first|refine wV fun _=>?_|simp [go_sem, GH]
          refine aGC.skip (.v (.bool true)) ?_
          repeat first|refine wV fun _=>?_|simp [go_sem, GH]
          refine Fgt.to (hrec4 ys ⟨rfl, fun z hz => i2 z (by simp [hz])⟩) ?_ (by simp)
          simp [go_sem, zah, GH, hgh, heb, hckb]
        ·simp [go_sem, zah, GH, hgh, heb, hckb]
        ·simp
      ·obtain rfl : i = pt.length := by omega
       rw [hpe]
       repeat first|refine wV fun _=>?_|simp [go_sem, GH]
       refine zxL (hrec2 (d2 - 1) (by omega) (c + 1) (by omega)) ?_ (by simp)
       simp [go_sem, zah, GH, hgh, heb, hckb]
     ·omega
     ·simp [go_sem, zah, GH, hgh, heb, hckb]
     ·simp
    ·obtain rfl : c = cn := by omega
     rw [hcn, zwP]
     repeat first|refine wV fun _=>?_|simp [go_sem, GH]
     refine zxL (hrec (d - 1) (by omega) (k + 1) (by omega)) ?_ (by simp)
     simp [go_sem, zah, GH, hgh, heb]
   ·omega
   ·simp [go_sem, zah, GH, hgh, heb, hckb]
   ·simp
  ·obtain rfl : k = g.kinds.length := by omega
   rw [zwR, ← zuJ]
   clear hrec heb hckb hckn hckl hsn hsl2 hcs'
   repeat first|refine wV fun _=>?_|simp [go_sem, GH]
   refine zxL (zxP (α := Nat) (fun c => ⟨[(2, .fp [.v (.int .i64 sd)]), (3, .fp (zad p)), (4, .fp (zaf g)), (5, .ref 0 0 1 0 0), (90, zar p.at_), (91, .v (.int .i64 p.at_.length)), (92, .v (.int .i64 c)), (1000000007, za2 l 0 ((cDr g sd p c).map zbV))], [(0, .rows true 0 1 [[.fn (.yield l) [] []]])], 1⟩)
    (fun d c => c + d = p.at_.length) ?_ p.at_.length 0 ?_) ?_ ?_
   ·rintro d c c1' hrec
    repeat first|refine wV fun _=>?_|simp [go_sem, GH]
    refine zxN (fun hc => ?_) (fun hc => ?_) <;> simp at hc
    ·have hgo := cDr_go (g := g) (sd := sd) (p := p) hc
     have hv := hp.at (i := c) (by omega)
     have hman := zaX hv.1 hv.2 k6
     have hMa := zeu (nth p.at_ c)
     have hW := zdQ p hf c 0 (by omega) (by rw [Int.toNat_natCast]; exact hc)
     rw [Int.toNat_natCast] at hW
     have hlp : zmo sd p c = { (({ p with at_ := p.at_.set c 0 } : zag).withHand sd ((p.hand sd).set (zan (nth p.at_ c)).1.toNat (nth (p.hand sd) (zan (nth p.at_ c)).1.toNat + 1))) with side := sd } := by
      rcases hsd with rfl | rfl <;> rfl
     rw [hlp] at hgo
     clear hlp
     have hfA : za3 { p with at_ := p.at_.set c 0 } := ⟨by simpa [zeh] using hf.1, hf.2⟩
     have hCt := fun (kd : Int) h0 h1 h2 => zjl { p with at_ := p.at_.set c 0 } hfA sd kd 1 hsd h0 h1 h2
     generalize p.at_.set c 0 = A at *
     generalize zan (nth p.at_ c) = m at *
     obtain ⟨m1, m2⟩ := m
     repeat first|refine wV fun _=>?_|simp [go_sem, GH, hc]
     refine zxM hMa (by simp [go_sem]) ?_
     replace hgo : cDr g sd p c = if m2 = sd ∧ (nth g.kinds m1.toNat).keep = true then _ else _ := hgo
     by_cases hms : m2 = sd
     ·subst hms
      simp only [Prod.mk.injEq] at hman
      obtain ⟨hm0, hmk⟩ : 0 ≤ m1 ∧ m1 < g.kinds.length := by omega
      have hmk' : m1.toNat < g.kinds.length := by omega
      have hgk : nth (g.kinds.map zaU) m1.toNat = zaU (nth g.kinds m1.toNat) := zbK _ _ _ hmk'
      by_cases hkp : (nth g.kinds m1.toNat).keep = true
      ·rw [if_pos ⟨rfl, hkp⟩] at hgo
       have hhl := (hp.hand m2).len
       have hhv := (hp.hand m2).v m1.toNat (by omega)
       have hCt := hCt m1 hm0 (by show m1.toNat < (p.hand m2).length; omega) (by
        show -1000 ≤ nth (p.hand m2) m1.toNat + 1 ∧ nth (p.hand m2) m1.toNat + 1 ≤ 1000
        omega)
       obtain ⟨Q, hQ⟩ : ∃ Q, Q = (⟨A, p.h0, p.h1, p.rights, p.side⟩ : zag).withHand m2 ((p.hand m2).set m1.toNat (nth (p.hand m2) m1.toNat + 1)) := ⟨_, rfl⟩
       rw [← hQ] at hgo
       replace hCt : zaS Tryz.prog 205 [.agg (zad ⟨A, p.h0, p.h1, p.rights, p.side⟩), .v (.int .i64 m2), .v (.int .i64 m1), .v (.int .i64 1)] (.agg (zad Q)) := by rw [hQ]; exact hCt
       rw [hgo]
       repeat first|refine wV fun _=>?_|simp [go_sem, GH, hm0, hmk', hgk, hkp]
       refine zxO hW (by simp [go_sem]) ?_
       repeat first|refine wV fun _=>?_|simp [go_sem, GH]
       refine zxO hCt (by simp [go_sem]) ?_
       repeat first|refine wV fun _=>?_|simp [go_sem, GH]
       refine zpy.mk (more := 0) (xs := zbV { Q with side := m2 }) (rs := (cDr g m2 p (c + 1)).map zbV) _ (by simp [upd, GH]) (.refl _) (.refl _ _ _ _) (by simp [go_sem, zbV]) ?_ ?_
       ·repeat first|refine wV fun _=>?_|simp [go_sem, GH]
        refine zxL (hrec (d - 1) (by omega) (c + 1) (by omega)) ?_ (by simp)
        simp [go_sem, zah, GH, hgh]
       ·repeat first|refine wV fun _=>?_|simp [go_sem, GH]
      ·rw [if_neg (fun h => hkp h.2)] at hgo
       rw [hgo]
       repeat first|refine wV fun _=>?_|simp [go_sem, GH, hm0, hmk', hgk, hkp]
       refine zxL (hrec (d - 1) (by omega) (c + 1) (by omega)) ?_ (by simp)
       simp [go_sem, zah, GH, hgh]
     ·rw [if_neg (fun h => hms h.1)] at hgo
      rw [hgo]
      simp only [Prod.mk.injEq] at hman
      have hmk' : m1.toNat < g.kinds.length := by have := hg.k1; omega
      have hgk : nth (g.kinds.map zaU) m1.toNat = zaU (nth g.kinds m1.toNat) := zbK _ _ _ hmk'
      repeat first|refine wV fun _=>?_|simp [go_sem, GH, hms, hgk]
      refine zxL (hrec (d - 1) (by omega) (c + 1) (by omega)) ?_ (by simp)
      simp [go_sem, zah, GH, hgh]
    ·obtain rfl : c = p.at_.length := by omega
     rw [zwQ]
     repeat first|refine wV fun _=>?_|simp [go_sem, GH]
   ·omega
   ·simp [go_sem, zah, GH, hgh]
   ·simp
 ·omega
 ·simp [go_sem, zah, GH, hgh, heb]
 ·simp
theorem zgu {α : Type} [Inhabited α] {l : List α} {i : Nat} (h : i < l.length) : l.take (i + 1) = l.take i ++ [nth l i] := by
 rw [List.take_add_one, List.getElem?_eq_getElem h, zaB _ _ h]; rfl
theorem ziE (l : List zag) (hl : l.length ≤ 17179869184) (f : FuncId) (caps : List AV) (C : zlk Tryz.prog f caps 0 (l.map zbV)) (hb' : ∀ c ∈ caps, Bel 0 c) :
  zaS Tryz.prog 201 [zxT, .fn (.func f) [] caps] (zaP l) := by
 refine pF Tryz.func201 ?_
 have hbn : ∀ n, (∀ c ∈ caps, Bel n c) = True := fun n => eq_true fun c hc => (hb' c hc).mono (Nat.zero_le n)
 obtain ⟨tk, htk⟩ : ∃ tk : Nat → List zag, ∀ k, tk k = l.take k := ⟨_, fun _ => rfl⟩
 have htl : ∀ k, k ≤ l.length → (tk k).length = k := fun k hk => by rw [htk]; simp; omega
 have hts : ∀ k, k < l.length → tk (k + 1) = tk k ++ [nth l k] := fun k hk => by rw [htk, htk]; exact zgu hk
 have ht0 : tk 0 = [] := by rw [htk]; rfl
 have hta : tk l.length = l := by rw [htk, List.take_length]
 clear htk
 repeat first|refine wV fun _=>?_|simp [go_sem, GH]
 refine zdz.mk caps _ C (.refl _) (.refl _ _ _ _) hb' (fun xs hx => by obtain ⟨y, _, rfl⟩ := List.mem_map.1 hx; rfl) ?_
 refine Fgt.to (zx2 (α := Nat) (fun k => ([(2, .ref 0 0 1 0 0)], [(0, .rows true 0 1 [[.sl 1 k 5 0 k]]), (1, .rows true k 5 ((tk k).map zad))], 2))
  (fun rows k => rows = (l.drop k).map zbV ∧ k ≤ l.length) ?_ ?_ _ 0 ?_) ?_ ?_
 ·rintro k ⟨i1, i2⟩
  have hk : k = l.length := by
   have := congrArg List.length i1
   simp at this
   omega
  subst hk
  refine ⟨rfl, ?_⟩
  rw [hta]
  repeat first|refine wV fun _=>?_|simp [go_sem, GH]
  exact frX
 ·rintro xs rs k ⟨i1, i2⟩ hrec
  have hk : k < l.length := by
   have := congrArg List.length i1
   simp at this
   omega
  rw [zaQ hk, List.map_cons, List.cons.injEq] at i1
  obtain ⟨rfl, rfl⟩ := i1
  have hts := hts k hk
  have hkl := htl k i2
  generalize hrs : (l.drop (k + 1)).map zbV = rs at *
  refine zx5 (Nat.zero_le _) ?_
  repeat first|refine wV fun _=>?_|simp [go_sem, GH, zbV, hkl]
  refine Fgt.to (hrec (k + 1) ⟨hrs.symm, by omega⟩) ?_ (by simp)
  simp [go_sem, zah, GH, hts, hkl]
 ·exact ⟨by simp, by omega⟩
 ·simp [go_sem, zah, GH, ht0]
 ·simp
theorem zlf (l : List zag) (hl : l.length ≤ 17179869184) (f : FuncId) (caps : List AV) (C : zlk Tryz.prog f caps 0 (l.map zbV)) (hb' : ∀ c ∈ caps, Bel 0 c) :
  zaS Tryz.prog 151 [.fn (.func f) [] caps] (zaP l) := by
 refine pF Tryz.func151 ?_
 have hA := ziE l hl f caps C hb'
 have hbn : ∀ n, (∀ c ∈ caps, Bel n c) = True := fun n => eq_true fun c hc => (hb' c hc).mono (Nat.zero_le n)
 repeat first|refine wV fun _=>?_|simp [go_sem]
 refine zxM hA (by simp [go_sem, hbn]) ?_
 repeat first|refine wV fun _=>?_|simp [go_sem]
theorem SzP.fits {g : zae} (hg : GOk g) {q : zag} (h : SzP g q) : za3 q := by
 have := hg.c9
 have := hg.k6
 obtain ⟨h1, h2, h3⟩ := h
 refine ⟨?_, ?_, ?_⟩ <;> unfold zeh <;> omega
theorem zhA (g : zae) (hg : GOk g) (hs : zcF g) (p : zag) (hp : POk g p) : zaS Tryz.prog 100 [.agg (zaf g), .agg (zbZ (zdt g)), .agg (zad p)] (.tup [zaP (zdA g p).1, .v (.int .i64 (zdA g p).2)]) := by
 refine pF Tryz.func100 ?_
 have hO : zgB Tryz.prog 152 [.agg (zaf g), .agg (zbZ (zdt g)), .agg (zad p)] (fun n => zlK n) (fun n => [(n, .rows true 0 9 [zaf g]), (n + 1, .rows true 0 2 [zbZ (zdt g)]), (n + 2, .rows true 0 5 [zad p]), (n + 3, .rows true 0 1 [[.v (.int .i64 (1 - p.side))]])]) 4 := zp8 g (zdt g) p hp.s
 simp only [zlK] at hO
 have hQ := zsf g hg p hp (1 - p.side) (by have := hp.s; omega)
 change zlk _ _ _ _ ((zcG g p).map zbV) at hQ
 have hcl := zp7 hg hs hp
 have hsz := (zuM hg hp).1
 have hCo := zlf (zcG g p) (by omega) _ _ hQ (by simp [go_sem])
 have hSo := zc4 (zcG g p) (by omega) (fun q hq => (hsz q hq).fits hg)
 have hsl : (zbj zbw (zcG g p)).length ≤ 35831817 := Nat.le_trans (zd9 _ _) hcl
 have hszS : ∀ q ∈ zbj zbw (zcG g p), za3 q := fun q hq => (hsz q (zaV.1 hq)).fits hg
 have hall := zuy g p
 have hbs := fun i h => zrY (g := g) (p := p) (l := zbj zbw (zcG g p)) (i := i) h
 have hb0 := zrZ g p (zbj zbw (zcG g p))
 have hbl := zuz g p (zbj zbw (zcG g p))
 have hV := fun q hq => zja g (by have := hg.k6; unfold zf2; omega) ⟨hg.r0, by have := hg.r4; omega⟩ q (hszS q hq)
 have hL := fun q (hq : zeA g q = true) => zpo g hg q (zkY.1 hq) p (hp.fits hg)
 have hBe : zdA g p = if 4000 < (zap g p).length then ([], 2) else (zap g p, 0) := rfl
 rw [← hall] at hBe
 rw [hBe]
 clear hall hBe hsz
 generalize zrX g p (zbj zbw (zcG g p)) = bI at *
 generalize zbj zbw (zcG g p) = S at *
 repeat first|refine wV fun _=>?_|simp [go_sem]
 refine zxQ hO (by simp [go_sem]) ?_
 repeat first|refine wV fun _=>?_|simp [go_sem]
 refine zxW [3, 4, 5, 6] hCo ?_ (by simp [go_sem]) ?_
 ·refine zam.cons (.fn .nil (zam.cons (.frzP rfl ?_ ?_ ?_ ?_) (zam.cons (.frzP rfl ?_ ?_ ?_ ?_) (zam.cons (.frzP rfl ?_ ?_ ?_ ?_) (zam.cons (.frzP rfl ?_ ?_ ?_ ?_) .nil))))) .nil <;> first | exact zam.refl _ _ _ _ | (simp [zbp, zbP, upd]; done)
 repeat first|refine wV fun _=>?_|simp [go_sem]
 refine zxM hSo (by simp [go_sem]) ?_
 repeat first|refine wV fun _=>?_|simp [go_sem]
 refine zxL (zxP (α := Nat) (fun i => ⟨[(3, .ref 0 0 9 0 0), (5, .ref 2 0 5 0 0), (8, .sl 7 (bI i).length 5 0 (bI i).length), (16, zaP S), (17, .v (.int .i64 S.length)), (18, .v (.int .i64 i))], [(0, .rows true 0 9 [zaf g]), (2, .rows true 0 5 [zad p]), (7, .rows true (bI i).length 5 ((bI i).map zad))], 8⟩)
  (fun d i => i + d = S.length) ?_ S.length 0 ?_) ?_ ?_
 ·rintro d i i1 hrec
  have hbli := hbl i
  repeat first|refine wV fun _=>?_|simp [go_sem]
  refine zxN (fun hi => ?_) (fun hi => ?_) <;> simp at hi
  ·have hVi := hV _ (zaj hi)
   have hLi := hL (nth S i)
   have hbs := hbs i hi
   have hbls := hbl (i + 1)
   have hgi := zbK zad S i hi
   generalize nth S i = q at *
   generalize hok : zeA g q = ok at *
   repeat first|refine wV fun _=>?_|simp [go_sem, hi, hgi]
   refine zxM hVi (by simp [go_sem]) ?_
   repeat first|refine wV fun _=>?_|simp [go_sem]
   refine zyn (.v (.bool (decide (p ∈ zaZ g q)))) (fun h => hLi h) (by simp [go_sem]) ?_
   by_cases hm : p ∈ zaZ g q
   ·cases ok
    ·rw [if_neg (by simp)] at hbs
     repeat first|refine wV fun _=>?_|simp [go_sem, hm]
     refine zxL (hrec (d - 1) (by omega) (i + 1) (by omega)) ?_ (by simp)
     simp [go_sem, zah, hbs]
    ·rw [if_pos ⟨rfl, hm⟩] at hbs
     repeat first|refine wV fun _=>?_|simp [go_sem, hm]
     refine zxL (hrec (d - 1) (by omega) (i + 1) (by omega)) ?_ (by simp)
     simp [go_sem, zah, hbs]
   ·rw [if_neg (fun h => hm h.2)] at hbs
    cases ok
    ·repeat first|refine wV fun _=>?_|simp [go_sem, hm]
     refine zxL (hrec (d - 1) (by omega) (i + 1) (by omega)) ?_ (by simp)
     simp [go_sem, zah, hbs]
    ·repeat first|refine wV fun _=>?_|simp [go_sem, hm]
     refine zxL (hrec (d - 1) (by omega) (i + 1) (by omega)) ?_ (by simp)
     simp [go_sem, zah, hbs]
  ·obtain rfl : i = S.length := by omega
   generalize bI S.length = bl at *
   repeat first|refine wV fun _=>?_|simp [go_sem]
   refine zxN (fun hbig => ?_) (fun hbig => ?_) <;> simp at hbig
   ·rw [if_pos (by omega)]
    repeat first|refine wV fun _=>?_|simp [go_sem]
   ·rw [if_neg (by omega)]
    repeat first|refine wV fun _=>?_|simp [go_sem]
    exact frX
 ·omega
 ·simp [go_sem, zah, hb0]
 ·simp
theorem zrg (g : zae) (hg : GOk g) (hs : zcF g) (p : zag) (hp : POk g p) : zaS Tryz.prog 47 [.agg (zaf g), .agg (zad p)] (.tup [zaP (zdA g p).1, .v (.int .i64 (zdA g p).2)]) := by
 refine pF Tryz.func47 ?_
 have hC := zgA g hg
 have hB := zhA g hg hs p hp
 generalize zdA g p = v at *
 generalize zdt g = cd at *
 repeat first|refine wV fun _=>?_|simp [go_sem]
 refine zxO hC (by simp [go_sem]) ?_
 repeat first|refine wV fun _=>?_|simp [go_sem]
 refine zxO hB (by simp [go_sem]) ?_
 repeat first|refine wV fun _=>?_|simp [go_sem]
theorem zpj (g : zae) (hg : GOk g) (hs : zcF g) (p : zag) (hp : POk g p) (n : Int) : zaS Tryz.prog 86 [.agg (zaf g), .agg (zad p), .v (.int .i64 n)] (.tup [zaP (zdB g p n).1, .v (.int .i64 (zdB g p n).2)]) := by
 refine pF Tryz.func86 ?_
 have hC := zgA g hg
 have hB := fun q hq => zhA g hg hs q hq
 have hBs := fun q => zux (g := g) (p := q)
 have hBb := fun q => zrW (g := g) (p := q)
 have hbo := fun q r (h : r ∈ zap g q) => zc1 hg h
 have hfit := fun r (h : POk g r) => h.fits hg
 have hcb : ∀ n, (∀ c ∈ zbZ (zdt g), Bel n c) = True := fun n => by simp [go_sem]
 have hcl : (zbZ (zdt g)).length = 2 := rfl
 have hgb : ∀ n, (∀ c ∈ zaf g, Bel n c) = True := fun n => by simp [go_sem]
 have hgl : (zaf g).length = 9 := rfl
 generalize zbZ (zdt g) = ec at *
 obtain ⟨eg, heg⟩ : ∃ eg, eg = zaf g := ⟨_, rfl⟩
 rw [← heg] at hC hgb hgl
 simp only [← heg] at hB
 rw [← heg]
 clear heg
 have hcv : zdB g p n = if n < 0 ∨ 6 < n then ([], 1) else zbO g n.toNat [p] := rfl
 repeat first|refine wV fun _=>?_|simp [go_sem, hgl]
 by_cases hn : n < 0
 ·rw [if_pos (.inl hn)] at hcv
  rw [hcv]
  have hn2 : ¬ 0 ≤ n := by omega
  repeat first|refine wV fun _=>?_|simp [go_sem, hn]
 ·by_cases hn6 : 6 < n
  ·rw [if_pos (.inr hn6)] at hcv
   rw [hcv]
   repeat first|refine wV fun _=>?_|simp [go_sem, hn, hn6]
  ·rw [if_neg (by omega)] at hcv
   obtain ⟨m, rfl⟩ : ∃ m : Nat, n = m := ⟨n.toNat, by omega⟩
   rw [Int.toNat_natCast] at hcv
   rw [hcv]
   obtain ⟨R, hR⟩ : ∃ R, R = zbO g m [p] := ⟨_, rfl⟩
   rw [← hR]
   repeat first|refine wV fun _=>?_|simp [go_sem, hn, hn6, hgl]
   refine zxO hC (by simp [go_sem, hgb]) ?_
   repeat first|refine wV fun _=>?_|simp [go_sem, hgl, hcl]
   refine zxL (zxP (α := Nat × List zag) (fun a => ⟨[(3, .ref 0 0 9 0 0), (8, .ref 6 0 2 0 0), (9, zaP a.2), (25, .v (.int .i64 m)), (26, .v (.int .i64 a.1))], [(0, .rows true 0 9 [eg]), (6, .rows true 0 2 [ec])], 7⟩)
    (fun d a => a.1 + d = m ∧ R = zbO g d a.2 ∧ (∀ q ∈ a.2, POk g q) ∧ a.2.length ≤ 4000) ?_ m (0, [p]) ?_) ?_ ?_
   ·rintro d ⟨i, L⟩ ⟨i1, i2, i3, i4⟩ hrec
    simp only at i1 i2 i3 i4
    repeat first|refine wV fun _=>?_|simp [go_sem, hgl, hcl]
    refine zxN (fun hi => ?_) (fun hi => ?_) <;> simp at hi
    ·obtain ⟨d, rfl⟩ : ∃ d', d = d' + 1 := ⟨d - 1, by omega⟩
     have hns := fun k hk => zmB g (l := L) (k := k) hk
     have hn0 := zmC g L
     have hna := zoX g L
     have hnl := fun k h => zoY (g := g) (l := L) (k := k) h
     have hno := fun k => ztf (k := k) hg (l := L)
     have hbad := fun q hq h => zsj (g := g) (n := d) (l := L) (q := q) hq h
     have hgo := fun h => zuQ (g := g) (n := d) (l := L) h
     generalize zlc g L = nx at *
     have hb4 : L.length * 4000 ≤ 4000 * 4000 := Nat.mul_le_mul_right _ i4
     repeat first|refine wV fun _=>?_|simp [go_sem, hgl, hcl]
     refine zxL (zxP (α := Nat) (fun k => ⟨[(3, .ref 0 0 9 0 0), (8, .ref 6 0 2 0 0), (10, .sl 7 k 5 0 (nx k).length), (25, .v (.int .i64 m)), (26, .v (.int .i64 i)), (28, zaP L), (29, .v (.int .i64 L.length)), (30, .v (.int .i64 k))], [(0, .rows true 0 9 [eg]), (6, .rows true 0 2 [ec]), (7, .rows true k 5 ((nx k).map zad))], 8⟩)
      (fun d k => k + d = L.length ∧ ∀ j, j < k → j < L.length → (zap g (nth L j)).length ≤ 4000) ?_ L.length 0 ?_) ?_ ?_
     ·rintro d2 k ⟨k1, k2⟩ hrec2
      have hnk := hnl k k2
      repeat first|refine wV fun _=>?_|simp [go_sem, hgl, hcl]
      refine zxN (fun hk => ?_) (fun hk => ?_) <;> simp at hk
      ·have hq := i3 _ (zaj hk)
       have hBq := hB _ hq
       have hns := hns k hk
       have hgk := zbK zad L k hk
       have hmq := zaj hk
       have hxs := hBs (nth L k)
       have hxb := hBb (nth L k)
       have hlk : ∀ j, j < k + 1 → j < L.length → (zap g (nth L k)).length ≤ 4000 → (zap g (nth L j)).length ≤ 4000 := fun j hj hj2 h => by
        rcases Nat.lt_or_ge j k with h1 | h1
        ·exact k2 j h1 hj2
        ·obtain rfl : j = k := by omega
         exact h
       generalize nth L k = q at *
       generalize hbq : zap g q = bq at *
       by_cases hbig : 4000 < bq.length
       ·have hx := hxb hbig
        have hR2 := hbad q hmq (by rw [hbq]; exact hbig)
        rw [hx] at hBq
        rw [hR2] at i2
        repeat first|refine wV fun _=>?_|simp [go_sem, hgl, hcl, hk, hgk]
        refine zxM hBq (by simp [go_sem, hgb, hcb]) ?_
        repeat first|refine wV fun _=>?_|simp [go_sem, hgl, hcl]
        rw [i2]
        repeat first|refine wV fun _=>?_|simp [go_sem]
       ·have hx := hxs (by omega)
        rw [hx] at hBq
        repeat first|refine wV fun _=>?_|simp [go_sem, hgl, hcl, hk, hgk]
        refine zxM hBq (by simp [go_sem, hgb, hcb]) ?_
        repeat first|refine wV fun _=>?_|simp [go_sem, hgl, hcl]
        refine zxL (hrec2 (d2 - 1) (by omega) (k + 1) ⟨by omega, fun j hj hj2 => hlk j hj hj2 (by omega)⟩) ?_ (by simp)
        simp [go_sem, zah, hgb, hcb, hns]
      ·obtain rfl : k = L.length := by omega
       have hR2 := hgo fun q hq => by
        obtain ⟨j, hj, rfl⟩ := zkT hq
        exact k2 j hj hj
       rw [← hna] at hR2
       have hnok := hno L.length
       have hSo := zc4 (nx L.length) (by omega) (fun q hq => hfit q (hnok q hq))
       have hsl := zd9 zbw (nx L.length)
       have hsm : ∀ q ∈ zbj zbw (nx L.length), POk g q := fun q hq => hnok q (zaV.1 hq)
       generalize nx L.length = nl at *
       generalize zbj zbw nl = sl at *
       rw [hR2] at i2
       repeat first|refine wV fun _=>?_|simp [go_sem, hgl, hcl]
       refine zxW [7] hSo ?_ (by simp [go_sem]) ?_
       ·(first|done|exact agX)
       repeat first|refine wV fun _=>?_|simp [go_sem, hgl, hcl]
       refine zxN (fun hb => ?_) (fun hb => ?_) <;> simp at hb
       ·rw [if_pos (by omega)] at i2
        rw [i2]
        repeat first|refine wV fun _=>?_|simp [go_sem]
       ·rw [if_neg (by omega)] at i2
        repeat first|refine wV fun _=>?_|simp [go_sem, hgl, hcl]
        refine zxL (hrec d (by omega) (i + 1, sl) ⟨by simp only; omega, i2, hsm, by simp only; omega⟩) ?_ (by simp)
        simp [go_sem, zah, hgb, hcb]
     ·exact ⟨by omega, fun j hj => by omega⟩
     ·simp [go_sem, zah, hgb, hcb, hn0]
     ·simp
    ·obtain rfl : d = 0 := by omega
     rw [show zbO g 0 L = (L, 0) from rfl] at i2
     rw [i2]
     repeat first|refine wV fun _=>?_|simp [go_sem]
   ·exact ⟨by omega, hR, by simpa using hp, by simp⟩
   ·simp [go_sem, zah, hgb, hcb]
    exact frX
   ·simp
def zcA (b : List zag × Int) : AV := .agg [zaP b.1, .v (.int .i64 b.2)]
theorem zeL (a b : List zag × Int) (ha : a.1.length ≤ 17179869184) (hb : b.1.length ≤ 17179869184) (hfa : ∀ p ∈ a.1, za3 p) (hfb : ∀ p ∈ b.1, za3 p) : zaS Tryz.prog 30 [zcA a, zcA b] (.v (.bool (decide (a = b)))) := by
 refine pF Tryz.func30 ?_
 obtain ⟨al, ae⟩ := a
 obtain ⟨bl, be⟩ := b
 have hS := ze1 al bl ha hb hfa hfb
 have e : decide ((al, ae) = (bl, be)) = (decide (al = bl) && decide (ae = be)) := by
  rw [← Bool.decide_and]
  exact decide_eq_decide.2 (by simp)
 rw [e]
 generalize decide (al = bl) = t at *
 repeat first|refine wV fun _=>?_|simp [go_sem, zcA]
 refine zxM hS (by simp [go_sem]) ?_
 cases t
 ·repeat first|refine wV fun _=>?_|simp [go_sem]
 ·repeat first|refine wV fun _=>?_|simp [go_sem]
theorem znh (x : zf0) (hx : zlo x) (hl : x.c.length ≤ 1099511627776) (hl0 : x.k0.length ≤ 1099511627776) (hl1 : x.k1.length ≤ 1099511627776) : zaS Tryz.prog 15 [.agg (zcT x)] (.agg (zaf (zeX x))) := by
 refine pF Tryz.func15 ?_
 obtain ⟨eg, heg⟩ : ∃ eg, eg = zaf (zeX x) := ⟨_, rfl⟩
 rw [← heg]
 have hB := zng x.w x.h x.cut hx.w hx.h hx.cut
 have hok := zgD hx.w.1 hx.h.1 x.cut
 have hb : zdK x.w x.h x.cut = x.board := rfl
 rw [hb] at hB hok
 have r0 := Int.tmod_nonneg 3 hx.f0.1
 have r1 := Int.tmod_lt_of_pos x.f0 (show (0 : Int) < 3 by decide)
 have f0 : 0 ≤ x.f0 ∧ x.f0 ≤ 255 := hx.f0
 have f1 : 0 ≤ x.f1 ∧ x.f1 ≤ 255 := hx.f1
 have f2 : 0 ≤ x.f2 ∧ x.f2 ≤ 255 := hx.f2
 have f3 : 0 ≤ x.f3 ∧ x.f3 ≤ 255 := hx.f3
 have f4 : 0 ≤ x.f4 ∧ x.f4 ≤ 255 := hx.f4
 have m1 := Int.tmod_nonneg 4 hx.f1.1
 have m3 := Int.tmod_nonneg 4 hx.f3.1
 have m4 := Int.tmod_nonneg 4 hx.f4.1
 have qq : ∀ n : Int, U8 n → (0 ≤ n.tdiv 4 ∧ n.tdiv 4 ≤ 63) ∧ 0 ≤ (n.tdiv 4).tmod 3 ∧ (n.tdiv 4).tmod 3 < 3 := fun n hn => by
  have h : n.tdiv 4 = n / 4 := Int.tdiv_eq_ediv_of_nonneg hn.1
  have h1 := hn.1
  have h2 := hn.2
  have h3 := Int.tmod_nonneg 3 (show 0 ≤ n.tdiv 4 by omega)
  have h4 := Int.tmod_lt_of_pos (n.tdiv 4) (show (0 : Int) < 3 by decide)
  omega
 obtain ⟨q3, q3'⟩ := qq _ hx.f3
 obtain ⟨q4, q4'⟩ := qq _ hx.f4
 obtain ⟨bl, hbl⟩ : ∃ bl, bl = if x.f3.tmod 4 = 3 then 1 + (x.f3.tdiv 4).tmod 3 else 3 := ⟨_, rfl⟩
 obtain ⟨en, hen⟩ : ∃ en, en = if x.f4.tmod 4 = 3 then 1 + (x.f4.tdiv 4).tmod 3 else 2 := ⟨_, rfl⟩
 obtain ⟨R, hR⟩ : ∃ R, R = x.rights := ⟨_, rfl⟩
 have hR' : x.f0.tmod 3 = R := by rw [hR]; rfl
 obtain ⟨b, hbb⟩ : ∃ b, b = x.board := ⟨_, rfl⟩
 rw [← hbb] at hB hok
 repeat first|refine wV fun _=>?_|simp [go_sem]
 refine zxO hB (by simp [go_sem]) ?_
 repeat first|refine wV fun _=>?_|simp [go_sem, hR']
 have hd8 : b.next.length = 8 := by rw [hbb]; exact zjE _ _ _
 have hcell : 1 ≤ b.cells ∧ b.cells ≤ 9 := by rw [hbb]; exact zh3 hx.w.1 hx.h.1 _
 obtain ⟨K, hK⟩ : ∃ K : Nat, K = zch x := ⟨_, rfl⟩
 have hKn : zch x = if x.k1.length = 0 then 1 else 2 := by unfold zch; simp only [List.length_eq_zero_iff]
 have hKl : ∀ i, (x.ks i).length ≤ 1099511627776 := fun i => by unfold zf0.ks; split <;> assumption
 have hKv : ∀ i, ∀ n ∈ x.ks i, U8 n := fun i => by unfold zf0.ks; split; exact hx.k0; exact hx.k1
 refine zxN (fun hk1 => ?_) (fun hk1 => ?_) <;> simp at hk1
 ·have hK2 : zch x = 2 := by rw [hKn, if_neg (by omega)]
  rw [hK2] at hK
  repeat first|refine wV fun _=>?_|simp [go_sem]
  refine zxL (zxP (α := Nat) (fun a => ⟨[(1, .ref 0 0 12 0 0), (2, .ref 1 0 9 0 0), (3, .ref 20 0 9 0 0), (4, .v (.int .i64 K)), (5, .v (.int .i64 a))],
   [(0, .rows true 0 12 [zcT x]), (1, .rows true 0 9 [[.v (.int .i64 0), zxT, zxT, zxT, .v (.int .i64 0), .v (.bool false), zxT, .v (.int .i64 0), .v (.int .i64 0)]]), (20, .rows true 0 9 [[.v (.int .i64 b.cells), zbX b.next, zar b.turn, .sl 22 a 3 0 a, .v (.int .i64 R), .v (.bool (decide (x.f1.tmod 4 = 3))), zxT, .v (.int .i64 3), .v (.int .i64 2)]]), (22, .rows true a 3 (ksR x a))], 23⟩)
   (fun d a => a + d = K) ?_ K 0 ?_) ?_ ?_
  ·rintro d0 i i1 hrec
   repeat first|refine wV fun _=>?_|simp [go_sem]
   refine zxN (fun hi => ?_) (fun hi => ?_) <;> simp at hi
   ·have hi2 : i = 0 ∨ i = 1 := by omega
    have hkl := hKl i
    have hkv := hKv i
    have hks : zdI x i = ⟨if i = 0 then zn9 else zoa, ((x.ks i).take 4).map (fun n => ziZ n b.next.length K x.rights), zsb x.f2 i⟩ := by rw [hbb, hK, ← hK2]; rfl
    rcases hi2 with rfl | rfl
    ·obtain ⟨kk, hkk⟩ : ∃ kk, kk = x.ks 0 := ⟨_, rfl⟩
     have hk0 : x.k0 = kk := hkk.symm
     rw [← hkk] at hkl hkv hks
     have hbit : zsb x.f2 0 = decide (ziC .u8 x.f2 1 = 1) := by simp [zsb]
     obtain ⟨f, hf⟩ : ∃ f, f = (fun n => ziZ n b.next.length K x.rights) := ⟨_, rfl⟩
     have hfp : ∀ n, U8 n → zaS Tryz.prog 67 [.v (.int .u8 n), .v (.int .i64 b.next.length), .v (.int .i64 K), .v (.int .i64 R)] (zaD (f n)) := fun n hn => by
      rw [hf, ← hR]; exact zdT n _ _ _ hn (by omega) (by omega) (by omega)
     rw [← hf, hbit] at hks
     repeat first|refine wV fun _=>?_|simp [go_sem, hk0]
     refine zxL (zxP (α := Nat) (fun n => ⟨[(1, .ref 0 0 12 0 0), (2, .ref 1 0 9 0 0), (3, .ref 20 0 9 0 0), (4, .v (.int .i64 K)), (5, .v (.int .i64 0)), (6, .ref 35 0 3 0 0), (7, .v (.int .i64 n))],
      [(0, .rows true 0 12 [zcT x]), (1, .rows true 0 9 [[.v (.int .i64 0), zxT, zxT, zxT, .v (.int .i64 0), .v (.bool false), zxT, .v (.int .i64 0), .v (.int .i64 0)]]), (20, .rows true 0 9 [[.v (.int .i64 b.cells), zbX b.next, zar b.turn, .sl 22 0 3 0 0, .v (.int .i64 R), .v (.bool (decide (x.f1.tmod 4 = 3))), zxT, .v (.int .i64 3), .v (.int .i64 2)]]), (22, .rows true 0 3 (ksR x 0)), (35, .rows true 0 3 [[.v (.string ⟨#[97]⟩), .sl 37 n 1 0 n, .v (.bool (decide (ziC .u8 x.f2 1 = 1)))]]), (37, .rows true n 1 (psR f kk n))], 38⟩)
      (fun d n => n + d = min kk.length 4) ?_ (min kk.length 4) 0 ?_) ?_ ?_
     ·rintro d n n1 hrec1
      repeat first|refine wV fun _=>?_|simp [go_sem, hk0]
      refine zxN (fun hn => ?_) (fun hn => ?_) <;> simp at hn
      ·have hn1 : n < kk.length := by omega
       have hn2 := hkv _ (zaj hn1)
       have hpl := zeB f kk (n := n) (by omega)
       repeat first|refine wV fun _=>?_|simp [go_sem, hk0, hn1]
       refine zxO (hfp _ hn2) (by simp [go_sem]) ?_
       repeat first|refine wV fun _=>?_|simp [go_sem, hk0, hn1, hpl]
       refine zxL (hrec1 (d - 1) (by omega) (n + 1) (by omega)) ?_ (by simp)
       simp [go_sem, zah, hk0, zhi f kk hn1]
      ·have hne : n = min kk.length 4 := by omega
       repeat first|refine wV fun _=>?_|simp [go_sem]
       refine zxL (hrec (d0 - 1) (by omega) (0 + 1) (by omega)) ?_ (by simp)
       have hkx : ztX (zdI x 0) = [.v (.string ⟨#[97]⟩), .lst 1 (psR f kk n), .v (.bool (decide (ziC .u8 x.f2 1 = 1)))] := by rw [hks, show psR f kk n = psR f kk (min kk.length 4) by rw [← hne]]; simp [ztX, zaU, psR, zn9, zoa, zaD]; omega
       have hpl := zeB f kk (n := n) (by omega)
       simp [go_sem, zah, hk0, zhh x 0, hkx]
       (try refine zat (.refl _) (.cons (.cons (.refl _) (.cons ?_ (.cons (.refl _) .nil))) .nil))
       refine LeV.frz rfl ?_ ?_ (zxV ?_) <;> simp [mkH, upd, hpl, List.take_of_length_le]
     ·omega
     ·simp [go_sem, zah, hk0]
     ·simp
    ·obtain ⟨kk, hkk⟩ : ∃ kk, kk = x.ks 1 := ⟨_, rfl⟩
     have hk0 : x.k1 = kk := hkk.symm
     rw [← hkk] at hkl hkv hks
     have hbit : zsb x.f2 1 = decide (ziC .u8 (x.f2.fdiv 2) 1 = 1) := by simp [zsb]
     obtain ⟨f, hf⟩ : ∃ f, f = (fun n => ziZ n b.next.length K x.rights) := ⟨_, rfl⟩
     have hfp : ∀ n, U8 n → zaS Tryz.prog 67 [.v (.int .u8 n), .v (.int .i64 b.next.length), .v (.int .i64 K), .v (.int .i64 R)] (zaD (f n)) := fun n hn => by
      rw [hf, ← hR]; exact zdT n _ _ _ hn (by omega) (by omega) (by omega)
     rw [← hf, hbit] at hks
     repeat first|refine wV fun _=>?_|simp [go_sem, hk0]
     refine zxL (zxP (α := Nat) (fun n => ⟨[(1, .ref 0 0 12 0 0), (2, .ref 1 0 9 0 0), (3, .ref 20 0 9 0 0), (4, .v (.int .i64 K)), (5, .v (.int .i64 1)), (6, .ref 35 0 3 0 0), (7, .v (.int .i64 n))],
      [(0, .rows true 0 12 [zcT x]), (1, .rows true 0 9 [[.v (.int .i64 0), zxT, zxT, zxT, .v (.int .i64 0), .v (.bool false), zxT, .v (.int .i64 0), .v (.int .i64 0)]]), (20, .rows true 0 9 [[.v (.int .i64 b.cells), zbX b.next, zar b.turn, .sl 22 1 3 0 1, .v (.int .i64 R), .v (.bool (decide (x.f1.tmod 4 = 3))), zxT, .v (.int .i64 3), .v (.int .i64 2)]]), (22, .rows true 1 3 (ksR x 1)), (35, .rows true 0 3 [[.v (.string ⟨#[98, 101, 101]⟩), .sl 37 n 1 0 n, .v (.bool (decide (ziC .u8 (x.f2.fdiv 2) 1 = 1)))]]), (37, .rows true n 1 (psR f kk n))], 38⟩)
      (fun d n => n + d = min kk.length 4) ?_ (min kk.length 4) 0 ?_) ?_ ?_
     ·rintro d n n1 hrec1
      repeat first|refine wV fun _=>?_|simp [go_sem, hk0]
      refine zxN (fun hn => ?_) (fun hn => ?_) <;> simp at hn
      ·have hn1 : n < kk.length := by omega
       have hn2 := hkv _ (zaj hn1)
       have hpl := zeB f kk (n := n) (by omega)
       repeat first|refine wV fun _=>?_|simp [go_sem, hk0, hn1]
       refine zxO (hfp _ hn2) (by simp [go_sem]) ?_
       repeat first|refine wV fun _=>?_|simp [go_sem, hk0, hn1, hpl]
       refine zxL (hrec1 (d - 1) (by omega) (n + 1) (by omega)) ?_ (by simp)
       simp [go_sem, zah, hk0, zhi f kk hn1]
      ·have hne : n = min kk.length 4 := by omega
       repeat first|refine wV fun _=>?_|simp [go_sem]
       refine zxL (hrec (d0 - 1) (by omega) (1 + 1) (by omega)) ?_ (by simp)
       have hkx : ztX (zdI x 1) = [.v (.string ⟨#[98, 101, 101]⟩), .lst 1 (psR f kk n), .v (.bool (decide (ziC .u8 (x.f2.fdiv 2) 1 = 1)))] := by rw [hks, show psR f kk n = psR f kk (min kk.length 4) by rw [← hne]]; simp [ztX, zaU, psR, zn9, zoa, zaD]; omega
       have hpl := zeB f kk (n := n) (by omega)
       simp [go_sem, zah, hk0, zhh x 1, hkx]
       (try refine zat (.refl _) (.cons (.cons (.refl _) (.cons ?_ (.cons (.refl _) .nil))) .nil))
       refine LeV.frz rfl ?_ ?_ (zxV ?_) <;> simp [mkH, upd, hpl, List.take_of_length_le]
     ·omega
     ·simp [go_sem, zah, hk0]
     ·simp
   ·have hiK : i = K := by omega
    subst hiK
    repeat first|refine wV fun _=>?_|simp [go_sem]
    refine zxN (fun hb3 => ?_) (fun hb3 => ?_) <;> simp at hb3 <;> (repeat (first|refine wV fun _=>?_|simp [go_sem]))
    all_goals refine zxN (fun hb4 => ?_) (fun hb4 => ?_) <;> simp at hb4 <;> (repeat (first|refine wV fun _=>?_|simp [go_sem]))
    all_goals (
     refine zxL (zxP (α := Nat) (fun a => ⟨[(1, .ref 0 0 12 0 0), (2, .ref 1 0 9 0 0), (3, .ref 20 0 9 0 0), (4, .v (.int .i64 i)), (8, .v (.int .i64 a))],
      [(0, .rows true 0 12 [zcT x]), (1, .rows true 0 9 [[.v (.int .i64 0), zxT, zxT, zxT, .v (.int .i64 0), .v (.bool false), zxT, .v (.int .i64 0), .v (.int .i64 0)]]), (20, .rows true 0 9 [[.v (.int .i64 b.cells), zbX b.next, zar b.turn, .sl 22 i 3 0 i, .v (.int .i64 R), .v (.bool (decide (x.f1.tmod 4 = 3))), .sl 23 a 4 0 a, .v (.int .i64 bl), .v (.int .i64 en)]]), (22, .rows true i 3 (ksR x i)), (23, .rows true a 4 (clR b.cells i x.c a))], 24⟩)
      (fun d a => a + d = min x.c.length 3) ?_ (min x.c.length 3) 0 ?_) ?_ ?_
     ·rintro d j j1 hrec2
      repeat first|refine wV fun _=>?_|simp [go_sem]
      refine zxN (fun hj => ?_) (fun hj => ?_) <;> simp at hj
      ·have hj1 : j < x.c.length := by omega
       have hjc := hx.c _ (zaj hj1)
       have hpl := zkt b.cells i x.c (n := j) (by omega)
       have hsu := zoN b.cells i x.c hj1
       generalize hcx : nth x.c j = c at *
       obtain ⟨c0, c1, c2⟩ := c
       obtain ⟨u0, u1, u2⟩ := hjc
       obtain ⟨w0, w0'⟩ := qq _ u0
       obtain ⟨v0, v0'⟩ := u0
       obtain ⟨v1, v1'⟩ := u1
       obtain ⟨v2, v2'⟩ := u2
       simp only at v0 v0' v1 v1' v2 v2' w0 w0'
       have t0 := Int.tmod_nonneg 3 v0
       have t1 := Int.tmod_lt_of_pos c0 (show (0 : Int) < 3 by decide)
       have hip : (0 : Int) < i := by omega
       have k0 := Int.tmod_nonneg i v1
       have n0 := Int.tmod_nonneg b.cells v2
       have n1 := Int.tmod_nonneg 3 v2
       rcases (show c0.tmod 3 = 0 ∨ c0.tmod 3 = 1 ∨ c0.tmod 3 = 2 by omega) with ht | ht | ht
       ·have hr : zp6 (za8 b.cells i (c0, c1, c2)) = [.v (.int .i64 1), .v (.int .i64 (c1.tmod i)), .v (.int .i64 0), .v (.int .i64 (1 + (c0.tdiv 4).tmod 3))] := by simp [zp6, za8, zaR, ht]
        repeat first|refine wV fun _=>?_|simp [go_sem, hj1, hcx, ht, hpl]
        refine zxL (hrec2 (d - 1) (by omega) (j + 1) (by omega)) ?_ (by simp)
        simp [go_sem, zah, hsu, hr]
       ·have hr : zp6 (za8 b.cells i (c0, c1, c2)) = [.v (.int .i64 2), .v (.int .i64 (c1.tmod i)), .v (.int .i64 (c2.tmod b.cells)), .v (.int .i64 (1 + (c0.tdiv 4).tmod 3))] := by simp [zp6, za8, zaR, ht]
        repeat first|refine wV fun _=>?_|simp [go_sem, hj1, hcx, ht, hpl]
        refine zxL (hrec2 (d - 1) (by omega) (j + 1) (by omega)) ?_ (by simp)
        simp [go_sem, zah, hsu, hr]
       ·have hr : zp6 (za8 b.cells i (c0, c1, c2)) = [.v (.int .i64 3), .v (.int .i64 0), .v (.int .i64 (c2.tmod 3)), .v (.int .i64 (1 + (c0.tdiv 4).tmod 3))] := by simp [zp6, za8, zaR, ht]
        repeat first|refine wV fun _=>?_|simp [go_sem, hj1, hcx, ht, hpl]
        refine zxL (hrec2 (d - 1) (by omega) (j + 1) (by omega)) ?_ (by simp)
        simp [go_sem, zah, hsu, hr]
      ·have hki : zch x = i := by rw [hK2, hK]
       have hjm : j = min x.c.length 3 := by omega
       have htk : x.c.take (min x.c.length 3) = x.c.take 3 := by rw [List.take_eq_take_iff]; omega
       have hpl := zkt b.cells i x.c (n := j) (by omega)
       have hkl : (ksR x i).length = i := zsV x i
       have hcl : clR b.cells i x.c j = ((x.c.take 3).map (za8 b.cells i)).map zaR := by unfold clR; rw [hjm, htk]
       have hG : zeX x = { cells := b.cells, next := b.next, turn := b.turn, kinds := (List.range i).map (zdI x), rights := R, must := decide (x.f1.tmod 4 = 3), clauses := (x.c.take 3).map (za8 b.cells i), blocked := bl, endless := en } := by
        unfold zeX; rw [hki, ← hbb, ← hR, ← hbl, ← hen]
       have hEnc : eg = [.v (.int .i64 b.cells), zbX b.next, zar b.turn, .lst 3 (ksR x i), .v (.int .i64 R), .v (.bool (decide (x.f1.tmod 4 = 3))), .lst 4 (clR b.cells i x.c j), .v (.int .i64 bl), .v (.int .i64 en)] := by
        rw [heg, hG, hcl]; rfl
       repeat first|refine wV fun _=>?_|simp [go_sem]
       rw [hEnc]
       refine ⟨.cons (.refl _) (.cons (.refl _) (.cons (.refl _) (.cons (zaL rfl (by omega) (by simp [noH]) (by rw [List.drop_zero, List.take_of_length_le (by omega)])) (.cons (.refl _) (.cons (.refl _) (.cons (zaL rfl (by omega) (by simp [noH]) (by rw [List.drop_zero, List.take_of_length_le (by omega)])) (.cons (.refl _) (.cons (.refl _) .nil)))))))), ?_⟩
       intro c hc
       simp only [List.mem_cons, List.not_mem_nil, or_false] at hc
       rcases hc with rfl | rfl | rfl | rfl | rfl | rfl | rfl | rfl | rfl
       all_goals first | exact .v _ | simp [go_sem]
     ·omega
     ·simp [go_sem, zah, hbl, hen, hb3, hb4]
     ·simp)
  ·omega
  ·simp [go_sem, zah, hK]
  ·simp
 ·have hK2 : zch x = 1 := by rw [hKn, if_pos (by simp [hk1])]
  rw [hK2] at hK
  repeat first|refine wV fun _=>?_|simp [go_sem]
  refine zxL (zxP (α := Nat) (fun a => ⟨[(1, .ref 0 0 12 0 0), (2, .ref 1 0 9 0 0), (3, .ref 20 0 9 0 0), (4, .v (.int .i64 K)), (5, .v (.int .i64 a))],
   [(0, .rows true 0 12 [zcT x]), (1, .rows true 0 9 [[.v (.int .i64 0), zxT, zxT, zxT, .v (.int .i64 0), .v (.bool false), zxT, .v (.int .i64 0), .v (.int .i64 0)]]), (20, .rows true 0 9 [[.v (.int .i64 b.cells), zbX b.next, zar b.turn, .sl 22 a 3 0 a, .v (.int .i64 R), .v (.bool (decide (x.f1.tmod 4 = 3))), zxT, .v (.int .i64 3), .v (.int .i64 2)]]), (22, .rows true a 3 (ksR x a))], 23⟩)
   (fun d a => a + d = K) ?_ K 0 ?_) ?_ ?_
  ·rintro d0 i i1 hrec
   repeat first|refine wV fun _=>?_|simp [go_sem]
   refine zxN (fun hi => ?_) (fun hi => ?_) <;> simp at hi
   ·have hi2 : i = 0 ∨ i = 1 := by omega
    have hkl := hKl i
    have hkv := hKv i
    have hks : zdI x i = ⟨if i = 0 then zn9 else zoa, ((x.ks i).take 4).map (fun n => ziZ n b.next.length K x.rights), zsb x.f2 i⟩ := by rw [hbb, hK, ← hK2]; rfl
    rcases hi2 with rfl | rfl
    ·obtain ⟨kk, hkk⟩ : ∃ kk, kk = x.ks 0 := ⟨_, rfl⟩
     have hk0 : x.k0 = kk := hkk.symm
     rw [← hkk] at hkl hkv hks
     have hbit : zsb x.f2 0 = decide (ziC .u8 x.f2 1 = 1) := by simp [zsb]
     obtain ⟨f, hf⟩ : ∃ f, f = (fun n => ziZ n b.next.length K x.rights) := ⟨_, rfl⟩
     have hfp : ∀ n, U8 n → zaS Tryz.prog 67 [.v (.int .u8 n), .v (.int .i64 b.next.length), .v (.int .i64 K), .v (.int .i64 R)] (zaD (f n)) := fun n hn => by
      rw [hf, ← hR]; exact zdT n _ _ _ hn (by omega) (by omega) (by omega)
     rw [← hf, hbit] at hks
     repeat first|refine wV fun _=>?_|simp [go_sem, hk0]
     refine zxL (zxP (α := Nat) (fun n => ⟨[(1, .ref 0 0 12 0 0), (2, .ref 1 0 9 0 0), (3, .ref 20 0 9 0 0), (4, .v (.int .i64 K)), (5, .v (.int .i64 0)), (6, .ref 35 0 3 0 0), (7, .v (.int .i64 n))],
      [(0, .rows true 0 12 [zcT x]), (1, .rows true 0 9 [[.v (.int .i64 0), zxT, zxT, zxT, .v (.int .i64 0), .v (.bool false), zxT, .v (.int .i64 0), .v (.int .i64 0)]]), (20, .rows true 0 9 [[.v (.int .i64 b.cells), zbX b.next, zar b.turn, .sl 22 0 3 0 0, .v (.int .i64 R), .v (.bool (decide (x.f1.tmod 4 = 3))), zxT, .v (.int .i64 3), .v (.int .i64 2)]]), (22, .rows true 0 3 (ksR x 0)), (35, .rows true 0 3 [[.v (.string ⟨#[97]⟩), .sl 37 n 1 0 n, .v (.bool (decide (ziC .u8 x.f2 1 = 1)))]]), (37, .rows true n 1 (psR f kk n))], 38⟩)
      (fun d n => n + d = min kk.length 4) ?_ (min kk.length 4) 0 ?_) ?_ ?_
     ·rintro d n n1 hrec1
      repeat first|refine wV fun _=>?_|simp [go_sem, hk0]
      refine zxN (fun hn => ?_) (fun hn => ?_) <;> simp at hn
      ·have hn1 : n < kk.length := by omega
       have hn2 := hkv _ (zaj hn1)
       have hpl := zeB f kk (n := n) (by omega)
       repeat first|refine wV fun _=>?_|simp [go_sem, hk0, hn1]
       refine zxO (hfp _ hn2) (by simp [go_sem]) ?_
       repeat first|refine wV fun _=>?_|simp [go_sem, hk0, hn1, hpl]
       refine zxL (hrec1 (d - 1) (by omega) (n + 1) (by omega)) ?_ (by simp)
       simp [go_sem, zah, hk0, zhi f kk hn1]
      ·have hne : n = min kk.length 4 := by omega
       repeat first|refine wV fun _=>?_|simp [go_sem]
       refine zxL (hrec (d0 - 1) (by omega) (0 + 1) (by omega)) ?_ (by simp)
       have hkx : ztX (zdI x 0) = [.v (.string ⟨#[97]⟩), .lst 1 (psR f kk n), .v (.bool (decide (ziC .u8 x.f2 1 = 1)))] := by rw [hks, show psR f kk n = psR f kk (min kk.length 4) by rw [← hne]]; simp [ztX, zaU, psR, zn9, zoa, zaD]; omega
       have hpl := zeB f kk (n := n) (by omega)
       simp [go_sem, zah, hk0, zhh x 0, hkx]
       (try refine zat (.refl _) (.cons (.cons (.refl _) (.cons ?_ (.cons (.refl _) .nil))) .nil))
       refine LeV.frz rfl ?_ ?_ (zxV ?_) <;> simp [mkH, upd, hpl, List.take_of_length_le]
     ·omega
     ·simp [go_sem, zah, hk0]
     ·simp
    ·obtain ⟨kk, hkk⟩ : ∃ kk, kk = x.ks 1 := ⟨_, rfl⟩
     have hk0 : x.k1 = kk := hkk.symm
     rw [← hkk] at hkl hkv hks
     have hbit : zsb x.f2 1 = decide (ziC .u8 (x.f2.fdiv 2) 1 = 1) := by simp [zsb]
     obtain ⟨f, hf⟩ : ∃ f, f = (fun n => ziZ n b.next.length K x.rights) := ⟨_, rfl⟩
     have hfp : ∀ n, U8 n → zaS Tryz.prog 67 [.v (.int .u8 n), .v (.int .i64 b.next.length), .v (.int .i64 K), .v (.int .i64 R)] (zaD (f n)) := fun n hn => by
      rw [hf, ← hR]; exact zdT n _ _ _ hn (by omega) (by omega) (by omega)
     rw [← hf, hbit] at hks
     repeat first|refine wV fun _=>?_|simp [go_sem, hk0]
     refine zxL (zxP (α := Nat) (fun n => ⟨[(1, .ref 0 0 12 0 0), (2, .ref 1 0 9 0 0), (3, .ref 20 0 9 0 0), (4, .v (.int .i64 K)), (5, .v (.int .i64 1)), (6, .ref 35 0 3 0 0), (7, .v (.int .i64 n))],
      [(0, .rows true 0 12 [zcT x]), (1, .rows true 0 9 [[.v (.int .i64 0), zxT, zxT, zxT, .v (.int .i64 0), .v (.bool false), zxT, .v (.int .i64 0), .v (.int .i64 0)]]), (20, .rows true 0 9 [[.v (.int .i64 b.cells), zbX b.next, zar b.turn, .sl 22 1 3 0 1, .v (.int .i64 R), .v (.bool (decide (x.f1.tmod 4 = 3))), zxT, .v (.int .i64 3), .v (.int .i64 2)]]), (22, .rows true 1 3 (ksR x 1)), (35, .rows true 0 3 [[.v (.string ⟨#[98, 101, 101]⟩), .sl 37 n 1 0 n, .v (.bool (decide (ziC .u8 (x.f2.fdiv 2) 1 = 1)))]]), (37, .rows true n 1 (psR f kk n))], 38⟩)
      (fun d n => n + d = min kk.length 4) ?_ (min kk.length 4) 0 ?_) ?_ ?_
     ·rintro d n n1 hrec1
      repeat first|refine wV fun _=>?_|simp [go_sem, hk0]
      refine zxN (fun hn => ?_) (fun hn => ?_) <;> simp at hn
      ·have hn1 : n < kk.length := by omega
       have hn2 := hkv _ (zaj hn1)
       have hpl := zeB f kk (n := n) (by omega)
       repeat first|refine wV fun _=>?_|simp [go_sem, hk0, hn1]
       refine zxO (hfp _ hn2) (by simp [go_sem]) ?_
       repeat first|refine wV fun _=>?_|simp [go_sem, hk0, hn1, hpl]
       refine zxL (hrec1 (d - 1) (by omega) (n + 1) (by omega)) ?_ (by simp)
       simp [go_sem, zah, hk0, zhi f kk hn1]
      ·have hne : n = min kk.length 4 := by omega
       repeat first|refine wV fun _=>?_|simp [go_sem]
       refine zxL (hrec (d0 - 1) (by omega) (1 + 1) (by omega)) ?_ (by simp)
       have hkx : ztX (zdI x 1) = [.v (.string ⟨#[98, 101, 101]⟩), .lst 1 (psR f kk n), .v (.bool (decide (ziC .u8 (x.f2.fdiv 2) 1 = 1)))] := by rw [hks, show psR f kk n = psR f kk (min kk.length 4) by rw [← hne]]; simp [ztX, zaU, psR, zn9, zoa, zaD]; omega
       have hpl := zeB f kk (n := n) (by omega)
       simp [go_sem, zah, hk0, zhh x 1, hkx]
       (try refine zat (.refl _) (.cons (.cons (.refl _) (.cons ?_ (.cons (.refl _) .nil))) .nil))
       refine LeV.frz rfl ?_ ?_ (zxV ?_) <;> simp [mkH, upd, hpl, List.take_of_length_le]
     ·omega
     ·simp [go_sem, zah, hk0]
     ·simp
   ·have hiK : i = K := by omega
    subst hiK
    repeat first|refine wV fun _=>?_|simp [go_sem]
    refine zxN (fun hb3 => ?_) (fun hb3 => ?_) <;> simp at hb3 <;> (repeat (first|refine wV fun _=>?_|simp [go_sem]))
    all_goals refine zxN (fun hb4 => ?_) (fun hb4 => ?_) <;> simp at hb4 <;> (repeat (first|refine wV fun _=>?_|simp [go_sem]))
    all_goals (
     refine zxL (zxP (α := Nat) (fun a => ⟨[(1, .ref 0 0 12 0 0), (2, .ref 1 0 9 0 0), (3, .ref 20 0 9 0 0), (4, .v (.int .i64 i)), (8, .v (.int .i64 a))],
      [(0, .rows true 0 12 [zcT x]), (1, .rows true 0 9 [[.v (.int .i64 0), zxT, zxT, zxT, .v (.int .i64 0), .v (.bool false), zxT, .v (.int .i64 0), .v (.int .i64 0)]]), (20, .rows true 0 9 [[.v (.int .i64 b.cells), zbX b.next, zar b.turn, .sl 22 i 3 0 i, .v (.int .i64 R), .v (.bool (decide (x.f1.tmod 4 = 3))), .sl 23 a 4 0 a, .v (.int .i64 bl), .v (.int .i64 en)]]), (22, .rows true i 3 (ksR x i)), (23, .rows true a 4 (clR b.cells i x.c a))], 24⟩)
      (fun d a => a + d = min x.c.length 3) ?_ (min x.c.length 3) 0 ?_) ?_ ?_
     ·rintro d j j1 hrec2
      repeat first|refine wV fun _=>?_|simp [go_sem]
      refine zxN (fun hj => ?_) (fun hj => ?_) <;> simp at hj
      ·have hj1 : j < x.c.length := by omega
       have hjc := hx.c _ (zaj hj1)
       have hpl := zkt b.cells i x.c (n := j) (by omega)
       have hsu := zoN b.cells i x.c hj1
       generalize hcx : nth x.c j = c at *
       obtain ⟨c0, c1, c2⟩ := c
       obtain ⟨u0, u1, u2⟩ := hjc
       obtain ⟨w0, w0'⟩ := qq _ u0
       obtain ⟨v0, v0'⟩ := u0
       obtain ⟨v1, v1'⟩ := u1
       obtain ⟨v2, v2'⟩ := u2
       simp only at v0 v0' v1 v1' v2 v2' w0 w0'
       have t0 := Int.tmod_nonneg 3 v0
       have t1 := Int.tmod_lt_of_pos c0 (show (0 : Int) < 3 by decide)
       have hip : (0 : Int) < i := by omega
       have k0 := Int.tmod_nonneg i v1
       have n0 := Int.tmod_nonneg b.cells v2
       have n1 := Int.tmod_nonneg 3 v2
       rcases (show c0.tmod 3 = 0 ∨ c0.tmod 3 = 1 ∨ c0.tmod 3 = 2 by omega) with ht | ht | ht
       ·have hr : zp6 (za8 b.cells i (c0, c1, c2)) = [.v (.int .i64 1), .v (.int .i64 (c1.tmod i)), .v (.int .i64 0), .v (.int .i64 (1 + (c0.tdiv 4).tmod 3))] := by simp [zp6, za8, zaR, ht]
        repeat first|refine wV fun _=>?_|simp [go_sem, hj1, hcx, ht, hpl]
        refine zxL (hrec2 (d - 1) (by omega) (j + 1) (by omega)) ?_ (by simp)
        simp [go_sem, zah, hsu, hr]
       ·have hr : zp6 (za8 b.cells i (c0, c1, c2)) = [.v (.int .i64 2), .v (.int .i64 (c1.tmod i)), .v (.int .i64 (c2.tmod b.cells)), .v (.int .i64 (1 + (c0.tdiv 4).tmod 3))] := by simp [zp6, za8, zaR, ht]
        repeat first|refine wV fun _=>?_|simp [go_sem, hj1, hcx, ht, hpl]
        refine zxL (hrec2 (d - 1) (by omega) (j + 1) (by omega)) ?_ (by simp)
        simp [go_sem, zah, hsu, hr]
       ·have hr : zp6 (za8 b.cells i (c0, c1, c2)) = [.v (.int .i64 3), .v (.int .i64 0), .v (.int .i64 (c2.tmod 3)), .v (.int .i64 (1 + (c0.tdiv 4).tmod 3))] := by simp [zp6, za8, zaR, ht]
        repeat first|refine wV fun _=>?_|simp [go_sem, hj1, hcx, ht, hpl]
        refine zxL (hrec2 (d - 1) (by omega) (j + 1) (by omega)) ?_ (by simp)
        simp [go_sem, zah, hsu, hr]
      ·have hki : zch x = i := by rw [hK2, hK]
       have hjm : j = min x.c.length 3 := by omega
       have htk : x.c.take (min x.c.length 3) = x.c.take 3 := by rw [List.take_eq_take_iff]; omega
       have hpl := zkt b.cells i x.c (n := j) (by omega)
       have hkl : (ksR x i).length = i := zsV x i
       have hcl : clR b.cells i x.c j = ((x.c.take 3).map (za8 b.cells i)).map zaR := by unfold clR; rw [hjm, htk]
       have hG : zeX x = { cells := b.cells, next := b.next, turn := b.turn, kinds := (List.range i).map (zdI x), rights := R, must := decide (x.f1.tmod 4 = 3), clauses := (x.c.take 3).map (za8 b.cells i), blocked := bl, endless := en } := by
        unfold zeX; rw [hki, ← hbb, ← hR, ← hbl, ← hen]
       have hEnc : eg = [.v (.int .i64 b.cells), zbX b.next, zar b.turn, .lst 3 (ksR x i), .v (.int .i64 R), .v (.bool (decide (x.f1.tmod 4 = 3))), .lst 4 (clR b.cells i x.c j), .v (.int .i64 bl), .v (.int .i64 en)] := by
        rw [heg, hG, hcl]; rfl
       repeat first|refine wV fun _=>?_|simp [go_sem]
       rw [hEnc]
       refine ⟨.cons (.refl _) (.cons (.refl _) (.cons (.refl _) (.cons (zaL rfl (by omega) (by simp [noH]) (by rw [List.drop_zero, List.take_of_length_le (by omega)])) (.cons (.refl _) (.cons (.refl _) (.cons (zaL rfl (by omega) (by simp [noH]) (by rw [List.drop_zero, List.take_of_length_le (by omega)])) (.cons (.refl _) (.cons (.refl _) .nil)))))))), ?_⟩
       intro c hc
       simp only [List.mem_cons, List.not_mem_nil, or_false] at hc
       rcases hc with rfl | rfl | rfl | rfl | rfl | rfl | rfl | rfl | rfl
       all_goals first | exact .v _ | simp [go_sem]
     ·omega
     ·simp [go_sem, zah, hbl, hen, hb3, hb4]
     ·simp)
  ·omega
  ·simp [go_sem, zah, hK]
  ·simp
theorem zrq (x : zf0) (hx : zlo x) (hl : x.c.length ≤ 1099511627776) (hl0 : x.k0.length ≤ 1099511627776) (hl1 : x.k1.length ≤ 1099511627776) : zaS Tryz.prog 39 [.agg (zcT x)] (.agg (zaf (zeX (zfY x)))) := by
 refine pF Tryz.func39 ?_
 have hM := znh (zfY x) (zpg hx) hl hl0 (by simp [zfY])
 have u1 := (zk4 hx.w).2
 have u2 := (zk4 hx.h).2
 have u3 := (zk4 hx.f0).2
 unfold U8 at u1 u2 u3
 generalize zeX (zfY x) = G at *
 repeat first|refine wV fun _=>?_|simp [go_sem]
 refine zxW [] hM ?_ (by simp [go_sem]) ?_
 ·unfold zfY zcT
  refine .cons (.agg ?_) .nil
  refine .cons (.refl _) (.cons (.refl _) (.cons (.refl _) (.cons (.refl _) (.cons (.nil _) (.refl _ _ _ _)))))
 repeat first|refine wV fun _=>?_|simp [go_sem]
def boP (l : List Int) : zag := ⟨l, [0], [0], 0, 0⟩
def boE (c i j : Nat) : List zag := (((zaI c).take i).flatMap (fun l => [l ++ [0], l ++ [1], l ++ [2]]) ++ ((List.range j).map fun (x : Nat) => nth (zaI c) i ++ [(x : Int)])).map boP
theorem zuH (c : Nat) : boE c 0 0 = [] := rfl
theorem zuG (c i j : Nat) : boE c i (j + 1) = boE c i j ++ [boP (nth (zaI c) i ++ [(j : Int)])] := by
 unfold boE
 rw [List.range_succ]
 simp
theorem zuF {c i : Nat} (h : i < (zaI c).length) : boE c i 3 = boE c (i + 1) 0 := by
 unfold boE
 rw [zgu h, List.flatMap_append]
 simp [List.range_succ]
theorem zwN (c : Nat) : boE c (zaI c).length 0 = (zaI (c + 1)).map boP := by
 unfold boE
 rw [List.take_length]
 simp [zaI]
theorem zwO {c i j : Nat} (hi : i ≤ (zaI c).length) : (boE c i j).length = 3 * i + j := by
 unfold boE
 rw [List.length_map, List.length_append, List.length_map, List.length_range, List.length_flatMap]
 have : ((zaI c).take i).map (fun l : List Int => ([l ++ [0], l ++ [1], l ++ [2]] : List (List Int)).length) = ((zaI c).take i).map fun _ => 3 := rfl
 rw [this, List.map_const', List.sum_replicate_nat, List.length_take]
 omega
def evE (g : zae) (i r j : Nat) : List zag := ((zaI g.cells.toNat).take i).flatMap (ze9 g) ++ ((List.range r).flatMap (fun (r : Nat) => [(⟨nth (zaI g.cells.toNat) i, [0], [0], (r : Int), 0⟩ : zag), ⟨nth (zaI g.cells.toNat) i, [0], [0], (r : Int), 1⟩]) ++ (List.range j).map fun (s : Nat) => (⟨nth (zaI g.cells.toNat) i, [0], [0], (r : Int), (s : Int)⟩ : zag))
theorem zu6 (g : zae) : evE g 0 0 0 = [] := rfl
theorem zu5 (g : zae) (i r j : Nat) : evE g i r (j + 1) = evE g i r j ++ [⟨nth (zaI g.cells.toNat) i, [0], [0], (r : Int), (j : Int)⟩] := by
 unfold evE
 rw [List.range_succ]
 simp
theorem zu4 (g : zae) (i r : Nat) : evE g i r 2 = evE g i (r + 1) 0 := by
 unfold evE
 rw [show List.range (r + 1) = List.range r ++ [r] from List.range_succ, List.flatMap_append]
 simp [List.range_succ]
theorem zw6 {g : zae} {i : Nat} (h : i < (zaI g.cells.toNat).length) : evE g i (2 ^ g.rights.toNat) 0 = evE g (i + 1) 0 0 := by
 unfold evE
 rw [zgu h, List.flatMap_append]
 simp [ze9]
theorem zw4 (g : zae) : evE g (zaI g.cells.toNat).length 0 0 = zb5 g := by
 unfold evE zb5
 rw [List.take_length]
 simp
theorem zw5 {g : zae} {i r j : Nat} (hi : i ≤ (zaI g.cells.toNat).length) : (evE g i r j).length = i * (2 * 2 ^ g.rights.toNat) + (2 * r + j) := by
 unfold evE
 have h2 : ∀ (n : Nat) (f : Nat → List zag), (∀ k, (f k).length = 2) → ((List.range n).flatMap f).length = 2 * n := fun n f hf => by
  induction n with
  | zero => rfl
  | succ n ih => rw [List.range_succ, List.flatMap_append, List.length_append, ih]; simp [hf]; omega
 have h1 : ∀ l : List (List Int), (l.flatMap (ze9 g)).length = l.length * (2 * 2 ^ g.rights.toNat) := fun l => by
  induction l with
  | nil => simp
  | cons a l ih =>
   rw [List.flatMap_cons, List.length_append, ih, List.length_cons, Nat.add_mul, Nat.one_mul]
   unfold ze9
   rw [h2 _ _ fun _ => rfl]
   omega
 rw [List.length_append, h1, List.length_append, h2 _ _ fun _ => rfl, List.length_map, List.length_range, List.length_take, Nat.min_eq_left hi]
theorem zpk (g : zae) (h : ziI g) : zaS Tryz.prog 40 [.agg (zaf g)] (zaP (zb5 g)) := by
 refine pF Tryz.func40 ?_
 have hg := h.ok
 have c4 := h.c4
 have c1 := hg.c1
 have r1 := h.r1
 have r0 := hg.r0
 obtain ⟨cn, hcn⟩ : ∃ cn : Nat, g.cells = cn := ⟨g.cells.toNat, by omega⟩
 have hcn2 : g.cells.toNat = cn := by omega
 have hbl : ∀ c, c ≤ 4 → (zaI c).length ≤ 81 := fun c hc => by
  rw [zdV]
  exact Nat.le_trans (Nat.pow_le_pow_right (by decide) hc) (by decide)
 have hbm : ∀ c l, l ∈ zaI c → l.length = c := fun c l hl => (zd2.1 hl).1
 have hpw : (2 : Int) ^ g.rights.toNat = ((2 ^ g.rights.toNat : Nat) : Int) ∧ 2 ^ g.rights.toNat ≤ 2 ∧ 1 ≤ 2 ^ g.rights.toNat := by
  rcases (show g.rights.toNat = 0 ∨ g.rights.toNat = 1 by omega) with e | e <;> rw [e] <;> decide
 have hgb : ∀ n, (∀ c ∈ zaf g, Bel n c) = True := fun n => by simp [go_sem]
 have hgl : (zaf g).length = 9 := rfl
 have hg0 : cel (zaf g) 0 = .v (.int .i64 cn) := by rw [← hcn]; rfl
 have hg4 : cel (zaf g) 4 = .v (.int .i64 g.rights) := rfl
 have hEz := zu6 g
 have hEs := fun i r j => zu5 g i r j
 have hEn := fun i r => zu4 g i r
 have hEr := fun i h => zw6 (g := g) (i := i) h
 have hEa := zw4 g
 have hEl := fun i r j h => zw5 (g := g) (i := i) (r := r) (j := j) h
 have hCo : ∀ q : zag, za3 q → zgB Tryz.prog 94 [.agg (zad q)] (fun n => zo1 n q) (fun n => zkX n q) 9 := fun q hq => zlQ q hq
 simp only [zo1, zkX] at hCo
 rw [hcn2] at hEs hEr hEa hEl
 obtain ⟨R, hR⟩ : ∃ R, R = zb5 g := ⟨_, rfl⟩
 rw [← hR] at hEa ⊢
 generalize evE g = eE at *
 generalize hpn : 2 ^ g.rights.toNat = pn at *
 generalize zaf g = eg at *
 generalize g.rights = rt at *
 obtain ⟨bP, hbP⟩ : ∃ bP : Nat → List zag, ∀ c, bP c = (zaI c).map boP := ⟨_, fun _ => rfl⟩
 have hb0 : bP 0 = [⟨[], [0], [0], 0, 0⟩] := by rw [hbP]; rfl
 repeat first|refine wV fun _=>?_|simp [go_sem, hgl]
 refine zxL (zxP (α := Nat) (fun c => ⟨[(1, .ref 0 0 9 0 0), (3, zaP (bP c)), (4, .v (.int .i64 c))], [(0, .rows true 0 9 [eg])], 1⟩)
  (fun d c => c + d = cn) ?_ cn 0 ?_) ?_ ?_
 ·rintro d c i1 hrec
  repeat first|refine wV fun _=>?_|simp [go_sem, hgl, hg0]
  refine zxN (fun hc => ?_) (fun hc => ?_) <;> simp at hc
  ·have hbc := hbl c (by omega)
   have hm3 := hbm c
   have hz := zuH c
   have hs := fun i j => zuG c i j
   have hn := fun i h => zuF (c := c) (i := i) h
   have ha := zwN c
   rw [← hbP] at ha
   have hl := fun i j h => zwO (c := c) (i := i) (j := j) h
   have hBl : (bP c).length = (zaI c).length := by rw [hbP]; simp
   have hBn : ∀ i, i < (zaI c).length → nth (bP c) i = boP (nth (zaI c) i) := fun i hi => by rw [hbP]; exact zbK _ _ _ hi
   have hNm : ∀ i, i < (zaI c).length → (nth (zaI c) i).length = c := fun i hi => hm3 _ (zaj hi)
   generalize bP c = BP at *
   generalize boE c = bE at *
   generalize zaI c = B at *
   repeat first|refine wV fun _=>?_|simp [go_sem, hgl, hg0]
   refine zxL (zxP (α := Nat) (fun i => ⟨[(1, .ref 0 0 9 0 0), (3, zaP BP), (4, .v (.int .i64 c)), (5, .sl 1 (3 * i) 5 0 (bE i 0).length), (6, .v (.int .i64 i))], [(0, .rows true 0 9 [eg]), (1, .rows true (3 * i) 5 ((bE i 0).map zad))], 2⟩)
    (fun d i => i + d = B.length) ?_ B.length 0 ?_) ?_ ?_
   ·rintro d2 i i2 hrec2
    repeat first|refine wV fun _=>?_|simp [go_sem, hBl]
    refine zxN (fun hi => ?_) (fun hi => ?_) <;> simp at hi
    ·have hNi := hNm i hi
     have hBi := hBn i hi
     have hli := fun j => hl i j (by omega)
     have hni := hn i hi
     have hsi := hs i
     generalize nth B i = b at *
     have hCb := hCo ⟨b, [0], [0], 0, 0⟩ ⟨by show b.length ≤ _; omega, by simp [zeh], by simp [zeh]⟩
     repeat first|refine wV fun _=>?_|simp [go_sem, hBl]
     refine zxL (zxP (α := Nat) (fun j => ⟨[(1, .ref 0 0 9 0 0), (3, zaP BP), (4, .v (.int .i64 c)), (5, .sl 1 (3 * i + j) 5 0 (bE i j).length), (6, .v (.int .i64 i)), (7, .v (.int .i64 j))], [(0, .rows true 0 9 [eg]), (1, .rows true (3 * i + j) 5 ((bE i j).map zad))], 2⟩)
      (fun d j => j + d = 3) ?_ 3 0 ?_) ?_ ?_
     ·rintro d3 j j3 hrec3
      have hlj := hli j
      repeat first|refine wV fun _=>?_|simp [go_sem]
      refine zxN (fun hj => ?_) (fun hj => ?_) <;> simp at hj
      ·have hsij := hsi j
       have hbe : boP (b ++ [(j : Int)]) = ⟨b ++ [(j : Int)], [0], [0], 0, 0⟩ := rfl
       rw [hbe] at hsij
       have hbi : i < BP.length := by omega
       repeat first|refine wV fun _=>?_|simp [go_sem, hBl, hi, hBi, boP]
       refine zxQ hCb (by simp [go_sem]) ?_
       repeat first|refine wV fun _=>?_|simp [go_sem]
       refine zxL (hrec3 (d3 - 1) (by omega) (j + 1) (by omega)) ?_ (by simp)
       simp [go_sem, zah, hgb, hsij, Nat.add_assoc]
       refine zat (.refl _) (.cons (.cons ?_ (.cons ?_ (.cons ?_ (.cons (.refl _) (.cons (.refl _) .nil))))) .nil)
       ·exact frX
       ·refine LeV.frz rfl (by simp) (by simp [noH, upd]) ?_
        exact .refl _
       ·refine LeV.frz rfl (by simp) (by simp [noH, upd]) ?_
        exact .refl _
      ·obtain rfl : j = 3 := by omega
       rw [hni]
       repeat first|refine wV fun _=>?_|simp [go_sem]
       refine zxL (hrec2 (d2 - 1) (by omega) (i + 1) (by omega)) ?_ (by simp)
       have he3 : 3 * i + 3 = 3 * (i + 1) := by omega
       simp [go_sem, zah, hgb, he3]
     ·omega
     ·simp [go_sem, zah, hgb]
     ·simp
    ·obtain rfl : i = B.length := by omega
     rw [ha]
     repeat first|refine wV fun _=>?_|simp [go_sem]
     refine zxL (hrec (d - 1) (by omega) (c + 1) (by omega)) ?_ (by simp)
     generalize bP (c + 1) = b1 at *
     simp [go_sem, zah, hgb]
     exact frX
   ·omega
   ·simp [go_sem, zah, hgb, hz]
   ·simp
  ·obtain rfl : c = cn := by omega
   have hbc := hbl c (by omega)
   have hBl : (bP c).length = (zaI c).length := by rw [hbP]; simp
   have hBn : ∀ i, i < (zaI c).length → nth (bP c) i = boP (nth (zaI c) i) := fun i hi => by rw [hbP]; exact zbK _ _ _ hi
   generalize bP c = BP at *
   generalize zaI c = B at *
   repeat first|refine wV fun _=>?_|simp [go_sem, hgl, hg0]
   refine zxL (zxP (α := Nat) (fun i => ⟨[(1, .ref 0 0 9 0 0), (3, zaP BP), (9, .sl 1 (i * (2 * pn)) 5 0 (eE i 0 0).length), (10, .v (.int .i64 i))], [(0, .rows true 0 9 [eg]), (1, .rows true (i * (2 * pn)) 5 ((eE i 0 0).map zad))], 2⟩)
    (fun d i => i + d = B.length) ?_ B.length 0 ?_) ?_ ?_
   ·rintro d2 i i2 hrec2
    repeat first|refine wV fun _=>?_|simp [go_sem, hBl]
    refine zxN (fun hi => ?_) (fun hi => ?_) <;> simp at hi
    ·have hBi := hBn i hi
     have hli := fun r j => hEl i r j (by omega)
     have hri := hEr i hi
     have hsi := hEs i
     have hni := hEn i
     have hbi : i < BP.length := by omega
     have hib : i * (2 * pn) ≤ 81 * 4 := Nat.mul_le_mul (by omega) (by omega)
     generalize nth B i = b at *
     repeat first|refine wV fun _=>?_|simp [go_sem, hBl]
     refine zxL (zxP (α := Nat) (fun r => ⟨[(1, .ref 0 0 9 0 0), (3, zaP BP), (9, .sl 1 (i * (2 * pn) + 2 * r) 5 0 (eE i r 0).length), (10, .v (.int .i64 i)), (11, .v (.int .i64 r))], [(0, .rows true 0 9 [eg]), (1, .rows true (i * (2 * pn) + 2 * r) 5 ((eE i r 0).map zad))], 2⟩)
      (fun d r => r + d = pn) ?_ pn 0 ?_) ?_ ?_
     ·rintro d3 r r3 hrec3
      have hsr := hsi r
      have hnr := hni r
      have hlr := hli r
      repeat first|refine wV fun _=>?_|simp [go_sem, hgl, hg4, hpw.1]
      refine zxN (fun hr => ?_) (fun hr => ?_) <;> simp at hr
      ·repeat first|refine wV fun _=>?_|simp [go_sem]
       refine zxL (zxP (α := Nat) (fun j => ⟨[(1, .ref 0 0 9 0 0), (3, zaP BP), (9, .sl 1 (i * (2 * pn) + (2 * r + j)) 5 0 (eE i r j).length), (10, .v (.int .i64 i)), (11, .v (.int .i64 r)), (12, .v (.int .i64 j))], [(0, .rows true 0 9 [eg]), (1, .rows true (i * (2 * pn) + (2 * r + j)) 5 ((eE i r j).map zad))], 2⟩)
        (fun d j => j + d = 2) ?_ 2 0 ?_) ?_ ?_
       ·rintro d4 j j4 hrec4
        have hlj := hlr j
        have hsj := hsr j
        repeat first|refine wV fun _=>?_|simp [go_sem]
        refine zxN (fun hj => ?_) (fun hj => ?_) <;> simp at hj
        ·repeat first|refine wV fun _=>?_|simp [go_sem, hBl, hi, hBi, hbi, boP]
         refine zxL (hrec4 (d4 - 1) (by omega) (j + 1) (by omega)) ?_ (by simp)
         simp [go_sem, zah, hgb, hsj, Nat.add_assoc]
        ·obtain rfl : j = 2 := by omega
         rw [hnr]
         repeat first|refine wV fun _=>?_|simp [go_sem]
         refine zxL (hrec3 (d3 - 1) (by omega) (r + 1) (by omega)) ?_ (by simp)
         have he2 : i * (2 * pn) + (2 * r + 2) = i * (2 * pn) + 2 * (r + 1) := by omega
         simp [go_sem, zah, hgb, he2]
       ·omega
       ·simp [go_sem, zah, hgb]
       ·simp
      ·obtain rfl : r = pn := by omega
       rw [hri]
       repeat first|refine wV fun _=>?_|simp [go_sem]
       refine zxL (hrec2 (d2 - 1) (by omega) (i + 1) (by omega)) ?_ (by simp)
       have he1 : i * (2 * r) + 2 * r = (i + 1) * (2 * r) := by rw [Nat.add_mul, Nat.one_mul]
       simp [go_sem, zah, hgb, he1]
     ·omega
     ·simp [go_sem, zah, hgb]
     ·simp
    ·obtain rfl : i = B.length := by omega
     rw [hEa]
     repeat first|refine wV fun _=>?_|simp [go_sem]
     exact frX
   ·omega
   ·simp [go_sem, zah, hgb, hEz]
   ·simp
 ·omega
 ·simp [go_sem, zah, hgb, hb0]
  refine LeV.frz rfl (by simp) (by simp [noH, upd]) (.cons (.cons (.nil _) (.cons ?_ (.cons ?_ (.cons (.refl _) (.cons (.refl _) .nil))))) .nil)
  ·refine LeV.frz rfl (by simp) (by simp [noH, upd]) ?_
   exact .refl _
  ·refine LeV.frz rfl (by simp) (by simp [noH, upd]) ?_
   exact .refl _
 ·simp
def addK (known nx : List zag) (q : zag) : List zag := if q ∈ known ++ nx then nx else nx ++ [q]
def zoc (g : zae) (known now : List zag) : List zag := (now.flatMap (zaZ g)).foldl (addK known) []
theorem zfw (known : List zag) : ∀ (l nx : List zag) (q : zag), q ∈ l.foldl (addK known) nx ↔ q ∈ nx ∨ q ∈ l ∧ q ∉ known
 | [], nx, q => by simp
 | r :: l, nx, q => by
  rw [List.foldl_cons, zfw known l]
  unfold addK
  by_cases hr : r ∈ known ++ nx
  ·rw [if_pos hr]
   rw [List.mem_append] at hr
   constructor
   ·rintro (h | ⟨h1, h2⟩)
    ·exact .inl h
    ·exact .inr ⟨List.mem_cons_of_mem _ h1, h2⟩
   ·rintro (h | ⟨h1, h2⟩)
    ·exact .inl h
    ·rcases List.mem_cons.1 h1 with rfl | h1
     ·rcases hr with hr | hr
      ·exact absurd hr h2
      ·exact .inl hr
     ·exact .inr ⟨h1, h2⟩
  ·rw [if_neg hr]
   rw [List.mem_append, not_or] at hr
   constructor
   ·rintro (h | ⟨h1, h2⟩)
    ·rcases List.mem_append.1 h with h | h
     ·exact .inl h
     ·simp only [List.mem_singleton] at h
      subst h
      exact .inr ⟨by simp, hr.1⟩
    ·exact .inr ⟨List.mem_cons_of_mem _ h1, h2⟩
   ·rintro (h | ⟨h1, h2⟩)
    ·exact .inl (List.mem_append.2 (.inl h))
    ·rcases List.mem_cons.1 h1 with rfl | h1
     ·exact .inl (by simp)
     ·exact .inr ⟨h1, h2⟩
theorem zek (known : List zag) : ∀ (l nx : List zag), nx.Nodup → (l.foldl (addK known) nx).Nodup
 | [], nx, h => h
 | r :: l, nx, h => by
  rw [List.foldl_cons]
  refine zek known l _ ?_
  unfold addK
  split
  ·exact h
  ·rename_i hr
   rw [List.mem_append, not_or] at hr
   refine List.nodup_append.2 ⟨h, by simp, ?_⟩
   intro a ha b hb e
   simp only [List.mem_singleton] at hb
   subst hb; subst e
   exact hr.2 ha
theorem zmx {g : zae} {known now : List zag} {q : zag} : q ∈ zoc g known now ↔ (∃ r ∈ now, q ∈ zaZ g r) ∧ q ∉ known := by
 unfold zoc
 rw [zfw, List.mem_flatMap]
 simp
theorem zod (g : zae) (known now : List zag) : (zoc g known now).Nodup := zek known _ [] (by simp)
theorem zn1 {g : zae} {known now : List zag} (h : known.Nodup) : (known ++ zoc g known now).Nodup :=
 List.nodup_append.2 ⟨h, zod g known now, fun a ha b hb e => (zmx.1 hb).2 (e ▸ ha)⟩
theorem zvs {g : zae} (hg : GOk g) {known now : List zag} (hn : ∀ p ∈ now, POk g p) : ∀ q ∈ zoc g known now, POk g q := fun q hq => by
 obtain ⟨⟨r, hr, hm⟩, _⟩ := zmx.1 hq
 exact (zew hg (hn r hr) q hm).1
structure zfv (g : zae) (known now : List zag) : Prop where
 nd : known.Nodup
 sub : ∀ q ∈ now, q ∈ known
 inc : Inc now
 ok : ∀ q ∈ known, POk g q
theorem zyo {g : zae} {p : zag} (hp : POk g p) : zfv g [p] [p] :=
 ⟨by simp, fun q hq => hq, by simp [Inc], fun q hq => by simp only [List.mem_singleton] at hq; subst hq; exact hp⟩
theorem zfv.next {g : zae} (hg : GOk g) {known now : List zag} (h : zfv g known now) : zfv g (known ++ zoc g known now) (zbj zbw (zoc g known now)) :=
 ⟨zn1 h.nd, fun q hq => List.mem_append.2 (.inr (zaV.1 hq)), zeS zaT _, fun q hq => by
  rcases List.mem_append.1 hq with hq | hq
  ·exact h.ok q hq
  ·exact zvs hg (fun r hr => h.ok r (h.sub r hr)) q hq⟩
theorem zle (l : List zag) (hi : Inc l) (hl : l.length ≤ 17179869184) (hf : ∀ q ∈ l, za3 q) (p : zag) (hp : za3 p) :
  zaS Tryz.prog 93 [zaP l, .agg (zad p), .fn (.func 37) [] []] (.tup [.v (.int .i64 (zkR l p)), .v (.bool (decide (p ∈ l)))]) := by
 refine pF Tryz.func93 ?_
 have hle := zs6 l p
 have hmem := zoV hi p
 have hiff := fun h hn => zoU hi p (h := h) hn
 generalize zkR l p = w at *
 repeat first|refine wV fun _=>?_|simp [go_sem]
 refine zxL (zxP (α := Nat × Nat) (fun a => ⟨[(0, zaP l), (2, .fn (.func 37) [] []), (4, .ref 0 0 5 0 0), (8, .v (.int .i64 l.length)), (9, .v (.int .i64 a.1)), (10, .v (.int .i64 a.2))], [(0, .rows true 0 5 [zad p])], 1⟩)
  (fun d a => a.2 - a.1 ≤ d ∧ a.1 ≤ w ∧ w ≤ a.2 ∧ a.2 ≤ l.length) ?_ l.length (0, l.length) ?_) ?_ ?_
 ·rintro d ⟨i, j⟩ ⟨i1, i2, i3, i4⟩ hrec
  simp only at i1 i2 i3 i4
  have hdiv : ((i : Int) + j).fdiv 2 = ((i + j) / 2 : Nat) := by rw [Int.fdiv_eq_ediv_of_nonneg _ (by omega)]; omega
  repeat first|refine wV fun _=>?_|simp [go_sem]
  refine zxN (fun hlt => ?_) (fun hlt => ?_) <;> simp at hlt
  ·have hm : (i + j) / 2 < l.length := by omega
   have hm2 : i ≤ (i + j) / 2 ∧ (i + j) / 2 < j := by omega
   generalize hmid : (i + j) / 2 = mid at *
   repeat first|refine wV fun _=>?_|simp [go_sem, hdiv, hm]
   refine zxO (zbA (nth l mid) p (hf _ (zaj hm)) hp) (by simp [go_sem]) ?_
   have hi2 := hiff mid hm
   generalize zbw (nth l mid) p = c at *
   repeat first|refine wV fun _=>?_|simp [go_sem]
   refine zxN (fun hc => ?_) (fun hc => ?_) <;> simp at hc
   ·have := hi2.1 hc
    repeat first|refine wV fun _=>?_|simp [go_sem]
    refine zxL (hrec (d - 1) (by omega) (mid + 1, j) ⟨by simp only; omega, by simp only; omega, by simp only; omega, by simp only; omega⟩) ?_ (by simp)
    simp [go_sem, zah]
   ·have : ¬ mid < w := fun h => by have := hi2.2 h; omega
    repeat first|refine wV fun _=>?_|simp [go_sem]
    refine zxL (hrec (d - 1) (by omega) (i, mid) ⟨by simp only; omega, by simp only; omega, by simp only; omega, by simp only; omega⟩) ?_ (by simp)
    simp [go_sem, zah]
  ·obtain rfl : i = w := by omega
   by_cases hw : i < l.length
   ·have hC := zbA (nth l i) p (hf _ (zaj hw)) hp
    have e : decide (p ∈ l) = decide (zbw (nth l i) p = 0) := by
     rw [decide_eq_decide, hmem, zaT.eq]
     exact ⟨fun h => h.2, fun h => ⟨hw, h⟩⟩
    rw [e]
    generalize zbw (nth l i) p = c at *
    repeat first|refine wV fun _=>?_|simp [go_sem, hw]
    refine zxX _ (fun _ => hC) (by simp [go_sem]) ?_
    repeat first|refine wV fun _=>?_|simp [go_sem, hw]
   ·have e : decide (p ∈ l) = false := decide_eq_false fun h => hw (hmem.1 h).1
    rw [e]
    repeat first|refine wV fun _=>?_|simp [go_sem, hw]
    refine dGC.skip (.v (.int .i64 0)) ?_
    repeat first|refine wV fun _=>?_|simp [go_sem, hw]
 ·exact ⟨by simp, by simp, hle, by simp⟩
 ·simp [go_sem, zah]
 ·simp
theorem zqK (l : List zag) (hi : Inc l) (hl : l.length ≤ 17179869184) (hf : ∀ q ∈ l, za3 q) (p : zag) (hp : za3 p) :
  zaS Tryz.prog 38 [zaP l, .agg (zad p)] (.v (.int .i64 (zu8 l p))) := by
 refine pF Tryz.func38 ?_
 have hB := zle l hi hl hf p hp
 rw [zu9 hi]
 repeat first|refine wV fun _=>?_|simp [go_sem]
 refine zxM hB (by simp [go_sem]) ?_
 repeat first|refine wV fun _=>?_|simp [go_sem]
 by_cases h : p ∈ l
 ·rw [if_pos h]
  repeat first|refine wV fun _=>?_|simp [go_sem, h]
 ·rw [if_neg h]
  repeat first|refine wV fun _=>?_|simp [go_sem, h]
def kRowP (q : zag) : List AV := [.v (.string (zv2 q)), .v (.bool true)]
theorem zr8 {n : Nat} {l : List zag} : (∀ r ∈ l.map kRowP, ∀ c ∈ r, Bel n c) = True := by
 refine eq_true ?_
 intro r hr c hc
 obtain ⟨x, _, rfl⟩ := List.mem_map.1 hr
 simp only [kRowP, List.mem_cons, List.not_mem_nil, or_false] at hc
 rcases hc with rfl | rfl <;> exact .v _
attribute [go_sem ↓] zr8
def rowL (x : List zag × Bool) : List AV := [zaP x.1, .v (.bool x.2)]
theorem zuD {n : Nat} {L : List (List zag × Bool)} : (∀ r ∈ L.map rowL, ∀ c ∈ r, Bel n c) = True := by
 refine eq_true ?_
 intro r hr c hc
 obtain ⟨x, _, rfl⟩ := List.mem_map.1 hr
 simp only [rowL, List.mem_cons, List.not_mem_nil, or_false] at hc
 rcases hc with rfl | rfl
 ·exact of_eq_true zr3
 ·exact .v _
attribute [go_sem ↓] zuD
def encD (D : List (List zag)) : List (List AV) := D.map fun l => [zaP l]
theorem zuB {n : Nat} {D : List (List zag)} : (∀ r ∈ encD D, ∀ c ∈ r, Bel n c) = True := by
 refine eq_true ?_
 intro r hr c hc
 obtain ⟨x, _, rfl⟩ := List.mem_map.1 hr
 simp only [List.mem_cons, List.not_mem_nil, or_false] at hc
 subst hc
 exact zcn _
attribute [go_sem ↓] zuB
@[go_sem] theorem encD_len (D : List (List zag)) : (encD D).length = D.length := by simp [encD]
def zwD (N : Nat) (G : List (List zag)) (m : Nat) : List (List AV) := (List.range N).map fun j => if m ≤ j then [zaP (nth G j)] else [zxT]
@[go_sem] theorem backR_len (N : Nat) (G : List (List zag)) (m : Nat) : (zwD N G m).length = N := by simp [zwD]
theorem zr6 {n N : Nat} {G : List (List zag)} {m : Nat} : (∀ r ∈ zwD N G m, ∀ c ∈ r, Bel n c) = True := by
 refine eq_true ?_
 intro r hr c hc
 obtain ⟨j, _, rfl⟩ := List.mem_map.1 hr
 split at hc
 ·simp only [List.mem_cons, List.not_mem_nil, or_false] at hc
  subst hc
  exact zcn _
 ·simp only [List.mem_cons, List.not_mem_nil, or_false] at hc
  subst hc
  exact .v _
attribute [go_sem ↓] zr6
end Go.Av
end
section
open Go Go.Proofs
namespace Go.Av
section Ways
variable {g : zae} (hg : GOk g) {p : zag} (hp : POk g p)
end Ways
end Go.Av
end
section
open Go Go.Proofs
namespace Go.Av
def za4 : zae := ⟨3, [[1, 2, -1], [-1, 0, 1]], [1, 0], [⟨⟨⟨[97]⟩⟩, [[(1, 0), (3, 0)], [(1, 0), (4, 0), (6, 0)]], false⟩], 0, false, [], 3, 2⟩
def at9 (a b c side : Int) : zag := ⟨[a, b, c], [0], [0], 0, side⟩
theorem zsN : zeb za4 [0] := ⟨rfl, fun i hi => by
 obtain rfl : i = 0 := by simpa using hi
 exact ⟨by decide, by decide, by decide⟩⟩
theorem zje (a b c side : Int) (ha : 0 ≤ a ∧ a ≤ 2) (hb : 0 ≤ b ∧ b ≤ 2) (hc : 0 ≤ c ∧ c ≤ 2) (hs : side = 0 ∨ side = 1) : POk za4 (at9 a b c side) :=
 ⟨rfl, by
  intro x hx
  simp only [at9, List.mem_cons, List.not_mem_nil, or_false] at hx
  have : (za4.kinds.length : Int) = 1 := rfl
  rcases hx with rfl | rfl | rfl <;> omega, zsN, zsN, by simp [at9], by simp [at9, za4], hs⟩
theorem zb8 : GOk za4 := by
 refine ⟨?_, by decide, by decide, by decide, by decide, ?_, by decide, by decide, ?_, ?_, by decide, by decide, ?_, by decide, by decide, by decide⟩
 ·refine ⟨?_, ?_, ?_, ?_, ?_, ?_, ?_⟩ <;> first | decide | skip
 ·intro d hd
  have : d = 0 ∨ d = 1 := by
   have : za4.turn.length = 2 := rfl
   omega
  rcases this with rfl | rfl <;> decide
 ·intro k hk
  simp only [za4, List.mem_singleton] at hk
  subst hk
  decide
 ·intro k hk q hq
  simp only [za4, List.mem_singleton] at hk
  subst hk
  simp only [List.mem_cons, List.not_mem_nil, or_false] at hq
  rcases hq with rfl | rfl
  ·refine ⟨by decide, by decide, fun x hx => ?_, by decide, by decide, by decide⟩
   simp only [List.mem_cons, List.not_mem_nil, or_false] at hx
   rcases hx with rfl | rfl <;> exact ⟨by decide, by decide, by decide, by decide, by decide⟩
  ·refine ⟨by decide, by decide, fun x hx => ?_, by decide, by decide, by decide⟩
   simp only [List.mem_cons, List.not_mem_nil, or_false] at hx
   rcases hx with rfl | rfl | rfl <;> exact ⟨by decide, by decide, by decide, by decide, by decide⟩
 ·intro c hc
  simp [za4] at hc
theorem zoo : ziI za4 := ⟨zb8, by decide, rfl, fun k hk => by
 simp only [za4, List.mem_singleton] at hk
 subst hk
 rfl, by decide⟩
theorem zxb {l m : List zag} (hl : Inc l) (hm : Inc m) (h : ∀ q, q ∈ l ↔ q ∈ m) : l = m := by
 rw [← zgt hl]
 exact zeG zaT hm h
def zkr (p : zag) (l : List zag) : Bool := (zb5 za4).all fun q => decide (p ∈ zaZ za4 q) == decide (q ∈ l)
theorem zjg {p : zag} {l : List zag} (hl : Inc l) (hok : ∀ q ∈ l, POk za4 q) (h : zkr p l = true) : zap za4 p = l := by
 refine zxb (zdU _ _) hl fun q => ?_
 rw [zfl zb8]
 have key : ∀ q, POk za4 q → (p ∈ zaZ za4 q ↔ q ∈ l) := fun q hq => by
  have := List.all_eq_true.1 h q ((zeP zoo).2 hq)
  rw [beq_iff_eq] at this
  exact ⟨fun h => by rw [decide_eq_true h] at this; exact of_decide_eq_true this.symm, fun h => by rw [decide_eq_true h] at this; exact of_decide_eq_true this⟩
 exact ⟨fun ⟨h1, h2⟩ => (key q h1).1 h2, fun h => ⟨hok q h, (key q (hok q h)).2 h⟩⟩
theorem zwB : zkr (at9 0 2 0 0) [at9 0 0 2 1, at9 0 1 2 1] = true := by kernel_rfl
theorem zwC : zkr (at9 1 0 0 1) [] = true := by kernel_rfl
theorem zwz : zdA za4 (at9 0 2 0 0) = ([at9 0 0 2 1, at9 0 1 2 1], 0) := by
 have : zap za4 (at9 0 2 0 0) = [at9 0 0 2 1, at9 0 1 2 1] := zjg (by
  refine List.Pairwise.cons (fun q hq => ?_) (List.pairwise_singleton _ _)
  simp only [List.mem_singleton] at hq
  subst hq
  decide) (fun q hq => by
  simp only [List.mem_cons, List.not_mem_nil, or_false] at hq
  rcases hq with rfl | rfl
  ·exact zje _ _ _ _ (by omega) (by omega) (by omega) (.inr rfl)
  ·exact zje _ _ _ _ (by omega) (by omega) (by omega) (.inr rfl)) zwB
 unfold zdA
 rw [this]
 rfl
theorem zwA : zdA za4 (at9 1 0 0 1) = ([], 0) := by
 have : zap za4 (at9 1 0 0 1) = [] := zjg List.Pairwise.nil (fun q hq => by cases hq) zwC
 unfold zdA
 rw [this]
 rfl
theorem zuP : zdB za4 (at9 0 2 0 0) 0 = ([at9 0 2 0 0], 0) := zhG _ _
end Go.Av
end
