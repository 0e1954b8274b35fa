/- Texts of ours, part 11: our library and contracts of functions. -/
import Derived.Test.YtkahkcakggflaaaGreatDoorB10
import GoSem.ClaimJoined
import Derived.Test.YtkahkcakggflaaaGreatDoorCards
import Derived.Test.YtkahkcakggflaaaGreatDoorTie
import Derived.Deep.DeepHandedRow
import Derived.LaidHandle
import Derived.LaidMore
set_option linter.unusedSimpArgs false
set_option linter.unusedVariables false
set_option maxRecDepth 100000
set_option maxHeartbeats 40000000
section
open Go Go.Proofs
namespace Go.Av
theorem zm4 (g : zaf) (hg : GOk g) (side : Int) (cell : Int) (prog : List (Int × Int)) (hp : prog.length ≤ 8) :
    zaC Tryz.prog 147 [zar prog, .fp (zab g), .fp [.v (.int .i64 side)], .fp [.v (.int .i64 cell)]] (zaX (zbF g.board side prog cell)) := by
  refine pF Tryz.func147 ?_
  have hP := zub g.board hg.board hg.c1 hg.c9 side prog hp cell
  generalize zbF g.board side prog cell = R at *
  rw [show zdf g.board = [.v (.int .i64 g.cells), zco g.next, zas g.turn] from rfl] at hP
  repeat first|with_reducible refine wV fun _=>?_|simp [go_sem]
  refine zBn hP (by simp [go_sem]) ?_
  repeat first|with_reducible refine wV fun _=>?_|simp [go_sem]
def zhZ (f : Nat → List AV) (z : List AV) (n c : Nat) : List (List AV) := (List.range n).map fun i => if i < c then f i else z
theorem zoM (f : Nat → List AV) (z : List AV) (n c : Nat) : (zhZ f z n c).length = n := by simp [zhZ]
theorem zlP (f : Nat → List AV) (z : List AV) (n : Nat) : List.replicate n z = zhZ f z n 0 := by
  unfold zhZ
  refine List.ext_getElem (by simp) fun i h1 h2 => ?_
  simp
theorem zoN (f : Nat → List AV) (z : List AV) (n c : Nat) : (zhZ f z n c).set c (f c) = zhZ f z n (c + 1) := by
  unfold zhZ
  refine List.ext_getElem (by simp) fun i h1 h2 => ?_
  simp only [List.getElem_set, List.getElem_map, List.getElem_range]
  by_cases h : c = i
  · subst h; simp
  · rw [if_neg h]
    by_cases hi : i < c
    · rw [if_pos hi, if_pos (by omega)]
    · rw [if_neg hi, if_neg (by omega)]
theorem zoL (f : Nat → List AV) (z : List AV) (n : Nat) : zhZ f z n n = (List.range n).map f := by
  unfold zhZ
  refine List.map_congr_left fun i hi => ?_
  rw [if_pos (List.mem_range.1 hi)]
theorem zhj {f : Nat → List AV} {z : List AV} {n c m : Nat} (hf : ∀ i, ∀ x ∈ f i, Bel m x) (hz : ∀ x ∈ z, Bel m x) : ∀ r ∈ zhZ f z n c, ∀ x ∈ r, Bel m x := by
  intro r hr x hx
  unfold zhZ at hr
  obtain ⟨i, _, rfl⟩ := List.mem_map.1 hr
  split at hx
  · exact hf i x hx
  · exact hz x hx
theorem zrY (h : zav) (o : Nat) (x : Option zbt) : zaL (upd h o x) [o] = upd h o (zaS x) := by
  funext a
  unfold zaL upd
  by_cases e : a = o
  · subst e; simp
  · simp [e]
def zig (g : zaf) (side : Int) (j : Nat) : List (List (List za2)) := (g.kinds.take j).map fun k => zfx g.board side k.progs
theorem zmo (g : zaf) (side : Int) {j : Nat} (h : j < g.kinds.length) : zig g side (j + 1) = zig g side j ++ [zfx g.board side (nth g.kinds j).progs] := by
  unfold zig
  rw [List.take_add_one, List.getElem?_eq_getElem h, zaJ _ _ h, Option.toList_some, List.map_append]
  rfl
theorem zpv (g : zaf) (side : Int) : zig g side g.kinds.length = zbD g side := by unfold zig zbD; rw [List.take_length]
theorem zmp (g : zaf) (side : Int) : zig g side 0 = [] := by simp [zig]
theorem zkC (g : zaf) (side : Int) {j : Nat} (h : j ≤ g.kinds.length) : (zig g side j).length = j := by simp [zig]; omega
theorem zfK {g : zaf} (hg : GOk g) (side : Int) {k : zgh} (hk : k ∈ g.kinds) (cell : Int) : (zbA g.board side k.progs cell).length ≤ 8589934592 := by
  have h := zh0 (fun p => zbF g.board side p cell) 43046721 k.progs (fun p hp => by
    have := zib hg.board hg.c1 hg.c9 side p (hg.pr k hk p hp).len cell p.length
    unfold zdD at this
    rwa [List.take_length] at this)
  have := hg.pn k hk
  have h2 : k.progs.length * 43046721 ≤ 8 * 43046721 := Nat.mul_le_mul_right _ this
  unfold zbA
  omega
theorem zh3 {g : zaf} (hg : GOk g) (s : Int) {k : zgh} (hk : k ∈ g.kinds) (c : Int) : zik 1048576 (zbA g.board s k.progs c) := by
  intro w hw
  obtain ⟨p, hp, hw⟩ := List.mem_flatMap.1 hw
  have := ze9 hg.board hg.c9 s p c p.length (Nat.le_refl _) w (by unfold zdD; rwa [List.take_length])
  have := (hg.pr k hk p hp).len
  omega
theorem zin (g : zaf) (hg : GOk g) : zaC Tryz.prog 80 [.agg (zab g)] (.agg (zbo (zbH g))) := by
  refine pF Tryz.func80 ?_
  have hc9 := hg.c9
  have hc1 := hg.c1
  have hk6 := hg.k6
  have hF := fun (s : Int) (c : Int) (k : zgh) (hk : k ∈ g.kinds) => ztJ k.progs (by have := hg.pn k hk; omega) 147 [.fp (zab g), .fp [.v (.int .i64 s)], .fp [.v (.int .i64 c)]] (fun p => zbF g.board s p c)
    (fun p hp => zm4 g hg s c p (hg.pr k hk p hp).len) (by simp [go_sem]) (zfK hg s hk c)
  have hkb : ∀ (s : Int) (k : zgh) (c : Nat), c < g.cells.toNat → True := fun _ _ _ _ => trivial
  have hR : zbo (zbH g) = [zbe (zbD g 0), zbe (zbD g 1)] := rfl
  rw [hR]
  clear hR
  have hsk := fun (s : Int) (j : Nat) (h : j < g.kinds.length) => zmo g s h
  have hsa := fun s => zpv g s
  have hsz := fun s => zmp g s
  have hsl := fun (s : Int) (j : Nat) (h : j ≤ g.kinds.length) => zkC g s h
  obtain ⟨C, hC⟩ : ∃ C : Nat, g.cells = C := ⟨g.cells.toNat, by omega⟩
  have hcells : ∀ (s : Int) (j : Nat), zfx g.board s (nth g.kinds j).progs = (List.range C).map fun (c : Nat) => zbA g.board s (nth g.kinds j).progs c := fun s j => by
    unfold zfx
    rw [show g.board.cells.toNat = C by have : g.board.cells = g.cells := rfl; omega]
  generalize zig g = K at *
  have heg : zab g = [.v (.int .i64 (C : Int)), zco g.next, zas g.turn, .lst 3 (g.kinds.map zaZ), .v (.int .i64 g.rights), .v (.bool g.must), .lst 4 (g.clauses.map za8), .v (.int .i64 g.blocked), .v (.int .i64 g.endless)] := by rw [← hC]; rfl
  rw [heg] at hF
  have hbl : ∀ n, (∀ c' ∈ zab g, Bel n c') = True := fun n => by simp [go_sem]
  have hel : (zab g).length = 9 := rfl
  repeat first|with_reducible refine wV fun _=>?_|simp [go_sem, hel]
  refine zBm (zBr (α := Nat) (fun s => ⟨[(1, .ref 0 0 9 0 0), (2, .ref 1 0 2 0 0), (3, .ref 2 0 2 0 0), (9, .v (.int .i64 s))],
      [(0, .rows false 0 9 [zab g]), (1, .rows true 0 2 [[AV.v (.slice none 0 0), AV.v (.slice none 0 0)]]), (2, .rows true 0 2 [[if s = 0 then AV.v (.slice none 0 0) else zbe (zbD g 0), if s < 2 then AV.v (.slice none 0 0) else zbe (zbD g 1)]])], 3⟩)
    (fun d s => s + d = 2) ?_ 2 0 ?_) ?_ ?_
  · rintro d0 s s1 hrec
    rcases (show s = 0 ∨ s = 1 ∨ s = 2 by omega) with rfl | rfl | rfl
    · have hFs := hF 0
      have hsk := hsk 0
      have hsa := hsa 0
      have hsz := hsz 0
      have hsl := hsl 0
      have hcells := hcells 0
      repeat first|with_reducible refine wV fun _=>?_|simp [go_sem, hel, hC]
      refine zBm (zBr (α := Nat) (fun j => ⟨[(1, .ref 0 0 9 0 0), (2, .ref 1 0 2 0 0), (3, .ref 2 0 2 0 0), (4, .ref 3 0 1 0 0), (9, .v (.int .i64 0)), (13, .lst 3 (g.kinds.map zaZ)), (14, .v (.int .i64 g.kinds.length)), (15, .v (.int .i64 j))],
          [(0, .rows false 0 9 [zab g]), (1, .rows true 0 2 [[AV.v (.slice none 0 0), AV.v (.slice none 0 0)]]), (2, .rows true 0 2 [[.sl 4 j 1 0 j, AV.v (.slice none 0 0)]]), (3, .rows false 0 1 [[.v (.int .i64 0)]]), (4, .rows true j 1 ((K 0 j).map fun x => [zbC x]))], 5⟩)
        (fun d j => j + d = g.kinds.length) ?_ g.kinds.length 0 ?_) ?_ ?_
      · rintro d j j1 hrec2
        have hlj := hsl j (by omega)
        repeat first|with_reducible refine wV fun _=>?_|simp [go_sem, hel, hC, hlj]
        refine zBo (fun hj => ?_) (fun hj => ?_) <;> simp at hj
        · have hkm := zan hj
          have hpn := hg.pn _ hkm
          have hFk := fun (c : Nat) => hFs c _ hkm
          have hsj := hsk j hj
          have hcj := hcells j
          have hlj1 := hsl (j + 1) (by omega)
          have hkp : ∀ c : Int, (nth g.kinds j).progs.flatMap (fun p => zbF g.board 0 p c) = zbA g.board 0 (nth g.kinds j).progs c := fun c => rfl
          simp only [hkp] at hFk
          generalize zbA g.board 0 (nth g.kinds j).progs = KP at *
          repeat first|with_reducible refine wV fun _=>?_|simp [go_sem, hel, hC, hj]
          rw [zlP (fun (i : Nat) => [.lst 2 ((KP i).map zap)])]
          refine zBm (zBr (α := Nat) (fun c => ⟨[(1, .ref 0 0 9 0 0), (2, .ref 1 0 2 0 0), (3, .ref 2 0 2 0 0), (4, .ref 3 0 1 0 0), (6, .ref 5 0 3 0 0), (7, .sl 6 0 1 0 C), (9, .v (.int .i64 0)), (13, .lst 3 (g.kinds.map zaZ)), (14, .v (.int .i64 g.kinds.length)), (15, .v (.int .i64 j)), (24, .v (.int .i64 C)), (25, .v (.int .i64 c))],
              [(0, .rows false 0 9 [zab g]), (1, .rows true 0 2 [[AV.v (.slice none 0 0), AV.v (.slice none 0 0)]]), (2, .rows true 0 2 [[.sl 4 j 1 0 j, AV.v (.slice none 0 0)]]), (3, .rows false 0 1 [[.v (.int .i64 0)]]), (4, .rows true j 1 ((K 0 j).map fun x => [zbC x])),
               (5, .rows true 0 3 [zaZ (nth g.kinds j)]), (6, .rows true 0 1 (zhZ (fun (i : Nat) => [.lst 2 ((KP i).map zap)]) [AV.v (.slice none 0 0)] C c))], 7⟩)
            (fun d c => c + d = C) ?_ C 0 ?_) ?_ ?_
          · rintro d2 c c1' hrec3
            have hfl := zoM (fun (i : Nat) => [.lst 2 ((KP i).map zap)]) [AV.v (.slice none 0 0)] C c
            have hfs := zoN (fun (i : Nat) => [.lst 2 ((KP i).map zap)]) [AV.v (.slice none 0 0)] C c
            repeat first|with_reducible refine wV fun _=>?_|simp [go_sem, hel, hC, hlj, hfl]
            refine zBo (fun hc => ?_) (fun hc => ?_) <;> simp at hc
            · (repeat (first|with_reducible (first|refine wL fun _=>?_|refine wD fun _=>?_|refine wE ?_)|simp [go_sem, hel, hC, hj, hfl]))
              refine zn2.frz (zaL _ [7]) (zc6 _ _) ?_
              simp only [zrY]
              repeat first|with_reducible refine wV fun _=>?_|simp [go_sem, hel, hC, hj, hfl]
              refine zay.frz [.lst 1 ((nth g.kinds j).progs.map fun p => [zar p]), _] _ [0, 3, 7] [] (hFk c) (by simp) ?_ (by simp [go_sem]) ?_
              · intro h₁ hS
                have h0 := hS 0 (by simp)
                have h3 := hS 3 (by simp)
                have h7 := hS 7 (by simp)
                simp [upd, zaL, zaS] at h0 h3 h7
                refine .cons (.refl _) (.cons (.fn .nil (.cons (.frzP h0.symm (by simp) (by simp) (by simp [zao, upd, ← h0]) (.refl _ _ _ _)) (.cons (.frzP h3.symm (by simp) (by simp) (by simp [zao, upd, ← h3]) (.refl _ _ _ _)) (.cons (.frzP h7.symm (by simp) (by simp) (by simp [zao, upd, ← h7]) (.refl _ _ _ _)) .nil)))) .nil)
              · (repeat (first|with_reducible refine wV fun _=>?_|simp [go_sem, hel, hC, hj, hfl]))
                refine zBm (hrec3 (d2 - 1) (by omega) (c + 1) (by omega)) ?_ (by simp)
                simp [go_sem, zah, hfs, hC]
                exact zhj (fun i x hx => by simp only [List.mem_singleton] at hx; subst hx; exact of_eq_true zhP) (fun x hx => by simp only [List.mem_singleton] at hx; subst hx; exact .v _)
            · have hcC : c = C := by omega
              subst hcC
              rw [zoL]
              repeat first|with_reducible refine wV fun _=>?_|simp [go_sem, hel, hC, hj]
              refine zBm (hrec2 (d - 1) (by omega) (j + 1) (by omega)) ?_ (by simp)
              simp [go_sem, zah, hsj, hcj, hC]
              (first|done|exact leX)
          · simp
          · simp [go_sem, zah, hC]
            exact zhj (fun i x hx => by simp only [List.mem_singleton] at hx; subst hx; exact of_eq_true zhP) (fun x hx => by simp only [List.mem_singleton] at hx; subst hx; exact .v _)
          · simp
        · have hjl : j = g.kinds.length := by omega
          subst hjl
          rw [hsa]
          repeat first|with_reducible refine wV fun _=>?_|simp [go_sem, hel, hC]
          refine zBm (hrec (d0 - 1) (by omega) (1) (by omega)) ?_ (by simp)
          have hsl' : (zbD g 0).length = g.kinds.length := by simp [zbD]
          simp [go_sem, zah, hC]
          ((try simp only [zar, zau, zaE, zaY, zap, zaX, zat, zal, zad, za9, zaQ, zaz, zas, zab, List.map_cons, List.map_nil, List.nil_append, List.append_nil, List.cons_append]); (repeat (first | (with_reducible first|exact zai.nil|exact zae.nil|exact LeV.refl _|exact zai.refl _ _ _ _|exact zae.refl _|refine zai.cons ?_ ?_|refine zae.cons ?_ ?_|refine LeV.agg ?_|refine LeV.tup ?_|refine LeV.fn ?_ ?_|exact LeV.nil _|refine zag (zae.refl _) ?_) | ((refine zam rfl (by simp [hsl']) (by simp [zaL, zaS, upd, noH]) ?_); (first | (simp [go_sem, hsl']; done) | (simp [go_sem, hsl']; exact List.take_of_length_le (by simp [hsl'])))) | ((refine LeV.frz rfl (by simp [hsl']) (by simp [zaL, zaS, upd, noH]) ?_); (simp only [List.drop_zero, List.take_succ_cons, List.take_zero, List.map_cons, List.map_nil])) | ((refine LeV.frzP rfl (by simp [hsl']) (by simp) (by simp [zaL, zaS, upd, noH]) ?_); (simp only [zaw, List.drop_zero])))))
      · simp
      · simp [go_sem, zah, hsz, hC]
      · simp
    · have hFs := hF 1
      have hsk := hsk 1
      have hsa := hsa 1
      have hsz := hsz 1
      have hsl := hsl 1
      have hcells := hcells 1
      repeat first|with_reducible refine wV fun _=>?_|simp [go_sem, hel, hC]
      refine zBm (zBr (α := Nat) (fun j => ⟨[(1, .ref 0 0 9 0 0), (2, .ref 1 0 2 0 0), (3, .ref 2 0 2 0 0), (4, .ref 3 0 1 0 0), (9, .v (.int .i64 1)), (13, .lst 3 (g.kinds.map zaZ)), (14, .v (.int .i64 g.kinds.length)), (15, .v (.int .i64 j))],
          [(0, .rows false 0 9 [zab g]), (1, .rows true 0 2 [[AV.v (.slice none 0 0), AV.v (.slice none 0 0)]]), (2, .rows true 0 2 [[zbe (zbD g 0), .sl 4 j 1 0 j]]), (3, .rows false 0 1 [[.v (.int .i64 1)]]), (4, .rows true j 1 ((K 1 j).map fun x => [zbC x]))], 5⟩)
        (fun d j => j + d = g.kinds.length) ?_ g.kinds.length 0 ?_) ?_ ?_
      · rintro d j j1 hrec2
        have hlj := hsl j (by omega)
        repeat first|with_reducible refine wV fun _=>?_|simp [go_sem, hel, hC, hlj]
        refine zBo (fun hj => ?_) (fun hj => ?_) <;> simp at hj
        · have hkm := zan hj
          have hpn := hg.pn _ hkm
          have hFk := fun (c : Nat) => hFs c _ hkm
          have hsj := hsk j hj
          have hcj := hcells j
          have hlj1 := hsl (j + 1) (by omega)
          have hkp : ∀ c : Int, (nth g.kinds j).progs.flatMap (fun p => zbF g.board 1 p c) = zbA g.board 1 (nth g.kinds j).progs c := fun c => rfl
          simp only [hkp] at hFk
          generalize zbA g.board 1 (nth g.kinds j).progs = KP at *
          repeat first|with_reducible refine wV fun _=>?_|simp [go_sem, hel, hC, hj]
          rw [zlP (fun (i : Nat) => [.lst 2 ((KP i).map zap)])]
          refine zBm (zBr (α := Nat) (fun c => ⟨[(1, .ref 0 0 9 0 0), (2, .ref 1 0 2 0 0), (3, .ref 2 0 2 0 0), (4, .ref 3 0 1 0 0), (6, .ref 5 0 3 0 0), (7, .sl 6 0 1 0 C), (9, .v (.int .i64 1)), (13, .lst 3 (g.kinds.map zaZ)), (14, .v (.int .i64 g.kinds.length)), (15, .v (.int .i64 j)), (24, .v (.int .i64 C)), (25, .v (.int .i64 c))],
              [(0, .rows false 0 9 [zab g]), (1, .rows true 0 2 [[AV.v (.slice none 0 0), AV.v (.slice none 0 0)]]), (2, .rows true 0 2 [[zbe (zbD g 0), .sl 4 j 1 0 j]]), (3, .rows false 0 1 [[.v (.int .i64 1)]]), (4, .rows true j 1 ((K 1 j).map fun x => [zbC x])),
               (5, .rows true 0 3 [zaZ (nth g.kinds j)]), (6, .rows true 0 1 (zhZ (fun (i : Nat) => [.lst 2 ((KP i).map zap)]) [AV.v (.slice none 0 0)] C c))], 7⟩)
            (fun d c => c + d = C) ?_ C 0 ?_) ?_ ?_
          · rintro d2 c c1' hrec3
            have hfl := zoM (fun (i : Nat) => [.lst 2 ((KP i).map zap)]) [AV.v (.slice none 0 0)] C c
            have hfs := zoN (fun (i : Nat) => [.lst 2 ((KP i).map zap)]) [AV.v (.slice none 0 0)] C c
            repeat first|with_reducible refine wV fun _=>?_|simp [go_sem, hel, hC, hlj, hfl]
            refine zBo (fun hc => ?_) (fun hc => ?_) <;> simp at hc
            · (repeat (first|with_reducible (first|refine wL fun _=>?_|refine wD fun _=>?_|refine wE ?_)|simp [go_sem, hel, hC, hj, hfl]))
              refine zn2.frz (zaL _ [7]) (zc6 _ _) ?_
              simp only [zrY]
              repeat first|with_reducible refine wV fun _=>?_|simp [go_sem, hel, hC, hj, hfl]
              refine zay.frz [.lst 1 ((nth g.kinds j).progs.map fun p => [zar p]), _] _ [0, 3, 7] [] (hFk c) (by simp) ?_ (by simp [go_sem]) ?_
              · intro h₁ hS
                have h0 := hS 0 (by simp)
                have h3 := hS 3 (by simp)
                have h7 := hS 7 (by simp)
                simp [upd, zaL, zaS] at h0 h3 h7
                refine .cons (.refl _) (.cons (.fn .nil (.cons (.frzP h0.symm (by simp) (by simp) (by simp [zao, upd, ← h0]) (.refl _ _ _ _)) (.cons (.frzP h3.symm (by simp) (by simp) (by simp [zao, upd, ← h3]) (.refl _ _ _ _)) (.cons (.frzP h7.symm (by simp) (by simp) (by simp [zao, upd, ← h7]) (.refl _ _ _ _)) .nil)))) .nil)
              · (repeat (first|with_reducible refine wV fun _=>?_|simp [go_sem, hel, hC, hj, hfl]))
                refine zBm (hrec3 (d2 - 1) (by omega) (c + 1) (by omega)) ?_ (by simp)
                simp [go_sem, zah, hfs, hC]
                exact zhj (fun i x hx => by simp only [List.mem_singleton] at hx; subst hx; exact of_eq_true zhP) (fun x hx => by simp only [List.mem_singleton] at hx; subst hx; exact .v _)
            · have hcC : c = C := by omega
              subst hcC
              rw [zoL]
              repeat first|with_reducible refine wV fun _=>?_|simp [go_sem, hel, hC, hj]
              refine zBm (hrec2 (d - 1) (by omega) (j + 1) (by omega)) ?_ (by simp)
              simp [go_sem, zah, hsj, hcj, hC]
              (first|done|exact leX)
          · simp
          · simp [go_sem, zah, hC]
            exact zhj (fun i x hx => by simp only [List.mem_singleton] at hx; subst hx; exact of_eq_true zhP) (fun x hx => by simp only [List.mem_singleton] at hx; subst hx; exact .v _)
          · simp
        · have hjl : j = g.kinds.length := by omega
          subst hjl
          rw [hsa]
          repeat first|with_reducible refine wV fun _=>?_|simp [go_sem, hel, hC]
          refine zBm (hrec (d0 - 1) (by omega) (2) (by omega)) ?_ (by simp)
          have hsl' : (zbD g 1).length = g.kinds.length := by simp [zbD]
          simp [go_sem, zah, hC]
          ((try simp only [zar, zau, zaE, zaY, zap, zaX, zat, zal, zad, za9, zaQ, zaz, zas, zab, List.map_cons, List.map_nil, List.nil_append, List.append_nil, List.cons_append]); (repeat (first | (with_reducible first|exact zai.nil|exact zae.nil|exact LeV.refl _|exact zai.refl _ _ _ _|exact zae.refl _|refine zai.cons ?_ ?_|refine zae.cons ?_ ?_|refine LeV.agg ?_|refine LeV.tup ?_|refine LeV.fn ?_ ?_|exact LeV.nil _|refine zag (zae.refl _) ?_) | ((refine zam rfl (by simp [hsl']) (by simp [zaL, zaS, upd, noH]) ?_); (first | (simp [go_sem, hsl']; done) | (simp [go_sem, hsl']; exact List.take_of_length_le (by simp [hsl'])))) | ((refine LeV.frz rfl (by simp [hsl']) (by simp [zaL, zaS, upd, noH]) ?_); (simp only [List.drop_zero, List.take_succ_cons, List.take_zero, List.map_cons, List.map_nil])) | ((refine LeV.frzP rfl (by simp [hsl']) (by simp) (by simp [zaL, zaS, upd, noH]) ?_); (simp only [zaw, List.drop_zero])))))
      · simp
      · simp [go_sem, zah, hsz, hC]
      · simp
    · (repeat (first|with_reducible refine wV fun _=>?_|simp [go_sem]))
  · simp
  · simp [go_sem, zah]
  · simp
theorem zvq {n : Nat} {l : List (Int × Int)} : (∀ r ∈ l.map zau, ∀ c ∈ r, Bel n c) = True := by
 refine eq_true ?_
 intro r hr c hc
 obtain ⟨x, _, rfl⟩ := List.mem_map.1 hr
 revert c
 simp [go_sem]
attribute [go_sem ↓] zvq
structure zmG (g : zaf) (c : zmx) : Prop where
 l1 : c.1.length = g.kinds.length
 l2 : c.2.length = g.kinds.length
 c1 : ∀ x ∈ c.1, (x.length : Int) = g.cells
 c2 : ∀ x ∈ c.2, (x.length : Int) = g.cells
theorem zmG.side {g : zaf} {c : zmx} (h : zmG g c) {s : Nat} (hs : s < 2) : ∃ l, cel [zbe c.1, zbe c.2] s = zbe l ∧ l.length = g.kinds.length ∧ ∀ x ∈ l, (x.length : Int) = g.cells := by
 rcases (show s = 0 ∨ s = 1 by omega) with rfl | rfl
 ·exact ⟨_, rfl, h.l1, h.c1⟩
 ·exact ⟨_, rfl, h.l2, h.c2⟩
theorem zrh {g : zaf} (hg : GOk g) : zmG g (zbH g) := by
 have h : ∀ s, ∀ x ∈ zbD g s, (x.length : Int) = g.cells := by
  intro s x hx
  obtain ⟨k, _, rfl⟩ := List.mem_map.1 hx
  have : g.board.cells = g.cells := rfl
  have := hg.c1
  simp [zfx]
  omega
 exact ⟨by simp [zbH, zbD], by simp [zbH, zbD], h 0, h 1⟩
theorem zpw (g : zaf) (s : Int) {k c : Nat} (hk : k < g.kinds.length) (hc : c < g.cells.toNat) : nth (nth (zbD g s) k) c = zbA g.board s (nth g.kinds k).progs c := by
 unfold zbD
 rw [zbg _ _ _ hk]
 have hc' : c < (List.range g.board.cells.toNat).length := by rw [List.length_range]; exact hc
 show nth ((List.range g.board.cells.toNat).map fun (c : Nat) => zbA g.board s (nth g.kinds k).progs c) c = _
 rw [zbg _ _ _ hc', zaJ _ _ hc', List.getElem_range]
structure FitC (g : zaf) (c : zmx) : Prop where
 sh : zmG g c
 len : ∀ l ∈ c.1 ++ c.2, ∀ x ∈ l, x.length ≤ 1099511627776 ∧ zik 1048576 x
theorem zj2 {g : zaf} (hg : GOk g) : FitC g (zbH g) := by
 refine ⟨zrh hg, ?_⟩
 have h : ∀ s, ∀ l ∈ zbD g s, ∀ x ∈ l, x.length ≤ 1099511627776 ∧ zik 1048576 x := by
  intro s l hl x hx
  obtain ⟨k, hk, rfl⟩ := List.mem_map.1 hl
  obtain ⟨c, _, rfl⟩ := List.mem_map.1 hx
  exact ⟨by have := zfK hg s hk (c : Nat); omega, zh3 hg s hk _⟩
 intro l hl
 rcases List.mem_append.1 hl with hl | hl
 ·exact h 0 l hl
 ·exact h 1 l hl
theorem FitC.side {g : zaf} {c : zmx} (h : FitC g c) {s : Nat} (hs : s < 2) : ∃ l, cel [zbe c.1, zbe c.2] s = zbe l ∧ l.length = g.kinds.length ∧ (∀ x ∈ l, (x.length : Int) = g.cells) ∧ ∀ x ∈ l, ∀ y ∈ x, y.length ≤ 1099511627776 ∧ zik 1048576 y := by
 rcases (show s = 0 ∨ s = 1 by omega) with rfl | rfl
 ·exact ⟨_, rfl, h.sh.l1, h.sh.c1, fun x hx => h.len x (by simp [hx])⟩
 ·exact ⟨_, rfl, h.sh.l2, h.sh.c2, fun x hx => h.len x (by simp [hx])⟩
theorem ztS (d e k r : Int) (i : Nat) : zaI (nth (zpF d e k r) i) 2 ≤ 1 := by
 rcases Nat.lt_or_ge i 16 with h | h
 ·have : ∀ p ∈ zpF d e k r, zaI p 2 ≤ 1 := by
   intro p hp
   simp only [zpF, List.mem_cons, List.not_mem_nil, or_false] at hp
   rcases hp with rfl | rfl | rfl | rfl | rfl | rfl | rfl | rfl | rfl | rfl | rfl | rfl | rfl | rfl | rfl | rfl <;> simp [zaI]
  exact this _ (zan h)
 ·have e : nth (zpF d e k r) i = [] := by
   unfold nth
   rw [List.getD_eq_getElem?_getD, List.getElem?_eq_none (by exact h)]; rfl
  rw [e]
  simp [zaI]
theorem ztF {dirs kinds rights : Int} {p : List (Int × Int)} (h : zaI p 2 ≤ 1) : zaI (zzB dirs kinds rights p) 2 ≤ 1 := by
 unfold zzB
 split
 ·simp [zaI]
 ·exact Nat.le_trans (zfH 2 p) h
theorem zdr (x : zgA) : zbm (zfm x) := by
 intro k hk p hp
 obtain ⟨i, _, rfl⟩ := List.mem_map.1 hk
 obtain ⟨n, _, rfl⟩ := List.mem_map.1 hp
 exact ztF (ztS _ _ _ _ _)
def zom (n : Nat) : AV := .fn (.func 201) [] [.ref (n + 1) 0 2 0 0, .ref (n + 3) 0 1 0 0, .ref (n + 2) 0 5 0 0, .ref n 0 9 0 0]
theorem ztq (g : zaf) (c : zmx) (p : zaj) (hs : p.side = 0 ∨ p.side = 1) : zgp Tryz.prog 162 [.agg (zab g), .agg (zbo c), .agg (zad p)] zom (fun n => [(n, .rows true 0 9 [zab g]), (n + 1, .rows true 0 2 [zbo c]), (n + 2, .rows true 0 5 [zad p]), (n + 3, .rows true 0 1 [[.v (.int .i64 (1 - p.side))]])]) 4 := by
 refine ⟨?_, fun n => ⟨by simp [go_sem, zom], by simp [go_sem]⟩⟩
 refine zBp (by kernel_rfl) Tryz.func162 rfl rfl (Nat.le_of_ble_eq_true rfl) (by kernel_rfl) ?_
 repeat first|with_reducible refine wV fun _=>?_|simp [go_sem, zom]
 simp [go_sem, zah]

def cKd (g : zaf) (sd : Int) (p : zaj) (k : Nat) : List zaj := ((List.range g.kinds.length).drop k).flatMap (fun (k : Nat) => (List.range g.cells.toNat).flatMap fun (c : Nat) => (zbA g.board sd (nth g.kinds k).progs c).flatMap (zfw g sd p k c)) ++ zgF g sd p
def cCl (g : zaf) (sd : Int) (p : zaj) (k c : Nat) : List zaj := ((List.range g.cells.toNat).drop c).flatMap (fun (c : Nat) => (zbA g.board sd (nth g.kinds k).progs c).flatMap (zfw g sd p k c)) ++ cKd g sd p (k + 1)
def cPt (g : zaf) (sd : Int) (p : zaj) (k c i : Nat) : List zaj := ((zbA g.board sd (nth g.kinds k).progs c).drop i).flatMap (zfw g sd p k c) ++ cCl g sd p k (c + 1)
theorem zgH {n j : Nat} (h : j < n) : (List.range n).drop j = j :: (List.range n).drop (j + 1) := by
 rw [List.drop_eq_getElem_cons (by simpa using h)]; simp
theorem zzx {g : zaf} {sd : Int} {p : zaj} {k : Nat} (h : k < g.kinds.length) : cKd g sd p k = cCl g sd p k 0 := by
 unfold cCl cKd
 rw [zgH h, List.flatMap_cons, List.append_assoc]
 rfl
theorem zvA {g : zaf} {sd : Int} {p : zaj} : cKd g sd p g.kinds.length = zgF g sd p := by
 unfold cKd
 rw [List.drop_eq_nil_of_le (by simp)]
 rfl
theorem zzw {g : zaf} {sd : Int} {p : zaj} {k c : Nat} (h : c < g.cells.toNat) : cCl g sd p k c = cPt g sd p k c 0 := by
 unfold cPt cCl
 rw [zgH h, List.flatMap_cons, List.append_assoc]
 rfl
theorem zvz {g : zaf} {sd : Int} {p : zaj} {k : Nat} : cCl g sd p k g.cells.toNat = cKd g sd p (k + 1) := by
 unfold cCl
 rw [List.drop_eq_nil_of_le (by simp)]
 rfl
theorem zzy {g : zaf} {sd : Int} {p : zaj} {k c i : Nat} (h : i < (zbA g.board sd (nth g.kinds k).progs c).length) : cPt g sd p k c i = zfw g sd p k c (nth (zbA g.board sd (nth g.kinds k).progs c) i) ++ cPt g sd p k c (i + 1) := by
 unfold cPt
 rw [List.drop_eq_getElem_cons h, ← zaJ _ _ h, List.flatMap_cons, List.append_assoc]
theorem zvB {g : zaf} {sd : Int} {p : zaj} {k c : Nat} : cPt g sd p k c (zbA g.board sd (nth g.kinds k).progs c).length = cCl g sd p k (c + 1) := by
 unfold cPt
 rw [List.drop_eq_nil_of_le (Nat.le_refl _)]
 rfl
def cDr (g : zaf) (sd : Int) (p : zaj) (c : Nat) : List zaj := (((List.range p.at_.length).drop c).filter fun c => decide ((zaq (nth p.at_ c)).2 = sd) && (nth g.kinds (zaq (nth p.at_ c)).1.toNat).keep).map (ziU sd p)
theorem zyd (g : zaf) (sd : Int) (p : zaj) : cDr g sd p 0 = zgF g sd p := rfl
theorem cDr_go {g : zaf} {sd : Int} {p : zaj} {c : Nat} (h : c < p.at_.length) : cDr g sd p c = if (zaq (nth p.at_ c)).2 = sd ∧ (nth g.kinds (zaq (nth p.at_ c)).1.toNat).keep = true then ziU sd p c :: cDr g sd p (c + 1) else cDr g sd p (c + 1) := by
 unfold cDr
 rw [zgH h, List.filter_cons]
 by_cases h1 : (zaq (nth p.at_ c)).2 = sd ∧ (nth g.kinds (zaq (nth p.at_ c)).1.toNat).keep = true
 ·rw [if_pos h1, if_pos (by simp [h1.1, h1.2])]
  rfl
 ·rw [if_neg h1, if_neg (by
   intro h2
   rw [Bool.and_eq_true, decide_eq_true_eq] at h2
   exact h1 h2)]
theorem zAq (g : zaf) (sd : Int) (p : zaj) : cDr g sd p p.at_.length = [] := by
 unfold cDr
 rw [List.drop_eq_nil_of_le (by simp)]
 rfl
theorem zvD (g : zaf) (hg : GOk g) (p : zaj) (hp : POk g p) (sd : Int) (hsd : sd = 0 ∨ sd = 1) :
  znM Tryz.prog 201 [.fp (zbo (zbH g)), .fp [.v (.int .i64 sd)], .fp (zad p), .fp (zab g)] 0 ((zeX g sd p ++ zgF g sd p).map zcC) := by
 refine zBH (by kernel_rfl) Tryz.func201 rfl rfl (Nat.le_of_ble_eq_true rfl) (by kernel_rfl) (fun l => ?_) (hm2 := by decide)
 have hgh : ∀ (n : Nat) (L : List zaj), Bel n (zbi l 0 (L.map zcC)) = True := fun n (L : List zaj) => eq_true zvu
 have hf := hp.fits hg
 have hal := hp.al
 have c9 := hg.c9
 have c1 := hg.c1
 have k6 := hg.k6
 obtain ⟨cn, hcn⟩ : ∃ cn : Nat, cn = g.cells.toNat := ⟨_, rfl⟩
 have hF := zj2 hg
 have hegl : (zab g).length = 9 := rfl
 have hegk : cel (zab g) 3 = .lst 3 (g.kinds.map zaZ) := rfl
 have hegb : ∀ n, (∀ c ∈ zab g, Bel n c) = True := fun n => by simp [go_sem]
 have hcl : (zbo (zbH g)).length = 2 := rfl
 have hcs : cel ((zbo (zbH g)).drop sd.toNat) 0 = zbe (zbD g sd) := by rcases hsd with rfl | rfl <;> rfl
 have hsl : (zbD g sd).length = g.kinds.length := by
  rcases hsd with rfl | rfl
  ·exact hF.sh.l1
  ·exact hF.sh.l2
 have hz : zeX g sd p ++ zgF g sd p = cKd g sd p 0 := rfl
 rw [hz]
 have hecb : ∀ n, (∀ c ∈ zbo (zbH g), Bel n c) = True := fun n => by simp [go_sem]
 generalize zbo (zbH g) = ec at *
 obtain ⟨ck, hck⟩ : ∃ ck : Nat → List (List AV), ∀ k, ck k = (nth (zbD g sd) k).map fun y => [zaX y] := ⟨_, fun _ => rfl⟩
 have hckl : ∀ k, k < g.kinds.length → (ck k).length = cn := fun k hk => by
  rw [hck, List.length_map]
  have hm : nth (zbD g sd) k ∈ (zbH g).1 ++ (zbH g).2 := by
   have := zan (l := zbD g sd) (i := k) (by omega)
   rcases hsd with rfl | rfl
   ·exact List.mem_append_left _ this
   ·exact List.mem_append_right _ this
  rcases List.mem_append.1 hm with h | h
  ·have := hF.sh.c1 _ h; omega
  ·have := hF.sh.c2 _ h; omega
 have hckn : ∀ k, k < g.kinds.length → ∀ c, c < cn → nth (ck k) c = [.lst 2 ((zbA g.board sd (nth g.kinds k).progs c).map zap)] := fun k hk c hc => by
  have h1 := hckl k hk
  rw [hck, List.length_map] at h1
  rw [hck, zbg _ _ _ (by omega), zpw _ _ hk (by omega)]
  rfl
 have hckb : ∀ k n, (∀ r ∈ ck k, ∀ c ∈ r, Bel n c) = True := fun k n => eq_true fun r hr c hc => by
  rw [hck] at hr
  obtain ⟨y, _, rfl⟩ := List.mem_map.1 hr
  simp only [List.mem_singleton] at hc
  subst hc
  simp [go_sem]
 have hsn : ∀ k, k < g.kinds.length → nth ((zbD g sd).map fun x => [zbC x]) k = [.lst 1 (ck k)] := fun k hk => by rw [hck]; exact zbg _ _ _ (by omega)
 have hsl2 : ((zbD g sd).map fun x => [zbC x]).length = g.kinds.length := by rw [List.length_map]; exact hsl
 obtain ⟨es, hes⟩ : ∃ es, es = (zbD g sd).map fun x => [zbC x] := ⟨_, rfl⟩
 have hcs' : cel (ec.drop sd.toNat) 0 = .lst 1 es := by rw [hcs, hes]; rfl
 have heb : ∀ n, (∀ r ∈ es, ∀ c ∈ r, Bel n c) = True := fun n => eq_true fun r hr c hc => by
  rw [hes] at hr
  obtain ⟨y, _, rfl⟩ := List.mem_map.1 hr
  simp only [List.mem_singleton] at hc
  subst hc
  simp [go_sem]
 rw [← hes] at hsn hsl2
 clear hcs hes hck hsl hF
 have hsd0 : 0 ≤ sd := by omega
 have hsd2 : sd < 2 := by omega
 have hsd3 : sd.toNat ≤ 2 := by omega
 repeat first|with_reducible refine wV fun _=>?_|simp [go_sem, GH, hcl, hcs', hsl2]
 refine zBm (zBr (α := Nat) (fun k => ⟨[(2, .fp [.v (.int .i64 sd)]), (3, .fp (zad p)), (4, .fp (zab g)), (5, .ref 0 0 1 0 0), (24, .lst 1 es), (25, .v (.int .i64 g.kinds.length)), (26, .v (.int .i64 k)), (1000000007, zbi l 0 ((cKd g sd p k).map zcC))], [(0, .rows true 0 1 [[.fn (.yield l) [] []]])], 1⟩)
  (fun d k => k + d = g.kinds.length) ?_ g.kinds.length 0 ?_) ?_ ?_
 ·rintro d k k1 hrec
  repeat first|with_reducible refine wV fun _=>?_|simp [go_sem, GH, hsl2]
  refine zBo (fun hk => ?_) (fun hk => ?_) <;> simp at hk
  ·have hsnk := hsn k hk
   have hckl := hckl k hk
   have hckn := hckn k hk
   have hckb := hckb k
   generalize ck k = ce at *
   rw [zzx hk]
   repeat first|with_reducible refine wV fun _=>?_|simp [go_sem, GH, hsl2, hk, hsnk, hckl]
   refine zBm (zBr (α := Nat) (fun c => ⟨[(2, .fp [.v (.int .i64 sd)]), (3, .fp (zad p)), (4, .fp (zab g)), (5, .ref 0 0 1 0 0), (6, .ref 1 0 1 0 0), (24, .lst 1 es), (25, .v (.int .i64 g.kinds.length)), (26, .v (.int .i64 k)), (31, .lst 1 ce), (32, .v (.int .i64 cn)), (33, .v (.int .i64 c)), (1000000007, zbi l 0 ((cCl g sd p k c).map zcC))],
     [(0, .rows true 0 1 [[.fn (.yield l) [] []]]), (1, .rows true 0 1 [[.v (.int .i64 k)]])], 2⟩)
    (fun d c => c + d = cn) ?_ cn 0 ?_) ?_ ?_
   ·rintro d2 c c1' hrec2
    repeat first|with_reducible refine wV fun _=>?_|simp [go_sem, GH, hckl]
    refine zBo (fun hc => ?_) (fun hc => ?_) <;> simp at hc
    ·have hcn2 := hckn c hc
     have hkm := zan hk
     have hwok := zf7 hg (side := sd) hkm (cell := (c : Int)) ⟨by omega, by omega⟩
     have hlen := zfK hg sd hkm (c : Int)
     have hacl := zh3 hg sd hkm (c : Int)
     have hmw : ∀ {i : Nat}, i < (zbA g.board sd (nth g.kinds k).progs c).length → nth (zbA g.board sd (nth g.kinds k).progs c) i ∈ zbA g.board sd (nth g.kinds k).progs c := fun h => zan h
     have hpg := fun i h => zzy (g := g) (sd := sd) (p := p) (k := k) (c := c) (i := i) h
     have hpe := zvB (g := g) (sd := sd) (p := p) (k := k) (c := c)
     rw [zzw (by omega)]
     generalize zbA g.board sd (nth g.kinds k).progs c = pt at *
     repeat first|with_reducible refine wV fun _=>?_|simp [go_sem, GH, hckl, hc, hcn2]
     refine zBm (zBr (α := Nat) (fun i => ⟨[(2, .fp [.v (.int .i64 sd)]), (3, .fp (zad p)), (4, .fp (zab g)), (5, .ref 0 0 1 0 0), (6, .ref 1 0 1 0 0), (8, .ref 2 0 1 0 0), (24, .lst 1 es), (25, .v (.int .i64 g.kinds.length)), (26, .v (.int .i64 k)), (31, .lst 1 ce), (32, .v (.int .i64 cn)), (33, .v (.int .i64 c)), (38, .lst 2 (pt.map zap)), (39, .v (.int .i64 pt.length)), (40, .v (.int .i64 i)), (1000000007, zbi l 0 ((cPt g sd p k c i).map zcC))],
       [(0, .rows true 0 1 [[.fn (.yield l) [] []]]), (1, .rows true 0 1 [[.v (.int .i64 k)]]), (2, .rows true 0 1 [[.v (.int .i64 c)]])], 3⟩)
      (fun d i => i + d = pt.length) ?_ pt.length 0 ?_) ?_ ?_
     ·rintro d3 i i1 hrec3
      repeat first|with_reducible refine wV fun _=>?_|simp [go_sem, GH]
      refine zBo (fun hi => ?_) (fun hi => ?_) <;> simp at hi
      ·have hw := hwok _ (zan hi)
       have hgi := zbg zap pt i hi
       have hmw := hmw hi
       have hpg := hpg i hi
       unfold zfw at hpg
       generalize nth pt i = w at *
       obtain ⟨hw1, hw2, hw3, hw4, hw5⟩ := hw
       have hto : w.to.toNat < p.at_.length := by omega
       have hto0 := hw1.1
       have hMa := zfI (nth p.at_ w.to.toNat)
       have hal2 : w.acts.length ≤ 1048576 := by have := hacl w hmw; omega
       have hW := zeQ p hf w.to 0 hto0 hto
       have hlf : POk g ⟨p.at_.set w.to.toNat 0, p.h0, p.h1, p.rights, sd⟩ := by
        have := hp.setAt w.to.toNat (v := 0) (by omega)
        exact ⟨this.al, this.av, this.h0, this.h1, this.r0, this.r1, hsd⟩
       generalize p.at_.set w.to.toNat 0 = A at *
       have hA : zgp Tryz.prog 203 [.agg (zab g), .agg (zad ⟨A, p.h0, p.h1, p.rights, sd⟩), zaY w.acts] (fun n => zkR n) (fun n => zkS g ⟨A, p.h0, p.h1, p.rights, sd⟩ w.acts n) 3 := ziN _ _ _
       have hS := zrp g hg w.acts.length w.acts _ rfl hal2 hlf hw2
       have hro := zhH hg hsd hlf (l := w.acts.reverse) (fun a ha => hw2 a (List.mem_reverse.1 ha))
       simp only [zkR, zkS] at hA
       simp only at hS
       repeat first|with_reducible refine wV fun _=>?_|simp [go_sem, GH, hi, hgi, hto, hto0]
       refine zBn hMa (by simp [go_sem]) ?_
       generalize zaq (nth p.at_ w.to.toNat) = m at *
       obtain ⟨m1, m2⟩ := m
       replace hpg : cPt g sd p k c i = (if m2 = sd then _ else _) ++ _ := hpg
       repeat first|with_reducible refine wV fun _=>?_|simp [go_sem, GH]
       refine zBo (fun hne => ?_) (fun hne => ?_) <;> simp at hne
       ·rw [if_neg hne, List.nil_append] at hpg
        rw [hpg]
        repeat first|with_reducible refine wV fun _=>?_|simp [go_sem, GH]
        refine zBm (hrec3 (d3 - 1) (by omega) (i + 1) (by omega)) ?_ (by simp)
        simp [go_sem, zah, GH, hgh, heb, hckb]
       ·subst hne
        rw [if_pos rfl] at hpg
        obtain ⟨fF, hfF⟩ : ∃ fF : List zaj → List zaj, ∀ ys, fF ys = ((ys.filter fun q => decide (nth q.at_ c = 0)).map fun q => { q with at_ := q.at_.set c (zaD k m2) }) ++ cPt g m2 p k c (i + 1) := ⟨_, fun _ => rfl⟩
        rw [← hfF] at hpg
        rw [hpg]
        repeat first|with_reducible refine wV fun _=>?_|simp [go_sem, GH, hto0]
        refine zBn hW (by simp [go_sem]) ?_
        repeat first|with_reducible refine wV fun _=>?_|simp [go_sem, GH]
        refine zBs hA (by simp [go_sem]) ?_
        repeat first|with_reducible refine wV fun _=>?_|simp [go_sem, GH]
        refine zey.mk [.fp [zaY w.acts], .fp (zad ⟨A, p.h0, p.h1, p.rights, m2⟩), .fp (zab g)] (zaL _ [5, 6, 7]) hS (zc6 _ _) ?_ (by simp [go_sem]) (fun xs hx => by obtain ⟨y, _, rfl⟩ := List.mem_map.1 hx; rfl) ?_
        ·refine zai.cons (.frzP rfl ?_ ?_ ?_ ?_) (zai.cons (.frzP rfl ?_ ?_ ?_ ?_) (zai.cons (.frzP rfl ?_ ?_ ?_ ?_) .nil)) <;> first | exact zai.refl _ _ _ _ | (simp [zaL, zaS, upd]; done)
        generalize zcH g m2 ⟨A, p.h0, p.h1, p.rights, m2⟩ w.acts.reverse = ys at *
        clear hS
        refine Fgt.to (zBF (α := List zaj) (fun ys => ([(2, .fp [.v (.int .i64 m2)]), (3, .fp (zad p)), (4, .fp (zab g)), (5, .ref 0 0 1 0 0), (6, .ref 1 0 1 0 0), (8, .ref 2 0 1 0 0), (24, .lst 1 es), (25, .v (.int .i64 g.kinds.length)), (26, .v (.int .i64 k)), (31, .lst 1 ce), (32, .v (.int .i64 cn)), (33, .v (.int .i64 c)), (38, .lst 2 (pt.map zap)), (39, .v (.int .i64 pt.length)), (40, .v (.int .i64 i)), (1000000007, zbi l 0 ((fF ys).map zcC))],
          [(0, .rows true 0 1 [[.fn (.yield l) [] []]]), (1, .rows true 0 1 [[.v (.int .i64 k)]]), (2, .rows true 0 1 [[.v (.int .i64 c)]])], 3))
         (fun rows ys => rows = ys.map zcC ∧ ∀ q ∈ ys, POk g q) ?_ ?_ _ ys ⟨rfl, fun q hq => (hro q hq).1⟩) ?_ ?_
        ·rintro ys ⟨i1, i2⟩
         obtain rfl : ys = [] := by
          cases ys with
          | nil => rfl
          | cons => cases i1
         refine ⟨rfl, ?_⟩
         rw [show fF [] = cPt g m2 p k c (i + 1) from by rw [hfF]; rfl]
         repeat first|with_reducible refine wV fun _=>?_|simp [go_sem, GH]
         refine zBm (hrec3 (d3 - 1) (by omega) (i + 1) (by omega)) ?_ (by simp)
         simp [go_sem, zah, GH, hgh, heb, hckb]
        ·rintro xs rs ys ⟨i1, i2⟩ hrec4
         obtain ⟨y, ys, rfl⟩ : ∃ q t, ys = q :: t := by
          cases ys with
          | nil => cases i1
          | cons q t => exact ⟨q, t, rfl⟩
         rw [List.map_cons, List.cons.injEq] at i1
         obtain ⟨rfl, rfl⟩ := i1
         have hy := i2 y (by simp)
         have hyl := hy.al
         have hcy : c < y.at_.length := by omega
         have hCo := zdO k m2
         have hWy := zeQ y (hy.fits hg) c (zaD k m2) (by omega) (by rw [Int.toNat_natCast]; exact hcy)
         rw [Int.toNat_natCast] at hWy
         have hfy : fF (y :: ys) = if nth y.at_ c = 0 then { y with at_ := y.at_.set c (zaD k m2) } :: fF ys else fF ys := by
          rw [hfF, hfF, List.filter_cons]
          by_cases hz : nth y.at_ c = 0
          ·rw [if_pos hz, if_pos (by simpa using hz)]
           rfl
          ·rw [if_neg hz, if_neg (by simpa using hz)]
         obtain ⟨Y, hY⟩ : ∃ Y, Y = { y with at_ := y.at_.set c (zaD k m2) } := ⟨_, rfl⟩
         rw [← hY] at hWy hfy
         generalize zaD k m2 = cd at *
         refine zBI (Nat.zero_le _) ?_
         by_cases hz : nth y.at_ c = 0
         ·rw [if_pos hz] at hfy
          rw [hfy]
          (repeat (first|with_reducible (first|refine wL fun _=>?_|refine wD fun _=>?_|refine wE ?_)|simp [go_sem, GH, zcC]))
          refine zn2.split 14 ?_
          repeat first|with_reducible refine wV fun _=>?_|simp [go_sem, GH, hcy, hz]
          refine zBz (.v (.int .i64 cd)) (fun _ => hCo) (by simp [go_sem]) ?_
          repeat first|with_reducible refine wV fun _=>?_|simp [go_sem, GH, hcy]
          refine zBz (.agg (zad Y)) (fun _ => hWy) (by simp [go_sem]) ?_
          repeat first|with_reducible refine wV fun _=>?_|simp [go_sem, GH]
          refine aGC.yld (more := 0) (xs := zcC Y) (rs := (fF ys).map zcC) _ (by simp [upd, GH, zcC, zad, zas]) (.refl _) (.refl _ _ _ _) (by simp [go_sem, zcC]) ?_ ?_
          ·repeat first|with_reducible refine wV fun _=>?_|simp [go_sem, GH]
           refine Fgt.to (hrec4 ys ⟨rfl, fun z hz => i2 z (by simp [hz])⟩) ?_ (by simp)
           simp [go_sem, zah, GH, hgh, heb, hckb]
          ·repeat first|with_reducible refine wV fun _=>?_|simp [go_sem, GH]
         ·rw [if_neg hz] at hfy
          rw [hfy]
          (repeat (first|with_reducible (first|refine wL fun _=>?_|refine wD fun _=>?_|refine wE ?_)|simp [go_sem, GH, zcC]))
          refine zn2.split 14 ?_
          repeat first|with_reducible refine wV fun _=>?_|simp [go_sem, GH, hcy, hz]
          refine zBz (.v (.int .i64 cd)) (fun _ => hCo) (by simp [go_sem]) ?_
          repeat first|with_reducible refine wV fun _=>?_|simp [go_sem, GH, hcy]
          refine zBz (.agg (zad Y)) (fun h => by cases h) (by simp [go_sem]) ?_
          repeat first|with_reducible refine wV fun _=>?_|simp [go_sem, GH]
          refine aGC.skip (.v (.bool true)) ?_
          repeat first|with_reducible refine wV fun _=>?_|simp [go_sem, GH]
          refine Fgt.to (hrec4 ys ⟨rfl, fun z hz => i2 z (by simp [hz])⟩) ?_ (by simp)
          simp [go_sem, zah, GH, hgh, heb, hckb]
        ·simp [go_sem, zah, GH, hgh, heb, hckb]
        ·simp
      ·obtain rfl : i = pt.length := by omega
       rw [hpe]
       repeat first|with_reducible refine wV fun _=>?_|simp [go_sem, GH]
       refine zBm (hrec2 (d2 - 1) (by omega) (c + 1) (by omega)) ?_ (by simp)
       simp [go_sem, zah, GH, hgh, heb, hckb]
     ·omega
     ·simp [go_sem, zah, GH, hgh, heb, hckb]
     ·simp
    ·obtain rfl : c = cn := by omega
     rw [hcn, zvz]
     repeat first|with_reducible refine wV fun _=>?_|simp [go_sem, GH]
     refine zBm (hrec (d - 1) (by omega) (k + 1) (by omega)) ?_ (by simp)
     simp [go_sem, zah, GH, hgh, heb]
   ·omega
   ·simp [go_sem, zah, GH, hgh, heb, hckb]
   ·simp
  ·obtain rfl : k = g.kinds.length := by omega
   rw [zvA, ← zyd]
   clear hrec heb hckb hckn hckl hsn hsl2 hcs'
   repeat first|with_reducible refine wV fun _=>?_|simp [go_sem, GH]
   refine zBm (zBr (α := Nat) (fun c => ⟨[(2, .fp [.v (.int .i64 sd)]), (3, .fp (zad p)), (4, .fp (zab g)), (5, .ref 0 0 1 0 0), (90, zas p.at_), (91, .v (.int .i64 p.at_.length)), (92, .v (.int .i64 c)), (1000000007, zbi l 0 ((cDr g sd p c).map zcC))], [(0, .rows true 0 1 [[.fn (.yield l) [] []]])], 1⟩)
    (fun d c => c + d = p.at_.length) ?_ p.at_.length 0 ?_) ?_ ?_
   ·rintro d c c1' hrec
    repeat first|with_reducible refine wV fun _=>?_|simp [go_sem, GH]
    refine zBo (fun hc => ?_) (fun hc => ?_) <;> simp at hc
    ·have hgo := cDr_go (g := g) (sd := sd) (p := p) hc
     have hv := hp.at (i := c) (by omega)
     have hman := zaU hv.1 hv.2 k6
     have hMa := zfI (nth p.at_ c)
     have hW := zeQ p hf c 0 (by omega) (by rw [Int.toNat_natCast]; exact hc)
     rw [Int.toNat_natCast] at hW
     have hlp : ziU sd p c = { (({ p with at_ := p.at_.set c 0 } : zaj).withHand sd ((p.hand sd).set (zaq (nth p.at_ c)).1.toNat (nth (p.hand sd) (zaq (nth p.at_ c)).1.toNat + 1))) with side := sd } := by
      rcases hsd with rfl | rfl <;> rfl
     rw [hlp] at hgo
     clear hlp
     have hfA : za0 { p with at_ := p.at_.set c 0 } := ⟨by simpa [zeS] using hf.1, hf.2⟩
     have hCt := fun (kd : Int) h0 h1 h2 => zlK { p with at_ := p.at_.set c 0 } hfA sd kd 1 hsd h0 h1 h2
     generalize p.at_.set c 0 = A at *
     generalize zaq (nth p.at_ c) = m at *
     obtain ⟨m1, m2⟩ := m
     repeat first|with_reducible refine wV fun _=>?_|simp [go_sem, GH, hc]
     refine zBn hMa (by simp [go_sem]) ?_
     replace hgo : cDr g sd p c = if m2 = sd ∧ (nth g.kinds m1.toNat).keep = true then _ else _ := hgo
     by_cases hms : m2 = sd
     ·subst hms
      simp only [Prod.mk.injEq] at hman
      obtain ⟨hm0, hmk⟩ : 0 ≤ m1 ∧ m1 < g.kinds.length := by omega
      have hmk' : m1.toNat < g.kinds.length := by omega
      have hgk : nth (g.kinds.map zaZ) m1.toNat = zaZ (nth g.kinds m1.toNat) := zbg _ _ _ hmk'
      by_cases hkp : (nth g.kinds m1.toNat).keep = true
      ·rw [if_pos ⟨rfl, hkp⟩] at hgo
       have hhl := (hp.hand m2).len
       have hhv := (hp.hand m2).v m1.toNat (by omega)
       have hCt := hCt m1 hm0 (by show m1.toNat < (p.hand m2).length; omega) (by
        show -1000 ≤ nth (p.hand m2) m1.toNat + 1 ∧ nth (p.hand m2) m1.toNat + 1 ≤ 1000
        omega)
       obtain ⟨Q, hQ⟩ : ∃ Q, Q = (⟨A, p.h0, p.h1, p.rights, p.side⟩ : zaj).withHand m2 ((p.hand m2).set m1.toNat (nth (p.hand m2) m1.toNat + 1)) := ⟨_, rfl⟩
       rw [← hQ] at hgo
       replace hCt : zaC Tryz.prog 204 [.agg (zad ⟨A, p.h0, p.h1, p.rights, p.side⟩), .v (.int .i64 m2), .v (.int .i64 m1), .v (.int .i64 1)] (.agg (zad Q)) := by rw [hQ]; exact hCt
       rw [hgo]
       repeat first|with_reducible refine wV fun _=>?_|simp [go_sem, GH, hm0, hmk', hgk, hkp]
       refine zBq hW (by simp [go_sem]) ?_
       repeat first|with_reducible refine wV fun _=>?_|simp [go_sem, GH]
       refine zBq hCt (by simp [go_sem]) ?_
       repeat first|with_reducible refine wV fun _=>?_|simp [go_sem, GH]
       refine zsO.mk (more := 0) (xs := zcC { Q with side := m2 }) (rs := (cDr g m2 p (c + 1)).map zcC) _ (by simp [upd, GH]) (.refl _) (.refl _ _ _ _) (by simp [go_sem, zcC]) ?_ ?_
       ·repeat first|with_reducible refine wV fun _=>?_|simp [go_sem, GH]
        refine zBm (hrec (d - 1) (by omega) (c + 1) (by omega)) ?_ (by simp)
        simp [go_sem, zah, GH, hgh]
       ·repeat first|with_reducible refine wV fun _=>?_|simp [go_sem, GH]
      ·rw [if_neg (fun h => hkp h.2)] at hgo
       rw [hgo]
       repeat first|with_reducible refine wV fun _=>?_|simp [go_sem, GH, hm0, hmk', hgk, hkp]
       refine zBm (hrec (d - 1) (by omega) (c + 1) (by omega)) ?_ (by simp)
       simp [go_sem, zah, GH, hgh]
     ·rw [if_neg (fun h => hms h.1)] at hgo
      rw [hgo]
      simp only [Prod.mk.injEq] at hman
      have hmk' : m1.toNat < g.kinds.length := by have := hg.k1; omega
      have hgk : nth (g.kinds.map zaZ) m1.toNat = zaZ (nth g.kinds m1.toNat) := zbg _ _ _ hmk'
      repeat first|with_reducible refine wV fun _=>?_|simp [go_sem, GH, hms, hgk]
      refine zBm (hrec (d - 1) (by omega) (c + 1) (by omega)) ?_ (by simp)
      simp [go_sem, zah, GH, hgh]
    ·obtain rfl : c = p.at_.length := by omega
     rw [zAq]
     repeat first|with_reducible refine wV fun _=>?_|simp [go_sem, GH]
   ·omega
   ·simp [go_sem, zah, GH, hgh]
   ·simp
 ·omega
 ·simp [go_sem, zah, GH, hgh, heb]
 ·simp
theorem zdu {α : Type} [Inhabited α] {l : List α} {i : Nat} (h : i < l.length) : l.take (i + 1) = l.take i ++ [nth l i] := by
 rw [List.take_add_one, List.getElem?_eq_getElem h, zaJ _ _ h]; rfl
theorem zkZ (l : List zaj) (hl : l.length ≤ 17179869184) (f : FuncId) (caps : List AV) (C : znM Tryz.prog f caps 0 (l.map zcC)) (hb' : ∀ c ∈ caps, Bel 0 c) :
  zaC Tryz.prog 200 [zBu, .fn (.func f) [] caps] (zaz l) := by
 refine pF Tryz.func200 ?_
 have hbn : ∀ n, (∀ c ∈ caps, Bel n c) = True := fun n => eq_true fun c hc => (hb' c hc).mono (Nat.zero_le n)
 obtain ⟨tk, htk⟩ : ∃ tk : Nat → List zaj, ∀ k, tk k = l.take k := ⟨_, fun _ => rfl⟩
 have htl : ∀ k, k ≤ l.length → (tk k).length = k := fun k hk => by rw [htk]; simp; omega
 have hts : ∀ k, k < l.length → tk (k + 1) = tk k ++ [nth l k] := fun k hk => by rw [htk, htk]; exact zdu hk
 have ht0 : tk 0 = [] := by rw [htk]; rfl
 have hta : tk l.length = l := by rw [htk, List.take_length]
 clear htk
 repeat first|with_reducible refine wV fun _=>?_|simp [go_sem, GH]
 refine zey.mk caps _ C (.refl _) (.refl _ _ _ _) hb' (fun xs hx => by obtain ⟨y, _, rfl⟩ := List.mem_map.1 hx; rfl) ?_
 refine Fgt.to (zBF (α := Nat) (fun k => ([(2, .ref 0 0 1 0 0)], [(0, .rows true 0 1 [[.sl 1 k 5 0 k]]), (1, .rows true k 5 ((tk k).map zad))], 2))
  (fun rows k => rows = (l.drop k).map zcC ∧ k ≤ l.length) ?_ ?_ _ 0 ?_) ?_ ?_
 ·rintro k ⟨i1, i2⟩
  have hk : k = l.length := by
   have := congrArg List.length i1
   simp at this
   omega
  subst hk
  refine ⟨rfl, ?_⟩
  rw [hta]
  repeat first|with_reducible refine wV fun _=>?_|simp [go_sem, GH]
  exact frX
 ·rintro xs rs k ⟨i1, i2⟩ hrec
  have hk : k < l.length := by
   have := congrArg List.length i1
   simp at this
   omega
  rw [zaO hk, List.map_cons, List.cons.injEq] at i1
  obtain ⟨rfl, rfl⟩ := i1
  have hts := hts k hk
  have hkl := htl k i2
  generalize hrs : (l.drop (k + 1)).map zcC = rs at *
  refine zBI (Nat.zero_le _) ?_
  repeat first|with_reducible refine wV fun _=>?_|simp [go_sem, GH, zcC, hkl]
  refine Fgt.to (hrec (k + 1) ⟨hrs.symm, by omega⟩) ?_ (by simp)
  simp [go_sem, zah, GH, hts, hkl]
 ·exact ⟨by simp, by omega⟩
 ·simp [go_sem, zah, GH, ht0]
 ·simp
theorem znG (l : List zaj) (hl : l.length ≤ 17179869184) (f : FuncId) (caps : List AV) (C : znM Tryz.prog f caps 0 (l.map zcC)) (hb' : ∀ c ∈ caps, Bel 0 c) :
  zaC Tryz.prog 161 [.fn (.func f) [] caps] (zaz l) := by
 refine pF Tryz.func161 ?_
 have hA := zkZ l hl f caps C hb'
 have hbn : ∀ n, (∀ c ∈ caps, Bel n c) = True := fun n => eq_true fun c hc => (hb' c hc).mono (Nat.zero_le n)
 repeat first|with_reducible refine wV fun _=>?_|simp [go_sem]
 refine zBn hA (by simp [go_sem, hbn]) ?_
 repeat first|with_reducible refine wV fun _=>?_|simp [go_sem]
theorem SzP.fits {g : zaf} (hg : GOk g) {q : zaj} (h : SzP g q) : za0 q := by
 have := hg.c9
 have := hg.k6
 obtain ⟨h1, h2, h3⟩ := h
 refine ⟨?_, ?_, ?_⟩ <;> unfold zeS <;> omega
theorem zjG (g : zaf) (hg : GOk g) (hs : zbm g) (p : zaj) (hp : POk g p) : zaC Tryz.prog 105 [.agg (zab g), .agg (zbo (zbH g)), .agg (zad p)] (.tup [zaz (zbG g p).1, .v (.int .i64 (zbG g p).2)]) := by
 refine pF Tryz.func105 ?_
 have hO : zgp Tryz.prog 162 [.agg (zab g), .agg (zbo (zbH g)), .agg (zad p)] (fun n => zom n) (fun n => [(n, .rows true 0 9 [zab g]), (n + 1, .rows true 0 2 [zbo (zbH g)]), (n + 2, .rows true 0 5 [zad p]), (n + 3, .rows true 0 1 [[.v (.int .i64 (1 - p.side))]])]) 4 := ztq g (zbH g) p hp.s
 simp only [zom] at hO
 have hQ := zvD g hg p hp (1 - p.side) (by have := hp.s; omega)
 change znM _ _ _ _ ((zdi g p).map zcC) at hQ
 have hcl := zhR hg hs hp
 have hsz := (zrP hg hp).1
 have hCo := znG (zdi g p) (by omega) _ _ hQ (by simp [go_sem])
 have hSo := zdP (zdi g p) (by omega) (fun q hq => (hsz q hq).fits hg)
 have hsl : (zbp zbB (zdi g p)).length ≤ 35831817 := Nat.le_trans (zdL _ _) hcl
 have hszS : ∀ q ∈ zbp zbB (zdi g p), za0 q := fun q hq => (hsz q (zbc.1 hq)).fits hg
 have hall := zx3 g p
 have hbs := fun i h => zoi (g := g) (p := p) (l := zbp zbB (zdi g p)) (i := i) h
 have hb0 := zoj g p (zbp zbB (zdi g p))
 have hbl := zrJ g p (zbp zbB (zdi g p))
 have hV := fun q hq => zlw g (by have := hg.k6; unfold zfp; omega) ⟨hg.r0, by have := hg.r4; omega⟩ q (hszS q hq)
 have hL := fun q (hq : zeI g q = true) => zhK g hg q (ze8.1 hq) p (hp.fits hg)
 have hBe : zbG g p = if 4000 < (zaG g p).length then ([], 2) else (zaG g p, 0) := rfl
 rw [← hall] at hBe
 rw [hBe]
 clear hall hBe hsz
 generalize zrI g p (zbp zbB (zdi g p)) = bI at *
 generalize zbp zbB (zdi g p) = S at *
 repeat first|with_reducible refine wV fun _=>?_|simp [go_sem]
 refine zBs hO (by simp [go_sem]) ?_
 repeat first|with_reducible refine wV fun _=>?_|simp [go_sem]
 refine zBt [3, 4, 5, 6] hCo ?_ (by simp [go_sem]) ?_
 ·refine zai.cons (.fn .nil (zai.cons (.frzP rfl ?_ ?_ ?_ ?_) (zai.cons (.frzP rfl ?_ ?_ ?_ ?_) (zai.cons (.frzP rfl ?_ ?_ ?_ ?_) (zai.cons (.frzP rfl ?_ ?_ ?_ ?_) .nil))))) .nil <;> first | exact zai.refl _ _ _ _ | (simp [zaL, zaS, upd]; done)
 repeat first|with_reducible refine wV fun _=>?_|simp [go_sem]
 refine zBn hSo (by simp [go_sem]) ?_
 repeat first|with_reducible refine wV fun _=>?_|simp [go_sem]
 refine zBm (zBr (α := Nat) (fun i => ⟨[(3, .ref 0 0 9 0 0), (5, .ref 2 0 5 0 0), (8, .sl 7 (bI i).length 5 0 (bI i).length), (16, zaz S), (17, .v (.int .i64 S.length)), (18, .v (.int .i64 i))], [(0, .rows true 0 9 [zab g]), (2, .rows true 0 5 [zad p]), (7, .rows true (bI i).length 5 ((bI i).map zad))], 8⟩)
  (fun d i => i + d = S.length) ?_ S.length 0 ?_) ?_ ?_
 ·rintro d i i1 hrec
  have hbli := hbl i
  repeat first|with_reducible refine wV fun _=>?_|simp [go_sem]
  refine zBo (fun hi => ?_) (fun hi => ?_) <;> simp at hi
  ·have hVi := hV _ (zan hi)
   have hLi := hL (nth S i)
   have hbs := hbs i hi
   have hbls := hbl (i + 1)
   have hgi := zbg zad S i hi
   generalize nth S i = q at *
   generalize hok : zeI g q = ok at *
   repeat first|with_reducible refine wV fun _=>?_|simp [go_sem, hi, hgi]
   refine zBn hVi (by simp [go_sem]) ?_
   repeat first|with_reducible refine wV fun _=>?_|simp [go_sem]
   refine zBQ (.v (.bool (decide (p ∈ zaH g q)))) (fun h => hLi h) (by simp [go_sem]) ?_
   by_cases hm : p ∈ zaH g q
   ·cases ok
    ·rw [if_neg (by simp)] at hbs
     repeat first|with_reducible refine wV fun _=>?_|simp [go_sem, hm]
     refine zBm (hrec (d - 1) (by omega) (i + 1) (by omega)) ?_ (by simp)
     simp [go_sem, zah, hbs]
    ·rw [if_pos ⟨rfl, hm⟩] at hbs
     repeat first|with_reducible refine wV fun _=>?_|simp [go_sem, hm]
     refine zBm (hrec (d - 1) (by omega) (i + 1) (by omega)) ?_ (by simp)
     simp [go_sem, zah, hbs]
   ·rw [if_neg (fun h => hm h.2)] at hbs
    cases ok
    ·repeat first|with_reducible refine wV fun _=>?_|simp [go_sem, hm]
     refine zBm (hrec (d - 1) (by omega) (i + 1) (by omega)) ?_ (by simp)
     simp [go_sem, zah, hbs]
    ·repeat first|with_reducible refine wV fun _=>?_|simp [go_sem, hm]
     refine zBm (hrec (d - 1) (by omega) (i + 1) (by omega)) ?_ (by simp)
     simp [go_sem, zah, hbs]
  ·obtain rfl : i = S.length := by omega
   generalize bI S.length = bl at *
   repeat first|with_reducible refine wV fun _=>?_|simp [go_sem]
   refine zBo (fun hbig => ?_) (fun hbig => ?_) <;> simp at hbig
   ·rw [if_pos (by omega)]
    repeat first|with_reducible refine wV fun _=>?_|simp [go_sem]
   ·rw [if_neg (by omega)]
    repeat first|with_reducible refine wV fun _=>?_|simp [go_sem]
    exact frX
 ·omega
 ·simp [go_sem, zah, hb0]
 ·simp
theorem zuG (g : zaf) (hg : GOk g) (hs : zbm g) (p : zaj) (hp : POk g p) : zaC Tryz.prog 52 [.agg (zab g), .agg (zad p)] (.tup [zaz (zbG g p).1, .v (.int .i64 (zbG g p).2)]) := by
 refine pF Tryz.func52 ?_
 have hC := zin g hg
 have hB := zjG g hg hs p hp
 generalize zbG g p = v at *
 generalize zbH g = cd at *
 repeat first|with_reducible refine wV fun _=>?_|simp [go_sem]
 refine zBq hC (by simp [go_sem]) ?_
 repeat first|with_reducible refine wV fun _=>?_|simp [go_sem]
 refine zBq hB (by simp [go_sem]) ?_
 repeat first|with_reducible refine wV fun _=>?_|simp [go_sem]
theorem zsx (g : zaf) (hg : GOk g) (hs : zbm g) (p : zaj) (hp : POk g p) (n : Int) : zaC Tryz.prog 90 [.agg (zab g), .agg (zad p), .v (.int .i64 n)] (.tup [zaz (zcW g p n).1, .v (.int .i64 (zcW g p n).2)]) := by
 refine pF Tryz.func90 ?_
 have hC := zin g hg
 have hB := fun q hq => zjG g hg hs q hq
 have hBs := fun q => zrH (g := g) (p := q)
 have hBb := fun q => zoh (g := g) (p := q)
 have hbo := fun q r (h : r ∈ zaG g q) => zdn hg h
 have hfit := fun r (h : POk g r) => h.fits hg
 have hcb : ∀ n, (∀ c ∈ zbo (zbH g), Bel n c) = True := fun n => by simp [go_sem]
 have hcl : (zbo (zbH g)).length = 2 := rfl
 have hgb : ∀ n, (∀ c ∈ zab g, Bel n c) = True := fun n => by simp [go_sem]
 have hgl : (zab g).length = 9 := rfl
 generalize zbo (zbH g) = ec at *
 obtain ⟨eg, heg⟩ : ∃ eg, eg = zab g := ⟨_, rfl⟩
 rw [← heg] at hC hgb hgl
 simp only [← heg] at hB
 rw [← heg]
 clear heg
 have hcv : zcW g p n = if n < 0 ∨ 6 < n then ([], 1) else zb5 g n.toNat [p] := rfl
 repeat first|with_reducible refine wV fun _=>?_|simp [go_sem, hgl]
 by_cases hn : n < 0
 ·rw [if_pos (.inl hn)] at hcv
  rw [hcv]
  have hn2 : ¬ 0 ≤ n := by omega
  repeat first|with_reducible refine wV fun _=>?_|simp [go_sem, hn]
 ·by_cases hn6 : 6 < n
  ·rw [if_pos (.inr hn6)] at hcv
   rw [hcv]
   repeat first|with_reducible refine wV fun _=>?_|simp [go_sem, hn, hn6]
  ·rw [if_neg (by omega)] at hcv
   obtain ⟨m, rfl⟩ : ∃ m : Nat, n = m := ⟨n.toNat, by omega⟩
   rw [Int.toNat_natCast] at hcv
   rw [hcv]
   obtain ⟨R, hR⟩ : ∃ R, R = zb5 g m [p] := ⟨_, rfl⟩
   rw [← hR]
   repeat first|with_reducible refine wV fun _=>?_|simp [go_sem, hn, hn6, hgl]
   refine zBq hC (by simp [go_sem, hgb]) ?_
   repeat first|with_reducible refine wV fun _=>?_|simp [go_sem, hgl, hcl]
   refine zBm (zBr (α := Nat × List zaj) (fun a => ⟨[(3, .ref 0 0 9 0 0), (8, .ref 6 0 2 0 0), (9, zaz a.2), (25, .v (.int .i64 m)), (26, .v (.int .i64 a.1))], [(0, .rows true 0 9 [eg]), (6, .rows true 0 2 [ec])], 7⟩)
    (fun d a => a.1 + d = m ∧ R = zb5 g d a.2 ∧ (∀ q ∈ a.2, POk g q) ∧ a.2.length ≤ 4000) ?_ m (0, [p]) ?_) ?_ ?_
   ·rintro d ⟨i, L⟩ ⟨i1, i2, i3, i4⟩ hrec
    simp only at i1 i2 i3 i4
    repeat first|with_reducible refine wV fun _=>?_|simp [go_sem, hgl, hcl]
    refine zBo (fun hi => ?_) (fun hi => ?_) <;> simp at hi
    ·obtain ⟨d, rfl⟩ : ∃ d', d = d' + 1 := ⟨d - 1, by omega⟩
     have hns := fun k hk => zph g (l := L) (k := k) hk
     have hn0 := zpi g L
     have hna := zr5 g L
     have hnl := fun k h => zr6 (g := g) (l := L) (k := k) h
     have hno := fun k => zwG (k := k) hg (l := L)
     have hbad := fun q hq h => zoo (g := g) (n := d) (l := L) (q := q) hq h
     have hgo := fun h => zrQ (g := g) (n := d) (l := L) h
     generalize zwF g L = nx at *
     have hb4 : L.length * 4000 ≤ 4000 * 4000 := Nat.mul_le_mul_right _ i4
     repeat first|with_reducible refine wV fun _=>?_|simp [go_sem, hgl, hcl]
     refine zBm (zBr (α := Nat) (fun k => ⟨[(3, .ref 0 0 9 0 0), (8, .ref 6 0 2 0 0), (10, .sl 7 k 5 0 (nx k).length), (25, .v (.int .i64 m)), (26, .v (.int .i64 i)), (28, zaz L), (29, .v (.int .i64 L.length)), (30, .v (.int .i64 k))], [(0, .rows true 0 9 [eg]), (6, .rows true 0 2 [ec]), (7, .rows true k 5 ((nx k).map zad))], 8⟩)
      (fun d k => k + d = L.length ∧ ∀ j, j < k → j < L.length → (zaG g (nth L j)).length ≤ 4000) ?_ L.length 0 ?_) ?_ ?_
     ·rintro d2 k ⟨k1, k2⟩ hrec2
      have hnk := hnl k k2
      repeat first|with_reducible refine wV fun _=>?_|simp [go_sem, hgl, hcl]
      refine zBo (fun hk => ?_) (fun hk => ?_) <;> simp at hk
      ·have hq := i3 _ (zan hk)
       have hBq := hB _ hq
       have hns := hns k hk
       have hgk := zbg zad L k hk
       have hmq := zan hk
       have hxs := hBs (nth L k)
       have hxb := hBb (nth L k)
       have hlk : ∀ j, j < k + 1 → j < L.length → (zaG g (nth L k)).length ≤ 4000 → (zaG g (nth L j)).length ≤ 4000 := fun j hj hj2 h => by
        rcases Nat.lt_or_ge j k with h1 | h1
        ·exact k2 j h1 hj2
        ·obtain rfl : j = k := by omega
         exact h
       generalize nth L k = q at *
       generalize hbq : zaG g q = bq at *
       by_cases hbig : 4000 < bq.length
       ·have hx := hxb hbig
        have hR2 := hbad q hmq (by rw [hbq]; exact hbig)
        rw [hx] at hBq
        rw [hR2] at i2
        repeat first|with_reducible refine wV fun _=>?_|simp [go_sem, hgl, hcl, hk, hgk]
        refine zBn hBq (by simp [go_sem, hgb, hcb]) ?_
        repeat first|with_reducible refine wV fun _=>?_|simp [go_sem, hgl, hcl]
        rw [i2]
        repeat first|with_reducible refine wV fun _=>?_|simp [go_sem]
       ·have hx := hxs (by omega)
        rw [hx] at hBq
        repeat first|with_reducible refine wV fun _=>?_|simp [go_sem, hgl, hcl, hk, hgk]
        refine zBn hBq (by simp [go_sem, hgb, hcb]) ?_
        repeat first|with_reducible refine wV fun _=>?_|simp [go_sem, hgl, hcl]
        refine zBm (hrec2 (d2 - 1) (by omega) (k + 1) ⟨by omega, fun j hj hj2 => hlk j hj hj2 (by omega)⟩) ?_ (by simp)
        simp [go_sem, zah, hgb, hcb, hns]
      ·obtain rfl : k = L.length := by omega
       have hR2 := hgo fun q hq => by
        obtain ⟨j, hj, rfl⟩ := ze6 hq
        exact k2 j hj hj
       rw [← hna] at hR2
       have hnok := hno L.length
       have hSo := zdP (nx L.length) (by omega) (fun q hq => hfit q (hnok q hq))
       have hsl := zdL zbB (nx L.length)
       have hsm : ∀ q ∈ zbp zbB (nx L.length), POk g q := fun q hq => hnok q (zbc.1 hq)
       generalize nx L.length = nl at *
       generalize zbp zbB nl = sl at *
       rw [hR2] at i2
       repeat first|with_reducible refine wV fun _=>?_|simp [go_sem, hgl, hcl]
       refine zBt [7] hSo ?_ (by simp [go_sem]) ?_
       ·(first|done|exact agX)
       repeat first|with_reducible refine wV fun _=>?_|simp [go_sem, hgl, hcl]
       refine zBo (fun hb => ?_) (fun hb => ?_) <;> simp at hb
       ·rw [if_pos (by omega)] at i2
        rw [i2]
        repeat first|with_reducible refine wV fun _=>?_|simp [go_sem]
       ·rw [if_neg (by omega)] at i2
        repeat first|with_reducible refine wV fun _=>?_|simp [go_sem, hgl, hcl]
        refine zBm (hrec d (by omega) (i + 1, sl) ⟨by simp only; omega, i2, hsm, by simp only; omega⟩) ?_ (by simp)
        simp [go_sem, zah, hgb, hcb]
     ·exact ⟨by omega, fun j hj => by omega⟩
     ·simp [go_sem, zah, hgb, hcb, hn0]
     ·simp
    ·obtain rfl : d = 0 := by omega
     rw [show zb5 g 0 L = (L, 0) from rfl] at i2
     rw [i2]
     repeat first|with_reducible refine wV fun _=>?_|simp [go_sem]
   ·exact ⟨by omega, hR, by simpa using hp, by simp⟩
   ·simp [go_sem, zah, hgb, hcb]
    exact frX
   ·simp
def zb1 (b : List zaj × Int) : AV := .agg [zaz b.1, .v (.int .i64 b.2)]
theorem zf1 (a b : List zaj × Int) (ha : a.1.length ≤ 17179869184) (hb : b.1.length ≤ 17179869184) (hfa : ∀ p ∈ a.1, za0 p) (hfb : ∀ p ∈ b.1, za0 p) : zaC Tryz.prog 34 [zb1 a, zb1 b] (.v (.bool (decide (a = b)))) := by
 refine pF Tryz.func34 ?_
 obtain ⟨al, ae⟩ := a
 obtain ⟨bl, be⟩ := b
 have hS := zk3 al bl ha hb hfa hfb
 have e : decide ((al, ae) = (bl, be)) = (decide (al = bl) && decide (ae = be)) := by
  rw [← Bool.decide_and]
  exact decide_eq_decide.2 (by simp)
 rw [e]
 generalize decide (al = bl) = t at *
 repeat first|with_reducible refine wV fun _=>?_|simp [go_sem, zb1]
 refine zBn hS (by simp [go_sem]) ?_
 cases t
 ·repeat first|with_reducible refine wV fun _=>?_|simp [go_sem]
 ·repeat first|with_reducible refine wV fun _=>?_|simp [go_sem]
theorem zjo (x : zgA) (hx : zjs x) (hl : x.c.length ≤ 1099511627776) (hl0 : x.k0.length ≤ 1099511627776) (hl1 : x.k1.length ≤ 1099511627776) : zaC Tryz.prog 19 [.agg (zcE x)] (.agg (zab (zfm x))) := by
 refine pF Tryz.func19 ?_
 obtain ⟨eg, heg⟩ : ∃ eg, eg = zab (zfm x) := ⟨_, rfl⟩
 rw [← heg]
 have hB := zpV x.w x.h x.cut hx.w hx.h hx.cut
 have hok := zis hx.w.1 hx.h.1 x.cut
 have hb : zeH x.w x.h x.cut = x.board := rfl
 rw [hb] at hB hok
 have r0 := Int.tmod_nonneg 3 hx.f0.1
 have r1 := Int.tmod_lt_of_pos x.f0 (show (0 : Int) < 3 by decide)
 have f0 : 0 ≤ x.f0 ∧ x.f0 ≤ 255 := hx.f0
 have f1 : 0 ≤ x.f1 ∧ x.f1 ≤ 255 := hx.f1
 have f2 : 0 ≤ x.f2 ∧ x.f2 ≤ 255 := hx.f2
 have f3 : 0 ≤ x.f3 ∧ x.f3 ≤ 255 := hx.f3
 have f4 : 0 ≤ x.f4 ∧ x.f4 ≤ 255 := hx.f4
 have m1 := Int.tmod_nonneg 4 hx.f1.1
 have m3 := Int.tmod_nonneg 4 hx.f3.1
 have m4 := Int.tmod_nonneg 4 hx.f4.1
 have qq : ∀ n : Int, U8 n → (0 ≤ n.tdiv 4 ∧ n.tdiv 4 ≤ 63) ∧ 0 ≤ (n.tdiv 4).tmod 3 ∧ (n.tdiv 4).tmod 3 < 3 := fun n hn => by
  have h : n.tdiv 4 = n / 4 := Int.tdiv_eq_ediv_of_nonneg hn.1
  have h1 := hn.1
  have h2 := hn.2
  have h3 := Int.tmod_nonneg 3 (show 0 ≤ n.tdiv 4 by omega)
  have h4 := Int.tmod_lt_of_pos (n.tdiv 4) (show (0 : Int) < 3 by decide)
  omega
 obtain ⟨q3, q3'⟩ := qq _ hx.f3
 obtain ⟨q4, q4'⟩ := qq _ hx.f4
 obtain ⟨bl, hbl⟩ : ∃ bl, bl = if x.f3.tmod 4 = 3 then 1 + (x.f3.tdiv 4).tmod 3 else 3 := ⟨_, rfl⟩
 obtain ⟨en, hen⟩ : ∃ en, en = if x.f4.tmod 4 = 3 then 1 + (x.f4.tdiv 4).tmod 3 else 2 := ⟨_, rfl⟩
 obtain ⟨R, hR⟩ : ∃ R, R = x.rights := ⟨_, rfl⟩
 have hR' : x.f0.tmod 3 = R := by rw [hR]; rfl
 obtain ⟨b, hbb⟩ : ∃ b, b = x.board := ⟨_, rfl⟩
 rw [← hbb] at hB hok
 repeat first|with_reducible refine wV fun _=>?_|simp [go_sem]
 refine zBq hB (by simp [go_sem]) ?_
 repeat first|with_reducible refine wV fun _=>?_|simp [go_sem, hR']
 have hd8 : b.next.length = 8 := by rw [hbb]; exact zl8 _ _ _
 have hcell : 1 ≤ b.cells ∧ b.cells ≤ 9 := by rw [hbb]; exact zkd hx.w.1 hx.h.1 _
 obtain ⟨K, hK⟩ : ∃ K : Nat, K = zcY x := ⟨_, rfl⟩
 have hKn : zcY x = if x.k1.length = 0 then 1 else 2 := by unfold zcY; simp only [List.length_eq_zero_iff]
 have hKl : ∀ i, (x.ks i).length ≤ 1099511627776 := fun i => by unfold zgA.ks; split <;> assumption
 have hKv : ∀ i, ∀ n ∈ x.ks i, U8 n := fun i => by unfold zgA.ks; split; exact hx.k0; exact hx.k1
 refine zBo (fun hk1 => ?_) (fun hk1 => ?_) <;> simp at hk1
 ·have hK2 : zcY x = 2 := by rw [hKn, if_neg (by omega)]
  rw [hK2] at hK
  repeat first|with_reducible refine wV fun _=>?_|simp [go_sem]
  refine zBm (zBr (α := Nat) (fun a => ⟨[(1, .ref 0 0 12 0 0), (2, .ref 1 0 9 0 0), (3, .ref 20 0 9 0 0), (4, .v (.int .i64 K)), (5, .v (.int .i64 a))],
   [(0, .rows true 0 12 [zcE x]), (1, .rows true 0 9 [[.v (.int .i64 0), zBu, zBu, zBu, .v (.int .i64 0), .v (.bool false), zBu, .v (.int .i64 0), .v (.int .i64 0)]]), (20, .rows true 0 9 [[.v (.int .i64 b.cells), zco b.next, zas b.turn, .sl 22 a 3 0 a, .v (.int .i64 R), .v (.bool (decide (x.f1.tmod 4 = 3))), zBu, .v (.int .i64 3), .v (.int .i64 2)]]), (22, .rows true a 3 (ksR x a))], 23⟩)
   (fun d a => a + d = K) ?_ K 0 ?_) ?_ ?_
  ·rintro d0 i i1 hrec
   repeat first|with_reducible refine wV fun _=>?_|simp [go_sem]
   refine zBo (fun hi => ?_) (fun hi => ?_) <;> simp at hi
   ·have hi2 : i = 0 ∨ i = 1 := by omega
    have hkl := hKl i
    have hkv := hKv i
    have hks : zeF x i = ⟨if i = 0 then zq2 else zq3, ((x.ks i).take 4).map (fun n => zlm n b.next.length K x.rights), zvy x.f2 i⟩ := by rw [hbb, hK, ← hK2]; rfl
    rcases hi2 with rfl | rfl
    ·obtain ⟨kk, hkk⟩ : ∃ kk, kk = x.ks 0 := ⟨_, rfl⟩
     have hk0 : x.k0 = kk := hkk.symm
     rw [← hkk] at hkl hkv hks
     have hbit : zvy x.f2 0 = decide (zhO .u8 x.f2 1 = 1) := by simp [zvy]
     obtain ⟨f, hf⟩ : ∃ f, f = (fun n => zlm n b.next.length K x.rights) := ⟨_, rfl⟩
     have hfp : ∀ n, U8 n → zaC Tryz.prog 69 [.v (.int .u8 n), .v (.int .i64 b.next.length), .v (.int .i64 K), .v (.int .i64 R)] (zar (f n)) := fun n hn => by
      rw [hf, ← hR]; exact zeT n _ _ _ hn (by omega) (by omega) (by omega)
     rw [← hf, hbit] at hks
     repeat first|with_reducible refine wV fun _=>?_|simp [go_sem, hk0]
     refine zBm (zBr (α := Nat) (fun n => ⟨[(1, .ref 0 0 12 0 0), (2, .ref 1 0 9 0 0), (3, .ref 20 0 9 0 0), (4, .v (.int .i64 K)), (5, .v (.int .i64 0)), (6, .ref 35 0 3 0 0), (7, .v (.int .i64 n))],
      [(0, .rows true 0 12 [zcE x]), (1, .rows true 0 9 [[.v (.int .i64 0), zBu, zBu, zBu, .v (.int .i64 0), .v (.bool false), zBu, .v (.int .i64 0), .v (.int .i64 0)]]), (20, .rows true 0 9 [[.v (.int .i64 b.cells), zco b.next, zas b.turn, .sl 22 0 3 0 0, .v (.int .i64 R), .v (.bool (decide (x.f1.tmod 4 = 3))), zBu, .v (.int .i64 3), .v (.int .i64 2)]]), (22, .rows true 0 3 (ksR x 0)), (35, .rows true 0 3 [[.v (.string ⟨#[97]⟩), .sl 37 n 1 0 n, .v (.bool (decide (zhO .u8 x.f2 1 = 1)))]]), (37, .rows true n 1 (psR f kk n))], 38⟩)
      (fun d n => n + d = min kk.length 4) ?_ (min kk.length 4) 0 ?_) ?_ ?_
     ·rintro d n n1 hrec1
      repeat first|with_reducible refine wV fun _=>?_|simp [go_sem, hk0]
      refine zBo (fun hn => ?_) (fun hn => ?_) <;> simp at hn
      ·have hn1 : n < kk.length := by omega
       have hn2 := hkv _ (zan hn1)
       have hpl := zfQ f kk (n := n) (by omega)
       repeat first|with_reducible refine wV fun _=>?_|simp [go_sem, hk0, hn1]
       refine zBq (hfp _ hn2) (by simp [go_sem]) ?_
       repeat first|with_reducible refine wV fun _=>?_|simp [go_sem, hk0, hn1, hpl]
       refine zBm (hrec1 (d - 1) (by omega) (n + 1) (by omega)) ?_ (by simp)
       simp [go_sem, zah, hk0, zjh f kk hn1]
      ·have hne : n = min kk.length 4 := by omega
       repeat first|with_reducible refine wV fun _=>?_|simp [go_sem]
       refine zBm (hrec (d0 - 1) (by omega) (0 + 1) (by omega)) ?_ (by simp)
       have hkx : zxt (zeF x 0) = [.v (.string ⟨#[97]⟩), .lst 1 (psR f kk n), .v (.bool (decide (zhO .u8 x.f2 1 = 1)))] := by rw [hks, show psR f kk n = psR f kk (min kk.length 4) by rw [← hne]]; simp [zxt, zaZ, psR, zq2, zq3, zar]; omega
       have hpl := zfQ f kk (n := n) (by omega)
       simp [go_sem, zah, hk0, zjb x 0, hkx]
       (try refine zag (.refl _) (.cons (.cons (.refl _) (.cons ?_ (.cons (.refl _) .nil))) .nil))
       refine LeV.frz rfl ?_ ?_ (zBx ?_) <;> simp [mkH, upd, hpl, List.take_of_length_le]
     ·omega
     ·simp [go_sem, zah, hk0]
     ·simp
    ·obtain ⟨kk, hkk⟩ : ∃ kk, kk = x.ks 1 := ⟨_, rfl⟩
     have hk0 : x.k1 = kk := hkk.symm
     rw [← hkk] at hkl hkv hks
     have hbit : zvy x.f2 1 = decide (zhO .u8 (x.f2.fdiv 2) 1 = 1) := by simp [zvy]
     obtain ⟨f, hf⟩ : ∃ f, f = (fun n => zlm n b.next.length K x.rights) := ⟨_, rfl⟩
     have hfp : ∀ n, U8 n → zaC Tryz.prog 69 [.v (.int .u8 n), .v (.int .i64 b.next.length), .v (.int .i64 K), .v (.int .i64 R)] (zar (f n)) := fun n hn => by
      rw [hf, ← hR]; exact zeT n _ _ _ hn (by omega) (by omega) (by omega)
     rw [← hf, hbit] at hks
     repeat first|with_reducible refine wV fun _=>?_|simp [go_sem, hk0]
     refine zBm (zBr (α := Nat) (fun n => ⟨[(1, .ref 0 0 12 0 0), (2, .ref 1 0 9 0 0), (3, .ref 20 0 9 0 0), (4, .v (.int .i64 K)), (5, .v (.int .i64 1)), (6, .ref 35 0 3 0 0), (7, .v (.int .i64 n))],
      [(0, .rows true 0 12 [zcE x]), (1, .rows true 0 9 [[.v (.int .i64 0), zBu, zBu, zBu, .v (.int .i64 0), .v (.bool false), zBu, .v (.int .i64 0), .v (.int .i64 0)]]), (20, .rows true 0 9 [[.v (.int .i64 b.cells), zco b.next, zas b.turn, .sl 22 1 3 0 1, .v (.int .i64 R), .v (.bool (decide (x.f1.tmod 4 = 3))), zBu, .v (.int .i64 3), .v (.int .i64 2)]]), (22, .rows true 1 3 (ksR x 1)), (35, .rows true 0 3 [[.v (.string ⟨#[98, 101, 101]⟩), .sl 37 n 1 0 n, .v (.bool (decide (zhO .u8 (x.f2.fdiv 2) 1 = 1)))]]), (37, .rows true n 1 (psR f kk n))], 38⟩)
      (fun d n => n + d = min kk.length 4) ?_ (min kk.length 4) 0 ?_) ?_ ?_
     ·rintro d n n1 hrec1
      repeat first|with_reducible refine wV fun _=>?_|simp [go_sem, hk0]
      refine zBo (fun hn => ?_) (fun hn => ?_) <;> simp at hn
      ·have hn1 : n < kk.length := by omega
       have hn2 := hkv _ (zan hn1)
       have hpl := zfQ f kk (n := n) (by omega)
       repeat first|with_reducible refine wV fun _=>?_|simp [go_sem, hk0, hn1]
       refine zBq (hfp _ hn2) (by simp [go_sem]) ?_
       repeat first|with_reducible refine wV fun _=>?_|simp [go_sem, hk0, hn1, hpl]
       refine zBm (hrec1 (d - 1) (by omega) (n + 1) (by omega)) ?_ (by simp)
       simp [go_sem, zah, hk0, zjh f kk hn1]
      ·have hne : n = min kk.length 4 := by omega
       repeat first|with_reducible refine wV fun _=>?_|simp [go_sem]
       refine zBm (hrec (d0 - 1) (by omega) (1 + 1) (by omega)) ?_ (by simp)
       have hkx : zxt (zeF x 1) = [.v (.string ⟨#[98, 101, 101]⟩), .lst 1 (psR f kk n), .v (.bool (decide (zhO .u8 (x.f2.fdiv 2) 1 = 1)))] := by rw [hks, show psR f kk n = psR f kk (min kk.length 4) by rw [← hne]]; simp [zxt, zaZ, psR, zq2, zq3, zar]; omega
       have hpl := zfQ f kk (n := n) (by omega)
       simp [go_sem, zah, hk0, zjb x 1, hkx]
       (try refine zag (.refl _) (.cons (.cons (.refl _) (.cons ?_ (.cons (.refl _) .nil))) .nil))
       refine LeV.frz rfl ?_ ?_ (zBx ?_) <;> simp [mkH, upd, hpl, List.take_of_length_le]
     ·omega
     ·simp [go_sem, zah, hk0]
     ·simp
   ·have hiK : i = K := by omega
    subst hiK
    repeat first|with_reducible refine wV fun _=>?_|simp [go_sem]
    refine zBo (fun hb3 => ?_) (fun hb3 => ?_) <;> simp at hb3 <;> (repeat (first|with_reducible refine wV fun _=>?_|simp [go_sem]))
    all_goals refine zBo (fun hb4 => ?_) (fun hb4 => ?_) <;> simp at hb4 <;> (repeat (first|with_reducible refine wV fun _=>?_|simp [go_sem]))
    all_goals (
     refine zBm (zBr (α := Nat) (fun a => ⟨[(1, .ref 0 0 12 0 0), (2, .ref 1 0 9 0 0), (3, .ref 20 0 9 0 0), (4, .v (.int .i64 i)), (8, .v (.int .i64 a))],
      [(0, .rows true 0 12 [zcE x]), (1, .rows true 0 9 [[.v (.int .i64 0), zBu, zBu, zBu, .v (.int .i64 0), .v (.bool false), zBu, .v (.int .i64 0), .v (.int .i64 0)]]), (20, .rows true 0 9 [[.v (.int .i64 b.cells), zco b.next, zas b.turn, .sl 22 i 3 0 i, .v (.int .i64 R), .v (.bool (decide (x.f1.tmod 4 = 3))), .sl 23 a 4 0 a, .v (.int .i64 bl), .v (.int .i64 en)]]), (22, .rows true i 3 (ksR x i)), (23, .rows true a 4 (clR b.cells i x.c a))], 24⟩)
      (fun d a => a + d = min x.c.length 3) ?_ (min x.c.length 3) 0 ?_) ?_ ?_
     ·rintro d j j1 hrec2
      repeat first|with_reducible refine wV fun _=>?_|simp [go_sem]
      refine zBo (fun hj => ?_) (fun hj => ?_) <;> simp at hj
      ·have hj1 : j < x.c.length := by omega
       have hjc := hx.c _ (zan hj1)
       have hpl := zmY b.cells i x.c (n := j) (by omega)
       have hsu := zrR b.cells i x.c hj1
       generalize hcx : nth x.c j = c at *
       obtain ⟨c0, c1, c2⟩ := c
       obtain ⟨u0, u1, u2⟩ := hjc
       obtain ⟨w0, w0'⟩ := qq _ u0
       obtain ⟨v0, v0'⟩ := u0
       obtain ⟨v1, v1'⟩ := u1
       obtain ⟨v2, v2'⟩ := u2
       simp only at v0 v0' v1 v1' v2 v2' w0 w0'
       have t0 := Int.tmod_nonneg 3 v0
       have t1 := Int.tmod_lt_of_pos c0 (show (0 : Int) < 3 by decide)
       have hip : (0 : Int) < i := by omega
       have k0 := Int.tmod_nonneg i v1
       have n0 := Int.tmod_nonneg b.cells v2
       have n1 := Int.tmod_nonneg 3 v2
       rcases (show c0.tmod 3 = 0 ∨ c0.tmod 3 = 1 ∨ c0.tmod 3 = 2 by omega) with ht | ht | ht
       ·have hr : zto (zbr b.cells i (c0, c1, c2)) = [.v (.int .i64 1), .v (.int .i64 (c1.tmod i)), .v (.int .i64 0), .v (.int .i64 (1 + (c0.tdiv 4).tmod 3))] := by simp [zto, zbr, za8, ht]
        repeat first|with_reducible refine wV fun _=>?_|simp [go_sem, hj1, hcx, ht, hpl]
        refine zBm (hrec2 (d - 1) (by omega) (j + 1) (by omega)) ?_ (by simp)
        simp [go_sem, zah, hsu, hr]
       ·have hr : zto (zbr b.cells i (c0, c1, c2)) = [.v (.int .i64 2), .v (.int .i64 (c1.tmod i)), .v (.int .i64 (c2.tmod b.cells)), .v (.int .i64 (1 + (c0.tdiv 4).tmod 3))] := by simp [zto, zbr, za8, ht]
        repeat first|with_reducible refine wV fun _=>?_|simp [go_sem, hj1, hcx, ht, hpl]
        refine zBm (hrec2 (d - 1) (by omega) (j + 1) (by omega)) ?_ (by simp)
        simp [go_sem, zah, hsu, hr]
       ·have hr : zto (zbr b.cells i (c0, c1, c2)) = [.v (.int .i64 3), .v (.int .i64 0), .v (.int .i64 (c2.tmod 3)), .v (.int .i64 (1 + (c0.tdiv 4).tmod 3))] := by simp [zto, zbr, za8, ht]
        repeat first|with_reducible refine wV fun _=>?_|simp [go_sem, hj1, hcx, ht, hpl]
        refine zBm (hrec2 (d - 1) (by omega) (j + 1) (by omega)) ?_ (by simp)
        simp [go_sem, zah, hsu, hr]
      ·have hki : zcY x = i := by rw [hK2, hK]
       have hjm : j = min x.c.length 3 := by omega
       have htk : x.c.take (min x.c.length 3) = x.c.take 3 := by rw [List.take_eq_take_iff]; omega
       have hpl := zmY b.cells i x.c (n := j) (by omega)
       have hkl : (ksR x i).length = i := zwf x i
       have hcl : clR b.cells i x.c j = ((x.c.take 3).map (zbr b.cells i)).map za8 := by unfold clR; rw [hjm, htk]
       have hG : zfm x = { cells := b.cells, next := b.next, turn := b.turn, kinds := (List.range i).map (zeF x), rights := R, must := decide (x.f1.tmod 4 = 3), clauses := (x.c.take 3).map (zbr b.cells i), blocked := bl, endless := en } := by
        unfold zfm; rw [hki, ← hbb, ← hR, ← hbl, ← hen]
       have hEnc : eg = [.v (.int .i64 b.cells), zco b.next, zas b.turn, .lst 3 (ksR x i), .v (.int .i64 R), .v (.bool (decide (x.f1.tmod 4 = 3))), .lst 4 (clR b.cells i x.c j), .v (.int .i64 bl), .v (.int .i64 en)] := by
        rw [heg, hG, hcl]; rfl
       repeat first|with_reducible refine wV fun _=>?_|simp [go_sem]
       rw [hEnc]
       refine ⟨.cons (.refl _) (.cons (.refl _) (.cons (.refl _) (.cons (zam rfl (by omega) (by simp [noH]) (by rw [List.drop_zero, List.take_of_length_le (by omega)])) (.cons (.refl _) (.cons (.refl _) (.cons (zam rfl (by omega) (by simp [noH]) (by rw [List.drop_zero, List.take_of_length_le (by omega)])) (.cons (.refl _) (.cons (.refl _) .nil)))))))), ?_⟩
       intro c hc
       simp only [List.mem_cons, List.not_mem_nil, or_false] at hc
       rcases hc with rfl | rfl | rfl | rfl | rfl | rfl | rfl | rfl | rfl
       all_goals first | exact .v _ | simp [go_sem]
     ·omega
     ·simp [go_sem, zah, hbl, hen, hb3, hb4]
     ·simp)
  ·omega
  ·simp [go_sem, zah, hK]
  ·simp
 ·have hK2 : zcY x = 1 := by rw [hKn, if_pos (by simp [hk1])]
  rw [hK2] at hK
  repeat first|with_reducible refine wV fun _=>?_|simp [go_sem]
  refine zBm (zBr (α := Nat) (fun a => ⟨[(1, .ref 0 0 12 0 0), (2, .ref 1 0 9 0 0), (3, .ref 20 0 9 0 0), (4, .v (.int .i64 K)), (5, .v (.int .i64 a))],
   [(0, .rows true 0 12 [zcE x]), (1, .rows true 0 9 [[.v (.int .i64 0), zBu, zBu, zBu, .v (.int .i64 0), .v (.bool false), zBu, .v (.int .i64 0), .v (.int .i64 0)]]), (20, .rows true 0 9 [[.v (.int .i64 b.cells), zco b.next, zas b.turn, .sl 22 a 3 0 a, .v (.int .i64 R), .v (.bool (decide (x.f1.tmod 4 = 3))), zBu, .v (.int .i64 3), .v (.int .i64 2)]]), (22, .rows true a 3 (ksR x a))], 23⟩)
   (fun d a => a + d = K) ?_ K 0 ?_) ?_ ?_
  ·rintro d0 i i1 hrec
   repeat first|with_reducible refine wV fun _=>?_|simp [go_sem]
   refine zBo (fun hi => ?_) (fun hi => ?_) <;> simp at hi
   ·have hi2 : i = 0 ∨ i = 1 := by omega
    have hkl := hKl i
    have hkv := hKv i
    have hks : zeF x i = ⟨if i = 0 then zq2 else zq3, ((x.ks i).take 4).map (fun n => zlm n b.next.length K x.rights), zvy x.f2 i⟩ := by rw [hbb, hK, ← hK2]; rfl
    rcases hi2 with rfl | rfl
    ·obtain ⟨kk, hkk⟩ : ∃ kk, kk = x.ks 0 := ⟨_, rfl⟩
     have hk0 : x.k0 = kk := hkk.symm
     rw [← hkk] at hkl hkv hks
     have hbit : zvy x.f2 0 = decide (zhO .u8 x.f2 1 = 1) := by simp [zvy]
     obtain ⟨f, hf⟩ : ∃ f, f = (fun n => zlm n b.next.length K x.rights) := ⟨_, rfl⟩
     have hfp : ∀ n, U8 n → zaC Tryz.prog 69 [.v (.int .u8 n), .v (.int .i64 b.next.length), .v (.int .i64 K), .v (.int .i64 R)] (zar (f n)) := fun n hn => by
      rw [hf, ← hR]; exact zeT n _ _ _ hn (by omega) (by omega) (by omega)
     rw [← hf, hbit] at hks
     repeat first|with_reducible refine wV fun _=>?_|simp [go_sem, hk0]
     refine zBm (zBr (α := Nat) (fun n => ⟨[(1, .ref 0 0 12 0 0), (2, .ref 1 0 9 0 0), (3, .ref 20 0 9 0 0), (4, .v (.int .i64 K)), (5, .v (.int .i64 0)), (6, .ref 35 0 3 0 0), (7, .v (.int .i64 n))],
      [(0, .rows true 0 12 [zcE x]), (1, .rows true 0 9 [[.v (.int .i64 0), zBu, zBu, zBu, .v (.int .i64 0), .v (.bool false), zBu, .v (.int .i64 0), .v (.int .i64 0)]]), (20, .rows true 0 9 [[.v (.int .i64 b.cells), zco b.next, zas b.turn, .sl 22 0 3 0 0, .v (.int .i64 R), .v (.bool (decide (x.f1.tmod 4 = 3))), zBu, .v (.int .i64 3), .v (.int .i64 2)]]), (22, .rows true 0 3 (ksR x 0)), (35, .rows true 0 3 [[.v (.string ⟨#[97]⟩), .sl 37 n 1 0 n, .v (.bool (decide (zhO .u8 x.f2 1 = 1)))]]), (37, .rows true n 1 (psR f kk n))], 38⟩)
      (fun d n => n + d = min kk.length 4) ?_ (min kk.length 4) 0 ?_) ?_ ?_
     ·rintro d n n1 hrec1
      repeat first|with_reducible refine wV fun _=>?_|simp [go_sem, hk0]
      refine zBo (fun hn => ?_) (fun hn => ?_) <;> simp at hn
      ·have hn1 : n < kk.length := by omega
       have hn2 := hkv _ (zan hn1)
       have hpl := zfQ f kk (n := n) (by omega)
       repeat first|with_reducible refine wV fun _=>?_|simp [go_sem, hk0, hn1]
       refine zBq (hfp _ hn2) (by simp [go_sem]) ?_
       repeat first|with_reducible refine wV fun _=>?_|simp [go_sem, hk0, hn1, hpl]
       refine zBm (hrec1 (d - 1) (by omega) (n + 1) (by omega)) ?_ (by simp)
       simp [go_sem, zah, hk0, zjh f kk hn1]
      ·have hne : n = min kk.length 4 := by omega
       repeat first|with_reducible refine wV fun _=>?_|simp [go_sem]
       refine zBm (hrec (d0 - 1) (by omega) (0 + 1) (by omega)) ?_ (by simp)
       have hkx : zxt (zeF x 0) = [.v (.string ⟨#[97]⟩), .lst 1 (psR f kk n), .v (.bool (decide (zhO .u8 x.f2 1 = 1)))] := by rw [hks, show psR f kk n = psR f kk (min kk.length 4) by rw [← hne]]; simp [zxt, zaZ, psR, zq2, zq3, zar]; omega
       have hpl := zfQ f kk (n := n) (by omega)
       simp [go_sem, zah, hk0, zjb x 0, hkx]
       (try refine zag (.refl _) (.cons (.cons (.refl _) (.cons ?_ (.cons (.refl _) .nil))) .nil))
       refine LeV.frz rfl ?_ ?_ (zBx ?_) <;> simp [mkH, upd, hpl, List.take_of_length_le]
     ·omega
     ·simp [go_sem, zah, hk0]
     ·simp
    ·obtain ⟨kk, hkk⟩ : ∃ kk, kk = x.ks 1 := ⟨_, rfl⟩
     have hk0 : x.k1 = kk := hkk.symm
     rw [← hkk] at hkl hkv hks
     have hbit : zvy x.f2 1 = decide (zhO .u8 (x.f2.fdiv 2) 1 = 1) := by simp [zvy]
     obtain ⟨f, hf⟩ : ∃ f, f = (fun n => zlm n b.next.length K x.rights) := ⟨_, rfl⟩
     have hfp : ∀ n, U8 n → zaC Tryz.prog 69 [.v (.int .u8 n), .v (.int .i64 b.next.length), .v (.int .i64 K), .v (.int .i64 R)] (zar (f n)) := fun n hn => by
      rw [hf, ← hR]; exact zeT n _ _ _ hn (by omega) (by omega) (by omega)
     rw [← hf, hbit] at hks
     repeat first|with_reducible refine wV fun _=>?_|simp [go_sem, hk0]
     refine zBm (zBr (α := Nat) (fun n => ⟨[(1, .ref 0 0 12 0 0), (2, .ref 1 0 9 0 0), (3, .ref 20 0 9 0 0), (4, .v (.int .i64 K)), (5, .v (.int .i64 1)), (6, .ref 35 0 3 0 0), (7, .v (.int .i64 n))],
      [(0, .rows true 0 12 [zcE x]), (1, .rows true 0 9 [[.v (.int .i64 0), zBu, zBu, zBu, .v (.int .i64 0), .v (.bool false), zBu, .v (.int .i64 0), .v (.int .i64 0)]]), (20, .rows true 0 9 [[.v (.int .i64 b.cells), zco b.next, zas b.turn, .sl 22 1 3 0 1, .v (.int .i64 R), .v (.bool (decide (x.f1.tmod 4 = 3))), zBu, .v (.int .i64 3), .v (.int .i64 2)]]), (22, .rows true 1 3 (ksR x 1)), (35, .rows true 0 3 [[.v (.string ⟨#[98, 101, 101]⟩), .sl 37 n 1 0 n, .v (.bool (decide (zhO .u8 (x.f2.fdiv 2) 1 = 1)))]]), (37, .rows true n 1 (psR f kk n))], 38⟩)
      (fun d n => n + d = min kk.length 4) ?_ (min kk.length 4) 0 ?_) ?_ ?_
     ·rintro d n n1 hrec1
      repeat first|with_reducible refine wV fun _=>?_|simp [go_sem, hk0]
      refine zBo (fun hn => ?_) (fun hn => ?_) <;> simp at hn
      ·have hn1 : n < kk.length := by omega
       have hn2 := hkv _ (zan hn1)
       have hpl := zfQ f kk (n := n) (by omega)
       repeat first|with_reducible refine wV fun _=>?_|simp [go_sem, hk0, hn1]
       refine zBq (hfp _ hn2) (by simp [go_sem]) ?_
       repeat first|with_reducible refine wV fun _=>?_|simp [go_sem, hk0, hn1, hpl]
       refine zBm (hrec1 (d - 1) (by omega) (n + 1) (by omega)) ?_ (by simp)
       simp [go_sem, zah, hk0, zjh f kk hn1]
      ·have hne : n = min kk.length 4 := by omega
       repeat first|with_reducible refine wV fun _=>?_|simp [go_sem]
       refine zBm (hrec (d0 - 1) (by omega) (1 + 1) (by omega)) ?_ (by simp)
       have hkx : zxt (zeF x 1) = [.v (.string ⟨#[98, 101, 101]⟩), .lst 1 (psR f kk n), .v (.bool (decide (zhO .u8 (x.f2.fdiv 2) 1 = 1)))] := by rw [hks, show psR f kk n = psR f kk (min kk.length 4) by rw [← hne]]; simp [zxt, zaZ, psR, zq2, zq3, zar]; omega
       have hpl := zfQ f kk (n := n) (by omega)
       simp [go_sem, zah, hk0, zjb x 1, hkx]
       (try refine zag (.refl _) (.cons (.cons (.refl _) (.cons ?_ (.cons (.refl _) .nil))) .nil))
       refine LeV.frz rfl ?_ ?_ (zBx ?_) <;> simp [mkH, upd, hpl, List.take_of_length_le]
     ·omega
     ·simp [go_sem, zah, hk0]
     ·simp
   ·have hiK : i = K := by omega
    subst hiK
    repeat first|with_reducible refine wV fun _=>?_|simp [go_sem]
    refine zBo (fun hb3 => ?_) (fun hb3 => ?_) <;> simp at hb3 <;> (repeat (first|with_reducible refine wV fun _=>?_|simp [go_sem]))
    all_goals refine zBo (fun hb4 => ?_) (fun hb4 => ?_) <;> simp at hb4 <;> (repeat (first|with_reducible refine wV fun _=>?_|simp [go_sem]))
    all_goals (
     refine zBm (zBr (α := Nat) (fun a => ⟨[(1, .ref 0 0 12 0 0), (2, .ref 1 0 9 0 0), (3, .ref 20 0 9 0 0), (4, .v (.int .i64 i)), (8, .v (.int .i64 a))],
      [(0, .rows true 0 12 [zcE x]), (1, .rows true 0 9 [[.v (.int .i64 0), zBu, zBu, zBu, .v (.int .i64 0), .v (.bool false), zBu, .v (.int .i64 0), .v (.int .i64 0)]]), (20, .rows true 0 9 [[.v (.int .i64 b.cells), zco b.next, zas b.turn, .sl 22 i 3 0 i, .v (.int .i64 R), .v (.bool (decide (x.f1.tmod 4 = 3))), .sl 23 a 4 0 a, .v (.int .i64 bl), .v (.int .i64 en)]]), (22, .rows true i 3 (ksR x i)), (23, .rows true a 4 (clR b.cells i x.c a))], 24⟩)
      (fun d a => a + d = min x.c.length 3) ?_ (min x.c.length 3) 0 ?_) ?_ ?_
     ·rintro d j j1 hrec2
      repeat first|with_reducible refine wV fun _=>?_|simp [go_sem]
      refine zBo (fun hj => ?_) (fun hj => ?_) <;> simp at hj
      ·have hj1 : j < x.c.length := by omega
       have hjc := hx.c _ (zan hj1)
       have hpl := zmY b.cells i x.c (n := j) (by omega)
       have hsu := zrR b.cells i x.c hj1
       generalize hcx : nth x.c j = c at *
       obtain ⟨c0, c1, c2⟩ := c
       obtain ⟨u0, u1, u2⟩ := hjc
       obtain ⟨w0, w0'⟩ := qq _ u0
       obtain ⟨v0, v0'⟩ := u0
       obtain ⟨v1, v1'⟩ := u1
       obtain ⟨v2, v2'⟩ := u2
       simp only at v0 v0' v1 v1' v2 v2' w0 w0'
       have t0 := Int.tmod_nonneg 3 v0
       have t1 := Int.tmod_lt_of_pos c0 (show (0 : Int) < 3 by decide)
       have hip : (0 : Int) < i := by omega
       have k0 := Int.tmod_nonneg i v1
       have n0 := Int.tmod_nonneg b.cells v2
       have n1 := Int.tmod_nonneg 3 v2
       rcases (show c0.tmod 3 = 0 ∨ c0.tmod 3 = 1 ∨ c0.tmod 3 = 2 by omega) with ht | ht | ht
       ·have hr : zto (zbr b.cells i (c0, c1, c2)) = [.v (.int .i64 1), .v (.int .i64 (c1.tmod i)), .v (.int .i64 0), .v (.int .i64 (1 + (c0.tdiv 4).tmod 3))] := by simp [zto, zbr, za8, ht]
        repeat first|with_reducible refine wV fun _=>?_|simp [go_sem, hj1, hcx, ht, hpl]
        refine zBm (hrec2 (d - 1) (by omega) (j + 1) (by omega)) ?_ (by simp)
        simp [go_sem, zah, hsu, hr]
       ·have hr : zto (zbr b.cells i (c0, c1, c2)) = [.v (.int .i64 2), .v (.int .i64 (c1.tmod i)), .v (.int .i64 (c2.tmod b.cells)), .v (.int .i64 (1 + (c0.tdiv 4).tmod 3))] := by simp [zto, zbr, za8, ht]
        repeat first|with_reducible refine wV fun _=>?_|simp [go_sem, hj1, hcx, ht, hpl]
        refine zBm (hrec2 (d - 1) (by omega) (j + 1) (by omega)) ?_ (by simp)
        simp [go_sem, zah, hsu, hr]
       ·have hr : zto (zbr b.cells i (c0, c1, c2)) = [.v (.int .i64 3), .v (.int .i64 0), .v (.int .i64 (c2.tmod 3)), .v (.int .i64 (1 + (c0.tdiv 4).tmod 3))] := by simp [zto, zbr, za8, ht]
        repeat first|with_reducible refine wV fun _=>?_|simp [go_sem, hj1, hcx, ht, hpl]
        refine zBm (hrec2 (d - 1) (by omega) (j + 1) (by omega)) ?_ (by simp)
        simp [go_sem, zah, hsu, hr]
      ·have hki : zcY x = i := by rw [hK2, hK]
       have hjm : j = min x.c.length 3 := by omega
       have htk : x.c.take (min x.c.length 3) = x.c.take 3 := by rw [List.take_eq_take_iff]; omega
       have hpl := zmY b.cells i x.c (n := j) (by omega)
       have hkl : (ksR x i).length = i := zwf x i
       have hcl : clR b.cells i x.c j = ((x.c.take 3).map (zbr b.cells i)).map za8 := by unfold clR; rw [hjm, htk]
       have hG : zfm x = { cells := b.cells, next := b.next, turn := b.turn, kinds := (List.range i).map (zeF x), rights := R, must := decide (x.f1.tmod 4 = 3), clauses := (x.c.take 3).map (zbr b.cells i), blocked := bl, endless := en } := by
        unfold zfm; rw [hki, ← hbb, ← hR, ← hbl, ← hen]
       have hEnc : eg = [.v (.int .i64 b.cells), zco b.next, zas b.turn, .lst 3 (ksR x i), .v (.int .i64 R), .v (.bool (decide (x.f1.tmod 4 = 3))), .lst 4 (clR b.cells i x.c j), .v (.int .i64 bl), .v (.int .i64 en)] := by
        rw [heg, hG, hcl]; rfl
       repeat first|with_reducible refine wV fun _=>?_|simp [go_sem]
       rw [hEnc]
       refine ⟨.cons (.refl _) (.cons (.refl _) (.cons (.refl _) (.cons (zam rfl (by omega) (by simp [noH]) (by rw [List.drop_zero, List.take_of_length_le (by omega)])) (.cons (.refl _) (.cons (.refl _) (.cons (zam rfl (by omega) (by simp [noH]) (by rw [List.drop_zero, List.take_of_length_le (by omega)])) (.cons (.refl _) (.cons (.refl _) .nil)))))))), ?_⟩
       intro c hc
       simp only [List.mem_cons, List.not_mem_nil, or_false] at hc
       rcases hc with rfl | rfl | rfl | rfl | rfl | rfl | rfl | rfl | rfl
       all_goals first | exact .v _ | simp [go_sem]
     ·omega
     ·simp [go_sem, zah, hbl, hen, hb3, hb4]
     ·simp)
  ·omega
  ·simp [go_sem, zah, hK]
  ·simp
def addK (known nx : List zaj) (q : zaj) : List zaj := if q ∈ known ++ nx then nx else nx ++ [q]
def zq5 (g : zaf) (known now : List zaj) : List zaj := (now.flatMap (zaH g)).foldl (addK known) []
theorem zg5 (known : List zaj) : ∀ (l nx : List zaj) (q : zaj), q ∈ l.foldl (addK known) nx ↔ q ∈ nx ∨ q ∈ l ∧ q ∉ known
 | [], nx, q => by simp
 | r :: l, nx, q => by
  rw [List.foldl_cons, zg5 known l]
  unfold addK
  by_cases hr : r ∈ known ++ nx
  ·rw [if_pos hr]
   rw [List.mem_append] at hr
   constructor
   ·rintro (h | ⟨h1, h2⟩)
    ·exact .inl h
    ·exact .inr ⟨List.mem_cons_of_mem _ h1, h2⟩
   ·rintro (h | ⟨h1, h2⟩)
    ·exact .inl h
    ·rcases List.mem_cons.1 h1 with rfl | h1
     ·rcases hr with hr | hr
      ·exact absurd hr h2
      ·exact .inl hr
     ·exact .inr ⟨h1, h2⟩
  ·rw [if_neg hr]
   rw [List.mem_append, not_or] at hr
   constructor
   ·rintro (h | ⟨h1, h2⟩)
    ·rcases List.mem_append.1 h with h | h
     ·exact .inl h
     ·simp only [List.mem_singleton] at h
      subst h
      exact .inr ⟨by simp, hr.1⟩
    ·exact .inr ⟨List.mem_cons_of_mem _ h1, h2⟩
   ·rintro (h | ⟨h1, h2⟩)
    ·exact .inl (List.mem_append.2 (.inl h))
    ·rcases List.mem_cons.1 h1 with rfl | h1
     ·exact .inl (by simp)
     ·exact .inr ⟨h1, h2⟩
theorem zfu (known : List zaj) : ∀ (l nx : List zaj), nx.Nodup → (l.foldl (addK known) nx).Nodup
 | [], nx, h => h
 | r :: l, nx, h => by
  rw [List.foldl_cons]
  refine zfu known l _ ?_
  unfold addK
  split
  ·exact h
  ·rename_i hr
   rw [List.mem_append, not_or] at hr
   refine List.nodup_append.2 ⟨h, by simp, ?_⟩
   intro a ha b hb e
   simp only [List.mem_singleton] at hb
   subst hb; subst e
   exact hr.2 ha
theorem zpe {g : zaf} {known now : List zaj} {q : zaj} : q ∈ zq5 g known now ↔ (∃ r ∈ now, q ∈ zaH g r) ∧ q ∉ known := by
 unfold zq5
 rw [zg5, List.mem_flatMap]
 simp
theorem zq6 (g : zaf) (known now : List zaj) : (zq5 g known now).Nodup := zfu known _ [] (by simp)
theorem zqT {g : zaf} {known now : List zaj} (h : known.Nodup) : (known ++ zq5 g known now).Nodup :=
 List.nodup_append.2 ⟨h, zq6 g known now, fun a ha b hb e => (zpe.1 hb).2 (e ▸ ha)⟩
theorem zyY {g : zaf} (hg : GOk g) {known now : List zaj} (hn : ∀ p ∈ now, POk g p) : ∀ q ∈ zq5 g known now, POk g q := fun q hq => by
 obtain ⟨⟨r, hr, hm⟩, _⟩ := zpe.1 hq
 exact (zc8 hg (hn r hr) q hm).1
structure zg4 (g : zaf) (known now : List zaj) : Prop where
 nd : known.Nodup
 sub : ∀ q ∈ now, q ∈ known
 inc : Inc now
 ok : ∀ q ∈ known, POk g q
theorem zB4 {g : zaf} {p : zaj} (hp : POk g p) : zg4 g [p] [p] :=
 ⟨by simp, fun q hq => hq, by simp [Inc], fun q hq => by simp only [List.mem_singleton] at hq; subst hq; exact hp⟩
theorem zg4.next {g : zaf} (hg : GOk g) {known now : List zaj} (h : zg4 g known now) : zg4 g (known ++ zq5 g known now) (zbp zbB (zq5 g known now)) :=
 ⟨zqT h.nd, fun q hq => List.mem_append.2 (.inr (zbc.1 hq)), zhC zbd _, fun q hq => by
  rcases List.mem_append.1 hq with hq | hq
  ·exact h.ok q hq
  ·exact zyY hg (fun r hr => h.ok r (h.sub r hr)) q hq⟩
def kRowP (q : zaj) : List AV := [.v (.string (zzE q)), .v (.bool true)]
theorem zvv {n : Nat} {l : List zaj} : (∀ r ∈ l.map kRowP, ∀ c ∈ r, Bel n c) = True := by
 refine eq_true ?_
 intro r hr c hc
 obtain ⟨x, _, rfl⟩ := List.mem_map.1 hr
 simp only [kRowP, List.mem_cons, List.not_mem_nil, or_false] at hc
 rcases hc with rfl | rfl <;> exact .v _
attribute [go_sem ↓] zvv
def rowL (x : List zaj × Bool) : List AV := [zaz x.1, .v (.bool x.2)]
theorem zx7 {n : Nat} {L : List (List zaj × Bool)} : (∀ r ∈ L.map rowL, ∀ c ∈ r, Bel n c) = True := by
 refine eq_true ?_
 intro r hr c hc
 obtain ⟨x, _, rfl⟩ := List.mem_map.1 hr
 simp only [rowL, List.mem_cons, List.not_mem_nil, or_false] at hc
 rcases hc with rfl | rfl
 ·exact of_eq_true zvp
 ·exact .v _
attribute [go_sem ↓] zx7
def encD (D : List (List zaj)) : List (List AV) := D.map fun l => [zaz l]
theorem zx5 {n : Nat} {D : List (List zaj)} : (∀ r ∈ encD D, ∀ c ∈ r, Bel n c) = True := by
 refine eq_true ?_
 intro r hr c hc
 obtain ⟨x, _, rfl⟩ := List.mem_map.1 hr
 simp only [List.mem_cons, List.not_mem_nil, or_false] at hc
 subst hc
 exact zce _
attribute [go_sem ↓] zx5
@[go_sem] theorem encD_len (D : List (List zaj)) : (encD D).length = D.length := by simp [encD]
def zAf (N : Nat) (G : List (List zaj)) (m : Nat) : List (List AV) := (List.range N).map fun j => if m ≤ j then [zaz (nth G j)] else [zBu]
@[go_sem] theorem backR_len (N : Nat) (G : List (List zaj)) (m : Nat) : (zAf N G m).length = N := by simp [zAf]
theorem zvr {n N : Nat} {G : List (List zaj)} {m : Nat} : (∀ r ∈ zAf N G m, ∀ c ∈ r, Bel n c) = True := by
 refine eq_true ?_
 intro r hr c hc
 obtain ⟨j, _, rfl⟩ := List.mem_map.1 hr
 split at hc
 ·simp only [List.mem_cons, List.not_mem_nil, or_false] at hc
  subst hc
  exact zce _
 ·simp only [List.mem_cons, List.not_mem_nil, or_false] at hc
  subst hc
  exact .v _
attribute [go_sem ↓] zvr
end Go.Av
end
section
open Go Go.Proofs
namespace Go.Av
section Ways
variable {g : zaf} (hg : GOk g) {p : zaj} (hp : POk g p)
end Ways
end Go.Av
end
section
open Go Go.Proofs
namespace Go.Av
def zbk : zaf := ⟨3, [[1, 2, -1], [-1, 0, 1]], [1, 0], [⟨⟨⟨[97]⟩⟩, [[(1, 0), (3, 0)], [(1, 0), (4, 0), (6, 0)]], false⟩], 0, false, [], 3, 2⟩
def at9 (a b c side : Int) : zaj := ⟨[a, b, c], [0], [0], 0, side⟩
theorem zv9 : zew zbk [0] := ⟨rfl, fun i hi => by
 obtain rfl : i = 0 := by simpa using hi
 exact ⟨by decide, by decide, by decide⟩⟩
theorem zlA (a b c side : Int) (ha : 0 ≤ a ∧ a ≤ 2) (hb : 0 ≤ b ∧ b ≤ 2) (hc : 0 ≤ c ∧ c ≤ 2) (hs : side = 0 ∨ side = 1) : POk zbk (at9 a b c side) :=
 ⟨rfl, by
  intro x hx
  simp only [at9, List.mem_cons, List.not_mem_nil, or_false] at hx
  have : (zbk.kinds.length : Int) = 1 := rfl
  rcases hx with rfl | rfl | rfl <;> omega, zv9, zv9, by simp [at9], by simp [at9, zbk], hs⟩
theorem zcM : GOk zbk := by
 refine ⟨?_, by decide, by decide, by decide, by decide, ?_, by decide, by decide, ?_, ?_, by decide, by decide, ?_, by decide, by decide, by decide⟩
 ·refine ⟨?_, ?_, ?_, ?_, ?_, ?_, ?_⟩ <;> first | decide | skip
 ·intro d hd
  have : d = 0 ∨ d = 1 := by
   have : zbk.turn.length = 2 := rfl
   omega
  rcases this with rfl | rfl <;> decide
 ·intro k hk
  simp only [zbk, List.mem_singleton] at hk
  subst hk
  decide
 ·intro k hk q hq
  simp only [zbk, List.mem_singleton] at hk
  subst hk
  simp only [List.mem_cons, List.not_mem_nil, or_false] at hq
  rcases hq with rfl | rfl
  ·refine ⟨by decide, by decide, fun x hx => ?_, by decide, by decide, by decide⟩
   simp only [List.mem_cons, List.not_mem_nil, or_false] at hx
   rcases hx with rfl | rfl <;> exact ⟨by decide, by decide, by decide, by decide, by decide⟩
  ·refine ⟨by decide, by decide, fun x hx => ?_, by decide, by decide, by decide⟩
   simp only [List.mem_cons, List.not_mem_nil, or_false] at hx
   rcases hx with rfl | rfl | rfl <;> exact ⟨by decide, by decide, by decide, by decide, by decide⟩
 ·intro c hc
  simp [zbk] at hc
theorem zrk : znU zbk := ⟨zcM, by decide, rfl, fun k hk => by
 simp only [zbk, List.mem_singleton] at hk
 subst hk
 rfl, by decide⟩
theorem zAI {l m : List zaj} (hl : Inc l) (hm : Inc m) (h : ∀ q, q ∈ l ↔ q ∈ m) : l = m := by
 rw [← zmt hl]
 exact zek zbd hm h
def zmV (p : zaj) (l : List zaj) : Bool := (zb4 zbk).all fun q => decide (p ∈ zaH zbk q) == decide (q ∈ l)
theorem zlD {p : zaj} {l : List zaj} (hl : Inc l) (hok : ∀ q ∈ l, POk zbk q) (h : zmV p l = true) : zaG zbk p = l := by
 refine zAI (zbN _ _) hl fun q => ?_
 rw [zb9 zcM]
 have key : ∀ q, POk zbk q → (p ∈ zaH zbk q ↔ q ∈ l) := fun q hq => by
  have := List.all_eq_true.1 h q ((zf8 zrk).2 hq)
  rw [beq_iff_eq] at this
  exact ⟨fun h => by rw [decide_eq_true h] at this; exact of_decide_eq_true this.symm, fun h => by rw [decide_eq_true h] at this; exact of_decide_eq_true this⟩
 exact ⟨fun ⟨h1, h2⟩ => (key q h1).1 h2, fun h => ⟨hok q h, (key q (hok q h)).2 h⟩⟩
theorem zAd : zmV (at9 0 2 0 0) [at9 0 0 2 1, at9 0 1 2 1] = true := by kernel_rfl
theorem zAe : zmV (at9 1 0 0 1) [] = true := by kernel_rfl
theorem zAb : zbG zbk (at9 0 2 0 0) = ([at9 0 0 2 1, at9 0 1 2 1], 0) := by
 have : zaG zbk (at9 0 2 0 0) = [at9 0 0 2 1, at9 0 1 2 1] := zlD (by
  refine List.Pairwise.cons (fun q hq => ?_) (List.pairwise_singleton _ _)
  simp only [List.mem_singleton] at hq
  subst hq
  decide) (fun q hq => by
  simp only [List.mem_cons, List.not_mem_nil, or_false] at hq
  rcases hq with rfl | rfl
  ·exact zlA _ _ _ _ (by omega) (by omega) (by omega) (.inr rfl)
  ·exact zlA _ _ _ _ (by omega) (by omega) (by omega) (.inr rfl)) zAd
 unfold zbG
 rw [this]
 rfl
theorem zAc : zbG zbk (at9 1 0 0 1) = ([], 0) := by
 have : zaG zbk (at9 1 0 0 1) = [] := zlD List.Pairwise.nil (fun q hq => by cases hq) zAe
 unfold zbG
 rw [this]
 rfl
theorem zyj : zcW zbk (at9 0 2 0 0) 0 = ([at9 0 2 0 0], 0) := zqA _ _
theorem zb3 (g : zaf) (hg : GOk g) (hs : zbm g) (p : zaj) (hp : POk g p) : zaC Tryz.prog 35 [.agg (zab g), .agg (zad p)] (zb1 (zbG g p)) := by
 refine pF Tryz.func35 ?_
 have hB := zuG g hg hs p hp
 generalize zbG g p = v at *
 unfold zb1
 repeat first|with_reducible refine wV fun _=>?_|simp [go_sem]
 refine zBn hB (by simp [go_sem]) ?_
 repeat first|with_reducible refine wV fun _=>?_|simp [go_sem]
theorem zdV (g : zaf) (hg : GOk g) (hs : zbm g) (p : zaj) (hp : POk g p) (n : Int) : zaC Tryz.prog 37 [.agg (zab g), .agg (zad p), .v (.int .i64 n)] (zb1 (zcW g p n)) := by
 refine pF Tryz.func37 ?_
 have hB := zsx g hg hs p hp n
 generalize zcW g p n = v at *
 unfold zb1
 repeat first|with_reducible refine wV fun _=>?_|simp [go_sem]
 refine zBn hB (by simp [go_sem]) ?_
 repeat first|with_reducible refine wV fun _=>?_|simp [go_sem]
theorem zxW (a b c s : Int) : zaC Tryz.prog 86 [.v (.int .i64 a), .v (.int .i64 b), .v (.int .i64 c), .v (.int .i64 s)] (.agg (zad (at9 a b c s))) := by
 refine pF Tryz.func86 ?_
 unfold at9
 repeat first|with_reducible refine wV fun _=>?_|simp [go_sem]
 refine ⟨?_, ?_, ?_⟩ <;> refine LeV.frz rfl (by simp) (by simp [noH, upd]) ?_ <;> exact .refl _
theorem zej : zbm zbk := by
 intro k hk p hp
 simp only [zbk, List.mem_singleton] at hk
 subst hk
 simp only [List.mem_cons, List.not_mem_nil, or_false] at hp
 rcases hp with rfl | rfl <;> decide
theorem zc0 : zaC Tryz.prog 31 [] (.v (.bool true)) := by
 refine pF Tryz.func31 ?_
 have hA := fun a b c s => zxW a b c s
 have k1 := zlA 0 2 0 0 (by decide) (by decide) (by decide) (by decide)
 have k2 := zlA 1 0 0 1 (by decide) (by decide) (by decide) (by decide)
 have hB1 := zb3 zbk zcM zej _ k1
 rw [zAb] at hB1
 have hB2 := zb3 zbk zcM zej _ k2
 rw [zAc] at hB2
 have hC0 := zdV zbk zcM zej _ k1 0
 rw [zyj] at hC0
 have hCm := zdV zbk zcM zej _ k1 (-1)
 have em : zcW zbk (at9 0 2 0 0) (-1) = ([], 1) := rfl
 rw [em] at hCm
 have f1 := (zlA 0 0 2 1 (by decide) (by decide) (by decide) (by decide)).fits zcM
 have f2 := (zlA 0 1 2 1 (by decide) (by decide) (by decide) (by decide)).fits zcM
 have hS1 := zf1 ([at9 0 0 2 1, at9 0 1 2 1], 0) ([at9 0 0 2 1, at9 0 1 2 1], 0) (by simp) (by simp) (by simp; exact ⟨f1, f2⟩) (by simp; exact ⟨f1, f2⟩)
 have hS2 := zf1 ([], 0) ([], 0) (by simp) (by simp) (by simp) (by simp)
 have hS3 := zf1 ([at9 0 2 0 0], 0) ([at9 0 2 0 0], 0) (by simp) (by simp) (by simp; exact k1.fits zcM) (by simp; exact k1.fits zcM)
 rw [show ∀ z : List zaj × Int, decide (z = z) = true from fun z => decide_eq_true rfl] at hS1 hS2 hS3
 have hgs : ∀ n, (∀ c ∈ zab zbk, Bel n c) = True := fun n => by simp [go_sem]
 obtain ⟨pa, hpa⟩ : ∃ pa, pa = at9 0 2 0 0 := ⟨_, rfl⟩
 obtain ⟨pb, hpb⟩ : ∃ pb, pb = at9 1 0 0 1 := ⟨_, rfl⟩
 obtain ⟨pc, hpc⟩ : ∃ pc, pc = at9 0 0 2 1 := ⟨_, rfl⟩
 obtain ⟨pd, hpd⟩ : ∃ pd, pd = at9 0 1 2 1 := ⟨_, rfl⟩
 have a1 := hA 0 2 0 0
 have a2 := hA 1 0 0 1
 have a3 := hA 0 0 2 1
 have a4 := hA 0 1 2 1
 rw [← hpa] at a1 hB1 hC0 hCm hS3
 rw [← hpb] at a2 hB2
 rw [← hpc] at a3 hB1 hS1
 rw [← hpd] at a4 hB1 hS1
 simp only [zb1] at hB1 hB2 hC0 hCm
 clear hA hpa hpb hpc hpd
 (repeat (first|with_reducible (first|refine wL fun _=>?_|refine wD fun _=>?_|refine wE ?_)|simp [go_sem]))
 refine zn2.frz (zaL _ [0, 1, 2, 3, 4, 5, 6, 7]) (zc6 _ _) ?_
 repeat first|with_reducible refine wV fun _=>?_|simp [go_sem]
 refine zBq a1 (by simp [go_sem]) ?_
 repeat first|with_reducible refine wV fun _=>?_|simp [go_sem]
 refine zay.frz [.agg (zab zbk), .agg (zad pa)] _ [0, 1, 2, 3, 4, 5, 6, 7] [] hB1 (by simp) ?_ (by simp [go_sem, hgs]) ?_
 ·intro h₁ hS
  have h0 := (hS 0 (by simp)).symm
  have h1 := (hS 1 (by simp)).symm
  have h2 := (hS 2 (by simp)).symm
  have h3 := (hS 3 (by simp)).symm
  have h4 := (hS 4 (by simp)).symm
  have h5 := (hS 5 (by simp)).symm
  have h6 := (hS 6 (by simp)).symm
  have h7 := (hS 7 (by simp)).symm
  clear hS
  simp [upd, zaL, zaS] at h0 h1 h2 h3 h4 h5 h6 h7
  simp only [zbk, zab, zco, zas, zaZ, zar, zau, zb6, List.map_cons, List.map_nil]
  ((try simp only [zar, zau, zaE, zaY, zap, zaX, zat, zal, zad, za9, zaQ, zaz, zas, zab, List.map_cons, List.map_nil, List.nil_append, List.append_nil, List.cons_append]); (repeat (first | (with_reducible first|exact zai.nil|exact zae.nil|exact LeV.refl _|exact zai.refl _ _ _ _|exact zae.refl _|refine zai.cons ?_ ?_|refine zae.cons ?_ ?_|refine LeV.agg ?_|refine LeV.tup ?_|refine LeV.fn ?_ ?_|exact LeV.nil _|refine zag (zae.refl _) ?_) | ((refine zam (by first | rfl | assumption) (by simp [h0, h1, h2, h3, h4, h5, h6, h7]) (by simp [zaL, zaS, upd, noH, zao, h0, h1, h2, h3, h4, h5, h6, h7]) ?_); (first | (simp [go_sem, h0, h1, h2, h3, h4, h5, h6, h7]; done) | (simp [go_sem, h0, h1, h2, h3, h4, h5, h6, h7]; exact List.take_of_length_le (by simp [h0, h1, h2, h3, h4, h5, h6, h7])))) | ((refine LeV.frz (by first | rfl | assumption) (by simp [h0, h1, h2, h3, h4, h5, h6, h7]) (by simp [zaL, zaS, upd, noH, zao, h0, h1, h2, h3, h4, h5, h6, h7]) ?_); (simp only [List.drop_zero, List.take_succ_cons, List.take_zero, List.map_cons, List.map_nil])) | ((refine LeV.frzP (by first | rfl | assumption) (by simp [h0, h1, h2, h3, h4, h5, h6, h7]) (by simp) (by simp [zaL, zaS, upd, noH, zao, h0, h1, h2, h3, h4, h5, h6, h7]) ?_); (simp only [zaw, List.drop_zero])))))
 repeat first|with_reducible refine wV fun _=>?_|simp [go_sem]
 refine zBq a2 (by simp [go_sem]) ?_
 repeat first|with_reducible refine wV fun _=>?_|simp [go_sem]
 refine zay.frz [.agg (zab zbk), .agg (zad pb)] _ [0, 1, 2, 3, 4, 5, 6, 7] [] hB2 (by simp) ?_ (by simp [go_sem, hgs]) ?_
 ·intro h₁ hS
  have h0 := (hS 0 (by simp)).symm
  have h1 := (hS 1 (by simp)).symm
  have h2 := (hS 2 (by simp)).symm
  have h3 := (hS 3 (by simp)).symm
  have h4 := (hS 4 (by simp)).symm
  have h5 := (hS 5 (by simp)).symm
  have h6 := (hS 6 (by simp)).symm
  have h7 := (hS 7 (by simp)).symm
  clear hS
  simp [upd, zaL, zaS] at h0 h1 h2 h3 h4 h5 h6 h7
  simp only [zbk, zab, zco, zas, zaZ, zar, zau, zb6, List.map_cons, List.map_nil]
  ((try simp only [zar, zau, zaE, zaY, zap, zaX, zat, zal, zad, za9, zaQ, zaz, zas, zab, List.map_cons, List.map_nil, List.nil_append, List.append_nil, List.cons_append]); (repeat (first | (with_reducible first|exact zai.nil|exact zae.nil|exact LeV.refl _|exact zai.refl _ _ _ _|exact zae.refl _|refine zai.cons ?_ ?_|refine zae.cons ?_ ?_|refine LeV.agg ?_|refine LeV.tup ?_|refine LeV.fn ?_ ?_|exact LeV.nil _|refine zag (zae.refl _) ?_) | ((refine zam (by first | rfl | assumption) (by simp [h0, h1, h2, h3, h4, h5, h6, h7]) (by simp [zaL, zaS, upd, noH, zao, h0, h1, h2, h3, h4, h5, h6, h7]) ?_); (first | (simp [go_sem, h0, h1, h2, h3, h4, h5, h6, h7]; done) | (simp [go_sem, h0, h1, h2, h3, h4, h5, h6, h7]; exact List.take_of_length_le (by simp [h0, h1, h2, h3, h4, h5, h6, h7])))) | ((refine LeV.frz (by first | rfl | assumption) (by simp [h0, h1, h2, h3, h4, h5, h6, h7]) (by simp [zaL, zaS, upd, noH, zao, h0, h1, h2, h3, h4, h5, h6, h7]) ?_); (simp only [List.drop_zero, List.take_succ_cons, List.take_zero, List.map_cons, List.map_nil])) | ((refine LeV.frzP (by first | rfl | assumption) (by simp [h0, h1, h2, h3, h4, h5, h6, h7]) (by simp) (by simp [zaL, zaS, upd, noH, zao, h0, h1, h2, h3, h4, h5, h6, h7]) ?_); (simp only [zaw, List.drop_zero])))))
 repeat first|with_reducible refine wV fun _=>?_|simp [go_sem]
 refine zBq a1 (by simp [go_sem]) ?_
 repeat first|with_reducible refine wV fun _=>?_|simp [go_sem]
 refine zay.frz [.agg (zab zbk), .agg (zad pa), .v (.int .i64 0)] _ [0, 1, 2, 3, 4, 5, 6, 7] [] hC0 (by simp) ?_ (by simp [go_sem, hgs]) ?_
 ·intro h₁ hS
  have h0 := (hS 0 (by simp)).symm
  have h1 := (hS 1 (by simp)).symm
  have h2 := (hS 2 (by simp)).symm
  have h3 := (hS 3 (by simp)).symm
  have h4 := (hS 4 (by simp)).symm
  have h5 := (hS 5 (by simp)).symm
  have h6 := (hS 6 (by simp)).symm
  have h7 := (hS 7 (by simp)).symm
  clear hS
  simp [upd, zaL, zaS] at h0 h1 h2 h3 h4 h5 h6 h7
  simp only [zbk, zab, zco, zas, zaZ, zar, zau, zb6, List.map_cons, List.map_nil]
  ((try simp only [zar, zau, zaE, zaY, zap, zaX, zat, zal, zad, za9, zaQ, zaz, zas, zab, List.map_cons, List.map_nil, List.nil_append, List.append_nil, List.cons_append]); (repeat (first | (with_reducible first|exact zai.nil|exact zae.nil|exact LeV.refl _|exact zai.refl _ _ _ _|exact zae.refl _|refine zai.cons ?_ ?_|refine zae.cons ?_ ?_|refine LeV.agg ?_|refine LeV.tup ?_|refine LeV.fn ?_ ?_|exact LeV.nil _|refine zag (zae.refl _) ?_) | ((refine zam (by first | rfl | assumption) (by simp [h0, h1, h2, h3, h4, h5, h6, h7]) (by simp [zaL, zaS, upd, noH, zao, h0, h1, h2, h3, h4, h5, h6, h7]) ?_); (first | (simp [go_sem, h0, h1, h2, h3, h4, h5, h6, h7]; done) | (simp [go_sem, h0, h1, h2, h3, h4, h5, h6, h7]; exact List.take_of_length_le (by simp [h0, h1, h2, h3, h4, h5, h6, h7])))) | ((refine LeV.frz (by first | rfl | assumption) (by simp [h0, h1, h2, h3, h4, h5, h6, h7]) (by simp [zaL, zaS, upd, noH, zao, h0, h1, h2, h3, h4, h5, h6, h7]) ?_); (simp only [List.drop_zero, List.take_succ_cons, List.take_zero, List.map_cons, List.map_nil])) | ((refine LeV.frzP (by first | rfl | assumption) (by simp [h0, h1, h2, h3, h4, h5, h6, h7]) (by simp) (by simp [zaL, zaS, upd, noH, zao, h0, h1, h2, h3, h4, h5, h6, h7]) ?_); (simp only [zaw, List.drop_zero])))))
 repeat first|with_reducible refine wV fun _=>?_|simp [go_sem]
 refine zBq a3 (by simp [go_sem]) ?_
 repeat first|with_reducible refine wV fun _=>?_|simp [go_sem]
 refine zBq a4 (by simp [go_sem]) ?_
 repeat first|with_reducible refine wV fun _=>?_|simp [go_sem]
 refine zB0 [zb1 ([pc, pd], 0), zb1 ([pc, pd], 0)] (.v (.bool true)) [27] hS1 (.v _) ?_ (by simp [go_sem, zb1]) ?_
 ·intro h₁ hS
  have h27 := (hS 27 (by simp)).symm
  simp [upd, zaL, zaS] at h27
  simp only [zb1]
  ((try simp only [zar, zau, zaE, zaY, zap, zaX, zat, zal, zad, za9, zaQ, zaz, zas, zab, List.map_cons, List.map_nil, List.nil_append, List.append_nil, List.cons_append]); (repeat (first | (with_reducible first|exact zai.nil|exact zae.nil|exact LeV.refl _|exact zai.refl _ _ _ _|exact zae.refl _|refine zai.cons ?_ ?_|refine zae.cons ?_ ?_|refine LeV.agg ?_|refine LeV.tup ?_|refine LeV.fn ?_ ?_|exact LeV.nil _|refine zag (zae.refl _) ?_) | ((refine zam (by first | rfl | assumption) (by simp [h27]) (by simp [zaL, zaS, upd, noH, zao, h27]) ?_); (first | (simp [go_sem, h27]; done) | (simp [go_sem, h27]; exact List.take_of_length_le (by simp [h27])))) | ((refine LeV.frz (by first | rfl | assumption) (by simp [h27]) (by simp [zaL, zaS, upd, noH, zao, h27]) ?_); (simp only [List.drop_zero, List.take_succ_cons, List.take_zero, List.map_cons, List.map_nil])) | ((refine LeV.frzP (by first | rfl | assumption) (by simp [h27]) (by simp) (by simp [zaL, zaS, upd, noH, zao, h27]) ?_); (simp only [zaw, List.drop_zero])))))
 repeat first|with_reducible refine wV fun _=>?_|simp [go_sem]
 refine zBT [zb1 ([], 0), zb1 ([], 0)] (.v (.bool true)) [] (fun _ => hS2) (.v _) ?_ (by simp [go_sem, zb1]) ?_
 ·intro h₁ hS
  simp only [zb1]
  (first|done|exact leX)
 repeat first|with_reducible refine wV fun _=>?_|simp [go_sem]
 refine zBz _ (fun _ => a1) (by simp [go_sem]) ?_
 repeat first|with_reducible refine wV fun _=>?_|simp [go_sem]
 refine zBT [zb1 ([pa], 0), zb1 ([pa], 0)] (.v (.bool true)) [38] (fun _ => hS3) (.v _) ?_ (by simp [go_sem, zb1]) ?_
 ·intro h₁ hS
  have h38 := (hS 38 (by simp)).symm
  simp [upd, zaL, zaS] at h38
  simp only [zb1]
  ((try simp only [zar, zau, zaE, zaY, zap, zaX, zat, zal, zad, za9, zaQ, zaz, zas, zab, List.map_cons, List.map_nil, List.nil_append, List.append_nil, List.cons_append]); (repeat (first | (with_reducible first|exact zai.nil|exact zae.nil|exact LeV.refl _|exact zai.refl _ _ _ _|exact zae.refl _|refine zai.cons ?_ ?_|refine zae.cons ?_ ?_|refine LeV.agg ?_|refine LeV.tup ?_|refine LeV.fn ?_ ?_|exact LeV.nil _|refine zag (zae.refl _) ?_) | ((refine zam (by first | rfl | assumption) (by simp [h38]) (by simp [zaL, zaS, upd, noH, zao, h38]) ?_); (first | (simp [go_sem, h38]; done) | (simp [go_sem, h38]; exact List.take_of_length_le (by simp [h38])))) | ((refine LeV.frz (by first | rfl | assumption) (by simp [h38]) (by simp [zaL, zaS, upd, noH, zao, h38]) ?_); (simp only [List.drop_zero, List.take_succ_cons, List.take_zero, List.map_cons, List.map_nil])) | ((refine LeV.frzP (by first | rfl | assumption) (by simp [h38]) (by simp) (by simp [zaL, zaS, upd, noH, zao, h38]) ?_); (simp only [zaw, List.drop_zero])))))
 repeat first|with_reducible refine wV fun _=>?_|simp [go_sem]
 refine zBz _ (fun _ => a1) (by simp [go_sem]) ?_
 repeat first|with_reducible refine wV fun _=>?_|simp [go_sem]
 refine dGC.frz [.agg (zab zbk), .agg (zad pa), .v (.int .i64 (-1))] _ [0, 1, 2, 3, 4, 5, 6, 7] [] hCm (by simp) ?_ (by simp [go_sem, hgs]) ?_
 ·intro h₁ hS
  have h0 := (hS 0 (by simp)).symm
  have h1 := (hS 1 (by simp)).symm
  have h2 := (hS 2 (by simp)).symm
  have h3 := (hS 3 (by simp)).symm
  have h4 := (hS 4 (by simp)).symm
  have h5 := (hS 5 (by simp)).symm
  have h6 := (hS 6 (by simp)).symm
  have h7 := (hS 7 (by simp)).symm
  clear hS
  simp [upd, zaL, zaS] at h0 h1 h2 h3 h4 h5 h6 h7
  simp only [zbk, zab, zco, zas, zaZ, zar, zau, zb6, List.map_cons, List.map_nil]
  ((try simp only [zar, zau, zaE, zaY, zap, zaX, zat, zal, zad, za9, zaQ, zaz, zas, zab, List.map_cons, List.map_nil, List.nil_append, List.append_nil, List.cons_append]); (repeat (first | (with_reducible first|exact zai.nil|exact zae.nil|exact LeV.refl _|exact zai.refl _ _ _ _|exact zae.refl _|refine zai.cons ?_ ?_|refine zae.cons ?_ ?_|refine LeV.agg ?_|refine LeV.tup ?_|refine LeV.fn ?_ ?_|exact LeV.nil _|refine zag (zae.refl _) ?_) | ((refine zam (by first | rfl | assumption) (by simp [h0, h1, h2, h3, h4, h5, h6, h7]) (by simp [zaL, zaS, upd, noH, zao, h0, h1, h2, h3, h4, h5, h6, h7]) ?_); (first | (simp [go_sem, h0, h1, h2, h3, h4, h5, h6, h7]; done) | (simp [go_sem, h0, h1, h2, h3, h4, h5, h6, h7]; exact List.take_of_length_le (by simp [h0, h1, h2, h3, h4, h5, h6, h7])))) | ((refine LeV.frz (by first | rfl | assumption) (by simp [h0, h1, h2, h3, h4, h5, h6, h7]) (by simp [zaL, zaS, upd, noH, zao, h0, h1, h2, h3, h4, h5, h6, h7]) ?_); (simp only [List.drop_zero, List.take_succ_cons, List.take_zero, List.map_cons, List.map_nil])) | ((refine LeV.frzP (by first | rfl | assumption) (by simp [h0, h1, h2, h3, h4, h5, h6, h7]) (by simp) (by simp [zaL, zaS, upd, noH, zao, h0, h1, h2, h3, h4, h5, h6, h7]) ?_); (simp only [zaw, List.drop_zero])))))
 repeat first|with_reducible refine wV fun _=>?_|simp [go_sem]
theorem zzi {P : Program} {t : TypeId} {fn : Fn} {first caps : Array Value} {l : List UInt8} (hl : l ≠ []) (h : funcToken P (t, .func fn first caps) = l) :
  ∃ f F, fn = .func f ∧ first = #[] ∧ caps = #[] ∧ P.funcs[f]? = some F ∧ P.funcNamed F.name = some f ∧ F.name.toUTF8.data.toList = l := by
 unfold funcToken at h
 cases fn with
 | func f =>
  simp only at h
  split at h
  ·rename_i hc
   simp only [Bool.and_eq_true, Array.isEmpty_iff] at hc
   split at h
   ·rename_i F hF
    split at h
    ·rename_i hn
     exact ⟨f, F, rfl, hc.1, hc.2, hF, by simpa using hn, h⟩
    ·exact absurd h.symm hl
   ·exact absurd h.symm hl
  ·exact absurd h.symm hl
 | _ => exact absurd h.symm hl
theorem zro {P : Program} {w : World} {sp : Nat → Bool} {fuel : Nat} {e : TypeId} {d : TypeDesc} {v : Value} {l : List UInt8} {q : List MemPlace} (hd : P.underlying e = some d) (hf : ∃ a b c, d = .func a b c) (h : DataW.trod (funcToken P) P w 0 sp true fuel e [v] = some (.held l, q)) :
  ∃ fn first caps, v = .func fn first caps ∧ funcToken P (e, .func fn first caps) = l := by
 obtain ⟨a, b, c, rfl⟩ := hf
 cases fuel with
 | zero => simp [DataW.trod] at h
 | succ fuel =>
  simp only [DataW.trod, hd] at h
  cases v <;> simp at h
  exact ⟨_, _, _, rfl, h.1⟩
theorem zxf {P : Program} {w : World} {sp : Nat → Bool} {fuel : Nat} {e : TypeId} {d : TypeDesc} {v : Value} {q : List MemPlace} (hd : P.underlying e = some d) (hf : ∃ a b c, d = .func a b c) (h : DataW.trod (funcToken P) P w 0 sp true fuel e [v] = some (.nil, q)) : v = .nilFunc := by
 obtain ⟨a, b, c, rfl⟩ := hf
 cases fuel with
 | zero => simp [DataW.trod] at h
 | succ fuel =>
  simp only [DataW.trod, hd] at h
  cases v <;> simp at h
  rfl
theorem ztn {a b : String} (h : a.toUTF8.data.toList = b.toUTF8.data.toList) : a = b := by
 have h1 : a.toUTF8 = b.toUTF8 := ByteArray.ext (Array.toList_inj.1 h)
 exact String.toByteArray_inj.1 h1
theorem znf {n : String} {k : FuncId} {l : List UInt8} {t : TypeId} {fn : Fn} {first caps : Array Value} (hk : Tryz.prog.funcNamed n = some k) (hl : n.toUTF8.data.toList = l) (hne : l ≠ []) (h : funcToken Tryz.prog (t, .func fn first caps) = l) : fn = .func k ∧ first = #[] ∧ caps = #[] := by
 obtain ⟨f, F, h1, h2, h3, h4, h5, h6⟩ := zzi hne h
 have e : F.name = n := ztn (h6.trans hl.symm)
 rw [e, hk] at h5
 cases h5
 exact ⟨h1, h2, h3⟩
def zdW : DataW Unit := .agg [.nil, .iface "func" (.lit (.string [115, 107, 101, 119, 101, 114, 47, 112, 108, 97, 121, 46, 99, 111, 110, 100, 105, 116, 105, 111, 110, 115, 36, 49])), .iface "func" (.lit (.string [115, 107, 101, 119, 101, 114, 47, 112, 108, 97, 121, 46, 99, 111, 110, 100, 105, 116, 105, 111, 110, 115, 36, 50])), .iface "func" (.lit (.string [115, 107, 101, 119, 101, 114, 47, 112, 108, 97, 121, 46, 99, 111, 110, 100, 105, 116, 105, 111, 110, 115, 36, 51]))]
theorem zqC {W : World} (h : funcsAt Tryz.prog W "skewer/play.conditions" zdW) :
  ∃ cs T fz, W.heap[0]? = some (.cells cs T fz) ∧ cs.toList = [.nilFunc, .func (.func 328) #[] #[], .func (.func 330) #[] #[], .func (.func 331) #[] #[]] := by
 obtain ⟨g, t, cs, fuel, p, hg, ht, hcs, htr⟩ := h
 obtain rfl : g = 0 := (Option.some.inj ((show Tryz.prog.globalNamed "skewer/play.conditions" = some 0 by kernel_rfl).symm.trans hg)).symm
 obtain rfl : t = 201 := (Option.some.inj ((show (Tryz.prog.globals[0]?).map (·.type) = some 201 by kernel_rfl).symm.trans ht)).symm
 have hu : Tryz.prog.underlying 201 = some (.array 4 200) := by kernel_rfl
 have hc1 : Tryz.prog.cellsOf 200 = 1 := by kernel_rfl
 have hc4 : Tryz.prog.cellsOf 201 = 4 := by kernel_rfl
 have hheap : ∃ T fz, W.heap[0]? = some (.cells cs T fz) := by
  unfold World.var? at hcs
  rw [show Tryz.prog.globalNamed "skewer/play.conditions" = some 0 by kernel_rfl] at hcs
  simp only [Option.bind_some] at hcs
  split at hcs
  ·rename_i c T fz hb
   cases hcs
   exact ⟨T, fz, hb⟩
  ·cases hcs
 obtain ⟨T, fz, hb⟩ := hheap
 refine ⟨cs, T, fz, hb, ?_⟩
 cases fuel with
 | zero => simp [DataW.trod] at htr
 | succ fuel =>
  simp only [DataW.trod, hu, hc1, hc4, Nat.mul_one] at htr
  split at htr
  ·rename_i hl
   match hcl : cs.toList, hl with
   | [a, b, c, d], _ =>
    rw [hcl] at htr
    obtain ⟨xs, hm, hx⟩ := Option.map_eq_some_iff.1 htr
    simp only [show List.range 4 = [0, 1, 2, 3] from rfl, List.mapM_cons, List.mapM_nil, List.drop_zero, List.drop_succ_cons, List.take_succ_cons, List.take_zero, Option.bind_eq_bind, Option.bind_eq_some_iff, Option.pure_def, Option.some.injEq] at hm
    obtain ⟨⟨y0, q0⟩, h0, l1, ⟨⟨y1, q1⟩, h1, l2, ⟨⟨y2, q2⟩, h2, l3, ⟨⟨y3, q3⟩, h3, l4, rfl, rfl⟩, rfl⟩, rfl⟩, rfl⟩ := hm
    have hx1 := congrArg Prod.fst hx
    simp only [zdW, DataW.funcsOut, DataW.funcsOutAll, List.map_cons, List.map_nil, DataW.agg.injEq, List.cons.injEq, and_true] at hx1
    simp at hx1
    obtain ⟨rfl, rfl, rfl, rfl⟩ := hx1
    have hd : Tryz.prog.underlying 200 = some (.func #[39, 45, 78] #[4] false) := by kernel_rfl
    have hf : ∃ a b c, TypeDesc.func #[39, 45, 78] #[4] false = .func a b c := ⟨_, _, _, rfl⟩
    obtain rfl := zxf hd hf h0
    obtain ⟨f1, i1, c1, rfl, t1⟩ := zro hd hf h1
    obtain ⟨f2, i2, c2, rfl, t2⟩ := zro hd hf h2
    obtain ⟨f3, i3, c3, rfl, t3⟩ := zro hd hf h3
    obtain ⟨rfl, rfl, rfl⟩ := znf (n := "skewer/play.conditions$1") (k := 328) (by kernel_rfl) (by decide +kernel) (by simp) t1
    obtain ⟨rfl, rfl, rfl⟩ := znf (n := "skewer/play.conditions$2") (k := 330) (by kernel_rfl) (by decide +kernel) (by simp) t2
    obtain ⟨rfl, rfl, rfl⟩ := znf (n := "skewer/play.conditions$3") (k := 331) (by kernel_rfl) (by decide +kernel) (by simp) t3
    rfl
  ·cases htr
theorem zbj {W : World} (h : funcsAt Tryz.prog W "skewer/play.conditions" zdW) : zhJ W (fun _ => False) := by
 obtain ⟨cs, T, fz, hb, hcs⟩ := zqC h
 have hsz : cs.size = 4 := by rw [← Array.length_toList, hcs]; rfl
 intro q hq
 have e : q = (0, [AV.v .nilFunc, .fn (.func 328) [] [], .fn (.func 330) [] [], .fn (.func 331) [] []]) := by simpa [glbs] using hq
 subst e
 refine Rel.fp (C := cs) (T := T) (fz := fz) rfl (fun h => h) hb (by simp [hsz]) ?_ ?_
 ·intro u hu
  simp only [hcs, List.drop_zero] at hu
  simp at hu
  rcases hu with rfl | rfl | rfl | rfl <;> rfl
 ·simp only [hcs, List.drop_zero]
  exact .cons (.v _) (.cons (.fn .nil .nil) (.cons (.fn .nil .nil) (.cons (.fn .nil .nil) .nil)))
end Go.Av
end
section
open Go Go.Proofs Go.Av Go.ChangeShapes Go.RowKit
namespace Go.Proofs.YtkahkcakggflaaaGreatDoor
theorem zcQ : ownKnob Tryz.prog.godebug = none := by kernel_rfl
theorem zdF : laidOutB Tryz.prog = true := by kernel_rfl
abbrev zyt : List (String × DataW Unit) := [("math/bits.deBruijn32tab", Rows.laid_math_bits_deBruijn32tab), ("math/bits.deBruijn64tab", Rows.laid_math_bits_deBruijn64tab), ("internal/strconv.uint64pow10", Rows.laid_internal_strconv_uint64pow10), ("skewer/play.conditions", Rows.laid_skewer_play_conditions)]
theorem zcP (os : Os) (args : Array Value) : laidMetH Tryz.prog zyt ((World.doorLaid Tryz.prog 29 os).forCall (fun _ _ => 0) ⟨#[], args, []⟩).memory :=
 laidMetH_of_parts3 (fuel := 8) (laidMet_of_run' 8 (by kernel_rfl) (by kernel_rfl)) (by kernel_rfl) (by kernel_rfl)
theorem zcg (os : Os) (args : Array Value) : ((World.doorLaid Tryz.prog 29 os).forCall (fun _ _ => 0) ⟨#[], args, []⟩).variablesB Tryz.prog = true := by kernel_rfl
theorem zcf (os : Os) (args : Array Value) : (((World.doorLaid Tryz.prog 29 os).forCall (fun _ _ => 0) ⟨#[], args, []⟩).heap.toList.drop Tryz.prog.globals.size).take ((begin Tryz.prog (fun _ _ => 0) default).world.heap.size - Tryz.prog.globals.size) =
  (begin Tryz.prog (fun _ _ => 0) default).world.heap.toList.drop Tryz.prog.globals.size := by kernel_rfl
end Go.Proofs.YtkahkcakggflaaaGreatDoor
end
