/- Texts of ours, part 9: our library and contracts of functions. -/
import Derived.Test.YtedhfmmlhfmomaaGreatDoorB08
set_option linter.unusedSimpArgs false
set_option linter.unusedVariables false
set_option maxRecDepth 100000
set_option maxHeartbeats 40000000
section
open Go Go.Proofs
namespace Go.Av
def zqG {α β : Type} (F : α → List β) (l : List α) (i : Nat) : List β := (l.take i).flatMap F
theorem zoK {α β : Type} [Inhabited α] (F : α → List β) (l : List α) {i : Nat} (h : i < l.length) : zqG F l (i + 1) = zqG F l i ++ F (nth l i) := by
 unfold zqG
 rw [List.take_add_one, List.getElem?_eq_getElem h, zaA _ _ h, Option.toList_some, List.flatMap_append]
 simp
theorem zoL {α β : Type} (F : α → List β) (l : List α) : zqG F l 0 = [] := by simp [zqG]
theorem zi7 {α β : Type} (F : α → List β) (l : List α) : zqG F l l.length = l.flatMap F := by simp [zqG]
theorem znf {α β : Type} (F : α → List β) (l : List α) (i : Nat) : (zqG F l i).length ≤ (l.flatMap F).length := by
 unfold zqG
 conv => rhs; rw [← List.take_append_drop i l]
 rw [List.flatMap_append, List.length_append]
 omega
theorem ztB (l : List (List (Int × Int))) (hl : l.length ≤ 1048576) (f : FuncId) (caps : List AV) (F : List (Int × Int) → List zaK) (hF : ∀ x ∈ l, zaJ Tryz.prog f (zaq x :: caps) (zbm (F x))) (hb : ∀ c ∈ caps, Bel 0 c)
  (hn : (l.flatMap F).length ≤ 8589934592) : zaJ Tryz.prog 138 [.lst 1 (l.map fun p => [zaq p]), .fn (.func f) [] caps] (zbm (l.flatMap F)) := by
 refine pF Tryz.func138 ?_
 rw [← zi7 F l] at hn ⊢
 repeat first|refine wV fun _=>?_|simp [go_sem]
 refine zBh (zBk (α := Nat) (fun i => ⟨[(1, .fn (.func f) [] caps), (5, .sl 0 i 2 0 (zqG F l i).length), (8, .lst 1 (l.map fun p => [zaq p])), (9, .v (.int .i64 l.length)), (10, .v (.int .i64 i))], [(0, .rows true i 2 ((zqG F l i).map zaw))], 1⟩)
  (fun d i => i + d = l.length) ?_ l.length 0 ?_) ?_ ?_
 ·rintro d i i1 hrec
  have hni := znf F l i
  repeat first|refine wV fun _=>?_|simp [go_sem]
  refine zBj (fun hi => ?_) (fun hi => ?_) <;> simp at hi
  ·have hs := zoK F l hi
   have hns := znf F l (i + 1)
   rw [hs, List.length_append] at hns
   rw [zi7] at hn
   repeat first|refine wV fun _=>?_|simp [go_sem, hi]
   refine zBi (hF _ (zah hi)) (by simp [go_sem]; exact hb) ?_
   repeat first|refine wV fun _=>?_|simp [go_sem, hi]
   refine zBh (hrec (d - 1) (by omega) (i + 1) (by omega)) ?_ (by simp)
   simp [go_sem, zaf, hs]
   exact fun c hc => (hb c hc).mono (Nat.zero_le _)
  ·have hil : i = l.length := by omega
   subst hil
   generalize zqG F l l.length = R at *
   repeat first|refine wV fun _=>?_|simp [go_sem]
   (first|done|exact leX)
 ·simp
 ·simp [go_sem, zaf, zoL]
  exact fun c hc => (hb c hc).mono (Nat.zero_le _)
 ·simp
theorem ztA (l : List zaK) (hl : l.length ≤ 1073741824) (f : FuncId) (caps : List AV) (F : zaK → List zaK) (hF : ∀ x ∈ l, zaJ Tryz.prog f (.agg (zaw x) :: caps) (zbm (F x))) (hb : ∀ c ∈ caps, Bel 0 c)
  (hn : (l.flatMap F).length ≤ 8589934592) : zaJ Tryz.prog 192 [zbm l, .fn (.func f) [] caps] (zbm (l.flatMap F)) := by
 refine pF Tryz.func192 ?_
 rw [← zi7 F l] at hn ⊢
 repeat first|refine wV fun _=>?_|simp [go_sem]
 refine zBh (zBk (α := Nat) (fun i => ⟨[(1, .fn (.func f) [] caps), (5, .sl 0 i 2 0 (zqG F l i).length), (8, zbm l), (9, .v (.int .i64 l.length)), (10, .v (.int .i64 i))], [(0, .rows true i 2 ((zqG F l i).map zaw))], 1⟩)
  (fun d i => i + d = l.length) ?_ l.length 0 ?_) ?_ ?_
 ·rintro d i i1 hrec
  have hni := znf F l i
  repeat first|refine wV fun _=>?_|simp [go_sem]
  refine zBj (fun hi => ?_) (fun hi => ?_) <;> simp at hi
  ·have hs := zoK F l hi
   have hns := znf F l (i + 1)
   rw [hs, List.length_append] at hns
   rw [zi7] at hn
   repeat first|refine wV fun _=>?_|simp [go_sem, hi]
   refine zBi (hF _ (zah hi)) (by simp [go_sem]; exact hb) ?_
   repeat first|refine wV fun _=>?_|simp [go_sem, hi]
   refine zBh (hrec (d - 1) (by omega) (i + 1) (by omega)) ?_ (by simp)
   simp [go_sem, zaf, hs]
   exact fun c hc => (hb c hc).mono (Nat.zero_le _)
  ·have hil : i = l.length := by omega
   subst hil
   generalize zqG F l l.length = R at *
   repeat first|refine wV fun _=>?_|simp [go_sem]
   (first|done|exact leX)
 ·simp
 ·simp [go_sem, zaf, zoL]
  exact fun c hc => (hb c hc).mono (Nat.zero_le _)
 ·simp
theorem zrd (b : zaD) (hb : zaR b) (h9 : b.cells ≤ 9) (side : Int) (p : zaK) (hp : p.acts.length ≤ 1000000) (x : Int × Int) :
  zaJ Tryz.prog 193 [.agg (zaw p), .fp (zcv b), .fp [.v (.int .i64 side)], .fp [.v (.int .i64 x.1), .v (.int .i64 x.2)]] (zbm (zkW b side p x)) := by
 refine pF Tryz.func193 ?_
 have hE := zqE b hb h9 side p hp x
 generalize zkW b side p x = R at *
 repeat first|refine wV fun _=>?_|simp [go_sem]
 refine zBi hE (by simp [go_sem]) ?_
 repeat first|refine wV fun _=>?_|simp [go_sem]
def zdf (b : zaD) (side : Int) (prog : List (Int × Int)) (cell : Int) (i : Nat) : List zaK := zbu b side (prog.take i) cell
theorem zgP (b : zaD) (side : Int) (prog : List (Int × Int)) (cell : Int) {i : Nat} (h : i < prog.length) : zdf b side prog cell (i + 1) = (zdf b side prog cell i).flatMap fun w => zkW b side w (nth prog i) := by
 unfold zdf zbu
 rw [List.take_add_one, List.getElem?_eq_getElem h, zaA _ _ h, Option.toList_some, List.foldl_append]
 rfl
theorem zeV {b : zaD} (hb : zaR b) (h9 : b.cells ≤ 9) (side : Int) (prog : List (Int × Int)) (cell : Int) : ∀ i, i ≤ prog.length → zio (10 * i) (zdf b side prog cell i)
 | 0, _ => by
  intro w hw
  simp [zdf, zbu] at hw
  subst hw
  simp
 | i + 1, h => by
  rw [zgP b side prog cell (by omega)]
  exact zup hb h9 side (zeV hb h9 side prog cell i (by omega)) _
theorem zif {b : zaD} (hb : zaR b) (h1 : 1 ≤ b.cells) (h9 : b.cells ≤ 9) (side : Int) (prog : List (Int × Int)) (hp : prog.length ≤ 8) (cell : Int) (i : Nat) : (zdf b side prog cell i).length ≤ 43046721 := by
 have h := zmg hb h1 side (prog.take i) cell
 have hc : zat (prog.take i) 2 ≤ 8 := by
  unfold zat
  have := List.countP_le_length (p := fun x : Int × Int => x.1 == 2) (l := prog.take i)
  simp at this
  omega
 have h2 : b.cells.toNat ^ zat (prog.take i) 2 ≤ 9 ^ zat (prog.take i) 2 := Nat.pow_le_pow_left (by omega) _
 have h3 : 9 ^ zat (prog.take i) 2 ≤ 9 ^ 8 := Nat.pow_le_pow_right (by omega) hc
 unfold zdf
 omega
theorem zt7 (b : zaD) (hb : zaR b) (h1 : 1 ≤ b.cells) (h9 : b.cells ≤ 9) (side : Int) (prog : List (Int × Int)) (hp : prog.length ≤ 8) (cell : Int) :
  zaJ Tryz.prog 140 [.agg (zcv b), .v (.int .i64 side), zaq prog, .v (.int .i64 cell)] (zbm (zbu b side prog cell)) := by
 refine pF Tryz.func140 ?_
 have hR : zbu b side prog cell = zdf b side prog cell prog.length := by unfold zdf; rw [List.take_length]
 have hl := zif hb h1 h9 side prog hp cell
 have ha := zeV hb h9 side prog cell
 have hs := fun (i : Nat) (h : i < prog.length) => zgP b side prog cell h
 have h0 : zdf b side prog cell 0 = [⟨[], cell⟩] := rfl
 rw [hR]
 have hP := fun w hw x => zrd b hb h9 side w hw x
 generalize zdf b side prog cell = K at *
 generalize hXb : zkW b side = E at *
 have hbl : ∀ n, (∀ c' ∈ zcv b, Bel n c') = True := fun n => by simp [go_sem]
 have hel : (zcv b).length = 3 := rfl
 have hte : (zcv b).take 3 = zcv b := rfl
 obtain ⟨eb, heb⟩ : ∃ eb, eb = zcv b := ⟨_, rfl⟩
 rw [← heb] at hbl hel hte ⊢
 have hP' : ∀ w : zaK, w.acts.length ≤ 1000000 → ∀ x : Int × Int, zaJ Tryz.prog 193 [.agg (zaw w), .fp eb, .fp [.v (.int .i64 side)], .fp [.v (.int .i64 x.1), .v (.int .i64 x.2)]] (zbm (E w x)) := fun w hw x => by rw [heb]; exact hP w hw x
 clear hP
 repeat first|refine wV fun _=>?_|simp [go_sem, hel, hte]
 refine zBh (zBk (α := Nat) (fun i => ⟨[(4, .ref 0 0 3 0 0), (5, .ref 1 0 1 0 0), (9, zbm (K i)), (15, zaq prog), (16, .v (.int .i64 prog.length)), (17, .v (.int .i64 i))], [(0, .rows false 0 3 [eb]), (1, .rows false 0 1 [[.v (.int .i64 side)]])], 2⟩)
  (fun d i => i + d = prog.length) ?_ prog.length 0 ?_) ?_ ?_
 ·rintro d i i1 hrec
  have hli := hl i
  repeat first|refine wV fun _=>?_|simp [go_sem, hel, hte]
  refine zBj (fun hi => ?_) (fun hi => ?_) <;> simp at hi
  ·have hsi := hs i hi
   have hls := hl (i + 1)
   have hai := ha i (by omega)
   repeat first|refine wV fun _=>?_|simp [go_sem, hel, hte, hi]
   refine zBp [2] (ztA (K i) (by omega) 193 [.fp eb, .fp [.v (.int .i64 side)], .fp [.v (.int .i64 (nth prog i).1), .v (.int .i64 (nth prog i).2)]] (fun w => E w (nth prog i)) (fun w hw => hP' w (by have := hai w hw; omega) _) (by simp [go_sem, hbl]) (by rw [← hsi]; omega)) ?_ (by simp [go_sem, hbl]) ?_
   ·(first|done|exact leX)
   ·rw [← hsi]
    repeat first|refine wV fun _=>?_|simp [go_sem, hel, hte]
    refine zBh (hrec (d - 1) (by omega) (i + 1) (by omega)) ?_ (by simp)
    simp [go_sem, zaf, hbl]
  ·have hil : i = prog.length := by omega
   subst hil
   generalize K prog.length = R at *
   repeat first|refine wV fun _=>?_|simp [go_sem]
 ·simp
 ·simp [go_sem, zaf, h0, hbl]
  (first|done|exact leX)
 ·simp
theorem zm3 (g : zac) (hg : GOk g) (side : Int) (cell : Int) (prog : List (Int × Int)) (hp : prog.length ≤ 8) :
    zaJ Tryz.prog 139 [zaq prog, .fp (zad g), .fp [.v (.int .i64 side)], .fp [.v (.int .i64 cell)]] (zbm (zbu g.board side prog cell)) := by
  refine pF Tryz.func139 ?_
  have hP := zt7 g.board hg.board hg.c1 hg.c9 side prog hp cell
  generalize zbu g.board side prog cell = R at *
  rw [show zcv g.board = [.v (.int .i64 g.cells), za1 g.next, zaj g.turn] from rfl] at hP
  repeat first|refine wV fun _=>?_|simp [go_sem]
  refine zBi hP (by simp [go_sem]) ?_
  repeat first|refine wV fun _=>?_|simp [go_sem]
def zh1 (f : Nat → List AV) (z : List AV) (n c : Nat) : List (List AV) := (List.range n).map fun i => if i < c then f i else z
theorem zoF (f : Nat → List AV) (z : List AV) (n c : Nat) : (zh1 f z n c).length = n := by simp [zh1]
theorem zlN (f : Nat → List AV) (z : List AV) (n : Nat) : List.replicate n z = zh1 f z n 0 := by
  unfold zh1
  refine List.ext_getElem (by simp) fun i h1 h2 => ?_
  simp
theorem zoG (f : Nat → List AV) (z : List AV) (n c : Nat) : (zh1 f z n c).set c (f c) = zh1 f z n (c + 1) := by
  unfold zh1
  refine List.ext_getElem (by simp) fun i h1 h2 => ?_
  simp only [List.getElem_set, List.getElem_map, List.getElem_range]
  by_cases h : c = i
  · subst h; simp
  · rw [if_neg h]
    by_cases hi : i < c
    · rw [if_pos hi, if_pos (by omega)]
    · rw [if_neg hi, if_neg (by omega)]
theorem zoE (f : Nat → List AV) (z : List AV) (n : Nat) : zh1 f z n n = (List.range n).map f := by
  unfold zh1
  refine List.map_congr_left fun i hi => ?_
  rw [if_pos (List.mem_range.1 hi)]
theorem zhf {f : Nat → List AV} {z : List AV} {n c m : Nat} (hf : ∀ i, ∀ x ∈ f i, Bel m x) (hz : ∀ x ∈ z, Bel m x) : ∀ r ∈ zh1 f z n c, ∀ x ∈ r, Bel m x := by
  intro r hr x hx
  unfold zh1 at hr
  obtain ⟨i, _, rfl⟩ := List.mem_map.1 hr
  split at hx
  · exact hf i x hx
  · exact hz x hx
theorem zrX (h : zan) (o : Nat) (x : Option zbi) : zbB (upd h o x) [o] = upd h o (zb5 x) := by
  funext a
  unfold zbB upd
  by_cases e : a = o
  · subst e; simp
  · simp [e]
def zik (g : zac) (side : Int) (j : Nat) : List (List (List zaK)) := (g.kinds.take j).map fun k => zdo g.board side k.progs
theorem zmp (g : zac) (side : Int) {j : Nat} (h : j < g.kinds.length) : zik g side (j + 1) = zik g side j ++ [zdo g.board side (nth g.kinds j).progs] := by
  unfold zik
  rw [List.take_add_one, List.getElem?_eq_getElem h, zaA _ _ h, Option.toList_some, List.map_append]
  rfl
theorem zpu (g : zac) (side : Int) : zik g side g.kinds.length = zce g side := by unfold zik zce; rw [List.take_length]
theorem zmq (g : zac) (side : Int) : zik g side 0 = [] := by simp [zik]
theorem zkG (g : zac) (side : Int) {j : Nat} (h : j ≤ g.kinds.length) : (zik g side j).length = j := by simp [zik]; omega
theorem zhn {g : zac} (hg : GOk g) (side : Int) {k : zc6} (hk : k ∈ g.kinds) (cell : Int) : (zeQ g.board side k.progs cell).length ≤ 8589934592 := by
  have h := zh2 (fun p => zbu g.board side p cell) 43046721 k.progs (fun p hp => by
    have := zif hg.board hg.c1 hg.c9 side p (hg.pr k hk p hp).len cell p.length
    unfold zdf at this
    rwa [List.take_length] at this)
  have := hg.pn k hk
  have h2 : k.progs.length * 43046721 ≤ 8 * 43046721 := Nat.mul_le_mul_right _ this
  unfold zeQ
  omega
theorem zlX {g : zac} (hg : GOk g) (s : Int) {k : zc6} (hk : k ∈ g.kinds) (c : Int) : zio 1048576 (zeQ g.board s k.progs c) := by
  intro w hw
  obtain ⟨p, hp, hw⟩ := List.mem_flatMap.1 hw
  have := zeV hg.board hg.c9 s p c p.length (Nat.le_refl _) w (by unfold zdf; rwa [List.take_length])
  have := (hg.pr k hk p hp).len
  omega
theorem znO (g : zac) (hg : GOk g) : zaJ Tryz.prog 76 [.agg (zad g)] (.agg (zcX (zdj g))) := by
  refine pF Tryz.func76 ?_
  have hc9 := hg.c9
  have hc1 := hg.c1
  have hk6 := hg.k6
  have hF := fun (s : Int) (c : Int) (k : zc6) (hk : k ∈ g.kinds) => ztB k.progs (by have := hg.pn k hk; omega) 139 [.fp (zad g), .fp [.v (.int .i64 s)], .fp [.v (.int .i64 c)]] (fun p => zbu g.board s p c)
    (fun p hp => zm3 g hg s c p (hg.pr k hk p hp).len) (by simp [go_sem]) (zhn hg s hk c)
  have hkb : ∀ (s : Int) (k : zc6) (c : Nat), c < g.cells.toNat → True := fun _ _ _ _ => trivial
  have hR : zcX (zdj g) = [zaC (zce g 0), zaC (zce g 1)] := rfl
  rw [hR]
  clear hR
  have hsk := fun (s : Int) (j : Nat) (h : j < g.kinds.length) => zmp g s h
  have hsa := fun s => zpu g s
  have hsz := fun s => zmq g s
  have hsl := fun (s : Int) (j : Nat) (h : j ≤ g.kinds.length) => zkG g s h
  obtain ⟨C, hC⟩ : ∃ C : Nat, g.cells = C := ⟨g.cells.toNat, by omega⟩
  have hcells : ∀ (s : Int) (j : Nat), zdo g.board s (nth g.kinds j).progs = (List.range C).map fun (c : Nat) => zeQ g.board s (nth g.kinds j).progs c := fun s j => by
    unfold zdo
    rw [show g.board.cells.toNat = C by have : g.board.cells = g.cells := rfl; omega]
  generalize zik g = K at *
  have heg : zad g = [.v (.int .i64 (C : Int)), za1 g.next, zaj g.turn, .lst 3 (g.kinds.map zay), .v (.int .i64 g.rights), .v (.bool g.must), .lst 4 (g.clauses.map zaz), .v (.int .i64 g.blocked), .v (.int .i64 g.endless)] := by rw [← hC]; rfl
  rw [heg] at hF
  have hbl : ∀ n, (∀ c' ∈ zad g, Bel n c') = True := fun n => by simp [go_sem]
  have hel : (zad g).length = 9 := rfl
  repeat first|refine wV fun _=>?_|simp [go_sem, hel]
  refine zBh (zBk (α := Nat) (fun s => ⟨[(1, .ref 0 0 9 0 0), (2, .ref 1 0 2 0 0), (3, .ref 2 0 2 0 0), (9, .v (.int .i64 s))],
      [(0, .rows false 0 9 [zad g]), (1, .rows true 0 2 [[AV.v (.slice none 0 0), AV.v (.slice none 0 0)]]), (2, .rows true 0 2 [[if s = 0 then AV.v (.slice none 0 0) else zaC (zce g 0), if s < 2 then AV.v (.slice none 0 0) else zaC (zce g 1)]])], 3⟩)
    (fun d s => s + d = 2) ?_ 2 0 ?_) ?_ ?_
  · rintro d0 s s1 hrec
    rcases (show s = 0 ∨ s = 1 ∨ s = 2 by omega) with rfl | rfl | rfl
    · have hFs := hF 0
      have hsk := hsk 0
      have hsa := hsa 0
      have hsz := hsz 0
      have hsl := hsl 0
      have hcells := hcells 0
      repeat first|refine wV fun _=>?_|simp [go_sem, hel, hC]
      refine zBh (zBk (α := Nat) (fun j => ⟨[(1, .ref 0 0 9 0 0), (2, .ref 1 0 2 0 0), (3, .ref 2 0 2 0 0), (4, .ref 3 0 1 0 0), (9, .v (.int .i64 0)), (13, .lst 3 (g.kinds.map zay)), (14, .v (.int .i64 g.kinds.length)), (15, .v (.int .i64 j))],
          [(0, .rows false 0 9 [zad g]), (1, .rows true 0 2 [[AV.v (.slice none 0 0), AV.v (.slice none 0 0)]]), (2, .rows true 0 2 [[.sl 4 j 1 0 j, AV.v (.slice none 0 0)]]), (3, .rows false 0 1 [[.v (.int .i64 0)]]), (4, .rows true j 1 ((K 0 j).map fun x => [zbA x]))], 5⟩)
        (fun d j => j + d = g.kinds.length) ?_ g.kinds.length 0 ?_) ?_ ?_
      · rintro d j j1 hrec2
        have hlj := hsl j (by omega)
        repeat first|refine wV fun _=>?_|simp [go_sem, hel, hC, hlj]
        refine zBj (fun hj => ?_) (fun hj => ?_) <;> simp at hj
        · have hkm := zah hj
          have hpn := hg.pn _ hkm
          have hFk := fun (c : Nat) => hFs c _ hkm
          have hsj := hsk j hj
          have hcj := hcells j
          have hlj1 := hsl (j + 1) (by omega)
          have hkp : ∀ c : Int, (nth g.kinds j).progs.flatMap (fun p => zbu g.board 0 p c) = zeQ g.board 0 (nth g.kinds j).progs c := fun c => rfl
          simp only [hkp] at hFk
          generalize zeQ g.board 0 (nth g.kinds j).progs = KP at *
          repeat first|refine wV fun _=>?_|simp [go_sem, hel, hC, hj]
          rw [zlN (fun (i : Nat) => [.lst 2 ((KP i).map zaw)])]
          refine zBh (zBk (α := Nat) (fun c => ⟨[(1, .ref 0 0 9 0 0), (2, .ref 1 0 2 0 0), (3, .ref 2 0 2 0 0), (4, .ref 3 0 1 0 0), (6, .ref 5 0 3 0 0), (7, .sl 6 0 1 0 C), (9, .v (.int .i64 0)), (13, .lst 3 (g.kinds.map zay)), (14, .v (.int .i64 g.kinds.length)), (15, .v (.int .i64 j)), (24, .v (.int .i64 C)), (25, .v (.int .i64 c))],
              [(0, .rows false 0 9 [zad g]), (1, .rows true 0 2 [[AV.v (.slice none 0 0), AV.v (.slice none 0 0)]]), (2, .rows true 0 2 [[.sl 4 j 1 0 j, AV.v (.slice none 0 0)]]), (3, .rows false 0 1 [[.v (.int .i64 0)]]), (4, .rows true j 1 ((K 0 j).map fun x => [zbA x])),
               (5, .rows true 0 3 [zay (nth g.kinds j)]), (6, .rows true 0 1 (zh1 (fun (i : Nat) => [.lst 2 ((KP i).map zaw)]) [AV.v (.slice none 0 0)] C c))], 7⟩)
            (fun d c => c + d = C) ?_ C 0 ?_) ?_ ?_
          · rintro d2 c c1' hrec3
            have hfl := zoF (fun (i : Nat) => [.lst 2 ((KP i).map zaw)]) [AV.v (.slice none 0 0)] C c
            have hfs := zoG (fun (i : Nat) => [.lst 2 ((KP i).map zaw)]) [AV.v (.slice none 0 0)] C c
            repeat first|refine wV fun _=>?_|simp [go_sem, hel, hC, hlj, hfl]
            refine zBj (fun hc => ?_) (fun hc => ?_) <;> simp at hc
            · (repeat (first|with_reducible (first|refine wL fun _=>?_|refine wD fun _=>?_|refine wE ?_)|simp [go_sem, hel, hC, hj, hfl]))
              refine zsP.frz (zbB _ [7]) (zc5 _ _) ?_
              simp only [zrX]
              repeat first|refine wV fun _=>?_|simp [go_sem, hel, hC, hj, hfl]
              refine zaQ.frz [.lst 1 ((nth g.kinds j).progs.map fun p => [zaq p]), _] _ [0, 3, 7] [] (hFk c) (by simp) ?_ (by simp [go_sem]) ?_
              · intro h₁ hS
                have h0 := hS 0 (by simp)
                have h3 := hS 3 (by simp)
                have h7 := hS 7 (by simp)
                simp [upd, zbB, zb5] at h0 h3 h7
                refine .cons (.refl _) (.cons (.fn .nil (.cons (.frzP h0.symm (by simp) (by simp) (by simp [zai, upd, ← h0]) (.refl _ _ _ _)) (.cons (.frzP h3.symm (by simp) (by simp) (by simp [zai, upd, ← h3]) (.refl _ _ _ _)) (.cons (.frzP h7.symm (by simp) (by simp) (by simp [zai, upd, ← h7]) (.refl _ _ _ _)) .nil)))) .nil)
              · (repeat (first|refine wV fun _=>?_|simp [go_sem, hel, hC, hj, hfl]))
                refine zBh (hrec3 (d2 - 1) (by omega) (c + 1) (by omega)) ?_ (by simp)
                simp [go_sem, zaf, hfs, hC]
                exact zhf (fun i x hx => by simp only [List.mem_singleton] at hx; subst hx; exact of_eq_true zhN) (fun x hx => by simp only [List.mem_singleton] at hx; subst hx; exact .v _)
            · have hcC : c = C := by omega
              subst hcC
              rw [zoE]
              repeat first|refine wV fun _=>?_|simp [go_sem, hel, hC, hj]
              refine zBh (hrec2 (d - 1) (by omega) (j + 1) (by omega)) ?_ (by simp)
              simp [go_sem, zaf, hsj, hcj, hC]
              (first|done|exact leX)
          · simp
          · simp [go_sem, zaf, hC]
            exact zhf (fun i x hx => by simp only [List.mem_singleton] at hx; subst hx; exact of_eq_true zhN) (fun x hx => by simp only [List.mem_singleton] at hx; subst hx; exact .v _)
          · simp
        · have hjl : j = g.kinds.length := by omega
          subst hjl
          rw [hsa]
          repeat first|refine wV fun _=>?_|simp [go_sem, hel, hC]
          refine zBh (hrec (d0 - 1) (by omega) (1) (by omega)) ?_ (by simp)
          have hsl' : (zce g 0).length = g.kinds.length := by simp [zce]
          simp [go_sem, zaf, hC]
          ((try simp only [zaq, zaE, zbt, zcG, zaw, zbm, zaM, zar, zag, zdC, zbz, zaV, zaj, zad, List.map_cons, List.map_nil, List.nil_append, List.append_nil, List.cons_append]); (repeat (first | (with_reducible first|exact zam.nil|exact zak.nil|exact LeV.refl _|exact zam.refl _ _ _ _|exact zak.refl _|refine zam.cons ?_ ?_|refine zak.cons ?_ ?_|refine LeV.agg ?_|refine LeV.tup ?_|refine LeV.fn ?_ ?_|exact LeV.nil _|refine zao (zak.refl _) ?_) | ((refine zaL rfl (by simp [hsl']) (by simp [zbB, zb5, upd, noH]) ?_); (first | (simp [go_sem, hsl']; done) | (simp [go_sem, hsl']; exact List.take_of_length_le (by simp [hsl'])))) | ((refine LeV.frz rfl (by simp [hsl']) (by simp [zbB, zb5, upd, noH]) ?_); (simp only [List.drop_zero, List.take_succ_cons, List.take_zero, List.map_cons, List.map_nil])) | ((refine LeV.frzP rfl (by simp [hsl']) (by simp) (by simp [zbB, zb5, upd, noH]) ?_); (simp only [zbe, List.drop_zero])))))
      · simp
      · simp [go_sem, zaf, hsz, hC]
      · simp
    · have hFs := hF 1
      have hsk := hsk 1
      have hsa := hsa 1
      have hsz := hsz 1
      have hsl := hsl 1
      have hcells := hcells 1
      repeat first|refine wV fun _=>?_|simp [go_sem, hel, hC]
      refine zBh (zBk (α := Nat) (fun j => ⟨[(1, .ref 0 0 9 0 0), (2, .ref 1 0 2 0 0), (3, .ref 2 0 2 0 0), (4, .ref 3 0 1 0 0), (9, .v (.int .i64 1)), (13, .lst 3 (g.kinds.map zay)), (14, .v (.int .i64 g.kinds.length)), (15, .v (.int .i64 j))],
          [(0, .rows false 0 9 [zad g]), (1, .rows true 0 2 [[AV.v (.slice none 0 0), AV.v (.slice none 0 0)]]), (2, .rows true 0 2 [[zaC (zce g 0), .sl 4 j 1 0 j]]), (3, .rows false 0 1 [[.v (.int .i64 1)]]), (4, .rows true j 1 ((K 1 j).map fun x => [zbA x]))], 5⟩)
        (fun d j => j + d = g.kinds.length) ?_ g.kinds.length 0 ?_) ?_ ?_
      · rintro d j j1 hrec2
        have hlj := hsl j (by omega)
        repeat first|refine wV fun _=>?_|simp [go_sem, hel, hC, hlj]
        refine zBj (fun hj => ?_) (fun hj => ?_) <;> simp at hj
        · have hkm := zah hj
          have hpn := hg.pn _ hkm
          have hFk := fun (c : Nat) => hFs c _ hkm
          have hsj := hsk j hj
          have hcj := hcells j
          have hlj1 := hsl (j + 1) (by omega)
          have hkp : ∀ c : Int, (nth g.kinds j).progs.flatMap (fun p => zbu g.board 1 p c) = zeQ g.board 1 (nth g.kinds j).progs c := fun c => rfl
          simp only [hkp] at hFk
          generalize zeQ g.board 1 (nth g.kinds j).progs = KP at *
          repeat first|refine wV fun _=>?_|simp [go_sem, hel, hC, hj]
          rw [zlN (fun (i : Nat) => [.lst 2 ((KP i).map zaw)])]
          refine zBh (zBk (α := Nat) (fun c => ⟨[(1, .ref 0 0 9 0 0), (2, .ref 1 0 2 0 0), (3, .ref 2 0 2 0 0), (4, .ref 3 0 1 0 0), (6, .ref 5 0 3 0 0), (7, .sl 6 0 1 0 C), (9, .v (.int .i64 1)), (13, .lst 3 (g.kinds.map zay)), (14, .v (.int .i64 g.kinds.length)), (15, .v (.int .i64 j)), (24, .v (.int .i64 C)), (25, .v (.int .i64 c))],
              [(0, .rows false 0 9 [zad g]), (1, .rows true 0 2 [[AV.v (.slice none 0 0), AV.v (.slice none 0 0)]]), (2, .rows true 0 2 [[zaC (zce g 0), .sl 4 j 1 0 j]]), (3, .rows false 0 1 [[.v (.int .i64 1)]]), (4, .rows true j 1 ((K 1 j).map fun x => [zbA x])),
               (5, .rows true 0 3 [zay (nth g.kinds j)]), (6, .rows true 0 1 (zh1 (fun (i : Nat) => [.lst 2 ((KP i).map zaw)]) [AV.v (.slice none 0 0)] C c))], 7⟩)
            (fun d c => c + d = C) ?_ C 0 ?_) ?_ ?_
          · rintro d2 c c1' hrec3
            have hfl := zoF (fun (i : Nat) => [.lst 2 ((KP i).map zaw)]) [AV.v (.slice none 0 0)] C c
            have hfs := zoG (fun (i : Nat) => [.lst 2 ((KP i).map zaw)]) [AV.v (.slice none 0 0)] C c
            repeat first|refine wV fun _=>?_|simp [go_sem, hel, hC, hlj, hfl]
            refine zBj (fun hc => ?_) (fun hc => ?_) <;> simp at hc
            · (repeat (first|with_reducible (first|refine wL fun _=>?_|refine wD fun _=>?_|refine wE ?_)|simp [go_sem, hel, hC, hj, hfl]))
              refine zsP.frz (zbB _ [7]) (zc5 _ _) ?_
              simp only [zrX]
              repeat first|refine wV fun _=>?_|simp [go_sem, hel, hC, hj, hfl]
              refine zaQ.frz [.lst 1 ((nth g.kinds j).progs.map fun p => [zaq p]), _] _ [0, 3, 7] [] (hFk c) (by simp) ?_ (by simp [go_sem]) ?_
              · intro h₁ hS
                have h0 := hS 0 (by simp)
                have h3 := hS 3 (by simp)
                have h7 := hS 7 (by simp)
                simp [upd, zbB, zb5] at h0 h3 h7
                refine .cons (.refl _) (.cons (.fn .nil (.cons (.frzP h0.symm (by simp) (by simp) (by simp [zai, upd, ← h0]) (.refl _ _ _ _)) (.cons (.frzP h3.symm (by simp) (by simp) (by simp [zai, upd, ← h3]) (.refl _ _ _ _)) (.cons (.frzP h7.symm (by simp) (by simp) (by simp [zai, upd, ← h7]) (.refl _ _ _ _)) .nil)))) .nil)
              · (repeat (first|refine wV fun _=>?_|simp [go_sem, hel, hC, hj, hfl]))
                refine zBh (hrec3 (d2 - 1) (by omega) (c + 1) (by omega)) ?_ (by simp)
                simp [go_sem, zaf, hfs, hC]
                exact zhf (fun i x hx => by simp only [List.mem_singleton] at hx; subst hx; exact of_eq_true zhN) (fun x hx => by simp only [List.mem_singleton] at hx; subst hx; exact .v _)
            · have hcC : c = C := by omega
              subst hcC
              rw [zoE]
              repeat first|refine wV fun _=>?_|simp [go_sem, hel, hC, hj]
              refine zBh (hrec2 (d - 1) (by omega) (j + 1) (by omega)) ?_ (by simp)
              simp [go_sem, zaf, hsj, hcj, hC]
              (first|done|exact leX)
          · simp
          · simp [go_sem, zaf, hC]
            exact zhf (fun i x hx => by simp only [List.mem_singleton] at hx; subst hx; exact of_eq_true zhN) (fun x hx => by simp only [List.mem_singleton] at hx; subst hx; exact .v _)
          · simp
        · have hjl : j = g.kinds.length := by omega
          subst hjl
          rw [hsa]
          repeat first|refine wV fun _=>?_|simp [go_sem, hel, hC]
          refine zBh (hrec (d0 - 1) (by omega) (2) (by omega)) ?_ (by simp)
          have hsl' : (zce g 1).length = g.kinds.length := by simp [zce]
          simp [go_sem, zaf, hC]
          ((try simp only [zaq, zaE, zbt, zcG, zaw, zbm, zaM, zar, zag, zdC, zbz, zaV, zaj, zad, List.map_cons, List.map_nil, List.nil_append, List.append_nil, List.cons_append]); (repeat (first | (with_reducible first|exact zam.nil|exact zak.nil|exact LeV.refl _|exact zam.refl _ _ _ _|exact zak.refl _|refine zam.cons ?_ ?_|refine zak.cons ?_ ?_|refine LeV.agg ?_|refine LeV.tup ?_|refine LeV.fn ?_ ?_|exact LeV.nil _|refine zao (zak.refl _) ?_) | ((refine zaL rfl (by simp [hsl']) (by simp [zbB, zb5, upd, noH]) ?_); (first | (simp [go_sem, hsl']; done) | (simp [go_sem, hsl']; exact List.take_of_length_le (by simp [hsl'])))) | ((refine LeV.frz rfl (by simp [hsl']) (by simp [zbB, zb5, upd, noH]) ?_); (simp only [List.drop_zero, List.take_succ_cons, List.take_zero, List.map_cons, List.map_nil])) | ((refine LeV.frzP rfl (by simp [hsl']) (by simp) (by simp [zbB, zb5, upd, noH]) ?_); (simp only [zbe, List.drop_zero])))))
      · simp
      · simp [go_sem, zaf, hsz, hC]
      · simp
    · (repeat (first|refine wV fun _=>?_|simp [go_sem]))
  · simp
  · simp [go_sem, zaf]
  · simp
def zaO (of : List Int) (c : Nat) : List Int := ((List.range c).filter fun (c : Nat) => decide (nth of c = (c : Int))).map fun (c : Nat) => (c : Int)
theorem zq0 (of : List Int) (c : Nat) : zaO of (c + 1) = if nth of c = (c : Int) then zaO of c ++ [(c : Int)] else zaO of c := by
 unfold zaO
 rw [List.range_succ, List.filter_append]
 by_cases h : nth of c = (c : Int) <;> simp [h]
theorem zl8 (of : List Int) (c : Nat) : (zaO of c).length ≤ c := by
 unfold zaO
 rw [List.length_map]
 exact Nat.le_trans (List.length_filter_le _ _) (by simp)
theorem minE (a b : Int) : (if b < a then b else a) = min a b := by rw [Int.min_def]; split <;> split <;> omega
theorem maxE (a b : Int) : (if a < b then b else a) = max a b := by rw [Int.max_def]; split <;> split <;> omega
def zq6 (names : List Int) (L : Int) (p : Nat → Bool) : List Int := (List.range names.length).map fun j => if p j then L else nth names j
theorem zyU (names : List Int) (L : Int) (p : Nat → Bool) : (zq6 names L p).length = names.length := by simp [zq6]
theorem zmc {names : List Int} {L : Int} {p q : Nat → Bool} (h : ∀ j, j < names.length → p j = q j) : zq6 names L p = zq6 names L q := by
 unfold zq6
 refine List.map_congr_left fun j hj => ?_
 rw [h j (List.mem_range.1 hj)]
theorem zyV {names : List Int} {L : Int} {p q : Nat → Bool} {k : Nat} (hk : k < names.length) (h : ∀ j, j < names.length → q j = (p j || decide (j = k))) : zq6 names L q = (zq6 names L p).set k L := by
 refine List.ext_getElem (by simp [zq6]) fun j h1 h2 => ?_
 have hj : j < names.length := by simpa [zq6] using h1
 simp only [zq6, List.getElem_map, List.getElem_range, List.getElem_set, List.length_map, List.length_range]
 rw [h j hj]
 by_cases e : k = j
 ·subst e; simp
 ·rw [if_neg e]
  have : decide (j = k) = false := by simp; omega
  rw [this, Bool.or_false]
theorem zwM (names : List Int) (L : Int) : zq6 names L (fun _ => false) = names := by
 refine List.ext_getElem (by simp [zq6]) fun j h1 h2 => ?_
 simp [zq6, zaA _ _ h2]
theorem zkz (of : List Int) (hl : of.length ≤ 1048576) : zaJ Tryz.prog 68 [zaj of] (zaj (zaO of of.length)) := by
  refine pF Tryz.func68 ?_
  repeat first|refine wV fun _=>?_|simp [go_sem]
  refine zBh (zBk (α := Nat) (fun c => ⟨[(3, .sl 0 (zaO of c).length 1 0 (zaO of c).length), (6, zaj of), (7, .int of.length), (8, .v (.int .i64 c))], [(0, .rows true (zaO of c).length 1 ((zaO of c).map zbd))], 1⟩)
    (fun d c => c + d = of.length) ?_ of.length 0 ?_) ?_ ?_
  · rintro d c i1 hrec
    have hs := zq0 of c
    have hn := zl8 of c
    repeat first|refine wV fun _=>?_|simp [go_sem]
    refine zBj (fun hc => ?_) (fun hc => ?_) <;> simp at hc
    · (repeat (first|refine wV fun _=>?_|simp [go_sem, hc]))
      refine zBj (fun he => ?_) (fun he => ?_) <;> simp at he
      · rw [if_pos he.symm] at hs
        repeat first|refine wV fun _=>?_|simp [go_sem]
        refine zBh (hrec (d - 1) (by omega) (c + 1) (by omega)) ?_ (by simp)
        simp [go_sem, zaf, hs]
      · rw [if_neg (fun h => he h.symm)] at hs
        repeat first|refine wV fun _=>?_|simp [go_sem]
        refine zBh (hrec (d - 1) (by omega) (c + 1) (by omega)) ?_ (by simp)
        simp [go_sem, zaf, hs]
    · have hil : c = of.length := by omega
      subst hil
      repeat first|refine wV fun _=>?_|simp [go_sem]
      (first|done|exact leX)
  · simp
  · simp [go_sem, zaf, zaO]
  · simp
theorem zri (a : zed) : zaJ Tryz.prog 78 [.agg (zbt a)] (zaj (zbh a)) := by
  refine pF Tryz.func78 ?_
  obtain ⟨op, A, B⟩ := a
  simp only [zbh]
  by_cases h7 : op = 7
  · subst h7
    repeat first|refine wV fun _=>?_|simp [go_sem]
    (first|done|exact leX)
  · by_cases h3 : op = 3 ∨ op = 4 ∨ op = 5 ∨ op = 6
    · rw [if_pos h3]
      rcases h3 with rfl | rfl | rfl | rfl <;> (repeat (first|refine wV fun _=>?_|simp [go_sem])) <;> (first|done|exact leX)
    · rw [if_neg h3, if_neg h7]
      have a3 : ¬ op = 3 := fun e => h3 (.inl e)
      have a4 : ¬ op = 4 := fun e => h3 (.inr (.inl e))
      have a5 : ¬ op = 5 := fun e => h3 (.inr (.inr (.inl e)))
      have a6 : ¬ op = 6 := fun e => h3 (.inr (.inr (.inr e)))
      repeat first|refine wV fun _=>?_|simp [go_sem, h7, a3, a4, a5, a6]
      (first|done|exact leX)
def zeU (of at_ : List Int) (name : Int) (k : Nat) : List Int := (List.range k).map fun c => if nth of c = name then nth at_ c else 0
theorem zku (of at_ : List Int) (name : Int) (k : Nat) : (zeU of at_ name k).length = k := by simp [zeU]
def zoU (of at_ : List Int) (name : Int) (c : Nat) : List Int := zq6 at_ 0 (fun j => decide (j < c) && decide (nth of j ≠ name))
theorem zv9 (of at_ : List Int) (name : Int) (c : Nat) : (zoU of at_ name c).length = at_.length := zyU _ _ _
theorem ztF (of at_ : List Int) (name : Int) : zoU of at_ name 0 = at_ := (zmc fun j hj => by simp).trans (zwM at_ 0)
theorem ztE (of at_ : List Int) (name : Int) {c : Nat} (hc : c < at_.length) : zoU of at_ name (c + 1) = if nth of c = name then zoU of at_ name c else (zoU of at_ name c).set c 0 := by
  split
  · rename_i he
    refine zmc fun j hj => ?_
    by_cases hjc : j = c
    · subst hjc; simp [he]
    · have e1 : decide (j < c + 1) = decide (j < c) := by simp; omega
      rw [e1]
  · rename_i he
    refine zyV hc fun j hj => ?_
    by_cases hjc : j = c
    · subst hjc; simp [he]
    · have e1 : decide (j < c + 1) = decide (j < c) := by simp; omega
      have e2 : decide (j = c) = false := by simp [hjc]
      rw [e1, e2, Bool.or_false]
theorem zwV (of at_ : List Int) (name : Int) : zoU of at_ name at_.length = zeU of at_ name at_.length := by
  unfold zoU zq6 zeU
  refine List.map_congr_left fun j hj => ?_
  have hj' := List.mem_range.1 hj
  by_cases h : nth of j = name <;> simp [hj', h]
def za4 (of : List Int) (p : zal) (name : Int) : zal := { p with at_ := zeU of p.at_ name p.at_.length }
theorem zmh (of : List Int) (p : zal) (name : Int) (hof : of.length = p.at_.length) (hp : p.at_.length ≤ 1048576) :
    zaJ Tryz.prog 69 [zaj of, .agg (zag p), .v (.int .i64 name)] (.agg (zag (za4 of p name))) := by
  refine pF Tryz.func69 ?_
  unfold za4
  obtain ⟨at_, h0, h1, rt, sd⟩ := p
  simp only at hof hp ⊢
  rw [← zwV]
  repeat first|refine wV fun _=>?_|simp [go_sem]
  refine zBq (zfQ at_ (by unfold zfk; omega)) (by simp [go_sem]) ?_
  repeat first|refine wV fun _=>?_|simp [go_sem]
  refine zBh (zBk (α := Nat) (fun c => ⟨[(0, zaj of), (2, .v (.int .i64 name)), (4, .ref 0 0 5 0 0), (6, .ref 1 0 5 0 0), (14, .int at_.length), (15, .v (.int .i64 c))],
      [(0, .rows true 0 5 [[.sl 2 1 1 0 at_.length, zaj h0, zaj h1, .v (.int .i64 rt), .v (.int .i64 sd)]]), (1, .rows true 0 5 [[.v (.slice none 0 0), .v (.slice none 0 0), .v (.slice none 0 0), .v (.int .i64 0), .v (.int .i64 0)]]),
       (2, .rows true 1 1 ((zoU of at_ name c).map zbd))], 3⟩)
    (fun d c => c + d = at_.length) ?_ at_.length 0 ?_) ?_ ?_
  · rintro d c i1 hrec
    have hn := zv9 of at_ name c
    repeat first|refine wV fun _=>?_|simp [go_sem]
    refine zBj (fun hc => ?_) (fun hc => ?_) <;> simp at hc
    · have hc' : c < of.length := by omega
      have hs := ztE of at_ name hc
      repeat first|refine wV fun _=>?_|simp [go_sem, hc, hc', hn]
      refine zBj (fun he => ?_) (fun he => ?_) <;> simp at he
      · rw [if_neg he] at hs
        repeat first|refine wV fun _=>?_|simp [go_sem, hn, hc]
        refine zBh (hrec (d - 1) (by omega) (c + 1) (by omega)) ?_ (by simp)
        simp [go_sem, zaf, hs]
      · rw [if_pos he] at hs
        repeat first|refine wV fun _=>?_|simp [go_sem]
        refine zBh (hrec (d - 1) (by omega) (c + 1) (by omega)) ?_ (by simp)
        simp [go_sem, zaf, hs]
    · have hil : c = at_.length := by omega
      subst hil
      repeat first|refine wV fun _=>?_|simp [go_sem, hn]
      ((try simp only [zaq, zaE, zbt, zcG, zaw, zbm, zaM, zar, zag, zdC, zbz, zaV, zaj, zad, List.map_cons, List.map_nil, List.nil_append, List.append_nil, List.cons_append]); (repeat (first | (with_reducible first|exact zam.nil|exact zak.nil|exact LeV.refl _|exact zam.refl _ _ _ _|exact zak.refl _|refine zam.cons ?_ ?_|refine zak.cons ?_ ?_|refine LeV.agg ?_|refine LeV.tup ?_|refine LeV.fn ?_ ?_|exact LeV.nil _|refine zao (zak.refl _) ?_) | ((refine zaL rfl (by simp [hn]) (by simp [zbB, zb5, upd, noH]) ?_); (first | (simp [go_sem, hn]; done) | (simp [go_sem, hn]; exact List.take_of_length_le (by simp [hn])))) | ((refine LeV.frz rfl (by simp [hn]) (by simp [zbB, zb5, upd, noH]) ?_); (simp only [List.drop_zero, List.take_succ_cons, List.take_zero, List.map_cons, List.map_nil])) | ((refine LeV.frzP rfl (by simp [hn]) (by simp) (by simp [zbB, zb5, upd, noH]) ?_); (simp only [zbe, List.drop_zero])))))
  · simp
  · simp [go_sem, zaf, ztF]
  · simp
def zfc (p : List (Int × Int)) : Bool := p.all fun x => decide (x.1 ≠ 9) && decide (x.1 ≠ 10)
def zgs (k : zc6) : zc6 := ⟨k.name, k.progs.filter zfc, false⟩
def zcB (g : zac) : zac := ⟨g.cells, g.next, g.turn, g.kinds.map zgs, 0, false, [], 3, 2⟩
theorem zwZ {D K R : Int} {p : List (Int × Int)} (h : zgi D K R p) (hp : zfc p = true) : zgi D K 0 p := by
 refine ⟨h.ne, h.len, fun x hx => ?_, h.take, h.push, h.become⟩
 have hs := h.st x hx
 have := List.all_eq_true.1 hp x hx
 simp only [Bool.and_eq_true, decide_eq_true_eq] at this
 exact ⟨hs.op, hs.dir, hs.zero, hs.kind, fun h => by omega⟩
theorem zwY {g : zac} (hg : GOk g) : GOk (zcB g) := by
 have hkl : (zcB g).kinds.length = g.kinds.length := by simp [zcB]
 refine ⟨hg.board, hg.c1, hg.c9, hg.d1, hg.d8, hg.turn, by have := hg.k1; omega, by have := hg.k6; omega, fun k hk => ?_, fun k hk p hp => ?_, by simp [zcB], by simp [zcB], fun c hc => ?_, by simp [zcB], by simp [zcB], by simp [zcB]⟩
 ·obtain ⟨k', hk', rfl⟩ := List.mem_map.1 hk
  have := hg.pn k' hk'
  have := List.length_filter_le zfc k'.progs
  show (k'.progs.filter zfc).length ≤ 8
  omega
 ·obtain ⟨k', hk', rfl⟩ := List.mem_map.1 hk
  obtain ⟨h1, h2⟩ := List.mem_filter.1 hp
  rw [hkl]
  exact zwZ (hg.pr k' hk' p h1) h2
 ·simp [zcB] at hc
def zcH (g : zac) : Nat := (min g.cells 4).toNat
theorem znk {g : zac} (hg : GOk g) : 1 ≤ zcH g ∧ zcH g ≤ 4 ∧ (zcH g : Int) ≤ g.cells := by
 have := hg.c1
 unfold zcH
 omega
def bitW (w : Int) (c : Nat) : Bool := decide (zkU .u8 (w.fdiv (2 ^ ((c : Int).tmod 8).toNat)) 1 = 1)
def zhM (n : Nat) (w : Int) (l : List Int) (c : Nat) : Int :=
 let to := nth l (c % n)
 if (n : Int) ≤ to ∨ (bitW w c = true ∧ n ≤ c) then -1 else if 0 ≤ to ∧ n ≤ c then to + n else to
def ze8 (n : Nat) (w : Int) (l : List Int) (k : Nat) : List Int := (List.range k).map (zhM n w l)
theorem zly (n : Nat) (w : Int) (l : List Int) (k : Nat) : (ze8 n w l k).length = k := by simp [ze8]
theorem zqo (n : Nat) (w : Int) (l : List Int) (k : Nat) : ze8 n w l (k + 1) = ze8 n w l k ++ [zhM n w l k] := by simp [ze8, List.range_succ]
def zis (g : zac) (w : Int) : zaD := ⟨2 * (zcH g : Int), g.next.map fun l => ze8 (zcH g) w l (2 * zcH g), g.turn⟩
def zdz (g : zac) (w : Int) : zac := { zcB g with cells := 2 * (zcH g : Int), next := g.next.map fun l => ze8 (zcH g) w l (2 * zcH g) }
theorem zta {n : Nat} {w : Int} {l : List Int} {c : Nat} (hn : 1 ≤ n) (hc : c < 2 * n) (hl : -1 ≤ nth l (c % n)) : -1 ≤ zhM n w l c ∧ zhM n w l c < 2 * (n : Int) := by
 unfold zhM
 dsimp only
 split
 ·omega
 ·rename_i h
  split <;> omega
theorem zvl {g : zac} (hg : GOk g) (w : Int) : zaR (zis g w) := by
 obtain ⟨n1, n4, nc⟩ := znk hg
 have hb := hg.board
 have hd8 := hg.d8
 refine ⟨?_, fun t ht => ?_, fun l hl => ?_, fun l hl x hx => ?_, ?_, ?_, ?_⟩
 ·have := hb.tl
  simp only [zis, List.length_map]
  exact this
 ·have := hb.tv t ht
  simp only [zis, List.length_map]
  exact this
 ·obtain ⟨l', hl', rfl⟩ := List.mem_map.1 hl
  rw [zly]
  simp only [zis]
  omega
 ·obtain ⟨l', hl', rfl⟩ := List.mem_map.1 hl
  obtain ⟨c, hc, rfl⟩ := List.mem_map.1 hx
  have hc' := List.mem_range.1 hc
  have hlen : (l'.length : Int) = g.cells := hb.nl l' hl'
  have hm : c % zcH g < zcH g := Nat.mod_lt _ (by omega)
  have hv := hb.nv l' hl' _ (zah (l := l') (i := c % zcH g) (by omega))
  have := zta (w := w) n1 hc' hv.1
  simp only [zis]
  omega
 ·simp only [zis]; omega
 ·simp only [zis]; omega
 ·simp only [zis, List.length_map]; omega
theorem zjB {g : zac} (hg : GOk g) (w : Int) : GOk (zdz g w) := by
 have hp := zwY hg
 obtain ⟨n1, n4, nc⟩ := znk hg
 have hnl : (zdz g w).next.length = g.next.length := by simp [zdz]
 refine ⟨zvl hg w, by simp only [zdz]; omega, by simp only [zdz]; omega, by rw [hnl]; exact hg.d1, by rw [hnl]; exact hg.d8, hg.turn, hp.k1, hp.k6, hp.pn, fun k hk p hp' => ?_, hp.r0, hp.r4, fun c hc => ?_, hp.cn, hp.bl, hp.en⟩
 ·rw [hnl]; exact hp.pr k hk p hp'
 ·simp [zdz, zcB] at hc
structure zuK (of : List Int) : Prop where
 r : ∀ c, c < of.length → 0 ≤ nth of c ∧ nth of c ≤ c
 root : ∀ c, c < of.length → nth of (nth of c).toNat = nth of c
theorem zkq {n : Nat} (hn : n ≤ 64) {c : zga} (h1 : zgB n c.1) (h2 : zgB n c.2) : zuK (zca (zdI c) n) := by
 refine ⟨fun x hx => ?_, fun x hx => ?_⟩ <;> rw [show (zca (zdI c) n).length = n by simp [zca]] at hx <;> obtain ⟨a, b, d⟩ := zq1 hn h1 h2 (x := x) (by omega) (by omega) <;> rw [show ((x : Int)).toNat = x by omega] at *
 ·exact ⟨a, b⟩
 ·exact d
theorem ztU {of : List Int} {c : Int} {n : Nat} : c ∈ zaO of n ↔ 0 ≤ c ∧ c < n ∧ nth of c.toNat = c := by
 unfold zaO
 rw [List.mem_map]
 constructor
 ·rintro ⟨x, hx, rfl⟩
  obtain ⟨h1, h2⟩ := List.mem_filter.1 hx
  have := List.mem_range.1 h1
  refine ⟨by omega, by omega, by simpa using h2⟩
 ·rintro ⟨h0, h1, h2⟩
  refine ⟨c.toNat, List.mem_filter.2 ⟨List.mem_range.2 (by omega), ?_⟩, by omega⟩
  rw [h2]
  simp; omega
theorem zuK.mem {of : List Int} (h : zuK of) {c : Nat} (hc : c < of.length) : nth of c ∈ zaO of of.length := by
 have a := h.r c hc
 exact ztU.2 ⟨a.1, by omega, h.root c hc⟩
theorem zuK.pos {of : List Int} (h : zuK of) (hl : 1 ≤ of.length) : 1 ≤ (zaO of of.length).length := by
 have := h.mem (c := 0) (by omega)
 exact List.length_pos_of_mem this
theorem zbL {α : Type} [Inhabited α] (f : Nat → α) {n c : Nat} (h : c < n) : nth ((List.range n).map f) c = f c := by
 have hl : c < (List.range n).length := by simpa using h
 rw [zcb _ _ _ hl, zaA _ _ hl, List.getElem_range]
theorem za3 {α : Type} [Inhabited α] {a b : List α} (hl : a.length = b.length) (h : ∀ i, i < a.length → nth a i = nth b i) : a = b := by
 refine List.ext_getElem hl fun i h1 h2 => ?_
 have := h i h1
 rwa [zaA _ _ h1, zaA _ _ h2] at this
theorem zci {g : zac} {p : zal} (hp : POk g p) (of : List Int) (name : Int) : POk g (za4 of p name) := by
 refine ⟨?_, fun c hc => ?_, hp.h0, hp.h1, hp.r0, hp.r1, hp.s⟩
 ·show ((zeU of p.at_ name p.at_.length).length : Int) = g.cells
  rw [zku]; exact hp.al
 ·obtain ⟨i, hi, rfl⟩ := List.mem_map.1 hc
  split
  ·exact hp.av _ (zah (List.mem_range.1 hi))
  ·omega
def okJ (of : List Int) (l : List zal) (k : Nat) : Bool := (List.range k).all fun i => decide ((nth l i).side = (nth l 0).side) && decide (zcK (nth l i) (za4 of (nth l i) (nth (zaO of of.length) i)) = 0)
theorem zyT (of : List Int) (l : List zal) (k : Nat) : okJ of l (k + 1) = (okJ of l k && (decide ((nth l k).side = (nth l 0).side) && decide (zcK (nth l k) (za4 of (nth l k) (nth (zaO of of.length) k)) = 0))) := by
 unfold okJ; rw [List.range_succ, List.all_append]; simp
def zrs (l : List zal) : Nat → Nat → Int
 | 0, _ => 0
 | k + 1, c => zrs l k c + nth (nth l k).at_ c
def zdq (l : List zal) (n : Nat) : List Int := (List.range n).map (zrs l l.length)
def znp (l : List zal) (n : Nat) : zal := { nth l 0 with at_ := zdq l n }
def zaW (of : List Int) (p : zal) : List zal := (zaO of of.length).map (za4 of p)
structure zhJ (g : zac) (of : List Int) (l : List zal) (side : Int) : Prop where
 len : l.length = (zaO of of.length).length
 ok : ∀ p ∈ l, POk g p
 sd : ∀ p ∈ l, p.side = side
 part : ∀ i, i < l.length → nth l i = za4 of (nth l i) (nth (zaO of of.length) i)
theorem zhJ.okJ {g : zac} {of : List Int} {l : List zal} {side : Int} (h : zhJ g of l side) : okJ of l l.length = true := by
 refine List.all_eq_true.2 fun i hi => ?_
 have hi' := List.mem_range.1 hi
 simp only [Bool.and_eq_true, decide_eq_true_eq]
 refine ⟨?_, zhQ.2 (h.part i hi')⟩
 rw [h.sd _ (zah hi'), h.sd _ (zah (by omega))]
def zrC (g : zac) : Prop := (∀ k ∈ g.kinds, k.keep = false) ∧ g.rights = 0
theorem zoT {g : zac} (hn : zrC g) {l : List Int} (h : ze5 g l) : l = List.replicate g.kinds.length 0 := by
 refine za3 (by rw [h.len, List.length_replicate]) fun i hi => ?_
 have hv := h.v i hi
 have hk := hn.1 _ (zah (show i < g.kinds.length by have := h.len; omega))
 have : nth (List.replicate g.kinds.length (0 : Int)) i = 0 := by
  rw [zaA _ _ (by rw [List.length_replicate]; have := h.len; omega), List.getElem_replicate]
 rw [this]
 by_cases h0 : 0 < nth l i
 ·rw [hv.2.2 h0] at hk; cases hk
 ·omega
theorem POk.zero {g : zac} (hn : zrC g) {p : zal} (hp : POk g p) : p.h0 = List.replicate g.kinds.length 0 ∧ p.h1 = List.replicate g.kinds.length 0 ∧ p.rights = 0 := by
 refine ⟨zoT hn hp.h0, zoT hn hp.h1, ?_⟩
 have a := hp.r0
 have b := hp.r1
 rw [hn.2] at b
 simp at b
 omega
def ofG (g : zac) : List Int := zca (zdI (zdj g)) g.cells.toNat
theorem zic (g : zac) : (ofG g).length = g.cells.toNat := by simp [ofG, zca]
abbrev Inc (l : List zal) : Prop := l.Pairwise (fun a b => zcK a b < 0)
theorem Inc.lt {l : List zal} (h : Inc l) {i j : Nat} (hij : i < j) (hj : j < l.length) : zcK (nth l i) (nth l j) < 0 := by
 rw [zaA _ _ (by omega), zaA _ _ hj]
 exact List.pairwise_iff_getElem.1 h _ _ _ _ hij
theorem Inc.sign {l : List zal} (h : Inc l) {i j : Nat} (hi : i < l.length) (hj : j < l.length) : (zcK (nth l i) (nth l j) = 0 ↔ i = j) ∧ (zcK (nth l i) (nth l j) < 0 ↔ i < j) := by
 have hs := zbo.swap (nth l i) (nth l j)
 rcases Nat.lt_trichotomy i j with h' | h' | h'
 ·have := h.lt h' hj
  exact ⟨⟨by omega, by omega⟩, ⟨by omega, by omega⟩⟩
 ·subst h'
  have := (zbo.eq (nth l i) (nth l i)).2 rfl
  exact ⟨⟨by omega, by omega⟩, ⟨by omega, by omega⟩⟩
 ·have := h.lt h' hi
  exact ⟨⟨by omega, by omega⟩, ⟨by omega, by omega⟩⟩
theorem Inc.inj {l : List zal} (h : Inc l) {i j : Nat} (hi : i < l.length) (hj : j < l.length) (e : nth l i = nth l j) : i = j :=
 (h.sign hi hj).1.1 ((zbo.eq _ _).2 e)
theorem ztT {g : zac} {p q : zal} : q ∈ zaN g p ↔ zdp g p < 0 ∧ ((∃ o ∈ zgg g p, (ziT g p = true → o.took = true) ∧ o.pos = q) ∨ (ziT g p = false ∧ q ∈ zdB g p)) := by
 unfold zaN
 split
 ·rename_i h
  simp only [List.not_mem_nil, false_iff, not_and]
  intro h'
  omega
 ·rename_i h
  rw [za9]
  unfold zhr
  rw [List.mem_append, List.mem_map]
  constructor
  ·rintro (⟨o, ho, rfl⟩ | hq)
   ·obtain ⟨h1, h2⟩ := List.mem_filter.1 ho
    refine ⟨by omega, .inl ⟨o, h1, fun hm => ?_, rfl⟩⟩
    rw [hm] at h2
    simpa using h2
   ·split at hq
    ·simp at hq
    ·rename_i hm
     exact ⟨by omega, .inr ⟨by simpa using hm, hq⟩⟩
  ·rintro ⟨_, ⟨o, h1, h2, rfl⟩ | ⟨hm, hq⟩⟩
   ·refine .inl ⟨o, List.mem_filter.2 ⟨h1, ?_⟩, rfl⟩
    cases hm : ziT g p
    ·rfl
    ·simpa using h2 hm
   ·refine .inr ?_
    rw [hm]
    exact hq
end Go.Av
end
section
/- Plain: what a man does depends on its region alone; the moves of a normal game are those of its parts. -/
open Go Go.Proofs
namespace Go.Av
def zjf (s : Nat → Bool) (a b : List Int) : List Int := (List.range b.length).map fun z => if s z = true then nth b z else nth a z
theorem zbb (s : Nat → Bool) (a b : List Int) : (zjf s a b).length = b.length := by simp [zjf]
theorem zcR {s : Nat → Bool} {a b : List Int} {z : Nat} (h : z < b.length) : nth (zjf s a b) z = if s z = true then nth b z else nth a z := zbL _ h
theorem zwH {l : List Int} {z : Nat} (h : l.length ≤ z) : nth l z = 0 := by
 unfold nth
 rw [List.getD_eq_getElem?_getD, List.getElem?_eq_none h]
 rfl
theorem zfH {s : Nat → Bool} {a b : List Int} {z : Nat} (h : s z = true) : nth (zjf s a b) z = nth b z := by
 by_cases hz : z < b.length
 ·rw [zcR hz, if_pos h]
 ·rw [zwH (by rw [zbb]; omega), zwH (by omega)]
theorem zjg {s : Nat → Bool} {a b : List Int} {z : Nat} {v : Int} (h : s z = true) : zjf s a (b.set z v) = (zjf s a b).set z v := by
 refine za3 (by simp [zbb]) fun i hi => ?_
 have hi : i < b.length := by simpa [zbb] using hi
 rw [zcR (by simpa using hi), zbP, zbP, zbb, zcR hi]
 by_cases e : z = i
 ·subst e
  rw [if_pos h, if_pos ⟨rfl, hi⟩, if_pos ⟨rfl, hi⟩]
 ·simp [e]
def zal.pt (s : Nat → Bool) (a : List Int) (p : zal) : zal := { p with at_ := zjf s a p.at_ }
def TkD.pt (s : Nat → Bool) (a : List Int) (t : TkD) : TkD := { t with p := t.p.pt s a }
def zcU.pt (s : Nat → Bool) (a : List Int) (o : zcU) : zcU := { o with pos := o.pos.pt s a }
section
variable {s : Nat → Bool} {a : List Int}
theorem zzs {p : zal} {c : Int} (h : s c.toNat = true) : clr (p.pt s a) c = (clr p c).pt s a := by
 unfold clr zal.pt
 simp only
 rw [zjg h]
theorem zrx (p : zal) (side : Int) (l : List Int) : (p.pt s a).withHand side l = (p.withHand side l).pt s a := by unfold zal.withHand; split <;> rfl
theorem doA_pt {g : zac} {side : Int} {t : TkD} {x : zed} (hx : ∀ c ∈ zbh x, s c.toNat = true) : doA g side (t.pt s a) x = ((doA g side t x).1.pt s a, (doA g side t x).2) := by
 have hn : ∀ c ∈ zbh x, nth (t.pt s a).p.at_ c.toNat = nth t.p.at_ c.toNat := fun c hc => zfH (hx c hc)
 unfold doA
 by_cases h3 : x.1 = 3
 ·rw [if_pos h3, if_pos h3, hn _ (by simp [zbh, h3])]
 rw [if_neg h3, if_neg h3]
 by_cases h4 : x.1 = 4
 ·rw [if_pos h4, if_pos h4, hn _ (by simp [zbh, h4])]
 rw [if_neg h4, if_neg h4]
 by_cases h5 : x.1 = 5
 ·rw [if_pos h5, if_pos h5, hn _ (by simp [zbh, h5])]
 rw [if_neg h5, if_neg h5]
 by_cases h6 : x.1 = 6
 ·rw [if_pos h6, if_pos h6]
  have hc := hx x.2.1 (by simp [zbh, h6])
  unfold zxn
  simp only [hn _ (show x.2.1 ∈ zbh x by simp [zbh, h6])]
  split
  ·rfl
  ·have e1 : clr (t.pt s a).p x.2.1 = (clr t.p x.2.1).pt s a := zzs hc
   rw [e1]
   split
   ·have e2 : (t.pt s a).p.hand side = t.p.hand side := rfl
    rw [e2, zrx]
    rfl
   ·rfl
 rw [if_neg h6, if_neg h6]
 by_cases h7 : x.1 = 7
 ·rw [if_pos h7, if_pos h7]
  have hc := hx x.2.1 (by simp [zbh, h7])
  have hd := hx x.2.2 (by simp [zbh, h7])
  unfold zw1
  rw [hn x.2.1 (by simp [zbh, h7]), hn x.2.2 (by simp [zbh, h7])]
  split
  ·rfl
  ·unfold TkD.pt zal.pt
   simp only
   rw [zjg hc, zjg hd]
 rw [if_neg h7, if_neg h7]
 split
 ·rfl
 split
 ·rfl
 split
 ·rfl
 ·rfl
theorem zvN {g : zac} {side : Int} : ∀ {l : List zed} {t : TkD}, (∀ c ∈ l.flatMap zbh, s c.toNat = true) → zfs g side (t.pt s a) l = (zfs g side t l).map fun t => t.pt s a
 | [], t, _ => rfl
 | x :: l, t, h => by
  rw [List.flatMap_cons] at h
  simp only [zfs, doA_pt (s := s) (a := a) (x := x) fun c hc => h c (List.mem_append.2 (.inl hc))]
  split
  ·exact zvN fun c hc => h c (List.mem_append.2 (.inr hc))
  ·rfl
theorem zxf {p : zal} {c : Int} (h : s c.toNat = true) : zcD (p.pt s a) c = (zcD p c).pt s a := by
 unfold zcD
 rw [zzs h]
 have e : nth (p.pt s a).at_ c.toNat = nth p.at_ c.toNat := zfH h
 rw [e]
 rfl
theorem zwN {g : zac} {side : Int} {p : zal} {c : Int} {w : zaK} (h : ∀ y ∈ zbH c w, s y.toNat = true) : zpe g side (zcD (p.pt s a) c) w = (zpe g side (zcD p c) w).map fun o => o.pt s a := by
 have hc : s c.toNat = true := h c (by simp [zbH])
 have ht : s w.to.toNat = true := h w.to (by simp [zbH])
 unfold zpe stW
 rw [zxf hc, zvN fun y hy => h y (by unfold zbH; exact List.mem_append.2 (.inr hy))]
 cases zfs g side (zcD p c) w.acts with
 | none => rfl
 | some u =>
  simp only [Option.map_some, Option.bind_some]
  have e : nth (stT (u.pt s a) w.to).p.at_ (stT (u.pt s a) w.to).cursor.toNat = nth (stT u w.to).p.at_ (stT u w.to).cursor.toNat := zfH ht
  unfold zhz
  rw [e]
  split
  ·simp only [Option.map_some, Option.some.injEq]
   unfold zcU.pt zal.pt stT TkD.pt zal.pt
   simp only
   rw [zjg ht]
  ·rfl
theorem zA3 {g : zac} {p : zal} {c : Int} (hc : s c.toNat = true) (h : ∀ w ∈ zfI g p c, ∀ y ∈ zbH c w, s y.toNat = true) (o : zcU) : o ∈ zug g (p.pt s a) c ↔ ∃ o' ∈ zug g p c, o = o'.pt s a := by
 have e : nth (p.pt s a).at_ c.toNat = nth p.at_ c.toNat := zfH hc
 have ep : zfI g (p.pt s a) c = zfI g p c := by unfold zfI; rw [e]
 unfold zug
 rw [e]
 split
 ·simp
 ·rw [za9]
  unfold zwR
  rw [ep, e, List.mem_filterMap]
  constructor
  ·rintro ⟨w, hw, hwo⟩
   rw [zwN (h w hw)] at hwo
   obtain ⟨o', h1, h2⟩ := Option.map_eq_some_iff.1 hwo
   exact ⟨o', za9.2 (List.mem_filterMap.2 ⟨w, hw, h1⟩), h2.symm⟩
  ·rintro ⟨o', h1, rfl⟩
   obtain ⟨w, hw, h2⟩ := List.mem_filterMap.1 (za9.1 h1)
   exact ⟨w, hw, by rw [zwN (h w hw), h2]; rfl⟩
end
theorem zo8 {g : zac} (hg : GOk g) {p : zal} (hp : POk g p) {o : zcU} : o ∈ zgg g p ↔ ∃ c : Nat, (c : Int) < g.cells ∧ nth p.at_ c ≠ 0 ∧ (zav (nth p.at_ c)).2 = p.side ∧ o ∈ zug g p c := by
 have hal := hp.al
 rw [zo9 hp]
 constructor
 ·rintro ⟨c, i, hc, ho⟩
  have c1 := hc.c1
  have hman := hc.man
  have hside := hc.side
  have hi1 := hc.i1
  simp only [Int.toNat_natCast] at hman hside hi1
  refine ⟨c, c1, fun h0 => ?_, hside, ?_⟩
  ·rw [h0] at hman; exact absurd hman (by decide)
  rw [zpr hg hp (by omega) c1]
  unfold zse
  simp only [Int.toNat_natCast]
  rw [if_neg (by omega), za9, hside]
  exact List.mem_flatMap.2 ⟨i, List.mem_range.2 (by omega), ho⟩
 ·rintro ⟨c, c1, h0, hside, ho⟩
  rw [zpr hg hp (by omega) c1] at ho
  unfold zse at ho
  simp only [Int.toNat_natCast] at ho
  split at ho
  ·simp at ho
  rename_i hm
  rw [za9, hside] at ho
  obtain ⟨i, hi, ho⟩ := List.mem_flatMap.1 ho
  exact ⟨c, i, ⟨by omega, c1, by simp only [Int.toNat_natCast]; omega, by simp only [Int.toNat_natCast]; exact hside, by omega, by simp only [Int.toNat_natCast]; exact_mod_cast List.mem_range.1 hi⟩, ho⟩
structure zff (g : zac) : Prop where
 nh : zrC g
 cl : g.clauses = []
 must : g.must = false
theorem zkm {g : zac} (hn : zff g) (p : zal) : zdp g p = -1 := by
 unfold zdp
 rw [hn.cl]
 rfl
theorem zq5 {g : zac} (hn : zff g) {p : zal} (hp : POk g p) : zdB g p = [] := by
 obtain ⟨a1, a2, _⟩ := hp.zero hn.nh
 refine List.eq_nil_iff_forall_not_mem.2 fun q hq => ?_
 unfold zdB at hq
 rw [za9] at hq
 obtain ⟨k, hk, hq⟩ := List.mem_flatMap.1 hq
 obtain ⟨c, hc, hq⟩ := List.mem_filterMap.1 hq
 have h0 : nth (p.hand p.side) k = 0 := by
  have : ∀ l : List Int, l = List.replicate g.kinds.length 0 → nth l k = 0 := fun l hl => by
   subst hl
   rw [zaA _ _ (by rw [List.length_replicate]; exact List.mem_range.1 hk), List.getElem_replicate]
  unfold zal.hand
  split
  ·exact this _ a1
  ·exact this _ a2
 unfold zhW at hq
 rw [if_pos (.inl h0)] at hq
 cases hq
theorem zhs {g : zac} (hg : GOk g) (hn : zff g) {p : zal} (hp : POk g p) {m : zal} : m ∈ zaN g p ↔ ∃ c : Nat, (c : Int) < g.cells ∧ nth p.at_ c ≠ 0 ∧ (zav (nth p.at_ c)).2 = p.side ∧ ∃ o ∈ zug g p c, o.pos = m := by
 have hm : ziT g p = false := by unfold ziT; rw [hn.must]; rfl
 rw [ztT, zkm hn, zq5 hn hp, hm]
 constructor
 ·rintro ⟨_, ⟨o, ho, _, rfl⟩ | ⟨_, h⟩⟩
  ·obtain ⟨c, h1, h2, h3, h4⟩ := (zo8 hg hp).1 ho
   exact ⟨c, h1, h2, h3, o, h4, rfl⟩
  ·simp at h
 ·rintro ⟨c, h1, h2, h3, o, h4, rfl⟩
  exact ⟨by omega, .inl ⟨o, (zo8 hg hp).2 ⟨c, h1, h2, h3, h4⟩, fun h => by simp at h, rfl⟩⟩
def inR (g : zac) (r : Int) : Nat → Bool := fun z => decide (nth (ofG g) z = r)
structure znL (g : zac) : Prop where
 ok : GOk g
 s0 : zgB g.cells.toNat (zdj g).1
 s1 : zgB g.cells.toNat (zdj g).2
theorem znL.of {g : zac} (h : znL g) : zuK (ofG g) := zkq (by have := h.ok.c9; omega) h.s0 h.s1
theorem zpo {g : zac} (h : znL g) {p : zal} (hp : POk g p) {c : Nat} (hc : (c : Int) < g.cells) (h0 : nth p.at_ c ≠ 0) : ∀ w ∈ zfI g p c, ∀ y ∈ zbH (c : Int) w, inR g (nth (ofG g) c) y.toNat = true := by
 intro w hw y hy
 have hat := hp.at (i := c) (by have := hp.al; omega)
 unfold zfI at hw
 simp only [Int.toNat_natCast] at hw
 rcases zbl hat.1 hat.2 h.ok.k6 with ⟨hz, _⟩ | ⟨_, e1, e2, e3, _⟩
 ·exact absurd hz h0
 have hj := zqQ h.ok e3 (show (zav (nth p.at_ c)).1.toNat < g.kinds.length by omega) hc hw
 have := ztX (n := g.cells.toNat) (by have := h.ok.c9; omega) h.s0 h.s1 _ hj y hy (c : Int) (by simp [zbH])
 unfold inR
 rw [decide_eq_true_eq]
 simpa [ofG] using this
theorem zrk {g : zac} (h : znL g) {p : zal} (hp : POk g p) {c : Nat} (hc : (c : Int) < g.cells) {o : zcU} (ho : o ∈ zug g p c) {z : Nat} (hz : nth (ofG g) z ≠ nth (ofG g) c) : nth o.pos.at_ z = nth p.at_ z := by
 have h0 := (zpq ho).2
 simp only [Int.toNat_natCast] at h0
 have hr := zpo h hp hc h0
 unfold zug at ho
 simp only [Int.toNat_natCast] at ho
 rw [if_neg h0, za9] at ho
 unfold zwR at ho
 obtain ⟨w, hw, hwo⟩ := List.mem_filterMap.1 ho
 simp only [Int.toNat_natCast] at hwo
 refine ztZ hwo fun y hy e => hz ?_
 have := hr w hw y hy
 unfold inR at this
 rw [decide_eq_true_eq, e] at this
 exact this
theorem zdY (of : List Int) (p : zal) (r : Int) : za4 of p r = p.pt (fun z => decide (nth of z = r)) [] := by
 unfold za4 zal.pt zjf zeU
 congr 1
 refine List.map_congr_left fun z hz => ?_
 by_cases e : nth of z = r
 ·simp [e]
 ·simp [e, nth]
theorem zjj {g : zac} (h : znL g) {p : zal} (hp : POk g p) {a : List Int} {c : Nat} (hc : (c : Int) < g.cells) (h0 : nth p.at_ c ≠ 0) (o : zcU) :
  o ∈ zug g (p.pt (inR g (nth (ofG g) c)) a) c ↔ ∃ o' ∈ zug g p c, o = o'.pt (inR g (nth (ofG g) c)) a :=
 zA3 (by simp [inR]) (zpo h hp hc h0) o
end Go.Av
end
section
open Go Go.Proofs
namespace Go.Av
theorem zj1 (c : Int) : zaJ Tryz.prog 126 [.v (.int .i64 c)] (.tup [.v (.int .i64 (zav c).1), .v (.int .i64 (zav c).2)]) := by
 refine pF Tryz.func126 ?_
 unfold zav
 by_cases h1 : c < 1
 ·rw [if_neg (by omega)]
  repeat first|refine wV fun _=>?_|simp [go_sem, h1]
 ·by_cases h2 : 12 < c
  ·rw [if_neg (by omega)]
   repeat first|refine wV fun _=>?_|simp [go_sem, h1, h2]
  ·rw [if_pos (by omega)]
   have e1 : (c - 1).tdiv 2 = (c - 1) / 2 := Int.tdiv_eq_ediv_of_nonneg (by omega)
   have e2 : (c - 1).tmod 2 = (c - 1) % 2 := Int.tmod_eq_emod_of_nonneg (by omega)
   have b1 : 0 ≤ (c - 1).tdiv 2 ∧ (c - 1).tdiv 2 ≤ 12 := by omega
   have b2 : 0 ≤ (c - 1).tmod 2 ∧ (c - 1).tmod 2 ≤ 12 := by omega
   clear e1 e2
   repeat first|refine wV fun _=>?_|simp [go_sem, h1, h2]
theorem zfW (k s : Int) : zaJ Tryz.prog 133 [.v (.int .i64 k), .v (.int .i64 s)] (.v (.int .i64 (zc7 k s))) := by
 refine pF Tryz.func133 ?_
 unfold zc7
 by_cases h1 : k < 0
 ·rw [if_neg (by omega)]
  repeat first|refine wV fun _=>?_|simp [go_sem, h1]
 by_cases h2 : 6 ≤ k
 ·rw [if_neg (by omega)]
  repeat first|refine wV fun _=>?_|simp [go_sem, h1, h2]
 by_cases h3 : s < 0
 ·rw [if_neg (by omega)]
  repeat first|refine wV fun _=>?_|simp [go_sem, h1, h2, h3]
 by_cases h4 : 1 < s
 ·rw [if_neg (by omega)]
  repeat first|refine wV fun _=>?_|simp [go_sem, h1, h2, h3, h4]
 ·rw [if_pos (by omega), show 2 * k + 1 + s = 1 + 2 * k + s by omega]
  repeat first|refine wV fun _=>?_|simp [go_sem, h1, h2, h3, h4]
theorem zlV (x : Int) : zaJ Tryz.prog 147 [.v (.int .i64 x)] (.v (.bool false)) := by
 refine pF Tryz.func147 ?_
 repeat first|refine wV fun _=>?_|simp [go_sem]
theorem zdr (a b : Int) : zaJ Tryz.prog 92 [.v (.int .i64 a), .v (.int .i64 b)] (.v (.int .i64 (za0 a b))) := by
 refine pF Tryz.func92 ?_
 repeat first|refine wV fun _=>?_|simp [go_sem]
 refine zBi (zlV a) (by simp [go_sem]) ?_
 repeat first|refine wV fun _=>?_|simp [go_sem]
 refine zBi (zlV b) (by simp [go_sem]) ?_
 unfold za0
 by_cases h1 : a < b
 ·rw [if_pos h1]
  repeat first|refine wV fun _=>?_|simp [go_sem, h1]
 ·by_cases h2 : b < a
  ·rw [if_neg h1, if_pos h2]
   repeat first|refine wV fun _=>?_|simp [go_sem, h1, h2]
  ·rw [if_neg h1, if_neg h2]
   repeat first|refine wV fun _=>?_|simp [go_sem, h1, h2]
def orI : List Int → Int
 | [] => 0
 | x :: l => if x = 0 then orI l else x
theorem zrQ (l : List Int) (hl : zfk l) : zaJ Tryz.prog 90 [zaj l] (.v (.int .i64 (orI l))) := by
 refine pF Tryz.func90 ?_
 unfold zfk at hl
 repeat first|refine wV fun _=>?_|simp [go_sem]
 refine zBh (zBk (α := Nat) (fun j => ⟨[(3, .v (.int .i64 0)), (6, zaj l), (7, .v (.int .i64 l.length)), (8, .v (.int .i64 j))], [], 0⟩)
  (fun d j => j + d = l.length ∧ orI l = orI (l.drop j)) ?_ l.length 0 ?_) ?_ ?_
 ·rintro d j ⟨i1, i2⟩ hrec
  repeat first|refine wV fun _=>?_|simp [go_sem]
  refine zBj (fun hj => ?_) (fun hj => ?_) <;> simp at hj
  ·rw [zft hj, orI] at i2
   repeat first|refine wV fun _=>?_|simp [go_sem, hj]
   by_cases h0 : nth l j = 0
   ·rw [if_pos h0] at i2
    repeat first|refine wV fun _=>?_|simp [go_sem, h0]
    refine zBh (hrec (d - 1) (by omega) (j + 1) ⟨by omega, i2⟩) ?_ (by simp)
    simp [go_sem, zaf]
   ·rw [if_neg h0] at i2
    rw [i2]
    repeat first|refine wV fun _=>?_|simp [go_sem, h0]
  ·rw [List.drop_eq_nil_of_le hj, orI] at i2
   rw [i2]
   repeat first|refine wV fun _=>?_|simp [go_sem]
 ·simp
 ·simp [go_sem, zaf]
 ·simp
theorem ze1 (a b : List Int) (ha : zfk a) (hb : zfk b) : zaJ Tryz.prog 91 [zaj a, zaj b] (.v (.int .i64 (zeh a b))) := by
 refine pF Tryz.func91 ?_
 unfold zfk at ha hb
 repeat first|refine wV fun _=>?_|simp [go_sem]
 refine zBh (zBk (α := Nat) (fun j => ⟨[(0, zaj a), (1, zaj b), (9, zaj a), (10, .v (.int .i64 a.length)), (11, .v (.int .i64 j))], [], 0⟩)
  (fun d j => j + d = a.length ∧ j ≤ b.length ∧ zeh a b = zeh (a.drop j) (b.drop j)) ?_ a.length 0 ?_) ?_ ?_
 ·rintro d j ⟨i1, i2, i3⟩ hrec
  repeat first|refine wV fun _=>?_|simp [go_sem]
  refine zBj (fun hj => ?_) (fun hj => ?_) <;> simp at hj
  ·rw [zft hj] at i3
   repeat first|refine wV fun _=>?_|simp [go_sem, hj]
   by_cases hk : j < b.length
   ·rw [zft hk, zeh] at i3
    have hk' : ¬ b.length ≤ j := by omega
    repeat first|refine wV fun _=>?_|simp [go_sem, hj, hk, hk']
    refine zBi (zdr _ _) (by simp [go_sem]) ?_
    by_cases he : nth a j = nth b j
    ·rw [if_pos he] at i3
     have hn : za0 (nth a j) (nth b j) = 0 := by simp [za0, he]
     rw [hn]
     repeat first|refine wV fun _=>?_|simp [go_sem]
     refine zBh (hrec (d - 1) (by omega) (j + 1) ⟨by omega, by omega, i3⟩) ?_ (by simp)
     simp [go_sem, zaf]
    ·rw [if_neg he] at i3
     have hn : za0 (nth a j) (nth b j) ≠ 0 := by unfold za0; split <;> (try split) <;> omega
     rw [i3]
     repeat first|refine wV fun _=>?_|simp [go_sem, hn]
   ·have hk' : b.length ≤ j := by omega
    rw [List.drop_eq_nil_of_le hk', zgl] at i3
    have : zeh a b = 1 := by rw [i3]; unfold za0; rw [if_neg (by simp only [List.length_cons]; omega), if_pos (by simp only [List.length_cons]; omega)]
    rw [this]
    repeat first|refine wV fun _=>?_|simp [go_sem, hj, hk, hk']
  ·have hja : j = a.length := by omega
   subst hja
   rw [List.drop_eq_nil_of_le (Nat.le_refl _), zg7] at i3
   rw [i3]
   unfold za0
   by_cases hb' : a.length < b.length
   ·rw [if_pos (by simp; omega)]
    repeat first|refine wV fun _=>?_|simp [go_sem, hb']
   ·rw [if_neg (by simp; omega), if_neg (by omega)]
    repeat first|refine wV fun _=>?_|simp [go_sem, hb']
 ·simp
 ·simp [go_sem, zaf]
 ·simp
theorem zAl (p q : zal) : orI [zeh p.at_ q.at_, zeh p.h0 q.h0, zeh p.h1 q.h1, za0 p.rights q.rights, za0 p.side q.side] = zcK p q := by
 unfold zcK
 simp only [orI]
 repeat' split
 all_goals first | rfl | omega
theorem zcQ (p q : zal) (hp : zbw p) (hq : zbw q) : zaJ Tryz.prog 37 [.agg (zag p), .agg (zag q)] (.v (.int .i64 (zcK p q))) := by
 refine pF Tryz.func37 ?_
 obtain ⟨p1, p2, p3⟩ := hp
 obtain ⟨q1, q2, q3⟩ := hq
 rw [← zAl]
 have c1 := ze1 _ _ p1 q1
 have c2 := ze1 _ _ p2 q2
 have c3 := ze1 _ _ p3 q3
 have c4 := zdr p.rights q.rights
 have c5 := zdr p.side q.side
 generalize zeh p.at_ q.at_ = x1 at *
 generalize zeh p.h0 q.h0 = x2 at *
 generalize zeh p.h1 q.h1 = x3 at *
 generalize za0 p.rights q.rights = x4 at *
 generalize za0 p.side q.side = x5 at *
 repeat first|refine wV fun _=>?_|simp [go_sem]
 refine zBl c1 (by simp [go_sem]) ?_
 repeat first|refine wV fun _=>?_|simp [go_sem]
 refine zBl c2 (by simp [go_sem]) ?_
 repeat first|refine wV fun _=>?_|simp [go_sem]
 refine zBl c3 (by simp [go_sem]) ?_
 repeat first|refine wV fun _=>?_|simp [go_sem]
 refine zBl c4 (by simp [go_sem]) ?_
 repeat first|refine wV fun _=>?_|simp [go_sem]
 refine zBl c5 (by simp [go_sem]) ?_
 repeat first|refine wV fun _=>?_|simp [go_sem]
 refine zaQ.frz [zaj [x1, x2, x3, x4, x5]] _ [31] [(31, some (.rows false 0 1 ([x1, x2, x3, x4, x5].map zbd)))] (zrQ _ (by unfold zfk; simp)) ?_ ?_ (by simp [go_sem]) ?_
 ·intro p hp
  simp only [List.mem_singleton] at hp
  subst hp
  exact ⟨by simp, 0, 1, _, rfl, by simp [upd, go_sem]⟩
 ·intro h₁ hS
  have h7 := hS 31 (by simp)
  simp [go_sem] at h7
  exact .cons (zaL h7.symm (by simp) (by simp [zai, upd]) (by simp [go_sem])) .nil
 ·repeat first|refine wV fun _=>?_|simp [go_sem]
end Go.Av
end
section
/- Contracts, runs of the program: own, man, provided, and the steps. -/
open Go Go.Proofs
namespace Go.Av
def zr7 (n : Nat) (s : StD) : AV := .agg [.sl (n + 2) 1 1 0 s.p.at_.length, .sl (n + 81) 1 1 0 s.p.h0.length, .sl (n + 161) 1 1 0 s.p.h1.length, .v (.int .i64 s.p.rights), .v (.int .i64 s.p.side), .v (.int .i64 s.kind), .v (.int .i64 s.cursor), .v (.bool s.took)]
def zpf (n : Nat) (s : StD) : List (Nat × zbi) := [(n + 2, .rows true 1 1 (s.p.at_.map zbd)), (n + 81, .rows true 1 1 (s.p.h0.map zbd)), (n + 161, .rows true 1 1 (s.p.h1.map zbd))]
attribute [go_sem] zr7 zpf
theorem zhw (s : StD) (ha : zbw s.p) : zlt Tryz.prog 132 [.agg (zar s)] (fun n => zr7 n s) (fun n => zpf n s) 241 := by
 refine ⟨zBm (by kernel_rfl) Tryz.func132 rfl rfl (Nat.le_of_ble_eq_true rfl) (by kernel_rfl) ?_, fun n => ⟨by simp [go_sem], by simp [go_sem]⟩⟩
 obtain ⟨a1, a2, a3⟩ := ha
 have h1 := zfQ s.p.at_ a1
 have h2 := zfQ s.p.h0 a2
 have h3 := zfQ s.p.h1 a3
 repeat first|refine wV fun _=>?_|simp [go_sem]
 refine zBq h1 (by simp [go_sem]) ?_
 repeat first|refine wV fun _=>?_|simp [go_sem]
 refine zBL 81 (by rfl) (h2) (by decide) (by simp [go_sem]) (by simp [go_sem]) (fun _ => zam.refl _ _ _ _) (by simp [go_sem]) (by simp [go_sem]) ?_
 repeat first|refine wV fun _=>?_|simp [go_sem]
 refine zBL 161 (by rfl) (h3) (by decide) (by simp [go_sem]) (by simp [go_sem]) (fun _ => zam.refl _ _ _ _) (by simp [go_sem]) (by simp [go_sem]) ?_
 ((repeat (first|with_reducible (first|refine wL fun _=>?_|refine wD fun _=>?_|refine wZ ?_)|simp [go_sem])); refine zBR (by kernel_rfl) ?_)
 repeat first|refine wV fun _=>?_|simp [go_sem]
 simp [go_sem, zaf]
theorem znt (s : StD) (hc : s.cursor.toNat < s.p.at_.length) (h0 : 0 ≤ s.cursor) : zaJ Tryz.prog 299 [.agg (zar s)] (.tup [.v (.int .i64 (zav (nth s.p.at_ s.cursor.toNat)).1), .v (.int .i64 (zav (nth s.p.at_ s.cursor.toNat)).2)]) := by
 refine pF Tryz.func299 ?_
 have hO := zj1 (nth s.p.at_ s.cursor.toNat)
 generalize zav (nth s.p.at_ s.cursor.toNat) = m at *
 repeat first|refine wV fun _=>?_|simp [go_sem, hc]
 refine zBi hO (by simp [go_sem]) ?_
 repeat first|refine wV fun _=>?_|simp [go_sem]
theorem zcj (s : StD) (b : Bool) : zaJ Tryz.prog 298 [.agg (zar s), .v (.bool b)] (zbz (zcT s b)) := by
 refine pF Tryz.func298 ?_
 cases b
 ·repeat first|refine wV fun _=>?_|simp [go_sem, zcT]
 ·repeat first|refine wV fun _=>?_|simp [go_sem, zcT]
  exact frX
abbrev zk0 (f : FuncId) (g : zac) (s : StD) (n : Int) (r : List StD) : Prop := zaJ Tryz.prog f [.agg (zar s), .agg (zad g), .v (.int .i64 n)] (zbz r)
section
variable (g : zac) (hg : GOk g) (s : StD) (hs : zgS g s) (n : Int)
theorem zxt (hg : GOk g) : zk0 264 g s n (zcT { s with cursor := toB g.board s.p.side n s.cursor } (decide (0 ≤ toB g.board s.p.side n s.cursor))) := by
 refine pF Tryz.func264 ?_
 have hT := zi3 g.board hg.board s.p.side n s.cursor
 have hP := zcj { s with cursor := toB g.board s.p.side n s.cursor }
 repeat first|refine wV fun _=>?_|simp [go_sem]
 refine zBi hT (by simp [go_sem]) ?_
 repeat first|refine wV fun _=>?_|simp [go_sem]
 refine zBi (hP _) (by simp [go_sem]) ?_
 repeat first|refine wV fun _=>?_|simp [go_sem]
theorem zul (hg : GOk g) (hs : zgS g s) : zk0 265 g s n (zpv g.board s n) := by
 refine pF Tryz.func265 ?_
 have hL := zlA g.board hg.board s.p.side n s.cursor
 have hlm := zfC hg.board (side := s.p.side) (d := n) (c := s.cursor)
 have hll := zo1 (b := g.board) (side := s.p.side) (d := n) (c := s.cursor)
 have c9 := hg.c9
 have c1 := hg.c1
 have hal := hs.p.al
 rw [show g.board.cells = g.cells from rfl] at hlm hll
 unfold zpv
 generalize zgf g.board s.p.side n s.cursor = line at *
 generalize hR : zcf s line = R
 repeat first|refine wV fun _=>?_|simp [go_sem]
 refine zBi hL (by simp [go_sem]) ?_
 repeat first|refine wV fun _=>?_|simp [go_sem]
 refine zBh (zBk (α := Nat × List StD) (fun a => ⟨[(3, .ref 0 0 8 0 0), (7, .sl 2 a.2.length 8 0 a.2.length), (19, zaj line), (20, .v (.int .i64 line.length)), (21, .v (.int .i64 a.1))], [(0, .rows true 0 8 [zar s]), (2, .rows true a.2.length 8 (a.2.map zar))], 3⟩)
  (fun d a => a.1 + d = line.length ∧ a.2.length = a.1 ∧ R = a.2 ++ zcf s (line.drop a.1)) ?_ line.length (0, []) ?_) ?_ ?_
 ·rintro d ⟨i, out⟩ ⟨i1, i2, i3⟩ hrec
  simp only at i1 i2 i3
  repeat first|refine wV fun _=>?_|simp [go_sem]
  refine zBj (fun hi => ?_) (fun hi => ?_) <;> simp at hi
  ·have hli := hlm _ (zah hi)
   have hlt : (nth line i).toNat < s.p.at_.length := by omega
   rw [zaG hi, zcf] at i3
   repeat first|refine wV fun _=>?_|simp [go_sem, hi, hlt]
   refine zBj (fun hz => ?_) (fun hz => ?_) <;> simp at hz
   ·rw [if_neg (by simpa using hz)] at i3
    repeat first|refine wV fun _=>?_|simp [go_sem]
    rw [i3]
    exact frX
   ·rw [if_pos (by simpa using hz)] at i3
    repeat first|refine wV fun _=>?_|simp [go_sem]
    refine zBh (hrec (d - 1) (by omega) (i + 1, out ++ [{ s with cursor := nth line i }]) ⟨by simp only; omega, by simp; omega, by simpa using i3⟩) ?_ (by simp)
    simp [go_sem, zaf]
  ·rw [List.drop_eq_nil_of_le hi, zcf] at i3
   repeat first|refine wV fun _=>?_|simp [go_sem]
   rw [i3]
   exact frX
 ·simp [hR]
 ·simp [go_sem, zaf]
 ·simp
theorem zo7 (hg : GOk g) (hs : zgS g s) : s.cursor.toNat < s.p.at_.length ∧ 0 ≤ s.cursor ∧ (nth s.p.at_ s.cursor.toNat = 0 ∧ zav (nth s.p.at_ s.cursor.toNat) = (-1, -1) ∨ nth s.p.at_ s.cursor.toNat ≠ 0 ∧ 0 ≤ (zav (nth s.p.at_ s.cursor.toNat)).1 ∧ (zav (nth s.p.at_ s.cursor.toNat)).1 < g.kinds.length ∧
  ((zav (nth s.p.at_ s.cursor.toNat)).2 = 0 ∨ (zav (nth s.p.at_ s.cursor.toNat)).2 = 1)) ∧ (s.p.side = 0 ∨ s.p.side = 1) := by
 have hal := hs.p.al
 have hc0 := hs.c0
 have hc1 := hs.c1
 have hcur : s.cursor.toNat < s.p.at_.length := by omega
 have hat := hs.p.at (i := s.cursor.toNat) (by omega)
 have hman := zbl hat.1 hat.2 hg.k6
 refine ⟨hcur, hc0, ?_, hs.p.s⟩
 rcases hman with ⟨h1, h2⟩ | ⟨h1, h2, h3, h4, _⟩
 ·exact .inl ⟨h1, h2⟩
 ·exact .inr ⟨h1, h2, h3, h4⟩
theorem ztr (hg : GOk g) (hs : zgS g s) : zk0 266 g s n (zcT s (decide ((zav (nth s.p.at_ s.cursor.toNat)).1 < 0))) := by
 refine pF Tryz.func266 ?_
 obtain ⟨hcur, h0, hm, hsd⟩ := zo7 g s hg hs
 have e : decide ((zav (nth s.p.at_ s.cursor.toNat)).1 < 0) = decide (nth s.p.at_ s.cursor.toNat = 0) := by
  rcases hm with ⟨h1, h2⟩ | ⟨h1, h2, _, _⟩
  ·rw [h2]; simp [h1]
  ·simp; omega
 rw [e]
 have hP := zcj s
 repeat first|refine wV fun _=>?_|simp [go_sem, hcur]
 refine zBl (hP _) (by simp [go_sem]) ?_
 repeat first|refine wV fun _=>?_|simp [go_sem]
theorem ztt (hg : GOk g) (hs : zgS g s) : zk0 267 g s n (zcT s (decide (0 ≤ (zav (nth s.p.at_ s.cursor.toNat)).1 ∧ (zav (nth s.p.at_ s.cursor.toNat)).2 ≠ s.p.side))) := by
 refine pF Tryz.func267 ?_
 obtain ⟨hcur, h0, hm, hsd⟩ := zo7 g s hg hs
 have hO := znt s hcur h0
 have hP := zcj s
 have e : decide (0 ≤ (zav (nth s.p.at_ s.cursor.toNat)).1 ∧ (zav (nth s.p.at_ s.cursor.toNat)).2 ≠ s.p.side) = decide ((zav (nth s.p.at_ s.cursor.toNat)).2 = 1 - s.p.side) := by
  rcases hm with ⟨h1, h2⟩ | ⟨h1, h2, _, _⟩
  ·rw [h2]; simp; omega
  ·simp only [decide_eq_decide]; omega
 rw [e]
 generalize zav (nth s.p.at_ s.cursor.toNat) = m at *
 repeat first|refine wV fun _=>?_|simp [go_sem]
 refine zBi hO (by simp [go_sem]) ?_
 repeat first|refine wV fun _=>?_|simp [go_sem]
 refine zBi (hP _) (by simp [go_sem]) ?_
 repeat first|refine wV fun _=>?_|simp [go_sem]
theorem zqH (hg : GOk g) (hs : zgS g s) : zk0 268 g s n (zcT s (decide (0 ≤ (zav (nth s.p.at_ s.cursor.toNat)).1 ∧ (zav (nth s.p.at_ s.cursor.toNat)).2 = s.p.side))) := by
 refine pF Tryz.func268 ?_
 obtain ⟨hcur, h0, hm, hsd⟩ := zo7 g s hg hs
 have hO := znt s hcur h0
 have hP := zcj s
 have e : decide (0 ≤ (zav (nth s.p.at_ s.cursor.toNat)).1 ∧ (zav (nth s.p.at_ s.cursor.toNat)).2 = s.p.side) = decide ((zav (nth s.p.at_ s.cursor.toNat)).2 = s.p.side) := by
  rcases hm with ⟨h1, h2⟩ | ⟨h1, h2, _, _⟩
  ·rw [h2]; simp; omega
  ·simp only [decide_eq_decide]; omega
 rw [e]
 generalize zav (nth s.p.at_ s.cursor.toNat) = m at *
 repeat first|refine wV fun _=>?_|simp [go_sem]
 refine zBi hO (by simp [go_sem]) ?_
 repeat first|refine wV fun _=>?_|simp [go_sem]
 refine zBi (hP _) (by simp [go_sem]) ?_
 repeat first|refine wV fun _=>?_|simp [go_sem]
theorem zxo (hg : GOk g) (hs : zgS g s) : zk0 269 g s n (zrt g s) := by
 refine pF Tryz.func269 ?_
 obtain ⟨hcur, h0, hm, hsd⟩ := zo7 g s hg hs
 have hO := znt s hcur h0
 have hP := zcj
 have hcp := zhw s (hs.p.fits hg)
 unfold zrt
 generalize hme : zav (nth s.p.at_ s.cursor.toNat) = m at *
 obtain ⟨mk, ms⟩ := m
 simp only [Prod.mk.injEq] at hm
 repeat first|refine wV fun _=>?_|simp [go_sem]
 refine zBi hO (by simp [go_sem]) ?_
 repeat first|refine wV fun _=>?_|simp [go_sem]
 refine zBj (fun hc => ?_) (fun hc => ?_) <;> simp at hc
 ·rw [if_pos (by omega)]
  repeat first|refine wV fun _=>?_|simp [go_sem]
 ·rw [if_neg (by omega)]
  repeat first|refine wV fun _=>?_|simp [go_sem]
  refine zBq hcp (by simp [go_sem]) ?_
  have hmk : mk.toNat < g.kinds.length := by omega
  have hmk' : 0 ≤ mk := by omega
  repeat first|refine wV fun _=>?_|simp [go_sem, hcur, hmk]
  refine zBj (fun hk => ?_) (fun hk => ?_)
  ·rw [if_neg (by simpa using hk)]
   repeat first|refine wV fun _=>?_|simp [go_sem, clr]
   (first|done|exact dpX)
  ·rw [if_pos (by simpa using hk)]
   have hl0 := hs.p.h0.len
   have hl1 := hs.p.h1.len
   rcases hsd with hsd | hsd
   ·have hmk0 : mk.toNat < s.p.h0.length := by omega
    have hv := hs.p.h0.v _ hmk0
    obtain ⟨u, hu⟩ : ∃ u : StD, u = { s with p := (clr s.p s.cursor).withHand s.p.side ((s.p.hand s.p.side).set mk.toNat (nth (s.p.hand s.p.side) mk.toNat + 1)), took := true } := ⟨_, rfl⟩
    have hres : (if 8 < nth (s.p.hand s.p.side) mk.toNat + 1 then [] else [u]) = zcT u (decide (nth s.p.h0 mk.toNat + 1 ≤ 8)) := by
     have : s.p.hand s.p.side = s.p.h0 := by simp [zal.hand, hsd]
     rw [this]
     unfold zcT
     by_cases h8 : 8 < nth s.p.h0 mk.toNat + 1
     ·rw [if_pos h8, if_neg (by simp; omega)]
     ·rw [if_neg h8, if_pos (by simp; omega)]
    rw [← hu, hres]
    have hue : zar u = [.lst 1 ((s.p.at_.map zbd).set s.cursor.toNat [.v (.int .i64 0)]), .lst 1 ((s.p.h0.map zbd).set mk.toNat [.v (.int .i64 (nth s.p.h0 mk.toNat + 1))]), .lst 1 (s.p.h1.map zbd), .v (.int .i64 s.p.rights), .v (.int .i64 s.p.side), .v (.int .i64 s.kind), .v (.int .i64 s.cursor), .v (.bool true)] := by
     rw [hu]; simp [zar, zal.withHand, zal.hand, clr, hsd, zaj, zbd, List.map_set]
    have hP' := hP u
    rw [hue, hsd] at hP'
    (repeat (first|with_reducible (first|refine wL fun _=>?_|refine wD fun _=>?_|refine wE ?_)|simp [go_sem, hsd, hmk0, hcur]))
    refine zsP.frz (zbB _ [4, 83, 163]) (zc5 _ _) ?_
    repeat first|refine wV fun _=>?_|simp [go_sem, hsd, hmk0, hcur, zbB, zb5]
    refine zaQ.frz _ _ [4, 83, 163] [] (hP' (decide (nth s.p.h0 mk.toNat + 1 ≤ 8))) (by simp) ?_ (by simp [go_sem]) ?_
    ·intro h₁ hS
     have e4 := hS 4 (by simp)
     have e5 := hS 83 (by simp)
     have e6 := hS 163 (by simp)
     simp [upd, zbB, zb5] at e4 e5 e6
     refine .cons (.agg (.cons (zaL e4.symm (by simp) (by simp [zai, ← e4]) (by simp; exact List.take_of_length_le (by simp))) (.cons (zaL e5.symm (by simp) (by simp [zai, ← e5]) (by simp; exact List.take_of_length_le (by simp))) (.cons (zaL e6.symm (by simp) (by simp [zai, ← e6]) (by simp; exact List.take_of_length_le (by simp))) (.refl _ _ _ _))))) (.refl _ _ _ _)
    ·repeat first|refine wV fun _=>?_|simp [go_sem]
   ·have hmk0 : mk.toNat < s.p.h1.length := by omega
    have hv := hs.p.h1.v _ hmk0
    obtain ⟨u, hu⟩ : ∃ u : StD, u = { s with p := (clr s.p s.cursor).withHand s.p.side ((s.p.hand s.p.side).set mk.toNat (nth (s.p.hand s.p.side) mk.toNat + 1)), took := true } := ⟨_, rfl⟩
    have hres : (if 8 < nth (s.p.hand s.p.side) mk.toNat + 1 then [] else [u]) = zcT u (decide (nth s.p.h1 mk.toNat + 1 ≤ 8)) := by
     have : s.p.hand s.p.side = s.p.h1 := by simp [zal.hand, hsd]
     rw [this]
     unfold zcT
     by_cases h8 : 8 < nth s.p.h1 mk.toNat + 1
     ·rw [if_pos h8, if_neg (by simp; omega)]
     ·rw [if_neg h8, if_pos (by simp; omega)]
    rw [← hu, hres]
    have hue : zar u = [.lst 1 ((s.p.at_.map zbd).set s.cursor.toNat [.v (.int .i64 0)]), .lst 1 (s.p.h0.map zbd), .lst 1 ((s.p.h1.map zbd).set mk.toNat [.v (.int .i64 (nth s.p.h1 mk.toNat + 1))]), .v (.int .i64 s.p.rights), .v (.int .i64 s.p.side), .v (.int .i64 s.kind), .v (.int .i64 s.cursor), .v (.bool true)] := by
     rw [hu]; simp [zar, zal.withHand, zal.hand, clr, hsd, zaj, zbd, List.map_set]
    have hP' := hP u
    rw [hue, hsd] at hP'
    (repeat (first|with_reducible (first|refine wL fun _=>?_|refine wD fun _=>?_|refine wE ?_)|simp [go_sem, hsd, hmk0, hcur]))
    refine zsP.frz (zbB _ [4, 83, 163]) (zc5 _ _) ?_
    repeat first|refine wV fun _=>?_|simp [go_sem, hsd, hmk0, hcur, zbB, zb5]
    refine zaQ.frz _ _ [4, 83, 163] [] (hP' (decide (nth s.p.h1 mk.toNat + 1 ≤ 8))) (by simp) ?_ (by simp [go_sem]) ?_
    ·intro h₁ hS
     have e4 := hS 4 (by simp)
     have e5 := hS 83 (by simp)
     have e6 := hS 163 (by simp)
     simp [upd, zbB, zb5] at e4 e5 e6
     refine .cons (.agg (.cons (zaL e4.symm (by simp) (by simp [zai, ← e4]) (by simp; exact List.take_of_length_le (by simp))) (.cons (zaL e5.symm (by simp) (by simp [zai, ← e5]) (by simp; exact List.take_of_length_le (by simp))) (.cons (zaL e6.symm (by simp) (by simp [zai, ← e6]) (by simp; exact List.take_of_length_le (by simp))) (.refl _ _ _ _))))) (.refl _ _ _ _)
    ·repeat first|refine wV fun _=>?_|simp [go_sem]
theorem zw2 (hg : GOk g) (hs : zgS g s) : zk0 270 g s n (zrh g s n) := by
 refine pF Tryz.func270 ?_
 have hT := zi3 g.board hg.board s.p.side n s.cursor
 have hal := hs.p.al
 have hc0 := hs.c0
 have hc1 := hs.c1
 have hcur : s.cursor.toNat < s.p.at_.length := by omega
 have hcp := zhw s (hs.p.fits hg)
 have hto := zgv hg.board s.p.side n s.cursor
 rw [show g.board.cells = g.cells from rfl] at hto
 unfold zrh
 generalize toB g.board s.p.side n s.cursor = to at *
 repeat first|refine wV fun _=>?_|simp [go_sem]
 refine zBi hT (by simp [go_sem]) ?_
 by_cases ht : to < 0
 ·rw [if_pos (.inr (.inl ht))]
  have ht0 : to.toNat = 0 := by omega
  have h0l : 0 < s.p.at_.length := by omega
  repeat first|refine wV fun _=>?_|simp [go_sem, hcur, ht, ht0, h0l]
 ·have htl : to.toNat < s.p.at_.length := by omega
  have ht' : 0 ≤ to := by omega
  repeat first|refine wV fun _=>?_|simp [go_sem, hcur, ht, htl]
  refine zBj (fun hc => ?_) (fun hc => ?_) <;> simp at hc
  ·rw [if_pos (by by_cases h : nth s.p.at_ s.cursor.toNat = 0; exact .inl h; exact .inr (hc.resolve_left h))]
   repeat first|refine wV fun _=>?_|simp [go_sem]
  ·rw [if_neg (by rintro (h | h); exact hc.1 h; exact h hc.2)]
   repeat first|refine wV fun _=>?_|simp [go_sem, hcur]
   refine zBq hcp (by simp [go_sem]) ?_
   repeat first|refine wV fun _=>?_|simp [go_sem, hcur, htl]
   (first|done|exact dpX)
theorem zqs : zk0 271 g s n [{ s with kind := n }] := by
 refine pF Tryz.func271 ?_
 repeat first|refine wV fun _=>?_|simp [go_sem]
 exact frX
theorem zwE (h0 : 0 ≤ n) (h4 : n < 64) : zk0 272 g s n (zcT s (decide (zkU .i64 (s.p.rights.fdiv (2 ^ n.toNat)) 1 = 1))) := by
 refine pF Tryz.func272 ?_
 have hP := zcj s
 repeat first|refine wV fun _=>?_|simp [go_sem]
 refine zBl (hP _) (by simp [go_sem]) ?_
 repeat first|refine wV fun _=>?_|simp [go_sem]
theorem zwu (h0 : 0 ≤ n) (h4 : n ≤ 4) : zk0 273 g s n [{ s with p := { s.p with rights := zdh .i64 s.p.rights (2 ^ n.toNat) } }] := by
 refine pF Tryz.func273 ?_
 have hpn := znz h0 h4
 repeat first|refine wV fun _=>?_|simp [go_sem]
 exact frX
end
end Go.Av
end
section
open Go Go.Proofs
namespace Go.Av
theorem zxj (g : zac) (hg : GOk g) (s : StD) (hs : zgS g s) (x : Int × Int) (hx : zeg g.next.length g.kinds.length g.rights x) :
  zaJ Tryz.prog 228 [.agg (zad g), .agg (zar s), .agg (zaE x)] (zbz (zbV g s x)) := by
 refine pF Tryz.func228 ?_
 have r4 := hg.r4
 obtain ⟨op, n⟩ := x
 obtain ⟨xo, xd, xz, xk, xr⟩ := hx
 simp only at xo xd xz xk xr
 rcases (show op = 1 ∨ op = 2 ∨ op = 3 ∨ op = 4 ∨ op = 5 ∨ op = 6 ∨ op = 7 ∨ op = 8 ∨ op = 9 ∨ op = 10 by omega) with rfl | rfl | rfl | rfl | rfl | rfl | rfl | rfl | rfl | rfl
 ·have hS := zxt g s n hg
  repeat first|refine wV fun _=>?_|simp [go_sem]
  refine zBl hS (by simp [go_sem]) ?_
  repeat first|refine wV fun _=>?_|simp [go_sem]
  exact zBv (by simp [zbV, zbz, zar, zaj])
 ·have hS := zul g s n hg hs
  repeat first|refine wV fun _=>?_|simp [go_sem]
  refine zBl hS (by simp [go_sem]) ?_
  repeat first|refine wV fun _=>?_|simp [go_sem]
  exact zBv (by simp [zbV, zbz, zar, zaj])
 ·have hS := ztr g s n hg hs
  repeat first|refine wV fun _=>?_|simp [go_sem]
  refine zBl hS (by simp [go_sem]) ?_
  repeat first|refine wV fun _=>?_|simp [go_sem]
  exact zBv (by simp [zbV, zbz, zar, zaj])
 ·have hS := ztt g s n hg hs
  repeat first|refine wV fun _=>?_|simp [go_sem]
  refine zBl hS (by simp [go_sem]) ?_
  repeat first|refine wV fun _=>?_|simp [go_sem]
  exact zBv (by simp [zbV, zbz, zar, zaj])
 ·have hS := zqH g s n hg hs
  repeat first|refine wV fun _=>?_|simp [go_sem]
  refine zBl hS (by simp [go_sem]) ?_
  repeat first|refine wV fun _=>?_|simp [go_sem]
  exact zBv (by simp [zbV, zbz, zar, zaj])
 ·have hS := zxo g s n hg hs
  repeat first|refine wV fun _=>?_|simp [go_sem]
  refine zBl hS (by simp [go_sem]) ?_
  repeat first|refine wV fun _=>?_|simp [go_sem]
  exact zBv (by simp [zbV, zbz, zar, zaj])
 ·have hS := zw2 g s n hg hs
  repeat first|refine wV fun _=>?_|simp [go_sem]
  refine zBl hS (by simp [go_sem]) ?_
  repeat first|refine wV fun _=>?_|simp [go_sem]
  exact zBv (by simp [zbV, zbz, zar, zaj])
 ·have hS := zqs g s n
  repeat first|refine wV fun _=>?_|simp [go_sem]
  refine zBl hS (by simp [go_sem]) ?_
  repeat first|refine wV fun _=>?_|simp [go_sem]
  exact zBv (by simp [zbV, zbz, zar, zaj])
 ·have hn := xr (by omega)
  have hS := zwE g s n hn.1 (by omega)
  repeat first|refine wV fun _=>?_|simp [go_sem]
  refine zBl hS (by simp [go_sem]) ?_
  repeat first|refine wV fun _=>?_|simp [go_sem]
  exact zBv (by simp [zbV, zbz, zar, zaj])
 ·have hn := xr (by omega)
  have hS := zwu g s n hn.1 (by omega)
  repeat first|refine wV fun _=>?_|simp [go_sem]
  refine zBl hS (by simp [go_sem]) ?_
  repeat first|refine wV fun _=>?_|simp [go_sem]
  exact zBv (by simp [zbV, zbz, zar, zaj])
theorem zst (m : Int) (h0 : 0 ≤ m) (h1 : m ≤ 17179869184) : zlt Tryz.prog 209 [zBo, .v (.int .i64 m)] (fun n => .sl n 0 1 0 0) (fun n => [(n, .rows true 0 1 [])]) 1 := by
 refine ⟨?_, fun n => ⟨by simp [go_sem], by simp [go_sem]⟩⟩
 by_cases hm : m = 0
 ·subst hm
  refine zBm (by kernel_rfl) Tryz.func209 rfl rfl (Nat.le_of_ble_eq_true rfl) (by kernel_rfl) ?_
  repeat first|refine wV fun _=>?_|simp [go_sem]
  simp [go_sem, zaf]
 ·refine zaa.clear ?_
  refine zBm (by kernel_rfl) Tryz.func209 rfl rfl (Nat.le_of_ble_eq_true rfl) (by kernel_rfl) ?_
  repeat first|refine wV fun _=>?_|simp [go_sem]
  (refine zBj (fun hF => by first | omega | (simp at hF; omega)) (fun hF => ?_); clear hF)
  repeat first|refine wV fun _=>?_|simp [go_sem]
  (refine zBj (fun hT => ?_) (fun hT => by first | omega | (simp at hT; omega)); clear hT)
  repeat first|refine wV fun _=>?_|simp [go_sem]
  refine ⟨0, 0, 1, by decide, ⟨rfl, rfl, rfl⟩, ?_⟩
  simp [go_sem, zaf]
theorem znP (a b c d : List Int) (ha : a.length ≤ 1000) (hb : b.length ≤ 1000) (hc : c.length ≤ 1000) (hd : d.length ≤ 1000) : zaJ Tryz.prog 157 [.lst 1 [[zaj a], [zaj b], [zaj c], [zaj d]]] (zaj (a ++ b ++ c ++ d)) := by
 refine pF Tryz.func157 ?_
 repeat first|refine wV fun _=>?_|simp [go_sem]
 refine zBn ?_
 repeat first|refine wV fun _=>?_|simp [go_sem]
 (refine zBj (fun hF => by first | omega | (simp at hF; omega)) (fun hF => ?_); clear hF)
 repeat first|refine wV fun _=>?_|simp [go_sem]
 refine zBn ?_
 repeat first|refine wV fun _=>?_|simp [go_sem]
 (refine zBj (fun hF => by first | omega | (simp at hF; omega)) (fun hF => ?_); clear hF)
 repeat first|refine wV fun _=>?_|simp [go_sem]
 refine zBn ?_
 repeat first|refine wV fun _=>?_|simp [go_sem]
 (refine zBj (fun hF => by first | omega | (simp at hF; omega)) (fun hF => ?_); clear hF)
 repeat first|refine wV fun _=>?_|simp [go_sem]
 refine zBn ?_
 repeat first|refine wV fun _=>?_|simp [go_sem]
 (refine zBj (fun hF => by first | omega | (simp at hF; omega)) (fun hF => ?_); clear hF)
 repeat first|refine wV fun _=>?_|simp [go_sem]
 refine zBn ?_
 repeat first|refine wV fun _=>?_|simp [go_sem]
 refine zBq (zst _ (by omega) (by omega)) (by simp [go_sem]) ?_
 repeat first|refine wV fun _=>?_|simp [go_sem]
 refine zBn ?_
 repeat first|refine wV fun _=>?_|simp [go_sem]
 refine zBn ?_
 repeat first|refine wV fun _=>?_|simp [go_sem]
 refine zBn ?_
 repeat first|refine wV fun _=>?_|simp [go_sem]
 refine zBn ?_
 repeat first|refine wV fun _=>?_|simp [go_sem]
 refine zBn ?_
 repeat first|refine wV fun _=>?_|simp [go_sem]
 exact frX

theorem zoh : ∀ l : List Int, zd5 (l.map zts) = some l
 | [] => rfl
 | n :: l => by rw [List.map_cons, zts, zd5, zoh l]; rfl
def zrK (p : zal) : List Int := p.at_ ++ p.h0 ++ p.h1 ++ [p.rights, p.side]
def zAB (p : zal) : ByteArray := zez (zrK p)
theorem zxC (p : zal) (ha : p.at_.length ≤ 100) (hb : p.h0.length ≤ 100) (hc : p.h1.length ≤ 100) (hv : ∀ x ∈ zrK p, 0 ≤ x ∧ x ≤ 255) : zaJ Tryz.prog 107 [.agg (zag p)] (.v (.string (zAB p))) := by
 refine pF Tryz.func107 ?_
 have hC : zaJ Tryz.prog 157 [.lst 1 [[.lst 1 (p.at_.map zbd)], [.lst 1 (p.h0.map zbd)], [.lst 1 (p.h1.map zbd)], [.lst 1 [[.v (.int .i64 p.rights)], [.v (.int .i64 p.side)]]]]] (zaj (p.at_ ++ p.h0 ++ p.h1 ++ [p.rights, p.side])) :=
  znP p.at_ p.h0 p.h1 [p.rights, p.side] (by omega) (by omega) (by omega) (by simp)
 have hll : (zrK p).length ≤ 302 := by simp [zrK]; omega
 unfold zAB
 rw [show p.at_ ++ p.h0 ++ p.h1 ++ [p.rights, p.side] = zrK p from rfl] at hC
 generalize zrK p = l at *
 repeat first|refine wV fun _=>?_|simp [go_sem]
 refine zBp [1, 2] hC ?_ (by simp [go_sem]) ?_
 ·(first|done|exact leX)
 repeat first|refine wV fun _=>?_|simp [go_sem]
 refine zBh (zBk (α := Nat) (fun i => ⟨[(3, .sl 3 i 1 0 i), (20, zaj l), (21, .v (.int .i64 l.length)), (22, .v (.int .i64 i))], [(3, .rows true i 1 ((l.take i).map zts))], 4⟩)
  (fun d i => i + d = l.length) ?_ l.length 0 ?_) ?_ ?_
 ·rintro d i i1 hrec
  repeat first|refine wV fun _=>?_|simp [go_sem]
  refine zBj (fun hi => ?_) (fun hi => ?_) <;> simp at hi
  ·have hx := hv _ (zah hi)
   have hem : (nth l i).emod 256 = nth l i := Int.emod_eq_of_lt hx.1 (by omega)
   have hem2 : nth l i % 256 = nth l i := hem
   repeat first|refine wV fun _=>?_|simp [go_sem, hi, hem, hem2]
   refine zBh (hrec (d - 1) (by omega) (i + 1) (by omega)) ?_ (by simp)
   rw [List.take_add_one, List.getElem?_eq_getElem hi, ← zaA _ _ hi]
   simp [go_sem, zaf, zts, hem, hem2]
   intro x hx c hc
   obtain ⟨y, _, rfl⟩ := List.mem_map.1 (List.mem_of_mem_take hx)
   simp only [zts, List.mem_singleton] at hc
   subst hc
   exact .v _
  ·have hb : zd5 (List.take i (List.map zts l)) = some l := by rw [List.take_of_length_le (by simp; omega)]; exact zoh l
   have hb2 : zd5 (List.take i (List.take i (List.map zts l))) = some l := by rw [List.take_take, Nat.min_self]; exact hb
   repeat first|refine wV fun _=>?_|simp [go_sem, hb, hb2]
 ·omega
 ·simp [go_sem, zaf]
 ·simp
def zjP (n : Int) : ByteArray := zez [48 + n]
theorem zrm (n : Int) (h0 : 0 ≤ n) (h1 : n < 10) : zaJ Tryz.prog 328 [.v (.int .i64 n)] (.v (.string (zjP n))) := by
 refine pF Tryz.func328 ?_
 rcases (show n = 0 ∨ n = 1 ∨ n = 2 ∨ n = 3 ∨ n = 4 ∨ n = 5 ∨ n = 6 ∨ n = 7 ∨ n = 8 ∨ n = 9 by omega) with rfl | rfl | rfl | rfl | rfl | rfl | rfl | rfl | rfl | rfl <;> ((repeat (first|refine wV fun _=>?_|simp [go_sem]))) <;> exact zBv (by kernel_rfl)
theorem zpt (n : Int) (h0 : 0 ≤ n) (h1 : n < 10) : zaJ Tryz.prog 312 [.v (.int .i64 n), .v (.int .i64 10)] (.v (.string (zjP n))) := by
 refine pF Tryz.func312 ?_
 have hS := zrm n h0 h1
 have h1' : n < 100 := by omega
 repeat first|refine wV fun _=>?_|simp [go_sem, h0, h1']
 refine zBi hS (by simp [go_sem]) ?_
 repeat first|refine wV fun _=>?_|simp [go_sem]
theorem zuk (n : Int) (h0 : 0 ≤ n) (h1 : n < 10) : zaJ Tryz.prog 300 [.v (.int .i64 n)] (.v (.string (zjP n))) := by
 refine pF Tryz.func300 ?_
 have hS := zpt n h0 h1
 repeat first|refine wV fun _=>?_|simp [go_sem]
 refine zBi hS (by simp [go_sem]) ?_
 repeat first|refine wV fun _=>?_|simp [go_sem]
theorem znQ (n : Int) (h0 : 0 ≤ n) (h1 : n < 10) : zaJ Tryz.prog 274 [.v (.int .i64 n)] (.v (.string (zjP n))) := by
 refine pF Tryz.func274 ?_
 have hS := zuk n h0 h1
 repeat first|refine wV fun _=>?_|simp [go_sem]
 refine zBi hS (by simp [go_sem]) ?_
 repeat first|refine wV fun _=>?_|simp [go_sem]
theorem zuj (b : Bool) : zaJ Tryz.prog 301 [.v (.bool b)] (.v (.string (if b then zez [116, 114, 117, 101] else zez [102, 97, 108, 115, 101]))) := by
 refine pF Tryz.func301 ?_
 cases b
 ·repeat first|refine wV fun _=>?_|simp [go_sem]
  exact zBv (by kernel_rfl)
 ·repeat first|refine wV fun _=>?_|simp [go_sem]
  exact zBv (by kernel_rfl)
theorem zuG (b : Bool) : zaJ Tryz.prog 275 [.v (.bool b)] (.v (.string (if b then zez [116, 114, 117, 101] else zez [102, 97, 108, 115, 101]))) := by
 refine pF Tryz.func275 ?_
 have hS := zuj b
 repeat first|refine wV fun _=>?_|simp [go_sem]
 refine zBi hS (by simp [go_sem]) ?_
 repeat first|refine wV fun _=>?_|simp [go_sem]
theorem ziK : ∀ (l : List Int) (r : ByteArray), (l.foldl (fun r n => r.push (UInt8.ofNat n.toNat)) r).data.toList = r.data.toList ++ l.map fun n => UInt8.ofNat n.toNat
 | [], r => by simp
 | n :: l, r => by
  rw [List.foldl_cons, ziK l]
  simp [ByteArray.push]
theorem ziL (l : List Int) : (zez l).data.toList = l.map fun n => UInt8.ofNat n.toNat := by
 unfold zez; rw [ziK]; rfl
theorem zf8 (l : List Int) : (zez l).size = l.length := by
 rw [← ByteArray.size_data, ← Array.length_toList, ziL, List.length_map]
def ziQ (s : StD) : ByteArray := zjP s.kind ++ zez [32] ++ zjP s.cursor ++ zez [32] ++ (if s.took then zez [116, 114, 117, 101] else zez [102, 97, 108, 115, 101]) ++ zez [32] ++ zAB s.p
theorem zyA (s : StD) (hk : 0 ≤ s.kind ∧ s.kind < 10) (hc : 0 ≤ s.cursor ∧ s.cursor < 10) (h1 : s.p.at_.length ≤ 100) (h2 : s.p.h0.length ≤ 100) (h3 : s.p.h1.length ≤ 100) (hv : ∀ x ∈ zrK s.p, 0 ≤ x ∧ x ≤ 255) :
  zaJ Tryz.prog 229 [.agg (zar s)] (.v (.string (ziQ s))) := by
 refine pF Tryz.func229 ?_
 have hK := znQ s.kind hk.1 hk.2
 have hC := znQ s.cursor hc.1 hc.2
 have hB := zuG s.took
 have hP := zxC s.p h1 h2 h3 hv
 have hdk : (zjP s.kind).size = 1 := zf8 _
 have hdc : (zjP s.cursor).size = 1 := zf8 _
 have hdb : (if s.took then zez [116, 114, 117, 101] else zez [102, 97, 108, 115, 101]).size ≤ 5 := by split <;> simp [zf8]
 have hdp : (zAB s.p).size ≤ 302 := by unfold zAB; rw [zf8]; simp [zrK]; omega
 have h32 : (ByteArray.mk ⟨[32]⟩).size = 1 := rfl
 unfold ziQ
 rw [show zez [32] = ByteArray.mk ⟨[32]⟩ from rfl]
 generalize zjP s.kind = dk at *
 generalize zjP s.cursor = dc at *
 generalize (if s.took then zez [116, 114, 117, 101] else zez [102, 97, 108, 115, 101]) = db at *
 generalize zAB s.p = dp at *
 generalize ByteArray.mk ⟨[32]⟩ = sp at *
 repeat first|refine wV fun _=>?_|simp [go_sem]
 refine zBl hK (by simp [go_sem]) ?_
 repeat first|refine wV fun _=>?_|simp [go_sem]
 refine zBl hC (by simp [go_sem]) ?_
 repeat first|refine wV fun _=>?_|simp [go_sem]
 refine zBl hB (by simp [go_sem]) ?_
 repeat first|refine wV fun _=>?_|simp [go_sem]
 refine zBl hP (by simp [go_sem]) ?_
 repeat first|refine wV fun _=>?_|simp [go_sem]
def zeR (side : Int) (x : Int × Int) (s : StD) (l : List zcU) : List zcU := if x.1 = 0 then l ++ (zhz side s).toList else l
def zyK (p : zal) (l : List zcU) : List (Nat × zbi) := [(0, .rows true 0 5 [zag p]), (1, .rows true 0 1 [[.sl 2 l.length 6 0 l.length]]), (2, .rows true l.length 6 (l.map zaM))]
theorem zwt (g : zac) (hg : GOk g) (p : zal) (hp : POk g p) (s : StD) (hs : zgS g s) (hsd : s.p.side = p.side) (x : Int × Int) (l : List zcU) (hl : l.length ≤ 100000000) :
  zjp Tryz.prog 184 [.agg (zar s), .agg (zaE x), .ref 0 0 5 0 0, .ref 1 0 1 0 0] (zyK p l) 3 (.tup []) (zyK p (zeR p.side x s l)) 3 := by
 unfold zjp zyK
 refine zBm (by kernel_rfl) Tryz.func184 rfl rfl (Nat.le_of_ble_eq_true rfl) (by kernel_rfl) ?_
 obtain ⟨hcur, h0, hm, _⟩ := zo7 g s hg hs
 have hcp := zhw s (hs.p.fits hg)
 have hC := zfW s.kind p.side
 have hps := hp.s
 obtain ⟨op, xn⟩ := x
 repeat first|refine wV fun _=>?_|simp [go_sem, hcur]
 refine zBj (fun hc => ?_) (fun hc => ?_) <;> simp at hc
 ·have e : zeR p.side (op, xn) s l = l := by
   unfold zeR zhz
   by_cases h : op = 0
   ·rw [if_pos h, if_neg (hc.resolve_left fun hn => hn h)]; simp
   ·rw [if_neg h]
  rw [e]
  repeat first|refine wV fun _=>?_|simp [go_sem]
  simp [go_sem, zaf]
 ·have e : zeR p.side (op, xn) s l = l ++ [⟨{ s.p with at_ := s.p.at_.set s.cursor.toNat (zc7 s.kind p.side), side := 1 - p.side }, s.took⟩] := by
   unfold zeR zhz
   rw [if_pos hc.1, if_pos hc.2]; rfl
  rw [e]
  generalize zc7 s.kind p.side = code at *
  repeat first|refine wV fun _=>?_|simp [go_sem, hcur]
  refine zBq hcp (by simp [go_sem]) ?_
  repeat first|refine wV fun _=>?_|simp [go_sem, hcur]
  refine zBl hC (by simp [go_sem]) ?_
  repeat first|refine wV fun _=>?_|simp [go_sem, hcur]
  simp [go_sem, zaf]
  (first|done|exact rwX)
theorem zcy {n : Nat} (l : List zcU) : ∀ r ∈ l.map zaM, ∀ c ∈ r, Bel n c := by
 intro r hr c hc
 obtain ⟨x, _, rfl⟩ := List.mem_map.1 hr
 revert c
 simp [go_sem]
def zo3 (h : zan) (a b c : Nat) (p : zal) (l : List zcU) : zan := upd (upd (upd h a (some (.rows true 0 5 [zag p]))) b (some (.rows true 0 1 [[.sl c l.length 6 0 l.length]]))) c (some (.rows true l.length 6 (l.map zaM)))
theorem zo4 (g : zac) (hg : GOk g) (p : zal) (hp : POk g p) (s : StD) (hs : zgS g s) (hsd : s.p.side = p.side) (x : Int × Int) (l : List zcU) (hl : l.length ≤ 100000000) {h : zan} {n a b c : Nat}
  (hd : [a, b, c].Nodup) (hlt : ∀ j ∈ [a, b, c], j < n) (ha : h a = some (.rows true 0 5 [zag p])) (hb : h b = some (.rows true 0 1 [[.sl c l.length 6 0 l.length]])) (hc : h c = some (.rows true l.length 6 (l.map zaM))) {K : zco}
  (hK : K (.tup []) (zo3 h a b c p (zeR p.side x s l)) n) :
  zaa Tryz.prog 184 [.agg (zar s), .agg (zaE x), .ref a 0 5 0 0, .ref b 0 1 0 0] h n K := by
 have hbs : ∀ m, Bel m (.agg (zar s)) := fun m => by simp [go_sem]
 have hbx : ∀ m, Bel m (.agg (zaE x)) := fun m => by simp [go_sem]
 have hbp : ∀ m, ∀ c ∈ zag p, Bel m c := fun m => by simp [go_sem]
 refine zBB (args' := [.agg (zar s), .agg (zaE x), .ref a 0 5 0 0, .ref b 0 1 0 0])
  (HH := [(a, .rows true 0 5 [zag p]), (b, .rows true 0 1 [[.sl c (zeR p.side x s l).length 6 0 (zeR p.side x s l).length]]), (c, .rows true (zeR p.side x s l).length 6 ((zeR p.side x s l).map zaM))])
  [a, b, c] h (zwt g hg p hp s hs hsd x l hl) hd hlt rfl (Nat.le_refl _) (.refl _) ?_ ?_ (.refl _ _ _ _) ?_ ?_ ?_ (.same ?_) ?_ ?_
 ·intro j hj
  rcases (show j = 0 ∨ j = 1 ∨ j = 2 by omega) with rfl | rfl | rfl
  ·exact ⟨_, _, rfl, ha, .rows (.same (by intro r hr; simp only [List.mem_singleton] at hr; subst hr; exact hbp _))⟩
  ·exact ⟨_, _, rfl, hb, .rows (.cons (.cons (.sl rfl) .nil) .nil)⟩
  ·exact ⟨_, _, rfl, hc, .rows (.same (zcy _))⟩
 ·intro q hq
  simp only [zyK, List.mem_cons, List.not_mem_nil, or_false] at hq
  rcases hq with rfl | rfl | rfl
  ·exact ⟨Nat.le_of_ble_eq_true rfl, by intro r hr; simp only [List.mem_singleton] at hr; subst hr; exact hbp _⟩
  ·exact ⟨Nat.le_of_ble_eq_true rfl, by simp [go_sem, zzH]⟩
  ·exact ⟨Nat.le_of_ble_eq_true rfl, zcy _⟩
 ·intro y hy
  simp only [List.mem_cons, List.not_mem_nil, or_false] at hy
  rcases hy with rfl | rfl | rfl | rfl
  ·exact hbs _
  ·exact hbx _
  ·exact .ref (hlt a (by simp))
  ·exact .ref (hlt b (by simp))
 ·exact .cons (.same (hbs _)) (.cons (.same (hbx _)) (.cons (.ref rfl) (.cons (.ref rfl) .nil)))
 ·intro y hy
  simp only [List.mem_cons, List.not_mem_nil, or_false] at hy
  rcases hy with rfl | rfl | rfl | rfl
  ·exact hbs _
  ·exact hbx _
  ·exact .ref (by decide)
  ·exact .ref (by decide)
 ·exact .tup (by simp)
 ·exact .cons rfl (.rows (.same (by intro r hr; simp only [List.mem_singleton] at hr; subst hr; exact hbp _))) (.cons rfl (.rows (.cons (.cons (.sl rfl) .nil) .nil)) (.cons rfl (.rows (.same (zcy _))) .nil))
 ·have e : zdM [(a, .rows true 0 5 [zag p]), (b, .rows true 0 1 [[.sl c (zeR p.side x s l).length 6 0 (zeR p.side x s l).length]]), (c, .rows true (zeR p.side x s l).length 6 ((zeR p.side x s l).map zaM))] (zll [a, b, c] h) = zo3 h a b c p (zeR p.side x s l) := by
   simp only [List.nodup_cons, List.mem_cons, List.not_mem_nil, or_false, not_or, List.nodup_nil, and_true, not_false_eq_true] at hd
   obtain ⟨⟨d1, d2⟩, d3⟩ := hd
   funext j
   simp only [zdM, zll, zo3, upd]
   by_cases j1 : j = a
   ·subst j1; simp [d1, d2]
   ·by_cases j2 : j = b
    ·subst j2; simp [d3, j1]
    ·by_cases j3 : j = c
     ·subst j3; simp [j1, j2]
     ·simp [j1, j2, j3]
  rw [e]
  exact hK
def zAA (s : StD) : List Int := [48 + s.kind, 32, 48 + s.cursor, 32] ++ ((if s.took then [116, 114, 117, 101] else [102, 97, 108, 115, 101]) ++ ([32] ++ zrK s.p))
theorem zj7 (s : StD) : (ziQ s).data.toList = (zAA s).map fun n => UInt8.ofNat n.toNat := by
 unfold ziQ zjP zAB zAA
 cases s.took <;> simp [ByteArray.data_append, ziL]
theorem u8_inj {x y : Int} (hx : 0 ≤ x ∧ x ≤ 255) (hy : 0 ≤ y ∧ y ≤ 255) (h : UInt8.ofNat x.toNat = UInt8.ofNat y.toNat) : x = y := by
 have h1 := congrArg UInt8.toNat h
 rw [UInt8.toNat_ofNat', UInt8.toNat_ofNat'] at h1
 omega
theorem zl5 : ∀ {l l' : List Int}, (∀ x ∈ l, 0 ≤ x ∧ x ≤ 255) → (∀ x ∈ l', 0 ≤ x ∧ x ≤ 255) → (l.map fun n => UInt8.ofNat n.toNat) = (l'.map fun n => UInt8.ofNat n.toNat) → l = l'
 | [], [], _, _, _ => rfl
 | [], _ :: _, _, _, h => by simp at h
 | _ :: _, [], _, _, h => by simp at h
 | x :: l, y :: l', h1, h2, h => by
  simp only [List.map_cons, List.cons.injEq] at h
  rw [u8_inj (h1 x (by simp)) (h2 y (by simp)) h.1, zl5 (fun z hz => h1 z (by simp [hz])) (fun z hz => h2 z (by simp [hz])) h.2]
theorem zvb {g : zac} (hg : GOk g) {p : zal} (hp : POk g p) : ∀ x ∈ zrK p, 0 ≤ x ∧ x ≤ 255 := by
 have k6 := hg.k6
 have r0 := hp.r0
 have r1 := hp.r1
 have hr : (2 : Int) ^ g.rights.toNat ≤ 16 := by
  have h1 := hg.r0
  have h2 := hg.r4
  rcases (show g.rights = 0 ∨ g.rights = 1 ∨ g.rights = 2 ∨ g.rights = 3 ∨ g.rights = 4 by omega) with h | h | h | h | h <;> rw [h] <;> decide
 have hh : ∀ l, ze5 g l → ∀ x ∈ l, 0 ≤ x ∧ x ≤ 255 := by
  intro l hl x hx
  obtain ⟨i, hi, rfl⟩ := List.mem_iff_getElem.1 hx
  have := hl.v i hi
  rw [zaA _ _ hi] at this
  omega
 intro x hx
 simp only [zrK, List.mem_append, List.mem_cons, List.not_mem_nil, or_false] at hx
 rcases hx with ((hx | hx) | hx) | hx | hx
 ·have := hp.av x hx; omega
 ·exact hh _ hp.h0 x hx
 ·exact hh _ hp.h1 x hx
 ·omega
 ·have := hp.s; omega
theorem zyz {g : zac} (hg : GOk g) {a b : StD} (ha : zgS g a) (hb : zgS g b) (h : ziQ a = ziQ b) : a = b := by
 have k6 := hg.k6
 have c9 := hg.c9
 have hv : ∀ s, zgS g s → ∀ x ∈ zAA s, 0 ≤ x ∧ x ≤ 255 := by
  intro s hs x hx
  have hk := hs.k
  have h0 := hs.c0
  have h1 := hs.c1
  unfold zAA at hx
  rcases List.mem_append.1 hx with hx | hx
  ·simp at hx; omega
  rcases List.mem_append.1 hx with hx | hx
  ·by_cases ht : s.took = true <;> simp [ht] at hx <;> omega
  rcases List.mem_append.1 hx with hx | hx
  ·simp at hx; omega
  ·exact zvb hg hs.p x hx
 have h1 : zAA a = zAA b := zl5 (hv a ha) (hv b hb) (by rw [← zj7, ← zj7, h])
 obtain ⟨pa, ka, ca, ta⟩ := a
 obtain ⟨pb, kb, cb, tb⟩ := b
 unfold zAA at h1
 simp only [List.cons_append, List.nil_append, List.cons.injEq, true_and] at h1
 obtain ⟨e1, e2, h1⟩ := h1
 obtain rfl : ka = kb := by omega
 obtain rfl : ca = cb := by omega
 have h2 : ta = tb ∧ zrK pa = zrK pb := by
  cases ta <;> cases tb <;> simp at h1 ⊢
  ·exact h1
  ·exact h1
 obtain ⟨rfl, h2⟩ := h2
 have a1 := ha.p.al
 have b1 := hb.p.al
 have a2 := ha.p.h0.len
 have b2 := hb.p.h0.len
 have a3 := ha.p.h1.len
 have b3 := hb.p.h1.len
 obtain ⟨pat, ph0, ph1, pr, ps⟩ := pa
 obtain ⟨qat, qh0, qh1, qr, qs⟩ := pb
 simp only [zrK, List.append_assoc] at h2 a1 b1 a2 b2 a3 b3
 obtain ⟨e3, h3⟩ := List.append_inj h2 (by omega)
 obtain ⟨e4, h4⟩ := List.append_inj h3 (by omega)
 obtain ⟨e5, h5⟩ := List.append_inj h4 (by omega)
 simp only [List.cons.injEq, and_true] at h5
 rw [e3, e4, e5, h5.1, h5.2]
def zfa (s : StD) : List AV := [.v (.string (ziQ s)), .v (.bool true)]
theorem zyb {n : Nat} {l : List StD} : (∀ r ∈ l.map zfa, ∀ c ∈ r, Bel n c) = True := by
 refine eq_true ?_
 intro r hr c hc
 obtain ⟨x, _, rfl⟩ := List.mem_map.1 hr
 simp only [zfa, List.mem_cons, List.not_mem_nil, or_false] at hc
 rcases hc with rfl | rfl <;> exact .v _
attribute [go_sem ↓] zyb
theorem zoJ (t : StD) : ∀ (next : List StD), (∀ s ∈ next, ziQ t = ziQ s → t = s) → zd8 .string (.v (.string (ziQ t))) (next.map zfa) = some (if t ∈ next then some (.v (.bool true)) else none)
 | [], _ => by simp [zd8]
 | s :: next, h => by
  rw [List.map_cons, zd8]
  have e : zqR .string (.v (.string (ziQ t))) (cel (zfa s) 0) = some (ziQ t == ziQ s) := rfl
  rw [e, zoi]
  by_cases hk : ziQ t = ziQ s
  ·have := h s (by simp) hk
   subst this
   simp [zfa, cel]
  ·have hne : t ≠ s := fun e => hk (by rw [e])
   rw [decide_eq_false hk]
   simp only
   rw [zoJ t next (fun u hu => h u (by simp [hu]))]
   simp [hne]
theorem zsg (t : StD) : ∀ (next : List StD), (∀ s ∈ next, ziQ t = ziQ s → t = s) → t ∉ next → zhq .string (.v (.string (ziQ t))) (.v (.bool true)) (next.map zfa) = some ((next ++ [t]).map zfa)
 | [], _, _ => by simp [zhq, zfa]
 | s :: next, h, hn => by
  rw [List.map_cons, zhq]
  have e : zqR .string (.v (.string (ziQ t))) (cel (zfa s) 0) = some (ziQ t == ziQ s) := rfl
  rw [e, zoi]
  have hk : ziQ t ≠ ziQ s := fun e => hn (by rw [h s (by simp) e]; simp)
  rw [decide_eq_false hk]
  simp only
  rw [zsg t next (fun u hu => h u (by simp [hu])) (fun hm => hn (by simp [hm]))]
  simp
def zdk (g : zac) (p : zal) (cell i : Int) : List zcU := (zfh g p cell (zbI g p cell i)).filterMap (zhz p.side)
theorem zy7 (g : zac) (hg : GOk g) (p : zal) (hp : POk g p) (cell i : Int) (hc : zct g p cell i) :
  zjp Tryz.prog 183 [.agg (zad g), .agg (zag p), .v (.int .i64 cell), .v (.int .i64 i), .fn (.func 184) [] [.ref 0 0 5 0 0, .ref 1 0 1 0 0]]
   [(0, .rows true 0 5 [zag p]), (1, .rows true 0 1 [[zBo]])] 2 (.v (.int .i64 0))
   [(0, .rows true 0 5 [zag p]), (1, .rows true 0 1 [[.sl 247 (zdk g p cell i).length 6 0 (zdk g p cell i).length]]), (247, .rows true (zdk g p cell i).length 6 ((zdk g p cell i).map zaM))] 248 := by
 unfold zjp
 refine zBm (by kernel_rfl) Tryz.func183 rfl rfl (Nat.le_of_ble_eq_true rfl) (by kernel_rfl) ?_
 have hal := hp.al
 obtain ⟨c0, c1, cm, cs, i0, i1⟩ := hc
 have hcur : cell.toNat < p.at_.length := by omega
 have hat := hp.at (i := cell.toNat) (by omega)
 have hO := zj1 (nth p.at_ cell.toNat)
 have hman := zbl hat.1 hat.2 hg.k6
 have hV := zlv g (by have := hg.k6; unfold zhG; omega) ⟨hg.r0, by have := hg.r4; omega⟩ p (hp.fits hg)
 rw [zq8.2 hp] at hV
 have hkl : (zav (nth p.at_ cell.toNat)).1.toNat < g.kinds.length := by
  rcases hman with ⟨_, e⟩ | ⟨_, a, b, _⟩
  ·rw [e] at cm; simp at cm
  ·omega
 have hil : i.toNat < (nth g.kinds (zav (nth p.at_ cell.toNat)).1.toNat).progs.length := by omega
 have hpg := hg.pr _ (zah hkl) _ (zah hil)
 have hst := fun n hn => zpw hg hp c0 c1 cm (prog := zbI g p cell i) hpg.st n hn
 have hz := zkO g p cell (zbI g p cell i)
 have hsu := fun n hn => zkN g p cell (zbI g p cell i) (n := n) hn
 have hla := zkM g p cell (zbI g p cell i)
 have hp8 := hpg.len
 have hpst := hpg.st
 have hpe : zbI g p cell i = nth (nth g.kinds (zav (nth p.at_ cell.toNat)).1.toNat).progs i.toNat := rfl
 rw [← hpe] at hp8 hpst
 have hlo : zdk g p cell i = (zfh g p cell (zbI g p cell i)).filterMap (zhz p.side) := rfl
 rw [hlo]
 obtain ⟨prog, hprog⟩ : ∃ q, q = zbI g p cell i := ⟨_, rfl⟩
 rw [← hprog] at hst hz hsu hp8 hpst hpe hla ⊢
 have hcp := zhw ⟨p, (zav (nth p.at_ cell.toNat)).1, cell, false⟩ (hp.fits hg)
 generalize hm : zav (nth p.at_ cell.toNat) = m at *
 obtain ⟨mk, ms⟩ := m
 simp only at cm cs i1 hkl hil hpe hcp
 repeat first|refine wV fun _=>?_|simp [go_sem]
 refine zBi hV (by simp [go_sem]) ?_
 repeat first|refine wV fun _=>?_|simp [go_sem, hcur]
 (refine zBj (fun hF => by first | omega | (simp at hF; omega)) (fun hF => ?_); clear hF)
 repeat first|refine wV fun _=>?_|simp [go_sem, hcur]
 refine zBi hO (by simp [go_sem]) ?_
 repeat first|refine wV fun _=>?_|simp [go_sem, hkl, hil, cs]
 (refine zBj (fun hF => by first | omega | (simp at hF; omega)) (fun hF => ?_); clear hF)
 repeat first|refine wV fun _=>?_|simp [go_sem]
 refine zBq hcp (by simp [go_sem]) ?_
 repeat first|refine wV fun _=>?_|simp [go_sem, hcur, hkl, hil]
 rw [← hpe]
 have hsz : ∀ n, n ≤ prog.length → (zdg g p cell prog n).length ≤ 100000000 := fun n hn => Nat.le_trans (hst n hn).2 (zsb (by omega))
 have hst0 : zbz (zdg g p cell prog 0) = .lst 8 [[.lst 1 ((p.at_.map zbd).set cell.toNat [.v (.int .i64 0)]), zaj p.h0, zaj p.h1, .v (.int .i64 p.rights), .v (.int .i64 p.side), .v (.int .i64 mk), .v (.int .i64 cell), .v (.bool false)]] := by
  rw [hz]; simp [zbz, zfd, zar, clr, hm, zaj, zbd, List.map_set]
 refine zBh (zBk (α := Nat) (fun k => ⟨[(4, .fn (.func 184) [] [.ref 0 0 5 0 0, .ref 1 0 1 0 0]), (5, .ref 2 0 9 0 0), (14, zbz (zdg g p cell prog k)), (87, zaq prog), (88, .v (.int .i64 prog.length)), (89, .v (.int .i64 k))],
   [(0, .rows true 0 5 [zag p]), (1, .rows true 0 1 [[.sl 247 0 6 0 0]]), (2, .rows true 0 9 [zad g]), (247, .rows true 0 6 [])], 248⟩)
  (fun d k => k + d = prog.length) ?_ prog.length 0 ?_) ?_ ?_
 ·rintro d k k1 hrec
  repeat first|refine wV fun _=>?_|simp [go_sem]
  refine zBj (fun hk => ?_) (fun hk => ?_) <;> simp at hk
  ·have hkk := hst k (by omega)
   have hks := hsz k (by omega)
   have hks' := hsz (k + 1) (by omega)
   have hsk := hsu k hk
   have hxs := hpst _ (zah hk)
   have hpo := fun n hn => zr8 hg hxs hkk.1 n hn
   have hpa := zpg g (zdg g p cell prog k) (nth prog k)
   have hpz := zt5 g (zdg g p cell prog k) (nth prog k)
   have hps := fun n hn => zme g (zdg g p cell prog k) (nth prog k) (n := n) hn
   rw [← hsk] at hpa
   obtain ⟨now, hnow⟩ : ∃ now, now = zdg g p cell prog k := ⟨_, rfl⟩
   rw [← hnow] at hkk hks hpo hpa hpz hps ⊢
   obtain ⟨x, hx⟩ : ∃ x, x = nth prog k := ⟨_, rfl⟩
   rw [← hx] at hxs hpo hpa hpz hps
   repeat first|refine wV fun _=>?_|simp [go_sem, hk, ← hx]
   refine zBh (zBk (α := Nat) (fun n => ⟨[(4, .fn (.func 184) [] [.ref 0 0 5 0 0, .ref 1 0 1 0 0]), (5, .ref 2 0 9 0 0), (16, .ref 248 0 2 0 0), (17, .sl 250 (zdv g now x n).length 8 0 (zdv g now x n).length), (18, .mp 249), (87, zaq prog), (88, .v (.int .i64 prog.length)), (89, .v (.int .i64 k)), (94, zbz now), (95, .v (.int .i64 now.length)), (96, .v (.int .i64 n))],
     [(0, .rows true 0 5 [zag p]), (1, .rows true 0 1 [[.sl 247 0 6 0 0]]), (2, .rows true 0 9 [zad g]), (247, .rows true 0 6 []), (248, .rows true 0 2 [zaE x]), (249, .rows true 0 2 ((zdv g now x n).map zfa)), (250, .rows true (zdv g now x n).length 8 ((zdv g now x n).map zar))], 251⟩)
    (fun d n => n + d = now.length) ?_ now.length 0 ?_) ?_ ?_
   ·rintro d2 n n1 hrec2
    repeat first|refine wV fun _=>?_|simp [go_sem]
    refine zBj (fun hn => ?_) (fun hn => ?_) <;> simp at hn
    ·have hsn := hkk.1 _ (zah hn)
     have hpn := hps n hn
     have hpoN := hpo n (by omega)
     have hpoS := hpo (n + 1) (by omega)
     have hSt := zxj g hg (nth now n) hsn.1 x hxs
     have hsl := zpx hg (nth now n) x
     have hso := zjl hg hsn.1 hxs
     have hlk : zeR p.side x (nth now n) [] = [] := by unfold zeR; rw [if_neg (by have := hxs.1; omega)]
     obtain ⟨s, hs⟩ : ∃ s, s = nth now n := ⟨_, rfl⟩
     rw [← hs] at hsn hpn hSt hsl hso hlk
     obtain ⟨more, hmore⟩ : ∃ more, more = zbV g s x := ⟨_, rfl⟩
     rw [← hmore] at hpn hSt hsl hso
     have hat := fun j hj => zuW (zdv g now x n) more (i := j) hj
     have hal' := fun j => ziZ (more.take j) (zdv g now x n)
     have haok : ∀ j, ∀ u ∈ zfg (zdv g now x n) (more.take j), zgS g u := fun j => zmI (fun u hu => (hpoN.1 u hu).1) (fun u hu => (hso u (List.mem_of_mem_take hu)).1)
     have haz : zfg (zdv g now x n) (more.take 0) = zdv g now x n := by simp [zxS]
     have haa : zfg (zdv g now x n) (more.take more.length) = zdv g now x (n + 1) := by rw [List.take_length, hpn]
     obtain ⟨nx, hnx⟩ : ∃ nx : Nat → List StD, nx = fun j => zfg (zdv g now x n) (more.take j) := ⟨_, rfl⟩
     have hnx' : ∀ j, zfg (zdv g now x n) (more.take j) = nx j := fun j => by rw [hnx]
     simp only [hnx'] at hat hal' haok haz haa
     clear hnx hnx'
     repeat first|refine wV fun _=>?_|simp [go_sem, hn, ← hs]
     refine zo4 g hg p hp s hsn.1 hsn.2 x [] (by simp) (a := 0) (b := 1) (c := 247) (by decide) (by simp) (by simp [upd, zag, zaj]) (by simp [upd]) (by simp [upd]) ?_
     rw [hlk]
     simp only [zo3]
     repeat first|refine wV fun _=>?_|simp [go_sem]
     refine zBi hSt (by simp [go_sem]) ?_
     repeat first|refine wV fun _=>?_|simp [go_sem]
     refine zBh (zBk (α := Nat) (fun j => ⟨[(4, .fn (.func 184) [] [.ref 0 0 5 0 0, .ref 1 0 1 0 0]), (5, .ref 2 0 9 0 0), (16, .ref 248 0 2 0 0), (17, .sl 250 (nx j).length 8 0 (nx j).length), (18, .mp 249), (87, zaq prog), (88, .v (.int .i64 prog.length)), (89, .v (.int .i64 k)), (94, zbz now), (95, .v (.int .i64 now.length)), (96, .v (.int .i64 n)), (107, zbz more), (108, .v (.int .i64 more.length)), (109, .v (.int .i64 j))],
       [(0, .rows true 0 5 [zag p]), (1, .rows true 0 1 [[.sl 247 0 6 0 0]]), (2, .rows true 0 9 [zad g]), (247, .rows true 0 6 []), (248, .rows true 0 2 [zaE x]), (249, .rows true 0 2 ((nx j).map zfa)), (250, .rows true (nx j).length 8 ((nx j).map zar))], 252⟩)
      (fun d j => j + d = more.length) ?_ more.length 0 ?_) ?_ ?_
     ·rintro d3 j j1 hrec3
      repeat first|refine wV fun _=>?_|simp [go_sem]
      refine zBj (fun hj => ?_) (fun hj => ?_) <;> simp at hj
      ·have htj := (hso _ (zah hj)).1
       have hatj := hat j hj
       have halj := hal' j
       have hmj : (more.take j).length ≤ 10 := by rw [List.length_take]; omega
       obtain ⟨t, ht⟩ : ∃ t, t = nth more j := ⟨_, rfl⟩
       rw [← ht] at htj hatj
       have hk6 := hg.k6
       have hc9 := hg.c9
       have hta := htj.p.al
       have ht0 := htj.p.h0.len
       have ht1 := htj.p.h1.len
       have htk := htj.k
       have htc0 := htj.c0
       have htc1 := htj.c1
       have hKey := zyA t (by omega) (by omega) (by omega) (by omega) (by omega) (zvb hg htj.p)
       have hin : ∀ u ∈ nx j, ziQ t = ziQ u → t = u := fun u hu e => zyz hg htj (haok j u hu) e
       have hfind := zoJ t (nx j) hin
       have hput := zsg t (nx j) hin
       repeat first|refine wV fun _=>?_|simp [go_sem, hj, ← ht]
       refine zBi hKey (by simp [go_sem]) ?_
       by_cases hmem : t ∈ nx j
       ·rw [if_pos hmem] at hatj hfind
        repeat first|refine wV fun _=>?_|simp [go_sem, hfind]
        refine zBh (hrec3 (d3 - 1) (by omega) (j + 1) (by omega)) ?_ (by simp)
        simp [go_sem, zaf, hatj]
       ·rw [if_neg hmem] at hatj hfind
        have hput := hput hmem
        repeat first|refine wV fun _=>?_|simp [go_sem, hfind, hput]
        refine zBh (hrec3 (d3 - 1) (by omega) (j + 1) (by omega)) ?_ (by simp)
        simp [go_sem, zaf, hatj]
        intro c hc
        simp only [zfa, List.mem_cons, List.not_mem_nil, or_false] at hc
        rcases hc with rfl | rfl <;> exact .v _
      ·have hnl : j = more.length := by omega
       subst hnl
       rw [haa]
       repeat first|refine wV fun _=>?_|simp [go_sem]
       refine zBh (hrec2 (d2 - 1) (by omega) (n + 1) (by omega)) ?_ (by simp)
       simp [go_sem, zaf]
     ·omega
     ·simp [go_sem, zaf, haz]
     ·simp
    ·have hnl : n = now.length := by omega
     subst hnl
     rw [hpa]
     repeat first|refine wV fun _=>?_|simp [go_sem]
     refine zBh (hrec (d - 1) (by omega) (k + 1) (by omega)) ?_ (by simp)
     simp [go_sem, zaf]
     exact frX
   ·omega
   ·simp [go_sem, zaf, hpz]
   ·simp
  ·have hkl' : k = prog.length := by omega
   subst hkl'
   rw [hla]
   have hl8 := hsz prog.length (Nat.le_refl _)
   have hlok := (hst prog.length (Nat.le_refl _)).1
   rw [hla] at hl8 hlok
   generalize zfh g p cell prog = last at *
   repeat first|refine wV fun _=>?_|simp [go_sem]
   refine zBh (zBk (α := Nat) (fun j => ⟨[(4, .fn (.func 184) [] [.ref 0 0 5 0 0, .ref 1 0 1 0 0]), (129, zbz last), (130, .v (.int .i64 last.length)), (131, .v (.int .i64 j))],
     [(0, .rows true 0 5 [zag p]), (1, .rows true 0 1 [[.sl 247 ((last.take j).filterMap (zhz p.side)).length 6 0 ((last.take j).filterMap (zhz p.side)).length]]), (247, .rows true ((last.take j).filterMap (zhz p.side)).length 6 (((last.take j).filterMap (zhz p.side)).map zaM))], 248⟩)
    (fun d j => j + d = last.length) ?_ last.length 0 ?_) ?_ ?_
   ·rintro d4 j j1 hrec4
    repeat first|refine wV fun _=>?_|simp [go_sem]
    refine zBj (fun hj => ?_) (fun hj => ?_) <;> simp at hj
    ·have hsj := hlok _ (zah hj)
     have hol : ((last.take j).filterMap (zhz p.side)).length ≤ 100000000 := Nat.le_trans (List.length_filterMap_le _ _) (by rw [List.length_take]; omega)
     have hse : (last.take (j + 1)).filterMap (zhz p.side) = zeR p.side (0, 0) (nth last j) ((last.take j).filterMap (zhz p.side)) := by
      rw [List.take_add_one, List.getElem?_eq_getElem hj, zaA _ _ hj, List.filterMap_append]
      simp only [Option.toList_some, List.filterMap_cons, List.filterMap_nil, zeR, if_true]
      cases zhz p.side last[j] <;> rfl
     obtain ⟨out, hout⟩ : ∃ out, out = (last.take j).filterMap (zhz p.side) := ⟨_, rfl⟩
     rw [← hout] at hol hse ⊢
     obtain ⟨t, ht⟩ : ∃ t, t = nth last j := ⟨_, rfl⟩
     rw [← ht] at hsj hse
     repeat first|refine wV fun _=>?_|simp [go_sem, hj, ← ht]
     refine zo4 g hg p hp t hsj.1 hsj.2 (0, 0) out hol (a := 0) (b := 1) (c := 247) (by decide) (by simp) (by simp [upd, zag, zaj]) (by simp [upd]) (by simp [upd]) ?_
     rw [← hse]
     simp only [zo3]
     repeat first|refine wV fun _=>?_|simp [go_sem]
     refine zBh (hrec4 (d4 - 1) (by omega) (j + 1) (by omega)) ?_ (by simp)
     simp [go_sem, zaf]
    ·have hnl : j = last.length := by omega
     subst hnl
     rw [List.take_length]
     repeat first|refine wV fun _=>?_|simp [go_sem]
     simp [go_sem, zaf]
   ·omega
   ·simp [go_sem, zaf]
   ·simp
 ·omega
 ·simp [go_sem, zaf]
  rw [show AV.lst 8 (List.map zar (zdg g p cell prog 0)) = _ from hst0]
  (first|done|exact dpX)
 ·simp
theorem zyf (a b : zcU) : orI [zcK a.pos b.pos, za0 (if a.took then 1 else 0) (if b.took then 1 else 0)] = znM a b := by
 unfold znM zBf
 simp only [orI]
 repeat' split
 all_goals first | rfl | omega
theorem zgQ (a b : zcU) (ha : zbw a.pos) (hb : zbw b.pos) : zaJ Tryz.prog 186 [.agg (zaM a), .agg (zaM b)] (.v (.int .i64 (znM a b))) := by
 refine pF Tryz.func186 ?_
 rw [← zyf]
 have c1 := zcQ _ _ ha hb
 obtain ⟨pa, ta⟩ := a
 obtain ⟨pb, tb⟩ := b
 have c4 := zdr (if ta then 1 else 0) (if tb then 1 else 0)
 simp only at c1 c4 ⊢
 generalize hx1 : zcK pa pb = x1 at *
 generalize hx2 : za0 (if ta then 1 else 0) (if tb then 1 else 0) = x2 at *
 cases ta <;> cases tb <;> simp only [if_true, Bool.false_eq_true, if_false] at c4 <;>
 ·repeat first|refine wV fun _=>?_|simp [go_sem]
  refine zBl c1 (by simp [go_sem]) ?_
  repeat first|refine wV fun _=>?_|simp [go_sem]
  refine zBl c4 (by simp [go_sem]) ?_
  repeat first|refine wV fun _=>?_|simp [go_sem]
  refine zaQ.frz [zaj [x1, x2]] _ [17] [(17, some (.rows false 0 1 ([x1, x2].map zbd)))] (zrQ _ (by unfold zfk; simp)) ?_ ?_ (by simp [go_sem]) ?_
  ·intro p hp
   simp only [List.mem_singleton] at hp
   subst hp
   exact ⟨by simp, 0, 1, _, rfl, by simp [upd, go_sem]⟩
  ·intro h₁ hS
   have h7 := hS 17 (by simp)
   simp [go_sem] at h7
   exact .cons (zaL h7.symm (by simp) (by simp [zai, upd]) (by simp [go_sem])) .nil
  ·repeat first|refine wV fun _=>?_|simp [go_sem]
theorem zuh (a b : zcU) (ha : zbw a.pos) (hb : zbw b.pos) : zaJ Tryz.prog 188 [.agg (zaM a), .agg (zaM b)] (.v (.bool (decide (a = b)))) := by
 refine pF Tryz.func188 ?_
 have c1 := zgQ a b ha hb
 have e : decide (a = b) = decide (znM a b = 0) := by rw [decide_eq_decide]; exact (zdi.eq a b).symm
 rw [e]
 generalize znM a b = x at *
 repeat first|refine wV fun _=>?_|simp [go_sem]
 refine zBi c1 (by simp [go_sem]) ?_
 repeat first|refine wV fun _=>?_|simp [go_sem]
theorem zrg (a b : zal) (ha : zbw a) (hb : zbw b) : zaJ Tryz.prog 131 [.agg (zag a), .agg (zag b)] (.v (.bool (decide (a = b)))) := by
 refine pF Tryz.func131 ?_
 have c1 := zcQ a b ha hb
 have e : decide (a = b) = decide (zcK a b = 0) := by rw [decide_eq_decide]; exact (zbo.eq a b).symm
 rw [e]
 generalize zcK a b = x at *
 repeat first|refine wV fun _=>?_|simp [go_sem]
 refine zBi c1 (by simp [go_sem]) ?_
 repeat first|refine wV fun _=>?_|simp [go_sem]
def znI : List AV := [.v (.slice none 0 0), .v (.slice none 0 0), .v (.slice none 0 0), .v (.int .i64 0), .v (.int .i64 0), .v (.bool false)]
theorem zjO {α : Type} [DecidableEq α] {l : List α} (h : l.length < 2) : zbj l = l := by
 match l, h with
 | [], _ => rfl
 | [a], _ => rfl
 | a :: b :: l, h => simp only [List.length_cons] at h; omega
end Go.Av
end
