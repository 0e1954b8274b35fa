/- Contracts, the law of layer 8: equality of codes; GenPaths. -/
import Derived.Test.YtmmboiafelbgbaaDS
import Derived.Test.YtmmboiafelbgbaaDK
section
set_option linter.unusedSimpArgs false
set_option linter.unusedVariables false
open Go Go.Proofs
set_option maxRecDepth 20000
set_option maxHeartbeats 4000000
namespace Go.Av
/-- what the lists of a code are -/
theorem sideP_nth (g : GameD) (s : Int) {k c : Nat} (hk : k < g.kinds.length) (hc : c < g.cells.toNat) : nth (nth (sideP g s) k) c = kindP g.board s (nth g.kinds k).progs c := by
  unfold sideP
  rw [nth_map _ _ _ hk]
  have hc' : c < (List.range g.board.cells.toNat).length := by rw [List.length_range]; exact hc
  show nth ((List.range g.board.cells.toNat).map fun (c : Nat) => kindP g.board s (nth g.kinds k).progs c) c = _
  rw [nth_map _ _ _ hc', nth_eq _ _ hc', List.getElem_range]
theorem sideP_nth' (g : GameD) (s : Int) {k c : Nat} (hk : k < g.kinds.length) (hc : c < g.cells.toNat) : nth (nth (sideP g s) k) c = kindP g.board s (nth g.kinds k).progs c := sideP_nth g s hk hc
/-
  rw [nth_map _ _ _ (by simpa [GameD.board] using hc), nth_eq _ _ (by simpa [GameD.board] using hc), List.getElem_range]
-/
theorem kindP_acts {g : GameD} (hg : GOk g) (s : Int) {k : KindD} (hk : k ∈ g.kinds) (c : Int) : ActsLe 1048576 (kindP g.board s k.progs c) := by
  intro w hw
  obtain ⟨p, hp, hw⟩ := List.mem_flatMap.1 hw
  have := pathsK_acts hg.board hg.c9 s p c p.length (Nat.le_refl _) w (by unfold pathsK; rwa [List.take_length])
  have := (hg.pr k hk p hp).len
  omega
/-- a code whose lists fit -/
structure FitC (g : GameD) (c : CodeD) : Prop where
  sh : ShapeOk g c
  len : ∀ l ∈ c.1 ++ c.2, ∀ x ∈ l, x.length ≤ 1099511627776 ∧ ActsLe 1048576 x
theorem fit_codeP {g : GameD} (hg : GOk g) : FitC g (codeP g) := by
  refine ⟨shape_codeP hg, ?_⟩
  have h : ∀ s, ∀ l ∈ sideP g s, ∀ x ∈ l, x.length ≤ 1099511627776 ∧ ActsLe 1048576 x := by
    intro s l hl x hx
    obtain ⟨k, hk, rfl⟩ := List.mem_map.1 hl
    obtain ⟨c, _, rfl⟩ := List.mem_map.1 hx
    exact ⟨by have := kindP_len hg s hk (c : Nat); omega, kindP_acts hg s hk _⟩
  intro l hl
  rcases List.mem_append.1 hl with hl | hl
  · exact h 0 l hl
  · exact h 1 l hl
theorem FitC.side {g : GameD} {c : CodeD} (h : FitC g c) {s : Nat} (hs : s < 2) : ∃ l, cel [encSide c.1, encSide c.2] s = encSide l ∧ l.length = g.kinds.length ∧ (∀ x ∈ l, (x.length : Int) = g.cells) ∧ ∀ x ∈ l, ∀ y ∈ x, y.length ≤ 1099511627776 ∧ ActsLe 1048576 y := by
  rcases (show s = 0 ∨ s = 1 by omega) with rfl | rfl
  · exact ⟨_, rfl, h.sh.l1, h.sh.c1, fun x hx => h.len x (by simp [hx])⟩
  · exact ⟨_, rfl, h.sh.l2, h.sh.c2, fun x hx => h.len x (by simp [hx])⟩
theorem Same_true (g : GameD) (hg : GOk g) (c : CodeD) (hc : FitC g c) : Pure Try.prog 22 [.agg (encGame g), .agg (encCode c), .agg (encCode c)] (.v (.bool true)) := by
  refine Pure.of (ACallP.of_awp (by kernel_rfl) Try.func22 rfl rfl (Nat.le_of_ble_eq_true rfl) (by kernel_rfl) ?_)
  have hS := Shaped_true g hg c hc.sh
  have hk6 := hg.k6
  have hc9 := hg.c9
  have hc1 := hg.c1
  have hgl : (encGame g).length = 9 := rfl
  have hgb : ∀ n, (∀ c ∈ encGame g, Bel n c) = True := fun n => by simp [go_sem]
  have hg0 : cel (encGame g) 0 = .v (.int .i64 g.cells) := rfl
  have hg3 : cel (encGame g) 3 = .lst 3 (g.kinds.map encKind) := rfl
  have hcl : (encCode c).length = 2 := rfl
  have hcb : ∀ n, (∀ x ∈ encCode c, Bel n x) = True := fun n => by simp [go_sem]
  have hsd : ∀ s, s < 2 → ∃ l, cel (encCode c) s = encSide l ∧ l.length = g.kinds.length ∧ (∀ x ∈ l, (x.length : Int) = g.cells) ∧ ∀ x ∈ l, ∀ y ∈ x, y.length ≤ 1099511627776 ∧ ActsLe 1048576 y := fun s hs => hc.side hs
  generalize encGame g = eg at *
  generalize encCode c = ec at *
  (repeat (first | ((with_reducible refine VC.mkL ?_ fun _ => ?_); · first | omega | exact True.intro | rfl) | ((with_reducible refine VC.mkD ?_ fun _ => ?_); · first | omega | exact True.intro | (intros; omega)) | ((with_reducible refine dEnd.mk ?_ ?_); · kernel_rfl) | (with_reducible refine adrZ.go ?_) | (simp [go_sem, hgl, hcl])))
  refine ACallP.plain hS (by simp [go_sem, hgb, hcb]) ?_
  (repeat (first | ((with_reducible refine VC.mkL ?_ fun _ => ?_); · first | omega | exact True.intro | rfl) | ((with_reducible refine VC.mkD ?_ fun _ => ?_); · first | omega | exact True.intro | (intros; omega)) | ((with_reducible refine dEnd.mk ?_ ?_); · kernel_rfl) | (with_reducible refine adrZ.go ?_) | (simp [go_sem, hgl, hcl])))
  refine aGC.plain _ (fun _ => hS) (by simp [go_sem, hgb, hcb]) ?_
  (repeat (first | ((with_reducible refine VC.mkL ?_ fun _ => ?_); · first | omega | exact True.intro | rfl) | ((with_reducible refine VC.mkD ?_ fun _ => ?_); · first | omega | exact True.intro | (intros; omega)) | ((with_reducible refine dEnd.mk ?_ ?_); · kernel_rfl) | (with_reducible refine adrZ.go ?_) | (simp [go_sem, hgl, hcl])))
  refine ALoop.start (ALoop.ind (α := Nat) (fun s => ⟨[(3, .ref 0 0 9 0 0), (4, .ref 1 0 2 0 0), (5, .ref 2 0 2 0 0), (7, .v (.int .i64 s))], [(0, .rows true 0 9 [eg]), (1, .rows true 0 2 [ec]), (2, .rows true 0 2 [ec])], 3⟩)
    (fun d s => s + d = 2) ?_ 2 0 ?_) ?_ ?_
  · rintro d s s1 hrec
    rcases (show s = 2 ∨ s < 2 by omega) with rfl | hs2
    · (repeat (first | ((with_reducible refine VC.mkL ?_ fun _ => ?_); · first | omega | exact True.intro | rfl) | ((with_reducible refine VC.mkD ?_ fun _ => ?_); · first | omega | exact True.intro | (intros; omega)) | ((with_reducible refine dEnd.mk ?_ ?_); · kernel_rfl) | (with_reducible refine adrZ.go ?_) | (simp [go_sem, hgl, hcl])))
    · obtain ⟨l, hl0, hl1, hl2, hl3⟩ := hsd s hs2
      simp only [encSide, encCells, encPt] at hl0
      (repeat (first | ((with_reducible refine VC.mkL ?_ fun _ => ?_); · first | omega | exact True.intro | rfl) | ((with_reducible refine VC.mkD ?_ fun _ => ?_); · first | omega | exact True.intro | (intros; omega)) | ((with_reducible refine dEnd.mk ?_ ?_); · kernel_rfl) | (with_reducible refine adrZ.go ?_) | (simp [go_sem, hgl, hcl, hl0])))
      (refine aIf.mkL (fun hT => ?_) (fun hT => by first | omega | (simp at hT; omega)); clear hT)
      (repeat (first | ((with_reducible refine VC.mkL ?_ fun _ => ?_); · first | omega | exact True.intro | rfl) | ((with_reducible refine VC.mkD ?_ fun _ => ?_); · first | omega | exact True.intro | (intros; omega)) | ((with_reducible refine dEnd.mk ?_ ?_); · kernel_rfl) | (with_reducible refine adrZ.go ?_) | (simp [go_sem, hgl, hcl, hl0])))
      refine ALoop.start (ALoop.ind (α := Nat) (fun k => ⟨[(3, .ref 0 0 9 0 0), (4, .ref 1 0 2 0 0), (5, .ref 2 0 2 0 0), (7, .v (.int .i64 s)), (8, .v (.int .i64 k))], [(0, .rows true 0 9 [eg]), (1, .rows true 0 2 [ec]), (2, .rows true 0 2 [ec])], 3⟩)
        (fun d k => k + d = g.kinds.length) ?_ g.kinds.length 0 ?_) ?_ ?_
      · rintro d2 k k1 hrec2
        (repeat (first | ((with_reducible refine VC.mkL ?_ fun _ => ?_); · first | omega | exact True.intro | rfl) | ((with_reducible refine VC.mkD ?_ fun _ => ?_); · first | omega | exact True.intro | (intros; omega)) | ((with_reducible refine dEnd.mk ?_ ?_); · kernel_rfl) | (with_reducible refine adrZ.go ?_) | (simp [go_sem, hgl, hcl, hg3])))
        refine aIf.mkL (fun hk => ?_) (fun hk => ?_) <;> simp at hk
        · have hkl : k < l.length := by omega
          have hx2 := hl2 _ (nth_mem hkl)
          have hx3 := hl3 _ (nth_mem hkl)
          (repeat (first | ((with_reducible refine VC.mkL ?_ fun _ => ?_); · first | omega | exact True.intro | rfl) | ((with_reducible refine VC.mkD ?_ fun _ => ?_); · first | omega | exact True.intro | (intros; omega)) | ((with_reducible refine dEnd.mk ?_ ?_); · kernel_rfl) | (with_reducible refine adrZ.go ?_) | (simp [go_sem, hgl, hcl])))
          refine ALoop.start (ALoop.ind (α := Nat) (fun c => ⟨[(3, .ref 0 0 9 0 0), (4, .ref 1 0 2 0 0), (5, .ref 2 0 2 0 0), (7, .v (.int .i64 s)), (8, .v (.int .i64 k)), (9, .v (.int .i64 c))], [(0, .rows true 0 9 [eg]), (1, .rows true 0 2 [ec]), (2, .rows true 0 2 [ec])], 3⟩)
            (fun d c => c + d = g.cells.toNat) ?_ g.cells.toNat 0 ?_) ?_ ?_
          · rintro d3 c c1 hrec3
            (repeat (first | ((with_reducible refine VC.mkL ?_ fun _ => ?_); · first | omega | exact True.intro | rfl) | ((with_reducible refine VC.mkD ?_ fun _ => ?_); · first | omega | exact True.intro | (intros; omega)) | ((with_reducible refine dEnd.mk ?_ ?_); · kernel_rfl) | (with_reducible refine adrZ.go ?_) | (simp [go_sem, hgl, hcl, hg0])))
            refine aIf.mkL (fun hcc => ?_) (fun hcc => ?_) <;> simp at hcc
            · have hcl' : c < (nth l k).length := by omega
              obtain ⟨y1, y2⟩ := hx3 _ (nth_mem hcl')
              (repeat (first | ((with_reducible refine VC.mkL ?_ fun _ => ?_); · first | omega | exact True.intro | rfl) | ((with_reducible refine VC.mkD ?_ fun _ => ?_); · first | omega | exact True.intro | (intros; omega)) | ((with_reducible refine dEnd.mk ?_ ?_); · kernel_rfl) | (with_reducible refine adrZ.go ?_) | (simp [go_sem, hgl, hcl, hl0, hkl, hcl'])))
              try ((with_reducible refine adrZ.go ?_); (try simp [go_sem]))
              refine dCall.plain (SamePaths_true _ y1 y2) (by simp [go_sem]) ?_
              (repeat (first | ((with_reducible refine VC.mkL ?_ fun _ => ?_); · first | omega | exact True.intro | rfl) | ((with_reducible refine VC.mkD ?_ fun _ => ?_); · first | omega | exact True.intro | (intros; omega)) | ((with_reducible refine dEnd.mk ?_ ?_); · kernel_rfl) | (with_reducible refine adrZ.go ?_) | (simp [go_sem, hgl, hcl, hl0, hkl, hcl'])))
              refine ALoop.start (hrec3 (d3 - 1) (by omega) (c + 1) (by omega)) ?_ (by simp)
              simp [go_sem, Wk_eq, hgl, hcl, hgb, hcb]
            · (repeat (first | ((with_reducible refine VC.mkL ?_ fun _ => ?_); · first | omega | exact True.intro | rfl) | ((with_reducible refine VC.mkD ?_ fun _ => ?_); · first | omega | exact True.intro | (intros; omega)) | ((with_reducible refine dEnd.mk ?_ ?_); · kernel_rfl) | (with_reducible refine adrZ.go ?_) | (simp [go_sem, hgl, hcl])))
              refine ALoop.start (hrec2 (d2 - 1) (by omega) (k + 1) (by omega)) ?_ (by simp)
              simp [go_sem, Wk_eq, hgl, hcl, hgb, hcb]
          · simp
          · simp [go_sem, Wk_eq, hgl, hcl, hgb, hcb]
          · simp
        · (repeat (first | ((with_reducible refine VC.mkL ?_ fun _ => ?_); · first | omega | exact True.intro | rfl) | ((with_reducible refine VC.mkD ?_ fun _ => ?_); · first | omega | exact True.intro | (intros; omega)) | ((with_reducible refine dEnd.mk ?_ ?_); · kernel_rfl) | (with_reducible refine adrZ.go ?_) | (simp [go_sem, hgl, hcl])))
          refine ALoop.start (hrec (d - 1) (by omega) (s + 1) (by omega)) ?_ (by simp)
          simp [go_sem, Wk_eq, hgl, hcl, hgb, hcb]
      · simp
      · simp [go_sem, Wk_eq, hgl, hcl, hgb, hcb]
      · simp
  · simp
  · simp [go_sem, Wk_eq, hgl, hcl, hgb, hcb]
  · simp
/-! ### GenPaths -/
theorem libL_slide (d e k r : Int) (i : Nat) : countOp (nth (libL d e k r) i) 2 ≤ 1 := by
  rcases Nat.lt_or_ge i 16 with h | h
  · have : ∀ p ∈ libL d e k r, countOp p 2 ≤ 1 := by
      intro p hp
      simp only [libL, List.mem_cons, List.not_mem_nil, or_false] at hp
      rcases hp with rfl | rfl | rfl | rfl | rfl | rfl | rfl | rfl | rfl | rfl | rfl | rfl | rfl | rfl | rfl | rfl <;> simp [countOp]
    exact this _ (nth_mem h)
  · have e : nth (libL d e k r) i = [] := by
      unfold nth
      rw [List.getD_eq_getElem?_getD, List.getElem?_eq_none (by exact h)]; rfl
    rw [e]
    simp [countOp]
theorem fitP_slide {dirs kinds rights : Int} {p : List (Int × Int)} (h : countOp p 2 ≤ 1) : countOp (fitP dirs kinds rights p) 2 ≤ 1 := by
  unfold fitP
  split
  · simp [countOp]
  · exact Nat.le_trans (fit_count 2 p) h
theorem madeG_slide (x : RawG) : OneSlide (madeG x) := by
  intro k hk p hp
  obtain ⟨i, _, rfl⟩ := List.mem_map.1 hk
  obtain ⟨n, _, rfl⟩ := List.mem_map.1 hp
  exact fitP_slide (libL_slide _ _ _ _ _)
theorem raw6_len {x : Raw6} (hx : Raw6Ok x) : (encRaw6 x).length = 31 := by
  obtain ⟨rl, _, _, _, _, _, rb⟩ := rawRow hx.p
  simp [encRaw6, encRaw, rl]
theorem raw6_bel {x : Raw6} (hx : Raw6Ok x) (n : Nat) : (∀ c ∈ encRaw6 x, Bel n c) = True := by
  obtain ⟨rl, _, _, _, _, _, rb⟩ := rawRow hx.p
  refine eq_true ?_
  intro c hc
  unfold encRaw6 at hc
  rcases List.mem_append.1 hc with h | h
  · have : (∀ c ∈ encRaw x.g, Bel n c) = True := by simp [go_sem]
    exact of_eq_true this c h
  · rcases List.mem_append.1 h with h | h
    · exact of_eq_true (rb n) c h
    · simp only [List.mem_singleton] at h
      subst h
      simp [go_sem]
theorem GenPaths_pure (x : Raw6) (hx : Raw6Ok x) : Pure Try.prog 3 [.agg (encRaw6 x)] (.v (.bool true)) := by
  refine Pure.of (ACallP.of_awp (by kernel_rfl) Try.func3 rfl rfl (Nat.le_of_ble_eq_true rfl) (by kernel_rfl) ?_)
  have hM := R6Made_pure x hx
  have hg := game6_ok hx
  have hsl : OneSlide (game6 x) := madeG_slide x.g
  have hC := Compile_pure (game6 x) hg
  have hF := fit_codeP hg
  have hS := Shaped_true (game6 x) hg _ hF.sh
  have hcnt := countC_le hg hsl
  have hk6 := hg.k6
  have hc9 := hg.c9
  have hc1 := hg.c1
  have hN := gCount_pure (codeP (game6 x)) (by omega) (by rw [hF.sh.l1]; omega) (by rw [hF.sh.l2]; omega) (fun y hy => by
    rcases List.mem_append.1 hy with h | h
    · have := hF.sh.c1 y h; omega
    · have := hF.sh.c2 y h; omega)
  have hcell := fun n => cell_pure (game6 x) n
  have hacts := fun (l : List ActD) h1 h2 h3 h4 h5 => acts_pure (game6 x) hg.r4 hk6 l h1 h2 h3 h4 h5
  have hsd : ∀ s, s < 2 → ∃ l, cel (encCode (codeP (game6 x))) s = encSide l ∧ l.length = (game6 x).kinds.length ∧ (∀ y ∈ l, (y.length : Int) = (game6 x).cells) ∧ ∀ k c, k < (game6 x).kinds.length → c < (game6 x).cells.toNat →
      (nth (nth l k) c).length ≤ 8589934592 ∧ ∀ w ∈ nth (nth l k) c, w.acts.length ≤ 1048576 ∧ PathOk (game6 x).cells (game6 x).kinds.length (game6 x).rights w 2 1 1 := by
    intro s hs
    have hgen : ∀ s : Int, ∀ k c, k < (game6 x).kinds.length → c < (game6 x).cells.toNat → (nth (nth (sideP (game6 x) s) k) c).length ≤ 8589934592 ∧ ∀ w ∈ nth (nth (sideP (game6 x) s) k) c, w.acts.length ≤ 1048576 ∧ PathOk (game6 x).cells (game6 x).kinds.length (game6 x).rights w 2 1 1 := by
      intro s k c hk hc
      rw [sideP_nth _ _ hk hc]
      exact ⟨kindP_len hg s (nth_mem hk) c, fun w hw => ⟨kindP_acts hg s (nth_mem hk) c w hw, kindP_ok hg (nth_mem hk) ⟨by omega, by omega⟩ w hw⟩⟩
    rcases (show s = 0 ∨ s = 1 by omega) with rfl | rfl
    · exact ⟨_, rfl, hF.sh.l1, hF.sh.c1, hgen 0⟩
    · exact ⟨_, rfl, hF.sh.l2, hF.sh.c2, hgen 1⟩
  obtain ⟨er, her⟩ : ∃ er, er = encRaw6 x := ⟨_, rfl⟩
  have herl : er.length = 31 := by rw [her]; exact raw6_len hx
  have herb : ∀ n, (∀ c ∈ er, Bel n c) = True := fun n => by rw [her]; exact raw6_bel hx n
  rw [← her] at hM ⊢
  have hgl : (encGame (game6 x)).length = 9 := rfl
  have hgb : ∀ n, (∀ c ∈ encGame (game6 x), Bel n c) = True := fun n => by simp [go_sem]
  have hg0 : cel (encGame (game6 x)) 0 = .v (.int .i64 (game6 x).cells) := rfl
  have hg3 : cel (encGame (game6 x)) 3 = .lst 3 ((game6 x).kinds.map encKind) := rfl
  have hcl : (encCode (codeP (game6 x))).length = 2 := rfl
  have hcb : ∀ n, (∀ y ∈ encCode (codeP (game6 x)), Bel n y) = True := fun n => by simp [go_sem]
  have hSan := sanity8_pure
  generalize game6 x = g at *
  generalize encGame g = eg at *
  generalize encCode (codeP g) = ec at *
  generalize countC (codeP g) = N at *
  generalize pos6 x = q at *
  (repeat (first | ((with_reducible refine VC.mkL ?_ fun _ => ?_); · first | omega | exact True.intro | rfl) | ((with_reducible refine VC.mkD ?_ fun _ => ?_); · first | omega | exact True.intro | (intros; omega)) | ((with_reducible refine dEnd.mk ?_ ?_); · kernel_rfl) | (with_reducible refine adrZ.go ?_) | (simp [go_sem, herl, hgl, hcl])))
  refine ACallP.plain hSan (by simp [go_sem]) ?_
  (repeat (first | ((with_reducible refine VC.mkL ?_ fun _ => ?_); · first | omega | exact True.intro | rfl) | ((with_reducible refine VC.mkD ?_ fun _ => ?_); · first | omega | exact True.intro | (intros; omega)) | ((with_reducible refine dEnd.mk ?_ ?_); · kernel_rfl) | (with_reducible refine adrZ.go ?_) | (simp [go_sem, herl, hgl, hcl])))
  refine ACallP.plain hM (by simp [go_sem, herb]) ?_
  (repeat (first | ((with_reducible refine VC.mkL ?_ fun _ => ?_); · first | omega | exact True.intro | rfl) | ((with_reducible refine VC.mkD ?_ fun _ => ?_); · first | omega | exact True.intro | (intros; omega)) | ((with_reducible refine dEnd.mk ?_ ?_); · kernel_rfl) | (with_reducible refine adrZ.go ?_) | (simp [go_sem, herl, hgl, hcl])))
  refine ACallP.plain hC (by simp [go_sem, hgb]) ?_
  (repeat (first | ((with_reducible refine VC.mkL ?_ fun _ => ?_); · first | omega | exact True.intro | rfl) | ((with_reducible refine VC.mkD ?_ fun _ => ?_); · first | omega | exact True.intro | (intros; omega)) | ((with_reducible refine dEnd.mk ?_ ?_); · kernel_rfl) | (with_reducible refine adrZ.go ?_) | (simp [go_sem, herl, hgl, hcl])))
  refine ACallP.plain hS (by simp [go_sem, hgb, hcb]) ?_
  (repeat (first | ((with_reducible refine VC.mkL ?_ fun _ => ?_); · first | omega | exact True.intro | rfl) | ((with_reducible refine VC.mkD ?_ fun _ => ?_); · first | omega | exact True.intro | (intros; omega)) | ((with_reducible refine dEnd.mk ?_ ?_); · kernel_rfl) | (with_reducible refine adrZ.go ?_) | (simp [go_sem, herl, hgl, hcl])))
  refine aGC.plain _ (fun _ => hN) (by simp [go_sem, hcb]) ?_
  (repeat (first | ((with_reducible refine VC.mkL ?_ fun _ => ?_); · first | omega | exact True.intro | rfl) | ((with_reducible refine VC.mkD ?_ fun _ => ?_); · first | omega | exact True.intro | (intros; omega)) | ((with_reducible refine dEnd.mk ?_ ?_); · kernel_rfl) | (with_reducible refine adrZ.go ?_) | (simp [go_sem, herl, hgl, hcl])))
  (refine aIf.mkL (fun hF => by first | omega | (simp at hF; omega)) (fun hF => ?_); clear hF)
  (repeat (first | ((with_reducible refine VC.mkL ?_ fun _ => ?_); · first | omega | exact True.intro | rfl) | ((with_reducible refine VC.mkD ?_ fun _ => ?_); · first | omega | exact True.intro | (intros; omega)) | ((with_reducible refine dEnd.mk ?_ ?_); · kernel_rfl) | (with_reducible refine adrZ.go ?_) | (simp [go_sem, herl, hgl, hcl])))
  refine ALoop.start (ALoop.ind (α := Nat) (fun s => ⟨[(3, .v (.bool true)), (4, .ref 1 0 9 0 0), (6, .ref 3 0 2 0 0), (7, .v (.int .i64 s))], [(1, .rows true 0 9 [eg]), (3, .rows true 0 2 [ec])], 4⟩)
    (fun d s => s + d = 2) ?_ 2 0 ?_) ?_ ?_
  · rintro d s s1 hrec
    rcases (show s = 2 ∨ s < 2 by omega) with rfl | hs2
    · (repeat (first | ((with_reducible refine VC.mkL ?_ fun _ => ?_); · first | omega | exact True.intro | rfl) | ((with_reducible refine VC.mkD ?_ fun _ => ?_); · first | omega | exact True.intro | (intros; omega)) | ((with_reducible refine dEnd.mk ?_ ?_); · kernel_rfl) | (with_reducible refine adrZ.go ?_) | (simp [go_sem, hgl, hcl])))
    · obtain ⟨l, hl0, hl1, hl2, hl3⟩ := hsd s hs2
      simp only [encSide, encCells, encPt] at hl0
      (repeat (first | ((with_reducible refine VC.mkL ?_ fun _ => ?_); · first | omega | exact True.intro | rfl) | ((with_reducible refine VC.mkD ?_ fun _ => ?_); · first | omega | exact True.intro | (intros; omega)) | ((with_reducible refine dEnd.mk ?_ ?_); · kernel_rfl) | (with_reducible refine adrZ.go ?_) | (simp [go_sem, hgl, hcl, hl0])))
      (refine aIf.mkL (fun hT => ?_) (fun hT => by first | omega | (simp at hT; omega)); clear hT)
      (repeat (first | ((with_reducible refine VC.mkL ?_ fun _ => ?_); · first | omega | exact True.intro | rfl) | ((with_reducible refine VC.mkD ?_ fun _ => ?_); · first | omega | exact True.intro | (intros; omega)) | ((with_reducible refine dEnd.mk ?_ ?_); · kernel_rfl) | (with_reducible refine adrZ.go ?_) | (simp [go_sem, hgl, hcl, hl0])))
      refine ALoop.start (ALoop.ind (α := Nat) (fun k => ⟨[(3, .v (.bool true)), (4, .ref 1 0 9 0 0), (6, .ref 3 0 2 0 0), (7, .v (.int .i64 s)), (8, .v (.int .i64 k))], [(1, .rows true 0 9 [eg]), (3, .rows true 0 2 [ec])], 4⟩)
        (fun d k => k + d = g.kinds.length) ?_ g.kinds.length 0 ?_) ?_ ?_
      · rintro d2 k k1 hrec2
        (repeat (first | ((with_reducible refine VC.mkL ?_ fun _ => ?_); · first | omega | exact True.intro | rfl) | ((with_reducible refine VC.mkD ?_ fun _ => ?_); · first | omega | exact True.intro | (intros; omega)) | ((with_reducible refine dEnd.mk ?_ ?_); · kernel_rfl) | (with_reducible refine adrZ.go ?_) | (simp [go_sem, hgl, hcl, hg3])))
        refine aIf.mkL (fun hk => ?_) (fun hk => ?_) <;> simp at hk
        · have hkl : k < l.length := by omega
          have hx2 := hl2 _ (nth_mem hkl)
          (repeat (first | ((with_reducible refine VC.mkL ?_ fun _ => ?_); · first | omega | exact True.intro | rfl) | ((with_reducible refine VC.mkD ?_ fun _ => ?_); · first | omega | exact True.intro | (intros; omega)) | ((with_reducible refine dEnd.mk ?_ ?_); · kernel_rfl) | (with_reducible refine adrZ.go ?_) | (simp [go_sem, hgl, hcl])))
          refine ALoop.start (ALoop.ind (α := Nat) (fun c => ⟨[(3, .v (.bool true)), (4, .ref 1 0 9 0 0), (6, .ref 3 0 2 0 0), (7, .v (.int .i64 s)), (8, .v (.int .i64 k)), (9, .v (.int .i64 c))], [(1, .rows true 0 9 [eg]), (3, .rows true 0 2 [ec])], 4⟩)
            (fun d c => c + d = g.cells.toNat) ?_ g.cells.toNat 0 ?_) ?_ ?_
          · rintro d3 c c1 hrec3
            (repeat (first | ((with_reducible refine VC.mkL ?_ fun _ => ?_); · first | omega | exact True.intro | rfl) | ((with_reducible refine VC.mkD ?_ fun _ => ?_); · first | omega | exact True.intro | (intros; omega)) | ((with_reducible refine dEnd.mk ?_ ?_); · kernel_rfl) | (with_reducible refine adrZ.go ?_) | (simp [go_sem, hgl, hcl, hg0])))
            refine aIf.mkL (fun hcc => ?_) (fun hcc => ?_) <;> simp at hcc
            · have hcl' : c < (nth l k).length := by omega
              obtain ⟨y1, y2⟩ := hl3 k c hk (by omega)
              (repeat (first | ((with_reducible refine VC.mkL ?_ fun _ => ?_); · first | omega | exact True.intro | rfl) | ((with_reducible refine VC.mkD ?_ fun _ => ?_); · first | omega | exact True.intro | (intros; omega)) | ((with_reducible refine dEnd.mk ?_ ?_); · kernel_rfl) | (with_reducible refine adrZ.go ?_) | (simp [go_sem, hgl, hcl, hl0, hkl, hcl'])))
              generalize nth (nth l k) c = P at *
              refine ALoop.start (ALoop.ind (α := Nat) (fun i => ⟨[(3, .v (.bool true)), (4, .ref 1 0 9 0 0), (6, .ref 3 0 2 0 0), (7, .v (.int .i64 s)), (8, .v (.int .i64 k)), (9, .v (.int .i64 c)), (10, encPt P), (11, .v (.int .i64 i))], [(1, .rows true 0 9 [eg]), (3, .rows true 0 2 [ec])], 4⟩)
                (fun d i => i + d = P.length) ?_ P.length 0 ?_) ?_ ?_
              · rintro d4 i i1 hrec4
                (repeat (first | ((with_reducible refine VC.mkL ?_ fun _ => ?_); · first | omega | exact True.intro | rfl) | ((with_reducible refine VC.mkD ?_ fun _ => ?_); · first | omega | exact True.intro | (intros; omega)) | ((with_reducible refine dEnd.mk ?_ ?_); · kernel_rfl) | (with_reducible refine adrZ.go ?_) | (simp [go_sem, hgl, hcl])))
                refine aIf.mkL (fun hi => ?_) (fun hi => ?_) <;> simp at hi
                · obtain ⟨z1, z2⟩ := y2 _ (nth_mem hi)
                  have hto1 := z2.to.1
                  have hto2 := z2.to.2
                  (repeat (first | ((with_reducible refine VC.mkL ?_ fun _ => ?_); · first | omega | exact True.intro | rfl) | ((with_reducible refine VC.mkD ?_ fun _ => ?_); · first | omega | exact True.intro | (intros; omega)) | ((with_reducible refine dEnd.mk ?_ ?_); · kernel_rfl) | (with_reducible refine adrZ.go ?_) | (simp [go_sem, hgl, hgb, hcl, hi])))
                  try ((with_reducible refine adrZ.go ?_); (try simp [go_sem]))
                  refine dCall.plain (hcell (nth P i).to) (by simp [go_sem, hgb]) ?_
                  (repeat (first | ((with_reducible refine VC.mkL ?_ fun _ => ?_); · first | omega | exact True.intro | rfl) | ((with_reducible refine VC.mkD ?_ fun _ => ?_); · first | omega | exact True.intro | (intros; omega)) | ((with_reducible refine dEnd.mk ?_ ?_); · kernel_rfl) | (with_reducible refine adrZ.go ?_) | (simp [go_sem, hgl, hgb, hcl, hi, hto1, hto2])))
                  try ((with_reducible refine adrZ.go ?_); (try simp [go_sem]))
                  refine dGC.plain _ (fun _ => hacts (nth P i).acts z1 z2.acts z2.take z2.push z2.become) (by simp [go_sem, hgb]) ?_
                  (repeat (first | ((with_reducible refine VC.mkL ?_ fun _ => ?_); · first | omega | exact True.intro | rfl) | ((with_reducible refine VC.mkD ?_ fun _ => ?_); · first | omega | exact True.intro | (intros; omega)) | ((with_reducible refine dEnd.mk ?_ ?_); · kernel_rfl) | (with_reducible refine adrZ.go ?_) | (simp [go_sem, hgl, hgb, hcl])))
                  refine ALoop.start (hrec4 (d4 - 1) (by omega) (i + 1) (by omega)) ?_ (by simp)
                  simp [go_sem, Wk_eq, hgl, hcl, hgb, hcb]
                · (repeat (first | ((with_reducible refine VC.mkL ?_ fun _ => ?_); · first | omega | exact True.intro | rfl) | ((with_reducible refine VC.mkD ?_ fun _ => ?_); · first | omega | exact True.intro | (intros; omega)) | ((with_reducible refine dEnd.mk ?_ ?_); · kernel_rfl) | (with_reducible refine adrZ.go ?_) | (simp [go_sem, hgl, hcl])))
                  refine ALoop.start (hrec3 (d3 - 1) (by omega) (c + 1) (by omega)) ?_ (by simp)
                  simp [go_sem, Wk_eq, hgl, hcl, hgb, hcb]
              · simp
              · simp [go_sem, Wk_eq, hgl, hcl, hgb, hcb]
              · simp
            · (repeat (first | ((with_reducible refine VC.mkL ?_ fun _ => ?_); · first | omega | exact True.intro | rfl) | ((with_reducible refine VC.mkD ?_ fun _ => ?_); · first | omega | exact True.intro | (intros; omega)) | ((with_reducible refine dEnd.mk ?_ ?_); · kernel_rfl) | (with_reducible refine adrZ.go ?_) | (simp [go_sem, hgl, hcl])))
              refine ALoop.start (hrec2 (d2 - 1) (by omega) (k + 1) (by omega)) ?_ (by simp)
              simp [go_sem, Wk_eq, hgl, hcl, hgb, hcb]
          · simp
          · simp [go_sem, Wk_eq, hgl, hcl, hgb, hcb]
          · simp
        · (repeat (first | ((with_reducible refine VC.mkL ?_ fun _ => ?_); · first | omega | exact True.intro | rfl) | ((with_reducible refine VC.mkD ?_ fun _ => ?_); · first | omega | exact True.intro | (intros; omega)) | ((with_reducible refine dEnd.mk ?_ ?_); · kernel_rfl) | (with_reducible refine adrZ.go ?_) | (simp [go_sem, hgl, hcl])))
          refine ALoop.start (hrec (d - 1) (by omega) (s + 1) (by omega)) ?_ (by simp)
          simp [go_sem, Wk_eq, hgl, hcl, hgb, hcb]
      · simp
      · simp [go_sem, Wk_eq, hgl, hcl, hgb, hcb]
      · simp
  · simp
  · simp [go_sem, Wk_eq, hgl, hcl, hgb, hcb]
  · simp
end Go.Av
end
section
set_option linter.unusedSimpArgs false
set_option linter.unusedVariables false
open Go Go.Proofs
set_option maxRecDepth 20000
set_option maxHeartbeats 4000000
namespace Go.Av
/-- a list whose first i elements have been turned -/
def mixL {α : Type} (f : α → α) (l : List α) (i : Nat) : List α := (l.take i).map f ++ l.drop i
section
variable {α : Type} (f : α → α) (l : List α)
theorem mixL_zero : mixL f l 0 = l := by simp [mixL]
theorem mixL_all : mixL f l l.length = l.map f := by simp [mixL]
theorem mixL_len (i : Nat) : (mixL f l i).length = l.length := by simp [mixL]; omega
theorem mixL_nth [Inhabited α] {i : Nat} (h : i < l.length) : nth (mixL f l i) i = nth l i := by
  rw [nth_eq _ _ (by rw [mixL_len]; exact h), nth_eq _ _ h]
  unfold mixL
  rw [List.getElem_append_right (by simp; omega)]
  simp [Nat.min_eq_left (Nat.le_of_lt h)]
theorem mixL_succ [Inhabited α] {i : Nat} (h : i < l.length) : mixL f l (i + 1) = (mixL f l i).set i (f (nth l i)) := by
  unfold mixL
  rw [List.take_add_one, List.getElem?_eq_getElem h, nth_eq _ _ h, Option.toList_some, List.map_append, List.set_append_right _ _ (by simp; omega)]
  have e : List.drop i l = l[i] :: List.drop (i + 1) l := List.drop_eq_getElem_cons h
  simp only [List.length_map, List.length_take, Nat.min_eq_left (Nat.le_of_lt h), Nat.sub_self, List.map_cons, List.map_nil]
  rw [e, List.set_cons_zero]
  simp
end
theorem leRows_set {h h' : Heap} {n : Nat} {x y : List AV} (hx : LeRow h h' n x y) : ∀ (l : List (List AV)) (k : Nat), LeRows h h' n (l.set k x) (l.set k y)
  | [], _ => .refl _
  | z :: l, 0 => .cons hx (.refl _)
  | z :: l, k + 1 => .cons (.refl _ _ _ _) (leRows_set hx l k)
theorem bel_set {n : Nat} {l : List (List AV)} {k : Nat} {x : List AV} (h1 : ∀ r ∈ l, ∀ c ∈ r, Bel n c) (h2 : ∀ c ∈ x, Bel n c) : ∀ r ∈ l.set k x, ∀ c ∈ r, Bel n c := by
  intro r hr
  rcases List.mem_or_eq_of_mem_set hr with h | rfl
  · exact h1 r h
  · exact h2
theorem codeP_turn {g : GameD} (hg : GOk g) : codeP (turnG g) = (sideP g 1, sideP g 0) := by
  have h0 := sideP_turn hg (.inl rfl)
  have h1 := sideP_turn hg (.inr rfl)
  unfold codeP
  rw [show (1 : Int) - 0 = 1 from rfl] at h0
  rw [show (1 : Int) - 1 = 0 from rfl] at h1
  rw [h0, h1]
theorem GenSides_pure (x : Raw6) (hx : Raw6Ok x) : Pure Try.prog 4 [.agg (encRaw6 x)] (.v (.bool true)) := by
  refine Pure.of (ACallP.of_awp (by kernel_rfl) Try.func4 rfl rfl (Nat.le_of_ble_eq_true rfl) (by kernel_rfl) ?_)
  have hM := R6Made_pure x hx
  have hg := game6_ok hx
  have hC := Compile_pure (game6 x) hg
  have hgt := turnG_ok hg
  have hC2 := Compile_pure (turnG (game6 x)) hgt
  have hF := fit_codeP hg
  have hS := Shaped_true (game6 x) hg _ hF.sh
  have hS2 := Shaped_true (game6 x) hg (codeP (turnG (game6 x))) (by
    rw [codeP_turn hg]
    exact ⟨hF.sh.l2, hF.sh.l1, hF.sh.c2, hF.sh.c1⟩)
  have hE := Same_true (game6 x) hg _ hF
  rw [codeP_turn hg] at hC2 hS2
  have hk6 := hg.k6
  obtain ⟨er, her⟩ : ∃ er, er = encRaw6 x := ⟨_, rfl⟩
  have herl : er.length = 31 := by rw [her]; exact raw6_len hx
  have herb : ∀ n, (∀ c ∈ er, Bel n c) = True := fun n => by rw [her]; exact raw6_bel hx n
  rw [← her] at hM ⊢
  have hSan := sanity8_pure
  generalize game6 x = g at *
  have hT := fun (k i : Nat) (hk : k < g.kinds.length) (hi : i < (nth g.kinds k).progs.length) => Turned_pure (nth (nth g.kinds k).progs i) (by have := (hg.pr _ (nth_mem hk) _ (nth_mem hi)).len; omega) g.turn (fun y hy h => by
    have h1 := ((hg.pr _ (nth_mem hk) _ (nth_mem hi)).st y hy).dir h
    have h2 : g.turn.length = g.next.length := hg.board.tl
    omega)
  have hpn := fun (k : Nat) (hk : k < g.kinds.length) => hg.pn _ (nth_mem hk)
  have e2 : encGame (turnG g) = [.v (.int .i64 g.cells), encIss g.next, encIs g.turn, .lst 3 ((g.kinds.map (turnK g.turn)).map encKind), .v (.int .i64 g.rights), .v (.bool g.must), .lst 4 (g.clauses.map encClause), .v (.int .i64 g.blocked), .v (.int .i64 g.endless)] := rfl
  rw [e2] at hC2
  clear e2
  have e3 : encCode (codeP g) = [encSide (sideP g 0), encSide (sideP g 1)] := rfl
  rw [e3] at hC hS hE
  have e4 : encCode (sideP g 1, sideP g 0) = [encSide (sideP g 1), encSide (sideP g 0)] := rfl
  rw [e4] at hC2 hS2
  clear e3 e4
  generalize sideP g 0 = A at *
  generalize sideP g 1 = B at *
  generalize pos6 x = q at *
  (repeat (first | ((with_reducible refine VC.mkL ?_ fun _ => ?_); · first | omega | exact True.intro | rfl) | ((with_reducible refine VC.mkD ?_ fun _ => ?_); · first | omega | exact True.intro | (intros; omega)) | ((with_reducible refine dEnd.mk ?_ ?_); · kernel_rfl) | (with_reducible refine adrZ.go ?_) | (simp [go_sem, herl])))
  refine ACallP.plain hSan (by simp [go_sem]) ?_
  (repeat (first | ((with_reducible refine VC.mkL ?_ fun _ => ?_); · first | omega | exact True.intro | rfl) | ((with_reducible refine VC.mkD ?_ fun _ => ?_); · first | omega | exact True.intro | (intros; omega)) | ((with_reducible refine dEnd.mk ?_ ?_); · kernel_rfl) | (with_reducible refine adrZ.go ?_) | (simp [go_sem, herl])))
  refine ACallP.plain hM (by simp [go_sem, herb]) ?_
  (repeat (first | ((with_reducible refine VC.mkL ?_ fun _ => ?_); · first | omega | exact True.intro | rfl) | ((with_reducible refine VC.mkD ?_ fun _ => ?_); · first | omega | exact True.intro | (intros; omega)) | ((with_reducible refine dEnd.mk ?_ ?_); · kernel_rfl) | (with_reducible refine adrZ.go ?_) | (simp [go_sem, herl])))
  refine ALoop.start (ALoop.ind (α := Nat) (fun k => ⟨[(3, .v (.bool true)), (4, .ref 1 0 9 0 0), (6, .ref 3 0 9 0 0), (7, .v (.int .i64 k))],
      [(1, .rows true 0 9 [[.v (.int .i64 g.cells), encIss g.next, encIs g.turn, .lst 3 (g.kinds.map encKind), .v (.int .i64 g.rights), .v (.bool g.must), .lst 4 (g.clauses.map encClause), .v (.int .i64 g.blocked), .v (.int .i64 g.endless)]]), (3, .rows true 0 9 [[.v (.int .i64 g.cells), encIss g.next, encIs g.turn, .sl 4 1 3 0 g.kinds.length, .v (.int .i64 g.rights), .v (.bool g.must), .lst 4 (g.clauses.map encClause), .v (.int .i64 g.blocked), .v (.int .i64 g.endless)]]), (4, .rows true 1 3 ((mixL (turnK g.turn) g.kinds k).map encKind))], 5⟩)
    (fun d k => k + d = g.kinds.length) ?_ g.kinds.length 0 ?_) ?_ ?_
  · rintro d k k1 hrec
    have hml := mixL_len (turnK g.turn) g.kinds k
    (repeat (first | ((with_reducible refine VC.mkL ?_ fun _ => ?_); · first | omega | exact True.intro | rfl) | ((with_reducible refine VC.mkD ?_ fun _ => ?_); · first | omega | exact True.intro | (intros; omega)) | ((with_reducible refine dEnd.mk ?_ ?_); · kernel_rfl) | (with_reducible refine adrZ.go ?_) | (simp [go_sem])))
    refine aIf.mkL (fun hk => ?_) (fun hk => ?_) <;> simp at hk
    · have hmn := mixL_nth (turnK g.turn) g.kinds hk
      have hms := mixL_succ (turnK g.turn) g.kinds hk
      have hpl := hpn k hk
      have hTk := fun i hi => hT k i hk hi
      (repeat (first | ((with_reducible refine VC.mkL ?_ fun _ => ?_); · first | omega | exact True.intro | rfl) | ((with_reducible refine VC.mkD ?_ fun _ => ?_); · first | omega | exact True.intro | (intros; omega)) | ((with_reducible refine dEnd.mk ?_ ?_); · kernel_rfl) | (with_reducible refine adrZ.go ?_) | (simp [go_sem, hk, hml, hmn])))
      refine ALoop.start (ALoop.ind (α := Nat) (fun i => ⟨[(3, .v (.bool true)), (4, .ref 1 0 9 0 0), (6, .ref 3 0 9 0 0), (7, .v (.int .i64 k)), (8, .v (.int .i64 i))],
          [(1, .rows true 0 9 [[.v (.int .i64 g.cells), encIss g.next, encIs g.turn, .lst 3 (g.kinds.map encKind), .v (.int .i64 g.rights), .v (.bool g.must), .lst 4 (g.clauses.map encClause), .v (.int .i64 g.blocked), .v (.int .i64 g.endless)]]), (3, .rows true 0 9 [[.v (.int .i64 g.cells), encIss g.next, encIs g.turn, .sl 4 1 3 0 g.kinds.length, .v (.int .i64 g.rights), .v (.bool g.must), .lst 4 (g.clauses.map encClause), .v (.int .i64 g.blocked), .v (.int .i64 g.endless)]]),
           (4, .rows true 1 3 (((mixL (turnK g.turn) g.kinds k).map encKind).set k [.v (.string (nth g.kinds k).name), .sl 8 1 1 0 (nth g.kinds k).progs.length, .v (.bool (nth g.kinds k).keep)])),
           (8, .rows true 1 1 ((mixL (turnP g.turn) (nth g.kinds k).progs i).map fun p => [encProg p]))], 19⟩)
        (fun d i => i + d = (nth g.kinds k).progs.length) ?_ (nth g.kinds k).progs.length 0 ?_) ?_ ?_
      · rintro d2 i i1 hrec2
        have hql := mixL_len (turnP g.turn) (nth g.kinds k).progs i
        (repeat (first | ((with_reducible refine VC.mkL ?_ fun _ => ?_); · first | omega | exact True.intro | rfl) | ((with_reducible refine VC.mkD ?_ fun _ => ?_); · first | omega | exact True.intro | (intros; omega)) | ((with_reducible refine dEnd.mk ?_ ?_); · kernel_rfl) | (with_reducible refine adrZ.go ?_) | (simp [go_sem, hk])))
        refine aIf.mkL (fun hi => ?_) (fun hi => ?_) <;> simp at hi
        · have hqn := mixL_nth (turnP g.turn) (nth g.kinds k).progs hi
          have hqs := mixL_succ (turnP g.turn) (nth g.kinds k).progs hi
          (repeat (first | ((with_reducible refine VC.mkL ?_ fun _ => ?_); · first | omega | exact True.intro | rfl) | ((with_reducible refine VC.mkD ?_ fun _ => ?_); · first | omega | exact True.intro | (intros; omega)) | ((with_reducible refine dEnd.mk ?_ ?_); · kernel_rfl) | (with_reducible refine adrZ.go ?_) | (simp [go_sem, hk, hi, hml, hql])))
          try ((with_reducible refine adrZ.go ?_); (try simp [go_sem]))
          refine dCall.plain (hTk i hi) (by simp [go_sem]) ?_
          (repeat (first | ((with_reducible refine VC.mkL ?_ fun _ => ?_); · first | omega | exact True.intro | rfl) | ((with_reducible refine VC.mkD ?_ fun _ => ?_); · first | omega | exact True.intro | (intros; omega)) | ((with_reducible refine dEnd.mk ?_ ?_); · kernel_rfl) | (with_reducible refine adrZ.go ?_) | (simp [go_sem, hk, hi, hml, hql])))
          refine ALoop.start (hrec2 (d2 - 1) (by omega) (i + 1) (by omega)) ?_ (by simp)
          simp [go_sem, Wk_eq, hqs]
          exact ⟨bel_set (of_eq_true bel_K) (by simp [go_sem]), bel_set (of_eq_true bel_Pr) (by simp [go_sem])⟩
        · have hin : i = (nth g.kinds k).progs.length := by omega
          subst hin
          rw [mixL_all]
          (repeat (first | ((with_reducible refine VC.mkL ?_ fun _ => ?_); · first | omega | exact True.intro | rfl) | ((with_reducible refine VC.mkD ?_ fun _ => ?_); · first | omega | exact True.intro | (intros; omega)) | ((with_reducible refine dEnd.mk ?_ ?_); · kernel_rfl) | (with_reducible refine adrZ.go ?_) | (simp [go_sem, hk])))
          refine ALoop.start (hrec (d - 1) (by omega) (k + 1) (by omega)) ?_ (by simp)
          simp [go_sem, Wk_eq, hms]
          refine ⟨leRows_set ?_ _ _, bel_set (of_eq_true bel_K) (by simp [go_sem])⟩
          simp only [turnK]
          ((try simp only [encProg, encStep, encAct, encAs, encPath, encPt, encOut, encState, encPos, encOs, encSs, encPs, encIs, encGame, List.map_cons, List.map_nil, List.nil_append, List.append_nil, List.cons_append]); (repeat (first | (with_reducible exact LeRow.nil) | (with_reducible exact LeRows.nil) | (with_reducible exact LeV.refl _) | (with_reducible exact LeRow.refl _ _ _ _) | (with_reducible exact LeRows.refl _) | (with_reducible refine LeRow.cons ?_ ?_) | (with_reducible refine LeRows.cons ?_ ?_) | (with_reducible refine LeV.agg ?_) | (with_reducible refine LeV.tup ?_) | (with_reducible refine LeV.fn ?_ ?_) | (with_reducible exact LeV.nil _) | (with_reducible refine leRows_append (LeRows.refl _) ?_) | ((refine leV_frz rfl (by simp) (by simp [frzO, frz1, upd, noH]) ?_); (first | (simp [go_sem]; done) | (simp [go_sem]; exact List.take_of_length_le (by simp)))) | ((refine LeV.frz rfl (by simp) (by simp [frzO, frz1, upd, noH]) ?_); (simp only [List.drop_zero, List.take_succ_cons, List.take_zero, List.map_cons, List.map_nil])) | ((refine LeV.frzP rfl (by simp) (by simp) (by simp [frzO, frz1, upd, noH]) ?_); (simp only [nth_zero, List.drop_zero])))))
      · simp
      · simp [go_sem, Wk_eq, mixL_zero]
        exact bel_set (of_eq_true bel_K) (by simp [go_sem])
      · simp
    · have hkl : k = g.kinds.length := by omega
      subst hkl
      rw [mixL_all] at hml ⊢
      (repeat (first | ((with_reducible refine VC.mkL ?_ fun _ => ?_); · first | omega | exact True.intro | rfl) | ((with_reducible refine VC.mkD ?_ fun _ => ?_); · first | omega | exact True.intro | (intros; omega)) | ((with_reducible refine dEnd.mk ?_ ?_); · kernel_rfl) | (simp [go_sem])))
      refine adrZ.frz (frzO _ [4]) (frz_frzO _ _) ?_
      (repeat (first | ((with_reducible refine VC.mkL ?_ fun _ => ?_); · first | omega | exact True.intro | rfl) | ((with_reducible refine VC.mkD ?_ fun _ => ?_); · first | omega | exact True.intro | (intros; omega)) | ((with_reducible refine dEnd.mk ?_ ?_); · kernel_rfl) | (with_reducible refine adrZ.go ?_) | (simp [go_sem])))
      try ((with_reducible refine adrZ.go ?_); (try simp [go_sem]))
      refine dCall.plain hC (by simp [go_sem]) ?_
      (repeat (first | ((with_reducible refine VC.mkL ?_ fun _ => ?_); · first | omega | exact True.intro | rfl) | ((with_reducible refine VC.mkD ?_ fun _ => ?_); · first | omega | exact True.intro | (intros; omega)) | ((with_reducible refine dEnd.mk ?_ ?_); · kernel_rfl) | (with_reducible refine adrZ.go ?_) | (simp [go_sem])))
      try ((with_reducible refine adrZ.go ?_); (try simp [go_sem]))
      refine dCall.frz [_] _ [4] [] hC2 (by simp) ?_ (by simp [go_sem]) ?_
      · intro h₁ hS
        have h4 := hS 4 (by simp)
        simp [upd, frzO, frz1] at h4
        refine .cons (.agg (.cons (.refl _) (.cons (.refl _) (.cons (.refl _) (.cons (leV_frz h4.symm (by simp) (by simp [applyW, ← h4]) (by simp; exact List.take_of_length_le (by simp))) (.refl _ _ _ _)))))) .nil
      (repeat (first | ((with_reducible refine VC.mkL ?_ fun _ => ?_); · first | omega | exact True.intro | rfl) | ((with_reducible refine VC.mkD ?_ fun _ => ?_); · first | omega | exact True.intro | (intros; omega)) | ((with_reducible refine dEnd.mk ?_ ?_); · kernel_rfl) | (with_reducible refine adrZ.go ?_) | (simp [go_sem])))
      refine ACallP.plain hS (by simp [go_sem]) ?_
      (repeat (first | ((with_reducible refine VC.mkL ?_ fun _ => ?_); · first | omega | exact True.intro | rfl) | ((with_reducible refine VC.mkD ?_ fun _ => ?_); · first | omega | exact True.intro | (intros; omega)) | ((with_reducible refine dEnd.mk ?_ ?_); · kernel_rfl) | (with_reducible refine adrZ.go ?_) | (simp [go_sem])))
      refine aGC.plain _ (fun _ => hS2) (by simp [go_sem]) ?_
      (repeat (first | ((with_reducible refine VC.mkL ?_ fun _ => ?_); · first | omega | exact True.intro | rfl) | ((with_reducible refine VC.mkD ?_ fun _ => ?_); · first | omega | exact True.intro | (intros; omega)) | ((with_reducible refine dEnd.mk ?_ ?_); · kernel_rfl) | (with_reducible refine adrZ.go ?_) | (simp [go_sem])))
      refine ACallP.plain hE (by simp [go_sem]) ?_
      (repeat (first | ((with_reducible refine VC.mkL ?_ fun _ => ?_); · first | omega | exact True.intro | rfl) | ((with_reducible refine VC.mkD ?_ fun _ => ?_); · first | omega | exact True.intro | (intros; omega)) | ((with_reducible refine dEnd.mk ?_ ?_); · kernel_rfl) | (with_reducible refine adrZ.go ?_) | (simp [go_sem])))
  · simp
  · simp [go_sem, Wk_eq, mixL_zero]
  · simp
end Go.Av
end
section
set_option linter.unusedSimpArgs false
set_option linter.unusedVariables false
open Go Go.Proofs
set_option maxRecDepth 20000
set_option maxHeartbeats 4000000
namespace Go.Av
def totK (g : GameD) (k : Nat) : Nat := ((g.kinds.take k).map fun kd => (kd.progs.map (progW g)).sum).sum
def totI (g : GameD) (k i : Nat) : Nat := totK g k + (((nth g.kinds k).progs.take i).map (progW g)).sum
theorem sum_take_succ {α : Type} [Inhabited α] (f : α → Nat) (l : List α) {i : Nat} (h : i < l.length) : ((l.take (i + 1)).map f).sum = ((l.take i).map f).sum + f (nth l i) := by
  rw [List.take_add_one, List.getElem?_eq_getElem h, nth_eq _ _ h, Option.toList_some, List.map_append, List.sum_append]
  simp
theorem totI_succ (g : GameD) (k : Nat) {i : Nat} (h : i < (nth g.kinds k).progs.length) : totI g k (i + 1) = totI g k i + progW g (nth (nth g.kinds k).progs i) := by
  unfold totI
  rw [sum_take_succ _ _ h]
  omega
theorem totI_zero (g : GameD) (k : Nat) : totI g k 0 = totK g k := by simp [totI]
theorem totI_end (g : GameD) {k : Nat} (h : k < g.kinds.length) : totI g k (nth g.kinds k).progs.length = totK g (k + 1) := by
  unfold totI totK
  rw [List.take_length, sum_take_succ _ _ h]
theorem totK_zero (g : GameD) : totK g 0 = 0 := by simp [totK]
theorem totK_end (g : GameD) : totK g g.kinds.length = countC (codeP g) := by
  unfold totK
  rw [List.take_length, countC_eq]
theorem totK_le {g : GameD} (hg : GOk g) (hs : OneSlide g) (k : Nat) : totK g k ≤ 7776 := by
  have := sum_map_le (fun kd : KindD => (kd.progs.map (progW g)).sum) 1296 (g.kinds.take k) (fun kd hk => by
    have hk := List.mem_of_mem_take hk
    have := sum_map_le (progW g) 162 kd.progs (fun p hp => by
      have a := progN_le hg 0 (hs kd hk p hp)
      have b := progN_le hg 1 (hs kd hk p hp)
      unfold progW; omega)
    have := hg.pn kd hk
    omega)
  have h2 : (g.kinds.take k).length ≤ 6 := by have := hg.k6; simp; omega
  unfold totK
  omega
theorem oneG_kinds (g : GameD) (k : Nat) (p : List (Int × Int)) : (oneG g k p).kinds = (g.kinds.map bareK).set k { nth g.kinds k with progs := [p] } := rfl
theorem oneG_progs {g : GameD} {k : Nat} (hk : k < g.kinds.length) (p : List (Int × Int)) : (nth (oneG g k p).kinds k).progs = [p] := by
  rw [oneG_kinds, nth_set_self (by simpa using hk)]
theorem GenCounts_pure (x : Raw6) (hx : Raw6Ok x) : Pure Try.prog 5 [.agg (encRaw6 x)] (.v (.bool true)) := by
  refine Pure.of (ACallP.of_awp (by kernel_rfl) Try.func5 rfl rfl (Nat.le_of_ble_eq_true rfl) (by kernel_rfl) ?_)
  have hM := R6Made_pure x hx
  have hg := game6_ok hx
  have hsl : OneSlide (game6 x) := madeG_slide x.g
  have hC := Compile_pure (game6 x) hg
  have hF := fit_codeP hg
  have hcnt := countC_le hg hsl
  have hk6 := hg.k6
  have hc9 := hg.c9
  have hc1 := hg.c1
  have hN := gCount_pure (codeP (game6 x)) (by omega) (by rw [hF.sh.l1]; omega) (by rw [hF.sh.l2]; omega) (fun y hy => by
    rcases List.mem_append.1 hy with h | h
    · have := hF.sh.c1 y h; omega
    · have := hF.sh.c2 y h; omega)
  obtain ⟨er, her⟩ : ∃ er, er = encRaw6 x := ⟨_, rfl⟩
  have herl : er.length = 31 := by rw [her]; exact raw6_len hx
  have herb : ∀ n, (∀ c ∈ er, Bel n c) = True := fun n => by rw [her]; exact raw6_bel hx n
  rw [← her] at hM ⊢
  have hSan := sanity8_pure
  generalize game6 x = g at *
  have hone := fun (k i : Nat) (hk : k < g.kinds.length) (hi : i < (nth g.kinds k).progs.length) => oneG_ok hg hk (nth_mem hi)
  have hpn := fun (k : Nat) (hk : k < g.kinds.length) => hg.pn _ (nth_mem hk)
  have htk := totK_le hg hsl
  have hts := fun (k i : Nat) (h : i < (nth g.kinds k).progs.length) => totI_succ g k h
  have htz := totI_zero g
  have hte := fun (k : Nat) (h : k < g.kinds.length) => totI_end g h
  rw [← totK_end] at hN
  have htz0 := totK_zero g
  have hWl := fun (k i : Nat) (hk : k < g.kinds.length) (hi : i < (nth g.kinds k).progs.length) => (show progW g (nth (nth g.kinds k).progs i) ≤ 162 by
    have a := progN_le hg 0 (hsl _ (nth_mem hk) _ (nth_mem hi))
    have b := progN_le hg 1 (hsl _ (nth_mem hk) _ (nth_mem hi))
    unfold progW; omega)
  have htIl : ∀ k i, k < g.kinds.length → i ≤ (nth g.kinds k).progs.length → totI g k i ≤ 20000 := fun k i hk hi => by
    have h1 := htk k
    have h2 := sum_map_le (progW g) 162 ((nth g.kinds k).progs.take i) (fun p hp => by
      have hp := List.mem_of_mem_take hp
      have a := progN_le hg 0 (hsl _ (nth_mem hk) _ hp)
      have b := progN_le hg 1 (hsl _ (nth_mem hk) _ hp)
      unfold progW; omega)
    have h3 := hpn k hk
    have h4 : ((nth g.kinds k).progs.take i).length ≤ 8 := by simp; omega
    unfold totI
    omega
  have hCC : ∀ (k i : Nat) (hk : k < g.kinds.length) (hi : i < (nth g.kinds k).progs.length), Pure Try.prog 16 [.agg (encGame (oneG g k (nth (nth g.kinds k).progs i)))] (.agg (encCode (codeP (oneG g k (nth (nth g.kinds k).progs i))))) := fun k i hk hi => Compile_pure _ (hone k i hk hi)
  have hSS : ∀ (k i : Nat) (hk : k < g.kinds.length) (hi : i < (nth g.kinds k).progs.length), Pure Try.prog 17 [.agg (encGame (oneG g k (nth (nth g.kinds k).progs i))), .agg (encCode (codeP (oneG g k (nth (nth g.kinds k).progs i))))] (.v (.bool true)) :=
    fun k i hk hi => Shaped_true _ (hone k i hk hi) _ (shape_codeP (hone k i hk hi))
  have hNN : ∀ (k i : Nat) (hk : k < g.kinds.length) (hi : i < (nth g.kinds k).progs.length), Pure Try.prog 18 [.agg (encCode (codeP (oneG g k (nth (nth g.kinds k).progs i))))] (.v (.int .i64 (progW g (nth (nth g.kinds k).progs i)))) := fun k i hk hi => by
    have h1 := countC_one hk (nth (nth g.kinds k).progs i)
    have hW := hWl k i hk hi
    have hs := shape_codeP (hone k i hk hi)
    have hlen : (oneG g k (nth (nth g.kinds k).progs i)).kinds.length = g.kinds.length := by simp [oneG]
    have hcel : (oneG g k (nth (nth g.kinds k).progs i)).cells = g.cells := rfl
    have := gCount_pure (codeP (oneG g k (nth (nth g.kinds k).progs i))) (by omega) (by rw [hs.l1]; omega) (by rw [hs.l2]; omega) (fun y hy => by
      rcases List.mem_append.1 hy with h | h
      · have := hs.c1 y h; omega
      · have := hs.c2 y h; omega)
    rwa [h1] at this
  have hR2 := fun (k i : Nat) (hk : k < g.kinds.length) (hi : i < (nth g.kinds k).progs.length) => R2Count_pure (nth (nth g.kinds k).progs i) (by have := (hg.pr _ (nth_mem hk) _ (nth_mem hi)).len; omega) 2
  have hsd : ∀ (k i s : Nat) (hk : k < g.kinds.length) (hi : i < (nth g.kinds k).progs.length), s < 2 → ∃ l, cel (encCode (codeP (oneG g k (nth (nth g.kinds k).progs i)))) s = encSide l ∧ l.length = g.kinds.length ∧ ((nth l k).length : Int) = g.cells ∧
      ∀ c, c < g.cells.toNat → (nth (nth l k) c).length ≤ g.cells.toNat ^ countOp (nth (nth g.kinds k).progs i) 2 := by
    intro k i s hk hi hs
    have hgo := hone k i hk hi
    have hsh := shape_codeP hgo
    have hlen : (oneG g k (nth (nth g.kinds k).progs i)).kinds.length = g.kinds.length := by simp [oneG]
    have hpr := oneG_progs hk (nth (nth g.kinds k).progs i)
    have hgen : ∀ (s : Int) c, c < g.cells.toNat → (nth (nth (sideP (oneG g k (nth (nth g.kinds k).progs i)) s) k) c).length ≤ g.cells.toNat ^ countOp (nth (nth g.kinds k).progs i) 2 := by
      intro s c hc
      have e := sideP_nth (oneG g k (nth (nth g.kinds k).progs i)) s (k := k) (c := c) (by rw [hlen]; exact hk) hc
      rw [hpr, kindP_one] at e
      rw [e]
      exact pathsP_len hg.board hg.c1 s _ _
    have hl1 := hsh.l1
    have hl2 := hsh.l2
    rw [hlen] at hl1 hl2
    rcases (show s = 0 ∨ s = 1 by omega) with rfl | rfl
    · exact ⟨_, rfl, hl1, hsh.c1 _ (nth_mem (by omega)), hgen 0⟩
    · exact ⟨_, rfl, hl2, hsh.c2 _ (nth_mem (by omega)), hgen 1⟩
  have heo : ∀ k i, encGame (oneG g k (nth (nth g.kinds k).progs i)) = [.v (.int .i64 g.cells), encIss g.next, encIs g.turn, .lst 3 (((g.kinds.map bareK).map encKind).set k [.v (.string (nth g.kinds k).name), .lst 1 [[encProg (nth (nth g.kinds k).progs i)]], .v (.bool (nth g.kinds k).keep)]), .v (.int .i64 g.rights), .v (.bool g.must), .lst 4 (g.clauses.map encClause), .v (.int .i64 g.blocked), .v (.int .i64 g.endless)] := fun k i => by
    unfold encGame
    rw [oneG_kinds, List.map_set]
    rfl
  have hecl : ∀ k i, (encCode (codeP (oneG g k (nth (nth g.kinds k).progs i)))).length = 2 := fun k i => rfl
  have hecb : ∀ k i n, (∀ y ∈ encCode (codeP (oneG g k (nth (nth g.kinds k).progs i))), Bel n y) = True := fun k i n => by simp [go_sem]
  generalize hEC : (fun k i => encCode (codeP (oneG g k (nth (nth g.kinds k).progs i)))) = EC at *
  have hECi : ∀ k i, encCode (codeP (oneG g k (nth (nth g.kinds k).progs i))) = EC k i := fun k i => by rw [← hEC]
  simp only [hECi, heo] at hCC hSS hNN hsd hecl hecb
  have hcel : (encCode (codeP g)).length = 2 := rfl
  have hceb : ∀ n, (∀ y ∈ encCode (codeP g), Bel n y) = True := fun n => by simp [go_sem]
  generalize encCode (codeP g) = ec0 at *
  generalize pos6 x = q at *
  (repeat (first | ((with_reducible refine VC.mkL ?_ fun _ => ?_); · first | omega | exact True.intro | rfl) | ((with_reducible refine VC.mkD ?_ fun _ => ?_); · first | omega | exact True.intro | (intros; omega)) | ((with_reducible refine dEnd.mk ?_ ?_); · kernel_rfl) | (with_reducible refine adrZ.go ?_) | (simp [go_sem, herl])))
  refine ACallP.plain hSan (by simp [go_sem]) ?_
  (repeat (first | ((with_reducible refine VC.mkL ?_ fun _ => ?_); · first | omega | exact True.intro | rfl) | ((with_reducible refine VC.mkD ?_ fun _ => ?_); · first | omega | exact True.intro | (intros; omega)) | ((with_reducible refine dEnd.mk ?_ ?_); · kernel_rfl) | (with_reducible refine adrZ.go ?_) | (simp [go_sem, herl])))
  refine ACallP.plain hM (by simp [go_sem, herb]) ?_
  (repeat (first | ((with_reducible refine VC.mkL ?_ fun _ => ?_); · first | omega | exact True.intro | rfl) | ((with_reducible refine VC.mkD ?_ fun _ => ?_); · first | omega | exact True.intro | (intros; omega)) | ((with_reducible refine dEnd.mk ?_ ?_); · kernel_rfl) | (with_reducible refine adrZ.go ?_) | (simp [go_sem, herl])))
  refine ALoop.start (ALoop.ind (α := Nat) (fun k => ⟨[(3, .v (.bool true)), (4, .ref 1 0 9 0 0), (6, .v (.int .i64 (totK g k))), (7, .v (.int .i64 k))], [(1, .rows true 0 9 [[.v (.int .i64 g.cells), encIss g.next, encIs g.turn, .lst 3 (g.kinds.map encKind), .v (.int .i64 g.rights), .v (.bool g.must), .lst 4 (g.clauses.map encClause), .v (.int .i64 g.blocked), .v (.int .i64 g.endless)]])], 2⟩)
    (fun d k => k + d = g.kinds.length) ?_ g.kinds.length 0 ?_) ?_ ?_
  · rintro d k k1 hrec
    (repeat (first | ((with_reducible refine VC.mkL ?_ fun _ => ?_); · first | omega | exact True.intro | rfl) | ((with_reducible refine VC.mkD ?_ fun _ => ?_); · first | omega | exact True.intro | (intros; omega)) | ((with_reducible refine dEnd.mk ?_ ?_); · kernel_rfl) | (with_reducible refine adrZ.go ?_) | (simp [go_sem])))
    refine aIf.mkL (fun hk => ?_) (fun hk => ?_) <;> simp at hk
    · have hpl := hpn k hk
      have htek := hte k hk
      have htzk := htz k
      (repeat (first | ((with_reducible refine VC.mkL ?_ fun _ => ?_); · first | omega | exact True.intro | rfl) | ((with_reducible refine VC.mkD ?_ fun _ => ?_); · first | omega | exact True.intro | (intros; omega)) | ((with_reducible refine dEnd.mk ?_ ?_); · kernel_rfl) | (with_reducible refine adrZ.go ?_) | (simp [go_sem, hk])))
      refine ALoop.start (ALoop.ind (α := Nat) (fun i => ⟨[(3, .v (.bool true)), (4, .ref 1 0 9 0 0), (6, .v (.int .i64 (totI g k i))), (7, .v (.int .i64 k)), (8, .v (.int .i64 i))], [(1, .rows true 0 9 [[.v (.int .i64 g.cells), encIss g.next, encIs g.turn, .lst 3 (g.kinds.map encKind), .v (.int .i64 g.rights), .v (.bool g.must), .lst 4 (g.clauses.map encClause), .v (.int .i64 g.blocked), .v (.int .i64 g.endless)]])], 2⟩)
        (fun d i => i + d = (nth g.kinds k).progs.length) ?_ (nth g.kinds k).progs.length 0 ?_) ?_ ?_
      · rintro d2 i i1 hrec2
        (repeat (first | ((with_reducible refine VC.mkL ?_ fun _ => ?_); · first | omega | exact True.intro | rfl) | ((with_reducible refine VC.mkD ?_ fun _ => ?_); · first | omega | exact True.intro | (intros; omega)) | ((with_reducible refine dEnd.mk ?_ ?_); · kernel_rfl) | (with_reducible refine adrZ.go ?_) | (simp [go_sem, hk])))
        refine aIf.mkL (fun hi => ?_) (fun hi => ?_) <;> simp at hi
        · have hCi := hCC k i hk hi
          have hSi := hSS k i hk hi
          have hNi := hNN k i hk hi
          have hRi := hR2 k i hk hi
          have hsi := fun s => hsd k i s hk hi
          have hei := hecl k i
          have hbi := hecb k i
          have htI := htIl k i hk (by omega)
          have hts1 := hts k i hi
          have hWi := hWl k i hk hi
          generalize EC k i = ec at *
          have hbO : ∀ r ∈ (List.map (encKind ∘ bareK) g.kinds).set k [AV.v (Value.string (nth g.kinds k).name), AV.lst 1 [[AV.lst 2 (List.map encStep (nth (nth g.kinds k).progs i))]], AV.v (Value.bool (nth g.kinds k).keep)], ∀ c ∈ r, Bel 0 c :=
            bel_set (by rw [← List.map_map]; exact of_eq_true bel_K) (by simp [go_sem])
          (repeat (first | ((with_reducible refine VC.mkL ?_ fun _ => ?_); · first | omega | exact True.intro | rfl) | ((with_reducible refine VC.mkD ?_ fun _ => ?_); · first | omega | exact True.intro | (intros; omega)) | ((with_reducible refine dEnd.mk ?_ ?_); · kernel_rfl) | (with_reducible refine adrZ.go ?_) | (simp [go_sem, hk, hi])))
          refine ALoop.start (ALoop.ind (α := Nat) (fun n => ⟨[(3, .v (.bool true)), (4, .ref 1 0 9 0 0), (6, .v (.int .i64 (totI g k i))), (7, .v (.int .i64 k)), (8, .v (.int .i64 i)), (9, .ref 2 0 9 0 0), (10, .v (.int .i64 n))],
              [(1, .rows true 0 9 [[.v (.int .i64 g.cells), encIss g.next, encIs g.turn, .lst 3 (g.kinds.map encKind), .v (.int .i64 g.rights), .v (.bool g.must), .lst 4 (g.clauses.map encClause), .v (.int .i64 g.blocked), .v (.int .i64 g.endless)]]), (2, .rows true 0 9 [[.v (.int .i64 g.cells), encIss g.next, encIs g.turn, .sl 3 1 3 0 g.kinds.length, .v (.int .i64 g.rights), .v (.bool g.must), .lst 4 (g.clauses.map encClause), .v (.int .i64 g.blocked), .v (.int .i64 g.endless)]]), (3, .rows true 1 3 ((mixL bareK g.kinds n).map encKind))], 4⟩)
            (fun d n => n + d = g.kinds.length) ?_ g.kinds.length 0 ?_) ?_ ?_
          · rintro d3 n n1 hrec3
            have hml := mixL_len bareK g.kinds n
            (repeat (first | ((with_reducible refine VC.mkL ?_ fun _ => ?_); · first | omega | exact True.intro | rfl) | ((with_reducible refine VC.mkD ?_ fun _ => ?_); · first | omega | exact True.intro | (intros; omega)) | ((with_reducible refine dEnd.mk ?_ ?_); · kernel_rfl) | (with_reducible refine adrZ.go ?_) | (simp [go_sem])))
            refine aIf.mkL (fun hn => ?_) (fun hn => ?_) <;> simp at hn
            · have hmn := mixL_nth bareK g.kinds hn
              have hms := mixL_succ bareK g.kinds hn
              (repeat (first | ((with_reducible refine VC.mkL ?_ fun _ => ?_); · first | omega | exact True.intro | rfl) | ((with_reducible refine VC.mkD ?_ fun _ => ?_); · first | omega | exact True.intro | (intros; omega)) | ((with_reducible refine dEnd.mk ?_ ?_); · kernel_rfl) | (with_reducible refine adrZ.go ?_) | (simp [go_sem, hn, hml, hmn])))
              refine ALoop.start (hrec3 (d3 - 1) (by omega) (n + 1) (by omega)) ?_ (by simp)
              simp [go_sem, Wk_eq, hms, bareK]
              exact ⟨leRows_set (.cons (.refl _) (.cons (.nil _) (.refl _ _ _ _))) _ _, bel_set (of_eq_true bel_K) (by simp [go_sem])⟩
            · have hnl : n = g.kinds.length := by omega
              subst hnl
              rw [mixL_all] at hml ⊢
              (repeat (first | ((with_reducible refine VC.mkL ?_ fun _ => ?_); · first | omega | exact True.intro | rfl) | ((with_reducible refine VC.mkD ?_ fun _ => ?_); · first | omega | exact True.intro | (intros; omega)) | ((with_reducible refine dEnd.mk ?_ ?_); · kernel_rfl) | (with_reducible refine adrZ.go ?_) | (simp [go_sem, hk, hi])))
              refine ACallP.pureF [3, 16] hCi ?_ (by simp [go_sem]; exact hbO) ?_
              · refine LeRow.cons (.agg (.cons (.refl _) (.cons (.refl _) (.cons (.refl _) (.cons ?_ (.refl _ _ _ _)))))) (.refl _ _ _ _)
                refine LeV.frz rfl (by simp) (by simp [frzO, frz1, upd, noH]) ?_
                rw [List.drop_zero, List.take_of_length_le (by simp), List.map_map]
                refine leRows_set ?_ _ _
                simp only [bareK]
                ((try simp only [encProg, encStep, encAct, encAs, encPath, encPt, encOut, encState, encPos, encOs, encSs, encPs, encIs, encGame, List.map_cons, List.map_nil, List.nil_append, List.append_nil, List.cons_append]); (repeat (first | (with_reducible exact LeRow.nil) | (with_reducible exact LeRows.nil) | (with_reducible exact LeV.refl _) | (with_reducible exact LeRow.refl _ _ _ _) | (with_reducible exact LeRows.refl _) | (with_reducible refine LeRow.cons ?_ ?_) | (with_reducible refine LeRows.cons ?_ ?_) | (with_reducible refine LeV.agg ?_) | (with_reducible refine LeV.tup ?_) | (with_reducible refine LeV.fn ?_ ?_) | (with_reducible exact LeV.nil _) | (with_reducible refine leRows_append (LeRows.refl _) ?_) | ((refine leV_frz rfl (by simp) (by simp [frzO, frz1, upd, noH]) ?_); (first | (simp [go_sem]; done) | (simp [go_sem]; exact List.take_of_length_le (by simp)))) | ((refine LeV.frz rfl (by simp) (by simp [frzO, frz1, upd, noH]) ?_); (simp only [List.drop_zero, List.take_succ_cons, List.take_zero, List.map_cons, List.map_nil])) | ((refine LeV.frzP rfl (by simp) (by simp) (by simp [frzO, frz1, upd, noH]) ?_); (simp only [nth_zero, List.drop_zero])))))
              (repeat (first | ((with_reducible refine VC.mkL ?_ fun _ => ?_); · first | omega | exact True.intro | rfl) | ((with_reducible refine VC.mkD ?_ fun _ => ?_); · first | omega | exact True.intro | (intros; omega)) | ((with_reducible refine dEnd.mk ?_ ?_); · kernel_rfl) | (with_reducible refine adrZ.go ?_) | (simp [go_sem, hk, hi, hei])))
              refine ACallP.flat hSi (.v _) ?_ (by simp [go_sem, hbi]; exact hbO) ?_
              · refine LeRow.cons (.agg (.cons (.refl _) (.cons (.refl _) (.cons (.refl _) (.cons ?_ (.refl _ _ _ _)))))) (.refl _ _ _ _)
                refine LeV.frz rfl (by simp) (by simp [frzO, frz1, upd, noH]) ?_
                rw [List.drop_zero, List.take_of_length_le (by simp), List.map_map]
                refine leRows_set ?_ _ _
                simp only [bareK]
                ((try simp only [encProg, encStep, encAct, encAs, encPath, encPt, encOut, encState, encPos, encOs, encSs, encPs, encIs, encGame, List.map_cons, List.map_nil, List.nil_append, List.append_nil, List.cons_append]); (repeat (first | (with_reducible exact LeRow.nil) | (with_reducible exact LeRows.nil) | (with_reducible exact LeV.refl _) | (with_reducible exact LeRow.refl _ _ _ _) | (with_reducible exact LeRows.refl _) | (with_reducible refine LeRow.cons ?_ ?_) | (with_reducible refine LeRows.cons ?_ ?_) | (with_reducible refine LeV.agg ?_) | (with_reducible refine LeV.tup ?_) | (with_reducible refine LeV.fn ?_ ?_) | (with_reducible exact LeV.nil _) | (with_reducible refine leRows_append (LeRows.refl _) ?_) | ((refine leV_frz rfl (by simp) (by simp [frzO, frz1, upd, noH]) ?_); (first | (simp [go_sem]; done) | (simp [go_sem]; exact List.take_of_length_le (by simp)))) | ((refine LeV.frz rfl (by simp) (by simp [frzO, frz1, upd, noH]) ?_); (simp only [List.drop_zero, List.take_succ_cons, List.take_zero, List.map_cons, List.map_nil])) | ((refine LeV.frzP rfl (by simp) (by simp) (by simp [frzO, frz1, upd, noH]) ?_); (simp only [nth_zero, List.drop_zero])))))
              (repeat (first | ((with_reducible refine VC.mkL ?_ fun _ => ?_); · first | omega | exact True.intro | rfl) | ((with_reducible refine VC.mkD ?_ fun _ => ?_); · first | omega | exact True.intro | (intros; omega)) | ((with_reducible refine dEnd.mk ?_ ?_); · kernel_rfl) | (with_reducible refine adrZ.go ?_) | (simp [go_sem, hk, hi, hei])))
              refine ACallP.plain hNi (by simp [go_sem, hbi]) ?_
              (repeat (first | ((with_reducible refine VC.mkL ?_ fun _ => ?_); · first | omega | exact True.intro | rfl) | ((with_reducible refine VC.mkD ?_ fun _ => ?_); · first | omega | exact True.intro | (intros; omega)) | ((with_reducible refine dEnd.mk ?_ ?_); · kernel_rfl) | (with_reducible refine adrZ.go ?_) | (simp [go_sem, hk, hi, hei])))
              refine ACallP.plain hRi (by simp [go_sem]) ?_
              (repeat (first | ((with_reducible refine VC.mkL ?_ fun _ => ?_); · first | omega | exact True.intro | rfl) | ((with_reducible refine VC.mkD ?_ fun _ => ?_); · first | omega | exact True.intro | (intros; omega)) | ((with_reducible refine dEnd.mk ?_ ?_); · kernel_rfl) | (with_reducible refine adrZ.go ?_) | (simp [go_sem, hk, hi, hei])))
              generalize hsl2 : countOp (nth (nth g.kinds k).progs i) 2 = S at *
              refine ALoop.start (ALoop.ind (α := Nat) (fun s => ⟨[(3, .v (.bool true)), (4, .ref 1 0 9 0 0), (6, .v (.int .i64 (totI g k (i + 1)))), (7, .v (.int .i64 k)), (8, .v (.int .i64 i)), (11, .ref 20 0 2 0 0), (12, .v (.int .i64 (S))), (13, .v (.int .i64 s))], [(1, .rows true 0 9 [[.v (.int .i64 g.cells), encIss g.next, encIs g.turn, .lst 3 (g.kinds.map encKind), .v (.int .i64 g.rights), .v (.bool g.must), .lst 4 (g.clauses.map encClause), .v (.int .i64 g.blocked), .v (.int .i64 g.endless)]]), (20, .rows true 0 2 [ec])], 21⟩)
                (fun d s => s + d = 2) ?_ 2 0 ?_) ?_ ?_
              · rintro d4 s s1 hrec4
                rcases (show s = 2 ∨ s < 2 by omega) with rfl | hs2
                · (repeat (first | ((with_reducible refine VC.mkL ?_ fun _ => ?_); · first | omega | exact True.intro | rfl) | ((with_reducible refine VC.mkD ?_ fun _ => ?_); · first | omega | exact True.intro | (intros; omega)) | ((with_reducible refine dEnd.mk ?_ ?_); · kernel_rfl) | (with_reducible refine adrZ.go ?_) | (simp [go_sem, hei])))
                  refine ALoop.start (hrec2 (d2 - 1) (by omega) (i + 1) (by omega)) ?_ (by simp)
                  simp [go_sem, Wk_eq]
                · obtain ⟨l, hl0, hl1, hl2, hl3⟩ := hsi s hs2
                  simp only [encSide, encCells, encPt] at hl0
                  (repeat (first | ((with_reducible refine VC.mkL ?_ fun _ => ?_); · first | omega | exact True.intro | rfl) | ((with_reducible refine VC.mkD ?_ fun _ => ?_); · first | omega | exact True.intro | (intros; omega)) | ((with_reducible refine dEnd.mk ?_ ?_); · kernel_rfl) | (with_reducible refine adrZ.go ?_) | (simp [go_sem, hei, hl0])))
                  (refine aIf.mkL (fun hT => ?_) (fun hT => by first | omega | (simp at hT; omega)); clear hT)
                  (repeat (first | ((with_reducible refine VC.mkL ?_ fun _ => ?_); · first | omega | exact True.intro | rfl) | ((with_reducible refine VC.mkD ?_ fun _ => ?_); · first | omega | exact True.intro | (intros; omega)) | ((with_reducible refine dEnd.mk ?_ ?_); · kernel_rfl) | (with_reducible refine adrZ.go ?_) | (simp [go_sem, hei, hl0])))
                  refine ALoop.start (ALoop.ind (α := Nat) (fun c => ⟨[(3, .v (.bool true)), (4, .ref 1 0 9 0 0), (6, .v (.int .i64 (totI g k (i + 1)))), (7, .v (.int .i64 k)), (8, .v (.int .i64 i)), (11, .ref 20 0 2 0 0), (12, .v (.int .i64 (S))), (13, .v (.int .i64 s)), (14, .v (.int .i64 c))], [(1, .rows true 0 9 [[.v (.int .i64 g.cells), encIss g.next, encIs g.turn, .lst 3 (g.kinds.map encKind), .v (.int .i64 g.rights), .v (.bool g.must), .lst 4 (g.clauses.map encClause), .v (.int .i64 g.blocked), .v (.int .i64 g.endless)]]), (20, .rows true 0 2 [ec])], 21⟩)
                    (fun d c => c + d = g.cells.toNat) ?_ g.cells.toNat 0 ?_) ?_ ?_
                  · rintro d5 c c1 hrec5
                    (repeat (first | ((with_reducible refine VC.mkL ?_ fun _ => ?_); · first | omega | exact True.intro | rfl) | ((with_reducible refine VC.mkD ?_ fun _ => ?_); · first | omega | exact True.intro | (intros; omega)) | ((with_reducible refine dEnd.mk ?_ ?_); · kernel_rfl) | (with_reducible refine adrZ.go ?_) | (simp [go_sem, hei])))
                    refine aIf.mkL (fun hcc => ?_) (fun hcc => ?_) <;> simp at hcc
                    · have hcl' : c < (nth l k).length := by omega
                      have hkl : k < l.length := by omega
                      have hP := hl3 c (by omega)
                      (repeat (first | ((with_reducible refine VC.mkL ?_ fun _ => ?_); · first | omega | exact True.intro | rfl) | ((with_reducible refine VC.mkD ?_ fun _ => ?_); · first | omega | exact True.intro | (intros; omega)) | ((with_reducible refine dEnd.mk ?_ ?_); · kernel_rfl) | (with_reducible refine adrZ.go ?_) | (simp [go_sem, hei, hl0, hkl, hcl'])))
                      generalize (nth (nth l k) c).length = P at *
                      by_cases hS0 : S = 0
                      · subst hS0
                        have hP1 : P ≤ 1 := by simpa using hP
                        (repeat (first | ((with_reducible refine VC.mkL ?_ fun _ => ?_); · first | omega | exact True.intro | rfl) | ((with_reducible refine VC.mkD ?_ fun _ => ?_); · first | omega | exact True.intro | (intros; omega)) | ((with_reducible refine dEnd.mk ?_ ?_); · kernel_rfl) | (with_reducible refine adrZ.go ?_) | (simp [go_sem])))
                        (refine aIf.mkL (fun hF => by first | omega | (simp at hF; omega)) (fun hF => ?_); clear hF)
                        (repeat (first | ((with_reducible refine VC.mkL ?_ fun _ => ?_); · first | omega | exact True.intro | rfl) | ((with_reducible refine VC.mkD ?_ fun _ => ?_); · first | omega | exact True.intro | (intros; omega)) | ((with_reducible refine dEnd.mk ?_ ?_); · kernel_rfl) | (with_reducible refine adrZ.go ?_) | (simp [go_sem])))
                        refine ALoop.start (hrec5 (d5 - 1) (by omega) (c + 1) (by omega)) ?_ (by simp)
                        simp [go_sem, Wk_eq, hei, hbi]
                      · by_cases hS1 : S = 1
                        · subst hS1
                          have hP1 : P ≤ g.cells.toNat := by simpa using hP
                          (repeat (first | ((with_reducible refine VC.mkL ?_ fun _ => ?_); · first | omega | exact True.intro | rfl) | ((with_reducible refine VC.mkD ?_ fun _ => ?_); · first | omega | exact True.intro | (intros; omega)) | ((with_reducible refine dEnd.mk ?_ ?_); · kernel_rfl) | (with_reducible refine adrZ.go ?_) | (simp [go_sem])))
                          (refine aIf.mkL (fun hF => by first | omega | (simp at hF; omega)) (fun hF => ?_); clear hF)
                          (repeat (first | ((with_reducible refine VC.mkL ?_ fun _ => ?_); · first | omega | exact True.intro | rfl) | ((with_reducible refine VC.mkD ?_ fun _ => ?_); · first | omega | exact True.intro | (intros; omega)) | ((with_reducible refine dEnd.mk ?_ ?_); · kernel_rfl) | (with_reducible refine adrZ.go ?_) | (simp [go_sem])))
                          refine ALoop.start (hrec5 (d5 - 1) (by omega) (c + 1) (by omega)) ?_ (by simp)
                          simp [go_sem, Wk_eq, hei, hbi]
                        · (repeat (first | ((with_reducible refine VC.mkL ?_ fun _ => ?_); · first | omega | exact True.intro | rfl) | ((with_reducible refine VC.mkD ?_ fun _ => ?_); · first | omega | exact True.intro | (intros; omega)) | ((with_reducible refine dEnd.mk ?_ ?_); · kernel_rfl) | (with_reducible refine adrZ.go ?_) | (simp [go_sem, hS0, hS1])))
                          have hS1' : ¬ (S : Int) = 1 := by omega
                          (repeat (first | ((with_reducible refine VC.mkL ?_ fun _ => ?_); · first | omega | exact True.intro | rfl) | ((with_reducible refine VC.mkD ?_ fun _ => ?_); · first | omega | exact True.intro | (intros; omega)) | ((with_reducible refine dEnd.mk ?_ ?_); · kernel_rfl) | (with_reducible refine adrZ.go ?_) | (simp [go_sem, hS1'])))
                          refine ALoop.start (hrec5 (d5 - 1) (by omega) (c + 1) (by omega)) ?_ (by simp)
                          simp [go_sem, Wk_eq, hei, hbi]
                    · (repeat (first | ((with_reducible refine VC.mkL ?_ fun _ => ?_); · first | omega | exact True.intro | rfl) | ((with_reducible refine VC.mkD ?_ fun _ => ?_); · first | omega | exact True.intro | (intros; omega)) | ((with_reducible refine dEnd.mk ?_ ?_); · kernel_rfl) | (with_reducible refine adrZ.go ?_) | (simp [go_sem, hei])))
                      refine ALoop.start (hrec4 (d4 - 1) (by omega) (s + 1) (by omega)) ?_ (by simp)
                      simp [go_sem, Wk_eq, hei, hbi]
                  · simp
                  · simp [go_sem, Wk_eq, hei, hbi]
                  · simp
              · simp
              · simp [go_sem, Wk_eq, hei, hbi, hts1]
              · simp
          · simp
          · simp [go_sem, Wk_eq, mixL_zero]
          · simp
        · have hin : i = (nth g.kinds k).progs.length := by omega
          subst hin
          rw [htek]
          (repeat (first | ((with_reducible refine VC.mkL ?_ fun _ => ?_); · first | omega | exact True.intro | rfl) | ((with_reducible refine VC.mkD ?_ fun _ => ?_); · first | omega | exact True.intro | (intros; omega)) | ((with_reducible refine dEnd.mk ?_ ?_); · kernel_rfl) | (with_reducible refine adrZ.go ?_) | (simp [go_sem])))
          refine ALoop.start (hrec (d - 1) (by omega) (k + 1) (by omega)) ?_ (by simp)
          simp [go_sem, Wk_eq]
      · simp
      · simp [go_sem, Wk_eq, htzk]
      · simp
    · have hkl : k = g.kinds.length := by omega
      subst hkl
      (repeat (first | ((with_reducible refine VC.mkL ?_ fun _ => ?_); · first | omega | exact True.intro | rfl) | ((with_reducible refine VC.mkD ?_ fun _ => ?_); · first | omega | exact True.intro | (intros; omega)) | ((with_reducible refine dEnd.mk ?_ ?_); · kernel_rfl) | (with_reducible refine adrZ.go ?_) | (simp [go_sem])))
      refine ACallP.plain hC (by simp [go_sem]) ?_
      (repeat (first | ((with_reducible refine VC.mkL ?_ fun _ => ?_); · first | omega | exact True.intro | rfl) | ((with_reducible refine VC.mkD ?_ fun _ => ?_); · first | omega | exact True.intro | (intros; omega)) | ((with_reducible refine dEnd.mk ?_ ?_); · kernel_rfl) | (with_reducible refine adrZ.go ?_) | (simp [go_sem, hcel])))
      refine ACallP.plain hN (by simp [go_sem, hceb]) ?_
      (repeat (first | ((with_reducible refine VC.mkL ?_ fun _ => ?_); · first | omega | exact True.intro | rfl) | ((with_reducible refine VC.mkD ?_ fun _ => ?_); · first | omega | exact True.intro | (intros; omega)) | ((with_reducible refine dEnd.mk ?_ ?_); · kernel_rfl) | (with_reducible refine adrZ.go ?_) | (simp [go_sem])))
  · simp
  · simp [go_sem, Wk_eq, htz0]
  · simp
end Go.Av
end
