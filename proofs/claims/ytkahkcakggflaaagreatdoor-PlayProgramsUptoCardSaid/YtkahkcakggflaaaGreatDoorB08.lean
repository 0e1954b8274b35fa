/- Texts of ours, part 8: our library and contracts of functions. -/
import Derived.Test.YtkahkcakggflaaaGreatDoorB07
import Derived.Shelf.SlSortCmp.NoneTotal
set_option linter.unusedSimpArgs false
set_option linter.unusedVariables false
set_option maxRecDepth 100000
set_option maxHeartbeats 40000000
section
/- Plain: a further program that fails, or is there already, changes no moves. -/
open Go Go.Proofs
namespace Go.Av
def moreK (g : GameD) (k : Nat) (pr : List (Int × Int)) : KindD := { nth g.kinds k with progs := (nth g.kinds k).progs ++ [pr] }
def moreG (g : GameD) (k : Nat) (pr : List (Int × Int)) : GameD := { g with kinds := g.kinds.set k (moreK g k pr) }
section
variable {g : GameD} {k : Nat} {pr : List (Int × Int)}
theorem more_nth (j : Nat) : nth (moreG g k pr).kinds j = if k = j ∧ j < g.kinds.length then moreK g k pr else nth g.kinds j := nth_setE _ _ _ _
theorem more_keep (j : Nat) : (nth (moreG g k pr).kinds j).keep = (nth g.kinds j).keep := by
 rw [more_nth]
 split
 ·rename_i h; rw [← h.1]; rfl
 ·rfl
theorem more_len : (moreG g k pr).kinds.length = g.kinds.length := List.length_set
theorem more_takeS (s : StD) : takeS (moreG g k pr) s = takeS g s := by
 unfold takeS
 simp only [more_keep]
theorem more_stepS (s : StD) (x : Int × Int) : stepS (moreG g k pr) s x = stepS g s x := by
 unfold stepS
 simp only [more_takeS]
 rfl
theorem more_nextS (now : List StD) (x : Int × Int) : nextS (moreG g k pr) now x = nextS g now x := by
 unfold nextS
 simp only [more_stepS]
theorem more_lastS (p : PosD) (c : Int) (prog : List (Int × Int)) : lastS (moreG g k pr) p c prog = lastS g p c prog := by
 unfold lastS
 have e : nextS (moreG g k pr) = nextS g := by funext a b; exact more_nextS a b
 rw [e]
def runB (g : GameD) (p : PosD) (c : Int) (prog : List (Int × Int)) : List OutD := sortU cmpO ((lastS g p c prog).filterMap (putS p.side))
theorem runB_more (p : PosD) (c : Int) (prog : List (Int × Int)) : runB (moreG g k pr) p c prog = runB g p c prog := by
 unfold runB
 rw [more_lastS]
theorem mem_outsP2 {p : PosD} (hp : POk g p) {o : OutD} : o ∈ outsP g p ↔ ∃ c : Nat, (c : Int) < g.cells ∧ 0 ≤ (manOf (nth p.at_ c)).1 ∧ (manOf (nth p.at_ c)).2 = p.side ∧ ∃ prog ∈ (nth g.kinds (manOf (nth p.at_ c)).1.toNat).progs, o ∈ runB g p c prog := by
 rw [mem_outsP hp]
 constructor
 ·rintro ⟨c, i, h, ho⟩
  have h1 := h.i1
  have h2 := h.c1
  have h3 := h.man
  have h4 := h.side
  rw [Int.toNat_natCast] at h1 h3 h4
  refine ⟨c, h2, h3, h4, _, nth_mem (i := i) (by omega), ?_⟩
  have e : runsP g p c i = runB g p c (nth (nth g.kinds (manOf (nth p.at_ c)).1.toNat).progs i) := rfl
  rwa [← e]
 ·rintro ⟨c, h2, h3, h4, prog, hpr, ho⟩
  obtain ⟨i, hi, rfl⟩ := mem_nth hpr
  exact ⟨c, i, ⟨Int.natCast_nonneg _, h2, h3, h4, Int.natCast_nonneg _, by rw [Int.toNat_natCast]; exact_mod_cast hi⟩, ho⟩
theorem runB_fail (p : PosD) (c : Int) : runB g p c [(3, 0), (4, 0)] = [] := by
 have e : lastS g p c [(3, 0), (4, 0)] = [] := by
  refine List.eq_nil_iff_forall_not_mem.2 fun s hs => ?_
  unfold lastS at hs
  rw [List.foldl_cons, List.foldl_cons, List.foldl_nil] at hs
  obtain ⟨r, hr, hs⟩ := nextS_memK.1 hs
  obtain ⟨t, _, hr⟩ := nextS_memK.1 hr
  have e1 : stepS g t (3, 0) = onlyS t (decide ((manOf (nth t.p.at_ t.cursor.toNat)).1 < 0)) := rfl
  have e2 : stepS g r (4, 0) = onlyS r (decide (0 ≤ (manOf (nth r.p.at_ r.cursor.toNat)).1 ∧ (manOf (nth r.p.at_ r.cursor.toNat)).2 ≠ r.p.side)) := rfl
  rw [e1] at hr
  rw [e2] at hs
  have := onlyS_mem hr
  subst this
  unfold onlyS at hr hs
  split at hr
  ·rename_i h1
   split at hs
   ·rename_i h2
    rw [decide_eq_true_eq] at h1 h2
    omega
   ·simp at hs
  ·simp at hr
 unfold runB
 rw [e]
 exact List.eq_nil_iff_forall_not_mem.2 fun o ho => by rw [sortU_mem] at ho; simp at ho
variable (hk : k < g.kinds.length) (hpr : pr = [(3, 0), (4, 0)] ∨ pr ∈ (nth g.kinds k).progs)
include hpr in
theorem more_outs {p : PosD} (hp : POk g p) (hp2 : POk (moreG g k pr) p) (o : OutD) : o ∈ outsP (moreG g k pr) p ↔ o ∈ outsP g p := by
 rw [mem_outsP2 hp, mem_outsP2 hp2]
 refine exists_congr fun c => and_congr Iff.rfl (and_congr Iff.rfl (and_congr Iff.rfl ?_))
 simp only [runB_more]
 rw [more_nth]
 split
 ·rename_i h
  rw [← h.1]
  unfold moreK
  simp only
  constructor
  ·rintro ⟨prog, h1, h2⟩
   rcases List.mem_append.1 h1 with h1 | h1
   ·exact ⟨prog, h1, h2⟩
   ·simp only [List.mem_singleton] at h1
    subst h1
    rcases hpr with h3 | h3
    ·subst h3
     rw [runB_fail] at h2
     simp at h2
    ·exact ⟨_, h3, h2⟩
  ·rintro ⟨prog, h1, h2⟩
   exact ⟨prog, List.mem_append.2 (.inl h1), h2⟩
 ·exact Iff.rfl
include hpr in
theorem more_moves {p : PosD} (hp : POk g p) (hp2 : POk (moreG g k pr) p) : movesP (moreG g k pr) p = movesP g p := by
 have ho := more_outs hpr hp hp2
 have hm : mustP (moreG g k pr) p = mustP g p := by
  unfold mustP
  have e : (outsP (moreG g k pr) p).any (·.took) = (outsP g p).any (·.took) := by
   rw [Bool.eq_iff_iff, List.any_eq_true, List.any_eq_true]
   exact exists_congr fun o => by rw [ho o]
  rw [e]
  rfl
 have hd : dropsP (moreG g k pr) p = dropsP g p := by
  unfold dropsP dropsL
  rw [more_len]
  rfl
 have he : endedP (moreG g k pr) p = endedP g p := rfl
 refine strict_ext cmp_pos (movesP_inc _ p) (movesP_inc g p) fun q => ?_
 rw [mem_movesP, mem_movesP, hm, hd, he]
 simp only [ho]
end
theorem POk.more {g : GameD} {k : Nat} {pr : List (Int × Int)} {p : PosD} (hp : POk g p) : POk (moreG g k pr) p := by
 have hl : ∀ {l : List Int}, HandOk g l → HandOk (moreG g k pr) l := fun {l} h =>
  ⟨by rw [more_len]; exact h.len, fun i hi => ⟨(h.v i hi).1, (h.v i hi).2.1, fun h0 => by rw [more_keep]; exact (h.v i hi).2.2 h0⟩⟩
 refine ⟨hp.al, fun c hc => ?_, hl hp.h0, hl hp.h1, hp.r0, hp.r1, hp.s⟩
 rw [more_len]
 exact hp.av c hc
theorem GOk.more {g : GameD} {k : Nat} {pr : List (Int × Int)} (hg : GOk g) (hk : k < g.kinds.length) (h7 : (nth g.kinds k).progs.length ≤ 7) (hpr : ProgOk g.next.length g.kinds.length g.rights pr) : GOk (moreG g k pr) := by
 have hmem : ∀ kd ∈ (moreG g k pr).kinds, kd = moreK g k pr ∨ kd ∈ g.kinds := fun kd hkd => (List.mem_or_eq_of_mem_set hkd).symm
 refine ⟨hg.board, hg.c1, hg.c9, hg.d1, hg.d8, hg.turn, by rw [more_len]; exact hg.k1, by rw [more_len]; exact hg.k6, fun kd hkd => ?_, fun kd hkd pg hpg => ?_, hg.r0, hg.r4, fun c hc => ?_, hg.cn, hg.bl, hg.en⟩
 ·rcases hmem kd hkd with rfl | h
  ·unfold moreK; simp; omega
  ·exact hg.pn kd h
 ·rw [more_len]
  rcases hmem kd hkd with rfl | h
  ·unfold moreK at hpg
   simp only at hpg
   rcases List.mem_append.1 hpg with h | h
   ·exact hg.pr _ (nth_mem hk) pg h
   ·simp only [List.mem_singleton] at h
    subst h
    exact hpr
  ·exact hg.pr kd h pg hpg
 ·rw [more_len]
  exact hg.cl c hc
theorem fail_ok {d k r : Int} : ProgOk d k r [(3, 0), (4, 0)] := by
 refine ⟨by simp, by simp, ?_, by decide, by decide, by decide⟩
 intro x hx
 simp only [List.mem_cons, List.not_mem_nil, or_false] at hx
 rcases hx with rfl | rfl <;> refine ⟨by simp, ?_, ?_, ?_, ?_⟩ <;> simp
end Go.Av
end
section
/- Our library: ranges over functions, and iterators: equations and steps. -/
namespace Go.Av
open Go
section
variable {P : Program} {n0 : Nat} {Q : Post} {e : Env} {h : Heap} {n : Nat} {ops rest : List Oper}
def aRange (P : Program) (n0 : Nat) (ps : List Tmp) (a b : Code) (Q : Post) (v : AV) (e : Env) (h : Heap) (n : Nat) : Prop :=
 (∃ f caps caps' more rows h', v = .fn (.func f) [] caps ∧ Frz h h' ∧ LeRow h h' n caps caps' ∧ (∀ c ∈ caps', Bel 0 c) ∧ PSeq P f caps' more rows ∧
  (∀ xs ∈ rows, xs.length = ps.length) ∧ Fgt n0 (ARange n0 more ps (fun n1 => awp P n1 a) (fun n1 => awp P n1 b) Q rows) e h' n) ∨
 (∃ f caps caps' o gn sz rs rs' more rows h', v = .fn (.func f) [] caps ∧ Frz h h' ∧ h' o = some (.rows true gn sz rs) ∧ LeRows h h' n rs rs' ∧ (∀ r ∈ rs', ∀ c ∈ r, Bel 0 c) ∧
  GvRow h h' n o caps caps' ∧ PSeqO P f caps' [(0, .rows true gn sz rs')] 1 more rows ∧
  (∀ xs ∈ rows, xs.length = ps.length) ∧ Fgt n0 (ARange n0 more ps (fun n1 => awp P n1 a) (fun n1 => awp P n1 b) Q rows) e (upd h' o none) n)
theorem awp_rangeFunc (g : Operand) (ps : List Tmp) (a b : Code) : awp P n0 (.rangeFunc g ps.toArray a b) Q e h n = aRange P n0 ps a b Q (ev e g) e h n := rfl
@[congr] theorem aRange_congr {ps : List Tmp} {a b : Code} {v v' : AV} (hv : v = v') : aRange P n0 ps a b Q v e h n = aRange P n0 ps a b Q v' e h n := by subst hv; rfl
theorem aRange.mk {ps : List Tmp} {a b : Code} {f : FuncId} {caps : List AV} (caps' : List AV) (h' : Heap) {more : Nat} {rows : List (List AV)} (C : PSeq P f caps' more rows) (hfz : Frz h h') (hle : LeRow h h' n caps caps') (hb : ∀ c ∈ caps', Bel 0 c)
  (hlen : ∀ xs ∈ rows, xs.length = ps.length) (hk : Fgt n0 (ARange n0 more ps (fun n1 => awp P n1 a) (fun n1 => awp P n1 b) Q rows) e h' n) : aRange P n0 ps a b Q (.fn (.func f) [] caps) e h n :=
 .inl ⟨f, caps, caps', more, rows, h', rfl, hfz, hle, hb, C, hlen, hk⟩
theorem aRange.give {ps : List Tmp} {a b : Code} {f : FuncId} {caps : List AV} (caps' : List AV) (h' : Heap) (o : Nat) {gn sz : Nat} {rs : List (List AV)} (rs' : List (List AV)) {more : Nat} {rows : List (List AV)}
  (C : PSeqO P f caps' [(0, .rows true gn sz rs')] 1 more rows) (hfz : Frz h h') (ho : h' o = some (.rows true gn sz rs)) (hr : LeRows h h' n rs rs') (hbr : ∀ r ∈ rs', ∀ c ∈ r, Bel 0 c) (hg : GvRow h h' n o caps caps')
  (hlen : ∀ xs ∈ rows, xs.length = ps.length) (hk : Fgt n0 (ARange n0 more ps (fun n1 => awp P n1 a) (fun n1 => awp P n1 b) Q rows) e (upd h' o none) n) : aRange P n0 ps a b Q (.fn (.func f) [] caps) e h n :=
 .inr ⟨f, caps, caps', o, gn, sz, rs, rs', more, rows, h', rfl, hfz, ho, hr, hbr, hg, C, hlen, hk⟩
theorem ARange.go {ps : List Tmp} {a b : Code} {more : Nat} {xs : List AV} {rs : List (List AV)} (hn : n0 ≤ n)
  (hk : awp P n a (QNone (awp P n b (QRound (Fgt n0 (ARange n0 more ps (fun n1 => awp P n1 a) (fun n1 => awp P n1 b) Q rs)) Q e))) (putPs ps xs e) h n) :
  ARange n0 more ps (fun n1 => awp P n1 a) (fun n1 => awp P n1 b) Q (xs :: rs) e h n := ⟨hn, hk⟩
theorem Fgt.to {K : Env → Heap → Nat → Prop} {E : List (Nat × AV)} {HH : List (Nat × AObj)} {n' : Nat} (hk : K (mkE E) (mkH HH) n') (hw : Wk e h n E HH n') (hn : n0 ≤ n') : Fgt n0 K e h n := .inr ⟨E, HH, n', hw, hn, hk⟩
theorem ARange.ind {α : Type} (S : α → List (Nat × AV) × List (Nat × AObj) × Nat) (inv : List (List AV) → α → Prop) {ps : List Tmp} {A B : Nat → Post → Env → Heap → Nat → Prop} {more : Nat}
  (h0 : ∀ d, inv [] d → more = 0 ∧ Q .normal (mkE (S d).1) (mkH (S d).2.1) (S d).2.2)
  (h1 : ∀ xs rs d, inv (xs :: rs) d → (∀ d', inv rs d' → ARange n0 more ps A B Q rs (mkE (S d').1) (mkH (S d').2.1) (S d').2.2) → ARange n0 more ps A B Q (xs :: rs) (mkE (S d).1) (mkH (S d).2.1) (S d).2.2) :
  ∀ rows d, inv rows d → ARange n0 more ps A B Q rows (mkE (S d).1) (mkH (S d).2.1) (S d).2.2
 | [], d, hi => h0 d hi
 | xs :: rs, d, hi => h1 xs rs d hi fun d' hi' => ARange.ind S inv h0 h1 rs d' hi'
theorem QNone_normal {K : Env → Heap → Nat → Prop} : QNone K .normal e h n = K e h n := rfl
theorem QRound_normal {K : Env → Heap → Nat → Prop} {e0 : Env} : QRound K Q e0 .normal e h n = K (upd e0 GH (e GH)) h n := rfl
theorem QRound_ret {K : Env → Heap → Nat → Prop} {e0 : Env} : QRound K Q e0 .ret e h n = Q .ret (upd e0 GH (e GH)) h n := rfl
theorem QRound_exit {K : Env → Heap → Nat → Prop} {e0 : Env} {id : Nat} : QRound K Q e0 (.exit id) e h n = Q (.exit id) (upd e0 GH (e GH)) h n := rfl
theorem putPs_nil {xs : List AV} : putPs [] xs e = e := by simp [putPs]
theorem putPs_cons {t : Tmp} {ps : List Tmp} {x : AV} {xs : List AV} : putPs (t :: ps) (x :: xs) e = putPs ps xs (upd e t x) := rfl
theorem RetI_normal {rs : List ResultVar} {l more : Nat} : RetI P rs l more .normal e h n = ((resL P e h rs).1 ∧ ((more = 0 ∧ e GH = ghost l 0 []) ∨ e GH = ghost l 2 [])) := rfl
theorem RetI_ret {rs : List ResultVar} {l more : Nat} : RetI P rs l more .ret e h n = ((resL P e h rs).1 ∧ ((more = 0 ∧ e GH = ghost l 0 []) ∨ e GH = ghost l 2 [])) := rfl
theorem aYld.mk {dst : Option Tmp} {l more : Nat} {args xs : List AV} {rs : List (List AV)} (h' : Heap) (hg : e GH = ghost l more (xs :: rs)) (hfz : Frz h h') (hle : LeRow h h' n args xs) (hb : ∀ c ∈ xs, Bel 0 c)
  (hT : aops P ops Q rest (put (upd e GH (ghost l more rs)) dst (.v (.bool true))) h' n) (hF : aops P ops Q rest (put (upd e GH (ghost l 2 [])) dst (.v (.bool false))) h' n) : aYld P ops Q rest dst l args e h n :=
 ⟨l, more, xs :: rs, rfl, hg, h', hfz, hle, hb, hT, hF⟩
theorem aYld.exh {dst : Option Tmp} {l : Nat} {args : List AV} (hg : e GH = ghost l 1 []) : aYld P ops Q rest dst l args e h n := ⟨l, 1, [], rfl, hg, rfl⟩
theorem aGC.yld {dst : Option Tmp} {l more : Nat} {args xs : List AV} {rs : List (List AV)} (h' : Heap) (hg : e GH = ghost l more (xs :: rs)) (hfz : Frz h h') (hle : LeRow h h' n args xs) (hb : ∀ c ∈ xs, Bel 0 c)
  (hT : aops P ops Q rest (put (upd e GH (ghost l more rs)) dst (.gd true (.v (.bool true)))) h' n) (hF : aops P ops Q rest (put (upd e GH (ghost l 2 [])) dst (.gd true (.v (.bool false)))) h' n) :
  aGC P ops Q rest dst true (.fn (.yield l) [] []) args e h n := .inr (.inr ⟨rfl, l, more, xs :: rs, rfl, hg, h', hfz, hle, hb, hT, hF⟩)
theorem aGC.exh {dst : Option Tmp} {l : Nat} {args : List AV} (hg : e GH = ghost l 1 []) : aGC P ops Q rest dst true (.fn (.yield l) [] []) args e h n := .inr (.inr ⟨rfl, l, 1, [], rfl, hg, rfl⟩)
theorem GvRow_nil {h h' : Heap} {o : Nat} : GvRow h h' n o [] [] = True := eq_true .nil
theorem GvRow_ref {h h' : Heap} {o g sz i off : Nat} {xs ys : List AV} : GvRow h h' n o (.ref o g sz i off :: xs) (.ref 0 g sz i off :: ys) = GvRow h h' n o xs ys := by
 refine propext ⟨fun hg => ?_, .ref⟩
 cases hg with
 | ref t => exact t
 | le hx hb t => cases hb with | ref hb => exact absurd hb (Nat.not_lt_zero _)
theorem GvRow_fp {h h' : Heap} {o : Nat} {x : AV} {cells xs ys : List AV} : GvRow h h' n o (x :: xs) (.fp cells :: ys) = (LeV h h' n x (.fp cells) ∧ (∀ c ∈ cells, Bel 0 c) ∧ GvRow h h' n o xs ys) := by
 refine propext ⟨fun hg => ?_, fun ⟨h1, h2, h3⟩ => .le h1 (.fp h2) h3⟩
 cases hg with
 | le hx hb t => cases hb with | fp hb => exact ⟨hx, hb, t⟩
attribute [go_sem] GvRow_nil GvRow_ref GvRow_fp
attribute [go_sem] awp_rangeFunc QNone_normal QRound_normal QRound_ret QRound_exit putPs_nil putPs_cons RetI_normal RetI_ret aCall_yield
end
end Go.Av
end
section
/- Contracts: board.steps, board.Line. -/
open Go Go.Proofs
namespace Go.Av
def stepRows (b : BoardD) (side d : Int) : Nat → Int → List Int
 | 0, _ => []
 | k + 1, x => if 0 ≤ x then x :: stepRows b side d k (toB b side d x) else []
def stepMore (b : BoardD) (side d : Int) : Nat → Int → Nat
 | 0, x => if 0 ≤ x then 1 else 0
 | k + 1, x => if 0 ≤ x then stepMore b side d k (toB b side d x) else 0
theorem stepMore_ne {b : BoardD} {side d : Int} : ∀ {k : Nat} {x : Int}, stepMore b side d k x ≠ 2
 | 0, x => by unfold stepMore; split <;> omega
 | k + 1, x => by unfold stepMore; split; exact stepMore_ne; omega
theorem stepsF_seq (b : BoardD) (hb : BoardOk b) (side d c : Int) (k : Nat) : PSeq Tryz.prog 291 [.fp (encB b), .fp [.v (.int .i64 side)], .fp [.v (.int .i64 d)], .fp [.v (.int .i64 c)]]
  (stepMore b side d k (toB b side d c)) ((stepRows b side d k (toB b side d c)).map encI) := by
 refine PSeq.of_awp (by kernel_rfl) Tryz.func291 rfl rfl (Nat.le_of_ble_eq_true rfl) (by kernel_rfl) (fun l => ?_) (hm2 := stepMore_ne)
 have hbl : ∀ n, (∀ c' ∈ encB b, Bel n c') = True := fun n => by simp [go_sem]
 have hel : (encB b).length = 3 := rfl
 have hT : ∀ x, Pure Tryz.prog 254 [.agg (encB b), .v (.int .i64 side), .v (.int .i64 d), .v (.int .i64 x)] (.v (.int .i64 (toB b side d x))) := fun x => bTo_pure b hb side d x
 have hg : ∀ (n k : Nat) (x : Int), Bel n (ghost l (stepMore b side d k x) ((stepRows b side d k x).map encI)) := fun n k x => by
  simp only [ghost, Bel_gd, Bel_tup, List.forall_mem_cons, Bel_v, Bel_lst]
  simp [go_sem]
 obtain ⟨eb, heb⟩ : ∃ eb, eb = encB b := ⟨_, rfl⟩
 rw [← heb] at hbl hel hT ⊢
 have hte : eb.take 3 = eb := List.take_of_length_le (by omega)
 (repeat (first|with_reducible refine wV fun _=>?_|simp [go_sem, hel, GH, hte]))
 refine ACallP.plain (hT c) (by simp [go_sem, hbl]) ?_
 (repeat (first|with_reducible refine wV fun _=>?_|simp [go_sem, hel, GH, hte]))
 refine ALoop.start (ALoop.ind (α := Nat × Int) (fun a => ⟨[(0, .fn (.yield l) [] []), (1, .fp eb), (2, .fp [.v (.int .i64 side)]), (3, .fp [.v (.int .i64 d)]), (6, .v (.int .i64 a.2)), (1000000007, ghost l (stepMore b side d a.1 a.2) ((stepRows b side d a.1 a.2).map encI))], [], 0⟩)
  (fun f a => f = a.1 ∧ stepMore b side d a.1 a.2 = stepMore b side d k (toB b side d c)) ?_ k (k, toB b side d c) ?_) ?_ ?_
 ·rintro f ⟨k', x⟩ ⟨i1, i2⟩ hrec
  simp only at i1 i2
  subst i1
  (repeat (first|with_reducible refine wV fun _=>?_|simp [go_sem, hel, GH, hte]))
  by_cases hx : 0 ≤ x
  ·simp only [hx, decide_true]
   cases f with
   | zero => exact aGC.exh (by simp [upd, GH, stepMore, stepRows, hx])
   | succ f =>
    refine aGC.yld (more := stepMore b side d f (toB b side d x)) (xs := [.v (.int .i64 x)]) (rs := (stepRows b side d f (toB b side d x)).map encI) noH (by simp [upd, GH, stepMore, stepRows, hx, encI]) (.refl _) (.refl _ _ _ _) (by simp [go_sem]) ?_ ?_
    ·(repeat (first|with_reducible refine wV fun _=>?_|simp [go_sem, hel, GH, hte]))
     refine ACallP.plain (hT x) (by simp [go_sem, hbl]) ?_
     (repeat (first|with_reducible refine wV fun _=>?_|simp [go_sem, hel, GH, hte]))
     rw [stepMore, if_pos hx] at i2
     refine ALoop.start (hrec f (by omega) (f, toB b side d x) ⟨rfl, i2⟩) ?_ (by simp)
     simp [go_sem, Wk_eq, hbl, hg, GH]
    ·(repeat (first|with_reducible refine wV fun _=>?_|simp [go_sem, hel, GH, hte]))
  ·have hm : stepMore b side d f x = 0 := by cases f <;> simp [stepMore, hx]
   have hr : stepRows b side d f x = [] := by cases f <;> simp [stepRows, hx]
   simp only [hx, decide_false]
   refine aGC.skip (.v (.bool false)) ?_
   (repeat (first|with_reducible refine wV fun _=>?_|simp [go_sem, hel, GH, hte]))
   rw [← i2, hm, hr]
   exact .inl ⟨rfl, rfl⟩
 ·exact ⟨rfl, rfl⟩
 ·simp [go_sem, Wk_eq, hbl, hg, GH]
 ·simp
def stepsR (n : Nat) : AV := .fn (.func 291) [] [.ref n 0 3 0 0, .ref (n + 1) 0 1 0 0, .ref (n + 2) 0 1 0 0, .ref (n + 3) 0 1 0 0]
def stepsH (b : BoardD) (side d c : Int) (n : Nat) : List (Nat × AObj) := [(n, .rows true 0 3 [encB b]), (n + 1, .rows true 0 1 [[.v (.int .i64 side)]]), (n + 2, .rows true 0 1 [[.v (.int .i64 d)]]), (n + 3, .rows true 0 1 [[.v (.int .i64 c)]])]
theorem steps_owns (b : BoardD) (side d c : Int) : Owns Tryz.prog 282 [.agg (encB b), .v (.int .i64 side), .v (.int .i64 d), .v (.int .i64 c)] stepsR (stepsH b side d c) 4 := by
 refine ⟨?_, fun n => ⟨by simp [go_sem, stepsR], by simp [go_sem, stepsH]⟩⟩
 refine ACallP.of_awp (by kernel_rfl) Tryz.func282 rfl rfl (Nat.le_of_ble_eq_true rfl) (by kernel_rfl) ?_
 (repeat (first|with_reducible refine wV fun _=>?_|simp [go_sem, stepsR, stepsH]))
 simp [go_sem, Wk_eq]
theorem bLine_pure (b : BoardD) (hb : BoardOk b) (side d c : Int) : Pure Tryz.prog 255 [.agg (encB b), .v (.int .i64 side), .v (.int .i64 d), .v (.int .i64 c)] (encIs (lineB b side d c)) := by
 refine pF Tryz.func255 ?_
 have hbl : ∀ n, (∀ c' ∈ encB b, Bel n c') = True := fun n => by simp [go_sem]
 have hel : (encB b).length = 3 := rfl
 have hS : Owns Tryz.prog 282 [.agg (encB b), .v (.int .i64 side), .v (.int .i64 d), .v (.int .i64 c)] (fun n => stepsR n) (fun n => stepsH b side d c n) 4 := steps_owns b side d c
 have hQ := fun k => stepsF_seq b hb side d c k
 simp only [stepsR, stepsH] at hS
 have hte : (encB b).take 3 = encB b := rfl
 obtain ⟨eb, heb⟩ : ∃ eb, eb = encB b := ⟨_, rfl⟩
 rw [← heb] at hbl hel hS hQ hte ⊢
 have hc1 := hb.c1
 have hc0 := hb.c0
 (repeat (first|with_reducible refine wV fun _=>?_|simp [go_sem, hel, hte, GH]))
 refine ACallP.ownsPlain hS (by simp [go_sem, hbl]) ?_
 (repeat (first|with_reducible refine wV fun _=>?_|simp [go_sem, hel, hte, GH]))
 refine aRange.mk [.fp eb, .fp [.v (.int .i64 side)], .fp [.v (.int .i64 d)], .fp [.v (.int .i64 c)]] (frzO _ [3, 4, 5, 6]) (hQ (b.cells.toNat + 1)) (frz_frzO _ _) ?_ (by simp [go_sem, hbl]) (by simp [encI]) ?_
 ·refine LeRow.cons (.frzP rfl ?_ ?_ ?_ ?_) (LeRow.cons (.frzP rfl ?_ ?_ ?_ ?_) (LeRow.cons (.frzP rfl ?_ ?_ ?_ ?_) (LeRow.cons (.frzP rfl ?_ ?_ ?_ ?_) .nil))) <;> first | exact LeRow.refl _ _ _ _ | simp [frzO, frz1, upd]
 refine Fgt.to (ARange.ind (α := Nat × Int × List Int) (fun a => ([(7, .ref 1 0 1 0 0), (9, .ref 2 0 1 0 0)], [(1, .rows true 0 1 [[.v (.int .i64 c)]]), (2, .rows true 0 1 [[.sl 7 a.2.2.length 1 0 a.2.2.length]]), (7, .rows true a.2.2.length 1 (a.2.2.map encI))], 8))
  (fun rows a => rows = (stepRows b side d a.1 a.2.1).map encI ∧ stepMore b side d a.1 a.2.1 = stepMore b side d (b.cells.toNat + 1) (toB b side d c) ∧ a.1 + a.2.2.length = b.cells.toNat + 1 ∧ a.2.1 < b.cells ∧ a.2.2.Nodup ∧
   (∀ y ∈ a.2.2, 0 ≤ y ∧ y < b.cells) ∧ lineB b side d c = lineGo b side d c a.1 a.2.1 a.2.2) ?_ ?_ _ (b.cells.toNat + 1, toB b side d c, []) ?_) ?_ ?_
 ·rintro ⟨f, x, seen⟩ ⟨i0, i1, i2, i3, i4, i5, i6⟩
  simp only at i0 i1 i2 i3 i4 i5 i6
  have hsl : seen.length ≤ b.cells.toNat := nodup_le _ _ i4 (fun y hy => by have := i5 y hy; omega)
  obtain ⟨f, rfl⟩ : ∃ f', f = f' + 1 := ⟨f - 1, by omega⟩
  have hx : ¬ 0 ≤ x := fun hx => by simp [stepRows, hx] at i0
  rw [stepMore, if_neg hx] at i1
  rw [lineGo, if_neg (fun h => hx h.1)] at i6
  refine ⟨i1.symm, ?_⟩
  rw [i6]
  (repeat (first|with_reducible refine wV fun _=>?_|simp [go_sem, hel]))
  exact frX
 ·rintro xs rs ⟨f, x, seen⟩ ⟨i0, i1, i2, i3, i4, i5, i6⟩ hrec
  simp only at i0 i1 i2 i3 i4 i5 i6
  have hsl : seen.length ≤ b.cells.toNat := nodup_le _ _ i4 (fun y hy => by have := i5 y hy; omega)
  cases f with
  | zero => simp [stepRows] at i0
  | succ f =>
  have hx : 0 ≤ x := by
   by_cases hx : 0 ≤ x
   ·exact hx
   ·simp [stepRows, hx] at i0
  rw [stepRows, if_pos hx] at i0
  simp only [List.map_cons, List.cons.injEq] at i0
  obtain ⟨rfl, rfl⟩ := i0
  rw [stepMore, if_pos hx] at i1
  rw [lineGo] at i6
  refine ARange.go (Nat.zero_le _) ?_
  (repeat (first|with_reducible refine wV fun _=>?_|simp [go_sem, hel, GH, encI]))
  refine aGC.flat [encIs seen, .v (.int .i64 x)] (.v (.bool (decide (x ∈ seen)))) (fun _ => Contains_pure seen x (by omega)) (.v _) ?_ (by simp [go_sem]) ?_
  ·refine LeRow.cons ?_ (LeRow.cons (.refl _) LeRow.nil)
   refine LeV.frz rfl ?_ ?_ (LeRows.of_eq ?_) <;> simp [noH, List.take_of_length_le]
  (repeat (first|with_reducible refine wV fun _=>?_|simp [go_sem, hel, GH]))
  refine aIf.mkL (fun hc => ?_) (fun hc => ?_) <;> simp at hc
  ·rw [if_neg (by rintro ⟨h1, h2, h3⟩; rcases hc with h | h <;> contradiction)] at i6
   rw [i6]
   (repeat (first|with_reducible refine wV fun _=>?_|simp [go_sem, hel, GH]))
   exact frX
  ·rw [if_pos ⟨hx, by simpa using hc⟩] at i6
   (repeat (first|with_reducible refine wV fun _=>?_|simp [go_sem, hel, GH]))
   refine Fgt.to (hrec (f, toB b side d x, seen ++ [x]) ⟨rfl, i1, by simp only [List.length_append, List.length_singleton]; omega, toB_lt hb _ _ _, ?_, ?_, i6⟩) ?_ (by simp)
   ·refine List.nodup_append.2 ⟨i4, by simp, ?_⟩
    intro y hy z hz
    simp at hz
    subst hz
    rintro rfl
    exact hc.2 hy
   ·intro y hy
    rcases List.mem_append.1 hy with h | h
    ·exact i5 y h
    ·simp at h; omega
   ·simp [go_sem, Wk_eq, GH] <;> (first|done|exact blX)
 ·exact ⟨rfl, rfl, by simp, toB_lt hb _ _ _, by simp, by simp, rfl⟩
 ·simp [go_sem, Wk_eq]
 ·simp
end Go.Av
end
section
/- Contracts: game.Man, game.Code, pos.Compare. -/
open Go Go.Proofs
namespace Go.Av
theorem gMan_pure (c : Int) : Pure Tryz.prog 138 [.v (.int .i64 c)] (.tup [.v (.int .i64 (manOf c).1), .v (.int .i64 (manOf c).2)]) := by
 refine pF Tryz.func138 ?_
 unfold manOf
 by_cases h1 : c < 1
 ·rw [if_neg (by omega)]
  (repeat (first|with_reducible refine wV fun _=>?_|simp [go_sem, h1]))
 ·by_cases h2 : 12 < c
  ·rw [if_neg (by omega)]
   (repeat (first|with_reducible refine wV fun _=>?_|simp [go_sem, h1, h2]))
  ·rw [if_pos (by omega)]
   have e1 : (c - 1).tdiv 2 = (c - 1) / 2 := Int.tdiv_eq_ediv_of_nonneg (by omega)
   have e2 : (c - 1).tmod 2 = (c - 1) % 2 := Int.tmod_eq_emod_of_nonneg (by omega)
   have b1 : 0 ≤ (c - 1).tdiv 2 ∧ (c - 1).tdiv 2 ≤ 12 := by omega
   have b2 : 0 ≤ (c - 1).tmod 2 ∧ (c - 1).tmod 2 ≤ 12 := by omega
   clear e1 e2
   (repeat (first|with_reducible refine wV fun _=>?_|simp [go_sem, h1, h2]))
theorem gCode_pure (k s : Int) : Pure Tryz.prog 122 [.v (.int .i64 k), .v (.int .i64 s)] (.v (.int .i64 (codeOf k s))) := by
 refine pF Tryz.func122 ?_
 unfold codeOf
 by_cases h1 : k < 0
 ·rw [if_neg (by omega)]
  (repeat (first|with_reducible refine wV fun _=>?_|simp [go_sem, h1]))
 by_cases h2 : 6 ≤ k
 ·rw [if_neg (by omega)]
  (repeat (first|with_reducible refine wV fun _=>?_|simp [go_sem, h1, h2]))
 by_cases h3 : s < 0
 ·rw [if_neg (by omega)]
  (repeat (first|with_reducible refine wV fun _=>?_|simp [go_sem, h1, h2, h3]))
 by_cases h4 : 1 < s
 ·rw [if_neg (by omega)]
  (repeat (first|with_reducible refine wV fun _=>?_|simp [go_sem, h1, h2, h3, h4]))
 ·rw [if_pos (by omega), show 2 * k + 1 + s = 1 + 2 * k + s by omega]
  (repeat (first|with_reducible refine wV fun _=>?_|simp [go_sem, h1, h2, h3, h4]))
theorem isNaN_pure (x : Int) : Pure Tryz.prog 155 [.v (.int .i64 x)] (.v (.bool false)) := by
 refine pF Tryz.func155 ?_
 (repeat (first|with_reducible refine wV fun _=>?_|simp [go_sem]))
theorem cCompare_pure (a b : Int) : Pure Tryz.prog 96 [.v (.int .i64 a), .v (.int .i64 b)] (.v (.int .i64 (number a b))) := by
 refine pF Tryz.func96 ?_
 (repeat (first|with_reducible refine wV fun _=>?_|simp [go_sem]))
 refine ACallP.plain (isNaN_pure a) (by simp [go_sem]) ?_
 (repeat (first|with_reducible refine wV fun _=>?_|simp [go_sem]))
 refine ACallP.plain (isNaN_pure b) (by simp [go_sem]) ?_
 unfold number
 by_cases h1 : a < b
 ·rw [if_pos h1]
  (repeat (first|with_reducible refine wV fun _=>?_|simp [go_sem, h1]))
 ·by_cases h2 : b < a
  ·rw [if_neg h1, if_pos h2]
   (repeat (first|with_reducible refine wV fun _=>?_|simp [go_sem, h1, h2]))
  ·rw [if_neg h1, if_neg h2]
   (repeat (first|with_reducible refine wV fun _=>?_|simp [go_sem, h1, h2]))
def orI : List Int → Int
 | [] => 0
 | x :: l => if x = 0 then orI l else x
theorem cOr_pure (l : List Int) (hl : Fits l) : Pure Tryz.prog 94 [encIs l] (.v (.int .i64 (orI l))) := by
 refine pF Tryz.func94 ?_
 unfold Fits at hl
 (repeat (first|with_reducible refine wV fun _=>?_|simp [go_sem]))
 refine ALoop.start (ALoop.ind (α := Nat) (fun j => ⟨[(3, .v (.int .i64 0)), (6, encIs l), (7, .v (.int .i64 l.length)), (8, .v (.int .i64 j))], [], 0⟩)
  (fun d j => j + d = l.length ∧ orI l = orI (l.drop j)) ?_ l.length 0 ?_) ?_ ?_
 ·rintro d j ⟨i1, i2⟩ hrec
  (repeat (first|with_reducible refine wV fun _=>?_|simp [go_sem]))
  refine aIf.mkL (fun hj => ?_) (fun hj => ?_) <;> simp at hj
  ·rw [drop_cons hj, orI] at i2
   (repeat (first|with_reducible refine wV fun _=>?_|simp [go_sem, hj]))
   by_cases h0 : nth l j = 0
   ·rw [if_pos h0] at i2
    (repeat (first|with_reducible refine wV fun _=>?_|simp [go_sem, h0]))
    refine ALoop.start (hrec (d - 1) (by omega) (j + 1) ⟨by omega, i2⟩) ?_ (by simp)
    simp [go_sem, Wk_eq]
   ·rw [if_neg h0] at i2
    rw [i2]
    (repeat (first|with_reducible refine wV fun _=>?_|simp [go_sem, h0]))
  ·rw [List.drop_eq_nil_of_le hj, orI] at i2
   rw [i2]
   (repeat (first|with_reducible refine wV fun _=>?_|simp [go_sem]))
 ·simp
 ·simp [go_sem, Wk_eq]
 ·simp
theorem sCompare_pure (a b : List Int) (ha : Fits a) (hb : Fits b) : Pure Tryz.prog 95 [encIs a, encIs b] (.v (.int .i64 (cmpL a b))) := by
 refine pF Tryz.func95 ?_
 unfold Fits at ha hb
 (repeat (first|with_reducible refine wV fun _=>?_|simp [go_sem]))
 refine ALoop.start (ALoop.ind (α := Nat) (fun j => ⟨[(0, encIs a), (1, encIs b), (9, encIs a), (10, .v (.int .i64 a.length)), (11, .v (.int .i64 j))], [], 0⟩)
  (fun d j => j + d = a.length ∧ j ≤ b.length ∧ cmpL a b = cmpL (a.drop j) (b.drop j)) ?_ a.length 0 ?_) ?_ ?_
 ·rintro d j ⟨i1, i2, i3⟩ hrec
  (repeat (first|with_reducible refine wV fun _=>?_|simp [go_sem]))
  refine aIf.mkL (fun hj => ?_) (fun hj => ?_) <;> simp at hj
  ·rw [drop_cons hj] at i3
   (repeat (first|with_reducible refine wV fun _=>?_|simp [go_sem, hj]))
   by_cases hk : j < b.length
   ·rw [drop_cons hk, cmpL] at i3
    have hk' : ¬ b.length ≤ j := by omega
    (repeat (first|with_reducible refine wV fun _=>?_|simp [go_sem, hj, hk, hk']))
    refine ACallP.plain (cCompare_pure _ _) (by simp [go_sem]) ?_
    by_cases he : nth a j = nth b j
    ·rw [if_pos he] at i3
     have hn : number (nth a j) (nth b j) = 0 := by simp [number, he]
     rw [hn]
     (repeat (first|with_reducible refine wV fun _=>?_|simp [go_sem]))
     refine ALoop.start (hrec (d - 1) (by omega) (j + 1) ⟨by omega, by omega, i3⟩) ?_ (by simp)
     simp [go_sem, Wk_eq]
    ·rw [if_neg he] at i3
     have hn : number (nth a j) (nth b j) ≠ 0 := by unfold number; split <;> (try split) <;> omega
     rw [i3]
     (repeat (first|with_reducible refine wV fun _=>?_|simp [go_sem, hn]))
   ·have hk' : b.length ≤ j := by omega
    rw [List.drop_eq_nil_of_le hk', cmpL_nil_right] at i3
    have : cmpL a b = 1 := by rw [i3]; unfold number; rw [if_neg (by simp only [List.length_cons]; omega), if_pos (by simp only [List.length_cons]; omega)]
    rw [this]
    (repeat (first|with_reducible refine wV fun _=>?_|simp [go_sem, hj, hk, hk']))
  ·have hja : j = a.length := by omega
   subst hja
   rw [List.drop_eq_nil_of_le (Nat.le_refl _), cmpL_nil_left] at i3
   rw [i3]
   unfold number
   by_cases hb' : a.length < b.length
   ·rw [if_pos (by simp; omega)]
    (repeat (first|with_reducible refine wV fun _=>?_|simp [go_sem, hb']))
   ·rw [if_neg (by simp; omega), if_neg (by omega)]
    (repeat (first|with_reducible refine wV fun _=>?_|simp [go_sem, hb']))
 ·simp
 ·simp [go_sem, Wk_eq]
 ·simp
theorem cmpP_or (p q : PosD) : orI [cmpL p.at_ q.at_, cmpL p.h0 q.h0, cmpL p.h1 q.h1, number p.rights q.rights, number p.side q.side] = cmpP p q := by
 unfold cmpP
 simp only [orI]
 repeat' split
 all_goals first | rfl | omega
theorem pCompare_pure (p q : PosD) (hp : FitsP p) (hq : FitsP q) : Pure Tryz.prog 42 [.agg (encPos p), .agg (encPos q)] (.v (.int .i64 (cmpP p q))) := by
 refine pF Tryz.func42 ?_
 obtain ⟨p1, p2, p3⟩ := hp
 obtain ⟨q1, q2, q3⟩ := hq
 rw [← cmpP_or]
 have c1 := sCompare_pure _ _ p1 q1
 have c2 := sCompare_pure _ _ p2 q2
 have c3 := sCompare_pure _ _ p3 q3
 have c4 := cCompare_pure p.rights q.rights
 have c5 := cCompare_pure p.side q.side
 generalize cmpL p.at_ q.at_ = x1 at *
 generalize cmpL p.h0 q.h0 = x2 at *
 generalize cmpL p.h1 q.h1 = x3 at *
 generalize number p.rights q.rights = x4 at *
 generalize number p.side q.side = x5 at *
 (repeat (first|with_reducible refine wV fun _=>?_|simp [go_sem]))
 refine dCall.plain c1 (by simp [go_sem]) ?_
 (repeat (first|with_reducible refine wV fun _=>?_|simp [go_sem]))
 refine dCall.plain c2 (by simp [go_sem]) ?_
 (repeat (first|with_reducible refine wV fun _=>?_|simp [go_sem]))
 refine dCall.plain c3 (by simp [go_sem]) ?_
 (repeat (first|with_reducible refine wV fun _=>?_|simp [go_sem]))
 refine dCall.plain c4 (by simp [go_sem]) ?_
 (repeat (first|with_reducible refine wV fun _=>?_|simp [go_sem]))
 refine dCall.plain c5 (by simp [go_sem]) ?_
 (repeat (first|with_reducible refine wV fun _=>?_|simp [go_sem]))
 refine dCall.frz [encIs [x1, x2, x3, x4, x5]] _ [31] [(31, some (.rows false 0 1 ([x1, x2, x3, x4, x5].map encI)))] (cOr_pure _ (by unfold Fits; simp)) ?_ ?_ (by simp [go_sem]) ?_
 ·intro p hp
  simp only [List.mem_singleton] at hp
  subst hp
  exact ⟨by simp, 0, 1, _, rfl, by simp [upd, go_sem]⟩
 ·intro h₁ hS
  have h7 := hS 31 (by simp)
  simp [go_sem] at h7
  exact .cons (leV_frz h7.symm (by simp) (by simp [applyW, upd]) (by simp [go_sem])) .nil
 ·(repeat (first|with_reducible refine wV fun _=>?_|simp [go_sem]))
end Go.Av
end
section
/- Contracts, runs of the program: own, man, provided, and the steps. -/
open Go Go.Proofs
namespace Go.Av
def ownState (n : Nat) (s : StD) : AV := .agg [.sl (n + 2) 1 1 0 s.p.at_.length, .sl (n + 81) 1 1 0 s.p.h0.length, .sl (n + 161) 1 1 0 s.p.h1.length, .v (.int .i64 s.p.rights), .v (.int .i64 s.p.side), .v (.int .i64 s.kind), .v (.int .i64 s.cursor), .v (.bool s.took)]
def ownStateH (n : Nat) (s : StD) : List (Nat × AObj) := [(n + 2, .rows true 1 1 (s.p.at_.map encI)), (n + 81, .rows true 1 1 (s.p.h0.map encI)), (n + 161, .rows true 1 1 (s.p.h1.map encI))]
attribute [go_sem] ownState ownStateH
theorem own_owns (s : StD) (ha : FitsP s.p) : Owns Tryz.prog 121 [.agg (encState s)] (fun n => ownState n s) (fun n => ownStateH n s) 241 := by
 refine ⟨ACallP.of_awp (by kernel_rfl) Tryz.func121 rfl rfl (Nat.le_of_ble_eq_true rfl) (by kernel_rfl) ?_, fun n => ⟨by simp [go_sem], by simp [go_sem]⟩⟩
 obtain ⟨a1, a2, a3⟩ := ha
 have h1 := Clone_owns s.p.at_ a1
 have h2 := Clone_owns s.p.h0 a2
 have h3 := Clone_owns s.p.h1 a3
 (repeat (first|with_reducible refine wV fun _=>?_|simp [go_sem]))
 refine ACallP.ownsPlain h1 (by simp [go_sem]) ?_
 (repeat (first|with_reducible refine wV fun _=>?_|simp [go_sem]))
 refine dCall.owns 81 (by rfl) (h2) (by decide) (by simp [go_sem]) (by simp [go_sem]) (fun _ => LeRow.refl _ _ _ _) (by simp [go_sem]) (by simp [go_sem]) ?_
 (repeat (first|with_reducible refine wV fun _=>?_|simp [go_sem]))
 refine dCall.owns 161 (by rfl) (h3) (by decide) (by simp [go_sem]) (by simp [go_sem]) (fun _ => LeRow.refl _ _ _ _) (by simp [go_sem]) (by simp [go_sem]) ?_
 ((repeat (first|with_reducible (first|refine wL fun _=>?_|refine wD fun _=>?_|refine wZ ?_)|simp [go_sem])); refine dEnd.mkN (by kernel_rfl) ?_)
 (repeat (first|with_reducible refine wV fun _=>?_|simp [go_sem]))
 simp [go_sem, Wk_eq]
theorem man_pure (s : StD) (hc : s.cursor.toNat < s.p.at_.length) (h0 : 0 ≤ s.cursor) : Pure Tryz.prog 266 [.agg (encState s)] (.tup [.v (.int .i64 (manOf (nth s.p.at_ s.cursor.toNat)).1), .v (.int .i64 (manOf (nth s.p.at_ s.cursor.toNat)).2)]) := by
 refine pF Tryz.func266 ?_
 have hO := gMan_pure (nth s.p.at_ s.cursor.toNat)
 generalize manOf (nth s.p.at_ s.cursor.toNat) = m at *
 (repeat (first|with_reducible refine wV fun _=>?_|simp [go_sem, hc]))
 refine ACallP.plain hO (by simp [go_sem]) ?_
 (repeat (first|with_reducible refine wV fun _=>?_|simp [go_sem]))
theorem provided_pure (s : StD) (b : Bool) : Pure Tryz.prog 265 [.agg (encState s), .v (.bool b)] (encSs (onlyS s b)) := by
 refine pF Tryz.func265 ?_
 cases b
 ·(repeat (first|with_reducible refine wV fun _=>?_|simp [go_sem, onlyS]))
 ·(repeat (first|with_reducible refine wV fun _=>?_|simp [go_sem, onlyS]))
  exact frX
abbrev StepF (f : FuncId) (g : GameD) (s : StD) (n : Int) (r : List StD) : Prop := Pure Tryz.prog f [.agg (encState s), .agg (encGame g), .v (.int .i64 n)] (encSs r)
section
variable (g : GameD) (hg : GOk g) (s : StD) (hs : StOk g s) (n : Int)
theorem walk_pure (hg : GOk g) : StepF 208 g s n (onlyS { s with cursor := toB g.board s.p.side n s.cursor } (decide (0 ≤ toB g.board s.p.side n s.cursor))) := by
 refine pF Tryz.func208 ?_
 have hT := bTo_pure g.board hg.board s.p.side n s.cursor
 have hP := provided_pure { s with cursor := toB g.board s.p.side n s.cursor }
 (repeat (first|with_reducible refine wV fun _=>?_|simp [go_sem]))
 refine ACallP.plain hT (by simp [go_sem]) ?_
 (repeat (first|with_reducible refine wV fun _=>?_|simp [go_sem]))
 refine ACallP.plain (hP _) (by simp [go_sem]) ?_
 (repeat (first|with_reducible refine wV fun _=>?_|simp [go_sem]))
theorem slide_pure (hg : GOk g) (hs : StOk g s) : StepF 209 g s n (slideS g.board s n) := by
 refine pF Tryz.func209 ?_
 have hL := bLine_pure g.board hg.board s.p.side n s.cursor
 have hlm := lineB_mem hg.board (side := s.p.side) (d := n) (c := s.cursor)
 have hll := lineB_len (b := g.board) (side := s.p.side) (d := n) (c := s.cursor)
 have c9 := hg.c9
 have c1 := hg.c1
 have hal := hs.p.al
 rw [show g.board.cells = g.cells from rfl] at hlm hll
 unfold slideS
 generalize lineB g.board s.p.side n s.cursor = line at *
 generalize hR : slideGo s line = R
 (repeat (first|with_reducible refine wV fun _=>?_|simp [go_sem]))
 refine ACallP.plain hL (by simp [go_sem]) ?_
 (repeat (first|with_reducible refine wV fun _=>?_|simp [go_sem]))
 refine ALoop.start (ALoop.ind (α := Nat × List StD) (fun a => ⟨[(3, .ref 0 0 8 0 0), (7, .sl 2 a.2.length 8 0 a.2.length), (19, encIs line), (20, .v (.int .i64 line.length)), (21, .v (.int .i64 a.1))], [(0, .rows true 0 8 [encState s]), (2, .rows true a.2.length 8 (a.2.map encState))], 3⟩)
  (fun d a => a.1 + d = line.length ∧ a.2.length = a.1 ∧ R = a.2 ++ slideGo s (line.drop a.1)) ?_ line.length (0, []) ?_) ?_ ?_
 ·rintro d ⟨i, out⟩ ⟨i1, i2, i3⟩ hrec
  simp only at i1 i2 i3
  (repeat (first|with_reducible refine wV fun _=>?_|simp [go_sem]))
  refine aIf.mkL (fun hi => ?_) (fun hi => ?_) <;> simp at hi
  ·have hli := hlm _ (nth_mem hi)
   have hlt : (nth line i).toNat < s.p.at_.length := by omega
   rw [dropG_cons hi, slideGo] at i3
   (repeat (first|with_reducible refine wV fun _=>?_|simp [go_sem, hi, hlt]))
   refine aIf.mkL (fun hz => ?_) (fun hz => ?_) <;> simp at hz
   ·rw [if_neg (by simpa using hz)] at i3
    (repeat (first|with_reducible refine wV fun _=>?_|simp [go_sem]))
    rw [i3]
    exact frX
   ·rw [if_pos (by simpa using hz)] at i3
    (repeat (first|with_reducible refine wV fun _=>?_|simp [go_sem]))
    refine ALoop.start (hrec (d - 1) (by omega) (i + 1, out ++ [{ s with cursor := nth line i }]) ⟨by simp only; omega, by simp; omega, by simpa using i3⟩) ?_ (by simp)
    simp [go_sem, Wk_eq]
  ·rw [List.drop_eq_nil_of_le hi, slideGo] at i3
   (repeat (first|with_reducible refine wV fun _=>?_|simp [go_sem]))
   rw [i3]
   exact frX
 ·simp [hR]
 ·simp [go_sem, Wk_eq]
 ·simp
theorem man_at (hg : GOk g) (hs : StOk g s) : s.cursor.toNat < s.p.at_.length ∧ 0 ≤ s.cursor ∧ (nth s.p.at_ s.cursor.toNat = 0 ∧ manOf (nth s.p.at_ s.cursor.toNat) = (-1, -1) ∨ nth s.p.at_ s.cursor.toNat ≠ 0 ∧ 0 ≤ (manOf (nth s.p.at_ s.cursor.toNat)).1 ∧ (manOf (nth s.p.at_ s.cursor.toNat)).1 < g.kinds.length ∧
  ((manOf (nth s.p.at_ s.cursor.toNat)).2 = 0 ∨ (manOf (nth s.p.at_ s.cursor.toNat)).2 = 1)) ∧ (s.p.side = 0 ∨ s.p.side = 1) := by
 have hal := hs.p.al
 have hc0 := hs.c0
 have hc1 := hs.c1
 have hcur : s.cursor.toNat < s.p.at_.length := by omega
 have hat := hs.p.at (i := s.cursor.toNat) (by omega)
 have hman := manOf_cases hat.1 hat.2 hg.k6
 refine ⟨hcur, hc0, ?_, hs.p.s⟩
 rcases hman with ⟨h1, h2⟩ | ⟨h1, h2, h3, h4, _⟩
 ·exact .inl ⟨h1, h2⟩
 ·exact .inr ⟨h1, h2, h3, h4⟩
theorem empty_pure (hg : GOk g) (hs : StOk g s) : StepF 210 g s n (onlyS s (decide ((manOf (nth s.p.at_ s.cursor.toNat)).1 < 0))) := by
 refine pF Tryz.func210 ?_
 obtain ⟨hcur, h0, hm, hsd⟩ := man_at g s hg hs
 have e : decide ((manOf (nth s.p.at_ s.cursor.toNat)).1 < 0) = decide (nth s.p.at_ s.cursor.toNat = 0) := by
  rcases hm with ⟨h1, h2⟩ | ⟨h1, h2, _, _⟩
  ·rw [h2]; simp [h1]
  ·simp; omega
 rw [e]
 have hP := provided_pure s
 (repeat (first|with_reducible refine wV fun _=>?_|simp [go_sem, hcur]))
 refine dCall.plain (hP _) (by simp [go_sem]) ?_
 (repeat (first|with_reducible refine wV fun _=>?_|simp [go_sem]))
theorem enemy_pure (hg : GOk g) (hs : StOk g s) : StepF 211 g s n (onlyS s (decide (0 ≤ (manOf (nth s.p.at_ s.cursor.toNat)).1 ∧ (manOf (nth s.p.at_ s.cursor.toNat)).2 ≠ s.p.side))) := by
 refine pF Tryz.func211 ?_
 obtain ⟨hcur, h0, hm, hsd⟩ := man_at g s hg hs
 have hO := man_pure s hcur h0
 have hP := provided_pure s
 have e : decide (0 ≤ (manOf (nth s.p.at_ s.cursor.toNat)).1 ∧ (manOf (nth s.p.at_ s.cursor.toNat)).2 ≠ s.p.side) = decide ((manOf (nth s.p.at_ s.cursor.toNat)).2 = 1 - s.p.side) := by
  rcases hm with ⟨h1, h2⟩ | ⟨h1, h2, _, _⟩
  ·rw [h2]; simp; omega
  ·simp only [decide_eq_decide]; omega
 rw [e]
 generalize manOf (nth s.p.at_ s.cursor.toNat) = m at *
 (repeat (first|with_reducible refine wV fun _=>?_|simp [go_sem]))
 refine ACallP.plain hO (by simp [go_sem]) ?_
 (repeat (first|with_reducible refine wV fun _=>?_|simp [go_sem]))
 refine ACallP.plain (hP _) (by simp [go_sem]) ?_
 (repeat (first|with_reducible refine wV fun _=>?_|simp [go_sem]))
theorem friend_pure (hg : GOk g) (hs : StOk g s) : StepF 212 g s n (onlyS s (decide (0 ≤ (manOf (nth s.p.at_ s.cursor.toNat)).1 ∧ (manOf (nth s.p.at_ s.cursor.toNat)).2 = s.p.side))) := by
 refine pF Tryz.func212 ?_
 obtain ⟨hcur, h0, hm, hsd⟩ := man_at g s hg hs
 have hO := man_pure s hcur h0
 have hP := provided_pure s
 have e : decide (0 ≤ (manOf (nth s.p.at_ s.cursor.toNat)).1 ∧ (manOf (nth s.p.at_ s.cursor.toNat)).2 = s.p.side) = decide ((manOf (nth s.p.at_ s.cursor.toNat)).2 = s.p.side) := by
  rcases hm with ⟨h1, h2⟩ | ⟨h1, h2, _, _⟩
  ·rw [h2]; simp; omega
  ·simp only [decide_eq_decide]; omega
 rw [e]
 generalize manOf (nth s.p.at_ s.cursor.toNat) = m at *
 (repeat (first|with_reducible refine wV fun _=>?_|simp [go_sem]))
 refine ACallP.plain hO (by simp [go_sem]) ?_
 (repeat (first|with_reducible refine wV fun _=>?_|simp [go_sem]))
 refine ACallP.plain (hP _) (by simp [go_sem]) ?_
 (repeat (first|with_reducible refine wV fun _=>?_|simp [go_sem]))
theorem take_pure (hg : GOk g) (hs : StOk g s) : StepF 213 g s n (takeS g s) := by
 refine pF Tryz.func213 ?_
 obtain ⟨hcur, h0, hm, hsd⟩ := man_at g s hg hs
 have hO := man_pure s hcur h0
 have hP := provided_pure
 have hcp := own_owns s (hs.p.fits hg)
 unfold takeS
 generalize hme : manOf (nth s.p.at_ s.cursor.toNat) = m at *
 obtain ⟨mk, ms⟩ := m
 simp only [Prod.mk.injEq] at hm
 (repeat (first|with_reducible refine wV fun _=>?_|simp [go_sem]))
 refine ACallP.plain hO (by simp [go_sem]) ?_
 (repeat (first|with_reducible refine wV fun _=>?_|simp [go_sem]))
 refine aIf.mkL (fun hc => ?_) (fun hc => ?_) <;> simp at hc
 ·rw [if_pos (by omega)]
  (repeat (first|with_reducible refine wV fun _=>?_|simp [go_sem]))
 ·rw [if_neg (by omega)]
  (repeat (first|with_reducible refine wV fun _=>?_|simp [go_sem]))
  refine ACallP.ownsPlain hcp (by simp [go_sem]) ?_
  have hmk : mk.toNat < g.kinds.length := by omega
  have hmk' : 0 ≤ mk := by omega
  (repeat (first|with_reducible refine wV fun _=>?_|simp [go_sem, hcur, hmk]))
  refine aIf.mkL (fun hk => ?_) (fun hk => ?_)
  ·rw [if_neg (by simpa using hk)]
   (repeat (first|with_reducible refine wV fun _=>?_|simp [go_sem, clr]))
   (first|done|exact dpX)
  ·rw [if_pos (by simpa using hk)]
   have hl0 := hs.p.h0.len
   have hl1 := hs.p.h1.len
   rcases hsd with hsd | hsd
   ·have hmk0 : mk.toNat < s.p.h0.length := by omega
    have hv := hs.p.h0.v _ hmk0
    obtain ⟨u, hu⟩ : ∃ u : StD, u = { s with p := (clr s.p s.cursor).withHand s.p.side ((s.p.hand s.p.side).set mk.toNat (nth (s.p.hand s.p.side) mk.toNat + 1)), took := true } := ⟨_, rfl⟩
    have hres : (if 8 < nth (s.p.hand s.p.side) mk.toNat + 1 then [] else [u]) = onlyS u (decide (nth s.p.h0 mk.toNat + 1 ≤ 8)) := by
     have : s.p.hand s.p.side = s.p.h0 := by simp [PosD.hand, hsd]
     rw [this]
     unfold onlyS
     by_cases h8 : 8 < nth s.p.h0 mk.toNat + 1
     ·rw [if_pos h8, if_neg (by simp; omega)]
     ·rw [if_neg h8, if_pos (by simp; omega)]
    rw [← hu, hres]
    have hue : encState u = [.lst 1 ((s.p.at_.map encI).set s.cursor.toNat [.v (.int .i64 0)]), .lst 1 ((s.p.h0.map encI).set mk.toNat [.v (.int .i64 (nth s.p.h0 mk.toNat + 1))]), .lst 1 (s.p.h1.map encI), .v (.int .i64 s.p.rights), .v (.int .i64 s.p.side), .v (.int .i64 s.kind), .v (.int .i64 s.cursor), .v (.bool true)] := by
     rw [hu]; simp [encState, PosD.withHand, PosD.hand, clr, hsd, encIs, encI, List.map_set]
    have hP' := hP u
    rw [hue, hsd] at hP'
    (repeat (first|with_reducible (first|refine wL fun _=>?_|refine wD fun _=>?_|refine wE ?_)|simp [go_sem, hsd, hmk0, hcur]))
    refine adrZ.frz (frzO _ [4, 83, 163]) (frz_frzO _ _) ?_
    (repeat (first|with_reducible refine wV fun _=>?_|simp [go_sem, hsd, hmk0, hcur, frzO, frz1]))
    refine dCall.frz _ _ [4, 83, 163] [] (hP' (decide (nth s.p.h0 mk.toNat + 1 ≤ 8))) (by simp) ?_ (by simp [go_sem]) ?_
    ·intro h₁ hS
     have e4 := hS 4 (by simp)
     have e5 := hS 83 (by simp)
     have e6 := hS 163 (by simp)
     simp [upd, frzO, frz1] at e4 e5 e6
     refine .cons (.agg (.cons (leV_frz e4.symm (by simp) (by simp [applyW, ← e4]) (by simp; exact List.take_of_length_le (by simp))) (.cons (leV_frz e5.symm (by simp) (by simp [applyW, ← e5]) (by simp; exact List.take_of_length_le (by simp))) (.cons (leV_frz e6.symm (by simp) (by simp [applyW, ← e6]) (by simp; exact List.take_of_length_le (by simp))) (.refl _ _ _ _))))) (.refl _ _ _ _)
    ·(repeat (first|with_reducible refine wV fun _=>?_|simp [go_sem]))
   ·have hmk0 : mk.toNat < s.p.h1.length := by omega
    have hv := hs.p.h1.v _ hmk0
    obtain ⟨u, hu⟩ : ∃ u : StD, u = { s with p := (clr s.p s.cursor).withHand s.p.side ((s.p.hand s.p.side).set mk.toNat (nth (s.p.hand s.p.side) mk.toNat + 1)), took := true } := ⟨_, rfl⟩
    have hres : (if 8 < nth (s.p.hand s.p.side) mk.toNat + 1 then [] else [u]) = onlyS u (decide (nth s.p.h1 mk.toNat + 1 ≤ 8)) := by
     have : s.p.hand s.p.side = s.p.h1 := by simp [PosD.hand, hsd]
     rw [this]
     unfold onlyS
     by_cases h8 : 8 < nth s.p.h1 mk.toNat + 1
     ·rw [if_pos h8, if_neg (by simp; omega)]
     ·rw [if_neg h8, if_pos (by simp; omega)]
    rw [← hu, hres]
    have hue : encState u = [.lst 1 ((s.p.at_.map encI).set s.cursor.toNat [.v (.int .i64 0)]), .lst 1 (s.p.h0.map encI), .lst 1 ((s.p.h1.map encI).set mk.toNat [.v (.int .i64 (nth s.p.h1 mk.toNat + 1))]), .v (.int .i64 s.p.rights), .v (.int .i64 s.p.side), .v (.int .i64 s.kind), .v (.int .i64 s.cursor), .v (.bool true)] := by
     rw [hu]; simp [encState, PosD.withHand, PosD.hand, clr, hsd, encIs, encI, List.map_set]
    have hP' := hP u
    rw [hue, hsd] at hP'
    (repeat (first|with_reducible (first|refine wL fun _=>?_|refine wD fun _=>?_|refine wE ?_)|simp [go_sem, hsd, hmk0, hcur]))
    refine adrZ.frz (frzO _ [4, 83, 163]) (frz_frzO _ _) ?_
    (repeat (first|with_reducible refine wV fun _=>?_|simp [go_sem, hsd, hmk0, hcur, frzO, frz1]))
    refine dCall.frz _ _ [4, 83, 163] [] (hP' (decide (nth s.p.h1 mk.toNat + 1 ≤ 8))) (by simp) ?_ (by simp [go_sem]) ?_
    ·intro h₁ hS
     have e4 := hS 4 (by simp)
     have e5 := hS 83 (by simp)
     have e6 := hS 163 (by simp)
     simp [upd, frzO, frz1] at e4 e5 e6
     refine .cons (.agg (.cons (leV_frz e4.symm (by simp) (by simp [applyW, ← e4]) (by simp; exact List.take_of_length_le (by simp))) (.cons (leV_frz e5.symm (by simp) (by simp [applyW, ← e5]) (by simp; exact List.take_of_length_le (by simp))) (.cons (leV_frz e6.symm (by simp) (by simp [applyW, ← e6]) (by simp; exact List.take_of_length_le (by simp))) (.refl _ _ _ _))))) (.refl _ _ _ _)
    ·(repeat (first|with_reducible refine wV fun _=>?_|simp [go_sem]))
theorem push_pure (hg : GOk g) (hs : StOk g s) : StepF 214 g s n (pushS g s n) := by
 refine pF Tryz.func214 ?_
 have hT := bTo_pure g.board hg.board s.p.side n s.cursor
 have hal := hs.p.al
 have hc0 := hs.c0
 have hc1 := hs.c1
 have hcur : s.cursor.toNat < s.p.at_.length := by omega
 have hcp := own_owns s (hs.p.fits hg)
 have hto := toB_lt hg.board s.p.side n s.cursor
 rw [show g.board.cells = g.cells from rfl] at hto
 unfold pushS
 generalize toB g.board s.p.side n s.cursor = to at *
 (repeat (first|with_reducible refine wV fun _=>?_|simp [go_sem]))
 refine ACallP.plain hT (by simp [go_sem]) ?_
 by_cases ht : to < 0
 ·rw [if_pos (.inr (.inl ht))]
  have ht0 : to.toNat = 0 := by omega
  have h0l : 0 < s.p.at_.length := by omega
  (repeat (first|with_reducible refine wV fun _=>?_|simp [go_sem, hcur, ht, ht0, h0l]))
 ·have htl : to.toNat < s.p.at_.length := by omega
  have ht' : 0 ≤ to := by omega
  (repeat (first|with_reducible refine wV fun _=>?_|simp [go_sem, hcur, ht, htl]))
  refine aIf.mkL (fun hc => ?_) (fun hc => ?_) <;> simp at hc
  ·rw [if_pos (by by_cases h : nth s.p.at_ s.cursor.toNat = 0; exact .inl h; exact .inr (hc.resolve_left h))]
   (repeat (first|with_reducible refine wV fun _=>?_|simp [go_sem]))
  ·rw [if_neg (by rintro (h | h); exact hc.1 h; exact h hc.2)]
   (repeat (first|with_reducible refine wV fun _=>?_|simp [go_sem, hcur]))
   refine ACallP.ownsPlain hcp (by simp [go_sem]) ?_
   (repeat (first|with_reducible refine wV fun _=>?_|simp [go_sem, hcur, htl]))
   (first|done|exact dpX)
theorem become_pure : StepF 215 g s n [{ s with kind := n }] := by
 refine pF Tryz.func215 ?_
 (repeat (first|with_reducible refine wV fun _=>?_|simp [go_sem]))
 exact frX
theorem need_pure (h0 : 0 ≤ n) (h4 : n < 64) : StepF 216 g s n (onlyS s (decide (andN .i64 (s.p.rights.fdiv (2 ^ n.toNat)) 1 = 1))) := by
 refine pF Tryz.func216 ?_
 have hP := provided_pure s
 (repeat (first|with_reducible refine wV fun _=>?_|simp [go_sem]))
 refine dCall.plain (hP _) (by simp [go_sem]) ?_
 (repeat (first|with_reducible refine wV fun _=>?_|simp [go_sem]))
theorem lose_pure (h0 : 0 ≤ n) (h4 : n ≤ 4) : StepF 217 g s n [{ s with p := { s.p with rights := andNotN .i64 s.p.rights (2 ^ n.toNat) } }] := by
 refine pF Tryz.func217 ?_
 have hpn := pow_le16 h0 h4
 (repeat (first|with_reducible refine wV fun _=>?_|simp [go_sem]))
 exact frX
end
end Go.Av
end
section
/- Contracts, runs of the program: step. -/
open Go Go.Proofs
namespace Go.Av
theorem step_pure (g : GameD) (hg : GOk g) (s : StD) (hs : StOk g s) (x : Int × Int) (hx : StepOk g.next.length g.kinds.length g.rights x) :
  Pure Tryz.prog 172 [.agg (encGame g), .agg (encState s), .agg (encStep x)] (encSs (stepS g s x)) := by
 refine pF Tryz.func172 ?_
 have r4 := hg.r4
 obtain ⟨op, n⟩ := x
 obtain ⟨xo, xd, xz, xk, xr⟩ := hx
 simp only at xo xd xz xk xr
 rcases (show op = 1 ∨ op = 2 ∨ op = 3 ∨ op = 4 ∨ op = 5 ∨ op = 6 ∨ op = 7 ∨ op = 8 ∨ op = 9 ∨ op = 10 by omega) with rfl | rfl | rfl | rfl | rfl | rfl | rfl | rfl | rfl | rfl
 ·have hS := walk_pure g s n hg
  (repeat (first|with_reducible refine wV fun _=>?_|simp [go_sem]))
  refine dCall.plain hS (by simp [go_sem]) ?_
  (repeat (first|with_reducible refine wV fun _=>?_|simp [go_sem]))
  exact LeV.of_eq (by simp [stepS, encSs, encState, encIs])
 ·have hS := slide_pure g s n hg hs
  (repeat (first|with_reducible refine wV fun _=>?_|simp [go_sem]))
  refine dCall.plain hS (by simp [go_sem]) ?_
  (repeat (first|with_reducible refine wV fun _=>?_|simp [go_sem]))
  exact LeV.of_eq (by simp [stepS, encSs, encState, encIs])
 ·have hS := empty_pure g s n hg hs
  (repeat (first|with_reducible refine wV fun _=>?_|simp [go_sem]))
  refine dCall.plain hS (by simp [go_sem]) ?_
  (repeat (first|with_reducible refine wV fun _=>?_|simp [go_sem]))
  exact LeV.of_eq (by simp [stepS, encSs, encState, encIs])
 ·have hS := enemy_pure g s n hg hs
  (repeat (first|with_reducible refine wV fun _=>?_|simp [go_sem]))
  refine dCall.plain hS (by simp [go_sem]) ?_
  (repeat (first|with_reducible refine wV fun _=>?_|simp [go_sem]))
  exact LeV.of_eq (by simp [stepS, encSs, encState, encIs])
 ·have hS := friend_pure g s n hg hs
  (repeat (first|with_reducible refine wV fun _=>?_|simp [go_sem]))
  refine dCall.plain hS (by simp [go_sem]) ?_
  (repeat (first|with_reducible refine wV fun _=>?_|simp [go_sem]))
  exact LeV.of_eq (by simp [stepS, encSs, encState, encIs])
 ·have hS := take_pure g s n hg hs
  (repeat (first|with_reducible refine wV fun _=>?_|simp [go_sem]))
  refine dCall.plain hS (by simp [go_sem]) ?_
  (repeat (first|with_reducible refine wV fun _=>?_|simp [go_sem]))
  exact LeV.of_eq (by simp [stepS, encSs, encState, encIs])
 ·have hS := push_pure g s n hg hs
  (repeat (first|with_reducible refine wV fun _=>?_|simp [go_sem]))
  refine dCall.plain hS (by simp [go_sem]) ?_
  (repeat (first|with_reducible refine wV fun _=>?_|simp [go_sem]))
  exact LeV.of_eq (by simp [stepS, encSs, encState, encIs])
 ·have hS := become_pure g s n
  (repeat (first|with_reducible refine wV fun _=>?_|simp [go_sem]))
  refine dCall.plain hS (by simp [go_sem]) ?_
  (repeat (first|with_reducible refine wV fun _=>?_|simp [go_sem]))
  exact LeV.of_eq (by simp [stepS, encSs, encState, encIs])
 ·have hn := xr (by omega)
  have hS := need_pure g s n hn.1 (by omega)
  (repeat (first|with_reducible refine wV fun _=>?_|simp [go_sem]))
  refine dCall.plain hS (by simp [go_sem]) ?_
  (repeat (first|with_reducible refine wV fun _=>?_|simp [go_sem]))
  exact LeV.of_eq (by simp [stepS, encSs, encState, encIs])
 ·have hn := xr (by omega)
  have hS := lose_pure g s n hn.1 (by omega)
  (repeat (first|with_reducible refine wV fun _=>?_|simp [go_sem]))
  refine dCall.plain hS (by simp [go_sem]) ?_
  (repeat (first|with_reducible refine wV fun _=>?_|simp [go_sem]))
  exact LeV.of_eq (by simp [stepS, encSs, encState, encIs])
end Go.Av
end
section
/- Our library: an object's rows are forgotten at a call's end. -/
namespace Go.Av
open Go
theorem ACallP.clear {P : Program} {f : FuncId} {args : List AV} {h : Heap} {n : Nat} {K : CallK}
  (hc : ACallP P f args h n (fun r h' n' => ∃ o mt g sz rs, sz ≠ 2 ∧ h' o = some (.rows mt g sz rs) ∧ K r (upd h' o (some (.rows mt g sz []))) n')) : ACallP P f args h n K := by
 refine ⟨hc.1, fun M0 φ w vs hH hargs => (hc.2 M0 φ w vs hH hargs).mono ?_⟩
 rintro e w' ⟨v, φ', r, h', n', rfl, ⟨o, mt, g, sz, rs, hsz, ho, hK⟩, hH', hx, st⟩
 have hmut : Mut φ' (upd h' o (some (.rows mt g sz []))) = Mut φ' h' := by
  funext k
  refine propext ⟨?_, ?_⟩
  ·rintro ⟨o1, g1, sz1, rs1, g', a, bs, h1, h2, h3⟩
   by_cases he : o1 = o
   ·subst he
    rw [upd_same] at h1
    simp only [Option.some.injEq, AObj.rows.injEq] at h1
    obtain ⟨rfl, rfl, rfl, _⟩ := h1
    exact ⟨o1, g, sz, rs, g', a, bs, ho, h2, h3⟩
   ·rw [upd_ne _ _ he] at h1
    exact ⟨o1, g1, sz1, rs1, g', a, bs, h1, h2, h3⟩
  ·rintro ⟨o1, g1, sz1, rs1, g', a, bs, h1, h2, h3⟩
   by_cases he : o1 = o
   ·subst he
    rw [ho] at h1
    simp only [Option.some.injEq, AObj.rows.injEq] at h1
    obtain ⟨rfl, rfl, rfl, _⟩ := h1
    exact ⟨o1, g, sz, [], g', a, bs, by rw [upd_same], h2, h3⟩
   ·exact ⟨o1, g1, sz1, rs1, g', a, bs, by rw [upd_ne _ _ he]; exact h1, h2, h3⟩
 have hold : ∀ o1 mt1 g1 sz1 rs1, upd h' o (some (.rows mt g sz [])) o1 = some (.rows mt1 g1 sz1 rs1) → ∃ rs2, h' o1 = some (.rows mt1 g1 sz1 rs2) ∧ (rs1 = rs2 ∨ rs1 = []) := by
  intro o1 mt1 g1 sz1 rs1 h1
  by_cases he : o1 = o
  ·subst he
   rw [upd_same] at h1
   simp only [Option.some.injEq, AObj.rows.injEq] at h1
   obtain ⟨rfl, rfl, rfl, rfl⟩ := h1
   exact ⟨rs, ho, .inr rfl⟩
  ·rw [upd_ne _ _ he] at h1
   exact ⟨rs1, h1, .inl rfl⟩
 refine ⟨v, φ', r, _, n', rfl, hK, ⟨hH'.m0, hH'.fresh, fun o1 mt1 g1 sz1 rs1 h1 => ?_, fun o1 o2 mt1 g1 sz1 rs1 mt2 g2 sz2 rs2 a a' b b' h1 h2 => ?_, by rw [hmut]; exact hH'.glob⟩, by rw [hmut]; exact hx, st.le, by rw [hmut]; exact st.or, st.fr, by rw [hmut]; exact st.mutd⟩
 ·obtain ⟨rs2, h2, h3⟩ := hold _ _ _ _ _ h1
  obtain ⟨A, hA, hobj⟩ := hH'.obj _ _ _ _ _ h2
  rcases h3 with rfl | rfl
  ·rw [hmut]; exact ⟨A, hA, hobj⟩
  ·by_cases he : o1 = o
   ·subst he
    rw [ho] at h2
    simp only [Option.some.injEq, AObj.rows.injEq] at h2
    obtain ⟨rfl, rfl, rfl, rfl⟩ := h2
    refine ⟨A, hA, hobj.imp (fun h => ⟨h.1, rfl⟩) ?_⟩
    rintro ⟨a, bs, e1, e3, ⟨C, T, e2, e4, e5, e6, e7, e8, e9⟩ | ⟨es, clk, e2, e4, e5, e6, e9⟩⟩
    ·exact ⟨a, bs, e1, e3, .inl ⟨C, T, e2, e4, e5, by simp, by simp; omega, by simp, by simpa using RelL.nil⟩⟩
    ·exact absurd e6.1 hsz
   ·rw [upd_ne _ _ he] at h1
    rw [h1] at h2
    simp only [Option.some.injEq, AObj.rows.injEq] at h2
    obtain ⟨_, _, _, rfl⟩ := h2
    rw [hmut]; exact ⟨A, hA, hobj⟩
 ·obtain ⟨rs3, h3, _⟩ := hold _ _ _ _ _ h1
  obtain ⟨rs4, h4, _⟩ := hold _ _ _ _ _ h2
  exact hH'.inj _ _ _ _ _ _ _ _ _ _ _ _ _ _ h3 h4
end Go.Av
end
section
/- Contracts: slices.Concat of four lists of numbers, pos.Key, strconv.Itoa (small numbers), FormatBool, the key of a state. -/
open Go Go.Proofs
namespace Go.Av
theorem GrowI_owns (m : Int) (h0 : 0 ≤ m) (h1 : m ≤ 17179869184) : Owns Tryz.prog 262 [AV.nils, .v (.int .i64 m)] (fun n => .sl n 0 1 0 0) (fun n => [(n, .rows true 0 1 [])]) 1 := by
 refine ⟨?_, fun n => ⟨by simp [go_sem], by simp [go_sem]⟩⟩
 by_cases hm : m = 0
 ·subst hm
  refine ACallP.of_awp (by kernel_rfl) Tryz.func262 rfl rfl (Nat.le_of_ble_eq_true rfl) (by kernel_rfl) ?_
  (repeat (first|with_reducible refine wV fun _=>?_|simp [go_sem]))
  simp [go_sem, Wk_eq]
 ·refine ACallP.clear ?_
  refine ACallP.of_awp (by kernel_rfl) Tryz.func262 rfl rfl (Nat.le_of_ble_eq_true rfl) (by kernel_rfl) ?_
  (repeat (first|with_reducible refine wV fun _=>?_|simp [go_sem]))
  (refine aIf.mkL (fun hF => by first | omega | (simp at hF; omega)) (fun hF => ?_); clear hF)
  (repeat (first|with_reducible refine wV fun _=>?_|simp [go_sem]))
  (refine aIf.mkL (fun hT => ?_) (fun hT => by first | omega | (simp at hT; omega)); clear hT)
  (repeat (first|with_reducible refine wV fun _=>?_|simp [go_sem]))
  refine ⟨0, 0, 1, by decide, ⟨rfl, rfl, rfl⟩, ?_⟩
  simp [go_sem, Wk_eq]
theorem Concat4_pure (a b c d : List Int) (ha : a.length ≤ 1000) (hb : b.length ≤ 1000) (hc : c.length ≤ 1000) (hd : d.length ≤ 1000) : Pure Tryz.prog 205 [.lst 1 [[encIs a], [encIs b], [encIs c], [encIs d]]] (encIs (a ++ b ++ c ++ d)) := by
 refine pF Tryz.func205 ?_
 (repeat (first|with_reducible refine wV fun _=>?_|simp [go_sem]))
 refine ALoop.unroll ?_
 (repeat (first|with_reducible refine wV fun _=>?_|simp [go_sem]))
 (refine aIf.mkL (fun hF => by first | omega | (simp at hF; omega)) (fun hF => ?_); clear hF)
 (repeat (first|with_reducible refine wV fun _=>?_|simp [go_sem]))
 refine ALoop.unroll ?_
 (repeat (first|with_reducible refine wV fun _=>?_|simp [go_sem]))
 (refine aIf.mkL (fun hF => by first | omega | (simp at hF; omega)) (fun hF => ?_); clear hF)
 (repeat (first|with_reducible refine wV fun _=>?_|simp [go_sem]))
 refine ALoop.unroll ?_
 (repeat (first|with_reducible refine wV fun _=>?_|simp [go_sem]))
 (refine aIf.mkL (fun hF => by first | omega | (simp at hF; omega)) (fun hF => ?_); clear hF)
 (repeat (first|with_reducible refine wV fun _=>?_|simp [go_sem]))
 refine ALoop.unroll ?_
 (repeat (first|with_reducible refine wV fun _=>?_|simp [go_sem]))
 (refine aIf.mkL (fun hF => by first | omega | (simp at hF; omega)) (fun hF => ?_); clear hF)
 (repeat (first|with_reducible refine wV fun _=>?_|simp [go_sem]))
 refine ALoop.unroll ?_
 (repeat (first|with_reducible refine wV fun _=>?_|simp [go_sem]))
 refine ACallP.ownsPlain (GrowI_owns _ (by omega) (by omega)) (by simp [go_sem]) ?_
 (repeat (first|with_reducible refine wV fun _=>?_|simp [go_sem]))
 refine ALoop.unroll ?_
 (repeat (first|with_reducible refine wV fun _=>?_|simp [go_sem]))
 refine ALoop.unroll ?_
 (repeat (first|with_reducible refine wV fun _=>?_|simp [go_sem]))
 refine ALoop.unroll ?_
 (repeat (first|with_reducible refine wV fun _=>?_|simp [go_sem]))
 refine ALoop.unroll ?_
 (repeat (first|with_reducible refine wV fun _=>?_|simp [go_sem]))
 refine ALoop.unroll ?_
 (repeat (first|with_reducible refine wV fun _=>?_|simp [go_sem]))
 exact frX

theorem bytesOf_U : ∀ l : List Int, bytesOf (l.map encU) = some l
 | [] => rfl
 | n :: l => by rw [List.map_cons, encU, bytesOf, bytesOf_U l]; rfl
def allP (p : PosD) : List Int := p.at_ ++ p.h0 ++ p.h1 ++ [p.rights, p.side]
def keyP (p : PosD) : ByteArray := strOf (allP p)
theorem Key_pure (p : PosD) (ha : p.at_.length ≤ 100) (hb : p.h0.length ≤ 100) (hc : p.h1.length ≤ 100) (hv : ∀ x ∈ allP p, 0 ≤ x ∧ x ≤ 255) : Pure Tryz.prog 164 [.agg (encPos p)] (.v (.string (keyP p))) := by
 refine pF Tryz.func164 ?_
 have hC : Pure Tryz.prog 205 [.lst 1 [[.lst 1 (p.at_.map encI)], [.lst 1 (p.h0.map encI)], [.lst 1 (p.h1.map encI)], [.lst 1 [[.v (.int .i64 p.rights)], [.v (.int .i64 p.side)]]]]] (encIs (p.at_ ++ p.h0 ++ p.h1 ++ [p.rights, p.side])) :=
  Concat4_pure p.at_ p.h0 p.h1 [p.rights, p.side] (by omega) (by omega) (by omega) (by simp)
 have hll : (allP p).length ≤ 302 := by simp [allP]; omega
 unfold keyP
 rw [show p.at_ ++ p.h0 ++ p.h1 ++ [p.rights, p.side] = allP p from rfl] at hC
 generalize allP p = l at *
 (repeat (first|with_reducible refine wV fun _=>?_|simp [go_sem]))
 refine ACallP.pureF [1, 2] hC ?_ (by simp [go_sem]) ?_
 ·(first|done|exact leX)
 (repeat (first|with_reducible refine wV fun _=>?_|simp [go_sem]))
 refine ALoop.start (ALoop.ind (α := Nat) (fun i => ⟨[(3, .sl 3 i 1 0 i), (20, encIs l), (21, .v (.int .i64 l.length)), (22, .v (.int .i64 i))], [(3, .rows true i 1 ((l.take i).map encU))], 4⟩)
  (fun d i => i + d = l.length) ?_ l.length 0 ?_) ?_ ?_
 ·rintro d i i1 hrec
  (repeat (first|with_reducible refine wV fun _=>?_|simp [go_sem]))
  refine aIf.mkL (fun hi => ?_) (fun hi => ?_) <;> simp at hi
  ·have hx := hv _ (nth_mem hi)
   have hem : (nth l i).emod 256 = nth l i := Int.emod_eq_of_lt hx.1 (by omega)
   have hem2 : nth l i % 256 = nth l i := hem
   (repeat (first|with_reducible refine wV fun _=>?_|simp [go_sem, hi, hem, hem2]))
   refine ALoop.start (hrec (d - 1) (by omega) (i + 1) (by omega)) ?_ (by simp)
   rw [List.take_add_one, List.getElem?_eq_getElem hi, ← nth_eq _ _ hi]
   simp [go_sem, Wk_eq, encU, hem, hem2]
   intro x hx c hc
   obtain ⟨y, _, rfl⟩ := List.mem_map.1 (List.mem_of_mem_take hx)
   simp only [encU, List.mem_singleton] at hc
   subst hc
   exact .v _
  ·have hb : bytesOf (List.take i (List.map encU l)) = some l := by rw [List.take_of_length_le (by simp; omega)]; exact bytesOf_U l
   have hb2 : bytesOf (List.take i (List.take i (List.map encU l))) = some l := by rw [List.take_take, Nat.min_self]; exact hb
   (repeat (first|with_reducible refine wV fun _=>?_|simp [go_sem, hb, hb2]))
 ·omega
 ·simp [go_sem, Wk_eq]
 ·simp
def digit (n : Int) : ByteArray := strOf [48 + n]
theorem sSmall_pure (n : Int) (h0 : 0 ≤ n) (h1 : n < 10) : Pure Tryz.prog 296 [.v (.int .i64 n)] (.v (.string (digit n))) := by
 refine pF Tryz.func296 ?_
 rcases (show n = 0 ∨ n = 1 ∨ n = 2 ∨ n = 3 ∨ n = 4 ∨ n = 5 ∨ n = 6 ∨ n = 7 ∨ n = 8 ∨ n = 9 by omega) with rfl | rfl | rfl | rfl | rfl | rfl | rfl | rfl | rfl | rfl <;> ((repeat (first|with_reducible refine wV fun _=>?_|simp [go_sem]))) <;> exact LeV.of_eq (by kernel_rfl)
theorem sFormat_pure (n : Int) (h0 : 0 ≤ n) (h1 : n < 10) : Pure Tryz.prog 288 [.v (.int .i64 n), .v (.int .i64 10)] (.v (.string (digit n))) := by
 refine pF Tryz.func288 ?_
 have hS := sSmall_pure n h0 h1
 have h1' : n < 100 := by omega
 (repeat (first|with_reducible refine wV fun _=>?_|simp [go_sem, h0, h1']))
 refine ACallP.plain hS (by simp [go_sem]) ?_
 (repeat (first|with_reducible refine wV fun _=>?_|simp [go_sem]))
theorem sItoa_pure (n : Int) (h0 : 0 ≤ n) (h1 : n < 10) : Pure Tryz.prog 267 [.v (.int .i64 n)] (.v (.string (digit n))) := by
 refine pF Tryz.func267 ?_
 have hS := sFormat_pure n h0 h1
 (repeat (first|with_reducible refine wV fun _=>?_|simp [go_sem]))
 refine ACallP.plain hS (by simp [go_sem]) ?_
 (repeat (first|with_reducible refine wV fun _=>?_|simp [go_sem]))
theorem Itoa_pure (n : Int) (h0 : 0 ≤ n) (h1 : n < 10) : Pure Tryz.prog 218 [.v (.int .i64 n)] (.v (.string (digit n))) := by
 refine pF Tryz.func218 ?_
 have hS := sItoa_pure n h0 h1
 (repeat (first|with_reducible refine wV fun _=>?_|simp [go_sem]))
 refine ACallP.plain hS (by simp [go_sem]) ?_
 (repeat (first|with_reducible refine wV fun _=>?_|simp [go_sem]))
theorem sBool_pure (b : Bool) : Pure Tryz.prog 268 [.v (.bool b)] (.v (.string (if b then strOf [116, 114, 117, 101] else strOf [102, 97, 108, 115, 101]))) := by
 refine pF Tryz.func268 ?_
 cases b
 ·(repeat (first|with_reducible refine wV fun _=>?_|simp [go_sem]))
  exact LeV.of_eq (by kernel_rfl)
 ·(repeat (first|with_reducible refine wV fun _=>?_|simp [go_sem]))
  exact LeV.of_eq (by kernel_rfl)
theorem Bool_pure (b : Bool) : Pure Tryz.prog 219 [.v (.bool b)] (.v (.string (if b then strOf [116, 114, 117, 101] else strOf [102, 97, 108, 115, 101]))) := by
 refine pF Tryz.func219 ?_
 have hS := sBool_pure b
 (repeat (first|with_reducible refine wV fun _=>?_|simp [go_sem]))
 refine ACallP.plain hS (by simp [go_sem]) ?_
 (repeat (first|with_reducible refine wV fun _=>?_|simp [go_sem]))
theorem strGo_toList : ∀ (l : List Int) (r : ByteArray), (l.foldl (fun r n => r.push (UInt8.ofNat n.toNat)) r).data.toList = r.data.toList ++ l.map fun n => UInt8.ofNat n.toNat
 | [], r => by simp
 | n :: l, r => by
  rw [List.foldl_cons, strGo_toList l]
  simp [ByteArray.push]
theorem strOf_toList (l : List Int) : (strOf l).data.toList = l.map fun n => UInt8.ofNat n.toNat := by
 unfold strOf; rw [strGo_toList]; rfl
theorem strOf_size (l : List Int) : (strOf l).size = l.length := by
 rw [← ByteArray.size_data, ← Array.length_toList, strOf_toList, List.length_map]
def keyS (s : StD) : ByteArray := digit s.kind ++ strOf [32] ++ digit s.cursor ++ strOf [32] ++ (if s.took then strOf [116, 114, 117, 101] else strOf [102, 97, 108, 115, 101]) ++ strOf [32] ++ keyP s.p
theorem key_pure (s : StD) (hk : 0 ≤ s.kind ∧ s.kind < 10) (hc : 0 ≤ s.cursor ∧ s.cursor < 10) (h1 : s.p.at_.length ≤ 100) (h2 : s.p.h0.length ≤ 100) (h3 : s.p.h1.length ≤ 100) (hv : ∀ x ∈ allP s.p, 0 ≤ x ∧ x ≤ 255) :
  Pure Tryz.prog 173 [.agg (encState s)] (.v (.string (keyS s))) := by
 refine pF Tryz.func173 ?_
 have hK := Itoa_pure s.kind hk.1 hk.2
 have hC := Itoa_pure s.cursor hc.1 hc.2
 have hB := Bool_pure s.took
 have hP := Key_pure s.p h1 h2 h3 hv
 have hdk : (digit s.kind).size = 1 := strOf_size _
 have hdc : (digit s.cursor).size = 1 := strOf_size _
 have hdb : (if s.took then strOf [116, 114, 117, 101] else strOf [102, 97, 108, 115, 101]).size ≤ 5 := by split <;> simp [strOf_size]
 have hdp : (keyP s.p).size ≤ 302 := by unfold keyP; rw [strOf_size]; simp [allP]; omega
 have h32 : (ByteArray.mk ⟨[32]⟩).size = 1 := rfl
 unfold keyS
 rw [show strOf [32] = ByteArray.mk ⟨[32]⟩ from rfl]
 generalize digit s.kind = dk at *
 generalize digit s.cursor = dc at *
 generalize (if s.took then strOf [116, 114, 117, 101] else strOf [102, 97, 108, 115, 101]) = db at *
 generalize keyP s.p = dp at *
 generalize ByteArray.mk ⟨[32]⟩ = sp at *
 (repeat (first|with_reducible refine wV fun _=>?_|simp [go_sem]))
 refine dCall.plain hK (by simp [go_sem]) ?_
 (repeat (first|with_reducible refine wV fun _=>?_|simp [go_sem]))
 refine dCall.plain hC (by simp [go_sem]) ?_
 (repeat (first|with_reducible refine wV fun _=>?_|simp [go_sem]))
 refine dCall.plain hB (by simp [go_sem]) ?_
 (repeat (first|with_reducible refine wV fun _=>?_|simp [go_sem]))
 refine dCall.plain hP (by simp [go_sem]) ?_
 (repeat (first|with_reducible refine wV fun _=>?_|simp [go_sem]))
end Go.Av
end
section
/- Contracts, runs of the program: what Runs does with a state. -/
open Go Go.Proofs
namespace Go.Av
def lookP (side : Int) (x : Int × Int) (s : StD) (l : List OutD) : List OutD := if x.1 = 0 then l ++ (putS side s).toList else l
def lookH (p : PosD) (l : List OutD) : List (Nat × AObj) := [(0, .rows true 0 5 [encPos p]), (1, .rows true 0 1 [[.sl 2 l.length 6 0 l.length]]), (2, .rows true l.length 6 (l.map encOut))]
theorem look_owns (g : GameD) (hg : GOk g) (p : PosD) (hp : POk g p) (s : StD) (hs : StOk g s) (hsd : s.p.side = p.side) (x : Int × Int) (l : List OutD) (hl : l.length ≤ 100000000) :
  OwnsA Tryz.prog 120 [.agg (encState s), .agg (encStep x), .ref 0 0 5 0 0, .ref 1 0 1 0 0] (lookH p l) 3 (.tup []) (lookH p (lookP p.side x s l)) 3 := by
 unfold OwnsA lookH
 refine ACallP.of_awp (by kernel_rfl) Tryz.func120 rfl rfl (Nat.le_of_ble_eq_true rfl) (by kernel_rfl) ?_
 obtain ⟨hcur, h0, hm, _⟩ := man_at g s hg hs
 have hcp := own_owns s (hs.p.fits hg)
 have hC := gCode_pure s.kind p.side
 have hps := hp.s
 obtain ⟨op, xn⟩ := x
 (repeat (first|with_reducible refine wV fun _=>?_|simp [go_sem, hcur]))
 refine aIf.mkL (fun hc => ?_) (fun hc => ?_) <;> simp at hc
 ·have e : lookP p.side (op, xn) s l = l := by
   unfold lookP putS
   by_cases h : op = 0
   ·rw [if_pos h, if_neg (hc.resolve_left fun hn => hn h)]; simp
   ·rw [if_neg h]
  rw [e]
  (repeat (first|with_reducible refine wV fun _=>?_|simp [go_sem]))
  simp [go_sem, Wk_eq]
 ·have e : lookP p.side (op, xn) s l = l ++ [⟨{ s.p with at_ := s.p.at_.set s.cursor.toNat (codeOf s.kind p.side), side := 1 - p.side }, s.took⟩] := by
   unfold lookP putS
   rw [if_pos hc.1, if_pos hc.2]; rfl
  rw [e]
  generalize codeOf s.kind p.side = code at *
  (repeat (first|with_reducible refine wV fun _=>?_|simp [go_sem, hcur]))
  refine ACallP.ownsPlain hcp (by simp [go_sem]) ?_
  (repeat (first|with_reducible refine wV fun _=>?_|simp [go_sem, hcur]))
  refine dCall.plain hC (by simp [go_sem]) ?_
  (repeat (first|with_reducible refine wV fun _=>?_|simp [go_sem, hcur]))
  simp [go_sem, Wk_eq]
  (first|done|exact rwX)
theorem bel_map_out {n : Nat} (l : List OutD) : ∀ r ∈ l.map encOut, ∀ c ∈ r, Bel n c := by
 intro r hr c hc
 obtain ⟨x, _, rfl⟩ := List.mem_map.1 hr
 revert c
 simp [go_sem]
def lookUp (h : Heap) (a b c : Nat) (p : PosD) (l : List OutD) : Heap := upd (upd (upd h a (some (.rows true 0 5 [encPos p]))) b (some (.rows true 0 1 [[.sl c l.length 6 0 l.length]]))) c (some (.rows true l.length 6 (l.map encOut)))
theorem look_call (g : GameD) (hg : GOk g) (p : PosD) (hp : POk g p) (s : StD) (hs : StOk g s) (hsd : s.p.side = p.side) (x : Int × Int) (l : List OutD) (hl : l.length ≤ 100000000) {h : Heap} {n a b c : Nat}
  (hd : [a, b, c].Nodup) (hlt : ∀ j ∈ [a, b, c], j < n) (ha : h a = some (.rows true 0 5 [encPos p])) (hb : h b = some (.rows true 0 1 [[.sl c l.length 6 0 l.length]])) (hc : h c = some (.rows true l.length 6 (l.map encOut))) {K : CallK}
  (hK : K (.tup []) (lookUp h a b c p (lookP p.side x s l)) n) :
  ACallP Tryz.prog 120 [.agg (encState s), .agg (encStep x), .ref a 0 5 0 0, .ref b 0 1 0 0] h n K := by
 have hbs : ∀ m, Bel m (.agg (encState s)) := fun m => by simp [go_sem]
 have hbx : ∀ m, Bel m (.agg (encStep x)) := fun m => by simp [go_sem]
 have hbp : ∀ m, ∀ c ∈ encPos p, Bel m c := fun m => by simp [go_sem]
 refine ACallP.ownsA (args' := [.agg (encState s), .agg (encStep x), .ref a 0 5 0 0, .ref b 0 1 0 0])
  (HH := [(a, .rows true 0 5 [encPos p]), (b, .rows true 0 1 [[.sl c (lookP p.side x s l).length 6 0 (lookP p.side x s l).length]]), (c, .rows true (lookP p.side x s l).length 6 ((lookP p.side x s l).map encOut))])
  [a, b, c] h (look_owns g hg p hp s hs hsd x l hl) hd hlt rfl (Nat.le_refl _) (.refl _) ?_ ?_ (.refl _ _ _ _) ?_ ?_ ?_ (.same ?_) ?_ ?_
 ·intro j hj
  rcases (show j = 0 ∨ j = 1 ∨ j = 2 by omega) with rfl | rfl | rfl
  ·exact ⟨_, _, rfl, ha, .rows (.same (by intro r hr; simp only [List.mem_singleton] at hr; subst hr; exact hbp _))⟩
  ·exact ⟨_, _, rfl, hb, .rows (.cons (.cons (.sl rfl) .nil) .nil)⟩
  ·exact ⟨_, _, rfl, hc, .rows (.same (bel_map_out _))⟩
 ·intro q hq
  simp only [lookH, List.mem_cons, List.not_mem_nil, or_false] at hq
  rcases hq with rfl | rfl | rfl
  ·exact ⟨Nat.le_of_ble_eq_true rfl, by intro r hr; simp only [List.mem_singleton] at hr; subst hr; exact hbp _⟩
  ·exact ⟨Nat.le_of_ble_eq_true rfl, by simp [go_sem, BelO]⟩
  ·exact ⟨Nat.le_of_ble_eq_true rfl, bel_map_out _⟩
 ·intro y hy
  simp only [List.mem_cons, List.not_mem_nil, or_false] at hy
  rcases hy with rfl | rfl | rfl | rfl
  ·exact hbs _
  ·exact hbx _
  ·exact .ref (hlt a (by simp))
  ·exact .ref (hlt b (by simp))
 ·exact .cons (.same (hbs _)) (.cons (.same (hbx _)) (.cons (.ref rfl) (.cons (.ref rfl) .nil)))
 ·intro y hy
  simp only [List.mem_cons, List.not_mem_nil, or_false] at hy
  rcases hy with rfl | rfl | rfl | rfl
  ·exact hbs _
  ·exact hbx _
  ·exact .ref (by decide)
  ·exact .ref (by decide)
 ·exact .tup (by simp)
 ·exact .cons rfl (.rows (.same (by intro r hr; simp only [List.mem_singleton] at hr; subst hr; exact hbp _))) (.cons rfl (.rows (.cons (.cons (.sl rfl) .nil) .nil)) (.cons rfl (.rows (.same (bel_map_out _))) .nil))
 ·have e : over [(a, .rows true 0 5 [encPos p]), (b, .rows true 0 1 [[.sl c (lookP p.side x s l).length 6 0 (lookP p.side x s l).length]]), (c, .rows true (lookP p.side x s l).length 6 ((lookP p.side x s l).map encOut))] (remH [a, b, c] h) = lookUp h a b c p (lookP p.side x s l) := by
   simp only [List.nodup_cons, List.mem_cons, List.not_mem_nil, or_false, not_or, List.nodup_nil, and_true, not_false_eq_true] at hd
   obtain ⟨⟨d1, d2⟩, d3⟩ := hd
   funext j
   simp only [over, remH, lookUp, upd]
   by_cases j1 : j = a
   ·subst j1; simp [d1, d2]
   ·by_cases j2 : j = b
    ·subst j2; simp [d3, j1]
    ·by_cases j3 : j = c
     ·subst j3; simp [j1, j2]
     ·simp [j1, j2, j3]
  rw [e]
  exact hK
end Go.Av
end
section
/- States and their keys. -/
open Go Go.Proofs
namespace Go.Av
def keyL (s : StD) : List Int := [48 + s.kind, 32, 48 + s.cursor, 32] ++ ((if s.took then [116, 114, 117, 101] else [102, 97, 108, 115, 101]) ++ ([32] ++ allP s.p))
theorem keyS_toList (s : StD) : (keyS s).data.toList = (keyL s).map fun n => UInt8.ofNat n.toNat := by
 unfold keyS digit keyP keyL
 cases s.took <;> simp [ByteArray.data_append, strOf_toList]
theorem u8_inj {x y : Int} (hx : 0 ≤ x ∧ x ≤ 255) (hy : 0 ≤ y ∧ y ≤ 255) (h : UInt8.ofNat x.toNat = UInt8.ofNat y.toNat) : x = y := by
 have h1 := congrArg UInt8.toNat h
 rw [UInt8.toNat_ofNat', UInt8.toNat_ofNat'] at h1
 omega
theorem map_u8_inj : ∀ {l l' : List Int}, (∀ x ∈ l, 0 ≤ x ∧ x ≤ 255) → (∀ x ∈ l', 0 ≤ x ∧ x ≤ 255) → (l.map fun n => UInt8.ofNat n.toNat) = (l'.map fun n => UInt8.ofNat n.toNat) → l = l'
 | [], [], _, _, _ => rfl
 | [], _ :: _, _, _, h => by simp at h
 | _ :: _, [], _, _, h => by simp at h
 | x :: l, y :: l', h1, h2, h => by
  simp only [List.map_cons, List.cons.injEq] at h
  rw [u8_inj (h1 x (by simp)) (h2 y (by simp)) h.1, map_u8_inj (fun z hz => h1 z (by simp [hz])) (fun z hz => h2 z (by simp [hz])) h.2]
theorem allP_ok {g : GameD} (hg : GOk g) {p : PosD} (hp : POk g p) : ∀ x ∈ allP p, 0 ≤ x ∧ x ≤ 255 := by
 have k6 := hg.k6
 have r0 := hp.r0
 have r1 := hp.r1
 have hr : (2 : Int) ^ g.rights.toNat ≤ 16 := by
  have h1 := hg.r0
  have h2 := hg.r4
  rcases (show g.rights = 0 ∨ g.rights = 1 ∨ g.rights = 2 ∨ g.rights = 3 ∨ g.rights = 4 by omega) with h | h | h | h | h <;> rw [h] <;> decide
 have hh : ∀ l, HandOk g l → ∀ x ∈ l, 0 ≤ x ∧ x ≤ 255 := by
  intro l hl x hx
  obtain ⟨i, hi, rfl⟩ := List.mem_iff_getElem.1 hx
  have := hl.v i hi
  rw [nth_eq _ _ hi] at this
  omega
 intro x hx
 simp only [allP, List.mem_append, List.mem_cons, List.not_mem_nil, or_false] at hx
 rcases hx with ((hx | hx) | hx) | hx | hx
 ·have := hp.av x hx; omega
 ·exact hh _ hp.h0 x hx
 ·exact hh _ hp.h1 x hx
 ·omega
 ·have := hp.s; omega
theorem keyS_inj {g : GameD} (hg : GOk g) {a b : StD} (ha : StOk g a) (hb : StOk g b) (h : keyS a = keyS b) : a = b := by
 have k6 := hg.k6
 have c9 := hg.c9
 have hv : ∀ s, StOk g s → ∀ x ∈ keyL s, 0 ≤ x ∧ x ≤ 255 := by
  intro s hs x hx
  have hk := hs.k
  have h0 := hs.c0
  have h1 := hs.c1
  unfold keyL at hx
  rcases List.mem_append.1 hx with hx | hx
  ·simp at hx; omega
  rcases List.mem_append.1 hx with hx | hx
  ·by_cases ht : s.took = true <;> simp [ht] at hx <;> omega
  rcases List.mem_append.1 hx with hx | hx
  ·simp at hx; omega
  ·exact allP_ok hg hs.p x hx
 have h1 : keyL a = keyL b := map_u8_inj (hv a ha) (hv b hb) (by rw [← keyS_toList, ← keyS_toList, h])
 obtain ⟨pa, ka, ca, ta⟩ := a
 obtain ⟨pb, kb, cb, tb⟩ := b
 unfold keyL at h1
 simp only [List.cons_append, List.nil_append, List.cons.injEq, true_and] at h1
 obtain ⟨e1, e2, h1⟩ := h1
 obtain rfl : ka = kb := by omega
 obtain rfl : ca = cb := by omega
 have h2 : ta = tb ∧ allP pa = allP pb := by
  cases ta <;> cases tb <;> simp at h1 ⊢
  ·exact h1
  ·exact h1
 obtain ⟨rfl, h2⟩ := h2
 have a1 := ha.p.al
 have b1 := hb.p.al
 have a2 := ha.p.h0.len
 have b2 := hb.p.h0.len
 have a3 := ha.p.h1.len
 have b3 := hb.p.h1.len
 obtain ⟨pat, ph0, ph1, pr, ps⟩ := pa
 obtain ⟨qat, qh0, qh1, qr, qs⟩ := pb
 simp only [allP, List.append_assoc] at h2 a1 b1 a2 b2 a3 b3
 obtain ⟨e3, h3⟩ := List.append_inj h2 (by omega)
 obtain ⟨e4, h4⟩ := List.append_inj h3 (by omega)
 obtain ⟨e5, h5⟩ := List.append_inj h4 (by omega)
 simp only [List.cons.injEq, and_true] at h5
 rw [e3, e4, e5, h5.1, h5.2]
def keyRow (s : StD) : List AV := [.v (.string (keyS s)), .v (.bool true)]
theorem bel_keys {n : Nat} {l : List StD} : (∀ r ∈ l.map keyRow, ∀ c ∈ r, Bel n c) = True := by
 refine eq_true ?_
 intro r hr c hc
 obtain ⟨x, _, rfl⟩ := List.mem_map.1 hr
 simp only [keyRow, List.mem_cons, List.not_mem_nil, or_false] at hc
 rcases hc with rfl | rfl <;> exact .v _
attribute [go_sem ↓] bel_keys
theorem find_keys (t : StD) : ∀ (next : List StD), (∀ s ∈ next, keyS t = keyS s → t = s) → mapFind .string (.v (.string (keyS t))) (next.map keyRow) = some (if t ∈ next then some (.v (.bool true)) else none)
 | [], _ => by simp [mapFind]
 | s :: next, h => by
  rw [List.map_cons, mapFind]
  have e : keyEq .string (.v (.string (keyS t))) (cel (keyRow s) 0) = some (keyS t == keyS s) := rfl
  rw [e, bytes_beq]
  by_cases hk : keyS t = keyS s
  ·have := h s (by simp) hk
   subst this
   simp [keyRow, cel]
  ·have hne : t ≠ s := fun e => hk (by rw [e])
   rw [decide_eq_false hk]
   simp only
   rw [find_keys t next (fun u hu => h u (by simp [hu]))]
   simp [hne]
theorem put_keys (t : StD) : ∀ (next : List StD), (∀ s ∈ next, keyS t = keyS s → t = s) → t ∉ next → mapPut .string (.v (.string (keyS t))) (.v (.bool true)) (next.map keyRow) = some ((next ++ [t]).map keyRow)
 | [], _, _ => by simp [mapPut, keyRow]
 | s :: next, h, hn => by
  rw [List.map_cons, mapPut]
  have e : keyEq .string (.v (.string (keyS t))) (cel (keyRow s) 0) = some (keyS t == keyS s) := rfl
  rw [e, bytes_beq]
  have hk : keyS t ≠ keyS s := fun e => hn (by rw [h s (by simp) e]; simp)
  rw [decide_eq_false hk]
  simp only
  rw [put_keys t next (fun u hu => h u (by simp [hu])) (fun hm => hn (by simp [hm]))]
  simp
end Go.Av
end
section
/- Contracts, runs of the program: run. -/
open Go Go.Proofs
namespace Go.Av
def lastO (g : GameD) (p : PosD) (cell i : Int) : List OutD := (lastS g p cell (progOf g p cell i)).filterMap (putS p.side)
theorem run_owns (g : GameD) (hg : GOk g) (p : PosD) (hp : POk g p) (cell i : Int) (hc : ChoiceOk g p cell i) :
  OwnsA Tryz.prog 119 [.agg (encGame g), .agg (encPos p), .v (.int .i64 cell), .v (.int .i64 i), .fn (.func 120) [] [.ref 0 0 5 0 0, .ref 1 0 1 0 0]]
   [(0, .rows true 0 5 [encPos p]), (1, .rows true 0 1 [[AV.nils]])] 2 (.v (.int .i64 0))
   [(0, .rows true 0 5 [encPos p]), (1, .rows true 0 1 [[.sl 247 (lastO g p cell i).length 6 0 (lastO g p cell i).length]]), (247, .rows true (lastO g p cell i).length 6 ((lastO g p cell i).map encOut))] 248 := by
 unfold OwnsA
 refine ACallP.of_awp (by kernel_rfl) Tryz.func119 rfl rfl (Nat.le_of_ble_eq_true rfl) (by kernel_rfl) ?_
 have hal := hp.al
 obtain ⟨c0, c1, cm, cs, i0, i1⟩ := hc
 have hcur : cell.toNat < p.at_.length := by omega
 have hat := hp.at (i := cell.toNat) (by omega)
 have hO := gMan_pure (nth p.at_ cell.toNat)
 have hman := manOf_cases hat.1 hat.2 hg.k6
 have hV := Valid_pure g (by have := hg.k6; unfold FitsG; omega) ⟨hg.r0, by have := hg.r4; omega⟩ p (hp.fits hg)
 rw [pOk_iff.2 hp] at hV
 have hkl : (manOf (nth p.at_ cell.toNat)).1.toNat < g.kinds.length := by
  rcases hman with ⟨_, e⟩ | ⟨_, a, b, _⟩
  ·rw [e] at cm; simp at cm
  ·omega
 have hil : i.toNat < (nth g.kinds (manOf (nth p.at_ cell.toNat)).1.toNat).progs.length := by omega
 have hpg := hg.pr _ (nth_mem hkl) _ (nth_mem hil)
 have hst := fun n hn => stageS_ok hg hp c0 c1 cm (prog := progOf g p cell i) hpg.st n hn
 have hz := stageS_zero g p cell (progOf g p cell i)
 have hsu := fun n hn => stageS_succ g p cell (progOf g p cell i) (n := n) hn
 have hla := stageS_last g p cell (progOf g p cell i)
 have hp8 := hpg.len
 have hpst := hpg.st
 have hpe : progOf g p cell i = nth (nth g.kinds (manOf (nth p.at_ cell.toNat)).1.toNat).progs i.toNat := rfl
 rw [← hpe] at hp8 hpst
 have hlo : lastO g p cell i = (lastS g p cell (progOf g p cell i)).filterMap (putS p.side) := rfl
 rw [hlo]
 obtain ⟨prog, hprog⟩ : ∃ q, q = progOf g p cell i := ⟨_, rfl⟩
 rw [← hprog] at hst hz hsu hp8 hpst hpe hla ⊢
 have hcp := own_owns ⟨p, (manOf (nth p.at_ cell.toNat)).1, cell, false⟩ (hp.fits hg)
 generalize hm : manOf (nth p.at_ cell.toNat) = m at *
 obtain ⟨mk, ms⟩ := m
 simp only at cm cs i1 hkl hil hpe hcp
 (repeat (first|with_reducible refine wV fun _=>?_|simp [go_sem]))
 refine ACallP.plain hV (by simp [go_sem]) ?_
 (repeat (first|with_reducible refine wV fun _=>?_|simp [go_sem, hcur]))
 (refine aIf.mkL (fun hF => by first | omega | (simp at hF; omega)) (fun hF => ?_); clear hF)
 (repeat (first|with_reducible refine wV fun _=>?_|simp [go_sem, hcur]))
 refine ACallP.plain hO (by simp [go_sem]) ?_
 (repeat (first|with_reducible refine wV fun _=>?_|simp [go_sem, hkl, hil, cs]))
 (refine aIf.mkL (fun hF => by first | omega | (simp at hF; omega)) (fun hF => ?_); clear hF)
 (repeat (first|with_reducible refine wV fun _=>?_|simp [go_sem]))
 refine ACallP.ownsPlain hcp (by simp [go_sem]) ?_
 (repeat (first|with_reducible refine wV fun _=>?_|simp [go_sem, hcur, hkl, hil]))
 rw [← hpe]
 have hsz : ∀ n, n ≤ prog.length → (stageS g p cell prog n).length ≤ 100000000 := fun n hn => Nat.le_trans (hst n hn).2 (pow10_le (by omega))
 have hst0 : encSs (stageS g p cell prog 0) = .lst 8 [[.lst 1 ((p.at_.map encI).set cell.toNat [.v (.int .i64 0)]), encIs p.h0, encIs p.h1, .v (.int .i64 p.rights), .v (.int .i64 p.side), .v (.int .i64 mk), .v (.int .i64 cell), .v (.bool false)]] := by
  rw [hz]; simp [encSs, startS, encState, clr, hm, encIs, encI, List.map_set]
 refine ALoop.start (ALoop.ind (α := Nat) (fun k => ⟨[(4, .fn (.func 120) [] [.ref 0 0 5 0 0, .ref 1 0 1 0 0]), (5, .ref 2 0 9 0 0), (14, encSs (stageS g p cell prog k)), (87, encProg prog), (88, .v (.int .i64 prog.length)), (89, .v (.int .i64 k))],
   [(0, .rows true 0 5 [encPos p]), (1, .rows true 0 1 [[.sl 247 0 6 0 0]]), (2, .rows true 0 9 [encGame g]), (247, .rows true 0 6 [])], 248⟩)
  (fun d k => k + d = prog.length) ?_ prog.length 0 ?_) ?_ ?_
 ·rintro d k k1 hrec
  (repeat (first|with_reducible refine wV fun _=>?_|simp [go_sem]))
  refine aIf.mkL (fun hk => ?_) (fun hk => ?_) <;> simp at hk
  ·have hkk := hst k (by omega)
   have hks := hsz k (by omega)
   have hks' := hsz (k + 1) (by omega)
   have hsk := hsu k hk
   have hxs := hpst _ (nth_mem hk)
   have hpo := fun n hn => partS_ok hg hxs hkk.1 n hn
   have hpa := partS_all g (stageS g p cell prog k) (nth prog k)
   have hpz := partS_zero g (stageS g p cell prog k) (nth prog k)
   have hps := fun n hn => partS_succ g (stageS g p cell prog k) (nth prog k) (n := n) hn
   rw [← hsk] at hpa
   obtain ⟨now, hnow⟩ : ∃ now, now = stageS g p cell prog k := ⟨_, rfl⟩
   rw [← hnow] at hkk hks hpo hpa hpz hps ⊢
   obtain ⟨x, hx⟩ : ∃ x, x = nth prog k := ⟨_, rfl⟩
   rw [← hx] at hxs hpo hpa hpz hps
   (repeat (first|with_reducible refine wV fun _=>?_|simp [go_sem, hk, ← hx]))
   refine ALoop.start (ALoop.ind (α := Nat) (fun n => ⟨[(4, .fn (.func 120) [] [.ref 0 0 5 0 0, .ref 1 0 1 0 0]), (5, .ref 2 0 9 0 0), (16, .ref 248 0 2 0 0), (17, .sl 250 (partS g now x n).length 8 0 (partS g now x n).length), (18, .mp 249), (87, encProg prog), (88, .v (.int .i64 prog.length)), (89, .v (.int .i64 k)), (94, encSs now), (95, .v (.int .i64 now.length)), (96, .v (.int .i64 n))],
     [(0, .rows true 0 5 [encPos p]), (1, .rows true 0 1 [[.sl 247 0 6 0 0]]), (2, .rows true 0 9 [encGame g]), (247, .rows true 0 6 []), (248, .rows true 0 2 [encStep x]), (249, .rows true 0 2 ((partS g now x n).map keyRow)), (250, .rows true (partS g now x n).length 8 ((partS g now x n).map encState))], 251⟩)
    (fun d n => n + d = now.length) ?_ now.length 0 ?_) ?_ ?_
   ·rintro d2 n n1 hrec2
    (repeat (first|with_reducible refine wV fun _=>?_|simp [go_sem]))
    refine aIf.mkL (fun hn => ?_) (fun hn => ?_) <;> simp at hn
    ·have hsn := hkk.1 _ (nth_mem hn)
     have hpn := hps n hn
     have hpoN := hpo n (by omega)
     have hpoS := hpo (n + 1) (by omega)
     have hSt := step_pure g hg (nth now n) hsn.1 x hxs
     have hsl := stepS_len hg (nth now n) x
     have hso := stepS_ok hg hsn.1 hxs
     have hlk : lookP p.side x (nth now n) [] = [] := by unfold lookP; rw [if_neg (by have := hxs.1; omega)]
     obtain ⟨s, hs⟩ : ∃ s, s = nth now n := ⟨_, rfl⟩
     rw [← hs] at hsn hpn hSt hsl hso hlk
     obtain ⟨more, hmore⟩ : ∃ more, more = stepS g s x := ⟨_, rfl⟩
     rw [← hmore] at hpn hSt hsl hso
     have hat := fun j hj => addS_take (partS g now x n) more (i := j) hj
     have hal' := fun j => addS_len (more.take j) (partS g now x n)
     have haok : ∀ j, ∀ u ∈ addS (partS g now x n) (more.take j), StOk g u := fun j => addS_all (fun u hu => (hpoN.1 u hu).1) (fun u hu => (hso u (List.mem_of_mem_take hu)).1)
     have haz : addS (partS g now x n) (more.take 0) = partS g now x n := by simp [addS_nil]
     have haa : addS (partS g now x n) (more.take more.length) = partS g now x (n + 1) := by rw [List.take_length, hpn]
     obtain ⟨nx, hnx⟩ : ∃ nx : Nat → List StD, nx = fun j => addS (partS g now x n) (more.take j) := ⟨_, rfl⟩
     have hnx' : ∀ j, addS (partS g now x n) (more.take j) = nx j := fun j => by rw [hnx]
     simp only [hnx'] at hat hal' haok haz haa
     clear hnx hnx'
     (repeat (first|with_reducible refine wV fun _=>?_|simp [go_sem, hn, ← hs]))
     refine look_call g hg p hp s hsn.1 hsn.2 x [] (by simp) (a := 0) (b := 1) (c := 247) (by decide) (by simp) (by simp [upd, encPos, encIs]) (by simp [upd]) (by simp [upd]) ?_
     rw [hlk]
     simp only [lookUp]
     (repeat (first|with_reducible refine wV fun _=>?_|simp [go_sem]))
     refine ACallP.plain hSt (by simp [go_sem]) ?_
     (repeat (first|with_reducible refine wV fun _=>?_|simp [go_sem]))
     refine ALoop.start (ALoop.ind (α := Nat) (fun j => ⟨[(4, .fn (.func 120) [] [.ref 0 0 5 0 0, .ref 1 0 1 0 0]), (5, .ref 2 0 9 0 0), (16, .ref 248 0 2 0 0), (17, .sl 250 (nx j).length 8 0 (nx j).length), (18, .mp 249), (87, encProg prog), (88, .v (.int .i64 prog.length)), (89, .v (.int .i64 k)), (94, encSs now), (95, .v (.int .i64 now.length)), (96, .v (.int .i64 n)), (107, encSs more), (108, .v (.int .i64 more.length)), (109, .v (.int .i64 j))],
       [(0, .rows true 0 5 [encPos p]), (1, .rows true 0 1 [[.sl 247 0 6 0 0]]), (2, .rows true 0 9 [encGame g]), (247, .rows true 0 6 []), (248, .rows true 0 2 [encStep x]), (249, .rows true 0 2 ((nx j).map keyRow)), (250, .rows true (nx j).length 8 ((nx j).map encState))], 252⟩)
      (fun d j => j + d = more.length) ?_ more.length 0 ?_) ?_ ?_
     ·rintro d3 j j1 hrec3
      (repeat (first|with_reducible refine wV fun _=>?_|simp [go_sem]))
      refine aIf.mkL (fun hj => ?_) (fun hj => ?_) <;> simp at hj
      ·have htj := (hso _ (nth_mem hj)).1
       have hatj := hat j hj
       have halj := hal' j
       have hmj : (more.take j).length ≤ 10 := by rw [List.length_take]; omega
       obtain ⟨t, ht⟩ : ∃ t, t = nth more j := ⟨_, rfl⟩
       rw [← ht] at htj hatj
       have hk6 := hg.k6
       have hc9 := hg.c9
       have hta := htj.p.al
       have ht0 := htj.p.h0.len
       have ht1 := htj.p.h1.len
       have htk := htj.k
       have htc0 := htj.c0
       have htc1 := htj.c1
       have hKey := key_pure t (by omega) (by omega) (by omega) (by omega) (by omega) (allP_ok hg htj.p)
       have hin : ∀ u ∈ nx j, keyS t = keyS u → t = u := fun u hu e => keyS_inj hg htj (haok j u hu) e
       have hfind := find_keys t (nx j) hin
       have hput := put_keys t (nx j) hin
       (repeat (first|with_reducible refine wV fun _=>?_|simp [go_sem, hj, ← ht]))
       refine ACallP.plain hKey (by simp [go_sem]) ?_
       by_cases hmem : t ∈ nx j
       ·rw [if_pos hmem] at hatj hfind
        (repeat (first|with_reducible refine wV fun _=>?_|simp [go_sem, hfind]))
        refine ALoop.start (hrec3 (d3 - 1) (by omega) (j + 1) (by omega)) ?_ (by simp)
        simp [go_sem, Wk_eq, hatj]
       ·rw [if_neg hmem] at hatj hfind
        have hput := hput hmem
        (repeat (first|with_reducible refine wV fun _=>?_|simp [go_sem, hfind, hput]))
        refine ALoop.start (hrec3 (d3 - 1) (by omega) (j + 1) (by omega)) ?_ (by simp)
        simp [go_sem, Wk_eq, hatj]
        intro c hc
        simp only [keyRow, List.mem_cons, List.not_mem_nil, or_false] at hc
        rcases hc with rfl | rfl <;> exact .v _
      ·have hnl : j = more.length := by omega
       subst hnl
       rw [haa]
       (repeat (first|with_reducible refine wV fun _=>?_|simp [go_sem]))
       refine ALoop.start (hrec2 (d2 - 1) (by omega) (n + 1) (by omega)) ?_ (by simp)
       simp [go_sem, Wk_eq]
     ·omega
     ·simp [go_sem, Wk_eq, haz]
     ·simp
    ·have hnl : n = now.length := by omega
     subst hnl
     rw [hpa]
     (repeat (first|with_reducible refine wV fun _=>?_|simp [go_sem]))
     refine ALoop.start (hrec (d - 1) (by omega) (k + 1) (by omega)) ?_ (by simp)
     simp [go_sem, Wk_eq]
     exact frX
   ·omega
   ·simp [go_sem, Wk_eq, hpz]
   ·simp
  ·have hkl' : k = prog.length := by omega
   subst hkl'
   rw [hla]
   have hl8 := hsz prog.length (Nat.le_refl _)
   have hlok := (hst prog.length (Nat.le_refl _)).1
   rw [hla] at hl8 hlok
   generalize lastS g p cell prog = last at *
   (repeat (first|with_reducible refine wV fun _=>?_|simp [go_sem]))
   refine ALoop.start (ALoop.ind (α := Nat) (fun j => ⟨[(4, .fn (.func 120) [] [.ref 0 0 5 0 0, .ref 1 0 1 0 0]), (129, encSs last), (130, .v (.int .i64 last.length)), (131, .v (.int .i64 j))],
     [(0, .rows true 0 5 [encPos p]), (1, .rows true 0 1 [[.sl 247 ((last.take j).filterMap (putS p.side)).length 6 0 ((last.take j).filterMap (putS p.side)).length]]), (247, .rows true ((last.take j).filterMap (putS p.side)).length 6 (((last.take j).filterMap (putS p.side)).map encOut))], 248⟩)
    (fun d j => j + d = last.length) ?_ last.length 0 ?_) ?_ ?_
   ·rintro d4 j j1 hrec4
    (repeat (first|with_reducible refine wV fun _=>?_|simp [go_sem]))
    refine aIf.mkL (fun hj => ?_) (fun hj => ?_) <;> simp at hj
    ·have hsj := hlok _ (nth_mem hj)
     have hol : ((last.take j).filterMap (putS p.side)).length ≤ 100000000 := Nat.le_trans (List.length_filterMap_le _ _) (by rw [List.length_take]; omega)
     have hse : (last.take (j + 1)).filterMap (putS p.side) = lookP p.side (0, 0) (nth last j) ((last.take j).filterMap (putS p.side)) := by
      rw [List.take_add_one, List.getElem?_eq_getElem hj, nth_eq _ _ hj, List.filterMap_append]
      simp only [Option.toList_some, List.filterMap_cons, List.filterMap_nil, lookP, if_true]
      cases putS p.side last[j] <;> rfl
     obtain ⟨out, hout⟩ : ∃ out, out = (last.take j).filterMap (putS p.side) := ⟨_, rfl⟩
     rw [← hout] at hol hse ⊢
     obtain ⟨t, ht⟩ : ∃ t, t = nth last j := ⟨_, rfl⟩
     rw [← ht] at hsj hse
     (repeat (first|with_reducible refine wV fun _=>?_|simp [go_sem, hj, ← ht]))
     refine look_call g hg p hp t hsj.1 hsj.2 (0, 0) out hol (a := 0) (b := 1) (c := 247) (by decide) (by simp) (by simp [upd, encPos, encIs]) (by simp [upd]) (by simp [upd]) ?_
     rw [← hse]
     simp only [lookUp]
     (repeat (first|with_reducible refine wV fun _=>?_|simp [go_sem]))
     refine ALoop.start (hrec4 (d4 - 1) (by omega) (j + 1) (by omega)) ?_ (by simp)
     simp [go_sem, Wk_eq]
    ·have hnl : j = last.length := by omega
     subst hnl
     rw [List.take_length]
     (repeat (first|with_reducible refine wV fun _=>?_|simp [go_sem]))
     simp [go_sem, Wk_eq]
   ·omega
   ·simp [go_sem, Wk_eq]
   ·simp
 ·omega
 ·simp [go_sem, Wk_eq]
  rw [show AV.lst 8 (List.map encState (stageS g p cell prog 0)) = _ from hst0]
  (first|done|exact dpX)
 ·simp
end Go.Av
end
section
/- Contracts, runs of the program: order, and the equality of outcomes and of positions. -/
open Go Go.Proofs
namespace Go.Av
theorem cmpO_orR (a b : OutD) : orI [cmpP a.pos b.pos, number (if a.took then 1 else 0) (if b.took then 1 else 0)] = cmpO a b := by
 unfold cmpO lexI
 simp only [orI]
 repeat' split
 all_goals first | rfl | omega
theorem rOrder_pure (a b : OutD) (ha : FitsP a.pos) (hb : FitsP b.pos) : Pure Tryz.prog 124 [.agg (encOut a), .agg (encOut b)] (.v (.int .i64 (cmpO a b))) := by
 refine pF Tryz.func124 ?_
 rw [← cmpO_orR]
 have c1 := pCompare_pure _ _ ha hb
 obtain ⟨pa, ta⟩ := a
 obtain ⟨pb, tb⟩ := b
 have c4 := cCompare_pure (if ta then 1 else 0) (if tb then 1 else 0)
 simp only at c1 c4 ⊢
 generalize hx1 : cmpP pa pb = x1 at *
 generalize hx2 : number (if ta then 1 else 0) (if tb then 1 else 0) = x2 at *
 cases ta <;> cases tb <;> simp only [if_true, Bool.false_eq_true, if_false] at c4 <;>
 ·(repeat (first|with_reducible refine wV fun _=>?_|simp [go_sem]))
  refine dCall.plain c1 (by simp [go_sem]) ?_
  (repeat (first|with_reducible refine wV fun _=>?_|simp [go_sem]))
  refine dCall.plain c4 (by simp [go_sem]) ?_
  (repeat (first|with_reducible refine wV fun _=>?_|simp [go_sem]))
  refine dCall.frz [encIs [x1, x2]] _ [17] [(17, some (.rows false 0 1 ([x1, x2].map encI)))] (cOr_pure _ (by unfold Fits; simp)) ?_ ?_ (by simp [go_sem]) ?_
  ·intro p hp
   simp only [List.mem_singleton] at hp
   subst hp
   exact ⟨by simp, 0, 1, _, rfl, by simp [upd, go_sem]⟩
  ·intro h₁ hS
   have h7 := hS 17 (by simp)
   simp [go_sem] at h7
   exact .cons (leV_frz h7.symm (by simp) (by simp [applyW, upd]) (by simp [go_sem])) .nil
  ·(repeat (first|with_reducible refine wV fun _=>?_|simp [go_sem]))
theorem runs2_pure (a b : OutD) (ha : FitsP a.pos) (hb : FitsP b.pos) : Pure Tryz.prog 126 [.agg (encOut a), .agg (encOut b)] (.v (.bool (decide (a = b)))) := by
 refine pF Tryz.func126 ?_
 have c1 := rOrder_pure a b ha hb
 have e : decide (a = b) = decide (cmpO a b = 0) := by rw [decide_eq_decide]; exact (cmp_out.eq a b).symm
 rw [e]
 generalize cmpO a b = x at *
 (repeat (first|with_reducible refine wV fun _=>?_|simp [go_sem]))
 refine ACallP.plain c1 (by simp [go_sem]) ?_
 (repeat (first|with_reducible refine wV fun _=>?_|simp [go_sem]))
theorem psort1_pure (a b : PosD) (ha : FitsP a) (hb : FitsP b) : Pure Tryz.prog 142 [.agg (encPos a), .agg (encPos b)] (.v (.bool (decide (a = b)))) := by
 refine pF Tryz.func142 ?_
 have c1 := pCompare_pure a b ha hb
 have e : decide (a = b) = decide (cmpP a b = 0) := by rw [decide_eq_decide]; exact (cmp_pos.eq a b).symm
 rw [e]
 generalize cmpP a b = x at *
 (repeat (first|with_reducible refine wV fun _=>?_|simp [go_sem]))
 refine ACallP.plain c1 (by simp [go_sem]) ?_
 (repeat (first|with_reducible refine wV fun _=>?_|simp [go_sem]))
end Go.Av
end
section
/- Plain: what is made is valid. -/
open Go Go.Proofs
namespace Go.Av
structure LibOk (p : List (Int × Int)) : Prop where
 len : p.length ≤ 6
 st : ∀ x ∈ p, 1 ≤ x.1 ∧ x.1 ≤ 10 ∧ 0 ≤ x.2 ∧ (x.1 = 3 ∨ x.1 = 4 ∨ x.1 = 5 ∨ x.1 = 6 → x.2 = 0)
 take : countOp p 6 ≤ 2
 push : countOp p 7 ≤ 1
 become : countOp p 8 ≤ 1
theorem libL_ok {d e k r : Int} (hd : 0 ≤ d) (he : 0 ≤ e) (hk : 0 ≤ k) (hr : 0 ≤ r) (i : Nat) : LibOk (nth (libL d e k r) i) := by
 have h4 := Int.tmod_nonneg 8 (show 0 ≤ d + 4 by omega)
 rcases Nat.lt_or_ge i 16 with h | h
 ·have : ∀ p ∈ libL d e k r, LibOk p := by
   intro p hp
   simp only [libL, List.mem_cons, List.not_mem_nil, or_false] at hp
   rcases hp with rfl | rfl | rfl | rfl | rfl | rfl | rfl | rfl | rfl | rfl | rfl | rfl | rfl | rfl | rfl | rfl <;>
    exact ⟨by simp, by simp <;> omega, by simp [countOp], by simp [countOp], by simp [countOp]⟩
  exact this _ (nth_mem h)
 ·have e : nth (libL d e k r) i = [] := by
   unfold nth
   rw [List.getD_eq_getElem?_getD, List.getElem?_eq_none (by exact h)]; rfl
  rw [e]
  exact ⟨by simp, by simp, by simp [countOp], by simp [countOp], by simp [countOp]⟩
theorem fitStep_op {dirs kinds rights : Int} {x y : Int × Int} (h : fitStep dirs kinds rights x = some y) : y.1 = x.1 := by
 unfold fitStep at h
 split at h
 ·simp only [Option.some.injEq] at h; rw [← h]
 ·split at h
  ·simp only [Option.some.injEq] at h; rw [← h]
  ·split at h
   ·split at h
    ·cases h
    ·simp only [Option.some.injEq] at h; rw [← h]
   ·simp only [Option.some.injEq] at h; rw [← h]
theorem fit_count {dirs kinds rights : Int} (op : Int) : ∀ p : List (Int × Int), countOp (p.filterMap (fitStep dirs kinds rights)) op ≤ countOp p op
 | [] => by simp [countOp]
 | x :: p => by
  have ih := fit_count (dirs := dirs) (kinds := kinds) (rights := rights) op p
  unfold countOp at *
  rw [List.filterMap_cons]
  cases hf : fitStep dirs kinds rights x with
  | none => simp only [List.countP_cons]; omega
  | some y =>
   have := fitStep_op hf
   simp only [List.countP_cons, this]
   omega
theorem fitP_ok {dirs kinds rights : Int} (hd : 1 ≤ dirs) (hk : 1 ≤ kinds) (hr : 0 ≤ rights) {p : List (Int × Int)} (hp : LibOk p) : ProgOk dirs kinds rights (fitP dirs kinds rights p) := by
 have h0 : ProgOk dirs kinds rights [(3, 0)] := by
  refine ⟨by simp, by simp, fun x hx => ?_, by simp [countOp], by simp [countOp], by simp [countOp]⟩
  simp only [List.mem_singleton] at hx
  subst hx
  exact ⟨by simp, by simp, by simp, by simp, by simp⟩
 unfold fitP
 split
 ·exact h0
 ·rename_i hne
  have hl : (p.filterMap (fitStep dirs kinds rights)).length ≤ p.length := List.length_filterMap_le _ _
  have hpos := List.length_pos_iff.2 hne
  refine ⟨by omega, by have := hp.len; omega, fun y hy => ?_, Nat.le_trans (fit_count 6 p) hp.take, Nat.le_trans (fit_count 7 p) hp.push, Nat.le_trans (fit_count 8 p) hp.become⟩
  obtain ⟨x, hx, hf⟩ := List.mem_filterMap.1 hy
  obtain ⟨a, b, c, d⟩ := hp.st x hx
  have m1 := Int.tmod_nonneg dirs c
  have m2 := Int.tmod_lt_of_pos x.2 (show 0 < dirs by omega)
  have m3 := Int.tmod_nonneg kinds c
  have m4 := Int.tmod_lt_of_pos x.2 (show 0 < kinds by omega)
  have m5 := Int.tmod_nonneg rights c
  unfold fitStep at hf
  split at hf
  ·simp only [Option.some.injEq] at hf; subst hf
   exact ⟨by simp only; omega, by simp only; omega, by simp only; omega, by simp only; omega, by simp only; omega⟩
  ·split at hf
   ·simp only [Option.some.injEq] at hf; subst hf
    exact ⟨by simp only; omega, by simp only; omega, by simp only; omega, by simp only; omega, by simp only; omega⟩
   ·split at hf
    ·split at hf
     ·cases hf
     ·rename_i hr0
      have m6 := Int.tmod_lt_of_pos x.2 (show 0 < rights by omega)
      simp only [Option.some.injEq] at hf; subst hf
      exact ⟨by simp only; omega, by simp only; omega, by simp only; omega, by simp only; omega, by simp only; omega⟩
    ·simp only [Option.some.injEq] at hf; subst hf
     exact ⟨by omega, by omega, by omega, by omega, by omega⟩
theorem madeP_ok {n dirs kinds rights : Int} (hn : U8 n) (hd : 1 ≤ dirs) (hk : 1 ≤ kinds) (hr : 0 ≤ rights) : ProgOk dirs kinds rights (madeP n dirs kinds rights) := by
 obtain ⟨n0, n1⟩ := hn
 have q0 : 0 ≤ n.tdiv 16 := by rw [Int.tdiv_eq_ediv_of_nonneg n0]; omega
 have q1 : 0 ≤ n.tdiv 3 := by rw [Int.tdiv_eq_ediv_of_nonneg n0]; omega
 have q2 := Int.tmod_nonneg 5 n0
 exact fitP_ok hd hk hr (libL_ok (Int.tmod_nonneg _ q0) (Int.tmod_nonneg _ (by omega)) (Int.tmod_nonneg _ q1) (Int.tmod_nonneg _ n0) _)
theorem madeB_turn (w h cut : Int) (d : Nat) (hd : d < (madeB w h cut).turn.length) : nth (madeB w h cut).turn (nth (madeB w h cut).turn d).toNat = d := by
 have ht : (madeB w h cut).turn = gridTurn 8 := by unfold madeB; split <;> rfl
 rw [ht] at hd ⊢
 have h8 : d < 8 := by simpa [gridTurn] using hd
 have : ∀ d : Fin 8, nth (gridTurn 8) (nth (gridTurn 8) d.val).toNat = (d.val : Int) := by decide
 exact this ⟨d, h8⟩
theorem madeG_ok {x : RawG} (hx : RawOk x) : GOk (madeG x) := by
 have hb : BoardOk x.board := boardOk_made hx.w.1 hx.h.1 x.cut
 have hc := madeB_cells hx.w.1 hx.h.1 x.cut
 have hd : x.board.next.length = 8 := madeB_dirs x.w x.h x.cut
 have hK : kindsN x = 1 ∨ kindsN x = 2 := by unfold kindsN; split <;> simp
 have hkl : (madeG x).kinds.length = kindsN x := by simp [madeG]
 have r0 : 0 ≤ x.rights := Int.tmod_nonneg 3 hx.f0.1
 have r1 : x.rights < 3 := Int.tmod_lt_of_pos x.f0 (show (0 : Int) < 3 by decide)
 have t : ∀ n : Int, U8 n → 0 ≤ (n.tdiv 4).tmod 3 ∧ (n.tdiv 4).tmod 3 < 3 := fun n hn => by
  have : 0 ≤ n.tdiv 4 := by rw [Int.tdiv_eq_ediv_of_nonneg hn.1]; have := hn.1; omega
  exact ⟨Int.tmod_nonneg 3 this, Int.tmod_lt_of_pos _ (by decide)⟩
 have t3 := t _ hx.f3
 have t4 := t _ hx.f4
 have hcl : x.board.cells = (madeG x).cells := rfl
 have hc' : 1 ≤ x.board.cells ∧ x.board.cells ≤ 9 := hc
 refine ⟨hb, hc'.1, hc'.2, by show 1 ≤ x.board.next.length; omega, by show x.board.next.length ≤ 8; omega, madeB_turn x.w x.h x.cut, by omega, by omega, fun k hk => ?_, fun k hk p hp => ?_, r0, ?_, fun c hcm => ?_, ?_, ?_, ?_⟩
 ·obtain ⟨i, _, rfl⟩ := List.mem_map.1 hk
  simp only [kindOf, List.length_map, List.length_take]; omega
 ·rw [hkl]
  obtain ⟨i, _, rfl⟩ := List.mem_map.1 hk
  obtain ⟨n, hn, rfl⟩ := List.mem_map.1 hp
  have hn' := List.mem_of_mem_take hn
  have hu : U8 n := by
   unfold RawG.ks at hn'
   split at hn'
   ·exact hx.k0 n hn'
   ·exact hx.k1 n hn'
  exact madeP_ok hu (show (1 : Int) ≤ x.board.next.length by omega) (show (1 : Int) ≤ kindsN x by omega) r0
 ·show x.rights ≤ 4; omega
 ·rw [hkl]
  obtain ⟨c0, h0, rfl⟩ := List.mem_map.1 hcm
  obtain ⟨u0, u1, u2⟩ := hx.c _ (List.mem_of_mem_take h0)
  have a0 := Int.tmod_nonneg 3 u0.1
  have a1 := Int.tmod_lt_of_pos c0.1 (show (0 : Int) < 3 by decide)
  have b0 := Int.tmod_nonneg (kindsN x : Int) u1.1
  have b1 := Int.tmod_lt_of_pos c0.2.1 (show (0 : Int) < kindsN x by omega)
  have d0 := Int.tmod_nonneg x.board.cells u2.1
  have d1 := Int.tmod_lt_of_pos c0.2.2 (show (0 : Int) < x.board.cells by omega)
  have e0 := Int.tmod_nonneg 3 u2.1
  have e1 := Int.tmod_lt_of_pos c0.2.2 (show (0 : Int) < 3 by decide)
  have t0 := t _ u0
  rw [← hcl]
  refine ⟨?_, ?_, ?_, ?_, ?_⟩ <;> simp only [clauseOf]
  ·omega
  ·split <;> omega
  ·split
   ·omega
   ·split <;> omega
  ·omega
  ·intro h; rw [if_neg (by omega)]
 ·show ((x.c.take 3).map _).length ≤ 6
  simp; omega
 ·show 1 ≤ (if x.f3.tmod 4 = 3 then 1 + (x.f3.tdiv 4).tmod 3 else 3) ∧ (if x.f3.tmod 4 = 3 then 1 + (x.f3.tdiv 4).tmod 3 else 3) ≤ 3
  split <;> omega
 ·show 1 ≤ (if x.f4.tmod 4 = 3 then 1 + (x.f4.tdiv 4).tmod 3 else 2) ∧ (if x.f4.tmod 4 = 3 then 1 + (x.f4.tdiv 4).tmod 3 else 2) ≤ 3
  split <;> omega
theorem madePos_ok {g : GameD} (hg : GOk g) {x : RawP} (hx : RawPOk x) : POk g (madePos g x) := by
 have c1 := hg.c1
 have k1 := hg.k1
 have hat : ∀ n, n ≤ 6 → ∀ c ∈ madeAt g x n, 0 ≤ c ∧ c ≤ 2 * g.kinds.length := by
  intro n
  induction n with
  | zero => intro _ c hc; simp [madeAt] at hc; omega
  | succ n ih =>
   intro hn c hc
   rw [madeAt_succ] at hc
   unfold atStep at hc
   split at hc
   ·rcases List.mem_or_eq_of_mem_set hc with hc | rfl
    ·exact ih (by omega) c hc
    ·have hkv : U8 (nth x.kind n) := hx.kv _ (nth_mem (by rw [hx.k6]; omega))
     have a := Int.tmod_nonneg (g.kinds.length : Int) hkv.1
     have b := Int.tmod_lt_of_pos (nth x.kind n) (show (0 : Int) < g.kinds.length by omega)
     have c := Int.tmod_nonneg 2 (show (0 : Int) ≤ n by omega)
     have d := Int.tmod_lt_of_pos (n : Int) (show (0 : Int) < 2 by decide)
     omega
   ·exact ih (by omega) c hc
 have hh : ∀ s, s < 2 → HandOk g (handL g x s (min g.kinds.length 2)) := by
  intro s hs
  refine ⟨handL_len _ _ _ _, fun i hi => ?_⟩
  rw [handL_len] at hi
  have e : nth (handL g x s (min g.kinds.length 2)) i = if i < min g.kinds.length 2 then handV g x s i else 0 := by
   unfold handL
   rw [nth_map _ _ _ (by simpa using hi)]
   simp [nth, hi]
  rw [e]
  split
  ·have hv : U8 (nth x.hand (2 * s + i)) := hx.hv _ (nth_mem (by rw [hx.h4]; omega))
   have a := Int.tmod_nonneg 3 hv.1
   have b := Int.tmod_lt_of_pos (nth x.hand (2 * s + i)) (show (0 : Int) < 3 by decide)
   unfold handV
   split
   ·rename_i hk
    split <;> exact ⟨by omega, by omega, fun _ => hk⟩
   ·exact ⟨by omega, by omega, fun h => by omega⟩
  ·exact ⟨by omega, by omega, fun h => by omega⟩
 have hp := pow_le16 hg.r0 hg.r4
 refine ⟨?_, hat 6 (Nat.le_refl _), hh 0 (by omega), hh 1 (by omega), Int.tmod_nonneg _ hx.r.1, Int.tmod_lt_of_pos _ (by omega), ?_⟩
 ·show ((madeAt g x 6).length : Int) = g.cells
  rw [madeAt_len]; omega
 ·have a := Int.tmod_nonneg 2 hx.s.1
  have b := Int.tmod_lt_of_pos x.side (show (0 : Int) < 2 by decide)
  show x.side.tmod 2 = 0 ∨ x.side.tmod 2 = 1
  omega
end Go.Av
end
section
/- Plain: paths of programs (layer 8). -/
open Go Go.Proofs
namespace Go.Av
abbrev ActD := Int × Int × Int
structure PathD where
 acts : List ActD
 to : Int
 deriving DecidableEq
instance : Inhabited PathD := ⟨⟨[], 0⟩⟩
def encAct (a : ActD) : List AV := [.v (.int .i64 a.1), .v (.int .i64 a.2.1), .v (.int .i64 a.2.2)]
def encAs (l : List ActD) : AV := .lst 3 (l.map encAct)
def encPath (p : PathD) : List AV := [encAs p.acts, .v (.int .i64 p.to)]
def encPt (l : List PathD) : AV := .lst 2 (l.map encPath)
def encCells (l : List (List PathD)) : AV := .lst 1 (l.map fun x => [encPt x])
def encSide (l : List (List (List PathD))) : AV := .lst 1 (l.map fun x => [encCells x])
abbrev CodeD := List (List (List PathD)) × List (List (List PathD))
def encCode (c : CodeD) : List AV := [encSide c.1, encSide c.2]
attribute [go_sem] encAct encAs encPath encPt encCells encSide encCode
theorem bel_A {n : Nat} {l : List ActD} : (∀ r ∈ l.map encAct, ∀ c ∈ r, Bel n c) = True := by
 refine eq_true ?_
 intro r hr c hc
 obtain ⟨x, _, rfl⟩ := List.mem_map.1 hr
 revert c
 simp [go_sem]
theorem bel_As {n : Nat} {l : List ActD} : Bel n (.lst 3 (l.map encAct)) = True := by rw [Bel_lst, bel_A]
theorem bel_Pa {n : Nat} {l : List PathD} : (∀ r ∈ l.map encPath, ∀ c ∈ r, Bel n c) = True := by
 refine eq_true ?_
 intro r hr c hc
 obtain ⟨x, _, rfl⟩ := List.mem_map.1 hr
 simp only [encPath, encAs, List.mem_cons, List.not_mem_nil, or_false] at hc
 rcases hc with rfl | rfl
 ·exact of_eq_true bel_As
 ·exact .v _
theorem bel_Pas {n : Nat} {l : List PathD} : Bel n (.lst 2 (l.map encPath)) = True := by rw [Bel_lst, bel_Pa]
theorem bel_Ce {n : Nat} {l : List (List PathD)} : (∀ r ∈ l.map (fun x => [AV.lst 2 (x.map encPath)]), ∀ c ∈ r, Bel n c) = True := by
 refine eq_true ?_
 intro r hr c hc
 obtain ⟨x, _, rfl⟩ := List.mem_map.1 hr
 simp only [List.mem_cons, List.not_mem_nil, or_false] at hc
 subst hc
 exact of_eq_true bel_Pas
theorem bel_Ces {n : Nat} {l : List (List PathD)} : Bel n (.lst 1 (l.map (fun x => [AV.lst 2 (x.map encPath)]))) = True := by rw [Bel_lst, bel_Ce]
theorem bel_Si {n : Nat} {l : List (List (List PathD))} : (∀ r ∈ l.map (fun x => [AV.lst 1 (x.map (fun x => [AV.lst 2 (x.map encPath)]))]), ∀ c ∈ r, Bel n c) = True := by
 refine eq_true ?_
 intro r hr c hc
 obtain ⟨x, _, rfl⟩ := List.mem_map.1 hr
 simp only [List.mem_cons, List.not_mem_nil, or_false] at hc
 subst hc
 exact of_eq_true bel_Ces
theorem bel_Sis {n : Nat} {l : List (List (List PathD))} : Bel n (.lst 1 (l.map (fun x => [AV.lst 1 (x.map (fun x => [AV.lst 2 (x.map encPath)]))]))) = True := by rw [Bel_lst, bel_Si]
attribute [go_sem high] bel_As bel_Pas bel_Ces bel_Sis
attribute [go_sem ↓] bel_A bel_Pa bel_Ce bel_Si
end Go.Av
end
section
/- Plain: laws of paths (layer 8): they are valid, turned, counted. -/
open Go Go.Proofs
namespace Go.Av
end Go.Av
end
section
/- Plain: the outcomes of paths are those of programs (layer 8). -/
open Go Go.Proofs
namespace Go.Av
structure TkD where
 p : PosD
 kind : Int
 took : Bool
 deriving DecidableEq
instance : Inhabited TkD := ⟨⟨default, 0, false⟩⟩
end Go.Av
end
section
/- Contracts: gen.order. -/
open Go Go.Proofs
namespace Go.Av
end Go.Av
end
section
/- Contracts: slices.CompactFunc of outcomes. -/
open Go Go.Proofs
namespace Go.Av
def zeroO : List AV := [.v (.slice none 0 0), .v (.slice none 0 0), .v (.slice none 0 0), .v (.int .i64 0), .v (.int .i64 0), .v (.bool false)]
theorem dedup_short {α : Type} [DecidableEq α] {l : List α} (h : l.length < 2) : dedup l = l := by
 match l, h with
 | [], _ => rfl
 | [a], _ => rfl
 | a :: b :: l, h => simp only [List.length_cons] at h; omega
end Go.Av
end
section
/- Our library: slices.SortFunc at our rows, by the kit's contract. -/
namespace Go.Av
open Go Go.Sort Go.Shelf Go.Proofs
structure El (w : World) (M : Nat → Prop) {α : Type} (en : α → List AV) (Q : α → Prop) where
 x : α
 vs : List Value
 q : Q x
 rel : RelL noP w M (en x) vs
 cells : ∀ v ∈ vs, cellV v = true
theorem elems {w : World} {M : Nat → Prop} {α : Type} {en : α → List AV} {Q : α → Prop} : ∀ {l : List α} {W : List Value}, (∀ x ∈ l, Q x) → RelL noP w M (l.map en).flatten W → (∀ v ∈ W, cellV v = true) →
  ∃ ls : List (El w M en Q), ls.map (·.x) = l ∧ (ls.map (·.vs)).flatten = W
 | [], W, _, h, _ => by cases h; exact ⟨[], rfl, rfl⟩
 | x :: l, W, hq, h, hc => by
  rw [List.map_cons, List.flatten_cons] at h
  obtain ⟨us, ts, rfl, h1, h2⟩ := h.split
  obtain ⟨ls, e1, e2⟩ := elems (fun y hy => hq y (by simp [hy])) h2 (fun v hv => hc v (by simp [hv]))
  exact ⟨⟨x, us, hq x (by simp), h1, fun v hv => hc v (by simp [hv])⟩ :: ls, by simp [e1], by simp [e2]⟩
theorem flat_get {k : Nat} (hk : 0 < k) : ∀ (ls : List (List Value)) (t : Nat), (∀ r ∈ ls, r.length = k) → t < ls.length * k → ls.flatten[t]? = (ls[t / k]?).bind (·[t % k]?)
 | [], t, _, h => by simp at h
 | r :: ls, t, hr, h => by
  have hl : r.length = k := hr r (by simp)
  rw [List.flatten_cons]
  by_cases ht : t < k
  ·rw [List.getElem?_append_left (by omega), Nat.div_eq_of_lt ht, Nat.mod_eq_of_lt ht]; rfl
  ·obtain ⟨s, rfl⟩ : ∃ s, t = s + k := ⟨t - k, by omega⟩
   have hs : s < ls.length * k := by simp only [List.length_cons, Nat.add_mul, Nat.one_mul] at h; omega
   rw [List.getElem?_append_right (by omega), hl, Nat.add_sub_cancel, flat_get hk ls s (fun r hr' => hr r (by simp [hr'])) hs, Nat.add_div_right _ hk, Nat.add_mod_right, List.getElem?_cons_succ]
theorem flatK_list {β : Type} [Inhabited β] (enc : β → List Value) {k : Nat} (hk0 : 0 < k) (hk : ∀ x, (enc x).length = k) (d : Array β) : (flatK enc k d).toList = (d.toList.map enc).flatten := by
 refine List.ext_getElem? fun t => ?_
 have hr : ∀ r ∈ d.toList.map enc, r.length = k := fun r hr => by obtain ⟨x, _, rfl⟩ := List.mem_map.1 hr; exact hk x
 have hlen : ((d.toList.map enc).flatten).length = d.size * k := by
  have : ∀ ls : List (List Value), (∀ r ∈ ls, r.length = k) → ls.flatten.length = ls.length * k := by
   intro ls
   induction ls with
   | nil => intro _; simp
   | cons r ls ih => intro h; rw [List.flatten_cons, List.length_append, ih (fun r hr => h r (by simp [hr])), h r (by simp), List.length_cons, Nat.add_mul]; omega
  rw [this _ hr]; simp
 by_cases ht : t < d.size * k
 ·have h1 := get_flatK enc k d t ht
  have hq : t / k < d.size := Nat.div_lt_of_lt_mul (by rw [Nat.mul_comm]; exact ht)
  have hm : t % k < k := Nat.mod_lt _ hk0
  have hs : t < (flatK enc k d).size := by rw [size_flatK]; exact ht
  rw [flat_get hk0 _ t hr (by simpa using ht), Array.getElem?_toList, Array.getElem?_eq_getElem hs, ← getElem!_pos (flatK enc k d) t hs, h1, List.getElem?_map, Array.getElem?_toList, Array.getElem?_eq_getElem hq,
   getElem!_pos d (t / k) hq]
  simp only [Option.map_some, Option.bind_some]
  rw [List.getElem?_eq_getElem (by rw [hk]; exact hm), getElem!_pos _ _ (by rw [hk]; exact hm)]
 ·rw [List.getElem?_eq_none (by rw [Array.length_toList, size_flatK]; omega), List.getElem?_eq_none (by omega)]
theorem sort_world {w : World} {blk off : Nat} {C : Array Value} {T : TypeId} (hb : w.heap[blk]? = some (.cells C T (0, 0))) {F : Array Value} (hF : off + F.size ≤ C.size) (n : Nat) (os : Array Obj) :
  ∃ C', (grow (putRow id (Sort.ahead w n) blk off F) os).heap[blk]? = some (.cells C' T (0, 0)) ∧ C'.size = C.size ∧ (C'.toList.drop off).take F.size = F.toList ∧
   (∀ j, j ≠ blk → j < w.heap.size → (grow (putRow id (Sort.ahead w n) blk off F) os).heap[j]? = w.heap[j]?) ∧ w.heap.size ≤ (grow (putRow id (Sort.ahead w n) blk off F) os).heap.size := by
 have hlt : blk < w.heap.size := (Array.getElem?_eq_some_iff.1 hb).1
 have hsz : (putRow id (Sort.ahead w n) blk off F).heap.size = w.heap.size := by rw [Sort.size_putRow]; rfl
 have hold : ∀ j, j < w.heap.size → (grow (putRow id (Sort.ahead w n) blk off F) os).heap[j]? = (w.heap.modify blk (onCells (putCells id off F)))[j]? := by
  intro j hj
  show (_ ++ os)[j]? = _
  rw [Array.getElem?_append_left (by rw [hsz]; exact hj)]
  rfl
 refine ⟨putCells id off F C, ?_, by simp [putCells], ?_, fun j hj hjl => ?_, ?_⟩
 ·rw [hold blk hlt, Array.getElem?_modify]
  simp [hb, onCells]
 ·refine List.ext_getElem? fun j => ?_
  by_cases hj : j < F.size
  ·rw [List.getElem?_take, if_pos hj, List.getElem?_drop, Array.getElem?_toList, Array.getElem?_toList]
   simp only [putCells, Array.getElem?_mapIdx]
   rw [Array.getElem?_eq_getElem (show off + j < C.size by omega), Array.getElem?_eq_getElem hj]
   simp only [Option.map_some]
   rw [if_pos ⟨by omega, by omega⟩, show off + j - off = j by omega, getElem!_pos F j hj]
   rfl
  ·rw [List.getElem?_eq_none (by simp; omega), List.getElem?_eq_none (by simpa using hj)]
 ·rw [hold j hjl, Array.getElem?_modify, if_neg (Ne.symm hj)]
 ·rw [size_grow, hsz]; omega
theorem sort_worldK {w : World} {blk off : Nat} {C : Array Value} {T : TypeId} (hb : w.heap[blk]? = some (.cells C T (0, 0))) {β : Type} [Inhabited β] (enc : β → List Value) (k : Nat) (d : Array β) (hF : off + d.size * k ≤ C.size) (n : Nat) (os : Array Obj) :
  ∃ C', (sortWorldK enc k w blk off n d os).heap[blk]? = some (.cells C' T (0, 0)) ∧ C'.size = C.size ∧ (C'.toList.drop off).take (d.size * k) = (flatK enc k d).toList ∧
   (∀ j, j ≠ blk → j < w.heap.size → (sortWorldK enc k w blk off n d os).heap[j]? = w.heap[j]?) ∧ w.heap.size ≤ (sortWorldK enc k w blk off n d os).heap.size ∧
   (sortWorldK enc k w blk off n d os).os = w.os ∧ (sortWorldK enc k w blk off n d os).tape = w.tape ∧ (sortWorldK enc k w blk off n d os).output = w.output ∧ w.drawn ≤ (sortWorldK enc k w blk off n d os).drawn := by
 obtain ⟨C', h1, h2, h3, h4, h5⟩ := sort_world hb (F := flatK enc k d) (by rw [size_flatK]; exact hF) n os
 unfold sortWorldK putRowK
 rw [size_flatK] at h3
 exact ⟨C', h1, h2, h3, h4, h5, rfl, rfl, rfl, Nat.le_add_right _ _⟩
theorem swo_pull {α β : Type} {lt : α → α → Bool} (h : SWO lt) (f : β → α) : SWO (fun a b => lt (f a) (f b)) := ⟨fun _ => h.irrefl _, fun _ _ _ => h.trans _ _ _, fun _ _ _ => h.ntrans _ _ _⟩
theorem ACallP.sortFunc {P : Program} {ρ : Ren} (L : SlLaysF0.n6 P ρ) {α : Type} {k : Nat} (hk0 : 0 < k) (aE : ∀ w, (isAgg (ρ.t 24)).run P w = .ok true w) (zE : ∀ w, (Go.sizeOf (ρ.t 24)).run P w = .ok k w)
  (en : α → List AV) (henl : ∀ x, (en x).length = k) (henb : ∀ x, ∀ c ∈ en x, Bel 0 c) (Q : α → Prop) (cf : α → α → Int) (hO : SWO (fun a b : α => decide (cf a b < 0))) (g : FuncId)
  (hC : ∀ x y, Q x → Q y → Pure P g [.agg (en x), .agg (en y)] (.v (.int .i64 (cf x y)))) (hg : Enters P g) (l : List α) (hQ : ∀ x ∈ l, Q x) (hl : l.length < 4611686018427387904) {h : Heap} {n o gn : Nat}
  (ho : h o = some (.rows true gn k (l.map en))) {K : CallK} (hK : ∀ l' : List α, l'.Perm l → l'.Pairwise (fun a b => ¬ cf b a < 0) → K (.tup []) (upd h o (some (.rows true gn k (l'.map en)))) n) :
  ACallP P (ρ.f 6) [.sl o gn k 0 l.length, .fn (.func g) [] []] h n K := by
 have e6 : Enters P (ρ.f 6) := L.f6.enters rfl
 refine ⟨e6, fun M0 φ w vs hH hargs => ?_⟩
 cases hargs with
 | cons hs ht =>
 cases ht with
 | cons hf ht =>
 cases ht
 cases hf with
 | @fn _ _ _ fs cs q1 q2 =>
 cases q1; cases q2
 have hal : alive h o gn k := by simp [alive, ho]
 obtain ⟨A, cap, rfl, hcap, hA⟩ := hH.sl_alive hal hs
 have hnone : l = [] → Calls P (ρ.f 6) ⟨[.slice A l.length cap, .func (.func g) ⟨[]⟩ ⟨[]⟩]⟩ w fun e w' => ∃ v φ' r h' n', e = .returned v ∧ K r h' n' ∧ HRel φ' n' w' M0 h' ∧ Rel φ' w' (Or M0 (Mut φ' h')) r v ∧ Step φ w M0 h φ' w' h' := by
  intro he
  subst he
  refine (AnyF.slices_SortFunc_none L A cap _ w).mono ?_
  rintro e w' ⟨rfl, rfl⟩
  have := hK [] (.refl _) .nil
  rw [← ho, upd_self] at this
  exact ⟨_, φ, .tup [], h, n, rfl, this, hH, .tup (vs := []) .nil, .refl _ _ _ _⟩
 by_cases he : l = []
 ·exact hnone he
 have hlp : 0 < l.length := List.length_pos_iff.2 he
 rcases hA with ⟨rfl, _, h0, _⟩ | ⟨h0, rfl, _⟩ | ⟨a, bs, hp, hsp, rfl, hcb⟩
 ·omega
 ·omega
 obtain ⟨A0, hA0, hobj⟩ := hH.obj _ _ _ _ _ ho
 rw [hp] at hA0
 simp only [Option.some.injEq, Prod.mk.injEq, true_and] at hA0
 subst hA0
 rcases hobj with ⟨hobj, _⟩ | ⟨a₁, bs₁, e1, h0, hd⟩
 ·cases hobj
 simp only [Option.some.injEq, Prod.mk.injEq] at e1
 obtain ⟨rfl, rfl⟩ := e1
 obtain ⟨C, T, hb, hCs, hr, hle, hv, hrel⟩ := hd.cells hsp
 rw [List.length_map] at hle hv hrel
 have hrel0 : RelL noP w (Or M0 (Mut φ h)) (l.map en).flatten ((C.toList.drop a.off).take (l.length * k)) := relL_closed (fun _ hk => hk) (fun c hc => by
  obtain ⟨r, hr, hc⟩ := List.mem_flatten.1 hc
  obtain ⟨x, _, rfl⟩ := List.mem_map.1 hr
  exact henb x c hc) hrel
 obtain ⟨ls, hlx, hlv⟩ := elems (Q := Q) hQ hrel0 hv
 have hlen : ls.length = l.length := by rw [← hlx, List.length_map]
 obtain ⟨d, hd⟩ : ∃ d : Array (El w (Or M0 (Mut φ h)) en Q), d = ls.toArray := ⟨_, rfl⟩
 have hds : d.size = l.length := by rw [hd]; simpa using hlen
 haveI : Inhabited (El w (Or M0 (Mut φ h)) en Q) := ⟨ls[0]'(by omega)⟩
 have hkE : ∀ x : El w (Or M0 (Mut φ h)) en Q, x.vs.length = k := fun x => by rw [← x.rel.length, henl]
 have hMb : Or M0 (Mut φ h) a.block := .inr ⟨o, gn, k, _, gn, a, bs, ho, hp, rfl⟩
 have hblk : a.block < w.heap.size := (Array.getElem?_eq_some_iff.1 hb).1
 have hfl : ∀ d' : Array (El w (Or M0 (Mut φ h)) en Q), (flatK (fun x => x.vs) k d').toList = (d'.toList.map fun x => x.vs).flatten := fun d' => flatK_list _ hk0 hkE d'
 have hCal : Calls P (ρ.f 6) ⟨[.slice (some ⟨a.block, a.off + 0 * k, none⟩) l.length cap, .func (.func g) ⟨[]⟩ ⟨[]⟩]⟩ w fun e w' =>
   e = .returned (.tuple #[]) ∧ ∃ d' n os, PermIn 0 d.size d d' ∧ SortedIn (ltOf fun x y : El w (Or M0 (Mut φ h)) en Q => cf x.x y.x) 0 d.size d' ∧ w' = sortWorldK (fun x => x.vs) k w a.block a.off n d' os := by
  rw [Nat.zero_mul, Nat.add_zero, ← hds]
  refine AnyQ.slices_SortFunc L k aE zE (fun x : El w (Or M0 (Mut φ h)) en Q => x.vs) hkE (fun x => x.cells) (fun x y => cf x.x y.x) (swo_pull hO fun x : El w (Or M0 (Mut φ h)) en Q => x.x) g #[] a.block a.off cap d w hg ?_ ?_ hblk (by omega)
  ·intro m os dk hdk x y
   obtain ⟨hx1, hx2⟩ := hC x.x y.x x.q y.q
   obtain ⟨C', k1, k2, k3, k4, k5, k6, k7, k8, k9⟩ := sort_worldK (off := a.off) hb (fun x : El w (Or M0 (Mut φ h)) en Q => x.vs) k dk (by rw [hdk, hds]; omega) m os
   generalize sortWorldK (fun x : El w (Or M0 (Mut φ h)) en Q => x.vs) k w a.block a.off m dk os = X at *
   have hkeep : ∀ z : El w (Or M0 (Mut φ h)) en Q, RelL noP X (Or M0 (Mut φ h)) (en z.x) z.vs := fun z =>
    z.rel.keep noP.le_refl (fun j hj hjl => k4 j (fun e => hj (e ▸ hMb)) hjl) (fun j hj => .inl hj)
   have hag : ∀ z : El w (Or M0 (Mut φ h)) en Q, Rel noP X (Or M0 (Mut φ h)) (.agg (en z.x)) (.agg z.vs.toArray) := fun z => .agg z.cells (hkeep z)
   refine (hx2 (Or M0 (Mut φ h)) X [.agg x.vs.toArray, .agg y.vs.toArray] (fun j hj => Nat.lt_of_lt_of_le (hH.blk hj) k5) (hH.glob.keep (fun j hj hjl => k4 j (fun e => hj (e ▸ hMb)) hjl) (fun j hj => .inl hj)) (.cons (hag x) (.cons (hag y) .nil))).mono ?_
   rintro e w' ⟨v, rfl, hrv, hfr⟩
   cases hrv
   refine ⟨rfl, w'.drawn - X.drawn, w'.heap.extract X.heap.size w'.heap.size, ?_⟩
   have hheap : X.heap ++ w'.heap.extract X.heap.size w'.heap.size = w'.heap := by
    refine Array.ext_getElem? fun j => ?_
    by_cases hj : j < X.heap.size
    ·rw [Array.getElem?_append_left hj, hfr.block j hj (fun h => h)]
    ·rw [Array.getElem?_append_right (by omega), Array.getElem?_extract]
     have := hfr.size
     split
     ·congr 1; omega
     ·rw [Array.getElem?_eq_none (by omega)]
   have hdr : X.drawn + (w'.drawn - X.drawn) = w'.drawn := by have := hfr.drawn; omega
   cases w' with
   | mk hp tp dr os' out =>
    have e1 := hfr.os; have e2 := hfr.tape; have e3 := hfr.output
    simp only at e1 e2 e3 hheap hdr
    subst e1 e2 e3
    simp only [grow, World.drewN, hheap, hdr]
  ·intro j hj
   have hjl : j < ((C.toList.drop a.off).take (l.length * k)).length := by
    rw [← hlv, ← show (d.toList.map fun x => x.vs) = ls.map (·.vs) by rw [hd], ← hfl, Array.length_toList]; exact hj
   have hget : (flatK (fun x : El w (Or M0 (Mut φ h)) en Q => x.vs) k d)[j]! = C[a.off + j]! := by
    have e1 : (flatK (fun x : El w (Or M0 (Mut φ h)) en Q => x.vs) k d).toList = (C.toList.drop a.off).take (l.length * k) := by rw [hfl, hd]; exact hlv
    have hjC : a.off + j < C.size := by simp at hjl; omega
    rw [getElem!_pos _ j hj, getElem!_pos C _ hjC, ← Array.getElem_toList, ← Array.getElem_toList (xs := C)]
    simp only [e1, List.getElem_take, List.getElem_drop]
   have hjC : a.off + j < C.size := by simp at hjl; omega
   refine ⟨?_, ?_⟩
   ·simp only [World.cell?, hb]
    rw [hget]
    simp [hjC]
   ·simp [World.frozen?, hb]
 refine hCal.mono ?_
 rintro e w' ⟨rfl, d', n', os, hperm, hsort, rfl⟩
 obtain ⟨hps, _, hpp⟩ := hperm
 obtain ⟨C', k1, k2, k3, k4, k5, k6, k7, k8, k9⟩ := sort_worldK (off := a.off) hb (fun x : El w (Or M0 (Mut φ h)) en Q => x.vs) k d' (by rw [hps, hds]; omega) n' os
 generalize sortWorldK (fun x : El w (Or M0 (Mut φ h)) en Q => x.vs) k w a.block a.off n' d' os = X at *
 obtain ⟨l', hl'⟩ : ∃ l' : List α, l' = d'.toList.map fun x => x.x := ⟨_, rfl⟩
 have hl'l : l'.length = l.length := by rw [hl', List.length_map, Array.length_toList, hps, hds]
 have hpl : l'.Perm l := by
  have h1 : (d'.extract 0 d.size).toList = d'.toList := by rw [← hps]; simp
  have h2 : (d.extract 0 d.size).toList = d.toList := by simp
  rw [h1, h2] at hpp
  have := hpp.map fun x => x.x
  rw [hl', ← hlx]
  simpa [hd] using this
 have hpw : l'.Pairwise (fun x y => ¬ cf y x < 0) := by
  rw [hl', List.pairwise_map, List.pairwise_iff_getElem]
  intro i j hi hj hij
  have hi' : i < d'.size := by simpa using hi
  have hj' : j < d'.size := by simpa using hj
  have := hsort i j (Nat.zero_le _) hij (by omega)
  rw [getElem!_pos d' i hi', getElem!_pos d' j hj'] at this
  simpa [ltOf] using this
 have hwin : (C'.toList.drop a.off).take (l'.length * k) = (d'.toList.map fun x => x.vs).flatten := by
  rw [hps, hds, hfl] at k3
  rw [hl'l]; exact k3
 have hrel' : RelL φ w (Or M0 (Mut φ h)) (l'.map en).flatten ((C'.toList.drop a.off).take (l'.length * k)) := by
  rw [hwin, hl']
  generalize d'.toList = ds
  induction ds with
  | nil => exact .nil
  | cons z ds ih =>
   simp only [List.map_cons, List.flatten_cons]
   exact (z.rel.keep (fun o x ho => by cases ho) (fun _ _ _ => rfl) (fun k hk => .inl hk)).append ih
 have hle0 : φ.le (upd φ o (some (gn, some (a, bs)))) := by rw [← hp, upd_self]; exact φ.le_refl
 have hol : ¬ n ≤ o := fun hle => by rw [hH.fresh o hle] at hp; cases hp
 obtain ⟨g1, g2, g3⟩ := hH.set (w' := X) (F' := fun o => n ≤ o) (o := o) (mt := true) (g := gn) (sz := k) (rs := l'.map en) (A := some (a, bs))
  (fun _ h => h) hol k5 hle0 (fun j hj hjl => k4 j (fun e => hj (e ▸ hMb)) hjl)
  (fun o' mt' g' sz' rs' a₁ b₁ hne ho' hp' => by
   have := hH.inj _ _ _ _ _ _ _ _ _ _ _ _ _ _ ho ho' (Ne.symm hne) (.inl rfl) hp hp'
   have hlt : a₁.block < w.heap.size := by
    obtain ⟨A1, hA1, hc1⟩ := hH.obj _ _ _ _ _ ho'
    rw [hp'] at hA1
    simp only [Option.some.injEq, Prod.mk.injEq, true_and] at hA1
    subst hA1
    rcases hc1 with ⟨hc1, _⟩ | ⟨a2, b2, e2, _, hb2⟩
    ·cases hc1
    ·simp only [Option.some.injEq, Prod.mk.injEq] at e2
     obtain ⟨rfl, rfl⟩ := e2
     exact hb2.blk
   refine ⟨k4 _ (Ne.symm this) hlt, fun a₂ b₂ e => ?_⟩
   simp only [Option.some.injEq, Prod.mk.injEq] at e
   obtain ⟨rfl, rfl⟩ := e
   exact this)
  (fun a₁ b₁ e => by
   simp only [Option.some.injEq, Prod.mk.injEq] at e
   obtain ⟨rfl, rfl⟩ := e
   exact .inl hMb)
  (.inr ⟨a, bs, C', T, rfl, hsp, h0, k1, by rw [k2]; exact hCs, fun r hr => by
    obtain ⟨x, _, rfl⟩ := List.mem_map.1 hr
    exact henl x, by rw [List.length_map, hl'l]; exact hle, fun c hm => by
    rw [List.length_map, hwin] at hm
    obtain ⟨r, hr, hm⟩ := List.mem_flatten.1 hm
    obtain ⟨z, _, rfl⟩ := List.mem_map.1 hr
    exact z.cells c hm, by rw [List.length_map]; exact hrel'⟩)
 refine ⟨_, _, .tup [], _, n, rfl, hK l' hpl hpw, g1, .tup (vs := []) .nil, ⟨hle0, g2, ⟨k6, k7, k8, k9, k5, fun j hj hu => k4 j (fun e => hu ⟨o, gn, k, _, gn, a, bs, ho, hp, e.symm⟩) hj⟩, fun j hj => ?_⟩⟩
 rcases g3 j hj with h | ⟨a₁, b₁, e, rfl⟩
 ·exact .inl h
 ·simp only [Option.some.injEq, Prod.mk.injEq] at e
  obtain ⟨rfl, rfl⟩ := e
  exact .inl ⟨o, gn, k, _, gn, a, bs, ho, hp, rfl⟩
end Go.Av
end
