/- Contracts: game.Valid is true at a right game; normal games. -/
import Derived.Test.YtpngjhfkaogdeaaFC
import Derived.Test.YtpngjhfkaogdeaaD2
import Derived.Test.YtpngjhfkaogdeaaD9
section
set_option linter.unusedSimpArgs false
set_option linter.unusedVariables false
open Go Go.Proofs
set_option maxRecDepth 20000
set_option maxHeartbeats 4000000
namespace Go.Av
/-- the names of the kinds are the reference's -/
def NamesOk (g : GameD) : Prop := g.kinds.map (·.name) = [nameA] ∨ g.kinds.map (·.name) = [nameA, nameB]
theorem NamesOk.name {g : GameD} (h : NamesOk g) : ∀ k ∈ g.kinds, k.name = nameA ∨ k.name = nameB := by
  intro k hk
  have hm : k.name ∈ g.kinds.map (·.name) := List.mem_map.2 ⟨k, hk, rfl⟩
  rcases h with h | h <;> rw [h] at hm <;> simp at hm
  · exact .inl hm
  · exact hm
theorem nameA_nameB : (nameA.toList == nameB.toList) = false := by decide +kernel
theorem NamesOk.find {g : GameD} (h : NamesOk g) {i : Nat} (hi : i < g.kinds.length) : idxG (fun k : KindD => k.name.toList == (nth g.kinds i).name.toList) g.kinds = i := by
  refine idxG_at hi (fun j hj => ?_) (by simp)
  have hn : ∀ j, j < g.kinds.length → (nth g.kinds j).name = nth (g.kinds.map (·.name)) j := fun j hj => (nth_map _ _ _ hj).symm
  have hl : (g.kinds.map (·.name)).length = g.kinds.length := by simp
  rw [hn i hi, hn j (by omega)]
  rcases h with h | h <;> rw [h] at hl ⊢ <;> simp at hl
  · omega
  · obtain rfl : j = 0 := by omega
    obtain rfl : i = 1 := by omega
    exact nameA_nameB
theorem encGame_box (g : GameD) : encGame g = encB g.board ++ [.lst 3 (g.kinds.map encKind), .v (.int .i64 g.rights), .v (.bool g.must), .lst 4 (g.clauses.map encClause), .v (.int .i64 g.blocked), .v (.int .i64 g.endless)] := rfl
theorem wrongP_false (g : GameD) (hg : GOk g) (p : List (Int × Int)) (hp : ProgOk g.next.length g.kinds.length g.rights p) : Pure Try.prog 61 [encProg p, .fp (encGame g)] (.v (.bool false)) := by
  refine Pure.of (ACallP.of_awp (by kernel_rfl) Try.func61 rfl rfl (Nat.le_of_ble_eq_true rfl) (by kernel_rfl) ?_)
  have hV := pValid_true p _ _ _ hp (by omega)
  (repeat (first | with_reducible (first | refine wL fun _ => ?_ | refine wD fun _ => ?_ | refine wE ?_ | refine adrZ.go ?_) | simp [go_sem]))
  refine ACallP.plain hV (by simp [go_sem]) ?_
  (repeat (first | with_reducible (first | refine wL fun _ => ?_ | refine wD fun _ => ?_ | refine wE ?_ | refine adrZ.go ?_) | simp [go_sem]))
theorem wrongC_false (g : GameD) (hg : GOk g) (c : Int × Int × Int × Int) (hc : ClauseOk g.cells g.kinds.length c) : Pure Try.prog 67 [.agg (encClause c), .fp (encGame g)] (.v (.bool false)) := by
  refine Pure.of (ACallP.of_awp (by kernel_rfl) Try.func67 rfl rfl (Nat.le_of_ble_eq_true rfl) (by kernel_rfl) ?_)
  have hk6 := hg.k6
  have hV := right_true g c (by omega) hc
  have hbl : ∀ n, (∀ c' ∈ encGame g, Bel n c') = True := fun n => by simp [go_sem]
  have hel : (encGame g).length = 9 := rfl
  have het : (encGame g).take 9 = encGame g := rfl
  generalize encGame g = eg at *
  (repeat (first | with_reducible (first | refine wL fun _ => ?_ | refine wD fun _ => ?_ | refine wE ?_ | refine adrZ.go ?_) | simp [go_sem, hel, het]))
  refine ACallP.plain hV (by simp [go_sem, hbl]) ?_
  (repeat (first | with_reducible (first | refine wL fun _ => ?_ | refine wD fun _ => ?_ | refine wE ?_ | refine adrZ.go ?_) | simp [go_sem]))
theorem gValid_true (g : GameD) (hg : GOk g) (hn : NamesOk g) : Pure Try.prog 39 [.agg (encGame g)] (.v (.bool true)) := by
  refine Pure.of (ACallP.of_awp (by kernel_rfl) Try.func39 rfl rfl (Nat.le_of_ble_eq_true rfl) (by kernel_rfl) ?_)
  have hB := bValid_true g.board hg.board hg.c1 (by have := hg.c9; have : g.board.cells = g.cells := rfl; omega) hg.d1 hg.d8 hg.turn
  have hW := fun p hp => wrongP_false g hg p hp
  have hWC := fun c hc => wrongC_false g hg c hc
  have hRb := isResult_pure g.blocked
  rw [show (decide (1 ≤ g.blocked) && decide (g.blocked ≤ 3)) = true by simp [hg.bl]] at hRb
  have hRe := isResult_pure g.endless
  rw [show (decide (1 ≤ g.endless) && decide (g.endless ≤ 3)) = true by simp [hg.en]] at hRe
  have k1 := hg.k1
  have k6 := hg.k6
  have r0 := hg.r0
  have r4 := hg.r4
  have cn := hg.cn
  have hF := fun (nm : ByteArray) => gFind_pure g nm (by omega)
  have hbl : ∀ n, (∀ c' ∈ encGame g, Bel n c') = True := fun n => by simp [go_sem]
  have heB : encB g.board = [.v (.int .i64 g.cells), encIss g.next, encIs g.turn] := rfl
  have heG : encGame g = [.v (.int .i64 g.cells), encIss g.next, encIs g.turn, .lst 3 (g.kinds.map encKind), .v (.int .i64 g.rights), .v (.bool g.must), .lst 4 (g.clauses.map encClause), .v (.int .i64 g.blocked), .v (.int .i64 g.endless)] := rfl
  have d1 : ¬ (g.kinds.length : Int) < 1 := by omega
  have d2 : ¬ 6 < (g.kinds.length : Int) := by omega
  have d3 : ¬ g.rights < 0 := by omega
  have d4 : ¬ 4 < g.rights := by omega
  have d5 : ¬ 6 < (g.clauses.length : Int) := by omega
  rw [heB] at hB
  (repeat (first | with_reducible (first | refine wL fun _ => ?_ | refine wD fun _ => ?_ | refine wE ?_ | refine adrZ.go ?_) | simp [go_sem]))
  refine ACallP.plain hB (by simp [go_sem]) ?_
  (repeat (first | with_reducible (first | refine wL fun _ => ?_ | refine wD fun _ => ?_ | refine wE ?_ | refine adrZ.go ?_) | simp [go_sem, d1, d2, d3, d4, d5]))
  refine aGC.plain _ (fun _ => hRb) (by simp [go_sem]) ?_
  (repeat (first | with_reducible (first | refine wL fun _ => ?_ | refine wD fun _ => ?_ | refine wE ?_ | refine adrZ.go ?_) | simp [go_sem]))
  refine aGC.plain _ (fun _ => hRe) (by simp [go_sem]) ?_
  (repeat (first | with_reducible (first | refine wL fun _ => ?_ | refine wD fun _ => ?_ | refine wE ?_ | refine adrZ.go ?_) | simp [go_sem]))
  refine ALoop.start (ALoop.ind (α := Nat) (fun i => ⟨[(1, .ref 0 0 9 0 0), (51, .lst 3 (g.kinds.map encKind)), (52, .int g.kinds.length), (53, .v (.int .i64 i))], [(0, .rows true 0 9 [encGame g])], 1⟩)
    (fun d i => i + d = g.kinds.length) ?_ g.kinds.length 0 ?_) ?_ ?_
  · rintro d i i1 hrec
    (repeat (first | with_reducible (first | refine wL fun _ => ?_ | refine wD fun _ => ?_ | refine wE ?_ | refine adrZ.go ?_) | simp [go_sem]))
    refine aIf.mkL (fun hi => ?_) (fun hi => ?_) <;> simp at hi
    · have hm := nth_mem hi
      have hVN := validName_pure _ (hn.name _ hm)
      have hFi := hF (nth g.kinds i).name
      rw [hn.find hi] at hFi
      have hpn := hg.pn _ hm
      have d6 : ¬ 8 < ((nth g.kinds i).progs.length : Int) := by omega
      have hCP := ContainsFuncP_pure (nth g.kinds i).progs (by omega) 61 [.fp (encGame g)] (fun _ => false) (fun p hp => hW p (hg.pr _ hm p hp)) (by simp [go_sem])
      rw [show ((nth g.kinds i).progs.any fun _ => false) = false by simp] at hCP
      rw [heG] at hFi
      (repeat (first | with_reducible (first | refine wL fun _ => ?_ | refine wD fun _ => ?_ | refine wE ?_ | refine adrZ.go ?_) | simp [go_sem, hi]))
      refine ACallP.plain hVN (by simp [go_sem]) ?_
      (repeat (first | with_reducible (first | refine wL fun _ => ?_ | refine wD fun _ => ?_ | refine wE ?_ | refine adrZ.go ?_) | simp [go_sem]))
      refine aGC.plain _ (fun _ => hFi) (by simp [go_sem]) ?_
      (repeat (first | with_reducible (first | refine wL fun _ => ?_ | refine wD fun _ => ?_ | refine wE ?_ | refine adrZ.go ?_) | simp [go_sem, d6]))
      refine aGC.flat [.lst 1 ((nth g.kinds i).progs.map fun p => [encProg p]), .fn (.func 61) [] [.fp (encGame g)]] (.v (.bool false)) (fun _ => hCP) (.v _) ?_ (by simp [go_sem]) ?_
      · refine .cons (.refl _) (.cons (.fn .nil (.cons (.frzP rfl ?_ ?_ ?_ ?_) .nil)) .nil) <;> first | exact LeRow.refl _ _ _ _ | simp [noH]
      (repeat (first | with_reducible (first | refine wL fun _ => ?_ | refine wD fun _ => ?_ | refine wE ?_ | refine adrZ.go ?_) | simp [go_sem]))
      refine ALoop.start (hrec (d - 1) (by omega) (i + 1) (by omega)) ?_ (by simp)
      simp [go_sem, Wk_eq]
    · have hCC := ContainsFuncC_pure g.clauses (by omega) 67 [.fp (encGame g)] (fun _ => false) (fun c hc => hWC c (hg.cl c hc)) (by simp [go_sem])
      rw [show (g.clauses.any fun _ => false) = false by simp] at hCC
      (repeat (first | with_reducible (first | refine wL fun _ => ?_ | refine wD fun _ => ?_ | refine wE ?_ | refine adrZ.go ?_) | simp [go_sem]))
      refine ACallP.flat (args' := [.lst 4 (g.clauses.map encClause), .fn (.func 67) [] [.fp (encGame g)]]) hCC (.v _) ?_ (by simp [go_sem]) ?_
      · refine .cons (.refl _) (.cons (.fn .nil (.cons (.frzP rfl ?_ ?_ ?_ ?_) .nil)) .nil) <;> first | exact LeRow.refl _ _ _ _ | simp [noH]
      (repeat (first | with_reducible (first | refine wL fun _ => ?_ | refine wD fun _ => ?_ | refine wE ?_ | refine adrZ.go ?_) | simp [go_sem]))
  · simp
  · simp [go_sem, Wk_eq]
  · simp
/-- the game is normal -/
def normalB (g : GameD) : Bool := decide (g.clauses.length = 0) && decide (g.rights = 0) && !g.must && !(g.kinds.any fun k => k.keep) && decide (g.blocked = 3) && decide (g.endless = 2)
theorem keeps_pure (k : KindD) : Pure Try.prog 38 [.agg (encKind k)] (.v (.bool k.keep)) := by
  refine Pure.of (ACallP.of_awp (by kernel_rfl) Try.func38 rfl rfl (Nat.le_of_ble_eq_true rfl) (by kernel_rfl) ?_)
  (repeat (first | with_reducible (first | refine wL fun _ => ?_ | refine wD fun _ => ?_ | refine wE ?_ | refine adrZ.go ?_) | simp [go_sem]))
theorem rNormal_pure (g : GameD) (hg : GOk g) (hn : NamesOk g) : Pure Try.prog 22 [.agg (encGame g)] (.v (.bool (normalB g))) := by
  refine Pure.of (ACallP.of_awp (by kernel_rfl) Try.func22 rfl rfl (Nat.le_of_ble_eq_true rfl) (by kernel_rfl) ?_)
  have hV := gValid_true g hg hn
  have k6 := hg.k6
  have hK := ContainsFuncK_pure g.kinds (by omega) 38 [] (fun k => k.keep) (fun k _ => keeps_pure k) (by simp)
  have heG : encGame g = [.v (.int .i64 g.cells), encIss g.next, encIs g.turn, .lst 3 (g.kinds.map encKind), .v (.int .i64 g.rights), .v (.bool g.must), .lst 4 (g.clauses.map encClause), .v (.int .i64 g.blocked), .v (.int .i64 g.endless)] := rfl
  rw [heG] at hV
  unfold normalB
  (repeat (first | with_reducible (first | refine wL fun _ => ?_ | refine wD fun _ => ?_ | refine wE ?_ | refine adrZ.go ?_) | simp [go_sem]))
  refine ACallP.plain hV (by simp [go_sem]) ?_
  (repeat (first | with_reducible (first | refine wL fun _ => ?_ | refine wD fun _ => ?_ | refine wE ?_ | refine adrZ.go ?_) | simp [go_sem]))
  refine aGC.plain _ (fun _ => hK) (by simp [go_sem]) ?_
  (repeat (first | with_reducible (first | refine wL fun _ => ?_ | refine wD fun _ => ?_ | refine wE ?_ | refine adrZ.go ?_) | simp [go_sem]))
end Go.Av
end
section
set_option linter.unusedSimpArgs false
set_option linter.unusedVariables false
open Go Go.Proofs
set_option maxRecDepth 20000
set_option maxHeartbeats 4000000
namespace Go.Av
theorem R4Same_pure (a b : PosD) (ha : FitsP a) (hb : FitsP b) : Pure Try.prog 13 [.agg (encPos a), .agg (encPos b)] (.v (.bool (decide (cmpP a b = 0)))) := by
  refine Pure.of (ACallP.of_awp (by kernel_rfl) Try.func13 rfl rfl (Nat.le_of_ble_eq_true rfl) (by kernel_rfl) ?_)
  (repeat (first | with_reducible (first | refine wL fun _ => ?_ | refine wD fun _ => ?_ | refine wE ?_ | refine adrZ.go ?_) | simp [go_sem]))
  refine ACallP.plain (Compare_pure a b ha hb) (by simp [go_sem]) ?_
  (repeat (first | with_reducible (first | refine wL fun _ => ?_ | refine wD fun _ => ?_ | refine wE ?_ | refine adrZ.go ?_) | simp [go_sem]))
attribute [go_sem ↓] bel_P bel_I List.forall_mem_append
theorem bel1 {x : AV} (h : Bel 0 x) : ∀ c ∈ [x], Bel 0 c := by simpa using h
theorem bel_encPs {n : Nat} (l : List PosD) : Bel n (encPs l) := of_eq_true bel_Ps
end Go.Av
end
section
set_option linter.unusedSimpArgs false
set_option linter.unusedVariables false
open Go Go.Proofs
set_option maxRecDepth 20000
set_option maxHeartbeats 4000000
namespace Go.Av
theorem drop_consG {α : Type} [Inhabited α] {l : List α} {j : Nat} (h : j < l.length) : l.drop j = nth l j :: l.drop (j + 1) := by rw [List.drop_eq_getElem_cons h, nth_eq _ _ h]
theorem Ints1_pure (a b : List Int) (ha : Fits a) (hb : Fits b) : Pure Try.prog 21 [encIs a, encIs b] (.v (.bool (decide (a = b)))) := by
  refine Pure.of (ACallP.of_awp (by kernel_rfl) Try.func21 rfl rfl (Nat.le_of_ble_eq_true rfl) (by kernel_rfl) ?_)
  unfold Fits at ha hb
  (repeat (first | with_reducible (first | refine wL fun _ => ?_ | refine wD fun _ => ?_ | refine wE ?_ | refine adrZ.go ?_) | simp [go_sem]))
  refine aIf.mkL (fun hl => ?_) (fun hl => ?_) <;> simp at hl
  · have e : decide (a = b) = false := by simp; rintro rfl; exact hl rfl
    (repeat (first | with_reducible (first | refine wL fun _ => ?_ | refine wD fun _ => ?_ | refine wE ?_ | refine adrZ.go ?_) | simp [go_sem, e]))
  · (repeat (first | with_reducible (first | refine wL fun _ => ?_ | refine wD fun _ => ?_ | refine wE ?_ | refine adrZ.go ?_) | simp [go_sem]))
    refine ALoop.start (ALoop.ind (α := Nat) (fun j => ⟨[(0, encIs a), (1, encIs b), (5, .v (.int .i64 j))], [], 0⟩)
      (fun d j => j + d = a.length ∧ ((a = b) ↔ (a.drop j = b.drop j))) ?_ a.length 0 ?_) ?_ ?_
    · rintro d j ⟨i1, i3⟩ hrec
      (repeat (first | with_reducible (first | refine wL fun _ => ?_ | refine wD fun _ => ?_ | refine wE ?_ | refine adrZ.go ?_) | simp [go_sem]))
      refine aIf.mkL (fun hj => ?_) (fun hj => ?_) <;> simp at hj
      · have hj2 : j < b.length := by omega
        rw [drop_consG hj, drop_consG hj2, List.cons.injEq] at i3
        (repeat (first | with_reducible (first | refine wL fun _ => ?_ | refine wD fun _ => ?_ | refine wE ?_ | refine adrZ.go ?_) | simp [go_sem, hj, hj2]))
        refine aIf.mkL (fun he => ?_) (fun he => ?_) <;> simp at he
        · have e : decide (a = b) = false := by simp; intro h; exact he (i3.1 h).1
          (repeat (first | with_reducible (first | refine wL fun _ => ?_ | refine wD fun _ => ?_ | refine wE ?_ | refine adrZ.go ?_) | simp [go_sem, e]))
        · (repeat (first | with_reducible (first | refine wL fun _ => ?_ | refine wD fun _ => ?_ | refine wE ?_ | refine adrZ.go ?_) | simp [go_sem]))
          refine ALoop.start (hrec (d - 1) (by omega) (j + 1) ⟨by omega, i3.trans ⟨fun h => h.2, fun h => ⟨he, h⟩⟩⟩) ?_ (by simp)
          simp [go_sem, Wk_eq]
      · rw [List.drop_eq_nil_of_le hj, List.drop_eq_nil_of_le (by omega)] at i3
        have e : decide (a = b) = true := by simpa using i3.2 rfl
        (repeat (first | with_reducible (first | refine wL fun _ => ?_ | refine wD fun _ => ?_ | refine wE ?_ | refine adrZ.go ?_) | simp [go_sem, e]))
    · simp
    · simp [go_sem, Wk_eq]
    · simp
theorem Lists_pure (a b : List PosD) (ha : a.length ≤ 1099511627776) (hb : b.length ≤ 1099511627776) (hfa : ∀ p ∈ a, FitsP p) (hfb : ∀ p ∈ b, FitsP p) :
    Pure Try.prog 15 [encPs a, encPs b] (.v (.bool (decide (a = b)))) := by
  refine Pure.of (ACallP.of_awp (by kernel_rfl) Try.func15 rfl rfl (Nat.le_of_ble_eq_true rfl) (by kernel_rfl) ?_)
  (repeat (first | with_reducible (first | refine wL fun _ => ?_ | refine wD fun _ => ?_ | refine wE ?_ | refine adrZ.go ?_) | simp [go_sem]))
  refine aIf.mkL (fun hl => ?_) (fun hl => ?_) <;> simp at hl
  · have e : decide (a = b) = false := by simp; rintro rfl; exact hl rfl
    (repeat (first | with_reducible (first | refine wL fun _ => ?_ | refine wD fun _ => ?_ | refine wE ?_ | refine adrZ.go ?_) | simp [go_sem, e]))
  · (repeat (first | with_reducible (first | refine wL fun _ => ?_ | refine wD fun _ => ?_ | refine wE ?_ | refine adrZ.go ?_) | simp [go_sem]))
    refine ALoop.start (ALoop.ind (α := Nat) (fun j => ⟨[(0, encPs a), (1, encPs b), (5, .v (.int .i64 j))], [], 0⟩)
      (fun d j => j + d = a.length ∧ ((a = b) ↔ (a.drop j = b.drop j))) ?_ a.length 0 ?_) ?_ ?_
    · rintro d j ⟨i1, i3⟩ hrec
      (repeat (first | with_reducible (first | refine wL fun _ => ?_ | refine wD fun _ => ?_ | refine wE ?_ | refine adrZ.go ?_) | simp [go_sem]))
      refine aIf.mkL (fun hj => ?_) (fun hj => ?_) <;> simp at hj
      · have hj2 : j < b.length := by omega
        have hC := R4Same_pure _ _ (hfa _ (nth_mem hj)) (hfb _ (nth_mem hj2))
        rw [drop_consG hj, drop_consG hj2, List.cons.injEq] at i3
        (repeat (first | with_reducible (first | refine wL fun _ => ?_ | refine wD fun _ => ?_ | refine wE ?_ | refine adrZ.go ?_) | simp [go_sem, hj, hj2]))
        try ((with_reducible refine adrZ.go ?_); (try simp [go_sem]))
        refine dCall.plain hC (by simp [go_sem]) ?_
        (repeat (first | with_reducible (first | refine wL fun _ => ?_ | refine wD fun _ => ?_ | refine wE ?_ | refine adrZ.go ?_) | simp [go_sem]))
        refine aIf.mkL (fun he => ?_) (fun he => ?_) <;> simp at he
        · have e : decide (a = b) = false := by simp; intro h; exact he (cmpP_eq.2 (i3.1 h).1)
          (repeat (first | with_reducible (first | refine wL fun _ => ?_ | refine wD fun _ => ?_ | refine wE ?_ | refine adrZ.go ?_) | simp [go_sem, e]))
        · (repeat (first | with_reducible (first | refine wL fun _ => ?_ | refine wD fun _ => ?_ | refine wE ?_ | refine adrZ.go ?_) | simp [go_sem]))
          refine ALoop.start (hrec (d - 1) (by omega) (j + 1) ⟨by omega, i3.trans ⟨fun h => h.2, fun h => ⟨cmpP_eq.1 he, h⟩⟩⟩) ?_ (by simp)
          simp [go_sem, Wk_eq]
      · rw [List.drop_eq_nil_of_le hj, List.drop_eq_nil_of_le (by omega)] at i3
        have e : decide (a = b) = true := by simpa using i3.2 rfl
        (repeat (first | with_reducible (first | refine wL fun _ => ?_ | refine wD fun _ => ?_ | refine wE ?_ | refine adrZ.go ?_) | simp [go_sem, e]))
    · simp
    · simp [go_sem, Wk_eq]
    · simp
end Go.Av
end
section
set_option linter.unusedSimpArgs false
set_option linter.unusedVariables false
open Go Go.Proofs
namespace Go.Av
@[go_sem ↓] theorem bel_setI {n k : Nat} {l : List Int} {v : Value} : (∀ r ∈ (l.map encI).set k [.v v], ∀ c ∈ r, Bel n c) = True := by
  refine eq_true fun r hr c hc => ?_
  rcases List.mem_or_eq_of_mem_set hr with hr | rfl
  · exact of_eq_true bel_I r hr c hc
  · simp only [List.mem_cons, List.not_mem_nil, or_false] at hc; subst hc; exact .v _
structure RawP where
  cell : List Int
  kind : List Int
  hand : List Int
  rights : Int
  side : Int
structure RawPOk (x : RawP) : Prop where
  c6 : x.cell.length = 6
  k6 : x.kind.length = 6
  h4 : x.hand.length = 4
  cv : ∀ n ∈ x.cell, U8 n
  kv : ∀ n ∈ x.kind, U8 n
  hv : ∀ n ∈ x.hand, U8 n
  r : U8 x.rights
  s : U8 x.side
def encRawP (x : RawP) : List AV := x.cell.map (fun n => .v (.int .u8 n)) ++ (x.kind.map (fun n => .v (.int .u8 n)) ++ (x.hand.map (fun n => .v (.int .u8 n)) ++ [.v (.int .u8 x.rights), .v (.int .u8 x.side)]))
theorem cel_u8 (l : List Int) (r : List AV) (i : Nat) (h : i < l.length) : cel (l.map (fun n => AV.v (.int .u8 n)) ++ r) i = .v (.int .u8 (nth l i)) := by
  unfold cel nth
  rw [List.getD_eq_getElem?_getD, List.getD_eq_getElem?_getD, List.getElem?_append_left (by simpa using h), List.getElem?_map, List.getElem?_eq_getElem h]
  rfl
theorem cel_u8s (l : List Int) (r : List AV) (i : Nat) : cel (l.map (fun n => AV.v (.int .u8 n)) ++ r) (l.length + i) = cel r i := by
  unfold cel
  rw [List.getD_eq_getElem?_getD, List.getD_eq_getElem?_getD, List.getElem?_append_right (by simp)]
  simp
structure RawRow (x : RawP) (er : List AV) : Prop where
  len : er.length = 18
  c : ∀ i, i < 6 → cel er i = .v (.int .u8 (nth x.cell i))
  k : ∀ i, i < 6 → cel er (6 + i) = .v (.int .u8 (nth x.kind i))
  h : ∀ i, i < 4 → cel er (12 + i) = .v (.int .u8 (nth x.hand i))
  r : cel er 16 = .v (.int .u8 x.rights)
  s : cel er 17 = .v (.int .u8 x.side)
  b : ∀ n, (∀ c ∈ er, Bel n c) = True
theorem rawRow {x : RawP} (hx : RawPOk x) : RawRow x (encRawP x) := by
  obtain ⟨a, b, c, _, _, _, _, _⟩ := hx
  have e1 : ∀ i, cel (encRawP x) (6 + i) = cel (x.kind.map (fun n => AV.v (.int .u8 n)) ++ (x.hand.map (fun n => AV.v (.int .u8 n)) ++ [.v (.int .u8 x.rights), .v (.int .u8 x.side)])) i := fun i => by
    have := cel_u8s x.cell (x.kind.map (fun n => .v (.int .u8 n)) ++ (x.hand.map (fun n => .v (.int .u8 n)) ++ [.v (.int .u8 x.rights), .v (.int .u8 x.side)])) i
    rw [a] at this; exact this
  have e2 : ∀ i, cel (encRawP x) (12 + i) = cel (x.hand.map (fun n => AV.v (.int .u8 n)) ++ [.v (.int .u8 x.rights), .v (.int .u8 x.side)]) i := fun i => by
    have := cel_u8s x.kind (x.hand.map (fun n => .v (.int .u8 n)) ++ [.v (.int .u8 x.rights), .v (.int .u8 x.side)]) i
    rw [b] at this
    rw [show 12 + i = 6 + (6 + i) by omega, e1, this]
  have e3 : ∀ i, cel (encRawP x) (16 + i) = cel [AV.v (.int .u8 x.rights), .v (.int .u8 x.side)] i := fun i => by
    have := cel_u8s x.hand [.v (.int .u8 x.rights), .v (.int .u8 x.side)] i
    rw [c] at this
    rw [show 16 + i = 12 + (4 + i) by omega, e2, this]
  refine ⟨by simp [encRawP, a, b, c], fun i hi => cel_u8 x.cell _ i (by omega), fun i hi => ?_, fun i hi => ?_, e3 0, e3 1, fun n => eq_true ?_⟩
  · rw [e1]; exact cel_u8 x.kind _ i (by omega)
  · rw [e2]; exact cel_u8 x.hand _ i (by omega)
  · intro c hc
    simp only [encRawP, List.mem_append, List.mem_map, List.mem_cons, List.not_mem_nil, or_false] at hc
    rcases hc with ⟨_, _, rfl⟩ | ⟨_, _, rfl⟩ | ⟨_, _, rfl⟩ | rfl | rfl <;> exact .v _
def atStep (g : GameD) (x : RawP) (l : List Int) (i : Nat) : List Int :=
  if (nth x.cell i).tmod (g.cells + 1) < g.cells then l.set ((nth x.cell i).tmod (g.cells + 1)).toNat (1 + 2 * (nth x.kind i).tmod g.kinds.length + (i : Int).tmod 2) else l
def madeAt (g : GameD) (x : RawP) (n : Nat) : List Int := (List.range n).foldl (atStep g x) (List.replicate g.cells.toNat 0)
theorem madeAt_succ (g : GameD) (x : RawP) (n : Nat) : madeAt g x (n + 1) = atStep g x (madeAt g x n) n := by simp [madeAt, List.range_succ]
theorem atStep_len (g : GameD) (x : RawP) (l : List Int) (i : Nat) : (atStep g x l i).length = l.length := by unfold atStep; split <;> simp
theorem madeAt_len (g : GameD) (x : RawP) (n : Nat) : (madeAt g x n).length = g.cells.toNat := by
  induction n with
  | zero => simp [madeAt]
  | succ n ih => rw [madeAt_succ, atStep_len, ih]
def handV (g : GameD) (x : RawP) (s k : Nat) : Int :=
  if (nth g.kinds k).keep = true then (if 250 < nth x.hand (2 * s + k) then 8 else (nth x.hand (2 * s + k)).tmod 3) else 0
def handL (g : GameD) (x : RawP) (s n : Nat) : List Int := (List.range g.kinds.length).map fun j => if j < n then handV g x s j else 0
theorem handL_len (g : GameD) (x : RawP) (s n : Nat) : (handL g x s n).length = g.kinds.length := by simp [handL]
theorem handL_zero (g : GameD) (x : RawP) (s : Nat) : handL g x s 0 = List.replicate g.kinds.length 0 := by
  unfold handL
  apply List.ext_getElem <;> simp
theorem handL_succ (g : GameD) (x : RawP) (s n : Nat) : handL g x s (n + 1) = (handL g x s n).set n (handV g x s n) := by
  apply List.ext_getElem
  · simp [handL]
  · intro i h1 h2
    simp only [handL, List.getElem_map, List.getElem_range, List.getElem_set]
    by_cases h : n = i
    · subst h; simp
    · rw [if_neg h]
      by_cases h' : i < n
      · rw [if_pos h', if_pos (by omega)]
      · rw [if_neg h', if_neg (by omega)]
theorem handL_skip (g : GameD) (x : RawP) (s n : Nat) (h : handV g x s n = 0) : handL g x s (n + 1) = handL g x s n := by
  unfold handL
  apply List.map_congr_left
  intro j _
  by_cases h' : j < n
  · rw [if_pos h', if_pos (by omega)]
  · rw [if_neg h']
    split
    · obtain rfl : j = n := by omega
      exact h
    · rfl
def madePos (g : GameD) (x : RawP) : PosD := ⟨madeAt g x 6, handL g x 0 (min g.kinds.length 2), handL g x 1 (min g.kinds.length 2), x.rights.tmod (2 ^ g.rights.toNat), x.side.tmod 2⟩
end Go.Av
end
section
set_option linter.unusedSimpArgs false
set_option linter.unusedVariables false
open Go Go.Proofs
namespace Go.Av
theorem nth_z {α : Type} [Inhabited α] (x : α) (l : List α) : nth (x :: l) 0 = x := rfl
theorem nth_s {α : Type} [Inhabited α] (x : α) (l : List α) (i : Nat) : nth (x :: l) (i + 1) = nth l i := rfl
theorem nth_setE {α : Type} [Inhabited α] (l : List α) (i j : Nat) (v : α) : nth (l.set i v) j = if i = j ∧ j < l.length then v else nth l j := by
  unfold nth
  rw [List.getD_eq_getElem?_getD, List.getD_eq_getElem?_getD, List.getElem?_set]
  by_cases h : i = j
  · subst h
    by_cases h2 : i < l.length
    · simp [h2]
    · simp [h2, List.getElem?_eq_none (Nat.not_lt.1 h2)]
  · simp [h]
structure HandOk (g : GameD) (l : List Int) : Prop where
  len : l.length = g.kinds.length
  v : ∀ i, i < l.length → 0 ≤ nth l i ∧ nth l i ≤ 8 ∧ (0 < nth l i → (nth g.kinds i).keep = true)
theorem handGo_iff : ∀ (l : List Int) (ks : List KindD), l.length = ks.length → (handGo l ks = true ↔ ∀ i, i < l.length → 0 ≤ nth l i ∧ nth l i ≤ 8 ∧ (0 < nth l i → (nth ks i).keep = true))
  | [], [], _ => by simp [handGo]
  | x :: l, k :: ks, h => by
    have ih := handGo_iff l ks (by simpa using h)
    rw [handGo]
    simp only [Bool.and_eq_true, decide_eq_true_eq, Bool.or_eq_true, Bool.not_eq_true']
    rw [ih]
    constructor
    · rintro ⟨⟨⟨h1, h2⟩, h3⟩, h4⟩ i hi
      cases i with
      | zero =>
        refine ⟨h1, h2, fun h => ?_⟩
        rcases h3 with h3 | h3
        · rw [nth_z] at h; simp at h3; omega
        · exact h3
      | succ i => exact h4 i (by simpa using hi)
    · intro h
      have h0 := h 0 (by simp)
      refine ⟨⟨⟨h0.1, h0.2.1⟩, ?_⟩, fun i hi => h (i + 1) (by simpa using hi)⟩
      by_cases hx : 0 < x
      · exact .inr (h0.2.2 hx)
      · exact .inl (by simpa using hx)
theorem handOk_iff {g : GameD} {l : List Int} : handOk g l = true ↔ HandOk g l := by
  unfold handOk
  rw [Bool.and_eq_true, decide_eq_true_eq]
  exact ⟨fun ⟨a, b⟩ => ⟨a, (handGo_iff _ _ a).1 b⟩, fun ⟨a, b⟩ => ⟨a, (handGo_iff _ _ a).2 b⟩⟩
structure POk (g : GameD) (p : PosD) : Prop where
  al : (p.at_.length : Int) = g.cells
  av : ∀ c ∈ p.at_, 0 ≤ c ∧ c ≤ 2 * g.kinds.length
  h0 : HandOk g p.h0
  h1 : HandOk g p.h1
  r0 : 0 ≤ p.rights
  r1 : p.rights < 2 ^ g.rights.toNat
  s : p.side = 0 ∨ p.side = 1
theorem pOk_iff {g : GameD} {p : PosD} : posOk g p = true ↔ POk g p := by
  rw [posOk_iff, handOk_iff, handOk_iff]
  exact ⟨fun ⟨a, b, c, d, e, f, g⟩ => ⟨a, b, c, d, e, f, g⟩, fun ⟨a, b, c, d, e, f, g⟩ => ⟨a, b, c, d, e, f, g⟩⟩
theorem POk.fits {g : GameD} (hg : GOk g) {p : PosD} (h : POk g p) : FitsP p := by
  have := hg.c9
  have := hg.k6
  have a := h.al
  have b := h.h0.len
  have c := h.h1.len
  unfold FitsP Fits
  omega
structure StOk (g : GameD) (s : StD) : Prop where
  p : POk g s.p
  c0 : 0 ≤ s.cursor
  c1 : s.cursor < g.cells
  k : 0 ≤ s.kind ∧ s.kind < g.kinds.length
/-! ### contents -/
theorem manOf_cases {c : Int} {K : Nat} (h0 : 0 ≤ c) (h1 : c ≤ 2 * K) (hK : K ≤ 6) :
    (c = 0 ∧ manOf c = (-1, -1)) ∨ (c ≠ 0 ∧ 0 ≤ (manOf c).1 ∧ (manOf c).1 < K ∧ ((manOf c).2 = 0 ∨ (manOf c).2 = 1) ∧ c = 1 + 2 * (manOf c).1 + (manOf c).2) := by
  unfold manOf
  by_cases hc : c = 0
  · left; rw [if_neg (by omega)]; exact ⟨hc, rfl⟩
  · right
    rw [if_pos (by omega)]
    have e1 : (c - 1).tdiv 2 = (c - 1) / 2 := Int.tdiv_eq_ediv_of_nonneg (by omega)
    have e2 : (c - 1).tmod 2 = (c - 1) % 2 := Int.tmod_eq_emod_of_nonneg (by omega)
    simp only [e1, e2]
    omega
theorem codeOf_ok {k s : Int} {K : Nat} (hk : 0 ≤ k ∧ k < K) (hK : K ≤ 6) (hs : s = 0 ∨ s = 1) : codeOf k s = 1 + 2 * k + s := by
  unfold codeOf
  rw [if_pos (by omega)]; omega
theorem andNot_small : ∀ (r : Fin 16) (m : Fin 4), 0 ≤ andNotN .i64 (r.val : Int) (2 ^ m.val) ∧ andNotN .i64 (r.val : Int) (2 ^ m.val) ≤ (r.val : Int) := by decide
theorem andNot_le {r : Int} {m : Nat} (h0 : 0 ≤ r) (h1 : r < 16) (hm : m < 4) : 0 ≤ andNotN .i64 r (2 ^ m) ∧ andNotN .i64 r (2 ^ m) ≤ r := by
  have := andNot_small ⟨r.toNat, by omega⟩ ⟨m, hm⟩
  simp only [Int.toNat_of_nonneg h0] at this
  exact this
theorem pow_le16 {r : Int} (h0 : 0 ≤ r) (h4 : r ≤ 4) : (1 : Int) ≤ 2 ^ r.toNat ∧ (2 : Int) ^ r.toNat ≤ 16 := by
  rcases (show r.toNat = 0 ∨ r.toNat = 1 ∨ r.toNat = 2 ∨ r.toNat = 3 ∨ r.toNat = 4 by omega) with h | h | h | h | h <;> rw [h] <;> decide
/-! ### lines -/
theorem lineGo_mem {b : BoardD} (hb : BoardOk b) {side d c : Int} : ∀ (f : Nat) (x : Int) (seen : List Int), x < b.cells → (∀ y ∈ seen, 0 ≤ y ∧ y < b.cells) → ∀ y ∈ lineGo b side d c f x seen, 0 ≤ y ∧ y < b.cells
  | 0, x, seen, _, h, y, hy => h y hy
  | f + 1, x, seen, hx, h, y, hy => by
    rw [lineGo] at hy
    split at hy
    · rename_i hc
      refine lineGo_mem hb f _ _ (toB_lt hb _ _ _) (fun z hz => ?_) y hy
      rcases List.mem_append.1 hz with hz | hz
      · exact h z hz
      · simp at hz; omega
    · exact h y hy
theorem lineB_mem {b : BoardD} (hb : BoardOk b) {side d c : Int} : ∀ y ∈ lineB b side d c, 0 ≤ y ∧ y < b.cells :=
  lineGo_mem hb _ _ _ (toB_lt hb _ _ _) (by simp)
theorem lineGo_len {b : BoardD} {side d c : Int} : ∀ (f : Nat) (x : Int) (seen : List Int), (lineGo b side d c f x seen).length ≤ seen.length + f
  | 0, x, seen => by simp [lineGo]
  | f + 1, x, seen => by
    rw [lineGo]
    split
    · have := lineGo_len (b := b) (side := side) (d := d) (c := c) f (toB b side d x) (seen ++ [x])
      simp at this; omega
    · omega
theorem lineB_len {b : BoardD} {side d c : Int} : (lineB b side d c).length ≤ b.cells.toNat + 1 := by
  have := lineGo_len (b := b) (side := side) (d := d) (c := c) (b.cells.toNat + 1) (toB b side d c) []
  simpa [lineB] using this
/-! ### positions -/
theorem POk.setAt {g : GameD} {p : PosD} (h : POk g p) (i : Nat) {v : Int} (hv : 0 ≤ v ∧ v ≤ 2 * g.kinds.length) : POk g { p with at_ := p.at_.set i v } :=
  ⟨by simpa using h.al, fun c hc => by rcases List.mem_or_eq_of_mem_set hc with hc | rfl; exact h.av c hc; exact hv, h.h0, h.h1, h.r0, h.r1, h.s⟩
theorem POk.hand {g : GameD} {p : PosD} (h : POk g p) (side : Int) : HandOk g (p.hand side) := by unfold PosD.hand; split; exact h.h0; exact h.h1
theorem POk.withHand {g : GameD} {p : PosD} (h : POk g p) (side : Int) {l : List Int} (hl : HandOk g l) : POk g (p.withHand side l) := by
  unfold PosD.withHand
  split
  · exact ⟨h.al, h.av, hl, h.h1, h.r0, h.r1, h.s⟩
  · exact ⟨h.al, h.av, h.h0, hl, h.r0, h.r1, h.s⟩
theorem HandOk.set {g : GameD} {l : List Int} (h : HandOk g l) (i : Nat) {v : Int} (hv : 0 ≤ v ∧ v ≤ 8) (hk : 0 < v → (nth g.kinds i).keep = true) : HandOk g (l.set i v) := by
  refine ⟨by simpa using h.len, fun j hj => ?_⟩
  have hj' : j < l.length := by simpa using hj
  rw [nth_setE]
  split
  · rename_i e
    obtain ⟨rfl, _⟩ := e
    exact ⟨hv.1, hv.2, hk⟩
  · exact h.v j hj'
theorem POk.at {g : GameD} {p : PosD} (h : POk g p) {i : Nat} (hi : (i : Int) < g.cells) : 0 ≤ nth p.at_ i ∧ nth p.at_ i ≤ 2 * g.kinds.length :=
  h.av _ (nth_mem (by have := h.al; omega))
theorem POk.side {g : GameD} {p : PosD} (h : POk g p) {s : Int} (hs : s = 0 ∨ s = 1) : POk g { p with side := s } := ⟨h.al, h.av, h.h0, h.h1, h.r0, h.r1, hs⟩
theorem withHand_side (p : PosD) (s : Int) (l : List Int) : (p.withHand s l).side = p.side := by unfold PosD.withHand; split <;> rfl
theorem clr_side (p : PosD) (c : Int) : (clr p c).side = p.side := rfl
theorem POk.clr {g : GameD} {p : PosD} (h : POk g p) (c : Int) : POk g (clr p c) := h.setAt _ (by omega)
theorem slideGo_ok {g : GameD} {s : StD} (h : StOk g s) : ∀ {l : List Int}, (∀ y ∈ l, 0 ≤ y ∧ y < g.cells) → ∀ t ∈ slideGo s l, StOk g t ∧ t.p.side = s.p.side
  | [], _, t, ht => by simp [slideGo] at ht
  | c :: l, hl, t, ht => by
    rw [slideGo, List.mem_cons] at ht
    rcases ht with rfl | ht
    · have := hl c (by simp)
      exact ⟨⟨h.p, this.1, this.2, h.k⟩, rfl⟩
    · split at ht
      · exact slideGo_ok h (fun y hy => hl y (List.mem_cons_of_mem _ hy)) t ht
      · simp at ht
theorem slideGo_len {s : StD} : ∀ (l : List Int), (slideGo s l).length ≤ l.length
  | [] => by simp [slideGo]
  | c :: l => by
    rw [slideGo]
    have := slideGo_len (s := s) l
    split <;> simp <;> omega
theorem stepS_ok {g : GameD} (hg : GOk g) {s : StD} (h : StOk g s) {x : Int × Int} (hx : StepOk g.next.length g.kinds.length g.rights x) : ∀ t ∈ stepS g s x, StOk g t ∧ t.p.side = s.p.side := by
  intro t ht
  have hb := hg.board
  have hcur : (s.cursor.toNat : Int) < g.cells := by have := h.c0; have := h.c1; omega
  have hat := h.p.at hcur
  have only : ∀ {u : StD} {b : Bool}, t ∈ onlyS u b → b = true ∧ t = u := fun {u b} hu => by
    unfold onlyS at hu
    split at hu
    · rename_i hb'; exact ⟨hb', by simpa using hu⟩
    · simp at hu
  have hbc : g.board.cells = g.cells := rfl
  unfold stepS at ht
  simp only at ht
  split at ht
  · obtain ⟨h1, rfl⟩ := only ht
    have := toB_lt hb s.p.side x.2 s.cursor
    exact ⟨⟨h.p, by simpa using h1, by rw [hbc] at this; exact this, h.k⟩, rfl⟩
  split at ht
  · exact slideGo_ok h (fun y hy => lineB_mem hb y hy) t ht
  split at ht
  · obtain ⟨h1, rfl⟩ := only ht; exact ⟨h, rfl⟩
  split at ht
  · obtain ⟨h1, rfl⟩ := only ht; exact ⟨h, rfl⟩
  split at ht
  · obtain ⟨h1, rfl⟩ := only ht; exact ⟨h, rfl⟩
  split at ht
  · unfold takeS at ht
    simp only at ht
    split at ht
    · simp at ht
    · rename_i hm
      split at ht
      · rename_i hkeep
        split at ht
        · simp at ht
        · rename_i h8
          simp only [List.mem_singleton] at ht
          subst ht
          refine ⟨⟨(h.p.clr _).withHand _ ((h.p.hand _).set _ ?_ (fun _ => hkeep)), h.c0, h.c1, h.k⟩, withHand_side _ _ _⟩
          have hh := h.p.hand s.p.side
          rcases manOf_cases hat.1 hat.2 hg.k6 with ⟨e, e2⟩ | ⟨e, e2, e3, _⟩
          · rw [e2] at hm; simp at hm
          · have := hh.v (manOf (nth s.p.at_ s.cursor.toNat)).1.toNat (by rw [hh.len]; omega)
            omega
      · simp only [List.mem_singleton] at ht
        subst ht
        exact ⟨⟨h.p.clr _, h.c0, h.c1, h.k⟩, rfl⟩
  split at ht
  · unfold pushS at ht
    simp only at ht
    split at ht
    · simp at ht
    · simp only [List.mem_singleton] at ht
      subst ht
      exact ⟨⟨(h.p.setAt _ hat).setAt _ (by omega), h.c0, h.c1, h.k⟩, rfl⟩
  split at ht
  · rename_i e
    simp only [List.mem_singleton] at ht
    subst ht
    exact ⟨⟨h.p, h.c0, h.c1, hx.kind e⟩, rfl⟩
  split at ht
  · obtain ⟨h1, rfl⟩ := only ht; exact ⟨h, rfl⟩
  split at ht
  · rename_i e
    simp only [List.mem_singleton] at ht
    subst ht
    have hr := hx.right (.inr e)
    have hp := pow_le16 hg.r0 hg.r4
    have a := h.p.r0
    have b := h.p.r1
    have c := hg.r4
    obtain ⟨k1, k2⟩ := andNot_le (r := s.p.rights) (m := x.2.toNat) a (by omega) (by omega)
    exact ⟨⟨⟨h.p.al, h.p.av, h.p.h0, h.p.h1, k1, by simp only; omega, h.p.s⟩, h.c0, h.c1, h.k⟩, rfl⟩
  · simp only [List.mem_singleton] at ht
    subst ht
    exact ⟨h, rfl⟩
theorem stepS_len {g : GameD} (hg : GOk g) (s : StD) (x : Int × Int) : (stepS g s x).length ≤ 10 := by
  have c9 := hg.c9
  have on : ∀ (u : StD) (b : Bool), (onlyS u b).length ≤ 10 := fun u b => by unfold onlyS; split <;> simp
  unfold stepS
  simp only
  split; exact on _ _
  split
  · have h1 := slideGo_len (s := s) (lineB g.board s.p.side x.2 s.cursor)
    have h2 := lineB_len (b := g.board) (side := s.p.side) (d := x.2) (c := s.cursor)
    have : g.board.cells = g.cells := rfl
    unfold slideS; omega
  split; exact on _ _
  split; exact on _ _
  split; exact on _ _
  split
  · unfold takeS; simp only; (repeat' split) <;> simp
  split
  · unfold pushS; simp only; (repeat' split) <;> simp
  split; simp
  split; exact on _ _
  split <;> simp
end Go.Av
end
section
set_option linter.unusedSimpArgs false
set_option linter.unusedVariables false
set_option maxRecDepth 8000
open Go Go.Proofs
namespace Go.Av
/-- what a program of the library is made of -/
structure LibOk (p : List (Int × Int)) : Prop where
  len : p.length ≤ 6
  st : ∀ x ∈ p, 1 ≤ x.1 ∧ x.1 ≤ 10 ∧ 0 ≤ x.2 ∧ (x.1 = 3 ∨ x.1 = 4 ∨ x.1 = 5 ∨ x.1 = 6 → x.2 = 0)
  take : countOp p 6 ≤ 2
  push : countOp p 7 ≤ 1
  become : countOp p 8 ≤ 1
theorem libL_ok {d e k r : Int} (hd : 0 ≤ d) (he : 0 ≤ e) (hk : 0 ≤ k) (hr : 0 ≤ r) (i : Nat) : LibOk (nth (libL d e k r) i) := by
  have h4 := Int.tmod_nonneg 8 (show 0 ≤ d + 4 by omega)
  rcases Nat.lt_or_ge i 16 with h | h
  · have : ∀ p ∈ libL d e k r, LibOk p := by
      intro p hp
      simp only [libL, List.mem_cons, List.not_mem_nil, or_false] at hp
      rcases hp with rfl | rfl | rfl | rfl | rfl | rfl | rfl | rfl | rfl | rfl | rfl | rfl | rfl | rfl | rfl | rfl <;>
        exact ⟨by simp, by simp <;> omega, by simp [countOp], by simp [countOp], by simp [countOp]⟩
    exact this _ (nth_mem h)
  · have e : nth (libL d e k r) i = [] := by
      unfold nth
      rw [List.getD_eq_getElem?_getD, List.getElem?_eq_none (by exact h)]; rfl
    rw [e]
    exact ⟨by simp, by simp, by simp [countOp], by simp [countOp], by simp [countOp]⟩
theorem fitStep_op {dirs kinds rights : Int} {x y : Int × Int} (h : fitStep dirs kinds rights x = some y) : y.1 = x.1 := by
  unfold fitStep at h
  split at h
  · simp only [Option.some.injEq] at h; rw [← h]
  · split at h
    · simp only [Option.some.injEq] at h; rw [← h]
    · split at h
      · split at h
        · cases h
        · simp only [Option.some.injEq] at h; rw [← h]
      · simp only [Option.some.injEq] at h; rw [← h]
theorem fit_count {dirs kinds rights : Int} (op : Int) : ∀ p : List (Int × Int), countOp (p.filterMap (fitStep dirs kinds rights)) op ≤ countOp p op
  | [] => by simp [countOp]
  | x :: p => by
    have ih := fit_count (dirs := dirs) (kinds := kinds) (rights := rights) op p
    unfold countOp at *
    rw [List.filterMap_cons]
    cases hf : fitStep dirs kinds rights x with
    | none => simp only [List.countP_cons]; omega
    | some y =>
      have := fitStep_op hf
      simp only [List.countP_cons, this]
      omega
theorem fitP_ok {dirs kinds rights : Int} (hd : 1 ≤ dirs) (hk : 1 ≤ kinds) (hr : 0 ≤ rights) {p : List (Int × Int)} (hp : LibOk p) : ProgOk dirs kinds rights (fitP dirs kinds rights p) := by
  have h0 : ProgOk dirs kinds rights [(3, 0)] := by
    refine ⟨by simp, by simp, fun x hx => ?_, by simp [countOp], by simp [countOp], by simp [countOp]⟩
    simp only [List.mem_singleton] at hx
    subst hx
    exact ⟨by simp, by simp, by simp, by simp, by simp⟩
  unfold fitP
  split
  · exact h0
  · rename_i hne
    have hl : (p.filterMap (fitStep dirs kinds rights)).length ≤ p.length := List.length_filterMap_le _ _
    have hpos := List.length_pos_iff.2 hne
    refine ⟨by omega, by have := hp.len; omega, fun y hy => ?_, Nat.le_trans (fit_count 6 p) hp.take, Nat.le_trans (fit_count 7 p) hp.push, Nat.le_trans (fit_count 8 p) hp.become⟩
    obtain ⟨x, hx, hf⟩ := List.mem_filterMap.1 hy
    obtain ⟨a, b, c, d⟩ := hp.st x hx
    have m1 := Int.tmod_nonneg dirs c
    have m2 := Int.tmod_lt_of_pos x.2 (show 0 < dirs by omega)
    have m3 := Int.tmod_nonneg kinds c
    have m4 := Int.tmod_lt_of_pos x.2 (show 0 < kinds by omega)
    have m5 := Int.tmod_nonneg rights c
    unfold fitStep at hf
    split at hf
    · simp only [Option.some.injEq] at hf; subst hf
      exact ⟨by simp only; omega, by simp only; omega, by simp only; omega, by simp only; omega, by simp only; omega⟩
    · split at hf
      · simp only [Option.some.injEq] at hf; subst hf
        exact ⟨by simp only; omega, by simp only; omega, by simp only; omega, by simp only; omega, by simp only; omega⟩
      · split at hf
        · split at hf
          · cases hf
          · rename_i hr0
            have m6 := Int.tmod_lt_of_pos x.2 (show 0 < rights by omega)
            simp only [Option.some.injEq] at hf; subst hf
            exact ⟨by simp only; omega, by simp only; omega, by simp only; omega, by simp only; omega, by simp only; omega⟩
        · simp only [Option.some.injEq] at hf; subst hf
          exact ⟨by omega, by omega, by omega, by omega, by omega⟩
theorem madeP_ok {n dirs kinds rights : Int} (hn : U8 n) (hd : 1 ≤ dirs) (hk : 1 ≤ kinds) (hr : 0 ≤ rights) : ProgOk dirs kinds rights (madeP n dirs kinds rights) := by
  obtain ⟨n0, n1⟩ := hn
  have q0 : 0 ≤ n.tdiv 16 := by rw [Int.tdiv_eq_ediv_of_nonneg n0]; omega
  have q1 : 0 ≤ n.tdiv 3 := by rw [Int.tdiv_eq_ediv_of_nonneg n0]; omega
  have q2 := Int.tmod_nonneg 5 n0
  exact fitP_ok hd hk hr (libL_ok (Int.tmod_nonneg _ q0) (Int.tmod_nonneg _ (by omega)) (Int.tmod_nonneg _ q1) (Int.tmod_nonneg _ n0) _)
theorem madeB_turn (w h cut : Int) (d : Nat) (hd : d < (madeB w h cut).turn.length) : nth (madeB w h cut).turn (nth (madeB w h cut).turn d).toNat = d := by
  have ht : (madeB w h cut).turn = gridTurn 8 := by unfold madeB; split <;> rfl
  rw [ht] at hd ⊢
  have h8 : d < 8 := by simpa [gridTurn] using hd
  have : ∀ d : Fin 8, nth (gridTurn 8) (nth (gridTurn 8) d.val).toNat = (d.val : Int) := by decide
  exact this ⟨d, h8⟩
theorem madeG_ok {x : RawG} (hx : RawOk x) : GOk (madeG x) := by
  have hb : BoardOk x.board := boardOk_made hx.w.1 hx.h.1 x.cut
  have hc := madeB_cells hx.w.1 hx.h.1 x.cut
  have hd : x.board.next.length = 8 := madeB_dirs x.w x.h x.cut
  have hK : kindsN x = 1 ∨ kindsN x = 2 := by unfold kindsN; split <;> simp
  have hkl : (madeG x).kinds.length = kindsN x := by simp [madeG]
  have r0 : 0 ≤ x.rights := Int.tmod_nonneg 3 hx.f0.1
  have r1 : x.rights < 3 := Int.tmod_lt_of_pos x.f0 (show (0 : Int) < 3 by decide)
  have t : ∀ n : Int, U8 n → 0 ≤ (n.tdiv 4).tmod 3 ∧ (n.tdiv 4).tmod 3 < 3 := fun n hn => by
    have : 0 ≤ n.tdiv 4 := by rw [Int.tdiv_eq_ediv_of_nonneg hn.1]; have := hn.1; omega
    exact ⟨Int.tmod_nonneg 3 this, Int.tmod_lt_of_pos _ (by decide)⟩
  have t3 := t _ hx.f3
  have t4 := t _ hx.f4
  have hcl : x.board.cells = (madeG x).cells := rfl
  have hc' : 1 ≤ x.board.cells ∧ x.board.cells ≤ 9 := hc
  refine ⟨hb, hc'.1, hc'.2, by show 1 ≤ x.board.next.length; omega, by show x.board.next.length ≤ 8; omega, madeB_turn x.w x.h x.cut, by omega, by omega, fun k hk => ?_, fun k hk p hp => ?_, r0, ?_, fun c hcm => ?_, ?_, ?_, ?_⟩
  · obtain ⟨i, _, rfl⟩ := List.mem_map.1 hk
    simp only [kindOf, List.length_map, List.length_take]; omega
  · rw [hkl]
    obtain ⟨i, _, rfl⟩ := List.mem_map.1 hk
    obtain ⟨n, hn, rfl⟩ := List.mem_map.1 hp
    have hn' := List.mem_of_mem_take hn
    have hu : U8 n := by
      unfold RawG.ks at hn'
      split at hn'
      · exact hx.k0 n hn'
      · exact hx.k1 n hn'
    exact madeP_ok hu (show (1 : Int) ≤ x.board.next.length by omega) (show (1 : Int) ≤ kindsN x by omega) r0
  · show x.rights ≤ 4; omega
  · rw [hkl]
    obtain ⟨c0, h0, rfl⟩ := List.mem_map.1 hcm
    obtain ⟨u0, u1, u2⟩ := hx.c _ (List.mem_of_mem_take h0)
    have a0 := Int.tmod_nonneg 3 u0.1
    have a1 := Int.tmod_lt_of_pos c0.1 (show (0 : Int) < 3 by decide)
    have b0 := Int.tmod_nonneg (kindsN x : Int) u1.1
    have b1 := Int.tmod_lt_of_pos c0.2.1 (show (0 : Int) < kindsN x by omega)
    have d0 := Int.tmod_nonneg x.board.cells u2.1
    have d1 := Int.tmod_lt_of_pos c0.2.2 (show (0 : Int) < x.board.cells by omega)
    have e0 := Int.tmod_nonneg 3 u2.1
    have e1 := Int.tmod_lt_of_pos c0.2.2 (show (0 : Int) < 3 by decide)
    have t0 := t _ u0
    rw [← hcl]
    refine ⟨?_, ?_, ?_, ?_, ?_⟩ <;> simp only [clauseOf]
    · omega
    · split <;> omega
    · split
      · omega
      · split <;> omega
    · omega
    · intro h; rw [if_neg (by omega)]
  · show ((x.c.take 3).map _).length ≤ 6
    simp; omega
  · show 1 ≤ (if x.f3.tmod 4 = 3 then 1 + (x.f3.tdiv 4).tmod 3 else 3) ∧ (if x.f3.tmod 4 = 3 then 1 + (x.f3.tdiv 4).tmod 3 else 3) ≤ 3
    split <;> omega
  · show 1 ≤ (if x.f4.tmod 4 = 3 then 1 + (x.f4.tdiv 4).tmod 3 else 2) ∧ (if x.f4.tmod 4 = 3 then 1 + (x.f4.tdiv 4).tmod 3 else 2) ≤ 3
    split <;> omega
theorem madePos_ok {g : GameD} (hg : GOk g) {x : RawP} (hx : RawPOk x) : POk g (madePos g x) := by
  have c1 := hg.c1
  have k1 := hg.k1
  have hat : ∀ n, n ≤ 6 → ∀ c ∈ madeAt g x n, 0 ≤ c ∧ c ≤ 2 * g.kinds.length := by
    intro n
    induction n with
    | zero => intro _ c hc; simp [madeAt] at hc; omega
    | succ n ih =>
      intro hn c hc
      rw [madeAt_succ] at hc
      unfold atStep at hc
      split at hc
      · rcases List.mem_or_eq_of_mem_set hc with hc | rfl
        · exact ih (by omega) c hc
        · have hkv : U8 (nth x.kind n) := hx.kv _ (nth_mem (by rw [hx.k6]; omega))
          have a := Int.tmod_nonneg (g.kinds.length : Int) hkv.1
          have b := Int.tmod_lt_of_pos (nth x.kind n) (show (0 : Int) < g.kinds.length by omega)
          have c := Int.tmod_nonneg 2 (show (0 : Int) ≤ n by omega)
          have d := Int.tmod_lt_of_pos (n : Int) (show (0 : Int) < 2 by decide)
          omega
      · exact ih (by omega) c hc
  have hh : ∀ s, s < 2 → HandOk g (handL g x s (min g.kinds.length 2)) := by
    intro s hs
    refine ⟨handL_len _ _ _ _, fun i hi => ?_⟩
    rw [handL_len] at hi
    have e : nth (handL g x s (min g.kinds.length 2)) i = if i < min g.kinds.length 2 then handV g x s i else 0 := by
      unfold handL
      rw [nth_map _ _ _ (by simpa using hi)]
      simp [nth, hi]
    rw [e]
    split
    · have hv : U8 (nth x.hand (2 * s + i)) := hx.hv _ (nth_mem (by rw [hx.h4]; omega))
      have a := Int.tmod_nonneg 3 hv.1
      have b := Int.tmod_lt_of_pos (nth x.hand (2 * s + i)) (show (0 : Int) < 3 by decide)
      unfold handV
      split
      · rename_i hk
        split <;> exact ⟨by omega, by omega, fun _ => hk⟩
      · exact ⟨by omega, by omega, fun h => by omega⟩
    · exact ⟨by omega, by omega, fun h => by omega⟩
  have hp := pow_le16 hg.r0 hg.r4
  refine ⟨?_, hat 6 (Nat.le_refl _), hh 0 (by omega), hh 1 (by omega), Int.tmod_nonneg _ hx.r.1, Int.tmod_lt_of_pos _ (by omega), ?_⟩
  · show ((madeAt g x 6).length : Int) = g.cells
    rw [madeAt_len]; omega
  · have a := Int.tmod_nonneg 2 hx.s.1
    have b := Int.tmod_lt_of_pos x.side (show (0 : Int) < 2 by decide)
    show x.side.tmod 2 = 0 ∨ x.side.tmod 2 = 1
    omega
end Go.Av
end
section
set_option linter.unusedSimpArgs false
set_option linter.unusedVariables false
set_option maxRecDepth 8000
open Go Go.Proofs
namespace Go.Av
/-- no step asks for a right -/
def plainP (p : List (Int × Int)) : Bool := p.all fun x => decide (x.1 ≠ 9) && decide (x.1 ≠ 10)
def plainK (k : KindD) : KindD := ⟨k.name, k.progs.filter plainP, false⟩
def plainG (g : GameD) : GameD := ⟨g.cells, g.next, g.turn, g.kinds.map plainK, 0, false, [], 3, 2⟩
theorem plainP_ok {D K R : Int} {p : List (Int × Int)} (h : ProgOk D K R p) (hp : plainP p = true) : ProgOk D K 0 p := by
  refine ⟨h.ne, h.len, fun x hx => ?_, h.take, h.push, h.become⟩
  have hs := h.st x hx
  have := List.all_eq_true.1 hp x hx
  simp only [Bool.and_eq_true, decide_eq_true_eq] at this
  exact ⟨hs.op, hs.dir, hs.zero, hs.kind, fun h => by omega⟩
theorem plainG_ok {g : GameD} (hg : GOk g) : GOk (plainG g) := by
  have hkl : (plainG g).kinds.length = g.kinds.length := by simp [plainG]
  refine ⟨hg.board, hg.c1, hg.c9, hg.d1, hg.d8, hg.turn, by have := hg.k1; omega, by have := hg.k6; omega, fun k hk => ?_, fun k hk p hp => ?_, by simp [plainG], by simp [plainG], fun c hc => ?_, by simp [plainG], by simp [plainG], by simp [plainG]⟩
  · obtain ⟨k', hk', rfl⟩ := List.mem_map.1 hk
    have := hg.pn k' hk'
    have := List.length_filter_le plainP k'.progs
    show (k'.progs.filter plainP).length ≤ 8
    omega
  · obtain ⟨k', hk', rfl⟩ := List.mem_map.1 hk
    obtain ⟨h1, h2⟩ := List.mem_filter.1 hp
    rw [hkl]
    exact plainP_ok (hg.pr k' hk' p h1) h2
  · simp [plainG] at hc
/-- the number of cells of one of two boards -/
def halfN (g : GameD) : Nat := (min g.cells 4).toNat
theorem halfN_le {g : GameD} (hg : GOk g) : 1 ≤ halfN g ∧ halfN g ≤ 4 ∧ (halfN g : Int) ≤ g.cells := by
  have := hg.c1
  unfold halfN
  omega
/-- the bit of a cell -/
def bitW (w : Int) (c : Nat) : Bool := decide (andN .u8 (w.fdiv (2 ^ ((c : Int).tmod 8).toNat)) 1 = 1)
/-- where a step leads on two boards -/
def apartTo (n : Nat) (w : Int) (l : List Int) (c : Nat) : Int :=
  let to := nth l (c % n)
  if (n : Int) ≤ to ∨ (bitW w c = true ∧ n ≤ c) then -1 else if 0 ≤ to ∧ n ≤ c then to + n else to
def apartL (n : Nat) (w : Int) (l : List Int) (k : Nat) : List Int := (List.range k).map (apartTo n w l)
theorem apartL_len (n : Nat) (w : Int) (l : List Int) (k : Nat) : (apartL n w l k).length = k := by simp [apartL]
theorem apartL_succ (n : Nat) (w : Int) (l : List Int) (k : Nat) : apartL n w l (k + 1) = apartL n w l k ++ [apartTo n w l k] := by simp [apartL, List.range_succ]
def apartB (g : GameD) (w : Int) : BoardD := ⟨2 * (halfN g : Int), g.next.map fun l => apartL (halfN g) w l (2 * halfN g), g.turn⟩
def apartG (g : GameD) (w : Int) : GameD := { plainG g with cells := 2 * (halfN g : Int), next := g.next.map fun l => apartL (halfN g) w l (2 * halfN g) }
theorem apartG_board (g : GameD) (w : Int) : (apartG g w).board = apartB g w := rfl
theorem apartTo_ok {n : Nat} {w : Int} {l : List Int} {c : Nat} (hn : 1 ≤ n) (hc : c < 2 * n) (hl : -1 ≤ nth l (c % n)) : -1 ≤ apartTo n w l c ∧ apartTo n w l c < 2 * (n : Int) := by
  unfold apartTo
  dsimp only
  split
  · omega
  · rename_i h
    split <;> omega
theorem apartB_ok {g : GameD} (hg : GOk g) (w : Int) : BoardOk (apartB g w) := by
  obtain ⟨n1, n4, nc⟩ := halfN_le hg
  have hb := hg.board
  have hd8 := hg.d8
  refine ⟨?_, fun t ht => ?_, fun l hl => ?_, fun l hl x hx => ?_, ?_, ?_, ?_⟩
  · have := hb.tl
    simp only [apartB, List.length_map]
    exact this
  · have := hb.tv t ht
    simp only [apartB, List.length_map]
    exact this
  · obtain ⟨l', hl', rfl⟩ := List.mem_map.1 hl
    rw [apartL_len]
    simp only [apartB]
    omega
  · obtain ⟨l', hl', rfl⟩ := List.mem_map.1 hl
    obtain ⟨c, hc, rfl⟩ := List.mem_map.1 hx
    have hc' := List.mem_range.1 hc
    have hlen : (l'.length : Int) = g.cells := hb.nl l' hl'
    have hm : c % halfN g < halfN g := Nat.mod_lt _ (by omega)
    have hv := hb.nv l' hl' _ (nth_mem (l := l') (i := c % halfN g) (by omega))
    have := apartTo_ok (w := w) n1 hc' hv.1
    simp only [apartB]
    omega
  · simp only [apartB]; omega
  · simp only [apartB]; omega
  · simp only [apartB, List.length_map]; omega
theorem apartG_ok {g : GameD} (hg : GOk g) (w : Int) : GOk (apartG g w) := by
  have hp := plainG_ok hg
  obtain ⟨n1, n4, nc⟩ := halfN_le hg
  have hnl : (apartG g w).next.length = g.next.length := by simp [apartG]
  refine ⟨apartB_ok hg w, by simp only [apartG]; omega, by simp only [apartG]; omega, by rw [hnl]; exact hg.d1, by rw [hnl]; exact hg.d8, hg.turn, hp.k1, hp.k6, hp.pn, fun k hk p hp' => ?_, hp.r0, hp.r4, fun c hc => ?_, hp.cn, hp.bl, hp.en⟩
  · rw [hnl]; exact hp.pr k hk p hp'
  · simp [apartG, plainG] at hc
/-- two boards: at most 8 cells -/
theorem apartG_cells (g : GameD) (w : Int) (hg : GOk g) : (apartG g w).cells ≤ 8 := by
  obtain ⟨n1, n4, nc⟩ := halfN_le hg
  simp only [apartG]; omega
end Go.Av
end
section
set_option linter.unusedSimpArgs false
set_option linter.unusedVariables false
open Go Go.Proofs
set_option maxRecDepth 20000
set_option maxHeartbeats 4000000
namespace Go.Av
theorem take_succG {α : Type} [Inhabited α] {l : List α} {i : Nat} (h : i < l.length) : l.take (i + 1) = l.take i ++ [nth l i] := by
  rw [List.take_add_one, List.getElem?_eq_getElem h, nth_eq _ _ h]; rfl
/-- the first kinds -/
def plainKs (g : GameD) (i : Nat) : List KindD := (g.kinds.take i).map plainK
theorem plainKs_succ {g : GameD} {i : Nat} (h : i < g.kinds.length) : plainKs g (i + 1) = plainKs g i ++ [plainK (nth g.kinds i)] := by
  unfold plainKs; rw [take_succG h]; simp
theorem plainKs_len {g : GameD} {i : Nat} (h : i ≤ g.kinds.length) : (plainKs g i).length = i := by simp [plainKs]; omega
def plainPs (ps : List (List (Int × Int))) (n : Nat) : List (List (Int × Int)) := (ps.take n).filter plainP
theorem plainPs_succ {ps : List (List (Int × Int))} {n : Nat} (h : n < ps.length) : plainPs ps (n + 1) = if plainP (nth ps n) = true then plainPs ps n ++ [nth ps n] else plainPs ps n := by
  unfold plainPs; rw [take_succG h, List.filter_append]
  by_cases e : plainP (nth ps n) = true <;> simp [e]
theorem plainPs_le (ps : List (List (Int × Int))) (n : Nat) : (plainPs ps n).length ≤ n := by
  unfold plainPs
  have := List.length_filter_le plainP (ps.take n)
  simp at this
  omega
def okPs (p : List (Int × Int)) (j : Nat) : Bool := plainP (p.take j)
theorem okPs_succ {p : List (Int × Int)} {j : Nat} (h : j < p.length) : okPs p (j + 1) = (okPs p j && (decide ((nth p j).1 ≠ 9) && decide ((nth p j).1 ≠ 10))) := by
  unfold okPs plainP; rw [take_succG h]; simp
theorem R22Plain_pure (g : GameD) (hg : GOk g) : Pure Try.prog 23 [.agg (encGame g)] (.agg (encGame (plainG g))) := by
  refine Pure.of (ACallP.of_awp (by kernel_rfl) Try.func23 rfl rfl (Nat.le_of_ble_eq_true rfl) (by kernel_rfl) ?_)
  have k6 := hg.k6
  have hpn := hg.pn
  have hpl := hg.pr
  have eg : encGame (plainG g) = [.v (.int .i64 g.cells), encIss g.next, encIs g.turn, .lst 3 ((plainKs g g.kinds.length).map encKind), .v (.int .i64 0), .v (.bool false), .lst 4 [], .v (.int .i64 3), .v (.int .i64 2)] := by
    unfold plainKs; rw [List.take_length]; rfl
  rw [eg]
  (repeat (first | with_reducible (first | refine wL fun _ => ?_ | refine wD fun _ => ?_ | refine wE ?_ | refine adrZ.go ?_) | simp [go_sem]))
  refine ALoop.start (ALoop.ind (α := Nat) (fun i => ⟨[(1, .ref 0 0 9 0 0), (2, .ref 1 0 9 0 0), (3, .ref 2 0 9 0 0), (4, .v (.int .i64 i))],
      [(0, .rows true 0 9 [encGame g]), (1, .rows true 0 9 [[.v (.int .i64 0), .v (.slice none 0 0), .v (.slice none 0 0), .v (.slice none 0 0), .v (.int .i64 0), .v (.bool false), .v (.slice none 0 0), .v (.int .i64 0), .v (.int .i64 0)]]),
       (2, .rows true 0 9 [[.v (.int .i64 g.cells), encIss g.next, encIs g.turn, .sl 3 i 3 0 i, .v (.int .i64 0), .v (.bool false), .v (.slice none 0 0), .v (.int .i64 3), .v (.int .i64 2)]]), (3, .rows true i 3 ((plainKs g i).map encKind))], 4⟩)
    (fun r i => i + r = g.kinds.length) ?_ g.kinds.length 0 ?_) ?_ ?_
  · rintro r i i1 hrec
    have lks : (plainKs g i).length = i := plainKs_len (by omega)
    (repeat (first | with_reducible (first | refine wL fun _ => ?_ | refine wD fun _ => ?_ | refine wE ?_ | refine adrZ.go ?_) | simp [go_sem]))
    refine aIf.mkL (fun hi => ?_) (fun hi => ?_) <;> simp at hi
    · have hm := nth_mem hi
      have hpn := hpn _ hm
      have hpl := hpl _ hm
      have hks := plainKs_succ hi
      (repeat (first | with_reducible (first | refine wL fun _ => ?_ | refine wD fun _ => ?_ | refine wE ?_ | refine adrZ.go ?_) | simp [go_sem, hi, lks]))
      refine ALoop.start (ALoop.ind (α := Nat) (fun n => ⟨[(1, .ref 0 0 9 0 0), (2, .ref 1 0 9 0 0), (3, .ref 2 0 9 0 0), (4, .v (.int .i64 i)), (5, .ref 4 0 3 0 0), (6, .v (.int .i64 n))],
          [(0, .rows true 0 9 [encGame g]), (1, .rows true 0 9 [[.v (.int .i64 0), .v (.slice none 0 0), .v (.slice none 0 0), .v (.slice none 0 0), .v (.int .i64 0), .v (.bool false), .v (.slice none 0 0), .v (.int .i64 0), .v (.int .i64 0)]]),
           (2, .rows true 0 9 [[.v (.int .i64 g.cells), encIss g.next, encIs g.turn, .sl 3 i 3 0 i, .v (.int .i64 0), .v (.bool false), .v (.slice none 0 0), .v (.int .i64 3), .v (.int .i64 2)]]), (3, .rows true i 3 ((plainKs g i).map encKind)),
           (4, .rows true 0 3 [[.v (.string (nth g.kinds i).name), .sl 5 (plainPs (nth g.kinds i).progs n).length 1 0 (plainPs (nth g.kinds i).progs n).length, .v (.bool false)]]),
           (5, .rows true (plainPs (nth g.kinds i).progs n).length 1 ((plainPs (nth g.kinds i).progs n).map fun p => [encProg p]))], 6⟩)
        (fun s n => n + s = (nth g.kinds i).progs.length) ?_ (nth g.kinds i).progs.length 0 ?_) ?_ ?_
      · rintro s n j1 hrec2
        have lps := plainPs_le (nth g.kinds i).progs n
        generalize hps : plainPs (nth g.kinds i).progs n = ps at *
        (repeat (first | with_reducible (first | refine wL fun _ => ?_ | refine wD fun _ => ?_ | refine wE ?_ | refine adrZ.go ?_) | simp [go_sem, hi]))
        refine aIf.mkL (fun hn => ?_) (fun hn => ?_) <;> simp at hn
        · have hp := hpl _ (nth_mem hn)
          have hplen := hp.len
          have hss := plainPs_succ hn
          rw [hps] at hss
          (repeat (first | with_reducible (first | refine wL fun _ => ?_ | refine wD fun _ => ?_ | refine wE ?_ | refine adrZ.go ?_) | simp [go_sem, hi, hn]))
          refine ALoop.start (ALoop.ind (α := Nat) (fun j => ⟨[(1, .ref 0 0 9 0 0), (2, .ref 1 0 9 0 0), (3, .ref 2 0 9 0 0), (4, .v (.int .i64 i)), (5, .ref 4 0 3 0 0), (6, .v (.int .i64 n)), (7, .v (.bool (okPs (nth (nth g.kinds i).progs n) j))), (8, encProg (nth (nth g.kinds i).progs n)), (9, .v (.int .i64 j))],
              [(0, .rows true 0 9 [encGame g]), (1, .rows true 0 9 [[.v (.int .i64 0), .v (.slice none 0 0), .v (.slice none 0 0), .v (.slice none 0 0), .v (.int .i64 0), .v (.bool false), .v (.slice none 0 0), .v (.int .i64 0), .v (.int .i64 0)]]),
               (2, .rows true 0 9 [[.v (.int .i64 g.cells), encIss g.next, encIs g.turn, .sl 3 i 3 0 i, .v (.int .i64 0), .v (.bool false), .v (.slice none 0 0), .v (.int .i64 3), .v (.int .i64 2)]]), (3, .rows true i 3 ((plainKs g i).map encKind)),
               (4, .rows true 0 3 [[.v (.string (nth g.kinds i).name), .sl 5 ps.length 1 0 ps.length, .v (.bool false)]]),
               (5, .rows true ps.length 1 (ps.map fun p => [encProg p]))], 6⟩)
            (fun t j => j + t = (nth (nth g.kinds i).progs n).length) ?_ (nth (nth g.kinds i).progs n).length 0 ?_) ?_ ?_
          · rintro t j l1 hrec3
            (repeat (first | with_reducible (first | refine wL fun _ => ?_ | refine wD fun _ => ?_ | refine wE ?_ | refine adrZ.go ?_) | simp [go_sem]))
            refine aIf.mkL (fun hj => ?_) (fun hj => ?_) <;> simp at hj
            · have ho := okPs_succ hj
              (repeat (first | with_reducible (first | refine wL fun _ => ?_ | refine wD fun _ => ?_ | refine wE ?_ | refine adrZ.go ?_) | simp [go_sem, hj]))
              refine ALoop.start (hrec3 (t - 1) (by omega) (j + 1) (by omega)) ?_ (by simp)
              simp [go_sem, Wk_eq, ho, Bool.and_assoc]
            · have hjl : j = (nth (nth g.kinds i).progs n).length := by omega
              have hok : okPs (nth (nth g.kinds i).progs n) j = plainP (nth (nth g.kinds i).progs n) := by unfold okPs; rw [hjl, List.take_length]
              (repeat (first | with_reducible (first | refine wL fun _ => ?_ | refine wD fun _ => ?_ | refine wE ?_ | refine adrZ.go ?_) | simp [go_sem]))
              refine aIf.mkL (fun hb => ?_) (fun hb => ?_)
              · rw [hok] at hb
                rw [if_pos hb] at hss
                (repeat (first | with_reducible (first | refine wL fun _ => ?_ | refine wD fun _ => ?_ | refine wE ?_ | refine adrZ.go ?_) | simp [go_sem]))
                refine ALoop.start (hrec2 (s - 1) (by omega) (n + 1) (by omega)) ?_ (by simp)
                simp [go_sem, Wk_eq, hss]
              · rw [hok] at hb
                rw [if_neg (by simp [hb])] at hss
                (repeat (first | with_reducible (first | refine wL fun _ => ?_ | refine wD fun _ => ?_ | refine wE ?_ | refine adrZ.go ?_) | simp [go_sem]))
                refine ALoop.start (hrec2 (s - 1) (by omega) (n + 1) (by omega)) ?_ (by simp)
                simp [go_sem, Wk_eq, hss]
          · simp
          · simp [go_sem, Wk_eq, okPs, plainP]
          · simp
        · have hnl : n = (nth g.kinds i).progs.length := by omega
          have hpk : plainK (nth g.kinds i) = ⟨(nth g.kinds i).name, ps, false⟩ := by rw [← hps, hnl]; unfold plainPs; rw [List.take_length]; rfl
          (repeat (first | with_reducible (first | refine wL fun _ => ?_ | refine wD fun _ => ?_ | refine wE ?_ | refine adrZ.go ?_) | simp [go_sem]))
          refine ALoop.start (hrec (r - 1) (by omega) (i + 1) (by omega)) ?_ (by simp)
          simp [go_sem, Wk_eq, hks, hpk]
          ((refine leRows_append (.refl _) ?_); (repeat (first | (with_reducible exact LeRows.nil) | (with_reducible refine LeRows.cons ?_ ?_) | (with_reducible exact LeRow.nil) | (with_reducible refine LeRow.cons ?_ ?_) | (with_reducible exact LeV.refl _) | (refine leV_frz rfl (by simp) (by simp [noH, upd]) ?_; first | (simp [go_sem]; done) | (simp [go_sem]; exact List.take_of_length_le (by simp))))))
      · simp
      · simp [go_sem, Wk_eq, plainPs]
      · simp
    · have hil : i = g.kinds.length := by omega
      subst hil
      (repeat (first | with_reducible (first | refine wL fun _ => ?_ | refine wD fun _ => ?_ | refine wE ?_ | refine adrZ.go ?_) | simp [go_sem]))
      ((try simp only [encProg, encStep, encAct, encAs, encPath, encPt, encOut, encState, encPos, encOs, encSs, encPs, encIs, encGame, List.map_cons, List.map_nil, List.nil_append, List.append_nil, List.cons_append]); (repeat (first | (with_reducible exact LeRow.nil) | (with_reducible exact LeRows.nil) | (with_reducible exact LeV.refl _) | (with_reducible exact LeRow.refl _ _ _ _) | (with_reducible exact LeRows.refl _) | (with_reducible refine LeRow.cons ?_ ?_) | (with_reducible refine LeRows.cons ?_ ?_) | (with_reducible refine LeV.agg ?_) | (with_reducible refine LeV.tup ?_) | (with_reducible refine LeV.fn ?_ ?_) | (with_reducible exact LeV.nil _) | (with_reducible refine leRows_append (LeRows.refl _) ?_) | ((refine leV_frz rfl (by simp [lks]) (by simp [frzO, frz1, upd, noH]) ?_); (first | (simp [go_sem, lks]; done) | (simp [go_sem, lks]; exact List.take_of_length_le (by simp [lks])))) | ((refine LeV.frz rfl (by simp [lks]) (by simp [frzO, frz1, upd, noH]) ?_); (simp only [List.drop_zero, List.take_succ_cons, List.take_zero, List.map_cons, List.map_nil])) | ((refine LeV.frzP rfl (by simp [lks]) (by simp) (by simp [frzO, frz1, upd, noH]) ?_); (simp only [nth_zero, List.drop_zero])))))
  · simp
  · simp [go_sem, Wk_eq, plainKs]
  · simp
end Go.Av
end
section
set_option linter.unusedSimpArgs false
set_option linter.unusedVariables false
open Go Go.Proofs
set_option maxRecDepth 20000
set_option maxHeartbeats 4000000
namespace Go.Av
def apartNs (g : GameD) (w : Int) (d : Nat) : List (List Int) := (g.next.take d).map fun l => apartL (halfN g) w l (2 * halfN g)
theorem apartNs_succ {g : GameD} {w : Int} {d : Nat} (h : d < g.next.length) : apartNs g w (d + 1) = apartNs g w d ++ [apartL (halfN g) w (nth g.next d) (2 * halfN g)] := by
  unfold apartNs; rw [take_succG h]; simp
theorem apartNs_len {g : GameD} {w : Int} {d : Nat} (h : d ≤ g.next.length) : (apartNs g w d).length = d := by simp [apartNs]; omega
theorem R22Apart_pure (g : GameD) (hg : GOk g) (w : Int) (hw : U8 w) : Pure Try.prog 6 [.agg (encGame g), .v (.int .u8 w)] (.agg (encGame (apartG g w))) := by
  refine Pure.of (ACallP.of_awp (by kernel_rfl) Try.func6 rfl rfl (Nat.le_of_ble_eq_true rfl) (by kernel_rfl) ?_)
  have hP := R22Plain_pure g hg
  obtain ⟨n1, n4, nc⟩ := halfN_le hg
  obtain ⟨tl, tv, nl, nv, c0, c1, nn1⟩ := hg.board
  have d8 : g.next.length ≤ 8 := hg.d8
  have tl' : g.turn.length = g.next.length := tl
  have nl' : ∀ l ∈ g.next, (l.length : Int) = g.cells := nl
  have nv' : ∀ l ∈ g.next, ∀ x ∈ l, -1 ≤ x ∧ x < g.cells := nv
  have c9 := hg.c9
  have hN : (if (4 : Int) < g.cells then 4 else g.cells) = (halfN g : Int) := by unfold halfN; split <;> omega
  have eg : encGame (apartG g w) = [.v (.int .i64 (2 * (halfN g : Int))), encIss (apartNs g w g.next.length), encIs g.turn, .lst 3 ((g.kinds.map plainK).map encKind), .v (.int .i64 0), .v (.bool false), .lst 4 [], .v (.int .i64 3), .v (.int .i64 2)] := by
    unfold apartNs; rw [List.take_length]; rfl
  have ep : encGame (plainG g) = [.v (.int .i64 g.cells), encIss g.next, encIs g.turn, .lst 3 ((g.kinds.map plainK).map encKind), .v (.int .i64 0), .v (.bool false), .lst 4 [], .v (.int .i64 3), .v (.int .i64 2)] := rfl
  have eg0 : encGame g = [.v (.int .i64 g.cells), encIss g.next, encIs g.turn, .lst 3 (g.kinds.map encKind), .v (.int .i64 g.rights), .v (.bool g.must), .lst 4 (g.clauses.map encClause), .v (.int .i64 g.blocked), .v (.int .i64 g.endless)] := rfl
  rw [ep, eg0] at hP
  rw [eg]
  have hns := fun d (h : d < g.next.length) => apartNs_succ (w := w) h
  have lns := fun d (h : d ≤ g.next.length) => apartNs_len (w := w) h
  have hTs : ∀ (l : List Int) c, apartTo (halfN g) w l c = if (halfN g : Int) ≤ nth l (c % halfN g) ∨ (bitW w c = true ∧ halfN g ≤ c) then -1 else if 0 ≤ nth l (c % halfN g) ∧ halfN g ≤ c then nth l (c % halfN g) + halfN g else nth l (c % halfN g) := fun _ _ => rfl
  generalize hNn : halfN g = N at *
  (repeat (first | with_reducible (first | refine wL fun _ => ?_ | refine wD fun _ => ?_ | refine wE ?_ | refine adrZ.go ?_) | simp [go_sem, hN]))
  refine ACallP.plain hP (by simp [go_sem]) ?_
  (repeat (first | with_reducible (first | refine wL fun _ => ?_ | refine wD fun _ => ?_ | refine wE ?_ | refine adrZ.go ?_) | simp [go_sem]))
  refine ALoop.start (ALoop.ind (α := Nat) (fun d => ⟨[(1, .v (.int .u8 w)), (2, .ref 0 0 9 0 0), (4, .ref 1 0 9 0 0), (5, .v (.int .i64 N)), (6, .ref 2 0 9 0 0), (7, .ref 4 0 3 0 0), (8, .v (.int .i64 d))],
      [(0, .rows true 0 9 [encGame g]), (1, .rows true 0 9 [[.v (.int .i64 0), .v (.slice none 0 0), .v (.slice none 0 0), .v (.slice none 0 0), .v (.int .i64 0), .v (.bool false), .v (.slice none 0 0), .v (.int .i64 0), .v (.int .i64 0)]]),
       (2, .rows true 0 9 [[.v (.int .i64 g.cells), encIss g.next, encIs g.turn, .lst 3 ((g.kinds.map plainK).map encKind), .v (.int .i64 0), .v (.bool false), .lst 4 [], .v (.int .i64 3), .v (.int .i64 2)]]), (3, .rows true 1 1 (g.turn.map encI)), (4, .rows true 0 3 [[.v (.int .i64 (2 * (N : Int))), .sl 5 d 1 0 d, .sl 3 1 1 0 g.turn.length]]), (5, .rows true d 1 ((apartNs g w d).map fun l => [encIs l]))], 6⟩)
    (fun r d => d + r = g.next.length) ?_ g.next.length 0 ?_) ?_ ?_
  · rintro r d i1 hrec
    have lgn := lns d (by omega)
    (repeat (first | with_reducible (first | refine wL fun _ => ?_ | refine wD fun _ => ?_ | refine wE ?_ | refine adrZ.go ?_) | simp [go_sem]))
    refine aIf.mkL (fun hd => ?_) (fun hd => ?_) <;> simp at hd
    · have hlen := nl' _ (nth_mem hd)
      have hval := nv' _ (nth_mem hd)
      have hnsd := hns d hd
      (repeat (first | with_reducible (first | refine wL fun _ => ?_ | refine wD fun _ => ?_ | refine wE ?_ | refine adrZ.go ?_) | simp [go_sem]))
      refine ALoop.start (ALoop.ind (α := Nat) (fun x => ⟨[(1, .v (.int .u8 w)), (2, .ref 0 0 9 0 0), (4, .ref 1 0 9 0 0), (5, .v (.int .i64 N)), (6, .ref 2 0 9 0 0), (7, .ref 4 0 3 0 0), (8, .v (.int .i64 d)), (9, .sl 6 x 1 0 x), (10, .v (.int .i64 x))],
          [(0, .rows true 0 9 [encGame g]), (1, .rows true 0 9 [[.v (.int .i64 0), .v (.slice none 0 0), .v (.slice none 0 0), .v (.slice none 0 0), .v (.int .i64 0), .v (.bool false), .v (.slice none 0 0), .v (.int .i64 0), .v (.int .i64 0)]]),
           (2, .rows true 0 9 [[.v (.int .i64 g.cells), encIss g.next, encIs g.turn, .lst 3 ((g.kinds.map plainK).map encKind), .v (.int .i64 0), .v (.bool false), .lst 4 [], .v (.int .i64 3), .v (.int .i64 2)]]), (3, .rows true 1 1 (g.turn.map encI)), (4, .rows true 0 3 [[.v (.int .i64 (2 * (N : Int))), .sl 5 d 1 0 d, .sl 3 1 1 0 g.turn.length]]), (5, .rows true d 1 ((apartNs g w d).map fun l => [encIs l])),
           (6, .rows true x 1 ((apartL N w (nth g.next d) x).map encI))], 7⟩)
        (fun s x => x + s = 2 * N) ?_ (2 * N) 0 ?_) ?_ ?_
      · rintro s x j1 hrec2
        have lgr : (apartL N w (nth g.next d) x).length = x := apartL_len _ _ _ _
        have lsr := apartL_succ N w (nth g.next d) x
        have hTx := hTs (nth g.next d) x
        (repeat (first | with_reducible (first | refine wL fun _ => ?_ | refine wD fun _ => ?_ | refine wE ?_ | refine adrZ.go ?_) | simp [go_sem]))
        refine aIf.mkL (fun hx => ?_) (fun hx => ?_) <;> simp at hx
        · have hm : (x : Int).tmod (N : Int) = ((x % N : Nat) : Int) := by rw [Int.tmod_eq_emod_of_nonneg (by omega)]; omega
          have hmN : x % N < N := Nat.mod_lt _ (by omega)
          have m0 := Int.tmod_nonneg (8 : Int) (show (0 : Int) ≤ x by omega)
          have m1 := Int.tmod_lt_of_pos (x : Int) (show (0 : Int) < 8 by omega)
          have hq : x % N < (nth g.next d).length := by omega
          have hv := hval _ (nth_mem hq)
          have hbw : bitW w x = decide (andN .u8 (w.fdiv (2 ^ ((x : Int).tmod 8).toNat)) 1 = 1) := rfl
          generalize hb8 : (x : Int).tmod 8 = b8 at *
          generalize hxm : x % N = xm at *
          generalize hto : nth (nth g.next d) xm = to at *
          (repeat (first | with_reducible (first | refine wL fun _ => ?_ | refine wD fun _ => ?_ | refine wE ?_ | refine adrZ.go ?_) | simp [go_sem, hm, hd, hq, hb8, hto]))
          refine aIf.mkL (fun hc => ?_) (fun hc => ?_) <;> rw [← hbw] at hc <;> simp at hc
          · rw [if_pos hc] at hTx
            (repeat (first | with_reducible (first | refine wL fun _ => ?_ | refine wD fun _ => ?_ | refine wE ?_ | refine adrZ.go ?_) | simp [go_sem]))
            refine ALoop.start (hrec2 (s - 1) (by omega) (x + 1) (by omega)) ?_ (by simp)
            simp [go_sem, Wk_eq, lsr, hTx]
          · rw [if_neg (by rw [not_or, not_and]; exact ⟨by omega, fun h => by have := hc.2 h; omega⟩)] at hTx
            (repeat (first | with_reducible (first | refine wL fun _ => ?_ | refine wD fun _ => ?_ | refine wE ?_ | refine adrZ.go ?_) | simp [go_sem]))
            refine aIf.mkL (fun he => ?_) (fun he => ?_) <;> simp at he
            · rw [if_pos he] at hTx
              (repeat (first | with_reducible (first | refine wL fun _ => ?_ | refine wD fun _ => ?_ | refine wE ?_ | refine adrZ.go ?_) | simp [go_sem]))
              refine ALoop.start (hrec2 (s - 1) (by omega) (x + 1) (by omega)) ?_ (by simp)
              simp [go_sem, Wk_eq, lsr, hTx]
            · rw [if_neg (by rw [not_and]; intro h; have := he h; omega)] at hTx
              (repeat (first | with_reducible (first | refine wL fun _ => ?_ | refine wD fun _ => ?_ | refine wE ?_ | refine adrZ.go ?_) | simp [go_sem]))
              refine ALoop.start (hrec2 (s - 1) (by omega) (x + 1) (by omega)) ?_ (by simp)
              simp [go_sem, Wk_eq, lsr, hTx]
        · have hcD : x = 2 * N := by omega
          subst hcD
          (repeat (first | with_reducible (first | refine wL fun _ => ?_ | refine wD fun _ => ?_ | refine wE ?_ | refine adrZ.go ?_) | simp [go_sem]))
          refine ALoop.start (hrec (r - 1) (by omega) (d + 1) (by omega)) ?_ (by simp)
          simp [go_sem, Wk_eq, hnsd]
          refine leRows_append (.refl _) ?_
          refine LeRows.cons (LeRow.cons ?_ LeRow.nil) LeRows.nil
          refine LeV.frz rfl ?_ ?_ (LeRows.of_eq ?_) <;> simp [mkH, upd, lgr, List.take_of_length_le]
      · simp
      · simp [go_sem, Wk_eq, apartL]
      · simp
    · have hd8 : d = g.next.length := by omega
      subst hd8
      (repeat (first | with_reducible (first | refine wL fun _ => ?_ | refine wD fun _ => ?_ | refine wE ?_ | refine adrZ.go ?_) | simp [go_sem]))
      refine ⟨?_, ?_⟩ <;> (refine LeV.frz rfl ?_ ?_ (LeRows.of_eq ?_) <;> simp [noH, lgn, List.take_of_length_le])
  · simp
  · simp [go_sem, Wk_eq, apartNs]
  · simp
end Go.Av
end
section
set_option linter.unusedSimpArgs false
set_option linter.unusedVariables false
open Go Go.Proofs
set_option maxRecDepth 20000
set_option maxHeartbeats 4000000
namespace Go.Av
/-- the first k cells of a walk -/
def stepRows (b : BoardD) (side d : Int) : Nat → Int → List Int
  | 0, _ => []
  | k + 1, x => if 0 ≤ x then x :: stepRows b side d k (toB b side d x) else []
/-- are there perhaps more? -/
def stepMore (b : BoardD) (side d : Int) : Nat → Int → Nat
  | 0, x => if 0 ≤ x then 1 else 0
  | k + 1, x => if 0 ≤ x then stepMore b side d k (toB b side d x) else 0
theorem stepMore_ne {b : BoardD} {side d : Int} : ∀ {k : Nat} {x : Int}, stepMore b side d k x ≠ 2
  | 0, x => by unfold stepMore; split <;> omega
  | k + 1, x => by unfold stepMore; split; exact stepMore_ne; omega
theorem stepsF_seq (b : BoardD) (hb : BoardOk b) (side d c : Int) (k : Nat) : PSeq Try.prog 100 [.fp (encB b), .fp [.v (.int .i64 side)], .fp [.v (.int .i64 d)], .fp [.v (.int .i64 c)]]
    (stepMore b side d k (toB b side d c)) ((stepRows b side d k (toB b side d c)).map encI) := by
  refine PSeq.of_awp (by kernel_rfl) Try.func100 rfl rfl (Nat.le_of_ble_eq_true rfl) (by kernel_rfl) (fun l => ?_) (hm2 := stepMore_ne)
  have hbl : ∀ n, (∀ c' ∈ encB b, Bel n c') = True := fun n => by simp [go_sem]
  have hel : (encB b).length = 3 := rfl
  have hT : ∀ x, Pure Try.prog 92 [.agg (encB b), .v (.int .i64 side), .v (.int .i64 d), .v (.int .i64 x)] (.v (.int .i64 (toB b side d x))) := fun x => bTo_pure b hb side d x
  have hg : ∀ (n k : Nat) (x : Int), Bel n (ghost l (stepMore b side d k x) ((stepRows b side d k x).map encI)) := fun n k x => by
    simp only [ghost, Bel_gd, Bel_tup, List.forall_mem_cons, Bel_v, Bel_lst]
    simp [go_sem]
  obtain ⟨eb, heb⟩ : ∃ eb, eb = encB b := ⟨_, rfl⟩
  rw [← heb] at hbl hel hT ⊢
  have hte : eb.take 3 = eb := List.take_of_length_le (by omega)
  (repeat (first | with_reducible (first | refine wL fun _ => ?_ | refine wD fun _ => ?_ | refine wE ?_ | refine adrZ.go ?_) | simp [go_sem, hel, GH, hte]))
  refine ACallP.plain (hT c) (by simp [go_sem, hbl]) ?_
  (repeat (first | with_reducible (first | refine wL fun _ => ?_ | refine wD fun _ => ?_ | refine wE ?_ | refine adrZ.go ?_) | simp [go_sem, hel, GH, hte]))
  refine ALoop.start (ALoop.ind (α := Nat × Int) (fun a => ⟨[(0, .fn (.yield l) [] []), (1, .fp eb), (2, .fp [.v (.int .i64 side)]), (3, .fp [.v (.int .i64 d)]), (6, .v (.int .i64 a.2)), (1000000007, ghost l (stepMore b side d a.1 a.2) ((stepRows b side d a.1 a.2).map encI))], [], 0⟩)
    (fun f a => f = a.1 ∧ stepMore b side d a.1 a.2 = stepMore b side d k (toB b side d c)) ?_ k (k, toB b side d c) ?_) ?_ ?_
  · rintro f ⟨k', x⟩ ⟨i1, i2⟩ hrec
    simp only at i1 i2
    subst i1
    (repeat (first | with_reducible (first | refine wL fun _ => ?_ | refine wD fun _ => ?_ | refine wE ?_ | refine adrZ.go ?_) | simp [go_sem, hel, GH, hte]))
    by_cases hx : 0 ≤ x
    · simp only [hx, decide_true]
      cases f with
      | zero => exact aGC.exh (by simp [upd, GH, stepMore, stepRows, hx])
      | succ f =>
        refine aGC.yld (more := stepMore b side d f (toB b side d x)) (xs := [.v (.int .i64 x)]) (rs := (stepRows b side d f (toB b side d x)).map encI) noH (by simp [upd, GH, stepMore, stepRows, hx, encI]) (.refl _) (.refl _ _ _ _) (by simp [go_sem]) ?_ ?_
        · (repeat (first | with_reducible (first | refine wL fun _ => ?_ | refine wD fun _ => ?_ | refine wE ?_ | refine adrZ.go ?_) | simp [go_sem, hel, GH, hte]))
          refine ACallP.plain (hT x) (by simp [go_sem, hbl]) ?_
          (repeat (first | with_reducible (first | refine wL fun _ => ?_ | refine wD fun _ => ?_ | refine wE ?_ | refine adrZ.go ?_) | simp [go_sem, hel, GH, hte]))
          rw [stepMore, if_pos hx] at i2
          refine ALoop.start (hrec f (by omega) (f, toB b side d x) ⟨rfl, i2⟩) ?_ (by simp)
          simp [go_sem, Wk_eq, hbl, hg, GH]
        · (repeat (first | with_reducible (first | refine wL fun _ => ?_ | refine wD fun _ => ?_ | refine wE ?_ | refine adrZ.go ?_) | simp [go_sem, hel, GH, hte]))
    · have hm : stepMore b side d f x = 0 := by cases f <;> simp [stepMore, hx]
      have hr : stepRows b side d f x = [] := by cases f <;> simp [stepRows, hx]
      simp only [hx, decide_false]
      refine aGC.skip (.v (.bool false)) ?_
      (repeat (first | with_reducible (first | refine wL fun _ => ?_ | refine wD fun _ => ?_ | refine wE ?_ | refine adrZ.go ?_) | simp [go_sem, hel, GH, hte]))
      rw [← i2, hm, hr]
      exact .inl ⟨rfl, rfl⟩
  · exact ⟨rfl, rfl⟩
  · simp [go_sem, Wk_eq, hbl, hg, GH]
  · simp
def stepsR (n : Nat) : AV := .fn (.func 100) [] [.ref n 0 3 0 0, .ref (n + 1) 0 1 0 0, .ref (n + 2) 0 1 0 0, .ref (n + 3) 0 1 0 0]
def stepsH (b : BoardD) (side d c : Int) (n : Nat) : List (Nat × AObj) := [(n, .rows true 0 3 [encB b]), (n + 1, .rows true 0 1 [[.v (.int .i64 side)]]), (n + 2, .rows true 0 1 [[.v (.int .i64 d)]]), (n + 3, .rows true 0 1 [[.v (.int .i64 c)]])]
theorem steps_owns (b : BoardD) (side d c : Int) : Owns Try.prog 98 [.agg (encB b), .v (.int .i64 side), .v (.int .i64 d), .v (.int .i64 c)] stepsR (stepsH b side d c) 4 := by
  refine ⟨?_, fun n => ⟨by simp [go_sem, stepsR], by simp [go_sem, stepsH]⟩⟩
  refine ACallP.of_awp (by kernel_rfl) Try.func98 rfl rfl (Nat.le_of_ble_eq_true rfl) (by kernel_rfl) ?_
  (repeat (first | with_reducible (first | refine wL fun _ => ?_ | refine wD fun _ => ?_ | refine wE ?_ | refine adrZ.go ?_) | simp [go_sem, stepsR, stepsH]))
  simp [go_sem, Wk_eq]
theorem bLine_pure (b : BoardD) (hb : BoardOk b) (side d c : Int) : Pure Try.prog 93 [.agg (encB b), .v (.int .i64 side), .v (.int .i64 d), .v (.int .i64 c)] (encIs (lineB b side d c)) := by
  refine Pure.of (ACallP.of_awp (by kernel_rfl) Try.func93 rfl rfl (Nat.le_of_ble_eq_true rfl) (by kernel_rfl) ?_)
  have hbl : ∀ n, (∀ c' ∈ encB b, Bel n c') = True := fun n => by simp [go_sem]
  have hel : (encB b).length = 3 := rfl
  have hS : Owns Try.prog 98 [.agg (encB b), .v (.int .i64 side), .v (.int .i64 d), .v (.int .i64 c)] (fun n => stepsR n) (fun n => stepsH b side d c n) 4 := steps_owns b side d c
  have hQ := fun k => stepsF_seq b hb side d c k
  simp only [stepsR, stepsH] at hS
  have hte : (encB b).take 3 = encB b := rfl
  obtain ⟨eb, heb⟩ : ∃ eb, eb = encB b := ⟨_, rfl⟩
  rw [← heb] at hbl hel hS hQ hte ⊢
  have hc1 := hb.c1
  have hc0 := hb.c0
  (repeat (first | with_reducible (first | refine wL fun _ => ?_ | refine wD fun _ => ?_ | refine wE ?_ | refine adrZ.go ?_) | simp [go_sem, hel, hte, GH]))
  refine ACallP.ownsPlain hS (by simp [go_sem, hbl]) ?_
  (repeat (first | with_reducible (first | refine wL fun _ => ?_ | refine wD fun _ => ?_ | refine wE ?_ | refine adrZ.go ?_) | simp [go_sem, hel, hte, GH]))
  refine aRange.mk [.fp eb, .fp [.v (.int .i64 side)], .fp [.v (.int .i64 d)], .fp [.v (.int .i64 c)]] (frzO _ [3, 4, 5, 6]) (hQ (b.cells.toNat + 1)) (frz_frzO _ _) ?_ (by simp [go_sem, hbl]) (by simp [encI]) ?_
  · refine LeRow.cons (.frzP rfl ?_ ?_ ?_ ?_) (LeRow.cons (.frzP rfl ?_ ?_ ?_ ?_) (LeRow.cons (.frzP rfl ?_ ?_ ?_ ?_) (LeRow.cons (.frzP rfl ?_ ?_ ?_ ?_) .nil))) <;> first | exact LeRow.refl _ _ _ _ | simp [frzO, frz1, upd]
  refine Fgt.to (ARange.ind (α := Nat × Int × List Int) (fun a => ([(7, .ref 1 0 1 0 0), (9, .ref 2 0 1 0 0)], [(1, .rows true 0 1 [[.v (.int .i64 c)]]), (2, .rows true 0 1 [[.sl 7 a.2.2.length 1 0 a.2.2.length]]), (7, .rows true a.2.2.length 1 (a.2.2.map encI))], 8))
    (fun rows a => rows = (stepRows b side d a.1 a.2.1).map encI ∧ stepMore b side d a.1 a.2.1 = stepMore b side d (b.cells.toNat + 1) (toB b side d c) ∧ a.1 + a.2.2.length = b.cells.toNat + 1 ∧ a.2.1 < b.cells ∧ a.2.2.Nodup ∧
      (∀ y ∈ a.2.2, 0 ≤ y ∧ y < b.cells) ∧ lineB b side d c = lineGo b side d c a.1 a.2.1 a.2.2) ?_ ?_ _ (b.cells.toNat + 1, toB b side d c, []) ?_) ?_ ?_
  · rintro ⟨f, x, seen⟩ ⟨i0, i1, i2, i3, i4, i5, i6⟩
    simp only at i0 i1 i2 i3 i4 i5 i6
    have hsl : seen.length ≤ b.cells.toNat := nodup_le _ _ i4 (fun y hy => by have := i5 y hy; omega)
    obtain ⟨f, rfl⟩ : ∃ f', f = f' + 1 := ⟨f - 1, by omega⟩
    have hx : ¬ 0 ≤ x := fun hx => by simp [stepRows, hx] at i0
    rw [stepMore, if_neg hx] at i1
    rw [lineGo, if_neg (fun h => hx h.1)] at i6
    refine ⟨i1.symm, ?_⟩
    rw [i6]
    (repeat (first | with_reducible (first | refine wL fun _ => ?_ | refine wD fun _ => ?_ | refine wE ?_ | refine adrZ.go ?_) | simp [go_sem, hel]))
    (refine leV_frz rfl (by simp) (by simp [noH, upd]) ?_; first | (simp [go_sem]; done) | (simp [go_sem]; exact List.take_of_length_le (by simp)))
  · rintro xs rs ⟨f, x, seen⟩ ⟨i0, i1, i2, i3, i4, i5, i6⟩ hrec
    simp only at i0 i1 i2 i3 i4 i5 i6
    have hsl : seen.length ≤ b.cells.toNat := nodup_le _ _ i4 (fun y hy => by have := i5 y hy; omega)
    cases f with
    | zero => simp [stepRows] at i0
    | succ f =>
    have hx : 0 ≤ x := by
      by_cases hx : 0 ≤ x
      · exact hx
      · simp [stepRows, hx] at i0
    rw [stepRows, if_pos hx] at i0
    simp only [List.map_cons, List.cons.injEq] at i0
    obtain ⟨rfl, rfl⟩ := i0
    rw [stepMore, if_pos hx] at i1
    rw [lineGo] at i6
    refine ARange.go (Nat.zero_le _) ?_
    (repeat (first | with_reducible (first | refine wL fun _ => ?_ | refine wD fun _ => ?_ | refine wE ?_ | refine adrZ.go ?_) | simp [go_sem, hel, GH, encI]))
    refine aGC.flat [encIs seen, .v (.int .i64 x)] (.v (.bool (decide (x ∈ seen)))) (fun _ => Contains_pure seen x (by omega)) (.v _) ?_ (by simp [go_sem]) ?_
    · refine LeRow.cons ?_ (LeRow.cons (.refl _) LeRow.nil)
      refine LeV.frz rfl ?_ ?_ (LeRows.of_eq ?_) <;> simp [noH, List.take_of_length_le]
    (repeat (first | with_reducible (first | refine wL fun _ => ?_ | refine wD fun _ => ?_ | refine wE ?_ | refine adrZ.go ?_) | simp [go_sem, hel, GH]))
    refine aIf.mkL (fun hc => ?_) (fun hc => ?_) <;> simp at hc
    · rw [if_neg (by rintro ⟨h1, h2, h3⟩; rcases hc with h | h <;> contradiction)] at i6
      rw [i6]
      (repeat (first | with_reducible (first | refine wL fun _ => ?_ | refine wD fun _ => ?_ | refine wE ?_ | refine adrZ.go ?_) | simp [go_sem, hel, GH]))
      (refine leV_frz rfl (by simp) (by simp [noH, upd]) ?_; first | (simp [go_sem]; done) | (simp [go_sem]; exact List.take_of_length_le (by simp)))
    · rw [if_pos ⟨hx, by simpa using hc⟩] at i6
      (repeat (first | with_reducible (first | refine wL fun _ => ?_ | refine wD fun _ => ?_ | refine wE ?_ | refine adrZ.go ?_) | simp [go_sem, hel, GH]))
      refine Fgt.to (hrec (f, toB b side d x, seen ++ [x]) ⟨rfl, i1, by simp only [List.length_append, List.length_singleton]; omega, toB_lt hb _ _ _, ?_, ?_, i6⟩) ?_ (by simp)
      · refine List.nodup_append.2 ⟨i4, by simp, ?_⟩
        intro y hy z hz
        simp at hz
        subst hz
        rintro rfl
        exact hc.2 hy
      · intro y hy
        rcases List.mem_append.1 hy with h | h
        · exact i5 y h
        · simp at h; omega
      · simp [go_sem, Wk_eq, GH] <;> (intro r hr c hc; (first | (rcases hr with ⟨_, _, rfl⟩ | rfl) | (rcases hr with rfl | ⟨_, _, rfl⟩) | (rcases hr with rfl | rfl) | ((rcases List.mem_or_eq_of_mem_set hr with hr | rfl) <;> first | (obtain ⟨_, _, rfl⟩ := List.mem_map.1 hr; simp only [encI] at hc) | skip) | (rcases hr with ⟨_, rfl⟩ | ⟨_, rfl⟩) | (rcases hr with ⟨_, _, rfl⟩ | ⟨_, rfl⟩) | (rcases hr with ⟨_, rfl⟩ | ⟨_, _, rfl⟩) | (rcases hr with ⟨_, _, rfl⟩ | ⟨_, _, rfl⟩) | (obtain ⟨_, rfl⟩ := hr) | (obtain ⟨_, _, rfl⟩ := hr)) <;> simp at hc <;> (try subst hc) <;> first | exact .v _ | (rcases hc with rfl | rfl <;> exact .v _))
  · exact ⟨rfl, rfl, by simp, toB_lt hb _ _ _, by simp, by simp, rfl⟩
  · simp [go_sem, Wk_eq]
  · simp
end Go.Av
end
