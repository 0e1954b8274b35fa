/- Texts of ours, part 11: our library and contracts of functions. -/
import Derived.Test.YtedhfmmlhfmomaaGreatDoorB10
import Derived.Test.YtedhfmmlhfmomaaGreatDoorChecked
import Derived.Shelf.GgClosure.StringsIndexFunc
set_option linter.unusedSimpArgs false
set_option linter.unusedVariables false
set_option maxRecDepth 100000
set_option maxHeartbeats 40000000
section
open Go Go.Proofs
namespace Go.Av
def zuC {α : Type} (p : α → Bool) (l : List α) : Int := match l.findIdx? p with | some i => (i : Int) | none => -1
theorem zj2 {α : Type} [Inhabited α] {p : α → Bool} {l : List α} {j : Nat} (hj : j < l.length) (h : ∀ i, i < j → p (nth l i) = false) (hp : p (nth l j) = true) : zuC p l = j := by
 have : l.findIdx? p = some j := by
  rw [List.findIdx?_eq_some_iff_getElem]
  refine ⟨hj, by rw [← zaA _ _ hj]; exact hp, fun i hi => ?_⟩
  have := h i hi
  rw [zaA _ _ (by omega)] at this
  simp [this]
 simp [zuC, this]
theorem zhi {α : Type} [Inhabited α] {p : α → Bool} {l : List α} (h : ∀ i, i < l.length → p (nth l i) = false) : zuC p l = -1 := by
 have : l.findIdx? p = none := by
  rw [List.findIdx?_eq_none_iff]
  intro x hx
  obtain ⟨i, hi, rfl⟩ := List.getElem_of_mem hx
  have := h i hi
  rw [zaA _ _ hi] at this
  exact this
 simp [zuC, this]
theorem zja {α : Type} {p : α → Bool} {l : List α} : decide (0 ≤ zuC p l) = l.any p := by
 unfold zuC
 cases h : l.findIdx? p with
 | none =>
  rw [List.findIdx?_eq_none_iff] at h
  simp
  simpa using h
 | some i =>
  have := List.findIdx?_isSome (xs := l) (p := p)
  rw [h] at this
  simp at this ⊢
  exact this
theorem zfl (l : List (zc6)) (hl : l.length ≤ 1048576) (f : FuncId) (caps : List AV) (p : (zc6) → Bool) (hp : ∀ x ∈ l, zaJ Tryz.prog f (.agg (zay x) :: caps) (.v (.bool (p x)))) (hb' : ∀ c ∈ caps, Bel 0 c) :
  zaJ Tryz.prog 181 [.lst 3 (l.map zay), .fn (.func f) [] caps] (.v (.int .i64 (zuC p l))) := by
 refine pF Tryz.func181 ?_
 have hA : ∀ x : (zc6), ∀ m, Bel m (.agg (zay x)) := fun x m => by simp [go_sem]
 repeat first|refine wV fun _=>?_|simp [go_sem]
 refine zBh (zBk (α := Nat) (fun j => ⟨[(0, .lst 3 (l.map zay)), (1, .fn (.func f) [] caps), (7, .v (.int .i64 l.length)), (8, .v (.int .i64 j))], [], 0⟩)
  (fun d j => j + d = l.length ∧ (∀ i < j, p (nth l i) = false)) ?_ l.length 0 ?_) ?_ ?_
 ·rintro d j ⟨i1, i2⟩ hrec
  repeat first|refine wV fun _=>?_|simp [go_sem]
  refine zBj (fun hj => ?_) (fun hj => ?_) <;> simp at hj
  ·repeat first|refine wV fun _=>?_|simp [go_sem, hj]
   refine zBi (hp _ (zah hj)) (fun c hc => by
    simp only [List.nil_append, List.cons_append, List.mem_cons] at hc
    rcases hc with rfl | h
    ·exact hA _ _
    ·exact hb' c h) ?_
   repeat first|refine wV fun _=>?_|simp [go_sem]
   refine zBj (fun h => ?_) (fun h => ?_)
   ·repeat first|refine wV fun _=>?_|simp [go_sem, zj2 hj i2 h]
   ·repeat first|refine wV fun _=>?_|simp [go_sem]
    refine zBh (hrec (d - 1) (by omega) (j + 1) ⟨by omega, fun i hi => ?_⟩) ?_ (by simp)
    ·rcases Nat.lt_or_ge i j with h' | h'
     ·exact i2 i h'
     ·obtain rfl : i = j := by omega
      exact h
    ·simp [go_sem, zaf]
     exact hb'
  ·have hn := zhi (p := p) (l := l) fun i hi => i2 i (by omega)
   repeat first|refine wV fun _=>?_|simp [go_sem, hn]
 ·simp
 ·simp [go_sem, zaf]
  exact hb'
 ·simp
theorem zgU (l : List (zc6)) (hl : l.length ≤ 1048576) (f : FuncId) (caps : List AV) (p : (zc6) → Bool) (hp : ∀ x ∈ l, zaJ Tryz.prog f (.agg (zay x) :: caps) (.v (.bool (p x)))) (hb' : ∀ c ∈ caps, Bel 0 c) :
  zaJ Tryz.prog 119 [.lst 3 (l.map zay), .fn (.func f) [] caps] (.v (.bool (l.any p))) := by
 refine pF Tryz.func119 ?_
 have hI := zfl l hl f caps p hp hb'
 repeat first|refine wV fun _=>?_|simp [go_sem]
 refine zBi hI (by simp [go_sem]; exact hb') ?_
 repeat first|refine wV fun _=>?_|simp [go_sem, zja]
theorem zjn (l : List (List (Int × Int))) (hl : l.length ≤ 1048576) (f : FuncId) (caps : List AV) (p : (List (Int × Int)) → Bool) (hp : ∀ x ∈ l, zaJ Tryz.prog f (zaq x :: caps) (.v (.bool (p x)))) (hb' : ∀ c ∈ caps, Bel 0 c) :
  zaJ Tryz.prog 226 [.lst 1 (l.map fun p => [zaq p]), .fn (.func f) [] caps] (.v (.int .i64 (zuC p l))) := by
 refine pF Tryz.func226 ?_
 have hA : ∀ x : (List (Int × Int)), ∀ m, Bel m (zaq x) := fun x m => by simp [go_sem]
 repeat first|refine wV fun _=>?_|simp [go_sem]
 refine zBh (zBk (α := Nat) (fun j => ⟨[(0, .lst 1 (l.map fun p => [zaq p])), (1, .fn (.func f) [] caps), (7, .v (.int .i64 l.length)), (8, .v (.int .i64 j))], [], 0⟩)
  (fun d j => j + d = l.length ∧ (∀ i < j, p (nth l i) = false)) ?_ l.length 0 ?_) ?_ ?_
 ·rintro d j ⟨i1, i2⟩ hrec
  repeat first|refine wV fun _=>?_|simp [go_sem]
  refine zBj (fun hj => ?_) (fun hj => ?_) <;> simp at hj
  ·repeat first|refine wV fun _=>?_|simp [go_sem, hj]
   refine zBi (hp _ (zah hj)) (fun c hc => by
    simp only [List.nil_append, List.cons_append, List.mem_cons] at hc
    rcases hc with rfl | h
    ·exact hA _ _
    ·exact hb' c h) ?_
   repeat first|refine wV fun _=>?_|simp [go_sem]
   refine zBj (fun h => ?_) (fun h => ?_)
   ·repeat first|refine wV fun _=>?_|simp [go_sem, zj2 hj i2 h]
   ·repeat first|refine wV fun _=>?_|simp [go_sem]
    refine zBh (hrec (d - 1) (by omega) (j + 1) ⟨by omega, fun i hi => ?_⟩) ?_ (by simp)
    ·rcases Nat.lt_or_ge i j with h' | h'
     ·exact i2 i h'
     ·obtain rfl : i = j := by omega
      exact h
    ·simp [go_sem, zaf]
     exact hb'
  ·have hn := zhi (p := p) (l := l) fun i hi => i2 i (by omega)
   repeat first|refine wV fun _=>?_|simp [go_sem, hn]
 ·simp
 ·simp [go_sem, zaf]
  exact hb'
 ·simp
theorem zgV (l : List (List (Int × Int))) (hl : l.length ≤ 1048576) (f : FuncId) (caps : List AV) (p : (List (Int × Int)) → Bool) (hp : ∀ x ∈ l, zaJ Tryz.prog f (zaq x :: caps) (.v (.bool (p x)))) (hb' : ∀ c ∈ caps, Bel 0 c) :
  zaJ Tryz.prog 177 [.lst 1 (l.map fun p => [zaq p]), .fn (.func f) [] caps] (.v (.bool (l.any p))) := by
 refine pF Tryz.func177 ?_
 have hI := zjn l hl f caps p hp hb'
 repeat first|refine wV fun _=>?_|simp [go_sem]
 refine zBi hI (by simp [go_sem]; exact hb') ?_
 repeat first|refine wV fun _=>?_|simp [go_sem, zja]
theorem zjm (l : List (Int × Int × Int × Int)) (hl : l.length ≤ 1048576) (f : FuncId) (caps : List AV) (p : (Int × Int × Int × Int) → Bool) (hp : ∀ x ∈ l, zaJ Tryz.prog f (.agg (zaz x) :: caps) (.v (.bool (p x)))) (hb' : ∀ c ∈ caps, Bel 0 c) :
  zaJ Tryz.prog 227 [.lst 4 (l.map zaz), .fn (.func f) [] caps] (.v (.int .i64 (zuC p l))) := by
 refine pF Tryz.func227 ?_
 have hA : ∀ x : (Int × Int × Int × Int), ∀ m, Bel m (.agg (zaz x)) := fun x m => by simp [go_sem]
 repeat first|refine wV fun _=>?_|simp [go_sem]
 refine zBh (zBk (α := Nat) (fun j => ⟨[(0, .lst 4 (l.map zaz)), (1, .fn (.func f) [] caps), (7, .v (.int .i64 l.length)), (8, .v (.int .i64 j))], [], 0⟩)
  (fun d j => j + d = l.length ∧ (∀ i < j, p (nth l i) = false)) ?_ l.length 0 ?_) ?_ ?_
 ·rintro d j ⟨i1, i2⟩ hrec
  repeat first|refine wV fun _=>?_|simp [go_sem]
  refine zBj (fun hj => ?_) (fun hj => ?_) <;> simp at hj
  ·repeat first|refine wV fun _=>?_|simp [go_sem, hj]
   refine zBi (hp _ (zah hj)) (fun c hc => by
    simp only [List.nil_append, List.cons_append, List.mem_cons] at hc
    rcases hc with rfl | h
    ·exact hA _ _
    ·exact hb' c h) ?_
   repeat first|refine wV fun _=>?_|simp [go_sem]
   refine zBj (fun h => ?_) (fun h => ?_)
   ·repeat first|refine wV fun _=>?_|simp [go_sem, zj2 hj i2 h]
   ·repeat first|refine wV fun _=>?_|simp [go_sem]
    refine zBh (hrec (d - 1) (by omega) (j + 1) ⟨by omega, fun i hi => ?_⟩) ?_ (by simp)
    ·rcases Nat.lt_or_ge i j with h' | h'
     ·exact i2 i h'
     ·obtain rfl : i = j := by omega
      exact h
    ·simp [go_sem, zaf]
     exact hb'
  ·have hn := zhi (p := p) (l := l) fun i hi => i2 i (by omega)
   repeat first|refine wV fun _=>?_|simp [go_sem, hn]
 ·simp
 ·simp [go_sem, zaf]
  exact hb'
 ·simp
theorem zgT (l : List (Int × Int × Int × Int)) (hl : l.length ≤ 1048576) (f : FuncId) (caps : List AV) (p : (Int × Int × Int × Int) → Bool) (hp : ∀ x ∈ l, zaJ Tryz.prog f (.agg (zaz x) :: caps) (.v (.bool (p x)))) (hb' : ∀ c ∈ caps, Bel 0 c) :
  zaJ Tryz.prog 178 [.lst 4 (l.map zaz), .fn (.func f) [] caps] (.v (.bool (l.any p))) := by
 refine pF Tryz.func178 ?_
 have hI := zjm l hl f caps p hp hb'
 repeat first|refine wV fun _=>?_|simp [go_sem]
 refine zBi hI (by simp [go_sem]; exact hb') ?_
 repeat first|refine wV fun _=>?_|simp [go_sem, zja]
theorem zjo (l : List (Int × Int)) (hl : l.length ≤ 1048576) (f : FuncId) (caps : List AV) (p : (Int × Int) → Bool) (hp : ∀ x ∈ l, zaJ Tryz.prog f (.agg (zaE x) :: caps) (.v (.bool (p x)))) (hb' : ∀ c ∈ caps, Bel 0 c) :
  zaJ Tryz.prog 262 [zaq l, .fn (.func f) [] caps] (.v (.int .i64 (zuC p l))) := by
 refine pF Tryz.func262 ?_
 have hA : ∀ x : (Int × Int), ∀ m, Bel m (.agg (zaE x)) := fun x m => by simp [go_sem]
 repeat first|refine wV fun _=>?_|simp [go_sem]
 refine zBh (zBk (α := Nat) (fun j => ⟨[(0, zaq l), (1, .fn (.func f) [] caps), (7, .v (.int .i64 l.length)), (8, .v (.int .i64 j))], [], 0⟩)
  (fun d j => j + d = l.length ∧ (∀ i < j, p (nth l i) = false)) ?_ l.length 0 ?_) ?_ ?_
 ·rintro d j ⟨i1, i2⟩ hrec
  repeat first|refine wV fun _=>?_|simp [go_sem]
  refine zBj (fun hj => ?_) (fun hj => ?_) <;> simp at hj
  ·repeat first|refine wV fun _=>?_|simp [go_sem, hj]
   refine zBi (hp _ (zah hj)) (fun c hc => by
    simp only [List.nil_append, List.cons_append, List.mem_cons] at hc
    rcases hc with rfl | h
    ·exact hA _ _
    ·exact hb' c h) ?_
   repeat first|refine wV fun _=>?_|simp [go_sem]
   refine zBj (fun h => ?_) (fun h => ?_)
   ·repeat first|refine wV fun _=>?_|simp [go_sem, zj2 hj i2 h]
   ·repeat first|refine wV fun _=>?_|simp [go_sem]
    refine zBh (hrec (d - 1) (by omega) (j + 1) ⟨by omega, fun i hi => ?_⟩) ?_ (by simp)
    ·rcases Nat.lt_or_ge i j with h' | h'
     ·exact i2 i h'
     ·obtain rfl : i = j := by omega
      exact h
    ·simp [go_sem, zaf]
     exact hb'
  ·have hn := zhi (p := p) (l := l) fun i hi => i2 i (by omega)
   repeat first|refine wV fun _=>?_|simp [go_sem, hn]
 ·simp
 ·simp [go_sem, zaf]
  exact hb'
 ·simp
theorem zgW (l : List (Int × Int)) (hl : l.length ≤ 1048576) (f : FuncId) (caps : List AV) (p : (Int × Int) → Bool) (hp : ∀ x ∈ l, zaJ Tryz.prog f (.agg (zaE x) :: caps) (.v (.bool (p x)))) (hb' : ∀ c ∈ caps, Bel 0 c) :
  zaJ Tryz.prog 221 [zaq l, .fn (.func f) [] caps] (.v (.bool (l.any p))) := by
 refine pF Tryz.func221 ?_
 have hI := zjo l hl f caps p hp hb'
 repeat first|refine wV fun _=>?_|simp [go_sem]
 refine zBi hI (by simp [go_sem]; exact hb') ?_
 repeat first|refine wV fun _=>?_|simp [go_sem, zja]
end Go.Av
end
section
open Go Go.Proofs Go.RowKit Go.Lib
namespace Go.Av
def PredD (P : Program) (g : Nat) (p : Nat → Bool) (w0 : World) : Prop :=
 ∀ (W : World) (x : Nat), Below w0.heap.size w0 W → Calls P g #[.int .i32 (x : Int)] W fun e w' => e = .returned (.bool (p x)) ∧ Below W.heap.size W w' ∧ W.drawn ≤ w'.drawn
set_option maxHeartbeats 2000000 in
set_option maxRecDepth 1000000 in
theorem zj4 (g : Nat) (eg : ∀ args w, (callFunc g args).run Tryz.prog w = .ok (.enter g args) w) (p : Nat → Bool) (s : ByteArray) (w : World) (hp : PredD Tryz.prog g p w) :
  Calls Tryz.prog 263 #[.string s, .func (.func g) #[] #[], .bool true] w fun e w' => e = .returned (.int .i64 (Lib.idxFunc p true s)) ∧ Below w.heap.size w w' ∧ w.drawn ≤ w'.drawn := by
 have t0 := Tryz.underlying0; have a0 := Tryz.isAgg0; have z0 := Tryz.sizeOf0; have v0 := Tryz.zeroValue0
 have t3 := Tryz.underlying3; have a3 := Tryz.isAgg3; have z3 := Tryz.sizeOf3; have v3 := Tryz.zeroValue3
 have t4 := Tryz.underlying4; have a4 := Tryz.isAgg4; have z4 := Tryz.sizeOf4; have v4 := Tryz.zeroValue4
 have t9 := Tryz.underlying9; have a9 := Tryz.isAgg9; have z9 := Tryz.sizeOf9; have v9 := Tryz.zeroValue9
 have t21 := Tryz.underlying21; have a21 := Tryz.isAgg21; have z21 := Tryz.sizeOf21; have v21 := Tryz.zeroValue21
 have t40 := Tryz.underlying294; have a40 := Tryz.isAgg294; have z40 := Tryz.sizeOf294; have v40 := Tryz.zeroValue294
 go_enter Tryz.func263, Tryz.ntmps263
 go_wp2
 go_loopg [] s.size (fun gf wx => ∃ pos : Nat, wx.heap[w.heap.size]? = some (.stringIter s pos) ∧ (Below w.heap.size w wx ∧ w.drawn ≤ wx.drawn) ∧ Lib.idxFuncFrom p true s gf pos = Lib.idxFunc p true s ∧ s.size ≤ pos + gf)
 case atStart => exact ⟨0, World.iter_heap w s 0, ⟨(Below.refl _ w).alloc (Nat.le_refl _) _, Nat.le_refl _⟩, rfl, by omega⟩
 case round =>
  obtain ⟨pos, hit, ⟨hbw, hdr⟩, hleft, hfu⟩ := hrel
  by_cases hps : pos < s.size
  ·obtain ⟨g', rfl⟩ : ∃ g', gk = g' + 1 := ⟨gk - 1, by omega⟩
   have hnx : ∀ ty, (Instr.next (.pointer (some ⟨w.heap.size, 0, none⟩)) true ty).run Tryz.prog wr = _ := fun ty => Lib.run_next_any_at wr w.heap.size s pos ty hit hps
   have hwd := Lib.width_pos s pos
   obtain ⟨R, hR⟩ : ∃ R, (Utf8.decode s pos).1 = R := ⟨_, rfl⟩
   obtain ⟨K, hK⟩ : ∃ K, (Utf8.decode s pos).2 = K := ⟨_, rfl⟩
   simp only [Lib.idxFuncFrom, hps, if_true, hR, hK] at hleft
   rw [hR, hK] at hnx
   rw [hK] at hwd
   have hit2 := Lib.iterAt_heap wr w.heap.size s pos (pos + K) hit
   have hbw2 := Lib.below_iterAt hbw (k := w.heap.size) (Nat.le_refl _) s (pos + K)
   have hdr2 : w.drawn ≤ (wr.iterAt w.heap.size s (pos + K)).drawn := hdr
   obtain ⟨W, hWd⟩ : ∃ W, wr.iterAt w.heap.size s (pos + K) = W := ⟨_, rfl⟩
   rw [hWd] at hnx hit2 hbw2 hdr2
   have hltW : w.heap.size < W.heap.size := (Array.getElem?_eq_some_iff.1 hit2).1
   have cS : Calls Tryz.prog g (#[.int .i32 (R : Int)] ++ #[]) W _ := hp W R hbw2
   clear hp
   cases hsp : p R <;> rw [hsp] at cS <;> simp only [hsp, if_true, Bool.false_eq_true, Bool.true_eq_false, if_false] at hleft
   ·go_wp2_with (go_at_fn g; refine cS.mono ?_; rintro e W' ⟨rfl, hbc, hdc⟩)
    go_roundg g'
    case measure => omega
    case rel => exact ⟨pos + K, (hbc.block _ hltW).trans hit2, ⟨(hbw2.trans (hbc.mono hbw2.size)), Nat.le_trans hdr2 hdc⟩, hleft, by omega⟩
   ·go_wp2_with (go_at_fn g; refine cS.mono ?_; rintro e W' ⟨rfl, hbc, hdc⟩)
    go_ret
    exact ⟨by rw [← hleft] <;> rfl, (hbw2.trans (hbc.mono hbw2.size)), Nat.le_trans hdr2 hdc⟩
  ·have hnx : ∀ ty, (Instr.next (.pointer (some ⟨w.heap.size, 0, none⟩)) true ty).run Tryz.prog wr = _ := fun ty => Lib.run_next_end_at wr w.heap.size s pos ty hit hps
   rw [Lib.idxFuncFrom_end p true s gk pos hps] at hleft
   go_wp2
   go_ret
   exact ⟨by rw [← hleft] <;> rfl, hbw, hdr⟩
end Go.Av
end
section
open Go Go.Proofs
namespace Go.Av
theorem zlh (g : FuncId) (p : Nat → Bool) (hg : ∀ x : Nat, zaJ Tryz.prog g [.v (.int .i32 x)] (.v (.bool (p x)))) (s : ByteArray) :
  zaJ Tryz.prog 263 [.v (.string s), .fn (.func g) [] [], .v (.bool true)] (.v (.int .i64 (Lib.idxFunc p true s))) := by
 refine ⟨zhb Tryz.func263 rfl rfl, fun M w vs hM hgl hr => ?_⟩
 cases hr with
 | cons h1 hr =>
 cases hr with
 | cons h2 hr =>
 cases hr with
 | cons h3 hr =>
 cases hr
 cases h1
 cases h3
 cases h2 with
 | @fn _ _ _ fs cs q1 q2 =>
 cases q1; cases q2
 have hp : PredD Tryz.prog g p w := fun W x hB => by
  refine ((hg x).2 (fun _ => False) W [.int .i32 x] (fun _ h => h.elim) (hgl.keep (fun k _ hk => hB.block k hk) (fun k h => h.elim)) (.cons (.v _) .nil)).mono ?_
  rintro e w' ⟨v, rfl, hrv, hfr⟩
  cases hrv
  exact ⟨rfl, ⟨hfr.os, hfr.tape, hfr.output, hfr.size, fun k hk => hfr.block k hk (fun h => h)⟩, hfr.drawn⟩
 refine (zj4 g (hg 0).1 p s w hp).mono ?_
 rintro e w' ⟨rfl, hb, hd⟩
 exact ⟨_, rfl, .v _, ⟨hb.os, hb.tape, hb.output, hd, hb.size, fun k hk _ => hb.block k hk⟩⟩
theorem zkF (g : FuncId) (p : Nat → Bool) (hg : ∀ x : Nat, zaJ Tryz.prog g [.v (.int .i32 x)] (.v (.bool (p x)))) (s : ByteArray) :
  zaJ Tryz.prog 223 [.v (.string s), .fn (.func g) [] []] (.v (.int .i64 (Lib.idxFunc p true s))) := by
 refine pF Tryz.func223 ?_
 have h := zlh g p hg s
 repeat first|refine wV fun _=>?_|simp [go_sem]
 refine zBi h (by simp [go_sem]) ?_
 repeat first|refine wV fun _=>?_|simp [go_sem]
theorem zlk (x : Nat) : zaJ Tryz.prog 224 [.v (.int .i32 x)] (.v (.bool (decide (x < 97 ∨ 122 < x)))) := by
 refine pF Tryz.func224 ?_
 have e1 : decide ((x : Int) < 97) = decide (x < 97) := decide_eq_decide.2 (by omega)
 have e2 : decide (122 < (x : Int)) = decide (122 < x) := decide_eq_decide.2 (by omega)
 repeat first|refine wV fun _=>?_|simp [go_sem, e1, e2]
theorem zlo (s : ByteArray) (hs : s = zea ∨ s = zkh) : zaJ Tryz.prog 175 [.v (.string s)] (.v (.bool true)) := by
 refine pF Tryz.func175 ?_
 have hI := zkF 224 (fun x => decide (x < 97 ∨ 122 < x)) zlk s
 have hidx : Lib.idxFunc (fun x => decide (x < 97 ∨ 122 < x)) true s = -1 := by rcases hs with rfl | rfl <;> decide +kernel
 rw [hidx] at hI
 have hne : (!s.toList.isEmpty && decide ((s.size : Int) ≤ 8)) = true := by rcases hs with rfl | rfl <;> decide +kernel
 repeat first|refine wV fun _=>?_|simp [go_sem, hne]
 refine zBw _ (fun _ => hI) (by simp [go_sem]) ?_
 repeat first|refine wV fun _=>?_|simp [go_sem]
theorem ztw (k : zc6) (nm : ByteArray) : zaJ Tryz.prog 225 [.agg (zay k), .fp [.v (.string nm)]] (.v (.bool (k.name.toList == nm.toList))) := by
 refine pF Tryz.func225 ?_
 repeat first|refine wV fun _=>?_|simp [go_sem]
theorem ztD (g : zac) (nm : ByteArray) (hk : g.kinds.length ≤ 1048576) : zaJ Tryz.prog 176 [.agg (zad g), .v (.string nm)] (.v (.int .i64 (zuC (fun k => k.name.toList == nm.toList) g.kinds))) := by
 refine pF Tryz.func176 ?_
 have hI := zfl g.kinds hk 225 [.fp [.v (.string nm)]] (fun k => k.name.toList == nm.toList) (fun k _ => ztw k nm) (by simp [go_sem])
 repeat first|refine wV fun _=>?_|simp [go_sem]
 refine zBu (args' := [.lst 3 (g.kinds.map zay), .fn (.func 225) [] [.fp [.v (.string nm)]]]) hI (.v _) ?_ (by simp [go_sem]) ?_
 ·refine .cons (.refl _) (.cons (.fn .nil (.cons (.frzP rfl ?_ ?_ ?_ ?_) .nil)) .nil) <;> first | exact zam.refl _ _ _ _ | simp [noH]
 repeat first|refine wV fun _=>?_|simp [go_sem]
theorem zeO (n : Int) : zaJ Tryz.prog 172 [.v (.int .i64 n)] (.v (.bool (decide (1 ≤ n) && decide (n ≤ 3)))) := by
 refine pF Tryz.func172 ?_
 repeat first|refine wV fun _=>?_|simp [go_sem]
theorem zue (g : zac) (c : Int × Int × Int × Int) (hk : g.kinds.length ≤ 1048576) (hc : zeC g.cells g.kinds.length c) : zaJ Tryz.prog 180 [.agg (zad g), .agg (zaz c)] (.v (.bool true)) := by
 refine pF Tryz.func180 ?_
 obtain ⟨h1, ⟨h2, h2'⟩, ⟨h3, h4, h5, h6⟩, ⟨h7, h7'⟩, h8⟩ := hc
 have hR := zeO c.2.2.2
 have e : (decide (1 ≤ c.2.2.2) && decide (c.2.2.2 ≤ 3)) = true := by simp [h7, h7']
 rw [e] at hR
 obtain ⟨a, b, n, t⟩ := c
 simp only at *
 rcases h1 with rfl | rfl | rfl
 ·repeat first|refine wV fun _=>?_|simp [go_sem, h2, h2']
  refine zBi hR (by simp [go_sem]) ?_
  repeat first|refine wV fun _=>?_|simp [go_sem, h4, h5]
 ·repeat first|refine wV fun _=>?_|simp [go_sem, h2, h2']
  refine zBi hR (by simp [go_sem]) ?_
  repeat first|refine wV fun _=>?_|simp [go_sem, h4, h3]
 ·repeat first|refine wV fun _=>?_|simp [go_sem, h2, h2']
  refine zBi hR (by simp [go_sem]) ?_
  repeat first|refine wV fun _=>?_|simp [go_sem, h8, h3, h6]
def zhv (op : Int) : Int := if op = 1 ∨ op = 2 ∨ op = 7 then 1 else if op = 8 then 2 else if op = 9 ∨ op = 10 then 3 else 0
def zzE (op : Int) : ByteArray := if op = 1 then ⟨#[103, 111]⟩ else if op = 2 then ⟨#[115, 108, 105, 100, 101]⟩ else if op = 3 then ⟨#[101, 109, 112, 116, 121]⟩ else if op = 4 then ⟨#[101, 110, 101, 109, 121]⟩
 else if op = 5 then ⟨#[102, 114, 105, 101, 110, 100]⟩ else if op = 6 then ⟨#[116, 97, 107, 101]⟩ else if op = 7 then ⟨#[112, 117, 115, 104]⟩ else if op = 8 then ⟨#[98, 101, 99, 111, 109, 101]⟩ else if op = 9 then ⟨#[110, 101, 101, 100]⟩ else ⟨#[108, 111, 115, 101]⟩
def zm7 : List AV := [.v (.string ⟨#[]⟩), .v (.int .i64 0)] ++ (([1, 2, 3, 4, 5, 6, 7, 8, 9, 10] : List Int).map fun op => [AV.v (.string (zzE op)), .v (.int .i64 (zhv op))]).flatten
theorem zqu (n : Nat) : ∀ c ∈ zm7, Bel n c := by
 intro c hc
 have hall : zm7.all (fun c => match c with | .v _ => true | _ => false) = true := rfl
 have h := List.all_eq_true.1 hall c hc
 cases c <;> simp at h
 exact .v _
theorem zw9 : zaJ Tryz.prog 261 [] (.agg zm7) := by
 refine pF Tryz.func261 ?_
 repeat first|refine wV fun _=>?_|simp [go_sem]
 exact ⟨zBD rfl, zqu 0⟩
theorem zv2 (op : Int) (h : 1 ≤ op ∧ op ≤ 10) : zaJ Tryz.prog 220 [.v (.int .i64 op)] (.tup [.agg [.v (.string (zzE op)), .v (.int .i64 (zhv op))], .v (.bool true)]) := by
 refine pF Tryz.func220 ?_
 have hr := zw9
 have hl : zm7.length = 22 := rfl
 rcases (show op = 1 ∨ op = 2 ∨ op = 3 ∨ op = 4 ∨ op = 5 ∨ op = 6 ∨ op = 7 ∨ op = 8 ∨ op = 9 ∨ op = 10 by omega) with rfl | rfl | rfl | rfl | rfl | rfl | rfl | rfl | rfl | rfl
 all_goals
  repeat first|refine wV fun _=>?_|simp [go_sem]
  refine zBi hr (by simp [go_sem]) ?_
  repeat first|refine wV fun _=>?_|simp [go_sem, hl]
  exact zBD rfl
theorem zhS (p : List (Int × Int)) (hp : p.length ≤ 1048576) (op : Int) : zaJ Tryz.prog 222 [zaq p, .v (.int .i64 op)] (.v (.int .i64 (zat p op))) := by
 refine pF Tryz.func222 ?_
 generalize hR : zat p op = R
 repeat first|refine wV fun _=>?_|simp [go_sem]
 refine zBh (zBk (α := Nat × Nat) (fun a => ⟨[(1, .v (.int .i64 op)), (5, .v (.int .i64 a.2)), (8, zaq p), (9, .int p.length), (10, .v (.int .i64 a.1))], [], 0⟩)
  (fun d a => a.1 + d = p.length ∧ a.2 ≤ a.1 ∧ a.2 + zat (p.drop a.1) op = R) ?_ p.length (0, 0) ?_) ?_ ?_
 ·rintro d ⟨i, n⟩ ⟨i1, i2, i3⟩ hrec
  simp only at i1 i2 i3
  repeat first|refine wV fun _=>?_|simp [go_sem]
  refine zBj (fun hi => ?_) (fun hi => ?_) <;> simp at hi
  ·rw [zaG hi] at i3
   unfold zat at i3
   rw [List.countP_cons] at i3
   repeat first|refine wV fun _=>?_|simp [go_sem, hi]
   refine zBj (fun he => ?_) (fun he => ?_) <;> simp at he
   ·simp [he] at i3
    repeat first|refine wV fun _=>?_|simp [go_sem]
    refine zBh (hrec (d - 1) (by omega) (i + 1, n + 1) ⟨by simp only; omega, by simp only; omega, by simp only [zat]; omega⟩) ?_ (by simp)
    simp [go_sem, zaf]
   ·simp [he] at i3
    repeat first|refine wV fun _=>?_|simp [go_sem]
    refine zBh (hrec (d - 1) (by omega) (i + 1, n) ⟨by simp only; omega, by simp only; omega, by simp only [zat]; omega⟩) ?_ (by simp)
    simp [go_sem, zaf]
  ·rw [List.drop_eq_nil_of_le hi] at i3
   simp [zat] at i3
   subst i3
   repeat first|refine wV fun _=>?_|simp [go_sem]
 ·exact ⟨by simp, by simp, by simpa using hR⟩
 ·simp [go_sem, zaf]
 ·simp
theorem zwI (x : Int × Int) (D K R : Int) (hx : zeg D K R x) (hK : 0 ≤ K) : zaJ Tryz.prog 219 [.agg (zaE x), .fp [.v (.int .i64 1), .v (.int .i64 D), .v (.int .i64 K), .v (.int .i64 R)]] (.v (.bool false)) := by
 refine pF Tryz.func219 ?_
 obtain ⟨hop, hd, hz, hk, hr⟩ := hx
 have hf := zv2 x.1 hop
 obtain ⟨op, N⟩ := x
 simp only at *
 have hN : 0 ≤ N := by omega
 have hN' : ¬ N < 0 := by omega
 have hops : op = 1 ∨ op = 2 ∨ op = 3 ∨ op = 4 ∨ op = 5 ∨ op = 6 ∨ op = 7 ∨ op = 8 ∨ op = 9 ∨ op = 10 := by omega
 have hL : N < nth ([1, D, K, R] : List Int) (zhv op).toNat := by
  rcases hops with rfl | rfl | rfl | rfl | rfl | rfl | rfl | rfl | rfl | rfl <;> simp [zhv, nth] <;> omega
 rcases hops with rfl | rfl | rfl | rfl | rfl | rfl | rfl | rfl | rfl | rfl
 all_goals
  simp [zhv, nth] at hf hL
  have hL' := Int.not_le.2 hL
  repeat first|refine wV fun _=>?_|simp [go_sem]
  refine zBi hf (by simp [go_sem]) ?_
  repeat first|refine wV fun _=>?_|simp [go_sem, hN, hN', hL']
theorem zq9 (p : List (Int × Int)) (D K R : Int) (hp : zgi D K R p) (hK : 0 ≤ K) : zaJ Tryz.prog 174 [zaq p, .v (.int .i64 D), .v (.int .i64 K), .v (.int .i64 R)] (.v (.bool true)) := by
 refine pF Tryz.func174 ?_
 obtain ⟨h1, h2, h3, h4, h5, h6⟩ := hp
 have hc := zgW p (by omega) 219 [.fp [.v (.int .i64 1), .v (.int .i64 D), .v (.int .i64 K), .v (.int .i64 R)]] (fun _ => false) (fun x hx => zwI x D K R (h3 x hx) hK) (by simp [go_sem])
 have he : (p.any fun _ => false) = false := by simp
 rw [he] at hc
 have hc6 := zhS p (by omega) 6
 have hc7 := zhS p (by omega) 7
 have hc8 := zhS p (by omega) 8
 have a1 : 0 < p.length := by omega
 have a2 : (p.length : Int) ≤ 8 := by omega
 have a3 : (zat p 6 : Int) ≤ 2 := by omega
 have a4 : (zat p 7 : Int) ≤ 1 := by omega
 have a5 : (zat p 8 : Int) ≤ 1 := by omega
 repeat first|refine wV fun _=>?_|simp [go_sem, a1, a2, h2]
 refine zBF [zaq p, .fn (.func 219) [] [.fp [.v (.int .i64 1), .v (.int .i64 D), .v (.int .i64 K), .v (.int .i64 R)]]] (.v (.bool false)) (fun _ => hc) (.v _) ?_ (by simp [go_sem]) ?_
 ·refine .cons (.refl _) (.cons (.fn .nil (.cons (.frzP rfl ?_ ?_ ?_ ?_) .nil)) .nil) <;> first | exact zam.refl _ _ _ _ | simp [noH]
 repeat first|refine wV fun _=>?_|simp [go_sem, a1, a2]
 refine zBw _ (fun _ => hc6) (by simp [go_sem]) ?_
 repeat first|refine wV fun _=>?_|simp [go_sem, a3]
 refine zBw _ (fun _ => hc7) (by simp [go_sem]) ?_
 repeat first|refine wV fun _=>?_|simp [go_sem, a4]
 refine zBw _ (fun _ => hc8) (by simp [go_sem]) ?_
 repeat first|refine wV fun _=>?_|simp [go_sem, a5]
theorem zx9 (n a b : Int) : zaJ Tryz.prog 217 [.v (.int .i64 n), .v (.int .i64 a), .v (.int .i64 b)] (.v (.bool (decide (a ≤ n) && decide (n ≤ b)))) := by
 refine pF Tryz.func217 ?_
 repeat first|refine wV fun _=>?_|simp [go_sem]
theorem zi2 {n a b : Int} (h1 : a ≤ n) (h2 : n ≤ b) : zaJ Tryz.prog 217 [.v (.int .i64 n), .v (.int .i64 a), .v (.int .i64 b)] (.v (.bool true)) := by
 have := zx9 n a b
 rwa [show (decide (a ≤ n) && decide (n ≤ b)) = true by simp [h1, h2]] at this
theorem ztd (b : zaD) (hb : zaR b) (x : Int) (hx : -1 ≤ x ∧ x < b.cells) : zaJ Tryz.prog 218 [.v (.int .i64 x), .fp [.fn (.func 217) [] []], .fp (zcv b)] (.v (.bool false)) := by
 refine pF Tryz.func218 ?_
 have hI := zi2 (n := x) (a := -1) (b := b.cells - 1) hx.1 (by omega)
 have hc0 := hb.c0
 have hc1 := hb.c1
 repeat first|refine wV fun _=>?_|simp [go_sem]
 refine zBi hI (by simp [go_sem]) ?_
 repeat first|refine wV fun _=>?_|simp [go_sem]
theorem zqr (b : zaD) (hb : zaR b) (h1 : 1 ≤ b.cells) (h2 : b.cells ≤ 64) (h3 : 1 ≤ b.next.length) (h4 : b.next.length ≤ 8) (ht : ∀ d, d < b.turn.length → nth b.turn (nth b.turn d).toNat = d) :
  zaJ Tryz.prog 171 [.agg (zcv b)] (.v (.bool true)) := by
 refine pF Tryz.func171 ?_
 have hO := fun x hx => ztd b hb x hx
 obtain ⟨tl, tv, nl, nv, c0, c1, n1⟩ := hb
 have hI1 := zi2 (n := b.cells) (a := 1) (b := 64) h1 h2
 have hI2 := zi2 (n := b.next.length) (a := 1) (b := 8) (by omega) (by omega)
 repeat first|refine wV fun _=>?_|simp [go_sem]
 refine zBi hI1 (by simp [go_sem]) ?_
 repeat first|refine wV fun _=>?_|simp [go_sem]
 refine zBw _ (fun _ => hI2) (by simp [go_sem]) ?_
 repeat first|refine wV fun _=>?_|simp [go_sem, tl]
 refine zBh (zBk (α := Nat) (fun d => ⟨[(1, .ref 0 0 3 0 0), (3, .int b.next.length), (4, .ref 1 0 1 0 0), (29, za1 b.next), (30, .int b.next.length), (31, .v (.int .i64 d))],
   [(0, .rows true 0 3 [zcv b]), (1, .rows true 0 1 [[.fn (.func 217) [] []]])], 2⟩)
  (fun f d => d + f = b.next.length) ?_ b.next.length 0 ?_) ?_ ?_
 ·rintro f d i1 hrec
  repeat first|refine wV fun _=>?_|simp [go_sem]
  refine zBj (fun hd => ?_) (fun hd => ?_) <;> simp at hd
  ·have hm := zah hd
   have hlen := nl _ hm
   have hv := nv _ hm
   have hdt : d < b.turn.length := by omega
   have htv := tv _ (zah hdt)
   have hti : (nth b.turn d).toNat < b.turn.length := by omega
   have htt := ht d hdt
   have hCF := zee (nth b.next d) (by unfold zfk; omega) 218 [] [.fp [.fn (.func 217) [] []], .fp (zcv b)] (fun _ => false) (fun x hx => hO x (hv x hx)) (by simp) (by simp [go_sem])
   rw [show ((nth b.next d).any fun _ => false) = false by simp] at hCF
   have hI3 := zi2 (n := nth b.turn d) (a := 0) (b := (b.next.length : Int) - 1) htv.1 (by omega)
   repeat first|refine wV fun _=>?_|simp [go_sem, hd, hlen]
   refine zBF [zaj (nth b.next d), .fn (.func 218) [] [.fp [.fn (.func 217) [] []], .fp (zcv b)]] (.v (.bool false)) (fun _ => hCF) (.v _) ?_ (by simp [go_sem]) ?_
   ·refine .cons (.refl _) (.cons (.fn .nil (.cons (.frzP rfl ?_ ?_ ?_ ?_) (.cons (.frzP rfl ?_ ?_ ?_ ?_) .nil))) .nil) <;> first | exact zam.refl _ _ _ _ | simp [noH]
   repeat first|refine wV fun _=>?_|simp [go_sem, hd, hdt]
   refine zBl hI3 (by simp [go_sem]) ?_
   repeat first|refine wV fun _=>?_|simp [go_sem, hd, hdt, hti, htt]
   refine zBh (hrec (f - 1) (by omega) (d + 1) (by omega)) ?_ (by simp)
   simp [go_sem, zaf]
  ·repeat first|refine wV fun _=>?_|simp [go_sem]
 ·simp
 ·simp [go_sem, zaf]
 ·simp
def zb8 (g : zac) : Prop := g.kinds.map (·.name) = [zea] ∨ g.kinds.map (·.name) = [zea, zkh]
theorem zb8.name {g : zac} (h : zb8 g) : ∀ k ∈ g.kinds, k.name = zea ∨ k.name = zkh := by
 intro k hk
 have hm : k.name ∈ g.kinds.map (·.name) := List.mem_map.2 ⟨k, hk, rfl⟩
 rcases h with h | h <;> rw [h] at hm <;> simp at hm
 ·exact .inl hm
 ·exact hm
theorem zqZ : (zea.toList == zkh.toList) = false := by decide +kernel
theorem zb8.find {g : zac} (h : zb8 g) {i : Nat} (hi : i < g.kinds.length) : zuC (fun k : zc6 => k.name.toList == (nth g.kinds i).name.toList) g.kinds = i := by
 refine zj2 hi (fun j hj => ?_) (by simp)
 have hn : ∀ j, j < g.kinds.length → (nth g.kinds j).name = nth (g.kinds.map (·.name)) j := fun j hj => (zcb _ _ _ hj).symm
 have hl : (g.kinds.map (·.name)).length = g.kinds.length := by simp
 rw [hn i hi, hn j (by omega)]
 rcases h with h | h <;> rw [h] at hl ⊢ <;> simp at hl
 ·omega
 ·obtain rfl : j = 0 := by omega
  obtain rfl : i = 1 := by omega
  exact zqZ
theorem zpE (g : zac) (hg : GOk g) (p : List (Int × Int)) (hp : zgi g.next.length g.kinds.length g.rights p) : zaJ Tryz.prog 173 [zaq p, .fp (zad g)] (.v (.bool false)) := by
 refine pF Tryz.func173 ?_
 have hV := zq9 p _ _ _ hp (by omega)
 repeat first|refine wV fun _=>?_|simp [go_sem]
 refine zBi hV (by simp [go_sem]) ?_
 repeat first|refine wV fun _=>?_|simp [go_sem]
theorem zpD (g : zac) (hg : GOk g) (c : Int × Int × Int × Int) (hc : zeC g.cells g.kinds.length c) : zaJ Tryz.prog 179 [.agg (zaz c), .fp (zad g)] (.v (.bool false)) := by
 refine pF Tryz.func179 ?_
 have hk6 := hg.k6
 have hV := zue g c (by omega) hc
 have hbl : ∀ n, (∀ c' ∈ zad g, Bel n c') = True := fun n => by simp [go_sem]
 have hel : (zad g).length = 9 := rfl
 have het : (zad g).take 9 = zad g := rfl
 generalize zad g = eg at *
 repeat first|refine wV fun _=>?_|simp [go_sem, hel, het]
 refine zBi hV (by simp [go_sem, hbl]) ?_
 repeat first|refine wV fun _=>?_|simp [go_sem]
theorem zqI (g : zac) (hg : GOk g) (hn : zb8 g) : zaJ Tryz.prog 118 [.agg (zad g)] (.v (.bool true)) := by
 refine pF Tryz.func118 ?_
 have hB := zqr g.board hg.board hg.c1 (by have := hg.c9; have : g.board.cells = g.cells := rfl; omega) hg.d1 hg.d8 hg.turn
 have hW := fun p hp => zpE g hg p hp
 have hWC := fun c hc => zpD g hg c hc
 have hRb := zeO g.blocked
 rw [show (decide (1 ≤ g.blocked) && decide (g.blocked ≤ 3)) = true by simp [hg.bl]] at hRb
 have hRe := zeO g.endless
 rw [show (decide (1 ≤ g.endless) && decide (g.endless ≤ 3)) = true by simp [hg.en]] at hRe
 have k1 := hg.k1
 have k6 := hg.k6
 have r0 := hg.r0
 have r4 := hg.r4
 have cn := hg.cn
 have hF := fun (nm : ByteArray) => ztD g nm (by omega)
 have hbl : ∀ n, (∀ c' ∈ zad g, Bel n c') = True := fun n => by simp [go_sem]
 have heB : zcv g.board = [.v (.int .i64 g.cells), za1 g.next, zaj g.turn] := rfl
 have heG : zad g = [.v (.int .i64 g.cells), za1 g.next, zaj g.turn, .lst 3 (g.kinds.map zay), .v (.int .i64 g.rights), .v (.bool g.must), .lst 4 (g.clauses.map zaz), .v (.int .i64 g.blocked), .v (.int .i64 g.endless)] := rfl
 have d1 : ¬ (g.kinds.length : Int) < 1 := by omega
 have d2 : ¬ 6 < (g.kinds.length : Int) := by omega
 have d3 : ¬ g.rights < 0 := by omega
 have d4 : ¬ 4 < g.rights := by omega
 have d5 : ¬ 6 < (g.clauses.length : Int) := by omega
 rw [heB] at hB
 repeat first|refine wV fun _=>?_|simp [go_sem]
 refine zBi hB (by simp [go_sem]) ?_
 repeat first|refine wV fun _=>?_|simp [go_sem, d1, d2, d3, d4, d5]
 refine zBw _ (fun _ => hRb) (by simp [go_sem]) ?_
 repeat first|refine wV fun _=>?_|simp [go_sem]
 refine zBw _ (fun _ => hRe) (by simp [go_sem]) ?_
 repeat first|refine wV fun _=>?_|simp [go_sem]
 refine zBh (zBk (α := Nat) (fun i => ⟨[(1, .ref 0 0 9 0 0), (51, .lst 3 (g.kinds.map zay)), (52, .int g.kinds.length), (53, .v (.int .i64 i))], [(0, .rows true 0 9 [zad g])], 1⟩)
  (fun d i => i + d = g.kinds.length) ?_ g.kinds.length 0 ?_) ?_ ?_
 ·rintro d i i1 hrec
  repeat first|refine wV fun _=>?_|simp [go_sem]
  refine zBj (fun hi => ?_) (fun hi => ?_) <;> simp at hi
  ·have hm := zah hi
   have hVN := zlo _ (hn.name _ hm)
   have hFi := hF (nth g.kinds i).name
   rw [hn.find hi] at hFi
   have hpn := hg.pn _ hm
   have d6 : ¬ 8 < ((nth g.kinds i).progs.length : Int) := by omega
   have hCP := zgV (nth g.kinds i).progs (by omega) 173 [.fp (zad g)] (fun _ => false) (fun p hp => hW p (hg.pr _ hm p hp)) (by simp [go_sem])
   rw [show ((nth g.kinds i).progs.any fun _ => false) = false by simp] at hCP
   rw [heG] at hFi
   repeat first|refine wV fun _=>?_|simp [go_sem, hi]
   refine zBi hVN (by simp [go_sem]) ?_
   repeat first|refine wV fun _=>?_|simp [go_sem]
   refine zBw _ (fun _ => hFi) (by simp [go_sem]) ?_
   repeat first|refine wV fun _=>?_|simp [go_sem, d6]
   refine zBF [.lst 1 ((nth g.kinds i).progs.map fun p => [zaq p]), .fn (.func 173) [] [.fp (zad g)]] (.v (.bool false)) (fun _ => hCP) (.v _) ?_ (by simp [go_sem]) ?_
   ·refine .cons (.refl _) (.cons (.fn .nil (.cons (.frzP rfl ?_ ?_ ?_ ?_) .nil)) .nil) <;> first | exact zam.refl _ _ _ _ | simp [noH]
   repeat first|refine wV fun _=>?_|simp [go_sem]
   refine zBh (hrec (d - 1) (by omega) (i + 1) (by omega)) ?_ (by simp)
   simp [go_sem, zaf]
  ·have hCC := zgT g.clauses (by omega) 179 [.fp (zad g)] (fun _ => false) (fun c hc => hWC c (hg.cl c hc)) (by simp [go_sem])
   rw [show (g.clauses.any fun _ => false) = false by simp] at hCC
   repeat first|refine wV fun _=>?_|simp [go_sem]
   refine zBu (args' := [.lst 4 (g.clauses.map zaz), .fn (.func 179) [] [.fp (zad g)]]) hCC (.v _) ?_ (by simp [go_sem]) ?_
   ·refine .cons (.refl _) (.cons (.fn .nil (.cons (.frzP rfl ?_ ?_ ?_ ?_) .nil)) .nil) <;> first | exact zam.refl _ _ _ _ | simp [noH]
   repeat first|refine wV fun _=>?_|simp [go_sem]
 ·simp
 ·simp [go_sem, zaf]
 ·simp
def zbO (g : zac) : Bool := decide (g.clauses.length = 0) && decide (g.rights = 0) && !g.must && !(g.kinds.any fun k => k.keep) && decide (g.blocked = 3) && decide (g.endless = 2)
theorem ztN (k : zc6) : zaJ Tryz.prog 117 [.agg (zay k)] (.v (.bool k.keep)) := by
 refine pF Tryz.func117 ?_
 repeat first|refine wV fun _=>?_|simp [go_sem]
theorem zdZ (g : zac) (hg : GOk g) (hn : zb8 g) : zaJ Tryz.prog 64 [.agg (zad g)] (.v (.bool (zbO g))) := by
 refine pF Tryz.func64 ?_
 have hV := zqI g hg hn
 have k6 := hg.k6
 have hK := zgU g.kinds (by omega) 117 [] (fun k => k.keep) (fun k _ => ztN k) (by simp)
 have heG : zad g = [.v (.int .i64 g.cells), za1 g.next, zaj g.turn, .lst 3 (g.kinds.map zay), .v (.int .i64 g.rights), .v (.bool g.must), .lst 4 (g.clauses.map zaz), .v (.int .i64 g.blocked), .v (.int .i64 g.endless)] := rfl
 rw [heG] at hV
 unfold zbO
 repeat first|refine wV fun _=>?_|simp [go_sem]
 refine zBi hV (by simp [go_sem]) ?_
 repeat first|refine wV fun _=>?_|simp [go_sem]
 refine zBw _ (fun _ => hK) (by simp [go_sem]) ?_
 repeat first|refine wV fun _=>?_|simp [go_sem]
theorem zfU {α : Type} [Inhabited α] {l : List α} {j : Nat} (h : j < l.length) : l.drop j = nth l j :: l.drop (j + 1) := by rw [List.drop_eq_getElem_cons h, zaA _ _ h]
theorem zsv (a b : List Int) (ha : zfk a) (hb : zfk b) : zaJ Tryz.prog 63 [zaj a, zaj b] (.v (.bool (decide (a = b)))) := by
 refine pF Tryz.func63 ?_
 unfold zfk at ha hb
 repeat first|refine wV fun _=>?_|simp [go_sem]
 refine zBj (fun hl => ?_) (fun hl => ?_) <;> simp at hl
 ·have e : decide (a = b) = false := by simp; rintro rfl; exact hl rfl
  repeat first|refine wV fun _=>?_|simp [go_sem, e]
 ·repeat first|refine wV fun _=>?_|simp [go_sem]
  refine zBh (zBk (α := Nat) (fun j => ⟨[(0, zaj a), (1, zaj b), (5, .v (.int .i64 j))], [], 0⟩)
   (fun d j => j + d = a.length ∧ ((a = b) ↔ (a.drop j = b.drop j))) ?_ a.length 0 ?_) ?_ ?_
  ·rintro d j ⟨i1, i3⟩ hrec
   repeat first|refine wV fun _=>?_|simp [go_sem]
   refine zBj (fun hj => ?_) (fun hj => ?_) <;> simp at hj
   ·have hj2 : j < b.length := by omega
    rw [zfU hj, zfU hj2, List.cons.injEq] at i3
    repeat first|refine wV fun _=>?_|simp [go_sem, hj, hj2]
    refine zBj (fun he => ?_) (fun he => ?_) <;> simp at he
    ·have e : decide (a = b) = false := by simp; intro h; exact he (i3.1 h).1
     repeat first|refine wV fun _=>?_|simp [go_sem, e]
    ·repeat first|refine wV fun _=>?_|simp [go_sem]
     refine zBh (hrec (d - 1) (by omega) (j + 1) ⟨by omega, i3.trans ⟨fun h => h.2, fun h => ⟨he, h⟩⟩⟩) ?_ (by simp)
     simp [go_sem, zaf]
   ·rw [List.drop_eq_nil_of_le hj, List.drop_eq_nil_of_le (by omega)] at i3
    have e : decide (a = b) = true := by simpa using i3.2 rfl
    repeat first|refine wV fun _=>?_|simp [go_sem, e]
  ·simp
  ·simp [go_sem, zaf]
  ·simp
theorem zhI (a b : List zal) (ha : a.length ≤ 1099511627776) (hb : b.length ≤ 1099511627776) (hfa : ∀ p ∈ a, zbw p) (hfb : ∀ p ∈ b, zbw p) :
  zaJ Tryz.prog 22 [zaV a, zaV b] (.v (.bool (decide (a = b)))) := by
 refine pF Tryz.func22 ?_
 repeat first|refine wV fun _=>?_|simp [go_sem]
 refine zBj (fun hl => ?_) (fun hl => ?_) <;> simp at hl
 ·have e : decide (a = b) = false := by simp; rintro rfl; exact hl rfl
  repeat first|refine wV fun _=>?_|simp [go_sem, e]
 ·repeat first|refine wV fun _=>?_|simp [go_sem]
  refine zBh (zBk (α := Nat) (fun j => ⟨[(0, zaV a), (1, zaV b), (5, .v (.int .i64 j))], [], 0⟩)
   (fun d j => j + d = a.length ∧ ((a = b) ↔ (a.drop j = b.drop j))) ?_ a.length 0 ?_) ?_ ?_
  ·rintro d j ⟨i1, i3⟩ hrec
   repeat first|refine wV fun _=>?_|simp [go_sem]
   refine zBj (fun hj => ?_) (fun hj => ?_) <;> simp at hj
   ·have hj2 : j < b.length := by omega
    have hC := zeG _ _ (hfa _ (zah hj)) (hfb _ (zah hj2))
    rw [zfU hj, zfU hj2, List.cons.injEq] at i3
    repeat first|refine wV fun _=>?_|simp [go_sem, hj, hj2]
    refine zBl hC (by simp [go_sem]) ?_
    repeat first|refine wV fun _=>?_|simp [go_sem]
    refine zBj (fun he => ?_) (fun he => ?_) <;> simp at he
    ·have e : decide (a = b) = false := by simp; intro h; exact he (zhQ.2 (i3.1 h).1)
     repeat first|refine wV fun _=>?_|simp [go_sem, e]
    ·repeat first|refine wV fun _=>?_|simp [go_sem]
     refine zBh (hrec (d - 1) (by omega) (j + 1) ⟨by omega, i3.trans ⟨fun h => h.2, fun h => ⟨zhQ.1 he, h⟩⟩⟩) ?_ (by simp)
     simp [go_sem, zaf]
   ·rw [List.drop_eq_nil_of_le hj, List.drop_eq_nil_of_le (by omega)] at i3
    have e : decide (a = b) = true := by simpa using i3.2 rfl
    repeat first|refine wV fun _=>?_|simp [go_sem, e]
  ·simp
  ·simp [go_sem, zaf]
  ·simp
theorem zeA {α : Type} [Inhabited α] {l : List α} {i : Nat} (h : i < l.length) : l.take (i + 1) = l.take i ++ [nth l i] := by
  rw [List.take_add_one, List.getElem?_eq_getElem h, zaA _ _ h]; rfl
def zdl (g : zac) (i : Nat) : List zc6 := (g.kinds.take i).map zgs
theorem zpl {g : zac} {i : Nat} (h : i < g.kinds.length) : zdl g (i + 1) = zdl g i ++ [zgs (nth g.kinds i)] := by
  unfold zdl; rw [zeA h]; simp
theorem zre {g : zac} {i : Nat} (h : i ≤ g.kinds.length) : (zdl g i).length = i := by simp [zdl]; omega
def zc2 (ps : List (List (Int × Int))) (n : Nat) : List (List (Int × Int)) := (ps.take n).filter zfc
theorem zpm {ps : List (List (Int × Int))} {n : Nat} (h : n < ps.length) : zc2 ps (n + 1) = if zfc (nth ps n) = true then zc2 ps n ++ [nth ps n] else zc2 ps n := by
  unfold zc2; rw [zeA h, List.filter_append]
  by_cases e : zfc (nth ps n) = true <;> simp [e]
theorem zt9 (ps : List (List (Int × Int))) (n : Nat) : (zc2 ps n).length ≤ n := by
  unfold zc2
  have := List.length_filter_le zfc (ps.take n)
  simp at this
  omega
def zAR (p : List (Int × Int)) (j : Nat) : Bool := zfc (p.take j)
theorem zwK {p : List (Int × Int)} {j : Nat} (h : j < p.length) : zAR p (j + 1) = (zAR p j && (decide ((nth p j).1 ≠ 9) && decide ((nth p j).1 ≠ 10))) := by
  unfold zAR zfc; rw [zeA h]; simp
theorem zmE (g : zac) (hg : GOk g) : zaJ Tryz.prog 65 [.agg (zad g)] (.agg (zad (zcB g))) := by
  refine pF Tryz.func65 ?_
  have k6 := hg.k6
  have hpn := hg.pn
  have hpl := hg.pr
  have eg : zad (zcB g) = [.v (.int .i64 g.cells), za1 g.next, zaj g.turn, .lst 3 ((zdl g g.kinds.length).map zay), .v (.int .i64 0), .v (.bool false), .lst 4 [], .v (.int .i64 3), .v (.int .i64 2)] := by
    unfold zdl; rw [List.take_length]; rfl
  rw [eg]
  repeat first|refine wV fun _=>?_|simp [go_sem]
  refine zBh (zBk (α := Nat) (fun i => ⟨[(1, .ref 0 0 9 0 0), (2, .ref 1 0 9 0 0), (3, .ref 2 0 9 0 0), (4, .v (.int .i64 i))],
      [(0, .rows true 0 9 [zad g]), (1, .rows true 0 9 [[.v (.int .i64 0), .v (.slice none 0 0), .v (.slice none 0 0), .v (.slice none 0 0), .v (.int .i64 0), .v (.bool false), .v (.slice none 0 0), .v (.int .i64 0), .v (.int .i64 0)]]),
       (2, .rows true 0 9 [[.v (.int .i64 g.cells), za1 g.next, zaj g.turn, .sl 3 i 3 0 i, .v (.int .i64 0), .v (.bool false), .v (.slice none 0 0), .v (.int .i64 3), .v (.int .i64 2)]]), (3, .rows true i 3 ((zdl g i).map zay))], 4⟩)
    (fun r i => i + r = g.kinds.length) ?_ g.kinds.length 0 ?_) ?_ ?_
  · rintro r i i1 hrec
    have lks : (zdl g i).length = i := zre (by omega)
    repeat first|refine wV fun _=>?_|simp [go_sem]
    refine zBj (fun hi => ?_) (fun hi => ?_) <;> simp at hi
    · have hm := zah hi
      have hpn := hpn _ hm
      have hpl := hpl _ hm
      have hks := zpl hi
      repeat first|refine wV fun _=>?_|simp [go_sem, hi, lks]
      refine zBh (zBk (α := Nat) (fun n => ⟨[(1, .ref 0 0 9 0 0), (2, .ref 1 0 9 0 0), (3, .ref 2 0 9 0 0), (4, .v (.int .i64 i)), (5, .ref 4 0 3 0 0), (6, .v (.int .i64 n))],
          [(0, .rows true 0 9 [zad g]), (1, .rows true 0 9 [[.v (.int .i64 0), .v (.slice none 0 0), .v (.slice none 0 0), .v (.slice none 0 0), .v (.int .i64 0), .v (.bool false), .v (.slice none 0 0), .v (.int .i64 0), .v (.int .i64 0)]]),
           (2, .rows true 0 9 [[.v (.int .i64 g.cells), za1 g.next, zaj g.turn, .sl 3 i 3 0 i, .v (.int .i64 0), .v (.bool false), .v (.slice none 0 0), .v (.int .i64 3), .v (.int .i64 2)]]), (3, .rows true i 3 ((zdl g i).map zay)),
           (4, .rows true 0 3 [[.v (.string (nth g.kinds i).name), .sl 5 (zc2 (nth g.kinds i).progs n).length 1 0 (zc2 (nth g.kinds i).progs n).length, .v (.bool false)]]),
           (5, .rows true (zc2 (nth g.kinds i).progs n).length 1 ((zc2 (nth g.kinds i).progs n).map fun p => [zaq p]))], 6⟩)
        (fun s n => n + s = (nth g.kinds i).progs.length) ?_ (nth g.kinds i).progs.length 0 ?_) ?_ ?_
      · rintro s n j1 hrec2
        have lps := zt9 (nth g.kinds i).progs n
        generalize hps : zc2 (nth g.kinds i).progs n = ps at *
        repeat first|refine wV fun _=>?_|simp [go_sem, hi]
        refine zBj (fun hn => ?_) (fun hn => ?_) <;> simp at hn
        · have hp := hpl _ (zah hn)
          have hplen := hp.len
          have hss := zpm hn
          rw [hps] at hss
          repeat first|refine wV fun _=>?_|simp [go_sem, hi, hn]
          refine zBh (zBk (α := Nat) (fun j => ⟨[(1, .ref 0 0 9 0 0), (2, .ref 1 0 9 0 0), (3, .ref 2 0 9 0 0), (4, .v (.int .i64 i)), (5, .ref 4 0 3 0 0), (6, .v (.int .i64 n)), (7, .v (.bool (zAR (nth (nth g.kinds i).progs n) j))), (8, zaq (nth (nth g.kinds i).progs n)), (9, .v (.int .i64 j))],
              [(0, .rows true 0 9 [zad g]), (1, .rows true 0 9 [[.v (.int .i64 0), .v (.slice none 0 0), .v (.slice none 0 0), .v (.slice none 0 0), .v (.int .i64 0), .v (.bool false), .v (.slice none 0 0), .v (.int .i64 0), .v (.int .i64 0)]]),
               (2, .rows true 0 9 [[.v (.int .i64 g.cells), za1 g.next, zaj g.turn, .sl 3 i 3 0 i, .v (.int .i64 0), .v (.bool false), .v (.slice none 0 0), .v (.int .i64 3), .v (.int .i64 2)]]), (3, .rows true i 3 ((zdl g i).map zay)),
               (4, .rows true 0 3 [[.v (.string (nth g.kinds i).name), .sl 5 ps.length 1 0 ps.length, .v (.bool false)]]),
               (5, .rows true ps.length 1 (ps.map fun p => [zaq p]))], 6⟩)
            (fun t j => j + t = (nth (nth g.kinds i).progs n).length) ?_ (nth (nth g.kinds i).progs n).length 0 ?_) ?_ ?_
          · rintro t j l1 hrec3
            repeat first|refine wV fun _=>?_|simp [go_sem]
            refine zBj (fun hj => ?_) (fun hj => ?_) <;> simp at hj
            · have ho := zwK hj
              repeat first|refine wV fun _=>?_|simp [go_sem, hj]
              refine zBh (hrec3 (t - 1) (by omega) (j + 1) (by omega)) ?_ (by simp)
              simp [go_sem, zaf, ho, Bool.and_assoc]
            · have hjl : j = (nth (nth g.kinds i).progs n).length := by omega
              have hok : zAR (nth (nth g.kinds i).progs n) j = zfc (nth (nth g.kinds i).progs n) := by unfold zAR; rw [hjl, List.take_length]
              repeat first|refine wV fun _=>?_|simp [go_sem]
              refine zBj (fun hb => ?_) (fun hb => ?_)
              · rw [hok] at hb
                rw [if_pos hb] at hss
                repeat first|refine wV fun _=>?_|simp [go_sem]
                refine zBh (hrec2 (s - 1) (by omega) (n + 1) (by omega)) ?_ (by simp)
                simp [go_sem, zaf, hss]
              · rw [hok] at hb
                rw [if_neg (by simp [hb])] at hss
                repeat first|refine wV fun _=>?_|simp [go_sem]
                refine zBh (hrec2 (s - 1) (by omega) (n + 1) (by omega)) ?_ (by simp)
                simp [go_sem, zaf, hss]
          · simp
          · simp [go_sem, zaf, zAR, zfc]
          · simp
        · have hnl : n = (nth g.kinds i).progs.length := by omega
          have hpk : zgs (nth g.kinds i) = ⟨(nth g.kinds i).name, ps, false⟩ := by rw [← hps, hnl]; unfold zc2; rw [List.take_length]; rfl
          repeat first|refine wV fun _=>?_|simp [go_sem]
          refine zBh (hrec (r - 1) (by omega) (i + 1) (by omega)) ?_ (by simp)
          simp [go_sem, zaf, hks, hpk]
          (first|done|exact rwX)
      · simp
      · simp [go_sem, zaf, zc2]
      · simp
    · have hil : i = g.kinds.length := by omega
      subst hil
      repeat first|refine wV fun _=>?_|simp [go_sem]
      ((try simp only [zaq, zaE, zbt, zcG, zaw, zbm, zaM, zar, zag, zdC, zbz, zaV, zaj, zad, List.map_cons, List.map_nil, List.nil_append, List.append_nil, List.cons_append]); (repeat (first | (with_reducible first|exact zam.nil|exact zak.nil|exact LeV.refl _|exact zam.refl _ _ _ _|exact zak.refl _|refine zam.cons ?_ ?_|refine zak.cons ?_ ?_|refine LeV.agg ?_|refine LeV.tup ?_|refine LeV.fn ?_ ?_|exact LeV.nil _|refine zao (zak.refl _) ?_) | ((refine zaL rfl (by simp [lks]) (by simp [zbB, zb5, upd, noH]) ?_); (first | (simp [go_sem, lks]; done) | (simp [go_sem, lks]; exact List.take_of_length_le (by simp [lks])))) | ((refine LeV.frz rfl (by simp [lks]) (by simp [zbB, zb5, upd, noH]) ?_); (simp only [List.drop_zero, List.take_succ_cons, List.take_zero, List.map_cons, List.map_nil])) | ((refine LeV.frzP rfl (by simp [lks]) (by simp) (by simp [zbB, zb5, upd, noH]) ?_); (simp only [zbe, List.drop_zero])))))
  · simp
  · simp [go_sem, zaf, zdl]
  · simp
def zd4 (g : zac) (w : Int) (d : Nat) : List (List Int) := (g.next.take d).map fun l => ze8 (zcH g) w l (2 * zcH g)
theorem zoe {g : zac} {w : Int} {d : Nat} (h : d < g.next.length) : zd4 g w (d + 1) = zd4 g w d ++ [ze8 (zcH g) w (nth g.next d) (2 * zcH g)] := by
  unfold zd4; rw [zeA h]; simp
theorem zqp {g : zac} {w : Int} {d : Nat} (h : d ≤ g.next.length) : (zd4 g w d).length = d := by simp [zd4]; omega
theorem zeE (g : zac) (hg : GOk g) (w : Int) (hw : U8 w) : zaJ Tryz.prog 14 [.agg (zad g), .v (.int .u8 w)] (.agg (zad (zdz g w))) := by
  refine pF Tryz.func14 ?_
  have hP := zmE g hg
  obtain ⟨n1, n4, nc⟩ := znk hg
  obtain ⟨tl, tv, nl, nv, c0, c1, nn1⟩ := hg.board
  have d8 : g.next.length ≤ 8 := hg.d8
  have tl' : g.turn.length = g.next.length := tl
  have nl' : ∀ l ∈ g.next, (l.length : Int) = g.cells := nl
  have nv' : ∀ l ∈ g.next, ∀ x ∈ l, -1 ≤ x ∧ x < g.cells := nv
  have c9 := hg.c9
  have hN : (if (4 : Int) < g.cells then 4 else g.cells) = (zcH g : Int) := by unfold zcH; split <;> omega
  have eg : zad (zdz g w) = [.v (.int .i64 (2 * (zcH g : Int))), za1 (zd4 g w g.next.length), zaj g.turn, .lst 3 ((g.kinds.map zgs).map zay), .v (.int .i64 0), .v (.bool false), .lst 4 [], .v (.int .i64 3), .v (.int .i64 2)] := by
    unfold zd4; rw [List.take_length]; rfl
  have ep : zad (zcB g) = [.v (.int .i64 g.cells), za1 g.next, zaj g.turn, .lst 3 ((g.kinds.map zgs).map zay), .v (.int .i64 0), .v (.bool false), .lst 4 [], .v (.int .i64 3), .v (.int .i64 2)] := rfl
  have eg0 : zad g = [.v (.int .i64 g.cells), za1 g.next, zaj g.turn, .lst 3 (g.kinds.map zay), .v (.int .i64 g.rights), .v (.bool g.must), .lst 4 (g.clauses.map zaz), .v (.int .i64 g.blocked), .v (.int .i64 g.endless)] := rfl
  rw [ep, eg0] at hP
  rw [eg]
  have hns := fun d (h : d < g.next.length) => zoe (w := w) h
  have lns := fun d (h : d ≤ g.next.length) => zqp (w := w) h
  have hTs : ∀ (l : List Int) c, zhM (zcH g) w l c = if (zcH g : Int) ≤ nth l (c % zcH g) ∨ (bitW w c = true ∧ zcH g ≤ c) then -1 else if 0 ≤ nth l (c % zcH g) ∧ zcH g ≤ c then nth l (c % zcH g) + zcH g else nth l (c % zcH g) := fun _ _ => rfl
  generalize hNn : zcH g = N at *
  repeat first|refine wV fun _=>?_|simp [go_sem, hN]
  refine zBi hP (by simp [go_sem]) ?_
  repeat first|refine wV fun _=>?_|simp [go_sem]
  refine zBh (zBk (α := Nat) (fun d => ⟨[(1, .v (.int .u8 w)), (2, .ref 0 0 9 0 0), (4, .ref 1 0 9 0 0), (5, .v (.int .i64 N)), (6, .ref 2 0 9 0 0), (7, .ref 4 0 3 0 0), (8, .v (.int .i64 d))],
      [(0, .rows true 0 9 [zad g]), (1, .rows true 0 9 [[.v (.int .i64 0), .v (.slice none 0 0), .v (.slice none 0 0), .v (.slice none 0 0), .v (.int .i64 0), .v (.bool false), .v (.slice none 0 0), .v (.int .i64 0), .v (.int .i64 0)]]),
       (2, .rows true 0 9 [[.v (.int .i64 g.cells), za1 g.next, zaj g.turn, .lst 3 ((g.kinds.map zgs).map zay), .v (.int .i64 0), .v (.bool false), .lst 4 [], .v (.int .i64 3), .v (.int .i64 2)]]), (3, .rows true 1 1 (g.turn.map zbd)), (4, .rows true 0 3 [[.v (.int .i64 (2 * (N : Int))), .sl 5 d 1 0 d, .sl 3 1 1 0 g.turn.length]]), (5, .rows true d 1 ((zd4 g w d).map fun l => [zaj l]))], 6⟩)
    (fun r d => d + r = g.next.length) ?_ g.next.length 0 ?_) ?_ ?_
  · rintro r d i1 hrec
    have lgn := lns d (by omega)
    repeat first|refine wV fun _=>?_|simp [go_sem]
    refine zBj (fun hd => ?_) (fun hd => ?_) <;> simp at hd
    · have hlen := nl' _ (zah hd)
      have hval := nv' _ (zah hd)
      have hnsd := hns d hd
      repeat first|refine wV fun _=>?_|simp [go_sem]
      refine zBh (zBk (α := Nat) (fun x => ⟨[(1, .v (.int .u8 w)), (2, .ref 0 0 9 0 0), (4, .ref 1 0 9 0 0), (5, .v (.int .i64 N)), (6, .ref 2 0 9 0 0), (7, .ref 4 0 3 0 0), (8, .v (.int .i64 d)), (9, .sl 6 x 1 0 x), (10, .v (.int .i64 x))],
          [(0, .rows true 0 9 [zad g]), (1, .rows true 0 9 [[.v (.int .i64 0), .v (.slice none 0 0), .v (.slice none 0 0), .v (.slice none 0 0), .v (.int .i64 0), .v (.bool false), .v (.slice none 0 0), .v (.int .i64 0), .v (.int .i64 0)]]),
           (2, .rows true 0 9 [[.v (.int .i64 g.cells), za1 g.next, zaj g.turn, .lst 3 ((g.kinds.map zgs).map zay), .v (.int .i64 0), .v (.bool false), .lst 4 [], .v (.int .i64 3), .v (.int .i64 2)]]), (3, .rows true 1 1 (g.turn.map zbd)), (4, .rows true 0 3 [[.v (.int .i64 (2 * (N : Int))), .sl 5 d 1 0 d, .sl 3 1 1 0 g.turn.length]]), (5, .rows true d 1 ((zd4 g w d).map fun l => [zaj l])),
           (6, .rows true x 1 ((ze8 N w (nth g.next d) x).map zbd))], 7⟩)
        (fun s x => x + s = 2 * N) ?_ (2 * N) 0 ?_) ?_ ?_
      · rintro s x j1 hrec2
        have lgr : (ze8 N w (nth g.next d) x).length = x := zly _ _ _ _
        have lsr := zqo N w (nth g.next d) x
        have hTx := hTs (nth g.next d) x
        repeat first|refine wV fun _=>?_|simp [go_sem]
        refine zBj (fun hx => ?_) (fun hx => ?_) <;> simp at hx
        · have hm : (x : Int).tmod (N : Int) = ((x % N : Nat) : Int) := by rw [Int.tmod_eq_emod_of_nonneg (by omega)]; omega
          have hmN : x % N < N := Nat.mod_lt _ (by omega)
          have m0 := Int.tmod_nonneg (8 : Int) (show (0 : Int) ≤ x by omega)
          have m1 := Int.tmod_lt_of_pos (x : Int) (show (0 : Int) < 8 by omega)
          have hq : x % N < (nth g.next d).length := by omega
          have hv := hval _ (zah hq)
          have hbw : bitW w x = decide (zkU .u8 (w.fdiv (2 ^ ((x : Int).tmod 8).toNat)) 1 = 1) := rfl
          generalize hb8 : (x : Int).tmod 8 = b8 at *
          generalize hxm : x % N = xm at *
          generalize hto : nth (nth g.next d) xm = to at *
          repeat first|refine wV fun _=>?_|simp [go_sem, hm, hd, hq, hb8, hto]
          refine zBj (fun hc => ?_) (fun hc => ?_) <;> rw [← hbw] at hc <;> simp at hc
          · rw [if_pos hc] at hTx
            repeat first|refine wV fun _=>?_|simp [go_sem]
            refine zBh (hrec2 (s - 1) (by omega) (x + 1) (by omega)) ?_ (by simp)
            simp [go_sem, zaf, lsr, hTx]
          · rw [if_neg (by rw [not_or, not_and]; exact ⟨by omega, fun h => by have := hc.2 h; omega⟩)] at hTx
            repeat first|refine wV fun _=>?_|simp [go_sem]
            refine zBj (fun he => ?_) (fun he => ?_) <;> simp at he
            · rw [if_pos he] at hTx
              repeat first|refine wV fun _=>?_|simp [go_sem]
              refine zBh (hrec2 (s - 1) (by omega) (x + 1) (by omega)) ?_ (by simp)
              simp [go_sem, zaf, lsr, hTx]
            · rw [if_neg (by rw [not_and]; intro h; have := he h; omega)] at hTx
              repeat first|refine wV fun _=>?_|simp [go_sem]
              refine zBh (hrec2 (s - 1) (by omega) (x + 1) (by omega)) ?_ (by simp)
              simp [go_sem, zaf, lsr, hTx]
        · have hcD : x = 2 * N := by omega
          subst hcD
          repeat first|refine wV fun _=>?_|simp [go_sem]
          refine zBh (hrec (r - 1) (by omega) (d + 1) (by omega)) ?_ (by simp)
          simp [go_sem, zaf, hnsd]
          refine zao (.refl _) ?_
          refine zak.cons (zam.cons ?_ zam.nil) zak.nil
          refine LeV.frz rfl ?_ ?_ (zBs ?_) <;> simp [mkH, upd, lgr, List.take_of_length_le]
      · simp
      · simp [go_sem, zaf, ze8]
      · simp
    · have hd8 : d = g.next.length := by omega
      subst hd8
      repeat first|refine wV fun _=>?_|simp [go_sem]
      refine ⟨?_, ?_⟩ <;> (refine LeV.frz rfl ?_ ?_ (zBs ?_) <;> simp [noH, lgn, List.take_of_length_le])
  · simp
  · simp [go_sem, zaf, zd4]
  · simp
def ze9 (l : List Int) : List AV := l.map fun x => .v (.int .i64 x)
theorem zi5 (l : List Int) : (ze9 l).length = l.length := by simp [ze9]
theorem zvz {l : List Int} {c : Nat} (h : c < l.length) : cel ((ze9 l).drop c) 0 = .v (.int .i64 (nth l c)) := by
 unfold cel ze9
 simp [zaA _ _ h, h]
theorem zg3 {n : Nat} {l : List Int} : (∀ c ∈ ze9 l, Bel n c) = True := by
 refine eq_true ?_
 intro c hc
 obtain ⟨x, _, rfl⟩ := List.mem_map.1 hc
 exact .v _
attribute [go_sem ↓] zg3
theorem zkB (l : List Int) (hl : za2 l) (c : Int) (h0 : 0 ≤ c) (h1 : c < 64) : zaJ Tryz.prog 79 [.fp (ze9 l), .v (.int .i64 c)] (.v (.int .i64 (zaX l c))) := by
 refine pF Tryz.func79 ?_
 have hlen : (ze9 l).length = 64 := by rw [zi5, hl.len]
 have hcel : ∀ c, c < 64 → cel ((ze9 l).drop c) 0 = .v (.int .i64 (nth l c)) := fun c hc => zvz (by rw [hl.len]; exact hc)
 have hbl : ∀ n, (∀ c ∈ ze9 l, Bel n c) := fun n => of_eq_true zg3
 generalize hel : ze9 l = el at *
 repeat first|refine wV fun _=>?_|simp [go_sem, hlen]
 refine zBh (zBk (α := Int) (fun x => ⟨[(0, .fp el), (1, .v (.int .i64 x))], [], 0⟩)
  (fun d x => 0 ≤ x ∧ x < 64 ∧ d = x.toNat ∧ zaX l x = zaX l c) ?_ c.toNat c ?_) ?_ ?_
 ·rintro d x ⟨i0, i1, i2, i3⟩ hrec
  have hx := hl.le x.toNat (by omega)
  have hs := zew hl i0 i1
  have hcx := hcel x.toNat (by omega)
  repeat first|refine wV fun _=>?_|simp [go_sem, hlen, hcx]
  refine zBj (fun he => ?_) (fun he => ?_) <;> simp at he
  ·have hne : ¬ nth l x.toNat = x := he
   rw [if_neg hne] at hs
   repeat first|refine wV fun _=>?_|simp [go_sem, hlen, hcx]
   refine zBh (hrec (nth l x.toNat).toNat (by omega) (nth l x.toNat) ⟨by omega, by omega, rfl, by rw [← hs, i3]⟩) ?_ (by simp)
   simp [go_sem, zaf]
   exact hbl 0
  ·rw [if_pos he] at hs
   rw [hs] at i3
   subst i3
   repeat first|refine wV fun _=>?_|simp [go_sem]
 ·exact ⟨h0, h1, rfl, rfl⟩
 ·simp [go_sem, zaf]
  exact hbl 0
 ·simp
theorem zwl (l : List Int) (hl : za2 l) (first : Int) (h0 : 0 ≤ first ∧ first < 64) (others : List Int) (ho : ∀ c ∈ others, 0 ≤ c ∧ c < 64) (hlo : others.length ≤ 1048576) :
  zjp Tryz.prog 77 [.ref 0 0 64 0 0, .v (.int .i64 first), zaj others] [(0, .rows true 0 64 [ze9 l])] 1 (.tup []) [(0, .rows true 0 64 [ze9 (za8 l first others)])] 1 := by
 unfold zjp
 refine zBm (by kernel_rfl) Tryz.func77 rfl rfl (Nat.le_of_ble_eq_true rfl) (by kernel_rfl) ?_
 repeat first|refine wV fun _=>?_|simp [go_sem]
 refine zBh (zBk (α := Nat) (fun i => ⟨[(0, .ref 0 0 64 0 0), (1, .v (.int .i64 first)), (10, zaj others), (11, .int others.length), (12, .v (.int .i64 i))], [(0, .rows true 0 64 [ze9 (za8 l first (others.take i))])], 1⟩)
  (fun d i => i + d = others.length) ?_ others.length 0 ?_) ?_ ?_
 ·rintro d i i1 hrec
  have htk : ∀ c ∈ others.take i, 0 ≤ c ∧ c < 64 := fun c hc => ho c (List.mem_of_mem_take hc)
  have hok := (zgJ hl h0 (others.take i) htk).1
  have hel : (ze9 (za8 l first (others.take i))).length = 64 := by rw [zi5, hok.len]
  repeat first|refine wV fun _=>?_|simp [go_sem]
  refine zBj (fun hi => ?_) (fun hi => ?_) <;> simp at hi
  ·have hx := ho _ (zah hi)
   have hs : za8 l first (others.take (i + 1)) = ziR (za8 l first (others.take i)) (zaX (za8 l first (others.take i)) first) (zaX (za8 l first (others.take i)) (nth others i)) := by
    rw [List.take_add_one, List.getElem?_eq_getElem hi, Option.toList_some, zj5, zaA _ _ hi]
   generalize za8 l first (others.take i) = l1 at hok hel hs ⊢
   have hr1 := zkB l1 hok first h0.1 h0.2
   have hr2 := zkB l1 hok (nth others i) hx.1 hx.2
   have ra := zev hok h0.1 h0.2
   have rb := zev hok hx.1 hx.2
   generalize zaX l1 first = a at hs hr1 ra
   generalize zaX l1 (nth others i) = b at hs hr2 rb
   repeat first|refine wV fun _=>?_|simp [go_sem, hi]
   refine zBu (args' := [.fp (ze9 l1), .v (.int .i64 first)]) hr1 (.v _) ?_ (by simp [go_sem]) ?_
   ·refine zam.cons (.frzP rfl ?_ ?_ ?_ ?_) (.refl _ _ _ _) <;> first | exact zam.refl _ _ _ _ | simp [hel, noH]
   repeat first|refine wV fun _=>?_|simp [go_sem]
   refine zBu (args' := [.fp (ze9 l1), .v (.int .i64 (nth others i))]) hr2 (.v _) ?_ (by simp [go_sem]) ?_
   ·refine zam.cons (.frzP rfl ?_ ?_ ?_ ?_) (.refl _ _ _ _) <;> first | exact zam.refl _ _ _ _ | simp [hel, noH]
   repeat first|refine wV fun _=>?_|simp [go_sem, hel]
   refine zBh (hrec (d - 1) (by omega) (i + 1) (by omega)) ?_ (by simp)
   have hst : ze9 (ziR l1 a b) = (ze9 l1).set (max a b).toNat (.v (.int .i64 (min a b))) := by simp [ze9, ziR, List.map_set]
   simp [go_sem, zaf, hs, minE, maxE, hst]
   rw [← hst]
   exact of_eq_true zg3
  ·have hil : i = others.length := by omega
   subst hil
   rw [List.take_length] at *
   repeat first|refine wV fun _=>?_|simp [go_sem]
   simp [go_sem, zaf]
 ·simp
 ·simp [go_sem, zaf, za8]
 ·simp
theorem zoX (l : List Int) (hl : za2 l) (first : Int) (h0 : 0 ≤ first ∧ first < 64) (others : List Int) (ho : ∀ c ∈ others, 0 ≤ c ∧ c < 64) (hlo : others.length ≤ 1048576) {h h' : zan} {n o : Nat} {A : AV} (hfz : Frz h h')
  (ho' : h' o = some (.rows true 0 64 [ze9 l])) (hon : o < n) (hA : LeV h h' n A (zaj others)) {K : zco} (hK : K (.tup []) (upd h' o (some (.rows true 0 64 [ze9 (za8 l first others)]))) n) :
  zaa Tryz.prog 77 [.ref o 0 64 0 0, .v (.int .i64 first), A] h n K := by
 have hbo : ∀ m, Bel m (zaj others) := fun m => by simp [go_sem]
 have hbl : ∀ (l : List Int) m, ∀ r ∈ [ze9 l], ∀ c ∈ r, Bel m c := fun l m r hr c hc => by
  rw [List.mem_singleton] at hr; subst hr; exact of_eq_true zg3 c hc
 refine zBB (args' := [.ref o 0 64 0 0, .v (.int .i64 first), zaj others]) (HH := [(o, .rows true 0 64 [ze9 (za8 l first others)])])
  [o] h' (zwl l hl first h0 others ho hlo) (by simp) (by simpa using hon) rfl (Nat.le_refl _) hfz ?_ ?_ (.cons (.refl _) (.cons (.refl _) (.cons hA .nil))) ?_ ?_ ?_ (.same (.tup fun _ h => by cases h)) ?_ ?_
 ·intro j hj
  obtain rfl : j = 0 := by omega
  exact ⟨_, _, rfl, ho', .rows (.same (hbl _ _))⟩
 ·intro p hp
  simp only [List.mem_cons, List.not_mem_nil, or_false] at hp
  subst hp
  exact ⟨Nat.le_refl _, hbl _ _⟩
 ·intro y hy
  simp only [List.mem_cons, List.not_mem_nil, or_false] at hy
  rcases hy with rfl | rfl | rfl
  ·exact .ref hon
  ·exact .v _
  ·exact hbo _
 ·exact .cons (.ref rfl) (.cons (.same (.v _)) (.cons (.same (hbo _)) .nil))
 ·intro y hy
  simp only [List.mem_cons, List.not_mem_nil, or_false] at hy
  rcases hy with rfl | rfl | rfl
  ·exact .ref (by decide)
  ·exact .v _
  ·exact hbo _
 ·exact .cons rfl (.rows (.same (hbl _ _))) .nil
 ·have e : zdM [(o, .rows true 0 64 [ze9 (za8 l first others)])] (zll [o] h') = upd h' o (some (.rows true 0 64 [ze9 (za8 l first others)])) := by
   funext j
   simp only [zdM, zll, upd]
   by_cases j1 : j = o
   ·subst j1; simp
   ·simp [j1]
  rw [e, Nat.sub_self, Nat.add_zero]
  exact hK
theorem zc3 {g : zac} (hg : GOk g) (s : Int) : zgB g.cells.toNat (zce g s) := by
 have hc1 := hg.c1
 refine ⟨by simp [zce]; exact hg.k6, fun k hk => ?_⟩
 obtain ⟨kd, hkd, rfl⟩ := List.mem_map.1 hk
 refine ⟨by simp [zdo, zac.board], fun x hx => ?_⟩
 obtain ⟨c, hc, rfl⟩ := List.mem_map.1 hx
 have hc' := List.mem_range.1 hc
 have hcc : (0 : Int) ≤ (c : Int) ∧ (c : Int) < g.cells := by simp [zac.board] at hc'; omega
 refine ⟨by have := zhn hg s hkd (c : Nat); omega, fun p hp => ?_⟩
 have ho := zyB hg (side := s) hkd hcc p hp
 have e : ((g.cells.toNat : Nat) : Int) = g.cells := by omega
 refine ⟨by rw [e]; exact ho.to, zlX hg s hkd _ p hp, fun a ha => by rw [e]; exact zvC (ho.acts a ha)⟩
def znm (i : Nat) : List Int := idL.take i ++ List.replicate (64 - i) 0
theorem zwe {i : Nat} (h : i ≤ 64) : (znm i).length = 64 := by simp [znm, idL]; omega
theorem ztI : ∀ i, i < 64 → znm (i + 1) = (znm i).set i (i : Int) := by decide +kernel
theorem zwd : znm 64 = idL := rfl
def zec (l : List Int) (n c : Nat) : List Int := zca l c ++ List.replicate (n - c) 0
theorem zbX (l : List Int) (n : Nat) : (zca l n).length = n := by simp [zca]
theorem zrA (l : List Int) {n c : Nat} (h : c ≤ n) : (zec l n c).length = n := by simp [zec, zbX]; omega
theorem zrz (l : List Int) (n : Nat) : zec l n n = zca l n := by simp [zec]
theorem zpF (l : List Int) {n c : Nat} (h : c < n) : zec l n (c + 1) = (zec l n c).set c (zaX l c) := by
 unfold zec
 have e : zca l (c + 1) = zca l c ++ [zaX l c] := by simp [zca, List.range_succ]
 have e2 : List.replicate (n - c) (0 : Int) = 0 :: List.replicate (n - (c + 1)) 0 := by rw [show n - c = (n - (c + 1)) + 1 by omega, List.replicate_succ]
 rw [e, e2, List.set_append_right _ _ (by rw [zbX]; omega), zbX, Nat.sub_self, List.set_cons_zero, List.append_assoc]
 rfl
theorem zji (g : zac) (hg : GOk g) : zaJ Tryz.prog 24 [.agg (zad g)] (zaj (zca (zdI (zdj g)) g.cells.toNat)) := by
 refine pF Tryz.func24 ?_
 have hC := znO g hg
 have hc1 := hg.c1
 have hc9 := hg.c9
 have hs1 := zc3 hg 0
 have hs2 := zc3 hg 1
 have hcc : zdj g = (zce g 0, zce g 1) := rfl
 rw [hcc] at hC ⊢
 generalize zce g 0 = s0 at *
 generalize zce g 1 = s1 at *
 have hgb : ∀ n, (∀ c ∈ zad g, Bel n c) = True := fun n => by simp [go_sem]
 have hg0 : cel (zad g) 0 = .v (.int .i64 g.cells) := rfl
 obtain ⟨eg, heg⟩ : ∃ eg, eg = zad g := ⟨_, rfl⟩
 have hel : eg.length = 9 := by rw [heg]; rfl
 have hn64 : g.cells.toNat ≤ 64 := by omega
 rw [← heg] at hC hgb hg0 ⊢
 clear hcc heg
 obtain ⟨n, hn⟩ : ∃ n, n = g.cells.toNat := ⟨_, rfl⟩
 have hnc : g.cells = (n : Int) := by omega
 rw [← hn] at hs1 hs2 hn64 ⊢
 rw [hnc] at *
 repeat first|refine wV fun _=>?_|simp [go_sem, hel]
 refine zBh (zBk (α := Nat) (fun i => ⟨[(1, .ref 0 0 9 0 0), (3, .ref 1 0 64 0 0), (17, .v (.int .i64 i))], [(0, .rows true 0 9 [eg]), (1, .rows true 0 64 [ze9 (znm i)])], 2⟩)
  (fun d i => i + d = 64) ?_ 64 0 ?_) ?_ ?_
 ·rintro d i i1 hrec
  have hell : (ze9 (znm i)).length = 64 := by rw [zi5, zwe (by omega)]
  repeat first|refine wV fun _=>?_|simp [go_sem]
  refine zBj (fun hi => ?_) (fun hi => ?_) <;> simp at hi
  ·have hst : ze9 (znm (i + 1)) = (ze9 (znm i)).set i (.v (.int .i64 i)) := by rw [ztI i (by omega)]; simp [ze9, List.map_set]
   repeat first|refine wV fun _=>?_|simp [go_sem, hell]
   refine zBh (hrec (d - 1) (by omega) (i + 1) (by omega)) ?_ (by simp)
   simp [go_sem, zaf, hst]
   exact ⟨of_eq_true (hgb 2), by rw [← hst]; exact of_eq_true zg3⟩
  ·have hil : i = 64 := by omega
   subst hil
   rw [zwd]
   have hcl : (zcX (s0, s1)).length = 2 := rfl
   have hcb : ∀ n, (∀ c ∈ zcX (s0, s1), Bel n c) = True := fun n => by simp [go_sem]
   have hct : (zcX (s0, s1)).take 2 = [zaC s0, zaC s1] := rfl
   generalize zcX (s0, s1) = ec at *
   repeat first|refine wV fun _=>?_|simp [go_sem]
   refine zBi hC (by simp [go_sem, hgb]) ?_
   repeat first|refine wV fun _=>?_|simp [go_sem, hcl, hct]
   obtain ⟨R, hR⟩ : ∃ R, R = zdI (s0, s1) := ⟨_, rfl⟩
   have hRok : za2 R := by rw [hR]; exact zo2 hn64 hs1 hs2
   rw [← hR]
   have hss : ∀ i : Nat, i < 2 → ∃ s, zgB n s ∧ cel [zaC s0, zaC s1] i = zaC s ∧ (i = 0 → s = s0) ∧ (i = 1 → s = s1) := by
    intro i hi
    rcases (show i = 0 ∨ i = 1 by omega) with rfl | rfl
    ·exact ⟨s0, hs1, rfl, fun _ => rfl, fun h => by omega⟩
    ·exact ⟨s1, hs2, rfl, fun h => by omega, fun _ => rfl⟩
   have hR' : R = zgp (zgp idL s0) s1 := hR
   clear hC
   refine zBh (zBk (α := Nat × List Int) (fun a => ⟨[(1, .ref 0 0 9 0 0), (3, .ref 1 0 64 0 0), (26, .agg [zaC s0, zaC s1]), (27, .v (.int .i64 a.1))], [(0, .rows true 0 9 [eg]), (1, .rows true 0 64 [ze9 a.2])], 2⟩)
    (fun d a => a.1 + d = 2 ∧ za2 a.2 ∧ (a.1 = 0 → a.2 = idL) ∧ (a.1 = 1 → a.2 = zgp idL s0) ∧ (a.1 = 2 → a.2 = R)) ?_ 2 (0, idL) ?_) ?_ ?_
   ·rintro d ⟨i, l⟩ ⟨i1, i2, i3, i4, i5⟩ hrec
    simp only at i1 i2 i3 i4 i5
    repeat first|refine wV fun _=>?_|simp [go_sem]
    refine zBj (fun hi => ?_) (fun hi => ?_) <;> simp at hi
    ·obtain ⟨s, hs, hcs, hsa, hsb⟩ := hss i (by omega)
     obtain ⟨R2, hR2⟩ : ∃ R2, R2 = zgp l s := ⟨_, rfl⟩
     have hgo := hrec (d - 1) (by omega) (i + 1, R2) ⟨by simp only; omega, by rw [hR2]; exact zho hn64 s i2 hs.2, fun h => by omega, fun h => by simp only at h ⊢; rw [hR2, i3 (by omega), hsa (by omega)], fun h => by simp only at h ⊢; rw [hR2, i4 (by omega), hsb (by omega), hR']⟩
     obtain ⟨hs6, hsk⟩ := hs
     simp only [zaC, zbA, zbm] at hcs
     repeat first|refine wV fun _=>?_|simp [go_sem, hcs]
     refine zBh (zBk (α := Nat × List Int) (fun a => ⟨[(1, .ref 0 0 9 0 0), (3, .ref 1 0 64 0 0), (26, .agg [zaC s0, zaC s1]), (27, .v (.int .i64 i)), (30, zaC s), (31, .int s.length), (32, .v (.int .i64 a.1))], [(0, .rows true 0 9 [eg]), (1, .rows true 0 64 [ze9 a.2])], 2⟩)
      (fun d a => a.1 + d = s.length ∧ za2 a.2 ∧ zgp a.2 (s.drop a.1) = R2) ?_ s.length (0, l) ?_) ?_ ?_
     ·rintro d2 ⟨k, l2⟩ ⟨j1, j2, j3⟩ hrec2
      simp only at j1 j2 j3
      repeat first|refine wV fun _=>?_|simp [go_sem]
      refine zBj (fun hk => ?_) (fun hk => ?_) <;> simp at hk
      ·have hsk' := hsk _ (zah hk)
       rw [zaG hk] at j3
       obtain ⟨kl, hkl⟩ : ∃ kl, kl = nth s k := ⟨_, rfl⟩
       rw [← hkl] at hsk' j3
       obtain ⟨R3, hR3⟩ : ∃ R3, R3 = zgj l2 0 kl := ⟨_, rfl⟩
       have hgo2 := hrec2 (d2 - 1) (by omega) (k + 1, R3) ⟨by simp only; omega, by rw [hR3]; exact zjJ hn64 kl 0 j2 (by omega) (fun x hx => (hsk'.2 x hx).2), by rw [hR3]; exact j3⟩
       obtain ⟨hkn, hkx⟩ := hsk'
       repeat first|refine wV fun _=>?_|simp [go_sem, hk, ← hkl]
       refine zBh (zBk (α := Nat × List Int) (fun a => ⟨[(1, .ref 0 0 9 0 0), (3, .ref 1 0 64 0 0), (26, .agg [zaC s0, zaC s1]), (27, .v (.int .i64 i)), (30, zaC s), (31, .int s.length), (32, .v (.int .i64 k)), (36, zbA kl), (37, .int n), (38, .v (.int .i64 a.1))], [(0, .rows true 0 9 [eg]), (1, .rows true 0 64 [ze9 a.2])], 2⟩)
        (fun d a => a.1 + d = n ∧ za2 a.2 ∧ zgj a.2 a.1 (kl.drop a.1) = R3) ?_ n (0, l2) ?_) ?_ ?_
       ·rintro d3 ⟨c, l3⟩ ⟨m1, m2, m3⟩ hrec3
        simp only at m1 m2 m3
        repeat first|refine wV fun _=>?_|simp [go_sem]
        refine zBj (fun hc => ?_) (fun hc => ?_) <;> simp at hc
        ·have hck : c < kl.length := by omega
         have hkx' := hkx _ (zah hck)
         rw [zaG hck] at m3
         rw [zgj] at m3
         obtain ⟨ps, hps⟩ : ∃ ps, ps = nth kl c := ⟨_, rfl⟩
         rw [← hps] at hkx' m3
         have hcn : (0 : Int) ≤ (c : Int) ∧ (c : Int) < (n : Int) := ⟨by omega, by omega⟩
         obtain ⟨R4, hR4⟩ : ∃ R4, R4 = zmf (c : Int) l3 ps := ⟨_, rfl⟩
         have hgo3 := hrec3 (d3 - 1) (by omega) (c + 1, R4) ⟨by simp only; omega, by rw [hR4]; exact zkw hn64 hcn ps m2 hkx'.2, by rw [hR4]; exact m3⟩
         obtain ⟨hpl, hpp⟩ := hkx'
         repeat first|refine wV fun _=>?_|simp [go_sem, hck, ← hps]
         refine zBh (zBk (α := Nat × List Int) (fun a => ⟨[(1, .ref 0 0 9 0 0), (3, .ref 1 0 64 0 0), (9, .v (.int .i64 c)), (26, .agg [zaC s0, zaC s1]), (27, .v (.int .i64 i)), (30, zaC s), (31, .int s.length), (32, .v (.int .i64 k)), (36, zbA kl), (37, .int n), (38, .v (.int .i64 c)), (43, zbm ps), (44, .int ps.length), (45, .v (.int .i64 a.1))], [(0, .rows true 0 9 [eg]), (1, .rows true 0 64 [ze9 a.2])], 2⟩)
          (fun d a => a.1 + d = ps.length ∧ za2 a.2 ∧ zmf c a.2 (ps.drop a.1) = R4) ?_ ps.length (0, l3) ?_) ?_ ?_
         ·rintro d4 ⟨j, l4⟩ ⟨o1, o2, o3⟩ hrec4
          simp only at o1 o2 o3
          repeat first|refine wV fun _=>?_|simp [go_sem]
          refine zBj (fun hj => ?_) (fun hj => ?_) <;> simp at hj
          ·have hpp' := hpp _ (zah hj)
           rw [zaG hj] at o3
           obtain ⟨p, hp⟩ : ∃ p, p = nth ps j := ⟨_, rfl⟩
           rw [← hp] at hpp' o3
           obtain ⟨R5, hR5⟩ : ∃ R5, R5 = zrc (c : Int) l4 p := ⟨_, rfl⟩
           have hgo4 := hrec4 (d4 - 1) (by omega) (j + 1, R5) ⟨by simp only; omega, by rw [hR5]; exact zr9 hn64 hcn hpp' o2, by rw [hR5]; exact o3⟩
           obtain ⟨hto, hal, hac⟩ := hpp'
           have hl5 := zhl o2 hn64 hcn (others := [p.to]) (fun x hx => by rw [List.mem_singleton] at hx; subst hx; exact hto)
           repeat first|refine wV fun _=>?_|simp [go_sem, hj, ← hp]
           refine zoX l4 o2 c ⟨hcn.1, by omega⟩ [p.to] (fun x hx => by rw [List.mem_singleton] at hx; subst hx; omega) (by simp) (zc5 _ [3]) rfl (by omega) ?_ ?_
           ·(first|done|exact leX)
           have hR5' : zuU (c : Int) (za8 l4 c [p.to]) p.acts = R5 := hR5.symm
           generalize za8 l4 c [p.to] = l5 at hl5 hR5' ⊢
           repeat first|refine wV fun _=>?_|simp [go_sem]
           refine zBh (zBk (α := Nat × List Int) (fun a => ⟨[(1, .ref 0 0 9 0 0), (3, .ref 1 0 64 0 0), (9, .v (.int .i64 c)), (26, .agg [zaC s0, zaC s1]), (27, .v (.int .i64 i)), (30, zaC s), (31, .int s.length), (32, .v (.int .i64 k)), (36, zbA kl), (37, .int n), (38, .v (.int .i64 c)), (43, zbm ps), (44, .int ps.length), (45, .v (.int .i64 j)),
             (55, zcG p.acts), (56, .int p.acts.length), (57, .v (.int .i64 a.1))], [(0, .rows true 0 9 [eg]), (1, .rows true 0 64 [ze9 a.2])], 2⟩)
            (fun d a => a.1 + d = p.acts.length ∧ za2 a.2 ∧ zuU c a.2 (p.acts.drop a.1) = R5) ?_ p.acts.length (0, l5) ?_) ?_ ?_
           ·rintro d5 ⟨m, l6⟩ ⟨q1, q2, q3⟩ hrec5
            simp only at q1 q2 q3
            repeat first|refine wV fun _=>?_|simp [go_sem]
            refine zBj (fun hm => ?_) (fun hm => ?_) <;> simp at hm
            ·have hac' := hac _ (zah hm)
             rw [zaG hm] at q3
             obtain ⟨a, ha⟩ : ∃ a, a = nth p.acts m := ⟨_, rfl⟩
             rw [← ha] at hac' q3
             have hgo5 := hrec5 (d5 - 1) (by omega) (m + 1, za8 l6 c (zbh a)) ⟨by simp only; omega, zhl q2 hn64 hcn hac', q3⟩
             have hra := zri a
             repeat first|refine wV fun _=>?_|simp [go_sem, hm, ← ha]
             refine zBi hra (by simp [go_sem]) ?_
             repeat first|refine wV fun _=>?_|simp [go_sem]
             refine zoX l6 q2 c ⟨hcn.1, by omega⟩ (zbh a) (fun x hx => by have := hac' x hx; omega) (by have := ztj a; omega) (.refl _) rfl (by omega) (.refl _) ?_
             repeat first|refine wV fun _=>?_|simp [go_sem]
             refine zBh hgo5 ?_ (by simp)
             simp [go_sem, zaf]
             exact of_eq_true (hgb 2)
            ·rw [List.drop_eq_nil_of_le hm] at q3
             have q3' : l6 = R5 := q3
             subst q3'
             repeat first|refine wV fun _=>?_|simp [go_sem]
             refine zBh hgo4 ?_ (by simp)
             simp [go_sem, zaf]
             exact of_eq_true (hgb 2)
           ·exact ⟨by simp, hl5, by rw [← hR5']; rfl⟩
           ·simp [go_sem, zaf]
            exact of_eq_true (hgb 2)
           ·simp
          ·rw [List.drop_eq_nil_of_le hj] at o3
           have o3' : l4 = R4 := o3
           subst o3'
           repeat first|refine wV fun _=>?_|simp [go_sem]
           refine zBh hgo3 ?_ (by simp)
           simp [go_sem, zaf]
           exact of_eq_true (hgb 2)
         ·exact ⟨by simp, m2, by rw [hR4]; rfl⟩
         ·simp [go_sem, zaf]
          exact of_eq_true (hgb 2)
         ·simp
        ·rw [List.drop_eq_nil_of_le (by omega)] at m3
         have m3' : l3 = R3 := m3
         subst m3'
         repeat first|refine wV fun _=>?_|simp [go_sem]
         refine zBh hgo2 ?_ (by simp)
         simp [go_sem, zaf]
         exact of_eq_true (hgb 2)
       ·exact ⟨by simp, j2, by rw [hR3]; rfl⟩
       ·simp [go_sem, zaf, hkn]
        exact of_eq_true (hgb 2)
       ·simp
      ·rw [List.drop_eq_nil_of_le hk] at j3
       have j3' : l2 = R2 := j3
       subst j3'
       repeat first|refine wV fun _=>?_|simp [go_sem]
       refine zBh hgo ?_ (by simp)
       simp [go_sem, zaf]
       exact of_eq_true (hgb 2)
     ·exact ⟨by simp, i2, by rw [hR2]; rfl⟩
     ·simp [go_sem, zaf]
      exact of_eq_true (hgb 2)
     ·simp
    ·have hi2 : i = 2 := by omega
     rw [i5 hi2]
     repeat first|refine wV fun _=>?_|simp [go_sem, hg0, ← hn]
     refine zBh (zBk (α := Nat) (fun c => ⟨[(3, .ref 1 0 64 0 0), (15, .sl 2 0 1 0 n), (75, .int n), (76, .v (.int .i64 c))], [(1, .rows true 0 64 [ze9 R]), (2, .rows true 0 1 ((zec R n c).map zbd))], 3⟩)
      (fun d c => c + d = n) ?_ n 0 ?_) ?_ ?_
     ·rintro d2 c j1 hrec2
      have hzl := zrA R (show c ≤ n by omega)
      repeat first|refine wV fun _=>?_|simp [go_sem]
      refine zBj (fun hc => ?_) (fun hc => ?_) <;> simp at hc
      ·have hzs := zpF R hc
       have hr := zkB R hRok c (by omega) (by omega)
       repeat first|refine wV fun _=>?_|simp [go_sem]
       refine zBu (args' := [.fp (ze9 R), .v (.int .i64 c)]) hr (.v _) ?_ (by simp [go_sem]) ?_
       ·have hRl : (ze9 R).length = 64 := by rw [zi5, hRok.len]
        refine zam.cons (.frzP rfl ?_ ?_ ?_ ?_) (.refl _ _ _ _) <;> first | exact zam.refl _ _ _ _ | simp [hRl, noH]
       repeat first|refine wV fun _=>?_|simp [go_sem, hzl]
       refine zBh (hrec2 (d2 - 1) (by omega) (c + 1) (by omega)) ?_ (by simp)
       simp [go_sem, zaf, hzs]
      ·have hcl : c = n := by omega
       subst hcl
       rw [zrz]
       repeat first|refine wV fun _=>?_|simp [go_sem, zbX]
       ((try simp only [zaq, zaE, zbt, zcG, zaw, zbm, zaM, zar, zag, zdC, zbz, zaV, zaj, zad, List.map_cons, List.map_nil, List.nil_append, List.append_nil, List.cons_append]); (repeat (first | (with_reducible first|exact zam.nil|exact zak.nil|exact LeV.refl _|exact zam.refl _ _ _ _|exact zak.refl _|refine zam.cons ?_ ?_|refine zak.cons ?_ ?_|refine LeV.agg ?_|refine LeV.tup ?_|refine LeV.fn ?_ ?_|exact LeV.nil _|refine zao (zak.refl _) ?_) | ((refine zaL rfl (by simp [zbX]) (by simp [zbB, zb5, upd, noH]) ?_); (first | (simp [go_sem, zbX]; done) | (simp [go_sem, zbX]; exact List.take_of_length_le (by simp [zbX])))) | ((refine LeV.frz rfl (by simp [zbX]) (by simp [zbB, zb5, upd, noH]) ?_); (simp only [List.drop_zero, List.take_succ_cons, List.take_zero, List.map_cons, List.map_nil])) | ((refine LeV.frzP rfl (by simp [zbX]) (by simp) (by simp [zbB, zb5, upd, noH]) ?_); (simp only [zbe, List.drop_zero])))))
     ·simp
     ·have hz0 : zec R n 0 = List.replicate n 0 := by simp [zec, zca]
      simp [go_sem, zaf, hz0]
     ·simp
   ·exact ⟨by simp, zwa, fun _ => rfl, by intro h; simp at h, by intro h; simp at h⟩
   ·simp [go_sem, zaf]
    exact of_eq_true (hgb 2)
   ·simp
 ·simp
 ·simp [go_sem, zaf]
  exact ⟨of_eq_true (hgb 2), zBD rfl⟩
 ·simp
theorem zsq (p : zaK) (more : List zed) (to : Int) (hp : p.acts.length ≤ 1048576) (hm : more.length ≤ 1048576) : zlt Tryz.prog 207 [.agg (zaw p), zcG more, .v (.int .i64 to)]
  (fun n => .agg [.sl (n + 2) 2 3 0 (p.acts.length + more.length), .v (.int .i64 to)]) (fun n => [(n + 2, .rows true 2 3 ((p.acts ++ more).map zbt))]) 3 := by
 refine ⟨zBm (by kernel_rfl) Tryz.func207 rfl rfl (Nat.le_of_ble_eq_true rfl) (by kernel_rfl) ?_, fun n => ⟨by simp [go_sem], by simp [go_sem]⟩⟩
 obtain ⟨acts, t⟩ := p
 simp only at hp
 repeat first|refine wV fun _=>?_|simp [go_sem]
 simp [go_sem, zaf]
theorem zsr (p : zaK) (more : List zed) (to : Int) (hp : p.acts.length ≤ 1048576) (hm : more.length ≤ 1048576) : zaJ Tryz.prog 207 [.agg (zaw p), zcG more, .v (.int .i64 to)] (.agg (zaw (onP p to more))) := by
 refine (zsq p more to hp hm).pure ?_ (by simp [go_sem])
 unfold onP
 (first|done|exact leX)
theorem zoB (b : zaD) (hb : zaR b) (h9 : b.cells ≤ 9) (side : Int) (p : zaK) (hp : p.acts.length ≤ 1000000) (x : Int × Int) (hx : 1 ≤ x.1 ∧ x.1 ≤ 10) :
  zaJ Tryz.prog 156 [.agg (zcv b), .v (.int .i64 side), .agg (zaw p), .agg (zaE x)] (zbm (zkW b side p x)) := by
 refine pF Tryz.func156 ?_
 have hT := znU b hb side x.2 p.to
 have hL := zpW b hb side x.2 p.to
 have hwg : ∀ to, zaJ Tryz.prog 207 [.agg (zaw p), zcG [], .v (.int .i64 to)] (.agg (zaw (onP p to []))) := fun to => zsr p [] to (by omega) (by simp)
 have hw1 : ∀ to a, zaJ Tryz.prog 207 [.agg (zaw p), zcG [a], .v (.int .i64 to)] (.agg (zaw (onP p to [a]))) := fun to a => zsr p [a] to (by omega) (by simp)
 have hbl : ∀ n, (∀ c' ∈ zcv b, Bel n c') = True := fun n => by simp [go_sem]
 have hel : (zcv b).length = 3 := rfl
 generalize zcv b = eb at *
 obtain ⟨op, N⟩ := x
 simp only at hx hT hL
 unfold zkW
 simp only
 by_cases h1 : op = 1
 ·subst h1
  rw [if_pos (.inl rfl)]
  generalize toB b side N p.to = T at *
  by_cases ht : T < 0
  ·rw [if_pos ht]
   repeat first|refine wV fun _=>?_|simp [go_sem, hel]
   refine zBi hT (by simp [go_sem, hbl]) ?_
   repeat first|refine wV fun _=>?_|simp [go_sem, hel, ht]
   (first|done|exact leX)
  ·rw [if_neg ht, if_pos rfl]
   repeat first|refine wV fun _=>?_|simp [go_sem, hel]
   refine zBi hT (by simp [go_sem, hbl]) ?_
   repeat first|refine wV fun _=>?_|simp [go_sem, hel, ht]
   refine zBp [] (hwg T) (.cons (.refl _) (.cons (.nil _) (.refl _ _ _ _))) (by simp [go_sem]) ?_
   repeat first|refine wV fun _=>?_|simp [go_sem]
   (first|done|exact leX)
 by_cases h7 : op = 7
 ·subst h7
  rw [if_pos (.inr rfl)]
  generalize toB b side N p.to = T at *
  by_cases ht : T < 0
  ·rw [if_pos ht]
   repeat first|refine wV fun _=>?_|simp [go_sem, hel]
   refine zBi hT (by simp [go_sem, hbl]) ?_
   repeat first|refine wV fun _=>?_|simp [go_sem, hel, ht]
   (first|done|exact leX)
  ·rw [if_neg ht, if_neg (by omega)]
   repeat first|refine wV fun _=>?_|simp [go_sem, hel]
   refine zBi hT (by simp [go_sem, hbl]) ?_
   repeat first|refine wV fun _=>?_|simp [go_sem, hel, ht]
   refine zBp [3] (hw1 p.to (7, p.to, T)) ?_ (by simp [go_sem]) ?_
   ·(first|done|exact leX)
   repeat first|refine wV fun _=>?_|simp [go_sem]
   (first|done|exact leX)
 rw [if_neg (by omega)]
 by_cases h2 : op = 2
 ·subst h2
  rw [if_pos rfl]
  have hll : (zgf b side N p.to).length ≤ 9 := by have := zje hb (side := side) (d := N) (c := p.to); omega
  generalize zgf b side N p.to = line at *
  repeat first|refine wV fun _=>?_|simp [go_sem, hel]
  refine zBi hL (by simp [go_sem, hbl]) ?_
  repeat first|refine wV fun _=>?_|simp [go_sem, hel]
  refine zBh (zBk (α := Nat × List zed × List zaK) (fun a => ⟨[(6, .ref 1 0 2 0 0), (10, .sl 3 a.1 2 0 a.2.2.length), (11, .sl 4 a.1 3 0 a.2.1.length), (12, zaj line), (13, .v (.int .i64 a.1))],
    [(1, .rows true 0 2 [zaw p]), (3, .rows true a.1 2 (a.2.2.map zaw)), (4, .rows true a.1 3 (a.2.1.map zbt))], 5⟩)
   (fun d a => a.1 + d = line.length ∧ a.2.1.length = a.1 ∧ a.2.2.length = a.1 ∧ a.2.2 ++ zbU p (line.drop a.1) a.2.1 = zbU p line []) ?_ line.length (0, [], []) ?_) ?_ ?_
  ·rintro d ⟨i, passed, out⟩ ⟨i1, i2, i3, i4⟩ hrec
   simp only at i1 i2 i3 i4
   have hw := zsq p passed (nth line i) (by omega) (by omega)
   repeat first|refine wV fun _=>?_|simp [go_sem]
   refine zBj (fun hi => ?_) (fun hi => ?_) <;> simp at hi
   ·rw [zaG hi, zbU] at i4
    have hgo := hrec (d - 1) (by omega) (i + 1, passed ++ [(3, nth line i, 0)], out ++ [onP p (nth line i) passed]) ⟨by simp only; omega, by simp; omega, by simp; omega, by simp only; rw [← i4, List.append_assoc]; rfl⟩
    repeat first|refine wV fun _=>?_|simp [go_sem, hi]
    refine zBQ [4] 128 (by rfl) hw (by decide) (by simp [go_sem]) (by simp [go_sem]) ?_ (by simp [go_sem]) (by simp [go_sem]) ?_
    ·intro h₁ hh
     exact zam.cons (.refl _) (zam.cons (zaL ((hh 4 (by simp)).symm.trans rfl) (by simp) (by simp [noH]) (by rw [List.drop_zero, List.take_of_length_le (by simp)])) (.refl _ _ _ _))
    ((repeat (first|with_reducible (first|refine wL fun _=>?_|refine wD fun _=>?_|refine wZ ?_)|simp [go_sem, hi])); refine zBR (by kernel_rfl) ?_)
    repeat first|refine wV fun _=>?_|simp [go_sem, hi]
    refine zBh hgo ?_ (by simp)
    simp [go_sem, zaf]
    unfold onP
    (first|done|exact rwX)
   ·rw [List.drop_eq_nil_of_le hi, zbU, List.append_nil] at i4
    rw [← i4]
    repeat first|refine wV fun _=>?_|simp [go_sem]
    (first|done|exact leX)
  ·exact ⟨by simp, rfl, rfl, rfl⟩
  ·simp [go_sem, zaf]
  ·simp
 rw [if_neg h2]
 by_cases h8 : op = 8 ∨ op = 9 ∨ op = 10
 ·rw [if_pos h8]
  rcases h8 with rfl | rfl | rfl
  ·repeat first|refine wV fun _=>?_|simp [go_sem]
   refine zBp [3] (hw1 p.to (8, N, 0)) ?_ (by simp [go_sem]) ?_
   ·(first|done|exact leX)
   repeat first|refine wV fun _=>?_|simp [go_sem]
   (first|done|exact leX)
  ·repeat first|refine wV fun _=>?_|simp [go_sem]
   refine zBp [3] (hw1 p.to (9, N, 0)) ?_ (by simp [go_sem]) ?_
   ·(first|done|exact leX)
   repeat first|refine wV fun _=>?_|simp [go_sem]
   (first|done|exact leX)
  ·repeat first|refine wV fun _=>?_|simp [go_sem]
   refine zBp [3] (hw1 p.to (10, N, 0)) ?_ (by simp [go_sem]) ?_
   ·(first|done|exact leX)
   repeat first|refine wV fun _=>?_|simp [go_sem]
   (first|done|exact leX)
 ·rw [if_neg h8]
  rcases (show op = 3 ∨ op = 4 ∨ op = 5 ∨ op = 6 by omega) with rfl | rfl | rfl | rfl
  ·repeat first|refine wV fun _=>?_|simp [go_sem]
   refine zBp [3] (hw1 p.to (3, p.to, 0)) ?_ (by simp [go_sem]) ?_
   ·(first|done|exact leX)
   repeat first|refine wV fun _=>?_|simp [go_sem]
   (first|done|exact leX)
  ·repeat first|refine wV fun _=>?_|simp [go_sem]
   refine zBp [3] (hw1 p.to (4, p.to, 0)) ?_ (by simp [go_sem]) ?_
   ·(first|done|exact leX)
   repeat first|refine wV fun _=>?_|simp [go_sem]
   (first|done|exact leX)
  ·repeat first|refine wV fun _=>?_|simp [go_sem]
   refine zBp [3] (hw1 p.to (5, p.to, 0)) ?_ (by simp [go_sem]) ?_
   ·(first|done|exact leX)
   repeat first|refine wV fun _=>?_|simp [go_sem]
   (first|done|exact leX)
  ·repeat first|refine wV fun _=>?_|simp [go_sem]
   refine zBp [3] (hw1 p.to (6, p.to, 0)) ?_ (by simp [go_sem]) ?_
   ·(first|done|exact leX)
   repeat first|refine wV fun _=>?_|simp [go_sem]
   (first|done|exact leX)
theorem zpN (b : zaD) (hb : zaR b) (h1 : 1 ≤ b.cells) (h9 : b.cells ≤ 9) (side : Int) (prog : List (Int × Int)) (hp : prog.length ≤ 8) (hpo : ∀ x ∈ prog, 1 ≤ x.1 ∧ x.1 ≤ 10) (cell : Int) :
  zaJ Tryz.prog 106 [.agg (zcv b), .v (.int .i64 side), zaq prog, .v (.int .i64 cell)] (zbm (zbu b side prog cell)) := by
 refine pF Tryz.func106 ?_
 have hR : zbu b side prog cell = zdf b side prog cell prog.length := by unfold zdf; rw [List.take_length]
 have hl := zif hb h1 h9 side prog hp cell
 have ha := zeV hb h9 side prog cell
 have hs := fun (i : Nat) (h : i < prog.length) => zgP b side prog cell h
 have h0 : zdf b side prog cell 0 = [⟨[], cell⟩] := rfl
 have hE : ∀ p x, p.acts.length ≤ 1000000 → (1 ≤ x.1 ∧ x.1 ≤ 10) → zaJ Tryz.prog 156 [.agg (zcv b), .v (.int .i64 side), .agg (zaw p), .agg (zaE x)] (zbm (zkW b side p x)) := fun p x hp hx => zoB b hb h9 side p hp x hx
 have hbl : ∀ n, (∀ c' ∈ zcv b, Bel n c') = True := fun n => by simp [go_sem]
 have hel : (zcv b).length = 3 := rfl
 rw [hR]
 generalize zcv b = eb at *
 generalize zdf b side prog cell = K at *
 generalize zkW b side = X at *
 clear hR
 repeat first|refine wV fun _=>?_|simp [go_sem, hel]
 refine zBh (zBk (α := Nat) (fun i => ⟨[(1, .v (.int .i64 side)), (2, zaq prog), (4, .ref 0 0 3 0 0), (9, zbm (K i)), (10, .v (.int .i64 i))], [(0, .rows true 0 3 [eb])], 1⟩)
  (fun d i => i + d = prog.length) ?_ prog.length 0 ?_) ?_ ?_
 ·rintro d i i1 hrec
  have hli := hl i
  repeat first|refine wV fun _=>?_|simp [go_sem]
  refine zBj (fun hi => ?_) (fun hi => ?_) <;> simp at hi
  ·have hai := ha i (by omega)
   have hsi := hs i hi
   have hx := hpo _ (zah hi)
   have hl1 := hl (i + 1)
   have hgo := hrec (d - 1) (by omega) (i + 1) (by omega)
   rw [hsi] at hgo hl1
   generalize K i = now at *
   obtain ⟨R, hR⟩ : ∃ R, R = now.flatMap fun w => X w (nth prog i) := ⟨_, rfl⟩
   rw [← hR] at hgo hl1
   repeat first|refine wV fun _=>?_|simp [go_sem]
   refine zBh (zBk (α := Nat × List zaK) (fun a => ⟨[(1, .v (.int .i64 side)), (2, zaq prog), (4, .ref 0 0 3 0 0), (9, zbm now), (10, .v (.int .i64 i)), (11, .sl 1 a.1 2 0 a.2.length), (12, .v (.int .i64 a.1))],
     [(0, .rows true 0 3 [eb]), (1, .rows true a.1 2 (a.2.map zaw))], 2⟩)
    (fun d a => a.1 + d = now.length ∧ a.2 ++ ((now.drop a.1).flatMap fun w => X w (nth prog i)) = R) ?_ now.length (0, []) ?_) ?_ ?_
   ·rintro d2 ⟨j, l⟩ ⟨j1, j2⟩ hrec2
    simp only at j1 j2
    repeat first|refine wV fun _=>?_|simp [go_sem]
    refine zBj (fun hj => ?_) (fun hj => ?_) <;> simp at hj
    ·have haj := hai _ (zah hj)
     have hlR : l.length + (X (nth now j) (nth prog i)).length ≤ 43046721 := by
      rw [zaG hj] at j2
      rw [← j2] at hl1
      simp only [List.flatMap_cons, List.length_append] at hl1
      omega
     rw [zaG hj, List.flatMap_cons, ← List.append_assoc] at j2
     have hgo2 := hrec2 (d2 - 1) (by omega) (j + 1, l ++ X (nth now j) (nth prog i)) ⟨by simp only; omega, j2⟩
     have hEj := hE (nth now j) (nth prog i) (by omega) hx
     simp only [List.length_append] at hgo2
     repeat first|refine wV fun _=>?_|simp [go_sem, hel, hi, hj]
     refine zBl hEj (by simp [go_sem, hbl]) ?_
     repeat first|refine wV fun _=>?_|simp [go_sem]
     refine zBh hgo2 ?_ (by simp)
     simp [go_sem, zaf, hbl]
    ·rw [List.drop_eq_nil_of_le hj, List.flatMap_nil, List.append_nil] at j2
     subst j2
     repeat first|refine wV fun _=>?_|simp [go_sem]
     refine zBh hgo ?_ (by simp)
     simp [go_sem, zaf]
     refine ⟨?_, of_eq_true (hbl 1)⟩
     (first|done|exact leX)
   ·exact ⟨by simp, by rw [hR]; rfl⟩
   ·simp [go_sem, zaf, hbl]
   ·simp
  ·have hil : i = prog.length := by omega
   subst hil
   repeat first|refine wV fun _=>?_|simp [go_sem]
 ·simp
 ·simp [go_sem, zaf, hbl, h0]
  (first|done|exact leX)
 ·simp
theorem zvs {n : Nat} {l : List (Int × Int)} : (∀ r ∈ l.map zaE, ∀ c ∈ r, Bel n c) = True := by
 refine eq_true ?_
 intro r hr c hc
 obtain ⟨x, _, rfl⟩ := List.mem_map.1 hr
 revert c
 simp [go_sem]
attribute [go_sem ↓] zvs
theorem zmZ (l : List (List zaK)) {i : Nat} (h : i < l.length) : zcu (l.drop i) = (nth l i).length + zcu (l.drop (i + 1)) := by
 unfold zcu
 rw [zaG h, List.map_cons, List.sum_cons]
theorem zol (l : List (List (List zaK))) {i : Nat} (h : i < l.length) : zbF (l.drop i) = zcu (nth l i) + zbF (l.drop (i + 1)) := by
 unfold zbF
 rw [zaG h, List.map_cons, List.sum_cons]
structure zmG (g : zac) (c : zga) : Prop where
 l1 : c.1.length = g.kinds.length
 l2 : c.2.length = g.kinds.length
 c1 : ∀ x ∈ c.1, (x.length : Int) = g.cells
 c2 : ∀ x ∈ c.2, (x.length : Int) = g.cells
theorem zmG.side {g : zac} {c : zga} (h : zmG g c) {s : Nat} (hs : s < 2) : ∃ l, cel [zaC c.1, zaC c.2] s = zaC l ∧ l.length = g.kinds.length ∧ ∀ x ∈ l, (x.length : Int) = g.cells := by
 rcases (show s = 0 ∨ s = 1 by omega) with rfl | rfl
 ·exact ⟨_, rfl, h.l1, h.c1⟩
 ·exact ⟨_, rfl, h.l2, h.c2⟩
theorem zro {g : zac} (hg : GOk g) : zmG g (zdj g) := by
 have h : ∀ s, ∀ x ∈ zce g s, (x.length : Int) = g.cells := by
  intro s x hx
  obtain ⟨k, _, rfl⟩ := List.mem_map.1 hx
  have : g.board.cells = g.cells := rfl
  have := hg.c1
  simp [zdo]
  omega
 exact ⟨by simp [zdj, zce], by simp [zdj, zce], h 0, h 1⟩
theorem zpL (c : zga) (hc : zg9 c ≤ 4611686018427387904) (h1 : c.1.length ≤ 1048576) (h2 : c.2.length ≤ 1048576) (hl : ∀ x ∈ c.1 ++ c.2, x.length ≤ 1048576) :
  zaJ Tryz.prog 52 [.agg (zcX c)] (.v (.int .i64 (zg9 c))) := by
 refine pF Tryz.func52 ?_
 obtain ⟨a, b⟩ := c
 simp only at h1 h2 hl
 have hT : zg9 (a, b) = zbF a + zbF b := rfl
 rw [hT] at hc ⊢
 repeat first|refine wV fun _=>?_|simp [go_sem]
 refine zBh (zBk (α := Nat × Nat) (fun x => ⟨[(1, .ref 0 0 2 0 0), (3, .v (.int .i64 x.2)), (4, .v (.int .i64 x.1))], [(0, .rows true 0 2 [[zaC a, zaC b]])], 1⟩)
  (fun d x => x.1 + d = 2 ∧ x.2 = (if x.1 = 0 then 0 else if x.1 = 1 then zbF a else zbF a + zbF b)) ?_ 2 (0, 0) ?_) ?_ ?_
 ·rintro d ⟨s, n⟩ ⟨s1, s2⟩ hrec
  simp only at s1 s2
  rcases (show s = 2 ∨ s < 2 by omega) with rfl | hs2
  ·simp at s2
   subst s2
   repeat first|refine wV fun _=>?_|simp [go_sem]
  ·obtain ⟨l, hl0, hl1, hl2, hl3⟩ : ∃ l : List (List (List zaK)), cel [zaC a, zaC b] s = zaC l ∧ l.length ≤ 1048576 ∧ (∀ x ∈ l, x.length ≤ 1048576) ∧ (if s + 1 = 0 then 0 else if s + 1 = 1 then zbF a else zbF a + zbF b) = n + zbF l := by
    rcases (show s = 0 ∨ s = 1 by omega) with rfl | rfl
    ·simp at s2
     exact ⟨a, rfl, h1, fun x hx => hl x (by simp [hx]), by simp [s2]⟩
    ·simp at s2
     exact ⟨b, rfl, h2, fun x hx => hl x (by simp [hx]), by simp [s2]⟩
   have hcap : n + zbF l ≤ 4611686018427387904 := by rw [← hl3]; split <;> (try split) <;> omega
   simp only [zaC, zbA, zbm] at hl0
   repeat first|refine wV fun _=>?_|simp [go_sem, hl0]
   (refine zBj (fun hT => ?_) (fun hT => by first | omega | (simp at hT; omega)); clear hT)
   repeat first|refine wV fun _=>?_|simp [go_sem, hl0]
   refine zBh (zBk (α := Nat × Nat) (fun x => ⟨[(1, .ref 0 0 2 0 0), (3, .v (.int .i64 x.2)), (4, .v (.int .i64 s)), (5, .v (.int .i64 x.1))], [(0, .rows true 0 2 [[zaC a, zaC b]])], 1⟩)
    (fun d x => x.1 + d = l.length ∧ x.2 + zbF (l.drop x.1) = n + zbF l) ?_ l.length (0, n) ?_) ?_ ?_
   ·rintro d2 ⟨j, m⟩ ⟨j1, j2⟩ hrec2
    simp only at j1 j2
    repeat first|refine wV fun _=>?_|simp [go_sem, hl0]
    refine zBj (fun hj => ?_) (fun hj => ?_) <;> simp at hj
    ·have hll := hl2 _ (zah hj)
     rw [zol l hj] at j2
     repeat first|refine wV fun _=>?_|simp [go_sem, hj, hl0]
     refine zBh (zBk (α := Nat × Nat) (fun x => ⟨[(1, .ref 0 0 2 0 0), (3, .v (.int .i64 x.2)), (4, .v (.int .i64 s)), (5, .v (.int .i64 j)), (6, .v (.int .i64 x.1))], [(0, .rows true 0 2 [[zaC a, zaC b]])], 1⟩)
      (fun d x => x.1 + d = (nth l j).length ∧ x.2 + zcu ((nth l j).drop x.1) = m + zcu (nth l j)) ?_ (nth l j).length (0, m) ?_) ?_ ?_
     ·rintro d3 ⟨k, q⟩ ⟨k1, k2⟩ hrec3
      simp only at k1 k2
      repeat first|refine wV fun _=>?_|simp [go_sem, hl0, hj]
      refine zBj (fun hk => ?_) (fun hk => ?_) <;> simp at hk
      ·rw [zmZ _ hk] at k2
       repeat first|refine wV fun _=>?_|simp [go_sem, hk, hl0, hj]
       refine zBh (hrec3 (d3 - 1) (by omega) (k + 1, q + (nth (nth l j) k).length) ⟨by simp only; omega, by simp only; omega⟩) ?_ (by simp)
       simp [go_sem, zaf]
      ·rw [List.drop_eq_nil_of_le hk] at k2
       simp [zcu] at k2
       repeat first|refine wV fun _=>?_|simp [go_sem]
       refine zBh (hrec2 (d2 - 1) (by omega) (j + 1, q) ⟨by simp only; omega, by simp only [zcu] at j2 ⊢; omega⟩) ?_ (by simp)
       simp [go_sem, zaf]
     ·exact ⟨by simp, by simp⟩
     ·simp [go_sem, zaf]
     ·simp
    ·rw [List.drop_eq_nil_of_le hj] at j2
     simp [zbF] at j2
     repeat first|refine wV fun _=>?_|simp [go_sem]
     refine zBh (hrec (d - 1) (by omega) (s + 1, m) ⟨by simp only; omega, ?_⟩) ?_ (by simp)
     ·simp only
      rw [hl3, j2]
      rfl
     ·simp [go_sem, zaf]
   ·exact ⟨by simp, by simp⟩
   ·simp [go_sem, zaf]
   ·simp
 ·exact ⟨rfl, rfl⟩
 ·simp [go_sem, zaf]
 ·simp
def zpH (a : AV) (s : Nat) (x : AV) : List AV := if s = 0 then [x, .v (.slice none 0 0)] else [a, x]
theorem zy5 (a : AV) (s : Nat) (x : AV) : (zpH a s x).length = 2 := by unfold zpH; split <;> rfl
theorem zy4 (a : AV) {s : Nat} (hs : s < 2) (x : AV) : cel (zpH a s x) s = x := by
 rcases (show s = 0 ∨ s = 1 by omega) with rfl | rfl <;> rfl
theorem zy6 (a : AV) {s : Nat} (hs : s < 2) (x y : AV) : (zpH a s x).set s y = zpH a s y := by
 rcases (show s = 0 ∨ s = 1 by omega) with rfl | rfl <;> rfl
theorem zA2 {h h' : zan} {n : Nat} {a : AV} {s : Nat} {x y : AV} (hx : LeV h h' n x y) : zam h h' n (zpH a s x) (zpH a s y) := by
 unfold zpH
 split
 ·exact .cons hx (.refl _ _ _ _)
 ·exact .cons (.refl _) (.cons hx .nil)
theorem zf7 {n : Nat} {a : AV} {s : Nat} {x : AV} (ha : Bel n a) (hx : Bel n x) : ∀ c ∈ zpH a s x, Bel n c := by
 unfold zpH
 split <;> intro c hc <;> simp only [List.mem_cons, List.not_mem_nil, or_false] at hc <;> rcases hc with rfl | rfl
 ·exact hx
 ·exact .v _
 ·exact ha
 ·exact hx
def zg5 (b : zaD) (s : Int) (ps : List (List (Int × Int))) (c : Nat) : List (List zaK) := (List.range c).map fun (c : Nat) => zeQ b s ps c
theorem zqw (b : zaD) (s : Int) (ps : List (List (Int × Int))) (c : Nat) : zg5 b s ps (c + 1) = zg5 b s ps c ++ [zeQ b s ps c] := by simp [zg5, List.range_succ]
theorem ztk (b : zaD) (s : Int) (ps : List (List (Int × Int))) (c : Nat) : (zg5 b s ps c).length = c := by simp [zg5]
def zA1 (a b : AV) (s : Nat) : List AV := [if s = 0 then AV.v (.slice none 0 0) else a, if s < 2 then AV.v (.slice none 0 0) else b]
theorem zmz (g : zac) (hg : GOk g) : zaJ Tryz.prog 53 [.agg (zad g)] (.agg (zcX (zdj g))) := by
 refine pF Tryz.func53 ?_
 have hc1 := hg.c1
 have hc9 := hg.c9
 have hk6 := hg.k6
 have hP : ∀ k ∈ g.kinds, ∀ p ∈ k.progs, ∀ (side c : Int), zaJ Tryz.prog 106 [.agg (zcv g.board), .v (.int .i64 side), zaq p, .v (.int .i64 c)] (zbm (zbu g.board side p c)) :=
  fun k hk p hp side c => by
   have hpo := hg.pr k hk p hp
   exact zpN g.board hg.board hg.c1 hg.c9 side p hpo.len (fun x hx => (hpo.st x hx).op) c
 have hR : zcX (zdj g) = [zaC (zce g 0), zaC (zce g 1)] := rfl
 rw [hR]
 clear hR
 obtain ⟨C, hC⟩ : ∃ C : Nat, g.cells = C := ⟨g.cells.toNat, by omega⟩
 have hcells : ∀ (s : Int) (j : Nat), zdo g.board s (nth g.kinds j).progs = zg5 g.board s (nth g.kinds j).progs C := fun s j => by
  unfold zdo zg5
  rw [show g.board.cells.toNat = C by have : g.board.cells = g.cells := rfl; omega]
 have hbl : ∀ n, (∀ c' ∈ zad g, Bel n c') = True := fun n => by simp [go_sem]
 have hel : (zad g).length = 9 := rfl
 obtain ⟨eB, heB⟩ : ∃ eB, eB = zcv g.board := ⟨_, rfl⟩
 have hg1 : (zad g).take 3 = eB := by rw [heB]; rfl
 have hg2 : cel (zad g) 3 = .lst 3 (g.kinds.map zay) := rfl
 have hg3 : cel (zad g) 0 = .v (.int .i64 C) := by rw [← hC]; rfl
 have heBb : ∀ n, (∀ c' ∈ eB, Bel n c') = True := fun n => by rw [heB]; simp [go_sem]
 rw [← heB] at hP
 clear heB
 generalize zad g = eg at *
 obtain ⟨S0, hS0⟩ : ∃ S0, S0 = zaC (zce g 0) := ⟨_, rfl⟩
 obtain ⟨S1, hS1⟩ : ∃ S1, S1 = zaC (zce g 1) := ⟨_, rfl⟩
 have hSb0 : ∀ n, Bel n S0 = True := fun n => by rw [hS0]; simp [go_sem]
 have hSb1 : ∀ n, Bel n S1 = True := fun n => by rw [hS1]; simp [go_sem]
 rw [← hS0, ← hS1]
 repeat first|refine wV fun _=>?_|simp [go_sem, hel]
 refine zBh (zBk (α := Nat) (fun s => ⟨[(1, .ref 0 0 9 0 0), (2, .ref 1 0 2 0 0), (3, .ref 2 0 2 0 0), (4, .v (.int .i64 s))],
   [(0, .rows true 0 9 [eg]), (1, .rows true 0 2 [[AV.v (.slice none 0 0), AV.v (.slice none 0 0)]]), (2, .rows true 0 2 [zA1 S0 S1 s])], 3⟩)
  (fun d s => s + d = 2) ?_ 2 0 ?_) ?_ ?_
 ·rintro d0 s s1 hrec
  rcases (show s = 2 ∨ s < 2 by omega) with rfl | hs2
  ·simp only [zA1]
   repeat first|refine wV fun _=>?_|simp [go_sem]
   exact ⟨of_eq_true (hSb0 0), of_eq_true (hSb1 0)⟩
  have hAS : zA1 S0 S1 s = zpH S0 s (.v (.slice none 0 0)) := by rcases (show s = 0 ∨ s = 1 by omega) with rfl | rfl <;> rfl
  rw [hAS]
  have hrl := zy5 S0 s
  have hrc := zy4 S0 hs2
  have hrs := zy6 S0 hs2
  repeat first|refine wV fun _=>?_|simp [go_sem, hel]
  (refine zBj (fun hT => ?_) (fun hT => by first | omega | (simp at hT; omega)); clear hT)
  repeat first|refine wV fun _=>?_|simp [go_sem, hel]
  refine zBh (zBk (α := Nat) (fun j => ⟨[(1, .ref 0 0 9 0 0), (2, .ref 1 0 2 0 0), (3, .ref 2 0 2 0 0), (4, .v (.int .i64 s)), (5, .v (.int .i64 j))],
    [(0, .rows true 0 9 [eg]), (1, .rows true 0 2 [[AV.v (.slice none 0 0), AV.v (.slice none 0 0)]]), (2, .rows true 0 2 [zpH S0 s (.sl 3 j 1 0 j)]), (3, .rows true j 1 ((zik g s j).map fun x => [zbA x]))], 4⟩)
   (fun d j => j + d = g.kinds.length) ?_ g.kinds.length 0 ?_) ?_ ?_
  ·rintro d j j1 hrec2
   have hlj := zkG g s (show j ≤ g.kinds.length by omega)
   repeat first|refine wV fun _=>?_|simp [go_sem, hel, hg2]
   refine zBj (fun hj => ?_) (fun hj => ?_) <;> simp at hj
   ·have hkm := zah hj
    have hpn := hg.pn _ hkm
    have hPk := hP _ hkm
    have hsj := zmp g s hj
    have hcj := hcells s j
    have hlj1 := zkG g s (show j + 1 ≤ g.kinds.length by omega)
    have hkl := zhn hg s hkm
    have hks : ∀ c : Nat, zeQ g.board s (nth g.kinds j).progs c = (nth g.kinds j).progs.flatMap fun p => zbu g.board s p c := fun c => rfl
    obtain ⟨k, hk⟩ : ∃ k, k = nth g.kinds j := ⟨_, rfl⟩
    rw [← hk] at hpn hPk hsj hcj hkl hks
    rw [hcj] at hsj
    have hcs := zqw g.board s k.progs
    have hcl := ztk g.board s k.progs
    have hc0 : zg5 g.board s k.progs 0 = [] := rfl
    generalize zg5 g.board s k.progs = CK at *
    generalize zeQ g.board s k.progs = KP at *
    repeat first|refine wV fun _=>?_|simp [go_sem, hel, hg2]
    refine zBh (zBk (α := Nat) (fun c => ⟨[(1, .ref 0 0 9 0 0), (2, .ref 1 0 2 0 0), (3, .ref 2 0 2 0 0), (4, .v (.int .i64 s)), (5, .v (.int .i64 j)), (6, .sl 4 c 1 0 c), (7, .v (.int .i64 c))],
      [(0, .rows true 0 9 [eg]), (1, .rows true 0 2 [[AV.v (.slice none 0 0), AV.v (.slice none 0 0)]]), (2, .rows true 0 2 [zpH S0 s (.sl 3 j 1 0 j)]), (3, .rows true j 1 ((zik g s j).map fun x => [zbA x])), (4, .rows true c 1 ((CK c).map fun x => [zbm x]))], 5⟩)
     (fun d c => c + d = C) ?_ C 0 ?_) ?_ ?_
    ·rintro d2 c c1' hrec3
     have hclc := hcl c
     repeat first|refine wV fun _=>?_|simp [go_sem, hel, hg3]
     refine zBj (fun hc => ?_) (fun hc => ?_) <;> simp at hc
     ·have hklc := hkl c
      have hcsc := hcs c
      rw [hks c] at hcsc
      have hks' : ((k.progs.flatMap fun p => zbu g.board s p c)).length ≤ 8589934592 := by rw [← hks c]; exact hklc
      obtain ⟨R, hR⟩ : ∃ R, R = k.progs.flatMap fun p => zbu g.board s p c := ⟨_, rfl⟩
      rw [← hR] at hcsc hks'
      repeat first|refine wV fun _=>?_|simp [go_sem, hel]
      refine zBh (zBk (α := Nat × List zaK) (fun a => ⟨[(1, .ref 0 0 9 0 0), (2, .ref 1 0 2 0 0), (3, .ref 2 0 2 0 0), (4, .v (.int .i64 s)), (5, .v (.int .i64 j)), (6, .sl 4 c 1 0 c), (7, .v (.int .i64 c)), (8, .sl 5 a.1 2 0 a.2.length), (9, .v (.int .i64 a.1))],
        [(0, .rows true 0 9 [eg]), (1, .rows true 0 2 [[AV.v (.slice none 0 0), AV.v (.slice none 0 0)]]), (2, .rows true 0 2 [zpH S0 s (.sl 3 j 1 0 j)]), (3, .rows true j 1 ((zik g s j).map fun x => [zbA x])), (4, .rows true c 1 ((CK c).map fun x => [zbm x])), (5, .rows true a.1 2 (a.2.map zaw))], 6⟩)
       (fun d a => a.1 + d = k.progs.length ∧ a.2 ++ ((k.progs.drop a.1).flatMap fun p => zbu g.board s p c) = R) ?_ k.progs.length (0, []) ?_) ?_ ?_
      ·rintro d3 ⟨i, l⟩ ⟨i1, i2⟩ hrec4
       simp only at i1 i2
       repeat first|refine wV fun _=>?_|simp [go_sem, hel, hg2, hj, ← hk]
       refine zBj (fun hi => ?_) (fun hi => ?_) <;> simp at hi
       ·rw [zaG hi, List.flatMap_cons, ← List.append_assoc] at i2
        have hlR : l.length + (zbu g.board s (nth k.progs i) c).length ≤ 8589934592 := by
         have := hks'
         rw [← i2] at this
         simp only [List.length_append] at this
         omega
        have hPi := hPk _ (zah hi) s c
        have hgo := hrec4 (d3 - 1) (by omega) (i + 1, l ++ zbu g.board s (nth k.progs i) c) ⟨by simp only; omega, i2⟩
        simp only [List.length_append] at hgo
        generalize zbu g.board s (nth k.progs i) c = X at *
        repeat first|refine wV fun _=>?_|simp [go_sem, hel, hg1, hg2, hj, hi, ← hk]
        refine zBl hPi (by simp [go_sem, heBb]) ?_
        repeat first|refine wV fun _=>?_|simp [go_sem]
        refine zBh hgo ?_ (by simp)
        simp [go_sem, zaf, hbl]
        exact zf7 (of_eq_true (hSb0 _)) (.sl (by omega))
       ·rw [List.drop_eq_nil_of_le hi, List.flatMap_nil, List.append_nil] at i2
        subst i2
        repeat first|refine wV fun _=>?_|simp [go_sem]
        refine zBh (hrec3 (d2 - 1) (by omega) (c + 1) (by omega)) ?_ (by simp)
        simp [go_sem, zaf, hbl, hcsc]
        refine ⟨zf7 (of_eq_true (hSb0 _)) (.sl (by omega)), ?_⟩
        (first|done|exact leX)
      ·exact ⟨by simp, by rw [hR]; rfl⟩
      ·simp [go_sem, zaf, hbl]
       exact zf7 (of_eq_true (hSb0 _)) (.sl (by omega))
      ·simp
     ·have hcC : c = C := by omega
      subst hcC
      repeat first|refine wV fun _=>?_|simp [go_sem, hel, hrl, hrc, hrs, hlj]
      refine zBh (hrec2 (d - 1) (by omega) (j + 1) (by omega)) ?_ (by simp)
      simp [go_sem, zaf, hbl, hsj]
      refine ⟨zf7 (of_eq_true (hSb0 _)) (.sl (by omega)), ?_⟩
      ((try simp only [zaq, zaE, zbt, zcG, zaw, zbm, zaM, zar, zag, zdC, zbz, zaV, zaj, zad, List.map_cons, List.map_nil, List.nil_append, List.append_nil, List.cons_append]); (repeat (first | (with_reducible first|exact zam.nil|exact zak.nil|exact LeV.refl _|exact zam.refl _ _ _ _|exact zak.refl _|refine zam.cons ?_ ?_|refine zak.cons ?_ ?_|refine LeV.agg ?_|refine LeV.tup ?_|refine LeV.fn ?_ ?_|exact LeV.nil _|refine zao (zak.refl _) ?_) | ((refine zaL rfl (by simp [hclc]) (by simp [zbB, zb5, upd, noH]) ?_); (first | (simp [go_sem, hclc]; done) | (simp [go_sem, hclc]; exact List.take_of_length_le (by simp [hclc])))) | ((refine LeV.frz rfl (by simp [hclc]) (by simp [zbB, zb5, upd, noH]) ?_); (simp only [List.drop_zero, List.take_succ_cons, List.take_zero, List.map_cons, List.map_nil])) | ((refine LeV.frzP rfl (by simp [hclc]) (by simp) (by simp [zbB, zb5, upd, noH]) ?_); (simp only [zbe, List.drop_zero])))))
    ·simp
    ·simp [go_sem, zaf, hbl, hc0]
     exact zf7 (of_eq_true (hSb0 _)) (.sl (by omega))
    ·simp
   ·have hjk : j = g.kinds.length := by omega
    subst hjk
    rw [zpu] at *
    repeat first|refine wV fun _=>?_|simp [go_sem]
    refine zBh (hrec (d0 - 1) (by omega) (s + 1) (by omega)) ?_ (by simp)
    simp [go_sem, zaf, hbl]
    refine ⟨?_, ?_⟩
    ·rcases (show s = 0 ∨ s = 1 by omega) with rfl | rfl
     ·have hl0 : (zce g 0).length = g.kinds.length := by simp [zce]
      simp only [zA1, zpH, hS0, zaC, zbA, zbm]
      simp
      ((try simp only [zaq, zaE, zbt, zcG, zaw, zbm, zaM, zar, zag, zdC, zbz, zaV, zaj, zad, List.map_cons, List.map_nil, List.nil_append, List.append_nil, List.cons_append]); (repeat (first | (with_reducible first|exact zam.nil|exact zak.nil|exact LeV.refl _|exact zam.refl _ _ _ _|exact zak.refl _|refine zam.cons ?_ ?_|refine zak.cons ?_ ?_|refine LeV.agg ?_|refine LeV.tup ?_|refine LeV.fn ?_ ?_|exact LeV.nil _|refine zao (zak.refl _) ?_) | ((refine zaL rfl (by simp [hl0]) (by simp [zbB, zb5, upd, noH]) ?_); (first | (simp [go_sem, hl0]; done) | (simp [go_sem, hl0]; exact List.take_of_length_le (by simp [hl0])))) | ((refine LeV.frz rfl (by simp [hl0]) (by simp [zbB, zb5, upd, noH]) ?_); (simp only [List.drop_zero, List.take_succ_cons, List.take_zero, List.map_cons, List.map_nil])) | ((refine LeV.frzP rfl (by simp [hl0]) (by simp) (by simp [zbB, zb5, upd, noH]) ?_); (simp only [zbe, List.drop_zero])))))
     ·have hl0 : (zce g 1).length = g.kinds.length := by simp [zce]
      simp only [zA1, zpH, hS1, zaC, zbA, zbm]
      simp
      ((try simp only [zaq, zaE, zbt, zcG, zaw, zbm, zaM, zar, zag, zdC, zbz, zaV, zaj, zad, List.map_cons, List.map_nil, List.nil_append, List.append_nil, List.cons_append]); (repeat (first | (with_reducible first|exact zam.nil|exact zak.nil|exact LeV.refl _|exact zam.refl _ _ _ _|exact zak.refl _|refine zam.cons ?_ ?_|refine zak.cons ?_ ?_|refine LeV.agg ?_|refine LeV.tup ?_|refine LeV.fn ?_ ?_|exact LeV.nil _|refine zao (zak.refl _) ?_) | ((refine zaL rfl (by simp [hl0]) (by simp [zbB, zb5, upd, noH]) ?_); (first | (simp [go_sem, hl0]; done) | (simp [go_sem, hl0]; exact List.take_of_length_le (by simp [hl0])))) | ((refine LeV.frz rfl (by simp [hl0]) (by simp [zbB, zb5, upd, noH]) ?_); (simp only [List.drop_zero, List.take_succ_cons, List.take_zero, List.map_cons, List.map_nil])) | ((refine LeV.frzP rfl (by simp [hl0]) (by simp) (by simp [zbB, zb5, upd, noH]) ?_); (simp only [zbe, List.drop_zero])))))
    ·intro x hx
     unfold zA1 at hx
     simp only [List.mem_cons, List.not_mem_nil, or_false] at hx
     rcases hx with rfl | rfl
     ·exact of_eq_true (hSb0 _)
     ·split
      ·exact .v _
      ·exact of_eq_true (hSb1 _)
  ·simp
  ·have h0 := zmq g s
   simp [go_sem, zaf, h0]
   refine ⟨of_eq_true (hbl _), zA2 ?_, zf7 (of_eq_true (hSb0 _)) (.sl (by omega))⟩
   simp [go_sem]
  ·simp
 ·simp
 ·simp [go_sem, zaf, hbl, zA1]
 ·simp
theorem zzA {g : zac} (hg : GOk g) : zuK (ofG g) := by
 have := hg.c9
 exact zkq (by omega) (zc3 hg 0) (zc3 hg 1)
theorem zet {g : zac} (hg : GOk g) : ((ofG g).length : Int) = g.cells := by
 have := hg.c1
 rw [zic]; omega
def nmG (g : zac) : List Int := zaO (ofG g) (ofG g).length
theorem zkl {g : zac} (hg : GOk g) : 1 ≤ (nmG g).length ∧ (nmG g).length ≤ 9 := by
 have h1 := hg.c1
 have h9 := hg.c9
 have hl := zet hg
 have := (zzA hg).pos (by omega)
 have := zl8 (ofG g) (ofG g).length
 unfold nmG
 omega
def zgr (of names : List Int) (p : zal) (i : Nat) : List zal := (names.take i).map (za4 of p)
theorem zra {of names : List Int} {p : zal} {i : Nat} (h : i < names.length) : zgr of names p (i + 1) = zgr of names p i ++ [za4 of p (nth names i)] := by
 unfold zgr; rw [zeA h]; simp
theorem zt6 {of names : List Int} {p : zal} {i : Nat} (h : i ≤ names.length) : (zgr of names p i).length = i := by simp [zgr]; omega
theorem zeY (g : zac) (hg : GOk g) (hn : zb8 g) (p : zal) (hp : POk g p) : zaJ Tryz.prog 18 [.agg (zad g), .agg (zag p)]
  (.tup [zaV (if zbO g then zaW (ofG g) p else []), .v (.int .i64 (if zbO g then 0 else 220))]) := by
 refine pF Tryz.func18 ?_
 have hN := zdZ g hg hn
 have hO := zji g hg
 have hl := zet hg
 have h9 := hg.c9
 have hal := hp.al
 have hofl : (ofG g).length ≤ 1048576 := by omega
 have hM := zkz (ofG g) hofl
 have hP := fun name => zmh (ofG g) p name (by omega) (by omega)
 have hnl := zkl hg
 have hres : zaW (ofG g) p = zgr (ofG g) (nmG g) p (nmG g).length := by unfold zgr; rw [List.take_length]; rfl
 rw [hres]
 change zaJ _ _ _ (zaj (ofG g)) at hO
 change zaJ _ _ _ (zaj (nmG g)) at hM
 have hgb : ∀ n, (∀ c ∈ zad g, Bel n c) = True := fun n => by simp [go_sem]
 generalize ofG g = of at *
 generalize nmG g = nm at *
 obtain ⟨eg, heg⟩ : ∃ eg, eg = zad g := ⟨_, rfl⟩
 have hel : eg.length = 9 := by rw [heg]; rfl
 rw [← heg] at hN hO hgb ⊢
 clear heg hres
 cases hnb : zbO g
 ·rw [hnb] at hN
  repeat first|refine wV fun _=>?_|simp [go_sem, hel]
  refine zBi hN (by simp [go_sem, hgb]) ?_
  repeat first|refine wV fun _=>?_|simp [go_sem, hel]
  (first|done|exact leX)
 ·rw [hnb] at hN
  repeat first|refine wV fun _=>?_|simp [go_sem, hel]
  refine zBi hN (by simp [go_sem, hgb]) ?_
  repeat first|refine wV fun _=>?_|simp [go_sem, hel]
  refine zBi hO (by simp [go_sem, hgb]) ?_
  repeat first|refine wV fun _=>?_|simp [go_sem, hel]
  refine zBi hM (by simp [go_sem]) ?_
  repeat first|refine wV fun _=>?_|simp [go_sem, hel]
  refine zBh (zBk (α := Nat) (fun i => ⟨[(3, .ref 1 0 5 0 0), (6, zaj of), (7, .sl 2 i 5 0 i), (16, zaj nm), (17, .int nm.length), (18, .v (.int .i64 i))], [(1, .rows true 0 5 [zag p]), (2, .rows true i 5 ((zgr of nm p i).map zag))], 3⟩)
   (fun d i => i + d = nm.length) ?_ nm.length 0 ?_) ?_ ?_
  ·rintro d i i1 hrec
   have lp : (zgr of nm p i).length = i := zt6 (by omega)
   repeat first|refine wV fun _=>?_|simp [go_sem]
   refine zBj (fun hi => ?_) (fun hi => ?_) <;> simp at hi
   ·have hs := zra (of := of) (p := p) hi
    repeat first|refine wV fun _=>?_|simp [go_sem, hi]
    refine zBi (hP _) (by simp [go_sem]) ?_
    repeat first|refine wV fun _=>?_|simp [go_sem, lp]
    refine zBh (hrec (d - 1) (by omega) (i + 1) (by omega)) ?_ (by simp)
    simp [go_sem, zaf, hs]
   ·have hil : i = nm.length := by omega
    subst hil
    repeat first|refine wV fun _=>?_|simp [go_sem]
    ((try simp only [zaq, zaE, zbt, zcG, zaw, zbm, zaM, zar, zag, zdC, zbz, zaV, zaj, zad, List.map_cons, List.map_nil, List.nil_append, List.append_nil, List.cons_append]); (repeat (first | (with_reducible first|exact zam.nil|exact zak.nil|exact LeV.refl _|exact zam.refl _ _ _ _|exact zak.refl _|refine zam.cons ?_ ?_|refine zak.cons ?_ ?_|refine LeV.agg ?_|refine LeV.tup ?_|refine LeV.fn ?_ ?_|exact LeV.nil _|refine zao (zak.refl _) ?_) | ((refine zaL rfl (by simp [lp]) (by simp [zbB, zb5, upd, noH]) ?_); (first | (simp [go_sem, lp]; done) | (simp [go_sem, lp]; exact List.take_of_length_le (by simp [lp])))) | ((refine LeV.frz rfl (by simp [lp]) (by simp [zbB, zb5, upd, noH]) ?_); (simp only [List.drop_zero, List.take_succ_cons, List.take_zero, List.map_cons, List.map_nil])) | ((refine LeV.frzP rfl (by simp [lp]) (by simp) (by simp [zbB, zb5, upd, noH]) ?_); (simp only [zbe, List.drop_zero])))))
  ·simp
  ·simp [go_sem, zaf, zgr]
  ·simp
end Go.Av
end
