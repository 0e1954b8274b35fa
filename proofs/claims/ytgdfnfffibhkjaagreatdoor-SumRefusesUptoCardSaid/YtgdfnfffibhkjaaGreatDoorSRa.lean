/- What the row needs: Where what it reads is of bulk at most 1048576, and the listed variables hold what the text of the program lays, the function SumRefuses gives true and leaves its input as it was. -/
import Derived.Test.YtgdfnfffibhkjaaGreatDoorB13
import Derived.Test.YtgdfnfffibhkjaaGreatDoorSRx13
import Derived.JoinedCond
import Derived.Handed
import Derived.HandedShaped
import Derived.Deep.DeepHandedRow
import Derived.LaidHandle
import Derived.LaidMore
set_option linter.unusedSimpArgs false
set_option linter.unusedVariables false
set_option maxRecDepth 100000
set_option maxHeartbeats 40000000
section
open Go Go.Proofs Go.Av Go.ChangeShapes Go.RowKit
namespace Go.Proofs.YtgdfnfffibhkjaaGreatDoor
theorem sum_refuses_contract (H:Type) (enc:TypeId×Value->H) (W:World) (base:Nat) (args:Array Value) (ds gs:List (DataW H)) (before:List MemPlace)
  (hval:∀ (j:Nat) t v,Tryz.f8.params[j]? =some t->args[j]? =some v->Value.okWide Tryz.prog W .any base t v)
  (hW:DataW.Whole enc Tryz.prog Tryz.f8.params.toList Rows.sumRefusesSpec.vars false W args.toList ds gs before) (hk:Rows.uptoSmall H (ds++gs)=true) (hL:laidMetH Tryz.prog Rows.sumRefusesUptoRow.laid W):
  Calls Tryz.prog 8 args W λ e W'=>∃v,e= .returned v∧Rows.sumRefusesSpec.post enc Tryz.prog Tryz.f8 false true false false W args v W':=by
 have hW':=hW;obtain ⟨p,q,hA0,hV,rfl,hfz,hnd⟩:=hW;have hA:DataW.TrodAll enc Tryz.prog W 0 (λ _=>true) true Tryz.f8.params.toList args.toList ds p:=hA0;rw [Tryz.params8] at hA hval;obtain ⟨v0,vs0,d0,ds0,p0,q0,hargs,rfl,rfl,h0,r0⟩:=trodAll_cons hA;obtain ⟨v1,vs1,d1,ds1,p1,q1,rfl,rfl,rfl,h1,r1⟩:=trodAll_cons r0;obtain ⟨rfl,rfl,rfl⟩:=trodAll_nil r1;obtain rfl:args= #[v0,v1]:=by cases args;simp_all
 have k0:=jF hk (d:=d0) (by simp);obtain ⟨x0,hn0,hq0⟩:=zhn yz (ag:=true) (by kernel_rfl) (λ h=>by cases h) (hval 0 32 v0 rfl rfl) h0 k0;have k1:=jF hk (d:=d1) (by simp);obtain ⟨x1,hn1,hq1⟩:=zhn (nR.int (B:=1048576) (bk:=Is) (P:=Tryz.prog) Tryz.underlying5 (by kernel_rfl)) (ag:=false) (by kernel_rfl) (λ _=>by kernel_rfl) (hval 1 5 v1 rfl rfl) h1 k1;have hb1:=bounds_u8 hq1;refine jQ (fn:=Tryz.f8) (tb:=4) BH (by kernel_rfl) rfl (by kernel_rfl) Tryz.underlying4 hW' (λ h=>by subst h;rfl) (EV x0 hq0 x1 hb1) ?_ (o9 (hL.funcs (n:= "skewer/play.conditions") (d:=xV) (.tail _ (.tail _ (.tail _ (.head _))))));exact .cons hn0 (.cons hn1 (.nil))
theorem sum_refuses_reads (os:Os){H:Type} (enc:TypeId×Value->H):∃places,DataW.whole enc Tryz.prog ((World.doorLaid Tryz.prog 29 os).forCall (λ _ _=>0) ⟨#[], #[.agg #[.int .u8 0, .int .u8 0, .int .u8 0, .slice none 0 0, .slice none 0 0, .slice none 0 0, .int .u8 0, .int .u8 0, .int .u8 0, .int .u8 0, .int .u8 0, .int .u8 0, .int .u8 0, .int .u8 0, .int .u8 0, .int .u8 0, .int .u8 0, .int .u8 0, .int .u8 0, .int .u8 0, .int .u8 0, .int .u8 0, .int .u8 0, .int .u8 0, .int .u8 0, .int .u8 0, .int .u8 0, .int .u8 0, .int .u8 0, .int .u8 0, .slice none 0 0], .int .u8 0], []⟩).memory Tryz.f8.params.toList Rows.sumRefusesSpec.vars false (#[.agg #[.int .u8 0, .int .u8 0, .int .u8 0, .slice none 0 0, .slice none 0 0, .slice none 0 0, .int .u8 0, .int .u8 0, .int .u8 0, .int .u8 0, .int .u8 0, .int .u8 0, .int .u8 0, .int .u8 0, .int .u8 0, .int .u8 0, .int .u8 0, .int .u8 0, .int .u8 0, .int .u8 0, .int .u8 0, .int .u8 0, .int .u8 0, .int .u8 0, .int .u8 0, .int .u8 0, .int .u8 0, .int .u8 0, .int .u8 0, .int .u8 0, .slice none 0 0], .int .u8 0]:Array Value).toList 8=some ([.agg [.agg [.lit (.int .u8 0), .lit (.int .u8 0), .lit (.int .u8 0), .agg [.nil, .nil], .nil, .agg [.lit (.int .u8 0), .lit (.int .u8 0), .lit (.int .u8 0), .lit (.int .u8 0), .lit (.int .u8 0), .lit (.int .u8 0)]], .agg [.agg [.lit (.int .u8 0), .lit (.int .u8 0), .lit (.int .u8 0), .lit (.int .u8 0), .lit (.int .u8 0), .lit (.int .u8 0)], .agg [.lit (.int .u8 0), .lit (.int .u8 0), .lit (.int .u8 0), .lit (.int .u8 0), .lit (.int .u8 0), .lit (.int .u8 0)], .agg [.lit (.int .u8 0), .lit (.int .u8 0), .lit (.int .u8 0), .lit (.int .u8 0)], .lit (.int .u8 0), .lit (.int .u8 0)], .nil], .lit (.int .u8 0)], [],places):=
 ⟨[],by kernel_rfl⟩
theorem sum_refuses_lifted (os:Os) (started:os.Started) (H:Type) (enc:TypeId×Value->H) (F:Stop.Interp):
  ReturnsInHanded {} Tryz.checked os 8 .any ((Rows.OpenSpec.upto Rows.sumRefusesSpec).preRow enc Tryz.prog Tryz.f8 Rows.sumRefusesUptoRow.domain false Rows.sumRefusesUptoRow.laid) (((Rows.OpenSpec.upto Rows.sumRefusesSpec).at F).post enc Tryz.prog Tryz.f8 false true false false):=by
 obtain ⟨places,hx⟩:=sum_refuses_reads os enc;refine returnsInHanded_of_row (C:=Tryz.checked) (s:=Rows.OpenSpec.upto Rows.sumRefusesSpec) xZ started (by kernel_rfl) Tryz.func8
  (witness_row_at (enc:=enc) (C:=Tryz.checked) false (World.doorLaid Tryz.prog 29 os) #[.agg #[.int .u8 0, .int .u8 0, .int .u8 0, .slice none 0 0, .slice none 0 0, .slice none 0 0, .int .u8 0, .int .u8 0, .int .u8 0, .int .u8 0, .int .u8 0, .int .u8 0, .int .u8 0, .int .u8 0, .int .u8 0, .int .u8 0, .int .u8 0, .int .u8 0, .int .u8 0, .int .u8 0, .int .u8 0, .int .u8 0, .int .u8 0, .int .u8 0, .int .u8 0, .int .u8 0, .int .u8 0, .int .u8 0, .int .u8 0, .int .u8 0, .slice none 0 0], .int .u8 0] rfl (vu os _) (vt os _) (by kernel_rfl)
   (OpenSpec.preRow_of_cond 8 hx (by kernel_rfl) (λ k hk=>by cases hk;kernel_rfl) (by kernel_rfl) (xY os _))) ?_
 intro W base args ds gs before hval hW _ hcond _ hL _ _;exact sum_refuses_contract H enc W base args ds gs before hval hW (hcond _ rfl) hL
theorem sum_refuses_row:Rows.SumRefusesUptoSaid:=
 OpenClaim.holds_of_cond 8 Tryz.f8 rfl rfl rfl rfl rfl rfl rfl ⟨rfl,rfl,rfl,rfl,rfl⟩ rfl rfl rfl rfl rfl (by kernel_rfl) Tryz.func8 (by unfold joinedFacts;simp only [Bool.and_eq_true];(repeat' (with_reducible refine And.intro ?_ ?_))<;>(as_aux_lemma=>kernel_rfl))
  (of_decide_eq_true (by kernel_rfl)) (by unfold Func.isWrapper;first|(rw [if_pos (by decide+kernel)];kernel_rfl)|(rw [if_neg (by decide+kernel)];exact ⟨rfl,rfl⟩))
  (λ os started H enc _ F=>by rw [OpenClaim.pre_eq_preRow];exact sum_refuses_lifted os started H enc F)
theorem sum_refuses_plain (f:FuncId) (fn:Func) (hf:Tryz.pinned.checked.prog.funcNamed "skewer/skewerlaw23.SumRefuses" =some f) (hfn:Tryz.pinned.checked.prog.funcs[f]? =some fn):
  false=Tryz.pinned.checked.prog.looks []∧∀ (j:Nat) t,fn.params[j]? =some t->Tryz.pinned.checked.prog.wantsStandIn t=false:=by
 obtain rfl:f=8:=Option.some.inj ((show Tryz.prog.funcNamed "skewer/skewerlaw23.SumRefuses" =some 8 by kernel_rfl).symm.trans hf)|>.symm;obtain rfl:fn=Tryz.f8:=(Option.some.inj (Tryz.func8.symm.trans hfn)).symm;refine ⟨by kernel_rfl,λ j t ht=> ?_⟩;rw [Tryz.params8] at ht;have hm:t ∈ [32,5]:=by simpa using Array.mem_of_getElem? ht
 have hall:([32,5].all λ u=> !Tryz.prog.wantsStandIn u)=true:=by kernel_rfl
 exact (show Tryz.prog.wantsStandIn t=false by simpa using List.all_eq_true.1 hall t hm)
end Go.Proofs.YtgdfnfffibhkjaaGreatDoor
end
