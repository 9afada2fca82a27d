/-
  The card of TopRanked. Condition: the listed tables (math/bits, unicode/utf8) read as the program's text lays them.
-/
import Derived.Test.YtafpmkdlciioaaaGreatDoorPk03
import Derived.Test.YtafpmkdlciioaaaGreatDoorPk24
namespace Go.Proofs.YtafpmkdlciioaaaGreatDoor
open Go.ChangeShapes Go.WideShapes Go.ChangeAt Go.RowKit
set_option maxRecDepth 100000
theorem Mix2.ranked_contract (H:Type) (enc:TypeId×Value→H) (W:World) (base:Nat) (args:Array Value) (ds gs:List (DataW H)) (before:List MemPlace)
  (hval:∀ (j:Nat) t v,Tryz.f3.params[j]?=some t→args[j]?=some v→Value.okWide Tryz.prog W .any base t v)
  (hW:DataW.Whole enc Tryz.prog Tryz.f3.params.toList Rows.topRankedSpec.vars false W args.toList ds gs before) (hL:laidMetH Tryz.prog Rows.topRankedRow.laid W) :
  Calls Tryz.prog 3 args W fun e W'=>∃ v,e=.returned v∧Rows.topRankedSpec.post enc Tryz.prog Tryz.f3 false true false false W args v W':=by
 have hW':=hW
 obtain ⟨p,q,hA0,hV,rfl,hfz,hnd⟩:=hW
 have hA:DataW.TrodAll enc Tryz.prog W 0 (fun _=>true) true Tryz.f3.params.toList args.toList ds p:=hA0
 rw [Tryz.params3] at hA hval
 obtain ⟨v0,vs0,d0,ds0,p0,q0,hargs0,rfl,rfl,h0,r0⟩:=trodAll_cons hA
 obtain ⟨rfl,rfl,rfl⟩:=trodAll_nil r0
 obtain rfl:args=#[v0]:=by cases args;simp_all
 obtain ⟨R0,C0,zs0,hraw0⟩:=raw_open (hval 0 _ v0 rfl rfl) h0
 refine (Mix2.ranked_walk _ _ _ _ W (tab_of hL) hraw0).mono ?_
 rintro e W' ⟨rfl,hb⟩
 exact ⟨_,rfl,law_post laidOut Tryz.underlying4 (by kernel_rfl) (by kernel_rfl) rfl hW' rfl hb⟩
theorem Mix2.ranked_reads (os:Os) {H:Type} (enc:TypeId×Value→H):∃ places,DataW.whole enc Tryz.prog ((laidWorld1 os).forCall (fun _ _=>0) ⟨#[],#[.agg #[.int .u8 0,.int .u8 0,.slice none 0 0]],[]⟩).memory Tryz.f3.params.toList Rows.topRankedSpec.vars false (#[(.agg #[.int .u8 0,.int .u8 0,.slice none 0 0]:Value)]).toList 8=some ([.agg [.lit (.int .u8 0),.lit (.int .u8 0),.nil]],[],places) :=
 ⟨[],by kernel_rfl⟩
theorem Mix2.ranked_lifted (os:Os) (started:os.Started) (H:Type) (enc:TypeId×Value→H) (F:Stop.Interp) :
  ReturnsInHanded {} Tryz.checked os 3 .any ((OpenSpec.ofChange Rows.topRankedSpec).preRow enc Tryz.prog Tryz.f3 Rows.topRankedRow.domain false Rows.topRankedRow.laid) (((OpenSpec.ofChange Rows.topRankedSpec).at F).post enc Tryz.prog Tryz.f3 false true false false):=by
 obtain ⟨places,hx⟩:=Mix2.ranked_reads os enc
 refine returnsInHanded_of_row (C:=Tryz.checked) (s:=OpenSpec.ofChange Rows.topRankedSpec) own started (by kernel_rfl) Tryz.func3
  (witness_row_at (enc:=enc) (C:=Tryz.checked) false (laidWorld1 os) #[.agg #[.int .u8 0,.int .u8 0,.slice none 0 0]] rfl (by kernel_rfl) (by kernel_rfl) (by kernel_rfl)
   (OpenSpec.preRow_of_cond 8 hx (by kernel_rfl) (fun k hk=>by cases hk) (by kernel_rfl) (laid_met1 os _))) ?_
 intro W base args ds gs before hval hW _ _ _ hL _ _
 exact Mix2.ranked_contract H enc W base args ds gs before hval hW hL
theorem Mix2.ranked_said:Rows.TopRankedSaid :=
 OpenClaim.holds_of_cond 3 Tryz.f3 rfl rfl rfl rfl rfl rfl rfl ⟨rfl,rfl,rfl,rfl,rfl⟩ rfl rfl rfl rfl rfl (by kernel_rfl) Tryz.func3 (by kernel_rfl)
  (of_decide_eq_true (by kernel_rfl)) (by unfold Func.isWrapper;first | (rw [if_pos (by decide +kernel)];kernel_rfl) | (rw [if_neg (by decide +kernel)];exact ⟨rfl,rfl⟩))
  (fun os started H enc _ F=>by rw [OpenClaim.pre_eq_preRow];exact Mix2.ranked_lifted os started H enc F)
theorem Mix2.ranked_plain (f:FuncId) (fn:Func) (hf:Tryz.pinned.checked.prog.funcNamed "arbac/arbactop.TopRanked"=some f) (hfn:Tryz.pinned.checked.prog.funcs[f]?=some fn) :
  false=Tryz.pinned.checked.prog.looks []∧∀ (j:Nat) t,fn.params[j]?=some t→Tryz.pinned.checked.prog.wantsStandIn t=false:=by
 obtain rfl:f=3:=Option.some.inj ((show Tryz.prog.funcNamed "arbac/arbactop.TopRanked"=some 3 by kernel_rfl).symm.trans hf) |>.symm
 obtain rfl:fn=Tryz.f3:=(Option.some.inj (Tryz.func3.symm.trans hfn)).symm
 refine ⟨by kernel_rfl,fun j t ht=>?_⟩
 have hall:(Tryz.f3.params.toList.all fun u=>!Tryz.prog.wantsStandIn u)=true:=by kernel_rfl
 have:=List.all_eq_true.1 hall t (Array.mem_toList_iff.2 (Array.mem_of_getElem? ht))
 exact (show Tryz.prog.wantsStandIn t=false by simpa using this)
theorem topRanked_card:Rows.TopRankedCardSaid :=
 Claim7.holds_tied_plain_at .later [] _ _ _ _ Mix2.ranked_said (fun _ h=>by cases h) (by kernel_rfl) (fun _ h=>by cases h) topRanked_row_tie rfl ⟨rfl,rfl⟩ (by kernel_rfl) rfl Mix2.ranked_plain (by kernel_rfl)
end Go.Proofs.YtafpmkdlciioaaaGreatDoor
