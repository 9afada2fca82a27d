/-
  The card of CoverErrs. Condition: the listed tables (math/bits, unicode/utf8) read as the program's text lays them.
-/
import Derived.Test.YtlakjhhpdbgekaaGreatDoorCard2
import Derived.Test.YtlakjhhpdbgekaaGreatDoorCwH
namespace Go.Proofs.YtlakjhhpdbgekaaGreatDoor
open Go.ChangeShapes Go.WideShapes Go.ChangeAt Go.RowKit
set_option maxRecDepth 100000

theorem Mix2.errs_contract (H : Type) (enc : TypeId × Value → H) (W : World) (base : Nat) (args : Array Value) (ds gs : List (DataW H)) (before : List MemPlace)
    (hval : ∀ (j : Nat) t v, Tryz.f10.params[j]? = some t → args[j]? = some v → Value.okWide Tryz.prog W .any base t v)
    (hW : DataW.Whole enc Tryz.prog Tryz.f10.params.toList Rows.coverErrsSpec.vars false W args.toList ds gs before) (hL : laidMetH Tryz.prog Rows.coverErrsRow.laid W) :
    Calls Tryz.prog 10 args W fun e W' => ∃ v, e = .returned v ∧ Rows.coverErrsSpec.post enc Tryz.prog Tryz.f10 false true false false W args v W' := by
  have hW' := hW
  obtain ⟨p, q, hA0, hV, rfl, hfz, hnd⟩ := hW
  have hA : DataW.TrodAll enc Tryz.prog W 0 (fun _ => true) true Tryz.f10.params.toList args.toList ds p := hA0
  rw [Tryz.params10] at hA hval
  obtain ⟨v0, vs0, d0, ds0, p0, q0, hargs0, rfl, rfl, h0, r0⟩ := trodAll_cons hA
  obtain ⟨v1, vs1, d1, ds1, p1, q1, rfl, rfl, rfl, h1, r1⟩ := trodAll_cons r0
  obtain ⟨v2, vs2, d2, ds2, p2, q2, rfl, rfl, rfl, h2, r2⟩ := trodAll_cons r1
  obtain ⟨rfl, rfl, rfl⟩ := trodAll_nil r2
  obtain rfl : args = #[v0, v1, v2] := by cases args; simp_all
  obtain ⟨R0, C0, zs0, hraw0⟩ := raw_open (hval 0 _ v0 rfl rfl) h0
  obtain ⟨n1, rfl, -, hn1⟩ := int_open (hval 1 _ v1 rfl rfl) h1
  obtain ⟨n2, rfl, hn2⟩ := u8_open (hval 2 _ v2 rfl rfl) h2
  refine (Mix2.errs_walk _ _ _ _ _ _ W (tab_of hL) hraw0 hn1 hn2).mono ?_
  rintro e W' ⟨rfl, hb⟩
  exact ⟨_, rfl, law_post laidOut Tryz.underlying4 (by kernel_rfl) (by kernel_rfl) rfl hW' rfl hb⟩
theorem Mix2.errs_reads (os : Os) {H : Type} (enc : TypeId × Value → H) : ∃ places, DataW.whole enc Tryz.prog ((laidWorld os).forCall (fun _ _ => 0) ⟨#[], #[.agg #[.int .u8 0, .int .u8 0, .slice none 0 0], .int .i64 0, .int .u8 0], []⟩).memory Tryz.f10.params.toList Rows.coverErrsSpec.vars false (#[(.agg #[.int .u8 0, .int .u8 0, .slice none 0 0] : Value), (.int .i64 0 : Value), (.int .u8 0 : Value)]).toList 8 = some ([.agg [.lit (.int .u8 0), .lit (.int .u8 0), .nil], .lit (.int .i64 0), .lit (.int .u8 0)], [], places) :=
  ⟨[], by kernel_rfl⟩
theorem Mix2.errs_lifted (os : Os) (started : os.Started) (H : Type) (enc : TypeId × Value → H) (F : Stop.Interp) :
    ReturnsInHanded {} Tryz.checked os 10 .any ((OpenSpec.ofChange Rows.coverErrsSpec).preRow enc Tryz.prog Tryz.f10 Rows.coverErrsRow.domain false Rows.coverErrsRow.laid) (((OpenSpec.ofChange Rows.coverErrsSpec).at F).post enc Tryz.prog Tryz.f10 false true false false) := by
  obtain ⟨places, hx⟩ := Mix2.errs_reads os enc
  refine returnsInHanded_of_row (C := Tryz.checked) (s := OpenSpec.ofChange Rows.coverErrsSpec) own started (by kernel_rfl) Tryz.func10
    (witness_row_at (enc := enc) (C := Tryz.checked) false (laidWorld os) #[.agg #[.int .u8 0, .int .u8 0, .slice none 0 0], .int .i64 0, .int .u8 0] rfl (by kernel_rfl) (by kernel_rfl) (by kernel_rfl)
      (OpenSpec.preRow_of_cond 8 hx (by kernel_rfl) (fun k hk => by cases hk) (by kernel_rfl) (laid_met os _))) ?_
  intro W base args ds gs before hval hW _ _ _ hL _ _
  exact Mix2.errs_contract H enc W base args ds gs before hval hW hL
theorem Mix2.errs_said : Rows.CoverErrsSaid :=
  OpenClaim.holds_of_cond 10 Tryz.f10 rfl rfl rfl rfl rfl rfl rfl ⟨rfl, rfl, rfl, rfl, rfl⟩ rfl rfl rfl rfl rfl (by kernel_rfl) Tryz.func10 (by kernel_rfl)
    (of_decide_eq_true (by kernel_rfl)) (by unfold Func.isWrapper; first | (rw [if_pos (by decide +kernel)]; kernel_rfl) | (rw [if_neg (by decide +kernel)]; exact ⟨rfl, rfl⟩))
    (fun os started H enc _ F => by rw [OpenClaim.pre_eq_preRow]; exact Mix2.errs_lifted os started H enc F)
theorem Mix2.errs_plain (f : FuncId) (fn : Func) (hf : Tryz.pinned.checked.prog.funcNamed "arbac/arbaclaw48.CoverErrs" = some f) (hfn : Tryz.pinned.checked.prog.funcs[f]? = some fn) :
    false = Tryz.pinned.checked.prog.looks [] ∧ ∀ (j : Nat) t, fn.params[j]? = some t → Tryz.pinned.checked.prog.wantsStandIn t = false := by
  obtain rfl : f = 10 := Option.some.inj ((show Tryz.prog.funcNamed "arbac/arbaclaw48.CoverErrs" = some 10 by kernel_rfl).symm.trans hf) |>.symm
  obtain rfl : fn = Tryz.f10 := (Option.some.inj (Tryz.func10.symm.trans hfn)).symm
  refine ⟨by kernel_rfl, fun j t ht => ?_⟩
  have hall : (Tryz.f10.params.toList.all fun u => !Tryz.prog.wantsStandIn u) = true := by kernel_rfl
  have := List.all_eq_true.1 hall t (Array.mem_toList_iff.2 (Array.mem_of_getElem? ht))
  exact (show Tryz.prog.wantsStandIn t = false by simpa using this)
theorem coverErrs_card : Rows.CoverErrsCardSaid :=
  Claim7.holds_tied_plain_at .later [] _ _ _ _ Mix2.errs_said (fun _ h => by cases h) (by kernel_rfl) (fun _ h => by cases h) coverErrs_row_tie rfl ⟨rfl, rfl⟩ (by kernel_rfl) rfl Mix2.errs_plain (by kernel_rfl)
end Go.Proofs.YtlakjhhpdbgekaaGreatDoor
