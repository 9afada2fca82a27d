/-
  The card of CoverNormal. Condition: the listed tables (math/bits, unicode/utf8) read as the program's text lays them.
-/
import Derived.Test.YtfbkcdhmggjbaaaGreatDoorCard2
import Derived.Test.YtfbkcdhmggjbaaaGreatDoorCxR
namespace Go.Proofs.YtfbkcdhmggjbaaaGreatDoor
open Go.ChangeShapes Go.WideShapes Go.ChangeAt Go.RowKit
set_option maxRecDepth 100000

theorem Mix2.normal_contract (H : Type) (enc : TypeId × Value → H) (W : World) (base : Nat) (args : Array Value) (ds gs : List (DataW H)) (before : List MemPlace)
    (hval : ∀ (j : Nat) t v, Tryz.f5.params[j]? = some t → args[j]? = some v → Value.okWide Tryz.prog W .any base t v)
    (hW : DataW.Whole enc Tryz.prog Tryz.f5.params.toList Rows.coverNormalSpec.vars false W args.toList ds gs before) (hL : laidMetH Tryz.prog Rows.coverNormalRow.laid W) :
    Calls Tryz.prog 5 args W fun e W' => ∃ v, e = .returned v ∧ Rows.coverNormalSpec.post enc Tryz.prog Tryz.f5 false true false false W args v W' := by
  have hW' := hW
  obtain ⟨p, q, hA0, hV, rfl, hfz, hnd⟩ := hW
  have hA : DataW.TrodAll enc Tryz.prog W 0 (fun _ => true) true Tryz.f5.params.toList args.toList ds p := hA0
  rw [Tryz.params5] at hA hval
  obtain ⟨v0, vs0, d0, ds0, p0, q0, hargs0, rfl, rfl, h0, r0⟩ := trodAll_cons hA
  obtain ⟨v1, vs1, d1, ds1, p1, q1, rfl, rfl, rfl, h1, r1⟩ := trodAll_cons r0
  obtain ⟨rfl, rfl, rfl⟩ := trodAll_nil r1
  obtain rfl : args = #[v0, v1] := by cases args; simp_all
  obtain ⟨R0, C0, zs0, hraw0⟩ := raw_open (hval 0 _ v0 rfl rfl) h0
  obtain ⟨R1, C1, zs1, hraw1⟩ := raw_open (hval 1 _ v1 rfl rfl) h1
  refine (Mix2.normal_walk _ _ _ _ _ _ _ _ W (tab_of hL) hraw0 hraw1).mono ?_
  rintro e W' ⟨rfl, hb⟩
  exact ⟨_, rfl, law_post laidOut Tryz.underlying4 (by kernel_rfl) (by kernel_rfl) rfl hW' rfl hb⟩
theorem Mix2.normal_reads (os : Os) {H : Type} (enc : TypeId × Value → H) : ∃ places, DataW.whole enc Tryz.prog ((laidWorld os).forCall (fun _ _ => 0) ⟨#[], #[.agg #[.int .u8 0, .int .u8 0, .slice none 0 0], .agg #[.int .u8 0, .int .u8 0, .slice none 0 0]], []⟩).memory Tryz.f5.params.toList Rows.coverNormalSpec.vars false (#[(.agg #[.int .u8 0, .int .u8 0, .slice none 0 0] : Value), (.agg #[.int .u8 0, .int .u8 0, .slice none 0 0] : Value)]).toList 8 = some ([.agg [.lit (.int .u8 0), .lit (.int .u8 0), .nil], .agg [.lit (.int .u8 0), .lit (.int .u8 0), .nil]], [], places) :=
  ⟨[], by kernel_rfl⟩
theorem Mix2.normal_lifted (os : Os) (started : os.Started) (H : Type) (enc : TypeId × Value → H) (F : Stop.Interp) :
    ReturnsInHanded {} Tryz.checked os 5 .any ((OpenSpec.ofChange Rows.coverNormalSpec).preRow enc Tryz.prog Tryz.f5 Rows.coverNormalRow.domain false Rows.coverNormalRow.laid) (((OpenSpec.ofChange Rows.coverNormalSpec).at F).post enc Tryz.prog Tryz.f5 false true false false) := by
  obtain ⟨places, hx⟩ := Mix2.normal_reads os enc
  refine returnsInHanded_of_row (C := Tryz.checked) (s := OpenSpec.ofChange Rows.coverNormalSpec) own started (by kernel_rfl) Tryz.func5
    (witness_row_at (enc := enc) (C := Tryz.checked) false (laidWorld os) #[.agg #[.int .u8 0, .int .u8 0, .slice none 0 0], .agg #[.int .u8 0, .int .u8 0, .slice none 0 0]] rfl (by kernel_rfl) (by kernel_rfl) (by kernel_rfl)
      (OpenSpec.preRow_of_cond 8 hx (by kernel_rfl) (fun k hk => by cases hk) (by kernel_rfl) (laid_met os _))) ?_
  intro W base args ds gs before hval hW _ _ _ hL _ _
  exact Mix2.normal_contract H enc W base args ds gs before hval hW hL
theorem Mix2.normal_said : Rows.CoverNormalSaid :=
  OpenClaim.holds_of_cond 5 Tryz.f5 rfl rfl rfl rfl rfl rfl rfl ⟨rfl, rfl, rfl, rfl, rfl⟩ rfl rfl rfl rfl rfl (by kernel_rfl) Tryz.func5 (by kernel_rfl)
    (of_decide_eq_true (by kernel_rfl)) (by unfold Func.isWrapper; first | (rw [if_pos (by decide +kernel)]; kernel_rfl) | (rw [if_neg (by decide +kernel)]; exact ⟨rfl, rfl⟩))
    (fun os started H enc _ F => by rw [OpenClaim.pre_eq_preRow]; exact Mix2.normal_lifted os started H enc F)
theorem Mix2.normal_plain (f : FuncId) (fn : Func) (hf : Tryz.pinned.checked.prog.funcNamed "arbac/arbaclaw48.CoverNormal" = some f) (hfn : Tryz.pinned.checked.prog.funcs[f]? = some fn) :
    false = Tryz.pinned.checked.prog.looks [] ∧ ∀ (j : Nat) t, fn.params[j]? = some t → Tryz.pinned.checked.prog.wantsStandIn t = false := by
  obtain rfl : f = 5 := Option.some.inj ((show Tryz.prog.funcNamed "arbac/arbaclaw48.CoverNormal" = some 5 by kernel_rfl).symm.trans hf) |>.symm
  obtain rfl : fn = Tryz.f5 := (Option.some.inj (Tryz.func5.symm.trans hfn)).symm
  refine ⟨by kernel_rfl, fun j t ht => ?_⟩
  have hall : (Tryz.f5.params.toList.all fun u => !Tryz.prog.wantsStandIn u) = true := by kernel_rfl
  have := List.all_eq_true.1 hall t (Array.mem_toList_iff.2 (Array.mem_of_getElem? ht))
  exact (show Tryz.prog.wantsStandIn t = false by simpa using this)
theorem coverNormal_card : Rows.CoverNormalCardSaid :=
  Claim7.holds_tied_plain_at .later [] _ _ _ _ Mix2.normal_said (fun _ h => by cases h) (by kernel_rfl) (fun _ h => by cases h) coverNormal_row_tie rfl ⟨rfl, rfl⟩ (by kernel_rfl) rfl Mix2.normal_plain (by kernel_rfl)
end Go.Proofs.YtfbkcdhmggjbaaaGreatDoor
