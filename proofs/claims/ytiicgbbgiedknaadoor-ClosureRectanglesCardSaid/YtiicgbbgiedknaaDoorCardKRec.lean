/-
  For every raw matrix and every number the law ClosureRectangles answers true, and its arguments read behind the call as before. Condition: the listed tables (math/bits, unicode/utf8) read as the program's text lays them.
-/
import Derived.Test.YtiicgbbgiedknaaDoorCard2
import Derived.Test.YtiicgbbgiedknaaDoorClo18
namespace Go.Proofs.YtiicgbbgiedknaaDoor
open Go.ChangeShapes Go.WideShapes Go.ChangeAt Go.RowKit
set_option maxRecDepth 100000

theorem Mix2.rectangles_contract (H : Type) (enc : TypeId × Value → H) (W : World) (base : Nat) (args : Array Value) (ds gs : List (DataW H)) (before : List MemPlace)
    (hval : ∀ (j : Nat) t v, Tryd.f9.params[j]? = some t → args[j]? = some v → Value.okWide Tryd.prog W .any base t v)
    (hW : DataW.Whole enc Tryd.prog Tryd.f9.params.toList Rows.closureRectanglesSpec.vars false W args.toList ds gs before) (hL : laidMetH Tryd.prog Rows.closureRectanglesRow.laid W) :
    Calls Tryd.prog 9 args W fun e W' => ∃ v, e = .returned v ∧ Rows.closureRectanglesSpec.post enc Tryd.prog Tryd.f9 false true false false W args v W' := by
  have hW' := hW
  obtain ⟨p, q, hA0, hV, rfl, hfz, hnd⟩ := hW
  have hA : DataW.TrodAll enc Tryd.prog W 0 (fun _ => true) true Tryd.f9.params.toList args.toList ds p := hA0
  rw [Tryd.params9] at hA hval
  obtain ⟨v0, vs0, d0, ds0, p0, q0, hargs0, rfl, rfl, h0, r0⟩ := trodAll_cons hA
  obtain ⟨v1, vs1, d1, ds1, p1, q1, rfl, rfl, rfl, h1, r1⟩ := trodAll_cons r0
  obtain ⟨rfl, rfl, rfl⟩ := trodAll_nil r1
  obtain rfl : args = #[v0, v1] := by cases args; simp_all
  obtain ⟨R0, C0, zs0, hraw0⟩ := raw_open (hval 0 _ v0 rfl rfl) h0
  obtain ⟨n1, rfl, hn1⟩ := u8_open (hval 1 _ v1 rfl rfl) h1
  refine (Mix2.rectangles_walk _ _ _ _ _ W (tab_of hL) hraw0 hn1).mono ?_
  rintro e W' ⟨rfl, hb⟩
  exact ⟨_, rfl, law_post laidOut Tryd.underlying4 (by kernel_rfl) (by kernel_rfl) rfl hW' rfl hb⟩
theorem Mix2.rectangles_reads (os : Os) {H : Type} (enc : TypeId × Value → H) : ∃ places, DataW.whole enc Tryd.prog ((laidWorld os).forCall (fun _ _ => 0) ⟨#[], #[.agg #[.int .u8 0, .int .u8 0, .slice none 0 0], .int .u8 0], []⟩).memory Tryd.f9.params.toList Rows.closureRectanglesSpec.vars false (#[(.agg #[.int .u8 0, .int .u8 0, .slice none 0 0] : Value), (.int .u8 0 : Value)]).toList 8 = some ([.agg [.lit (.int .u8 0), .lit (.int .u8 0), .nil], .lit (.int .u8 0)], [], places) :=
  ⟨[], by kernel_rfl⟩
theorem Mix2.rectangles_lifted (os : Os) (started : os.Started) (H : Type) (enc : TypeId × Value → H) (F : Stop.Interp) :
    ReturnsInHanded {} Tryd.checked os 9 .any ((OpenSpec.ofChange Rows.closureRectanglesSpec).preRow enc Tryd.prog Tryd.f9 Rows.closureRectanglesRow.domain false Rows.closureRectanglesRow.laid) (((OpenSpec.ofChange Rows.closureRectanglesSpec).at F).post enc Tryd.prog Tryd.f9 false true false false) := by
  obtain ⟨places, hx⟩ := Mix2.rectangles_reads os enc
  refine returnsInHanded_of_row (C := Tryd.checked) (s := OpenSpec.ofChange Rows.closureRectanglesSpec) own started (by kernel_rfl) Tryd.func9
    (witness_row_at (enc := enc) (C := Tryd.checked) false (laidWorld os) #[.agg #[.int .u8 0, .int .u8 0, .slice none 0 0], .int .u8 0] rfl (by kernel_rfl) (by kernel_rfl) (by kernel_rfl)
      (OpenSpec.preRow_of_cond 8 hx (by kernel_rfl) (fun k hk => by cases hk) (by kernel_rfl) (laid_met os _))) ?_
  intro W base args ds gs before hval hW _ _ _ hL _ _
  exact Mix2.rectangles_contract H enc W base args ds gs before hval hW hL
theorem Mix2.rectangles_said : Rows.ClosureRectanglesSaid :=
  OpenClaim.holds_of_cond 9 Tryd.f9 rfl rfl rfl rfl rfl rfl rfl ⟨rfl, rfl, rfl, rfl, rfl⟩ rfl rfl rfl rfl rfl (by kernel_rfl) Tryd.func9 (by kernel_rfl)
    (of_decide_eq_true (by kernel_rfl)) (by unfold Func.isWrapper; first | (rw [if_pos (by decide +kernel)]; kernel_rfl) | (rw [if_neg (by decide +kernel)]; exact ⟨rfl, rfl⟩))
    (fun os started H enc _ F => by rw [OpenClaim.pre_eq_preRow]; exact Mix2.rectangles_lifted os started H enc F)
theorem Mix2.rectangles_plain (f : FuncId) (fn : Func) (hf : Tryd.pinned.checked.prog.funcNamed "arbac/arbaclaw45.ClosureRectangles" = some f) (hfn : Tryd.pinned.checked.prog.funcs[f]? = some fn) :
    false = Tryd.pinned.checked.prog.looks [] ∧ ∀ (j : Nat) t, fn.params[j]? = some t → Tryd.pinned.checked.prog.wantsStandIn t = false := by
  obtain rfl : f = 9 := Option.some.inj ((show Tryd.prog.funcNamed "arbac/arbaclaw45.ClosureRectangles" = some 9 by kernel_rfl).symm.trans hf) |>.symm
  obtain rfl : fn = Tryd.f9 := (Option.some.inj (Tryd.func9.symm.trans hfn)).symm
  refine ⟨by kernel_rfl, fun j t ht => ?_⟩
  have hall : (Tryd.f9.params.toList.all fun u => !Tryd.prog.wantsStandIn u) = true := by kernel_rfl
  have := List.all_eq_true.1 hall t (Array.mem_toList_iff.2 (Array.mem_of_getElem? ht))
  exact (show Tryd.prog.wantsStandIn t = false by simpa using this)
theorem closureRectangles_card : Rows.ClosureRectanglesCardSaid :=
  Claim7.holds_tied_plain_at .later [] _ _ _ _ Mix2.rectangles_said (fun _ h => by cases h) (by kernel_rfl) (fun _ h => by cases h) closureRectangles_row_tie rfl ⟨rfl, rfl⟩ (by kernel_rfl) rfl Mix2.rectangles_plain (by kernel_rfl)
end Go.Proofs.YtiicgbbgiedknaaDoor
