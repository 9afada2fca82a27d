import Derived.Test.YtjlcnbfkblmoeaaDoorProd2
import Derived.Test.YtjlcnbfkblmoeaaDoorShelf
import Derived.Shelf.Strings.Builder1
namespace Go.Proofs.YtjlcnbfkblmoeaaDoor
open Go.RowKit

theorem info_byte : (Tryd.prog.info? 5).map (fun i => (i.zero, i.size, i.bytes)) = some (some (.int .u8 0), 1, 1) := by kernel_rfl
theorem size_builder : (Tryd.prog.info? 96).map (·.size) = some 2 := by kernel_rfl
theorem lies_builder : liesAt Tryd.prog Tryd.prog.depth 96 (2 / Tryd.prog.cellsOf 96) 0 96 1 = true := by kernel_rfl
abbrev BAt (B b : Nat) (p : Value) (bs : List Value) (w : World) : Prop := Lib.BuilderAt 96 5 B b p bs w
abbrev IsB (B b : Nat) (bs : List Value) (w : World) : Prop := Lib.IsBuilder 96 5 B b bs w

set_option maxHeartbeats 1000000 in
set_option maxRecDepth 100000 in
theorem copyCheck_used (b : Nat) (w : World) (h0 : w.cell? ⟨b, 0, none⟩ = some (.pointer (some ⟨b, 0, none⟩))) :
    Calls Tryd.prog 93 #[.pointer (some ⟨b, 0, none⟩)] w fun e w' => e = .returned (.tuple #[]) ∧ w' = w := by
  obtain ⟨j, hj, _⟩ := Option.map_eq_some_iff.1 size_builder
  go_enter Tryd.func93, Tryd.ntmps93
  go_wp2
  rw [Lib.run_neq_ptr_same w _ Tryd.underlying94 hj]
  go_wp2
  go_end0
  exact ⟨rfl, rfl⟩
set_option maxHeartbeats 1000000 in
set_option maxRecDepth 100000 in
theorem copyCheck_fresh (b : Nat) (w : World) (h0 : w.cell? ⟨b, 0, none⟩ = some (.pointer none)) (hsh : w.shape? b = some (96, 2)) (hfz : w.frozen? ⟨b, 0, none⟩ = false) :
    Calls Tryd.prog 93 #[.pointer (some ⟨b, 0, none⟩)] w fun e w' => e = .returned (.tuple #[]) ∧ w' = w.setCell ⟨b, 0, none⟩ (.pointer (some ⟨b, 0, none⟩)) := by
  obtain ⟨j, hj, hjs⟩ := Option.map_eq_some_iff.1 size_builder
  go_enter Tryd.func93, Tryd.ntmps93
  go_wp2
  rw [Lib.run_to_unsafe w ⟨b, 0, none⟩ Tryd.underlying94 Tryd.underlying139 hj (by rw [hjs]; decide) hsh (Nat.zero_lt_succ 1)]
  simp only [Result.andThen]
  rw [Oper.upon_value]
  go_wp2
  rw [run_callFunc_extern Tryd.func112 (by kernel_rfl) (by kernel_rfl) (by kernel_rfl) (e := Extern.AbiNoEscape.same) (by kernel_rfl)]
  rw [Lib.run_noEscape]
  simp only [Result.andThen]
  rw [Oper.upon_value]
  go_wp2
  rw [Lib.run_from_unsafe w ⟨b, 0, none⟩ Tryd.underlying139 Tryd.underlying94 hj hsh lies_builder]
  simp only [Result.andThen]
  rw [Oper.upon_value]
  go_wp2
  go_end0
  exact ⟨rfl, rfl⟩
theorem copyCheck_any (B b : Nat) (bs : List Value) (w : World) (h : IsB B b bs w) :
    Calls Tryd.prog 93 #[.pointer (some ⟨b, 0, none⟩)] w fun e w' => e = .returned (.tuple #[]) ∧ (BAt B b (.pointer (some ⟨b, 0, none⟩)) bs w' ∧ Below B w w') := by
  rcases h with h | h
  · refine (copyCheck_fresh b w h.cell0 h.shape h.frozen0).mono ?_
    rintro e w' ⟨rfl, rfl⟩
    exact ⟨rfl, h.used _, (Below.refl B w).setCell (p := ⟨b, 0, none⟩) h.1 _⟩
  · refine (copyCheck_used b w h.cell0).mono ?_
    rintro e w' ⟨rfl, rfl⟩
    exact ⟨rfl, h, Below.refl B _⟩
set_option maxHeartbeats 2000000 in
set_option maxRecDepth 100000 in
theorem writeByte_any (B b : Nat) (bs : List Value) (c : Int) (w : World) (h : IsB B b bs w) (hlen : bs.length + 1 ≤ 140737488355328) (hBw : B ≤ w.heap.size) :
    Calls Tryd.prog 64 #[.pointer (some ⟨b, 0, none⟩), .int .u8 c] w fun e w' => e = .returned .nilIface ∧ (BAt B b (.pointer (some ⟨b, 0, none⟩)) (bs ++ [.int .u8 c]) w' ∧ Below B w w') := by
  obtain ⟨i0, hi0, hz0, hz1, hz2⟩ := info_parts info_byte
  go_enter Tryd.func64, Tryd.ntmps64
  go_wp2_with (go_at_call 93; refine (copyCheck_any B b bs _ h).mono ?_)
  rintro e w1 ⟨rfl, h1, hb1⟩
  obtain ⟨hB, v, hbk, hown, hne⟩ := h1
  have c0 : w1.cell? ⟨b, 0, none⟩ = some (.pointer (some ⟨b, 0, none⟩)) := by rw [Lib.cell_of_heap hbk]; rfl
  have c1 : w1.cell? ⟨b, 1, none⟩ = some v := by rw [Lib.cell_of_heap hbk]; rfl
  have hsz1 := hb1.size
  go_wp2_with (at_builtin; refine wpList_append_own _ rfl _ _ 22 rfl (B) 5 i0 (.int .u8 0) 1 1 Tryd.underlying22 hi0 hz0 hz1 hz2 rfl (by decide) _ _ _ rfl (hown.alloc _) ⟨w1.heap.size, 0, none⟩ 1 1 [.int .u8 c] rfl rfl (cell_one_new _ _ _) (by simp [Value.oneCell']) (by unfold maxLen; omega) (by omega) (by simp; omega) ?_)
  intro v' w3 hown' hgrow _
  obtain ⟨g, cap, rfl⟩ := ownsRow_succ hown'
  have hlt : b < w1.heap.size := (Array.getElem?_eq_some_iff.1 hbk).1
  have hb2 : w3.heap[b]? = some (.cells #[.pointer (some ⟨b, 0, none⟩), v] 96 (0, 0)) := by
    rw [hgrow.block b (by simp; omega) (fun e => hne e.symm), Lib.alloc_old w1 _ b hlt]
    exact hbk
  have d0 : w3.cell? ⟨b, 0, none⟩ = some (.pointer (some ⟨b, 0, none⟩)) := by rw [Lib.cell_of_heap hb2]; rfl
  have d1 : w3.cell? ⟨b, 1, none⟩ = some v := by rw [Lib.cell_of_heap hb2]; rfl
  have f1 : w3.frozen? ⟨b, 1, none⟩ = false := Lib.frozen_of_heap hb2 1
  go_wp2
  go_ret
  refine ⟨rfl, ?_, ?_⟩
  · exact Lib.BuilderAt.put (T := 96) (e := 5) hB hb2 (bs' := bs ++ [.int .u8 c]) (by simpa using hown') (by decide)
  · exact ((hb1.alloc (by omega) _).grown hgrow (by simp; omega) (fun k hk => (hown.lt k hk).1)).setCell (p := ⟨b, 1, none⟩) hB _
theorem IsB.below {B b : Nat} {bs : List Value} {w w' : World} (h : IsB B b bs w) (hb : Below w.heap.size w w') : IsB B b bs w' := by
  have key : ∀ p, BAt B b p bs w → BAt B b p bs w' := by
    rintro p ⟨h1, v, h2, h3, h4⟩
    exact ⟨h1, v, (hb.block b (Array.getElem?_eq_some_iff.1 h2).1).trans h2, own_below h3 hb, h4⟩
  exact h.imp (key _) (key _)

/-- The text of row i, its first k columns. -/
def rowText (C : Nat) (Ns : List Nat) (i k : Nat) : List UInt8 := (List.range k).map fun (j : Nat) => if mhas C Ns i j then 49 else 48
theorem rowText_succ (C : Nat) (Ns : List Nat) (i k : Nat) : rowText C Ns i (k + 1) = rowText C Ns i k ++ [if mhas C Ns i k then 49 else 48] := by simp [rowText, List.range_succ]
theorem rowText_len (C : Nat) (Ns : List Nat) (i k : Nat) : (rowText C Ns i k).length = k := by simp [rowText]
/-- The text of the first n rows. -/
def mtext (C : Nat) (Ns : List Nat) : Nat → List UInt8
  | 0 => []
  | n + 1 => mtext C Ns n ++ (rowText C Ns n C ++ [10])
theorem mtext_len (C : Nat) (Ns : List Nat) : ∀ n, (mtext C Ns n).length = (C + 1) * n
  | 0 => rfl
  | n + 1 => by rw [mtext, List.length_append, List.length_append, mtext_len C Ns n, rowText_len, Nat.mul_succ]; simp
theorem byteCells_snoc (l : List UInt8) (b : UInt8) : Lib.byteCells (l ++ [b]) = Lib.byteCells l ++ [.int .u8 (b.toNat : Int)] := by simp [Lib.byteCells]
theorem byteCells_len (l : List UInt8) : (Lib.byteCells l).length = l.length := by simp [Lib.byteCells]

set_option maxRecDepth 100000 in
set_option maxHeartbeats 2000000 in
theorem text_any (p C : Nat) (Ns : List Nat) (w : World) (h : IsMat w p C Ns) :
    Calls Tryd.prog 24 #[ptr p] w fun e w' => e = .returned (.string ⟨(mtext C Ns Ns.length).toArray⟩) ∧ Below w.heap.size w w' := by
  obtain ⟨h1, h2, A, c, vs, hB, hc, hr, hs⟩ := id h
  go_enter Tryd.func24, Tryd.ntmps24
  go_wp2_with fail
  have hfresh := Lib.fresh_isBuilder 96 5 w
  refine absC1 fun W0 hb0 hbel0 hz => ?_
  have hIs : IsB w.heap.size w.heap.size [] W0 := .inl ⟨Nat.le_refl _, .slice none 0 0, hb0, World.ownsRow_nil _ _ _ _, by simp [Value.ownBlock]⟩
  have HR := hideC (rows_any p C Ns W0 (h.below hbel0))
  have lB := Nat.lt_of_lt_of_le hB.lt hbel0.size
  refine HR.out.mono ?_
  rintro e w1 ⟨rfl, rfl⟩
  clear hz hfresh
  go_wp2_with fail
  go_loopw [8] (fun i wr => ∃ k : Nat, k ≤ Ns.length ∧ i = .int .i64 k ∧ IsB w.heap.size w.heap.size (Lib.byteCells (mtext C Ns k)) wr ∧ Below w.heap.size w wr) (fun i _ => Ns.length - (intOf i).toNat)
  case atStart => exact ⟨0, Nat.zero_le _, rfl, hIs, hbel0⟩
  case round =>
    obtain ⟨k, hk, rfl, hI, hbel⟩ := hrel
    have hlt0 : (C + 1) * k ≤ 4097 * 4096 := Nat.mul_le_mul (by omega) (by omega)
    have hml := mtext_len C Ns k
    obtain ⟨L, hL⟩ : ∃ L, L = (C + 1) * k := ⟨_, rfl⟩
    rw [← hL] at hlt0 hml
    have HLL := Lib.hid hL; clear hL
    by_cases hlt : k < Ns.length
    · have m0 := onB hbel (hB.cell 0)
      obtain ⟨wo, rfl⟩ : ∃ wo : World, wo = wr := ⟨_, rfl⟩
      go_wp2_with fail
      go_loopw [15] (fun j wq => ∃ m : Nat, m ≤ C ∧ j = .int .i64 m ∧ IsB w.heap.size w.heap.size (Lib.byteCells (mtext C Ns k ++ rowText C Ns k m)) wq ∧ Below w.heap.size w wq) (fun j _ => C - (intOf j).toNat)
      case atStart => exact ⟨0, Nat.zero_le _, rfl, by simpa [rowText] using hI, hbel⟩
      case round =>
        obtain ⟨m, hm, rfl, hIm, hbm⟩ := hrel
        have hrl := rowText_len C Ns k m
        by_cases hmC : m < C
        · have hcall := hasm_any p C Ns k m wr (h.below hbm)
          cases hh : mhas C Ns k m with
          | true =>
            rw [hh] at hcall
            have HC := hideC hcall; clear hcall
            have hstep := rowText_succ C Ns k m
            rw [hh, if_pos rfl] at hstep
            have HS := Lib.hid hstep; clear hstep hh
            go_wp2_with fail
            refine HC.out.mono ?_
            rintro e w2 ⟨rfl, hb2⟩
            go_wp2_with fail
            refine (writeByte_any w.heap.size w.heap.size _ 49 _ (hIm.below hb2) (by rw [byteCells_len, List.length_append]; omega) (by have := hbm.size; have := hb2.size; omega)).mono ?_
            rintro e w3 ⟨rfl, hI3, hb3⟩
            go_wp2_with fail
            exact ⟨⟨m + 1, by omega, by go_num, .inr (by rw [HS.out, ← List.append_assoc, byteCells_snoc]; exact hI3), (hbm.trans (hb2.mono hbm.size)).trans hb3⟩, by simp [intOf]; omega⟩
          | false =>
            rw [hh] at hcall
            have HC := hideC hcall; clear hcall
            have hstep := rowText_succ C Ns k m
            rw [hh, if_neg (by decide)] at hstep
            have HS := Lib.hid hstep; clear hstep hh
            go_wp2_with fail
            refine HC.out.mono ?_
            rintro e w2 ⟨rfl, hb2⟩
            go_wp2_with fail
            refine (writeByte_any w.heap.size w.heap.size _ 48 _ (hIm.below hb2) (by rw [byteCells_len, List.length_append]; omega) (by have := hbm.size; have := hb2.size; omega)).mono ?_
            rintro e w3 ⟨rfl, hI3, hb3⟩
            go_wp2_with fail
            exact ⟨⟨m + 1, by omega, by go_num, .inr (by rw [HS.out, ← List.append_assoc, byteCells_snoc]; exact hI3), (hbm.trans (hb2.mono hbm.size)).trans hb3⟩, by simp [intOf]; omega⟩
        · obtain rfl : m = C := by omega
          go_wp2_with fail
          refine (writeByte_any w.heap.size w.heap.size _ 10 _ hIm (by rw [byteCells_len, List.length_append]; omega) hbm.size).mono ?_
          rintro e w3 ⟨rfl, hI3, hb3⟩
          go_wp2_with fail
          exact ⟨⟨k + 1, by omega, by go_num, .inr (by rw [mtext, ← List.append_assoc, byteCells_snoc]; exact hI3), hbm.trans hb3⟩, by simp [intOf]; omega⟩
    · obtain rfl : k = Ns.length := by omega
      go_wp2_with fail
      refine (Tryd.Builder_String_any w.heap.size w.heap.size _ _ hI hbel.size).mono ?_
      rintro e w3 ⟨rfl, hb3⟩
      go_wp2_with fail
      go_ret
      exact ⟨rfl, hbel.trans hb3⟩
end Go.Proofs.YtjlcnbfkblmoeaaDoor
