import Derived.Test.YtjlcnbfkblmoeaaDoorMat3
namespace Go.Proofs.YtjlcnbfkblmoeaaDoor
open Go.RowKit

theorem info_set : (Tryd.prog.info? 65).map (fun i => (i.zero, i.size, i.bytes)) = some (some (.agg #[.slice none 0 0]), 1, 24) := by kernel_rfl
/-- 'make([]bits.Set, n)'. -/
theorem makeSets_run (n : Nat) (hn : n ≤ 65536) (w : World) :
    (Instr.makeSlice 62 (.int .i64 (n : Int)) (.int .i64 (n : Int))).run Tryd.prog w = .ok (.slice (some ⟨w.heap.size, 0, none⟩) n n) (w.alloc (.cells (zeros (.slice none 0 0) n) 65)) := by
  obtain ⟨i, hi, hz, hs, hby⟩ := info_parts info_set
  have hb' : (i.bytes : Int) * (n : Int) ≤ 281474976710656 := by rw [hby]; omega
  have hr := run_make (P := Tryd.prog) w 62 65 i (.agg #[.slice none 0 0]) Tryd.underlying62 hi hz .i64 .i64 n n (by omega) (by omega) hb' (by omega)
  simp only [Int.toNat_natCast, hs, Nat.mul_one] at hr
  rw [show (Value.agg #[.slice none 0 0]).cells = #[.slice none 0 0] from rfl, madeCells_one] at hr
  exact hr

/-- A pair: a matrix, or nothing, and an error. -/
abbrev pair (m : Value) (e : Int) : Ending := .returned (.tuple #[m, .int .i64 e])
theorem sets_zeros (w : World) (n : Nat) : Sets w (List.replicate n (.slice none 0 0)) (List.replicate n 0) := by
  refine ⟨by simp, fun k v N hv hN => ?_⟩
  rw [List.getElem?_replicate] at hv hN
  split at hv
  · rename_i h
    rw [if_pos h] at hN
    cases hv; cases hN
    exact IsSet.empty w
  · cases hv
theorem zeros_get {z : Value} {n k : Nat} (h : k < n) : (zeros z n)[k]? = some z := by simp [zeros, h]

set_option maxRecDepth 100000 in
set_option maxHeartbeats 1000000 in
theorem new_no (r c : Int) (w : World) (h : r < 0 ∨ r > 256 ∨ c < 0 ∨ c > 256) :
    Calls Tryd.prog 41 #[.int .i64 r, .int .i64 c] w fun e w' => e = pair (.pointer none) 1 ∧ w = w' := by
  by_cases h1 : r < 0
  · go_enter Tryd.func41, Tryd.ntmps41
    go_wp2
    go_ret2
    exact ⟨rfl, rfl⟩
  · by_cases h2 : r > 256
    · go_enter Tryd.func41, Tryd.ntmps41
      go_wp2
      go_ret2
      exact ⟨rfl, rfl⟩
    · by_cases h3 : c < 0
      · go_enter Tryd.func41, Tryd.ntmps41
        go_wp2
        go_ret2
        exact ⟨rfl, rfl⟩
      · have h4 : c > 256 := by omega
        clear h
        go_enter Tryd.func41, Tryd.ntmps41
        go_wp2
        go_ret2
        exact ⟨rfl, rfl⟩
set_option maxRecDepth 100000 in
set_option maxHeartbeats 1000000 in
theorem new_yes (R C : Nat) (w : World) (h1 : R ≤ 256) (h2 : C ≤ 256) :
    Calls Tryd.prog 41 #[.int .i64 R, .int .i64 C] w fun e w' => e = pair (ptr (w.heap.size + 1)) 0 ∧ w' = ((w.alloc (.cells (zeros (.slice none 0 0) R) 65)).alloc (.cells #[.int .i64 (C : Int), .slice (some ⟨w.heap.size, 0, none⟩) R R] 86)) := by
  have hmk := fun W => makeSets_run R (by omega) W
  go_enter Tryd.func41, Tryd.ntmps41
  go_wp2
  go_ret2
  exact ⟨rfl, rfl⟩
theorem new_mat (R C : Nat) (w : World) (h1 : R ≤ 256) (h2 : C ≤ 256) :
    IsMat ((w.alloc (.cells (zeros (.slice none 0 0) R) 65)).alloc (.cells #[.int .i64 (C : Int), .slice (some ⟨w.heap.size, 0, none⟩) R R] 86)) (w.heap.size + 1) C (List.replicate R 0) := by
  have hb := (Blk.new w 65 (zeros (.slice none 0 0) R)).alloc (.cells #[.int .i64 (C : Int), .slice (some ⟨w.heap.size, 0, none⟩) R R] 86)
  have hm := Blk.new_ (n := w.heap.size + 1) (w := w.alloc (.cells (zeros (.slice none 0 0) R) 65)) (by simp) 86 #[.int .i64 (C : Int), .slice (some ⟨w.heap.size, 0, none⟩) R R]
  refine ⟨by omega, by simp; omega, some ⟨w.heap.size, 0, none⟩, R, List.replicate R (.slice none 0 0), by simpa using hm, by simp, Row.of_blk hb fun k u hu => ?_, sets_zeros _ _⟩
  rw [List.getElem?_replicate] at hu
  split at hu
  · rename_i h; cases hu; exact zeros_get h
  · cases hu

set_option maxRecDepth 100000 in
set_option maxHeartbeats 1000000 in
theorem equalm_any (p q C D : Nat) (Ns Ms : List Nat) (w : World) (h : IsMat w p C Ns) (h' : IsMat w q D Ms) :
    Calls Tryd.prog 27 #[ptr p, ptr q] w fun e w' => e = .returned (.bool (decide (C = D ∧ Ns.length = Ms.length ∧ withinM Ns Ms ∧ withinM Ms Ns))) ∧ Below w.heap.size w w' := by
  have hf := withinm_any p q C D Ns Ms w h h'
  by_cases h1 : C = D ∧ Ns.length = Ms.length ∧ withinM Ns Ms
  · rw [decide_eq_true h1] at hf
    have HF := hideC hf; clear hf
    by_cases h2 : withinM Ms Ns
    · have H1 := Lib.hid h1; have H2 := Lib.hid h2; clear h1 h2
      go_enter Tryd.func27, Tryd.ntmps27
      go_wp2_with fail
      refine HF.out.mono ?_
      rintro e w1 ⟨rfl, hb1⟩
      have hg := withinm_any q p D C Ms Ns w1 (h'.below hb1) (h.below hb1)
      rw [decide_eq_true ⟨H1.out.1.symm, H1.out.2.1.symm, H2.out⟩] at hg
      have HG := hideC hg; clear hg
      go_wp2_with (go_at_call 33; refine HG.out.mono ?_; rintro e w2 ⟨rfl, hb2⟩)
      go_ret
      exact ⟨ret_bool (by rw [eq_comm, decide_eq_true_eq]; exact ⟨H1.out.1, H1.out.2.1, H1.out.2.2, H2.out⟩), hb1.trans (hb2.mono hb1.size)⟩
    · have H1 := Lib.hid h1; have H2 := Lib.hid h2; clear h1 h2
      go_enter Tryd.func27, Tryd.ntmps27
      go_wp2_with fail
      refine HF.out.mono ?_
      rintro e w1 ⟨rfl, hb1⟩
      have hg := withinm_any q p D C Ms Ns w1 (h'.below hb1) (h.below hb1)
      rw [decide_eq_false (fun h => H2.out h.2.2)] at hg
      have HG := hideC hg; clear hg
      go_wp2_with (go_at_call 33; refine HG.out.mono ?_; rintro e w2 ⟨rfl, hb2⟩)
      go_ret
      exact ⟨ret_bool (by rw [eq_comm, decide_eq_false_iff_not]; exact fun h => H2.out h.2.2.2), hb1.trans (hb2.mono hb1.size)⟩
  · rw [decide_eq_false h1] at hf
    have HF := hideC hf; clear hf
    have H1 := Lib.hid h1; clear h1
    go_enter Tryd.func27, Tryd.ntmps27
    go_wp2_with (go_at_call 33; refine HF.out.mono ?_; rintro e w1 ⟨rfl, hb1⟩)
    go_ret
    exact ⟨ret_bool (by rw [eq_comm, decide_eq_false_iff_not]; exact fun h => H1.out ⟨h.1, h.2.1, h.2.2.1⟩), hb1⟩
set_option maxRecDepth 100000 in
theorem equalm_nil (w : World) : Calls Tryd.prog 27 #[.pointer none, .pointer none] w fun e w' => e = .returned (.bool true) ∧ w = w' := by
  go_enter Tryd.func27, Tryd.ntmps27
  go_wp2
  go_ret
  exact ⟨rfl, rfl⟩
theorem run_eql_nil_ptr {P : Program} {tp te : TypeId} (hp : P.underlying tp = some (.pointer te)) (a : Addr) (w : World) :
    (binOp .eql tp (.pointer none) (.pointer (some a))).run P w = .ok (.bool false) w := by
  have h : ∀ d : Nat, (Op.equalIn (d + 1) tp (.pointer none) (.pointer (some a))).run P w = .ok false w := fun d => by
    simp [Op.equalIn, run_underlying hp]
  simp only [binOp]
  simp [Op.equal, Op.maxDepth, h 9999]
set_option maxRecDepth 100000 in
theorem equalm_nil1 (p : Nat) (w : World) : Calls Tryd.prog 27 #[.pointer none, ptr p] w fun e w' => e = .returned (.bool false) ∧ w = w' := by
  have hnp := fun W => run_eql_nil_ptr (P := Tryd.prog) Tryd.underlying30 ⟨p, 0, none⟩ W
  go_enter Tryd.func27, Tryd.ntmps27
  go_wp2
  go_ret
  exact ⟨rfl, rfl⟩
set_option maxRecDepth 100000 in
theorem equalm_nil2 (p : Nat) (w : World) : Calls Tryd.prog 27 #[ptr p, .pointer none] w fun e w' => e = .returned (.bool false) ∧ w = w' := by
  go_enter Tryd.func27, Tryd.ntmps27
  go_wp2
  go_ret
  exact ⟨rfl, rfl⟩
end Go.Proofs.YtjlcnbfkblmoeaaDoor
