import Derived.Test.YtjlcnbfkblmoeaaDoorWire3
import Derived.Deep.Onto
namespace Go.Proofs.YtjlcnbfkblmoeaaDoor
open Go.RowKit

theorem run_eql_some_nil {P : Program} {t e : TypeId} (h : P.underlying t = some (.slice e)) (a : Addr) (l c : Nat) (w : World) : (binOp .eql t (.slice (some a) l c) (.slice none 0 0)).run P w = .ok (.bool false) w := by
  simp only [binOp]
  simp [run_equal_slice_nil w t e (some a) l c h]
set_option maxRecDepth 100000 in
set_option maxHeartbeats 1000000 in
theorem clone8_any (g c : Nat) (ys : List Int) (w : World) (hp : IsBytes w (.slice (some ⟨g, 0, none⟩) ys.length c) ys) (hy : ys.length ≤ 1000000000) :
    Calls Tryd.prog 100 #[.slice (some ⟨g, 0, none⟩) ys.length c] w fun e w' => ∃ g' c', e = .returned (.slice (some ⟨g', 0, none⟩) ys.length c') ∧ w'.ownsRow w.heap.size 5 1 (.slice (some ⟨g', 0, none⟩) ys.length c') ys.length (ys.map enc8) ∧ ys.length ≤ c' ∧ Below w.heap.size w w' := by
  obtain ⟨i0, hi0, hz0, hz1, hz2⟩ := info_parts info_byte
  rcases hp with ⟨h, _⟩ | ⟨g1, c1, hpos, h, hg, hc⟩
  · cases h
  · injection h with h h2 h3
    injection h with h
    injection h with h
    subst h; subst h3
    have hadd : ∀ (j : Nat) u, (ys.map enc8)[j]? = some u → (w.alloc (.cells #[] 5)).cell? ((⟨g, 0, none⟩ : Addr).add j) = some u := fun j u hu => by
      have := hc j u hu
      have e : (⟨g, 0, none⟩ : Addr).add j = ⟨g, j, none⟩ := by unfold Addr.add; split <;> simp_all
      rw [e]; exact (World.cell?_alloc_lt _ _ _ hg).trans this
    have HADD := Lib.hid hadd; clear hadd hc
    have own0 := World.ownsRow_lit (base := w.heap.size) (e := 5) (size := 1) w #[] 0 (Nat.le_refl _) (by decide) rfl
    have hb0 := (Below.refl w.heap.size w).alloc (Nat.le_refl _) (.cells #[] 5)
    have hnil := fun W => run_eql_some_nil (P := Tryd.prog) Tryd.underlying22 ⟨g, 0, none⟩ ys.length c W
    go_enter Tryd.func100, Tryd.ntmps100
    go_wp2_with (at_builtin; refine wpList_append_lies _ rfl _ _ 22 rfl w.heap.size 5 i0 (.int .u8 0) 1 1 Tryd.underlying22 hi0 hz0 hz1 hz2 rfl (by decide) _ _ _ rfl own0 ⟨g, 0, none⟩ ys.length c (ys.map enc8) rfl (by simp) HADD.out (by intro u hu; obtain ⟨x, _, rfl⟩ := List.mem_map.1 hu; rfl) hpos (by unfold maxLen; omega) (by omega) (by simp) _ rfl ?_)
    intro g5 cap5 w3 hown' hgrow hlies hlt5
    have hbe3 := hb0.grown hgrow (by simp) (fun q hq => (own0.lt q hq).1)
    go_wp2_with fail
    go_ret
    have hown2 : w3.ownsRow w.heap.size 5 1 (.slice (some ⟨g5, 0, none⟩) ys.length cap5) ys.length (ys.map enc8) := by simpa using hown'
    obtain ⟨_, _, e, h6, _⟩ := row_of_own hown2
    exact ⟨g5, cap5, by simp, hown2, by cases e; exact h6, hbe3⟩
set_option maxRecDepth 100000 in
set_option maxHeartbeats 1000000 in
theorem out_any (base b : Nat) (xs : List Int) (w : World) (h : IsWr base b xs w) (h0 : 0 < xs.length) (hl : xs.length ≤ 1000000000) :
    Calls Tryd.prog 82 #[ptr b] w fun e w' => ∃ g' c', e = .returned (.slice (some ⟨g', 0, none⟩) xs.length c') ∧ w'.ownsRow w.heap.size 5 1 (.slice (some ⟨g', 0, none⟩) xs.length c') xs.length (xs.map enc8) ∧ xs.length ≤ c' ∧ Below w.heap.size w w' := by
  obtain ⟨h1, v, h2, h3⟩ := h
  obtain ⟨g, c, rfl, _, _⟩ := h3.form h0
  have c0 := h2.cell 0
  have HC := hideC (clone8_any g c xs w (IsBytes.of_own h3 h0) hl)
  go_enter Tryd.func82, Tryd.ntmps82
  go_wp2_with fail
  refine HC.out.mono ?_
  rintro e w1 ⟨g', c', rfl, hown, hcc, hb⟩
  go_wp2_with fail
  go_ret
  exact ⟨g', c', rfl, hown, hcc, hb⟩

/-- A matrix's bytes, the first k rows. -/
def mbytes (C : Nat) (Ns : List Nat) (k : Nat) : List Int := encN Ns.length ++ encN C ++ ((Ns.take k).map fun N => encB (setBytes N)).flatten
theorem mbytes_succ {C : Nat} {Ns : List Nat} {k : Nat} (h : k < Ns.length) : mbytes C Ns (k + 1) = mbytes C Ns k ++ encB (setBytes Ns[k]) := by
  unfold mbytes
  rw [List.take_add_one, List.getElem?_eq_getElem h, List.map_append, List.flatten_append, ← List.append_assoc]
  congr 1
  exact List.append_nil _
set_option maxRecDepth 100000 in
set_option maxHeartbeats 2000000 in
theorem mbytes_any (p C : Nat) (Ns : List Nat) (w : World) (h : IsMat w p C Ns) :
    Calls Tryd.prog 54 #[ptr p] w fun e w' => ∃ g' c', e = .returned (.slice (some ⟨g', 0, none⟩) (mbytes C Ns Ns.length).length c') ∧ w'.ownsRow w.heap.size 5 1 (.slice (some ⟨g', 0, none⟩) (mbytes C Ns Ns.length).length c') (mbytes C Ns Ns.length).length ((mbytes C Ns Ns.length).map enc8) ∧ 0 < (mbytes C Ns Ns.length).length ∧ (mbytes C Ns Ns.length).length ≤ c' ∧ Below w.heap.size w w' := by
  obtain ⟨h1, h2, A, c, vs, hB, hc, hr, hs⟩ := id h
  have HN := hideC (newWriter_any w)
  go_enter Tryd.func54, Tryd.ntmps54
  go_wp2_with fail
  refine HN.out.mono ?_
  rintro e w1 ⟨rfl, hw1, hb1⟩
  have m1 := onB hb1 (hB.cell 1)
  have e1 := encN_len Ns.length
  have e2 := encN_len C
  have HU := hideC (uint_any w.heap.size w.heap.size Ns.length [] w1 hw1 (by omega) (by simp) hb1.size)
  go_wp2_with fail
  refine HU.out.mono ?_
  rintro e w2 ⟨rfl, hw2, hb2, _⟩
  have hbw2 := hb1.trans hb2
  have m0 := onB hbw2 (hB.cell 0)
  have HU2 := hideC (uint_any w.heap.size w.heap.size C ([] ++ encN Ns.length) w2 hw2 (by omega) (by simp; omega) hbw2.size)
  go_wp2_with fail
  refine HU2.out.mono ?_
  rintro e w3 ⟨rfl, hw3, hb3, _⟩
  have hbw3 := hbw2.trans hb3
  have m13 := onB hbw3 (hB.cell 1)
  clear m1 m0
  go_wp2_with fail
  go_loopw [29] (fun i wr => ∃ k : Nat, k ≤ Ns.length ∧ i = .int .i64 k ∧ IsWr w.heap.size w.heap.size (mbytes C Ns k) wr ∧ (mbytes C Ns k).length ≤ 22 + 523 * k ∧ 0 < (mbytes C Ns k).length ∧ Below w.heap.size w wr) (fun i _ => Ns.length - (intOf i).toNat)
  case atStart => exact ⟨0, Nat.zero_le _, rfl, by simpa [mbytes] using hw3, by simp [mbytes]; omega, by simp [mbytes]; omega, hbw3⟩
  case round =>
    obtain ⟨k, hk, rfl, hwk, hlk, hpk, hbel⟩ := hrel
    by_cases hlt : k < Ns.length
    · obtain ⟨A1, c1, hv, hset⟩ := hs.at_ hlt
      obtain ⟨g, off, rfl, hg, hcell⟩ := hr (by rw [hs.1]; omega)
      have cv := onB hbel (hcell k _ hv)
      have hsl := setBytes_len Ns[k] (by obtain ⟨_, _, _, x, _⟩ := hset; exact x)
      have hel := encB_len (setBytes Ns[k])
      have HST := Lib.hid (mbytes_succ (C := C) hlt)
      clear hcell hr hs hv
      go_wp2_with fail
      refine absC1 fun W1 hX hbx hz1 => ?_
      have hbel1 := hbel.trans (hbx.mono hbel.size)
      refine (wset_any w.heap.size w.heap.size Ns[k] _ _ W1 (hwk.below hbx) ((hset.below hbel).below hbx) (by omega) hbel1.size).mono ?_
      rintro e w4 ⟨rfl, hw4, hb4, _⟩
      go_wp2_with fail
      exact ⟨⟨k + 1, by omega, by go_num, by rw [HST.out]; exact hw4, by rw [HST.out, List.length_append]; omega, by rw [HST.out, List.length_append]; omega, hbel1.trans hb4⟩, by simp [intOf]; omega⟩
    · obtain rfl : k = Ns.length := by omega
      have HO := hideC (out_any w.heap.size w.heap.size _ wr hwk hpk (by omega))
      go_wp2_with fail
      refine HO.out.mono ?_
      rintro e w5 ⟨g', c', rfl, hown, hcc, hb5⟩
      go_wp2_with fail
      go_ret
      exact ⟨g', c', rfl, hown.mono hbel.size, hpk, hcc, hbel.trans (hb5.mono hbel.size)⟩
set_option maxRecDepth 100000 in
theorem mbytes_nil (w : World) :
    Calls Tryd.prog 54 #[.pointer none] w fun e w' => e = .returned (.slice none 0 0) ∧ w = w' := by
  go_enter Tryd.func54, Tryd.ntmps54
  go_wp2
  go_ret
  exact ⟨rfl, rfl⟩
end Go.Proofs.YtjlcnbfkblmoeaaDoor
