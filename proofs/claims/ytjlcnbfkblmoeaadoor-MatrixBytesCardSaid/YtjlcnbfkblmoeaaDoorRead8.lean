import Derived.Test.YtjlcnbfkblmoeaaDoorRead7
namespace Go.Proofs.YtjlcnbfkblmoeaaDoor
open Go.RowKit

/-- The bytes of the first k rows. -/
def mbk (C : Nat) (Ns : List Nat) (k : Nat) : List Nat := Ns.length :: C :: ((Ns.take k).map sb).flatten
theorem mbk_succ {C : Nat} {Ns : List Nat} {k : Nat} (h : k < Ns.length) : mbk C Ns (k + 1) = mbk C Ns k ++ sb Ns[k] := by
  unfold mbk
  rw [List.take_succ_eq_append_getElem h, List.map_append, List.flatten_append]
  simp
theorem mbk_full (C : Nat) (Ns : List Nat) : mbk C Ns Ns.length = mb C Ns := by unfold mbk mb; rw [List.take_length]
theorem sb_len (N : Nat) : (sb N).length ≤ 2 := by unfold sb; split <;> simp
theorem own_form {W : World} {base : Nat} {v : Value} {l : List Nat} (h : OwnB W base v l) (h0 : 0 < l.length) : ∃ g c, v = .slice (some ⟨g, 0, none⟩) l.length c := by
  obtain ⟨g, c, e, _⟩ := h.form h0
  exact ⟨g, c, e⟩
set_option maxRecDepth 100000 in
set_option maxHeartbeats 4000000 in
theorem bytesr_any (C : Nat) (A : Option Addr) (c : Nat) (M : List (List Bool)) (w : World) (h : IsRef w C A M) (hC : C < 8) (hR : M.length < 8) :
    Calls Tryd.prog 55 #[refV C A M.length c] w fun e w' => ∃ v, e = .returned v ∧ OwnB w' w.heap.size v (mb C (nsOf C M)) ∧ Below w.heap.size w w' := by
  have hNl : (nsOf C M).length = M.length := nsTo_len C M M.length
  go_enter Tryd.func55, Tryd.ntmps55
  go_wp2_with fail
  refine abs1 fun W0 hX0 hbel0 hz => ?_
  have HZ := Lib.hid hz; clear hz
  have x0 := hX0.cell 0
  have x1 := hX0.cell 1
  have hwr := u64_wrap_nat M.length (by omega)
  have hwc := u64_wrap_nat C (by omega)
  go_wp2_with fail
  refine wp_spine (fun W => Below W0.heap.size W0 W) [0, 1, 2, 3, 5, 6, 7] [4, 8, 9, 10] (by kernel_rfl) (by kernel_rfl) ?_
  iterate 7 (refine wpE_op (v := ?_) rfl rfl (fun W hW => ?_) ?_; rotate_left; (have z0 := onB hW x0; have z1 := onB hW x1; go_simp; first | done | with_reducible rfl); simp only [Act.put, List.setIfInBounds_toArray, List.set_cons_zero, List.set_cons_succ])
  refine wpE_nil ⟨fun h => (by cases h), wpSp_op rfl (Below.refl _ _).drew ?_⟩
  have HP1 := hideC (put_small M.length W0.drew (by omega))
  go_wp2_with fail; (with_reducible refine (HP1.out).mono ?_); rintro e w1 ⟨c1, rfl, hown1, hb1⟩
  have k1 : Below W0.heap.size W0 w1 := (Below.refl _ _).drew.trans hb1
  go_wp2_with fail
  refine nxt_op rfl k1 ?_
  have HP2 := hideC (put_small C w1 (by omega))
  go_wp2_with fail; (with_reducible refine (HP2.out).mono ?_); rintro e w2 ⟨c2, rfl, hown2, hb2⟩
  have k2 := k1.trans (hb2.mono k1.size)
  go_wp2_with fail
  refine nxt_op rfl k2 ?_
  have hown12 := own_below hown1 hb2
  go_wp2_with (at_builtin; refine app_bytes rfl _ _ rfl W0.heap.size _ [M.length] rfl hown12 (some ⟨w1.heap.size, 0, none⟩) c2 [C] rfl (.inr ⟨_, rfl, own_cells (l := [C]) hown2⟩) k2.size (by simp) ?_)
  intro v' w3 hown' hgrow
  have k3 := k2.grown hgrow k2.size (fun q hq => (hown12.lt q hq).1)
  go_wp2_with fail
  refine nxt_op rfl k3 ?_
  go_wp2_with fail
  refine nxt_nil ?_
  have hX3 := hX0.below k3 hX0.lt
  have x0 := hX3.cell 0
  have x1 := hX3.cell 1
  have hbel3 := hbel0.trans (k3.mono hbel0.size)
  go_wp2_with fail
  go_loopw [3, 18] (fun o i wr => ∃ k : Nat, k ≤ M.length ∧ i = .int .i64 k ∧ OwnB wr W0.heap.size o (mbk C (nsOf C M) k) ∧ (mbk C (nsOf C M) k).length ≤ 2 + 2 * k ∧ Below W0.heap.size W0 wr) (fun _ i _ => M.length - (intOf i).toNat)
  case atStart => exact ⟨0, Nat.zero_le _, rfl, by unfold mbk; rw [hNl]; exact hown', by simp [mbk], k3⟩
  case round =>
    obtain ⟨k, hk, rfl, hown, hlen, hbel⟩ := hrel
    have hX := hX0.below hbel hX0.lt
    have x0 := hX.cell 0
    have x1 := hX.cell 1
    have hbw := hbel0.trans (hbel.mono hbel0.size)
    by_cases hlt : k < M.length
    · have HR := hideC (rowr_any C A c M k wr (h.below hbw))
      have hrl := rowTo_len C M k C
      have HSU := Lib.hid (mbk_succ (C := C) (Ns := nsOf C M) (k := k) (by rw [hNl]; exact hlt))
      have hNk : (nsOf C M)[k]'(by rw [hNl]; exact hlt) = setOf ((rowTo C M k C).map Int.ofNat) := by
        rw [← getD_at (by rw [hNl]; exact hlt), nsOf_get hlt]; rfl
      have HNK := Lib.hid hNk
      have hmem : ∀ x ∈ rowTo C M k C, x < 8 := fun x hx => by
        have := List.mem_range.1 (List.mem_filter.1 hx).1; omega
      have HME := Lib.hid hmem
      clear hNk hmem
      go_wp2_with fail; (with_reducible refine (HR.out).mono ?_); rintro e w4 ⟨B, d, rfl, hd, hrow, hb4⟩
      have HP := hideC (putSet_small B d _ w4 hrow HME.out (by omega))
      go_wp2_with fail; (with_reducible refine (HP.out).mono ?_); rintro e w5 ⟨v5, rfl, hown5, hb5⟩
      have hb45 := hb4.trans (hb5.mono hb4.size)
      obtain ⟨N, hN⟩ : ∃ N, N = setOf ((rowTo C M k C).map Int.ofNat) := ⟨_, rfl⟩
      rw [← hN] at hown5 HNK
      have hsl := sb_len N
      have hsp : 0 < (sb N).length := by unfold sb; split <;> simp
      obtain ⟨g5, c5, rfl⟩ := own_form hown5 hsp
      have hown45 := own_below hown hb45
      have hsz := hbel.size
      have hsz5 := hb45.size
      clear hN
      go_wp2_with (at_builtin; refine app_bytes rfl _ _ rfl W0.heap.size _ _ rfl hown45 (some ⟨g5, 0, none⟩) c5 (sb N) rfl (.inr ⟨_, rfl, own_cells hown5⟩) (by omega) (by omega) ?_)
      intro v6 w6 hown6 hgrow6
      go_wp2_with fail
      exact ⟨⟨k + 1, by omega, by go_num, by rw [HSU.out, HNK.out]; exact hown6, by rw [HSU.out, HNK.out, List.length_append]; omega, (hbel.trans (hb45.mono hsz)).grown hgrow6 (by omega) (fun q hq => (hown45.lt q hq).1)⟩, by simp [intOf]; omega⟩
    · obtain rfl : k = M.length := by omega
      go_wp2_with fail
      go_ret
      refine ⟨_, rfl, ?_, hbw⟩
      have e := mbk_full C (nsOf C M)
      rw [hNl] at e
      rw [← e]
      exact hown.mono hbel0.size
end Go.Proofs.YtjlcnbfkblmoeaaDoor
