import Derived.Test.YtfbkcdhmggjbaaaGreatDoorCwC
import Derived.Test.YtfbkcdhmggjbaaaGreatDoorCvH
import Derived.Test.YtfbkcdhmggjbaaaGreatDoorJoin
import Derived.Test.YtfbkcdhmggjbaaaGreatDoorLaw3
/-
  package cover: list.
-/
namespace Go.Proofs.YtfbkcdhmggjbaaaGreatDoor
open Go.RowKit
/-- The roles of two matrices: users and permissions of each. -/
def roleQ (D : Nat) (Us Ps : List Nat) (k : Nat) : List (Nat × Nat) := (List.range k).map fun i => (mcol D Us (i : Nat), Ps.getD i 0)
theorem roleQ_len (D : Nat) (Us Ps : List Nat) (k : Nat) : (roleQ D Us Ps k).length = k := by unfold roleQ; simp
theorem roleQ_succ (D : Nat) (Us Ps : List Nat) (k : Nat) : roleQ D Us Ps (k + 1) = roleQ D Us Ps k ++ [(mcol D Us (k : Nat), Ps.getD k 0)] := by unfold roleQ; rw [List.range_succ, List.map_append]; rfl
namespace Mix2
set_option maxRecDepth 100000 in
set_option maxHeartbeats 8000000 in
theorem list48_any (u p D C : Nat) (Us Ps : List Nat) (w : World) (hu : IsMat w u D Us) (hp : IsMat w p C Ps) (hl : Ps.length ≤ 256) :
    Calls Tryz.prog 37 #[.agg #[ptr u, ptr p]] w fun e w' => ∃ v, e = .returned v ∧ OwnQ w' w.heap.size v (roleQ D Us Ps Ps.length) ∧ Below w.heap.size w w' := by
  obtain ⟨i0, hi0, hz0, hz1, hz2⟩ := info_parts info_con
  have hsuc := roleQ_succ D Us Ps
  have hlen := roleQ_len D Us Ps
  have h0 : roleQ D Us Ps 0 = [] := rfl
  have HCO := Lib.hid (fun W (k : Nat) (hb : Below w.heap.size w W) => col_any u D Us (k : Nat) W (hu.below hb))
  have HRO := Lib.hid (fun W (k : Nat) (hb : Below w.heap.size w W) => by
    have q := row_any p C Ps (k : Nat) W (hp.below hb)
    rwa [show mrow Ps ((k : Nat) : Int) = Ps.getD k 0 by unfold mrow; rw [if_pos (Int.natCast_nonneg _), Int.toNat_natCast]] at q)
  have HRW := Lib.hid (fun W (hb : Below w.heap.size w W) => rows_any p C Ps W (hp.below hb))
  generalize roleQ D Us Ps = T at hsuc hlen h0 ⊢
  have HSU := Lib.hid hsuc; have HLE := Lib.hid hlen; have H0 := Lib.hid h0
  clear hsuc hlen h0 hu hp
  go_enter Tryz.func37, Tryz.ntmps37
  go_wp2_with fail
  refine absC1 fun W0 hX0 hb0 hz => ?_
  obtain ⟨X, hXe⟩ : ∃ g, g = w.heap.size := ⟨_, rfl⟩
  rw [← hXe] at hX0 ⊢
  clear hXe hz
  have HR0 := hideC (HRW.out W0 hb0)
  with_reducible refine HR0.out.mono ?_
  rintro e w' ⟨rfl, rfl⟩
  clear HR0 HRW
  go_wp2_with fail
  refine wp_loopF (β := Nat × Value) (fun x f => #[f 0, .pointer (some ⟨X, 0, none⟩), .slice none 0 0, x.2, f 4, f 5, f 6, .int .i64 (Ps.length : Int), .int .i64 (x.1 : Int), f 9, f 10, f 11, f 12, f 13, f 14, f 15, f 16, f 17, f 18, f 19, f 20, f 21, f 22, f 23, f 24])
    (fun x ds W => x.1 ≤ Ps.length ∧ ds = [] ∧ Below W0.heap.size W0 W ∧ OwnQ W W0.heap.size x.2 (T x.1)) (fun x => Ps.length - x.1) (0, .slice none 0 0) rfl
    ⟨Nat.zero_le _, rfl, Below.refl _ _, by dsimp only; rw [H0.out]; exact OwnQ.nil _ _⟩ ?_
  rintro ⟨k, v3⟩ f ds W ⟨hk, rfl, hbW, hown⟩
  dsimp only at hk hown ⊢
  have bW := hb0.trans (hbW.mono hb0.size)
  have hXW := hX0.below hbW hX0.lt
  by_cases hlt : k < Ps.length
  · have p0 := hX0.cell 0
    have p1 := hX0.cell 1
    have hle := HLE.out k
    have hro := fun W hb => HRO.out W k hb
    have hco := fun W hb => HCO.out W k hb
    have hsu := HSU.out k
    obtain ⟨N2, hN2⟩ : ∃ s, s = Ps.getD k 0 := ⟨_, rfl⟩
    obtain ⟨N1, hN1⟩ : ∃ s, s = mcol D Us (k : Nat) := ⟨_, rfl⟩
    rw [← hN2] at hro hsu
    rw [← hN1] at hco hsu
    have HRK := Lib.hid hro; have HCK := Lib.hid hco; have HSK := Lib.hid hsu
    clear hro hco hsu hN1 hN2
    obtain ⟨vs, hown0, hsets⟩ := hown
    rw [hle] at hown0
    obtain ⟨A3, c3, rfl, -⟩ := RowN.of_own hown0
    go_upto_region 5 with fail
    refine wp_mix (fun V => Below W0.heap.size W0 V) 13 (by kernel_rfl) (by kernel_rfl) hbW.drew ?_
    have hr := (Below.refl W.heap.size W).drew
    obtain ⟨U, hU⟩ : ∃ U, U = W.drew := ⟨_, rfl⟩
    rw [← hU] at hr ⊢
    clear hU
    (refine m_q 0 (v := ?_) (by kernel_rfl) rfl rfl (fun W hW => ?_) ?_; rotate_left; (go_simp; first | done | with_reducible rfl); simp only [Act.put, List.setIfInBounds_toArray, List.set_cons_zero, List.set_cons_succ])
    (refine m_q 1 (v := ?_) (by kernel_rfl) rfl rfl (fun W hW => ?_) ?_; rotate_left; (have y0 := onB hW p0; have y1 := onB hW p1; go_simp; first | done | with_reducible rfl); simp only [Act.put, List.setIfInBounds_toArray, List.set_cons_zero, List.set_cons_succ]); (refine m_q 2 (v := ?_) (by kernel_rfl) rfl rfl (fun W hW => ?_) ?_; rotate_left; (have y0 := onB hW p0; have y1 := onB hW p1; go_simp; first | done | with_reducible rfl); simp only [Act.put, List.setIfInBounds_toArray, List.set_cons_zero, List.set_cons_succ]); (refine m_q 3 (v := ?_) (by kernel_rfl) rfl rfl (fun W hW => ?_) ?_; rotate_left; (have y0 := onB hW p0; have y1 := onB hW p1; go_simp; first | done | with_reducible rfl); simp only [Act.put, List.setIfInBounds_toArray, List.set_cons_zero, List.set_cons_succ]); (refine m_q 5 (v := ?_) (by kernel_rfl) rfl rfl (fun W hW => ?_) ?_; rotate_left; (have y0 := onB hW p0; have y1 := onB hW p1; go_simp; first | done | with_reducible rfl); simp only [Act.put, List.setIfInBounds_toArray, List.set_cons_zero, List.set_cons_succ]); (refine m_q 6 (v := ?_) (by kernel_rfl) rfl rfl (fun W hW => ?_) ?_; rotate_left; (have y0 := onB hW p0; have y1 := onB hW p1; go_simp; first | done | with_reducible rfl); simp only [Act.put, List.setIfInBounds_toArray, List.set_cons_zero, List.set_cons_succ]); (refine m_q 7 (v := ?_) (by kernel_rfl) rfl rfl (fun W hW => ?_) ?_; rotate_left; (have y0 := onB hW p0; have y1 := onB hW p1; go_simp; first | done | with_reducible rfl); simp only [Act.put, List.setIfInBounds_toArray, List.set_cons_zero, List.set_cons_succ])
    have H1 := hideC (HCK.out U (bW.trans (hr.mono bW.size)))
    refine m_s1 4 (by kernel_rfl) rfl ?_
    go_wp2_with fail
    with_reducible refine H1.out.mono ?_
    rintro e U1 ⟨v1, rfl, hv1, hu1⟩
    have hr1 := hr.trans (hu1.mono hr.size)
    obtain ⟨B1, d1, rfl, _⟩ := id hv1
    go_wp2_with fail
    refine m_keep (hbW.trans (hr1.mono hbW.size)) ?_
    have H2 := hideC (HRK.out U1 (bW.trans (hr1.mono bW.size)))
    refine m_s1 8 (by kernel_rfl) rfl ?_
    go_wp2_with fail
    with_reducible refine H2.out.mono ?_
    rintro e U2 ⟨v2, rfl, hv2, hu2⟩
    have hr2 := hr1.trans (hu2.mono hr1.size)
    obtain ⟨B2, d2, rfl, _⟩ := id hv2
    go_wp2_with fail
    refine m_keep (hbW.trans (hr2.mono hbW.size)) ?_
    (refine m_q 9 (v := ?_) (by kernel_rfl) rfl rfl (fun W hW => ?_) ?_; rotate_left; (go_simp; first | done | with_reducible rfl); simp only [Act.put, List.setIfInBounds_toArray, List.set_cons_zero, List.set_cons_succ])
    refine m_s1 10 (by kernel_rfl) rfl ?_
    go_wp2_with fail
    refine absN fun U3 hB hb3 hz => ?_
    clear hz
    have hr3 := hr2.trans (hb3.mono hr2.size)
    have hlocs := own_below hown0 hr3
    have b3 := bW.trans (hr3.mono bW.size)
    have bW3 := hbW.trans (hr3.mono hbW.size)
    have s1 := (hv1.below hu2).below hb3
    have s2 := hv2.below hb3
    have hse := hsets.below hr3
    obtain ⟨gB, hgB⟩ : ∃ x, x = U2.heap.size := ⟨_, rfl⟩
    rw [← hgB] at hB ⊢
    clear hgB
    refine m_keep bW3 ?_
    have hsz := bW3.size
    have HNW := hideC (World.news_of_block hB)
    refine m_s1 11 (by kernel_rfl) rfl ?_
    go_wp2_with (at_builtin; refine wpList_append_own _ rfl _ _ 78 rfl (W0.heap.size) 84 i0 (.agg #[.slice none 0 0, .slice none 0 0]) 2 48 Tryz.underlying78 hi0 hz0 hz1 hz2 rfl (by decide) _ _ _ rfl (hlocs) ⟨gB, 0, none⟩ 1 1 [.slice B1 (nw N1) d1, .slice B2 (nw N2) d2] rfl rfl (HNW.out) (by simp [Value.oneCell']) (by unfold maxLen; omega) (by omega) (by first | omega | (simp; omega)) ?_; intro v' w3 hown' hgrow _)
    obtain ⟨hK, hkw⟩ := OwnQ.push (s := (N1, N2)) hse hlocs hgrow hown' hle.symm s1 s2
    rw [← HSK.out] at hK
    have b4 := bW3.grown hgrow hsz (fun q hq => (hlocs.lt q hq).1)
    refine m_keep b4 ?_
    refine m_s1 12 (by kernel_rfl) rfl ?_
    go_wp2_with fail
    refine m_keep b4 ?_
    refine m_end (by kernel_rfl) ?_
    clear p0 p1 hown' hlocs hgrow HNW hB
    go_wp2_with fail
    exact ⟨(k + 1, v'), rfl, ⟨by show k + 1 ≤ Ps.length; omega, by first | rfl | trivial, b4, hK⟩, by show Ps.length - (k + 1) < Ps.length - k; omega⟩
  · obtain rfl : k = Ps.length := by omega
    go_wp2_with fail
    go_ret
    exact ⟨v3, rfl, hown.low hb0.size, bW⟩
end Mix2
end Go.Proofs.YtfbkcdhmggjbaaaGreatDoor
