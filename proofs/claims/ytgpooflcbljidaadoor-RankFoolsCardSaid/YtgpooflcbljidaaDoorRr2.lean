/-
  The reference of chapter 47: all concepts with a one, in lectic order.
-/
import Derived.Test.YtgpooflcbljidaaDoorRr1
import Derived.Test.YtgpooflcbljidaaDoorRk6
import Derived.Test.YtgpooflcbljidaaDoorMix2
import Derived.Test.YtgpooflcbljidaaDoorLaw3
import Derived.Test.YtgpooflcbljidaaDoorJoin
import Derived.Deep.CutBlock
import Derived.Laws.AppendOwnNone
namespace Go.Proofs.YtgpooflcbljidaaDoor
open Go.RowKit

/-- The cells of a slice of numbers. -/
abbrev u64L (Ls : List Nat) : List Value := Ls.map fun x : Nat => Value.int .u64 (x : Int)
theorem own_low {w : World} {base b0 : Nat} {e : TypeId} {size : Nat} {v : Value} {n : Nat} {xs : List Value} (h : w.ownsRow base e size v n xs) (hb : b0 ≤ base) : w.ownsRow b0 e size v n xs :=
  ⟨h.1, h.2.imp id fun ⟨g, cap, cur, hv, hg, r⟩ => ⟨g, cap, cur, hv, Nat.le_trans hb hg, r⟩⟩
theorem own_blk0 {w : World} {base g : Nat} {t : TypeId} {size : Nat} (hB : Blk w g t #[]) (hg : base ≤ g) : w.ownsRow base t size (.slice (some ⟨g, 0, none⟩) 0 0) 0 [] :=
  ⟨by simp, .inr ⟨g, 0, #[], rfl, hg, hB, Nat.le_refl _, by decide, by simp, by simp⟩⟩
theorem addr_add (g o j : Nat) : (⟨g, o, none⟩ : Addr).add j = ⟨g, o + j, none⟩ := by unfold Addr.add; split <;> simp_all
theorem news_take {w : World} {g off : Nat} {L : List Value} (hc : ∀ (k : Nat) u, L[k]? = some u → w.cell? ⟨g, off + k, none⟩ = some u) (i : Nat) : ∀ (j : Nat) u, (L.take i)[j]? = some u → w.cell? ((⟨g, off, none⟩ : Addr).add j) = some u := fun j u hu => by
  rw [addr_add]
  rw [List.getElem?_take] at hu
  split at hu
  · exact hc j u hu
  · cases hu
theorem news_drop {w : World} {g off : Nat} {L : List Value} (hc : ∀ (k : Nat) u, L[k]? = some u → w.cell? ⟨g, off + k, none⟩ = some u) (i : Nat) : ∀ (j : Nat) u, (L.drop i)[j]? = some u → w.cell? ((⟨g, off + i, none⟩ : Addr).add j) = some u := fun j u hu => by
  rw [addr_add, Nat.add_assoc]
  rw [List.getElem?_drop] at hu
  exact hc _ u hu
theorem u64L_one (L : List Nat) : ∀ u ∈ u64L L, u.oneCell' = true := by
  intro u hu
  unfold u64L at hu
  obtain ⟨_, _, rfl⟩ := List.mem_map.1 hu
  rfl
theorem u64L_take (L : List Nat) (i : Nat) : (u64L L).take i = u64L (L.take i) := by unfold u64L; rw [List.map_take]
theorem u64L_drop (L : List Nat) (i : Nat) : (u64L L).drop i = u64L (L.drop i) := by unfold u64L; rw [List.map_drop]
theorem own_ins {w : World} {base b0 : Nat} {e : TypeId} {v : Value} {n : Nat} {xs : List Value} {K : List Nat} (h : w.ownsRow base e 1 v n xs) (hx : xs = u64L K) (hb : b0 ≤ base) : w.ownsRow b0 e 1 v K.length (u64L K) := by
  subst hx
  have : n = K.length := by have := h.1; simp at this; omega
  rw [← this]
  exact own_low h hb
theorem u64L_len (L : List Nat) : (u64L L).length = L.length := by simp [u64L]
/-- The round's state: how far the place is known. -/
def preL (s : Nat) (L : List Nat) (i : Nat) : Prop := ∀ (j : Nat) x, j < i → L[j]? = some x → lecR x s = true
theorem allTo_no {C : Nat} {Ns : List Nat} {n : Nat} (h : oneS C Ns n = false) : allTo C Ns (n + 1) = allTo C Ns n := by rw [allTo, if_neg (by rw [h]; simp)]
theorem allTo_yes {C : Nat} {Ns : List Nat} {n i : Nat} (h0 : n ≠ 0) (h : oneS C Ns n = true) (hi : i ≤ (allTo C Ns n).length) (h1 : preL n (allTo C Ns n) i) (h2 : ∀ x, (allTo C Ns n)[i]? = some x → lecR x n = false) : allTo C Ns (n + 1) = (allTo C Ns n).take i ++ [n] ++ (allTo C Ns n).drop i := by
  rw [allTo, if_pos ⟨h0, h⟩, insL_at n _ i hi h1 h2]; simp
namespace Mix2
set_option maxRecDepth 100000 in
set_option maxHeartbeats 8000000 in
theorem all47_any (C : Nat) (A : Option Addr) (c : Nat) (M : List (List Bool)) (w : World) (h : IsRef w C A M) (hC : C ≤ 12) (hR : M.length ≤ 60) :
    Calls Tryd.prog 83 #[refV C A M.length c] w fun e w' => ∃ v, e = .returned v ∧ w'.ownsRow w.heap.size 72 1 v (allL C (nsOf C M)).length (u64L (allL C (nsOf C M))) ∧ Below w.heap.size w w' := by
  obtain ⟨i0, hi0, hz0, hz1, hz2⟩ := info_parts info_u64
  obtain ⟨N, hN⟩ : ∃ N, N = nsOf C M := ⟨_, rfl⟩
  have HCL := Lib.hid (fun W s (hb : Below w.heap.size w W) => closer_any C A c M s W (h.below hb) (by omega) hR)
  have HHV := Lib.hid (fun W s (hb : Below w.heap.size w W) => havr_any C A c M s W (h.below hb) (by omega) hR)
  rw [← hN] at HCL HHV ⊢
  obtain ⟨E, hE⟩ : ∃ E : Nat, E = 2 ^ C := ⟨_, rfl⟩
  have hE1 : 1 ≤ E := by rw [hE]; exact Nat.one_le_two_pow
  have hE2 : E ≤ 4096 := by rw [hE]; exact Nat.le_trans (Nat.pow_le_pow_right (by omega) hC) (by decide)
  have hEI := two_form (n := C) (by omega)
  rw [← hE] at hEI
  have hAL : allL C N = allTo C N E := by rw [allL, hE]
  rw [hAL]
  clear hE hAL hN
  go_enter Tryd.func83, Tryd.ntmps83
  go_wp2_with fail
  refine abs1 fun W0 hX0 hb0 hz => ?_
  obtain ⟨X, hXe⟩ : ∃ g, g = w.heap.size := ⟨_, rfl⟩
  have hXw : w.heap.size ≤ X := by omega
  rw [← hXe] at hX0 ⊢
  clear hXe hz
  have h1 : allTo C N 1 = [] := by simp [allTo]
  refine wp_loopF (β := Nat × Value) (fun x f => #[f 0, .pointer (some ⟨X, 0, none⟩), .slice none 0 0, x.2, .int .u64 (x.1 : Int), f 5, f 6, f 7, f 8, f 9, f 10, f 11, f 12, f 13, f 14, f 15, f 16, f 17, f 18, f 19, f 20, f 21, f 22, f 23, f 24, f 25, f 26, f 27, f 28, f 29, f 30, f 31, f 32, f 33, f 34, f 35, f 36, f 37, f 38, f 39, f 40, f 41, f 42, f 43, f 44, f 45, f 46, f 47, f 48, f 49, f 50])
    (fun x ds W => 1 ≤ x.1 ∧ x.1 ≤ E ∧ ds = [] ∧ Below W0.heap.size W0 W ∧ W.ownsRow W0.heap.size 72 1 x.2 (allTo C N x.1).length (u64L (allTo C N x.1))) (fun x => E - x.1) (1, .slice none 0 0) rfl
    ⟨Nat.le_refl _, hE1, rfl, Below.refl _ _, by rw [h1]; exact World.ownsRow_nil _ _ _ _⟩ ?_
  clear h1
  rintro ⟨s, v⟩ f ds W ⟨hs1, hsE, rfl, hbW, hown⟩
  dsimp only at hs1 hsE hown ⊢
  have bW := hb0.trans (hbW.mono hb0.size)
  have hXW := hX0.below hbW hX0.lt
  have x0 := hXW.cell 0
  have x1 := hXW.cell 1
  have hinc : IntKind.u64.wrap ((s : Int) + 1) = ((s + 1 : Nat) : Int) := u64_wrap_nat (s + 1) (by omega)
  by_cases hlt : s < E
  · have HC1 := hideC (HCL.out W s bW)
    obtain ⟨q, hq⟩ : ∃ q, q = cloN C N s := ⟨_, rfl⟩
    rw [← hq] at HC1
    go_wp2_with fail
    refine HC1.out.mono ?_
    rintro e W1 ⟨rfl, hb1⟩
    have bW1 := bW.trans (hb1.mono bW.size)
    have hbW1 := hbW.trans (hb1.mono hbW.size)
    have hown1 := own_below hown hb1
    have hXW1 := hXW.below hb1 hXW.lt
    clear HC1 x0 x1 hown hXW hbW bW hb1
    have x0 := hXW1.cell 0
    have x1 := hXW1.cell 1
    by_cases hqs : q = s
    · subst hqs
      have HQ := Lib.hid hq
      clear hq
      have HC2 := hideC (HHV.out W1 q bW1)
      obtain ⟨r, hr⟩ : ∃ r, r = havN C N q := ⟨_, rfl⟩
      rw [← hr] at HC2
      have HR := Lib.hid hr
      clear hr
      go_wp2_with fail
      refine HC2.out.mono ?_
      rintro e W2 ⟨rfl, hb2⟩
      have bW2 := bW1.trans (hb2.mono bW1.size)
      have hbW2 := hbW1.trans (hb2.mono hbW1.size)
      have hown := own_below hown1 hb2
      clear HC2 x0 x1 hown1 hXW1 hbW1 bW1 hb2
      by_cases hr0 : r = 0
      · have hno : oneS C N q = false := by unfold oneS; rw [← HR.out, decide_eq_true hr0]; simp
        subst hr0
        have HNO := Lib.hid (allTo_no hno)
        clear hno
        go_wp2_with fail
        exact ⟨(q + 1, v), by first | rfl | (show _ = _; rw [← hinc]; rfl), ⟨by show 1 ≤ q + 1; omega, by show q + 1 ≤ E; omega, by first | rfl | trivial, hbW2, by rw [HNO.out]; exact hown⟩, by show E - (q + 1) < E - q; omega⟩
      · have hyes : oneS C N q = true := by unfold oneS; rw [← HR.out, ← HQ.out, decide_eq_true rfl, decide_eq_false hr0]; rfl
        have hall := fun i => allTo_yes (C := C) (Ns := N) (n := q) (i := i) (by omega) hyes
        have hlen := allTo_len C N q
        have hmem := fun x => (mem_allTo (C := C) (Ns := N) (s := x) q).1
        obtain ⟨L, hL⟩ : ∃ L, L = allTo C N q := ⟨_, rfl⟩
        rw [← hL] at hall hlen hmem hown
        have hrne : ((r : Int) == 0) = false := by rw [beq_eq_false_iff_ne]; omega
        have HALL := Lib.hid hall
        have HMEM := Lib.hid (fun x hx => (hmem x hx).1)
        clear hL hyes hall hmem
        obtain ⟨A1, cap1, rfl, hcap, hcm, hrow, -⟩ := row_of_own hown
        go_upto_block 2 with fail
        obtain ⟨W3, hW3⟩ : ∃ V, V = W2 := ⟨_, rfl⟩
        subst hW3
        refine wp_frame (fun g => #[g 0, .pointer (some ⟨X, 0, none⟩), .slice none 0 0, .slice A1 L.length cap1, .int .u64 (q : Int), .int .i64 0, g 6, g 7, g 8, g 9, g 10, g 11, g 12, g 13, g 14, g 15, g 16, g 17, g 18, g 19, g 20, g 21, g 22, g 23, g 24, g 25, g 26, g 27, g 28, g 29, g 30, g 31, g 32, g 33, g 34, g 35, g 36, g 37, g 38, g 39, g 40, g 41, g 42, g 43, g 44, g 45, g 46, g 47, g 48, g 49, g 50]) rfl fun g => ?_
        dsimp only
        go_cut [5] (fun s5 wx => ∃ i : Nat, s5 = .int .i64 (i : Int) ∧ i ≤ L.length ∧ preL q L i ∧ (∀ x, L[i]? = some x → lecR x q = false) ∧ Below W3.heap.size W3 wx)
        case first =>
          go_wp2_with fail
          refine wp_loopF (β := Nat) (fun i f => #[g 0, .pointer (some ⟨X, 0, none⟩), .slice none 0 0, .slice A1 L.length cap1, .int .u64 (q : Int), .int .i64 (i : Int), g 6, g 7, g 8, g 9, g 10, g 11, g 12, g 13, g 14, g 15, g 16, g 17, g 18, g 19, g 20, g 21, g 22, g 23, f 24, f 25, f 26, f 27, f 28, f 29, f 30, f 31, f 32, f 33, f 34, f 35, f 36, f 37, g 38, g 39, g 40, g 41, g 42, g 43, g 44, g 45, g 46, g 47, g 48, g 49, g 50])
            (fun i ds V => i ≤ L.length ∧ ds = [] ∧ Below W3.heap.size W3 V ∧ preL q L i) (fun i => L.length - i) 0 rfl ⟨Nat.zero_le _, rfl, Below.refl _ _, fun j x hj => by omega⟩ ?_
          rintro i f ds V ⟨hi, rfl, hbV, hpre⟩
          dsimp only at hi ⊢
          have HP := Lib.hid hpre
          clear hpre
          by_cases hlt2 : i < L.length
          · obtain ⟨t, ht⟩ : ∃ t, L[i]? = some t := ⟨_, List.getElem?_eq_getElem hlt2⟩
            have htq := HMEM.out t (List.mem_of_getElem? ht)
            obtain ⟨g1, o1, rfl, hg1, hc1⟩ := hrow (by rw [List.length_map]; omega)
            have d1 := onB hbV (hc1 i (.int .u64 (t : Int)) (by rw [List.getElem?_map, ht]; rfl))
            have hbf := before_ref t q (by omega) (by omega) V
            obtain ⟨lt, hlt3⟩ : ∃ b, b = lecR t q := ⟨_, rfl⟩
            rw [← hlt3] at hbf
            have HBF := hideC hbf
            have HT := Lib.hid ht
            clear hbf ht hc1
            cases lt with
            | true =>
              have hn : preL q L (i + 1) := fun j x hj hx => by
                by_cases e : j = i
                · subst e; rw [HT.out] at hx; cases hx; exact hlt3.symm
                · exact HP.out j x (by omega) hx
              have HN := Lib.hid hn
              clear hn hlt3
              go_wp2_with fail
              refine HBF.out.mono ?_
              rintro e V2 ⟨rfl, hb2⟩
              go_wp2_with fail
              exact ⟨i + 1, rfl, ⟨by omega, by first | rfl | trivial, hbV.trans (hb2.mono hbV.size), HN.out⟩, by omega⟩
            | false =>
              have HN := Lib.hid (fun x (hx : L[i]? = some x) => (by rw [HT.out] at hx; cases hx; exact hlt3.symm : lecR x q = false))
              clear hlt3
              go_wp2_with fail
              refine HBF.out.mono ?_
              rintro e V2 ⟨rfl, hb2⟩
              go_wp2_with fail
              go_meet
              exact ⟨i, rfl, by omega, HP.out, HN.out, hbV.trans (hb2.mono hbV.size)⟩
          · obtain rfl : i = L.length := by omega
            go_wp2_with fail
            go_meet
            exact ⟨L.length, rfl, by omega, HP.out, (fun x hx => by rw [List.getElem?_eq_none (Nat.le_refl _)] at hx; cases hx), hbV⟩
        case rest =>
          obtain ⟨i, rfl, hi, hpre, hstop, hbc⟩ := hcut
          have HFI := Lib.hid (HALL.out i hi hpre hstop)
          replace hbW2 := hbW2.trans (hbc.mono hbW2.size)
          replace bW2 := bW2.trans (hbc.mono bW2.size)
          replace hown := own_below hown hbc
          clear hpre hstop hrow hbc
          go_wp2_with fail
          have hdw : Below wc.heap.size wc wc.drew := (Below.refl _ _).drew
          refine wp_mix (fun V => Below wc.drew.heap.size wc.drew V) 13 (by kernel_rfl) (by kernel_rfl) (Below.refl _ _) ?_
          obtain ⟨wz, hwz⟩ : ∃ V, V = wc.drew := ⟨_, rfl⟩
          rw [← hwz] at hdw ⊢
          have rz := own_below hown hdw
          clear hwz hown
          obtain ⟨sz, hsz⟩ : ∃ n, n = wz.heap.size := ⟨_, rfl⟩
          have hr := Below.refl sz wz
          have hszle : sz ≤ wz.heap.size := by omega
          have hszc : wc.heap.size ≤ sz := by rw [hsz]; exact hdw.size
          rw [← hsz]
          have HSZ := Lib.hid hsz
          clear hsz
          rcases id rz.2 with ⟨hv, hlen0⟩ | ⟨g0', cap0, cur, hv, hgb, hB, -, -, -, -⟩
          · injection hv with hv1 hv2 hv3
            subst hv1; subst hv3
            have hL0 : L = [] := List.eq_nil_of_length_eq_zero hlen0
            subst hL0
            obtain rfl : i = 0 := by simpa using hi
            clear hv2 hlen0 hi
            (refine m_q 1 (v := ?_) (by kernel_rfl) rfl rfl (fun W hW => ?_) ?_; rotate_left; (go_simp; first | done | with_reducible rfl); simp only [Act.put, List.setIfInBounds_toArray, List.set_cons_zero, List.set_cons_succ]); (refine m_q 2 (v := ?_) (by kernel_rfl) rfl rfl (fun W hW => ?_) ?_; rotate_left; (go_simp; first | done | with_reducible rfl); simp only [Act.put, List.setIfInBounds_toArray, List.set_cons_zero, List.set_cons_succ]); (refine m_q 3 (v := ?_) (by kernel_rfl) rfl rfl (fun W hW => ?_) ?_; rotate_left; (go_simp; first | done | with_reducible rfl); simp only [Act.put, List.setIfInBounds_toArray, List.set_cons_zero, List.set_cons_succ]); (refine m_q 5 (v := ?_) (by kernel_rfl) rfl rfl (fun W hW => ?_) ?_; rotate_left; (go_simp; first | done | with_reducible rfl); simp only [Act.put, List.setIfInBounds_toArray, List.set_cons_zero, List.set_cons_succ]); (refine m_q 8 (v := ?_) (by kernel_rfl) rfl rfl (fun W hW => ?_) ?_; rotate_left; (go_simp; first | done | with_reducible rfl); simp only [Act.put, List.setIfInBounds_toArray, List.set_cons_zero, List.set_cons_succ]); (refine m_q 9 (v := ?_) (by kernel_rfl) rfl rfl (fun W hW => ?_) ?_; rotate_left; (go_simp; first | done | with_reducible rfl); simp only [Act.put, List.setIfInBounds_toArray, List.set_cons_zero, List.set_cons_succ]); (refine m_q 10 (v := ?_) (by kernel_rfl) rfl rfl (fun W hW => ?_) ?_; rotate_left; (go_simp; first | done | with_reducible rfl); simp only [Act.put, List.setIfInBounds_toArray, List.set_cons_zero, List.set_cons_succ])
            refine m_join (β := Value × Nat) #[true, true, true, true, true, true, true, false, true, true, true, false, false] 3
              (fun x f => #[f 0, .pointer (some ⟨X, 0, none⟩), .slice none 0 0, .slice none 0 0, .int .u64 (q : Int), f 5, f 6, f 7, f 8, f 9, f 10, f 11, f 12, f 13, f 14, f 15, f 16, f 17, f 18, f 19, f 20, f 21, f 22, f 23, f 24, f 25, f 26, f 27, f 28, f 29, f 30, f 31, f 32, f 33, f 34, f 35, f 36, f 37, f 38, f 39, f 40, f 41, x.1, f 43, .slice (some ⟨x.2, 0, none⟩) 1 1, f 45, f 46, f 47, .slice none 0 0, f 49, f 50])
              (fun x ds V => ds = [] ∧ Below sz wz V ∧ V.ownsRow sz 72 1 x.1 (0) ([]) ∧ Blk V x.2 72 #[.int .u64 (q : Int)] ∧ sz ≤ x.2) ?lf1 ?tr1
            case tr1 =>
              intro HL
              refine m_s2 0 6 (by kernel_rfl) rfl rfl ?_ ?_
              · go_wp2_with fail
                have sz_0 := Nat.le_trans hszle hr.size
                refine absN fun V0 B0 hb hz => ?_
                replace hr := hr.trans (hb.mono sz_0)
                obtain ⟨g0, hg0⟩ : ∃ g, g = wz.heap.size := ⟨_, rfl⟩
                rw [← hg0] at B0 sz_0 ⊢
                clear hb hz hg0
                have own0 := own_blk0 (base := sz) (size := 1) B0 sz_0
                have l0 := B0.lt
                refine m_keep hr ?_
                refine m_s2 4 6 (by kernel_rfl) rfl rfl ?_ ?_
                · go_wp2_with (at_builtin; refine wpList_append_own_none rfl _ _ 64 rfl sz 72 i0 1 Tryd.underlying64 hi0 _ _ _ rfl own0 rfl ?_)
                  refine m_keep hr ?_
                  refine m_s1 6 (by kernel_rfl) rfl ?_
                  go_wp2_with fail
                  have sz_6 := Nat.le_trans hszle hr.size
                  refine absN fun V6 B6 hb hz => ?_
                  replace hr := hr.trans (hb.mono sz_6)
                  have lo := l0
                  replace own0 := own_below own0 hb
                  obtain ⟨g6, hg6⟩ : ∃ g, g = V0.heap.size := ⟨_, rfl⟩
                  rw [← hg6] at B6 sz_6 ⊢
                  have n60 : g0 ≠ g6 := by omega
                  clear hb hz hg6
                  refine m_keep hr ?_
                  exact HL (.slice (some ⟨g0, 0, none⟩) 0 0, g6) _ _ _ (by kernel_rfl) rfl ⟨by first | rfl | trivial, hr, own0, B6, sz_6⟩
                · go_wp2_with fail
                  have sz_6 := Nat.le_trans hszle hr.size
                  refine absN fun V6 B6 hb hz => ?_
                  replace hr := hr.trans (hb.mono sz_6)
                  have lo := l0
                  replace own0 := own_below own0 hb
                  obtain ⟨g6, hg6⟩ : ∃ g, g = V0.heap.size := ⟨_, rfl⟩
                  rw [← hg6] at B6 sz_6 ⊢
                  have n60 : g0 ≠ g6 := by omega
                  clear hb hz hg6
                  refine m_keep hr ?_
                  refine m_s1 4 (by kernel_rfl) rfl ?_
                  go_wp2_with (at_builtin; refine wpList_append_own_none rfl _ _ 64 rfl sz 72 i0 1 Tryd.underlying64 hi0 _ _ _ rfl own0 rfl ?_)
                  refine m_keep hr ?_
                  exact HL (.slice (some ⟨g0, 0, none⟩) 0 0, g6) _ _ _ (by kernel_rfl) rfl ⟨by first | rfl | trivial, hr, own0, B6, sz_6⟩
              · go_wp2_with fail
                have sz_6 := Nat.le_trans hszle hr.size
                refine absN fun V6 B6 hb hz => ?_
                replace hr := hr.trans (hb.mono sz_6)
                obtain ⟨g6, hg6⟩ : ∃ g, g = wz.heap.size := ⟨_, rfl⟩
                rw [← hg6] at B6 sz_6 ⊢
                clear hb hz hg6
                refine m_keep hr ?_
                refine m_s1 0 (by kernel_rfl) rfl ?_
                go_wp2_with fail
                have sz_0 := Nat.le_trans hszle hr.size
                refine absN fun V0 B0 hb hz => ?_
                replace hr := hr.trans (hb.mono sz_0)
                have n6 : g6 < V6.heap.size := B6.lt
                replace B6 := B6.below hb B6.lt
                obtain ⟨g0, hg0⟩ : ∃ g, g = V6.heap.size := ⟨_, rfl⟩
                rw [← hg0] at B0 sz_0 ⊢
                have n60 : g0 ≠ g6 := by omega
                clear hb hz hg0
                have own0 := own_blk0 (base := sz) (size := 1) B0 sz_0
                have l0 := B0.lt
                refine m_keep hr ?_
                refine m_s1 4 (by kernel_rfl) rfl ?_
                go_wp2_with (at_builtin; refine wpList_append_own_none rfl _ _ 64 rfl sz 72 i0 1 Tryd.underlying64 hi0 _ _ _ rfl own0 rfl ?_)
                refine m_keep hr ?_
                exact HL (.slice (some ⟨g0, 0, none⟩) 0 0, g6) _ _ _ (by kernel_rfl) rfl ⟨by first | rfl | trivial, hr, own0, B6, sz_6⟩
            clear hr
            rintro ⟨v4, g6⟩ f ds V ⟨rfl, hr, hown4, B6, sz_6⟩
            dsimp only at hr hown4 B6 sz_6 ⊢
            have HS6 := hideC (World.news_of_block B6)
            have szv := Nat.le_trans hszle hr.size
            refine m_s1 7 (by kernel_rfl) rfl ?_
            go_wp2_with (at_builtin; refine wpList_append_own _ rfl _ _ 64 rfl sz 72 i0 (.int .u64 0) 1 8 Tryd.underlying64 hi0 hz0 hz1 hz2 rfl (by decide) _ _ _ rfl hown4 ⟨g6, 0, none⟩ (1) (1) ([.int .u64 (q : Int)]) rfl (rfl) HS6.out (by intro u hu; simp at hu; subst hu; rfl) (by unfold maxLen; omega) (by omega) (by first | omega | (simp; done) | (simp; omega)) ?_; intro v5 W5 hown5 hgrow5 _)
            replace hr := hr.grown hgrow5 (by omega) (fun q hq => (hown4.lt q hq).1)
            refine m_keep hr ?_
            refine m_s1 11 (by kernel_rfl) rfl ?_
            go_wp2_with (at_builtin; refine wpList_append_own_none rfl _ _ 64 rfl sz 72 i0 1 Tryd.underlying64 hi0 _ _ _ rfl hown5 rfl ?_)
            refine m_keep hr ?_
            refine m_s1 12 (by kernel_rfl) rfl ?_
            go_wp2_with fail
            refine m_keep hr ?_
            refine m_end (by kernel_rfl) ?_
            go_wp2_with fail
            exact ⟨(q + 1, v5), by first | rfl | (show _ = _; rw [← hinc]; rfl), ⟨by show 1 ≤ q + 1; omega, by show q + 1 ≤ E; omega, by first | rfl | trivial, hbW2.trans ((hdw.trans (hr.mono hszc)).mono hbW2.size), by rw [HFI.out]; exact own_ins hown5 (by simp) (Nat.le_trans hbW2.size hszc)⟩, by show E - (q + 1) < E - q; omega⟩
          · injection hv with hv1 hv2 hv3
            subst hv1
            clear hv2 hv3
            obtain ⟨gq, hgq⟩ : ∃ x, x = g0' := ⟨_, rfl⟩
            subst hgq
            obtain ⟨cap, hcap'⟩ : ∃ x, x = cap1 := ⟨_, rfl⟩
            subst hcap'
            have hcell : ∀ V, Below sz wz V → ∀ (k : Nat) u, (u64L L)[k]? = some u → V.cell? ⟨gq, 0 + k, none⟩ = some u := by
              obtain ⟨_, _, e9, _, _, hrw, _⟩ := row_of_own rz
              intro V hV k u hu
              obtain ⟨g9, o9, e8, hg9, hc9⟩ := (hrw.below (by rw [← HSZ.out]; exact hV)) (by have := (List.getElem?_eq_some_iff.1 hu).1; omega)
              cases e9; cases e8
              exact hc9 k u hu
            clear hgb hB
            have hic : i ≤ cap := by omega
            have e13 : (i : Int) ≤ (L.length : Int) := by omega
            have e14 : (0 : Int) ≤ (i : Int) := by omega
            have e15 : (i : Int) ≤ (cap : Int) := by omega
            by_cases hci : i = cap
            · subst hci
              (refine m_q 1 (v := ?_) (by kernel_rfl) rfl rfl (fun W hW => ?_) ?_; rotate_left; (go_simp; first | done | with_reducible rfl); simp only [Act.put, List.setIfInBounds_toArray, List.set_cons_zero, List.set_cons_succ]); (refine m_q 2 (v := ?_) (by kernel_rfl) rfl rfl (fun W hW => ?_) ?_; rotate_left; (go_simp; first | done | with_reducible rfl); simp only [Act.put, List.setIfInBounds_toArray, List.set_cons_zero, List.set_cons_succ]); (refine m_q 3 (v := ?_) (by kernel_rfl) rfl rfl (fun W hW => ?_) ?_; rotate_left; (go_simp; first | done | with_reducible rfl); simp only [Act.put, List.setIfInBounds_toArray, List.set_cons_zero, List.set_cons_succ]); (refine m_q 5 (v := ?_) (by kernel_rfl) rfl rfl (fun W hW => ?_) ?_; rotate_left; (go_simp; first | done | with_reducible rfl); simp only [Act.put, List.setIfInBounds_toArray, List.set_cons_zero, List.set_cons_succ]); (refine m_q 8 (v := ?_) (by kernel_rfl) rfl rfl (fun W hW => ?_) ?_; rotate_left; (go_simp; first | done | with_reducible rfl); simp only [Act.put, List.setIfInBounds_toArray, List.set_cons_zero, List.set_cons_succ]); (refine m_q 9 (v := ?_) (by kernel_rfl) rfl rfl (fun W hW => ?_) ?_; rotate_left; (go_simp; first | done | with_reducible rfl); simp only [Act.put, List.setIfInBounds_toArray, List.set_cons_zero, List.set_cons_succ]); (refine m_q 10 (v := ?_) (by kernel_rfl) rfl rfl (fun W hW => ?_) ?_; rotate_left; (go_simp; first | done | with_reducible rfl); simp only [Act.put, List.setIfInBounds_toArray, List.set_cons_zero, List.set_cons_succ])
              refine m_join (β := Value × Nat) #[true, true, true, true, true, true, true, false, true, true, true, false, false] 3
                (fun x f => #[f 0, .pointer (some ⟨X, 0, none⟩), .slice none 0 0, .slice (some ⟨gq, 0, none⟩) L.length i, .int .u64 (q : Int), f 5, f 6, f 7, f 8, f 9, f 10, f 11, f 12, f 13, f 14, f 15, f 16, f 17, f 18, f 19, f 20, f 21, f 22, f 23, f 24, f 25, f 26, f 27, f 28, f 29, f 30, f 31, f 32, f 33, f 34, f 35, f 36, f 37, f 38, f 39, f 40, f 41, x.1, f 43, .slice (some ⟨x.2, 0, none⟩) 1 1, f 45, f 46, f 47, .slice (some ⟨gq, 0, none⟩) 0 0, f 49, f 50])
                (fun x ds V => ds = [] ∧ Below sz wz V ∧ V.ownsRow sz 72 1 x.1 (i) ((u64L L).take i) ∧ Blk V x.2 72 #[.int .u64 (q : Int)] ∧ sz ≤ x.2) ?lf2 ?tr2
              case tr2 =>
                intro HL
                refine m_s2 0 6 (by kernel_rfl) rfl rfl ?_ ?_
                · go_wp2_with fail
                  have sz_0 := Nat.le_trans hszle hr.size
                  refine absN fun V0 B0 hb hz => ?_
                  replace hr := hr.trans (hb.mono sz_0)
                  obtain ⟨g0, hg0⟩ : ∃ g, g = wz.heap.size := ⟨_, rfl⟩
                  rw [← hg0] at B0 sz_0 ⊢
                  clear hb hz hg0
                  have own0 := own_blk0 (base := sz) (size := 1) B0 sz_0
                  have l0 := B0.lt
                  refine m_keep hr ?_
                  refine m_s2 4 6 (by kernel_rfl) rfl rfl ?_ ?_
                  · have HS1 := hideC (news_take (hcell V0 hr) i)
                    have sz1 := Nat.le_trans hszle hr.size
                    go_wp2_with (at_builtin; refine wpList_append_own _ rfl _ _ 64 rfl sz 72 i0 (.int .u64 0) 1 8 Tryd.underlying64 hi0 hz0 hz1 hz2 rfl (by decide) _ _ _ rfl own0 ⟨gq, 0, none⟩ (i) (i) ((u64L L).take i) rfl (by rw [List.length_take, u64L_len]; omega) HS1.out (fun u hu => u64L_one L u (List.mem_of_mem_take hu)) (by unfold maxLen; omega) (by omega) (by first | omega | (simp; done) | (simp; omega)) ?_; intro v1 V1 hown1 hgrow1 _)
                    rw [List.nil_append, Nat.zero_add] at hown1
                    replace hr := hr.grown hgrow1 (by omega) (fun q hq => (own0.lt q hq).1)
                    refine m_keep hr ?_
                    refine m_s1 6 (by kernel_rfl) rfl ?_
                    have lo1 := fun q hq => (hown1.lt q hq).2
                    go_wp2_with fail
                    have sz_6 := Nat.le_trans hszle hr.size
                    refine absN fun V6 B6 hb hz => ?_
                    replace hr := hr.trans (hb.mono sz_6)
                    have lo := lo1
                    replace hown1 := own_below hown1 hb
                    obtain ⟨g6, hg6⟩ : ∃ g, g = V1.heap.size := ⟨_, rfl⟩
                    rw [← hg6] at B6 sz_6 ⊢
                    clear hb hz hg6
                    refine m_keep hr ?_
                    exact HL (v1, g6) _ _ _ (by kernel_rfl) rfl ⟨by first | rfl | trivial, hr, hown1, B6, sz_6⟩
                  · go_wp2_with fail
                    have sz_6 := Nat.le_trans hszle hr.size
                    refine absN fun V6 B6 hb hz => ?_
                    replace hr := hr.trans (hb.mono sz_6)
                    have lo := l0
                    replace own0 := own_below own0 hb
                    obtain ⟨g6, hg6⟩ : ∃ g, g = V0.heap.size := ⟨_, rfl⟩
                    rw [← hg6] at B6 sz_6 ⊢
                    have n60 : g0 ≠ g6 := by omega
                    clear hb hz hg6
                    refine m_keep hr ?_
                    refine m_s1 4 (by kernel_rfl) rfl ?_
                    have l6 := B6.lt
                    have HS1 := hideC (news_take (hcell V6 hr) i)
                    have sz1 := Nat.le_trans hszle hr.size
                    go_wp2_with (at_builtin; refine wpList_append_own _ rfl _ _ 64 rfl sz 72 i0 (.int .u64 0) 1 8 Tryd.underlying64 hi0 hz0 hz1 hz2 rfl (by decide) _ _ _ rfl own0 ⟨gq, 0, none⟩ (i) (i) ((u64L L).take i) rfl (by rw [List.length_take, u64L_len]; omega) HS1.out (fun u hu => u64L_one L u (List.mem_of_mem_take hu)) (by unfold maxLen; omega) (by omega) (by first | omega | (simp; done) | (simp; omega)) ?_; intro v1 V1 hown1 hgrow1 _)
                    rw [List.nil_append, Nat.zero_add] at hown1
                    replace B6 : Blk V1 g6 72 #[.int .u64 (q : Int)] := (hgrow1.block g6 B6.lt (by intro e; injection e with e; exact n60 e.symm)).trans B6
                    replace hr := hr.grown hgrow1 (by omega) (fun q hq => (own0.lt q hq).1)
                    refine m_keep hr ?_
                    exact HL (v1, g6) _ _ _ (by kernel_rfl) rfl ⟨by first | rfl | trivial, hr, hown1, B6, sz_6⟩
                · go_wp2_with fail
                  have sz_6 := Nat.le_trans hszle hr.size
                  refine absN fun V6 B6 hb hz => ?_
                  replace hr := hr.trans (hb.mono sz_6)
                  obtain ⟨g6, hg6⟩ : ∃ g, g = wz.heap.size := ⟨_, rfl⟩
                  rw [← hg6] at B6 sz_6 ⊢
                  clear hb hz hg6
                  refine m_keep hr ?_
                  refine m_s1 0 (by kernel_rfl) rfl ?_
                  go_wp2_with fail
                  have sz_0 := Nat.le_trans hszle hr.size
                  refine absN fun V0 B0 hb hz => ?_
                  replace hr := hr.trans (hb.mono sz_0)
                  have n6 : g6 < V6.heap.size := B6.lt
                  replace B6 := B6.below hb B6.lt
                  obtain ⟨g0, hg0⟩ : ∃ g, g = V6.heap.size := ⟨_, rfl⟩
                  rw [← hg0] at B0 sz_0 ⊢
                  have n60 : g0 ≠ g6 := by omega
                  clear hb hz hg0
                  have own0 := own_blk0 (base := sz) (size := 1) B0 sz_0
                  have l0 := B0.lt
                  refine m_keep hr ?_
                  refine m_s1 4 (by kernel_rfl) rfl ?_
                  have HS1 := hideC (news_take (hcell V0 hr) i)
                  have sz1 := Nat.le_trans hszle hr.size
                  go_wp2_with (at_builtin; refine wpList_append_own _ rfl _ _ 64 rfl sz 72 i0 (.int .u64 0) 1 8 Tryd.underlying64 hi0 hz0 hz1 hz2 rfl (by decide) _ _ _ rfl own0 ⟨gq, 0, none⟩ (i) (i) ((u64L L).take i) rfl (by rw [List.length_take, u64L_len]; omega) HS1.out (fun u hu => u64L_one L u (List.mem_of_mem_take hu)) (by unfold maxLen; omega) (by omega) (by first | omega | (simp; done) | (simp; omega)) ?_; intro v1 V1 hown1 hgrow1 _)
                  rw [List.nil_append, Nat.zero_add] at hown1
                  replace B6 : Blk V1 g6 72 #[.int .u64 (q : Int)] := (hgrow1.block g6 B6.lt (by intro e; injection e with e; exact n60 e.symm)).trans B6
                  replace hr := hr.grown hgrow1 (by omega) (fun q hq => (own0.lt q hq).1)
                  refine m_keep hr ?_
                  exact HL (v1, g6) _ _ _ (by kernel_rfl) rfl ⟨by first | rfl | trivial, hr, hown1, B6, sz_6⟩
              clear hr
              rintro ⟨v4, g6⟩ f ds V ⟨rfl, hr, hown4, B6, sz_6⟩
              dsimp only at hr hown4 B6 sz_6 ⊢
              have HS6 := hideC (World.news_of_block B6)
              have szv := Nat.le_trans hszle hr.size
              refine m_s1 7 (by kernel_rfl) rfl ?_
              go_wp2_with (at_builtin; refine wpList_append_own _ rfl _ _ 64 rfl sz 72 i0 (.int .u64 0) 1 8 Tryd.underlying64 hi0 hz0 hz1 hz2 rfl (by decide) _ _ _ rfl hown4 ⟨g6, 0, none⟩ (1) (1) ([.int .u64 (q : Int)]) rfl (rfl) HS6.out (by intro u hu; simp at hu; subst hu; rfl) (by unfold maxLen; omega) (by omega) (by first | omega | (simp; done) | (simp; omega)) ?_; intro v5 W5 hown5 hgrow5 _)
              replace hr := hr.grown hgrow5 (by omega) (fun q hq => (hown4.lt q hq).1)
              refine m_keep hr ?_
              refine m_s1 11 (by kernel_rfl) rfl ?_
              have HS2 := hideC (news_drop (hcell W5 hr) i)
              have sz5 := Nat.le_trans hszle hr.size
              rw [Nat.zero_add] at HS2
              go_wp2_with (at_builtin; refine wpList_append_own _ rfl _ _ 64 rfl sz 72 i0 (.int .u64 0) 1 8 Tryd.underlying64 hi0 hz0 hz1 hz2 rfl (by decide) _ _ _ rfl hown5 ⟨gq, 0, none⟩ (0) (0) ([]) rfl (rfl) (fun j u hu => by simp at hu) (by simp) (by unfold maxLen; omega) (by omega) (by first | omega | (simp; done) | (simp; omega)) ?_; intro v6 W6 hown6 hgrow6 _)
              replace hr := hr.grown hgrow6 (by omega) (fun q hq => (hown5.lt q hq).1)
              refine m_keep hr ?_
              refine m_s1 12 (by kernel_rfl) rfl ?_
              go_wp2_with fail
              refine m_keep hr ?_
              refine m_end (by kernel_rfl) ?_
              go_wp2_with fail
              exact ⟨(q + 1, v6), by first | rfl | (show _ = _; rw [← hinc]; rfl), ⟨by show 1 ≤ q + 1; omega, by show q + 1 ≤ E; omega, by first | rfl | trivial, hbW2.trans ((hdw.trans (hr.mono hszc)).mono hbW2.size), by rw [HFI.out]; exact own_ins hown6 (by rw [show L.drop i = [] from List.drop_eq_nil_of_le (by omega)]; simp [List.map_take]) (Nat.le_trans hbW2.size hszc)⟩, by show E - (q + 1) < E - q; omega⟩
            · (refine m_q 1 (v := ?_) (by kernel_rfl) rfl rfl (fun W hW => ?_) ?_; rotate_left; (go_simp; first | done | with_reducible rfl); simp only [Act.put, List.setIfInBounds_toArray, List.set_cons_zero, List.set_cons_succ]); (refine m_q 2 (v := ?_) (by kernel_rfl) rfl rfl (fun W hW => ?_) ?_; rotate_left; (go_simp; first | done | with_reducible rfl); simp only [Act.put, List.setIfInBounds_toArray, List.set_cons_zero, List.set_cons_succ]); (refine m_q 3 (v := ?_) (by kernel_rfl) rfl rfl (fun W hW => ?_) ?_; rotate_left; (go_simp; first | done | with_reducible rfl); simp only [Act.put, List.setIfInBounds_toArray, List.set_cons_zero, List.set_cons_succ]); (refine m_q 5 (v := ?_) (by kernel_rfl) rfl rfl (fun W hW => ?_) ?_; rotate_left; (go_simp; first | done | with_reducible rfl); simp only [Act.put, List.setIfInBounds_toArray, List.set_cons_zero, List.set_cons_succ]); (refine m_q 8 (v := ?_) (by kernel_rfl) rfl rfl (fun W hW => ?_) ?_; rotate_left; (go_simp; first | done | with_reducible rfl); simp only [Act.put, List.setIfInBounds_toArray, List.set_cons_zero, List.set_cons_succ]); (refine m_q 9 (v := ?_) (by kernel_rfl) rfl rfl (fun W hW => ?_) ?_; rotate_left; (go_simp; first | done | with_reducible rfl); simp only [Act.put, List.setIfInBounds_toArray, List.set_cons_zero, List.set_cons_succ]); (refine m_q 10 (v := ?_) (by kernel_rfl) rfl rfl (fun W hW => ?_) ?_; rotate_left; (go_simp; first | done | with_reducible rfl); simp only [Act.put, List.setIfInBounds_toArray, List.set_cons_zero, List.set_cons_succ])
              refine m_join (β := Value × Nat) #[true, true, true, true, true, true, true, false, true, true, true, false, false] 3
                (fun x f => #[f 0, .pointer (some ⟨X, 0, none⟩), .slice none 0 0, .slice (some ⟨gq, 0, none⟩) L.length cap, .int .u64 (q : Int), f 5, f 6, f 7, f 8, f 9, f 10, f 11, f 12, f 13, f 14, f 15, f 16, f 17, f 18, f 19, f 20, f 21, f 22, f 23, f 24, f 25, f 26, f 27, f 28, f 29, f 30, f 31, f 32, f 33, f 34, f 35, f 36, f 37, f 38, f 39, f 40, f 41, x.1, f 43, .slice (some ⟨x.2, 0, none⟩) 1 1, f 45, f 46, f 47, .slice (some ⟨gq, i, none⟩) (L.length - i) (cap - i), f 49, f 50])
                (fun x ds V => ds = [] ∧ Below sz wz V ∧ V.ownsRow sz 72 1 x.1 (i) ((u64L L).take i) ∧ Blk V x.2 72 #[.int .u64 (q : Int)] ∧ sz ≤ x.2) ?lf3 ?tr3
              case tr3 =>
                intro HL
                refine m_s2 0 6 (by kernel_rfl) rfl rfl ?_ ?_
                · go_wp2_with fail
                  have sz_0 := Nat.le_trans hszle hr.size
                  refine absN fun V0 B0 hb hz => ?_
                  replace hr := hr.trans (hb.mono sz_0)
                  obtain ⟨g0, hg0⟩ : ∃ g, g = wz.heap.size := ⟨_, rfl⟩
                  rw [← hg0] at B0 sz_0 ⊢
                  clear hb hz hg0
                  have own0 := own_blk0 (base := sz) (size := 1) B0 sz_0
                  have l0 := B0.lt
                  refine m_keep hr ?_
                  refine m_s2 4 6 (by kernel_rfl) rfl rfl ?_ ?_
                  · have HS1 := hideC (news_take (hcell V0 hr) i)
                    have sz1 := Nat.le_trans hszle hr.size
                    go_wp2_with (at_builtin; refine wpList_append_own _ rfl _ _ 64 rfl sz 72 i0 (.int .u64 0) 1 8 Tryd.underlying64 hi0 hz0 hz1 hz2 rfl (by decide) _ _ _ rfl own0 ⟨gq, 0, none⟩ (i) (cap) ((u64L L).take i) rfl (by rw [List.length_take, u64L_len]; omega) HS1.out (fun u hu => u64L_one L u (List.mem_of_mem_take hu)) (by unfold maxLen; omega) (by omega) (by first | omega | (simp; done) | (simp; omega)) ?_; intro v1 V1 hown1 hgrow1 _)
                    rw [List.nil_append, Nat.zero_add] at hown1
                    replace hr := hr.grown hgrow1 (by omega) (fun q hq => (own0.lt q hq).1)
                    refine m_keep hr ?_
                    refine m_s1 6 (by kernel_rfl) rfl ?_
                    have lo1 := fun q hq => (hown1.lt q hq).2
                    go_wp2_with fail
                    have sz_6 := Nat.le_trans hszle hr.size
                    refine absN fun V6 B6 hb hz => ?_
                    replace hr := hr.trans (hb.mono sz_6)
                    have lo := lo1
                    replace hown1 := own_below hown1 hb
                    obtain ⟨g6, hg6⟩ : ∃ g, g = V1.heap.size := ⟨_, rfl⟩
                    rw [← hg6] at B6 sz_6 ⊢
                    clear hb hz hg6
                    refine m_keep hr ?_
                    exact HL (v1, g6) _ _ _ (by kernel_rfl) rfl ⟨by first | rfl | trivial, hr, hown1, B6, sz_6⟩
                  · go_wp2_with fail
                    have sz_6 := Nat.le_trans hszle hr.size
                    refine absN fun V6 B6 hb hz => ?_
                    replace hr := hr.trans (hb.mono sz_6)
                    have lo := l0
                    replace own0 := own_below own0 hb
                    obtain ⟨g6, hg6⟩ : ∃ g, g = V0.heap.size := ⟨_, rfl⟩
                    rw [← hg6] at B6 sz_6 ⊢
                    have n60 : g0 ≠ g6 := by omega
                    clear hb hz hg6
                    refine m_keep hr ?_
                    refine m_s1 4 (by kernel_rfl) rfl ?_
                    have l6 := B6.lt
                    have HS1 := hideC (news_take (hcell V6 hr) i)
                    have sz1 := Nat.le_trans hszle hr.size
                    go_wp2_with (at_builtin; refine wpList_append_own _ rfl _ _ 64 rfl sz 72 i0 (.int .u64 0) 1 8 Tryd.underlying64 hi0 hz0 hz1 hz2 rfl (by decide) _ _ _ rfl own0 ⟨gq, 0, none⟩ (i) (cap) ((u64L L).take i) rfl (by rw [List.length_take, u64L_len]; omega) HS1.out (fun u hu => u64L_one L u (List.mem_of_mem_take hu)) (by unfold maxLen; omega) (by omega) (by first | omega | (simp; done) | (simp; omega)) ?_; intro v1 V1 hown1 hgrow1 _)
                    rw [List.nil_append, Nat.zero_add] at hown1
                    replace B6 : Blk V1 g6 72 #[.int .u64 (q : Int)] := (hgrow1.block g6 B6.lt (by intro e; injection e with e; exact n60 e.symm)).trans B6
                    replace hr := hr.grown hgrow1 (by omega) (fun q hq => (own0.lt q hq).1)
                    refine m_keep hr ?_
                    exact HL (v1, g6) _ _ _ (by kernel_rfl) rfl ⟨by first | rfl | trivial, hr, hown1, B6, sz_6⟩
                · go_wp2_with fail
                  have sz_6 := Nat.le_trans hszle hr.size
                  refine absN fun V6 B6 hb hz => ?_
                  replace hr := hr.trans (hb.mono sz_6)
                  obtain ⟨g6, hg6⟩ : ∃ g, g = wz.heap.size := ⟨_, rfl⟩
                  rw [← hg6] at B6 sz_6 ⊢
                  clear hb hz hg6
                  refine m_keep hr ?_
                  refine m_s1 0 (by kernel_rfl) rfl ?_
                  go_wp2_with fail
                  have sz_0 := Nat.le_trans hszle hr.size
                  refine absN fun V0 B0 hb hz => ?_
                  replace hr := hr.trans (hb.mono sz_0)
                  have n6 : g6 < V6.heap.size := B6.lt
                  replace B6 := B6.below hb B6.lt
                  obtain ⟨g0, hg0⟩ : ∃ g, g = V6.heap.size := ⟨_, rfl⟩
                  rw [← hg0] at B0 sz_0 ⊢
                  have n60 : g0 ≠ g6 := by omega
                  clear hb hz hg0
                  have own0 := own_blk0 (base := sz) (size := 1) B0 sz_0
                  have l0 := B0.lt
                  refine m_keep hr ?_
                  refine m_s1 4 (by kernel_rfl) rfl ?_
                  have HS1 := hideC (news_take (hcell V0 hr) i)
                  have sz1 := Nat.le_trans hszle hr.size
                  go_wp2_with (at_builtin; refine wpList_append_own _ rfl _ _ 64 rfl sz 72 i0 (.int .u64 0) 1 8 Tryd.underlying64 hi0 hz0 hz1 hz2 rfl (by decide) _ _ _ rfl own0 ⟨gq, 0, none⟩ (i) (cap) ((u64L L).take i) rfl (by rw [List.length_take, u64L_len]; omega) HS1.out (fun u hu => u64L_one L u (List.mem_of_mem_take hu)) (by unfold maxLen; omega) (by omega) (by first | omega | (simp; done) | (simp; omega)) ?_; intro v1 V1 hown1 hgrow1 _)
                  rw [List.nil_append, Nat.zero_add] at hown1
                  replace B6 : Blk V1 g6 72 #[.int .u64 (q : Int)] := (hgrow1.block g6 B6.lt (by intro e; injection e with e; exact n60 e.symm)).trans B6
                  replace hr := hr.grown hgrow1 (by omega) (fun q hq => (own0.lt q hq).1)
                  refine m_keep hr ?_
                  exact HL (v1, g6) _ _ _ (by kernel_rfl) rfl ⟨by first | rfl | trivial, hr, hown1, B6, sz_6⟩
              clear hr
              rintro ⟨v4, g6⟩ f ds V ⟨rfl, hr, hown4, B6, sz_6⟩
              dsimp only at hr hown4 B6 sz_6 ⊢
              have HS6 := hideC (World.news_of_block B6)
              have szv := Nat.le_trans hszle hr.size
              refine m_s1 7 (by kernel_rfl) rfl ?_
              go_wp2_with (at_builtin; refine wpList_append_own _ rfl _ _ 64 rfl sz 72 i0 (.int .u64 0) 1 8 Tryd.underlying64 hi0 hz0 hz1 hz2 rfl (by decide) _ _ _ rfl hown4 ⟨g6, 0, none⟩ (1) (1) ([.int .u64 (q : Int)]) rfl (rfl) HS6.out (by intro u hu; simp at hu; subst hu; rfl) (by unfold maxLen; omega) (by omega) (by first | omega | (simp; done) | (simp; omega)) ?_; intro v5 W5 hown5 hgrow5 _)
              replace hr := hr.grown hgrow5 (by omega) (fun q hq => (hown4.lt q hq).1)
              refine m_keep hr ?_
              refine m_s1 11 (by kernel_rfl) rfl ?_
              have HS2 := hideC (news_drop (hcell W5 hr) i)
              have sz5 := Nat.le_trans hszle hr.size
              rw [Nat.zero_add] at HS2
              go_wp2_with (at_builtin; refine wpList_append_own _ rfl _ _ 64 rfl sz 72 i0 (.int .u64 0) 1 8 Tryd.underlying64 hi0 hz0 hz1 hz2 rfl (by decide) _ _ _ rfl hown5 ⟨gq, i, none⟩ (L.length - i) (cap - i) ((u64L L).drop i) rfl (by rw [List.length_drop, u64L_len]; omega) HS2.out (fun u hu => u64L_one L u (List.mem_of_mem_drop hu)) (by unfold maxLen; omega) (by omega) (by first | omega | (simp; done) | (simp; omega)) ?_; intro v6 W6 hown6 hgrow6 _)
              replace hr := hr.grown hgrow6 (by omega) (fun q hq => (hown5.lt q hq).1)
              refine m_keep hr ?_
              refine m_s1 12 (by kernel_rfl) rfl ?_
              go_wp2_with fail
              refine m_keep hr ?_
              refine m_end (by kernel_rfl) ?_
              go_wp2_with fail
              exact ⟨(q + 1, v6), by first | rfl | (show _ = _; rw [← hinc]; rfl), ⟨by show 1 ≤ q + 1; omega, by show q + 1 ≤ E; omega, by first | rfl | trivial, hbW2.trans ((hdw.trans (hr.mono hszc)).mono hbW2.size), by rw [HFI.out]; exact own_ins hown6 (by simp [List.map_take, List.map_drop]) (Nat.le_trans hbW2.size hszc)⟩, by show E - (q + 1) < E - q; omega⟩
    · have hno : oneS C N s = false := by unfold oneS; rw [← hq, decide_eq_false hqs]; rfl
      have HNO := Lib.hid (allTo_no hno)
      have hne : ((q : Int) != (s : Int)) = true := by rw [bne_iff_ne]; omega
      clear hno hq
      go_wp2_with fail
      exact ⟨(s + 1, v), by first | rfl | (show _ = _; rw [← hinc]; rfl), ⟨by show 1 ≤ s + 1; omega, by show s + 1 ≤ E; omega, by first | rfl | trivial, hbW1, by rw [HNO.out]; exact hown1⟩, by show E - (s + 1) < E - s; omega⟩
  · obtain rfl : s = E := by omega
    go_wp2_with fail
    go_ret
    exact ⟨v, rfl, own_low hown hb0.size, bW⟩
end Mix2
end Go.Proofs.YtgpooflcbljidaaDoor

