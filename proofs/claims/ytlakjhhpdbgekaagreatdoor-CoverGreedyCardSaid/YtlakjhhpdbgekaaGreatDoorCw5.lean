import Derived.Test.YtlakjhhpdbgekaaGreatDoorCw4
import Derived.Test.YtlakjhhpdbgekaaGreatDoorCw1
/-
  The reference of chapter 48: Add, choose, Minimal.
-/
namespace Go.Proofs.YtlakjhhpdbgekaaGreatDoor
open Go.RowKit

/-- What Add fills in. -/
def addF (D : List (List Bool)) (X s i j : Nat) : Bool := mget D i j || (X.testBit i && s.testBit j)
set_option maxRecDepth 100000 in
set_option maxHeartbeats 4000000 in
theorem addr_own (C : Nat) (B : Option Addr) (d : Nat) (D : List (List Bool)) (X s : Nat) (w : World) (h : IsRef w C B D) (hC6 : C ≤ 60) (hR6 : D.length ≤ 60) :
    Calls Tryz.prog 69 #[refV C B D.length d, .agg #[.int .u64 (X : Int), .int .u64 (s : Int)]] w fun e w' => ∃ A' c', e = .returned (refV C A' D.length c') ∧ TRef w' C A' c' (mat D.length C (addF D X s)) ∧ Below w.heap.size w w' := by
  have hC : C ≤ 4096 := h.1
  have hR : D.length ≤ 4096 := h.2.1
  go_enter Tryz.func69, Tryz.ntmps69
  go_wp2_with fail
  refine absC3 fun W0 hX0 hS0 hY0 hbel0 hz0 => ?_
  refine (newr_any D.length C W0 hR hC).mono ?_
  rintro e w1 ⟨A1, c1, gs, rfl, hgs, hO1, hb1⟩
  have hX1 := hX0.below hb1 hX0.lt
  have x1 := hX1.cell 1
  have lX := hX1.lt
  go_wp2_with fail
  refine abs1 fun W2 hM2 hb2 hz2 => ?_
  clear x1
  have hX2 := hX1.below hb2 lX
  have hS2 := (hS0.below hb1 hS0.lt).below hb2 (by have := hb1.size; omega)
  have hY2 := (hY0.below hb1 hY0.lt).below hb2 (by have := hb1.size; omega)
  have hbe2 : Below w.heap.size w W2 := hbel0.trans ((hb1.trans (hb2.mono hb1.size)).mono (by omega))
  have hsz1 : w.heap.size + 3 ≤ w1.heap.size := by have := hb1.size; omega
  have hbase : w.heap.size ≤ W0.heap.size := by omega
  have hF2 := Fill.start (hO1.below hb2) hbe2
  have HGS := Lib.hid hgs
  clear hz2 hz0 hX0 hS0 hY0 hO1 hbel0 hb1 hb2 hX1 hgs
  go_loopw [17] (fun i wr => ∃ k : Nat, k ≤ D.length ∧ i = .int .i64 k ∧ Fill w W2 wr W0.heap.size C (.slice A1 D.length c1) gs (part k 0 (addF D X s))) (fun i _ => D.length - (intOf i).toNat)
  case atStart => exact ⟨0, Nat.zero_le _, rfl, by rw [part_zero]; exact hF2⟩
  case round =>
    obtain ⟨k, hk, rfl, hF⟩ := hrel
    clear hF2
    by_cases hlt : k < D.length
    · have hX := hF.blk hX2 (by decide)
      have m0 := hX.cell 0
      go_wp2_with fail
      obtain ⟨wo, rfl⟩ : ∃ wo : World, wo = wr := ⟨_, rfl⟩
      go_loopw [7] (fun j wq => ∃ n : Nat, n ≤ C ∧ j = .int .i64 n ∧ Fill w W2 wq W0.heap.size C (.slice A1 D.length c1) gs (part k n (addF D X s))) (fun j _ => C - (intOf j).toNat)
      case atStart => exact ⟨0, Nat.zero_le _, rfl, hF⟩
      case round =>
        clear hF hX m0
        obtain ⟨n, hn, rfl, hF⟩ := hrel
        have hM := hF.blk hM2 (by decide)
        have hX := hF.blk hX2 (by decide)
        have hS := hF.blk hS2 (by decide)
        have m1 := hM.cell 1
        have x0 := hX.cell 0
        have x1 := hX.cell 1
        have s0 := hS.cell 0
        have s1 := hS.cell 1
        by_cases hnC : n < C
        · have hkg : k < gs.length := by rw [HGS.out]; exact hlt
          obtain ⟨g, off, rfl, hg, h1, b0, f0, lg⟩ := hF.at_ HGS.out hkg hnC
          have hSt := (hF.store hbase hkg (j := n) (addF D X s k n)).drew
          rw [part_step] at hSt
          obtain ⟨ga, oa, gb, ob, db, rfl, hga, hgb, ca, cb⟩ := (h.below hF.below).at_ hlt hnC
          generalize gs[k] = gk at *
          have hexp : addF D X s k n = (mget D k n || (X.testBit k && s.testBit n)) := rfl
          rw [hexp] at hSt
          have ex := tmod_form X k
          have es := tmod_form s n
          clear hF hM hX hS h hexp
          generalize mget D k n = x at *
          generalize X.testBit k = xb at *
          generalize s.testBit n = sb at *
          go_wp2_with fail
          cases x
          · cases xb
            · rw [if_neg (by simp)] at ex
              refine wp_spine (fun W => Below wr.heap.size wr W) [0, 1, 2, 3, 4, 5, 6, 7, 8, 9, 10, 11, 12, 13, 14, 15, 16, 17, 18, 19, 20, 21, 22, 23, 24, 25, 26, 27, 28, 29, 30] [31] (by kernel_rfl) (by kernel_rfl) ?_
              iterate 15 (refine wpE_op (v := ?_) rfl rfl (fun W hW => ?_) ?_; rotate_left; (have y1 := onB hW m1; have y2 := onB hW x1; have y3 := onB hW h1; have y4 := onB hW ca; have y5 := onB hW cb; go_simp; first | done | with_reducible rfl); simp only [Act.put, List.setIfInBounds_toArray, List.set_cons_zero, List.set_cons_succ])
              iterate 7 (refine wpE_yes (v := ?_) rfl (by rfl) (fun W hW => ?_) ?_; rotate_left; (have y1 := onB hW s0; go_simp; first | done | with_reducible rfl); simp only [Act.put, List.setIfInBounds_toArray, List.set_cons_zero, List.set_cons_succ])
              iterate 6 (refine wpE_no rfl (by rfl) ?_; simp only [Act.put, List.setIfInBounds_toArray, List.set_cons_zero, List.set_cons_succ])
              iterate 1 (refine wpE_yes (v := ?_) rfl (by rfl) (fun W hW => ?_) ?_; rotate_left; (go_simp; first | done | with_reducible rfl); simp only [Act.put, List.setIfInBounds_toArray, List.set_cons_zero, List.set_cons_succ])
              iterate 2 (refine wpE_op (v := ?_) rfl rfl (fun W hW => ?_) ?_; rotate_left; (go_simp; first | done | with_reducible rfl); simp only [Act.put, List.setIfInBounds_toArray, List.set_cons_zero, List.set_cons_succ])
              refine wpE_nil ⟨fun h => (by cases h), wpSp_op rfl (Below.refl _ _).drew ?_⟩
              go_wp2_with fail
              refine nxt_nil ?_
              go_wp2_with fail
              exact ⟨⟨n + 1, by omega, by go_num, by simpa using hSt⟩, by simp [intOf]; omega⟩
            · rw [if_pos rfl] at ex
              cases sb
              · rw [if_neg (by simp)] at es
                refine wp_spine (fun W => Below wr.heap.size wr W) [0, 1, 2, 3, 4, 5, 6, 7, 8, 9, 10, 11, 12, 13, 14, 15, 16, 17, 18, 19, 20, 21, 22, 23, 24, 25, 26, 27, 28, 29, 30] [31] (by kernel_rfl) (by kernel_rfl) ?_
                iterate 15 (refine wpE_op (v := ?_) rfl rfl (fun W hW => ?_) ?_; rotate_left; (have y1 := onB hW m1; have y2 := onB hW x1; have y3 := onB hW h1; have y4 := onB hW ca; have y5 := onB hW cb; go_simp; first | done | with_reducible rfl); simp only [Act.put, List.setIfInBounds_toArray, List.set_cons_zero, List.set_cons_succ])
                iterate 7 (refine wpE_yes (v := ?_) rfl (by rfl) (fun W hW => ?_) ?_; rotate_left; (have y1 := onB hW s0; go_simp; first | done | with_reducible rfl); simp only [Act.put, List.setIfInBounds_toArray, List.set_cons_zero, List.set_cons_succ])
                iterate 6 (refine wpE_yes (v := ?_) rfl (by rfl) (fun W hW => ?_) ?_; rotate_left; (have y1 := onB hW s1; go_simp; first | done | with_reducible rfl); simp only [Act.put, List.setIfInBounds_toArray, List.set_cons_zero, List.set_cons_succ])
                iterate 1 (refine wpE_yes (v := ?_) rfl (by rfl) (fun W hW => ?_) ?_; rotate_left; (go_simp; first | done | with_reducible rfl); simp only [Act.put, List.setIfInBounds_toArray, List.set_cons_zero, List.set_cons_succ])
                iterate 2 (refine wpE_op (v := ?_) rfl rfl (fun W hW => ?_) ?_; rotate_left; (go_simp; first | done | with_reducible rfl); simp only [Act.put, List.setIfInBounds_toArray, List.set_cons_zero, List.set_cons_succ])
                refine wpE_nil ⟨fun h => (by cases h), wpSp_op rfl (Below.refl _ _).drew ?_⟩
                go_wp2_with fail
                refine nxt_nil ?_
                go_wp2_with fail
                exact ⟨⟨n + 1, by omega, by go_num, by simpa using hSt⟩, by simp [intOf]; omega⟩
              · rw [if_pos rfl] at es
                refine wp_spine (fun W => Below wr.heap.size wr W) [0, 1, 2, 3, 4, 5, 6, 7, 8, 9, 10, 11, 12, 13, 14, 15, 16, 17, 18, 19, 20, 21, 22, 23, 24, 25, 26, 27, 28, 29, 30] [31] (by kernel_rfl) (by kernel_rfl) ?_
                iterate 15 (refine wpE_op (v := ?_) rfl rfl (fun W hW => ?_) ?_; rotate_left; (have y1 := onB hW m1; have y2 := onB hW x1; have y3 := onB hW h1; have y4 := onB hW ca; have y5 := onB hW cb; go_simp; first | done | with_reducible rfl); simp only [Act.put, List.setIfInBounds_toArray, List.set_cons_zero, List.set_cons_succ])
                iterate 7 (refine wpE_yes (v := ?_) rfl (by rfl) (fun W hW => ?_) ?_; rotate_left; (have y1 := onB hW s0; go_simp; first | done | with_reducible rfl); simp only [Act.put, List.setIfInBounds_toArray, List.set_cons_zero, List.set_cons_succ])
                iterate 6 (refine wpE_yes (v := ?_) rfl (by rfl) (fun W hW => ?_) ?_; rotate_left; (have y1 := onB hW s1; go_simp; first | done | with_reducible rfl); simp only [Act.put, List.setIfInBounds_toArray, List.set_cons_zero, List.set_cons_succ])
                iterate 1 (refine wpE_yes (v := ?_) rfl (by rfl) (fun W hW => ?_) ?_; rotate_left; (go_simp; first | done | with_reducible rfl); simp only [Act.put, List.setIfInBounds_toArray, List.set_cons_zero, List.set_cons_succ])
                iterate 2 (refine wpE_op (v := ?_) rfl rfl (fun W hW => ?_) ?_; rotate_left; (go_simp; first | done | with_reducible rfl); simp only [Act.put, List.setIfInBounds_toArray, List.set_cons_zero, List.set_cons_succ])
                refine wpE_nil ⟨fun h => (by cases h), wpSp_op rfl (Below.refl _ _).drew ?_⟩
                go_wp2_with fail
                refine nxt_nil ?_
                go_wp2_with fail
                exact ⟨⟨n + 1, by omega, by go_num, by simpa using hSt⟩, by simp [intOf]; omega⟩
          · refine wp_spine (fun W => Below wr.heap.size wr W) [0, 1, 2, 3, 4, 5, 6, 7, 8, 9, 10, 11, 12, 13, 14, 15, 16, 17, 18, 19, 20, 21, 22, 23, 24, 25, 26, 27, 28, 29, 30] [31] (by kernel_rfl) (by kernel_rfl) ?_
            iterate 15 (refine wpE_op (v := ?_) rfl rfl (fun W hW => ?_) ?_; rotate_left; (have y1 := onB hW m1; have y2 := onB hW x1; have y3 := onB hW h1; have y4 := onB hW ca; have y5 := onB hW cb; go_simp; first | done | with_reducible rfl); simp only [Act.put, List.setIfInBounds_toArray, List.set_cons_zero, List.set_cons_succ])
            iterate 14 (refine wpE_no rfl (by rfl) ?_; simp only [Act.put, List.setIfInBounds_toArray, List.set_cons_zero, List.set_cons_succ])
            iterate 2 (refine wpE_op (v := ?_) rfl rfl (fun W hW => ?_) ?_; rotate_left; (go_simp; first | done | with_reducible rfl); simp only [Act.put, List.setIfInBounds_toArray, List.set_cons_zero, List.set_cons_succ])
            refine wpE_nil ⟨fun h => (by cases h), wpSp_op rfl (Below.refl _ _).drew ?_⟩
            go_wp2_with fail
            refine nxt_nil ?_
            go_wp2_with fail
            exact ⟨⟨n + 1, by omega, by go_num, by simpa using hSt⟩, by simp [intOf]; omega⟩
        · obtain rfl : n = C := by omega
          go_wp2_with fail
          exact ⟨⟨k + 1, by omega, by go_num, hF.row_done⟩, by simp [intOf]; omega⟩
    · obtain rfl : k = D.length := by omega
      have hM := hF.blk hM2 (by decide)
      have m0 := hM.cell 0
      have m1 := hM.cell 1
      have lM := hM.lt
      have hS := hF.all_done HGS.out
      obtain ⟨y0, y1, fy0, fy1⟩ := hS.done_cells hY2
      obtain ⟨cX, cY, hI, hbE⟩ := hS.done HGS.out hY2 (by omega) hC hR
      have HI := hideC hI; have HB := hideC hbE
      have HCX := hideC cX; have HCY := hideC cY
      clear hI hbE cX cY hS hF hM hM2 hX2 hY2 h hS2
      go_wp2_with fail
      have cX := HCX.out
      have cY := HCY.out
      exact bodyPost_ret (v := refV C A1 D.length c1) (by simp [results, Tryz.results69, go_sem, cX, cY]) rfl ⟨_, _, rfl, HI.out, HB.out⟩
/-- The matrix of the cells that are covered. -/
abbrev doneM (C : Nat) (M : List (List Bool)) (o : List (Nat × Nat)) : List (List Bool) := mat M.length C (doneF C M o)
theorem doneM_len (C : Nat) (M : List (List Bool)) (o : List (Nat × Nat)) : (doneM C M o).length = M.length := by simp [mat]
theorem addr_done (C : Nat) (B : Option Addr) (d : Nat) (M : List (List Bool)) (o : List (Nat × Nat)) (s : Nat) (w : World) (h : IsRef w C B (doneM C M o)) (hC6 : C ≤ 60) (hR6 : M.length ≤ 60) :
    Calls Tryz.prog 69 #[refV C B M.length d, .agg #[.int .u64 (havN C (nsOf C M) s : Nat), .int .u64 (s : Nat)]] w fun e w' => ∃ A' c', e = .returned (refV C A' M.length c') ∧ TRef w' C A' c' (doneM C M (lessL C (nsOf C M) o s)) ∧ Below w.heap.size w w' := by
  have hC := h.1
  have hR : M.length ≤ 4096 := by omega
  have := addr_own C B d (doneM C M o) (havN C (nsOf C M) s) s w h hC6 (by rw [doneM_len]; exact hR6)
  rw [doneM_len] at this
  have e : mat M.length C (addF (doneM C M o) (havN C (nsOf C M) s) s) = doneM C M (lessL C (nsOf C M) o s) := mat_congr fun i hi j hj => by
    rw [← done_less hC hR hi hj]
    unfold addF
    rw [mat_get hi hj]
    unfold inS
    rw [Bool.and_comm (s.testBit _)]
  rwa [e] at this
theorem own_one {w : World} {base g : Nat} {t : TypeId} {v : Value} (hB : Blk w g t #[v]) (hg : base ≤ g) : w.ownsRow base t 1 (.slice (some ⟨g, 0, none⟩) 1 1) 1 [v] :=
  ⟨rfl, .inr ⟨g, 1, #[v], rfl, hg, hB, Nat.le_refl _, by decide, rfl, rfl⟩⟩
theorem info_int48 : (Tryz.prog.info? 3).map (fun i => (i.zero, i.size, i.bytes)) = some (some (.int .i64 0), 1, 8) := by kernel_rfl
theorem firstK_hit {g : Nat → Option (List Nat)} {k m : Nat} {l : List Nat} (h : g k = some l) : firstK g k (m + 1) = some l := by rw [firstK, h]
theorem firstK_miss {g : Nat → Option (List Nat)} {k m : Nat} (h : g k = none) : firstK g k (m + 1) = firstK g (k + 1) m := by rw [firstK, h]
theorem ints_one (ks : List Nat) : ∀ u ∈ ks.map i64, u.oneCell' = true := by
  intro u hu
  obtain ⟨_, _, rfl⟩ := List.mem_map.1 hu
  rfl
theorem news_row {w : World} {g off : Nat} {xs : List Value} (h : Row w (some ⟨g, off, none⟩) xs) : ∀ (j : Nat) u, xs[j]? = some u → w.cell? ((⟨g, off, none⟩ : Addr).add j) = some u := fun j u hu => by
  obtain ⟨g', o', e, _, hc⟩ := h (by have := (List.getElem?_eq_some_iff.1 hu).1; omega)
  cases e
  rw [addr_add]
  exact hc j u hu
/-- What choose leaves. -/
def ChoP (w w' : World) (e : Ending) (r : Option (List Nat)) : Prop := ∃ v, e = .returned (.tuple #[v, .bool r.isSome]) ∧ (∀ ks, r = some ks → w'.ownsRow w.heap.size 3 1 v ks.length (ks.map i64)) ∧ Below w.heap.size w w'
namespace Mix2
set_option maxRecDepth 100000 in
set_option maxHeartbeats 8000000 in
theorem choose_any (C : Nat) (A : Option Addr) (c : Nat) (M : List (List Bool)) (L : List Nat) (hC : C ≤ 60) (hR : M.length ≤ 60) (hL : L.length ≤ 4096) : ∀ (n k : Nat) (o : List (Nat × Nat)) (B : Option Addr) (d : Nat) (Al : Option Addr) (cl : Nat) (w : World), n ≤ 60 → k ≤ L.length → OnesOf C M o → IsRef w C A M → IsRef w C B (doneM C M o) → Row w Al (conV C (nsOf C M) L) → L.length ≤ cl →
    Calls Tryz.prog 58 #[refV C A M.length c, refV C B M.length d, .slice Al L.length cl, .int .i64 k, .int .i64 n] w fun e w' => ChoP w w' e (chooseK C (nsOf C M) L n k o) := by
  intro n
  induction n with
  | zero =>
    intro k o B d Al cl w hn hk ho h h' hrow hcl
    have hsm := fun W (hb : Below w.heap.size w W) => samer_any C C B A d c (doneM C M o) M W (h'.below hb) (h.below hb)
    rw [doneM_len, done_same (by omega) ho] at hsm
    have HSM := Lib.hid hsm
    clear hsm
    go_enter Tryz.func58, Tryz.ntmps58
    go_wp2_with fail
    refine absC2 fun W0 hM0 hD0 hb0 hz => ?_
    refine (HSM.out W0 hb0).mono ?_
    rintro e W1 ⟨rfl, hb1⟩
    have b1 := hb0.trans (hb1.mono hb0.size)
    by_cases ho0 : o = []
    · have hd : decide (o = []) = true := decide_eq_true ho0
      have HR := Lib.hid (show chooseK C (nsOf C M) L 0 k o = some [] by rw [chooseK, if_pos ho0])
      clear ho0
      go_wp2_with fail
      go_ret2
      exact ⟨.slice none 0 0, by rw [HR.out]; rfl, fun ks hks => by rw [HR.out] at hks; cases hks; exact World.ownsRow_nil _ _ _ _, b1⟩
    · have hd : decide (o = []) = false := decide_eq_false ho0
      have HR := Lib.hid (show chooseK C (nsOf C M) L 0 k o = none by rw [chooseK, if_neg ho0])
      clear ho0
      go_wp2_with fail
      go_ret2
      exact ⟨.slice none 0 0, by rw [HR.out]; rfl, fun ks hks => by rw [HR.out] at hks; (cases hks), b1⟩
  | succ n ih =>
    intro k o B d Al cl w hn hk ho h h' hrow hcl
    obtain ⟨i0, hi0, hz0, hz1, hz2⟩ := info_parts info_int48
    have hsm := fun W (hb : Below w.heap.size w W) => samer_any C C B A d c (doneM C M o) M W (h'.below hb) (h.below hb)
    rw [doneM_len, done_same (by omega) ho] at hsm
    have HSM := Lib.hid hsm
    have HCV := Lib.hid (fun s W (hb : Below w.heap.size w W) => covered_any C A B c d M o s W (h'.below hb) ho hC hR)
    have HAD := Lib.hid (fun s W (hb : Below w.heap.size w W) => addr_done C B d M o s W (h'.below hb) hC hR)
    have HIH := Lib.hid (fun j s B' d' W (hb : Below w.heap.size w W) (hj : j ≤ L.length) (hB : IsRef W C B' (doneM C M (lessL C (nsOf C M) o s))) => ih j (lessL C (nsOf C M) o s) B' d' Al cl W (by omega) hj (ho.less s) (h.below hb) hB (hrow.below hb) hcl)
    clear hsm ih ho h h'
    go_enter Tryz.func58, Tryz.ntmps58
    go_wp2_with fail
    refine absC2 fun W0 hM0 hD0 hb0 hz => ?_
    obtain ⟨g, hg⟩ : ∃ x, x = w.heap.size := ⟨_, rfl⟩
    rw [← hg] at hM0 hD0 ⊢
    have hgw : w.heap.size ≤ g := by omega
    clear hz
    refine (HSM.out W0 hb0).mono ?_
    rintro e W1 ⟨rfl, hb1⟩
    have b1 := hb0.trans (hb1.mono hb0.size)
    replace hM0 := hM0.below hb1 hM0.lt
    replace hD0 := hD0.below hb1 hD0.lt
    clear hb0 hb1 HSM
    by_cases ho0 : o = []
    · have hd : decide (o = []) = true := decide_eq_true ho0
      have HR := Lib.hid (show chooseK C (nsOf C M) L (n + 1) k o = some [] by rw [chooseK, if_pos ho0])
      clear ho0
      go_wp2_with fail
      go_ret2
      exact ⟨.slice none 0 0, by rw [HR.out]; rfl, fun ks hks => by rw [HR.out] at hks; cases hks; exact World.ownsRow_nil _ _ _ _, b1⟩
    · have hd : decide (o = []) = false := decide_eq_false ho0
      obtain ⟨G, hG⟩ : ∃ G : Nat → Option (List Nat), G = fun j => if o.countP (inS C (nsOf C M) (L.getD j 0)) = 0 then none else (chooseK C (nsOf C M) L n (j + 1) (lessL C (nsOf C M) o (L.getD j 0))).map (j :: ·) := ⟨_, rfl⟩
      have hR0 : chooseK C (nsOf C M) L (n + 1) k o = firstK G k (L.length - k) := by rw [chooseK, if_neg ho0, hG]
      have HR := Lib.hid hR0
      have HGE := Lib.hid (fun j => congrFun hG j)
      clear ho0 hR0 hG
      have hn0 : (((n + 1 : Nat) : Int) == 0) = false := by rw [beq_eq_false_iff_ne]; omega
      have hn1 : decide (((n + 1 : Nat) : Int) = 0) = false := decide_eq_false (by omega)
      obtain ⟨n1, hn1e⟩ : ∃ x, x = n + 1 := ⟨_, rfl⟩
      rw [← hn1e] at hn0 hn1 ⊢
      have hsub : (n1 : Int) - 1 = (n : Int) := by omega
      have hn60 : n1 ≤ 60 := by omega
      clear hn hn1e
      clear hg
      go_wp2_with fail
      refine wp_loopF (β := Nat) (fun j f => #[f 0, f 1, .slice Al L.length cl, .int .i64 (k : Int), .int .i64 (n1 : Int), .pointer (some ⟨g, 0, none⟩), .pointer (some ⟨g + 1, 0, none⟩), f 7, f 8, f 9, .slice none 0 0, .bool false, .int .i64 (j : Int), f 13, f 14, f 15, f 16, f 17, f 18, f 19, f 20, f 21, f 22, f 23, f 24, f 25, f 26, f 27, f 28, f 29, f 30, f 31, f 32, f 33, f 34, f 35, f 36, f 37, f 38, f 39, f 40, f 41, f 42, f 43, f 44, f 45, f 46, f 47, f 48, f 49, f 50, f 51, f 52, f 53, f 54, f 55, f 56, f 57])
        (fun j ds W => j ≤ L.length ∧ ds = [] ∧ Below W1.heap.size W1 W ∧ firstK G k (L.length - k) = firstK G j (L.length - j)) (fun j => L.length - j) k rfl
        ⟨hk, rfl, Below.refl _ _, rfl⟩ ?_
      rintro j f ds W ⟨hj, rfl, hbW, hfk⟩
      dsimp only at hj ⊢
      have HFK := Lib.hid hfk
      clear hfk
      have bW := b1.trans (hbW.mono b1.size)
      have hMW := hM0.below hbW hM0.lt
      have hDW := hD0.below hbW hD0.lt
      by_cases hlt : j < L.length
      · obtain ⟨s, hs⟩ : ∃ s, L[j]? = some s := ⟨_, List.getElem?_eq_getElem hlt⟩
        have hgd : L.getD j 0 = s := by rw [List.getD_eq_getElem?_getD, hs]; rfl
        obtain ⟨gl, ol, rfl, hgl, e0, e1⟩ := row_conV (hrow.below bW) hs
        have hge := HGE.out j
        rw [hgd] at hge
        have m0 := hMW.cell 0
        have m1 := hMW.cell 1
        have d0 := hDW.cell 0
        have d1 := hDW.cell 1
        have HGJ := Lib.hid hge
        have HS := Lib.hid hs
        have hcv := HCV.out s
        obtain ⟨r, hr⟩ : ∃ r, r = havN C (nsOf C M) s := ⟨_, rfl⟩
        have HR0 := Lib.hid hr
        have hcl2 : L.length ≤ 4096 := hL
        have hpl : o.countP (inS C (nsOf C M) s) ≤ o.length := List.countP_le_length
        obtain ⟨t, ht⟩ : ∃ t, t = o.countP (inS C (nsOf C M) s) := ⟨_, rfl⟩
        rw [← ht, ← hr] at hcv
        rw [← hr] at e0
        rw [← ht] at HGJ
        have had := HAD.out s
        rw [← hr] at had
        have HC := Lib.hid hcv
        have HA := Lib.hid had
        clear hs hgd hge ht hr hcv had hpl
        have hstep : ∃ m, L.length - j = m + 1 ∧ L.length - (j + 1) = m := ⟨L.length - (j + 1), by omega, rfl⟩
        go_upto_region 8 with fail
        refine wp_mix (fun V => Below W.heap.size W V) 8 (by kernel_rfl) (by kernel_rfl) (Below.refl _ _).drew ?_
        have hr := (Below.refl W.heap.size W).drew
        obtain ⟨V, hV⟩ : ∃ V, V = W.drew := ⟨_, rfl⟩
        rw [← hV] at hr ⊢
        clear hV
        (refine m_q 0 (v := ?_) (by kernel_rfl) rfl rfl (fun W hW => ?_) ?_; rotate_left; (have y0 := onB hW m0; have y1 := onB hW m1; have z0 := onB hW d0; have z1 := onB hW d1; go_simp; first | done | with_reducible rfl); simp only [Act.put, List.setIfInBounds_toArray, List.set_cons_zero, List.set_cons_succ]); (refine m_q 1 (v := ?_) (by kernel_rfl) rfl rfl (fun W hW => ?_) ?_; rotate_left; (have y0 := onB hW m0; have y1 := onB hW m1; have z0 := onB hW d0; have z1 := onB hW d1; go_simp; first | done | with_reducible rfl); simp only [Act.put, List.setIfInBounds_toArray, List.set_cons_zero, List.set_cons_succ])
        (refine m_q 2 (v := ?_) (by kernel_rfl) rfl rfl (fun W hW => ?_) ?_; rotate_left; (go_simp; first | done | with_reducible rfl); simp only [Act.put, List.setIfInBounds_toArray, List.set_cons_zero, List.set_cons_succ]); (refine m_q 3 (v := ?_) (by kernel_rfl) rfl rfl (fun W hW => ?_) ?_; rotate_left; (go_simp; first | done | with_reducible rfl); simp only [Act.put, List.setIfInBounds_toArray, List.set_cons_zero, List.set_cons_succ]); (refine m_q 4 (v := ?_) (by kernel_rfl) rfl rfl (fun W hW => ?_) ?_; rotate_left; (go_simp; first | done | with_reducible rfl); simp only [Act.put, List.setIfInBounds_toArray, List.set_cons_zero, List.set_cons_succ])
        (refine m_q 5 (v := ?_) (by kernel_rfl) rfl rfl (fun W hW => ?_) ?_; rotate_left; (have y0 := onB hW e0; have y1 := onB hW e1; go_simp; first | done | with_reducible rfl); simp only [Act.put, List.setIfInBounds_toArray, List.set_cons_zero, List.set_cons_succ])
        have HC1 := hideC (HC.out V (bW.trans (hr.mono bW.size)))
        refine m_s1 6 (by kernel_rfl) rfl ?_
        go_wp2_with fail
        refine HC1.out.mono ?_
        rintro e V2 ⟨rfl, hb2⟩
        have hr2 := hr.trans (hb2.mono hr.size)
        go_wp2_with fail
        refine m_keep hr2 ?_
        (refine m_q 7 (v := ?_) (by kernel_rfl) rfl rfl (fun W hW => ?_) ?_; rotate_left; (go_simp; first | done | with_reducible rfl); simp only [Act.put, List.setIfInBounds_toArray, List.set_cons_zero, List.set_cons_succ])
        refine m_end (by kernel_rfl) ?_
        have hbW2 := hbW.trans (hr2.mono hbW.size)
        have bW2 := bW.trans (hr2.mono bW.size)
        replace hMW := hMW.below hr2 hMW.lt
        replace hDW := hDW.below hr2 hDW.lt
        clear hr hr2 hb2 HC1 HC m0 m1 d0 d1 e0 e1 hbW bW
        by_cases ht0 : t = 0
        · have hgj : G j = none := by rw [HGJ.out, if_pos ht0]
          have hfn : firstK G k (L.length - k) = firstK G (j + 1) (L.length - (j + 1)) := by
            obtain ⟨m, h1, h2⟩ := hstep
            rw [HFK.out, h1, h2, firstK_miss hgj]
          have HFN := Lib.hid hfn
          have he : ((t : Int) == 0) = true := by rw [beq_iff_eq]; omega
          have he2 : decide ((t : Int) = 0) = true := decide_eq_true (by omega)
          clear hgj hfn hstep ht0 HGJ HA
          go_wp2_with fail
          exact ⟨j + 1, rfl, ⟨by omega, by first | rfl | trivial, hbW2, HFN.out⟩, by omega⟩
        · have he : ((t : Int) == 0) = false := by rw [beq_eq_false_iff_ne]; omega
          have he2 : decide ((t : Int) = 0) = false := decide_eq_false (by omega)
          have hgj := HGJ.out
          rw [if_neg ht0] at hgj
          have HGJ2 := Lib.hid hgj
          clear ht0 hgj HGJ
          obtain ⟨gl2, ol2, ee, hgl2, e0, e1⟩ := row_conV (hrow.below bW2) HS.out
          cases ee
          rw [← HR0.out] at e0
          have m0 := hMW.cell 0
          have m1 := hMW.cell 1
          have d0 := hDW.cell 0
          have d1 := hDW.cell 1
          go_upto_region 9 with fail
          refine wp_mix (fun V => Below V2.heap.size V2 V) 18 (by kernel_rfl) (by kernel_rfl) (Below.refl _ _).drew ?_
          have hr := (Below.refl V2.heap.size V2).drew
          obtain ⟨V3, hV⟩ : ∃ V, V = V2.drew := ⟨_, rfl⟩
          rw [← hV] at hr ⊢
          clear hV
          (refine m_q 0 (v := ?_) (by kernel_rfl) rfl rfl (fun W hW => ?_) ?_; rotate_left; (have y0 := onB hW m0; have y1 := onB hW m1; have z0 := onB hW d0; have z1 := onB hW d1; go_simp; first | done | with_reducible rfl); simp only [Act.put, List.setIfInBounds_toArray, List.set_cons_zero, List.set_cons_succ]); (refine m_q 1 (v := ?_) (by kernel_rfl) rfl rfl (fun W hW => ?_) ?_; rotate_left; (have y0 := onB hW m0; have y1 := onB hW m1; have z0 := onB hW d0; have z1 := onB hW d1; go_simp; first | done | with_reducible rfl); simp only [Act.put, List.setIfInBounds_toArray, List.set_cons_zero, List.set_cons_succ])
          (refine m_q 2 (v := ?_) (by kernel_rfl) rfl rfl (fun W hW => ?_) ?_; rotate_left; (go_simp; first | done | with_reducible rfl); simp only [Act.put, List.setIfInBounds_toArray, List.set_cons_zero, List.set_cons_succ]); (refine m_q 3 (v := ?_) (by kernel_rfl) rfl rfl (fun W hW => ?_) ?_; rotate_left; (go_simp; first | done | with_reducible rfl); simp only [Act.put, List.setIfInBounds_toArray, List.set_cons_zero, List.set_cons_succ]); (refine m_q 4 (v := ?_) (by kernel_rfl) rfl rfl (fun W hW => ?_) ?_; rotate_left; (go_simp; first | done | with_reducible rfl); simp only [Act.put, List.setIfInBounds_toArray, List.set_cons_zero, List.set_cons_succ])
          (refine m_q 5 (v := ?_) (by kernel_rfl) rfl rfl (fun W hW => ?_) ?_; rotate_left; (have y0 := onB hW e0; have y1 := onB hW e1; go_simp; first | done | with_reducible rfl); simp only [Act.put, List.setIfInBounds_toArray, List.set_cons_zero, List.set_cons_succ])
          (refine m_q 7 (v := ?_) (by kernel_rfl) rfl rfl (fun W hW => ?_) ?_; rotate_left; (go_simp; first | done | with_reducible rfl); simp only [Act.put, List.setIfInBounds_toArray, List.set_cons_zero, List.set_cons_succ]); (refine m_q 8 (v := ?_) (by kernel_rfl) rfl rfl (fun W hW => ?_) ?_; rotate_left; (go_simp; first | done | with_reducible rfl); simp only [Act.put, List.setIfInBounds_toArray, List.set_cons_zero, List.set_cons_succ]); (refine m_q 9 (v := ?_) (by kernel_rfl) rfl rfl (fun W hW => ?_) ?_; rotate_left; (go_simp; first | done | with_reducible rfl); simp only [Act.put, List.setIfInBounds_toArray, List.set_cons_zero, List.set_cons_succ]); (refine m_q 10 (v := ?_) (by kernel_rfl) rfl rfl (fun W hW => ?_) ?_; rotate_left; (go_simp; first | done | with_reducible rfl); simp only [Act.put, List.setIfInBounds_toArray, List.set_cons_zero, List.set_cons_succ]); (refine m_q 11 (v := ?_) (by kernel_rfl) rfl rfl (fun W hW => ?_) ?_; rotate_left; (go_simp; first | done | with_reducible rfl); simp only [Act.put, List.setIfInBounds_toArray, List.set_cons_zero, List.set_cons_succ])
          have HA1 := hideC (HA.out V3 (bW2.trans (hr.mono bW2.size)))
          refine m_s1 6 (by kernel_rfl) rfl ?_
          go_wp2_with fail
          refine HA1.out.mono ?_
          rintro e V4 ⟨A4, c4, rfl, hT4, hb4⟩
          have hr4 := hr.trans (hb4.mono hr.size)
          go_wp2_with fail
          refine m_keep hr4 ?_
          have HI1 := hideC (HIH.out (j + 1) s A4 c4 V4 (bW2.trans (hr4.mono bW2.size)) hlt hT4.ref)
          obtain ⟨ans, hans⟩ : ∃ x, x = chooseK C (nsOf C M) L n (j + 1) (lessL C (nsOf C M) o s) := ⟨_, rfl⟩
          rw [← hans] at HI1 HGJ2
          have HKL := Lib.hid (fun ks (e : ans = some ks) => Nat.le_trans (choose_cov _ _ _ _ (hans.symm.trans e)).1 (by omega : n ≤ 60))
          clear hans
          refine m_s1 12 (by kernel_rfl) rfl ?_
          go_wp2_with fail
          refine HI1.out.mono ?_
          rintro e V5 ⟨v5, rfl, hres, hb5⟩
          have hr5 := hr4.trans (hb5.mono hr4.size)
          go_wp2_with fail
          refine m_keep hr5 ?_
          (refine m_q 13 (v := ?_) (by kernel_rfl) rfl rfl (fun W hW => ?_) ?_; rotate_left; (go_simp; first | done | with_reducible rfl); simp only [Act.put, List.setIfInBounds_toArray, List.set_cons_zero, List.set_cons_succ]); (refine m_q 14 (v := ?_) (by kernel_rfl) rfl rfl (fun W hW => ?_) ?_; rotate_left; (go_simp; first | done | with_reducible rfl); simp only [Act.put, List.setIfInBounds_toArray, List.set_cons_zero, List.set_cons_succ]); (refine m_q 15 (v := ?_) (by kernel_rfl) rfl rfl (fun W hW => ?_) ?_; rotate_left; (go_simp; first | done | with_reducible rfl); simp only [Act.put, List.setIfInBounds_toArray, List.set_cons_zero, List.set_cons_succ]); (refine m_q 16 (v := ?_) (by kernel_rfl) rfl rfl (fun W hW => ?_) ?_; rotate_left; (go_simp; first | done | with_reducible rfl); simp only [Act.put, List.setIfInBounds_toArray, List.set_cons_zero, List.set_cons_succ]); (refine m_q 17 (v := ?_) (by kernel_rfl) rfl rfl (fun W hW => ?_) ?_; rotate_left; (go_simp; first | done | with_reducible rfl); simp only [Act.put, List.setIfInBounds_toArray, List.set_cons_zero, List.set_cons_succ])
          refine m_end (by kernel_rfl) ?_
          have hbW5 := hbW2.trans (hr5.mono hbW2.size)
          have bW5 := bW2.trans (hr5.mono bW2.size)
          have h4s : w.heap.size ≤ V4.heap.size := Nat.le_trans bW2.size hr4.size
          clear hr hr4 hr5 HA1 HI1 hT4 HA m0 m1 d0 d1 e0 e1 hMW hDW bW2 hbW2 hb4
          cases ans with
          | none =>
            have hgj : G j = none := by rw [HGJ2.out]; rfl
            have hfn : firstK G k (L.length - k) = firstK G (j + 1) (L.length - (j + 1)) := by
              obtain ⟨m, h1, h2⟩ := hstep
              rw [HFK.out, h1, h2, firstK_miss hgj]
            have HFN := Lib.hid hfn
            clear hgj hfn hstep hres hb5
            go_wp2_with fail
            exact ⟨j + 1, rfl, ⟨by omega, by first | rfl | trivial, hbW5, HFN.out⟩, by omega⟩
          | some ks =>
            have hgj : G j = some (j :: ks) := by rw [HGJ2.out]; rfl
            have hfn : chooseK C (nsOf C M) L (n + 1) k o = some (j :: ks) := by
              obtain ⟨m, h1, h2⟩ := hstep
              rw [HR.out, HFK.out, h1, firstK_hit hgj]
            have HFN := Lib.hid hfn
            have hown5 := own_low (hres ks rfl) (b0 := w.heap.size) h4s
            have hkl : ks.length ≤ 60 := HKL.out ks rfl
            have hsz := bW5.size
            clear hgj hfn hstep hres hb5 HGJ2 hbW5
            go_upto_region 12 with fail
            refine abs1 fun V6 hB6 hb6 hz => ?_
            clear hz
            have b6 := bW5.trans (hb6.mono bW5.size)
            have hown6 := own_below hown5 hb6
            have hsz6 := b6.size
            have own1 := own_one hB6 (base := w.heap.size) hsz
            obtain ⟨g6, hg6⟩ : ∃ x, x = V5.heap.size := ⟨_, rfl⟩
            rw [← hg6] at own1 hB6 ⊢
            clear hg6 hown5 bW5 hb6
            rcases id hown6.2 with ⟨hv, hn0⟩ | ⟨gr, capr, cur, hv, hgr, hBr, hlr, hmr, hsr, htr⟩
            · subst hv
              have hk0 : ks = [] := List.eq_nil_of_length_eq_zero hn0
              clear hn0 hown6
              go_wp2_with (at_builtin; refine wpList_append_own_none rfl _ _ 40 rfl w.heap.size 3 i0 1 Tryz.underlying40 hi0 _ _ _ rfl own1 rfl ?_)
              go_ret2
              exact ⟨_, by rw [HFN.out]; rfl, fun ks' hks => by rw [HFN.out] at hks; cases hks; rw [hk0]; exact own1, b6⟩
            · subst hv
              obtain ⟨_, _, e9, _, _, hrw, _⟩ := row_of_own hown6
              cases e9
              have HNW := hideC (news_row hrw)
              clear hrw
              go_wp2_with ((at_builtin; refine wpList_append_own _ rfl _ _ 40 rfl w.heap.size 3 i0 (.int .i64 0) 1 8 Tryz.underlying40 hi0 hz0 hz1 hz2 rfl (by decide) _ _ _ rfl own1 ⟨gr, 0, none⟩ ks.length capr (ks.map i64) rfl (by rw [List.length_map]; omega) HNW.out (ints_one ks) (by unfold maxLen; omega) (by omega) (by first | omega | (simp; done) | (simp; omega)) ?_; intro v7 W7 hown7 hgrow7 _))
              have b7 := b6.grown hgrow7 b6.size (fun q hq => (own1.lt q hq).1)
              go_ret2
              exact ⟨v7, by rw [HFN.out]; rfl, fun ks' hks => by rw [HFN.out] at hks; cases hks; rw [List.length_cons, Nat.add_comm, List.map_cons]; exact hown7, b7⟩
      · obtain rfl : j = L.length := by omega
        have hR1 : chooseK C (nsOf C M) L (n + 1) k o = none := by rw [HR.out, HFK.out, Nat.sub_self]; rfl
        have HRN := Lib.hid hR1
        clear hR1 hMW hDW
        go_wp2_with fail
        go_ret2
        exact ⟨.slice none 0 0, by rw [HRN.out]; rfl, fun ks hks => by rw [HRN.out] at hks; (cases hks), bW⟩
end Mix2
end Go.Proofs.YtlakjhhpdbgekaaGreatDoor
