import Derived.Test.YtjlcnbfkblmoeaaDoorLaw
import Derived.Test.YtjlcnbfkblmoeaaDoorLate
import Derived.Deep.DeepCutAuto
namespace Go.Proofs.YtjlcnbfkblmoeaaDoor
open Go.RowKit

/-- A slice of 16-bit numbers. -/
def IsU16s (w : World) (v : Value) (zs : List Nat) : Prop :=
  ∃ (A : Option Addr) (c : Nat), v = .slice A zs.length c ∧ Row w A (zs.map fun z : Nat => Value.int .u16 z) ∧ (∀ z ∈ zs, z ≤ 65535) ∧ zs.length ≤ maxLen
/-- The set that the law makes of a number. -/
def rowOf (z : Nat) : Nat := setOf [((z % 300 : Nat) : Int), ((z % 7 : Nat) : Int)]
def rowsOf (zs : List Nat) (k : Nat) : List Nat := (List.range k).map fun i => rowOf (zs.getD i 0)
theorem rowsOf_len (zs : List Nat) (k : Nat) : (rowsOf zs k).length = k := by simp [rowsOf]
theorem rowsOf_succ (zs : List Nat) (k : Nat) : rowsOf zs (k + 1) = rowsOf zs k ++ [rowOf (zs.getD k 0)] := by simp [rowsOf, List.range_succ]
/-- The greatest number of the sets, -1 where there is none. -/
def mostOf (zs : List Nat) : Nat → Int
  | 0 => -1
  | k + 1 => max (max (mostOf zs k) ((zs.getD k 0 % 300 : Nat) : Int)) ((zs.getD k 0 % 7 : Nat) : Int)
theorem mostOf_le (zs : List Nat) (C : Nat) : ∀ k, mostOf zs k < C ↔ ∀ i, i < k → zs.getD i 0 % 300 < C ∧ zs.getD i 0 % 7 < C
  | 0 => by simp only [mostOf]; exact ⟨fun _ i h => absurd h (by omega), fun _ => by omega⟩
  | k + 1 => by
    have ih := mostOf_le zs C k
    constructor
    · intro h i hi
      simp only [mostOf] at h
      by_cases e : i = k
      · subst e; omega
      · exact ih.1 (by omega) i (by omega)
    · intro h
      have h1 := ih.2 fun i hi => h i (by omega)
      have h2 := h k (by omega)
      simp only [mostOf]; omega
theorem rowOf_in (z C : Nat) : rowOf z &&& lowN C = rowOf z ↔ z % 300 < C ∧ z % 7 < C := by
  have hb : ∀ j, (rowOf z).testBit j = decide (j = z % 300 ∨ j = z % 7) := fun j => by
    unfold rowOf; rw [testBit_setOf, decide_eq_decide]
    simp only [List.mem_cons, List.not_mem_nil, or_false]
    omega
  constructor
  · intro h
    have h1 := congrArg (fun n => n.testBit (z % 300)) h
    have h2 := congrArg (fun n => n.testBit (z % 7)) h
    simp only [Nat.testBit_and, testBit_lowN, hb] at h1 h2
    simpa using And.intro h1 h2
  · rintro ⟨h1, h2⟩
    apply Nat.eq_of_testBit_eq
    intro j
    rw [Nat.testBit_and, testBit_lowN, hb]
    by_cases h : j = z % 300 ∨ j = z % 7
    · have : j < C := by omega
      simp [h, this]
    · simp [h]
theorem rowsIn_rowsOf (zs : List Nat) (k C : Nat) : rowsIn C (rowsOf zs k) ↔ mostOf zs k < C := by
  rw [mostOf_le]
  unfold rowsIn
  rw [rowsOf_len]
  have hg : ∀ i, i < k → (rowsOf zs k).getD i 0 = rowOf (zs.getD i 0) := fun i hi => by
    unfold rowsOf; rw [List.getD_eq_getElem?_getD, List.getElem?_map, List.getElem?_range hi]; rfl
  constructor
  · intro h i hi
    have := h i hi
    rw [hg i hi] at this
    exact (rowOf_in _ _).1 this
  · intro h i hi
    rw [hg i hi]
    exact (rowOf_in _ _).2 (h i hi)

theorem card_none : card 0 = 0 := by decide
theorem onesTo_none (R k : Nat) : onesTo (List.replicate R 0) k = 0 := by simp [onesTo, card_none]
/-- New, whatever the numbers are. -/
theorem new_all (rows cols : Int) (w : World) :
    Calls Tryd.prog 41 #[.int .i64 rows, .int .i64 cols] w fun e w' => ∃ p s, e = pair p s ∧ Below w.heap.size w w' ∧ (((rows < 0 ∨ rows > 256 ∨ cols < 0 ∨ cols > 256) ∧ p = .pointer none ∧ s = 1) ∨ ∃ R C q : Nat, rows = R ∧ cols = C ∧ R ≤ 256 ∧ C ≤ 256 ∧ p = ptr q ∧ s = 0 ∧ IsMat w' q C (List.replicate R 0)) := by
  by_cases hb : rows < 0 ∨ rows > 256 ∨ cols < 0 ∨ cols > 256
  · refine (new_no rows cols w hb).mono ?_
    rintro e w' ⟨rfl, rfl⟩
    exact ⟨_, _, rfl, Below.refl _ _, .inl ⟨hb, rfl, rfl⟩⟩
  · obtain ⟨R, rfl⟩ := Int.eq_ofNat_of_zero_le (show 0 ≤ rows by omega)
    obtain ⟨C, rfl⟩ := Int.eq_ofNat_of_zero_le (show 0 ≤ cols by omega)
    refine (new_yes R C w (by omega) (by omega)).mono ?_
    rintro e w' ⟨rfl, rfl⟩
    refine ⟨_, _, rfl, ((Below.refl _ _).alloc (Nat.le_refl _) _).alloc (by simp) _, .inr ⟨R, C, _, rfl, rfl, by omega, by omega, rfl, rfl, new_mat R C w (by omega) (by omega)⟩⟩

set_option maxRecDepth 100000 in
set_option maxHeartbeats 4000000 in
theorem makes_walk (rows cols : Int) (v : Value) (zs : List Nat) (w : World) (hT : Tab w) (h : IsU16s w v zs) :
    Calls Tryd.prog 8 #[.int .i64 rows, .int .i64 cols, v] w fun e w' => e = .returned (.bool true) ∧ Below w.heap.size w w' := by
  obtain ⟨i0, hi0, hz0, hz1, hz2⟩ := info_parts info_set
  obtain ⟨A, c, rfl, hrow, hz, hlen⟩ := h
  have HIN := Lib.hid hrow; clear hrow
  have HZS := Lib.hid hz; clear hz
  go_enter Tryd.func8, Tryd.ntmps8
  go_wp2_with fail
  refine (awake_any w hT).mono ?_
  rintro e w1 ⟨rfl, b1⟩
  go_upto_region 3 with fail
  rename_i K hK
  go_cut [7, 8] (fun s7 s8 wx => Below w.heap.size w wx ∧ (((rows < 0 ∨ rows > 256 ∨ cols < 0 ∨ cols > 256) ∧ s7 = .pointer none ∧ s8 = .int .i64 1) ∨ ∃ R C q : Nat, rows = R ∧ cols = C ∧ R ≤ 256 ∧ C ≤ 256 ∧ s7 = ptr q ∧ s8 = .int .i64 0 ∧ IsMat wx q C (List.replicate R 0)))
  case first =>
    go_wp2_with fail
    refine (new_all rows cols w1).mono ?_
    rintro e w2 ⟨p, s, rfl, b2, hps⟩
    go_wp2_with fail
    go_meet
    refine ⟨b1.trans (b2.mono b1.size), ?_⟩
    rcases hps with ⟨hb, rfl, rfl⟩ | ⟨R, C, q, rfl, rfl, hR, hC, rfl, rfl, hm⟩
    · exact .inl ⟨hb, rfl, rfl⟩
    · exact .inr ⟨R, C, q, rfl, rfl, hR, hC, rfl, rfl, hm⟩
  case rest =>
    obtain ⟨b2, hps⟩ := hcut
    refine hK _ _ ?_
    apply wp_seq_k
    intro K2 hK2
    clear hK
    go_cut [6] (fun s6 wx => Below w.heap.size w wx)
    case first =>
      rcases hps with ⟨hb, rfl, rfl⟩ | ⟨R, C, q, rfl, rfl, hR, hC, rfl, rfl, hm⟩
      · by_cases h1 : rows < 0
        · go_wp2_with fail
          go_meet
          exact b2
        · by_cases h2 : rows > 256
          · go_wp2_with fail
            go_meet
            exact b2
          · by_cases h3 : cols < 0
            · go_wp2_with fail
              go_meet
              exact b2
            · have h4 : cols > 256 := by omega
              clear hb
              go_wp2_with fail
              go_meet
              exact b2
      · have HR := hideC (rows_any _ _ _ _ hm)
        have HC := hideC (cols_any _ _ _ _ hm)
        have ho := onesm_any _ _ _ _ hm (hT.below b2)
        rw [onesTo_none] at ho
        have HO := hideC ho; clear ho
        rw [List.length_replicate] at HR
        clear hm
        go_wp2_with fail
        refine HR.out.mono ?_
        rintro e w' ⟨rfl, rfl⟩
        go_wp2_with fail
        refine HC.out.mono ?_
        rintro e w' ⟨rfl, rfl⟩
        go_wp2_with fail
        refine HO.out.mono ?_
        rintro e w3 ⟨rfl, b3⟩
        go_wp2_with fail
        go_meet
        exact b2.trans (b3.mono b2.size)
    case rest =>
      clear hps b2
      have hcut0 := hcut
      refine hK2 _ _ ?_
      clear hK2
      go_wp2_with fail
      go_loopw [9, 10, 11] (fun l m i wr => ∃ (k : Nat) (vs : List Value), k ≤ 6 ∧ k ≤ zs.length ∧ i = .int .i64 k ∧ m = .int .i64 (mostOf zs k) ∧ wr.ownsRow w.heap.size 65 1 l k vs ∧ Sets wr vs (rowsOf zs k) ∧ Below w.heap.size w wr) (fun _ _ i _ => 6 - (intOf i).toNat)
      case atStart => exact ⟨0, [], by omega, Nat.zero_le _, rfl, rfl, World.ownsRow_nil _ _ _ _, Sets.nil _, by assumption⟩
      case round =>
        obtain ⟨k, vs, hk6, hk, rfl, rfl, hown, hsets, hbel⟩ := hrel
        rcases (show (k < zs.length ∧ k < 6) ∨ (k < zs.length ∧ ¬ k < 6) ∨ ¬ k < zs.length by omega) with ⟨hlt, hlt6⟩ | ⟨hlt, hlt6⟩ | hlt
        · obtain ⟨g, off, rfl, hg, hcell⟩ := HIN.out (by rw [List.length_map]; omega)
          have cz := onB hbel (hcell k (.int .u16 (zs.getD k 0 : Nat)) (by rw [List.getElem?_map, List.getD_eq_getElem?_getD, List.getElem?_eq_getElem hlt]; rfl))
          have nz : some g ≠ u9.ownBlock := own_cell hown hg
          have hzk : zs.getD k 0 ≤ 65535 := HZS.out _ (by rw [List.getD_eq_getElem?_getD, List.getElem?_eq_getElem hlt]; exact List.getElem_mem _)
          clear hcell
          have HS1 := Lib.hid (rowsOf_succ zs k)
          have HS2 : Hid (mostOf zs (k + 1) = max (max (mostOf zs k) ((zs.getD k 0 % 300 : Nat) : Int)) ((zs.getD k 0 % 7 : Nat) : Int)) := Lib.hid rfl
          obtain ⟨z, hzd⟩ : ∃ z, z = zs.getD k 0 := ⟨_, rfl⟩
          rw [← hzd] at cz hzk HS1 HS2
          clear hzd
          generalize mostOf zs k = mo at *
          obtain ⟨a, ha⟩ : ∃ a, a = z % 300 := ⟨_, rfl⟩
          obtain ⟨b, hb⟩ : ∃ b, b = z % 7 := ⟨_, rfl⟩
          have e1 : (z : Int).tmod 300 = (a : Int) := by rw [Int.tmod_eq_emod_of_nonneg (by omega)]; omega
          have e2 : (z : Int).tmod 7 = (b : Int) := by rw [Int.tmod_eq_emod_of_nonneg (by omega)]; omega
          have e3 : a < 300 := by omega
          have e4 : b < 7 := by omega
          have e5 := i64w (x := (a : Int)) ⟨by omega, by omega⟩
          have e6 := i64w (x := (b : Int)) ⟨by omega, by omega⟩
          have hro : rowOf z = setOf [(a : Int), (b : Int)] := by unfold rowOf; rw [← ha, ← hb]
          rw [← ha, ← hb] at HS2
          rw [hro] at HS1
          clear ha hb hro
          generalize hN : setOf [(a : Int), (b : Int)] = N at *
          go_wp2_with fail
          refine Late.wp_spine2 (fun W => But u9.ownBlock wr W) [0, 1, 2, 3, 4, 5, 6, 7, 8, 9, 10, 11, 12] [13, 14, 15, 16, 17] (by kernel_rfl) (by kernel_rfl) ?_
          iterate 13 (refine wpE_op (v := ?_) rfl rfl (fun W hW => ?_) ?_; rotate_left; (have x1 := hW.on cz nz; go_simp; first | done | with_reducible rfl); simp only [Act.put, List.setIfInBounds_toArray, List.set_cons_zero, List.set_cons_succ])
          have hX := Blk.new wr.drew 3 #[.int .i64 (a : Int), .int .i64 (b : Int)]
          have hbA : Below wr.heap.size wr (wr.drew.alloc (.cells #[.int .i64 (a : Int), .int .i64 (b : Int)] 3)) := (Below.refl _ _).drew.alloc (by simp) _
          have hof := of_any (some ⟨wr.heap.size, 0, none⟩) 2 [(a : Int), (b : Int)] _ (Row.of_blk hX fun k u hu => by simpa using hu) (by simp)
          rw [hN] at hof
          clear hN
          have HC := hideC hof; clear hof
          refine wpE_nil ⟨fun h => (by cases h), wpSp_op rfl ((But.refl _ _).below (Below.refl _ _).drew) ?_⟩
          go_wp2_with fail
          refine nxt_op rfl (.of_below hbA) ?_
          go_wp2_with fail
          refine HC.out.mono ?_
          rintro e w2 ⟨r, rfl, hset, hb2⟩
          obtain ⟨A3, c3, rfl, _⟩ := id hset
          have hb3 := hbA.trans (hb2.mono hbA.size)
          go_wp2_with fail
          refine nxt_op rfl (.of_below hb3) ?_
          go_wp2_with fail
          have hb4 := hb3.alloc hb3.size (.cells #[.slice A3 (nw N) c3] 65)
          have hown4 := own_below hown hb4
          have hS4 := (hsets.below hb4).snoc (hset.keep (KeepW.alloc _ (.cells #[.slice A3 (nw N) c3] 65)))
          have hsz := hbel.size
          have hsz3 := hb3.size
          have cz4 := onB hb4 cz
          refine nxt_op rfl (.of_below hb4) ?_
          go_wp2_with (at_builtin; refine wpList_append_own _ rfl _ _ 62 rfl (w.heap.size) 65 i0 (.agg #[.slice none 0 0]) 1 24 Tryd.underlying62 hi0 hz0 hz1 hz2 rfl (by decide) _ _ _ rfl (hown4) ⟨w2.heap.size, 0, none⟩ 1 1 [.slice A3 (nw N) c3] rfl rfl (cell_one_new _ _ _) (by simp [Value.oneCell']) (by unfold maxLen; omega) (by omega) (by simp; omega) ?_; intro v' w3 hown' hgrow _)
          have hbut := (But.of_below hb4).trans (But.grown hgrow)
          have cz5 := hbut.on cz nz
          have hbel3 := (hbel.trans (hb4.mono hbel.size)).grown hgrow (by simp; omega) (fun q hq => (hown4.lt q hq).1)
          have hS5 := hS4.keep (KeepW.grown hgrow hown4 (by decide))
          clear cz cz4
          refine nxt_op rfl hbut ?_
          go_wp2_with fail
          refine nxt_nil ?_
          go_wp2_with fail
          refine Late.wp_spine2 (fun W => Below w3.heap.size w3 W) [0, 1, 2, 3, 4, 5, 6, 7, 8, 9, 10, 11, 12, 13] [14] (by kernel_rfl) (by kernel_rfl) ?_
          obtain ⟨m2, hm2⟩ : ∃ m2, m2 = max (max mo (a : Int)) (b : Int) := ⟨_, rfl⟩
          have hmx : (if (if mo < (a : Int) then (a : Int) else mo) < (b : Int) then (b : Int) else if mo < (a : Int) then (a : Int) else mo) = m2 := by split <;> split <;> omega
          rw [← hm2] at HS2
          clear hm2
          iterate 14 (refine wpE_op (v := ?_) rfl rfl (fun W hW => ?_) ?_; rotate_left; (have x1 := onB hW cz5; go_simp; first | done | with_reducible rfl); simp only [Act.put, List.setIfInBounds_toArray, List.set_cons_zero, List.set_cons_succ])
          refine wpE_nil ⟨fun h => (by cases h), wpSp_op rfl (Below.refl _ _).drew ?_⟩
          go_wp2_with fail
          refine nxt_nil ?_
          go_wp2_with fail
          exact ⟨⟨k + 1, _, by omega, by omega, by go_num, by rw [HS2.out], own_below hown' (Below.refl _ _).drew, by rw [HS1.out]; exact hS5.below (Below.refl _ _).drew, hbel3.drew⟩, by simp [intOf]; omega⟩
        all_goals
          obtain ⟨B, d, rfl, h1, _, h2, _⟩ := row_of_own hown
          clear hown HIN HZS h1
          by_cases hbad : cols < 0 ∨ cols > 256
          · have HO := hideC (ofm_arg B k d cols wr (by omega))
            by_cases h3 : cols < 0
            · clear hbad
              go_wp2_with fail
              refine HO.out.mono ?_
              rintro e w' ⟨rfl, rfl⟩
              go_wp2_with fail
              go_ret
              exact ⟨rfl, hbel⟩
            · have h4 : cols > 256 := by omega
              clear hbad
              go_wp2_with fail
              refine HO.out.mono ?_
              rintro e w' ⟨rfl, rfl⟩
              go_wp2_with fail
              go_ret
              exact ⟨rfl, hbel⟩
          · obtain ⟨C, rfl⟩ := Int.eq_ofNat_of_zero_le (show 0 ≤ cols by omega)
            have hC : C ≤ 256 := by omega
            clear hbad
            have hof := ofm_any B d C vs (rowsOf zs k) wr h2 hsets hC (by rw [rowsOf_len]; omega)
            rw [rowsOf_len] at hof
            have HO := hideC hof; clear hof
            have HI := Lib.hid (rowsIn_rowsOf zs k C)
            have HL := Lib.hid (rowsOf_len zs k)
            generalize mostOf zs k = mo at *
            clear hsets h2
            go_wp2_with fail
            refine HO.out.mono ?_
            rintro e w2 (⟨rfl, hno, hb2⟩ | ⟨q, rfl, hyes, hm, hq, hb2⟩)
            · have hge : (C : Int) ≤ mo := by
                have : ¬ mo < C := fun h => hno (HI.out.2 h)
                omega
              clear hno
              go_wp2_with fail
              go_ret
              exact ⟨rfl, hbel.trans (hb2.mono hbel.size)⟩
            · have hge : mo < (C : Int) := HI.out.1 hyes
              have HR := rows_any _ _ _ _ hm
              rw [HL.out] at HR
              have HR := hideC HR
              have HC := hideC (cols_any _ _ _ _ hm)
              clear hyes hm hq
              go_wp2_with fail
              refine HR.out.mono ?_
              rintro e w' ⟨rfl, rfl⟩
              go_wp2_with fail
              refine HC.out.mono ?_
              rintro e w' ⟨rfl, rfl⟩
              go_wp2_with fail
              go_ret
              exact ⟨rfl, hbel.trans (hb2.mono hbel.size)⟩
end Go.Proofs.YtjlcnbfkblmoeaaDoor
