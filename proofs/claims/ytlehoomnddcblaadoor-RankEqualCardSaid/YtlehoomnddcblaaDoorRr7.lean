/-
  The reference of chapter 47: grow, Prove.
-/
import Derived.Test.YtlehoomnddcblaaDoorRr6
namespace Go.Proofs.YtlehoomnddcblaaDoor
open Go.RowKit

theorem kids_len {C : Nat} (Ns : List Nat) (last : Bool) (hC : C ≤ 5) (b : Nat) (o : List (Nat × Nat)) : ∀ (l : List Nat) (off : Nat), (kidsL (fun off s => growL C Ns last b off (lessL C Ns o s)) off l).1.length ≤ l.length * 33 ^ b
  | [], off => by simp [kidsL]
  | s :: l, off => by
    rw [kidsL]
    dsimp only
    have h1 := growL_len C Ns last hC b off (lessL C Ns o s)
    have h2 := kids_len Ns last hC b o l (off + (growL C Ns last b off (lessL C Ns o s)).length)
    rw [List.length_append, List.length_cons, Nat.add_mul, Nat.one_mul]
    omega
theorem own_pair {w : World} {base g : Nat} {a b : Int} (hB : Blk w g 40 #[.int .i64 a, .int .i64 b]) (hg : base ≤ g) : OwnP w base (.slice (some ⟨g, 0, none⟩) 1 1) [(a, b)] :=
  ⟨by simp [cellsP], .inr ⟨g, 1, _, rfl, hg, hB, by simp, by decide, by simp, by simp [cellsP]⟩⟩
theorem blk_two (w : World) (o : Obj) (cs : Array Value) (t : TypeId) : Blk ((w.alloc o).alloc (.cells cs t)) (w.heap.size + 1) t cs := by
  have := Blk.new (w.alloc o) t cs
  have e : (w.alloc o).heap.size = w.heap.size + 1 := by simp
  rwa [e] at this
theorem below_two (w : World) (o o' : Obj) : Below w.heap.size w ((w.alloc o).alloc o') := ((Below.refl _ _).alloc (Nat.le_refl _) o).alloc (by simp) o'
theorem own5 {w : World} {base n : Nat} {v : Value} {xs : List Value} {e : TypeId} {size : Nat} (h : w.ownsRow base e size v n xs) : ∃ A c, v = .slice A n c ∧ n ≤ c := by
  rcases id h.2 with ⟨hv, hn⟩ | ⟨g, cap, cur, hv, _, _, hnc, _⟩
  · exact ⟨none, 0, by rw [hv, hn], by omega⟩
  · exact ⟨_, cap, hv, hnc⟩
theorem cellL_head {o : List (Nat × Nat)} {x : Nat × Nat} (h : o[0]? = some x) : cellL false o = x := by
  unfold cellL
  rw [if_neg (by simp)]
  cases o with
  | nil => simp at h
  | cons a o => simpa using h
theorem cellL_last {o : List (Nat × Nat)} {x : Nat × Nat} (h : o[o.length - 1]? = some x) : cellL true o = x := by
  unfold cellL
  rw [if_pos rfl, List.getLastD_eq_getLast?, List.getLast?_eq_getElem?, h]; rfl
theorem gain_max {C : Nat} {Ns : List Nat} {o : List (Nat × Nat)} {L : List Nat} {k s : Nat} (h : L[k]? = some s) : ((L.take (k + 1)).map fun s => o.length - (lessL C Ns o s).length).foldl max 0 = max (((L.take k).map fun s => o.length - (lessL C Ns o s).length).foldl max 0) (o.length - (lessL C Ns o s).length) := by
  rw [List.take_add_one, h]; simp
theorem gain_bd {C : Nat} {Ns : List Nat} {o : List (Nat × Nat)} (L : List Nat) (k : Nat) : ((L.take k).map fun s => o.length - (lessL C Ns o s).length).foldl max 0 ≤ o.length := by
  refine foldl_max_bound _ _ _ (Nat.zero_le _) fun x hx => ?_
  obtain ⟨s, _, rfl⟩ := List.mem_map.1 hx
  omega
namespace Mix2
set_option maxRecDepth 100000 in
set_option maxHeartbeats 16000000 in
theorem grow_any (C : Nat) (A : Option Addr) (c : Nat) (M : List (List Bool)) (last : Bool) (hC : C ≤ 5) (hR : M.length ≤ 5) (w0 : World) (hI0 : IsRef w0 C A M) : ∀ (b base : Nat) (v vo : Value) (P : List Nd) (o : List (Nat × Nat)) (w : World), b ≤ 5 → w0.heap.size ≤ base → base ≤ w.heap.size → Below w0.heap.size w0 w → OwnN w base v P → P.length + 33 ^ b ≤ 100000000 → o.length ≤ 1000 → OwnP w 0 vo (cz o) → (∀ d ∈ o, d ∈ cellsOf (nsOf C M)) → ¬ Cov C (nsOf C M) b o →
    Calls Tryd.prog 97 #[refV C A M.length c, v, .int .i64 b, vo, .bool last] w fun e w' => ∃ v', e = .returned v' ∧ OwnN w' base v' (P ++ growL C (nsOf C M) last b P.length o) ∧ KeepT w w' ∧ Below base w w' := by
  obtain ⟨i0, hi0, hz0, hz1, hz2⟩ := info_parts info_node
  have hl : (nsOf C M).length ≤ 4096 := by rw [nsTo_len]; omega
  intro b
  induction b with
  | zero =>
    intro base v vo P o w hb5 hbase hbw hw0 hP hPl hlen ho hoc hcov
    have hne : o ≠ [] := fun e => hcov (by subst e; exact ⟨[], by simp, by simp, by simp⟩)
    obtain ⟨x, o', hoe⟩ := List.exists_cons_of_ne_nil hne
    have hpr := ho.pairs (by rw [cz_len]; omega)
    obtain ⟨B, d, rfl, hrow, hlc, hlm⟩ := id hpr
    have hget : o[0]? = some x := by rw [hoe]; rfl
    obtain ⟨g1, o1, rfl, hg1, c0, c1⟩ := row_pairs hrow (cz_get hget)
    rw [Nat.zero_mul, Nat.add_zero] at c0 c1
    have hgl : growL C (nsOf C M) last 0 P.length o = [⟨2, 0, 0, [], [((x.1 : Int), (x.2 : Int))]⟩] := by rw [growL, hoe]; rfl
    rw [hgl]
    rw [cz_len] at hlc hlm hpr ⊢
    have hpos : 0 < o.length := by rw [hoe]; simp
    obtain ⟨vss, hON⟩ := hP
    have hPl2 : P.length ≤ 100000000 := by omega
    obtain ⟨ol, hol⟩ : ∃ n, n = o.length := ⟨_, rfl⟩
    have HON := Lib.hid hON
    have hv := hON.own
    rw [← hol] at hpos ⊢
    obtain ⟨AP, cP, rfl, hPc⟩ := own5 hv
    clear hol hget hoe hne hgl hlc hlm hpr hrow hPl hON
    go_enter Tryd.func97, Tryd.ntmps97
    go_upto_region 4 with fail
    refine abs2 fun W h1 h2 hb hz => ?_
    clear hz
    obtain ⟨gP, hgP⟩ : ∃ g, g = w.heap.size + 1 := ⟨_, rfl⟩
    rw [← hgP] at h2 ⊢
    clear hgP
    have p0 := h2.cell 0
    have p1 := h2.cell 1
    have l2 := h2.lt
    have hsz := hb.size
    have hWB := below_two W (.cells #[.int .i64 x.1, .int .i64 x.2] 40) (.cells #[.int .i64 2, .int .i64 0, .int .i64 0, .slice none 0 0, .slice (some ⟨W.heap.size, 0, none⟩) 1 1] 39)
    have hbn := blk_two W (.cells #[.int .i64 x.1, .int .i64 x.2] 40) #[.int .i64 2, .int .i64 0, .int .i64 0, .slice none 0 0, .slice (some ⟨W.heap.size, 0, none⟩) 1 1] 39
    have hbp : Blk ((W.alloc (.cells #[.int .i64 x.1, .int .i64 x.2] 40)).alloc (.cells #[.int .i64 2, .int .i64 0, .int .i64 0, .slice none 0 0, .slice (some ⟨W.heap.size, 0, none⟩) 1 1] 39)) W.heap.size 40 #[.int .i64 x.1, .int .i64 x.2] :=
      (Blk.new W _ _).below ((Below.refl _ _).alloc (Nat.le_refl _) _) (Blk.new W _ _).lt
    have hown := own_below (own_below hv hb) hWB
    have HNW := hideC (World.news_of_block hbn)
    have HBN := Lib.hid hbp
    clear hbn hbp
    go_wp2_with (at_builtin; refine wpList_append_own _ rfl _ _ 31 rfl base 39 i0 (.agg #[.int .i64 0, .int .i64 0, .int .i64 0, .slice none 0 0, .slice none 0 0]) 5 72 Tryd.underlying31 hi0 hz0 hz1 hz2 rfl (by decide) _ _ _ rfl hown ⟨W.heap.size + 1, 0, none⟩ 1 1 [.int .i64 2, .int .i64 0, .int .i64 0, .slice none 0 0, .slice (some ⟨W.heap.size, 0, none⟩) 1 1] rfl rfl HNW.out (by simp [Value.oneCell']) (by unfold maxLen; omega) (by omega) (by simp; omega) ?_; intro v' w3 hown' hgrow _)
    go_ret
    refine ⟨v', rfl, ⟨_, ((HON.out.below hb).below hWB).app (x := ⟨2, 0, 0, [], [((x.1 : Int), (x.2 : Int))]⟩) ⟨_, _, rfl, World.ownsRow_nil _ _ _ _, own_pair HBN.out (by omega)⟩ rfl hgrow hown'⟩, ?_, ?_⟩
    · exact ((KeepT.of_below hb).trans (KeepT.of_below hWB)).trans (KeepT.grown hgrow hown (.inl rfl))
    · exact ((hb.mono hbw).trans (hWB.mono (by omega))).grown hgrow (by simp; omega) (fun p hp => (hown.lt p hp).1)
  | succ b ih =>
    intro base v vo P o w hb5 hbase hbw hw0 hP hPl hlen ho hoc hcov
    have hne : o ≠ [] := fun e => hcov (by subst e; exact ⟨[], by simp, by simp, by simp⟩)
    have hpos : 0 < o.length := List.length_pos_iff.2 hne
    have hpw : 1 ≤ 33 ^ b := Nat.one_le_pow _ _ (by omega)
    have hpw2 : 33 ^ (b + 1) = 33 ^ b * 33 := Nat.pow_succ _ _
    have hPl2 : P.length + 33 * 33 ^ b ≤ 100000000 := by omega
    have hpr := ho.pairs (by rw [cz_len]; omega)
    obtain ⟨B, d, rfl, hrow, hlc, hlm⟩ := id hpr
    have hlow := own_below (w' := w) hP.choose_spec.own (Below.refl _ _)
    obtain ⟨AP, cP, rfl, hPc⟩ := own5 hlow
    have hI : IsRef w C A M := hI0.below hw0
    -- all concepts, and the greatest gain
    have hall := fun W (hb : Below w.heap.size w W) => all47_any C A c M W (hI.below hb) (by omega) (by omega)
    have hmost := most_all (C := C) (Ns := nsOf C M) o
    have hgm := fun (k s : Nat) (hs : (allL C (nsOf C M))[k]? = some s) => gain_max (C := C) (Ns := nsOf C M) (o := o) hs
    have hgb := fun k => gain_bd (C := C) (Ns := nsOf C M) (o := o) (allL C (nsOf C M)) k
    have hg0 : (((allL C (nsOf C M)).take 0).map fun s => o.length - (lessL C (nsOf C M) o s).length).foldl max 0 = 0 := by simp
    have hge : (((allL C (nsOf C M)).take (allL C (nsOf C M)).length).map fun s => o.length - (lessL C (nsOf C M) o s).length).foldl max 0 = mostL C (nsOf C M) o := by rw [List.take_length]; exact hmost
    have hll := fun s => lessL_len C (nsOf C M) o s
    have hwo := fun W s (hb : Below w.heap.size w W) (hu : IsPairs W (.slice B o.length d) (cz o)) => without_ref C A c M _ o s W (hI.below hb) (by omega) (by omega) hu fun x hx => ⟨(cells_has (by omega) (hoc x hx)).1, (cells_has (by omega) (hoc x hx)).2.1⟩
    have hA4 : (allL C (nsOf C M)).length ≤ 4096 := Nat.le_trans (allTo_len C (nsOf C M) (2 ^ C)) (Nat.le_trans (Nat.pow_le_pow_right (by omega) (show C ≤ 12 by omega)) (by decide))
    have hA64 : ∀ s ∈ allL C (nsOf C M), s < 2 ^ 64 := fun s hs => by
      have := ((mem_allTo (2 ^ C)).1 hs).1
      have : 2 ^ C ≤ 2 ^ 12 := Nat.pow_le_pow_right (by omega) (by omega)
      omega
    obtain ⟨LA, hLA⟩ : ∃ L, L = allL C (nsOf C M) := ⟨_, rfl⟩
    rw [← hLA] at hall hgm hgb hg0 hge hA4 hA64
    obtain ⟨T, hT⟩ : ∃ T : Nat → Nat, T = fun k => ((LA.take k).map fun s => o.length - (lessL C (nsOf C M) o s).length).foldl max 0 := ⟨_, rfl⟩
    have hTs : ∀ k, ((LA.take k).map fun s => o.length - (lessL C (nsOf C M) o s).length).foldl max 0 = T k := fun k => by rw [hT]
    simp only [hTs] at hgm hgb hg0 hge
    rw [cz_len] at hlc hlm hpr ho ⊢
    have HALL := Lib.hid hall; have HGM := Lib.hid hgm; have HGB := Lib.hid hgb; have HG0 := Lib.hid hg0; have HGE := Lib.hid hge; have HLL := Lib.hid hll; have HWO := Lib.hid hwo; have HA64 := Lib.hid hA64; have HP := Lib.hid hP; have HIH := Lib.hid ih; have HOC := Lib.hid hoc; have HROW := Lib.hid hrow; have HCOV := Lib.hid hcov; have HO := Lib.hid ho
    have hPb : IsPairs w (.slice B o.length d) (cz o) := hpr
    have hbw' := Below.refl w.heap.size w
    clear hall hgm hgb hg0 hge hll hwo hA64 hP ih hoc hcov ho hmost hT hTs hLA hrow hpr hlow hne hpw2
    go_enter Tryd.func97, Tryd.ntmps97
    go_wp2_with fail
    refine absC1 fun W1 hX hb hz => ?_
    clear hz
    obtain ⟨X, hXe⟩ : ∃ g, g = w.heap.size := ⟨_, rfl⟩
    have hXlo : w.heap.size ≤ X := by omega
    rw [← hXe] at hX ⊢
    clear hXe
    have hbw1 := hbw'.trans (hb.mono hbw'.size)
    clear hb
    refine (HALL.out W1 hbw1).mono ?_
    rintro e W2 ⟨vL, rfl, hoL, hb⟩
    obtain ⟨AL, cL, rfl, hLc, -, hLr, -⟩ := row_of_own hoL
    clear hoL
    have hbw2 := hbw1.trans (hb.mono hbw1.size)
    have hX2 := hX.below hb hX.lt
    clear hb hX hbw1 hbw'
    go_wp2_with fail
    have h0' : ((0 : Int)) = ((T 0 : Nat) : Int) := by rw [HG0.out]; rfl
    refine wp_loopF (β := Nat) (fun k f => #[f 0, .slice AP P.length cP, .int .i64 ((b + 1 : Nat) : Int), .slice B o.length d, .bool last, .pointer (some ⟨X, 0, none⟩), f 6, f 7, f 8, f 9, .slice none 0 0, .int .i64 (P.length : Int), f 12, .int .i64 (T k : Int), f 14, f 15, f 16, f 17, f 18, f 19, f 20, f 21, f 22, f 23, f 24, f 25, f 26, f 27, f 28, f 29, f 30, f 31, f 32, .slice AL LA.length cL, .int .i64 (LA.length : Int), .int .i64 (k : Int), f 36, f 37, f 38, f 39, f 40, f 41, f 42, f 43, f 44, f 45, f 46, f 47, f 48, f 49, f 50, f 51, f 52, f 53, f 54, f 55, f 56, f 57, f 58, f 59, f 60, f 61, f 62, f 63, f 64, f 65, f 66, f 67, f 68, f 69, f 70, f 71, f 72, f 73, f 74, f 75, f 76, f 77, f 78, f 79, f 80, f 81, f 82, f 83, f 84, f 85, f 86, f 87, f 88, f 89, f 90, f 91, f 92, f 93, f 94, f 95, f 96, f 97, f 98, f 99, f 100, f 101, f 102, f 103, f 104, f 105, f 106, f 107, f 108, f 109, f 110, f 111, f 112, f 113, f 114, f 115, f 116])
      (fun k ds V => k ≤ LA.length ∧ ds = [] ∧ Below W2.heap.size W2 V) (fun k => LA.length - k) 0 (by rw [← h0']; rfl) ⟨Nat.zero_le _, rfl, Below.refl _ _⟩ ?_
    clear h0'
    rintro k f ds V ⟨hk, rfl, hv⟩
    dsimp only at hk ⊢
    have hbV := hbw2.trans (hv.mono hbw2.size)
    have hXV := hX2.below hv hX2.lt
    by_cases hlt : k < LA.length
    · obtain ⟨s, hs⟩ : ∃ s, LA[k]? = some s := ⟨_, List.getElem?_eq_getElem hlt⟩
      obtain ⟨g2, o2, rfl, hg2, hc2⟩ := (hLr.below hv) (by rw [List.length_map]; omega)
      have d2 := hc2 k (.int .u64 (s : Int)) (by rw [List.getElem?_map, hs]; rfl)
      have x0 := hXV.cell 0
      have x1 := hXV.cell 1
      have hg := HGM.out k s hs
      have hl1 := HLL.out s
      have hb1 := HGB.out k
      have hW := HWO.out V s hbV (hPb.below hbV)
      obtain ⟨m, hm⟩ : ∃ m, m = (lessL C (nsOf C M) o s).length := ⟨_, rfl⟩
      obtain ⟨Z, hZ⟩ : ∃ Z, Z = cz (lessL C (nsOf C M) o s) := ⟨_, rfl⟩
      have hZl : Z.length = m := by rw [hZ, cz_len, hm]
      rw [← hZ] at hW
      rw [← hm] at hg hl1
      have e1 : wrap64 ((o.length : Int) - (m : Int)) = ((o.length - m : Nat) : Int) := by rw [IntWalk.wrap64_in _ ⟨by omega, by omega⟩]; omega
      have e2 : max (T k : Int) ((o.length - m : Nat) : Int) = (T (k + 1) : Int) := by rw [hg]; omega
      have HW := hideC hW
      have HE1 := Lib.hid e1; have HE2 := Lib.hid e2; have HZL := Lib.hid hZl
      clear hc2 hs hg hl1 hW hm hZ e1 e2 hZl
      go_wp2_with fail
      refine HW.out.mono ?_
      rintro e V2 ⟨u7, rfl, hu7, hb⟩
      obtain ⟨A7, c7, rfl, -⟩ := own5 hu7
      have hv2 := hv.trans (hb.mono hv.size)
      have hz7 := HZL.out
      have e1 := HE1.out
      have e2 := HE2.out
      rw [hz7]
      clear hu7 hz7
      go_wp2_with fail
      exact ⟨k + 1, by first | rfl | (rw [← e2]; rfl), ⟨by omega, by first | rfl | trivial, hv2⟩, by omega⟩
    · obtain rfl : k = LA.length := by omega
      have hTe := HGE.out
      have hTb := HGB.out LA.length
      obtain ⟨mo, hmo⟩ : ∃ m, m = T LA.length := ⟨_, rfl⟩
      rw [← hmo] at hTe hTb ⊢
      have hmul : (b + 1) * mo ≤ 6 * 1000 := Nat.mul_le_mul (by omega) (by omega)
      have hmw : wrap64 (((b + 1 : Nat) : Int) * (mo : Int)) = (((b + 1) * mo : Nat) : Int) := by
        rw [← Int.natCast_mul]
        exact IntWalk.wrap64_in _ ⟨by omega, by omega⟩
      have hgl : growL C (nsOf C M) last (b + 1) P.length o = if (b + 1) * mo < o.length ∧ last = true then [⟨3, 0, 0, [], []⟩] else ⟨1, ((cellL last o).1 : Int), ((cellL last o).2 : Int), (kidsL (fun off s => growL C (nsOf C M) last b off (lessL C (nsOf C M) o s)) (P.length + 1) (conL C (nsOf C M) (cellL last o).1 (cellL last o).2)).2, []⟩ :: (kidsL (fun off s => growL C (nsOf C M) last b off (lessL C (nsOf C M) o s)) (P.length + 1) (conL C (nsOf C M) (cellL last o).1 (cellL last o).2)).1 := by rw [growL, hTe]
      have hmw2 : wrap64 (((b : Int) + 1) * (mo : Int)) = (((b + 1) * mo : Nat) : Int) := by rw [← hmw]; rfl
      have HGL := Lib.hid hgl; have HMW := Lib.hid hmw; have HMW2 := Lib.hid hmw2
      obtain ⟨bm, hbm⟩ : ∃ n, n = (b + 1) * mo := ⟨_, rfl⟩
      rw [← hbm] at HGL HMW HMW2 hmul
      have HBM := Lib.hid hbm
      clear hgl hmw hmw2 hTe hTb hmo hlt hk hbm
      go_upto_region 11 with fail
      refine wp_frame (fun g => #[g 0, .slice AP P.length cP, .int .i64 ((b + 1 : Nat) : Int), .slice B o.length d, .bool last, .pointer (some ⟨X, 0, none⟩), g 6, g 7, g 8, g 9, .slice none 0 0, .int .i64 (P.length : Int), g 12, .int .i64 (mo : Int), g 14, g 15, g 16, g 17, g 18, g 19, g 20, g 21, g 22, g 23, g 24, g 25, g 26, g 27, g 28, g 29, g 30, g 31, g 32, g 33, g 34, g 35, g 36, g 37, g 38, g 39, g 40, g 41, g 42, g 43, g 44, g 45, g 46, g 47, g 48, g 49, g 50, g 51, g 52, g 53, g 54, g 55, g 56, g 57, g 58, g 59, g 60, g 61, g 62, g 63, g 64, g 65, g 66, g 67, g 68, g 69, g 70, g 71, g 72, g 73, g 74, g 75, g 76, g 77, g 78, g 79, g 80, g 81, g 82, g 83, g 84, g 85, g 86, g 87, g 88, g 89, g 90, g 91, g 92, g 93, g 94, g 95, g 96, g 97, g 98, g 99, g 100, g 101, g 102, g 103, g 104, g 105, g 106, g 107, g 108, g 109, g 110, g 111, g 112, g 113, g 114, g 115, g 116]) rfl fun g => ?_
      dsimp only
      obtain ⟨Vc, hVc⟩ : ∃ W, W = V := ⟨_, rfl⟩
      subst hVc
      go_cut [58] (fun s wx => s = .bool (decide (bm < o.length) && last) ∧ Vc = wx)
      case first =>
        have hmw := HMW.out
        have hmw2 := HMW2.out
        by_cases hcn : bm < o.length
        · have hcn2 : decide (bm < o.length) = true := decide_eq_true hcn
          go_wp2_with fail
          go_meet
          exact ⟨by rw [hcn2]; cases last <;> rfl, rfl⟩
        · have hcn2 : decide (bm < o.length) = false := decide_eq_false hcn
          go_wp2_with fail
          go_meet
          exact ⟨by rw [hcn2]; rfl, rfl⟩
      case rest =>
      obtain ⟨rfl, rfl⟩ := hcut
      by_cases hcnt : bm < o.length ∧ last = true
      · obtain ⟨hcn, rfl⟩ := hcnt
        rw [decide_eq_true hcn]
        have HG2 := Lib.hid (HGL.out.trans (if_pos ⟨hcn, rfl⟩))
        obtain ⟨vss, hON⟩ := HP.out
        have hWB : Below Vc.heap.size Vc (Vc.alloc (.cells #[.int .i64 3, .int .i64 0, .int .i64 0, .slice none 0 0, .slice none 0 0] 39)) := (Below.refl _ _).alloc (Nat.le_refl _) _
        have hown := own_below (own_below hON.own hbV) hWB
        have HNW := hideC (World.news_of_block (Blk.new Vc 39 #[.int .i64 3, .int .i64 0, .int .i64 0, .slice none 0 0, .slice none 0 0]))
        have HON := Lib.hid hON
        have hszV := hbV.size
        clear hON HGL HMW HMW2
        go_wp2_with (at_builtin; refine wpList_append_own _ rfl _ _ 31 rfl base 39 i0 (.agg #[.int .i64 0, .int .i64 0, .int .i64 0, .slice none 0 0, .slice none 0 0]) 5 72 Tryd.underlying31 hi0 hz0 hz1 hz2 rfl (by decide) _ _ _ rfl hown ⟨Vc.heap.size, 0, none⟩ 1 1 [.int .i64 3, .int .i64 0, .int .i64 0, .slice none 0 0, .slice none 0 0] rfl rfl HNW.out (by simp [Value.oneCell']) (by unfold maxLen; omega) (by omega) (by simp; omega) ?_; intro v' w3 hown' hgrow _)
        go_ret
        refine ⟨v', rfl, ?_, ?_, ?_⟩
        · rw [HG2.out]
          exact ⟨_, ((HON.out.below hbV).below hWB).app (x := ⟨3, 0, 0, [], []⟩) ⟨_, _, rfl, World.ownsRow_nil _ _ _ _, OwnP.nil _ _⟩ rfl hgrow hown'⟩
        · exact ((KeepT.of_below hbV).trans (KeepT.of_below hWB)).trans (KeepT.grown hgrow hown (.inl rfl))
        · exact ((hbV.mono hbw).trans (hWB.mono (by omega))).grown hgrow (by simp; omega) (fun p hp => (hown.lt p hp).1)
      · have HG2 := Lib.hid (HGL.out.trans (if_neg hcnt))
        have hf : (decide (bm < o.length) && last) = false := by
          rw [Bool.and_eq_false_iff]
          by_cases h : bm < o.length
          · exact .inr (by cases last; rfl; exact absurd ⟨h, rfl⟩ hcnt)
          · exact .inl (decide_eq_false h)
        rw [hf]
        clear HGL HMW HMW2 hf hcnt HBM HGM HGB HG0 HGE HLL HA64 HALL hA4 hLr hLc hX2 hv hbw2 hmul
        obtain ⟨x, hx⟩ : ∃ x, o[0]? = some x := ⟨_, List.getElem?_eq_getElem hpos⟩
        obtain ⟨g1, o1, rfl, hg1, c0, c1⟩ := row_pairs (HROW.out.below hbV) (cz_get hx)
        obtain ⟨y, hy⟩ : ∃ y, o[o.length - 1]? = some y := ⟨_, List.getElem?_eq_getElem (by omega)⟩
        obtain ⟨g1', o1', he1, hg1', e0, e1⟩ := row_pairs (HROW.out.below hbV) (cz_get hy)
        cases he1
        rw [Nat.zero_mul, Nat.add_zero] at c0 c1
        have HX0 := Lib.hid hx; have HY0 := Lib.hid hy
        have hclm := cellL_mem (last := last) (List.length_pos_iff.1 hpos)
        obtain ⟨hq1, hq2, hq3⟩ := cells_has (show C ≤ 4096 by omega) (HOC.out _ hclm)
        have hok := mem_cellsOf.1 (HOC.out _ hclm)
        have HCLM := Lib.hid hclm
        clear hx hy hclm hok
        go_upto_if 66 with fail
        refine abs1 fun W16 h16 hb hz => ?_
        clear hz
        obtain ⟨g16, hg16⟩ : ∃ g, g = Vc.heap.size := ⟨_, rfl⟩
        have h16lo : Vc.heap.size ≤ g16 := by omega
        rw [← hg16] at h16 ⊢
        clear hg16
        refine wp_frame (fun g => #[g 0, .slice AP P.length cP, .int .i64 ((b + 1 : Nat) : Int), .slice (some ⟨g1, o1, none⟩) o.length d, .bool last, .pointer (some ⟨X, 0, none⟩), g 6, g 7, g 8, g 9, .slice none 0 0, .int .i64 (P.length : Int), g 12, g 13, g 14, g 15, .pointer (some ⟨g16, 0, none⟩), g 17, g 18, g 19, g 20, g 21, g 22, g 23, g 24, g 25, g 26, g 27, g 28, g 29, g 30, g 31, g 32, g 33, g 34, g 35, g 36, g 37, g 38, g 39, g 40, g 41, g 42, g 43, g 44, g 45, g 46, g 47, g 48, g 49, g 50, g 51, g 52, g 53, g 54, g 55, g 56, g 57, g 58, g 59, g 60, g 61, g 62, g 63, g 64, g 65, .bool last, g 67, g 68, g 69, g 70, g 71, g 72, g 73, g 74, g 75, g 76, g 77, g 78, g 79, g 80, g 81, g 82, g 83, g 84, g 85, g 86, g 87, g 88, g 89, g 90, g 91, g 92, g 93, g 94, g 95, g 96, g 97, g 98, g 99, g 100, g 101, g 102, g 103, g 104, g 105, g 106, g 107, g 108, g 109, g 110, g 111, g 112, g 113, g 114, g 115, g 116]) rfl fun g => ?_
        dsimp only
        obtain ⟨W15, hW15⟩ : ∃ W, W = W16 := ⟨_, rfl⟩
        subst hW15
        go_cut [] (fun wx => Blk wx g16 40 #[.int .i64 ((cellL last o).1 : Int), .int .i64 ((cellL last o).2 : Int)] ∧ Below Vc.heap.size Vc wx)
        case first =>
          cases last with
          | false =>
            have HCH := Lib.hid (cellL_head HX0.out)
            clear HCLM hq1 hq2 hq3
            go_wp2_with fail
            go_meet
            rw [HCH.out]
            exact ⟨h16, hb⟩
          | true =>
            have HCH := Lib.hid (cellL_last HY0.out)
            clear HCLM hq1 hq2 hq3
            have k0 := onB hb e0
            have k1 := onB hb e1
            have p0 := h16.cell 0
            have p1 := h16.cell 1
            have f0 := h16.frozen 0
            have f1 := h16.frozen 1
            have l16 := h16.lt
            have eo : wrap64 ((o.length : Int) - 1) = ((o.length - 1 : Nat) : Int) := by rw [IntWalk.wrap64_in _ ⟨by omega, by omega⟩]; omega
            have eo1 : o.length - 1 < o.length := by omega
            go_wp2_with fail
            go_meet
            rw [HCH.out]
            exact ⟨by have := (h16.set_ 0 (.int .i64 y.1)).set_ 1 (.int .i64 y.2); simpa using this, (hb.setCell (p := ⟨g16, 0, none⟩) h16lo _).setCell (p := ⟨g16, 1, none⟩) h16lo _⟩
        case rest =>
        obtain ⟨h16, hb16⟩ := hcut
        have hbx := hbV.trans (hb16.mono hbV.size)
        have hX16 := hXV.below hb16 hXV.lt
        have hszx := hbx.size
        obtain ⟨cl, hcl⟩ : ∃ x, x = cellL last o := ⟨_, rfl⟩
        rw [← hcl] at h16 hq1 hq2 hq3 HCLM HG2
        have HCL := Lib.hid hcl
        clear hcl HX0 HY0 c0 c1 e0 e1 hXV hb16
        obtain ⟨vss, hON⟩ := HP.out
        have p0 := h16.cell 0
        have p1 := h16.cell 1
        have l16 := h16.lt
        have hWB : Below wc.heap.size wc (wc.alloc (.cells #[.int .i64 1, .int .i64 cl.1, .int .i64 cl.2, .slice none 0 0, .slice none 0 0] 39)) := (Below.refl _ _).alloc (Nat.le_refl _) _
        have hown := own_below (own_below hON.own hbx) hWB
        have HNW := hideC (World.news_of_block (Blk.new wc 39 #[.int .i64 1, .int .i64 cl.1, .int .i64 cl.2, .slice none 0 0, .slice none 0 0]))
        have HON := Lib.hid hON
        clear hON
        go_wp2_with (at_builtin; refine wpList_append_own _ rfl _ _ 31 rfl base 39 i0 (.agg #[.int .i64 0, .int .i64 0, .int .i64 0, .slice none 0 0, .slice none 0 0]) 5 72 Tryd.underlying31 hi0 hz0 hz1 hz2 rfl (by decide) _ _ _ rfl hown ⟨wc.heap.size, 0, none⟩ 1 1 [.int .i64 1, .int .i64 cl.1, .int .i64 cl.2, .slice none 0 0, .slice none 0 0] rfl rfl HNW.out (by simp [Value.oneCell']) (by unfold maxLen; omega) (by omega) (by simp; omega) ?_)
        intro v' w3 hown' hgrow _
        have hN3 : OwnN w3 base v' (P ++ [⟨1, (cl.1 : Int), (cl.2 : Int), [], []⟩]) := ⟨_, ((HON.out.below hbx).below hWB).app (x := ⟨1, (cl.1 : Int), (cl.2 : Int), [], []⟩) ⟨_, _, rfl, World.ownsRow_nil _ _ _ _, OwnP.nil _ _⟩ rfl hgrow hown'⟩
        have kt3 := ((KeepT.of_below hbx).trans (KeepT.of_below hWB)).trans (KeepT.grown hgrow hown (.inl rfl))
        have ktc := (KeepT.of_below hWB).trans (KeepT.grown hgrow hown (.inl rfl))
        have bw3 := ((hbx.mono hbw).trans (hWB.mono (by omega))).grown hgrow (by simp; omega) (fun p hp => (hown.lt p hp).1)
        have hX3 := hX16.kt ktc (by decide) (by decide)
        have h16_3 := h16.kt ktc (by decide) (by decide)
        clear hown' hgrow HON hown hWB HNW p0 p1 l16 hX16 h16 ktc vss HP
        obtain ⟨v1, hv1⟩ : ∃ v, v = v' := ⟨_, rfl⟩
        subst hv1
        have p0 := h16_3.cell 0
        have p1 := h16_3.cell 1
        have x0 := hX3.cell 0
        have x1 := hX3.cell 1
        have hI3 : ∀ W, Below base w W → IsRef W C A M := fun W hW => hI0.below (hw0.trans (hW.mono hbase))
        have hcc := concr_any C A c M (cl.1 : Int) (cl.2 : Int) w3 (hI3 w3 bw3) (by omega) (by omega)
        have hcr : conR C M (cl.1 : Int) (cl.2 : Int) = conL C (nsOf C M) cl.1 cl.2 := by unfold conR; rw [if_pos hq3, Int.toNat_natCast, Int.toNat_natCast]
        rw [hcr] at hcc
        have HC3 := hideC hcc
        have HI3 := Lib.hid hI3
        clear hcc hcr hI3
        go_wp2_with fail
        refine HC3.out.mono ?_
        rintro e w4 ⟨vL, rfl, hoL, hb⟩
        have hCll := con_len (C := C) (nsOf C M) cl.1 cl.2
        have hC32 : 2 ^ C ≤ 32 := Nat.le_trans (Nat.pow_le_pow_right (by omega) hC) (by decide)
        have hC64 : ∀ s ∈ conL C (nsOf C M) cl.1 cl.2, s < 2 ^ 64 := fun s hs => con_lt64 (by omega) hs
        have hCclo : ∀ s ∈ conL C (nsOf C M) cl.1 cl.2, cloN C (nsOf C M) s = s := fun s hs => (mem_con (c := cl)).1 hs |>.1
        obtain ⟨CL, hCLe⟩ : ∃ L, L = conL C (nsOf C M) cl.1 cl.2 := ⟨_, rfl⟩
        rw [← hCLe] at hoL hCll hC64 hCclo HG2
        have hN4 := hN3.below hb
        have hX4 := hX3.below hb hX3.lt
        have kt4 := kt3.trans (KeepT.of_below hb)
        have bw4 := bw3.trans (hb.mono (Nat.le_trans hbw kt3.1))
        have hCl : CL.length ≤ 32 := Nat.le_trans hCll hC32
        obtain ⟨ALL, cLL, rfl, hLLc⟩ := own5 hoL
        -- what has grown behind the node
        obtain ⟨kq, hkq⟩ : ∃ f : Nat → Nat → List Nd, f = fun off s => growL C (nsOf C M) last b off (lessL C (nsOf C M) o s) := ⟨_, rfl⟩
        have hkl := fun (l : List Nat) (off : Nat) => kids_len (C := C) (nsOf C M) last hC b o l off
        rw [← hkq] at HG2 hkl
        obtain ⟨Kk, hKk⟩ : ∃ f : Nat → List Nd, f = fun k => (kidsL kq (P.length + 1) (CL.take k)).1 := ⟨_, rfl⟩
        obtain ⟨Ck, hCk⟩ : ∃ f : Nat → List Int, f = fun k => (kidsL kq (P.length + 1) (CL.take k)).2 := ⟨_, rfl⟩
        have hK0 : Kk 0 = [] := by rw [hKk]; rfl
        have hC0 : Ck 0 = [] := by rw [hCk]; rfl
        have hstep : ∀ k s, CL[k]? = some s → Kk (k + 1) = Kk k ++ kq (P.length + 1 + (Kk k).length) s ∧ Ck (k + 1) = Ck k ++ [((P.length + 1 + (Kk k).length : Nat) : Int)] := fun k s hs => by
          have e : CL.take (k + 1) = CL.take k ++ [s] := by rw [List.take_add_one, hs]; rfl
          rw [hKk, hCk]
          dsimp only
          rw [e, kidsL_snoc]
          exact ⟨rfl, rfl⟩
        have hKl : ∀ k, (Kk k).length ≤ k * 33 ^ b := fun k => by
          rw [hKk]
          refine Nat.le_trans (hkl (CL.take k) (P.length + 1)) (Nat.mul_le_mul_right _ ?_)
          rw [List.length_take]; omega
        have hCkl : ∀ k, (Ck k).length ≤ 32 := fun k => by
          rw [hCk]
          dsimp only
          rw [kidsL_len, List.length_take]; omega
        have hend : (⟨1, (cl.1 : Int), (cl.2 : Int), Ck CL.length, []⟩ : Nd) :: Kk CL.length = growL C (nsOf C M) last (b + 1) P.length o := by
          rw [HG2.out, hKk, hCk]
          dsimp only
          rw [List.take_length]
        have HK0 := Lib.hid hK0; have HC0 := Lib.hid hC0; have HST := Lib.hid hstep; have HKL := Lib.hid hKl; have HEND := Lib.hid hend; have HCKL := Lib.hid hCkl; have HC64 := Lib.hid hC64; have HCLO := Lib.hid hCclo; have HKQ := Lib.hid (fun off s => congrFun (congrFun hkq off) s)
        clear hK0 hC0 hstep hKl hend hkl hCkl hC64 hCclo hkq hKk hCk hCLe hCll hC32 HG2 HCLM HCL hb hX3 hN3 kt3 bw3 p0 p1 x0 x1 h16_3 HC3
        obtain ⟨i1, hi1, hy0, hy1, hy2⟩ := info_parts info_int
        go_wp2_with fail
        refine wp_loopF (β := Nat × Value) (fun x f => #[f 0, x.2, .int .i64 ((b + 1 : Nat) : Int), .slice (some ⟨g1, o1, none⟩) o.length d, .bool last, .pointer (some ⟨X, 0, none⟩), f 6, f 7, f 8, f 9, .slice none 0 0, .int .i64 (P.length : Int), f 12, f 13, f 14, f 15, f 16, f 17, f 18, f 19, f 20, f 21, f 22, f 23, f 24, f 25, f 26, f 27, f 28, f 29, f 30, f 31, f 32, f 33, f 34, f 35, f 36, f 37, f 38, f 39, f 40, f 41, f 42, f 43, f 44, f 45, f 46, f 47, f 48, f 49, f 50, f 51, f 52, f 53, f 54, f 55, f 56, f 57, f 58, f 59, f 60, f 61, f 62, f 63, f 64, f 65, f 66, f 67, f 68, f 69, f 70, f 71, f 72, f 73, f 74, f 75, f 76, f 77, f 78, f 79, f 80, f 81, f 82, f 83, f 84, f 85, .slice ALL CL.length cLL, .int .i64 (CL.length : Int), .int .i64 (x.1 : Int), f 89, f 90, f 91, f 92, f 93, f 94, f 95, f 96, f 97, f 98, f 99, f 100, f 101, f 102, f 103, f 104, f 105, f 106, f 107, f 108, f 109, f 110, f 111, f 112, f 113, f 114, f 115, f 116])
          (fun x ds W => x.1 ≤ CL.length ∧ ds = [] ∧ OwnN W base x.2 (P ++ (⟨1, (cl.1 : Int), (cl.2 : Int), Ck x.1, []⟩ :: Kk x.1)) ∧ KeepT w4 W ∧ Below base w W) (fun x => CL.length - x.1) (0, v1) rfl
          ⟨Nat.zero_le _, rfl, by dsimp only; rw [HC0.out, HK0.out]; exact hN4, KeepT.refl _, bw4⟩ ?_
        clear hN4 bw4
        rintro ⟨k, v⟩ f ds W ⟨hk, rfl, hN, ktW, bW⟩
        dsimp only at hk hN ⊢
        have ktw := kt4.trans ktW
        have hszW := ktw.1
        by_cases hlt : k < CL.length
        · obtain ⟨s, hs⟩ : ∃ s, CL[k]? = some s := ⟨_, List.getElem?_eq_getElem hlt⟩
          obtain ⟨_, _, e9, _, _, hLr, _⟩ := row_of_own (own_kt hoL ktW (by decide) (by decide))
          cases e9
          obtain ⟨g2, o2, rfl, hg2, hc2⟩ := hLr (by rw [List.length_map]; omega)
          have d2 := hc2 k (.int .u64 (s : Int)) (by rw [List.getElem?_map, hs]; rfl)
          obtain ⟨hst1, hst2⟩ := HST.out k s hs
          have hKl := HKL.out k
          have hCkl := HCKL.out k
          have hclo := HCLO.out s (List.mem_of_getElem? hs)
          obtain ⟨K, hK⟩ : ∃ K, K = Kk k := ⟨_, rfl⟩
          obtain ⟨Cc, hCc⟩ : ∃ c, c = Ck k := ⟨_, rfl⟩
          rw [← hK] at hst1 hst2 hKl hN
          rw [← hCc] at hst2 hCkl hN
          have HS1 := Lib.hid hst1; have HS2 := Lib.hid hst2; have HCL2 := Lib.hid hclo
          clear hc2 hs hst1 hst2 hclo hK hCc hLr
          have hkb : k * 33 ^ b ≤ 31 * 33 ^ b := Nat.mul_le_mul_right _ (by omega)
          obtain ⟨vss, hON⟩ := hN
          have hQn : (P ++ (⟨1, (cl.1 : Int), (cl.2 : Int), Cc, []⟩ :: K))[P.length]? = some ⟨1, (cl.1 : Int), (cl.2 : Int), Cc, []⟩ := by rw [List.getElem?_append_right (Nat.le_refl _), Nat.sub_self]; rfl
          have hQl : (P ++ ((⟨1, (cl.1 : Int), (cl.2 : Int), Cc, []⟩ : Nd) :: K)).length = P.length + 1 + K.length := by simp; omega
          have hQset : (P ++ ((⟨1, (cl.1 : Int), (cl.2 : Int), Cc, []⟩ : Nd) :: K)).set P.length ⟨1, (cl.1 : Int), (cl.2 : Int), Cc ++ [((P.length + 1 + K.length : Nat) : Int)], []⟩ = P ++ ((⟨1, (cl.1 : Int), (cl.2 : Int), Cc ++ [((P.length + 1 + K.length : Nat) : Int)], []⟩ : Nd) :: K) := by
            rw [List.set_append_right _ _ (Nat.le_refl _), Nat.sub_self]; rfl
          obtain ⟨Q, hQ⟩ : ∃ Q, Q = P ++ ((⟨1, (cl.1 : Int), (cl.2 : Int), Cc, []⟩ : Nd) :: K) := ⟨_, rfl⟩
          rw [← hQ] at hON hQn hQl hQset
          obtain ⟨gq, cap, v3, v4, hveq, h1, h3, h4, hcell, ⟨csq, hBq⟩, hbg, hcap⟩ := hON.cells hQn
          dsimp only at h1 h3 h4
          subst hveq
          obtain ⟨A3, c3, rfl, hc3⟩ := own5 h3
          have hPQ : P.length < Q.length := by omega
          have hal : Below W.heap.size W (W.alloc (.cells #[.int .i64 (Q.length : Int)] 3)) := (Below.refl _ _).alloc (Nat.le_refl _) _
          have hown3 := own_below h3 hal
          have HNW := hideC (World.news_of_block (Blk.new W 3 #[.int .i64 (Q.length : Int)]))
          have HON := Lib.hid hON; have HQN := Lib.hid hQn; have HQS := Lib.hid hQset; have HQL := Lib.hid hQl
          have hQle : Q.length ≤ 100000000 := by omega
          clear hON hQn hQset hQ hQl
          go_wp2_with (at_builtin; refine wpList_append_lies _ rfl _ _ 36 rfl base 3 i1 (.int .i64 0) 1 8 Tryd.underlying36 hi1 hy0 hy1 hy2 rfl (by decide) _ _ _ rfl hown3 ⟨W.heap.size, 0, none⟩ 1 1 [.int .i64 (Q.length : Int)] rfl rfl HNW.out (by simp [Value.oneCell']) (by omega) (by unfold maxLen; omega) (by omega) (by simp; omega) _ rfl ?_)
          intro gk capk w5 hown5 hgrow5 hlies hlt5
          have hbut5 := But.grown hgrow5
          have hBq2 := hBq.below hal hBq.lt
          have hB5 : Blk w5 gq 39 csq := (hgrow5.block gq hBq2.lt (own_ne hown3 hBq2 (by decide))).trans hBq2
          have c5 : w5.cell? ⟨gq, P.length * 5 + 3, none⟩ = some (.slice A3 Cc.length c3) := (hB5.cell _).trans ((hBq.cell _).symm.trans hcell)
          have f5 := hB5.frozen (P.length * 5 + 3)
          have l5 := hB5.lt
          have hON6 := (HON.out.below hal).kid HQN.out h1 hown3 (h4.below hal) hown5 hgrow5 (hlies.imp id fun e => by rw [e]; simp)
          dsimp only at hON6
          have hal1 := hal.size
          have kt5 : KeepT W w5 := (KeepT.of_below hal).trans (KeepT.grown hgrow5 hown3 (.inr rfl))
          have bw5 : Below base w w5 := (bW.trans (hal.mono (by omega))).grown hgrow5 (by omega) (fun p hp => (hown3.lt p hp).1)
          have kt6 := kt5.trans (KeepT.setCell (p := ⟨gq, P.length * 5 + 3, none⟩) hB5 (.inl rfl) (.slice (some ⟨gk, 0, none⟩) (Cc.length + 1) capk))
          have bw6 := bw5.setCell (p := ⟨gq, P.length * 5 + 3, none⟩) hbg (.slice (some ⟨gk, 0, none⟩) (Cc.length + 1) capk)
          have hN6 : OwnN (w5.setCell ⟨gq, P.length * 5 + 3, none⟩ (.slice (some ⟨gk, 0, none⟩) (Cc.length + 1) capk)) base (.slice (some ⟨gq, 0, none⟩) Q.length cap) (P ++ ((⟨1, (cl.1 : Int), (cl.2 : Int), Cc ++ [((P.length + 1 + K.length : Nat) : Int)], []⟩ : Nd) :: K)) := by
            rw [← HQS.out, ← HQL.out]
            exact ⟨_, hON6⟩
          clear hON6 hown5 hgrow5 hlies hown3 HON h3 h4 h1 hcell hBq hBq2 HNW hbut5 bw5 kt5 hal hal1
          go_wp2_with fail
          obtain ⟨W6, hW6⟩ : ∃ V, V = w5.setCell ⟨gq, P.length * 5 + 3, none⟩ (.slice (some ⟨gk, 0, none⟩) (Cc.length + 1) capk) := ⟨_, rfl⟩
          rw [← hW6] at kt6 bw6 hN6 ⊢
          clear hW6 c5 f5 l5 hB5
          have hX6 := (hX4.kt ktW (by decide) (by decide)).kt kt6 (by decide) (by decide)
          have ho6 := HO.out.kt (ktw.trans kt6)
          have hd : Below W6.heap.size W6 W6.drew := (Below.refl _ _).drew
          have hX7 := hX6.below hd hX6.lt
          refine wp_mix (fun V => Blk V X 29 #[.int .i64 (C : Int), .slice A M.length c]) 11 (by kernel_rfl) (by kernel_rfl) hX7 ?_
          obtain ⟨u, hu⟩ : ∃ V, V = W6.drew := ⟨_, rfl⟩
          rw [← hu] at hd hX7 ⊢
          clear hu
          have eb1 : wrap64 (((b + 1 : Nat) : Int) - 1) = (b : Int) := by rw [IntWalk.wrap64_in _ ⟨by omega, by omega⟩]; omega
          have eb2 : IntKind.i64.wrap (((b + 1 : Nat) : Int) - 1) = (b : Int) := by rw [i64w ⟨by omega, by omega⟩]; omega
          (refine m_q 0 (v := ?_) (by kernel_rfl) rfl rfl (fun W hW => ?_) ?_; rotate_left; (have z0 := hW.cell 0; have z1 := hW.cell 1; go_simp; first | done | with_reducible rfl); simp only [Act.put, List.setIfInBounds_toArray, List.set_cons_zero, List.set_cons_succ])
          (refine m_q 1 (v := ?_) (by kernel_rfl) rfl rfl (fun W hW => ?_) ?_; rotate_left; (go_simp; first | done | with_reducible rfl); simp only [Act.put, List.setIfInBounds_toArray, List.set_cons_zero, List.set_cons_succ]); (refine m_q 2 (v := ?_) (by kernel_rfl) rfl rfl (fun W hW => ?_) ?_; rotate_left; (go_simp; first | done | with_reducible rfl); simp only [Act.put, List.setIfInBounds_toArray, List.set_cons_zero, List.set_cons_succ]); (refine m_q 3 (v := ?_) (by kernel_rfl) rfl rfl (fun W hW => ?_) ?_; rotate_left; (go_simp; first | done | with_reducible rfl); simp only [Act.put, List.setIfInBounds_toArray, List.set_cons_zero, List.set_cons_succ])
          (refine m_q 4 (v := ?_) (by kernel_rfl) rfl rfl (fun W hW => ?_) ?_; rotate_left; (have z0 := hW.cell 0; have z1 := hW.cell 1; go_simp; first | done | with_reducible rfl); simp only [Act.put, List.setIfInBounds_toArray, List.set_cons_zero, List.set_cons_succ])
          (refine m_q 5 (v := ?_) (by kernel_rfl) rfl rfl (fun W hW => ?_) ?_; rotate_left; (go_simp; first | done | with_reducible rfl); simp only [Act.put, List.setIfInBounds_toArray, List.set_cons_zero, List.set_cons_succ]); (refine m_q 6 (v := ?_) (by kernel_rfl) rfl rfl (fun W hW => ?_) ?_; rotate_left; (go_simp; first | done | with_reducible rfl); simp only [Act.put, List.setIfInBounds_toArray, List.set_cons_zero, List.set_cons_succ]); (refine m_q 8 (v := ?_) (by kernel_rfl) rfl rfl (fun W hW => ?_) ?_; rotate_left; (go_simp; first | done | with_reducible rfl); simp only [Act.put, List.setIfInBounds_toArray, List.set_cons_zero, List.set_cons_succ])
          clear d2 eb1 eb2
          have hpu := (ho6.below hd).pairs (by rw [cz_len]; exact hlm)
          have bwu := bw6.trans (hd.mono (by have := kt6.1; omega))
          have hWO7 := without_ref C A c M _ o s u (HI3.out u bwu) (by omega) (by omega) hpu fun x hx => ⟨(cells_has (by omega) (HOC.out x hx)).1, (cells_has (by omega) (HOC.out x hx)).2.1⟩
          have HW7 := hideC hWO7
          clear hWO7
          refine m_s1 7 (by kernel_rfl) rfl ?_
          go_wp2_with fail
          refine HW7.out.mono ?_
          rintro e u7 ⟨v7, rfl, ho7, hb7⟩
          have hX8 := hX7.below hb7 hX7.lt
          go_wp2_with fail
          refine m_keep hX8 ?_
          have hN7 := (hN6.below hd).below hb7
          have hsu : base ≤ u.heap.size := by have := kt6.1; have := hd.size; omega
          have bw7 := bwu.trans (hb7.mono hsu)
          have hs7 : base ≤ u7.heap.size := Nat.le_trans hsu hb7.size
          have hQ6l : (P ++ ((⟨1, (cl.1 : Int), (cl.2 : Int), Cc ++ [((P.length + 1 + K.length : Nat) : Int)], []⟩ : Nd) :: K)).length = P.length + 1 + K.length := by simp; omega
          have hg9 := HIH.out base (.slice (some ⟨gq, 0, none⟩) Q.length cap) v7 (P ++ ((⟨1, (cl.1 : Int), (cl.2 : Int), Cc ++ [((P.length + 1 + K.length : Nat) : Int)], []⟩ : Nd) :: K)) (lessL C (nsOf C M) o s) u7 (by omega) hbase hs7 (hw0.trans (bw7.mono hbase)) hN7 (by rw [hQ6l]; omega) (Nat.le_trans (lessL_len _ _ _ _) hlen) (ho7.low (Nat.zero_le _)) (fun x hx => HOC.out x (mem_lessL.1 hx).1) (fun h => HCOV.out (cov_less HCL2.out h))
          rw [hQ6l] at hg9
          have HG9 := hideC hg9
          clear hg9 hN7 hN6 hpu HW7 ho6 hX6
          refine m_s1 9 (by kernel_rfl) rfl ?_
          go_wp2_with fail
          refine HG9.out.mono ?_
          rintro e u9 ⟨v9, rfl, hN9, kt9, bw9⟩
          have hX9 := hX8.kt kt9 (by decide) (by decide)
          go_wp2_with fail
          refine m_keep hX9 ?_
          refine m_s1 10 (by kernel_rfl) rfl ?_
          go_wp2_with fail
          refine m_keep hX9 ?_
          refine m_end (by kernel_rfl) ?_
          have ktA := ktW.trans (((kt6.trans (KeepT.of_below hd)).trans (KeepT.of_below hb7)).trans kt9)
          have bwA := bw7.trans bw9
          have hNA : OwnN u9 base v9 (P ++ (⟨1, (cl.1 : Int), (cl.2 : Int), Ck (k + 1), []⟩ :: Kk (k + 1))) := by
            rw [HS1.out, HS2.out, HKQ.out]
            simpa using hN9
          have HNA := Lib.hid hNA
          clear hN9 hNA HS1 HS2
          go_wp2_with fail
          exact ⟨(k + 1, v9), rfl, ⟨by show k + 1 ≤ CL.length; omega, by first | rfl | trivial, HNA.out, ktA, bwA⟩, by show CL.length - (k + 1) < CL.length - k; omega⟩
        · obtain rfl : k = CL.length := by omega
          rw [HEND.out] at hN
          go_wp2_with fail
          go_ret
          exact ⟨v, rfl, hN, ktw, bW⟩

end Mix2
end Go.Proofs.YtlehoomnddcblaaDoor
