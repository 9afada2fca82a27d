import Derived.Test.YtfbkcdhmggjbaaaGreatDoorCxS1
import Derived.Test.YtfbkcdhmggjbaaaGreatDoorCxS2
import Derived.Test.YtfbkcdhmggjbaaaGreatDoorCxS3
import Derived.Test.YtfbkcdhmggjbaaaGreatDoorCvH
/-
  cover.Simplify of valid roles.
-/
namespace Go.Proofs.YtfbkcdhmggjbaaaGreatDoor
open Go.RowKit
attribute [local go_sem] Oper.semAt_some
theorem flatQ_set (L : List (Nat × Nat)) (k N : Nat) (hk : k < L.length) : flatQ (L.set k (N, (L.getD k (0, 0)).2)) = (flatQ L).set (k * 2) N := by
  induction L generalizing k with
  | nil => simp at hk
  | cons s L ih =>
    cases k with
    | zero => rfl
    | succ k =>
      have := ih k (by simpa using hk)
      have e : ((s :: L).getD (k + 1) (0, 0)) = L.getD k (0, 0) := rfl
      unfold flatQ at this ⊢
      rw [e, List.set_cons_succ, List.flatMap_cons, List.flatMap_cons, this, show (k + 1) * 2 = k * 2 + 1 + 1 by omega]
      simp only [List.cons_append, List.nil_append, List.set_cons_succ]
/-- The block of roles of our own. -/
theorem OwnQ.blk {w : World} {base n c : Nat} {A : Option Addr} {L : List (Nat × Nat)} (h : OwnQ w base (.slice A n c) L) (h0 : 0 < L.length) : ∃ g cs, A = some ⟨g, 0, none⟩ ∧ base ≤ g ∧ Blk w g 84 cs := by
  obtain ⟨vs, h1, h2⟩ := h
  rcases id h1.2 with ⟨hv, hn⟩ | ⟨g, cap, cur, hv, hg, hB, _⟩
  · omega
  · cases hv
    exact ⟨g, cur, rfl, hg, hB⟩
/-- The users of one role are written. -/
theorem OwnQ.put1 {w : World} {base g n c k N : Nat} {v : Value} {L : List (Nat × Nat)} (h : OwnQ w base (.slice (some ⟨g, 0, none⟩) n c) L) (hs : IsSet w v N) (hk : k < L.length) :
    OwnQ (w.setCell ⟨g, k * 2, none⟩ v) base (.slice (some ⟨g, 0, none⟩) n c) (L.set k (N, (L.getD k (0, 0)).2)) := by
  obtain ⟨vs, h1, h2⟩ := h
  rcases id h1.2 with ⟨hv, hn⟩ | ⟨g', cap, cur, hv, hg, hB, hc1, hc2, hsz, htk⟩
  · omega
  · cases hv
    have hB' : Blk w g 84 cur := hB
    have hkw : KeepW w (w.setCell ⟨g, k * 2, none⟩ v) := KeepW.setCell (p := ⟨g, k * 2, none⟩) hB' (by decide) v
    refine ⟨vs.set (k * 2) v, ⟨by rw [List.length_set, List.length_set]; exact h1.1, .inr ⟨g, c, cur.setIfInBounds (k * 2) v, by rw [List.length_set], hg, hB'.set_ (k * 2) v, by rw [List.length_set]; exact hc1, hc2, by rw [Array.size_setIfInBounds]; exact hsz, ?_⟩⟩, ?_⟩
    · rw [List.length_set, Array.toList_setIfInBounds, List.take_set, htk]
    · rw [flatQ_set _ _ _ hk]
      exact (h2.keep hkw).put (hs.keep hkw)
theorem IsMO.shut {w w' : World} {q C n : Nat} {Ns : List Nat} (h : IsMO w q C Ns) (k : Shut n w w') : IsMO w' q C Ns := by
  obtain ⟨rv, vs, ⟨k1, k2, k3⟩, k4, k5⟩ := h
  exact ⟨rv, vs, ⟨k.2 _ _ _ _ k1, own_kc k2 ⟨k.1.size, k.2⟩, k3.keep k.keep⟩, k4, k5⟩
theorem roleQ_wf {R C D : Nat} {Us Ps : List Nat} (hU : Us.length = R) (hR : R ≤ 4096) (hP : rowsIn C Ps) : WfQ R C (roleQ D Us Ps Ps.length) := by
  intro s hs
  unfold roleQ at hs
  obtain ⟨k, hk, rfl⟩ := List.mem_map.1 hs
  rw [List.mem_range] at hk
  refine ⟨fun i hi => ?_, of_low (hP k hk)⟩
  rw [testBit_mcol _ _ _ _ (by omega)] at hi
  unfold mhas at hi
  rw [Bool.and_eq_true] at hi
  unfold insideB at hi
  have := hi.1
  simp at this
  omega
/-- What stays in place all along. -/
structure SimI (w W : World) (g g6 q u p : Nat) : Prop where
  b2 : Blk W g 31 #[ptr q]
  b3 : Blk W (g + 1) 34 #[ptr u, ptr p]
  b4 : Blk W (g + 2) 34 #[.pointer none, .pointer none]
  b7 : Blk W (g6 + 1) 81 #[.func (.func 38) #[] #[ptr g]]
  bel : Below w.heap.size w W
section
variable {w W W' : World} {g g6 q u p : Nat}
theorem SimI.below (h : SimI w W g g6 q u p) (hb : Below W.heap.size W W') : SimI w W' g g6 q u p := ⟨h.b2.below hb h.b2.lt, h.b3.below hb h.b3.lt, h.b4.below hb h.b4.lt, h.b7.below hb h.b7.lt, h.bel.trans (hb.mono h.bel.size)⟩
theorem SimI.put {t : TypeId} {cs : Array Value} {b : Nat} (h : SimI w W g g6 q u p) (hB : Blk W b t cs) (hb : w.heap.size ≤ b) (h1 : 31 ≠ t) (h2 : 34 ≠ t) (h3 : 81 ≠ t) (i : Nat) (v : Value) : SimI w (W.setCell ⟨b, i, none⟩ v) g g6 q u p :=
  ⟨h.b2.far (p := ⟨b, i, none⟩) (h.b2.ne_ hB h1) v, h.b3.far (p := ⟨b, i, none⟩) (h.b3.ne_ hB h2) v, h.b4.far (p := ⟨b, i, none⟩) (h.b4.ne_ hB h2) v, h.b7.far (p := ⟨b, i, none⟩) (h.b7.ne_ hB h3) v, h.bel.setCell (p := ⟨b, i, none⟩) hb v⟩
theorem SimI.kc (h : SimI w W g g6 q u p) (hk : KeepC W W') (hb : Below w.heap.size w W') : SimI w W' g g6 q u p := ⟨h.b2.kc hk, h.b3.kc hk, h.b4.kc hk, h.b7.kc hk, hb⟩
end
theorem deleteQ_any' (base : Nat) (v : Value) (L : List (Nat × Nat)) (k : Nat) (w : World) (h : OwnQ w base v L) (hk : k < L.length) (hl : L.length ≤ 4096) :
    Calls Tryz.prog 40 #[v, .int .i64 k, .int .i64 ((k : Int) + 1)] w fun e w' => ∃ v', e = .returned v' ∧ OwnQ w' base v' (L.eraseIdx k) ∧ Below base w w' := by
  have := Mix2.deleteQ_any base v L k (k + 1) w h hk rfl hl
  rwa [show ((k + 1 : Nat) : Int) = (k : Int) + 1 by omega] at this
theorem OwnQ.at_ {w : World} {base n c k : Nat} {A : Option Addr} {L : List (Nat × Nat)} (h : OwnQ w base (.slice A n c) L) (hl : L.length ≤ 1000000) (hk : k < L.length) :
    ∃ g A1 c1 cs, A = some ⟨g, 0, none⟩ ∧ base ≤ g ∧ Blk w g 84 cs ∧ w.cell? ⟨g, k * 2, none⟩ = some (.slice A1 (nw (L.getD k (0, 0)).1) c1) ∧ IsSet w (.slice A1 (nw (L.getD k (0, 0)).1) c1) (L.getD k (0, 0)).1 := by
  obtain ⟨g, cs, rfl, hg, hB⟩ := h.blk (by omega)
  obtain ⟨A', c', e⟩ := h.val
  cases e
  have hs : L[k]? = some (L.getD k (0, 0)) := by rw [List.getD_eq_getElem?_getD, List.getElem?_eq_getElem hk]; rfl
  obtain ⟨g', off, A1, c1, A2, c2, e, _, h1, _, h3, _⟩ := (h.isQ hl).at hs
  cases e
  rw [Nat.zero_add] at h1
  exact ⟨g, A1, c1, cs, rfl, hg, hB, h1, h3⟩
namespace Mix2
set_option maxRecDepth 100000 in
set_option maxHeartbeats 16000000 in
theorem simplify_any (q u p C D : Nat) (Ns Us Ps : List Nat) (K : List (Nat × Nat)) (w : World) (hm : IsMat w q C Ns) (hu : IsMat w u D Us) (hp : IsMat w p C Ps) (hin : rowsIn D Us) (hinP : rowsIn C Ps) (hT : Tab w) (hC : C ≤ 256) (hR : Ns.length ≤ 256) (hPl : Ps.length ≤ 256) (hUl : Us.length = Ns.length) (hv : validN C Ns D Us C Ps = true) (hK : K = simQ (validQ C Ns) (roleQ D Us Ps Ps.length)) :
    Calls Tryz.prog 10 #[ptr q, .agg #[ptr u, ptr p]] w fun e w' => ∃ u' p', e = .returned (.tuple #[.agg #[ptr u', ptr p'], .int .i64 0]) ∧ IsMO w' u' K.length (mtrans Ns.length (K.map (·.1)) Ns.length) ∧ IsMO w' p' C (K.map (·.2)) ∧ Below w.heap.size w w' := by
  have hwf0 := roleQ_wf (D := D) (Us := Us) (R := Ns.length) hUl (by omega) hinP
  have hL0 := roleQ_len D Us Ps Ps.length
  have hVA := fun W (hb : Below w.heap.size w W) => valid_any q u p C D C Ns Us Ps W (hm.below hb) (hu.below hb) (hp.below hb) hin (hT.below hb)
  rw [hv] at hVA
  have HVA := Lib.hid hVA
  have HLI := Lib.hid (fun W (hb : Below w.heap.size w W) => list48_any u p D C Us Ps W (hu.below hb) (hp.below hb) hPl)
  have HGO := Lib.hid (fun g base (L : List (Nat × Nat)) v W (hb : Below w.heap.size w W) (h2 : Blk W g 31 #[ptr q]) (hL : OwnQ W base v L) (hl : L.length ≤ 256) (hwf : WfQ Ns.length C L) => good_any g q base C Ns L v 31 W h2 (hm.below hb) hL hl hC hR hwf.rows1 hwf.rows2 (hT.below hb))
  have HRW := Lib.hid (fun W (hb : Below w.heap.size w W) => rows_any q C Ns W (hm.below hb))
  have HCW := Lib.hid (fun W (hb : Below w.heap.size w W) => cols_any q C Ns W (hm.below hb))
  have HTB := Lib.hid (fun W (hb : Below w.heap.size w W) => hT.below hb)
  have hpos := hT.pos
  obtain ⟨ok, hok⟩ : ∃ ok, ok = validQ C Ns := ⟨_, rfl⟩
  rw [← hok] at hK HGO
  obtain ⟨L0, hL00⟩ : ∃ L, L = roleQ D Us Ps Ps.length := ⟨_, rfl⟩
  rw [← hL00] at hK hwf0 hL0 HLI
  obtain ⟨R, hRR⟩ : ∃ R, R = Ns.length := ⟨_, rfl⟩
  rw [← hRR] at hR hwf0 HRW HGO ⊢
  obtain ⟨n0, hn0⟩ : ∃ n, n = Ps.length := ⟨_, rfl⟩
  rw [← hn0] at hL0 hPl
  obtain ⟨KA, hKA⟩ : ∃ KA, KA = simA ok n0 L0 := ⟨_, rfl⟩
  have hKe : K = simB ok KA KA.length := by rw [hK]; unfold simQ; rw [hL0, ← hKA]
  have hwfA : WfQ R C KA := by rw [hKA]; exact hwf0.simA _
  have hlA : KA.length ≤ n0 := by rw [hKA, ← hL0]; exact simA_len _ _
  have HKA := Lib.hid hKA; have HKE := Lib.hid hKe; have HWFA := Lib.hid hwfA; have HWF0 := Lib.hid hwf0
  have hL0' := hL0
  have HL0 := Lib.hid hL0'
  clear hm hu hp hin hinP hT hUl hv hK hVA hok hL00 hRR hn0 hKA hKe hwfA hwf0 hL0 hL0'
  refine (callsIn_wide (n := 9)).1 (callsIn_of_wp_marks Tryz.func10 rfl trivial (wpIn_wide.2 ?_) rfl)
  simp only [Tryz.ntmps10, List.size_toArray, List.length_cons, List.length_nil, Nat.reduceAdd, Nat.reduceSub, Array.replicate_succ, Array.replicate_zero, List.push_toArray, List.append_toArray, List.nil_append, List.cons_append]
  go_upto_region 1 with fail
  refine abs3 fun W h2 h3 h4 hb hz => ?_
  clear hz
  obtain ⟨g, hg⟩ : ∃ x, x = w.heap.size := ⟨_, rfl⟩
  have hgw : w.heap.size ≤ g := by omega
  rw [← hg] at h2 h3 h4 ⊢
  clear hg
  have p2 := h2.cell 0
  have p3 := h3.cell 0
  have p3' := h3.cell 1
  have HV := hideC (HVA.out W hb)
  go_wp2_with fail
  with_reducible refine HV.out.mono ?_
  rintro e W1 ⟨rfl, hb1⟩
  have b1 := hb.trans (hb1.mono hb.size)
  have k2 := h2.below hb1 h2.lt
  have k3 := h3.below hb1 h3.lt
  have k4 := h4.below hb1 h4.lt
  clear HV p2 p3 p3' h2 h3 h4 hb hb1
  have p3 := k3.cell 0
  have p3' := k3.cell 1
  have HL := hideC (HLI.out W1 b1)
  go_wp2_with fail
  with_reducible refine HL.out.mono ?_
  rintro e W2 ⟨v0, rfl, hO0, hb2⟩
  have hO0 := hO0.low b1.size
  obtain ⟨A0, c0, hv0⟩ := hO0.val
  rw [HL0.out] at hv0
  subst hv0
  have b2 := b1.trans (hb2.mono b1.size)
  have q2 := k2.below hb2 k2.lt
  have q3 := k3.below hb2 k3.lt
  have q4 := k4.below hb2 k4.lt
  clear HL p3 p3' k2 k3 k4 hb2
  go_upto_region 7 with fail
  refine abs2 fun W3 h6 h7 hb3 hz => ?_
  clear hz
  obtain ⟨g6, hg6⟩ : ∃ x, x = W2.heap.size := ⟨_, rfl⟩
  have hg6w : w.heap.size ≤ g6 := by have := b2.size; omega
  have hg62 : g + 2 < g6 := by rw [hg6]; exact q4.lt
  rw [← hg6] at h6 h7 ⊢
  clear hg6
  have b3 := b2.trans (hb3.mono b2.size)
  have hI3 : SimI w W3 g g6 q u p := ⟨q2.below hb3 q2.lt, q3.below hb3 q3.lt, q4.below hb3 q4.lt, h7, b3⟩
  have hO3 := hO0.below hb3
  have c6 := h6.cell 0
  clear q2 q3 q4 h7 hb3 b3 b2 b1 hO0 HVA HLI
  go_wp2_with fail
  refine wp_loopF (β := Int × Value × List (Nat × Nat)) (fun x f => #[f 0, f 1, ptr g, ptr (g + 1), ptr (g + 2), .int .i64 0, ptr g6, ptr (g6 + 1), .int .i64 x.1, f 9, f 10, f 11, f 12, f 13, f 14, f 15, f 16, f 17, f 18, f 19, f 20, f 21, f 22, f 23, f 24, f 25, f 26, f 27, f 28, f 29, f 30, f 31, f 32, f 33, f 34, f 35, f 36, f 37, f 38, f 39, f 40, f 41, f 42, f 43, f 44, f 45, f 46, f 47, f 48, f 49, f 50, f 51, f 52, f 53, f 54, f 55, f 56, f 57, f 58, f 59, f 60, f 61, f 62, f 63, f 64, f 65, f 66, f 67, f 68, f 69, f 70, f 71, f 72, f 73, f 74, f 75, f 76, f 77, f 78])
    (fun x ds V => ds = [] ∧ (∃ n : Nat, x.1 = (n : Int) - 1 ∧ n ≤ x.2.2.length ∧ simA ok n x.2.2 = KA) ∧ Blk V g6 78 #[x.2.1] ∧ OwnQ V w.heap.size x.2.1 x.2.2 ∧ WfQ R C x.2.2 ∧ x.2.2.length ≤ n0 ∧ SimI w V g g6 q u p) (fun x => (x.1 + 1).toNat) ((n0 : Int) - 1, .slice A0 n0 c0, L0) rfl
    ⟨rfl, ⟨n0, rfl, by dsimp only; rw [HL0.out]; exact Nat.le_refl _, HKA.out.symm⟩, h6, hO3, HWF0.out, by dsimp only; rw [HL0.out]; exact Nat.le_refl _, hI3⟩ ?_
  clear h6 hO3 hI3 c6
  rintro ⟨i, v, L⟩ f ds V ⟨rfl, ⟨n, hi, hn, hsim⟩, b6, hO, hwf, hll, hI⟩
  dsimp only at hi hn hsim b6 hO hwf hll ⊢
  obtain ⟨A, c, rfl⟩ := hO.val
  have c6 := b6.cell 0
  rcases n with _ | m
  · obtain rfl : i = -1 := by omega
    obtain rfl : KA = L := hsim.symm
    clear hsim hi hn
    go_wp2_with fail
    refine wp_loopF (β := Nat × Value × List (Nat × Nat)) (fun x f => #[f 0, f 1, ptr g, ptr (g + 1), ptr (g + 2), .int .i64 0, ptr g6, ptr (g6 + 1), f 8, f 9, f 10, f 11, f 12, f 13, f 14, f 15, f 16, f 17, f 18, f 19, f 20, f 21, f 22, f 23, f 24, f 25, f 26, f 27, f 28, f 29, f 30, f 31, f 32, f 33, f 34, f 35, f 36, f 37, f 38, f 39, f 40, f 41, .int .i64 (KA.length : Int), .int .i64 (x.1 : Int), f 44, f 45, f 46, f 47, f 48, f 49, f 50, f 51, f 52, f 53, f 54, f 55, f 56, f 57, f 58, f 59, f 60, f 61, f 62, f 63, f 64, f 65, f 66, f 67, f 68, f 69, f 70, f 71, f 72, f 73, f 74, f 75, f 76, f 77, f 78])
      (fun x ds V => x.1 ≤ KA.length ∧ x.2.2 = simB ok KA x.1 ∧ Blk V g6 78 #[x.2.1] ∧ OwnQ V w.heap.size x.2.1 x.2.2 ∧ SimI w V g g6 q u p ∧ Marks w.heap.size V ds) (fun x => KA.length - x.1) (0, .slice A KA.length c, KA) rfl
      ⟨Nat.zero_le _, rfl, b6, hO, hI, trivial⟩ ?_
    clear b6 hO hI c6
    rintro ⟨k, v, L⟩ f ds Vy ⟨hk, hLe, b6, hO, hI, hM⟩
    dsimp only at hk hLe b6 hO hI hM ⊢
    have hLl : L.length = KA.length := by rw [hLe, simB_len]
    obtain ⟨A, c, rfl⟩ := hO.val
    rw [hLl] at b6 hO
    have hwfL : WfQ R C L := by rw [hLe]; exact HWFA.out.simB k
    by_cases hlt : k < KA.length
    · have hst : simU ok L k = simB ok KA (k + 1) := by rw [simB_succ, ← hLe]
      have HST := Lib.hid hst
      clear hst hLe
      go_upto_region 16 with fail
      refine abs1 fun V0 h10 hb0 hz => ?_
      clear hz
      obtain ⟨g10, hg10⟩ : ∃ x, x = Vy.heap.size := ⟨_, rfl⟩
      have hg10w : w.heap.size ≤ g10 := by have := hI.bel.size; omega
      rw [← hg10] at h10 ⊢
      clear hg10
      have hI0 := hI.below hb0
      have b60 := b6.below hb0 b6.lt
      have hO0 := hO.below hb0
      have hM0 := hM.kd (KeepD.of_below hb0)
      have hkL : k < L.length := by omega
      obtain ⟨gl, A1, c1, cs1, e, hgl, hBl, d1, s1⟩ := hO0.at_ (by omega) hkL
      cases e
      have HFO := Lib.hid (show simU ok L k = (mems (L.getD k (0, 0)).1).foldl (stepU ok k) L from rfl)
      obtain ⟨X, hX⟩ : ∃ X, X = (L.getD k (0, 0)).1 := ⟨_, rfl⟩
      rw [← hX] at d1 s1 HFO
      clear hX b6 hO hI hM hb0 hBl
      have c6 := b60.cell 0
      have c10 := h10.cell 0
      go_wp2_with fail
      refine (all_any A1 (nw X) c1 V0).mono ?_
      rintro e V5 ⟨rfl, hw5⟩
      have hY := hw5 ▸ Blk.new V0 74 #[.slice A1 (nw X) c1]
      have hb5 : Below V0.heap.size V0 V5 := by rw [hw5]; exact (Below.refl _ _).alloc (Nat.le_refl _) _
      clear hw5
      have hI5 := hI0.below hb5
      have b65 := b60.below hb5 b60.lt
      have hO5 := hO0.below hb5
      have hM5 := hM0.kd (KeepD.of_below hb5)
      have h105 := h10.below hb5 h10.lt
      have s15 := s1.below hb5
      have hT5 := HTB.out V5 hI5.bel
      obtain ⟨gy, hgy⟩ : ∃ x, x = V0.heap.size := ⟨_, rfl⟩
      rw [← hgy] at hY ⊢
      clear hgy hb5 hI0 b60 hO0 hM0 h10 s1 c6 c10 d1
      go_wp2_with fail
      refine wp_rangeAll (v := .slice A1 (nw X) c1) (N := X) (Bx := gy) rfl (hY.cell 0) s15 hT5 rfl
        (fun pre W => (∃ v', Blk W g6 78 #[v'] ∧ OwnQ W w.heap.size v' (pre.foldl (stepU ok k) L)) ∧ Blk W g10 3 #[.int .i64 (k : Int)] ∧ SimI w W g g6 q u p ∧ KeepD V5 W) (fun _ _ _ => False)
        ?hI (fun _ _ _ _ _ hs _ _ => hs) ?h0 ?a1 ?assign ?body ?done (fun _ _ _ _ _ h _ => h.elim)
      case assign =>
        intro l x W K hKa
        gi_wp2
        exact hKa
      case hI =>
        rintro s W W' row ⟨⟨v', h1, ⟨vs, h2, h3⟩⟩, h4, h5, h6⟩ hg hrw
        have hk := KeepC.of_grown hg hrw
        exact ⟨⟨v', h1.kc hk, ⟨vs, own_kc h2 hk, h3.keep hk.keep⟩⟩, h4.kc hk, h5.kc hk (h5.bel.grown hg h5.bel.size fun k' e => Nat.le_trans hI5.bel.size (hrw k' e).1), h6.grown hg hrw⟩
      case h0 => exact ⟨⟨_, b65, hO5⟩, h105, hI5, KeepD.refl _⟩
      case body =>
        rintro ll pre x W hx ⟨⟨v', h6, hO⟩, h10, hI, hKd⟩ hlen hkp
        have hl2 : (pre.foldl (stepU ok k) L).length = KA.length := by rw [foldU_len, hLl]
        have hwf2 : WfQ R C (pre.foldl (stepU ok k) L) := WfQ.foldU k pre hwfL
        have hst : (pre ++ [x]).foldl (stepU ok k) L = stepU ok k (pre.foldl (stepU ok k) L) x := by rw [List.foldl_append]; rfl
        obtain ⟨L2, hL2⟩ : ∃ L2, L2 = pre.foldl (stepU ok k) L := ⟨_, rfl⟩
        rw [← hL2] at hO hl2 hwf2 hst
        obtain ⟨A, c, rfl⟩ := hO.val
        rw [hl2] at hO h6
        have hkL2 : k < L2.length := by omega
        have HSN := Lib.hid hst
        have c6 := h6.cell 0
        have c10 := h10.cell 0
        have hcl := cloneQ_any w.heap.size (.slice A KA.length c) L2 W hO (by omega) (by omega)
        rw [hl2] at hcl
        have HCL := hideC hcl
        clear hst hL2 hcl
        gi_wp2_with (refine ⟨trivial, ?_⟩; gi_at_call 41; refine (CallsIn.inRound ll (callsIn_wide.2 HCL.out)).mono ?_; rintro e W6 ⟨gc, cc, rfl, hO6, hb6⟩)
        obtain ⟨gc', A1', c1', cs', e, hgc, hBc, d1, s1⟩ := hO6.at_ (by omega) hkL2
        cases e
        obtain ⟨Y, hYe⟩ : ∃ Y, Y = (L2.getD k (0, 0)).1 := ⟨_, rfl⟩
        rw [← hYe] at d1 s1
        have HYE := Lib.hid hYe
        have c106 := (h10.below hb6 h10.lt).cell 0
        have hd : Below W6.heap.size W6 W6.drew := (Below.refl _ _).drew
        have HMI := hideC (without_any (.slice A1' (nw Y) c1') Y (x : Nat) W6.drew (s1.below hd))
        have hws := hI.bel.size
        clear HCL hYe c6 c10
        refine wpIn_spine (fun Vy => Below W6.heap.size W6 Vy) [0, 1, 2, 3, 4, 5, 6, 7] [8, 9, 10, 11] (fun _ => trivial) (by kernel_rfl) (by kernel_rfl) (by kernel_rfl) ?_
        iterate 8 (refine wpE_op (v := ?_) rfl rfl (fun W hW => ?_) ?_; rotate_left; (have z1 := onB hW c106; have z2 := onB hW d1; go_simp; first | done | with_reducible rfl); simp only [Act.put, List.setIfInBounds_toArray, List.set_cons_zero, List.set_cons_succ])
        refine wpE_nil ⟨fun h => (by cases h), wpSpI_op rfl hd ?_⟩
        gi_wp2_with (refine ⟨trivial, ?_⟩; gi_at_call 43; refine (CallsIn.inRound ll (callsIn_wide.2 HMI.out)).mono ?_; rintro e w7 ⟨r7, rfl, hr7, hb7⟩; obtain ⟨A7, c7, rfl, _⟩ := id hr7)
        have hb7' := hd.trans (hb7.mono hd.size)
        have hB7 := hBc.below hb7' hBc.lt
        have hO7 := (hO6.below hb7').put1 hr7 hkL2
        rw [show L2.set k (withoutB Y (x : Nat), (L2.getD k (0, 0)).2) = clrQ L2 k x by rw [HYE.out]; rfl] at hO7
        have hbW8 := (hb6.trans (hb7'.mono hb6.size)).setCell (p := ⟨gc, k * 2, none⟩) hgc (.slice A7 (nw (withoutB Y (x : Nat))) c7)
        have hI8 := hI.below hbW8
        have HG := hideC (HGO.out g W.heap.size (clrQ L2 k x) (.slice (some ⟨gc, 0, none⟩) KA.length cc) _ hI8.bel hI8.b2 hO7 (by rw [clrQ_len]; omega) (hwf2.clr k x))
        have c78 := hI8.b7.cell 0
        have d7 := onB hb7' d1
        have f7 := hB7.frozen (k * 2)
        have l7 := hB7.lt
        have HO7 := Lib.hid hO7; have HB8 := Lib.hid hbW8
        clear hO7 hbW8 HMI d1 s1 hO6 hBc c106
        refine nxtI_op rfl hb7' ?_
        gi_wp2_with fail
        refine nxtI_op rfl hb7' ?_
        gi_wp2_with fail
        refine nxtI_op rfl hb7' ?_
        gi_wp2_with fail
        refine nxtI_nil ?_
        obtain ⟨bo, hbo⟩ : ∃ b, b = ok (clrQ L2 k x) := ⟨_, rfl⟩
        rw [← hbo] at HG
        have hst : stepU ok k L2 x = if bo = true then clrQ L2 k x else L2 := by unfold stepU; rw [← hbo]
        have HST2 := Lib.hid hst
        clear hbo hst
        obtain ⟨W8, hW8⟩ : ∃ W8, W8 = w7.setCell ⟨gc, k * 2, none⟩ (.slice A7 (nw (withoutB Y (x : Nat))) c7) := ⟨_, rfl⟩
        rw [← hW8] at HG c78 HO7 HB8 hI8 ⊢
        clear hW8 d7 f7 l7 hb7' hb7 hb6 hd hB7
        cases bo with
        | true =>
          have hs3 : stepU ok k L2 x = clrQ L2 k x := by have := HST2.out; simpa using this
          have HS3 := Lib.hid hs3
          clear hs3
          gi_wp2_with (refine ⟨trivial, ?_⟩; gi_at_call 38; refine (CallsIn.inRound ll (callsIn_wide.2 HG.out)).mono ?_; rintro e w9 ⟨rfl, hb9⟩; have hbW9 := HB8.out.trans (hb9.mono HB8.out.size); have h69 := h6.below hbW9 h6.lt; have c69 := h69.cell 0; have f69 := h69.frozen 0; have l69 := h69.lt)
          have hk := (KeepW.of_below hbW9).trans (KeepW.setCell (p := ⟨g6, 0, none⟩) h69 (by decide) (.slice (some ⟨gc, 0, none⟩) KA.length cc))
          have hbn := (hbW9.mono hws).setCell (p := ⟨g6, 0, none⟩) hg6w (.slice (some ⟨gc, 0, none⟩) KA.length cc)
          have hko := (KeepsOthers.of_below hbW9).trans (KeepsOthers.setCell w9 ⟨g6, 0, none⟩ (.slice (some ⟨gc, 0, none⟩) KA.length cc))
          exact ⟨hko.from _, KpA.mk_ hk hbn hpos, ⟨_, h69.set_ 0 _, by rw [HSN.out, HS3.out]; exact ((HO7.out.below hb9).low hws).put h69 (by decide) (by decide) 0 _⟩,
            (h10.below hbW9 h10.lt).far (p := ⟨g6, 0, none⟩) ((h10.below hbW9 h10.lt).ne_ h69 (by decide)) _, (hI.below hbW9).put h69 hg6w (by decide) (by decide) (by decide) 0 _, hKd.others hko⟩
        | false =>
          have hs3 : stepU ok k L2 x = L2 := by have := HST2.out; simpa using this
          have HS3 := Lib.hid hs3
          clear hs3
          gi_wp2_with (refine ⟨trivial, ?_⟩; gi_at_call 38; refine (CallsIn.inRound ll (callsIn_wide.2 HG.out)).mono ?_; rintro e w9 ⟨rfl, hb9⟩; have hbW9 := HB8.out.trans (hb9.mono HB8.out.size); have h69 := h6.below hbW9 h6.lt; have c69 := h69.cell 0; have f69 := h69.frozen 0; have l69 := h69.lt)
          have hko := KeepsOthers.of_below hbW9
          exact ⟨hko.from _, KpA.mk_ (KeepW.of_below hbW9) (hbW9.mono hws) hpos, ⟨_, h69, by rw [HSN.out, HS3.out]; exact hO.below hbW9⟩,
            h10.below hbW9 h10.lt, hI.below hbW9, hKd.others hko⟩
      case done =>
        rintro Dk W hDk ⟨⟨v', h6, hO⟩, h10, hI, hKd⟩ hKe
        have hM6 := Marks.cons hM5 hKd (by have := hI5.bel.size; omega) hDk hKe
        rw [← HFO.out, HST.out] at hO
        go_wp2_with fail
        exact ⟨(k + 1, v', simB ok KA (k + 1)), rfl, ⟨by show k + 1 ≤ KA.length; omega, rfl, h6, hO, hI, hM6⟩, by show KA.length - (k + 1) < KA.length - k; omega⟩
    · obtain rfl : k = KA.length := by omega
      obtain rfl : K = L := by rw [HKE.out, hLe]
      have hLlK : K.length = KA.length := hLl
      go_upto_region 23 with fail
      have c6 := b6.cell 0
      have d2 := hI.b2.cell 0
      have hbI := hI.bel
      have HKL := Lib.hid hLlK
      have HWK := Lib.hid hwfL
      clear hLl hLlK hwfL hLe
      refine wp_mix (fun V => Below Vy.heap.size Vy V) 10 (by kernel_rfl) (by kernel_rfl) (Below.refl _ _).drew ?_
      have hr := (Below.refl Vy.heap.size Vy).drew
      obtain ⟨U, hU⟩ : ∃ U, U = Vy.drew := ⟨_, rfl⟩
      rw [← hU] at hr ⊢
      clear hU
      have bU := hbI.trans (hr.mono hbI.size)
      have HC := hideC (HCW.out U bU)
      have HR := hideC (HRW.out U bU)
      have hbq := buildQ_any w.heap.size (.slice A KA.length c) R C K U (hO.below hr) (by rw [HKL.out]; omega) hR hC HWK.out.rows1 HWK.out.rows2
      have HB := hideC hbq
      clear hbq
      (refine m_q 0 (v := ?_) (by kernel_rfl) rfl rfl (fun W hW => ?_) ?_; rotate_left; (have y0 := onB hW d2; have y1 := onB hW c6; go_simp; first | done | with_reducible rfl); simp only [Act.put, List.setIfInBounds_toArray, List.set_cons_zero, List.set_cons_succ]); (refine m_q 2 (v := ?_) (by kernel_rfl) rfl rfl (fun W hW => ?_) ?_; rotate_left; (have y0 := onB hW d2; have y1 := onB hW c6; go_simp; first | done | with_reducible rfl); simp only [Act.put, List.setIfInBounds_toArray, List.set_cons_zero, List.set_cons_succ]); (refine m_q 4 (v := ?_) (by kernel_rfl) rfl rfl (fun W hW => ?_) ?_; rotate_left; (have y0 := onB hW d2; have y1 := onB hW c6; go_simp; first | done | with_reducible rfl); simp only [Act.put, List.setIfInBounds_toArray, List.set_cons_zero, List.set_cons_succ])
      refine m_s1 1 (by kernel_rfl) rfl ?_
      go_wp2_with fail
      with_reducible refine HR.out.mono ?_
      rintro e w' ⟨rfl, rfl⟩
      go_wp2_with fail
      refine m_keep hr ?_
      refine m_s1 3 (by kernel_rfl) rfl ?_
      go_wp2_with fail
      with_reducible refine HC.out.mono ?_
      rintro e w' ⟨rfl, rfl⟩
      go_wp2_with fail
      refine m_keep hr ?_
      refine m_s1 5 (by kernel_rfl) rfl ?_
      go_wp2_with fail
      with_reducible refine HB.out.mono ?_
      rintro e U3 ⟨u3, p3, rfl, hu3, hp3, hb5⟩
      have hr3 := hr.trans (hb5.mono hr.size)
      go_wp2_with fail
      refine m_keep hr3 ?_
      (refine m_q 6 (v := ?_) (by kernel_rfl) rfl rfl (fun W hW => ?_) ?_; rotate_left; (go_simp; first | done | with_reducible rfl); simp only [Act.put, List.setIfInBounds_toArray, List.set_cons_zero, List.set_cons_succ]); (refine m_q 7 (v := ?_) (by kernel_rfl) rfl rfl (fun W hW => ?_) ?_; rotate_left; (go_simp; first | done | with_reducible rfl); simp only [Act.put, List.setIfInBounds_toArray, List.set_cons_zero, List.set_cons_succ])
      have hI3 := hI.below hr3
      have k4 := hI3.b4
      have x2 := (k4.set_ 0 (ptr u3)).set_ 1 (ptr p3)
      have xb := (hI3.bel.setCell (p := ⟨g + 2, 0, none⟩) (by simp; omega) (ptr u3)).setCell (p := ⟨g + 2, 1, none⟩) (by simp; omega) (ptr p3)
      have xu := (hu3.put (i := 0) k4 (by decide) (by decide) (by decide) (ptr u3)).put (i := 1) (k4.set_ 0 (ptr u3)) (by decide) (by decide) (by decide) (ptr p3)
      have xp := (hp3.put (i := 0) k4 (by decide) (by decide) (by decide) (ptr u3)).put (i := 1) (k4.set_ 0 (ptr u3)) (by decide) (by decide) (by decide) (ptr p3)
      have hM3 := ((hM.kd (KeepD.of_below hr3)).others (KeepsOthers.setCell U3 ⟨g + 2, 0, none⟩ (ptr u3))).others (KeepsOthers.setCell _ ⟨g + 2, 1, none⟩ (ptr p3))
      have f0 := k4.frozen 0
      have f1 := k4.frozen 1
      have c0 := k4.cell 0
      have c1 := k4.cell 1
      have l2 := k4.lt
      have X2 := Lib.hid x2; have XB := Lib.hid xb; have XU := Lib.hid xu; have XP := Lib.hid xp; have XM := Lib.hid hM3
      clear x2 xb xu xp hM3 hI3 k4 hr hr3 d2 c6 HB HC HR hb5 hu3 hp3 b6 hO hI hM
      refine m_s1 8 (by kernel_rfl) rfl ?_
      go_wp2_with fail
      refine m_clear (by kernel_rfl) ?_
      (refine m_q 9 (v := ?_) (by kernel_rfl) rfl rfl (fun W hW => ?_) ?_; rotate_left; (go_simp; first | done | with_reducible rfl); simp only [Act.put, List.setIfInBounds_toArray, List.set_cons_zero, List.set_cons_succ])
      refine m_end (by kernel_rfl) ?_
      go_wp2_with fail
      refine leave_marks (n₀ := w.heap.size) _ _ XM.out fun W' hW' => ?_
      have d0 := Blk.cell (hW'.2 _ _ _ _ X2.out : Blk W' (g + 2) 34 _) 0
      have d1 := Blk.cell (hW'.2 _ _ _ _ X2.out : Blk W' (g + 2) 34 _) 1
      exact ⟨.tuple #[.agg #[ptr u3, ptr p3], .int .i64 0], by simp [results, Tryz.results10, go_sem, d0, d1], u3, p3, rfl, XU.out.shut hW', XP.out.shut hW', XB.out.trans hW'.1⟩
  · obtain rfl : i = (m : Int) := by omega
    have HSIM := Lib.hid hsim
    have HCL := hideC (cloneQ_any w.heap.size (.slice A L.length c) L V hO (by omega) (by omega))
    have hmn : m < L.length := by omega
    clear hsim hi
    go_wp2_with fail
    with_reducible refine HCL.out.mono ?_
    rintro e V1 ⟨gc, cc, rfl, hO1, hb1⟩
    have HDE := hideC (deleteQ_any' V.heap.size (.slice (some ⟨gc, 0, none⟩) L.length cc) L m V1 hO1 hmn (by omega))
    clear HCL
    go_wp2_with fail
    with_reducible refine HDE.out.mono ?_
    rintro e V2 ⟨v2, rfl, hO2, hb2⟩
    have hbV := hb1.trans hb2
    have hI2 := hI.below hbV
    have h62 := b6.below hbV b6.lt
    have hO2' := hO.below hbV
    have hle : (L.eraseIdx m).length ≤ L.length := List.length_eraseIdx_le _ _
    have hln : m ≤ (L.eraseIdx m).length := by rw [List.length_eraseIdx, if_pos hmn]; omega
    have hwf2 := hwf.erase m
    have HG := hideC (HGO.out g V.heap.size (L.eraseIdx m) v2 V2 hI2.bel hI2.b2 hO2 (by omega) hwf2)
    have c7 := hI2.b7.cell 0
    have hOl := hO2.low hI.bel.size
    have hs1 : simA ok (m + 1) L = simA ok m (if ok (L.eraseIdx m) = true then L.eraseIdx m else L) := rfl
    have hsim := HSIM.out
    rw [hs1] at hsim
    obtain ⟨L2, hL2⟩ : ∃ L2, L2 = L.eraseIdx m := ⟨_, rfl⟩
    rw [← hL2] at HG hle hln hwf2 hsim hOl hO2
    obtain ⟨bo, hbo⟩ : ∃ b, b = ok L2 := ⟨_, rfl⟩
    rw [← hbo] at HG hsim
    obtain ⟨A2, c2, rfl⟩ := hO2.val
    clear HDE hs1 hL2 hbo HSIM hb1 hb2 hO1 c6 b6 hI hO hO2
    go_wp2_with fail
    with_reducible refine HG.out.mono ?_
    rintro e V3 ⟨rfl, hb3⟩
    have hI3 := hI2.below hb3
    have h63 := h62.below hb3 h62.lt
    have hOn0 := hOl.below hb3
    have hOo0 := hO2'.below hb3
    clear HG hI2 h62 hOl hO2' hbV hb3 c7
    cases bo with
    | true =>
      rw [if_pos rfl] at hsim
      have c6 := h63.cell 0
      have f6 := h63.frozen 0
      have l6 := h63.lt
      have hOn := hOn0.put h63 (by decide) (by decide) 0 (.slice A2 L2.length c2)
      have hIn := hI3.put h63 hg6w (by decide) (by decide) (by decide) 0 (.slice A2 L2.length c2)
      have h6n := h63.set_ 0 (.slice A2 L2.length c2)
      have HON := Lib.hid hOn; have HIN := Lib.hid hIn; have H6N := Lib.hid h6n; have HSI := Lib.hid hsim
      clear hOn hIn h6n hsim hOn0 hOo0 hI3 h63
      go_wp2_with fail
      exact ⟨((m : Int) - 1, .slice A2 L2.length c2, L2), rfl, ⟨by first | rfl | trivial, ⟨m, rfl, hln, HSI.out⟩, H6N.out, HON.out, hwf2, by dsimp only; omega, HIN.out⟩, by show ((m : Int) - 1 + 1).toNat < ((m : Int) + 1).toNat; omega⟩
    | false =>
      rw [if_neg (by simp)] at hsim
      have HSI := Lib.hid hsim
      clear hsim
      go_wp2_with fail
      exact ⟨((m : Int) - 1, .slice A L.length c, L), rfl, ⟨by first | rfl | trivial, ⟨m, rfl, by dsimp only; omega, HSI.out⟩, h63, hOo0, hwf, by dsimp only; omega, hI3⟩, by show ((m : Int) - 1 + 1).toNat < ((m : Int) + 1).toNat; omega⟩
end Mix2
end Go.Proofs.YtfbkcdhmggjbaaaGreatDoor

/-
  For the laws of Simplify, Needs and Normal.
-/
namespace Go.Proofs.YtfbkcdhmggjbaaaGreatDoor
open Go.RowKit
theorem mat_rows {R C : Nat} {f : Nat → Nat → Bool} {i : Nat} {r : List Bool} (h : (mat R C f)[i]? = some r) : r.length = C := by
  unfold mat at h
  rw [List.getElem?_map] at h
  obtain ⟨x, _, rfl⟩ := Option.map_eq_some_iff.1 h
  simp
theorem ptrsQ {a b : Option Addr} : ∀ (k : Nat) A n c, (#[.pointer a, .pointer b] : Array Value)[k]? ≠ some (.slice A n c) := by
  intro k A n c
  rcases k with _ | _ | k <;> simp
/-- A matrix stays when a box of two pointers is written. -/
theorem IsMat.boxQ {W : World} {q X C : Nat} {Ns : List Nat} {t : TypeId} {a b : Option Addr} (h : IsMat W q C Ns) (hX : Blk W X t #[.pointer a, .pointer b]) (h1 : 103 ≠ t) (ht : 158 ≠ t) (i : Nat) (u : Value) : IsMat (W.setCell ⟨X, i, none⟩ u) q C Ns := by
  obtain ⟨h1', h2, A, c, vs, hB, hc, hr, hs⟩ := h
  refine ⟨h1', h2, A, c, vs, hB.far (p := ⟨X, i, none⟩) (hB.ne_ hX h1) u, hc, fun hp => ?_, hs.keep (KeepW.setCell (p := ⟨X, i, none⟩) hX ht u)⟩
  obtain ⟨g, off, hA, hg, hcell⟩ := hr hp
  have hne : g ≠ X := by
    rintro rfl
    obtain ⟨v0, hv0⟩ : ∃ v, vs[0]? = some v := ⟨vs[0], List.getElem?_eq_getElem hp⟩
    obtain ⟨N0, hN0⟩ : ∃ N, Ns[0]? = some N := ⟨Ns[0]'(by rw [← hs.1]; exact hp), List.getElem?_eq_getElem _⟩
    obtain ⟨A', c', rfl, _⟩ := hs.2 0 v0 N0 hv0 hN0
    have := hcell 0 _ hv0
    rw [hX.cell] at this
    exact ptrsQ _ _ _ _ this
  exact ⟨g, off, hA, by simpa [World.setCell] using hg, fun k v hv => (World.cell?_of_block (a := ⟨g, off + k, none⟩) (Below.heap_setCell W ⟨X, i, none⟩ u g hne)).trans (hcell k v hv)⟩
theorem IsMat.boxQ2 {W : World} {q X C p1 p2 : Nat} {Ns : List Nat} {t : TypeId} {a b : Option Addr} (h : IsMat W q C Ns) (hX : Blk W X t #[.pointer a, .pointer b]) (h1 : 103 ≠ t) (ht : 158 ≠ t) : IsMat ((W.setCell ⟨X, 0, none⟩ (ptr p1)).setCell ⟨X, 1, none⟩ (ptr p2)) q C Ns :=
  (h.boxQ hX h1 ht 0 (ptr p1)).boxQ (hX.set_ 0 (ptr p1)) h1 ht 1 (ptr p2)
/-- Users and permissions are those of the specification's roles. -/
theorem users_sameQ {R : Nat} {L : List (Nat × Nat)} (hL : L.length ≤ 4096) : sameB L.length L.length (toldM L.length (mtrans R (L.map (·.1)) R)) (matU R L) = true :=
  same_of (mtrans_len ..) fun i hi j hj => by
    rw [mhas_in (by rw [mtrans_len]; exact hi) hj, Bool.eq_iff_iff, usersQ_bit hL]
    exact ⟨fun h => h.2.2, fun h => ⟨hi, hj, h⟩⟩
theorem perms_sameQ {C : Nat} {L : List (Nat × Nat)} : sameB C C (toldM C (L.map (·.2))) (matP C L) = true :=
  same_of (List.length_map ..) fun i hi j hj => by
    rw [mhas_in (by rw [List.length_map]; exact hi) hj, permsQ_get hi]
theorem sameB_self {C : Nat} {M : List (List Bool)} : sameB C C M M = true := by
  unfold sameB withinB
  have : withinR C M M := fun i _ j _ h => h
  rw [decide_eq_true (show (M.length = M.length ∧ C = C) ∧ withinR C M M from ⟨⟨rfl, rfl⟩, this⟩)]; rfl
/-- The roles of the two matrices are valid for their product. -/
theorem valid_prod {C C' R : Nat} {MA MB MW : List (List Bool)} (hC : C ≤ 4096) (hC' : C' ≤ 4096) (hB : MB.length = C) (hA : MA.length = R) (hW : MW = mat R C' (prodF MA MB C)) : validN C' (nsOf C' MW) C (nsOf C MA) C' (nsOf C' MB) = true := by
  rw [validQ_want hC' hC hC' hB.symm, hA, ← hW]
  exact sameB_self
/-- Valid as matrices, valid as pairs of sets. -/
theorem valid_role {C D : Nat} {Ns Us Ps : List Nat} (hP : Ps.length ≤ 4096) (hin : rowsIn D Us) (h : validN C Ns D Us C Ps = true) (hU4 : Us.length ≤ 4096) : validQ C Ns (roleQ D Us Ps Ps.length) = true := by
  obtain ⟨hD, _, hU, hv⟩ := validN_iff.1 h
  have hl := roleQ_len D Us Ps Ps.length
  refine (validQ_iff (by omega)).2 fun i hi j => ?_
  rw [← hv i hi j, givQ_get]
  have hg : ∀ k, k < Ps.length → (roleQ D Us Ps Ps.length).getD k (0, 0) = (mcol D Us (k : Nat), Ps.getD k 0) := fun k hk => by
    unfold roleQ
    rw [List.getD_eq_getElem?_getD, List.getElem?_map, List.getElem?_range hk]; rfl
  constructor
  · rintro ⟨k, hk, h1, h2⟩
    rw [hl] at hk
    rw [hg k hk] at h1 h2
    refine ⟨k, ?_, h2⟩
    rw [testBit_mcol _ _ _ _ hU4, mhas_in (by omega) (by omega)] at h1
    exact h1
  · rintro ⟨k, h1, h2⟩
    have hk : k < Ps.length := by
      rw [← hD]
      exact of_low (hin i (by omega)) k h1
    refine ⟨k, by rw [hl]; exact hk, ?_, by rw [hg k hk]; exact h2⟩
    rw [hg k hk, testBit_mcol _ _ _ _ hU4, mhas_in (by omega) (by omega)]
    exact h1
end Go.Proofs.YtfbkcdhmggjbaaaGreatDoor
