import Derived.Test.YthkjigggfeejdaaDoorMr7
namespace Go.Proofs.YthkjigggfeejdaaDoor
open Go.RowKit

/-- Two small configurations as raw data. -/
def IsRaw49 (w : World) (v : Value) (u a b p : Nat) (zs : List Int) : Prop :=
  ∃ (u0 a0 b0 p0 : Nat) (Ad : Option Addr) (c : Nat), v = .agg #[.int .u8 u0, .int .u8 a0, .int .u8 b0, .int .u8 p0, .slice Ad zs.length c] ∧ u0 % 5 = u ∧ a0 % 4 = a ∧ b0 % 4 = b ∧ p0 % 5 = p ∧ u0 ≤ 255 ∧ a0 ≤ 255 ∧ b0 ≤ 255 ∧ p0 ≤ 255 ∧ Row w Ad (zs.map (.int .u8)) ∧ (∀ z ∈ zs, 0 ≤ z ∧ z ≤ 255) ∧ zs.length ≤ maxLen
theorem IsRaw49.below {w w' : World} {v : Value} {u a b p : Nat} {zs : List Int} (h : IsRaw49 w v u a b p zs) (hb : Below w.heap.size w w') : IsRaw49 w' v u a b p zs := by
  obtain ⟨u0, a0, b0, p0, Ad, c, h0, h1, h2, h3, h4, h5, h6, h7, h8, h9, h10⟩ := h
  exact ⟨u0, a0, b0, p0, Ad, c, h0, h1, h2, h3, h4, h5, h6, h7, h8, h9.below hb, h10⟩
theorem IsRaw49.bd {w : World} {v : Value} {u a b p : Nat} {zs : List Int} (h : IsRaw49 w v u a b p zs) : u ≤ 4 ∧ a ≤ 3 ∧ b ≤ 3 ∧ p ≤ 4 := by
  obtain ⟨u0, a0, b0, p0, Ad, c, h0, h1, h2, h3, h4, _⟩ := h
  omega
/-- What holds in the reference's Make: four matrices, numbers m. -/
structure MkI (w W : World) (cs : Array Value) (cn rn cp : Nat → Nat) (Ad : Nat → Option Addr) (gg : Nat → List Nat) (L G8 G9 : Nat) : Prop where
  raw : Blk W w.heap.size 46 cs
  r1 : Blk W (w.heap.size + 1) 31 #[.int .i64 0, .slice none 0 0, .int .i64 0, .slice none 0 0]
  r2 : Blk W (w.heap.size + 2) 31 #[.int .i64 0, .slice none 0 0, .int .i64 0, .slice none 0 0]
  c8 : Blk W G8 31 #[.int .i64 (cn 0 : Int), .slice (Ad 0) (rn 0) (cp 0), .int .i64 (cn 1 : Int), .slice (Ad 1) (rn 1) (cp 1)]
  c9 : Blk W G9 31 #[.int .i64 (cn 2 : Int), .slice (Ad 2) (rn 2) (cp 2), .int .i64 (cn 3 : Int), .slice (Ad 3) (rn 3) (cp 3)]
  lst : Blk W L 28 #[.int .i64 (cn 0 : Int), .slice (Ad 0) (rn 0) (cp 0), .int .i64 (cn 1 : Int), .slice (Ad 1) (rn 1) (cp 1), .int .i64 (cn 2 : Int), .slice (Ad 2) (rn 2) (cp 2), .int .i64 (cn 3 : Int), .slice (Ad 3) (rn 3) (cp 3)]
  own : ∃ ff : Nat → Nat → Nat → Bool, ∀ m, m < 4 → OwnRef W w.heap.size (cn m) (.slice (Ad m) (rn m) (cp m)) (gg m) (ff m)
  len : ∀ m, m < 4 → (gg m).length = rn m
  dj : ∀ m m', m < 4 → m' < 4 → m ≠ m' → ∀ g ∈ gg m, g ∉ gg m'
  below : Below w.heap.size w W
section
variable {w W W' : World} {cs : Array Value} {cn rn cp : Nat → Nat} {Ad : Nat → Option Addr} {gg : Nat → List Nat} {L G8 G9 : Nat}
theorem MkI.next (h : MkI w W cs cn rn cp Ad gg L G8 G9) (hb : Below W.heap.size W W') : MkI w W' cs cn rn cp Ad gg L G8 G9 := by
  obtain ⟨ff, hff⟩ := h.own
  exact ⟨h.raw.below hb h.raw.lt, h.r1.below hb h.r1.lt, h.r2.below hb h.r2.lt, h.c8.below hb h.c8.lt, h.c9.below hb h.c9.lt, h.lst.below hb h.lst.lt, ⟨ff, fun m hm => (hff m hm).below hb⟩, h.len, h.dj, h.below.trans (hb.mono h.below.size)⟩
theorem MkI.put (h : MkI w W cs cn rn cp Ad gg L G8 G9) {m i j gi : Nat} (hm : m < 4) (hgi : (gg m)[i]? = some gi) (b : Bool) : MkI w (W.setCell ⟨gi, j, none⟩ (.bool b)) cs cn rn cp Ad gg L G8 G9 := by
  obtain ⟨ff, hff⟩ := h.own
  obtain ⟨hi, rfl⟩ := List.getElem?_eq_some_iff.1 hgi
  obtain ⟨ds, hB⟩ := bool_blk (hff m hm) hgi
  have hlo := (hff m hm).2.2.1 _ (List.getElem_mem hi)
  refine ⟨h.raw.far (p := ⟨_, j, none⟩) (h.raw.ne_ hB (by decide)) _, h.r1.far (p := ⟨_, j, none⟩) (h.r1.ne_ hB (by decide)) _, h.r2.far (p := ⟨_, j, none⟩) (h.r2.ne_ hB (by decide)) _, h.c8.far (p := ⟨_, j, none⟩) (h.c8.ne_ hB (by decide)) _, h.c9.far (p := ⟨_, j, none⟩) (h.c9.ne_ hB (by decide)) _, h.lst.far (p := ⟨_, j, none⟩) (h.lst.ne_ hB (by decide)) _,
    ⟨fun m' => if m' = m then (fun x y => if x = i ∧ y = j then b else ff m x y) else ff m', fun m' hm' => ?_⟩, h.len, h.dj, h.below.setCell (p := ⟨_, j, none⟩) hlo _⟩
  dsimp only
  by_cases e : m' = m
  · subst e; rw [if_pos rfl]; exact (hff m' hm').put hi b
  · rw [if_neg e]; exact (hff m' hm').aside hB (h.dj m m' hm hm' (fun e' => e e'.symm) _ (List.getElem_mem hi)) j _
theorem MkI.at_ (h : MkI w W cs cn rn cp Ad gg L G8 G9) {m : Nat} (hm : m < 4) : W.cell? ⟨L, m * 2, none⟩ = some (.int .i64 (cn m : Int)) ∧ W.cell? ⟨L, m * 2 + 1, none⟩ = some (.slice (Ad m) (rn m) (cp m)) := by
  have h4 : m = 0 ∨ m = 1 ∨ m = 2 ∨ m = 3 := by omega
  rcases h4 with rfl | rfl | rfl | rfl <;> exact ⟨h.lst.cell _, h.lst.cell _⟩
theorem MkI.el (h : MkI w W cs cn rn cp Ad gg L G8 G9) {m i j : Nat} (hm : m < 4) (hi : i < rn m) (hj : j < cn m) :
    ∃ gi g off b, (gg m)[i]? = some gi ∧ Ad m = some ⟨g, off, none⟩ ∧ g < W.heap.size ∧ gi < W.heap.size ∧ W.cell? ⟨g, off + i, none⟩ = some (.slice (some ⟨gi, 0, none⟩) (cn m) (cn m)) ∧ W.cell? ⟨gi, j, none⟩ = some (.bool b) ∧ W.frozen? ⟨gi, j, none⟩ = false := by
  obtain ⟨ff, hff⟩ := h.own
  obtain ⟨gi, g, off, h1, h2, h3, h4, h5, h6, h7⟩ := own_at (hff m hm) (h.len m hm) hi hj
  exact ⟨gi, g, off, _, h1, h2, h3, h4, h5, h6, h7⟩
end
theorem MkI.start {w W : World} {cs : Array Value} {L G8 G9 u a b p : Nat} {A1 A2 A3 A4 : Option Addr} {c1 c2 c3 c4 : Nat} {g1 g2 g3 g4 : List Nat} {b1 b2 b3 b4 : Nat} {f1 f2 f3 f4 : Nat → Nat → Bool}
    (raw : Blk W w.heap.size 46 cs) (r1 : Blk W (w.heap.size + 1) 31 #[.int .i64 0, .slice none 0 0, .int .i64 0, .slice none 0 0]) (r2 : Blk W (w.heap.size + 2) 31 #[.int .i64 0, .slice none 0 0, .int .i64 0, .slice none 0 0])
    (c8 : Blk W G8 31 #[.int .i64 (a : Int), .slice A1 u c1, .int .i64 (p : Int), .slice A2 a c2]) (c9 : Blk W G9 31 #[.int .i64 (b : Int), .slice A3 u c3, .int .i64 (p : Int), .slice A4 b c4])
    (lst : Blk W L 28 #[.int .i64 (a : Int), .slice A1 u c1, .int .i64 (p : Int), .slice A2 a c2, .int .i64 (b : Int), .slice A3 u c3, .int .i64 (p : Int), .slice A4 b c4])
    (o1 : OwnRef W b1 a (.slice A1 u c1) g1 f1) (o2 : OwnRef W b2 p (.slice A2 a c2) g2 f2) (o3 : OwnRef W b3 b (.slice A3 u c3) g3 f3) (o4 : OwnRef W b4 p (.slice A4 b c4) g4 f4)
    (q1 : w.heap.size ≤ b1) (q2 : w.heap.size ≤ b2) (q3 : w.heap.size ≤ b3) (q4 : w.heap.size ≤ b4) (l1 : g1.length = u) (l2 : g2.length = a) (l3 : g3.length = u) (l4 : g4.length = b)
    (d12 : ∀ g ∈ g1, g ∉ g2) (d13 : ∀ g ∈ g1, g ∉ g3) (d14 : ∀ g ∈ g1, g ∉ g4) (d23 : ∀ g ∈ g2, g ∉ g3) (d24 : ∀ g ∈ g2, g ∉ g4) (d34 : ∀ g ∈ g3, g ∉ g4) (below : Below w.heap.size w W) :
    ∃ cn rn cp Ad gg, (cn 0 = a ∧ cn 1 = p ∧ cn 2 = b ∧ cn 3 = p) ∧ (rn 0 = u ∧ rn 1 = a ∧ rn 2 = u ∧ rn 3 = b) ∧ (cp 0 = c1 ∧ cp 1 = c2 ∧ cp 2 = c3 ∧ cp 3 = c4) ∧ (Ad 0 = A1 ∧ Ad 1 = A2 ∧ Ad 2 = A3 ∧ Ad 3 = A4) ∧ MkI w W cs cn rn cp Ad gg L G8 G9 := by
  refine ⟨fun m => match m with | 0 => a | 1 => p | 2 => b | _ => p, fun m => match m with | 0 => u | 1 => a | 2 => u | _ => b, fun m => match m with | 0 => c1 | 1 => c2 | 2 => c3 | _ => c4, fun m => match m with | 0 => A1 | 1 => A2 | 2 => A3 | _ => A4, fun m => match m with | 0 => g1 | 1 => g2 | 2 => g3 | _ => g4,
    ⟨rfl, rfl, rfl, rfl⟩, ⟨rfl, rfl, rfl, rfl⟩, ⟨rfl, rfl, rfl, rfl⟩, ⟨rfl, rfl, rfl, rfl⟩, ⟨raw, r1, r2, c8, c9, lst, ⟨fun m => match m with | 0 => f1 | 1 => f2 | 2 => f3 | _ => f4, fun m hm => ?_⟩, fun m hm => ?_, fun m m' hm hm' hne g hg => ?_, below⟩⟩
  · have h4 : m = 0 ∨ m = 1 ∨ m = 2 ∨ m = 3 := by omega
    rcases h4 with rfl | rfl | rfl | rfl
    · exact o1.low q1
    · exact o2.low q2
    · exact o3.low q3
    · exact o4.low q4
  · have h4 : m = 0 ∨ m = 1 ∨ m = 2 ∨ m = 3 := by omega
    rcases h4 with rfl | rfl | rfl | rfl <;> assumption
  · have h4 : m = 0 ∨ m = 1 ∨ m = 2 ∨ m = 3 := by omega
    have h5 : m' = 0 ∨ m' = 1 ∨ m' = 2 ∨ m' = 3 := by omega
    rcases h4 with rfl | rfl | rfl | rfl <;> rcases h5 with rfl | rfl | rfl | rfl <;> first | exact absurd rfl hne | exact d12 g hg | exact d13 g hg | exact d14 g hg | exact d23 g hg | exact d24 g hg | exact d34 g hg | exact fun hg' => d12 g hg' hg | exact fun hg' => d13 g hg' hg | exact fun hg' => d14 g hg' hg | exact fun hg' => d23 g hg' hg | exact fun hg' => d24 g hg' hg | exact fun hg' => d34 g hg' hg
theorem ne_bool {w W : World} {cs : Array Value} {cn rn cp : Nat → Nat} {Ad : Nat → Option Addr} {gg : Nat → List Nat} {L G8 G9 g gi i m j : Nat} {ds : Array Value} {v : Value} (h : Blk W g 28 ds) (_ : W.cell? ⟨gi, j, none⟩ = some v) (J : MkI w W cs cn rn cp Ad gg L G8 G9) (hm : m < 4) (hgi : (gg m)[i]? = some gi) : g ≠ gi := by
  obtain ⟨ff, hff⟩ := J.own
  obtain ⟨es, hB⟩ := bool_blk (hff m hm) hgi
  exact h.ne_ hB (by decide)
/-- What the reference's Make leaves. -/
def MkPost (w : World) (u a b p : Nat) (e : Ending) (w' : World) : Prop :=
  ∃ M P M' P' A1 c1 B1 d1 A2 c2 B2 d2, e = .returned (.tuple #[rcfV a A1 u c1 p B1 a d1, rcfV b A2 u c2 p B2 b d2]) ∧ RC w' a A1 c1 p B1 d1 M P ∧ RC w' b A2 c2 p B2 d2 M' P' ∧ M.length = u ∧ P.length = a ∧ M'.length = u ∧ P'.length = b ∧ Below w.heap.size w w'
set_option maxRecDepth 100000 in
set_option maxHeartbeats 8000000 in
theorem rmake_any (v : Value) (u a b p : Nat) (zs : List Int) (w : World) (h : IsRaw49 w v u a b p zs) :
    Calls Tryd.prog 21 #[v] w (MkPost w u a b p) := by
  have hbd := h.bd
  obtain ⟨u0, a0, b0, p0, AZ, cZ, rfl, hu, ha, hb, hp, lu, la, lb, lp, hr, hz, hl⟩ := h
  unfold maxLen at hl
  have m1 : ((u0 : Int) % 5) = (u : Int) := by omega
  have m2 : ((a0 : Int) % 4) = (a : Int) := by omega
  have m3 : ((b0 : Int) % 4) = (b : Int) := by omega
  have m4 : ((p0 : Int) % 5) = (p : Int) := by omega
  clear hu ha hb hp
  obtain ⟨bu, ba, bb, bp⟩ := hbd
  go_enter Tryd.func21, Tryd.ntmps21
  go_wp2_with fail
  refine abs3 fun W0 hR h1 h2 hb0 hz0 => ?_
  clear hz0
  have x0 := hR.cell 0
  have x1 := hR.cell 1
  have x2 := hR.cell 2
  have x3 := hR.cell 3
  refine wp_spine (fun W => Below W0.heap.size W0 W) [0, 1, 2, 3, 4, 5, 6, 7, 8, 9, 10, 11, 12, 13, 14, 15, 16, 17, 18, 19] [] (by kernel_rfl) (by kernel_rfl) ?_
  iterate 20 (refine wpE_op (v := ?_) rfl rfl (fun W hW => ?_) ?_; rotate_left; (have z0 := onB hW x0; have z1 := onB hW x1; have z2 := onB hW x2; have z3 := onB hW x3; go_simp; first | done | with_reducible rfl); simp only [Act.put, List.setIfInBounds_toArray, List.set_cons_zero, List.set_cons_succ])
  refine wpE_nil ⟨fun _ => (Below.refl _ _).drew, wpSp_nil ?_⟩
  have hd : Below W0.heap.size W0 W0.drew := (Below.refl _ _).drew
  have b1 := hb0.trans (hd.mono hb0.size)
  have hR1 := hR.below hd hR.lt
  have h11 := h1.below hd h1.lt
  have h21 := h2.below hd h2.lt
  obtain ⟨W1, hW1⟩ : ∃ V, V = W0.drew := ⟨_, rfl⟩
  rw [← hW1] at hd b1 hR1 h11 h21 ⊢
  clear hW1 x0 x1 x2 x3 hR h1 h2 hb0 hd
  rw [show (u0 : Int).tmod 5 = (u : Int) by rw [Int.tmod_eq_emod_of_nonneg (by omega)]; exact m1, show (a0 : Int).tmod 4 = (a : Int) by rw [Int.tmod_eq_emod_of_nonneg (by omega)]; exact m2, show (b0 : Int).tmod 4 = (b : Int) by rw [Int.tmod_eq_emod_of_nonneg (by omega)]; exact m3, show (p0 : Int).tmod 5 = (p : Int) by rw [Int.tmod_eq_emod_of_nonneg (by omega)]; exact m4,
    i64w (x := (u : Int)) (by omega), i64w (x := (a : Int)) (by omega), i64w (x := (b : Int)) (by omega), i64w (x := (p : Int)) (by omega)]
  clear m1 m2 m3 m4
  go_wp2_with fail
  refine (newr_any u a W1 (by omega) (by omega)).mono ?_
  rintro e W2 ⟨A1, c1, gs1, rfl, hl1, ho1, hb2⟩
  have b2 := b1.trans (hb2.mono b1.size)
  go_wp2_with fail
  refine (newr_any a p W2 (by omega) (by omega)).mono ?_
  rintro e W3 ⟨A2, c2, gs2, rfl, hl2, ho2, hb3⟩
  have b3 := b2.trans (hb3.mono b2.size)
  go_wp2_with fail
  refine absC1 fun W4 hC8 hb4 hz4 => ?_
  have b4 := b3.trans (hb4.mono b3.size)
  refine (newr_any u b W4 (by omega) (by omega)).mono ?_
  rintro e W5 ⟨A3, c3, gs3, rfl, hl3, ho3, hb5⟩
  have b5 := b4.trans (hb5.mono b4.size)
  go_wp2_with fail
  refine (newr_any b p W5 (by omega) (by omega)).mono ?_
  rintro e W6 ⟨A4, c4, gs4, rfl, hl4, ho4, hb6⟩
  have b6 := b5.trans (hb6.mono b5.size)
  have k8 := (hC8.below hb5 hC8.lt)
  have k8' := k8.below hb6 k8.lt
  have y0 := k8'.cell 0
  have y1 := k8'.cell 1
  have y2 := k8'.cell 2
  have y3 := k8'.cell 3
  have ly := k8'.lt
  have hz4' := hb5.size
  have hz6' := hb6.size
  have d12 := own_disj ho1 ho2 (Nat.le_refl _)
  have d13 := own_disj ho1 ho3 (by have := hb3.size; have := hb4.size; omega)
  have d14 := own_disj ho1 ho4 (by have := hb3.size; have := hb4.size; omega)
  have d23 := own_disj ho2 ho3 (by have := hb4.size; omega)
  have d24 := own_disj ho2 ho4 (by have := hb4.size; omega)
  have d34 := own_disj ho3 ho4 (Nat.le_refl _)
  clear hz4
  go_wp2_with fail
  refine abs2 fun W7 hC9 hL hb7 hz7 => ?_
  have hb36 := hb4.trans ((hb5.trans (hb6.mono hb5.size)).mono hb4.size)
  have hb37 := hb36.trans (hb7.mono hb36.size)
  have hb27 := hb3.trans (hb37.mono hb3.size)
  have hb57 := hb6.trans (hb7.mono hb6.size)
  have hb17 := hb2.trans (hb27.mono hb2.size)
  obtain ⟨cn, rn, cp, Ad, gg, ⟨hn0, hn1, hn2, hn3⟩, ⟨hr0, hr1, hr2, hr3⟩, ⟨hp0, hp1, hp2, hp3⟩, ⟨hA0, hA1, hA2, hA3⟩, hJ⟩ := MkI.start (w := w) (hR1.below hb17 hR1.lt) (h11.below hb17 h11.lt) (h21.below hb17 h21.lt) (k8'.below hb7 k8'.lt) hC9 hL (ho1.below hb27) (ho2.below hb37) (ho3.below hb57) (ho4.below hb7) b1.size b2.size b4.size b5.size hl1 hl2 hl3 hl4 d12 d13 d14 d23 d24 d34 (b6.trans (hb7.mono b6.size))
  have HCN := Lib.hid (show ∀ m, m < 4 → cn m ≤ 4 from fun m hm => by
    have h4 : m = 0 ∨ m = 1 ∨ m = 2 ∨ m = 3 := by omega
    rcases h4 with rfl | rfl | rfl | rfl <;> omega)
  have HRN := Lib.hid (show ∀ m, m < 4 → rn m ≤ 4 from fun m hm => by
    have h4 : m = 0 ∨ m = 1 ∨ m = 2 ∨ m = 3 := by omega
    rcases h4 with rfl | rfl | rfl | rfl <;> omega)
  have HE := Lib.hid (And.intro (And.intro hn0 (And.intro hn1 (And.intro hn2 hn3))) (And.intro (And.intro hr0 (And.intro hr1 (And.intro hr2 hr3))) (And.intro (And.intro hp0 (And.intro hp1 (And.intro hp2 hp3))) (And.intro hA0 (And.intro hA1 (And.intro hA2 hA3))))))
  have HG := Lib.hid (And.intro (show W3.heap.size ≠ w.heap.size + 1 by have := (h11.below hb2 h11.lt).below hb3 (Nat.lt_of_lt_of_le h11.lt hb2.size); have := this.lt; omega) (show W6.heap.size ≠ w.heap.size + 1 by have := k8'.lt; have := (h11.below hb2 h11.lt).below hb3 (Nat.lt_of_lt_of_le h11.lt hb2.size); have := this.lt; omega))
  obtain ⟨G8, hG8⟩ : ∃ x, x = W3.heap.size := ⟨_, rfl⟩
  obtain ⟨G9, hG9⟩ : ∃ x, x = W6.heap.size := ⟨_, rfl⟩
  rw [← hG8, ← hG9] at hJ HG ⊢
  have HZ := Lib.hid hz
  clear hG8 hG9 hn0 hn1 hn2 hn3 hr0 hr1 hr2 hr3 hp0 hp1 hp2 hp3 hA0 hA1 hA2 hA3 hC9 hL hb7 hz7 hb36 hb37 hb27 hb57 hb17 d12 d13 d14 d23 d24 d34 hz4' hz6' k8 k8' y0 y1 y2 y3 ly hb2 hb3 hb4 hb5 hb6 b1 b2 b3 b4 b5 b6 hR1 h11 h21 hC8 ho1 ho2 ho3 ho4 hl1 hl2 hl3 hl4 hz
  refine wp_loopF (β := Nat × Nat) (fun q f => #[f 0, .pointer (some ⟨w.heap.size, 0, none⟩), .pointer (some ⟨w.heap.size + 1, 0, none⟩), .pointer (some ⟨w.heap.size + 2, 0, none⟩), f 4, f 5, f 6, f 7, ptr G8, ptr G9, .int .i64 (q.2 : Int), f 11, f 12, f 13, f 14, f 15, f 16, f 17, f 18, f 19, f 20, f 21, f 22, f 23, f 24, f 25, f 26, f 27, f 28, f 29, f 30, f 31, f 32, f 33, f 34, f 35, f 36, f 37, f 38, f 39, f 40, f 41, f 42, f 43, f 44, f 45, f 46, f 47, f 48, f 49, f 50, f 51, f 52, .slice (some ⟨G9 + 1, 0, none⟩) 4 4, .int .i64 4, .int .i64 (q.1 : Int), f 56, f 57, f 58, f 59, f 60, f 61, f 62, f 63, f 64, f 65, f 66, f 67, f 68, f 69, f 70, f 71, f 72, f 73, f 74, f 75, f 76, f 77, f 78, f 79, f 80, f 81, f 82, f 83, f 84, f 85, f 86, f 87, f 88, f 89, f 90, f 91, f 92, f 93, f 94, f 95, f 96, f 97, f 98, f 99, f 100, f 101, f 102, f 103])
    (fun q ds wr => q.1 ≤ 4 ∧ q.2 ≤ 25 * q.1 ∧ ds = [] ∧ MkI w wr #[.int .u8 u0, .int .u8 a0, .int .u8 b0, .int .u8 p0, .slice AZ zs.length cZ] cn rn cp Ad gg (G9 + 1) G8 G9) (fun q => 4 - q.1) (0, 0) rfl ⟨Nat.zero_le _, Nat.zero_le _, rfl, hJ⟩ ?_
  rintro ⟨m, k⟩ f ds wr ⟨hm, hk, rfl, J⟩
  dsimp only at hm hk ⊢
  clear hJ
  by_cases hlt : m < 4
  · obtain ⟨e0, e1⟩ := J.at_ hlt
    have hcn := HCN.out m hlt
    have hrn := HRN.out m hlt
    have ll := J.lst.lt
    go_wp2_with fail
    refine abs1 fun V1 hT1 hv1 hzv1 => ?_
    have J1 := J.next hv1
    obtain ⟨g12, hg12⟩ : ∃ x, x = wr.heap.size := ⟨_, rfl⟩
    rw [← hg12] at hT1 ⊢
    obtain ⟨C, hC⟩ : ∃ x, x = cn m := ⟨_, rfl⟩
    obtain ⟨R, hR⟩ : ∃ x, x = rn m := ⟨_, rfl⟩
    rw [← hC] at hT1 hcn
    rw [← hR] at hT1 hrn ⊢
    have HC := Lib.hid hC
    have HR := Lib.hid hR
    obtain ⟨AD, hAD⟩ : ∃ x, x = Ad m := ⟨_, rfl⟩
    rw [← hAD] at hT1
    have HAD := Lib.hid hAD
    clear e0 e1 ll hv1 hzv1 hg12 hC hR hAD J
    refine wp_loopF (β := Nat × Nat) (fun q f => #[f 0, .pointer (some ⟨w.heap.size, 0, none⟩), .pointer (some ⟨w.heap.size + 1, 0, none⟩), .pointer (some ⟨w.heap.size + 2, 0, none⟩), f 4, f 5, f 6, f 7, ptr G8, ptr G9, .int .i64 (q.2 : Int), f 11, ptr g12, f 13, f 14, f 15, f 16, f 17, f 18, f 19, f 20, f 21, f 22, f 23, f 24, f 25, f 26, f 27, f 28, f 29, f 30, f 31, f 32, f 33, f 34, f 35, f 36, f 37, f 38, f 39, f 40, f 41, f 42, f 43, f 44, f 45, f 46, f 47, f 48, f 49, f 50, f 51, f 52, .slice (some ⟨G9 + 1, 0, none⟩) 4 4, .int .i64 4, .int .i64 (m : Int), f 56, f 57, f 58, f 59, f 60, .int .i64 (R : Int), .int .i64 (q.1 : Int), f 63, f 64, f 65, f 66, f 67, f 68, f 69, f 70, f 71, f 72, f 73, f 74, f 75, f 76, f 77, f 78, f 79, f 80, f 81, f 82, f 83, f 84, f 85, f 86, f 87, f 88, f 89, f 90, f 91, f 92, f 93, f 94, f 95, f 96, f 97, f 98, f 99, f 100, f 101, f 102, f 103])
      (fun q ds wq => q.1 ≤ R ∧ q.2 ≤ 25 * m + 5 * q.1 ∧ ds = [] ∧ MkI w wq #[.int .u8 u0, .int .u8 a0, .int .u8 b0, .int .u8 p0, .slice AZ zs.length cZ] cn rn cp Ad gg (G9 + 1) G8 G9 ∧ Blk wq g12 28 #[.int .i64 (C : Int), .slice AD R (cp m)]) (fun q => R - q.1) (0, k) rfl ⟨Nat.zero_le _, by omega, rfl, J1, hT1⟩ ?_
    rintro ⟨i, k⟩ f ds wq ⟨hi, hk, rfl, J, hT⟩
    dsimp only at hi hk ⊢
    clear J1 hT1
    by_cases hli : i < R
    · go_wp2_with fail
      refine wp_loopF (β := Nat × Nat) (fun q f => #[f 0, .pointer (some ⟨w.heap.size, 0, none⟩), .pointer (some ⟨w.heap.size + 1, 0, none⟩), .pointer (some ⟨w.heap.size + 2, 0, none⟩), f 4, f 5, f 6, f 7, ptr G8, ptr G9, .int .i64 (q.2 : Int), f 11, ptr g12, .int .i64 (i : Int), .int .i64 (q.1 : Int), f 15, f 16, f 17, f 18, f 19, f 20, f 21, f 22, f 23, f 24, f 25, f 26, f 27, f 28, f 29, f 30, f 31, f 32, f 33, f 34, f 35, f 36, f 37, f 38, f 39, f 40, f 41, f 42, f 43, f 44, f 45, f 46, f 47, f 48, f 49, f 50, f 51, f 52, .slice (some ⟨G9 + 1, 0, none⟩) 4 4, .int .i64 4, .int .i64 (m : Int), f 56, f 57, f 58, f 59, f 60, .int .i64 (R : Int), .int .i64 (i : Int), f 63, f 64, f 65, f 66, f 67, f 68, f 69, f 70, f 71, f 72, f 73, f 74, f 75, f 76, f 77, f 78, f 79, f 80, f 81, f 82, f 83, f 84, f 85, f 86, f 87, f 88, f 89, f 90, f 91, f 92, f 93, f 94, f 95, f 96, f 97, f 98, f 99, f 100, f 101, f 102, f 103])
        (fun q ds wq => q.1 ≤ C ∧ q.2 ≤ 25 * m + 5 * i + q.1 ∧ ds = [] ∧ MkI w wq #[.int .u8 u0, .int .u8 a0, .int .u8 b0, .int .u8 p0, .slice AZ zs.length cZ] cn rn cp Ad gg (G9 + 1) G8 G9 ∧ Blk wq g12 28 #[.int .i64 (C : Int), .slice AD R (cp m)]) (fun q => C - q.1) (0, k) rfl ⟨Nat.zero_le _, by omega, rfl, J, hT⟩ ?_
      rintro ⟨j, k⟩ f ds wj ⟨hj, hk, rfl, J2, hT2⟩
      dsimp only at hj hk ⊢
      clear J hT
      have t0 := hT2.cell 0
      have t1 := hT2.cell 1
      by_cases hlj : j < C
      · have hkb : k ≤ 200 := by omega
        obtain ⟨gi, g, off, ob, hgi, hAe, lg, lgi, q1, q2, q3⟩ := J2.el hlt (by rw [← HR.out]; exact hli) (by rw [← HC.out]; exact hlj)
        rw [← HC.out] at q1
        rw [← HAD.out] at hAe
        subst hAe
        have r4 := J2.raw.cell 4
        have hbd : Below wj.heap.size wj wj.drew := (Below.refl _ _).drew
        have J3 := J2.next hbd
        have hT3 := hT2.below hbd hT2.lt
        have q22 := onB hbd q2
        have q32 := onFrozen hbd q2 q3
        have lgi2 := Nat.lt_of_lt_of_le lgi hbd.size
        obtain ⟨wz, hwz⟩ : ∃ V, V = wj.drew := ⟨_, rfl⟩
        rw [← hwz] at hbd J3 hT3 q22 q32 lgi2
        have hq1 : IntKind.i64.wrap ((k : Int) / 8) = ((k / 8 : Nat) : Int) := by rw [i64w (by omega)]; omega
        have hq2 : IntKind.i64.wrap ((k : Int) % 8) = ((k % 8 : Nat) : Int) := by rw [i64w (by omega)]; omega
        have hr8 : k % 8 ≤ 7 := by omega
        obtain ⟨q, hq⟩ : ∃ q, q = k / 8 := ⟨_, rfl⟩
        obtain ⟨r, hre⟩ : ∃ q, q = k % 8 := ⟨_, rfl⟩
        rw [← hq] at hq1
        rw [← hre] at hq2 hr8
        clear hq hre
        by_cases hkz : q < zs.length
        · obtain ⟨gz, oz, rfl, lgz, hcz⟩ := hr (by rw [List.length_map]; omega)
          have bz := onB J2.below (hcz (q) (.int .u8 (zs.getD (q) 0)) (by rw [List.getElem?_map, List.getElem?_eq_getElem hkz, List.getD_eq_getElem?_getD, List.getElem?_eq_getElem hkz]; rfl))
          obtain ⟨z1, z2⟩ := HZ.out (zs.getD (q) 0) (by rw [List.getD_eq_getElem?_getD, List.getElem?_eq_getElem hkz]; exact List.getElem_mem hkz)
          obtain ⟨z, hze⟩ : ∃ z, z = zs.getD (q) 0 := ⟨_, rfl⟩
          rw [← hze] at bz z1 z2
          clear hze hcz
          go_wp2_with fail
          refine wp_spine (fun W => Below wj.heap.size wj W) [0, 1, 2, 3, 4, 5, 6, 7, 8, 9, 10, 11, 12, 13, 14, 15, 16, 17, 18, 19, 20, 21, 22, 23, 24, 25, 26] [27] (by kernel_rfl) (by kernel_rfl) ?_
          iterate 13 (refine wpE_op (v := ?_) rfl rfl (fun W hW => ?_) ?_; rotate_left; (have w1 := onB hW t1; have w2 := onB hW q1; have w3 := onB hW r4; go_simp; first | done | with_reducible rfl); simp only [Act.put, List.setIfInBounds_toArray, List.set_cons_zero, List.set_cons_succ])
          iterate 12 (refine wpE_yes (v := ?_) rfl (by rfl) (fun W hW => ?_) ?_; rotate_left; (have w3 := onB hW r4; have w4 := onB hW bz; go_simp; first | done | with_reducible rfl); simp only [Act.put, List.setIfInBounds_toArray, List.set_cons_zero, List.set_cons_succ])
          generalize ((z / 2 ^ min (IntKind.u64.wrap ((k : Int).tmod 8)).toNat 8).tmod 2 == 1) = bv
          iterate 2 (refine wpE_op (v := ?_) rfl rfl (fun W hW => ?_) ?_; rotate_left; (have w2 := onB hW q1; go_simp; first | done | with_reducible rfl); simp only [Act.put, List.setIfInBounds_toArray, List.set_cons_zero, List.set_cons_succ])
          rw [← hwz]
          refine wpE_nil ⟨fun h => (by cases h), wpSp_op rfl hbd ?_⟩
          clear t0 t1 q1 q2 q3 r4 bz hwz lgi hq1 hq2
          go_wp2_with fail
          refine nxt_nil ?_
          go_wp2_with fail
          have J4 := J3.put hlt hgi (j := j) bv
          exact ⟨(j + 1, k + 1), rfl, ⟨by omega, by simp; omega, by first | rfl | trivial, J4, hT3.far (p := ⟨gi, j, none⟩) (ne_bool hT3 q22 J3 hlt hgi) _⟩, by simp; omega⟩
        · go_wp2_with fail
          refine wp_spine (fun W => Below wj.heap.size wj W) [0, 1, 2, 3, 4, 5, 6, 7, 8, 9, 10, 11, 12, 13, 14, 15, 16, 17, 18, 19, 20, 21, 22, 23, 24, 25, 26] [27] (by kernel_rfl) (by kernel_rfl) ?_
          iterate 13 (refine wpE_op (v := ?_) rfl rfl (fun W hW => ?_) ?_; rotate_left; (have w1 := onB hW t1; have w2 := onB hW q1; have w3 := onB hW r4; go_simp; first | done | with_reducible rfl); simp only [Act.put, List.setIfInBounds_toArray, List.set_cons_zero, List.set_cons_succ])
          iterate 12 (refine wpE_no rfl (by rfl) ?_; simp only [Act.put, List.setIfInBounds_toArray, List.set_cons_zero, List.set_cons_succ])
          iterate 2 (refine wpE_op (v := ?_) rfl rfl (fun W hW => ?_) ?_; rotate_left; (have w2 := onB hW q1; go_simp; first | done | with_reducible rfl); simp only [Act.put, List.setIfInBounds_toArray, List.set_cons_zero, List.set_cons_succ])
          rw [← hwz]
          refine wpE_nil ⟨fun h => (by cases h), wpSp_op rfl hbd ?_⟩
          clear t0 t1 q1 q2 q3 r4 hwz lgi hq1 hq2
          go_wp2_with fail
          refine nxt_nil ?_
          go_wp2_with fail
          have J4 := J3.put hlt hgi (j := j) false
          exact ⟨(j + 1, k + 1), rfl, ⟨by omega, by simp; omega, by first | rfl | trivial, J4, hT3.far (p := ⟨gi, j, none⟩) (ne_bool hT3 q22 J3 hlt hgi) _⟩, by simp; omega⟩
      · obtain rfl : j = C := by omega
        go_wp2_with fail
        exact ⟨(i + 1, k), rfl, ⟨by omega, by simp; omega, by first | rfl | trivial, J2, hT2⟩, by simp; omega⟩
    · obtain rfl : i = R := by omega
      go_wp2_with fail
      exact ⟨(m + 1, k), rfl, ⟨by omega, by simp; omega, by first | rfl | trivial, J⟩, by simp; omega⟩
  · obtain rfl : m = 4 := by omega
    go_wp2_with fail
    obtain ⟨⟨hn0, hn1, hn2, hn3⟩, ⟨hr0, hr1, hr2, hr3⟩, ⟨hp0, hp1, hp2, hp3⟩, hA0, hA1, hA2, hA3⟩ := HE.out
    have hd : Below wr.heap.size wr wr.drew := (Below.refl _ _).drew
    have J2 := J.next hd
    obtain ⟨ff, hff⟩ := J2.own
    have o0 := TRef.mk_ (hff 0 (by omega)) (J2.len 0 (by omega)) (by omega) (by omega)
    have o1 := TRef.mk_ (hff 1 (by omega)) (J2.len 1 (by omega)) (by omega) (by omega)
    have o2 := TRef.mk_ (hff 2 (by omega)) (J2.len 2 (by omega)) (by omega) (by omega)
    have o3 := TRef.mk_ (hff 3 (by omega)) (J2.len 3 (by omega)) (by omega) (by omega)
    have l0 := mat_len (rn 0) (cn 0) (ff 0)
    have l1 := mat_len (rn 1) (cn 1) (ff 1)
    have l2 := mat_len (rn 2) (cn 2) (ff 2)
    have l3 := mat_len (rn 3) (cn 3) (ff 3)
    obtain ⟨M0, hM0⟩ : ∃ M, M = mat (rn 0) (cn 0) (ff 0) := ⟨_, rfl⟩
    obtain ⟨M1, hM1⟩ : ∃ M, M = mat (rn 1) (cn 1) (ff 1) := ⟨_, rfl⟩
    obtain ⟨M2, hM2⟩ : ∃ M, M = mat (rn 2) (cn 2) (ff 2) := ⟨_, rfl⟩
    obtain ⟨M3, hM3⟩ : ∃ M, M = mat (rn 3) (cn 3) (ff 3) := ⟨_, rfl⟩
    have k8 := J2.c8
    have k9 := J2.c9
    rw [← hM0, hn0, hp0, hA0] at o0
    rw [← hM1, hn1, hp1, hA1] at o1
    rw [← hM2, hn2, hp2, hA2] at o2
    rw [← hM3, hn3, hp3, hA3] at o3
    rw [← hM0, hr0] at l0
    rw [← hM1, hr1] at l1
    rw [← hM2, hr2] at l2
    rw [← hM3, hr3] at l3
    rw [hn0, hn1, hr0, hr1, hp0, hp1, hA0, hA1] at k8
    rw [hn2, hn3, hr2, hr3, hp2, hp3, hA2, hA3] at k9
    have r1 := J2.r1
    have r2 := J2.r2
    have bl := J2.below
    clear hff hM0 hM1 hM2 hM3 J J2 hn0 hn1 hn2 hn3 hr0 hr1 hr2 hr3 hp0 hp1 hp2 hp3 hA0 hA1 hA2 hA3 hr
    refine wp_spine (fun V => Blk V G8 31 #[.int .i64 (a : Int), .slice A1 u c1, .int .i64 (p : Int), .slice A2 a c2] ∧ Blk V G9 31 #[.int .i64 (b : Int), .slice A3 u c3, .int .i64 (p : Int), .slice A4 b c4]) [0, 1] [2, 3] (by kernel_rfl) (by kernel_rfl) ?_
    iterate 2 (refine wpE_op (v := ?_) rfl rfl (fun W hW => ?_) ?_; rotate_left; (have z0 := hW.1.cell 0; have z1 := hW.1.cell 1; have z2 := hW.1.cell 2; have z3 := hW.1.cell 3; have y0 := hW.2.cell 0; have y1 := hW.2.cell 1; have y2 := hW.2.cell 2; have y3 := hW.2.cell 3; go_simp; first | done | with_reducible rfl); simp only [Act.put, List.setIfInBounds_toArray, List.set_cons_zero, List.set_cons_succ])
    obtain ⟨wz, hwz⟩ : ∃ V, V = wr.drew := ⟨_, rfl⟩
    rw [← hwz] at k8 k9 r1 r2 bl o0 o1 o2 o3 ⊢
    clear hwz hd
    refine wpE_nil ⟨fun h => (by cases h), wpSp_op rfl ⟨k8, k9⟩ ?_⟩
    have s0 := r1.cell 0
    have s1 := r1.cell 1
    have s2 := r1.cell 2
    have s3 := r1.cell 3
    have f0 := r1.frozen 0
    have f1 := r1.frozen 1
    have f2 := r1.frozen 2
    have f3 := r1.frozen 3
    go_wp2_with fail
    have hg8 : G8 ≠ w.heap.size + 1 := HG.out.1
    have hg9 : G9 ≠ w.heap.size + 1 := HG.out.2
    have p1 := r1.putd (.int .i64 (a : Int)) (.slice A1 u c1) (.int .i64 (p : Int)) (.slice A2 a c2)
    have p2 := r2.far4 (g' := w.heap.size + 1) (by omega) (.int .i64 (a : Int)) (.slice A1 u c1) (.int .i64 (p : Int)) (.slice A2 a c2)
    have p3 := k8.far4 hg8 (.int .i64 (a : Int)) (.slice A1 u c1) (.int .i64 (p : Int)) (.slice A2 a c2)
    have p4 := k9.far4 hg9 (.int .i64 (a : Int)) (.slice A1 u c1) (.int .i64 (p : Int)) (.slice A2 a c2)
    have hc7 := (RC.mk o0 o1).far4 r1 (.int .i64 (a : Int)) (.slice A1 u c1) (.int .i64 (p : Int)) (.slice A2 a c2)
    have hd7 := (RC.mk o2 o3).far4 r1 (.int .i64 (a : Int)) (.slice A1 u c1) (.int .i64 (p : Int)) (.slice A2 a c2)
    have b7 := below_put4 bl (g := w.heap.size + 1) (by omega) (.int .i64 (a : Int)) (.slice A1 u c1) (.int .i64 (p : Int)) (.slice A2 a c2)
    refine nxt_op (W := put4 wz (w.heap.size + 1) (.int .i64 (a : Int)) (.slice A1 u c1) (.int .i64 (p : Int)) (.slice A2 a c2)) rfl ⟨p3, p4⟩ ?_
    obtain ⟨w7, hw7⟩ : ∃ V, V = put4 wz (w.heap.size + 1) (.int .i64 (a : Int)) (.slice A1 u c1) (.int .i64 (p : Int)) (.slice A2 a c2) := ⟨_, rfl⟩
    rw [← hw7] at p1 p2 hc7 hd7 b7 ⊢
    clear hw7 p3 p4 s0 s1 s2 s3 f0 f1 f2 f3 r1 r2 k8 k9 o0 o1 o2 o3 bl
    have s0 := p2.cell 0
    have s1 := p2.cell 1
    have s2 := p2.cell 2
    have s3 := p2.cell 3
    have f0 := p2.frozen 0
    have f1 := p2.frozen 1
    have f2 := p2.frozen 2
    have f3 := p2.frozen 3
    go_wp2_with fail
    refine nxt_nil ?_
    go_wp2_with fail
    have q1 := p1.far4 (g' := w.heap.size + 2) (by omega) (.int .i64 (b : Int)) (.slice A3 u c3) (.int .i64 (p : Int)) (.slice A4 b c4)
    have q2 := p2.putd (.int .i64 (b : Int)) (.slice A3 u c3) (.int .i64 (p : Int)) (.slice A4 b c4)
    have hc8 := hc7.far4 p2 (.int .i64 (b : Int)) (.slice A3 u c3) (.int .i64 (p : Int)) (.slice A4 b c4)
    have hd8 := hd7.far4 p2 (.int .i64 (b : Int)) (.slice A3 u c3) (.int .i64 (p : Int)) (.slice A4 b c4)
    have b8 := below_put4 b7 (g := w.heap.size + 2) (by omega) (.int .i64 (b : Int)) (.slice A3 u c3) (.int .i64 (p : Int)) (.slice A4 b c4)
    have cX := q1.cell 0
    have cY := q1.cell 1
    have cZ := q1.cell 2
    have cW := q1.cell 3
    have dX := q2.cell 0
    have dY := q2.cell 1
    have dZ := q2.cell 2
    have dW := q2.cell 3
    unfold put4 at cX cY cZ cW dX dY dZ dW b8
    exact bodyPost_ret (v := .tuple #[rcfV a A1 u c1 p A2 a c2, rcfV b A3 u c3 p A4 b c4]) (by simp [results, Tryd.results21, go_sem, cX, cY, cZ, cW, dX, dY, dZ, dW]) rfl ⟨M0, M1, M2, M3, A1, c1, A2, c2, A3, c3, A4, c4, rfl, hc8, hd8, l0, l1, l2, l3, b8⟩
end Go.Proofs.YthkjigggfeejdaaDoor
