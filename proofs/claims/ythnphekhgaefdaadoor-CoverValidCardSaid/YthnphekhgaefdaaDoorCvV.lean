import Derived.Test.YthnphekhgaefdaaDoorCvH
import Derived.Test.YthnphekhgaefdaaDoorLaw
import Derived.Test.YthnphekhgaefdaaDoorLaw3
import Derived.Test.YthnphekhgaefdaaDoorClo13
import Derived.Deep.DeepCutAuto
import Derived.Deep.CutBlock
namespace Go.Proofs.YthnphekhgaefdaaDoor
open Go.RowKit

/-! Plain: which roles give a matrix, in numbers and in rows of bools. -/
theorem sub48 {N K : Nat} : N &&& K = N ↔ ∀ j, N.testBit j = true → K.testBit j = true := by
  constructor
  · intro h j hj
    have := congrArg (fun x => x.testBit j) h
    simp only [Nat.testBit_and, hj, Bool.true_and] at this
    exact this
  · intro h
    apply Nat.eq_of_testBit_eq
    intro j
    rw [Nat.testBit_and]
    cases hj : N.testBit j with
    | false => rfl
    | true => rw [h j hj]; rfl
theorem bit48 {C : Nat} {M : List (List Bool)} (hC : C ≤ 4096) {i j : Nat} (hi : i < M.length) (h : ((nsOf C M).getD i 0).testBit j = true) : j < C ∧ mget M i j = true := by
  have h1 : j < C := by
    have := rowsIn_nsOf C M hC i (by rw [nsTo_len]; exact hi)
    rw [← this, Nat.testBit_and, testBit_lowN, Bool.and_eq_true, decide_eq_true_eq] at h
    exact h.2
  exact ⟨h1, by rw [← nsOf_bit hC hi h1]; exact h⟩
theorem with48 {C D : Nat} {M P : List (List Bool)} (hC : C ≤ 4096) : decide (C = D ∧ (nsOf C M).length = (nsOf D P).length ∧ withinM (nsOf C M) (nsOf D P)) = withinB C D M P := by
  unfold withinB
  rw [nsTo_len, nsTo_len, Bool.eq_iff_iff, decide_eq_true_eq, decide_eq_true_eq]
  constructor
  · rintro ⟨rfl, hL, hw⟩
    refine ⟨⟨hL, rfl⟩, fun i hi j hj hm => ?_⟩
    have h1 := sub48.1 (hw i (by rw [nsTo_len]; exact hi)) j (by rw [nsOf_bit hC hi hj]; exact hm)
    rwa [nsOf_bit hC (by omega) hj] at h1
  · rintro ⟨⟨hL, rfl⟩, hw⟩
    refine ⟨rfl, hL, fun i hi => sub48.2 fun j hj => ?_⟩
    rw [nsTo_len] at hi
    obtain ⟨hjC, hm⟩ := bit48 hC hi hj
    rw [nsOf_bit hC (by omega) hjC]
    exact hw i hi j hjC hm
theorem eq48 {C D : Nat} {M P : List (List Bool)} (hC : C ≤ 4096) (hD : D ≤ 4096) : decide (C = D ∧ (nsOf C M).length = (nsOf D P).length ∧ withinM (nsOf C M) (nsOf D P) ∧ withinM (nsOf D P) (nsOf C M)) = sameB C D M P := by
  unfold sameB
  rw [← with48 hC, ← with48 hD, Bool.eq_iff_iff, Bool.and_eq_true, decide_eq_true_eq, decide_eq_true_eq, decide_eq_true_eq]
  constructor
  · rintro ⟨rfl, hL, h1, h2⟩; exact ⟨⟨rfl, hL, h1⟩, rfl, hL.symm, h2⟩
  · rintro ⟨⟨rfl, hL, h1⟩, _, _, h2⟩; exact ⟨rfl, hL, h1, h2⟩
theorem prod48 {C D : Nat} {M P : List (List Bool)} (hC : C ≤ 4096) (hD : D ≤ 4096) (hL : C = P.length) : mprod (nsOf C M) (nsOf D P) M.length = nsOf D (mat M.length D (prodF M P C)) := by
  refine List.ext_getElem (by rw [mprod_len, nsTo_len, mat_len]) fun i h1 h2 => ?_
  have hi : i < M.length := by rw [mprod_len] at h1; exact h1
  rw [← getD_at h1, ← getD_at h2]
  refine Nat.eq_of_testBit_eq fun j => ?_
  by_cases hj : j < D
  · have e := mprod_has hC hD hL i hi j hj
    rw [mhas_in (by rw [mprod_len]; exact hi) hj] at e
    rw [e, nsOf_bit hD (by rw [mat_len]; exact hi) hj, mat_get hi hj]
  · have e1 : ((mprod (nsOf C M) (nsOf D P) M.length).getD i 0).testBit j = false := by
      rw [Bool.eq_false_iff]
      intro h
      obtain ⟨k, _, hk⟩ := (mprod_bit hi).1 h
      by_cases hkP : k < P.length
      · exact hj (bit48 hD hkP hk).1
      · rw [List.getD_eq_getElem?_getD, List.getElem?_eq_none (by rw [nsTo_len]; omega)] at hk
        simp at hk
    have e2 : ((nsOf D (mat M.length D (prodF M P C))).getD i 0).testBit j = false := by
      rw [Bool.eq_false_iff]
      intro h
      exact hj (bit48 hD (by rw [mat_len]; exact hi) h).1
    rw [e1, e2]
/-- Valid answers as the specification's product and Same. -/
theorem valid_want {C D E : Nat} {A B P : List (List Bool)} (hC : C ≤ 4096) (hD : D ≤ 4096) (hE : E ≤ 4096) (hL : D = P.length) : validN C (nsOf C A) D (nsOf D B) E (nsOf E P) = sameB E C (mat B.length E (prodF B P D)) A := by
  unfold validN
  rw [decide_eq_true (show D = (nsOf E P).length by rw [nsTo_len]; exact hL), Bool.true_and, ← eq48 hE hC, show (nsOf D B).length = B.length from nsTo_len .., prod48 hD hE hL]
theorem valid_not {C D E : Nat} {A B P : List (List Bool)} (hL : ¬ D = P.length) : validN C (nsOf C A) D (nsOf D B) E (nsOf E P) = false := by
  unfold validN
  rw [decide_eq_false (show ¬ D = (nsOf E P).length by rw [nsTo_len]; exact hL), Bool.false_and]

/-- What the reference's Make has left, in rows of its own. -/
def MkR (W : World) (R C : Nat) (zs : List Int) (A : Option Addr) (c : Nat) : Prop := ∃ gs : List Nat, gs.length = R ∧ OwnRef W 0 C (.slice A R c) gs (rawF C zs)
/-- A box for one, made behind w. -/
def Fre (w W : World) (g : Nat) (x y : Value) : Prop := Blk W g 29 #[x, y] ∧ w.heap.size ≤ g
section
variable {w W W' : World} {R C c g g' : Nat} {zs : List Int} {A : Option Addr} {x y x' y' : Value} {cs : Array Value}
/-- The two cells of a box are written. -/
abbrev sto2 (W : World) (g : Nat) (x y : Value) : World := (W.setCell ⟨g, 0, none⟩ x).setCell ⟨g, 1, none⟩ y
theorem MkR.below (h : MkR W R C zs A c) (hb : Below W.heap.size W W') : MkR W' R C zs A c := let ⟨gs, h1, h2⟩ := h; ⟨gs, h1, h2.below hb⟩
theorem MkR.store (h : MkR W R C zs A c) (hB : Blk W g 29 cs) (x y : Value) : MkR (sto2 W g x y) R C zs A c :=
  let ⟨gs, h1, h2⟩ := h; ⟨gs, h1, (h2.far hB (by decide) (by decide) 0 x).far (hB.set_ 0 x) (by decide) (by decide) 1 y⟩
theorem MkR.ref (h : MkR W R C zs A c) (hR : R ≤ 5) (hC : C ≤ 5) : IsRef W C A (rawM R C zs) := let ⟨_, h1, h2⟩ := h; own_ref h2 h1 (by omega) (by omega)
theorem Fre.mk' (h : Blk W g 29 #[x, y]) (hl : w.heap.size ≤ g) : Fre w W g x y := ⟨h, hl⟩
theorem Fre.lt (h : Fre w W g x y) : g < W.heap.size := h.1.lt
theorem Fre.below (h : Fre w W g x y) (hb : Below W.heap.size W W') : Fre w W' g x y := ⟨h.1.below hb h.1.lt, h.2⟩
theorem Fre.put (h : Fre w W g x y) (x' y' : Value) : Fre w (sto2 W g x' y') g x' y' := ⟨(h.1.set_ 0 x').set_ 1 y', h.2⟩
theorem Fre.far (h : Fre w W g x y) (hne : g ≠ g') (x' y' : Value) : Fre w (sto2 W g' x' y') g x y := ⟨(h.1.far (p := ⟨_, 0, none⟩) hne x').far (p := ⟨_, 1, none⟩) hne y', h.2⟩
theorem Fre.base (h : Fre w W g x y) (hb : Below w.heap.size w W) (x' y' : Value) : Below w.heap.size w (sto2 W g x' y') := (hb.setCell (p := ⟨_, 0, none⟩) h.2 x').setCell (p := ⟨_, 1, none⟩) h.2 y'
theorem ptrs_48 {a b : Option Addr} : ∀ (k : Nat) A n c, (#[.pointer a, .pointer b] : Array Value)[k]? ≠ some (.slice A n c) := by
  intro k A n c
  rcases k with _ | _ | k <;> simp
/-- A matrix stays when a box of two pointers is written. -/
theorem IsMat.boxP {q X C : Nat} {Ns : List Nat} {t : TypeId} {a b : Option Addr} (h : IsMat W q C Ns) (hX : Blk W X t #[.pointer a, .pointer b]) (h1 : 107 ≠ t) (ht : 111 ≠ t) (i : Nat) (u : Value) : IsMat (W.setCell ⟨X, i, none⟩ u) q C Ns := by
  obtain ⟨h1', h2, A, c, vs, hB, hc, hr, hs⟩ := h
  refine ⟨h1', h2, A, c, vs, hB.far (p := ⟨X, i, none⟩) (hB.ne_ hX h1) u, hc, fun hp => ?_, hs.keep (KeepW.setCell (p := ⟨X, i, none⟩) hX ht u)⟩
  obtain ⟨g, off, hA, hg, hcell⟩ := hr hp
  have hne : g ≠ X := by
    rintro rfl
    obtain ⟨v0, hv0⟩ : ∃ v, vs[0]? = some v := ⟨vs[0], List.getElem?_eq_getElem hp⟩
    obtain ⟨N0, hN0⟩ : ∃ N, Ns[0]? = some N := ⟨Ns[0]'(by rw [← hs.1]; exact hp), List.getElem?_eq_getElem _⟩
    obtain ⟨A', c', rfl, _⟩ := hs.2 0 v0 N0 hv0 hN0
    have := hcell 0 _ hv0
    rw [hX.cell] at this
    exact ptrs_48 _ _ _ _ this
  exact ⟨g, off, hA, by simpa [World.setCell] using hg, fun k v hv => (World.cell?_of_block (a := ⟨g, off + k, none⟩) (Below.heap_setCell W ⟨X, i, none⟩ u g hne)).trans (hcell k v hv)⟩
/-- Both pointers of such a box are written. -/
theorem IsMat.box2 {q X C p1 p2 : Nat} {Ns : List Nat} {t : TypeId} {a b : Option Addr} (h : IsMat W q C Ns) (hX : Blk W X t #[.pointer a, .pointer b]) (h1 : 107 ≠ t) (ht : 111 ≠ t) : IsMat (sto2 W X (ptr p1) (ptr p2)) q C Ns :=
  (h.boxP hX h1 ht 0 (ptr p1)).boxP (hX.set_ 0 (ptr p1)) h1 ht 1 (ptr p2)
end
abbrev rv48 (r c : Nat) (A : Option Addr) (n d : Nat) : Value := .agg #[.int .u8 (r : Int), .int .u8 (c : Int), .slice A n d]
abbrev fr79 (r c r' c' r2 k2 : Nat) (A A' A2 : Option Addr) (n n' n2 d d' d2 h : Nat) (s7 s8 s9 s16 s18 s20 : Value) (f : Nat → Value) : Array Value := #[rv48 r c A n d, rv48 r' c' A' n' d', rv48 r2 k2 A2 n2 d2, ptr h, ptr (h + 1), ptr (h + 1 + 1), .bool false, s7, s8, s9, undef, undef, undef, f 13, f 14, rv48 r c A n d, s16, rv48 r' c' A' n' d', s18, rv48 r2 k2 A2 n2 d2, s20, f 21, f 22, f 23, f 24, f 25, f 26, f 27, f 28, f 29, f 30, f 31, f 32, f 33, f 34, f 35, f 36, f 37, f 38, f 39, f 40, f 41, f 42, f 43, f 44, f 45, f 46, f 47, f 48, f 49, f 50, f 51, f 52, f 53, f 54, f 55, f 56, f 57, f 58, f 59, f 60, f 61, f 62, f 63, f 64, f 65, f 66, f 67, f 68, f 69, f 70, f 71, f 72, f 73, f 74, f 75, f 76, f 77, f 78]
abbrev Fr0 (w W : World) (g : Nat) : Prop := Fre w W g (.int .i64 0) (.slice none 0 0)
theorem b48 {w W V : World} (b : Below w.heap.size w W) (hb : Below W.heap.size W V) : Below w.heap.size w V := b.trans (hb.mono b.size)
theorem box48 {w W : World} {g q1 q2 q3 C C' C2 : Nat} {N N' N2 : List Nat} (b : Below w.heap.size w W) (hB : Blk W g 54 #[.pointer none, .pointer none]) (lo : w.heap.size ≤ g) (h1 : IsMat W q1 C N) (h2 : IsMat W q2 C' N') (h3 : IsMat W q3 C2 N2) :
    Blk (sto2 W g (ptr q2) (ptr q3)) g 54 #[ptr q2, ptr q3] ∧ IsMat (sto2 W g (ptr q2) (ptr q3)) q1 C N ∧ IsMat (sto2 W g (ptr q2) (ptr q3)) q2 C' N' ∧ IsMat (sto2 W g (ptr q2) (ptr q3)) q3 C2 N2 ∧ Below w.heap.size w (sto2 W g (ptr q2) (ptr q3)) :=
  ⟨(hB.set_ 0 (ptr q2)).set_ 1 (ptr q3), h1.box2 hB (by decide) (by decide), h2.box2 hB (by decide) (by decide), h3.box2 hB (by decide) (by decide), (b.setCell (p := ⟨_, 0, none⟩) lo (ptr q2)).setCell (p := ⟨_, 1, none⟩) lo (ptr q3)⟩
structure B48 where
  A1 : Option Addr
  c1 : Nat
  A2 : Option Addr
  c2 : Nat
  A3 : Option Addr
  c3 : Nat
  g7 : Nat
  g8 : Nat
  g9 : Nat
namespace Mix2
theorem m_s4 {P : Program} {l : List Oper} {Q : Exit → Act → World → Prop} {n : Nat} {ls : Array Bool} {S : World → Prop} {a : Act} {W : World} (s t u x : Nat) {o p q r : Oper} (hr : Region.ready .any l.toArray ls = [s, t, u, x]) (ho : l[s]? = some o) (hp : l[t]? = some p) (hq : l[u]? = some q) (hx : l[x]? = some r) (h : wpList P l.toArray (nxt (afterM P l Q n ls S s)) [o] a W) (h2 : wpList P l.toArray (nxt (afterM P l Q n ls S t)) [p] a W) (h3 : wpList P l.toArray (nxt (afterM P l Q n ls S u)) [q] a W) (h4 : wpList P l.toArray (nxt (afterM P l Q n ls S x)) [r] a W) : wpM P l Q (n + 1) ls S a W := by
  refine .inr ⟨fun e => by rw [hr] at e; (cases e), fun i hi => ?_⟩
  rw [hr] at hi
  simp only [List.mem_cons, List.mem_nil_iff, or_false] at hi
  rcases hi with rfl | rfl | rfl | rfl
  · rw [ho]; exact h
  · rw [hp]; exact h2
  · rw [hq]; exact h3
  · rw [hx]; exact h4
set_option maxRecDepth 100000 in
set_option maxHeartbeats 40000000 in
theorem valid_walk (v v' v2 : Value) (R C R' C' R2 C2 : Nat) (zs zs' zs2 : List Int) (w : World) (hT : Tab w) (h : IsRaw w v R C zs) (h' : IsRaw w v' R' C' zs') (h2 : IsRaw w v2 R2 C2 zs2) :
    Calls Tryd.prog 5 #[v, v', v2] w fun e w' => e = .returned (.bool true) ∧ Below w.heap.size w w' := by
  have hbd := h.bd
  have hbd' := h'.bd
  have hbd2 := h2.bd
  obtain ⟨r, c, A0, d0, hv, _⟩ := id h
  obtain ⟨r', c', A0', d0', hv', _⟩ := id h'
  obtain ⟨r2, k2, A02, d02, hv2, _⟩ := id h2
  subst hv; subst hv'; subst hv2
  have HIN := hideC h; clear h
  have HIN' := hideC h'; clear h'
  have HIN2 := hideC h2; clear h2
  go_enter Tryd.func5, Tryd.ntmps5
  go_wp2_with fail
  refine absC3 fun W0 hX hX' hX2 hbel0 hz => ?_
  clear hz
  refine (awake_any48 W0 (hT.below hbel0)).mono ?_
  rintro e w1 ⟨rfl, hb1⟩
  have b1 := hbel0.trans (hb1.mono hbel0.size)
  replace hX := hX.below hb1 hX.lt
  replace hX' := hX'.below hb1 hX'.lt
  replace hX2 := hX2.below hb1 hX2.lt
  have x0 := hX.cell 0
  have x1 := hX.cell 1
  have x2 := hX.cell 2
  have y0 := hX'.cell 0
  have y1 := hX'.cell 1
  have y2 := hX'.cell 2
  have u0 := hX2.cell 0
  have u1 := hX2.cell 1
  have u2 := hX2.cell 2
  clear hbel0 hb1
  go_upto_region 3 with fail
  go_cut [7, 8, 9] (fun s7 s8 s9 wx => ∃ (g7 g8 g9 : Nat) (A1 A2 A3 : Option Addr) (c1 c2 c3 : Nat), s7 = ptr g7 ∧ s8 = ptr g8 ∧ s9 = ptr g9 ∧ Blk wx g7 29 #[.int .i64 (C : Int), .slice A1 R c1] ∧ Blk wx g8 29 #[.int .i64 (C' : Int), .slice A2 R' c2] ∧ Blk wx g9 29 #[.int .i64 (C2 : Int), .slice A3 R2 c3] ∧ IsRef wx C A1 (rawM R C zs) ∧ IsRef wx C' A2 (rawM R' C' zs') ∧ IsRef wx C2 A3 (rawM R2 C2 zs2) ∧ Below w.heap.size w wx)
  case first =>
    refine wp_mix (fun V => Below w1.heap.size w1 V) 12 (by kernel_rfl) (by kernel_rfl) (Below.refl _ _).drew ?_
    have b := (Below.refl w1.heap.size w1).drew
    obtain ⟨W, hWW⟩ : ∃ V, V = w1.drew := ⟨_, rfl⟩
    rw [← hWW] at b ⊢
    clear hWW
    (refine m_q 0 (v := ?_) (by kernel_rfl) rfl rfl (fun W hW => ?_) ?_; rotate_left; (have z0 := onB hW x0; have z1 := onB hW x1; have z2 := onB hW x2; have z3 := onB hW y0; have z4 := onB hW y1; have z5 := onB hW y2; have z6 := onB hW u0; have z7 := onB hW u1; have z8 := onB hW u2; go_simp; first | done | with_reducible rfl); simp only [Act.put, List.setIfInBounds_toArray, List.set_cons_zero, List.set_cons_succ]); (refine m_q 2 (v := ?_) (by kernel_rfl) rfl rfl (fun W hW => ?_) ?_; rotate_left; (have z0 := onB hW x0; have z1 := onB hW x1; have z2 := onB hW x2; have z3 := onB hW y0; have z4 := onB hW y1; have z5 := onB hW y2; have z6 := onB hW u0; have z7 := onB hW u1; have z8 := onB hW u2; go_simp; first | done | with_reducible rfl); simp only [Act.put, List.setIfInBounds_toArray, List.set_cons_zero, List.set_cons_succ]); (refine m_q 4 (v := ?_) (by kernel_rfl) rfl rfl (fun W hW => ?_) ?_; rotate_left; (have z0 := onB hW x0; have z1 := onB hW x1; have z2 := onB hW x2; have z3 := onB hW y0; have z4 := onB hW y1; have z5 := onB hW y2; have z6 := onB hW u0; have z7 := onB hW u1; have z8 := onB hW u2; go_simp; first | done | with_reducible rfl); simp only [Act.put, List.setIfInBounds_toArray, List.set_cons_zero, List.set_cons_succ])
    clear x0 x1 x2 y0 y1 y2 u0 u1 u2 hX hX' hX2
    refine m_join (β := B48) #[true, true, true, true, true, true, true, true, true, false, false, false] 3 (fun b f => fr79 r c r' c' r2 k2 A0 A0' A02 zs.length zs'.length zs2.length d0 d0' d02 w.heap.size (ptr b.g7) (ptr b.g8) (ptr b.g9) (refV C b.A1 R b.c1) (refV C' b.A2 R' b.c2) (refV C2 b.A3 R2 b.c3) f) (fun b ds W => ds = [] ∧ Below w1.heap.size w1 W ∧ MkR W R C zs b.A1 b.c1 ∧ MkR W R' C' zs' b.A2 b.c2 ∧ MkR W R2 C2 zs2 b.A3 b.c3 ∧ Fr0 w1 W b.g7 ∧ Fr0 w1 W b.g8 ∧ Fr0 w1 W b.g9 ∧ b.g7 ≠ b.g8 ∧ b.g7 ≠ b.g9 ∧ b.g8 ≠ b.g9) ?_ ?_
    · rintro ⟨A1, c1, A2, c2, A3, c3, g7, g8, g9⟩ f ds W ⟨rfl, b, M1, M2, M3, B7, B8, B9, ng7g8, ng7g9, ng8g9⟩
      dsimp only [fr79] at b M1 M2 M3 B7 B8 B9 ng7g8 ng7g9 ng8g9 ⊢
      have e0 := B7.1.cell 0; have e1 := B7.1.cell 1; have f0 := B7.1.frozen 0; have f1 := B7.1.frozen 1
      have m1 := M1.store B7.1 (.int .i64 (C : Int)) (.slice A1 R c1); have m2 := M2.store B7.1 (.int .i64 (C : Int)) (.slice A1 R c1); have m3 := M3.store B7.1 (.int .i64 (C : Int)) (.slice A1 R c1)
      have bb := B7.base b (.int .i64 (C : Int)) (.slice A1 R c1); have p := B7.put (.int .i64 (C : Int)) (.slice A1 R c1)
      have qB8 := B8.far (Ne.symm ng7g8) (.int .i64 (C : Int)) (.slice A1 R c1)
      have qB9 := B9.far (Ne.symm ng7g9) (.int .i64 (C : Int)) (.slice A1 R c1)
      clear M1 M2 M3 b
      refine m_s1 9 (by kernel_rfl) rfl ?_
      go_wp2_with fail
      refine m_keep (W := sto2 W g7 (.int .i64 (C : Int)) (.slice A1 R c1)) bb ?_
      obtain ⟨W0, hW0⟩ : ∃ V, V = sto2 W g7 (.int .i64 (C : Int)) (.slice A1 R c1) := ⟨_, rfl⟩
      rw [← hW0] at m1 m2 m3 bb p qB8 qB9 ⊢
      clear hW0 e0 e1 f0 f1 B7 B8 B9
      have M1 := m1; have M2 := m2; have M3 := m3; have b := bb; have B7 := p; have B8 := qB8; have B9 := qB9
      clear m1 m2 m3 bb p qB8 qB9
      have e0 := B8.1.cell 0; have e1 := B8.1.cell 1; have f0 := B8.1.frozen 0; have f1 := B8.1.frozen 1
      have m1 := M1.store B8.1 (.int .i64 (C' : Int)) (.slice A2 R' c2); have m2 := M2.store B8.1 (.int .i64 (C' : Int)) (.slice A2 R' c2); have m3 := M3.store B8.1 (.int .i64 (C' : Int)) (.slice A2 R' c2)
      have bb := B8.base b (.int .i64 (C' : Int)) (.slice A2 R' c2); have p := B8.put (.int .i64 (C' : Int)) (.slice A2 R' c2)
      have qB7 := B7.far ng7g8 (.int .i64 (C' : Int)) (.slice A2 R' c2)
      have qB9 := B9.far (Ne.symm ng8g9) (.int .i64 (C' : Int)) (.slice A2 R' c2)
      clear M1 M2 M3 b
      refine m_s1 10 (by kernel_rfl) rfl ?_
      go_wp2_with fail
      refine m_keep (W := sto2 W0 g8 (.int .i64 (C' : Int)) (.slice A2 R' c2)) bb ?_
      obtain ⟨W1, hW1⟩ : ∃ V, V = sto2 W0 g8 (.int .i64 (C' : Int)) (.slice A2 R' c2) := ⟨_, rfl⟩
      rw [← hW1] at m1 m2 m3 bb p qB7 qB9 ⊢
      clear hW1 e0 e1 f0 f1 B8 B7 B9
      have M1 := m1; have M2 := m2; have M3 := m3; have b := bb; have B8 := p; have B7 := qB7; have B9 := qB9
      clear m1 m2 m3 bb p qB7 qB9
      have e0 := B9.1.cell 0; have e1 := B9.1.cell 1; have f0 := B9.1.frozen 0; have f1 := B9.1.frozen 1
      have m1 := M1.store B9.1 (.int .i64 (C2 : Int)) (.slice A3 R2 c3); have m2 := M2.store B9.1 (.int .i64 (C2 : Int)) (.slice A3 R2 c3); have m3 := M3.store B9.1 (.int .i64 (C2 : Int)) (.slice A3 R2 c3)
      have bb := B9.base b (.int .i64 (C2 : Int)) (.slice A3 R2 c3); have p := B9.put (.int .i64 (C2 : Int)) (.slice A3 R2 c3)
      have qB7 := B7.far ng7g9 (.int .i64 (C2 : Int)) (.slice A3 R2 c3)
      have qB8 := B8.far ng8g9 (.int .i64 (C2 : Int)) (.slice A3 R2 c3)
      clear M1 M2 M3 b
      refine m_s1 11 (by kernel_rfl) rfl ?_
      go_wp2_with fail
      refine m_keep (W := sto2 W1 g9 (.int .i64 (C2 : Int)) (.slice A3 R2 c3)) bb ?_
      obtain ⟨W2, hW2⟩ : ∃ V, V = sto2 W1 g9 (.int .i64 (C2 : Int)) (.slice A3 R2 c3) := ⟨_, rfl⟩
      rw [← hW2] at m1 m2 m3 bb p qB7 qB8 ⊢
      clear hW2 e0 e1 f0 f1 B9 B7 B8
      have M1 := m1; have M2 := m2; have M3 := m3; have b := bb; have B9 := p; have B7 := qB7; have B8 := qB8
      clear m1 m2 m3 bb p qB7 qB8
      refine m_end (by kernel_rfl) ?_
      go_wp2_with fail
      go_meet
      exact ⟨g7, g8, g9, A1, A2, A3, c1, c2, c3, rfl, rfl, rfl, B7.1, B8.1, B9.1, M1.ref hbd.1 hbd.2, M2.ref hbd'.1 hbd'.2, M3.ref hbd2.1 hbd2.2, b1.trans (b.mono b1.size)⟩
    intro H3_678
    refine m_join (β := B48) #[true, true, true, true, true, true, true, true, false, false, false, false] 4 (fun b f => fr79 r c r' c' r2 k2 A0 A0' A02 zs.length zs'.length zs2.length d0 d0' d02 w.heap.size (ptr b.g7) (ptr b.g8) (f 9) (refV C b.A1 R b.c1) (refV C' b.A2 R' b.c2) (refV C2 b.A3 R2 b.c3) f) (fun b ds W => ds = [] ∧ Below w1.heap.size w1 W ∧ MkR W R C zs b.A1 b.c1 ∧ MkR W R' C' zs' b.A2 b.c2 ∧ MkR W R2 C2 zs2 b.A3 b.c3 ∧ Fr0 w1 W b.g7 ∧ Fr0 w1 W b.g8 ∧ b.g7 ≠ b.g8) ?_ ?_
    · rintro ⟨A1, c1, A2, c2, A3, c3, g7, g8, g9⟩ f ds W ⟨rfl, b, M1, M2, M3, B7, B8, ng7g8⟩
      dsimp only [fr79] at b M1 M2 M3 B7 B8 ng7g8 ⊢
      refine m_s1 8 (by kernel_rfl) rfl ?_
      go_wp2_with fail
      refine absN fun wn hB hb _ => ?_
      refine m_keep (b48 b hb) ?_
      exact H3_678 ⟨A1, c1, A2, c2, A3, c3, g7, g8, _⟩ _ _ _ (by kernel_rfl) rfl ⟨rfl, b48 b hb, M1.below hb, M2.below hb, M3.below hb, B7.below hb, B8.below hb, .mk' hB b.size, ng7g8, Nat.ne_of_lt B7.lt, Nat.ne_of_lt B8.lt⟩
    intro H3_67
    refine m_join (β := B48) #[true, true, true, true, true, true, true, false, true, false, false, false] 4 (fun b f => fr79 r c r' c' r2 k2 A0 A0' A02 zs.length zs'.length zs2.length d0 d0' d02 w.heap.size (ptr b.g7) (f 8) (ptr b.g9) (refV C b.A1 R b.c1) (refV C' b.A2 R' b.c2) (refV C2 b.A3 R2 b.c3) f) (fun b ds W => ds = [] ∧ Below w1.heap.size w1 W ∧ MkR W R C zs b.A1 b.c1 ∧ MkR W R' C' zs' b.A2 b.c2 ∧ MkR W R2 C2 zs2 b.A3 b.c3 ∧ Fr0 w1 W b.g7 ∧ Fr0 w1 W b.g9 ∧ b.g7 ≠ b.g9) ?_ ?_
    · rintro ⟨A1, c1, A2, c2, A3, c3, g7, g8, g9⟩ f ds W ⟨rfl, b, M1, M2, M3, B7, B9, ng7g9⟩
      dsimp only [fr79] at b M1 M2 M3 B7 B9 ng7g9 ⊢
      refine m_s1 7 (by kernel_rfl) rfl ?_
      go_wp2_with fail
      refine absN fun wn hB hb _ => ?_
      refine m_keep (b48 b hb) ?_
      exact H3_678 ⟨A1, c1, A2, c2, A3, c3, g7, _, g9⟩ _ _ _ (by kernel_rfl) rfl ⟨rfl, b48 b hb, M1.below hb, M2.below hb, M3.below hb, B7.below hb, .mk' hB b.size, B9.below hb, Nat.ne_of_lt B7.lt, ng7g9, Nat.ne_of_gt B9.lt⟩
    intro H3_68
    refine m_join (β := B48) #[true, true, true, true, true, true, false, true, true, false, false, false] 4 (fun b f => fr79 r c r' c' r2 k2 A0 A0' A02 zs.length zs'.length zs2.length d0 d0' d02 w.heap.size (f 7) (ptr b.g8) (ptr b.g9) (refV C b.A1 R b.c1) (refV C' b.A2 R' b.c2) (refV C2 b.A3 R2 b.c3) f) (fun b ds W => ds = [] ∧ Below w1.heap.size w1 W ∧ MkR W R C zs b.A1 b.c1 ∧ MkR W R' C' zs' b.A2 b.c2 ∧ MkR W R2 C2 zs2 b.A3 b.c3 ∧ Fr0 w1 W b.g8 ∧ Fr0 w1 W b.g9 ∧ b.g8 ≠ b.g9) ?_ ?_
    · rintro ⟨A1, c1, A2, c2, A3, c3, g7, g8, g9⟩ f ds W ⟨rfl, b, M1, M2, M3, B8, B9, ng8g9⟩
      dsimp only [fr79] at b M1 M2 M3 B8 B9 ng8g9 ⊢
      refine m_s1 6 (by kernel_rfl) rfl ?_
      go_wp2_with fail
      refine absN fun wn hB hb _ => ?_
      refine m_keep (b48 b hb) ?_
      exact H3_678 ⟨A1, c1, A2, c2, A3, c3, _, g8, g9⟩ _ _ _ (by kernel_rfl) rfl ⟨rfl, b48 b hb, M1.below hb, M2.below hb, M3.below hb, .mk' hB b.size, B8.below hb, B9.below hb, Nat.ne_of_gt B8.lt, Nat.ne_of_gt B9.lt, ng8g9⟩
    intro H3_78
    refine m_join (β := B48) #[true, true, true, true, true, false, true, true, true, false, false, false] 4 (fun b f => fr79 r c r' c' r2 k2 A0 A0' A02 zs.length zs'.length zs2.length d0 d0' d02 w.heap.size (ptr b.g7) (ptr b.g8) (ptr b.g9) (refV C b.A1 R b.c1) (refV C' b.A2 R' b.c2) (f 20) f) (fun b ds W => ds = [] ∧ Below w1.heap.size w1 W ∧ MkR W R C zs b.A1 b.c1 ∧ MkR W R' C' zs' b.A2 b.c2 ∧ Fr0 w1 W b.g7 ∧ Fr0 w1 W b.g8 ∧ Fr0 w1 W b.g9 ∧ b.g7 ≠ b.g8 ∧ b.g7 ≠ b.g9 ∧ b.g8 ≠ b.g9) ?_ ?_
    · rintro ⟨A1, c1, A2, c2, A3, c3, g7, g8, g9⟩ f ds W ⟨rfl, b, M1, M2, B7, B8, B9, ng7g8, ng7g9, ng8g9⟩
      dsimp only [fr79] at b M1 M2 B7 B8 B9 ng7g8 ng7g9 ng8g9 ⊢
      refine m_s1 5 (by kernel_rfl) rfl ?_
      go_wp2_with fail
      refine (make_own _ R2 C2 zs2 _ (HIN2.out.below (b1.trans (b.mono b1.size)))).mono ?_
      rintro e wn ⟨A3, c3, gs, rfl, hgs, hO, hb⟩
      have M3 : MkR wn R2 C2 zs2 A3 c3 := ⟨gs, hgs, hO⟩
      clear hgs hO
      have b := b48 b hb
      go_wp2_with fail
      refine m_keep b ?_
      exact H3_678 ⟨A1, c1, A2, c2, A3, c3, g7, g8, g9⟩ _ _ _ (by kernel_rfl) rfl ⟨rfl, b, M1.below hb, M2.below hb, M3, B7.below hb, B8.below hb, B9.below hb, ng7g8, ng7g9, ng8g9⟩
    intro H2_678
    refine m_join (β := B48) #[true, true, true, true, true, true, true, false, false, false, false, false] 5 (fun b f => fr79 r c r' c' r2 k2 A0 A0' A02 zs.length zs'.length zs2.length d0 d0' d02 w.heap.size (ptr b.g7) (f 8) (f 9) (refV C b.A1 R b.c1) (refV C' b.A2 R' b.c2) (refV C2 b.A3 R2 b.c3) f) (fun b ds W => ds = [] ∧ Below w1.heap.size w1 W ∧ MkR W R C zs b.A1 b.c1 ∧ MkR W R' C' zs' b.A2 b.c2 ∧ MkR W R2 C2 zs2 b.A3 b.c3 ∧ Fr0 w1 W b.g7) ?_ ?_
    · rintro ⟨A1, c1, A2, c2, A3, c3, g7, g8, g9⟩ f ds W ⟨rfl, b, M1, M2, M3, B7⟩
      dsimp only [fr79] at b M1 M2 M3 B7 ⊢
      refine m_s2 7 8 (by kernel_rfl) rfl rfl ?_ ?_
      · go_wp2_with fail
        refine absN fun wn hB hb _ => ?_
        refine m_keep (b48 b hb) ?_
        exact H3_67 ⟨A1, c1, A2, c2, A3, c3, g7, _, 0⟩ _ _ _ (by kernel_rfl) rfl ⟨rfl, b48 b hb, M1.below hb, M2.below hb, M3.below hb, B7.below hb, .mk' hB b.size, Nat.ne_of_lt B7.lt⟩
      · go_wp2_with fail
        refine absN fun wn hB hb _ => ?_
        refine m_keep (b48 b hb) ?_
        exact H3_68 ⟨A1, c1, A2, c2, A3, c3, g7, 0, _⟩ _ _ _ (by kernel_rfl) rfl ⟨rfl, b48 b hb, M1.below hb, M2.below hb, M3.below hb, B7.below hb, .mk' hB b.size, Nat.ne_of_lt B7.lt⟩
    intro H3_6
    refine m_join (β := B48) #[true, true, true, true, true, true, false, true, false, false, false, false] 5 (fun b f => fr79 r c r' c' r2 k2 A0 A0' A02 zs.length zs'.length zs2.length d0 d0' d02 w.heap.size (f 7) (ptr b.g8) (f 9) (refV C b.A1 R b.c1) (refV C' b.A2 R' b.c2) (refV C2 b.A3 R2 b.c3) f) (fun b ds W => ds = [] ∧ Below w1.heap.size w1 W ∧ MkR W R C zs b.A1 b.c1 ∧ MkR W R' C' zs' b.A2 b.c2 ∧ MkR W R2 C2 zs2 b.A3 b.c3 ∧ Fr0 w1 W b.g8) ?_ ?_
    · rintro ⟨A1, c1, A2, c2, A3, c3, g7, g8, g9⟩ f ds W ⟨rfl, b, M1, M2, M3, B8⟩
      dsimp only [fr79] at b M1 M2 M3 B8 ⊢
      refine m_s2 6 8 (by kernel_rfl) rfl rfl ?_ ?_
      · go_wp2_with fail
        refine absN fun wn hB hb _ => ?_
        refine m_keep (b48 b hb) ?_
        exact H3_67 ⟨A1, c1, A2, c2, A3, c3, _, g8, 0⟩ _ _ _ (by kernel_rfl) rfl ⟨rfl, b48 b hb, M1.below hb, M2.below hb, M3.below hb, .mk' hB b.size, B8.below hb, Nat.ne_of_gt B8.lt⟩
      · go_wp2_with fail
        refine absN fun wn hB hb _ => ?_
        refine m_keep (b48 b hb) ?_
        exact H3_78 ⟨A1, c1, A2, c2, A3, c3, 0, g8, _⟩ _ _ _ (by kernel_rfl) rfl ⟨rfl, b48 b hb, M1.below hb, M2.below hb, M3.below hb, B8.below hb, .mk' hB b.size, Nat.ne_of_lt B8.lt⟩
    intro H3_7
    refine m_join (β := B48) #[true, true, true, true, true, true, false, false, true, false, false, false] 5 (fun b f => fr79 r c r' c' r2 k2 A0 A0' A02 zs.length zs'.length zs2.length d0 d0' d02 w.heap.size (f 7) (f 8) (ptr b.g9) (refV C b.A1 R b.c1) (refV C' b.A2 R' b.c2) (refV C2 b.A3 R2 b.c3) f) (fun b ds W => ds = [] ∧ Below w1.heap.size w1 W ∧ MkR W R C zs b.A1 b.c1 ∧ MkR W R' C' zs' b.A2 b.c2 ∧ MkR W R2 C2 zs2 b.A3 b.c3 ∧ Fr0 w1 W b.g9) ?_ ?_
    · rintro ⟨A1, c1, A2, c2, A3, c3, g7, g8, g9⟩ f ds W ⟨rfl, b, M1, M2, M3, B9⟩
      dsimp only [fr79] at b M1 M2 M3 B9 ⊢
      refine m_s2 6 7 (by kernel_rfl) rfl rfl ?_ ?_
      · go_wp2_with fail
        refine absN fun wn hB hb _ => ?_
        refine m_keep (b48 b hb) ?_
        exact H3_68 ⟨A1, c1, A2, c2, A3, c3, _, 0, g9⟩ _ _ _ (by kernel_rfl) rfl ⟨rfl, b48 b hb, M1.below hb, M2.below hb, M3.below hb, .mk' hB b.size, B9.below hb, Nat.ne_of_gt B9.lt⟩
      · go_wp2_with fail
        refine absN fun wn hB hb _ => ?_
        refine m_keep (b48 b hb) ?_
        exact H3_78 ⟨A1, c1, A2, c2, A3, c3, 0, _, g9⟩ _ _ _ (by kernel_rfl) rfl ⟨rfl, b48 b hb, M1.below hb, M2.below hb, M3.below hb, .mk' hB b.size, B9.below hb, Nat.ne_of_gt B9.lt⟩
    intro H3_8
    refine m_join (β := B48) #[true, true, true, true, true, false, true, true, false, false, false, false] 5 (fun b f => fr79 r c r' c' r2 k2 A0 A0' A02 zs.length zs'.length zs2.length d0 d0' d02 w.heap.size (ptr b.g7) (ptr b.g8) (f 9) (refV C b.A1 R b.c1) (refV C' b.A2 R' b.c2) (f 20) f) (fun b ds W => ds = [] ∧ Below w1.heap.size w1 W ∧ MkR W R C zs b.A1 b.c1 ∧ MkR W R' C' zs' b.A2 b.c2 ∧ Fr0 w1 W b.g7 ∧ Fr0 w1 W b.g8 ∧ b.g7 ≠ b.g8) ?_ ?_
    · rintro ⟨A1, c1, A2, c2, A3, c3, g7, g8, g9⟩ f ds W ⟨rfl, b, M1, M2, B7, B8, ng7g8⟩
      dsimp only [fr79] at b M1 M2 B7 B8 ng7g8 ⊢
      refine m_s2 5 8 (by kernel_rfl) rfl rfl ?_ ?_
      · go_wp2_with fail
        refine (make_own _ R2 C2 zs2 _ (HIN2.out.below (b1.trans (b.mono b1.size)))).mono ?_
        rintro e wn ⟨A3, c3, gs, rfl, hgs, hO, hb⟩
        have M3 : MkR wn R2 C2 zs2 A3 c3 := ⟨gs, hgs, hO⟩
        clear hgs hO
        have b := b48 b hb
        go_wp2_with fail
        refine m_keep b ?_
        exact H3_67 ⟨A1, c1, A2, c2, A3, c3, g7, g8, 0⟩ _ _ _ (by kernel_rfl) rfl ⟨rfl, b, M1.below hb, M2.below hb, M3, B7.below hb, B8.below hb, ng7g8⟩
      · go_wp2_with fail
        refine absN fun wn hB hb _ => ?_
        refine m_keep (b48 b hb) ?_
        exact H2_678 ⟨A1, c1, A2, c2, none, 0, g7, g8, _⟩ _ _ _ (by kernel_rfl) rfl ⟨rfl, b48 b hb, M1.below hb, M2.below hb, B7.below hb, B8.below hb, .mk' hB b.size, ng7g8, Nat.ne_of_lt B7.lt, Nat.ne_of_lt B8.lt⟩
    intro H2_67
    refine m_join (β := B48) #[true, true, true, true, true, false, true, false, true, false, false, false] 5 (fun b f => fr79 r c r' c' r2 k2 A0 A0' A02 zs.length zs'.length zs2.length d0 d0' d02 w.heap.size (ptr b.g7) (f 8) (ptr b.g9) (refV C b.A1 R b.c1) (refV C' b.A2 R' b.c2) (f 20) f) (fun b ds W => ds = [] ∧ Below w1.heap.size w1 W ∧ MkR W R C zs b.A1 b.c1 ∧ MkR W R' C' zs' b.A2 b.c2 ∧ Fr0 w1 W b.g7 ∧ Fr0 w1 W b.g9 ∧ b.g7 ≠ b.g9) ?_ ?_
    · rintro ⟨A1, c1, A2, c2, A3, c3, g7, g8, g9⟩ f ds W ⟨rfl, b, M1, M2, B7, B9, ng7g9⟩
      dsimp only [fr79] at b M1 M2 B7 B9 ng7g9 ⊢
      refine m_s2 5 7 (by kernel_rfl) rfl rfl ?_ ?_
      · go_wp2_with fail
        refine (make_own _ R2 C2 zs2 _ (HIN2.out.below (b1.trans (b.mono b1.size)))).mono ?_
        rintro e wn ⟨A3, c3, gs, rfl, hgs, hO, hb⟩
        have M3 : MkR wn R2 C2 zs2 A3 c3 := ⟨gs, hgs, hO⟩
        clear hgs hO
        have b := b48 b hb
        go_wp2_with fail
        refine m_keep b ?_
        exact H3_68 ⟨A1, c1, A2, c2, A3, c3, g7, 0, g9⟩ _ _ _ (by kernel_rfl) rfl ⟨rfl, b, M1.below hb, M2.below hb, M3, B7.below hb, B9.below hb, ng7g9⟩
      · go_wp2_with fail
        refine absN fun wn hB hb _ => ?_
        refine m_keep (b48 b hb) ?_
        exact H2_678 ⟨A1, c1, A2, c2, none, 0, g7, _, g9⟩ _ _ _ (by kernel_rfl) rfl ⟨rfl, b48 b hb, M1.below hb, M2.below hb, B7.below hb, .mk' hB b.size, B9.below hb, Nat.ne_of_lt B7.lt, ng7g9, Nat.ne_of_gt B9.lt⟩
    intro H2_68
    refine m_join (β := B48) #[true, true, true, true, true, false, false, true, true, false, false, false] 5 (fun b f => fr79 r c r' c' r2 k2 A0 A0' A02 zs.length zs'.length zs2.length d0 d0' d02 w.heap.size (f 7) (ptr b.g8) (ptr b.g9) (refV C b.A1 R b.c1) (refV C' b.A2 R' b.c2) (f 20) f) (fun b ds W => ds = [] ∧ Below w1.heap.size w1 W ∧ MkR W R C zs b.A1 b.c1 ∧ MkR W R' C' zs' b.A2 b.c2 ∧ Fr0 w1 W b.g8 ∧ Fr0 w1 W b.g9 ∧ b.g8 ≠ b.g9) ?_ ?_
    · rintro ⟨A1, c1, A2, c2, A3, c3, g7, g8, g9⟩ f ds W ⟨rfl, b, M1, M2, B8, B9, ng8g9⟩
      dsimp only [fr79] at b M1 M2 B8 B9 ng8g9 ⊢
      refine m_s2 5 6 (by kernel_rfl) rfl rfl ?_ ?_
      · go_wp2_with fail
        refine (make_own _ R2 C2 zs2 _ (HIN2.out.below (b1.trans (b.mono b1.size)))).mono ?_
        rintro e wn ⟨A3, c3, gs, rfl, hgs, hO, hb⟩
        have M3 : MkR wn R2 C2 zs2 A3 c3 := ⟨gs, hgs, hO⟩
        clear hgs hO
        have b := b48 b hb
        go_wp2_with fail
        refine m_keep b ?_
        exact H3_78 ⟨A1, c1, A2, c2, A3, c3, 0, g8, g9⟩ _ _ _ (by kernel_rfl) rfl ⟨rfl, b, M1.below hb, M2.below hb, M3, B8.below hb, B9.below hb, ng8g9⟩
      · go_wp2_with fail
        refine absN fun wn hB hb _ => ?_
        refine m_keep (b48 b hb) ?_
        exact H2_678 ⟨A1, c1, A2, c2, none, 0, _, g8, g9⟩ _ _ _ (by kernel_rfl) rfl ⟨rfl, b48 b hb, M1.below hb, M2.below hb, .mk' hB b.size, B8.below hb, B9.below hb, Nat.ne_of_gt B8.lt, Nat.ne_of_gt B9.lt, ng8g9⟩
    intro H2_78
    refine m_join (β := B48) #[true, true, true, false, true, false, true, true, true, false, false, false] 5 (fun b f => fr79 r c r' c' r2 k2 A0 A0' A02 zs.length zs'.length zs2.length d0 d0' d02 w.heap.size (ptr b.g7) (ptr b.g8) (ptr b.g9) (refV C b.A1 R b.c1) (f 18) (f 20) f) (fun b ds W => ds = [] ∧ Below w1.heap.size w1 W ∧ MkR W R C zs b.A1 b.c1 ∧ Fr0 w1 W b.g7 ∧ Fr0 w1 W b.g8 ∧ Fr0 w1 W b.g9 ∧ b.g7 ≠ b.g8 ∧ b.g7 ≠ b.g9 ∧ b.g8 ≠ b.g9) ?_ ?_
    · rintro ⟨A1, c1, A2, c2, A3, c3, g7, g8, g9⟩ f ds W ⟨rfl, b, M1, B7, B8, B9, ng7g8, ng7g9, ng8g9⟩
      dsimp only [fr79] at b M1 B7 B8 B9 ng7g8 ng7g9 ng8g9 ⊢
      refine m_s1 3 (by kernel_rfl) rfl ?_
      go_wp2_with fail
      refine (make_own _ R' C' zs' _ (HIN'.out.below (b1.trans (b.mono b1.size)))).mono ?_
      rintro e wn ⟨A2, c2, gs, rfl, hgs, hO, hb⟩
      have M2 : MkR wn R' C' zs' A2 c2 := ⟨gs, hgs, hO⟩
      clear hgs hO
      have b := b48 b hb
      go_wp2_with fail
      refine m_keep b ?_
      exact H2_678 ⟨A1, c1, A2, c2, none, 0, g7, g8, g9⟩ _ _ _ (by kernel_rfl) rfl ⟨rfl, b, M1.below hb, M2, B7.below hb, B8.below hb, B9.below hb, ng7g8, ng7g9, ng8g9⟩
    intro H1_678
    refine m_join (β := B48) #[true, true, true, true, true, true, false, false, false, false, false, false] 6 (fun b f => fr79 r c r' c' r2 k2 A0 A0' A02 zs.length zs'.length zs2.length d0 d0' d02 w.heap.size (f 7) (f 8) (f 9) (refV C b.A1 R b.c1) (refV C' b.A2 R' b.c2) (refV C2 b.A3 R2 b.c3) f) (fun b ds W => ds = [] ∧ Below w1.heap.size w1 W ∧ MkR W R C zs b.A1 b.c1 ∧ MkR W R' C' zs' b.A2 b.c2 ∧ MkR W R2 C2 zs2 b.A3 b.c3) ?_ ?_
    · rintro ⟨A1, c1, A2, c2, A3, c3, g7, g8, g9⟩ f ds W ⟨rfl, b, M1, M2, M3⟩
      dsimp only [fr79] at b M1 M2 M3 ⊢
      refine m_s3 6 7 8 (by kernel_rfl) rfl rfl rfl ?_ ?_ ?_
      · go_wp2_with fail
        refine absN fun wn hB hb _ => ?_
        refine m_keep (b48 b hb) ?_
        exact H3_6 ⟨A1, c1, A2, c2, A3, c3, _, 0, 0⟩ _ _ _ (by kernel_rfl) rfl ⟨rfl, b48 b hb, M1.below hb, M2.below hb, M3.below hb, .mk' hB b.size⟩
      · go_wp2_with fail
        refine absN fun wn hB hb _ => ?_
        refine m_keep (b48 b hb) ?_
        exact H3_7 ⟨A1, c1, A2, c2, A3, c3, 0, _, 0⟩ _ _ _ (by kernel_rfl) rfl ⟨rfl, b48 b hb, M1.below hb, M2.below hb, M3.below hb, .mk' hB b.size⟩
      · go_wp2_with fail
        refine absN fun wn hB hb _ => ?_
        refine m_keep (b48 b hb) ?_
        exact H3_8 ⟨A1, c1, A2, c2, A3, c3, 0, 0, _⟩ _ _ _ (by kernel_rfl) rfl ⟨rfl, b48 b hb, M1.below hb, M2.below hb, M3.below hb, .mk' hB b.size⟩
    intro H3_
    refine m_join (β := B48) #[true, true, true, true, true, false, true, false, false, false, false, false] 6 (fun b f => fr79 r c r' c' r2 k2 A0 A0' A02 zs.length zs'.length zs2.length d0 d0' d02 w.heap.size (ptr b.g7) (f 8) (f 9) (refV C b.A1 R b.c1) (refV C' b.A2 R' b.c2) (f 20) f) (fun b ds W => ds = [] ∧ Below w1.heap.size w1 W ∧ MkR W R C zs b.A1 b.c1 ∧ MkR W R' C' zs' b.A2 b.c2 ∧ Fr0 w1 W b.g7) ?_ ?_
    · rintro ⟨A1, c1, A2, c2, A3, c3, g7, g8, g9⟩ f ds W ⟨rfl, b, M1, M2, B7⟩
      dsimp only [fr79] at b M1 M2 B7 ⊢
      refine m_s3 5 7 8 (by kernel_rfl) rfl rfl rfl ?_ ?_ ?_
      · go_wp2_with fail
        refine (make_own _ R2 C2 zs2 _ (HIN2.out.below (b1.trans (b.mono b1.size)))).mono ?_
        rintro e wn ⟨A3, c3, gs, rfl, hgs, hO, hb⟩
        have M3 : MkR wn R2 C2 zs2 A3 c3 := ⟨gs, hgs, hO⟩
        clear hgs hO
        have b := b48 b hb
        go_wp2_with fail
        refine m_keep b ?_
        exact H3_6 ⟨A1, c1, A2, c2, A3, c3, g7, 0, 0⟩ _ _ _ (by kernel_rfl) rfl ⟨rfl, b, M1.below hb, M2.below hb, M3, B7.below hb⟩
      · go_wp2_with fail
        refine absN fun wn hB hb _ => ?_
        refine m_keep (b48 b hb) ?_
        exact H2_67 ⟨A1, c1, A2, c2, none, 0, g7, _, 0⟩ _ _ _ (by kernel_rfl) rfl ⟨rfl, b48 b hb, M1.below hb, M2.below hb, B7.below hb, .mk' hB b.size, Nat.ne_of_lt B7.lt⟩
      · go_wp2_with fail
        refine absN fun wn hB hb _ => ?_
        refine m_keep (b48 b hb) ?_
        exact H2_68 ⟨A1, c1, A2, c2, none, 0, g7, 0, _⟩ _ _ _ (by kernel_rfl) rfl ⟨rfl, b48 b hb, M1.below hb, M2.below hb, B7.below hb, .mk' hB b.size, Nat.ne_of_lt B7.lt⟩
    intro H2_6
    refine m_join (β := B48) #[true, true, true, true, true, false, false, true, false, false, false, false] 6 (fun b f => fr79 r c r' c' r2 k2 A0 A0' A02 zs.length zs'.length zs2.length d0 d0' d02 w.heap.size (f 7) (ptr b.g8) (f 9) (refV C b.A1 R b.c1) (refV C' b.A2 R' b.c2) (f 20) f) (fun b ds W => ds = [] ∧ Below w1.heap.size w1 W ∧ MkR W R C zs b.A1 b.c1 ∧ MkR W R' C' zs' b.A2 b.c2 ∧ Fr0 w1 W b.g8) ?_ ?_
    · rintro ⟨A1, c1, A2, c2, A3, c3, g7, g8, g9⟩ f ds W ⟨rfl, b, M1, M2, B8⟩
      dsimp only [fr79] at b M1 M2 B8 ⊢
      refine m_s3 5 6 8 (by kernel_rfl) rfl rfl rfl ?_ ?_ ?_
      · go_wp2_with fail
        refine (make_own _ R2 C2 zs2 _ (HIN2.out.below (b1.trans (b.mono b1.size)))).mono ?_
        rintro e wn ⟨A3, c3, gs, rfl, hgs, hO, hb⟩
        have M3 : MkR wn R2 C2 zs2 A3 c3 := ⟨gs, hgs, hO⟩
        clear hgs hO
        have b := b48 b hb
        go_wp2_with fail
        refine m_keep b ?_
        exact H3_7 ⟨A1, c1, A2, c2, A3, c3, 0, g8, 0⟩ _ _ _ (by kernel_rfl) rfl ⟨rfl, b, M1.below hb, M2.below hb, M3, B8.below hb⟩
      · go_wp2_with fail
        refine absN fun wn hB hb _ => ?_
        refine m_keep (b48 b hb) ?_
        exact H2_67 ⟨A1, c1, A2, c2, none, 0, _, g8, 0⟩ _ _ _ (by kernel_rfl) rfl ⟨rfl, b48 b hb, M1.below hb, M2.below hb, .mk' hB b.size, B8.below hb, Nat.ne_of_gt B8.lt⟩
      · go_wp2_with fail
        refine absN fun wn hB hb _ => ?_
        refine m_keep (b48 b hb) ?_
        exact H2_78 ⟨A1, c1, A2, c2, none, 0, 0, g8, _⟩ _ _ _ (by kernel_rfl) rfl ⟨rfl, b48 b hb, M1.below hb, M2.below hb, B8.below hb, .mk' hB b.size, Nat.ne_of_lt B8.lt⟩
    intro H2_7
    refine m_join (β := B48) #[true, true, true, true, true, false, false, false, true, false, false, false] 6 (fun b f => fr79 r c r' c' r2 k2 A0 A0' A02 zs.length zs'.length zs2.length d0 d0' d02 w.heap.size (f 7) (f 8) (ptr b.g9) (refV C b.A1 R b.c1) (refV C' b.A2 R' b.c2) (f 20) f) (fun b ds W => ds = [] ∧ Below w1.heap.size w1 W ∧ MkR W R C zs b.A1 b.c1 ∧ MkR W R' C' zs' b.A2 b.c2 ∧ Fr0 w1 W b.g9) ?_ ?_
    · rintro ⟨A1, c1, A2, c2, A3, c3, g7, g8, g9⟩ f ds W ⟨rfl, b, M1, M2, B9⟩
      dsimp only [fr79] at b M1 M2 B9 ⊢
      refine m_s3 5 6 7 (by kernel_rfl) rfl rfl rfl ?_ ?_ ?_
      · go_wp2_with fail
        refine (make_own _ R2 C2 zs2 _ (HIN2.out.below (b1.trans (b.mono b1.size)))).mono ?_
        rintro e wn ⟨A3, c3, gs, rfl, hgs, hO, hb⟩
        have M3 : MkR wn R2 C2 zs2 A3 c3 := ⟨gs, hgs, hO⟩
        clear hgs hO
        have b := b48 b hb
        go_wp2_with fail
        refine m_keep b ?_
        exact H3_8 ⟨A1, c1, A2, c2, A3, c3, 0, 0, g9⟩ _ _ _ (by kernel_rfl) rfl ⟨rfl, b, M1.below hb, M2.below hb, M3, B9.below hb⟩
      · go_wp2_with fail
        refine absN fun wn hB hb _ => ?_
        refine m_keep (b48 b hb) ?_
        exact H2_68 ⟨A1, c1, A2, c2, none, 0, _, 0, g9⟩ _ _ _ (by kernel_rfl) rfl ⟨rfl, b48 b hb, M1.below hb, M2.below hb, .mk' hB b.size, B9.below hb, Nat.ne_of_gt B9.lt⟩
      · go_wp2_with fail
        refine absN fun wn hB hb _ => ?_
        refine m_keep (b48 b hb) ?_
        exact H2_78 ⟨A1, c1, A2, c2, none, 0, 0, _, g9⟩ _ _ _ (by kernel_rfl) rfl ⟨rfl, b48 b hb, M1.below hb, M2.below hb, .mk' hB b.size, B9.below hb, Nat.ne_of_gt B9.lt⟩
    intro H2_8
    refine m_join (β := B48) #[true, true, true, false, true, false, true, true, false, false, false, false] 6 (fun b f => fr79 r c r' c' r2 k2 A0 A0' A02 zs.length zs'.length zs2.length d0 d0' d02 w.heap.size (ptr b.g7) (ptr b.g8) (f 9) (refV C b.A1 R b.c1) (f 18) (f 20) f) (fun b ds W => ds = [] ∧ Below w1.heap.size w1 W ∧ MkR W R C zs b.A1 b.c1 ∧ Fr0 w1 W b.g7 ∧ Fr0 w1 W b.g8 ∧ b.g7 ≠ b.g8) ?_ ?_
    · rintro ⟨A1, c1, A2, c2, A3, c3, g7, g8, g9⟩ f ds W ⟨rfl, b, M1, B7, B8, ng7g8⟩
      dsimp only [fr79] at b M1 B7 B8 ng7g8 ⊢
      refine m_s2 3 8 (by kernel_rfl) rfl rfl ?_ ?_
      · go_wp2_with fail
        refine (make_own _ R' C' zs' _ (HIN'.out.below (b1.trans (b.mono b1.size)))).mono ?_
        rintro e wn ⟨A2, c2, gs, rfl, hgs, hO, hb⟩
        have M2 : MkR wn R' C' zs' A2 c2 := ⟨gs, hgs, hO⟩
        clear hgs hO
        have b := b48 b hb
        go_wp2_with fail
        refine m_keep b ?_
        exact H2_67 ⟨A1, c1, A2, c2, none, 0, g7, g8, 0⟩ _ _ _ (by kernel_rfl) rfl ⟨rfl, b, M1.below hb, M2, B7.below hb, B8.below hb, ng7g8⟩
      · go_wp2_with fail
        refine absN fun wn hB hb _ => ?_
        refine m_keep (b48 b hb) ?_
        exact H1_678 ⟨A1, c1, none, 0, none, 0, g7, g8, _⟩ _ _ _ (by kernel_rfl) rfl ⟨rfl, b48 b hb, M1.below hb, B7.below hb, B8.below hb, .mk' hB b.size, ng7g8, Nat.ne_of_lt B7.lt, Nat.ne_of_lt B8.lt⟩
    intro H1_67
    refine m_join (β := B48) #[true, true, true, false, true, false, true, false, true, false, false, false] 6 (fun b f => fr79 r c r' c' r2 k2 A0 A0' A02 zs.length zs'.length zs2.length d0 d0' d02 w.heap.size (ptr b.g7) (f 8) (ptr b.g9) (refV C b.A1 R b.c1) (f 18) (f 20) f) (fun b ds W => ds = [] ∧ Below w1.heap.size w1 W ∧ MkR W R C zs b.A1 b.c1 ∧ Fr0 w1 W b.g7 ∧ Fr0 w1 W b.g9 ∧ b.g7 ≠ b.g9) ?_ ?_
    · rintro ⟨A1, c1, A2, c2, A3, c3, g7, g8, g9⟩ f ds W ⟨rfl, b, M1, B7, B9, ng7g9⟩
      dsimp only [fr79] at b M1 B7 B9 ng7g9 ⊢
      refine m_s2 3 7 (by kernel_rfl) rfl rfl ?_ ?_
      · go_wp2_with fail
        refine (make_own _ R' C' zs' _ (HIN'.out.below (b1.trans (b.mono b1.size)))).mono ?_
        rintro e wn ⟨A2, c2, gs, rfl, hgs, hO, hb⟩
        have M2 : MkR wn R' C' zs' A2 c2 := ⟨gs, hgs, hO⟩
        clear hgs hO
        have b := b48 b hb
        go_wp2_with fail
        refine m_keep b ?_
        exact H2_68 ⟨A1, c1, A2, c2, none, 0, g7, 0, g9⟩ _ _ _ (by kernel_rfl) rfl ⟨rfl, b, M1.below hb, M2, B7.below hb, B9.below hb, ng7g9⟩
      · go_wp2_with fail
        refine absN fun wn hB hb _ => ?_
        refine m_keep (b48 b hb) ?_
        exact H1_678 ⟨A1, c1, none, 0, none, 0, g7, _, g9⟩ _ _ _ (by kernel_rfl) rfl ⟨rfl, b48 b hb, M1.below hb, B7.below hb, .mk' hB b.size, B9.below hb, Nat.ne_of_lt B7.lt, ng7g9, Nat.ne_of_gt B9.lt⟩
    intro H1_68
    refine m_join (β := B48) #[true, true, true, false, true, false, false, true, true, false, false, false] 6 (fun b f => fr79 r c r' c' r2 k2 A0 A0' A02 zs.length zs'.length zs2.length d0 d0' d02 w.heap.size (f 7) (ptr b.g8) (ptr b.g9) (refV C b.A1 R b.c1) (f 18) (f 20) f) (fun b ds W => ds = [] ∧ Below w1.heap.size w1 W ∧ MkR W R C zs b.A1 b.c1 ∧ Fr0 w1 W b.g8 ∧ Fr0 w1 W b.g9 ∧ b.g8 ≠ b.g9) ?_ ?_
    · rintro ⟨A1, c1, A2, c2, A3, c3, g7, g8, g9⟩ f ds W ⟨rfl, b, M1, B8, B9, ng8g9⟩
      dsimp only [fr79] at b M1 B8 B9 ng8g9 ⊢
      refine m_s2 3 6 (by kernel_rfl) rfl rfl ?_ ?_
      · go_wp2_with fail
        refine (make_own _ R' C' zs' _ (HIN'.out.below (b1.trans (b.mono b1.size)))).mono ?_
        rintro e wn ⟨A2, c2, gs, rfl, hgs, hO, hb⟩
        have M2 : MkR wn R' C' zs' A2 c2 := ⟨gs, hgs, hO⟩
        clear hgs hO
        have b := b48 b hb
        go_wp2_with fail
        refine m_keep b ?_
        exact H2_78 ⟨A1, c1, A2, c2, none, 0, 0, g8, g9⟩ _ _ _ (by kernel_rfl) rfl ⟨rfl, b, M1.below hb, M2, B8.below hb, B9.below hb, ng8g9⟩
      · go_wp2_with fail
        refine absN fun wn hB hb _ => ?_
        refine m_keep (b48 b hb) ?_
        exact H1_678 ⟨A1, c1, none, 0, none, 0, _, g8, g9⟩ _ _ _ (by kernel_rfl) rfl ⟨rfl, b48 b hb, M1.below hb, .mk' hB b.size, B8.below hb, B9.below hb, Nat.ne_of_gt B8.lt, Nat.ne_of_gt B9.lt, ng8g9⟩
    intro H1_78
    refine m_join (β := B48) #[true, false, true, false, true, false, true, true, true, false, false, false] 6 (fun b f => fr79 r c r' c' r2 k2 A0 A0' A02 zs.length zs'.length zs2.length d0 d0' d02 w.heap.size (ptr b.g7) (ptr b.g8) (ptr b.g9) (f 16) (f 18) (f 20) f) (fun b ds W => ds = [] ∧ Below w1.heap.size w1 W ∧ Fr0 w1 W b.g7 ∧ Fr0 w1 W b.g8 ∧ Fr0 w1 W b.g9 ∧ b.g7 ≠ b.g8 ∧ b.g7 ≠ b.g9 ∧ b.g8 ≠ b.g9) ?_ ?_
    · rintro ⟨A1, c1, A2, c2, A3, c3, g7, g8, g9⟩ f ds W ⟨rfl, b, B7, B8, B9, ng7g8, ng7g9, ng8g9⟩
      dsimp only [fr79] at b B7 B8 B9 ng7g8 ng7g9 ng8g9 ⊢
      refine m_s1 1 (by kernel_rfl) rfl ?_
      go_wp2_with fail
      refine (make_own _ R C zs _ (HIN.out.below (b1.trans (b.mono b1.size)))).mono ?_
      rintro e wn ⟨A1, c1, gs, rfl, hgs, hO, hb⟩
      have M1 : MkR wn R C zs A1 c1 := ⟨gs, hgs, hO⟩
      clear hgs hO
      have b := b48 b hb
      go_wp2_with fail
      refine m_keep b ?_
      exact H1_678 ⟨A1, c1, none, 0, none, 0, g7, g8, g9⟩ _ _ _ (by kernel_rfl) rfl ⟨rfl, b, M1, B7.below hb, B8.below hb, B9.below hb, ng7g8, ng7g9, ng8g9⟩
    intro H0_678
    refine m_join (β := B48) #[true, true, true, true, true, false, false, false, false, false, false, false] 7 (fun b f => fr79 r c r' c' r2 k2 A0 A0' A02 zs.length zs'.length zs2.length d0 d0' d02 w.heap.size (f 7) (f 8) (f 9) (refV C b.A1 R b.c1) (refV C' b.A2 R' b.c2) (f 20) f) (fun b ds W => ds = [] ∧ Below w1.heap.size w1 W ∧ MkR W R C zs b.A1 b.c1 ∧ MkR W R' C' zs' b.A2 b.c2) ?_ ?_
    · rintro ⟨A1, c1, A2, c2, A3, c3, g7, g8, g9⟩ f ds W ⟨rfl, b, M1, M2⟩
      dsimp only [fr79] at b M1 M2 ⊢
      refine m_s4 5 6 7 8 (by kernel_rfl) rfl rfl rfl rfl ?_ ?_ ?_ ?_
      · go_wp2_with fail
        refine (make_own _ R2 C2 zs2 _ (HIN2.out.below (b1.trans (b.mono b1.size)))).mono ?_
        rintro e wn ⟨A3, c3, gs, rfl, hgs, hO, hb⟩
        have M3 : MkR wn R2 C2 zs2 A3 c3 := ⟨gs, hgs, hO⟩
        clear hgs hO
        have b := b48 b hb
        go_wp2_with fail
        refine m_keep b ?_
        exact H3_ ⟨A1, c1, A2, c2, A3, c3, 0, 0, 0⟩ _ _ _ (by kernel_rfl) rfl ⟨rfl, b, M1.below hb, M2.below hb, M3⟩
      · go_wp2_with fail
        refine absN fun wn hB hb _ => ?_
        refine m_keep (b48 b hb) ?_
        exact H2_6 ⟨A1, c1, A2, c2, none, 0, _, 0, 0⟩ _ _ _ (by kernel_rfl) rfl ⟨rfl, b48 b hb, M1.below hb, M2.below hb, .mk' hB b.size⟩
      · go_wp2_with fail
        refine absN fun wn hB hb _ => ?_
        refine m_keep (b48 b hb) ?_
        exact H2_7 ⟨A1, c1, A2, c2, none, 0, 0, _, 0⟩ _ _ _ (by kernel_rfl) rfl ⟨rfl, b48 b hb, M1.below hb, M2.below hb, .mk' hB b.size⟩
      · go_wp2_with fail
        refine absN fun wn hB hb _ => ?_
        refine m_keep (b48 b hb) ?_
        exact H2_8 ⟨A1, c1, A2, c2, none, 0, 0, 0, _⟩ _ _ _ (by kernel_rfl) rfl ⟨rfl, b48 b hb, M1.below hb, M2.below hb, .mk' hB b.size⟩
    intro H2_
    refine m_join (β := B48) #[true, true, true, false, true, false, true, false, false, false, false, false] 7 (fun b f => fr79 r c r' c' r2 k2 A0 A0' A02 zs.length zs'.length zs2.length d0 d0' d02 w.heap.size (ptr b.g7) (f 8) (f 9) (refV C b.A1 R b.c1) (f 18) (f 20) f) (fun b ds W => ds = [] ∧ Below w1.heap.size w1 W ∧ MkR W R C zs b.A1 b.c1 ∧ Fr0 w1 W b.g7) ?_ ?_
    · rintro ⟨A1, c1, A2, c2, A3, c3, g7, g8, g9⟩ f ds W ⟨rfl, b, M1, B7⟩
      dsimp only [fr79] at b M1 B7 ⊢
      refine m_s3 3 7 8 (by kernel_rfl) rfl rfl rfl ?_ ?_ ?_
      · go_wp2_with fail
        refine (make_own _ R' C' zs' _ (HIN'.out.below (b1.trans (b.mono b1.size)))).mono ?_
        rintro e wn ⟨A2, c2, gs, rfl, hgs, hO, hb⟩
        have M2 : MkR wn R' C' zs' A2 c2 := ⟨gs, hgs, hO⟩
        clear hgs hO
        have b := b48 b hb
        go_wp2_with fail
        refine m_keep b ?_
        exact H2_6 ⟨A1, c1, A2, c2, none, 0, g7, 0, 0⟩ _ _ _ (by kernel_rfl) rfl ⟨rfl, b, M1.below hb, M2, B7.below hb⟩
      · go_wp2_with fail
        refine absN fun wn hB hb _ => ?_
        refine m_keep (b48 b hb) ?_
        exact H1_67 ⟨A1, c1, none, 0, none, 0, g7, _, 0⟩ _ _ _ (by kernel_rfl) rfl ⟨rfl, b48 b hb, M1.below hb, B7.below hb, .mk' hB b.size, Nat.ne_of_lt B7.lt⟩
      · go_wp2_with fail
        refine absN fun wn hB hb _ => ?_
        refine m_keep (b48 b hb) ?_
        exact H1_68 ⟨A1, c1, none, 0, none, 0, g7, 0, _⟩ _ _ _ (by kernel_rfl) rfl ⟨rfl, b48 b hb, M1.below hb, B7.below hb, .mk' hB b.size, Nat.ne_of_lt B7.lt⟩
    intro H1_6
    refine m_join (β := B48) #[true, true, true, false, true, false, false, true, false, false, false, false] 7 (fun b f => fr79 r c r' c' r2 k2 A0 A0' A02 zs.length zs'.length zs2.length d0 d0' d02 w.heap.size (f 7) (ptr b.g8) (f 9) (refV C b.A1 R b.c1) (f 18) (f 20) f) (fun b ds W => ds = [] ∧ Below w1.heap.size w1 W ∧ MkR W R C zs b.A1 b.c1 ∧ Fr0 w1 W b.g8) ?_ ?_
    · rintro ⟨A1, c1, A2, c2, A3, c3, g7, g8, g9⟩ f ds W ⟨rfl, b, M1, B8⟩
      dsimp only [fr79] at b M1 B8 ⊢
      refine m_s3 3 6 8 (by kernel_rfl) rfl rfl rfl ?_ ?_ ?_
      · go_wp2_with fail
        refine (make_own _ R' C' zs' _ (HIN'.out.below (b1.trans (b.mono b1.size)))).mono ?_
        rintro e wn ⟨A2, c2, gs, rfl, hgs, hO, hb⟩
        have M2 : MkR wn R' C' zs' A2 c2 := ⟨gs, hgs, hO⟩
        clear hgs hO
        have b := b48 b hb
        go_wp2_with fail
        refine m_keep b ?_
        exact H2_7 ⟨A1, c1, A2, c2, none, 0, 0, g8, 0⟩ _ _ _ (by kernel_rfl) rfl ⟨rfl, b, M1.below hb, M2, B8.below hb⟩
      · go_wp2_with fail
        refine absN fun wn hB hb _ => ?_
        refine m_keep (b48 b hb) ?_
        exact H1_67 ⟨A1, c1, none, 0, none, 0, _, g8, 0⟩ _ _ _ (by kernel_rfl) rfl ⟨rfl, b48 b hb, M1.below hb, .mk' hB b.size, B8.below hb, Nat.ne_of_gt B8.lt⟩
      · go_wp2_with fail
        refine absN fun wn hB hb _ => ?_
        refine m_keep (b48 b hb) ?_
        exact H1_78 ⟨A1, c1, none, 0, none, 0, 0, g8, _⟩ _ _ _ (by kernel_rfl) rfl ⟨rfl, b48 b hb, M1.below hb, B8.below hb, .mk' hB b.size, Nat.ne_of_lt B8.lt⟩
    intro H1_7
    refine m_join (β := B48) #[true, true, true, false, true, false, false, false, true, false, false, false] 7 (fun b f => fr79 r c r' c' r2 k2 A0 A0' A02 zs.length zs'.length zs2.length d0 d0' d02 w.heap.size (f 7) (f 8) (ptr b.g9) (refV C b.A1 R b.c1) (f 18) (f 20) f) (fun b ds W => ds = [] ∧ Below w1.heap.size w1 W ∧ MkR W R C zs b.A1 b.c1 ∧ Fr0 w1 W b.g9) ?_ ?_
    · rintro ⟨A1, c1, A2, c2, A3, c3, g7, g8, g9⟩ f ds W ⟨rfl, b, M1, B9⟩
      dsimp only [fr79] at b M1 B9 ⊢
      refine m_s3 3 6 7 (by kernel_rfl) rfl rfl rfl ?_ ?_ ?_
      · go_wp2_with fail
        refine (make_own _ R' C' zs' _ (HIN'.out.below (b1.trans (b.mono b1.size)))).mono ?_
        rintro e wn ⟨A2, c2, gs, rfl, hgs, hO, hb⟩
        have M2 : MkR wn R' C' zs' A2 c2 := ⟨gs, hgs, hO⟩
        clear hgs hO
        have b := b48 b hb
        go_wp2_with fail
        refine m_keep b ?_
        exact H2_8 ⟨A1, c1, A2, c2, none, 0, 0, 0, g9⟩ _ _ _ (by kernel_rfl) rfl ⟨rfl, b, M1.below hb, M2, B9.below hb⟩
      · go_wp2_with fail
        refine absN fun wn hB hb _ => ?_
        refine m_keep (b48 b hb) ?_
        exact H1_68 ⟨A1, c1, none, 0, none, 0, _, 0, g9⟩ _ _ _ (by kernel_rfl) rfl ⟨rfl, b48 b hb, M1.below hb, .mk' hB b.size, B9.below hb, Nat.ne_of_gt B9.lt⟩
      · go_wp2_with fail
        refine absN fun wn hB hb _ => ?_
        refine m_keep (b48 b hb) ?_
        exact H1_78 ⟨A1, c1, none, 0, none, 0, 0, _, g9⟩ _ _ _ (by kernel_rfl) rfl ⟨rfl, b48 b hb, M1.below hb, .mk' hB b.size, B9.below hb, Nat.ne_of_gt B9.lt⟩
    intro H1_8
    refine m_join (β := B48) #[true, false, true, false, true, false, true, true, false, false, false, false] 7 (fun b f => fr79 r c r' c' r2 k2 A0 A0' A02 zs.length zs'.length zs2.length d0 d0' d02 w.heap.size (ptr b.g7) (ptr b.g8) (f 9) (f 16) (f 18) (f 20) f) (fun b ds W => ds = [] ∧ Below w1.heap.size w1 W ∧ Fr0 w1 W b.g7 ∧ Fr0 w1 W b.g8 ∧ b.g7 ≠ b.g8) ?_ ?_
    · rintro ⟨A1, c1, A2, c2, A3, c3, g7, g8, g9⟩ f ds W ⟨rfl, b, B7, B8, ng7g8⟩
      dsimp only [fr79] at b B7 B8 ng7g8 ⊢
      refine m_s2 1 8 (by kernel_rfl) rfl rfl ?_ ?_
      · go_wp2_with fail
        refine (make_own _ R C zs _ (HIN.out.below (b1.trans (b.mono b1.size)))).mono ?_
        rintro e wn ⟨A1, c1, gs, rfl, hgs, hO, hb⟩
        have M1 : MkR wn R C zs A1 c1 := ⟨gs, hgs, hO⟩
        clear hgs hO
        have b := b48 b hb
        go_wp2_with fail
        refine m_keep b ?_
        exact H1_67 ⟨A1, c1, none, 0, none, 0, g7, g8, 0⟩ _ _ _ (by kernel_rfl) rfl ⟨rfl, b, M1, B7.below hb, B8.below hb, ng7g8⟩
      · go_wp2_with fail
        refine absN fun wn hB hb _ => ?_
        refine m_keep (b48 b hb) ?_
        exact H0_678 ⟨none, 0, none, 0, none, 0, g7, g8, _⟩ _ _ _ (by kernel_rfl) rfl ⟨rfl, b48 b hb, B7.below hb, B8.below hb, .mk' hB b.size, ng7g8, Nat.ne_of_lt B7.lt, Nat.ne_of_lt B8.lt⟩
    intro H0_67
    refine m_join (β := B48) #[true, false, true, false, true, false, true, false, true, false, false, false] 7 (fun b f => fr79 r c r' c' r2 k2 A0 A0' A02 zs.length zs'.length zs2.length d0 d0' d02 w.heap.size (ptr b.g7) (f 8) (ptr b.g9) (f 16) (f 18) (f 20) f) (fun b ds W => ds = [] ∧ Below w1.heap.size w1 W ∧ Fr0 w1 W b.g7 ∧ Fr0 w1 W b.g9 ∧ b.g7 ≠ b.g9) ?_ ?_
    · rintro ⟨A1, c1, A2, c2, A3, c3, g7, g8, g9⟩ f ds W ⟨rfl, b, B7, B9, ng7g9⟩
      dsimp only [fr79] at b B7 B9 ng7g9 ⊢
      refine m_s2 1 7 (by kernel_rfl) rfl rfl ?_ ?_
      · go_wp2_with fail
        refine (make_own _ R C zs _ (HIN.out.below (b1.trans (b.mono b1.size)))).mono ?_
        rintro e wn ⟨A1, c1, gs, rfl, hgs, hO, hb⟩
        have M1 : MkR wn R C zs A1 c1 := ⟨gs, hgs, hO⟩
        clear hgs hO
        have b := b48 b hb
        go_wp2_with fail
        refine m_keep b ?_
        exact H1_68 ⟨A1, c1, none, 0, none, 0, g7, 0, g9⟩ _ _ _ (by kernel_rfl) rfl ⟨rfl, b, M1, B7.below hb, B9.below hb, ng7g9⟩
      · go_wp2_with fail
        refine absN fun wn hB hb _ => ?_
        refine m_keep (b48 b hb) ?_
        exact H0_678 ⟨none, 0, none, 0, none, 0, g7, _, g9⟩ _ _ _ (by kernel_rfl) rfl ⟨rfl, b48 b hb, B7.below hb, .mk' hB b.size, B9.below hb, Nat.ne_of_lt B7.lt, ng7g9, Nat.ne_of_gt B9.lt⟩
    intro H0_68
    refine m_join (β := B48) #[true, false, true, false, true, false, false, true, true, false, false, false] 7 (fun b f => fr79 r c r' c' r2 k2 A0 A0' A02 zs.length zs'.length zs2.length d0 d0' d02 w.heap.size (f 7) (ptr b.g8) (ptr b.g9) (f 16) (f 18) (f 20) f) (fun b ds W => ds = [] ∧ Below w1.heap.size w1 W ∧ Fr0 w1 W b.g8 ∧ Fr0 w1 W b.g9 ∧ b.g8 ≠ b.g9) ?_ ?_
    · rintro ⟨A1, c1, A2, c2, A3, c3, g7, g8, g9⟩ f ds W ⟨rfl, b, B8, B9, ng8g9⟩
      dsimp only [fr79] at b B8 B9 ng8g9 ⊢
      refine m_s2 1 6 (by kernel_rfl) rfl rfl ?_ ?_
      · go_wp2_with fail
        refine (make_own _ R C zs _ (HIN.out.below (b1.trans (b.mono b1.size)))).mono ?_
        rintro e wn ⟨A1, c1, gs, rfl, hgs, hO, hb⟩
        have M1 : MkR wn R C zs A1 c1 := ⟨gs, hgs, hO⟩
        clear hgs hO
        have b := b48 b hb
        go_wp2_with fail
        refine m_keep b ?_
        exact H1_78 ⟨A1, c1, none, 0, none, 0, 0, g8, g9⟩ _ _ _ (by kernel_rfl) rfl ⟨rfl, b, M1, B8.below hb, B9.below hb, ng8g9⟩
      · go_wp2_with fail
        refine absN fun wn hB hb _ => ?_
        refine m_keep (b48 b hb) ?_
        exact H0_678 ⟨none, 0, none, 0, none, 0, _, g8, g9⟩ _ _ _ (by kernel_rfl) rfl ⟨rfl, b48 b hb, .mk' hB b.size, B8.below hb, B9.below hb, Nat.ne_of_gt B8.lt, Nat.ne_of_gt B9.lt, ng8g9⟩
    intro H0_78
    refine m_join (β := B48) #[true, true, true, false, true, false, false, false, false, false, false, false] 8 (fun b f => fr79 r c r' c' r2 k2 A0 A0' A02 zs.length zs'.length zs2.length d0 d0' d02 w.heap.size (f 7) (f 8) (f 9) (refV C b.A1 R b.c1) (f 18) (f 20) f) (fun b ds W => ds = [] ∧ Below w1.heap.size w1 W ∧ MkR W R C zs b.A1 b.c1) ?_ ?_
    · rintro ⟨A1, c1, A2, c2, A3, c3, g7, g8, g9⟩ f ds W ⟨rfl, b, M1⟩
      dsimp only [fr79] at b M1 ⊢
      refine m_s4 3 6 7 8 (by kernel_rfl) rfl rfl rfl rfl ?_ ?_ ?_ ?_
      · go_wp2_with fail
        refine (make_own _ R' C' zs' _ (HIN'.out.below (b1.trans (b.mono b1.size)))).mono ?_
        rintro e wn ⟨A2, c2, gs, rfl, hgs, hO, hb⟩
        have M2 : MkR wn R' C' zs' A2 c2 := ⟨gs, hgs, hO⟩
        clear hgs hO
        have b := b48 b hb
        go_wp2_with fail
        refine m_keep b ?_
        exact H2_ ⟨A1, c1, A2, c2, none, 0, 0, 0, 0⟩ _ _ _ (by kernel_rfl) rfl ⟨rfl, b, M1.below hb, M2⟩
      · go_wp2_with fail
        refine absN fun wn hB hb _ => ?_
        refine m_keep (b48 b hb) ?_
        exact H1_6 ⟨A1, c1, none, 0, none, 0, _, 0, 0⟩ _ _ _ (by kernel_rfl) rfl ⟨rfl, b48 b hb, M1.below hb, .mk' hB b.size⟩
      · go_wp2_with fail
        refine absN fun wn hB hb _ => ?_
        refine m_keep (b48 b hb) ?_
        exact H1_7 ⟨A1, c1, none, 0, none, 0, 0, _, 0⟩ _ _ _ (by kernel_rfl) rfl ⟨rfl, b48 b hb, M1.below hb, .mk' hB b.size⟩
      · go_wp2_with fail
        refine absN fun wn hB hb _ => ?_
        refine m_keep (b48 b hb) ?_
        exact H1_8 ⟨A1, c1, none, 0, none, 0, 0, 0, _⟩ _ _ _ (by kernel_rfl) rfl ⟨rfl, b48 b hb, M1.below hb, .mk' hB b.size⟩
    intro H1_
    refine m_join (β := B48) #[true, false, true, false, true, false, true, false, false, false, false, false] 8 (fun b f => fr79 r c r' c' r2 k2 A0 A0' A02 zs.length zs'.length zs2.length d0 d0' d02 w.heap.size (ptr b.g7) (f 8) (f 9) (f 16) (f 18) (f 20) f) (fun b ds W => ds = [] ∧ Below w1.heap.size w1 W ∧ Fr0 w1 W b.g7) ?_ ?_
    · rintro ⟨A1, c1, A2, c2, A3, c3, g7, g8, g9⟩ f ds W ⟨rfl, b, B7⟩
      dsimp only [fr79] at b B7 ⊢
      refine m_s3 1 7 8 (by kernel_rfl) rfl rfl rfl ?_ ?_ ?_
      · go_wp2_with fail
        refine (make_own _ R C zs _ (HIN.out.below (b1.trans (b.mono b1.size)))).mono ?_
        rintro e wn ⟨A1, c1, gs, rfl, hgs, hO, hb⟩
        have M1 : MkR wn R C zs A1 c1 := ⟨gs, hgs, hO⟩
        clear hgs hO
        have b := b48 b hb
        go_wp2_with fail
        refine m_keep b ?_
        exact H1_6 ⟨A1, c1, none, 0, none, 0, g7, 0, 0⟩ _ _ _ (by kernel_rfl) rfl ⟨rfl, b, M1, B7.below hb⟩
      · go_wp2_with fail
        refine absN fun wn hB hb _ => ?_
        refine m_keep (b48 b hb) ?_
        exact H0_67 ⟨none, 0, none, 0, none, 0, g7, _, 0⟩ _ _ _ (by kernel_rfl) rfl ⟨rfl, b48 b hb, B7.below hb, .mk' hB b.size, Nat.ne_of_lt B7.lt⟩
      · go_wp2_with fail
        refine absN fun wn hB hb _ => ?_
        refine m_keep (b48 b hb) ?_
        exact H0_68 ⟨none, 0, none, 0, none, 0, g7, 0, _⟩ _ _ _ (by kernel_rfl) rfl ⟨rfl, b48 b hb, B7.below hb, .mk' hB b.size, Nat.ne_of_lt B7.lt⟩
    intro H0_6
    refine m_join (β := B48) #[true, false, true, false, true, false, false, true, false, false, false, false] 8 (fun b f => fr79 r c r' c' r2 k2 A0 A0' A02 zs.length zs'.length zs2.length d0 d0' d02 w.heap.size (f 7) (ptr b.g8) (f 9) (f 16) (f 18) (f 20) f) (fun b ds W => ds = [] ∧ Below w1.heap.size w1 W ∧ Fr0 w1 W b.g8) ?_ ?_
    · rintro ⟨A1, c1, A2, c2, A3, c3, g7, g8, g9⟩ f ds W ⟨rfl, b, B8⟩
      dsimp only [fr79] at b B8 ⊢
      refine m_s3 1 6 8 (by kernel_rfl) rfl rfl rfl ?_ ?_ ?_
      · go_wp2_with fail
        refine (make_own _ R C zs _ (HIN.out.below (b1.trans (b.mono b1.size)))).mono ?_
        rintro e wn ⟨A1, c1, gs, rfl, hgs, hO, hb⟩
        have M1 : MkR wn R C zs A1 c1 := ⟨gs, hgs, hO⟩
        clear hgs hO
        have b := b48 b hb
        go_wp2_with fail
        refine m_keep b ?_
        exact H1_7 ⟨A1, c1, none, 0, none, 0, 0, g8, 0⟩ _ _ _ (by kernel_rfl) rfl ⟨rfl, b, M1, B8.below hb⟩
      · go_wp2_with fail
        refine absN fun wn hB hb _ => ?_
        refine m_keep (b48 b hb) ?_
        exact H0_67 ⟨none, 0, none, 0, none, 0, _, g8, 0⟩ _ _ _ (by kernel_rfl) rfl ⟨rfl, b48 b hb, .mk' hB b.size, B8.below hb, Nat.ne_of_gt B8.lt⟩
      · go_wp2_with fail
        refine absN fun wn hB hb _ => ?_
        refine m_keep (b48 b hb) ?_
        exact H0_78 ⟨none, 0, none, 0, none, 0, 0, g8, _⟩ _ _ _ (by kernel_rfl) rfl ⟨rfl, b48 b hb, B8.below hb, .mk' hB b.size, Nat.ne_of_lt B8.lt⟩
    intro H0_7
    refine m_join (β := B48) #[true, false, true, false, true, false, false, false, true, false, false, false] 8 (fun b f => fr79 r c r' c' r2 k2 A0 A0' A02 zs.length zs'.length zs2.length d0 d0' d02 w.heap.size (f 7) (f 8) (ptr b.g9) (f 16) (f 18) (f 20) f) (fun b ds W => ds = [] ∧ Below w1.heap.size w1 W ∧ Fr0 w1 W b.g9) ?_ ?_
    · rintro ⟨A1, c1, A2, c2, A3, c3, g7, g8, g9⟩ f ds W ⟨rfl, b, B9⟩
      dsimp only [fr79] at b B9 ⊢
      refine m_s3 1 6 7 (by kernel_rfl) rfl rfl rfl ?_ ?_ ?_
      · go_wp2_with fail
        refine (make_own _ R C zs _ (HIN.out.below (b1.trans (b.mono b1.size)))).mono ?_
        rintro e wn ⟨A1, c1, gs, rfl, hgs, hO, hb⟩
        have M1 : MkR wn R C zs A1 c1 := ⟨gs, hgs, hO⟩
        clear hgs hO
        have b := b48 b hb
        go_wp2_with fail
        refine m_keep b ?_
        exact H1_8 ⟨A1, c1, none, 0, none, 0, 0, 0, g9⟩ _ _ _ (by kernel_rfl) rfl ⟨rfl, b, M1, B9.below hb⟩
      · go_wp2_with fail
        refine absN fun wn hB hb _ => ?_
        refine m_keep (b48 b hb) ?_
        exact H0_68 ⟨none, 0, none, 0, none, 0, _, 0, g9⟩ _ _ _ (by kernel_rfl) rfl ⟨rfl, b48 b hb, .mk' hB b.size, B9.below hb, Nat.ne_of_gt B9.lt⟩
      · go_wp2_with fail
        refine absN fun wn hB hb _ => ?_
        refine m_keep (b48 b hb) ?_
        exact H0_78 ⟨none, 0, none, 0, none, 0, 0, _, g9⟩ _ _ _ (by kernel_rfl) rfl ⟨rfl, b48 b hb, .mk' hB b.size, B9.below hb, Nat.ne_of_gt B9.lt⟩
    intro H0_8
    refine m_s4 1 6 7 8 (by kernel_rfl) rfl rfl rfl rfl ?_ ?_ ?_ ?_
    · go_wp2_with fail
      refine (make_own _ R C zs _ (HIN.out.below (b1.trans (b.mono b1.size)))).mono ?_
      rintro e wn ⟨A1, c1, gs, rfl, hgs, hO, hb⟩
      have M1 : MkR wn R C zs A1 c1 := ⟨gs, hgs, hO⟩
      clear hgs hO
      have b := b48 b hb
      go_wp2_with fail
      refine m_keep b ?_
      exact H1_ ⟨A1, c1, none, 0, none, 0, 0, 0, 0⟩ _ _ _ (by kernel_rfl) rfl ⟨rfl, b, M1⟩
    · go_wp2_with fail
      refine absN fun wn hB hb _ => ?_
      refine m_keep (b48 b hb) ?_
      exact H0_6 ⟨none, 0, none, 0, none, 0, _, 0, 0⟩ _ _ _ (by kernel_rfl) rfl ⟨rfl, b48 b hb, .mk' hB b.size⟩
    · go_wp2_with fail
      refine absN fun wn hB hb _ => ?_
      refine m_keep (b48 b hb) ?_
      exact H0_7 ⟨none, 0, none, 0, none, 0, 0, _, 0⟩ _ _ _ (by kernel_rfl) rfl ⟨rfl, b48 b hb, .mk' hB b.size⟩
    · go_wp2_with fail
      refine absN fun wn hB hb _ => ?_
      refine m_keep (b48 b hb) ?_
      exact H0_8 ⟨none, 0, none, 0, none, 0, 0, 0, _⟩ _ _ _ (by kernel_rfl) rfl ⟨rfl, b48 b hb, .mk' hB b.size⟩
  case rest =>
    obtain ⟨g7, g8, g9, A1, A2, A3, c1, c2, c3, rfl, rfl, rfl, h7, h8, h9, hI1, hI2, hI3, b2⟩ := hcut
    clear hX hX' hX2 x0 x1 x2 y0 y1 y2 u0 u1 u2 HIN HIN' HIN2 b1
    obtain ⟨vc, hvc⟩ : ∃ V, V = wc := ⟨_, rfl⟩
    subst hvc
    obtain ⟨M1, hM1⟩ : ∃ M, M = rawM R C zs := ⟨_, rfl⟩
    have hL1 : M1.length = R := by rw [hM1, mat_len]
    obtain ⟨M2, hM2⟩ : ∃ M, M = rawM R' C' zs' := ⟨_, rfl⟩
    have hL2 : M2.length = R' := by rw [hM2, mat_len]
    obtain ⟨M3, hM3⟩ : ∃ M, M = rawM R2 C2 zs2 := ⟨_, rfl⟩
    have hL3 : M3.length = R2 := by rw [hM3, mat_len]
    rw [← hM1] at hI1; rw [← hM2] at hI2; rw [← hM3] at hI3
    subst hL1; subst hL2; subst hL3
    clear hM1 hM2 hM3
    have e0 := h7.cell 0
    have e1 := h7.cell 1
    have f0 := h8.cell 0
    have f1 := h8.cell 1
    have k0 := h9.cell 0
    have k1 := h9.cell 1
    go_upto_region 4 with fail
    go_cut [10, 11] (fun s10 s11 wx => ∃ (q1 q2 q3 g : Nat), s10 = ptr q1 ∧ s11 = ptr g ∧ Blk wx g 54 #[ptr q2, ptr q3] ∧ IsMat wx q1 C (nsOf C M1) ∧ IsMat wx q2 C' (nsOf C' M2) ∧ IsMat wx q3 C2 (nsOf C2 M3) ∧ Below vc.heap.size vc wx)
    case first =>
      refine wp_mix (fun V => Below vc.heap.size vc V) 10 (by kernel_rfl) (by kernel_rfl) (Below.refl _ _).drew ?_
      have b := (Below.refl vc.heap.size vc).drew
      obtain ⟨W, hWW⟩ : ∃ V, V = vc.drew := ⟨_, rfl⟩
      rw [← hWW] at b ⊢
      clear hWW
      (refine m_q 0 (v := ?_) (by kernel_rfl) rfl rfl (fun W hW => ?_) ?_; rotate_left; (have z0 := onB hW e0; have z1 := onB hW e1; have z2 := onB hW f0; have z3 := onB hW f1; have z4 := onB hW k0; have z5 := onB hW k1; go_simp; first | done | with_reducible rfl); simp only [Act.put, List.setIfInBounds_toArray, List.set_cons_zero, List.set_cons_succ]); (refine m_q 2 (v := ?_) (by kernel_rfl) rfl rfl (fun W hW => ?_) ?_; rotate_left; (have z0 := onB hW e0; have z1 := onB hW e1; have z2 := onB hW f0; have z3 := onB hW f1; have z4 := onB hW k0; have z5 := onB hW k1; go_simp; first | done | with_reducible rfl); simp only [Act.put, List.setIfInBounds_toArray, List.set_cons_zero, List.set_cons_succ]); (refine m_q 4 (v := ?_) (by kernel_rfl) rfl rfl (fun W hW => ?_) ?_; rotate_left; (have z0 := onB hW e0; have z1 := onB hW e1; have z2 := onB hW f0; have z3 := onB hW f1; have z4 := onB hW k0; have z5 := onB hW k1; go_simp; first | done | with_reducible rfl); simp only [Act.put, List.setIfInBounds_toArray, List.set_cons_zero, List.set_cons_succ])
      clear e0 e1 f0 f1 k0 k1 h7 h8 h9
      refine m_s2 1 7 (by kernel_rfl) rfl rfl ?_ ?_
      · go_wp2_with fail
        refine (matrixl_any C A1 c1 M1 _ (hI1.below b) (by omega) (by omega)).mono ?_
        rintro e wk1 ⟨q1, rfl, hq1, -, hb⟩
        replace b := b.trans (hb.mono b.size)
        go_wp2_with fail
        refine m_keep b ?_
        clear hb
        refine m_s2 3 7 (by kernel_rfl) rfl rfl ?_ ?_
        · go_wp2_with fail
          refine (matrixl_any C' A2 c2 M2 _ (hI2.below b) (by omega) (by omega)).mono ?_
          rintro e wk2 ⟨q2, rfl, hq2, -, hb⟩
          replace b := b.trans (hb.mono b.size); replace hq1 := hq1.below hb
          go_wp2_with fail
          refine m_keep b ?_
          clear hb
          refine m_s2 5 7 (by kernel_rfl) rfl rfl ?_ ?_
          · go_wp2_with fail
            refine (matrixl_any C2 A3 c3 M3 _ (hI3.below b) (by omega) (by omega)).mono ?_
            rintro e wk3 ⟨q3, rfl, hq3, -, hb⟩
            replace b := b.trans (hb.mono b.size); replace hq1 := hq1.below hb; replace hq2 := hq2.below hb
            go_wp2_with fail
            refine m_keep b ?_
            (refine m_q 6 (v := ?_) (by kernel_rfl) rfl rfl (fun W hW => ?_) ?_; rotate_left; (go_simp; first | done | with_reducible rfl); simp only [Act.put, List.setIfInBounds_toArray, List.set_cons_zero, List.set_cons_succ])
            clear hb
            refine m_s1 7 (by kernel_rfl) rfl ?_
            go_wp2_with fail
            have hB_lo := b.size
            refine absN fun wk4 hB hb hzq => ?_
            clear hzq
            replace b := b.trans (hb.mono b.size); replace hq1 := hq1.below hb; replace hq2 := hq2.below hb; replace hq3 := hq3.below hb
            refine m_keep b ?_
            generalize wk3.heap.size = g at hB hB_lo ⊢
            clear hb
            (refine m_q 8 (v := ?_) (by kernel_rfl) rfl rfl (fun W hW => ?_) ?_; rotate_left; (go_simp; first | done | with_reducible rfl); simp only [Act.put, List.setIfInBounds_toArray, List.set_cons_zero, List.set_cons_succ])
            have e0 := hB.cell 0; have e1 := hB.cell 1; have f0 := hB.frozen 0; have f1 := hB.frozen 1
            have p := box48 b hB hB_lo hq1 hq2 hq3
            clear b hq1 hq2 hq3 hB
            refine m_s1 9 (by kernel_rfl) rfl ?_
            go_wp2_with fail
            refine m_keep p.2.2.2.2 ?_
            refine m_end (by kernel_rfl) ?_
            go_wp2_with fail
            go_meet
            exact ⟨q1, q2, q3, g, rfl, rfl, p⟩
          · go_wp2_with fail
            have hB_lo := b.size
            refine absN fun wk5 hB hb hzq => ?_
            clear hzq
            replace b := b.trans (hb.mono b.size); replace hq1 := hq1.below hb; replace hq2 := hq2.below hb
            refine m_keep b ?_
            generalize wk2.heap.size = g at hB hB_lo ⊢
            clear hb
            refine m_s1 5 (by kernel_rfl) rfl ?_
            go_wp2_with fail
            refine (matrixl_any C2 A3 c3 M3 _ (hI3.below b) (by omega) (by omega)).mono ?_
            rintro e wk6 ⟨q3, rfl, hq3, -, hb⟩
            replace b := b.trans (hb.mono b.size); replace hq1 := hq1.below hb; replace hq2 := hq2.below hb; replace hB := hB.below hb hB.lt
            go_wp2_with fail
            refine m_keep b ?_
            (refine m_q 6 (v := ?_) (by kernel_rfl) rfl rfl (fun W hW => ?_) ?_; rotate_left; (go_simp; first | done | with_reducible rfl); simp only [Act.put, List.setIfInBounds_toArray, List.set_cons_zero, List.set_cons_succ])
            clear hb
            (refine m_q 8 (v := ?_) (by kernel_rfl) rfl rfl (fun W hW => ?_) ?_; rotate_left; (go_simp; first | done | with_reducible rfl); simp only [Act.put, List.setIfInBounds_toArray, List.set_cons_zero, List.set_cons_succ])
            have e0 := hB.cell 0; have e1 := hB.cell 1; have f0 := hB.frozen 0; have f1 := hB.frozen 1
            have p := box48 b hB hB_lo hq1 hq2 hq3
            clear b hq1 hq2 hq3 hB
            refine m_s1 9 (by kernel_rfl) rfl ?_
            go_wp2_with fail
            refine m_keep p.2.2.2.2 ?_
            refine m_end (by kernel_rfl) ?_
            go_wp2_with fail
            go_meet
            exact ⟨q1, q2, q3, g, rfl, rfl, p⟩
        · go_wp2_with fail
          have hB_lo := b.size
          refine absN fun wk7 hB hb hzq => ?_
          clear hzq
          replace b := b.trans (hb.mono b.size); replace hq1 := hq1.below hb
          refine m_keep b ?_
          generalize wk1.heap.size = g at hB hB_lo ⊢
          clear hb
          refine m_s1 3 (by kernel_rfl) rfl ?_
          go_wp2_with fail
          refine (matrixl_any C' A2 c2 M2 _ (hI2.below b) (by omega) (by omega)).mono ?_
          rintro e wk8 ⟨q2, rfl, hq2, -, hb⟩
          replace b := b.trans (hb.mono b.size); replace hq1 := hq1.below hb; replace hB := hB.below hb hB.lt
          go_wp2_with fail
          refine m_keep b ?_
          clear hb
          refine m_s1 5 (by kernel_rfl) rfl ?_
          go_wp2_with fail
          refine (matrixl_any C2 A3 c3 M3 _ (hI3.below b) (by omega) (by omega)).mono ?_
          rintro e wk9 ⟨q3, rfl, hq3, -, hb⟩
          replace b := b.trans (hb.mono b.size); replace hq1 := hq1.below hb; replace hB := hB.below hb hB.lt; replace hq2 := hq2.below hb
          go_wp2_with fail
          refine m_keep b ?_
          (refine m_q 6 (v := ?_) (by kernel_rfl) rfl rfl (fun W hW => ?_) ?_; rotate_left; (go_simp; first | done | with_reducible rfl); simp only [Act.put, List.setIfInBounds_toArray, List.set_cons_zero, List.set_cons_succ])
          clear hb
          (refine m_q 8 (v := ?_) (by kernel_rfl) rfl rfl (fun W hW => ?_) ?_; rotate_left; (go_simp; first | done | with_reducible rfl); simp only [Act.put, List.setIfInBounds_toArray, List.set_cons_zero, List.set_cons_succ])
          have e0 := hB.cell 0; have e1 := hB.cell 1; have f0 := hB.frozen 0; have f1 := hB.frozen 1
          have p := box48 b hB hB_lo hq1 hq2 hq3
          clear b hq1 hq2 hq3 hB
          refine m_s1 9 (by kernel_rfl) rfl ?_
          go_wp2_with fail
          refine m_keep p.2.2.2.2 ?_
          refine m_end (by kernel_rfl) ?_
          go_wp2_with fail
          go_meet
          exact ⟨q1, q2, q3, g, rfl, rfl, p⟩
      · go_wp2_with fail
        have hB_lo := b.size
        refine absN fun wk10 hB hb hzq => ?_
        clear hzq
        replace b := b.trans (hb.mono b.size)
        refine m_keep b ?_
        generalize W.heap.size = g at hB hB_lo ⊢
        clear hb
        refine m_s1 1 (by kernel_rfl) rfl ?_
        go_wp2_with fail
        refine (matrixl_any C A1 c1 M1 _ (hI1.below b) (by omega) (by omega)).mono ?_
        rintro e wk11 ⟨q1, rfl, hq1, -, hb⟩
        replace b := b.trans (hb.mono b.size); replace hB := hB.below hb hB.lt
        go_wp2_with fail
        refine m_keep b ?_
        clear hb
        refine m_s1 3 (by kernel_rfl) rfl ?_
        go_wp2_with fail
        refine (matrixl_any C' A2 c2 M2 _ (hI2.below b) (by omega) (by omega)).mono ?_
        rintro e wk12 ⟨q2, rfl, hq2, -, hb⟩
        replace b := b.trans (hb.mono b.size); replace hB := hB.below hb hB.lt; replace hq1 := hq1.below hb
        go_wp2_with fail
        refine m_keep b ?_
        clear hb
        refine m_s1 5 (by kernel_rfl) rfl ?_
        go_wp2_with fail
        refine (matrixl_any C2 A3 c3 M3 _ (hI3.below b) (by omega) (by omega)).mono ?_
        rintro e wk13 ⟨q3, rfl, hq3, -, hb⟩
        replace b := b.trans (hb.mono b.size); replace hB := hB.below hb hB.lt; replace hq1 := hq1.below hb; replace hq2 := hq2.below hb
        go_wp2_with fail
        refine m_keep b ?_
        (refine m_q 6 (v := ?_) (by kernel_rfl) rfl rfl (fun W hW => ?_) ?_; rotate_left; (go_simp; first | done | with_reducible rfl); simp only [Act.put, List.setIfInBounds_toArray, List.set_cons_zero, List.set_cons_succ])
        clear hb
        (refine m_q 8 (v := ?_) (by kernel_rfl) rfl rfl (fun W hW => ?_) ?_; rotate_left; (go_simp; first | done | with_reducible rfl); simp only [Act.put, List.setIfInBounds_toArray, List.set_cons_zero, List.set_cons_succ])
        have e0 := hB.cell 0; have e1 := hB.cell 1; have f0 := hB.frozen 0; have f1 := hB.frozen 1
        have p := box48 b hB hB_lo hq1 hq2 hq3
        clear b hq1 hq2 hq3 hB
        refine m_s1 9 (by kernel_rfl) rfl ?_
        go_wp2_with fail
        refine m_keep p.2.2.2.2 ?_
        refine m_end (by kernel_rfl) ?_
        go_wp2_with fail
        go_meet
        exact ⟨q1, q2, q3, g, rfl, rfl, p⟩
    case rest =>
      obtain ⟨q1, q2, q3, g, rfl, rfl, hg, hq1, hq2, hq3, bc⟩ := hcut
      have b3 := b2.trans (bc.mono b2.size)
      have p7 := h7.below bc h7.lt; have p8 := h8.below bc h8.lt; have p9 := h9.below bc h9.lt
      have J1 := hI1.below bc; have J2 := hI2.below bc; have J3 := hI3.below bc
      clear e0 e1 f0 f1 k0 k1 h7 h8 h9 hI1 hI2 hI3 bc b2
      have g0 := hg.cell 0
      have g1 := hg.cell 1
      go_upto_region 7 with fail
      have e0 := p7.cell 0
      have e1 := p7.cell 1
      have f0 := p8.cell 0
      have f1 := p8.cell 1
      have k0 := p9.cell 0
      have k1 := p9.cell 1
      go_cut [12] (fun s12 wx => s12 = .bool (validN C (nsOf C M1) C' (nsOf C' M2) C2 (nsOf C2 M3)) ∧ Below wc.heap.size wc wx)
      case first =>
        by_cases hL : C' = M3.length
        · have HV := Lib.hid (valid_want (C := C) (D := C') (E := C2) (A := M1) (B := M2) (P := M3) (by omega) (by omega) (by omega) hL)
          have HP := hideC (prodr_any C' C2 A2 A3 c2 c3 M2 M3 wc.drew (J2.below (Below.refl _ _).drew) (J3.below (Below.refl _ _).drew) hL)
          have hdl : ((C' : Int) == ((M3.length : Nat) : Int)) = true := by simp; omega
          have HL := Lib.hid hL
          clear hL
          refine wp_mix (fun V => Below wc.heap.size wc V) 14 (by kernel_rfl) (by kernel_rfl) (Below.refl _ _).drew ?_
          have b := (Below.refl wc.heap.size wc).drew
          obtain ⟨W, hWW⟩ : ∃ V, V = wc.drew := ⟨_, rfl⟩
          rw [← hWW] at b HP ⊢
          clear hWW
          (refine m_q 0 (v := ?_) (by kernel_rfl) rfl rfl (fun W hW => ?_) ?_; rotate_left; (have z2 := onB hW f0; have z5 := onB hW k1; go_simp; first | done | with_reducible rfl); simp only [Act.put, List.setIfInBounds_toArray, List.set_cons_zero, List.set_cons_succ]); (refine m_q 1 (v := ?_) (by kernel_rfl) rfl rfl (fun W hW => ?_) ?_; rotate_left; (have z2 := onB hW f0; have z5 := onB hW k1; go_simp; first | done | with_reducible rfl); simp only [Act.put, List.setIfInBounds_toArray, List.set_cons_zero, List.set_cons_succ]); (refine m_q 2 (v := ?_) (by kernel_rfl) rfl rfl (fun W hW => ?_) ?_; rotate_left; (have z2 := onB hW f0; have z5 := onB hW k1; go_simp; first | done | with_reducible rfl); simp only [Act.put, List.setIfInBounds_toArray, List.set_cons_zero, List.set_cons_succ]); (refine m_q 3 (v := ?_) (by kernel_rfl) rfl rfl (fun W hW => ?_) ?_; rotate_left; (have z2 := onB hW f0; have z5 := onB hW k1; go_simp; first | done | with_reducible rfl); simp only [Act.put, List.setIfInBounds_toArray, List.set_cons_zero, List.set_cons_succ]); (refine m_q 4 (v := ?_) (by kernel_rfl) rfl rfl (fun W hW => ?_) ?_; rotate_left; (have z2 := onB hW f0; have z5 := onB hW k1; go_simp; first | done | with_reducible rfl); simp only [Act.put, List.setIfInBounds_toArray, List.set_cons_zero, List.set_cons_succ]); (refine m_q 5 (v := ?_) (by kernel_rfl) rfl rfl (fun W hW => ?_) ?_; rotate_left; (have z2 := onB hW f0; have z5 := onB hW k1; go_simp; first | done | with_reducible rfl); simp only [Act.put, List.setIfInBounds_toArray, List.set_cons_zero, List.set_cons_succ]); (refine m_q 6 (v := ?_) (by kernel_rfl) rfl rfl (fun W hW => ?_) ?_; rotate_left; (have z2 := onB hW f0; have z5 := onB hW k1; go_simp; first | done | with_reducible rfl); simp only [Act.put, List.setIfInBounds_toArray, List.set_cons_zero, List.set_cons_succ])
          (refine m_yes 7 (v := ?_) (by kernel_rfl) rfl (by rfl) (fun W hW => ?_) ?_; rotate_left; (have z2 := onB hW f0; have z3 := onB hW f1; have z4 := onB hW k0; have z5 := onB hW k1; go_simp; first | done | with_reducible rfl); simp only [Act.put, List.setIfInBounds_toArray, List.set_cons_zero, List.set_cons_succ]); (refine m_yes 8 (v := ?_) (by kernel_rfl) rfl (by rfl) (fun W hW => ?_) ?_; rotate_left; (have z2 := onB hW f0; have z3 := onB hW f1; have z4 := onB hW k0; have z5 := onB hW k1; go_simp; first | done | with_reducible rfl); simp only [Act.put, List.setIfInBounds_toArray, List.set_cons_zero, List.set_cons_succ])
          (refine m_yes 10 (v := ?_) (by kernel_rfl) rfl (by rfl) (fun W hW => ?_) ?_; rotate_left; (have z0 := onB hW e0; have z1 := onB hW e1; go_simp; first | done | with_reducible rfl); simp only [Act.put, List.setIfInBounds_toArray, List.set_cons_zero, List.set_cons_succ])
          refine m_s1 9 (by kernel_rfl) rfl ?_
          go_wp2_with fail
          refine HP.out.mono ?_
          rintro e W2 ⟨A4, c4, rfl, hI4, hb⟩
          have K1 := (J1.below b).below hb
          have bb := b.trans (hb.mono b.size)
          have HS := hideC (samer_any C2 C A4 A1 c4 c1 _ M1 W2 hI4 K1)
          rw [mat_len] at HS
          clear HP
          go_wp2_with fail
          refine m_keep bb ?_
          refine m_s1 11 (by kernel_rfl) rfl ?_
          go_wp2_with fail
          refine HS.out.mono ?_
          rintro e W3 ⟨rfl, hb3⟩
          replace bb := bb.trans (hb3.mono bb.size)
          clear HS
          go_wp2_with fail
          refine m_keep bb ?_
          (refine m_q 12 (v := ?_) (by kernel_rfl) rfl rfl (fun W hW => ?_) ?_; rotate_left; (go_simp; first | done | with_reducible rfl); simp only [Act.put, List.setIfInBounds_toArray, List.set_cons_zero, List.set_cons_succ]); (refine m_q 13 (v := ?_) (by kernel_rfl) rfl rfl (fun W hW => ?_) ?_; rotate_left; (go_simp; first | done | with_reducible rfl); simp only [Act.put, List.setIfInBounds_toArray, List.set_cons_zero, List.set_cons_succ])
          refine m_end (by kernel_rfl) ?_
          go_wp2_with fail
          go_meet
          exact ⟨by rw [HV.out], bb⟩
        · have HV := Lib.hid (valid_not (C := C) (D := C') (E := C2) (A := M1) (B := M2) (P := M3) hL)
          have hdl : ((C' : Int) == ((M3.length : Nat) : Int)) = false := by simp; omega
          clear hL
          refine wp_mix (fun V => Below wc.heap.size wc V) 14 (by kernel_rfl) (by kernel_rfl) (Below.refl _ _).drew ?_
          have b := (Below.refl wc.heap.size wc).drew
          obtain ⟨W, hWW⟩ : ∃ V, V = wc.drew := ⟨_, rfl⟩
          rw [← hWW] at b ⊢
          clear hWW
          (refine m_q 0 (v := ?_) (by kernel_rfl) rfl rfl (fun W hW => ?_) ?_; rotate_left; (have z2 := onB hW f0; have z5 := onB hW k1; go_simp; first | done | with_reducible rfl); simp only [Act.put, List.setIfInBounds_toArray, List.set_cons_zero, List.set_cons_succ]); (refine m_q 1 (v := ?_) (by kernel_rfl) rfl rfl (fun W hW => ?_) ?_; rotate_left; (have z2 := onB hW f0; have z5 := onB hW k1; go_simp; first | done | with_reducible rfl); simp only [Act.put, List.setIfInBounds_toArray, List.set_cons_zero, List.set_cons_succ]); (refine m_q 2 (v := ?_) (by kernel_rfl) rfl rfl (fun W hW => ?_) ?_; rotate_left; (have z2 := onB hW f0; have z5 := onB hW k1; go_simp; first | done | with_reducible rfl); simp only [Act.put, List.setIfInBounds_toArray, List.set_cons_zero, List.set_cons_succ]); (refine m_q 3 (v := ?_) (by kernel_rfl) rfl rfl (fun W hW => ?_) ?_; rotate_left; (have z2 := onB hW f0; have z5 := onB hW k1; go_simp; first | done | with_reducible rfl); simp only [Act.put, List.setIfInBounds_toArray, List.set_cons_zero, List.set_cons_succ]); (refine m_q 4 (v := ?_) (by kernel_rfl) rfl rfl (fun W hW => ?_) ?_; rotate_left; (have z2 := onB hW f0; have z5 := onB hW k1; go_simp; first | done | with_reducible rfl); simp only [Act.put, List.setIfInBounds_toArray, List.set_cons_zero, List.set_cons_succ]); (refine m_q 5 (v := ?_) (by kernel_rfl) rfl rfl (fun W hW => ?_) ?_; rotate_left; (have z2 := onB hW f0; have z5 := onB hW k1; go_simp; first | done | with_reducible rfl); simp only [Act.put, List.setIfInBounds_toArray, List.set_cons_zero, List.set_cons_succ]); (refine m_q 6 (v := ?_) (by kernel_rfl) rfl rfl (fun W hW => ?_) ?_; rotate_left; (have z2 := onB hW f0; have z5 := onB hW k1; go_simp; first | done | with_reducible rfl); simp only [Act.put, List.setIfInBounds_toArray, List.set_cons_zero, List.set_cons_succ])
          (refine m_no 7 (by kernel_rfl) rfl (by rfl) ?_; simp only [Act.put, List.setIfInBounds_toArray, List.set_cons_zero, List.set_cons_succ]); (refine m_no 8 (by kernel_rfl) rfl (by rfl) ?_; simp only [Act.put, List.setIfInBounds_toArray, List.set_cons_zero, List.set_cons_succ]); (refine m_no 9 (by kernel_rfl) rfl (by rfl) ?_; simp only [Act.put, List.setIfInBounds_toArray, List.set_cons_zero, List.set_cons_succ]); (refine m_no 10 (by kernel_rfl) rfl (by rfl) ?_; simp only [Act.put, List.setIfInBounds_toArray, List.set_cons_zero, List.set_cons_succ]); (refine m_no 11 (by kernel_rfl) rfl (by rfl) ?_; simp only [Act.put, List.setIfInBounds_toArray, List.set_cons_zero, List.set_cons_succ])
          (refine m_q 12 (v := ?_) (by kernel_rfl) rfl rfl (fun W hW => ?_) ?_; rotate_left; (go_simp; first | done | with_reducible rfl); simp only [Act.put, List.setIfInBounds_toArray, List.set_cons_zero, List.set_cons_succ]); (refine m_q 13 (v := ?_) (by kernel_rfl) rfl rfl (fun W hW => ?_) ?_; rotate_left; (go_simp; first | done | with_reducible rfl); simp only [Act.put, List.setIfInBounds_toArray, List.set_cons_zero, List.set_cons_succ])
          refine m_end (by kernel_rfl) ?_
          go_wp2_with fail
          go_meet
          exact ⟨by rw [HV.out], b⟩
      case rest =>
        obtain ⟨rfl, bd⟩ := hcut
        obtain ⟨vd, hvd⟩ : ∃ V, V = wc := ⟨_, rfl⟩
        subst hvd
        have b4 := b3.trans (bd.mono b3.size)
        replace hg := hg.below bd hg.lt
        replace g0 := hg.cell 0
        replace g1 := hg.cell 1
        have I1 := hq1.below bd; have I2 := hq2.below bd; have I3 := hq3.below bd
        have hin := rowsIn_nsOf C' M2 (by omega)
        have hV := valid_any q1 q2 q3 C C' C2 _ _ _ vd I1 I2 I3 hin (hT.below b4)
        obtain ⟨vb, hvb⟩ : ∃ b, b = validN C (nsOf C M1) C' (nsOf C' M2) C2 (nsOf C2 M3) := ⟨_, rfl⟩
        rw [← hvb] at hV ⊢
        have HV := hideC hV
        clear hV hvb hin hq1 hq2 hq3 bd b3 p7 p8 p9 J1 J2 J3 e0 e1 f0 f1 k0 k1
        go_wp2_with fail
        refine HV.out.mono ?_
        rintro e ve ⟨rfl, hb⟩
        have b5 := b4.trans (hb.mono b4.size)
        replace hg := hg.below hb hg.lt
        replace g0 := hg.cell 0
        replace g1 := hg.cell 1
        have hbb : (vb == vb) = true := by cases vb <;> rfl
        clear HV b4
        go_wp2_with fail
        refine (valid_nil1 (some ⟨q2, 0, none⟩) (some ⟨q3, 0, none⟩) ve).mono ?_
        rintro e vf ⟨rfl, hb2⟩
        have b6 := b5.trans (hb2.mono b5.size)
        replace hg := hg.below hb2 hg.lt
        replace g0 := hg.cell 0
        replace g1 := hg.cell 1
        clear b5
        go_wp2_with fail
        refine (valid_nil3 q1 q2 vf).mono ?_
        rintro e vg ⟨rfl, hb3⟩
        have b7 := b6.trans (hb3.mono b6.size)
        replace hg := hg.below hb3 hg.lt
        replace g0 := hg.cell 0
        replace g1 := hg.cell 1
        clear b6
        go_wp2_with fail
        refine (valid_nil2 q1 (some ⟨q3, 0, none⟩) vg).mono ?_
        rintro e vh ⟨rfl, hb4⟩
        have b8 := b7.trans (hb4.mono b7.size)
        go_wp2_with fail
        go_ret
        exact ⟨rfl, b8⟩
end Mix2
end Go.Proofs.YthnphekhgaefdaaDoor
