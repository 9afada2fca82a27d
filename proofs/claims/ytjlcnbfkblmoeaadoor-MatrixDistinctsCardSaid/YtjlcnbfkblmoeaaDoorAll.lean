import Derived.Test.YtjlcnbfkblmoeaaDoorWith
import Derived.Shelf.Spec.TrailingZeros
import Derived.RangeFuncBox
import Derived.RangeFuncLeaves
import Derived.OwnWalkIn
import Derived.TacticsInMore
import Derived.LoopNIn
import Derived.LoopIn
namespace Go.Proofs.YtjlcnbfkblmoeaaDoor
open Go.RowKit
attribute [local go_sem] Oper.semAt_some

/-- math/bits's table lies in its variable. -/
def Tab (w : World) : Prop := TabAt 0 Lib.deBruijn64tab w
theorem Tab.below {w w' : World} (h : Tab w) (hb : Below w.heap.size w w') : Tab w' := fun j hj => onB hb (h j hj)

set_option maxRecDepth 100000 in
set_option maxHeartbeats 400000 in
theorem tz_core (x k idx : Nat) (w : World) (hx0 : ((x : Int) == 0) = false)
    (key : IntKind.u64.wrap (bits BinOp.and IntKind.u64 (x : Int) (IntKind.u64.wrap (-(x : Int))) * 285870213051353865) / 288230376151711744 = (idx : Int))
    (hi : idx < 64) (hk : k < 64) (hcell : w.cell? ⟨0, idx, none⟩ = some (.int .u8 k)) :
    Calls Tryd.prog 91 #[.int .u64 x] w fun e w' => e = .returned (.int .i64 k) ∧ w = w' := by
  go_enter Tryd.func91, Tryd.ntmps91
  go_wp2
  go_ret
  exact ⟨rfl, rfl⟩
theorem tz_any (x : Nat) (hx0 : x ≠ 0) (hx : x < 2 ^ 64) (w : World) (hT : Tab w) :
    Calls Tryd.prog 91 #[.int .u64 x] w fun e w' => e = .returned (.int .i64 (Lib.ctz 64 x)) ∧ w = w' := by
  obtain ⟨hlow, hk⟩ := Lib.lowest_bit 64 x hx0 hx
  obtain ⟨hi, htab⟩ := Lib.deBruijn64_at _ hk
  have hcell := hT _ hi
  rw [htab] at hcell
  exact tz_core x _ _ w (by simp; omega) (tz64_key x _ hx hx0 hlow) hi hk hcell

/-! The lowest bit of a word. -/
theorem ctz_spec (y : Nat) (h0 : y ≠ 0) (h : y < 2 ^ 64) : ∃ b, Lib.ctz 64 y = b ∧ b < 64 ∧ y.testBit b = true ∧ (∀ i, i < b → y.testBit i = false) ∧ ∀ i, (y &&& (y - 1)).testBit i = (y.testBit i && decide (i ≠ b)) := by
  obtain ⟨m, hm, hk⟩ := Lib.ctzFrom_spec 64 y (by omega) h
  have e : Lib.ctz 64 y = Lib.ctzFrom 64 y := by simp [Lib.ctz, h0]
  rw [e]
  generalize Lib.ctzFrom 64 y = b at hm hk
  have hp : 0 < 2 ^ b := Nat.two_pow_pos b
  have hy : ∀ i, y.testBit i = if i < b then false else (2 * m + 1).testBit (i - b) := fun i => by
    rw [hm, show 2 ^ b * (2 * m + 1) = 2 ^ b * (2 * m + 1) + 0 by rfl, Nat.testBit_two_pow_mul_add _ hp]; simp
  have hy1 : ∀ i, (y - 1).testBit i = if i < b then (2 ^ b - 1).testBit i else (2 * m).testBit (i - b) := fun i => by
    rw [show y - 1 = 2 ^ b * (2 * m) + (2 ^ b - 1) by rw [hm, Nat.mul_add]; omega, Nat.testBit_two_pow_mul_add _ (by omega)]
  refine ⟨b, rfl, hk, ?_, fun i hi => by rw [hy, if_pos hi], fun i => ?_⟩
  · rw [hy, if_neg (by omega), Nat.sub_self, Nat.testBit_zero]; simp
  · rw [Nat.testBit_and, hy, hy1]
    by_cases h1 : i < b
    · simp [h1]
    · rw [if_neg h1, if_neg h1]
      by_cases h2 : i = b
      · subst h2; simp [Nat.testBit_zero]
      · obtain ⟨j, hj⟩ : ∃ j, i - b = j + 1 := ⟨i - b - 1, by omega⟩
        rw [hj, Nat.testBit_succ, Nat.testBit_succ, show (2 * m + 1) / 2 = m by omega, show 2 * m / 2 = m by omega]
        simp [h2]

/-- x without its bits below m. -/
def hiB (x m : Nat) : Nat := (x >>> m) <<< m
theorem testBit_hiB (x m i : Nat) : (hiB x m).testBit i = (decide (m ≤ i) && x.testBit i) := by
  unfold hiB
  rw [Nat.testBit_shiftLeft, Nat.testBit_shiftRight]
  by_cases h : m ≤ i
  · simp [h]
  · simp [h]
theorem hiB_zero (x : Nat) : hiB x 0 = x := by simp [hiB]
theorem hiB_lt {x m : Nat} (h : x < 2 ^ 64) : hiB x m < 2 ^ 64 := by
  apply Nat.lt_pow_two_of_testBit
  intro i hi
  rw [testBit_hiB, Nat.testBit_lt_two_pow (Nat.lt_of_lt_of_le h (Nat.pow_le_pow_right (by omega) hi))]; simp
theorem hiB_next {x m b : Nat} (hb : m ≤ b) (h : ∀ i, (hiB x m &&& (hiB x m - 1)).testBit i = ((hiB x m).testBit i && decide (i ≠ b))) (hlow : ∀ i, i < b → (hiB x m).testBit i = false) : hiB x m &&& (hiB x m - 1) = hiB x (b + 1) := by
  apply Nat.eq_of_testBit_eq; intro i
  rw [h]
  by_cases h1 : i < b
  · rw [hlow i h1, testBit_hiB]
    have : ¬ b + 1 ≤ i := by omega
    simp [this]
  · rw [testBit_hiB, testBit_hiB]
    by_cases h2 : i = b
    · subst h2
      have : ¬ i + 1 ≤ i := by omega
      simp [this]
    · have : b + 1 ≤ i := by omega
      have h3 : m ≤ i := by omega
      simp [h2, this, h3]

/-- A member of N. -/
abbrev Mem (N : Nat) := { x : Nat // N.testBit x = true }
/-- The members below t, ascending. -/
def mTo (N : Nat) : Nat → List (Mem N)
  | 0 => []
  | t + 1 => if h : N.testBit t = true then mTo N t ++ [⟨t, h⟩] else mTo N t
theorem mTo_yes {N t : Nat} (h : N.testBit t = true) : mTo N (t + 1) = mTo N t ++ [⟨t, h⟩] := by rw [mTo, dif_pos h]
theorem mTo_no {N t : Nat} (h : N.testBit t = false) : mTo N (t + 1) = mTo N t := by rw [mTo, dif_neg (by simp [h])]
theorem mTo_len (N t : Nat) : (mTo N t).length ≤ t := by
  induction t with
  | zero => exact Nat.le_refl _
  | succ t ih => rw [mTo]; split <;> (try simp) <;> omega
theorem mTo_skip {N a : Nat} : ∀ d, (∀ i, a ≤ i → i < a + d → N.testBit i = false) → mTo N (a + d) = mTo N a
  | 0, _ => rfl
  | d + 1, h => by rw [← Nat.add_assoc, mTo_no (h (a + d) (by omega) (by omega)), mTo_skip d fun i h1 h2 => h i h1 (by omega)]
/-- The members, ascending. -/
def mems (N : Nat) : List Nat := (mTo N (64 * nw N)).map (·.1)
theorem mTo_map (N t : Nat) : (mTo N t).map (·.1) = (List.range t).filter N.testBit := by
  induction t with
  | zero => rfl
  | succ t ih =>
    rw [List.range_succ, List.filter_append, ← ih]
    by_cases h : N.testBit t = true
    · rw [mTo_yes h]; simp [h]
    · rw [mTo_no (by simpa using h)]; simp [h]
theorem mem_mems {N i : Nat} : i ∈ mems N ↔ N.testBit i = true := by
  unfold mems
  rw [mTo_map, List.mem_filter, List.mem_range]
  refine ⟨fun h => h.2, fun h => ⟨?_, h⟩⟩
  rcases Nat.lt_or_ge i (64 * nw N) with hl | hl
  · exact hl
  · rw [testBit_ge (Nat.le_refl _) hl] at h; cases h

theorem hideC {p : Prop} (h : p) : Hid p := h
/-- What a round over the members must keep. -/
def KpA (W W' : World) : Prop := KeepW W W' ∧ (Tab W → Tab W')
theorem KpA.trans {A B C : World} (h : KpA A B) (k : KpA B C) : KpA A C := ⟨h.1.trans k.1, fun t => k.2 (h.2 t)⟩
theorem KpA.refl (W : World) : KpA W W := ⟨KeepW.refl W, id⟩
theorem KpA.of_below {W W' : World} (h : Below W.heap.size W W') : KpA W W' := ⟨.of_below h, fun t => t.below h⟩

set_option maxRecDepth 100000 in
set_option maxHeartbeats 1000000 in
theorem all1_in (n : Nat) (hn : 1 ≤ n) (l Bx : Nat) (v : Value) (N : Nat) (J Jx : List (Mem N) → World → Prop)
    (hY : ∀ pre (x : Mem N) W, J pre W → pre.length < 4096 → YieldAt Fence.wide (n - 1) Tryd.prog l #[.int .i64 (x.1 : Int)] W fun e W' =>
      (e = .returned (.bool true) ∧ J (pre ++ [x]) W' ∧ KpA W W') ∨ (e = .returned (.bool false) ∧ Jx (pre ++ [x]) W'))
    (W : World) (hBx : W.cell? ⟨Bx, 0, none⟩ = some v) (hs : IsSet W v N) (hT : Tab W) (h0 : J [] W) :
    CallsIn Fence.wide n Tryd.prog 90 #[.func (.yield l) #[] #[], .pointer (some ⟨Bx, 0, none⟩)] W fun e W' => (∃ v, e = .returned v) ∧
      ((∃ ys, ys = mTo N (64 * nw N) ∧ J ys W') ∨ (∃ pre, True ∧ Jx pre W')) := by
  obtain ⟨A, c, rfl, hN, _, _, h4⟩ := hs
  refine callsIn_of_wp Tryd.func90 rfl trivial ?_ rfl
  simp only [Tryd.ntmps90, List.size_toArray, List.length_cons, List.length_nil, Nat.reduceAdd, Nat.reduceSub, Array.replicate_succ, Array.replicate_zero, List.push_toArray, List.append_toArray, List.nil_append, List.cons_append]
  gi_wp2
  gi_loopw [3, 4, 8] (fun _ _ i wr => ∃ k : Nat, k ≤ nw N ∧ i = .int .i64 k ∧ J (mTo N (64 * k)) wr ∧ KpA W wr)
    (fun _ _ i _ => nw N - (intOf i).toNat)
  case atStart => exact ⟨0, Nat.zero_le _, rfl, h0, KpA.refl _⟩
  case round =>
    obtain ⟨k, hk, rfl, hJs, hkp⟩ := hrel
    by_cases hlt : k < nw N
    · obtain ⟨g, cs, rfl, hb, hc⟩ := h4 (by omega)
      have hcell := ((hkp.1.2 g cs hb).cell k).trans (hc k hlt)
      clear h4 hc hb
      obtain ⟨wo, rfl⟩ : ∃ wo : World, wo = wr := ⟨_, rfl⟩
      gi_wp2
      gi_loopw [4] (fun x wq => ∃ m : Nat, m ≤ 64 ∧ x = .int .u64 (hiB (wd N k) m) ∧ J (mTo N (64 * k + m)) wq ∧ KpA W wq)
        (fun x _ => (intOf x).toNat)
      case atStart => exact ⟨0, Nat.zero_le _, by rw [hiB_zero], hJs, hkp⟩
      case round =>
        obtain ⟨m, hm, rfl, hJm, hkm⟩ := hrel
        obtain ⟨y, hyE⟩ : ∃ y, y = hiB (wd N k) m := ⟨_, rfl⟩
        rw [← hyE]
        have hyl : y < 2 ^ 64 := by rw [hyE]; exact hiB_lt (wd_lt N k)
        have hbit : ∀ i, m ≤ i → i < 64 → N.testBit (64 * k + i) = y.testBit i := fun i h1 h2 => by rw [hyE, testBit_hiB, testBit_wd]; simp [h1, h2]
        have HYE := Lib.hid hyE; clear hyE
        have HBIT := Lib.hid hbit; clear hbit
        by_cases h0 : y = 0
        · have e0 : ((y : Int) != 0) = false := by simp [h0]
          have hJn : J (mTo N (64 * (k + 1))) wr := by
            have := mTo_skip (N := N) (a := 64 * k + m) (64 - m) fun i h1 h2 => by
              have := HBIT.out (i - 64 * k) (by omega) (by omega)
              rw [show 64 * k + (i - 64 * k) = i by omega, h0, Nat.zero_testBit] at this
              exact this
            rw [show 64 * k + m + (64 - m) = 64 * (k + 1) by omega] at this
            rw [this]; exact hJm
          have H0 := Lib.hid h0; clear h0
          gi_wp2
          exact ⟨⟨k + 1, by omega, by go_num, hJn, hkm⟩, by simp [intOf]; omega⟩
        · obtain ⟨b, hb, hb64, hbt, hblow, hand⟩ := ctz_spec y h0 hyl
          have hmb : m ≤ b := by
            rcases Nat.lt_or_ge b m with h | h
            · rw [HYE.out, testBit_hiB] at hbt
              simp at hbt; omega
            · exact h
          have hNb : N.testBit (64 * k + b) = true := by rw [HBIT.out b hmb hb64]; exact hbt
          have hpre : mTo N (64 * k + b) = mTo N (64 * k + m) := by
            have := mTo_skip (N := N) (a := 64 * k + m) (b - m) fun i h1 h2 => by
              have := HBIT.out (i - 64 * k) (by omega) (by omega)
              rw [show 64 * k + (i - 64 * k) = i by omega, hblow _ (by omega)] at this
              exact this
            rw [show 64 * k + m + (b - m) = 64 * k + b by omega] at this
            exact this
          have hsuc : mTo N (64 * k + (b + 1)) = mTo N (64 * k + m) ++ [⟨64 * k + b, hNb⟩] := by rw [← hpre, ← mTo_yes hNb, Nat.add_assoc]
          have hnext : y &&& (y - 1) = hiB (wd N k) (b + 1) := by
            rw [HYE.out]
            exact hiB_next hmb (by rw [← HYE.out]; exact hand) (by rw [← HYE.out]; exact hblow)
          have hlt2 : y &&& (y - 1) ≤ y - 1 := Nat.and_le_right
          rw [hnext] at hlt2
          obtain ⟨fn, tmps, assign, body, hy, hR⟩ := hY _ ⟨64 * k + b, hNb⟩ wr hJm (Nat.lt_of_le_of_lt (mTo_len _ _) (by omega))
          have ecast : ((64 * k + b : Nat) : Int) = 64 * (k : Int) + b := by omega
          dsimp only at hy
          rw [ecast] at hy
          have e0 : ((y : Int) != 0) = true := by rw [bne_iff_ne]; omega
          have e1 : IntKind.u64.wrap ((y : Int) - 1) = ((y - 1 : Nat) : Int) := by rw [show (y : Int) - 1 = ((y - 1 : Nat) : Int) by omega, u64_wrap_nat _ (by omega)]
          have e2 := u64_and_nat y (y - 1) hyl (by omega)
          rw [hnext] at e2
          have htz := tz_any y h0 hyl wr (hkm.2 hT)
          rw [hb] at htz
          have HTZ := hideC htz; clear htz
          have H1 := Lib.hid hnext; have H2 := Lib.hid hsuc; have H3 := Lib.hid h0
          clear hnext hsuc h0 hpre hand hblow hbt ecast hb
          gi_wp2_with (refine ⟨trivial, ?_⟩; gi_at_call 91; refine (callsIn_wide.2 HTZ.out).mono ?_; rintro e w1 ⟨rfl, rfl⟩)
          refine hR.mono ?_
          rintro e W3 (⟨rfl, hJ3, hk3⟩ | ⟨rfl, hJx3⟩)
          · gi_wp2
            exact ⟨⟨b + 1, by omega, rfl, by rw [H2.out]; exact hJ3, hkm.trans hk3⟩, by simp [intOf]; have := H3.out; omega⟩
          · gi_wp2
            refine bodyPost_ret (results_none rfl _ _ _) rfl ?_
            exact ⟨⟨_, rfl⟩, .inr ⟨_, trivial, hJx3⟩⟩
    · obtain rfl : k = nw N := by omega
      clear h4
      gi_wp2
      go_end0
      exact ⟨⟨_, rfl⟩, .inl ⟨_, rfl, hJs⟩⟩

set_option maxRecDepth 100000 in
theorem all_any (A : Option Addr) (n c : Nat) (w : World) :
    Calls Tryd.prog 62 #[.agg #[.slice A n c]] w fun e w' => e = .returned (.func (.func 90) #[] #[.pointer (some ⟨w.heap.size, 0, none⟩)]) ∧ w' = w.alloc (.cells #[.slice A n c] 65) := by
  go_enter Tryd.func62, Tryd.ntmps62
  go_wp2
  go_ret
  exact ⟨rfl, rfl⟩
theorem all_stops (n : Nat) (hn : 1 ≤ n) (Bx : Nat) (v : Value) (N : Nat) (w : World) (hBx : w.cell? ⟨Bx, 0, none⟩ = some v) (hs : IsSet w v N) (hT : Tab w) :
    SeqStopsK Fence.wide n Tryd.prog 90 #[.pointer (some ⟨Bx, 0, none⟩)] (fun x : Mem N => #[Value.int .i64 (x.1 : Int)]) KpA (fun ys => ys = mTo N (64 * nw N)) (fun _ => True) 4096 w :=
  fun l J Jx W hW _ _ hY h0 => all1_in n hn l Bx v N J Jx hY W (onB hW hBx) (hs.below hW) (hT.below hW) h0

theorem KpA.putObj {W : World} {l : Nat} {o o' : Obj} (hl : W.heap[l]? = some o) (ho : o.isCells = false) : KpA W (W.putObj l o') := by
  have hb : ∀ k t cs, Blk W k t cs → (W.putObj l o').heap[k]? = W.heap[k]? := fun k t cs h => World.putObj_heap_other (fun e => by
    subst e; unfold Blk at h; rw [hl] at h; cases h; cases ho)
  refine ⟨⟨by simp, fun g cs h => (hb g _ cs h).trans h⟩, fun t j hj => ?_⟩
  have h := t j hj
  have hne : 0 ≠ l := fun e => by
    subst e
    unfold World.cell? at h
    rw [show W.heap[(⟨0, j, none⟩ : Addr).block]? = some o from hl] at h
    cases o <;> simp_all [Obj.isCells]
  exact (World.cell?_of_block (w := W) (a := ⟨0, j, none⟩) (World.putObj_heap_other hne)).trans h

/-- **'for x := range s.All()': THE LAW.** I: what holds when some members have come. Ix: what holds where a round has left the loop by a jump. -/
theorem wp_rangeAll {g : Operand} {ps : Array Tmp} {assign body : Code} {Q : Exit → Act → World → Prop} {a : Act} {w : World} {v : Value} {N Bx : Nat}
    (hg : a.eval g = .func (.func 90) #[] #[.pointer (some ⟨Bx, 0, none⟩)]) (hBx : w.cell? ⟨Bx, 0, none⟩ = some v) (hs : IsSet w v N) (hT : Tab w) (hps : ps.size = 1)
    (I : List Nat → World → Prop) (Ix : Code → List Nat → World → Prop) (hI : OwnFrom w.heap.size I) (hIx : ∀ c, OwnFrom w.heap.size (Ix c)) (h0 : I [] w) (a₁ : Nat → Act)
    (hassign : ∀ (l x : Nat) (W : World) (K : Act → World → Prop), K (a₁ x) W →
      assign.wpIn (Fence.wide.inRound l) 7 Tryd.prog (Exit.then K (fun _ _ _ => False)) { tmps := (ps.zip #[Value.int .i64 (x : Int)]).foldl (fun t (p, v) => t.setIfInBounds p v) a.tmps, defers := [] } W)
    (hbody : ∀ (l : Nat) (pre : List Nat) (x : Nat) (W : World), N.testBit x = true → I pre W → pre.length < 4096 → KpA w W → body.wpIn (Fence.wide.inRound l) 7 Tryd.prog (ownPostG w.heap.size KpA I Ix (pre ++ [x]) W) (a₁ x) W)
    (hdone : ∀ (D : Nat) (W : World), w.heap.size ≤ D → I (mems N) W → W.heap[D]? = some (.deferred (some [])) → Q .normal { a with defers := { target := .collected D, args := #[] } :: a.defers } W)
    (hstop : ∀ (D : Nat) (c : Code) (pre : List Nat) (W : World), w.heap.size ≤ D → Ix c pre W → W.heap[D]? = some (.deferred (some [])) → c.wp Tryd.prog Q { a with defers := { target := .collected D, args := #[] } :: a.defers } W) :
    (Code.rangeFunc g ps assign body).wp Tryd.prog Q a w := by
  have hkI : OwnFrom w.heap.size (fun (_ : List (Mem N)) W => KpA w W) := fun s W W' row hs hg hr => by
    refine hs.trans ?_
    have hb : ∀ k t cs, Blk W k t cs → W'.heap[k]? = W.heap[k]? := fun k t cs h => hg.block k h.lt fun e => by
      obtain ⟨_, o, ho, hc⟩ := hr k e.symm
      unfold Blk at h; rw [ho] at h; cases h; cases hc
    refine ⟨⟨hg.size, fun g cs h => (hb g _ cs h).trans h⟩, fun t j hj => ?_⟩
    have h := t j hj
    refine (World.cell?_of_block (w := W) (a := ⟨0, j, none⟩) (hg.block _ (cell_lt h) fun e => ?_)).trans h
    obtain ⟨_, o, ho, hc⟩ := hr _ e.symm
    unfold World.cell? at h
    rw [ho] at h
    cases o <;> simp_all [Obj.isCells]
  refine (wpIn_wide (n := 9)).1 (wpIn_rangeFunc_ownG (F := Fence.wide) (n := 9) rfl (by omega) hg trivial (enters_of Tryd.func90 (by kernel_rfl) rfl)
    (all_stops 8 (by omega) Bx v N w hBx hs hT) (fun h k => KpA.trans h k) (fun W l o o' _ hl ho _ => KpA.putObj hl ho) (Below.refl _ _) (fun _ => hps.symm)
    (fun xs W => I (xs.map (·.1)) W ∧ KpA w W) (fun c xs W => Ix c (xs.map (·.1)) W)
    (OwnFrom.and (fun s => hI (s.map (·.1))) hkI) (fun c s => hIx c (s.map (·.1))) ⟨h0, KpA.refl _⟩ (fun x => a₁ x.1) (fun l x => hassign l x.1) ?_ ?_ ?_)
  · rintro l pre x W ⟨hi, hk⟩ hlen
    refine wpIn_mono (hbody l (pre.map (·.1)) x.1 W x.2 hi (by simpa using hlen) hk) ?_
    intro e a' W' h
    cases e with
    | normal => exact ⟨h.1, h.2.1, by simpa using h.2.2, hk.trans h.2.1⟩
    | ret => exact ⟨h.1, by simpa using h.2⟩
    | exit id => exact ⟨h.1, by simpa using h.2⟩
    | goto t => exact ⟨h.1, by simpa using h.2⟩
    | panic c => exact h
    | outgrown => exact h
  · rintro D xs W hD rfl ⟨hi, _⟩ hK
    exact hdone D W hD hi hK
  · rintro D c pre W hD _ hi hK
    exact wpIn_wide.2 (hstop D c _ W hD hi hK)
end Go.Proofs.YtjlcnbfkblmoeaaDoor
