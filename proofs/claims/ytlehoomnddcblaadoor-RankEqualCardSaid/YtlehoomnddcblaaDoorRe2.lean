/-
  rank.Equal; typed rows behind calls.
-/
import Derived.Test.YtlehoomnddcblaaDoorRe1
import Derived.Test.YtlehoomnddcblaaDoorRq4
namespace Go.Proofs.YtlehoomnddcblaaDoor
open Go.RowKit

theorem RowT.below {w w' : World} {e : TypeId} {A : Option Addr} {n c : Nat} {xs : List Value} (h : RowT w e A n c xs) (hb : Below w.heap.size w w') : RowT w' e A n c xs :=
  ⟨h.1.below hb, fun ad ha => by obtain ⟨cs, hB⟩ := h.2 ad ha; exact ⟨cs, Blk.below hB hb hB.lt⟩⟩
theorem IsNT.below {w w' : World} {A : Option Addr} {P : List Nd} (h : IsNT w A P) (hb : Below w.heap.size w w') : IsNT w' A P := by
  obtain ⟨vss, h1, h2, h3, h4⟩ := h
  exact ⟨vss, h1, fun k x hx => by
    obtain ⟨vs, e, A1, c1, A2, c2, e2, r1, r2⟩ := h2 k x hx
    exact ⟨vs, e, A1, c1, A2, c2, e2, r1.below hb, r2.below hb⟩, h3.below hb, fun ad ha => by
      obtain ⟨cs, hB⟩ := h4 ad ha
      exact ⟨cs, Blk.below hB hb hB.lt⟩⟩
theorem PRt.below {w w' : World} {v : Value} {size : Int} {P : List Nd} (h : PRt w v size P) (hb : Below w.heap.size w w') : PRt w' v size P := by
  obtain ⟨A, c, h1, h2, h3⟩ := h
  exact ⟨A, c, h1, h2.below hb, h3⟩
/-- A variable of a proof's type is written. -/
theorem PRt.store {V : World} {v u0 u1 : Value} {size : Int} {P : List Nd} {g : Nat} {cs : Array Value} (h : PRt V v size P) (hB : Blk V g 33 cs) : PRt ((V.setCell ⟨g, 0, none⟩ u0).setCell ⟨g, 1, none⟩ u1) v size P :=
  (h.far (p := ⟨g, 0, none⟩) hB (by decide) (by decide) (by decide) u0).far (p := ⟨g, 1, none⟩) (hB.set_ 0 u0) (by decide) (by decide) (by decide) u1
theorem nok_of {B : Nat} {P : List Nd} (h : ∀ x ∈ P, NdB B x) (hB : B ≤ 1000000) : ∀ x ∈ P, NdOK x := fun x hx => by
  obtain ⟨h1, h2, h3, h4⟩ := h x hx
  exact ⟨by omega, by omega, h3, h4⟩
set_option maxRecDepth 100000 in
set_option maxHeartbeats 4000000 in
theorem kequal_any (s t : Int) (A B : Option Addr) (c d n m : Nat) (P Q : List Nd) (w : World) (b : Bool) (hb0 : (decide (s = t) && eqNs P Q) = b) (hn : P.length = n) (hm : Q.length = m) (hP : IsNodes w A P) (hQ : IsNodes w B Q) (hPo : ∀ x ∈ P, NdOK x) (hQo : ∀ x ∈ Q, NdOK x) (hPl : P.length ≤ 100000000) (hQl : Q.length ≤ 100000000) :
    Calls Tryd.prog 21 #[.agg #[.int .i64 s, .slice A n c], .agg #[.int .i64 t, .slice B m d]] w fun e w' => e = .returned (.bool b) ∧ Below w.heap.size w w' := by
  subst hn; subst hm
  have HB := Lib.hid hb0
  clear hb0
  go_enter Tryd.func21, Tryd.ntmps21
  go_upto_region 1 with fail
  refine abs2 fun w1 hX hY hb hz => ?_
  clear hz
  have HF := hideC (by have := eqf_rank A B c d P Q w1 (hP.below hb) (hQ.below hb) hPo hQo hPl hQl; exact this)
  have x0 := hX.cell 0; have x1 := hX.cell 1; have y0 := hY.cell 0; have y1 := hY.cell 1
  clear hP hQ hPo hQo
  by_cases e : s = t
  · have hre : b = eqNs P Q := by rw [← HB.out, decide_eq_true e]; simp
    subst e
    have HRE := Lib.hid hre
    clear hre
    go_wp2_with fail
    refine HF.out.mono ?_
    rintro e w2 ⟨rfl, hb2⟩
    go_wp2_with fail
    go_ret
    exact ⟨by rw [HRE.out]; rfl, hb.trans (hb2.mono hb.size)⟩
  · have hre : b = false := by rw [← HB.out, decide_eq_false e]; simp
    have eb : (s == t) = false := by rw [beq_eq_false_iff_ne]; exact e
    have HRE := Lib.hid hre
    clear hre
    go_wp2_with fail
    go_ret
    exact ⟨by rw [HRE.out]; rfl, hb⟩
/-- slices.EqualFunc over the law's function, of what has been named. -/
theorem eqf_is {A B : Option Addr} {c d n m : Nat} {P Q : List Nd} {w : World} {b : Bool} (hb : eqNs P Q = b) (hn : P.length = n) (hm : Q.length = m) (hP : IsNR w A P) (hQ : IsNR w B Q) (hPo : ∀ x ∈ P, NdOK x) (hQo : ∀ x ∈ Q, NdOK x) (hPl : P.length ≤ 100000000) (hQl : Q.length ≤ 100000000) :
    Calls Tryd.prog 17 #[.slice A n c, .slice B m d, .func (.func 18) #[] #[]] w fun e w' => e = .returned (.bool b) ∧ Below w.heap.size w w' := by
  subst hn; subst hm; subst hb
  exact eqf_ref A B c d P Q w hP hQ hPo hQo hPl hQl
end Go.Proofs.YtlehoomnddcblaaDoor
