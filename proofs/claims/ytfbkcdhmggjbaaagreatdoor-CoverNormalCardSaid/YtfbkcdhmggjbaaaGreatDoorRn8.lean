/-
  rank.Fool.
-/
import Derived.Test.YtfbkcdhmggjbaaaGreatDoorRnB
import Derived.Test.YtfbkcdhmggjbaaaGreatDoorMix2
namespace Go.Proofs.YtfbkcdhmggjbaaaGreatDoor
open Go.RowKit
attribute [local go_sem] Oper.semAt_some

/-- What Fool answers. -/
def foolP (C : Nat) (Ns : List Nat) (l : List (Int × Int)) : Bool := !(l.any fun c => !mhas C Ns c.1 c.2) && apartB C Ns l
set_option maxRecDepth 100000 in
set_option maxHeartbeats 2000000 in
theorem fool_any (q C : Nat) (Ns : List Nat) (v : Value) (l : List (Int × Int)) (w : World) (h : IsMat w q C Ns) (hp : IsPairs w v l) :
    Calls Tryz.prog 171 #[ptr q, v] w fun e w' => e = .returned (.bool (foolP C Ns l)) ∧ Below w.heap.size w w' := by
  have hmf : ∀ (fn : Fn) (first cap : Array Value) (W : World), (Instr.makeFunc fn first cap).run Tryz.prog W = .ok (.func fn first cap) W := fun _ _ _ _ => rfl
  have hfp : foolP C Ns l = (!(l.any fun c => !mhas C Ns c.1 c.2) && apartB C Ns l) := rfl
  have hc := fun W (hW : Below w.heap.size w W) g t (hg : Blk W g t #[ptr q]) => contains_fool (.pointer (some ⟨g, 0, none⟩)) (fun c => !mhas C Ns c.1 c.2) v l W (hp.below hW) fun W' hW' c => fool1_any (some ⟨q, 0, none⟩) C Ns g t c W' ((h.below hW).below hW').mv (hg.below hW' hg.lt)
  have ha := fun W (hW : Below w.heap.size w W) => apart_any (some ⟨q, 0, none⟩) C Ns v l W (h.below hW).mv (hp.below hW)
  obtain ⟨x, hx⟩ : ∃ x, x = l.any fun c => !mhas C Ns c.1 c.2 := ⟨_, rfl⟩
  obtain ⟨y, hy⟩ : ∃ y, y = apartB C Ns l := ⟨_, rfl⟩
  rw [← hx] at hfp hc
  rw [← hy] at hfp ha
  rw [hfp]
  have HC := Lib.hid hc; have HA := Lib.hid ha
  clear hc ha hx hy hfp
  obtain ⟨A, d, rfl, -⟩ := id hp
  go_enter Tryz.func171, Tryz.ntmps171
  go_wp2_with fail
  refine absC1 fun W0 hX hb0 hz => ?_
  have hC := HC.out W0 hb0 _ _ hX
  refine hC.mono ?_
  rintro e W1 ⟨rfl, hb1⟩
  have b1 := hb0.trans (hb1.mono hb0.size)
  have hX1 := hX.below hb1 hX.lt
  have x0 := hX1.cell 0
  clear hC hz hX hb1
  cases x with
  | true =>
    go_wp2_with fail
    go_ret
    exact ⟨rfl, b1⟩
  | false =>
    have HA1 := hideC (HA.out W1 b1)
    go_wp2_with fail
    refine HA1.out.mono ?_
    rintro e W2 ⟨rfl, hb2⟩
    go_wp2_with fail
    go_ret
    exact ⟨rfl, b1.trans (hb2.mono b1.size)⟩
end Go.Proofs.YtfbkcdhmggjbaaaGreatDoor
