import Derived.Test.YtfbkcdhmggjbaaaGreatDoorBits
namespace Go.Proofs.YtfbkcdhmggjbaaaGreatDoor
open Go.RowKit

/-! A loop by a state of its own: the frame is a shape over free slots. -/
theorem least_ex {p : Nat → Prop} : ∀ n, p n → ∃ n, p n ∧ ∀ m, p m → n ≤ m := by
  intro n
  induction n using Nat.strongRecOn with
  | _ n ih =>
    intro h
    by_cases hs : ∃ m, m < n ∧ p m
    · obtain ⟨m, hm, hp⟩ := hs; exact ih m hm hp
    · exact ⟨n, h, fun m hm => Nat.le_of_not_lt fun hl => hs ⟨m, hl, hm⟩⟩
noncomputable def leastOf (p : Nat → Prop) : Nat := by
  classical
  exact if h : ∃ n, p n ∧ ∀ m, p m → n ≤ m then Classical.choose h else 0
theorem leastOf_spec {p : Nat → Prop} {n : Nat} (h : p n) : p (leastOf p) ∧ ∀ m, p m → leastOf p ≤ m := by
  have hx : ∃ n, p n ∧ ∀ m, p m → n ≤ m := least_ex n h
  unfold leastOf
  rw [dif_pos hx]
  exact Classical.choose_spec hx
theorem wp_loopB {P : Program} {Q : Exit → Act → World → Prop} {a : Act} {w : World} {c : Code} {β : Type} (I : β → Act → World → Prop) (μ : β → Nat) (b0 : β) (h₀ : I b0 a w)
    (round : ∀ b a w, I b a w → c.wp P (Exit.then (fun a' w' => ∃ b', I b' a' w' ∧ μ b' < μ b) Q) a w) : (Code.loop c).wp P Q a w := by
  refine wp_loop (fun a w => ∃ b, I b a w) (fun a w => leastOf fun n => ∃ b, I b a w ∧ μ b = n) ⟨b0, h₀⟩ ?_
  rintro a w ⟨b, hb⟩
  obtain ⟨⟨b1, hb1, e1⟩, _⟩ := leastOf_spec (p := fun n => ∃ b, I b a w ∧ μ b = n) ⟨b, hb, rfl⟩
  refine wp_mono (round b1 a w hb1) ?_
  intro e a' w' h
  cases e with
  | normal =>
    obtain ⟨b', h1, h2⟩ := h
    refine ⟨⟨b', h1⟩, ?_⟩
    rw [← e1]
    exact Nat.lt_of_le_of_lt ((leastOf_spec (p := fun n => ∃ b, I b a' w' ∧ μ b = n) ⟨b', h1, rfl⟩).2 _ ⟨b', h1, rfl⟩) h2
  | _ => exact h
/-- S: the frame over free slots; R: what holds; both of the loop's own state. -/
theorem wp_loopF {P : Program} {Q : Exit → Act → World → Prop} {a : Act} {w : World} {c : Code} {β : Type} (S : β → (Nat → Value) → Array Value) (R : β → List Deferred → World → Prop) (μ : β → Nat) (b0 : β)
    (hs : a.tmps = S b0 fun i => a.tmps.getD i undef) (h₀ : R b0 a.defers w)
    (round : ∀ b f ds w, R b ds w → c.wp P (Exit.then (fun a' w' => ∃ b', a'.tmps = S b' (fun i => a'.tmps.getD i undef) ∧ R b' a'.defers w' ∧ μ b' < μ b) Q) { tmps := S b f, defers := ds } w) : (Code.loop c).wp P Q a w := by
  refine wp_loopB (fun b a w => (∃ f, a.tmps = S b f) ∧ R b a.defers w) μ b0 ⟨⟨_, hs⟩, h₀⟩ ?_
  rintro b ⟨tmps, ds⟩ w ⟨⟨f, hf⟩, hR⟩
  dsimp only at hf hR
  subst hf
  refine wp_mono (round b f ds w hR) ?_
  intro e a' w' h
  cases e with
  | normal => obtain ⟨b', h1, h2, h3⟩ := h; exact ⟨b', ⟨⟨_, h1⟩, h2⟩, h3⟩
  | _ => exact h
end Go.Proofs.YtfbkcdhmggjbaaaGreatDoor
