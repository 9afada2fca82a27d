import Derived.Test.YtfbkcdhmggjbaaaGreatDoorLaw
import Derived.Test.YtfbkcdhmggjbaaaGreatDoorBits
import Derived.Deep.DeepCutAuto
namespace Go.Proofs.YtfbkcdhmggjbaaaGreatDoor
open Go.RowKit

theorem absN {K : Act → World → Prop} {a : Act} {w : World} {c1 : Array Value} {t1 : TypeId} (h : ∀ W, Blk W w.heap.size t1 c1 → Below w.heap.size w W → W.heap.size = w.heap.size + 1 → nxt K .normal a W) : nxt K .normal a (w.alloc (.cells c1 t1)) :=
  h _ (Blk.new _ _ _) ((Below.refl _ _).alloc (Nat.le_refl _) _) (by simp)
theorem make_own (v : Value) (R C : Nat) (zs : List Int) (w : World) (h : IsRaw w v R C zs) :
    Calls Tryz.prog 24 #[v] w fun e w' => ∃ A c gs, e = .returned (refV C A R c) ∧ gs.length = R ∧ OwnRef w' 0 C (.slice A R c) gs (rawF C zs) ∧ Below w.heap.size w w' := by
  obtain ⟨r, c, A, d, rfl, h2, h3, h4, h5, h6, h7, h8⟩ := h
  refine (maker_any r c R C A d zs w h2 h3 h4 h5 h6 h7 h8).mono ?_
  rintro e w' ⟨A', c', gs, rfl, hgs, hO, hb⟩
  exact ⟨_, _, gs, rfl, hgs, ⟨hO.1.mono (Nat.zero_le _), hO.2.1, fun g _ => Nat.zero_le g, hO.2.2.2⟩, hb⟩
end Go.Proofs.YtfbkcdhmggjbaaaGreatDoor
