/-
  rank.Best.
-/
import Derived.Test.YthnphekhgaefdaaDoorRb1
import Derived.Laws.EntriesVeiled
namespace Go.Proofs.YthnphekhgaefdaaDoor
open Go.RowKit
attribute [local go_sem] Oper.semAt_some

/-- What rank.Best answers. -/
def bestP (C : Nat) (Ns : List Nat) : List (Int × Int) := if 30 < (cellsOf Ns).length then [] else searchP C Ns (cz (cellsOf Ns)).length (cz (cellsOf Ns)) [] []
theorem onesTo_cells (Ns : List Nat) : onesTo Ns Ns.length = (cellsOf Ns).length := by
  rw [← sumO_all]
  unfold onesTo sumO
  rw [foldl_sum, Nat.zero_add]
theorem own_kc {w w' : World} {base n size : Nat} {e : TypeId} {v : Value} {xs : List Value} (h : w.ownsRow base e size v n xs) (k : KeepC w w') : w'.ownsRow base e size v n xs :=
  ⟨h.1, h.2.imp id fun ⟨g, cap, cur, hv, hg, hb, r⟩ => ⟨g, cap, cur, hv, hg, k.2 _ _ _ _ hb, r⟩⟩
theorem PN.shut {n : Nat} {w w' : World} {v : Value} {l : List (Int × Int)} (h : PN w v l) (k : Shut n w w') : PN w' v l := by
  obtain ⟨A, c, e, hr, hl⟩ := h
  exact ⟨A, c, e, ⟨k.row hr.1, hr.2⟩, hl⟩
theorem cells_new2 (W : World) (t : TypeId) (a b : Value) : ∀ (j : Nat) u, [a, b][j]? = some u → (W.alloc (.cells #[a, b] t)).cell? ((⟨W.heap.size, 0, none⟩ : Addr).add j) = some u := by
  intro j u hu
  rw [addr_add, (Blk.new W t #[a, b]).cell _]
  simpa using hu
theorem own_succP {W : World} {base : Nat} {e : TypeId} {size n : Nat} {v : Value} {xs : List Value} (h : W.ownsRow base e size v (n + 1) xs) : ∃ g cap, v = .slice (some ⟨g, 0, none⟩) (n + 1) cap := by
  rcases h.2 with ⟨_, e⟩ | ⟨g, cap, cur, hv, _⟩
  · omega
  · exact ⟨g, cap, hv⟩
theorem cz_app (a b : List (Nat × Nat)) : cz (a ++ b) = cz a ++ cz b := by simp [cz]
theorem cz_len' (o : List (Nat × Nat)) : (cz o).length = o.length := by simp [cz]
/-- Marks stay where a block of cells is written. -/
theorem KeepD.but {W0 W W' : World} {g6 : Nat} {t : TypeId} {cs : Array Value} (h : KeepD W0 W) (hB : Blk W g6 t cs) (k : But (some g6) W W') : KeepD W0 W' := by
  refine ⟨Nat.le_trans h.1 k.1, fun g hg => ?_⟩
  have h1 := h.2 g hg
  refine (k.2 g (Array.getElem?_eq_some_iff.1 h1).1 fun e => ?_).trans h1
  obtain rfl : g = g6 := by simpa using e
  unfold Blk at hB
  rw [h1] at hB; cases hB
theorem onesC_le (Ns : List Nat) : ∀ (d k : Nat), (onesC Ns k).length ≤ (onesC Ns (k + d)).length
  | 0, _ => Nat.le_refl _
  | d + 1, k => by
    refine Nat.le_trans (onesC_le Ns d k) ?_
    rw [show k + (d + 1) = k + d + 1 by omega, onesC_succ, List.length_append]
    omega
namespace Mix2
end Mix2
end Go.Proofs.YthnphekhgaefdaaDoor
