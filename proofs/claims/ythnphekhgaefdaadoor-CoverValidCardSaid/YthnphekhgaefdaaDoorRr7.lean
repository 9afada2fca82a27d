/-
  The reference of chapter 47: grow, Prove.
-/
import Derived.Test.YthnphekhgaefdaaDoorRr6
namespace Go.Proofs.YthnphekhgaefdaaDoor
open Go.RowKit

theorem kids_len {C : Nat} (Ns : List Nat) (last : Bool) (hC : C ≤ 5) (b : Nat) (o : List (Nat × Nat)) : ∀ (l : List Nat) (off : Nat), (kidsL (fun off s => growL C Ns last b off (lessL C Ns o s)) off l).1.length ≤ l.length * 33 ^ b
  | [], off => by simp [kidsL]
  | s :: l, off => by
    rw [kidsL]
    dsimp only
    have h1 := growL_len C Ns last hC b off (lessL C Ns o s)
    have h2 := kids_len Ns last hC b o l (off + (growL C Ns last b off (lessL C Ns o s)).length)
    rw [List.length_append, List.length_cons, Nat.add_mul, Nat.one_mul]
    omega
theorem own_pair {w : World} {base g : Nat} {a b : Int} (hB : Blk w g 40 #[.int .i64 a, .int .i64 b]) (hg : base ≤ g) : OwnP w base (.slice (some ⟨g, 0, none⟩) 1 1) [(a, b)] :=
  ⟨by simp [cellsP], .inr ⟨g, 1, _, rfl, hg, hB, by simp, by decide, by simp, by simp [cellsP]⟩⟩
theorem blk_two (w : World) (o : Obj) (cs : Array Value) (t : TypeId) : Blk ((w.alloc o).alloc (.cells cs t)) (w.heap.size + 1) t cs := by
  have := Blk.new (w.alloc o) t cs
  have e : (w.alloc o).heap.size = w.heap.size + 1 := by simp
  rwa [e] at this
theorem below_two (w : World) (o o' : Obj) : Below w.heap.size w ((w.alloc o).alloc o') := ((Below.refl _ _).alloc (Nat.le_refl _) o).alloc (by simp) o'
theorem own5 {w : World} {base n : Nat} {v : Value} {xs : List Value} {e : TypeId} {size : Nat} (h : w.ownsRow base e size v n xs) : ∃ A c, v = .slice A n c ∧ n ≤ c := by
  rcases id h.2 with ⟨hv, hn⟩ | ⟨g, cap, cur, hv, _, _, hnc, _⟩
  · exact ⟨none, 0, by rw [hv, hn], by omega⟩
  · exact ⟨_, cap, hv, hnc⟩
theorem cellL_head {o : List (Nat × Nat)} {x : Nat × Nat} (h : o[0]? = some x) : cellL false o = x := by
  unfold cellL
  rw [if_neg (by simp)]
  cases o with
  | nil => simp at h
  | cons a o => simpa using h
theorem cellL_last {o : List (Nat × Nat)} {x : Nat × Nat} (h : o[o.length - 1]? = some x) : cellL true o = x := by
  unfold cellL
  rw [if_pos rfl, List.getLastD_eq_getLast?, List.getLast?_eq_getElem?, h]; rfl
theorem gain_max {C : Nat} {Ns : List Nat} {o : List (Nat × Nat)} {L : List Nat} {k s : Nat} (h : L[k]? = some s) : ((L.take (k + 1)).map fun s => o.length - (lessL C Ns o s).length).foldl max 0 = max (((L.take k).map fun s => o.length - (lessL C Ns o s).length).foldl max 0) (o.length - (lessL C Ns o s).length) := by
  rw [List.take_add_one, h]; simp
theorem gain_bd {C : Nat} {Ns : List Nat} {o : List (Nat × Nat)} (L : List Nat) (k : Nat) : ((L.take k).map fun s => o.length - (lessL C Ns o s).length).foldl max 0 ≤ o.length := by
  refine foldl_max_bound _ _ _ (Nat.zero_le _) fun x hx => ?_
  obtain ⟨s, _, rfl⟩ := List.mem_map.1 hx
  omega
namespace Mix2

end Mix2
end Go.Proofs.YthnphekhgaefdaaDoor
