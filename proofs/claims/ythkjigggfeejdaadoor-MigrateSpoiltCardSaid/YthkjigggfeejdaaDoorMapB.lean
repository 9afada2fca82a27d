import Derived.Test.YthkjigggfeejdaaDoorBits
import Derived.Maps.Views
import Derived.Maps.Own
import Derived.Maps.OwnOps
namespace Go.Proofs.YthkjigggfeejdaaDoor
open Go.RowKit Go.Maps

/-! A set of numbers as a map[int]bool of the call's own. -/
/-- The numbers that were set to true, in order. -/
def tkD (l : List Int) : DataW Unit := l.foldl (fun D x => D.put (.int .i64 x) (.lit (.bool true))) (.map [])
theorem tkD_snoc (l : List Int) (x : Int) : tkD (l ++ [x]) = (tkD l).put (.int .i64 x) (.lit (.bool true)) := by simp [tkD]
theorem tkD_map (l : List Int) : IsMap (tkD l) := by
  have : ∀ (l : List Int) (D : DataW Unit), IsMap D → IsMap (l.foldl (fun D x => D.put (.int .i64 x) (.lit (.bool true))) D) := by
    intro l
    induction l with
    | nil => intro D h; exact h
    | cons x l ih => intro D h; exact ih _ (h.put _ _)
  exact this l _ isMap_empty
theorem tkD_at (l : List Int) (k : Int) : (tkD l).atKey (.int .i64 k) (.lit (.bool false)) = .lit (.bool (decide (k ∈ l))) := by
  have : ∀ (m : List Int), (tkD m.reverse).atKey (.int .i64 k) (.lit (.bool false)) = .lit (.bool (decide (k ∈ m.reverse))) := by
    intro m
    induction m with
    | nil => rfl
    | cons x m ih =>
      rw [List.reverse_cons, tkD_snoc]
      by_cases e : k = x
      · subst e
        rw [atKey_put_same (tkD_map _) (by trivial)]
        simp
      · rw [atKey_put_other (fun h => e (by injection h)), ih]
        simp [e]
  have h := this l.reverse
  rwa [List.reverse_reverse] at h
theorem plainElem_bool_inv {P : Program} {e : TypeId} (he : P.underlying e = some .bool) {v : Value} {z : DataW Unit × List MemPlace} (h : plainElem P e v = some z) : ∃ b, v = .bool b ∧ z = (.lit (.bool b), []) := by
  unfold plainElem at h
  rw [he] at h
  cases v <;> simp at h
  exact ⟨_, rfl, h.symm⟩
/-- A look-up in such a map. -/
theorem look_tk {P : Program} {w : World} {t k e : TypeId} {b n : Nat} {l : List Int} (h : w.ownsMap P k (plainElem P e) b n (tkD l)) (K : Keyed P k) (ht : P.underlying t = some (.map k e)) (he : P.underlying e = some .bool) (hz : (zeroValue e).run P w = .ok (.bool false) w) {x : Int} (hkey : keyOf P k (.int .i64 x) = some (.int .i64 x)) :
    (Instr.lookup t (.map (some b)) (.int .i64 x) false).run P w = .ok (.bool (decide (x ∈ l))) w := by
  obtain ⟨v, ps, hrun, hv⟩ := h.lookup K ht hz (plainElem_bool he false) hkey
  obtain ⟨b', rfl, hb⟩ := plainElem_bool_inv he hv
  rw [tkD_at] at hb
  simp only [Prod.mk.injEq] at hb
  have := hb.1
  injection this with this
  injection this with this
  rw [hrun, this]
end Go.Proofs.YthkjigggfeejdaaDoor
