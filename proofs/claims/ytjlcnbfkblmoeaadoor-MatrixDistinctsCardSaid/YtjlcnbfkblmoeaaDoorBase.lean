/-
  Words for memory that every walk of this seat uses: a block that is known whole, and small plain lemmas. No program in sight.
-/
import Derived.WalkKit
import Derived.WalkSpells
import Derived.WalkLawsBesides
import Derived.Deep.Draws
import Derived.Lib.Hide
namespace Go.Proofs.YtjlcnbfkblmoeaaDoor
open Go.RowKit

/-- Block g holds just the cells cs of element type t, none frozen. -/
def Blk (w : World) (g : Nat) (t : TypeId) (cs : Array Value) : Prop := w.heap[g]? = some (.cells cs t (0, 0))

section
variable {w w' : World} {g : Nat} {t : TypeId} {cs : Array Value}
theorem Blk.lt (h : Blk w g t cs) : g < w.heap.size := by
  rcases Nat.lt_or_ge g w.heap.size with hlt | hge
  · exact hlt
  · unfold Blk at h; rw [Array.getElem?_eq_none hge] at h; cases h
theorem Blk.cell (h : Blk w g t cs) (i : Nat) : w.cell? ⟨g, i, none⟩ = cs[i]? := cell_of_row w g i cs t (0, 0) h
theorem Blk.frozen (h : Blk w g t cs) (i : Nat) : w.frozen? ⟨g, i, none⟩ = false := by
  unfold Blk at h
  simp [World.frozen?, h]
theorem Blk.new (w : World) (t : TypeId) (cs : Array Value) : Blk (w.alloc (.cells cs t)) w.heap.size t cs := heap_alloc_new w _
theorem Blk.new_ {n : Nat} (h : n = w.heap.size) (t : TypeId) (cs : Array Value) : Blk (w.alloc (.cells cs t)) n t cs := by subst h; exact Blk.new w t cs
theorem Blk.drew (h : Blk w g t cs) : Blk w.drew g t cs := h
theorem Blk.drewN (h : Blk w g t cs) (n : Nat) : Blk (w.drewN n) g t cs := h
theorem Blk.alloc (h : Blk w g t cs) (o : Obj) : Blk (w.alloc o) g t cs := (Below.heap_alloc w o g h.lt).trans h
theorem Blk.set_ (h : Blk w g t cs) (i : Nat) (u : Value) : Blk (w.setCell ⟨g, i, none⟩ u) g t (cs.setIfInBounds i u) := by
  unfold Blk at h ⊢
  simp [World.setCell, Array.getElem?_modify, h]
theorem Blk.far (h : Blk w g t cs) {p : Addr} (hp : g ≠ p.block) (u : Value) : Blk (w.setCell p u) g t cs := (Below.heap_setCell w p u g hp).trans h
theorem Blk.below {B : Nat} (h : Blk w g t cs) (hb : Below B w w') (hg : g < B) : Blk w' g t cs := (hb.block g hg).trans h
theorem Blk.grown {row : Option Nat} (h : Blk w g t cs) (hb : w.grownBy w' row) (hg : some g ≠ row) : Blk w' g t cs := (hb.block g h.lt hg).trans h
theorem Blk.ne_ {g' : Nat} {t' : TypeId} {cs' : Array Value} (h : Blk w g t cs) (h' : Blk w g' t' cs') (hne : t ≠ t') : g ≠ g' := by
  rintro rfl
  unfold Blk at h h'
  rw [h] at h'
  injection h' with h'
  injection h' with _ ht
  exact hne ht
end

/-- All cells and all marks of the old blocks read as before: the walk uses the two rules by itself. -/
theorem bcell {W w1 : World} (hb : Below W.heap.size W w1) : (∀ b o, b < W.heap.size → w1.cell? ⟨b, o, none⟩ = W.cell? ⟨b, o, none⟩) ∧ (∀ b o, b < W.heap.size → w1.frozen? ⟨b, o, none⟩ = W.frozen? ⟨b, o, none⟩) :=
  ⟨fun b o h => hb.cell (p := ⟨b, o, none⟩) h, fun b o h => hb.frozen (p := ⟨b, o, none⟩) h⟩

/-- For a region that draws its order: what the cells hold while nothing below the world's end turns. -/
theorem cell_lt {w : World} {p : Addr} {v : Value} (h : w.cell? p = some v) : p.block < w.heap.size := World.block_lt_of_cell? w p h
theorem onB {wr W : World} (hB : Below wr.heap.size wr W) {p : Addr} {v : Value} (h : wr.cell? p = some v) : W.cell? p = some v := (hB.cell (cell_lt h)).trans h
theorem onFrozen {wr W : World} (hB : Below wr.heap.size wr W) {p : Addr} {v : Value} {b : Bool} (h : wr.cell? p = some v) (hf : wr.frozen? p = b) : W.frozen? p = b := (hB.frozen (cell_lt h)).trans hf
theorem belowOnward {wr W W' : World} {X : Prop} (h : X ∧ Below wr.heap.size wr W) (hb : Below W.heap.size W W') : Below wr.heap.size wr W' := h.2.trans (hb.mono h.2.size)

theorem i64w {x : Int} (h : -9223372036854775808 ≤ x ∧ x ≤ 9223372036854775807) : IntKind.i64.wrap x = x := IntWalk.i64_in _ h

/-- An array of n elements z, kept from the walk's own simp. -/
def zeros (z : Value) (n : Nat) : Array Value := Array.replicate n z
theorem madeCells_one (z : Value) (n : Nat) : madeCells #[z] n = zeros z n := by
  unfold madeCells zeros
  apply Array.ext (by simp)
  intro i h1 h2
  simp [Nat.mod_one]
/-- 'make([]T, n)' where T has one cell. -/
theorem make_run {P : Program} (t e : TypeId) (z : Value) (bytes : Nat) (ht : P.underlying t = some (.slice e)) (hinfo : (P.info? e).map (fun i => (i.zero, i.size, i.bytes)) = some (some z, 1, bytes)) (hz1 : z.cells = #[z])
    (n : Nat) (hb : bytes * n ≤ 281474976710656) (hn : n ≤ 65536) (w : World) :
    (Instr.makeSlice t (.int .i64 (n : Int)) (.int .i64 (n : Int))).run P w = .ok (.slice (some ⟨w.heap.size, 0, none⟩) n n) (w.alloc (.cells (zeros z n) e)) := by
  obtain ⟨i, hi, hz, hs, hby⟩ := info_parts hinfo
  have hb' : (i.bytes : Int) * (n : Int) ≤ 281474976710656 := by
    have h : ((i.bytes * n : Nat) : Int) ≤ 281474976710656 := by rw [hby]; omega
    rwa [Int.natCast_mul] at h
  have hr := run_make (P := P) w t e i z ht hi hz .i64 .i64 n n (by omega) (by omega) hb' (by omega)
  simp only [Int.toNat_natCast, hs, hz1, Nat.mul_one, madeCells_one] at hr
  exact hr

/-- n cells, of which the first k are filled by f, the others z. -/
def filled (z : Value) (f : Nat → Value) (k n : Nat) : Array Value := (Array.range n).map fun j => if j < k then f j else z
theorem filled_zero (z : Value) (f : Nat → Value) (n : Nat) : zeros z n = filled z f 0 n := by
  unfold zeros filled
  apply Array.ext (by simp)
  intro i h1 h2
  simp
theorem filled_get (z : Value) (f : Nat → Value) {k n j : Nat} (hj : j < n) : (filled z f k n)[j]? = some (if j < k then f j else z) := by
  unfold filled
  rw [Array.getElem?_map, Array.getElem?_range]
  simp [hj]
theorem filled_size (z : Value) (f : Nat → Value) (k n : Nat) : (filled z f k n).size = n := by simp [filled]
theorem filled_set (z : Value) (f : Nat → Value) {k n : Nat} (hk : k < n) : (filled z f k n).setIfInBounds k (f k) = filled z f (k + 1) n := by
  apply Array.ext_getElem?
  intro i
  rw [Array.getElem?_setIfInBounds]
  by_cases hi : i < n
  · rw [filled_get z f hi, filled_get z f hi, filled_size]
    by_cases h : k = i
    · subst h; simp [hk]
    · rw [if_neg h]
      by_cases h2 : i < k
      · rw [if_pos h2, if_pos (by omega)]
      · rw [if_neg h2, if_neg (by omega)]
  · have h1 : ∀ k, (filled z f k n)[i]? = none := fun k => Array.getElem?_eq_none (by rw [filled_size]; omega)
    rw [h1, h1, if_neg (by omega)]
theorem Blk.fill0 {w : World} {g : Nat} {t : TypeId} {z : Value} {n : Nat} (h : Blk w g t (zeros z n)) (f : Nat → Value) : Blk w g t (filled z f 0 n) := filled_zero z f n ▸ h

/-- A slice's address from which on the cells cs lie. -/
def Row (w : World) (A : Option Addr) (cs : List Value) : Prop :=
  0 < cs.length → ∃ g off, A = some ⟨g, off, none⟩ ∧ g < w.heap.size ∧ ∀ (k : Nat) u, cs[k]? = some u → w.cell? ⟨g, off + k, none⟩ = some u
theorem Row.below {w w' : World} {A : Option Addr} {cs : List Value} (h : Row w A cs) (hb : Below w.heap.size w w') : Row w' A cs := fun hn => by
  obtain ⟨g, off, hA, hg, hc⟩ := h hn
  exact ⟨g, off, hA, Nat.lt_of_lt_of_le hg hb.size, fun k u hu => (hb.cell (p := ⟨g, off + k, none⟩) hg).trans (hc k u hu)⟩
theorem Row.empty (w : World) (A : Option Addr) : Row w A [] := fun h => by simp at h
theorem Row.of_blk {w : World} {g : Nat} {t : TypeId} {cs : Array Value} {l : List Value} (h : Blk w g t cs) (hl : ∀ (k : Nat) u, l[k]? = some u → cs[k]? = some u) : Row w (some ⟨g, 0, none⟩) l :=
  fun _ => ⟨g, 0, rfl, h.lt, fun k u hu => (Nat.zero_add k).symm ▸ (h.cell k).trans (hl k u hu)⟩

/-! The world behind a function's first allocations, under one name. -/
section
variable {P : Program} {c : Code} {Q : Exit → Act → World → Prop} {a : Act} {w : World}
theorem abs1 {c1 : Array Value} {t1 : TypeId} (h : ∀ W, Blk W w.heap.size t1 c1 → Below w.heap.size w W → W.heap.size = w.heap.size + 1 → c.wp P Q a W) :
    c.wp P Q a (w.alloc (.cells c1 t1)) :=
  h _ (Blk.new _ _ _) ((Below.refl _ _).alloc (Nat.le_refl _) _) (by simp)
theorem abs2 {c1 c2 : Array Value} {t1 t2 : TypeId} (h : ∀ W, Blk W w.heap.size t1 c1 → Blk W (w.heap.size + 1) t2 c2 → Below w.heap.size w W → W.heap.size = w.heap.size + 2 → c.wp P Q a W) :
    c.wp P Q a ((w.alloc (.cells c1 t1)).alloc (.cells c2 t2)) :=
  h _ ((Blk.new _ _ _).alloc _) (Blk.new_ (by simp) _ _) (((Below.refl _ _).alloc (Nat.le_refl _) _).alloc (by simp) _) (by simp)
theorem abs3 {c1 c2 c3 : Array Value} {t1 t2 t3 : TypeId} (h : ∀ W, Blk W w.heap.size t1 c1 → Blk W (w.heap.size + 1) t2 c2 → Blk W (w.heap.size + 2) t3 c3 → Below w.heap.size w W → W.heap.size = w.heap.size + 3 → c.wp P Q a W) :
    c.wp P Q a (((w.alloc (.cells c1 t1)).alloc (.cells c2 t2)).alloc (.cells c3 t3)) :=
  h _ (((Blk.new _ _ _).alloc _).alloc _) ((Blk.new_ (by simp) _ _).alloc _) (Blk.new_ (by simp) _ _) ((((Below.refl _ _).alloc (Nat.le_refl _) _).alloc (by simp) _).alloc (by simp; omega) _) (by simp)
theorem abs4 {c1 c2 c3 c4 : Array Value} {t1 t2 t3 t4 : TypeId} (h : ∀ W, Blk W w.heap.size t1 c1 → Blk W (w.heap.size + 1) t2 c2 → Blk W (w.heap.size + 2) t3 c3 → Blk W (w.heap.size + 3) t4 c4 → Below w.heap.size w W → W.heap.size = w.heap.size + 4 → c.wp P Q a W) :
    c.wp P Q a ((((w.alloc (.cells c1 t1)).alloc (.cells c2 t2)).alloc (.cells c3 t3)).alloc (.cells c4 t4)) :=
  h _ ((((Blk.new _ _ _).alloc _).alloc _).alloc _) (((Blk.new_ (by simp) _ _).alloc _).alloc _) ((Blk.new_ (by simp) _ _).alloc _) (Blk.new_ (by simp) _ _) (((((Below.refl _ _).alloc (Nat.le_refl _) _).alloc (by simp) _).alloc (by simp; omega) _).alloc (by simp; omega) _) (by simp)
theorem absC1 {f : FuncId} {args : Array Value} {R : Ending → World → Prop} {c1 : Array Value} {t1 : TypeId} (h : ∀ W, Blk W w.heap.size t1 c1 → Below w.heap.size w W → W.heap.size = w.heap.size + 1 → Calls P f args W R) :
    Calls P f args (w.alloc (.cells c1 t1)) R :=
  h _ (Blk.new _ _ _) ((Below.refl _ _).alloc (Nat.le_refl _) _) (by simp)
theorem absC2 {f : FuncId} {args : Array Value} {R : Ending → World → Prop} {c1 c2 : Array Value} {t1 t2 : TypeId} (h : ∀ W, Blk W w.heap.size t1 c1 → Blk W (w.heap.size + 1) t2 c2 → Below w.heap.size w W → W.heap.size = w.heap.size + 2 → Calls P f args W R) :
    Calls P f args ((w.alloc (.cells c1 t1)).alloc (.cells c2 t2)) R :=
  h _ ((Blk.new _ _ _).alloc _) (Blk.new_ (by simp) _ _) (((Below.refl _ _).alloc (Nat.le_refl _) _).alloc (by simp) _) (by simp)
theorem absC3 {f : FuncId} {args : Array Value} {R : Ending → World → Prop} {c1 c2 c3 : Array Value} {t1 t2 t3 : TypeId} (h : ∀ W, Blk W w.heap.size t1 c1 → Blk W (w.heap.size + 1) t2 c2 → Blk W (w.heap.size + 2) t3 c3 → Below w.heap.size w W → W.heap.size = w.heap.size + 3 → Calls P f args W R) :
    Calls P f args (((w.alloc (.cells c1 t1)).alloc (.cells c2 t2)).alloc (.cells c3 t3)) R :=
  h _ (((Blk.new _ _ _).alloc _).alloc _) ((Blk.new_ (by simp) _ _).alloc _) (Blk.new_ (by simp) _ _) ((((Below.refl _ _).alloc (Nat.le_refl _) _).alloc (by simp) _).alloc (by simp; omega) _) (by simp)
/-- The same at one operation of a region. -/
theorem absL1 {ops : Array Oper} {rest : List Oper} {c1 : Array Value} {t1 : TypeId} (h : ∀ W, Blk W w.heap.size t1 c1 → Below w.heap.size w W → W.heap.size = w.heap.size + 1 → wpList P ops Q rest a W) : wpList P ops Q rest a (w.alloc (.cells c1 t1)) :=
  h _ (Blk.new _ _ _) ((Below.refl _ _).alloc (Nat.le_refl _) _) (by simp)
end
end Go.Proofs.YtjlcnbfkblmoeaaDoor
