/-
  What every row of this seat shares: an argument reads behind the call as before it, the listed tables, the world of the witness, a raw matrix opened.
-/
import Derived.Test.YtfbkcdhmggjbaaaGreatDoorLaw
import Derived.Test.YtfbkcdhmggjbaaaGreatDoorCards
import Derived.Test.YtfbkcdhmggjbaaaGreatDoorTie
import Derived.ProofKit
import Derived.OpenShut
import Derived.Carry
import Derived.Lib.SmallJoins
import Derived.Deep.DeepHandedRow
import Derived.Lib.LaidTab
namespace Go.Proofs.YtfbkcdhmggjbaaaGreatDoor
open Go.ChangeShapes Go.WideShapes Go.ChangeAt Go.RowKit

section
variable {H : Type} {enc : TypeId × Value → H} {P : Program}
theorem args_stay (hl : laidOutB P = true) {W W' : World} (hb : Below W.heap.size W W') : ∀ (ts : List TypeId) (vs : List Value) (ds : List (DataW H)) (ps : List MemPlace),
    (∀ t ∈ ts, P.readableRec t = true ∧ t < P.types.size) → DataW.TrodAll enc P W 0 (fun _ => true) true ts vs ds ps → (∀ x ∈ ps, x.block < W.heap.size) → DataW.TrodAll enc P W' 0 (fun b => decide (b < W.heap.size)) true ts vs ds ps
  | [], vs, ds, ps, _, h, _ => by
    obtain ⟨rfl, rfl, rfl⟩ := trodAll_nil h
    exact trodAll_mk0
  | t :: ts, vs, ds, ps, ht, h, hp => by
    obtain ⟨v, vs', d, ds', p, q, rfl, rfl, rfl, h1, h2⟩ := trodAll_cons h
    obtain ⟨r1, r2⟩ := ht t (List.mem_cons_self ..)
    exact trodAll_cons_mk (Below.trod hl r1 r2 h1 hb fun x hx => hp x (List.mem_append_left _ hx)) (args_stay hl hb ts vs' ds' q (fun u hu => ht u (List.mem_cons_of_mem _ hu)) h2 fun x hx => hp x (List.mem_append_right _ hx))
/-- The end of every law: true, and each argument as before. -/
theorem law_post {f : Func} {s : ChangeSpec} {W W' : World} {args : Array Value} {ds gs : List (DataW H)} {before : List MemPlace} {tb : TypeId} (hl : laidOutB P = true) (htb : P.underlying tb = some .bool)
    (hr : f.params.toList.all (fun t => P.readableRec t && decide (t < P.types.size)) = true) (hres : f.resultTypes = #[tb]) (hs : s.vars = [])
    (hW : DataW.Whole enc P f.params.toList s.vars false W args.toList ds gs before) (hfn : s.fn H ds = { results := [.lit (.bool true)], args := ds }) (hb : Below W.heap.size W W') :
    s.post enc P f false true false false W args (.bool true) W' := by
  have hlt : ∀ p ∈ before, p.block < W.heap.size := fun p hp => hW.lt p hp
  obtain ⟨p, q, hA, hV, hpq, hz, hn⟩ := id hW
  rw [hs] at hV
  obtain ⟨rfl, rfl⟩ := trodVars_none hV
  have hf : s.fn H (ds ++ []) = { results := [.lit (.bool true)], args := ds } := by rw [List.append_nil]; exact hfn
  have hr' : ∀ t ∈ f.params.toList, P.readableRec t = true ∧ t < P.types.size := fun t ht => by
    have := List.all_eq_true.1 hr t ht
    simpa using this
  rw [List.append_nil] at hpq
  subst hpq
  refine ⟨ds, [], before, [], before, [], hW, ?_, ?_, ?_, World.keptBut_mono (fun p hp => ⟨hp, .inr (.inl hp)⟩) (hb.frame (· ∈ before)), fun h => by cases h⟩
  · rw [hf, hres]
    exact trodAll_mk1 (shut_bool htb true)
  · rw [hf]
    exact args_stay hl hb _ _ _ _ hr' hA hlt
  · rw [hf, hs]; rfl
end

theorem own : ownKnob Tryz.prog.godebug = none := by kernel_rfl
theorem laidOut : laidOutB Tryz.prog = true := by kernel_rfl
theorem gTab : Tryz.prog.globalNamed "math/bits.deBruijn64tab" = some 0 := by kernel_rfl
theorem gTabType : (Tryz.prog.globals[0]?).map (·.type) = some 212 := by kernel_rfl
theorem cellsTab : Tryz.prog.cellsOf 212 = 64 := by kernel_rfl
theorem cellsU8 : Tryz.prog.cellsOf 5 = 1 := by kernel_rfl
theorem notHandles : Rows.coverNormalRow.laid.filter (fun x => x.2.handleName?.isSome) = [] := by kernel_rfl
/-- What the list gives the walks: math/bits's table. -/
theorem tab_of {W : World} (h : laidMetH Tryz.prog Rows.coverNormalRow.laid W) : Tab W := by
  unfold laidMetH at h
  rw [notHandles] at h
  have ht := Lib.tabIs_of_head (k := .u8) gTab gTabType Tryz.underlying212 Tryz.underlying5 cellsU8 cellsTab (zs := Lib.deBruijn64tab.map Int.ofNat) h
  intro j hj
  have hc := ht.cell gTab j (by rw [List.length_map]; exact hj)
  rw [List.getD_eq_getElem?_getD, List.getElem?_map, List.getElem?_eq_getElem hj] at hc
  rw [List.getD_eq_getElem?_getD, List.getElem?_eq_getElem hj]
  exact hc

def filling (cs : List Nat) : Obj → Obj
  | .cells _ t frozen => .cells (cs.map fun n : Nat => Value.int .u8 (n : Int)).toArray t frozen
  | o => o
def acceptZ : List Nat := [128, 191, 160, 191, 128, 159, 144, 191, 128, 143, 0, 0, 0, 0, 0, 0, 0, 0, 0, 0, 0, 0, 0, 0, 0, 0, 0, 0, 0, 0, 0, 0]
/-- The world of the witness: the three tables as they are laid. -/
noncomputable def laidWorld (os : Os) : World :=
  { World.holding Tryz.prog os ⟨#[], #[], []⟩ with heap := (((World.holding Tryz.prog os ⟨#[], #[], []⟩).heap.modify 0 (filling Lib.deBruijn64tab)).modify 2 (filling Go.Pinned.utf8FirstZ)).modify 3 (filling acceptZ) }
theorem laid_met (os : Os) (args : Array Value) : laidMet Tryz.prog Rows.coverNormalRow.laid ((laidWorld os).forCall (fun _ _ => 0) ⟨#[], args, []⟩).memory :=
  laidMet_of_run' 8 (by kernel_rfl) (by kernel_rfl)

/-- A raw matrix that came in. -/
theorem u8_bd {k : Int} (h : (Lit.int .u8 k).wf = true) : 0 ≤ k ∧ k ≤ 255 := by
  rw [Lit.wf, Bool.and_eq_true, decide_eq_true_eq, decide_eq_true_eq, show IntKind.u8.min = 0 from by decide, show IntKind.u8.max = 255 from by decide] at h
  exact h
set_option maxRecDepth 100000 in
theorem raw_open {H : Type} {enc : TypeId × Value → H} {W : World} {base b0 : Nat} {sp : Nat → Bool} {held : Bool} {r : Reach} {v : Value} {d : DataW H} {p : List MemPlace} (hv : Value.okWide Tryz.prog W r b0 24 v) (h : DataW.Trod enc Tryz.prog W base sp held 24 v d p) :
    ∃ R C zs, IsRaw W v R C zs := by
  obtain ⟨v0, v1, v2, y0, y1, y2, n, rfl, -, -, h0, h1, h2⟩ := Joins.open_agg3 Tryz.underlying24 (by kernel_rfl) (by kernel_rfl) hv h
  obtain ⟨k0, e0, -, w0⟩ := DataW.trod_int Tryz.underlying5 h0
  obtain ⟨k1, e1, -, w1⟩ := DataW.trod_int Tryz.underlying5 h1
  cases e0; cases e1
  obtain ⟨l0, g0⟩ := u8_bd w0
  obtain ⟨l1, g1⟩ := u8_bd w1
  obtain ⟨r, rfl⟩ := Int.eq_ofNat_of_zero_le l0
  obtain ⟨c, rfl⟩ := Int.eq_ofNat_of_zero_le l1
  have hR : ((r : Int) % 6) = ((r % 6 : Nat) : Int) := by omega
  have hC : ((c : Int) % 6) = ((c % 6 : Nat) : Int) := by omega
  rcases open_ints Tryz.underlying22 Tryz.underlying5 cellsU8 h2 with ⟨e, -⟩ | ⟨a, len, cap, zs, e, -, hlc, hcm, hlen, -, hcell, hwf⟩
  · cases e
    exact ⟨_, _, [], r, c, none, 0, rfl, hR, hC, by omega, by omega, fun h => by simp at h, fun z hz => by simp at hz, by simp⟩
  · cases e
    have hle : len ≤ zs.length := by rw [hlen]; split <;> omega
    have hlt : (zs.take len).length = len := by rw [List.length_take]; omega
    refine ⟨_, _, zs.take len, r, c, some a, cap, by rw [hlt], hR, hC, by omega, by omega, fun h => ?_, fun z hz => u8_bd (hwf z (List.mem_of_mem_take hz)), by omega⟩
    rw [List.length_map, hlt] at h
    have h0 := hcell 0 (by omega)
    have hs : a.spot = none := by
      have h0' : W.cell? a = some (.int .u8 (zs.getD 0 0)) := by
        unfold Addr.add at h0; rwa [if_pos rfl] at h0
      unfold World.cell? at h0'
      split at h0'
      · split at h0'
        · cases h0'
        · rename_i hh; simpa using hh
      · cases h0'
    obtain ⟨g, off, spot⟩ := a
    cases hs
    refine ⟨g, off, rfl, by have := cell_lt h0; simpa [Addr.add] using this, fun k u hu => ?_⟩
    rw [List.getElem?_map] at hu
    obtain ⟨z, hz, rfl⟩ := Option.map_eq_some_iff.1 hu
    have hk : k < len := by
      have := (List.getElem?_eq_some_iff.1 hz).1
      omega
    have hc := hcell k (by omega)
    rw [List.getElem?_take_of_lt hk] at hz
    rw [List.getD_eq_getElem?_getD, hz, Option.getD_some] at hc
    by_cases hk0 : k = 0
    · subst hk0; simpa [Addr.add] using hc
    · simpa [Addr.add, hk0] using hc
end Go.Proofs.YtfbkcdhmggjbaaaGreatDoor
