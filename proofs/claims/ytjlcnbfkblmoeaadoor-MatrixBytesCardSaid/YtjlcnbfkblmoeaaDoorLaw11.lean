import Derived.Test.YtjlcnbfkblmoeaaDoorLaw10
namespace Go.Proofs.YtjlcnbfkblmoeaaDoor
open Go.RowKit

theorem own_under {w w' : World} {base B : Nat} {e : TypeId} {size : Nat} {v : Value} {n : Nat} {xs : List Value} (h : w.ownsRow base e size v n xs) (hb : Below B w w') (hlow : ∀ g, v.ownBlock = some g → g < B) : w'.ownsRow base e size v n xs := by
  obtain ⟨hl, h⟩ := h
  refine ⟨hl, ?_⟩
  rcases h with h | ⟨g, cap, cur, hv, hg, hh, r⟩
  · exact .inl h
  · exact .inr ⟨g, cap, cur, hv, hg, (hb.block g (hlow g (by rw [hv]; rfl))).trans hh, r⟩
/-- Rows that lie below a block number. -/
def RowsAt (w : World) (lo br C : Nat) (M : List (List Bool)) (vs : List Value) : Prop :=
  vs.length = M.length ∧ ∀ (i : Nat) r, M[i]? = some r → ∃ B d, vs[i]? = some (.slice B C d) ∧ (0 < r.length → ∃ g off, B = some ⟨g, off, none⟩ ∧ lo ≤ g ∧ (∃ cs, Blk w g 4 cs) ∧ g < br ∧ g < w.heap.size ∧ ∀ (k : Nat) u, (r.map Value.bool)[k]? = some u → w.cell? ⟨g, off + k, none⟩ = some u)
theorem RowsAt.under {w w' : World} {lo br C : Nat} {M : List (List Bool)} {vs : List Value} (h : RowsAt w lo br C M vs) (hb : Below br w w') : RowsAt w' lo br C M vs := by
  refine ⟨h.1, fun i r hr => ?_⟩
  obtain ⟨B, d, h1, h2⟩ := h.2 i r hr
  refine ⟨B, d, h1, fun hp => ?_⟩
  obtain ⟨g, off, e, hlo, ⟨cs, hB⟩, hg, hg2, hc⟩ := h2 hp
  exact ⟨g, off, e, hlo, ⟨cs, hB.below hb hg⟩, hg, Nat.lt_of_lt_of_le hg2 hb.size, fun k u hu => (hb.cell (p := ⟨g, off + k, none⟩) hg).trans (hc k u hu)⟩
theorem RowsAt.mono {w : World} {lo br br' C : Nat} {M : List (List Bool)} {vs : List Value} (h : RowsAt w lo br C M vs) (hb : br ≤ br') : RowsAt w lo br' C M vs := by
  refine ⟨h.1, fun i r hr => ?_⟩
  obtain ⟨B, d, h1, h2⟩ := h.2 i r hr
  refine ⟨B, d, h1, fun hp => ?_⟩
  obtain ⟨g, off, e, hlo, hB, hg, hg2, hc⟩ := h2 hp
  exact ⟨g, off, e, hlo, hB, Nat.lt_of_lt_of_le hg hb, hg2, hc⟩
/-- The other length: where there is no row, or it is the same. -/
theorem RowsAt.cols {w : World} {lo br C C' : Nat} {M : List (List Bool)} {vs : List Value} (h : RowsAt w lo br C M vs) (hc : M = [] ∨ C = C') : RowsAt w lo br C' M vs := by
  rcases hc with rfl | rfl
  · exact ⟨h.1, fun i r hr => by simp at hr⟩
  · exact h
theorem RowsAt.snoc {w : World} {lo br C : Nat} {M : List (List Bool)} {vs : List Value} (h : RowsAt w lo br C M vs) {r : List Bool} {B : Option Addr} {d : Nat} (hr : 0 < r.length → ∃ g off, B = some ⟨g, off, none⟩ ∧ lo ≤ g ∧ (∃ cs, Blk w g 4 cs) ∧ g < br ∧ g < w.heap.size ∧ ∀ (k : Nat) u, (r.map Value.bool)[k]? = some u → w.cell? ⟨g, off + k, none⟩ = some u) : RowsAt w lo br C (M ++ [r]) (vs ++ [.slice B C d]) := by
  refine ⟨by simp [h.1], fun i o ho => ?_⟩
  by_cases hi : i < M.length
  · rw [List.getElem?_append_left hi] at ho
    rw [List.getElem?_append_left (by rw [h.1]; exact hi)]
    exact h.2 i o ho
  · rw [List.getElem?_append_right (by omega)] at ho
    have : i - M.length = 0 := by
      have := (List.getElem?_eq_some_iff.1 ho).1
      simp at this; omega
    rw [this] at ho
    cases ho
    rw [List.getElem?_append_right (by rw [h.1]; omega), h.1, this]
    exact ⟨B, d, rfl, hr⟩
theorem RowsAt.ref {w : World} {lo br C : Nat} {M : List (List Bool)} {vs : List Value} {A : Option Addr} (h : RowsAt w lo br C M vs) (hw : Wide C M) (hC : C ≤ 4096) (hR : M.length ≤ 4096) (hA : Row w A vs) : IsRef w C A M := by
  refine ⟨hC, hR, vs, h.1, hA, fun i r hr => ⟨hw r (List.mem_of_getElem? hr), ?_⟩⟩
  obtain ⟨B, d, h1, h2⟩ := h.2 i r hr
  refine ⟨B, d, h1, fun hp => ?_⟩
  obtain ⟨g, off, e, _, _, _, hg2, hc⟩ := h2 (by simpa using hp)
  exact ⟨g, off, e, hg2, hc⟩
theorem RowsAt.setCell {w : World} {lo br C : Nat} {M : List (List Bool)} {vs : List Value} (h : RowsAt w lo br C M vs) {p : Addr} (hp : p.block < lo) (u : Value) : RowsAt (w.setCell p u) lo br C M vs := by
  refine ⟨h.1, fun i r hr => ?_⟩
  obtain ⟨B, d, h1, h2⟩ := h.2 i r hr
  refine ⟨B, d, h1, fun hp2 => ?_⟩
  obtain ⟨g, off, e, hlo, ⟨cs, hB⟩, hg, hg2, hc⟩ := h2 hp2
  refine ⟨g, off, e, hlo, ⟨cs, hB.far (by omega) u⟩, hg, by simpa [World.setCell] using hg2, fun k u' hu => ?_⟩
  exact (World.cell?_of_block (Below.heap_setCell w p u g (by omega))).trans (hc k u' hu)
theorem RowsAt.but {w w' : World} {lo br C : Nat} {M : List (List Bool)} {vs : List Value} {r : Option Nat} (h : RowsAt w lo br C M vs) (hb : But r w w') (hr : ∀ g cs, Blk w g 4 cs → some g ≠ r) : RowsAt w' lo br C M vs := by
  refine ⟨h.1, fun i o ho => ?_⟩
  obtain ⟨B, d, h1, h2⟩ := h.2 i o ho
  refine ⟨B, d, h1, fun hp2 => ?_⟩
  obtain ⟨g, off, e, hlo, ⟨cs, hB⟩, hg, hg2, hc⟩ := h2 hp2
  exact ⟨g, off, e, hlo, ⟨cs, hb.blk hB (hr g cs hB)⟩, hg, Nat.lt_of_lt_of_le hg2 hb.1, fun k u' hu => hb.on (hc k u' hu) (hr g cs hB)⟩

/-- What the reader holds: the answer's cell (still empty), the matrix being read, the row being read (in blocks from br on). -/
structure PInv (w wr : World) (q2 q4 br C : Nat) (M : List (List Bool)) (row : List Bool) (rv v : Value) (vs : List Value) : Prop where
  out : Blk wr q2 28 #[.int .i64 0, .slice none 0 0]
  mat : Blk wr q4 28 #[.int .i64 (C : Int), rv]
  rows : wr.ownsRow w.heap.size 84 1 rv M.length vs
  low : ∀ g, rv.ownBlock = some g → g < br
  at_ : RowsAt wr (w.heap.size + 2) br C M vs
  cur : wr.ownsRow br 4 1 v row.length (row.map Value.bool)
  lt2 : q2 < br
  lt4 : q4 < br
  ne : q2 ≠ q4
  base : w.heap.size ≤ q2 ∧ w.heap.size ≤ q4
  le : br ≤ wr.heap.size
  hi : q2 < w.heap.size + 2 ∧ q4 < w.heap.size + 2
  below : Below w.heap.size w wr
section
variable {w wr wr' : World} {q2 q4 br C : Nat} {M : List (List Bool)} {row row' : List Bool} {rv v v' : Value} {vs : List Value}
theorem PInv.onward (h : PInv w wr q2 q4 br C M row rv v vs) (hb : Below br wr wr') (hc : wr'.ownsRow br 4 1 v' row'.length (row'.map Value.bool)) : PInv w wr' q2 q4 br C M row' rv v' vs where
  out := h.out.below hb h.lt2
  mat := h.mat.below hb h.lt4
  rows := own_under h.rows hb h.low
  low := h.low
  at_ := h.at_.under hb
  cur := hc
  lt2 := h.lt2
  lt4 := h.lt4
  ne := h.ne
  base := h.base
  le := Nat.le_trans h.le hb.size
  hi := h.hi
  below := h.below.trans (hb.mono (by have := h.base; have := h.lt2; omega))
/-- The columns are stored. -/
theorem PInv.setC (h : PInv w wr q2 q4 br C M row rv v vs) {D : Nat} (hc : M = [] ∨ C = D) : PInv w (wr.setCell ⟨q4, 0, none⟩ (.int .i64 (D : Int))) q2 q4 br D M row rv v vs where
  out := h.out.far h.ne _
  mat := h.mat.set_ 0 _
  rows := ownsRow_setCell_other h.rows (a := ⟨q4, 0, none⟩) (fun e => own_ne h.rows h.mat (by decide) e.symm) _
  low := h.low
  at_ := (h.at_.cols hc).setCell (p := ⟨q4, 0, none⟩) h.hi.2 _
  cur := ownsRow_setCell_other h.cur (a := ⟨q4, 0, none⟩) (fun e => own_ne h.cur h.mat (by decide) e.symm) _
  lt2 := h.lt2
  lt4 := h.lt4
  ne := h.ne
  base := h.base
  le := by simpa [World.setCell] using h.le
  hi := h.hi
  below := h.below.setCell (p := ⟨q4, 0, none⟩) h.base.2 _
/-- A row is done. -/
theorem PInv.push {W4 W5 : World} {B : Option Addr} {d n : Nat} {us : List Value} (h : PInv w wr q2 q4 br C M row rv v vs) (hb : Below wr.heap.size wr W4) (hg : W4.grownBy W5 rv.ownBlock) (hlen : row.length = C) (hrow : W4.ownsRow wr.heap.size 4 1 (.slice B C d) row.length (row.map Value.bool))
    (hown : W5.ownsRow w.heap.size 84 1 v' n us) (hn : n = M.length + 1) (hus : us = vs ++ [.slice B C d]) : PInv w (W5.setCell ⟨q4, 1, none⟩ v') q2 q4 W5.heap.size C (M ++ [row]) [] v' (.slice none 0 0) (vs ++ [.slice B C d]) := by
  subst hn hus
  have hrows4 := own_below h.rows hb
  have hmat5 := (h.mat.below hb h.mat.lt).grown hg (own_ne h.rows h.mat (by decide))
  have hout5 := (h.out.below hb h.out.lt).grown hg (own_ne h.rows h.out (by decide))
  have hbut : But rv.ownBlock W4 W5 := But.grown hg
  have hsz5 : wr.heap.size ≤ W5.heap.size := Nat.le_trans hb.size hbut.1
  have hat4 := h.at_.under (hb.mono h.le)
  have hnb : ∀ g cs, Blk W4 g 4 cs → some g ≠ rv.ownBlock := fun g cs hB => own_ne hrows4 hB (by decide)
  have hbel5 : Below w.heap.size w W5 := (h.below.trans (hb.mono h.below.size)).grown hg (Nat.le_trans h.below.size hb.size) (fun q hq => (hrows4.lt q hq).1)
  have hnew : 0 < row.length → ∃ g off, B = some ⟨g, off, none⟩ ∧ w.heap.size + 2 ≤ g ∧ (∃ cs, Blk W4 g 4 cs) ∧ g < W5.heap.size ∧ g < W4.heap.size ∧ ∀ (k : Nat) u, (row.map Value.bool)[k]? = some u → W4.cell? ⟨g, off + k, none⟩ = some u := fun hp => by
    obtain ⟨A', c', e, _, _, hR, _⟩ := row_of_own hrow
    cases e
    obtain ⟨g, off, rfl, hgl, hc⟩ := hR (by simpa using hp)
    rcases hrow.2 with ⟨e, _⟩ | ⟨g', cap, cur, e, hge, hgb, _⟩
    · cases e
    · cases e
      have h2 := h.below.size
      have h3 := h.base
      have h4 := h.hi
      have h5 := h.ne
      have h6 := h.mat.lt
      have h7 := h.out.lt
      exact ⟨_, _, rfl, by omega, ⟨_, hgb⟩, Nat.lt_of_lt_of_le hgl hbut.1, hgl, hc⟩
  have hat5 : RowsAt W5 (w.heap.size + 2) W5.heap.size C (M ++ [row]) (vs ++ [.slice B C d]) := ((hat4.mono (Nat.le_trans h.le hsz5)).snoc hnew).but hbut hnb
  have hne5 := own_ne hown hmat5 (by decide)
  exact ⟨hout5.far h.ne _, hmat5.set_ 1 _, by simpa using ownsRow_setCell_other hown (a := ⟨q4, 1, none⟩) (fun e => hne5 e.symm) v', fun g e => (hown.lt g e).2, hat5.setCell (p := ⟨q4, 1, none⟩) h.hi.2 _, World.ownsRow_nil _ _ _ _, hout5.lt, hmat5.lt, h.ne, h.base, by simp [World.setCell], h.hi, hbel5.setCell (p := ⟨q4, 1, none⟩) h.base.2 _⟩
end

/-- A row of our own behind another: one append, whether or not there is a block. -/
theorem app_row {w : World} {ops : Array Oper} {rest : List Oper} {o : Oper} {a : Act} {Q : Exit → Act → World → Prop} (hgd : o.guard = none) (s x : Operand)
    (ho : o.op = .call { callee := .builtin .append, args := #[s, x], argTypes := #[84, 84] }) (base br : Nat) (v : Value) (hs : a.eval s = v) (hown : w.ownsRow base 4 1 v 0 []) (A : Option Addr) (c : Nat) (row : List Bool) (hx : a.eval x = .slice A row.length c)
    (hcur : w.ownsRow br 4 1 (.slice A row.length c) row.length (row.map Value.bool)) (hbase : base ≤ w.heap.size) (hlen : row.length ≤ 1000000)
    (h : ∀ v' w', w'.ownsRow base 4 1 v' row.length (row.map Value.bool) → w.grownBy w' v.ownBlock → wpList Tryd.prog ops Q rest (a.put o.dst v') w') : wpList Tryd.prog ops Q (o :: rest) a w := by
  obtain ⟨i0, hi0, hz0, hz1, hz2⟩ := info_parts info_bool
  obtain ⟨_, _, e, _, _, hR, _⟩ := row_of_own hcur
  rcases hcur.2 with ⟨e5, e6⟩ | ⟨g5, cap5, cur5, e5, hg5, hh5, _⟩
  · have hr0 : row = [] := List.eq_nil_of_length_eq_zero e6
    subst hr0
    refine wpList_append_own_none hgd s x 84 ho base 4 i0 1 Tryd.underlying84 hi0 v 0 [] hs hown (by rw [hx, e5]) ?_
    exact h v w hown (World.grownBy.refl _ _)
  · cases e
    have e7 : A = some ⟨g5, 0, none⟩ := by injection e5
    subst e7
    refine wpList_append_own _ hgd s x 84 ho base 4 i0 (.bool false) 1 1 Tryd.underlying84 hi0 hz0 hz1 hz2 rfl (by decide) v 0 [] hs hown ⟨g5, 0, none⟩ row.length c (row.map Value.bool) hx (by simp) (fun j u hu => ?_) (by intro u hu; obtain ⟨b, _, rfl⟩ := List.mem_map.1 hu; rfl) (by unfold maxLen; omega) (by omega) hbase fun v' w' h1 h2 _ => h v' w' (by simpa using h1) h2
    have hj : j < row.length := by
      have := (List.getElem?_eq_some_iff.1 hu).1
      simpa using this
    obtain ⟨g, off, e8, _, hc⟩ := hR (by rw [List.length_map]; omega)
    cases e8
    have := hc j u hu
    have e9 : (⟨g5, 0, none⟩ : Addr).add j = ⟨g5, j, none⟩ := by unfold Addr.add; split <;> simp_all
    rw [e9]
    simpa using this

/-- What the reader leaves. -/
def ReadPost (w : World) (l : List UInt8) (e : Ending) (w' : World) : Prop :=
  Below w.heap.size w w' ∧ ((runP 0 [] [] l = none ∧ e = .returned (.tuple #[.agg #[.int .i64 0, .slice none 0 0], .bool false])) ∨ ∃ C M A c, runP 0 [] [] l = some (C, M) ∧ e = .returned (.tuple #[refV C A M.length c, .bool true]) ∧ IsRef w' C A M)
set_option maxRecDepth 100000 in
set_option maxHeartbeats 4000000 in
theorem readr_any (s : ByteArray) (w : World) (hs : s.size ≤ 4096) :
    Calls Tryd.prog 30 #[.string s] w fun e w' => ReadPost w s.data.toList e w' := by
  obtain ⟨i0, hi0, hz0, hz1, hz2⟩ := info_parts info_bool
  obtain ⟨j0, hj0, jz0, jz1, jz2⟩ := info_parts info_bools
  have hls : s.data.toList.length = s.size := by rw [Array.length_toList]; rfl
  go_enter Tryd.func30, Tryd.ntmps30
  go_wp2_with fail
  refine abs2 fun W0 hX0 hY0 hbel0 hz => ?_
  have hI0 : PInv w W0 w.heap.size (w.heap.size + 1) W0.heap.size 0 [] [] (.slice none 0 0) (.slice none 0 0) [] := ⟨hX0, hY0, World.ownsRow_nil _ _ _ _, fun g h => by simp [Value.ownBlock] at h, ⟨rfl, fun i r hr => by simp at hr⟩, World.ownsRow_nil _ _ _ _, by omega, by omega, by omega, by omega, Nat.le_refl _, by omega, hbel0⟩
  have HL := Lib.hid hls; clear hls hX0 hY0
  go_loopw [5, 6] (fun v i wr => ∃ (k C br : Nat) (M : List (List Bool)) (row : List Bool) (rv : Value) (vs : List Value), k ≤ s.size ∧ i = .int .i64 k ∧ Hid (runP 0 [] [] s.data.toList = runP C M row (s.data.toList.drop k)) ∧ Hid (WfM C M) ∧ M.length ≤ k ∧ row.length ≤ k ∧ PInv w wr w.heap.size (w.heap.size + 1) br C M row rv v vs) (fun _ i _ => s.size - (intOf i).toNat)
  case atStart => exact ⟨0, 0, _, [], [], _, [], Nat.zero_le _, rfl, Lib.hid rfl, Lib.hid ⟨fun r hr => by simp at hr, by omega, fun _ => rfl⟩, by simp, by simp, hI0⟩
  case round =>
    obtain ⟨k, C, br, M, row, rv, vs, hk, rfl, HR, HW, hMk, hrk, hI⟩ := hrel
    clear hI0 hbel0 hz
    by_cases hlt : k < s.size
    · have hdrop : s.data.toList.drop k = s[k] :: s.data.toList.drop (k + 1) := by
        rw [List.drop_eq_getElem_cons (by rw [HL.out]; exact hlt)]
        congr 1
      have hR := HR.out
      rw [hdrop, runP] at hR
      have HR := Lib.hid hR
      clear hR hdrop
      have hbr := hI.le
      by_cases hbit : s[k] = 48 ∨ s[k] = 49
      · have hR := HR.out
        rw [if_pos hbit] at hR
        have HR := Lib.hid hR; clear hR
        rcases hbit with hb | hb
        · have hnew : row ++ [s[k] == 49] = row ++ [false] := by rw [hb]; rfl
          rw [hnew] at HR
          have ht : (s[k].toNat : Int) = 48 := by rw [hb]; rfl
          clear hnew hb
          have hown4 := hI.cur.alloc (.cells #[.bool false] 4)
          go_wp2_with (at_builtin; refine wpList_append_own _ rfl _ _ 84 rfl (br) 4 i0 (.bool false) 1 1 Tryd.underlying84 hi0 hz0 hz1 hz2 rfl (by decide) _ _ _ rfl (hown4) ⟨wr.heap.size, 0, none⟩ 1 1 [.bool false] rfl rfl (cell_one_new _ _ _) (by simp [Value.oneCell']) (by unfold maxLen; omega) (by omega) (by simp; omega) ?_; intro v' w3 hown' hgrow _)
          have hbe := ((Below.refl br wr).alloc hbr (.cells #[.bool false] 4)).grown hgrow (by simp; omega) (fun q hq => (hown4.lt q hq).1)
          exact ⟨⟨k + 1, C, br, M, row ++ [false], rv, vs, by omega, by go_num, HR, HW, by omega, by simp; omega, hI.onward hbe (by simpa using hown')⟩, by simp [intOf]; omega⟩
        · have hnew : row ++ [s[k] == 49] = row ++ [true] := by rw [hb]; rfl
          rw [hnew] at HR
          have ht : (s[k].toNat : Int) = 49 := by rw [hb]; rfl
          clear hnew hb
          have hown4 := hI.cur.alloc (.cells #[.bool true] 4)
          go_wp2_with (at_builtin; refine wpList_append_own _ rfl _ _ 84 rfl (br) 4 i0 (.bool false) 1 1 Tryd.underlying84 hi0 hz0 hz1 hz2 rfl (by decide) _ _ _ rfl (hown4) ⟨wr.heap.size, 0, none⟩ 1 1 [.bool true] rfl rfl (cell_one_new _ _ _) (by simp [Value.oneCell']) (by unfold maxLen; omega) (by omega) (by simp; omega) ?_; intro v' w3 hown' hgrow _)
          have hbe := ((Below.refl br wr).alloc hbr (.cells #[.bool true] 4)).grown hgrow (by simp; omega) (fun q hq => (hown4.lt q hq).1)
          exact ⟨⟨k + 1, C, br, M, row ++ [true], rv, vs, by omega, by go_num, HR, HW, by omega, by simp; omega, hI.onward hbe (by simpa using hown')⟩, by simp [intOf]; omega⟩
      · have h48 : s[k] ≠ 48 := fun e => hbit (.inl e)
        have h49 : s[k] ≠ 49 := fun e => hbit (.inr e)
        have hR := HR.out
        rw [if_neg hbit] at hR
        have e48 : ((s[k].toNat : Int) == 48) = false := by
          rw [beq_eq_false_iff_ne]; intro e; exact h48 (UInt8.toNat_inj.1 (by show s[k].toNat = 48; omega))
        have e49 : ((s[k].toNat : Int) == 49) = false := by
          rw [beq_eq_false_iff_ne]; intro e; exact h49 (UInt8.toNat_inj.1 (by show s[k].toNat = 49; omega))
        clear hbit h48 h49
        by_cases h10 : s[k] = 10
        · have ht : (s[k].toNat : Int) = 10 := by rw [h10]; rfl
          clear e48 e49
          by_cases hm : 0 < M.length
          · by_cases hc : row.length = C
            · subst hc
              by_cases h256 : 256 < row.length
              · rw [if_pos (.inr (.inr h256))] at hR
                have HR := Lib.hid hR; clear hR h10
                have x0 := hI.out.cell 0
                have x1 := hI.out.cell 1
                have f0 := hI.out.frozen 0
                have f1 := hI.out.frozen 1
                have y0 := hI.mat.cell 0
                have y1 := hI.mat.cell 1
                have lX := hI.out.lt
                have hbel := hI.below
                have hX := hI.out
                obtain ⟨A5, c5, rfl, _⟩ := row_of_own hI.cur
                obtain ⟨A1, c1, rfl, _⟩ := row_of_own hI.rows
                clear hI
                go_wp2_with fail
                have hE := (hX.set_ 0 (.int .i64 0)).set_ 1 (.slice none 0 0)
                have cX := hE.cell 0
                have cY := hE.cell 1
                exact bodyPost_ret (v := .tuple #[.agg #[.int .i64 0, .slice none 0 0], .bool false]) (by simp [results, Tryd.results30, go_sem, cX, cY]) rfl ⟨(hbel.setCell (by simp) _).setCell (by simp) _, .inl ⟨HR.out, rfl⟩⟩
              · rw [if_neg (by rintro (h | h | h); exact h h10; omega; omega)] at hR
                have HR := Lib.hid hR; clear hR h10
                have x0 := hI.out.cell 0
                have y0 := hI.mat.cell 0
                have y1 := hI.mat.cell 1
                have g0 := hI.mat.frozen 0
                have lX := hI.out.lt
                obtain ⟨A5, c5, rfl, _⟩ := row_of_own hI.cur
                obtain ⟨A1, c1, rfl, _⟩ := row_of_own hI.rows
                go_wp2_with fail
                have hJ := hI.setC (D := row.length) (.inr rfl)
                clear x0 y0 y1 g0 hI
                generalize wr.setCell ⟨w.heap.size + 1, 0, none⟩ (.int .i64 (row.length : Int)) = W1 at *
                have y1 := hJ.mat.cell 1
                have n1 : some (w.heap.size + 1) ≠ (Value.slice A1 M.length c1).ownBlock := own_ne hJ.rows hJ.mat (by decide)
                refine wp_spine (fun W => But (Value.slice A1 M.length c1).ownBlock W1 W) [0, 1, 3] [2, 4, 5, 6, 7, 8] (by kernel_rfl) (by kernel_rfl) ?_
                iterate 3 (refine wpE_op (v := ?_) rfl rfl (fun W hW => ?_) ?_; rotate_left; (have x1 := hW.on y1 n1; go_simp; first | done | with_reducible rfl); simp only [Act.put, List.setIfInBounds_toArray, List.set_cons_zero, List.set_cons_succ])
                refine wpE_nil ⟨fun h => (by cases h), wpSp_op rfl ((But.refl _ _).below (Below.refl _ _).drew) ?_⟩
                go_wp2_with fail
                have own0 := own_below (World.ownsRow_lit (base := W1.heap.size) (e := 4) (size := 1) W1 #[] 0 (Nat.le_refl _) (by decide) rfl) (Below.refl _ _).drew
                have hb2 : Below W1.heap.size W1 (W1.alloc (.cells #[] 4)).drew := ((Below.refl W1.heap.size W1).alloc (Nat.le_refl _) (.cells #[] 4)).drew
                refine nxt_op rfl (.of_below hb2) ?_
                refine app_row rfl _ _ rfl W1.heap.size br (.slice (some ⟨W1.heap.size, 0, none⟩) 0 0) rfl own0 A5 c5 row rfl (own_below hJ.cur hb2) (by simp) (by omega) ?_
                intro vb wb hownb hgrowb
                have hb3 : Below W1.heap.size W1 wb := hb2.grown hgrowb (by simp) (fun q hq => by simp [Value.ownBlock] at hq; omega)
                obtain ⟨B, d, rfl, _⟩ := row_of_own hownb
                have hszw := hJ.below.size
                have hsz3 := hb3.size
                have hMl : M.length ≤ 4096 := by omega
                go_wp2_with fail
                refine nxt_op rfl (.of_below hb3) ?_
                go_wp2_with fail
                have hb4 := hb3.alloc hb3.size (.cells #[.slice B row.length d] 84)
                have hrows4 := own_below hJ.rows hb4
                have hownb4 := hownb.alloc (.cells #[.slice B row.length d] 84)
                refine nxt_op rfl (.of_below hb4) ?_
                clear hi0 hz0 hz1 hz2 i0
                obtain ⟨i0, hi0, hz0, hz1, hz2⟩ := info_parts info_bools
                go_wp2_with (at_builtin; refine wpList_append_own _ rfl _ _ 26 rfl (w.heap.size) 84 i0 (.slice none 0 0) 1 24 Tryd.underlying26 hi0 hz0 hz1 hz2 rfl (by decide) _ _ _ rfl (hrows4) ⟨wb.heap.size, 0, none⟩ 1 1 [.slice B row.length d] rfl rfl (cell_one_new _ _ _) (by simp [Value.oneCell']) (by unfold maxLen; omega) (by omega) (by simp; omega) ?_; intro v' w3 hown' hgrow _)
                obtain ⟨g5, cap5, rfl⟩ := ownsRow_succ hown'
                have hbut := (But.of_below hb4).trans (But.grown hgrow)
                have hmat5 := (hJ.mat.below hb4 hJ.mat.lt).grown hgrow n1
                have z1 := hmat5.cell 1
                have z2 := hmat5.frozen 1
                refine nxt_op rfl hbut ?_
                go_wp2_with fail
                refine nxt_op rfl hbut ?_
                go_wp2_with fail
                refine nxt_nil ?_
                go_wp2_with fail
                exact ⟨⟨k + 1, row.length, _, M ++ [row], [], _, _, by omega, by go_num, HR, Lib.hid (HW.out.push (by omega) (by omega)), by simp; omega, by simp, hJ.push hb4 hgrow rfl hownb4 hown' rfl rfl⟩, by simp [intOf]; omega⟩
            · have ec : ((row.length : Int) == (C : Int)) = false := by simp; omega
              rw [if_pos (.inr (.inl ⟨hm, hc⟩))] at hR
              have HR := Lib.hid hR; clear hR h10
              have x0 := hI.out.cell 0
              have x1 := hI.out.cell 1
              have f0 := hI.out.frozen 0
              have f1 := hI.out.frozen 1
              have y0 := hI.mat.cell 0
              have y1 := hI.mat.cell 1
              have lX := hI.out.lt
              have hbel := hI.below
              have hX := hI.out
              obtain ⟨A5, c5, rfl, _⟩ := row_of_own hI.cur
              obtain ⟨A1, c1, rfl, _⟩ := row_of_own hI.rows
              clear hI
              go_wp2_with fail
              have hE := (hX.set_ 0 (.int .i64 0)).set_ 1 (.slice none 0 0)
              have cX := hE.cell 0
              have cY := hE.cell 1
              exact bodyPost_ret (v := .tuple #[.agg #[.int .i64 0, .slice none 0 0], .bool false]) (by simp [results, Tryd.results30, go_sem, cX, cY]) rfl ⟨(hbel.setCell (by simp) _).setCell (by simp) _, .inl ⟨HR.out, rfl⟩⟩
          · by_cases h256 : 256 < row.length
            · rw [if_pos (.inr (.inr h256))] at hR
              have HR := Lib.hid hR; clear hR h10
              have x0 := hI.out.cell 0
              have x1 := hI.out.cell 1
              have f0 := hI.out.frozen 0
              have f1 := hI.out.frozen 1
              have y0 := hI.mat.cell 0
              have y1 := hI.mat.cell 1
              have lX := hI.out.lt
              have hbel := hI.below
              have hX := hI.out
              obtain ⟨A5, c5, rfl, _⟩ := row_of_own hI.cur
              obtain ⟨A1, c1, rfl, _⟩ := row_of_own hI.rows
              clear hI
              go_wp2_with fail
              have hE := (hX.set_ 0 (.int .i64 0)).set_ 1 (.slice none 0 0)
              have cX := hE.cell 0
              have cY := hE.cell 1
              exact bodyPost_ret (v := .tuple #[.agg #[.int .i64 0, .slice none 0 0], .bool false]) (by simp [results, Tryd.results30, go_sem, cX, cY]) rfl ⟨(hbel.setCell (by simp) _).setCell (by simp) _, .inl ⟨HR.out, rfl⟩⟩
            · rw [if_neg (by rintro (h | h | h); exact h h10; omega; omega)] at hR
              have HR := Lib.hid hR; clear hR h10
              have x0 := hI.out.cell 0
              have y0 := hI.mat.cell 0
              have y1 := hI.mat.cell 1
              have g0 := hI.mat.frozen 0
              have lX := hI.out.lt
              obtain ⟨A5, c5, rfl, _⟩ := row_of_own hI.cur
              obtain ⟨A1, c1, rfl, _⟩ := row_of_own hI.rows
              go_wp2_with fail
              have hJ := hI.setC (D := row.length) (.inl (List.eq_nil_of_length_eq_zero (by omega)))
              clear x0 y0 y1 g0 hI
              generalize wr.setCell ⟨w.heap.size + 1, 0, none⟩ (.int .i64 (row.length : Int)) = W1 at *
              have y1 := hJ.mat.cell 1
              have n1 : some (w.heap.size + 1) ≠ (Value.slice A1 M.length c1).ownBlock := own_ne hJ.rows hJ.mat (by decide)
              refine wp_spine (fun W => But (Value.slice A1 M.length c1).ownBlock W1 W) [0, 1, 3] [2, 4, 5, 6, 7, 8] (by kernel_rfl) (by kernel_rfl) ?_
              iterate 3 (refine wpE_op (v := ?_) rfl rfl (fun W hW => ?_) ?_; rotate_left; (have x1 := hW.on y1 n1; go_simp; first | done | with_reducible rfl); simp only [Act.put, List.setIfInBounds_toArray, List.set_cons_zero, List.set_cons_succ])
              refine wpE_nil ⟨fun h => (by cases h), wpSp_op rfl ((But.refl _ _).below (Below.refl _ _).drew) ?_⟩
              go_wp2_with fail
              have own0 := own_below (World.ownsRow_lit (base := W1.heap.size) (e := 4) (size := 1) W1 #[] 0 (Nat.le_refl _) (by decide) rfl) (Below.refl _ _).drew
              have hb2 : Below W1.heap.size W1 (W1.alloc (.cells #[] 4)).drew := ((Below.refl W1.heap.size W1).alloc (Nat.le_refl _) (.cells #[] 4)).drew
              refine nxt_op rfl (.of_below hb2) ?_
              refine app_row rfl _ _ rfl W1.heap.size br (.slice (some ⟨W1.heap.size, 0, none⟩) 0 0) rfl own0 A5 c5 row rfl (own_below hJ.cur hb2) (by simp) (by omega) ?_
              intro vb wb hownb hgrowb
              have hb3 : Below W1.heap.size W1 wb := hb2.grown hgrowb (by simp) (fun q hq => by simp [Value.ownBlock] at hq; omega)
              obtain ⟨B, d, rfl, _⟩ := row_of_own hownb
              have hszw := hJ.below.size
              have hsz3 := hb3.size
              have hMl : M.length ≤ 4096 := by omega
              go_wp2_with fail
              refine nxt_op rfl (.of_below hb3) ?_
              go_wp2_with fail
              have hb4 := hb3.alloc hb3.size (.cells #[.slice B row.length d] 84)
              have hrows4 := own_below hJ.rows hb4
              have hownb4 := hownb.alloc (.cells #[.slice B row.length d] 84)
              refine nxt_op rfl (.of_below hb4) ?_
              clear hi0 hz0 hz1 hz2 i0
              obtain ⟨i0, hi0, hz0, hz1, hz2⟩ := info_parts info_bools
              go_wp2_with (at_builtin; refine wpList_append_own _ rfl _ _ 26 rfl (w.heap.size) 84 i0 (.slice none 0 0) 1 24 Tryd.underlying26 hi0 hz0 hz1 hz2 rfl (by decide) _ _ _ rfl (hrows4) ⟨wb.heap.size, 0, none⟩ 1 1 [.slice B row.length d] rfl rfl (cell_one_new _ _ _) (by simp [Value.oneCell']) (by unfold maxLen; omega) (by omega) (by simp; omega) ?_; intro v' w3 hown' hgrow _)
              obtain ⟨g5, cap5, rfl⟩ := ownsRow_succ hown'
              have hbut := (But.of_below hb4).trans (But.grown hgrow)
              have hmat5 := (hJ.mat.below hb4 hJ.mat.lt).grown hgrow n1
              have z1 := hmat5.cell 1
              have z2 := hmat5.frozen 1
              refine nxt_op rfl hbut ?_
              go_wp2_with fail
              refine nxt_op rfl hbut ?_
              go_wp2_with fail
              refine nxt_nil ?_
              go_wp2_with fail
              exact ⟨⟨k + 1, row.length, _, M ++ [row], [], _, _, by omega, by go_num, HR, Lib.hid (HW.out.push (by omega) (by omega)), by simp; omega, by simp, hJ.push hb4 hgrow rfl hownb4 hown' rfl rfl⟩, by simp [intOf]; omega⟩
        · have e10 : ¬ (s[k].toNat : Int) = 10 := by
            intro e; exact h10 (UInt8.toNat_inj.1 (by show s[k].toNat = 10; omega))
          rw [if_pos (.inl h10)] at hR
          have HR := Lib.hid hR; clear hR h10
          have x0 := hI.out.cell 0
          have x1 := hI.out.cell 1
          have f0 := hI.out.frozen 0
          have f1 := hI.out.frozen 1
          have y0 := hI.mat.cell 0
          have y1 := hI.mat.cell 1
          have lX := hI.out.lt
          have hbel := hI.below
          have hX := hI.out
          obtain ⟨A5, c5, rfl, _⟩ := row_of_own hI.cur
          obtain ⟨A1, c1, rfl, _⟩ := row_of_own hI.rows
          clear hI
          go_wp2_with fail
          have hE := (hX.set_ 0 (.int .i64 0)).set_ 1 (.slice none 0 0)
          have cX := hE.cell 0
          have cY := hE.cell 1
          exact bodyPost_ret (v := .tuple #[.agg #[.int .i64 0, .slice none 0 0], .bool false]) (by simp [results, Tryd.results30, go_sem, cX, cY]) rfl ⟨(hbel.setCell (by simp) _).setCell (by simp) _, .inl ⟨HR.out, rfl⟩⟩
    · obtain rfl : k = s.size := by omega
      have hR := HR.out
      rw [List.drop_of_length_le (by rw [HL.out]; omega), runP] at hR
      have HR := Lib.hid hR; clear hR
      have x0 := hI.out.cell 0
      have x1 := hI.out.cell 1
      have f0 := hI.out.frozen 0
      have f1 := hI.out.frozen 1
      have y0 := hI.mat.cell 0
      have y1 := hI.mat.cell 1
      have lX := hI.out.lt
      have lY := hI.mat.lt
      have hA := hI.at_
      have hbel := hI.below
      have hX := hI.out
      obtain ⟨A5, c5, rfl, _⟩ := row_of_own hI.cur
      have hrows := hI.rows
      have hne := own_ne hrows hX (by decide)
      obtain ⟨A1, c1, rfl, _, _, hrw, _⟩ := row_of_own hrows
      clear hI
      by_cases h1 : 0 < row.length
      · have hR := HR.out
        rw [if_pos (.inl h1)] at hR
        have HR := Lib.hid hR; clear hR
        go_wp2_with fail
        have hE := (hX.set_ 0 (.int .i64 0)).set_ 1 (.slice none 0 0)
        have cX := hE.cell 0
        have cY := hE.cell 1
        refine bodyPost_ret (v := .tuple #[.agg #[.int .i64 0, .slice none 0 0], .bool false]) (by simp [results, Tryd.results30, go_sem, cX, cY]) rfl ⟨(hbel.setCell (by simp) _).setCell (by simp) _, .inl ⟨HR.out, rfl⟩⟩
      · by_cases h2 : 256 < M.length
        · have hR := HR.out
          rw [if_pos (.inr h2)] at hR
          have HR := Lib.hid hR; clear hR
          go_wp2_with fail
          have hE := (hX.set_ 0 (.int .i64 0)).set_ 1 (.slice none 0 0)
          have cX := hE.cell 0
          have cY := hE.cell 1
          refine bodyPost_ret (v := .tuple #[.agg #[.int .i64 0, .slice none 0 0], .bool false]) (by simp [results, Tryd.results30, go_sem, cX, cY]) rfl ⟨(hbel.setCell (by simp) _).setCell (by simp) _, .inl ⟨HR.out, rfl⟩⟩
        · have hR := HR.out
          rw [if_neg (by omega)] at hR
          have HR := Lib.hid hR; clear hR
          go_wp2_with fail
          have hE := (hX.set_ 0 (.int .i64 (C : Int))).set_ 1 (.slice A1 M.length c1)
          have cX := hE.cell 0
          have cY := hE.cell 1
          have hwf := HW.out
          have hcc := hwf.cols
          refine bodyPost_ret (v := .tuple #[refV C A1 M.length c1, .bool true]) (by simp [results, Tryd.results30, go_sem, cX, cY]) rfl ⟨(hbel.setCell (by simp) _).setCell (by simp) _, .inr ⟨C, M, A1, c1, HR.out, rfl, ?_⟩⟩
          have hr1 := ownsRow_setCell_other hrows (a := ⟨w.heap.size, 0, none⟩) (fun e => hne e.symm) (.int .i64 (C : Int))
          have hr2 := ownsRow_setCell_other hr1 (a := ⟨w.heap.size, 1, none⟩) (fun e => hne e.symm) (.slice A1 M.length c1)
          obtain ⟨_, _, e, _, _, hrw2, _⟩ := row_of_own hr2
          cases e
          exact ((hA.setCell (p := ⟨w.heap.size, 0, none⟩) (by simp) _).setCell (p := ⟨w.heap.size, 1, none⟩) (by simp) _).ref hwf.wide (by omega) (by omega) hrw2
end Go.Proofs.YtjlcnbfkblmoeaaDoor
