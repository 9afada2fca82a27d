/-
  The reference's best.
-/
import Derived.Test.YtlehoomnddcblaaDoorRb1
import Derived.Laws.AppendOwnNone
namespace Go.Proofs.YtlehoomnddcblaaDoor
open Go.RowKit

/-- append(x, y...): the first row is the call's own, the second one is read. -/
theorem wpList_append_rn {P : Program} {w : World} {ops : Array Oper} {rest : List Oper} {o : Oper} {a : Act} {Q : Exit → Act → World → Prop} (hgd : o.guard = none) (s x : Operand) (t : TypeId)
    (ho : o.op = .call { callee := .builtin .append, args := #[s, x], argTypes := #[t, t] })
    (base : Nat) (e : TypeId) (i : TypeInfo) (z : Value) (size bytes : Nat) (ht : P.underlying t = some (.slice e)) (hi : P.info? e = some i) (hz : i.zero = some z)
    (hsize : i.size = size) (hby : i.bytes = bytes) (hzs : z.cells.size = size) (hsz : 0 < size)
    (v : Value) (n : Nat) (xs : List Value) (hs : a.eval s = v) (hown : w.ownsRow base e size v n xs)
    (A : Option Addr) (m c : Nat) (news : List Value) (hx : a.eval x = .slice A m c) (hr : RowN w A m c news) (hlen : news.length = m * size) (h1 : ∀ u ∈ news, u.oneCell' = true)
    (h63 : n + m ≤ maxLen) (hbytes : (n + m) * bytes ≤ 140737488355328) (hbase : base ≤ w.heap.size)
    (h : ∀ v' w', w'.ownsRow base e size v' (n + m) (xs ++ news) → w.grownBy w' v.ownBlock → wpList P ops Q rest (a.put o.dst v') w') : wpList P ops Q (o :: rest) a w := by
  cases A with
  | none =>
    obtain ⟨rfl, rfl⟩ := hr.2.2 rfl
    have hn : news = [] := List.eq_nil_of_length_eq_zero (by simpa using hlen)
    subst hn
    refine wpList_append_own_none hgd s x t ho base e i size ht hi v n xs hs hown hx ?_
    exact h v w (by simpa using hown) (World.grownBy.refl w _)
  | some ad =>
    refine wpList_append_own w hgd s x t ho base e i z size bytes ht hi hz hsize hby hzs hsz v n xs hs hown ad m c news hx hlen (fun j u hu => ?_) h1 h63 hbytes hbase fun v' w' h2 h3 _ => h v' w' h2 h3
    obtain ⟨g, off, e, hg, hc⟩ := hr.1 (by have := (List.getElem?_eq_some_iff.1 hu).1; omega)
    cases e
    rw [addr_add]
    exact hc j u hu
namespace Mix2
set_option maxRecDepth 100000 in
set_option maxHeartbeats 8000000 in
theorem bestr_any (C : Nat) (A : Option Addr) (c : Nat) (M : List (List Bool)) :
    ∀ (n : Nat) (ones begin : List (Int × Int)) (vo vb : Value) (w : World), ones.length ≤ n → begin.length + ones.length ≤ 1000 → IsRef w C A M → IsPairs w vo ones → PN w vb begin →
      Calls Tryd.prog 66 #[refV C A M.length c, vo, vb] w fun e w' => ∃ v, e = .returned v ∧ PN w' v (bestR (fun l c => foolR C M (l ++ [c])) ones begin begin) ∧ Below w.heap.size w w' := by
  intro n
  induction n using Nat.strongRecOn with
  | _ n ih =>
    intro ones begin vo vb w hn hlr hI hr hl
    obtain ⟨i0, hi0, hz0, hz1, hz2⟩ := info_parts info_pair
    obtain ⟨Ab, cb, rfl, hbr0, hbl0⟩ := id hl
    obtain ⟨Ao, co, rfl, hor0, hoc, hol⟩ := id hr
    have HIH := Lib.hid ih
    have HBR := Lib.hid hbr0
    clear ih hor0 hbr0
    obtain ⟨B0, hB0⟩ : ∃ B0, B0 = bestR (fun l c => foolR C M (l ++ [c])) ones begin begin := ⟨_, rfl⟩
    rw [← hB0]
    have HB0 := Lib.hid hB0
    clear hB0
    go_enter Tryd.func66, Tryd.ntmps66
    go_upto_region 2 with fail
    refine abs1 fun w1 hX hb hz => ?_
    clear hz
    have b1 := hb
    have hl1 := hl.below hb
    have hr1 := hr.below hb
    obtain ⟨X, hXe⟩ : ∃ X, X = w.heap.size := ⟨_, rfl⟩
    rw [← hXe] at hX ⊢
    clear hXe hb hl hr
    go_wp2_with fail
    refine wp_loopF (β := Nat × Value × List (Int × Int)) (fun x f => #[refV C A M.length c, .slice Ao ones.length co, .slice Ab begin.length cb, ptr X, f 4, f 5, .slice none 0 0, x.2.1, f 8, f 9, f 10, f 11, f 12, .slice Ao ones.length co, .int .i64 (ones.length : Int), .int .i64 (x.1 : Int), f 16, f 17, f 18, f 19, f 20, f 21, f 22, f 23, f 24, f 25, f 26, f 27, f 28, f 29, f 30, f 31, f 32, f 33, f 34, f 35, f 36, f 37, f 38, f 39, f 40, f 41, f 42, f 43, f 44])
      (fun x ds W => x.1 ≤ ones.length ∧ ds = [] ∧ Below w1.heap.size w1 W ∧ PN W x.2.1 x.2.2 ∧ B0 = bestR (fun l c => foolR C M (l ++ [c])) (ones.drop x.1) begin x.2.2) (fun x => ones.length - x.1) (0, .slice Ab begin.length cb, begin) rfl
      ⟨Nat.zero_le _, rfl, Below.refl _ _, hl1, by rw [List.drop_zero]; exact HB0.out⟩ ?_
    rintro ⟨i, v7, out⟩ f ds W ⟨hi, rfl, hbW, hout, heq⟩
    dsimp only at hi hout heq ⊢
    obtain ⟨A7, c7, rfl, -⟩ := id hout
    have bW := b1.trans (hbW.mono b1.size)
    by_cases hlt : i < ones.length
    · obtain ⟨x, hx⟩ : ∃ x, ones[i]? = some x := ⟨_, List.getElem?_eq_getElem hlt⟩
      obtain ⟨_, _, e, hrow, -, -⟩ := id (hr1.below hbW)
      cases e
      obtain ⟨gr, or, rfl, hgr, d0, d1⟩ := row_pairs hrow hx
      have hdr : ones.drop i = x :: ones.drop (i + 1) := by
        obtain ⟨h, e⟩ := List.getElem?_eq_some_iff.1 hx
        rw [← e]; exact List.drop_eq_getElem_cons h
      rw [hdr, bestR] at heq
      have HEQ := Lib.hid heq
      clear heq hdr hrow hx
      go_upto_region 5 with fail
      refine abs1 fun W2 h9 hb hz => ?_
      clear hz
      obtain ⟨g9, hg9⟩ : ∃ g, g = W.heap.size := ⟨_, rfl⟩
      have l9 : W.heap.size ≤ g9 := by omega
      rw [← hg9] at h9 ⊢
      have b2 := hbW.trans (hb.mono hbW.size)
      have hout2 := hout.below hb
      have p0 := h9.cell 0
      have p1 := h9.cell 1
      clear hg9 d0 d1 hout
      have HRN : ∀ V, Below w1.heap.size w1 V → RowN V Ab begin.length cb (cellsP begin) := fun V hV => (HBR.out.below b1).below hV
      have HRN' := Lib.hid HRN
      clear HRN
      refine wp_mix (fun V => Below W2.heap.size W2 V) 7 (by kernel_rfl) (by kernel_rfl) (Below.refl _ _).drew ?_
      have hr0 : Below W2.heap.size W2 W2.drew := (Below.refl _ _).drew
      obtain ⟨wz, hwz⟩ : ∃ V, V = W2.drew := ⟨_, rfl⟩
      rw [← hwz] at hr0 ⊢
      clear hwz
      have hr := Below.refl wz.heap.size wz
      have b3 := b2.trans (hr0.mono b2.size)
      obtain ⟨sz, hsz⟩ : ∃ n, n = wz.heap.size := ⟨_, rfl⟩
      have hszW : W2.heap.size ≤ sz := by rw [hsz]; exact hr0.size
      have hszw : w1.heap.size ≤ sz := by rw [hsz]; exact b3.size
      rw [← hsz] at hr
      have hS : ∀ V, Below sz wz V → Below W2.heap.size W2 V := fun V hV => hr0.trans (hV.mono hszW)
      have hBV : ∀ V, Below sz wz V → Below w1.heap.size w1 V := fun V hV => b3.trans (hV.mono hszw)
      have hzs : sz ≤ wz.heap.size := by omega
      clear hsz
      (refine m_q 1 (v := ?_) (by kernel_rfl) rfl rfl (fun W hW => ?_) ?_; rotate_left; (go_simp; first | done | with_reducible rfl); simp only [Act.put, List.setIfInBounds_toArray, List.set_cons_zero, List.set_cons_succ]); (refine m_q 3 (v := ?_) (by kernel_rfl) rfl rfl (fun W hW => ?_) ?_; rotate_left; (have z0 := onB hW p0; have z1 := onB hW p1; go_simp; first | done | with_reducible rfl); simp only [Act.put, List.setIfInBounds_toArray, List.set_cons_zero, List.set_cons_succ])
      refine m_join (β := Value × Nat) #[true, true, true, true, true, false, false] 2
        (fun y f => #[refV C A M.length c, .slice (some ⟨gr, or, none⟩) ones.length co, .slice Ab begin.length cb, ptr X, f 4, f 5, .slice none 0 0, .slice A7 out.length c7, .int .i64 (i : Int), ptr g9, f 10, f 11, f 12, .slice (some ⟨gr, or, none⟩) ones.length co, .int .i64 (ones.length : Int), .int .i64 (i : Int), f 16, f 17, f 18, f 19, f 20, f 21, y.1, f 23, .slice (some ⟨y.2, 0, none⟩) 1 1, f 25, f 26, f 27, f 28, f 29, f 30, f 31, f 32, f 33, f 34, f 35, f 36, f 37, f 38, f 39, f 40, f 41, f 42, f 43, f 44])
        (fun y ds V => ds = [] ∧ Below sz wz V ∧ OwnP V sz y.1 begin ∧ Blk V y.2 40 #[.int .i64 x.1, .int .i64 x.2]) ?lf ?tr
      case tr =>
        intro HL
        refine m_s2 0 4 (by kernel_rfl) rfl rfl ?_ ?_
        · go_wp2_with fail
          have szz := Nat.le_trans hzs hr.size
          refine absN fun V0 h0 hb hz => ?_
          clear hz
          replace hr := hr.trans (hb.mono szz)
          have own0 : V0.ownsRow sz 40 2 (.slice (some ⟨wz.heap.size, 0, none⟩) 0 0) 0 [] := own_blk0 (size := 2) h0 szz
          clear hb
          refine m_keep (hS _ hr) ?_
          refine m_s2 2 4 (by kernel_rfl) rfl rfl ?_ ?_
          · have HRV := hideC (HRN'.out _ (hBV _ hr))
            have szz := Nat.le_trans hzs hr.size
            go_wp2_with (at_builtin; refine wpList_append_rn rfl _ _ 37 rfl sz 40 i0 (.agg #[.int .i64 0, .int .i64 0]) 2 16 Tryd.underlying37 hi0 hz0 hz1 hz2 rfl (by decide) _ _ _ rfl own0 Ab begin.length cb (cellsP begin) rfl HRV.out (by rw [cellsP_len]; omega) (cellsP_one begin) (by unfold maxLen; omega) (by omega) (by omega) ?_; intro v2 V2 own2 hgrow)
            replace hr := hr.grown hgrow szz (fun p hp => (own0.lt p hp).1)
            replace own2 : OwnP V2 sz v2 begin := OwnP.mk_ (n := begin.length) (by simpa using own2) rfl
            refine m_keep (hS _ hr) ?_
            refine m_s1 4 (by kernel_rfl) rfl ?_
            go_wp2_with fail
            have szz := Nat.le_trans hzs hr.size
            refine absN fun V4 hL hb hz => ?_
            clear hz
            replace hr := hr.trans (hb.mono szz)
            obtain ⟨gL, hgL⟩ : ∃ g, g = V2.heap.size := ⟨_, rfl⟩
            rw [← hgL] at hL ⊢
            replace own2 := own2.below hb
            clear hb hgL
            refine m_keep (hS _ hr) ?_
            exact HL (v2, gL) _ _ _ (by kernel_rfl) rfl ⟨by first | rfl | trivial, hr, own2, hL⟩
          · go_wp2_with fail
            have szz := Nat.le_trans hzs hr.size
            refine absN fun V4 hL hb hz => ?_
            clear hz
            replace hr := hr.trans (hb.mono szz)
            obtain ⟨gL, hgL⟩ : ∃ g, g = V0.heap.size := ⟨_, rfl⟩
            rw [← hgL] at hL ⊢
            replace own0 := own_below own0 hb
            clear hb
            have own0b := own0
            refine m_keep (hS _ hr) ?_
            have hne0 : some gL ≠ Value.ownBlock (.slice (some ⟨wz.heap.size, 0, none⟩) 0 0) := by
              intro e
              have e2 : gL = wz.heap.size := by simpa [Value.ownBlock] using e
              have := h0.lt
              omega
            clear hgL
            refine m_s1 2 (by kernel_rfl) rfl ?_
            have HRV := hideC (HRN'.out _ (hBV _ hr))
            have szz := Nat.le_trans hzs hr.size
            go_wp2_with (at_builtin; refine wpList_append_rn rfl _ _ 37 rfl sz 40 i0 (.agg #[.int .i64 0, .int .i64 0]) 2 16 Tryd.underlying37 hi0 hz0 hz1 hz2 rfl (by decide) _ _ _ rfl own0 Ab begin.length cb (cellsP begin) rfl HRV.out (by rw [cellsP_len]; omega) (cellsP_one begin) (by unfold maxLen; omega) (by omega) (by omega) ?_; intro v2 V2 own2 hgrow)
            replace hL := hL.grown hgrow hne0
            replace hr := hr.grown hgrow szz (fun p hp => (own0.lt p hp).1)
            replace own2 : OwnP V2 sz v2 begin := OwnP.mk_ (n := begin.length) (by simpa using own2) rfl
            refine m_keep (hS _ hr) ?_
            exact HL (v2, gL) _ _ _ (by kernel_rfl) rfl ⟨by first | rfl | trivial, hr, own2, hL⟩
        · go_wp2_with fail
          have szz := Nat.le_trans hzs hr.size
          refine absN fun V4 hL hb hz => ?_
          clear hz
          replace hr := hr.trans (hb.mono szz)
          obtain ⟨gL, hgL⟩ : ∃ g, g = wz.heap.size := ⟨_, rfl⟩
          rw [← hgL] at hL ⊢
          clear hb hgL
          refine m_keep (hS _ hr) ?_
          have lL := hL.lt
          refine m_s1 0 (by kernel_rfl) rfl ?_
          go_wp2_with fail
          have szz := Nat.le_trans hzs hr.size
          refine absN fun V0 h0 hb hz => ?_
          clear hz
          replace hr := hr.trans (hb.mono szz)
          have own0 : V0.ownsRow sz 40 2 (.slice (some ⟨V4.heap.size, 0, none⟩) 0 0) 0 [] := own_blk0 (size := 2) h0 szz
          replace hL := hL.below hb hL.lt
          clear hb
          refine m_keep (hS _ hr) ?_
          have hne0 : some gL ≠ Value.ownBlock (.slice (some ⟨V4.heap.size, 0, none⟩) 0 0) := by
            intro e
            have e2 : gL = V4.heap.size := by simpa [Value.ownBlock] using e
            omega
          refine m_s1 2 (by kernel_rfl) rfl ?_
          have HRV := hideC (HRN'.out _ (hBV _ hr))
          have szz := Nat.le_trans hzs hr.size
          go_wp2_with (at_builtin; refine wpList_append_rn rfl _ _ 37 rfl sz 40 i0 (.agg #[.int .i64 0, .int .i64 0]) 2 16 Tryd.underlying37 hi0 hz0 hz1 hz2 rfl (by decide) _ _ _ rfl own0 Ab begin.length cb (cellsP begin) rfl HRV.out (by rw [cellsP_len]; omega) (cellsP_one begin) (by unfold maxLen; omega) (by omega) (by omega) ?_; intro v2 V2 own2 hgrow)
          replace hL := hL.grown hgrow hne0
          replace hr := hr.grown hgrow szz (fun p hp => (own0.lt p hp).1)
          replace own2 : OwnP V2 sz v2 begin := OwnP.mk_ (n := begin.length) (by simpa using own2) rfl
          refine m_keep (hS _ hr) ?_
          exact HL (v2, gL) _ _ _ (by kernel_rfl) rfl ⟨by first | rfl | trivial, hr, own2, hL⟩
      case lf =>
        clear hr
        rintro ⟨v2, gL⟩ f ds V ⟨rfl, hr, own2, hL⟩
        dsimp only at own2 hL ⊢
        have szz := Nat.le_trans hzs hr.size
        refine m_s1 5 (by kernel_rfl) rfl ?_
        go_wp2_with (at_builtin; refine wpList_append_own _ rfl _ _ 37 rfl sz 40 i0 (.agg #[.int .i64 0, .int .i64 0]) 2 16 Tryd.underlying37 hi0 hz0 hz1 hz2 rfl (by decide) _ _ _ rfl own2 ⟨gL, 0, none⟩ 1 1 [.int .i64 x.1, .int .i64 x.2] rfl rfl (World.news_of_block hL) (by simp [Value.oneCell']) (by unfold maxLen; omega) (by omega) (by first | omega | (simp; done) | (simp; omega)) ?_; intro v5 W5 own5 hgrow _)
        replace hr := hr.grown hgrow szz (fun p hp => (own2.lt p hp).1)
        replace own5 : OwnP W5 sz v5 (begin ++ [x]) := OwnP.mk_ (by simpa using own5) (cellsP_snoc begin x).symm
        refine m_keep (hS _ hr) ?_
        (refine m_q 6 (v := ?_) (by kernel_rfl) rfl rfl (fun W hW => ?_) ?_; rotate_left; (go_simp; first | done | with_reducible rfl); simp only [Act.put, List.setIfInBounds_toArray, List.set_cons_zero, List.set_cons_succ])
        refine m_end (by kernel_rfl) ?_
        clear hgrow own2 hL
        obtain ⟨l2, hl2⟩ : ∃ y, y = begin ++ [x] := ⟨_, rfl⟩
        have hl2l : l2.length = begin.length + 1 := by rw [hl2, List.length_append]; rfl
        have hl2b : l2.length ≤ 1000 := by omega
        have HDB := Lib.hid (show l2.length + (ones.length - (i + 1)) ≤ 1000 by omega)
        obtain ⟨D, hD⟩ : ∃ D, D = ones.drop (i + 1) := ⟨_, rfl⟩
        have hDl : D.length = ones.length - (i + 1) := by rw [hD, List.length_drop]
        have heq := HEQ.out
        rw [← hl2, ← hD] at heq
        rw [← hl2] at own5
        have b5 := hBV _ hr
        have hp5 := own5.pn (by omega)
        obtain ⟨A5, c5, rfl, -⟩ := id hp5
        have bW5 := b1.trans (b5.mono b1.size)
        have hout5 := hout2.below (hS _ hr)
        have hX5 := hX.below b5 hX.lt
        have x0 := hX5.cell 0
        have x1 := hX5.cell 1
        have HF := hideC (foolr_any C A c M (.slice A5 l2.length c5) l2 W5 (hI.below bW5) hp5.pairs)
        obtain ⟨bf, hbf⟩ : ∃ b, b = foolR C M l2 := ⟨_, rfl⟩
        rw [← hbf] at HF heq
        have HEQ2 := Lib.hid heq
        have HD := Lib.hid hD
        have HDL := Lib.hid hDl
        have hdd := hr1.below b5
        clear hr hS hBV hzs szz hszW hszw hr0 b3 b2 hout2 own5 heq hD hDl hbf HEQ hl2 hl2l p0 p1 h9 l9 HRN'
        go_wp2_with fail
        refine HF.out.mono ?_
        rintro e W6 ⟨rfl, hb⟩
        have b6 := b5.trans (hb.mono b5.size)
        have bW6 := b1.trans (b6.mono b1.size)
        have hX6 := hX5.below hb hX5.lt
        have hout6 := hout5.below hb
        have hp6 := hp5.below hb
        have hd6 := hdd.below hb
        have x0 := hX6.cell 0
        have x1 := hX6.cell 1
        clear hb hX5 hout5 hp5 hdd HF b5 bW5
        cases bf with
        | false =>
          have heq := HEQ2.out
          rw [if_neg (by simp)] at heq
          have HE := Lib.hid heq
          clear heq
          go_wp2_with fail
          exact ⟨(i + 1, .slice A7 out.length c7, out), rfl, ⟨by show i + 1 ≤ ones.length; omega, by first | rfl | trivial, b6, hout6, by dsimp only; rw [← HD.out]; exact HE.out⟩, by show ones.length - (i + 1) < ones.length - i; omega⟩
        | true =>
          have heq := HEQ2.out
          rw [if_pos rfl] at heq
          have HE := Lib.hid heq
          clear heq
          obtain ⟨AD, hAD⟩ : ∃ AD : Option Addr, AD = if co = i + 1 then some ⟨gr, or, none⟩ else some ⟨gr, or + (i + 1) * 2, none⟩ := ⟨_, rfl⟩
          have qd := hd6.drop (k := i + 1) (by omega) AD hAD
          rw [← HD.out, ← HDL.out] at qd
          obtain ⟨k1, hk1⟩ : ∃ k, k = i + 1 := ⟨_, rfl⟩
          have ewk : IntKind.i64.wrap ((i : Int) + 1) = (k1 : Int) := by rw [i64w ⟨by omega, by omega⟩]; omega
          have e13 : (k1 : Int) ≤ (ones.length : Int) := by omega
          have e14 : (0 : Int) ≤ (k1 : Int) := by omega
          have e16 : k1 ≤ ones.length := by omega
          have e15 : k1 ≤ co := by omega
          rw [← hk1] at hAD qd
          have HK1 := Lib.hid hk1
          have EWK := Lib.hid ewk
          clear hk1 ewk
          go_wp2_with fail
          refine wp_mix (fun V => Below W6.heap.size W6 V) 8 (by kernel_rfl) (by kernel_rfl) (Below.refl _ _).drew ?_
          have hr : Below W6.heap.size W6 W6.drew := (Below.refl _ _).drew
          obtain ⟨U1, hw⟩ : ∃ V, V = W6.drew := ⟨_, rfl⟩
          rw [← hw] at hr ⊢
          clear hw
          (refine m_q 0 (v := ?_) (by kernel_rfl) rfl rfl (fun W hW => ?_) ?_; rotate_left; (have zx0 := onB hW x0; have zx1 := onB hW x1; go_simp; first | done | with_reducible rfl); simp only [Act.put, List.setIfInBounds_toArray, List.set_cons_zero, List.set_cons_succ]); (refine m_q 1 (v := ?_) (by kernel_rfl) rfl rfl (fun W hW => ?_) ?_; rotate_left; (go_simp; first | done | with_reducible rfl); simp only [Act.put, List.setIfInBounds_toArray, List.set_cons_zero, List.set_cons_succ]); (refine m_q 2 (v := ?_) (by kernel_rfl) rfl rfl (fun W hW => ?_) ?_; rotate_left; (go_simp; first | done | with_reducible rfl); simp only [Act.put, List.setIfInBounds_toArray, List.set_cons_zero, List.set_cons_succ]); (refine m_q 3 (v := ?_) (by kernel_rfl) rfl rfl (fun W hW => ?_) ?_; rotate_left; (go_simp; first | done | with_reducible rfl); simp only [Act.put, List.setIfInBounds_toArray, List.set_cons_zero, List.set_cons_succ])
          rw [EWK.out]
          (refine m_q 4 (v := ?_) (by kernel_rfl) rfl rfl (fun W hW => ?_) ?_; rotate_left; (go_simp; first | done | with_reducible rfl); simp only [Act.put, List.setIfInBounds_toArray, List.set_cons_zero, List.set_cons_succ]); (refine m_q 5 (v := ?_) (by kernel_rfl) rfl rfl (fun W hW => ?_) ?_; rotate_left; (go_simp; first | done | with_reducible rfl); simp only [Act.put, List.setIfInBounds_toArray, List.set_cons_zero, List.set_cons_succ])
          rw [← hAD, show ones.length - k1 = D.length by rw [HDL.out, HK1.out]]
          obtain ⟨cD, hcD⟩ : ∃ y, y = co - k1 := ⟨_, rfl⟩
          rw [← hcD] at qd ⊢
          have hnn : D.length < n := by have := HDL.out; omega
          have hDb : l2.length + D.length ≤ 1000 := by rw [HDL.out]; exact HDB.out
          have HC := hideC (HIH.out D.length hnn D l2 (.slice AD D.length cD) (.slice A5 l2.length c5) U1 (Nat.le_refl _) hDb (hI.below (bW6.trans (hr.mono bW6.size))) (qd.below hr) (hp6.below hr))
          obtain ⟨R, hR⟩ : ∃ R, R = bestR (fun l c => foolR C M (l ++ [c])) D l2 l2 := ⟨_, rfl⟩
          have heq := HE.out
          rw [← hR] at HC heq
          have HE2 := Lib.hid heq
          clear hR heq HE x0 x1 hcD hAD e13 e14 e15 e16
          refine m_s1 6 (by kernel_rfl) rfl ?_
          go_wp2_with fail
          refine HC.out.mono ?_
          rintro e U2 ⟨v11, rfl, hp11, hb⟩
          have hr2 := hr.trans (hb.mono hr.size)
          have b7 := b6.trans (hr2.mono b6.size)
          have hout7 := hout6.below hr2
          obtain ⟨A11, c11, rfl, -⟩ := id hp11
          clear hr hb HC hd6 qd hp6 hX6 hout6 b6 bW6
          go_wp2_with fail
          refine m_keep hr2 ?_
          (refine m_q 7 (v := ?_) (by kernel_rfl) rfl rfl (fun W hW => ?_) ?_; rotate_left; (go_simp; first | done | with_reducible rfl); simp only [Act.put, List.setIfInBounds_toArray, List.set_cons_zero, List.set_cons_succ])
          refine m_end (by kernel_rfl) ?_
          clear hr2
          by_cases hgt : out.length < R.length
          · have HF := Lib.hid (show B0 = bestR (fun l c => foolR C M (l ++ [c])) (ones.drop (i + 1)) begin R by rw [← HD.out, HE2.out]; unfold pickL; rw [if_pos hgt])
            go_wp2_with fail
            exact ⟨(i + 1, .slice A11 R.length c11, R), rfl, ⟨by show i + 1 ≤ ones.length; omega, by first | rfl | trivial, b7, hp11, HF.out⟩, by show ones.length - (i + 1) < ones.length - i; omega⟩
          · have HF := Lib.hid (show B0 = bestR (fun l c => foolR C M (l ++ [c])) (ones.drop (i + 1)) begin out by rw [← HD.out, HE2.out]; unfold pickL; rw [if_neg hgt])
            go_wp2_with fail
            exact ⟨(i + 1, .slice A7 out.length c7, out), rfl, ⟨by show i + 1 ≤ ones.length; omega, by first | rfl | trivial, b7, hout7, HF.out⟩, by show ones.length - (i + 1) < ones.length - i; omega⟩
    · obtain rfl : i = ones.length := by omega
      have he := heq
      rw [List.drop_length] at he
      have HE := Lib.hid (show B0 = out from he)
      clear he heq
      go_wp2_with fail
      go_ret
      exact ⟨_, rfl, by rw [HE.out]; exact hout, bW⟩
set_option maxRecDepth 100000 in
set_option maxHeartbeats 2000000 in
theorem bestref_any (C : Nat) (A : Option Addr) (c : Nat) (M : List (List Bool)) (w : World) (h : IsRef w C A M) (hC : C ≤ 12) (hR : M.length ≤ 60) :
    Calls Tryd.prog 26 #[refV C A M.length c] w fun e w' => ∃ v, e = .returned v ∧ PN w' v (bestR (fun l c => foolR C M (l ++ [c])) (cz (cellsOf (nsOf C M))) [] []) ∧ Below w.heap.size w w' := by
  go_enter Tryd.func26, Tryd.ntmps26
  have hcl := cells_len (rowsIn_nsOf C M (by omega)) hC (by rw [nsTo_len]; exact hR)
  have hK : (cz (cellsOf (nsOf C M))).length ≤ 1000 := by rw [cz_len]; exact hcl
  have HO := fun W (hb : Below w.heap.size w W) => ones_ref C A c M W (h.below hb) hC hR
  have HB := fun W v (hb : Below w.heap.size w W) hv => bestr_any C A c M (cz (cellsOf (nsOf C M))).length (cz (cellsOf (nsOf C M))) [] v (.slice none 0 0) W (Nat.le_refl _) (by rw [List.length_nil]; omega) (h.below hb) hv (PN.nil W)
  obtain ⟨K, hKe⟩ : ∃ K, K = cz (cellsOf (nsOf C M)) := ⟨_, rfl⟩
  rw [← hKe] at hK HO HB ⊢
  clear hKe hcl
  obtain ⟨R, hRe⟩ : ∃ R, R = bestR (fun l c => foolR C M (l ++ [c])) K [] [] := ⟨_, rfl⟩
  rw [← hRe] at HB ⊢
  clear hRe
  have HO2 := Lib.hid HO; have HB2 := Lib.hid HB
  clear HO HB
  go_upto_region 1 with fail
  refine abs1 fun w1 hX hb hz => ?_
  clear hz
  have x0 := hX.cell 0
  have x1 := hX.cell 1
  refine wp_mix (fun V => Below w1.heap.size w1 V) 5 (by kernel_rfl) (by kernel_rfl) (Below.refl _ _).drew ?_
  have hr : Below w1.heap.size w1 w1.drew := (Below.refl _ _).drew
  obtain ⟨U1, hw⟩ : ∃ V, V = w1.drew := ⟨_, rfl⟩
  rw [← hw] at hr ⊢
  clear hw
  have b1 := hb.trans (hr.mono hb.size)
  (refine m_q 0 (v := ?_) (by kernel_rfl) rfl rfl (fun W hW => ?_) ?_; rotate_left; (have zx0 := onB hW x0; have zx1 := onB hW x1; go_simp; first | done | with_reducible rfl); simp only [Act.put, List.setIfInBounds_toArray, List.set_cons_zero, List.set_cons_succ]); (refine m_q 1 (v := ?_) (by kernel_rfl) rfl rfl (fun W hW => ?_) ?_; rotate_left; (have zx0 := onB hW x0; have zx1 := onB hW x1; go_simp; first | done | with_reducible rfl); simp only [Act.put, List.setIfInBounds_toArray, List.set_cons_zero, List.set_cons_succ])
  have HOO := hideC (HO2.out U1 b1)
  refine m_s1 2 (by kernel_rfl) rfl ?_
  go_wp2_with fail
  refine HOO.out.mono ?_
  rintro e U2 ⟨v5, rfl, ho, hb2⟩
  replace b1 := b1.trans (hb2.mono b1.size)
  replace hr := hr.trans (hb2.mono hr.size)
  have hp := ho.pairs (by omega)
  obtain ⟨A5, c5, rfl, -⟩ := id hp
  clear hb2 HOO ho
  go_wp2_with fail
  refine m_keep hr ?_
  have HBB := hideC (HB2.out U2 _ b1 hp)
  clear hp
  refine m_s1 3 (by kernel_rfl) rfl ?_
  go_wp2_with fail
  refine HBB.out.mono ?_
  rintro e U3 ⟨v6, rfl, hp6, hb2⟩
  replace b1 := b1.trans (hb2.mono b1.size)
  replace hr := hr.trans (hb2.mono hr.size)
  obtain ⟨A6, c6, rfl, -⟩ := id hp6
  clear hb2 HBB
  go_wp2_with fail
  refine m_keep hr ?_
  (refine m_q 4 (v := ?_) (by kernel_rfl) rfl rfl (fun W hW => ?_) ?_; rotate_left; (go_simp; first | done | with_reducible rfl); simp only [Act.put, List.setIfInBounds_toArray, List.set_cons_zero, List.set_cons_succ])
  refine m_end (by kernel_rfl) ?_
  go_wp2_with fail
  go_ret
  exact ⟨_, rfl, hp6, b1⟩
end Mix2
end Go.Proofs.YtlehoomnddcblaaDoor
