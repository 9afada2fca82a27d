import Derived.Test.YthkjigggfeejdaaDoorMig
import Derived.LaidEqlPtr
namespace Go.Proofs.YthkjigggfeejdaaDoor
open Go.RowKit

/-- A configuration of the program: users by roles, roles by permissions. -/
structure IsCfg (w : World) (u p C D : Nat) (M P : List (List Bool)) : Prop where
  users : PM w u C M
  perms : PM w p D P
  roles : C = P.length
  ne : u ≠ p
theorem IsCfg.below {w w' : World} {u p C D : Nat} {M P : List (List Bool)} (h : IsCfg w u p C D M P) (hb : Below w.heap.size w w') : IsCfg w' u p C D M P := ⟨h.users.below hb, h.perms.below hb, h.roles, h.ne⟩
theorem PM.lt {w : World} {q C : Nat} {M : List (List Bool)} (h : PM w q C M) : q < w.heap.size := h.1.lt
/-- A matrix stays when a block without slices, that is none of words, is written. -/
theorem IsMat.far {w : World} {q C X : Nat} {Ns : List Nat} {t : TypeId} {cs : Array Value} (h : IsMat w q C Ns) (hX : Blk w X t cs) (hq : q ≠ X) (ht : 135 ≠ t) (hns : ∀ (k : Nat) A n c, cs[k]? ≠ some (.slice A n c)) (i : Nat) (u : Value) : IsMat (w.setCell ⟨X, i, none⟩ u) q C Ns := by
  obtain ⟨h1, h2, A, c, vs, hB, hc, hr, hs⟩ := h
  refine ⟨h1, h2, A, c, vs, hB.far (p := ⟨X, i, none⟩) hq u, hc, fun hp => ?_, hs.keep (KeepW.setCell (p := ⟨X, i, none⟩) hX ht u)⟩
  obtain ⟨g, off, hA, hg, hcell⟩ := hr hp
  have hne : g ≠ X := by
    rintro rfl
    obtain ⟨v0, hv0⟩ : ∃ v, vs[0]? = some v := ⟨vs[0], List.getElem?_eq_getElem hp⟩
    obtain ⟨N0, hN0⟩ : ∃ N, Ns[0]? = some N := ⟨Ns[0]'(by rw [← hs.1]; exact hp), List.getElem?_eq_getElem _⟩
    obtain ⟨A', c', rfl, _⟩ := hs.2 0 v0 N0 hv0 hN0
    have := hcell 0 _ hv0
    rw [hX.cell] at this
    exact hns _ _ _ _ this
  exact ⟨g, off, hA, by simpa [World.setCell] using hg, fun k v hv => (World.cell?_of_block (a := ⟨g, off + k, none⟩) (Below.heap_setCell w ⟨X, i, none⟩ u g hne)).trans (hcell k v hv)⟩
theorem PM.far {w : World} {q C X : Nat} {M : List (List Bool)} {t : TypeId} {cs : Array Value} (h : PM w q C M) (hX : Blk w X t cs) (hq : q ≠ X) (ht : 135 ≠ t) (hns : ∀ (k : Nat) A n c, cs[k]? ≠ some (.slice A n c)) (i : Nat) (u : Value) : PM (w.setCell ⟨X, i, none⟩ u) q C M := ⟨h.1.far hX hq ht hns i u, h.2⟩
theorem PM.ne_ {w : World} {q C X : Nat} {M : List (List Bool)} {t : TypeId} {cs : Array Value} (h : PM w q C M) (hX : Blk w X t cs) (ht : 126 ≠ t) : q ≠ X := by
  obtain ⟨_, _, A, c, vs, hB, _⟩ := h.1
  exact hB.ne_ hX ht
theorem ptrs_ns {a b : Option Addr} : ∀ (k : Nat) A n c, (#[.pointer a, .pointer b] : Array Value)[k]? ≠ some (.slice A n c) := by
  intro k A n c
  rcases k with _ | _ | k <;> simp
/-- A variable that holds a configuration is written. -/
theorem PM.cfg {w : World} {q C X : Nat} {M : List (List Bool)} {a b : Option Addr} (h : PM w q C M) (hX : Blk w X 38 #[.pointer a, .pointer b]) (i : Nat) (u : Value) : PM (w.setCell ⟨X, i, none⟩ u) q C M := h.far hX (h.ne_ hX (by decide)) (by decide) ptrs_ns i u
theorem mcheck_ok (u p C D : Nat) (M P : List (List Bool)) (w : World) (h : IsCfg w u p C D M P) :
    Calls Tryd.prog 17 #[cfgV u p] w fun e w' => e = .returned (.int .i64 0) ∧ Below w.heap.size w w' := by
  have := mcheck_any u p C D M P w h.users h.perms
  rwa [if_pos h.roles] at this
set_option maxRecDepth 100000 in
set_option maxHeartbeats 2000000 in
theorem maccess_any (u p C D : Nat) (M P : List (List Bool)) (w : World) (h : IsCfg w u p C D M P) (hT : Tab w) :
    Calls Tryd.prog 15 #[cfgV u p] w fun e w' => ∃ b, e = pair (ptr b) 0 ∧ PM w' b D (mat M.length D (prodF M P C)) ∧ Below w.heap.size w w' := by
  go_enter Tryd.func15, Tryd.ntmps15
  go_wp2_with fail
  refine absC1 fun W0 hX0 hbel0 hz => ?_
  have HZ := Lib.hid hz; clear hz
  (with_reducible refine (mcheck_ok u p C D M P W0 (h.below hbel0)).mono ?_); rintro e w1 ⟨rfl, hb1⟩
  have b1 := hbel0.trans (hb1.mono hbel0.size)
  have hX1 := hX0.below hb1 hX0.lt
  have x0 := hX1.cell 0
  have x1 := hX1.cell 1
  have h1 := h.below b1
  have HP := hideC (pm_prod u p C D M P w1 h1.users h1.perms h1.roles (hT.below b1))
  clear h1 h
  go_wp2_with fail; (with_reducible refine (HP.out).mono ?_); rintro e w2 ⟨b, rfl, hm, hb2⟩
  go_wp2_with fail
  go_ret2
  exact ⟨b, rfl, hm, b1.trans (hb2.mono b1.size)⟩
set_option maxRecDepth 100000 in
set_option maxHeartbeats 2000000 in
theorem maccess_no (u p C D : Nat) (M P : List (List Bool)) (w : World) (hu : PM w u C M) (hp : PM w p D P) (hne : C ≠ P.length) :
    Calls Tryd.prog 15 #[cfgV u p] w fun e w' => e = pair (.pointer none) 1 ∧ Below w.heap.size w w' := by
  go_enter Tryd.func15, Tryd.ntmps15
  go_wp2_with fail
  refine absC1 fun W0 hX0 hbel0 hz => ?_
  have HZ := Lib.hid hz; clear hz
  have HC := mcheck_any u p C D M P W0 (hu.below hbel0) (hp.below hbel0)
  rw [if_neg hne] at HC
  have HC := hideC HC
  clear hne
  (with_reducible refine (HC.out).mono ?_); rintro e w1 ⟨rfl, hb1⟩
  go_wp2_with fail
  go_ret2
  exact ⟨rfl, hbel0.trans (hb1.mono hbel0.size)⟩
set_option maxRecDepth 100000 in
set_option maxHeartbeats 1000000 in
theorem mof_users (u p k : Nat) (w : World) (hk : k = 1 ∨ k = 2) :
    Calls Tryd.prog 55 #[cfgV u p, .int .u8 k] w fun e w' => e = .returned (ptr u) ∧ Below w.heap.size w w' := by
  rcases hk with rfl | rfl
  · go_enter Tryd.func55, Tryd.ntmps55
    go_wp2_with fail
    go_ret
    exact ⟨rfl, (Below.refl _ _).alloc (Nat.le_refl _) _⟩
  · go_enter Tryd.func55, Tryd.ntmps55
    go_wp2_with fail
    go_ret
    exact ⟨rfl, (Below.refl _ _).alloc (Nat.le_refl _) _⟩
set_option maxRecDepth 100000 in
set_option maxHeartbeats 1000000 in
theorem mof_perms (u p k : Nat) (w : World) (hk : 3 ≤ k) :
    Calls Tryd.prog 55 #[cfgV u p, .int .u8 k] w fun e w' => e = .returned (ptr p) ∧ Below w.heap.size w w' := by
  have h1 : ((k : Int) == 1) = false := by rw [beq_eq_false_iff_ne]; omega
  have h2 : ((k : Int) == 2) = false := by rw [beq_eq_false_iff_ne]; omega
  go_enter Tryd.func55, Tryd.ntmps55
  go_wp2_with fail
  go_ret
  exact ⟨rfl, (Below.refl _ _).alloc (Nat.le_refl _) _⟩

theorem size_mat : (Tryd.prog.info? 126).map (·.size) = some 2 := by kernel_rfl
theorem info_mat : ∃ j, Tryd.prog.info? 126 = some j ∧ j.size ≠ 0 := by
  have h := size_mat
  cases hi : Tryd.prog.info? 126 with
  | none => rw [hi] at h; cases h
  | some j => rw [hi] at h; refine ⟨j, rfl, ?_⟩; simp at h; omega
theorem eql_same (m : Nat) (w : World) : (binOp .eql 33 (ptr m) (ptr m)).run Tryd.prog w = .ok (.bool true) w := by
  obtain ⟨j, hj, _⟩ := info_mat
  exact run_eql_ptr_same w ⟨m, 0, none⟩ Tryd.underlying33 hj
theorem eql_other {m u C D : Nat} {M P : List (List Bool)} {w : World} (hm : PM w m C M) (hu : PM w u D P) (hne : m ≠ u) : (binOp .eql 33 (ptr m) (ptr u)).run Tryd.prog w = .ok (.bool false) w := by
  obtain ⟨j, hj, hs⟩ := info_mat
  obtain ⟨_, _, _, _, _, hB, _⟩ := hm.1
  obtain ⟨_, _, _, _, _, hB', _⟩ := hu.1
  exact run_eql_ptr_other w Tryd.underlying33 hj hs (fun e => hne (by cases e; rfl)) hB hB'

/-! One step, in plain words. -/
/-- The flag that a kind of steps sets. -/
def oneK (k : Nat) : Bool := k == 1 || k == 3
/-- The error of a step. -/
def stepE (C D : Nat) (M P : List (List Bool)) (k : Nat) (x y : Int) : Nat :=
  if k < 1 ∨ 4 < k then 1
  else if insideB (if k ≤ 2 then M else P).length (if k ≤ 2 then C else D) x y = false then 2
  else if mget (if k ≤ 2 then M else P) x.toNat y.toNat = oneK k then 7 else 0
/-- Users by roles behind a step. -/
def stepU (C : Nat) (M : List (List Bool)) (k : Nat) (x y : Int) : List (List Bool) := if k ≤ 2 then mat M.length C (withF M x.toNat y.toNat (oneK k)) else M
def stepP (D : Nat) (P : List (List Bool)) (k : Nat) (x y : Int) : List (List Bool) := if k ≤ 2 then P else mat P.length D (withF P x.toNat y.toNat (oneK k))
abbrev stepV (k : Nat) (x y : Int) : Value := .agg #[.int .u8 k, .int .i64 x, .int .i64 y]
/-- What Apply leaves. -/
def APost (w : World) (C D : Nat) (M P : List (List Bool)) (k : Nat) (x y : Int) (e : Ending) (w' : World) : Prop :=
  Below w.heap.size w w' ∧ ((stepE C D M P k x y ≠ 0 ∧ e = .returned (.tuple #[.agg #[.pointer none, .pointer none], .int .i64 (stepE C D M P k x y)])) ∨
    (stepE C D M P k x y = 0 ∧ ∃ u' p', e = .returned (.tuple #[cfgV u' p', .int .i64 0]) ∧ IsCfg w' u' p' C D (stepU C M k x y) (stepP D P k x y)))
/-- The matrix that a step changes. -/
theorem sel_pm {w : World} {u p C D : Nat} {M P : List (List Bool)} (h : IsCfg w u p C D M P) (k : Nat) : PM w (if k ≤ 2 then u else p) (if k ≤ 2 then C else D) (if k ≤ 2 then M else P) := by
  split
  · exact h.users
  · exact h.perms
theorem mof_any (u p k : Nat) (w : World) (h1 : 1 ≤ k) :
    Calls Tryd.prog 55 #[cfgV u p, .int .u8 k] w fun e w' => e = .returned (ptr (if k ≤ 2 then u else p)) ∧ Below w.heap.size w w' := by
  by_cases h : k ≤ 2
  · rw [if_pos h]; exact mof_users u p k w (by omega)
  · rw [if_neg h]; exact mof_perms u p k w (by omega)
set_option maxRecDepth 100000 in
set_option maxHeartbeats 4000000 in
theorem mapply_any (u p C D : Nat) (M P : List (List Bool)) (k : Nat) (x y : Int) (w : World) (h : IsCfg w u p C D M P) (hk : k ≤ 255) :
    Calls Tryd.prog 22 #[cfgV u p, stepV k x y] w (APost w C D M P k x y) := by
  go_enter Tryd.func22, Tryd.ntmps22
  go_wp2_with fail
  refine absC3 fun W0 hX hS hR hb0 hz => ?_
  have HZ := Lib.hid hz; clear hz
  (with_reducible refine (mcheck_ok u p C D M P W0 (h.below hb0)).mono ?_); rintro e w1 ⟨rfl, hb1⟩
  have b1 := hb0.trans (hb1.mono hb0.size)
  have hX1 := hX.below hb1 hX.lt
  have hS1 := hS.below hb1 hS.lt
  have hR1 : Blk w1 (w.heap.size + 1 + 1) _ _ := hR.below hb1 hR.lt
  have h1 := h.below b1
  have hle1 := b1.size
  have x0 := hX1.cell 0
  have x1 := hX1.cell 1
  have s0 := hS1.cell 0
  have s1 := hS1.cell 1
  have s2 := hS1.cell 2
  have r0 := hR1.frozen 0
  have r1 := hR1.frozen 1
  have q0 := hR1.cell 0
  have q1 := hR1.cell 1
  clear hX hS hR hb0 hb1 h
  by_cases hbad : k < 1 ∨ 4 < k
  · have hE : stepE C D M P k x y = 1 := by rw [stepE, if_pos hbad]
    have HE := Lib.hid hE
    clear hE
    have hk2 : (k : Int) < 1 ∨ ¬ (k : Int) < 1 ∧ (4 : Int) < (k : Int) := by omega
    clear hbad
    rcases hk2 with hk1 | ⟨hk1, hk4⟩
    all_goals
      go_wp2_with fail
      have hR2 := (hR1.set_ 0 (.pointer none)).set_ 1 (.pointer none)
      have cX := hR2.cell 0
      have cY := hR2.cell 1
      exact bodyPost_ret (v := .tuple #[.agg #[.pointer none, .pointer none], .int .i64 1]) (by simp [results, Tryd.results22, go_sem, cX, cY]) rfl ⟨(b1.setCell (by simp; omega) _).setCell (by simp; omega) _, .inl ⟨by rw [HE.out]; decide, by rw [HE.out]; rfl⟩⟩
  · have hk1 : ¬ (k : Int) < 1 := by omega
    have hk4 : ¬ (4 : Int) < (k : Int) := by omega
    have hk0 : 1 ≤ k := by omega
    have HSEL := hideC (sel_pm h1 k)
    obtain ⟨m, hmd⟩ : ∃ m, m = if k ≤ 2 then u else p := ⟨_, rfl⟩
    obtain ⟨Cm, hCd⟩ : ∃ m, m = if k ≤ 2 then C else D := ⟨_, rfl⟩
    obtain ⟨Mm, hMd⟩ : ∃ m, m = if k ≤ 2 then M else P := ⟨_, rfl⟩
    have HOF := hideC (fun W => mof_any u p k W hk0)
    have hE : stepE C D M P k x y = if insideB Mm.length Cm x y = false then 2 else if mget Mm x.toNat y.toNat = oneK k then 7 else 0 := by
      rw [stepE, if_neg hbad, ← hCd, ← hMd]
    rw [← hmd] at HOF
    rw [← hmd, ← hCd, ← hMd] at HSEL
    have HE := Lib.hid hE
    have HMD := Lib.hid hmd
    have HCD := Lib.hid hCd
    have HMM := Lib.hid hMd
    clear hE hmd hCd hMd hbad
    go_wp2_with fail
    refine (HOF.out _).mono ?_
    rintro e w2 ⟨rfl, hb2⟩
    have b2 := b1.trans (hb2.mono b1.size)
    have hX2 := hX1.below hb2 hX1.lt
    have hS2 := hS1.below hb2 hS1.lt
    have hR2 := hR1.below hb2 hR1.lt
    have h2 := h1.below hb2
    have hm2 := HSEL.out.below hb2
    have hle2 := b2.size
    clear hb2 HSEL h1 HOF x0 x1 s0 s1 s2 q0 q1 r0 r1 hX1 hS1 hR1 b1 hle1
    have x0 := hX2.cell 0
    have x1 := hX2.cell 1
    have s0 := hS2.cell 0
    have s1 := hS2.cell 1
    have s2 := hS2.cell 2
    have q0 := hR2.cell 0
    have q1 := hR2.cell 1
    have r0 := hR2.frozen 0
    have r1 := hR2.frozen 1
    have hone : (((k : Int) == 1) = true ∧ oneK k = true) ∨ (((k : Int) == 1) = false ∧ ((k : Int) == 3) = oneK k) := by
      by_cases e : k = 1
      · exact .inl ⟨by simp [e], by simp [e, oneK]⟩
      · refine .inr ⟨by rw [beq_eq_false_iff_ne]; omega, ?_⟩
        have e1 : (k == 1) = false := by simp [e]
        unfold oneK
        rw [e1, Bool.false_or, Bool.eq_iff_iff, beq_iff_eq, beq_iff_eq]; omega
    obtain ⟨bo, hbo⟩ : ∃ b, b = oneK k := ⟨_, rfl⟩
    rw [← hbo] at hone
    have HBO := Lib.hid hbo
    clear hbo
    rcases hone with ⟨e1, e2⟩ | ⟨e1, e2⟩
    · subst e2
      go_wp2_with fail
      obtain ⟨wq, hwq⟩ : ∃ wq, wq = w2.drew := ⟨_, rfl⟩
      have hbq : Below w2.heap.size w2 wq := by rw [hwq]; exact (Below.refl _ _).drew
      have HRW := hideC (pm_rows m Cm Mm wq (hm2.below hbq))
      have HCL := hideC (pm_cols m Cm Mm wq (hm2.below hbq))
      have hRq := hR2.below hbq hR2.lt
      have hSq := hS2.below hbq hS2.lt
      have bq := b2.trans (hbq.mono b2.size)
      refine wp_mix (fun V => Below w2.heap.size w2 V) 22 (by kernel_rfl) (by kernel_rfl) (Below.refl _ _).drew ?_
      rw [← hwq]
      clear hwq x0 x1 q0 q1 r0 r1 hle2
      by_cases hx0 : x < 0
      · (refine m_q 0 (v := ?_) (by kernel_rfl) rfl rfl (fun W hW => ?_) ?_; rotate_left; (have z0 := onB hW s0; have z1 := onB hW s1; have z2 := onB hW s2; go_simp; first | done | with_reducible rfl); simp only [Act.put, List.setIfInBounds_toArray, List.set_cons_zero, List.set_cons_succ]); (refine m_q 1 (v := ?_) (by kernel_rfl) rfl rfl (fun W hW => ?_) ?_; rotate_left; (have z0 := onB hW s0; have z1 := onB hW s1; have z2 := onB hW s2; go_simp; first | done | with_reducible rfl); simp only [Act.put, List.setIfInBounds_toArray, List.set_cons_zero, List.set_cons_succ]); (refine m_q 2 (v := ?_) (by kernel_rfl) rfl rfl (fun W hW => ?_) ?_; rotate_left; (have z0 := onB hW s0; have z1 := onB hW s1; have z2 := onB hW s2; go_simp; first | done | with_reducible rfl); simp only [Act.put, List.setIfInBounds_toArray, List.set_cons_zero, List.set_cons_succ]); (refine m_q 3 (v := ?_) (by kernel_rfl) rfl rfl (fun W hW => ?_) ?_; rotate_left; (have z0 := onB hW s0; have z1 := onB hW s1; have z2 := onB hW s2; go_simp; first | done | with_reducible rfl); simp only [Act.put, List.setIfInBounds_toArray, List.set_cons_zero, List.set_cons_succ])
        (refine m_no 4 (by kernel_rfl) rfl (by rfl) ?_; simp only [Act.put, List.setIfInBounds_toArray, List.set_cons_zero, List.set_cons_succ]); (refine m_no 5 (by kernel_rfl) rfl (by rfl) ?_; simp only [Act.put, List.setIfInBounds_toArray, List.set_cons_zero, List.set_cons_succ]); (refine m_no 6 (by kernel_rfl) rfl (by rfl) ?_; simp only [Act.put, List.setIfInBounds_toArray, List.set_cons_zero, List.set_cons_succ]); (refine m_no 7 (by kernel_rfl) rfl (by rfl) ?_; simp only [Act.put, List.setIfInBounds_toArray, List.set_cons_zero, List.set_cons_succ]); (refine m_no 8 (by kernel_rfl) rfl (by rfl) ?_; simp only [Act.put, List.setIfInBounds_toArray, List.set_cons_zero, List.set_cons_succ])
        (refine m_q 9 (v := ?_) (by kernel_rfl) rfl rfl (fun W hW => ?_) ?_; rotate_left; (go_simp; first | done | with_reducible rfl); simp only [Act.put, List.setIfInBounds_toArray, List.set_cons_zero, List.set_cons_succ]); (refine m_q 10 (v := ?_) (by kernel_rfl) rfl rfl (fun W hW => ?_) ?_; rotate_left; (go_simp; first | done | with_reducible rfl); simp only [Act.put, List.setIfInBounds_toArray, List.set_cons_zero, List.set_cons_succ])
        (refine m_no 11 (by kernel_rfl) rfl (by rfl) ?_; simp only [Act.put, List.setIfInBounds_toArray, List.set_cons_zero, List.set_cons_succ]); (refine m_no 12 (by kernel_rfl) rfl (by rfl) ?_; simp only [Act.put, List.setIfInBounds_toArray, List.set_cons_zero, List.set_cons_succ]); (refine m_no 13 (by kernel_rfl) rfl (by rfl) ?_; simp only [Act.put, List.setIfInBounds_toArray, List.set_cons_zero, List.set_cons_succ])
        (refine m_q 14 (v := ?_) (by kernel_rfl) rfl rfl (fun W hW => ?_) ?_; rotate_left; (go_simp; first | done | with_reducible rfl); simp only [Act.put, List.setIfInBounds_toArray, List.set_cons_zero, List.set_cons_succ]); (refine m_q 15 (v := ?_) (by kernel_rfl) rfl rfl (fun W hW => ?_) ?_; rotate_left; (go_simp; first | done | with_reducible rfl); simp only [Act.put, List.setIfInBounds_toArray, List.set_cons_zero, List.set_cons_succ])
        (refine m_no 16 (by kernel_rfl) rfl (by rfl) ?_; simp only [Act.put, List.setIfInBounds_toArray, List.set_cons_zero, List.set_cons_succ]); (refine m_no 17 (by kernel_rfl) rfl (by rfl) ?_; simp only [Act.put, List.setIfInBounds_toArray, List.set_cons_zero, List.set_cons_succ]); (refine m_no 18 (by kernel_rfl) rfl (by rfl) ?_; simp only [Act.put, List.setIfInBounds_toArray, List.set_cons_zero, List.set_cons_succ]); (refine m_no 19 (by kernel_rfl) rfl (by rfl) ?_; simp only [Act.put, List.setIfInBounds_toArray, List.set_cons_zero, List.set_cons_succ]); (refine m_no 20 (by kernel_rfl) rfl (by rfl) ?_; simp only [Act.put, List.setIfInBounds_toArray, List.set_cons_zero, List.set_cons_succ])
        (refine m_q 21 (v := ?_) (by kernel_rfl) rfl rfl (fun W hW => ?_) ?_; rotate_left; (go_simp; first | done | with_reducible rfl); simp only [Act.put, List.setIfInBounds_toArray, List.set_cons_zero, List.set_cons_succ])
        refine m_end (by kernel_rfl) ?_
        have hEE : stepE C D M P k x y = 2 := by
          rw [HE.out, if_pos (by unfold insideB; rw [decide_eq_false_iff_not]; omega)]
        have HEE := Lib.hid hEE
        clear hEE HMD HCD HMM
        have s0 := hSq.cell 0
        have s1 := hSq.cell 1
        have s2 := hSq.cell 2
        have q0 := hRq.cell 0
        have q1 := hRq.cell 1
        have r0 := hRq.frozen 0
        have r1 := hRq.frozen 1
        go_wp2_with fail
        have hRe := (hRq.set_ 0 (.pointer none)).set_ 1 (.pointer none)
        have cX := hRe.cell 0
        have cY := hRe.cell 1
        exact bodyPost_ret (v := .tuple #[.agg #[(.pointer none), (.pointer none)], .int .i64 2]) (by simp [results, Tryd.results22, go_sem, cX, cY]) rfl ⟨(bq.setCell (by simp; omega) _).setCell (by simp; omega) _, .inl ⟨by rw [HEE.out]; decide, by rw [HEE.out]; rfl⟩⟩
      · (refine m_q 0 (v := ?_) (by kernel_rfl) rfl rfl (fun W hW => ?_) ?_; rotate_left; (have z0 := onB hW s0; have z1 := onB hW s1; have z2 := onB hW s2; go_simp; first | done | with_reducible rfl); simp only [Act.put, List.setIfInBounds_toArray, List.set_cons_zero, List.set_cons_succ]); (refine m_q 1 (v := ?_) (by kernel_rfl) rfl rfl (fun W hW => ?_) ?_; rotate_left; (have z0 := onB hW s0; have z1 := onB hW s1; have z2 := onB hW s2; go_simp; first | done | with_reducible rfl); simp only [Act.put, List.setIfInBounds_toArray, List.set_cons_zero, List.set_cons_succ]); (refine m_q 2 (v := ?_) (by kernel_rfl) rfl rfl (fun W hW => ?_) ?_; rotate_left; (have z0 := onB hW s0; have z1 := onB hW s1; have z2 := onB hW s2; go_simp; first | done | with_reducible rfl); simp only [Act.put, List.setIfInBounds_toArray, List.set_cons_zero, List.set_cons_succ]); (refine m_q 3 (v := ?_) (by kernel_rfl) rfl rfl (fun W hW => ?_) ?_; rotate_left; (have z0 := onB hW s0; have z1 := onB hW s1; have z2 := onB hW s2; go_simp; first | done | with_reducible rfl); simp only [Act.put, List.setIfInBounds_toArray, List.set_cons_zero, List.set_cons_succ])
        (refine m_yes 4 (v := ?_) (by kernel_rfl) rfl (by rfl) (fun W hW => ?_) ?_; rotate_left; (have z0 := onB hW s0; have z1 := onB hW s1; have z2 := onB hW s2; go_simp; first | done | with_reducible rfl); simp only [Act.put, List.setIfInBounds_toArray, List.set_cons_zero, List.set_cons_succ]); (refine m_yes 5 (v := ?_) (by kernel_rfl) rfl (by rfl) (fun W hW => ?_) ?_; rotate_left; (have z0 := onB hW s0; have z1 := onB hW s1; have z2 := onB hW s2; go_simp; first | done | with_reducible rfl); simp only [Act.put, List.setIfInBounds_toArray, List.set_cons_zero, List.set_cons_succ]); (refine m_yes 6 (v := ?_) (by kernel_rfl) rfl (by rfl) (fun W hW => ?_) ?_; rotate_left; (have z0 := onB hW s0; have z1 := onB hW s1; have z2 := onB hW s2; go_simp; first | done | with_reducible rfl); simp only [Act.put, List.setIfInBounds_toArray, List.set_cons_zero, List.set_cons_succ])
        refine m_s1 7 (by kernel_rfl) rfl ?_
        go_wp2_with fail
        refine HRW.out.mono ?_
        rintro e v1 ⟨rfl, rfl⟩
        go_wp2_with fail
        refine m_next hbq ?_
        clear s0 s1 s2
        have s0 := hSq.cell 0
        have s1 := hSq.cell 1
        have s2 := hSq.cell 2
        by_cases hx1 : (Mm.length : Int) ≤ x
        · (refine m_yes 8 (v := ?_) (by kernel_rfl) rfl (by rfl) (fun W hW => ?_) ?_; rotate_left; (go_simp; first | done | with_reducible rfl); simp only [Act.put, List.setIfInBounds_toArray, List.set_cons_zero, List.set_cons_succ])
          (refine m_q 9 (v := ?_) (by kernel_rfl) rfl rfl (fun W hW => ?_) ?_; rotate_left; (go_simp; first | done | with_reducible rfl); simp only [Act.put, List.setIfInBounds_toArray, List.set_cons_zero, List.set_cons_succ]); (refine m_q 10 (v := ?_) (by kernel_rfl) rfl rfl (fun W hW => ?_) ?_; rotate_left; (go_simp; first | done | with_reducible rfl); simp only [Act.put, List.setIfInBounds_toArray, List.set_cons_zero, List.set_cons_succ])
          (refine m_no 11 (by kernel_rfl) rfl (by rfl) ?_; simp only [Act.put, List.setIfInBounds_toArray, List.set_cons_zero, List.set_cons_succ]); (refine m_no 12 (by kernel_rfl) rfl (by rfl) ?_; simp only [Act.put, List.setIfInBounds_toArray, List.set_cons_zero, List.set_cons_succ]); (refine m_no 13 (by kernel_rfl) rfl (by rfl) ?_; simp only [Act.put, List.setIfInBounds_toArray, List.set_cons_zero, List.set_cons_succ])
          (refine m_q 14 (v := ?_) (by kernel_rfl) rfl rfl (fun W hW => ?_) ?_; rotate_left; (go_simp; first | done | with_reducible rfl); simp only [Act.put, List.setIfInBounds_toArray, List.set_cons_zero, List.set_cons_succ]); (refine m_q 15 (v := ?_) (by kernel_rfl) rfl rfl (fun W hW => ?_) ?_; rotate_left; (go_simp; first | done | with_reducible rfl); simp only [Act.put, List.setIfInBounds_toArray, List.set_cons_zero, List.set_cons_succ])
          (refine m_no 16 (by kernel_rfl) rfl (by rfl) ?_; simp only [Act.put, List.setIfInBounds_toArray, List.set_cons_zero, List.set_cons_succ]); (refine m_no 17 (by kernel_rfl) rfl (by rfl) ?_; simp only [Act.put, List.setIfInBounds_toArray, List.set_cons_zero, List.set_cons_succ]); (refine m_no 18 (by kernel_rfl) rfl (by rfl) ?_; simp only [Act.put, List.setIfInBounds_toArray, List.set_cons_zero, List.set_cons_succ]); (refine m_no 19 (by kernel_rfl) rfl (by rfl) ?_; simp only [Act.put, List.setIfInBounds_toArray, List.set_cons_zero, List.set_cons_succ]); (refine m_no 20 (by kernel_rfl) rfl (by rfl) ?_; simp only [Act.put, List.setIfInBounds_toArray, List.set_cons_zero, List.set_cons_succ])
          (refine m_q 21 (v := ?_) (by kernel_rfl) rfl rfl (fun W hW => ?_) ?_; rotate_left; (go_simp; first | done | with_reducible rfl); simp only [Act.put, List.setIfInBounds_toArray, List.set_cons_zero, List.set_cons_succ])
          refine m_end (by kernel_rfl) ?_
          have hEE : stepE C D M P k x y = 2 := by
            rw [HE.out, if_pos (by unfold insideB; rw [decide_eq_false_iff_not]; omega)]
          have HEE := Lib.hid hEE
          clear hEE HMD HCD HMM
          have s0 := hSq.cell 0
          have s1 := hSq.cell 1
          have s2 := hSq.cell 2
          have q0 := hRq.cell 0
          have q1 := hRq.cell 1
          have r0 := hRq.frozen 0
          have r1 := hRq.frozen 1
          go_wp2_with fail
          have hRe := (hRq.set_ 0 (.pointer none)).set_ 1 (.pointer none)
          have cX := hRe.cell 0
          have cY := hRe.cell 1
          exact bodyPost_ret (v := .tuple #[.agg #[(.pointer none), (.pointer none)], .int .i64 2]) (by simp [results, Tryd.results22, go_sem, cX, cY]) rfl ⟨(bq.setCell (by simp; omega) _).setCell (by simp; omega) _, .inl ⟨by rw [HEE.out]; decide, by rw [HEE.out]; rfl⟩⟩
        · (refine m_yes 8 (v := ?_) (by kernel_rfl) rfl (by rfl) (fun W hW => ?_) ?_; rotate_left; (go_simp; first | done | with_reducible rfl); simp only [Act.put, List.setIfInBounds_toArray, List.set_cons_zero, List.set_cons_succ])
          (refine m_q 9 (v := ?_) (by kernel_rfl) rfl rfl (fun W hW => ?_) ?_; rotate_left; (go_simp; first | done | with_reducible rfl); simp only [Act.put, List.setIfInBounds_toArray, List.set_cons_zero, List.set_cons_succ]); (refine m_q 10 (v := ?_) (by kernel_rfl) rfl rfl (fun W hW => ?_) ?_; rotate_left; (go_simp; first | done | with_reducible rfl); simp only [Act.put, List.setIfInBounds_toArray, List.set_cons_zero, List.set_cons_succ])
          by_cases hy0 : y < 0
          · (refine m_yes 11 (v := ?_) (by kernel_rfl) rfl (by rfl) (fun W hW => ?_) ?_; rotate_left; (have z0 := onB hW s0; have z1 := onB hW s1; have z2 := onB hW s2; go_simp; first | done | with_reducible rfl); simp only [Act.put, List.setIfInBounds_toArray, List.set_cons_zero, List.set_cons_succ]); (refine m_yes 12 (v := ?_) (by kernel_rfl) rfl (by rfl) (fun W hW => ?_) ?_; rotate_left; (have z0 := onB hW s0; have z1 := onB hW s1; have z2 := onB hW s2; go_simp; first | done | with_reducible rfl); simp only [Act.put, List.setIfInBounds_toArray, List.set_cons_zero, List.set_cons_succ]); (refine m_yes 13 (v := ?_) (by kernel_rfl) rfl (by rfl) (fun W hW => ?_) ?_; rotate_left; (have z0 := onB hW s0; have z1 := onB hW s1; have z2 := onB hW s2; go_simp; first | done | with_reducible rfl); simp only [Act.put, List.setIfInBounds_toArray, List.set_cons_zero, List.set_cons_succ])
            (refine m_q 14 (v := ?_) (by kernel_rfl) rfl rfl (fun W hW => ?_) ?_; rotate_left; (go_simp; first | done | with_reducible rfl); simp only [Act.put, List.setIfInBounds_toArray, List.set_cons_zero, List.set_cons_succ]); (refine m_q 15 (v := ?_) (by kernel_rfl) rfl rfl (fun W hW => ?_) ?_; rotate_left; (go_simp; first | done | with_reducible rfl); simp only [Act.put, List.setIfInBounds_toArray, List.set_cons_zero, List.set_cons_succ])
            (refine m_no 16 (by kernel_rfl) rfl (by rfl) ?_; simp only [Act.put, List.setIfInBounds_toArray, List.set_cons_zero, List.set_cons_succ]); (refine m_no 17 (by kernel_rfl) rfl (by rfl) ?_; simp only [Act.put, List.setIfInBounds_toArray, List.set_cons_zero, List.set_cons_succ]); (refine m_no 18 (by kernel_rfl) rfl (by rfl) ?_; simp only [Act.put, List.setIfInBounds_toArray, List.set_cons_zero, List.set_cons_succ]); (refine m_no 19 (by kernel_rfl) rfl (by rfl) ?_; simp only [Act.put, List.setIfInBounds_toArray, List.set_cons_zero, List.set_cons_succ]); (refine m_no 20 (by kernel_rfl) rfl (by rfl) ?_; simp only [Act.put, List.setIfInBounds_toArray, List.set_cons_zero, List.set_cons_succ])
            (refine m_q 21 (v := ?_) (by kernel_rfl) rfl rfl (fun W hW => ?_) ?_; rotate_left; (go_simp; first | done | with_reducible rfl); simp only [Act.put, List.setIfInBounds_toArray, List.set_cons_zero, List.set_cons_succ])
            refine m_end (by kernel_rfl) ?_
            have hEE : stepE C D M P k x y = 2 := by
              rw [HE.out, if_pos (by unfold insideB; rw [decide_eq_false_iff_not]; omega)]
            have HEE := Lib.hid hEE
            clear hEE HMD HCD HMM
            have s0 := hSq.cell 0
            have s1 := hSq.cell 1
            have s2 := hSq.cell 2
            have q0 := hRq.cell 0
            have q1 := hRq.cell 1
            have r0 := hRq.frozen 0
            have r1 := hRq.frozen 1
            go_wp2_with fail
            have hRe := (hRq.set_ 0 (.pointer none)).set_ 1 (.pointer none)
            have cX := hRe.cell 0
            have cY := hRe.cell 1
            exact bodyPost_ret (v := .tuple #[.agg #[(.pointer none), (.pointer none)], .int .i64 2]) (by simp [results, Tryd.results22, go_sem, cX, cY]) rfl ⟨(bq.setCell (by simp; omega) _).setCell (by simp; omega) _, .inl ⟨by rw [HEE.out]; decide, by rw [HEE.out]; rfl⟩⟩
          · (refine m_yes 11 (v := ?_) (by kernel_rfl) rfl (by rfl) (fun W hW => ?_) ?_; rotate_left; (have z0 := onB hW s0; have z1 := onB hW s1; have z2 := onB hW s2; go_simp; first | done | with_reducible rfl); simp only [Act.put, List.setIfInBounds_toArray, List.set_cons_zero, List.set_cons_succ]); (refine m_yes 12 (v := ?_) (by kernel_rfl) rfl (by rfl) (fun W hW => ?_) ?_; rotate_left; (have z0 := onB hW s0; have z1 := onB hW s1; have z2 := onB hW s2; go_simp; first | done | with_reducible rfl); simp only [Act.put, List.setIfInBounds_toArray, List.set_cons_zero, List.set_cons_succ]); (refine m_yes 13 (v := ?_) (by kernel_rfl) rfl (by rfl) (fun W hW => ?_) ?_; rotate_left; (have z0 := onB hW s0; have z1 := onB hW s1; have z2 := onB hW s2; go_simp; first | done | with_reducible rfl); simp only [Act.put, List.setIfInBounds_toArray, List.set_cons_zero, List.set_cons_succ])
            (refine m_q 14 (v := ?_) (by kernel_rfl) rfl rfl (fun W hW => ?_) ?_; rotate_left; (go_simp; first | done | with_reducible rfl); simp only [Act.put, List.setIfInBounds_toArray, List.set_cons_zero, List.set_cons_succ]); (refine m_q 15 (v := ?_) (by kernel_rfl) rfl rfl (fun W hW => ?_) ?_; rotate_left; (go_simp; first | done | with_reducible rfl); simp only [Act.put, List.setIfInBounds_toArray, List.set_cons_zero, List.set_cons_succ])
            (refine m_yes 16 (v := ?_) (by kernel_rfl) rfl (by rfl) (fun W hW => ?_) ?_; rotate_left; (have z0 := onB hW s0; have z1 := onB hW s1; have z2 := onB hW s2; go_simp; first | done | with_reducible rfl); simp only [Act.put, List.setIfInBounds_toArray, List.set_cons_zero, List.set_cons_succ]); (refine m_yes 17 (v := ?_) (by kernel_rfl) rfl (by rfl) (fun W hW => ?_) ?_; rotate_left; (have z0 := onB hW s0; have z1 := onB hW s1; have z2 := onB hW s2; go_simp; first | done | with_reducible rfl); simp only [Act.put, List.setIfInBounds_toArray, List.set_cons_zero, List.set_cons_succ]); (refine m_yes 18 (v := ?_) (by kernel_rfl) rfl (by rfl) (fun W hW => ?_) ?_; rotate_left; (have z0 := onB hW s0; have z1 := onB hW s1; have z2 := onB hW s2; go_simp; first | done | with_reducible rfl); simp only [Act.put, List.setIfInBounds_toArray, List.set_cons_zero, List.set_cons_succ])
            refine m_s1 19 (by kernel_rfl) rfl ?_
            go_wp2_with fail
            refine HCL.out.mono ?_
            rintro e v1 ⟨rfl, rfl⟩
            go_wp2_with fail
            refine m_next (Below.refl _ _) ?_
            by_cases hy1 : (Cm : Int) ≤ y
            · (refine m_yes 20 (v := ?_) (by kernel_rfl) rfl (by rfl) (fun W hW => ?_) ?_; rotate_left; (go_simp; first | done | with_reducible rfl); simp only [Act.put, List.setIfInBounds_toArray, List.set_cons_zero, List.set_cons_succ])
              (refine m_q 21 (v := ?_) (by kernel_rfl) rfl rfl (fun W hW => ?_) ?_; rotate_left; (go_simp; first | done | with_reducible rfl); simp only [Act.put, List.setIfInBounds_toArray, List.set_cons_zero, List.set_cons_succ])
              refine m_end (by kernel_rfl) ?_
              have hEE : stepE C D M P k x y = 2 := by
                rw [HE.out, if_pos (by unfold insideB; rw [decide_eq_false_iff_not]; omega)]
              have HEE := Lib.hid hEE
              clear hEE HMD HCD HMM
              have s0 := hSq.cell 0
              have s1 := hSq.cell 1
              have s2 := hSq.cell 2
              have q0 := hRq.cell 0
              have q1 := hRq.cell 1
              have r0 := hRq.frozen 0
              have r1 := hRq.frozen 1
              go_wp2_with fail
              have hRe := (hRq.set_ 0 (.pointer none)).set_ 1 (.pointer none)
              have cX := hRe.cell 0
              have cY := hRe.cell 1
              exact bodyPost_ret (v := .tuple #[.agg #[(.pointer none), (.pointer none)], .int .i64 2]) (by simp [results, Tryd.results22, go_sem, cX, cY]) rfl ⟨(bq.setCell (by simp; omega) _).setCell (by simp; omega) _, .inl ⟨by rw [HEE.out]; decide, by rw [HEE.out]; rfl⟩⟩
            · (refine m_yes 20 (v := ?_) (by kernel_rfl) rfl (by rfl) (fun W hW => ?_) ?_; rotate_left; (go_simp; first | done | with_reducible rfl); simp only [Act.put, List.setIfInBounds_toArray, List.set_cons_zero, List.set_cons_succ])
              (refine m_q 21 (v := ?_) (by kernel_rfl) rfl rfl (fun W hW => ?_) ?_; rotate_left; (go_simp; first | done | with_reducible rfl); simp only [Act.put, List.setIfInBounds_toArray, List.set_cons_zero, List.set_cons_succ])
              refine m_end (by kernel_rfl) ?_
              obtain ⟨I, rfl⟩ := Int.eq_ofNat_of_zero_le (show 0 ≤ x by omega)
              obtain ⟨J, rfl⟩ := Int.eq_ofNat_of_zero_le (show 0 ≤ y by omega)
              have hI : I < Mm.length := by omega
              have hJ : J < Cm := by omega
              have hin : insideB Mm.length Cm I J = true := by unfold insideB; rw [decide_eq_true_eq]; omega
              have hE2 := HE.out
              rw [if_neg (by rw [hin]; decide), Int.toNat_natCast, Int.toNat_natCast, ← HBO.out] at hE2
              have hHH := pm_has m Cm Mm I J wq (hm2.below hbq)
              rw [hasR_nat, decide_eq_true hI, decide_eq_true hJ, Bool.true_and, Bool.true_and] at hHH
              obtain ⟨bg, hbg⟩ : ∃ b, b = mget Mm I J := ⟨_, rfl⟩
              rw [← hbg] at hHH hE2
              have HHH := hideC hHH
              have HE3 := Lib.hid hE2
              clear hHH hE2 hin hbg hx0 hx1 hy0 hy1
              have s0 := hSq.cell 0
              have s1 := hSq.cell 1
              have s2 := hSq.cell 2
              have q0 := hRq.cell 0
              have q1 := hRq.cell 1
              have r0 := hRq.frozen 0
              have r1 := hRq.frozen 1
              go_wp2_with fail; (with_reducible refine (HHH.out).mono ?_); rintro e w3 ⟨rfl, hb3⟩
              have b3 := bq.trans (hb3.mono bq.size)
              have hX3 := (hX2.below hbq hX2.lt).below hb3 (Nat.lt_of_lt_of_le hX2.lt hbq.size)
              have hS3 := hSq.below hb3 hSq.lt
              have hR3 := hRq.below hb3 hRq.lt
              have hle3 := b3.size
              have hm3 := (hm2.below hbq).below hb3
              have h3 := (h2.below hbq).below hb3
              clear s0 s1 s2 q0 q1 r0 r1 HE HRW HCL hRq hSq bq hbq hX2 hS2 hR2 hm2 h2 hb3
              have x0 := hX3.cell 0
              have x1 := hX3.cell 1
              have s0 := hS3.cell 0
              have s1 := hS3.cell 1
              have s2 := hS3.cell 2
              have q0 := hR3.cell 0
              have q1 := hR3.cell 1
              have r0 := hR3.frozen 0
              have r1 := hR3.frozen 1
              by_cases hbe : bg = true
              · have hEE : stepE C D M P k I J = 7 := by rw [HE3.out, if_pos hbe]
                have HEE := Lib.hid hEE
                have hbe2 : (bg == true) = true := by rw [beq_iff_eq]; exact hbe
                clear hEE hbe
                go_wp2_with fail
                have hRe := (hR3.set_ 0 (.pointer none)).set_ 1 (.pointer none)
                have cX := hRe.cell 0
                have cY := hRe.cell 1
                exact bodyPost_ret (v := .tuple #[.agg #[(.pointer none), (.pointer none)], .int .i64 7]) (by simp [results, Tryd.results22, go_sem, cX, cY]) rfl ⟨(b3.setCell (by simp; omega) _).setCell (by simp; omega) _, .inl ⟨by rw [HEE.out]; decide, by rw [HEE.out]; rfl⟩⟩
              · have hEE : stepE C D M P k I J = 0 := by rw [HE3.out, if_neg hbe]
                have HEE := Lib.hid hEE
                have hbe2 : (bg == true) = false := by rw [beq_eq_false_iff_ne]; exact hbe
                have HS := hideC (pm_set m Cm Mm I J true w3 hm3 hI hJ)
                clear hEE hbe HE3 hm3
                go_wp2_with fail; (with_reducible refine (HS.out).mono ?_); rintro e w4 ⟨n, rfl, hfr, hn, hb4⟩
                have hnu : n ≠ u := by have := h3.users.lt; omega
                have hnp : n ≠ p := by have := h3.perms.lt; omega
                have b4 := b3.trans (hb4.mono b3.size)
                have hX4 := hX3.below hb4 hX3.lt
                have hS4 := hS3.below hb4 hS3.lt
                have hR4 := hR3.below hb4 hR3.lt
                have h4 := h3.below hb4
                have hle4 := b4.size
                clear s0 s1 s2 q0 q1 r0 r1 x0 x1 hX3 hS3 hR3 h3 b3 hb4 hle3 HS
                have x0 := hX4.cell 0
                have x1 := hX4.cell 1
                have s0 := hS4.cell 0
                have s1 := hS4.cell 1
                have s2 := hS4.cell 2
                have q0 := hR4.cell 0
                have q1 := hR4.cell 1
                have r0 := hR4.frozen 0
                have r1 := hR4.frozen 1
                have hsU : stepU C M k I J = if k ≤ 2 then mat M.length C (withF M I J true) else M := by rw [stepU, Int.toNat_natCast, Int.toNat_natCast, ← HBO.out]
                have hsP : stepP D P k I J = if k ≤ 2 then P else mat P.length D (withF P I J true) := by rw [stepP, Int.toNat_natCast, Int.toNat_natCast, ← HBO.out]
                have HSU := Lib.hid hsU
                have HSP := Lib.hid hsP
                have hro := h4.roles
                have hup := h4.ne
                have HRO := Lib.hid hro
                have h5 := hideC h4
                clear hsU hsP hro h4
                by_cases hk2 : k ≤ 2
                · have hmu : m = u := by rw [HMD.out, if_pos hk2]
                  have hCC : Cm = C := by rw [HCD.out, if_pos hk2]
                  have hMM : Mm = M := by rw [HMM.out, if_pos hk2]
                  subst hmu hCC hMM
                  have HK2 := Lib.hid hk2
                  have hpe := fun W => eql_same m W
                  clear hk2 HMD HCD HMM
                  go_wp2_with fail
                  have hRe := (hR4.set_ 0 (ptr n)).set_ 1 (ptr p)
                  have cX := hRe.cell 0
                  have cY := hRe.cell 1
                  have hnc := (hn.cfg hR4 0 (ptr n)).cfg (a := some ⟨n, 0, none⟩) (b := none) (hR4.set_ 0 (ptr n)) 1 (ptr p)
                  have hpc := (h5.out.perms.cfg hR4 0 (ptr n)).cfg (a := some ⟨n, 0, none⟩) (b := none) (hR4.set_ 0 (ptr n)) 1 (ptr p)
                  refine bodyPost_ret (v := .tuple #[.agg #[.pointer (some ⟨n, 0, none⟩), .pointer (some ⟨p, 0, none⟩)], .int .i64 0]) (by simp [results, Tryd.results22, go_sem, cX, cY]) rfl ⟨(b4.setCell (by simp; omega) _).setCell (by simp; omega) _, .inr ⟨HEE.out, n, p, rfl, ?_⟩⟩
                  rw [HSU.out, HSP.out, if_pos HK2.out, if_pos HK2.out]
                  exact ⟨hnc, hpc, HRO.out, hnp⟩
                · have hmu : m = p := by rw [HMD.out, if_neg hk2]
                  have hCC : Cm = D := by rw [HCD.out, if_neg hk2]
                  have hMM : Mm = P := by rw [HMM.out, if_neg hk2]
                  subst hmu hCC hMM
                  have HK2 := Lib.hid hk2
                  have hpe := eql_other h5.out.perms h5.out.users (fun e => hup e.symm)
                  clear hk2 HMD HCD HMM
                  go_wp2_with fail
                  have hRe := (hR4.set_ 0 (ptr u)).set_ 1 (ptr n)
                  have cX := hRe.cell 0
                  have cY := hRe.cell 1
                  have hnc := (hn.cfg hR4 0 (ptr u)).cfg (a := some ⟨u, 0, none⟩) (b := none) (hR4.set_ 0 (ptr u)) 1 (ptr n)
                  have huc := (h5.out.users.cfg hR4 0 (ptr u)).cfg (a := some ⟨u, 0, none⟩) (b := none) (hR4.set_ 0 (ptr u)) 1 (ptr n)
                  refine bodyPost_ret (v := .tuple #[.agg #[.pointer (some ⟨u, 0, none⟩), .pointer (some ⟨n, 0, none⟩)], .int .i64 0]) (by simp [results, Tryd.results22, go_sem, cX, cY]) rfl ⟨(b4.setCell (by simp; omega) _).setCell (by simp; omega) _, .inr ⟨HEE.out, u, n, rfl, ?_⟩⟩
                  rw [HSU.out, HSP.out, if_neg HK2.out, if_neg HK2.out]
                  exact ⟨huc, hnc, by rw [mat_len]; exact HRO.out, fun e => hnu e.symm⟩
    · go_wp2_with fail
      obtain ⟨wq, hwq⟩ : ∃ wq, wq = w2.drew := ⟨_, rfl⟩
      have hbq : Below w2.heap.size w2 wq := by rw [hwq]; exact (Below.refl _ _).drew
      have HRW := hideC (pm_rows m Cm Mm wq (hm2.below hbq))
      have HCL := hideC (pm_cols m Cm Mm wq (hm2.below hbq))
      have hRq := hR2.below hbq hR2.lt
      have hSq := hS2.below hbq hS2.lt
      have bq := b2.trans (hbq.mono b2.size)
      refine wp_mix (fun V => Below w2.heap.size w2 V) 22 (by kernel_rfl) (by kernel_rfl) (Below.refl _ _).drew ?_
      rw [← hwq]
      clear hwq x0 x1 q0 q1 r0 r1 hle2
      by_cases hx0 : x < 0
      · (refine m_q 0 (v := ?_) (by kernel_rfl) rfl rfl (fun W hW => ?_) ?_; rotate_left; (have z0 := onB hW s0; have z1 := onB hW s1; have z2 := onB hW s2; go_simp; first | done | with_reducible rfl); simp only [Act.put, List.setIfInBounds_toArray, List.set_cons_zero, List.set_cons_succ]); (refine m_q 1 (v := ?_) (by kernel_rfl) rfl rfl (fun W hW => ?_) ?_; rotate_left; (have z0 := onB hW s0; have z1 := onB hW s1; have z2 := onB hW s2; go_simp; first | done | with_reducible rfl); simp only [Act.put, List.setIfInBounds_toArray, List.set_cons_zero, List.set_cons_succ]); (refine m_q 2 (v := ?_) (by kernel_rfl) rfl rfl (fun W hW => ?_) ?_; rotate_left; (have z0 := onB hW s0; have z1 := onB hW s1; have z2 := onB hW s2; go_simp; first | done | with_reducible rfl); simp only [Act.put, List.setIfInBounds_toArray, List.set_cons_zero, List.set_cons_succ]); (refine m_q 3 (v := ?_) (by kernel_rfl) rfl rfl (fun W hW => ?_) ?_; rotate_left; (have z0 := onB hW s0; have z1 := onB hW s1; have z2 := onB hW s2; go_simp; first | done | with_reducible rfl); simp only [Act.put, List.setIfInBounds_toArray, List.set_cons_zero, List.set_cons_succ])
        (refine m_no 4 (by kernel_rfl) rfl (by rfl) ?_; simp only [Act.put, List.setIfInBounds_toArray, List.set_cons_zero, List.set_cons_succ]); (refine m_no 5 (by kernel_rfl) rfl (by rfl) ?_; simp only [Act.put, List.setIfInBounds_toArray, List.set_cons_zero, List.set_cons_succ]); (refine m_no 6 (by kernel_rfl) rfl (by rfl) ?_; simp only [Act.put, List.setIfInBounds_toArray, List.set_cons_zero, List.set_cons_succ]); (refine m_no 7 (by kernel_rfl) rfl (by rfl) ?_; simp only [Act.put, List.setIfInBounds_toArray, List.set_cons_zero, List.set_cons_succ]); (refine m_no 8 (by kernel_rfl) rfl (by rfl) ?_; simp only [Act.put, List.setIfInBounds_toArray, List.set_cons_zero, List.set_cons_succ])
        (refine m_q 9 (v := ?_) (by kernel_rfl) rfl rfl (fun W hW => ?_) ?_; rotate_left; (go_simp; first | done | with_reducible rfl); simp only [Act.put, List.setIfInBounds_toArray, List.set_cons_zero, List.set_cons_succ]); (refine m_q 10 (v := ?_) (by kernel_rfl) rfl rfl (fun W hW => ?_) ?_; rotate_left; (go_simp; first | done | with_reducible rfl); simp only [Act.put, List.setIfInBounds_toArray, List.set_cons_zero, List.set_cons_succ])
        (refine m_no 11 (by kernel_rfl) rfl (by rfl) ?_; simp only [Act.put, List.setIfInBounds_toArray, List.set_cons_zero, List.set_cons_succ]); (refine m_no 12 (by kernel_rfl) rfl (by rfl) ?_; simp only [Act.put, List.setIfInBounds_toArray, List.set_cons_zero, List.set_cons_succ]); (refine m_no 13 (by kernel_rfl) rfl (by rfl) ?_; simp only [Act.put, List.setIfInBounds_toArray, List.set_cons_zero, List.set_cons_succ])
        (refine m_q 14 (v := ?_) (by kernel_rfl) rfl rfl (fun W hW => ?_) ?_; rotate_left; (go_simp; first | done | with_reducible rfl); simp only [Act.put, List.setIfInBounds_toArray, List.set_cons_zero, List.set_cons_succ]); (refine m_q 15 (v := ?_) (by kernel_rfl) rfl rfl (fun W hW => ?_) ?_; rotate_left; (go_simp; first | done | with_reducible rfl); simp only [Act.put, List.setIfInBounds_toArray, List.set_cons_zero, List.set_cons_succ])
        (refine m_no 16 (by kernel_rfl) rfl (by rfl) ?_; simp only [Act.put, List.setIfInBounds_toArray, List.set_cons_zero, List.set_cons_succ]); (refine m_no 17 (by kernel_rfl) rfl (by rfl) ?_; simp only [Act.put, List.setIfInBounds_toArray, List.set_cons_zero, List.set_cons_succ]); (refine m_no 18 (by kernel_rfl) rfl (by rfl) ?_; simp only [Act.put, List.setIfInBounds_toArray, List.set_cons_zero, List.set_cons_succ]); (refine m_no 19 (by kernel_rfl) rfl (by rfl) ?_; simp only [Act.put, List.setIfInBounds_toArray, List.set_cons_zero, List.set_cons_succ]); (refine m_no 20 (by kernel_rfl) rfl (by rfl) ?_; simp only [Act.put, List.setIfInBounds_toArray, List.set_cons_zero, List.set_cons_succ])
        (refine m_q 21 (v := ?_) (by kernel_rfl) rfl rfl (fun W hW => ?_) ?_; rotate_left; (go_simp; first | done | with_reducible rfl); simp only [Act.put, List.setIfInBounds_toArray, List.set_cons_zero, List.set_cons_succ])
        refine m_end (by kernel_rfl) ?_
        have hEE : stepE C D M P k x y = 2 := by
          rw [HE.out, if_pos (by unfold insideB; rw [decide_eq_false_iff_not]; omega)]
        have HEE := Lib.hid hEE
        clear hEE HMD HCD HMM
        have s0 := hSq.cell 0
        have s1 := hSq.cell 1
        have s2 := hSq.cell 2
        have q0 := hRq.cell 0
        have q1 := hRq.cell 1
        have r0 := hRq.frozen 0
        have r1 := hRq.frozen 1
        go_wp2_with fail
        have hRe := (hRq.set_ 0 (.pointer none)).set_ 1 (.pointer none)
        have cX := hRe.cell 0
        have cY := hRe.cell 1
        exact bodyPost_ret (v := .tuple #[.agg #[(.pointer none), (.pointer none)], .int .i64 2]) (by simp [results, Tryd.results22, go_sem, cX, cY]) rfl ⟨(bq.setCell (by simp; omega) _).setCell (by simp; omega) _, .inl ⟨by rw [HEE.out]; decide, by rw [HEE.out]; rfl⟩⟩
      · (refine m_q 0 (v := ?_) (by kernel_rfl) rfl rfl (fun W hW => ?_) ?_; rotate_left; (have z0 := onB hW s0; have z1 := onB hW s1; have z2 := onB hW s2; go_simp; first | done | with_reducible rfl); simp only [Act.put, List.setIfInBounds_toArray, List.set_cons_zero, List.set_cons_succ]); (refine m_q 1 (v := ?_) (by kernel_rfl) rfl rfl (fun W hW => ?_) ?_; rotate_left; (have z0 := onB hW s0; have z1 := onB hW s1; have z2 := onB hW s2; go_simp; first | done | with_reducible rfl); simp only [Act.put, List.setIfInBounds_toArray, List.set_cons_zero, List.set_cons_succ]); (refine m_q 2 (v := ?_) (by kernel_rfl) rfl rfl (fun W hW => ?_) ?_; rotate_left; (have z0 := onB hW s0; have z1 := onB hW s1; have z2 := onB hW s2; go_simp; first | done | with_reducible rfl); simp only [Act.put, List.setIfInBounds_toArray, List.set_cons_zero, List.set_cons_succ]); (refine m_q 3 (v := ?_) (by kernel_rfl) rfl rfl (fun W hW => ?_) ?_; rotate_left; (have z0 := onB hW s0; have z1 := onB hW s1; have z2 := onB hW s2; go_simp; first | done | with_reducible rfl); simp only [Act.put, List.setIfInBounds_toArray, List.set_cons_zero, List.set_cons_succ])
        (refine m_yes 4 (v := ?_) (by kernel_rfl) rfl (by rfl) (fun W hW => ?_) ?_; rotate_left; (have z0 := onB hW s0; have z1 := onB hW s1; have z2 := onB hW s2; go_simp; first | done | with_reducible rfl); simp only [Act.put, List.setIfInBounds_toArray, List.set_cons_zero, List.set_cons_succ]); (refine m_yes 5 (v := ?_) (by kernel_rfl) rfl (by rfl) (fun W hW => ?_) ?_; rotate_left; (have z0 := onB hW s0; have z1 := onB hW s1; have z2 := onB hW s2; go_simp; first | done | with_reducible rfl); simp only [Act.put, List.setIfInBounds_toArray, List.set_cons_zero, List.set_cons_succ]); (refine m_yes 6 (v := ?_) (by kernel_rfl) rfl (by rfl) (fun W hW => ?_) ?_; rotate_left; (have z0 := onB hW s0; have z1 := onB hW s1; have z2 := onB hW s2; go_simp; first | done | with_reducible rfl); simp only [Act.put, List.setIfInBounds_toArray, List.set_cons_zero, List.set_cons_succ])
        refine m_s1 7 (by kernel_rfl) rfl ?_
        go_wp2_with fail
        refine HRW.out.mono ?_
        rintro e v1 ⟨rfl, rfl⟩
        go_wp2_with fail
        refine m_next hbq ?_
        clear s0 s1 s2
        have s0 := hSq.cell 0
        have s1 := hSq.cell 1
        have s2 := hSq.cell 2
        by_cases hx1 : (Mm.length : Int) ≤ x
        · (refine m_yes 8 (v := ?_) (by kernel_rfl) rfl (by rfl) (fun W hW => ?_) ?_; rotate_left; (go_simp; first | done | with_reducible rfl); simp only [Act.put, List.setIfInBounds_toArray, List.set_cons_zero, List.set_cons_succ])
          (refine m_q 9 (v := ?_) (by kernel_rfl) rfl rfl (fun W hW => ?_) ?_; rotate_left; (go_simp; first | done | with_reducible rfl); simp only [Act.put, List.setIfInBounds_toArray, List.set_cons_zero, List.set_cons_succ]); (refine m_q 10 (v := ?_) (by kernel_rfl) rfl rfl (fun W hW => ?_) ?_; rotate_left; (go_simp; first | done | with_reducible rfl); simp only [Act.put, List.setIfInBounds_toArray, List.set_cons_zero, List.set_cons_succ])
          (refine m_no 11 (by kernel_rfl) rfl (by rfl) ?_; simp only [Act.put, List.setIfInBounds_toArray, List.set_cons_zero, List.set_cons_succ]); (refine m_no 12 (by kernel_rfl) rfl (by rfl) ?_; simp only [Act.put, List.setIfInBounds_toArray, List.set_cons_zero, List.set_cons_succ]); (refine m_no 13 (by kernel_rfl) rfl (by rfl) ?_; simp only [Act.put, List.setIfInBounds_toArray, List.set_cons_zero, List.set_cons_succ])
          (refine m_q 14 (v := ?_) (by kernel_rfl) rfl rfl (fun W hW => ?_) ?_; rotate_left; (go_simp; first | done | with_reducible rfl); simp only [Act.put, List.setIfInBounds_toArray, List.set_cons_zero, List.set_cons_succ]); (refine m_q 15 (v := ?_) (by kernel_rfl) rfl rfl (fun W hW => ?_) ?_; rotate_left; (go_simp; first | done | with_reducible rfl); simp only [Act.put, List.setIfInBounds_toArray, List.set_cons_zero, List.set_cons_succ])
          (refine m_no 16 (by kernel_rfl) rfl (by rfl) ?_; simp only [Act.put, List.setIfInBounds_toArray, List.set_cons_zero, List.set_cons_succ]); (refine m_no 17 (by kernel_rfl) rfl (by rfl) ?_; simp only [Act.put, List.setIfInBounds_toArray, List.set_cons_zero, List.set_cons_succ]); (refine m_no 18 (by kernel_rfl) rfl (by rfl) ?_; simp only [Act.put, List.setIfInBounds_toArray, List.set_cons_zero, List.set_cons_succ]); (refine m_no 19 (by kernel_rfl) rfl (by rfl) ?_; simp only [Act.put, List.setIfInBounds_toArray, List.set_cons_zero, List.set_cons_succ]); (refine m_no 20 (by kernel_rfl) rfl (by rfl) ?_; simp only [Act.put, List.setIfInBounds_toArray, List.set_cons_zero, List.set_cons_succ])
          (refine m_q 21 (v := ?_) (by kernel_rfl) rfl rfl (fun W hW => ?_) ?_; rotate_left; (go_simp; first | done | with_reducible rfl); simp only [Act.put, List.setIfInBounds_toArray, List.set_cons_zero, List.set_cons_succ])
          refine m_end (by kernel_rfl) ?_
          have hEE : stepE C D M P k x y = 2 := by
            rw [HE.out, if_pos (by unfold insideB; rw [decide_eq_false_iff_not]; omega)]
          have HEE := Lib.hid hEE
          clear hEE HMD HCD HMM
          have s0 := hSq.cell 0
          have s1 := hSq.cell 1
          have s2 := hSq.cell 2
          have q0 := hRq.cell 0
          have q1 := hRq.cell 1
          have r0 := hRq.frozen 0
          have r1 := hRq.frozen 1
          go_wp2_with fail
          have hRe := (hRq.set_ 0 (.pointer none)).set_ 1 (.pointer none)
          have cX := hRe.cell 0
          have cY := hRe.cell 1
          exact bodyPost_ret (v := .tuple #[.agg #[(.pointer none), (.pointer none)], .int .i64 2]) (by simp [results, Tryd.results22, go_sem, cX, cY]) rfl ⟨(bq.setCell (by simp; omega) _).setCell (by simp; omega) _, .inl ⟨by rw [HEE.out]; decide, by rw [HEE.out]; rfl⟩⟩
        · (refine m_yes 8 (v := ?_) (by kernel_rfl) rfl (by rfl) (fun W hW => ?_) ?_; rotate_left; (go_simp; first | done | with_reducible rfl); simp only [Act.put, List.setIfInBounds_toArray, List.set_cons_zero, List.set_cons_succ])
          (refine m_q 9 (v := ?_) (by kernel_rfl) rfl rfl (fun W hW => ?_) ?_; rotate_left; (go_simp; first | done | with_reducible rfl); simp only [Act.put, List.setIfInBounds_toArray, List.set_cons_zero, List.set_cons_succ]); (refine m_q 10 (v := ?_) (by kernel_rfl) rfl rfl (fun W hW => ?_) ?_; rotate_left; (go_simp; first | done | with_reducible rfl); simp only [Act.put, List.setIfInBounds_toArray, List.set_cons_zero, List.set_cons_succ])
          by_cases hy0 : y < 0
          · (refine m_yes 11 (v := ?_) (by kernel_rfl) rfl (by rfl) (fun W hW => ?_) ?_; rotate_left; (have z0 := onB hW s0; have z1 := onB hW s1; have z2 := onB hW s2; go_simp; first | done | with_reducible rfl); simp only [Act.put, List.setIfInBounds_toArray, List.set_cons_zero, List.set_cons_succ]); (refine m_yes 12 (v := ?_) (by kernel_rfl) rfl (by rfl) (fun W hW => ?_) ?_; rotate_left; (have z0 := onB hW s0; have z1 := onB hW s1; have z2 := onB hW s2; go_simp; first | done | with_reducible rfl); simp only [Act.put, List.setIfInBounds_toArray, List.set_cons_zero, List.set_cons_succ]); (refine m_yes 13 (v := ?_) (by kernel_rfl) rfl (by rfl) (fun W hW => ?_) ?_; rotate_left; (have z0 := onB hW s0; have z1 := onB hW s1; have z2 := onB hW s2; go_simp; first | done | with_reducible rfl); simp only [Act.put, List.setIfInBounds_toArray, List.set_cons_zero, List.set_cons_succ])
            (refine m_q 14 (v := ?_) (by kernel_rfl) rfl rfl (fun W hW => ?_) ?_; rotate_left; (go_simp; first | done | with_reducible rfl); simp only [Act.put, List.setIfInBounds_toArray, List.set_cons_zero, List.set_cons_succ]); (refine m_q 15 (v := ?_) (by kernel_rfl) rfl rfl (fun W hW => ?_) ?_; rotate_left; (go_simp; first | done | with_reducible rfl); simp only [Act.put, List.setIfInBounds_toArray, List.set_cons_zero, List.set_cons_succ])
            (refine m_no 16 (by kernel_rfl) rfl (by rfl) ?_; simp only [Act.put, List.setIfInBounds_toArray, List.set_cons_zero, List.set_cons_succ]); (refine m_no 17 (by kernel_rfl) rfl (by rfl) ?_; simp only [Act.put, List.setIfInBounds_toArray, List.set_cons_zero, List.set_cons_succ]); (refine m_no 18 (by kernel_rfl) rfl (by rfl) ?_; simp only [Act.put, List.setIfInBounds_toArray, List.set_cons_zero, List.set_cons_succ]); (refine m_no 19 (by kernel_rfl) rfl (by rfl) ?_; simp only [Act.put, List.setIfInBounds_toArray, List.set_cons_zero, List.set_cons_succ]); (refine m_no 20 (by kernel_rfl) rfl (by rfl) ?_; simp only [Act.put, List.setIfInBounds_toArray, List.set_cons_zero, List.set_cons_succ])
            (refine m_q 21 (v := ?_) (by kernel_rfl) rfl rfl (fun W hW => ?_) ?_; rotate_left; (go_simp; first | done | with_reducible rfl); simp only [Act.put, List.setIfInBounds_toArray, List.set_cons_zero, List.set_cons_succ])
            refine m_end (by kernel_rfl) ?_
            have hEE : stepE C D M P k x y = 2 := by
              rw [HE.out, if_pos (by unfold insideB; rw [decide_eq_false_iff_not]; omega)]
            have HEE := Lib.hid hEE
            clear hEE HMD HCD HMM
            have s0 := hSq.cell 0
            have s1 := hSq.cell 1
            have s2 := hSq.cell 2
            have q0 := hRq.cell 0
            have q1 := hRq.cell 1
            have r0 := hRq.frozen 0
            have r1 := hRq.frozen 1
            go_wp2_with fail
            have hRe := (hRq.set_ 0 (.pointer none)).set_ 1 (.pointer none)
            have cX := hRe.cell 0
            have cY := hRe.cell 1
            exact bodyPost_ret (v := .tuple #[.agg #[(.pointer none), (.pointer none)], .int .i64 2]) (by simp [results, Tryd.results22, go_sem, cX, cY]) rfl ⟨(bq.setCell (by simp; omega) _).setCell (by simp; omega) _, .inl ⟨by rw [HEE.out]; decide, by rw [HEE.out]; rfl⟩⟩
          · (refine m_yes 11 (v := ?_) (by kernel_rfl) rfl (by rfl) (fun W hW => ?_) ?_; rotate_left; (have z0 := onB hW s0; have z1 := onB hW s1; have z2 := onB hW s2; go_simp; first | done | with_reducible rfl); simp only [Act.put, List.setIfInBounds_toArray, List.set_cons_zero, List.set_cons_succ]); (refine m_yes 12 (v := ?_) (by kernel_rfl) rfl (by rfl) (fun W hW => ?_) ?_; rotate_left; (have z0 := onB hW s0; have z1 := onB hW s1; have z2 := onB hW s2; go_simp; first | done | with_reducible rfl); simp only [Act.put, List.setIfInBounds_toArray, List.set_cons_zero, List.set_cons_succ]); (refine m_yes 13 (v := ?_) (by kernel_rfl) rfl (by rfl) (fun W hW => ?_) ?_; rotate_left; (have z0 := onB hW s0; have z1 := onB hW s1; have z2 := onB hW s2; go_simp; first | done | with_reducible rfl); simp only [Act.put, List.setIfInBounds_toArray, List.set_cons_zero, List.set_cons_succ])
            (refine m_q 14 (v := ?_) (by kernel_rfl) rfl rfl (fun W hW => ?_) ?_; rotate_left; (go_simp; first | done | with_reducible rfl); simp only [Act.put, List.setIfInBounds_toArray, List.set_cons_zero, List.set_cons_succ]); (refine m_q 15 (v := ?_) (by kernel_rfl) rfl rfl (fun W hW => ?_) ?_; rotate_left; (go_simp; first | done | with_reducible rfl); simp only [Act.put, List.setIfInBounds_toArray, List.set_cons_zero, List.set_cons_succ])
            (refine m_yes 16 (v := ?_) (by kernel_rfl) rfl (by rfl) (fun W hW => ?_) ?_; rotate_left; (have z0 := onB hW s0; have z1 := onB hW s1; have z2 := onB hW s2; go_simp; first | done | with_reducible rfl); simp only [Act.put, List.setIfInBounds_toArray, List.set_cons_zero, List.set_cons_succ]); (refine m_yes 17 (v := ?_) (by kernel_rfl) rfl (by rfl) (fun W hW => ?_) ?_; rotate_left; (have z0 := onB hW s0; have z1 := onB hW s1; have z2 := onB hW s2; go_simp; first | done | with_reducible rfl); simp only [Act.put, List.setIfInBounds_toArray, List.set_cons_zero, List.set_cons_succ]); (refine m_yes 18 (v := ?_) (by kernel_rfl) rfl (by rfl) (fun W hW => ?_) ?_; rotate_left; (have z0 := onB hW s0; have z1 := onB hW s1; have z2 := onB hW s2; go_simp; first | done | with_reducible rfl); simp only [Act.put, List.setIfInBounds_toArray, List.set_cons_zero, List.set_cons_succ])
            refine m_s1 19 (by kernel_rfl) rfl ?_
            go_wp2_with fail
            refine HCL.out.mono ?_
            rintro e v1 ⟨rfl, rfl⟩
            go_wp2_with fail
            refine m_next (Below.refl _ _) ?_
            by_cases hy1 : (Cm : Int) ≤ y
            · (refine m_yes 20 (v := ?_) (by kernel_rfl) rfl (by rfl) (fun W hW => ?_) ?_; rotate_left; (go_simp; first | done | with_reducible rfl); simp only [Act.put, List.setIfInBounds_toArray, List.set_cons_zero, List.set_cons_succ])
              (refine m_q 21 (v := ?_) (by kernel_rfl) rfl rfl (fun W hW => ?_) ?_; rotate_left; (go_simp; first | done | with_reducible rfl); simp only [Act.put, List.setIfInBounds_toArray, List.set_cons_zero, List.set_cons_succ])
              refine m_end (by kernel_rfl) ?_
              have hEE : stepE C D M P k x y = 2 := by
                rw [HE.out, if_pos (by unfold insideB; rw [decide_eq_false_iff_not]; omega)]
              have HEE := Lib.hid hEE
              clear hEE HMD HCD HMM
              have s0 := hSq.cell 0
              have s1 := hSq.cell 1
              have s2 := hSq.cell 2
              have q0 := hRq.cell 0
              have q1 := hRq.cell 1
              have r0 := hRq.frozen 0
              have r1 := hRq.frozen 1
              go_wp2_with fail
              have hRe := (hRq.set_ 0 (.pointer none)).set_ 1 (.pointer none)
              have cX := hRe.cell 0
              have cY := hRe.cell 1
              exact bodyPost_ret (v := .tuple #[.agg #[(.pointer none), (.pointer none)], .int .i64 2]) (by simp [results, Tryd.results22, go_sem, cX, cY]) rfl ⟨(bq.setCell (by simp; omega) _).setCell (by simp; omega) _, .inl ⟨by rw [HEE.out]; decide, by rw [HEE.out]; rfl⟩⟩
            · (refine m_yes 20 (v := ?_) (by kernel_rfl) rfl (by rfl) (fun W hW => ?_) ?_; rotate_left; (go_simp; first | done | with_reducible rfl); simp only [Act.put, List.setIfInBounds_toArray, List.set_cons_zero, List.set_cons_succ])
              (refine m_q 21 (v := ?_) (by kernel_rfl) rfl rfl (fun W hW => ?_) ?_; rotate_left; (go_simp; first | done | with_reducible rfl); simp only [Act.put, List.setIfInBounds_toArray, List.set_cons_zero, List.set_cons_succ])
              refine m_end (by kernel_rfl) ?_
              obtain ⟨I, rfl⟩ := Int.eq_ofNat_of_zero_le (show 0 ≤ x by omega)
              obtain ⟨J, rfl⟩ := Int.eq_ofNat_of_zero_le (show 0 ≤ y by omega)
              have hI : I < Mm.length := by omega
              have hJ : J < Cm := by omega
              have hin : insideB Mm.length Cm I J = true := by unfold insideB; rw [decide_eq_true_eq]; omega
              have hE2 := HE.out
              rw [if_neg (by rw [hin]; decide), Int.toNat_natCast, Int.toNat_natCast, ← HBO.out] at hE2
              have hHH := pm_has m Cm Mm I J wq (hm2.below hbq)
              rw [hasR_nat, decide_eq_true hI, decide_eq_true hJ, Bool.true_and, Bool.true_and] at hHH
              obtain ⟨bg, hbg⟩ : ∃ b, b = mget Mm I J := ⟨_, rfl⟩
              rw [← hbg] at hHH hE2
              have HHH := hideC hHH
              have HE3 := Lib.hid hE2
              clear hHH hE2 hin hbg hx0 hx1 hy0 hy1
              have s0 := hSq.cell 0
              have s1 := hSq.cell 1
              have s2 := hSq.cell 2
              have q0 := hRq.cell 0
              have q1 := hRq.cell 1
              have r0 := hRq.frozen 0
              have r1 := hRq.frozen 1
              go_wp2_with fail; (with_reducible refine (HHH.out).mono ?_); rintro e w3 ⟨rfl, hb3⟩
              have b3 := bq.trans (hb3.mono bq.size)
              have hX3 := (hX2.below hbq hX2.lt).below hb3 (Nat.lt_of_lt_of_le hX2.lt hbq.size)
              have hS3 := hSq.below hb3 hSq.lt
              have hR3 := hRq.below hb3 hRq.lt
              have hle3 := b3.size
              have hm3 := (hm2.below hbq).below hb3
              have h3 := (h2.below hbq).below hb3
              clear s0 s1 s2 q0 q1 r0 r1 HE HRW HCL hRq hSq bq hbq hX2 hS2 hR2 hm2 h2 hb3
              have x0 := hX3.cell 0
              have x1 := hX3.cell 1
              have s0 := hS3.cell 0
              have s1 := hS3.cell 1
              have s2 := hS3.cell 2
              have q0 := hR3.cell 0
              have q1 := hR3.cell 1
              have r0 := hR3.frozen 0
              have r1 := hR3.frozen 1
              by_cases hbe : bg = bo
              · have hEE : stepE C D M P k I J = 7 := by rw [HE3.out, if_pos hbe]
                have HEE := Lib.hid hEE
                have hbe2 : (bg == bo) = true := by rw [beq_iff_eq]; exact hbe
                clear hEE hbe
                go_wp2_with fail
                have hRe := (hR3.set_ 0 (.pointer none)).set_ 1 (.pointer none)
                have cX := hRe.cell 0
                have cY := hRe.cell 1
                exact bodyPost_ret (v := .tuple #[.agg #[(.pointer none), (.pointer none)], .int .i64 7]) (by simp [results, Tryd.results22, go_sem, cX, cY]) rfl ⟨(b3.setCell (by simp; omega) _).setCell (by simp; omega) _, .inl ⟨by rw [HEE.out]; decide, by rw [HEE.out]; rfl⟩⟩
              · have hEE : stepE C D M P k I J = 0 := by rw [HE3.out, if_neg hbe]
                have HEE := Lib.hid hEE
                have hbe2 : (bg == bo) = false := by rw [beq_eq_false_iff_ne]; exact hbe
                have HS := hideC (pm_set m Cm Mm I J bo w3 hm3 hI hJ)
                clear hEE hbe HE3 hm3
                go_wp2_with fail; (with_reducible refine (HS.out).mono ?_); rintro e w4 ⟨n, rfl, hfr, hn, hb4⟩
                have hnu : n ≠ u := by have := h3.users.lt; omega
                have hnp : n ≠ p := by have := h3.perms.lt; omega
                have b4 := b3.trans (hb4.mono b3.size)
                have hX4 := hX3.below hb4 hX3.lt
                have hS4 := hS3.below hb4 hS3.lt
                have hR4 := hR3.below hb4 hR3.lt
                have h4 := h3.below hb4
                have hle4 := b4.size
                clear s0 s1 s2 q0 q1 r0 r1 x0 x1 hX3 hS3 hR3 h3 b3 hb4 hle3 HS
                have x0 := hX4.cell 0
                have x1 := hX4.cell 1
                have s0 := hS4.cell 0
                have s1 := hS4.cell 1
                have s2 := hS4.cell 2
                have q0 := hR4.cell 0
                have q1 := hR4.cell 1
                have r0 := hR4.frozen 0
                have r1 := hR4.frozen 1
                have hsU : stepU C M k I J = if k ≤ 2 then mat M.length C (withF M I J bo) else M := by rw [stepU, Int.toNat_natCast, Int.toNat_natCast, ← HBO.out]
                have hsP : stepP D P k I J = if k ≤ 2 then P else mat P.length D (withF P I J bo) := by rw [stepP, Int.toNat_natCast, Int.toNat_natCast, ← HBO.out]
                have HSU := Lib.hid hsU
                have HSP := Lib.hid hsP
                have hro := h4.roles
                have hup := h4.ne
                have HRO := Lib.hid hro
                have h5 := hideC h4
                clear hsU hsP hro h4
                by_cases hk2 : k ≤ 2
                · have hmu : m = u := by rw [HMD.out, if_pos hk2]
                  have hCC : Cm = C := by rw [HCD.out, if_pos hk2]
                  have hMM : Mm = M := by rw [HMM.out, if_pos hk2]
                  subst hmu hCC hMM
                  have HK2 := Lib.hid hk2
                  have hpe := fun W => eql_same m W
                  clear hk2 HMD HCD HMM
                  go_wp2_with fail
                  have hRe := (hR4.set_ 0 (ptr n)).set_ 1 (ptr p)
                  have cX := hRe.cell 0
                  have cY := hRe.cell 1
                  have hnc := (hn.cfg hR4 0 (ptr n)).cfg (a := some ⟨n, 0, none⟩) (b := none) (hR4.set_ 0 (ptr n)) 1 (ptr p)
                  have hpc := (h5.out.perms.cfg hR4 0 (ptr n)).cfg (a := some ⟨n, 0, none⟩) (b := none) (hR4.set_ 0 (ptr n)) 1 (ptr p)
                  refine bodyPost_ret (v := .tuple #[.agg #[.pointer (some ⟨n, 0, none⟩), .pointer (some ⟨p, 0, none⟩)], .int .i64 0]) (by simp [results, Tryd.results22, go_sem, cX, cY]) rfl ⟨(b4.setCell (by simp; omega) _).setCell (by simp; omega) _, .inr ⟨HEE.out, n, p, rfl, ?_⟩⟩
                  rw [HSU.out, HSP.out, if_pos HK2.out, if_pos HK2.out]
                  exact ⟨hnc, hpc, HRO.out, hnp⟩
                · have hmu : m = p := by rw [HMD.out, if_neg hk2]
                  have hCC : Cm = D := by rw [HCD.out, if_neg hk2]
                  have hMM : Mm = P := by rw [HMM.out, if_neg hk2]
                  subst hmu hCC hMM
                  have HK2 := Lib.hid hk2
                  have hpe := eql_other h5.out.perms h5.out.users (fun e => hup e.symm)
                  clear hk2 HMD HCD HMM
                  go_wp2_with fail
                  have hRe := (hR4.set_ 0 (ptr u)).set_ 1 (ptr n)
                  have cX := hRe.cell 0
                  have cY := hRe.cell 1
                  have hnc := (hn.cfg hR4 0 (ptr u)).cfg (a := some ⟨u, 0, none⟩) (b := none) (hR4.set_ 0 (ptr u)) 1 (ptr n)
                  have huc := (h5.out.users.cfg hR4 0 (ptr u)).cfg (a := some ⟨u, 0, none⟩) (b := none) (hR4.set_ 0 (ptr u)) 1 (ptr n)
                  refine bodyPost_ret (v := .tuple #[.agg #[.pointer (some ⟨u, 0, none⟩), .pointer (some ⟨n, 0, none⟩)], .int .i64 0]) (by simp [results, Tryd.results22, go_sem, cX, cY]) rfl ⟨(b4.setCell (by simp; omega) _).setCell (by simp; omega) _, .inr ⟨HEE.out, u, n, rfl, ?_⟩⟩
                  rw [HSU.out, HSP.out, if_neg HK2.out, if_neg HK2.out]
                  exact ⟨huc, hnc, by rw [mat_len]; exact HRO.out, fun e => hnu e.symm⟩
end Go.Proofs.YthkjigggfeejdaaDoor
