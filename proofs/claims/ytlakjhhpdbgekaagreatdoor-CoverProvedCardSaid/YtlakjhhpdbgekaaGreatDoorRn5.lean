/-
  rank.node: the first flaw of a node and of those below it.
-/
import Derived.Test.YtlakjhhpdbgekaaGreatDoorRnB
import Derived.Test.YtlakjhhpdbgekaaGreatDoorRgB
import Derived.Test.YtlakjhhpdbgekaaGreatDoorMix2
namespace Go.Proofs.YtlakjhhpdbgekaaGreatDoor
open Go.RowKit
attribute [local go_sem] Oper.semAt_some
theorem run_store_func {P : Program} {w : World} {a : Addr} {m : Mode} (fn : Fn) (first cap : Array Value) : (store a (.func fn first cap) m).run P w = stored P w a (.func fn first cap) m := run_store P w a _ m rfl
attribute [local go_sem] run_store_func

theorem sumO_succ {Os : List Nat} {i : Nat} (hi : i < Os.length) : sumO Os (i + 1) = sumO Os i + card (Os.getD i 0) := by
  unfold sumO
  rw [List.take_add_one, List.getElem?_eq_getElem hi, List.getD_eq_getElem?_getD, List.getElem?_eq_getElem hi, List.map_append, List.foldl_append]
  rfl
theorem greatO_le {C : Nat} {Ns Os : List Nat} (hC : C ≤ 12) (hN : Ns.length ≤ 4096) : ∀ n, greatO C Ns Os n ≤ 49152
  | 0 => by simp [greatO]
  | n + 1 => by
    have h1 := greatO_le (Os := Os) hC hN n
    have h2 := gainR_le C Ns Os n (mems (havN C Ns n))
    have h3 : (mems (havN C Ns n)).length ≤ 4096 := by
      rw [mems_len]
      exact Nat.le_trans (card_bits (C := Ns.length) fun x hx => havN_lt hN hx) hN
    have h4 : (mems (havN C Ns n)).length * C ≤ 4096 * 12 := Nat.mul_le_mul h3 hC
    rw [greatO_succ]
    omega

/-- All cells stay but those of one block. -/
def KeepX (g : Nat) (W W' : World) : Prop := W.heap.size ≤ W'.heap.size ∧ ∀ (k : Nat) cs t fz, k ≠ g → W.heap[k]? = some (Obj.cells cs t fz) → W'.heap[k]? = some (Obj.cells cs t fz)
theorem KeepX.refl (g : Nat) (W : World) : KeepX g W W := ⟨Nat.le_refl _, fun _ _ _ _ _ h => h⟩
theorem KeepX.trans {g : Nat} {W W' W'' : World} (h : KeepX g W W') (k : KeepX g W' W'') : KeepX g W W'' := ⟨Nat.le_trans h.1 k.1, fun n cs t fz hn hb => k.2 n cs t fz hn (h.2 n cs t fz hn hb)⟩
theorem KeepX.of_below {g : Nat} {W W' : World} (h : Below W.heap.size W W') : KeepX g W W' := ⟨h.size, fun k _ _ _ _ hb => (h.block k (Array.getElem?_eq_some_iff.1 hb).1).trans hb⟩
theorem KeepX.setCell (W : World) (p : Addr) (u : Value) : KeepX p.block W (W.setCell p u) := ⟨by simp [World.setCell], fun k _ _ _ hne hb => (Below.heap_setCell W p u k hne).trans hb⟩
theorem KeepX.grown {g : Nat} {W W' : World} {row : Option Nat} (hg : W.grownBy W' row) (hr : ∀ k, row = some k → ∃ o, W.heap[k]? = some o ∧ o.isCells = false) : KeepX g W W' :=
  ⟨hg.size, fun k _ _ _ _ hb => (hg.block k (Array.getElem?_eq_some_iff.1 hb).1 fun e => by
    obtain ⟨o, ho, hc⟩ := hr k e.symm
    rw [ho] at hb; cases hb; cases hc).trans hb⟩
theorem Blk.kx {W W' : World} {g k : Nat} {t : TypeId} {cs : Array Value} (hb : Blk W k t cs) (h : KeepX g W W') (hne : k ≠ g) : Blk W' k t cs := h.2 _ _ _ _ hne hb
theorem KeepX.keep {g : Nat} {W W' : World} {t : TypeId} {cs : Array Value} (h : KeepX g W W') (hb : Blk W g t cs) (ht : 110 ≠ t) : KeepW W W' :=
  ⟨h.1, fun k _ hk => h.2 _ _ _ _ (fun e => by subst e; unfold Blk at hk hb; rw [hb] at hk; cases hk; exact ht rfl) hk⟩
theorem Cln.blk {w : World} {g : Nat} {Ls : List Nat} (h : Cln w g Ls) : ∃ cs, Blk w g 65 cs := by obtain ⟨cs, _, h1, _⟩ := h; exact ⟨cs, h1⟩
theorem Cln.kc {w w' : World} {g : Nat} {Ls : List Nat} (h : Cln w g Ls) (k : KeepC w w') : Cln w' g Ls := by
  obtain ⟨cs, vs, h1, h2, h3⟩ := h
  exact ⟨cs, vs, h1.kc k, h2, h3.keep k.keep⟩
theorem Cln.own {w : World} {base g n c : Nat} {vs : List Value} {Ls : List Nat} (h : w.ownsRow base 65 1 (.slice (some ⟨g, 0, none⟩) n c) n vs) (hs : Sets w vs Ls) (hn : 0 < n) : Cln w g Ls ∧ base ≤ g ∧ n ≤ c := by
  rcases id h.2 with ⟨hv9, hlen0⟩ | ⟨g', cap, cur, hv9, hg, hB, hc1, hc2, hsz, htk⟩
  · omega
  · obtain ⟨rfl, rfl⟩ : g = g' ∧ c = cap := by
      injection hv9 with e1 e2 e3
      injection e1 with e1
      injection e1 with e1
      exact ⟨e1, e3⟩
    refine ⟨⟨cur, vs, hB, fun k u hu => ?_, hs⟩, hg, by omega⟩
    have hk : k < vs.length := (List.getElem?_eq_some_iff.1 hu).1
    rw [← htk] at hu
    rw [List.getElem?_take] at hu
    split at hu
    · rwa [Array.getElem?_toList] at hu
    · cases hu
theorem conP_len {C : Nat} {Ns : List Nat} (hl : Ns.length ≤ 4096) (hin : rowsIn C Ns) (i j : Int) : (conP C Ns i j).length ≤ 4096 := by
  unfold conP
  split
  · rename_i h
    obtain ⟨a, b, rfl, rfl, ha, hb, hbit⟩ := mhas_parts h.1
    have hc := h.2
    rw [mrow, if_pos (by omega), Int.toNat_natCast] at hc
    rw [Int.toNat_natCast, Int.toNat_natCast]
    have hDC : ∀ x, (Ns.getD a 0).testBit x = true → x < C := fun x hx => by
      have := hin a ha
      rw [← this, Nat.testBit_and, testBit_lowN, Bool.and_eq_true, decide_eq_true_eq] at hx
      exact hx.2
    have hKb : ∀ x, (Ns.getD a 0 ^^^ 2 ^ b).testBit x = true ↔ (Ns.getD a 0).testBit x = true ∧ x ≠ b := fun x => by rw [testBit_without hbit, Bool.and_eq_true, decide_eq_true_eq]
    have hcK : (mems (Ns.getD a 0 ^^^ 2 ^ b)).length ≤ 12 := by
      rw [← mems_len] at hc
      exact Nat.le_trans (List.Nodup.length_le_of_subset (mems_nodup _) fun x hx => mem_mems.2 ((hKb x).1 (mem_mems.1 hx)).1) hc
    have hnd : (conL C Ns a b).Nodup := (conL_lec C Ns a b).imp fun {x y} h e => by subst e; rw [lecR_irrefl] at h; cases h
    refine Nat.le_trans (List.Nodup.length_le_of_subset hnd fun s hs => (mem_candL hl ha (fun _ => Iff.rfl) hDC hbit hKb s).2 hs) (Nat.le_trans (candL_le _ _ _ _ _) ?_)
    exact Nat.le_trans (Nat.pow_le_pow_right (by omega) hcK) (by decide)
  · simp
theorem kids_at {g : Nat → Int → Int × Int} {l : List Nat} {m : List Int} {k s : Nat} {c : Int} (hs : l[k]? = some s) (hc : m[k]? = some c) :
    kidsF g ((l.drop k).zip (m.drop k)) = if (g s c).1 ≠ 1 then g s c else kidsF g ((l.drop (k + 1)).zip (m.drop (k + 1))) := by
  obtain ⟨h1, rfl⟩ := List.getElem?_eq_some_iff.1 hs
  obtain ⟨h2, rfl⟩ := List.getElem?_eq_some_iff.1 hc
  rw [List.drop_eq_getElem_cons h1, List.drop_eq_getElem_cons h2, List.zip_cons_cons, kidsF]
theorem hasO_pos {Os : List Nat} {i j : Int} (h : hasO Os i j = true) : 0 < Os.length := by
  unfold hasO at h
  simp only [Bool.and_eq_true, decide_eq_true_eq] at h
  omega

/-- What a call of node is handed. -/
structure NI (w : World) (q C : Nat) (Ns : List Nat) (A : Option Addr) (P : List Nd) (Ao : Option Addr) (vs : List Value) (Os : List Nat) : Prop where
  mat : IsMat w q C Ns
  rows : rowsIn C Ns
  nodes : IsNodes w A P
  form : FormOK P
  row : Row w Ao vs
  sets : Sets w vs Os
  len : Os.length = Ns.length
  tab : Tab w
section
variable {w w' : World} {q C : Nat} {Ns : List Nat} {A : Option Addr} {P : List Nd} {Ao : Option Addr} {vs : List Value} {Os : List Nat}
theorem NI.below (h : NI w q C Ns A P Ao vs Os) (hb : Below w.heap.size w w') : NI w' q C Ns A P Ao vs Os :=
  ⟨h.mat.below hb, h.rows, h.nodes.below hb, h.form, h.row.below hb, h.sets.below hb, h.len, h.tab.below hb⟩
end
namespace Mix2
set_option maxRecDepth 100000 in
set_option maxHeartbeats 16000000 in
theorem node_any (q C : Nat) (Ns : List Nat) (A : Option Addr) (c0 : Nat) (P : List Nd) : ∀ (f n : Nat) (b : Int) (Ao : Option Addr) (co : Nat) (vs : List Value) (Os : List Nat) (w : World), n < P.length → P.length ≤ f + n → 0 ≤ b → b ≤ 256 → Os.length ≤ co → NI w q C Ns A P Ao vs Os →
    Calls Tryz.prog 92 #[ptr q, .slice A P.length c0, .int .i64 n, .slice Ao Os.length co, .int .i64 b] w fun e w' => e = .returned (.tuple #[.int .u8 (nodeP C Ns P f n b Os).1, .int .i64 (nodeP C Ns P f n b Os).2]) ∧ Below w.heap.size w w' := by
  intro f
  induction f with
  | zero => intro n b Ao co vs Os w hn hf; omega
  | succ f ih =>
  intro n b Ao co vs Os w hn hf hb0 hb1 hco h
  obtain ⟨x, hx⟩ : ∃ x, P[n]? = some x := ⟨_, List.getElem?_eq_getElem hn⟩
  have hxd : P.getD n default = x := by rw [List.getD_eq_getElem?_getD, hx]; rfl
  obtain ⟨hkind, hchild⟩ := h.form n hn
  rw [hxd] at hkind hchild
  have hnode := congrArg id (rfl : nodeP C Ns P (f + 1) n b Os = nodeP C Ns P (f + 1) n b Os)
  obtain ⟨g, off, A1, c1, A2, c2, rfl, hg, n0, n1, n2, n3, n4, hch, hps, hchl, hk0, hk255⟩ := nodes_at h.nodes hx
  have hNP : ∀ r : Int × Int, (let x := x
    (if x.kind = 2 then (if x.cells.any (fun c => !hasO Os c.1 c.2) = true then (3, (n : Int)) else if (x.cells.length : Int) ≤ b ∨ apartB C Ns x.cells = false then (5, (n : Int)) else (1, 0))
    else if x.kind = 3 then (if 12 < C ∨ (sumO Os Os.length : Int) ≤ b * greatO C Ns Os (2 ^ C) then (5, (n : Int)) else (1, 0))
    else if hasO Os x.row x.col = false then (3, (n : Int))
    else if b < 1 then (5, (n : Int))
    else if (conP C Ns x.row x.col).length = 0 ∨ (conP C Ns x.row x.col).length ≠ x.ch.length then (4, (n : Int))
    else kidsF (fun s c => nodeP C Ns P f c (b - 1) (lessO C Ns Os s)) ((conP C Ns x.row x.col).zip x.ch)) = r) → nodeP C Ns P (f + 1) n b Os = r := fun r hr => by
    rw [nodeP, Int.toNat_natCast, hxd]; exact hr
  have HNP := Lib.hid hNP
  clear hNP hnode hxd
  have hmf : ∀ (fn : Fn) (first cap : Array Value) (W : World), (Instr.makeFunc fn first cap).run Tryz.prog W = .ok (.func fn first cap) W := fun _ _ _ _ => rfl
  refine (callsIn_wide (n := 9)).1 (callsIn_of_wp_marks Tryz.func92 rfl trivial (wpIn_wide.2 ?_) rfl)
  simp only [Tryz.ntmps92, List.size_toArray, List.length_cons, List.length_nil, Nat.reduceAdd, Nat.reduceSub, Array.replicate_succ, Array.replicate_zero, List.push_toArray, List.append_toArray, List.nil_append, List.cons_append]
  obtain ⟨kd, hkd⟩ : ∃ k : Int, k = x.kind := ⟨_, rfl⟩
  rw [← hkd] at n0 hkind
  have HKD := Lib.hid hkd
  clear hkd hk0 hk255
  by_cases k2 : kd = 2
  · subst k2
    go_wp2_with fail
    refine absC3 fun W1 h8 h12 h13 hb hz => ?_
    have hop : IsOpen W1 w.heap.size Os := ⟨Ao, co, vs, h8, h.row.below hb, h.sets.below hb, hco⟩
    have hps1 := hps.below hb
    have HA := Lib.hid (fun W hW => apart_any (some ⟨q, 0, none⟩) C Ns (.slice A2 x.cells.length c2) x.cells W (h.mat.below hW).mv (hps.below hW))
    refine (contains_node _ (fun c => !hasO Os c.1 c.2) _ x.cells W1 hps1 (fun W hW c => node2_any w.heap.size _ _ Os c W (hop.below hW) (h13.below hW h13.lt))).mono ?_
    rintro e w1 ⟨rfl, hb2⟩
    have hbw := hb.trans (hb2.mono hb.size)
    have a12 := (h12.below hb2 h12.lt).cell 4
    by_cases ha : (x.cells.any fun c => !hasO Os c.1 c.2) = true
    · have hret := HNP.out (3, (n : Int)) (by rw [← HKD.out, if_pos rfl, if_pos ha])
      rw [ha]
      go_wp2_with fail
      refine leave_marks (n₀ := w.heap.size) _ _ (show Marks _ _ [] from trivial) fun W' hW' => ⟨.tuple #[.int .u8 3, .int .i64 (n : Int)], by simp [results, Tryz.results92], by rw [hret], hbw.trans hW'.1⟩
    · have ha' := Bool.eq_false_iff.2 ha
      rw [ha']
      have HAA := Lib.hid ha
      clear ha ha'
      by_cases hle : (x.cells.length : Int) ≤ b
      · have hret := HNP.out (5, (n : Int)) (by rw [← HKD.out, if_pos rfl, if_neg HAA.out, if_pos (.inl hle)])
        have HR := Lib.hid hret
        clear hret
        go_wp2_with fail
        refine leave_marks (n₀ := w.heap.size) _ _ (show Marks _ _ [] from trivial) fun W' hW' => ⟨.tuple #[.int .u8 5, .int .i64 (n : Int)], by simp [results, Tryz.results92], by rw [HR.out], hbw.trans hW'.1⟩
      · have hAP := HA.out w1 hbw
        by_cases hap : apartB C Ns x.cells = false
        · have hret := HNP.out (5, (n : Int)) (by rw [← HKD.out, if_pos rfl, if_neg HAA.out, if_pos (.inr hap)])
          rw [hap] at hAP
          have HR := Lib.hid hret
          have HP := Lib.hid hAP
          clear hret hAP hap
          go_wp2_with fail
          refine HP.out.mono ?_
          rintro e w2 ⟨rfl, hb3⟩
          have hbw2 := hbw.trans (hb3.mono hbw.size)
          go_wp2_with fail
          refine leave_marks (n₀ := w.heap.size) _ _ (show Marks _ _ [] from trivial) fun W' hW' => ⟨.tuple #[.int .u8 5, .int .i64 (n : Int)], by simp [results, Tryz.results92], by rw [HR.out], hbw2.trans hW'.1⟩
        · have hret := HNP.out (1, 0) (by rw [← HKD.out, if_pos rfl, if_neg HAA.out, if_neg (fun h => h.elim hle hap)])
          rw [Bool.not_eq_false] at hap
          rw [hap] at hAP
          have HR := Lib.hid hret
          have HP := Lib.hid hAP
          clear hret hAP hap
          go_wp2_with fail
          refine HP.out.mono ?_
          rintro e w2 ⟨rfl, hb3⟩
          have hbw2 := hbw.trans (hb3.mono hbw.size)
          go_wp2_with fail
          refine leave_marks (n₀ := w.heap.size) _ _ (show Marks _ _ [] from trivial) fun W' hW' => ⟨.tuple #[.int .u8 1, .int .i64 0], by simp [results, Tryz.results92], by rw [HR.out], hbw2.trans hW'.1⟩
  · by_cases k3 : kd = 3
    · subst k3
      have hM := h.mat
      have hlN : Ns.length ≤ 4096 := h.mat.2.1
      have HLO := Lib.hid h.len
      have hO4 : Os.length ≤ 4096 := by rw [HLO.out]; exact hlN
      have hS := h.sets
      have hr := h.row
      have hT := h.tab
      go_wp2_with fail
      refine abs3 fun W1 h8 h12 h13 hb hz => ?_
      have hX : w.heap.size ≤ w.heap.size := Nat.le_refl _
      obtain ⟨X, hXe⟩ : ∃ X, X = w.heap.size := ⟨_, rfl⟩
      rw [← hXe] at h8 h12 h13 ⊢
      have HXE := Lib.hid hXe
      clear hXe hz hX
      refine wp_loopF (β := Nat) (fun i f => #[ptr q, .slice (some ⟨g, off, none⟩) P.length c0, .int .i64 n, .slice Ao Os.length co, .int .i64 b, f 5, f 6, f 7, .pointer (some ⟨X, 0, none⟩), f 9, .int .u8 0, .int .i64 0, .pointer (some ⟨X + 1, 0, none⟩), .pointer (some ⟨X + 1 + 1, 0, none⟩), .int .i64 (sumO Os i : Int), f 15, f 16, f 17, f 18, f 19, f 20, f 21, f 22, f 23, f 24, f 25, f 26, f 27, f 28, f 29, f 30, f 31, f 32, f 33, f 34, f 35, f 36, f 37, f 38, f 39, f 40, f 41, f 42, f 43, f 44, f 45, f 46, f 47, f 48, f 49, f 50, f 51, f 52, .slice Ao Os.length co, .int .i64 (Os.length : Int), .int .i64 (i : Int), f 56, f 57, f 58, f 59, f 60, f 61, f 62, f 63, f 64, f 65, f 66, f 67, f 68, f 69, f 70, f 71, f 72, f 73, f 74, f 75, f 76, f 77, f 78, f 79, f 80, f 81, f 82, f 83, f 84, f 85, f 86, f 87, f 88, f 89, f 90, f 91, f 92, f 93, f 94, f 95, f 96, f 97, f 98, f 99, f 100, f 101, f 102, f 103, f 104, f 105, f 106, f 107, f 108, f 109, f 110, f 111, f 112, f 113, f 114, f 115, f 116, f 117, f 118, f 119, f 120, f 121, f 122, f 123, f 124, f 125, f 126, f 127, f 128, f 129, f 130, f 131, f 132, f 133, f 134, f 135, f 136, f 137, f 138, f 139, f 140, f 141, f 142, f 143, f 144, f 145, f 146, f 147])
        (fun i ds W => i ≤ Os.length ∧ ds = [] ∧ Below w.heap.size w W ∧ Blk W X 83 #[.slice Ao Os.length co] ∧ sumO Os i ≤ i * 4096) (fun i => Os.length - i) 0 rfl
        ⟨Nat.zero_le _, rfl, hb, h8, by simp [sumO]⟩ ?_
      rintro i fr ds W ⟨hi, rfl, hbW, h8W, hsu⟩
      dsimp only at hi ⊢
      by_cases hlt : i < Os.length
      · have hv : i < vs.length := by rw [hS.1]; exact hlt
        obtain ⟨v, hvx⟩ : ∃ v, vs[i]? = some v := ⟨_, List.getElem?_eq_getElem hv⟩
        have hox : Os[i]? = some (Os.getD i 0) := by rw [List.getD_eq_getElem?_getD, List.getElem?_eq_getElem hlt]; rfl
        have sv := (hS.2 i v _ hvx hox).below hbW
        have hsc := sumO_succ hlt
        generalize Os.getD i 0 = ox at sv hsc
        obtain ⟨Av, cv, rfl, hnv, _⟩ := id sv
        have hcl := card_le hnv
        obtain ⟨g1, o1, rfl, hg1, hc1⟩ := hr (by omega)
        have d1 := onB hbW (hc1 i _ hvx)
        obtain ⟨su, hsue⟩ : ∃ s, s = sumO Os i := ⟨_, rfl⟩
        rw [← hsue] at hsc hsu ⊢
        have HSC := Lib.hid hsc
        clear hsue hsc hc1 hvx hox
        obtain ⟨hwr, hsu2, hs1, hlt2⟩ := sum_step hlt hO4 hsu hcl
        have HSU := Lib.hid (hsu2); have HS1 := Lib.hid hs1; have HLT := Lib.hid hlt2; have HWR := Lib.hid hwr
        clear hsu2 hs1 hlt2 hcl hwr
        have HLE := Lib.hid (fun W hW => len_any (.slice Av (nw ox) cv) ox W hW)
        go_wp2_with fail
        refine absC1 fun W2 h16 hb2 hz2 => ?_
        have hbW2 := hbW.trans (hb2.mono hbW.size)
        have h8W2 := h8W.below hb2 h8W.lt
        refine (HLE.out W2 (sv.below hb2)).mono ?_
        rintro e w3 ⟨rfl, hb3⟩
        have hbW3 := hbW2.trans (hb3.mono hbW2.size)
        have h8W3 := h8W2.below hb3 h8W2.lt
        go_wp2_with fail
        have h3 := HWR.out
        rw [h3, ← HSC.out]
        exact ⟨i + 1, rfl, ⟨HS1.out, trivial, hbW3, h8W3, by rw [HSC.out]; exact HSU.out⟩, HLT.out⟩
      · obtain rfl : i = Os.length := by omega
        have hO5 : Os.length ≤ 4096 := by rw [HLO.out]; exact hlN
        have hCw := cols_any q C Ns W (hM.below hbW)
        have HKR := Lib.hid (fun r hr => HNP.out r (by rw [← HKD.out, if_neg (by decide), if_pos rfl]; exact hr))
        obtain ⟨su, hsue⟩ : ∃ s, s = sumO Os Os.length := ⟨_, rfl⟩
        rw [← hsue] at hsu HKR ⊢
        have HCW := Lib.hid hCw
        clear hsue hCw
        go_wp2_with fail
        refine HCW.out.mono ?_
        rintro e w' ⟨rfl, rfl⟩
        by_cases hC : 12 < C
        · have hret := HKR.out (5, (n : Int)) (by rw [if_pos (.inl hC)])
          have HR := Lib.hid hret
          clear hret
          go_wp2_with fail
          refine leave_marks (n₀ := w.heap.size) _ _ (show Marks _ _ [] from trivial) fun W' hW' => ⟨.tuple #[.int .u8 5, .int .i64 (n : Int)], by simp [results, Tryz.results92], by rw [HR.out], hbW.trans hW'.1⟩
        · have hgl := greatO_le (Os := Os) (C := C) (by omega) hlN (2 ^ C)
          have HGA := Lib.hid (greatest_any q C Ns Ao co vs Os W (hM.below hbW) (by omega) (hr.below hbW) (hS.below hbW) HLO.out (hT.below hbW))
          obtain ⟨gr, hgr⟩ : ∃ x, x = greatO C Ns Os (2 ^ C) := ⟨_, rfl⟩
          rw [← hgr] at hgl HGA HKR
          have a8 := h8W.cell 0
          clear hgr
          have hm0 : 0 ≤ b * (gr : Int) := Int.mul_nonneg hb0 (by omega)
          have hm1 : b * (gr : Int) ≤ 256 * 49152 := Int.mul_le_mul hb1 (by omega) (by omega) (by omega)
          have hwr : wrap64 (b * (gr : Int)) = b * (gr : Int) := IntWalk.wrap64_in _ ⟨by omega, by omega⟩
          have HLO2 := Lib.hid hm1
          clear hm1
          go_wp2_with fail
          refine HGA.out.mono ?_
          rintro e w2 ⟨rfl, hb2⟩
          have hbW2 := hbW.trans (hb2.mono hbW.size)
          by_cases hle : (su : Int) ≤ b * gr
          · have hret := HKR.out (5, (n : Int)) (by rw [if_pos (.inr hle)])
            have HR := Lib.hid hret
            clear hret
            go_wp2_with fail
            refine leave_marks (n₀ := w.heap.size) _ _ (show Marks _ _ [] from trivial) fun W' hW' => ⟨.tuple #[.int .u8 5, .int .i64 (n : Int)], by simp [results, Tryz.results92], by rw [HR.out], hbW2.trans hW'.1⟩
          · have hret := HKR.out (1, 0) (by rw [if_neg (fun h => h.elim hC hle)])
            have HR := Lib.hid hret
            clear hret
            go_wp2_with fail
            refine leave_marks (n₀ := w.heap.size) _ _ (show Marks _ _ [] from trivial) fun W' hW' => ⟨.tuple #[.int .u8 1, .int .i64 0], by simp [results, Tryz.results92], by rw [HR.out], hbW2.trans hW'.1⟩
    · have k1 : kd = 1 := by omega
      subst k1
      have hM := h.mat
      have hlN : Ns.length ≤ 4096 := h.mat.2.1
      have HLO := Lib.hid h.len
      have hO4 : Os.length ≤ 4096 := by rw [HLO.out]; exact hlN
      have hS := h.sets
      have hr := h.row
      have hT := h.tab
      have HKR := Lib.hid (fun r hr => HNP.out r (by show ite _ _ _ = _; rw [← HKD.out, if_neg (by decide), if_neg (by decide)]; exact hr))
      go_wp2_with fail
      refine absC3 fun W1 h8 h12 h13 hb hz => ?_
      have hop : IsOpen W1 w.heap.size Os := ⟨Ao, co, vs, h8, hr.below hb, hS.below hb, hco⟩
      obtain ⟨X, hXe⟩ : ∃ X, X = w.heap.size := ⟨_, rfl⟩
      rw [← hXe] at h8 h12 h13 hop ⊢
      have HXE := Lib.hid hXe
      clear hXe hz
      refine (hasO_any X Os x.row x.col W1 hop).mono ?_
      rintro e w1 ⟨rfl, hb2⟩
      have hbw := hb.trans (hb2.mono hb.size)
      have h8w := h8.below hb2 h8.lt
      have h12w := h12.below hb2 h12.lt
      clear hb hb2 h8 h12 h13 hop
      by_cases hh : hasO Os x.row x.col = false
      · have hret := HKR.out (3, (n : Int)) (by rw [if_pos hh])
        rw [hh]
        have HR := Lib.hid hret
        clear hret hh
        go_wp2_with fail
        refine leave_marks (n₀ := w.heap.size) _ _ (show Marks _ _ [] from trivial) fun W' hW' => ⟨.tuple #[.int .u8 3, .int .i64 (n : Int)], by simp [results, Tryz.results92], by rw [HR.out], hbw.trans hW'.1⟩
      · have hh2 := Bool.not_eq_false _ ▸ hh
        rw [hh2]
        by_cases hb1' : b < 1
        · have hret := HKR.out (5, (n : Int)) (by rw [if_neg hh, if_pos hb1'])
          have HR := Lib.hid hret
          have HH := Lib.hid hh
          clear hret hh hh2
          go_wp2_with fail
          refine leave_marks (n₀ := w.heap.size) _ _ (show Marks _ _ [] from trivial) fun W' hW' => ⟨.tuple #[.int .u8 5, .int .i64 (n : Int)], by simp [results, Tryz.results92], by rw [HR.out], hbw.trans hW'.1⟩
        · have HKS := Lib.hid (fun r hr => HKR.out r (by rw [if_neg hh, if_neg hb1']; exact hr))
          have HPO := Lib.hid (hasO_pos hh2)
          clear hh hh2
          have c1 := h12w.cell 1
          have c2 := h12w.cell 2
          go_wp2_with fail
          refine (conc_any (some ⟨q, 0, none⟩) C Ns x.row x.col w1 (hM.below hbw).mv h.rows (hT.below hbw)).mono ?_
          rintro e w2 ⟨A3, n3, c3, vs3, rfl, hn3, hr3, hs3, hb3⟩
          have hbw2 := hbw.trans (hb3.mono hbw.size)
          have h8w2 := h8w.below hb3 h8w.lt
          have h12w2 := h12w.below hb3 h12w.lt
          have hcl := conP_len hlN h.rows x.row x.col
          obtain ⟨Cs, hCs⟩ : ∃ Cs, Cs = conP C Ns x.row x.col := ⟨_, rfl⟩
          rw [← hCs] at hn3 hs3 HKS hcl
          have HCL := Lib.hid hcl
          clear hcl hCs hb3 h8w h12w c1 c2
          subst hn3
          have hCl := HCL.out
          by_cases he : Cs.length = 0 ∨ Cs.length ≠ x.ch.length
          · have hret := HKS.out (4, (n : Int)) (by rw [if_pos he])
            have HR := Lib.hid hret
            clear hret
            have c3' := h12w2.cell 3
            by_cases he0 : Cs.length = 0
            · rw [he0]
              clear he
              go_wp2_with fail
              refine leave_marks (n₀ := w.heap.size) _ _ (show Marks _ _ [] from trivial) fun W' hW' => ⟨.tuple #[.int .u8 4, .int .i64 (n : Int)], by simp [results, Tryz.results92], by rw [HR.out], hbw2.trans hW'.1⟩
            · have he1 := he.resolve_left he0
              clear he
              have hw0 : ¬ ((Cs.length : Int) = 0) := by omega
              have hw0b : ((Cs.length : Int) == 0) = false := by rw [beq_eq_false_iff_ne]; omega
              have hw1 : ¬ ((Cs.length : Int) = (x.ch.length : Int)) := by omega
              have hw1b : ((Cs.length : Int) != (x.ch.length : Int)) = true := by rw [bne_iff_ne]; omega
              go_wp2_with fail
              refine leave_marks (n₀ := w.heap.size) _ _ (show Marks _ _ [] from trivial) fun W' hW' => ⟨.tuple #[.int .u8 4, .int .i64 (n : Int)], by simp [results, Tryz.results92], by rw [HR.out], hbw2.trans hW'.1⟩
          · have HKT := Lib.hid (fun r hr => HKS.out r (by rw [if_neg he]; exact hr))
            have he0 : 0 < Cs.length := by omega
            have he1 : x.ch.length = Cs.length := by omega
            have c3' := h12w2.cell 3
            clear he
            rw [he1] at c3' h12w2 hchl
            have HE1 := Lib.hid he1
            clear he1
            have hw0 : ¬ ((Cs.length : Int) = 0) := by omega
            have hw0b : ((Cs.length : Int) == 0) = false := by rw [beq_eq_false_iff_ne]; omega
            go_wp2_with fail
            have hpo := HPO.out
            obtain ⟨go, oo, rfl, -, -⟩ := h.row (by rw [hS.1]; exact hpo)
            obtain ⟨G, hG⟩ : ∃ G : Nat → Int → Int × Int, G = fun s c => nodeP C Ns P f c (b - 1) (lessO C Ns Os s) := ⟨_, rfl⟩
            rw [← hG] at HKT
            have HG := Lib.hid (fun s c => congrFun (congrFun hG s) c)
            clear hG hpo
            have hw2 : w.heap.size ≤ w2.heap.size := hbw2.size
            refine wp_loopF (β := Nat) (fun k f => #[ptr q, .slice (some ⟨g, off, none⟩) P.length c0, .int .i64 n, f 3, .int .i64 b, f 5, f 6, f 7, .pointer (some ⟨X, 0, none⟩), f 9, .int .u8 0, .int .i64 0, .pointer (some ⟨X + 1, 0, none⟩), f 13, f 14, f 15, f 16, .slice A3 Cs.length c3, f 18, f 19, f 20, f 21, f 22, f 23, f 24, f 25, f 26, f 27, f 28, f 29, f 30, f 31, f 32, f 33, f 34, f 35, f 36, f 37, f 38, f 39, f 40, f 41, f 42, f 43, f 44, f 45, f 46, f 47, f 48, f 49, f 50, f 51, f 52, f 53, f 54, f 55, f 56, f 57, f 58, f 59, f 60, f 61, f 62, f 63, f 64, f 65, f 66, f 67, f 68, f 69, f 70, f 71, f 72, f 73, f 74, f 75, f 76, f 77, f 78, f 79, f 80, f 81, f 82, f 83, f 84, f 85, f 86, f 87, f 88, f 89, f 90, f 91, f 92, f 93, f 94, f 95, f 96, f 97, f 98, f 99, f 100, f 101, f 102, f 103, f 104, f 105, .slice A3 Cs.length c3, .int .i64 (Cs.length : Int), .int .i64 (k : Int), f 109, f 110, f 111, f 112, f 113, f 114, f 115, f 116, f 117, f 118, f 119, f 120, f 121, f 122, f 123, f 124, f 125, f 126, f 127, f 128, f 129, f 130, f 131, f 132, f 133, f 134, f 135, f 136, f 137, f 138, f 139, f 140, f 141, f 142, f 143, f 144, f 145, f 146, f 147])
              (fun k ds W => k ≤ Cs.length ∧ Marks w.heap.size W ds ∧ Below w2.heap.size w2 W ∧ kidsF G (Cs.zip x.ch) = kidsF G ((Cs.drop k).zip (x.ch.drop k))) (fun k => Cs.length - k) 0 rfl
              ⟨Nat.zero_le _, trivial, Below.refl _ _, rfl⟩ ?_
            rintro k fr ds W ⟨hk, hMk, hbk, hkid⟩
            dsimp only at hk ⊢
            have hbW := hbw2.trans (hbk.mono hw2)
            by_cases hlt : k < Cs.length
            · obtain ⟨s, hsx⟩ : ∃ s, Cs[k]? = some s := ⟨_, List.getElem?_eq_getElem hlt⟩
              obtain ⟨c, hcx⟩ : ∃ c, x.ch[k]? = some c := ⟨_, List.getElem?_eq_getElem (by rw [HE1.out]; exact hlt)⟩
              rw [kids_at hsx hcx, HG.out] at hkid
              obtain ⟨hc1, hc2⟩ := hchild c (List.mem_of_getElem? hcx)
              obtain ⟨m, rfl⟩ := Int.eq_ofNat_of_zero_le (show 0 ≤ c by omega)
              have hv3 : k < vs3.length := by rw [hs3.1]; exact hlt
              obtain ⟨v, hvx⟩ : ∃ v, vs3[k]? = some v := ⟨_, List.getElem?_eq_getElem hv3⟩
              have sv := hs3.2 k v s hvx hsx
              obtain ⟨As, cs, rfl, _⟩ := id sv
              obtain ⟨g3, o3, rfl, hg3, hc3⟩ := hr3 (by omega)
              have d0 := onB hbk (hc3 k _ hvx)
              have h8k := h8w2.below hbk h8w2.lt
              have h12k := h12w2.below hbk h12w2.lt
              have svk := sv.below hbk
              have a8 := h8k.cell 0
              have l8 := h8k.lt
              have HKID := Lib.hid hkid
              have HC1 := Lib.hid hc1; have HC2 := Lib.hid hc2
              clear hkid hc1 hc2 sv hvx hc3 hv3 c3' hsx
              go_wp2_with fail
              refine absC1 fun W1 h19 hb1 hz1 => ?_
              have k1 := hbk.trans (hb1.mono hbk.size)
              have l1 := hbW.trans (hb1.mono hbW.size)
              have h8_1 := h8k.below hb1 h8k.lt
              have h12_1 := h12k.below hb1 h12k.lt
              have sv1 := svk.below hb1
              have hM1 := hMk.kd (KeepD.of_below hb1)
              obtain ⟨g19, hg19⟩ : ∃ g, g = W.heap.size := ⟨_, rfl⟩
              have e19 : w2.heap.size ≤ g19 := by rw [hg19]; exact hbk.size
              rw [← hg19] at h19 ⊢
              clear hg19 hz1 hb1 h8k h12k svk d0 a8 l8
              refine (cloneS_any go oo co vs Os W1 (h.row.below l1) (hS.below l1) HPO.out (by rw [HLO.out]; exact hlN)).mono ?_
              rintro e W2 ⟨gc, cc, rfl, hown, hb2⟩
              obtain ⟨hcln, hgc, hcc⟩ := Cln.own hown ((hS.below l1).below hb2) HPO.out
              have k2 := k1.trans (hb2.mono k1.size)
              have l2 := l1.trans (hb2.mono l1.size)
              have h8_2 := h8_1.below hb2 h8_1.lt
              have h12_2 := h12_1.below hb2 h12_1.lt
              have h19_2 := h19.below hb2 h19.lt
              have sv2 := sv1.below hb2
              have hM2 := hM1.kd (KeepD.of_below hb2)
              have e19c : g19 < gc := Nat.lt_of_lt_of_le h19.lt hgc
              have eXc : X + 1 < gc := Nat.lt_of_lt_of_le h12_1.lt hgc
              have ecw : w2.heap.size ≤ gc := Nat.le_trans k1.size hgc
              clear hown hb2 h8_1 h12_1 h19 sv1 hM1 k1 l1
              have b19 := h19_2.cell 0
              have l19 := h19_2.lt
              go_wp2_with fail
              refine absC1 fun W3 h20 hb3 hz3 => ?_
              have k3 := k2.trans (hb3.mono k2.size)
              have l3 := l2.trans (hb3.mono l2.size)
              have h8_3 := h8_2.below hb3 h8_2.lt
              have h12_3 := h12_2.below hb3 h12_2.lt
              have h19_3 := h19_2.below hb3 h19_2.lt
              have hcln3 := hcln.below hb3
              have sv3 := sv2.below hb3
              have hM3 := hM2.kd (KeepD.of_below hb3)
              obtain ⟨g20, hg20⟩ : ∃ g, g = W2.heap.size := ⟨_, rfl⟩
              have e20 : gc < g20 := by rw [hg20]; exact hcln.lt
              rw [← hg20] at h20 ⊢
              clear hg20 hz3 hb3 h8_2 h12_2 h19_2 sv2 hM2 k2 l2 hcln b19 l19
              refine (having_any (some ⟨q, 0, none⟩) C Ns _ s W3 (hM.below l3).mv sv3 (hT.below l3)).mono ?_
              rintro e W4 ⟨r4, rfl, hr4, hb4⟩
              obtain ⟨R, hR⟩ : ∃ R, R = havN C Ns s := ⟨_, rfl⟩
              have HRL := Lib.hid (fun y (hy : R.testBit y = true) => (by rw [hR] at hy; exact havN_lt hlN hy : y < Ns.length))
              have hlm := lessP_mems C Ns Os s
              rw [← hR] at hr4 hlm
              have HLM := Lib.hid hlm
              obtain ⟨A4, c4, rfl, _⟩ := id hr4
              have k4 := k3.trans (hb4.mono k3.size)
              have l4 := l3.trans (hb4.mono l3.size)
              have h8_4 := h8_3.below hb4 h8_3.lt
              have h12_4 := h12_3.below hb4 h12_3.lt
              have h19_4 := h19_3.below hb4 h19_3.lt
              have h20_4 := h20.below hb4 h20.lt
              have hcln4 := hcln3.below hb4
              have sv4 := sv3.below hb4
              have hM4 := hM3.kd (KeepD.of_below hb4)
              clear hR hlm hb4 h8_3 h12_3 h19_3 h20 sv3 hM3 k3 l3 hcln3
              go_wp2_with fail
              refine (all_any A4 (nw R) c4 W4).mono ?_
              rintro e w5 ⟨rfl, hw5⟩
              have hY := hw5 ▸ Blk.new W4 65 #[.slice A4 (nw R) c4]
              have hb5 : Below W4.heap.size W4 w5 := by rw [hw5]; exact (Below.refl _ _).alloc (Nat.le_refl _) _
              clear hw5
              have k5 := k4.trans (hb5.mono k4.size)
              have l5 := l4.trans (hb5.mono l4.size)
              have h8_5 := h8_4.below hb5 h8_4.lt
              have h12_5 := h12_4.below hb5 h12_4.lt
              have h19_5 := h19_4.below hb5 h19_4.lt
              have h20_5 := h20_4.below hb5 h20_4.lt
              have hcln5 := hcln4.below hb5
              have sv5 := sv4.below hb5
              have sr5 := hr4.below hb5
              have hM5 := hM4.kd (KeepD.of_below hb5)
              have hT5 := hT.below l5
              obtain ⟨gy, hgy⟩ : ∃ g, g = W4.heap.size := ⟨_, rfl⟩
              rw [← hgy] at hY ⊢
              clear hgy hb5 h8_4 h12_4 h19_4 h20_4 sv4 hr4 hM4 k4 l4 hcln4
              go_wp2_with fail
              refine wp_rangeAll (v := .slice A4 (nw R) c4) (N := R) (Bx := gy) rfl (hY.cell 0) sr5 hT5 rfl
                (fun pre W => Cln W gc (lessP s Os pre) ∧ KeepX gc w5 W ∧ Below w2.heap.size w2 W ∧ KeepD w5 W) (fun _ _ _ => False)
                ?hI (fun _ _ _ _ _ hs _ _ => hs) ?h0 ?a1 ?assign ?body ?done (fun _ _ _ _ _ h _ => h.elim)
              case assign =>
                intro l x W K hKa
                gi_wp2
                exact hKa
              case hI =>
                rintro s W W' row ⟨h1, h2, h3, h4⟩ hg hrw
                exact ⟨h1.kc (KeepC.of_grown hg hrw), h2.trans (KeepX.grown hg fun k e => (hrw k e).2), h3.grown hg h3.size fun k' e => Nat.le_trans k5.size (hrw k' e).1, h4.grown hg hrw⟩
              case h0 => exact ⟨by rw [lessP_nil]; exact hcln5, KeepX.refl _ _, k5, KeepD.refl _⟩
              case body =>
                rintro ll pre y W' hy ⟨h1, h2, h3, h4⟩ hlen hkp
                have hxl : y < Os.length := by rw [HLO.out]; exact HRL.out y hy
                obtain ⟨vs6, hrow6, hset6⟩ := h1.row
                obtain ⟨cs6, hB6⟩ := h1.blk
                have hln := lessP_len s Os pre
                have hv6 : y < vs6.length := by rw [hset6.1, hln]; exact hxl
                obtain ⟨v6, hvx6⟩ : ∃ v, vs6[y]? = some v := ⟨_, List.getElem?_eq_getElem hv6⟩
                have hox : (lessP s Os pre)[y]? = some ((lessP s Os pre).getD y 0) := by rw [List.getD_eq_getElem?_getD, List.getElem?_eq_getElem (by rw [hln]; exact hxl)]; rfl
                have sv6 := hset6.2 y v6 _ hvx6 hox
                have hsn := lessP_snoc (s := s) (pre := pre) hxl
                generalize (lessP s Os pre).getD y 0 = oy at sv6 hsn
                obtain ⟨Av, cv, rfl, _⟩ := id sv6
                obtain ⟨g1, o1, he1, hg1, hcl⟩ := hrow6 (by omega)
                cases he1
                have d1 := hcl y _ hvx6
                rw [Nat.zero_add] at d1
                have h20y := h20_5.kx h2 (by omega)
                have h19y := h19_5.kx h2 (by omega)
                obtain ⟨cs5, hB5⟩ := hcln5.blk
                have svy := sv5.keep (h2.keep hB5 (by decide))
                have b20 := h20y.cell 0
                have b19 := h19y.cell 0
                have HSN := Lib.hid hsn
                have hd : Below W'.heap.size W' W'.drew := (Below.refl _ _).drew
                have HMI := hideC (res3 rfl (minus_any _ _ oy s W'.drew (sv6.below hd) (svy.below hd)))
                clear hsn hox hvx6 hcl hln hv6 hset6 hrow6 h20y h19y
                gi_wp2_with fail
                refine wpIn_spine (fun V => Below W'.heap.size W' V) [0, 1, 2, 3, 4, 5, 6] [7, 8, 9] (fun _ => trivial) (by kernel_rfl) (by kernel_rfl) (by kernel_rfl) ?_
                iterate 7 (refine wpE_op (v := ?_) rfl rfl (fun W hW => ?_) ?_; rotate_left; (have z0 := onB hW b20; have z1 := onB hW b19; have z2 := onB hW d1; go_simp; first | done | with_reducible rfl); simp only [Act.put, List.setIfInBounds_toArray, List.set_cons_zero, List.set_cons_succ])
                refine wpE_nil ⟨fun h => (by cases h), wpSpI_op rfl hd ?_⟩
                gi_wp2_with (refine ⟨trivial, ?_⟩; gi_at_call 122; refine (CallsIn.inRound ll (callsIn_wide.2 HMI.out)).mono ?_; rintro e w6 ⟨A7, n7, c7, rfl, hr7, hb6⟩)
                have hb6' := hd.trans (hb6.mono hd.size)
                have hB7 := hB6.below hb6' hB6.lt
                have f7 := hB7.frozen y
                have l7 := hB7.lt
                have h17 := h1.below hb6'
                have d7 := onB hb6' d1
                refine nxtI_op rfl hb6' ?_
                gi_wp2_with fail
                refine nxtI_op rfl hb6' ?_
                gi_wp2_with fail
                refine nxtI_nil ?_
                gi_wp2_with fail
                have hk8 := (KeepW.of_below hb6').trans (KeepW.setCell (p := ⟨gc, y, none⟩) hB7 (by decide) (.slice A7 n7 c7))
                have hb8 := (hb6'.mono h3.size).setCell (p := ⟨gc, y, none⟩) ecw (.slice A7 n7 c7)
                exact ⟨((KeepsOthers.of_below hb6').trans (KeepsOthers.setCell _ _ _)).from _, KpA.mk_ hk8 hb8 (hT.below hbw2).pos,
                  by rw [← HSN.out]; exact h17.put hr7, h2.trans ((KeepX.of_below hb6').trans (KeepX.setCell _ ⟨gc, y, none⟩ _)), h3.trans hb8, h4.others ((KeepsOthers.of_below hb6').trans (KeepsOthers.setCell _ _ _))⟩
              case done =>
                rintro D W' hD ⟨h1, h2, h3, h4⟩ hKd
                rw [HLM.out] at h1
                obtain ⟨vs6, hrow6, hset6⟩ := h1.row
                have hM6 := hM5.cons h4 (by have := k5.size; omega) hD hKd
                have h8_6 := h8_5.kx h2 (by omega)
                have h12_6 := h12_5.kx h2 (by omega)
                have h20_6 := h20_5.kx h2 (by omega)
                have l6 := hbw2.trans (h3.mono hw2)
                have hch6 := hch.below l6
                obtain ⟨g7, o7, rfl, hg7, hc7⟩ := hch6 (by rw [List.length_map, HE1.out]; omega)
                have d7 := hc7 k (.int .i64 (m : Int)) (by rw [List.getElem?_map, hcx]; rfl)
                have hbc : Below w.heap.size w W' := l6
                have hm1 := HC2.out
                have hm2 := HC1.out
                have HIH := Lib.hid (fun V (hV : Below W'.heap.size W' V) => ih m (b - 1) (some ⟨gc, 0, none⟩) cc vs6 (lessO C Ns Os s) V (by omega) (by omega) (by omega) (by omega) (by rw [lessO_len]; exact hcc)
                  ⟨(hM.below l6).below hV, h.rows, (h.nodes.below l6).below hV, h.form, hrow6.below hV, hset6.below hV, by rw [lessO_len]; exact HLO.out, (hT.below l6).below hV⟩)
                obtain ⟨rr, hrr⟩ : ∃ r, r = nodeP C Ns P f (m : Int) (b - 1) (lessO C Ns Os s) := ⟨_, rfl⟩
                rw [lessO_len] at HIH
                rw [← hrr] at HIH HKID
                obtain ⟨r1, r2⟩ := rr
                have hbm : wrap64 (b - 1) = b - 1 := IntWalk.wrap64_in _ ⟨by omega, by omega⟩
                clear hrr hc7 hM5 h8_5 h12_5 h20_5 h19_5 hcln5 hm1 hm2
                go_wp2_with fail
                refine wp_mix (fun V => Below W'.heap.size W' V) 16 (by kernel_rfl) (by kernel_rfl) (Below.refl _ _).drew ?_
                have hr := (Below.refl W'.heap.size W').drew
                obtain ⟨u, hu⟩ : ∃ V, V = W'.drew := ⟨_, rfl⟩
                rw [← hu] at hr ⊢
                clear hu
                have z3 := h12_6.cell 3
                have z20 := h20_6.cell 0
                (refine m_q 0 (v := ?_) (by kernel_rfl) rfl rfl (fun W hW => ?_) ?_; rotate_left; (have y3 := onB hW z3; have y20 := onB hW z20; have y7 := onB hW d7; go_simp; first | done | with_reducible rfl); simp only [Act.put, List.setIfInBounds_toArray, List.set_cons_zero, List.set_cons_succ]); (refine m_q 1 (v := ?_) (by kernel_rfl) rfl rfl (fun W hW => ?_) ?_; rotate_left; (have y3 := onB hW z3; have y20 := onB hW z20; have y7 := onB hW d7; go_simp; first | done | with_reducible rfl); simp only [Act.put, List.setIfInBounds_toArray, List.set_cons_zero, List.set_cons_succ]); (refine m_q 2 (v := ?_) (by kernel_rfl) rfl rfl (fun W hW => ?_) ?_; rotate_left; (have y3 := onB hW z3; have y20 := onB hW z20; have y7 := onB hW d7; go_simp; first | done | with_reducible rfl); simp only [Act.put, List.setIfInBounds_toArray, List.set_cons_zero, List.set_cons_succ]); (refine m_q 3 (v := ?_) (by kernel_rfl) rfl rfl (fun W hW => ?_) ?_; rotate_left; (have y3 := onB hW z3; have y20 := onB hW z20; have y7 := onB hW d7; go_simp; first | done | with_reducible rfl); simp only [Act.put, List.setIfInBounds_toArray, List.set_cons_zero, List.set_cons_succ]); (refine m_q 4 (v := ?_) (by kernel_rfl) rfl rfl (fun W hW => ?_) ?_; rotate_left; (have y3 := onB hW z3; have y20 := onB hW z20; have y7 := onB hW d7; go_simp; first | done | with_reducible rfl); simp only [Act.put, List.setIfInBounds_toArray, List.set_cons_zero, List.set_cons_succ]); (refine m_q 5 (v := ?_) (by kernel_rfl) rfl rfl (fun W hW => ?_) ?_; rotate_left; (have y3 := onB hW z3; have y20 := onB hW z20; have y7 := onB hW d7; go_simp; first | done | with_reducible rfl); simp only [Act.put, List.setIfInBounds_toArray, List.set_cons_zero, List.set_cons_succ]); (refine m_q 6 (v := ?_) (by kernel_rfl) rfl rfl (fun W hW => ?_) ?_; rotate_left; (have y3 := onB hW z3; have y20 := onB hW z20; have y7 := onB hW d7; go_simp; first | done | with_reducible rfl); simp only [Act.put, List.setIfInBounds_toArray, List.set_cons_zero, List.set_cons_succ]); (refine m_q 7 (v := ?_) (by kernel_rfl) rfl rfl (fun W hW => ?_) ?_; rotate_left; (have y3 := onB hW z3; have y20 := onB hW z20; have y7 := onB hW d7; go_simp; first | done | with_reducible rfl); simp only [Act.put, List.setIfInBounds_toArray, List.set_cons_zero, List.set_cons_succ]); (refine m_q 8 (v := ?_) (by kernel_rfl) rfl rfl (fun W hW => ?_) ?_; rotate_left; (have y3 := onB hW z3; have y20 := onB hW z20; have y7 := onB hW d7; go_simp; first | done | with_reducible rfl); simp only [Act.put, List.setIfInBounds_toArray, List.set_cons_zero, List.set_cons_succ]); (refine m_q 9 (v := ?_) (by kernel_rfl) rfl rfl (fun W hW => ?_) ?_; rotate_left; (have y3 := onB hW z3; have y20 := onB hW z20; have y7 := onB hW d7; go_simp; first | done | with_reducible rfl); simp only [Act.put, List.setIfInBounds_toArray, List.set_cons_zero, List.set_cons_succ])
                refine m_s1 10 (by kernel_rfl) rfl ?_
                go_wp2_with fail
                refine (HIH.out u hr).mono ?_
                rintro e u2 ⟨rfl, hb⟩
                have hr2 := hr.trans (hb.mono hr.size)
                go_wp2_with fail
                refine m_keep hr2 ?_
                (refine m_q 11 (v := ?_) (by kernel_rfl) rfl rfl (fun W hW => ?_) ?_; rotate_left; (go_simp; first | done | with_reducible rfl); simp only [Act.put, List.setIfInBounds_toArray, List.set_cons_zero, List.set_cons_succ]); (refine m_q 12 (v := ?_) (by kernel_rfl) rfl rfl (fun W hW => ?_) ?_; rotate_left; (go_simp; first | done | with_reducible rfl); simp only [Act.put, List.setIfInBounds_toArray, List.set_cons_zero, List.set_cons_succ]); (refine m_q 13 (v := ?_) (by kernel_rfl) rfl rfl (fun W hW => ?_) ?_; rotate_left; (go_simp; first | done | with_reducible rfl); simp only [Act.put, List.setIfInBounds_toArray, List.set_cons_zero, List.set_cons_succ]); (refine m_q 14 (v := ?_) (by kernel_rfl) rfl rfl (fun W hW => ?_) ?_; rotate_left; (go_simp; first | done | with_reducible rfl); simp only [Act.put, List.setIfInBounds_toArray, List.set_cons_zero, List.set_cons_succ]); (refine m_q 15 (v := ?_) (by kernel_rfl) rfl rfl (fun W hW => ?_) ?_; rotate_left; (go_simp; first | done | with_reducible rfl); simp only [Act.put, List.setIfInBounds_toArray, List.set_cons_zero, List.set_cons_succ])
                refine m_end (by kernel_rfl) ?_
                have hbk2 := h3.trans (hr2.mono h3.size)
                have hM7 := hM6.kd (KeepD.of_below hr2)
                clear z3 z20 hr hr2 hb
                by_cases h1r : r1 = 1
                · subst h1r
                  have HK2 := Lib.hid (HKID.out.trans (if_neg (by simp)))
                  go_wp2_with fail
                  exact ⟨k + 1, rfl, ⟨by omega, hM7, hbk2, HK2.out⟩, by omega⟩
                · have HK2 := Lib.hid (HKID.out.trans (if_pos h1r))
                  have HRET := Lib.hid (HKT.out _ HK2.out)
                  have h1b : (r1 != 1) = true := by rw [bne_iff_ne]; exact h1r
                  go_wp2_with fail
                  refine leave_marks (n₀ := w.heap.size) _ _ hM7 fun W'' hW'' => ⟨.tuple #[.int .u8 r1, .int .i64 r2], by simp [results, Tryz.results92], by rw [HRET.out], (hbw2.trans (hbk2.mono hw2)).trans hW''.1⟩
            · obtain rfl : k = Cs.length := by omega
              have hz : kidsF G ((Cs.drop Cs.length).zip (x.ch.drop Cs.length)) = (1, 0) := by rw [List.drop_length]; rfl
              have HRET := Lib.hid (HKT.out _ (hkid.trans hz))
              clear hz hkid
              go_wp2_with fail
              refine leave_marks (n₀ := w.heap.size) _ _ hMk fun W'' hW'' => ⟨.tuple #[.int .u8 1, .int .i64 0], by simp [results, Tryz.results92], by rw [HRET.out], hbW.trans hW''.1⟩
end Mix2
end Go.Proofs.YtlakjhhpdbgekaaGreatDoor
