import Derived.Test.YtfbkcdhmggjbaaaGreatDoorMix2
import Derived.Test.YtfbkcdhmggjbaaaGreatDoorMatx
import Derived.Test.YtfbkcdhmggjbaaaGreatDoorCvQ3
import Derived.Test.YtfbkcdhmggjbaaaGreatDoorRn8
/-
  The law wp_mix inside a round of a range over a function.
-/
namespace Go.Proofs.YtfbkcdhmggjbaaaGreatDoor
open Go.RowKit
namespace MixI
section
variable {F : Fence} {N : Nat} {P : Program} {l : List Oper} {Q : Exit → Act → World → Prop}
/-- The walk along canonical orders. -/
def wpM (F : Fence) (N : Nat) (P : Program) (l : List Oper) (Q : Exit → Act → World → Prop) : Nat → Array Bool → (World → Prop) → Act → World → Prop
  | 0, ls, _, a, W => Region.ready .any l.toArray ls = [] ∧ Q .normal a W
  | n + 1, ls, S, a, W =>
    (∃ i v, i ∈ Region.ready .any l.toArray ls ∧ Mix2.lateB l i = false ∧ EY P S l i a v ∧ wpM F N P l Q n (ls.setIfInBounds i true) S (a.put (dstOf l i) v) W) ∨
    ((Region.ready .any l.toArray ls = [] → Q .normal a W) ∧ ∀ s ∈ Region.ready .any l.toArray ls, match l[s]? with
      | none => False
      | some o => wpListIn F N P l.toArray (nxt fun a' W' => ∃ S' : World → Prop, S' W' ∧ ((∀ V, S' V → S V) ∨ Mix2.clears l ls s = true) ∧ wpM F N P l Q n (ls.setIfInBounds s true) S' a' W') [o] a W)
/-- What stands behind operation s. -/
def afterM (F : Fence) (N : Nat) (P : Program) (l : List Oper) (Q : Exit → Act → World → Prop) (n : Nat) (ls : Array Bool) (S : World → Prop) (s : Nat) (a' : Act) (W' : World) : Prop :=
  ∃ S' : World → Prop, S' W' ∧ ((∀ V, S' V → S V) ∨ Mix2.clears l ls s = true) ∧ wpM F N P l Q n (ls.setIfInBounds s true) S' a' W'

/-- A pending quiet operation comes up. -/
theorem Simbehind (hF : ∀ f, F.fn f) (hD : noDefer l = true) (hC : Mix2.ChkM l) {c : Nat → Value} {ls listed : Array Bool} {S : World → Prop} {a b : Act} {W : World} (I : Mix2.Sim P l c ls S a listed b W) {i : Nat} (hr : i ∈ Region.ready .any l.toArray listed) (hi : on ls i) :
    Mix2.Sim P l c ls S a (listed.setIfInBounds i true) (b.put (dstOf l i) (c i)) W ∧ ∀ K : Act → World → Prop, K (b.put (dstOf l i) (c i)) W → wpOpIn F N P l.toArray Q i K b W := by
  obtain ⟨hlt, hun, o, ho, hall⟩ := (ready_spec I.size).1 hr
  have hisz : i < listed.size := by rw [I.size]; exact hlt
  constructor
  · refine ⟨by simpa using I.size, I.lsize, fun j hj => ?_, Inv.closed_set I.closed I.size hr, I.lclosed, fun k hk hkn => I.pend k hk fun h => hkn (on_set h), by rw [put_size]; exact I.asize, ?_, fun k t hk hkn hd => ?_, fun t ht => ?_, I.s, fun k hk hl => on_set (I.late k hk hl)⟩
    · rcases on_of_set hj with rfl | hj
      · exact hi
      · exact I.sub j hj
    · cases dstOf l i <;> exact I.defers
    · have hne : k ≠ i := fun e => hkn (by rw [e]; exact on_self hisz)
      rw [I.at_ k t hk (fun h => hkn (on_set h)) hd]
      exact put_get _ (put_size ..).symm
    · by_cases hd : dstOf l i = some t
      · rw [I.at_ i t hi hun hd, hd]
      · rw [put_get_ne hd]
        refine I.else_ t fun k hk hkn hdk => ?_
        by_cases hki : k = i
        · exact hd (hki ▸ hdk)
        · exact ht k hk (fun h => hkn ((on_of_set h).resolve_left hki)) hdk
  · intro K hK
    have hy := I.pend i hi hun b (I.look hC hr)
    unfold EY at hy
    unfold wpOpIn
    have ho' : l.toArray[i]? = some o := by simpa using ho
    have hd : dstOf l i = o.dst := by simp [dstOf, ho]
    simp only [ho] at hy
    simp only [ho']
    rw [hd] at hK
    split
    · rename_i hw
      rw [if_pos hw] at hy
      refine ⟨fun f _ => hF f, ?_⟩
      rw [Oper.semAt_eq _ _ _ (noDefer_at hD ho), hy W I.s]
      exact hK
    · rename_i hw
      rw [if_neg hw] at hy
      rw [← hy]; exact ⟨fun f _ => hF f, hK⟩

/-- An operation that both runs take. -/
theorem Simboth (hF : ∀ f, F.fn f) (hD : noDefer l = true) (hC : Mix2.ChkM l) {c : Nat → Value} {ls listed : Array Bool} {S : World → Prop} {a b : Act} {W : World} {n : Nat} (I : Mix2.Sim P l c ls S a listed b W) {s : Nat} (hr : s ∈ Region.ready .any l.toArray listed) (hs : ¬ on ls s) {o : Oper} (ho : l[s]? = some o)
    (hgo : wpListIn F N P l.toArray (nxt (afterM F N P l Q n ls S s)) [o] a W) (K : Act → World → Prop)
    (hK : ∀ b' W' S' a', Mix2.Sim P l c (ls.setIfInBounds s true) S' a' (listed.setIfInBounds s true) b' W' → wpM F N P l Q n (ls.setIfInBounds s true) S' a' W' → K b' W') : wpOpIn F N P l.toArray Q s K b W := by
  obtain ⟨hlt, hun, o2, ho2, hall⟩ := (ready_spec I.size).1 hr
  rw [ho] at ho2; cases ho2
  have hlsz : s < ls.size := by rw [I.lsize]; exact hlt
  have hsz : s < listed.size := by rw [I.size]; exact hlt
  have hag := I.look hC hr
  rw [Mix2.looks_op ho] at hag
  have hd : dstOf l s = o.dst := by simp [dstOf, ho]
  have nodst : ∀ i, on ls i → ∀ t, o.dst = some t → dstOf l i ≠ some t := fun i hi t ht => by
    have hne : s ≠ i := fun e => hs (e ▸ hi)
    exact hC.dist s hlt i (Mix2.on_lt I.lsize hi) hne t (hd ▸ ht)
  have nolook : ∀ i, on ls i → ¬ on listed i → ∀ t, o.dst = some t → t ∉ looks l i := fun i hi hin t ht hl => by
    rcases hC.reads s hlt i (Mix2.on_lt I.lsize hi) t (hd ▸ ht) hl with hw | hw
    · exact hs (I.lclosed i s hi hw)
    · obtain ⟨o', ho', e, he, hb, rfl⟩ := waitsI_spec hw
      rw [ho] at ho'; cases ho'
      exact hin (hall e he hb)
  have next : ∀ v D W', afterM F N P l Q n ls S s (({ a with defers := D } : Act).put o.dst v) W' → K (({ b with defers := D } : Act).put o.dst v) W' := by
    rintro v D W' ⟨S', hS', hsub, hm⟩
    refine hK _ _ S' _ ⟨by simpa using I.size, by simpa using I.lsize, fun j hj => ?_, Inv.closed_set I.closed I.size hr, fun j i hj hw => ?_, fun i hi hin b' hb' => ?_, ?_, ?_, fun i t hi hin hdi => ?_, fun t ht => ?_, hS', fun i hi hl => ?_⟩ hm
    · rcases on_of_set hj with rfl | hj
      · exact on_self hlsz
      · exact on_set (I.sub j hj)
    · rcases on_of_set hj with rfl | hj
      · obtain ⟨o', ho', e, he, hb, rfl⟩ := waitsI_spec hw
        rw [ho] at ho'; cases ho'
        exact on_set (I.sub _ (hall e he hb))
      · exact on_set (I.lclosed j i hj hw)
    · have hne : i ≠ s := fun e => hin (by rw [e]; exact on_self hsz)
      have hi' := (on_of_set hi).resolve_left hne
      have hin' : ¬ on listed i := fun h => hin (on_set h)
      rcases hsub with hsub | hcl
      · have hy := I.pend i hi' hin' b' fun t ht => by
          rw [hb' t ht]
          exact put_get_ne fun e => nolook i hi' hin' t e ht
        unfold EY at hy ⊢
        cases hoi : l[i]? with
        | none => rw [hoi] at hy; exact hy
        | some oi =>
          rw [hoi] at hy
          dsimp only at hy ⊢
          split at hy
          · rename_i hw; rw [if_pos hw]; exact fun V hV => hy V (hsub V hV)
          · rename_i hw; rw [if_neg hw]; exact hy
      · exfalso
        unfold Mix2.clears at hcl
        have hil := Mix2.on_lt I.lsize hi'
        have := List.all_eq_true.1 hcl i (List.mem_range.2 hil)
        simp only [Bool.or_eq_true, List.any_eq_true, Bool.and_eq_true] at this
        have hon : ls.getD i false = true := by
          unfold on at hi'; simp [hi']
        have up : ∀ j, waitsI l s j = true → on listed j := fun j hw => by
          obtain ⟨o', ho', e, he, hb, rfl⟩ := waitsI_spec hw
          rw [ho] at ho'; cases ho'
          exact hall e he hb
        rcases this with (h | h) | ⟨j, _, h1, h2⟩
        · simp [hon] at h
        · exact hin' (up i h)
        · exact hin' (I.closed j i (up j h1) h2)
    · simp only [put_size]; exact I.asize
    · cases o.dst <;> rfl
    · have hne : i ≠ s := fun e => hin (by rw [e]; exact on_self hsz)
      have hi' := (on_of_set hi).resolve_left hne
      rw [put_get_ne fun e => nodst i hi' t e hdi]
      refine (I.at_ i t hi' (fun h => hin (on_set h)) hdi).trans (put_get _ ?_)
      simp only [put_size]
    · by_cases hds : o.dst = some t
      · rw [hds]
        refine put_get _ ?_
        exact I.asize.symm
      · rw [put_get_ne hds, put_get_ne hds]
        refine I.else_ t fun i hi hin hdi => ?_
        have hne : i ≠ s := fun e => hs (e ▸ hi)
        exact ht i (on_set hi) (fun h => hin ((on_of_set h).resolve_left hne)) hdi
    · rcases on_of_set hi with rfl | hi
      · exact on_self hsz
      · exact on_set (I.late i hi hl)
  unfold wpOpIn
  have ho' : l.toArray[s]? = some o := by simpa using ho
  simp only [ho']
  unfold wpListIn at hgo
  rw [← wanted_agree hag] at hgo
  split
  · rename_i hw
    rw [if_pos hw] at hgo
    refine ⟨fun f _ => hF f, ?_⟩
    have hgo := hgo.2
    rw [Oper.semAt_eq _ _ _ (noDefer_at hD ho)] at hgo ⊢
    rw [execOp_congr o (hC.ok s o ho).1 (eval_agree hag)]
    refine upon_toI (A := a) (K := afterM F N P l Q n ls S s) (fun v W' h => ?_) (fun d W' h => ?_) _ hgo
    · have := next v a.defers W' h
      have e2 : ({ b with defers := a.defers } : Act) = b := by rw [← I.defers]
      rwa [e2] at this
    · have := next undef (d :: a.defers) W' h
      rw [I.defers]; exact this
  · rename_i hw
    rw [if_neg hw] at hgo
    have := next undef a.defers W hgo.2
    have e2 : ({ b with defers := a.defers } : Act) = b := by rw [← I.defers]
    rw [e2] at this
    exact ⟨fun f _ => hF f, this⟩

theorem wpM_done {n : Nat} {ls : Array Bool} {S : World → Prop} {a : Act} {W : World} (hr : Region.ready .any l.toArray ls = []) (h : wpM F N P l Q n ls S a W) : Q .normal a W := by
  cases n with
  | zero => exact h.2
  | succ n =>
    rcases h with ⟨i, v, hi, _, _⟩ | h
    · rw [hr] at hi; cases hi
    · exact h.1 hr
theorem Simdone (_hF : ∀ f, F.fn f) (_hD : noDefer l = true) (hC : Mix2.ChkM l) {c : Nat → Value} {ls listed : Array Bool} {S : World → Prop} {a b : Act} {W : World} {n : Nat} (I : Mix2.Sim P l c ls S a listed b W) (hr : Region.ready .any l.toArray listed = []) (h : wpM F N P l Q n ls S a W) : Q .normal b W := by
  have hall := Mix2.Sim.all hC I.size hr
  have hab : a = b := by
    have h1 : a.tmps = b.tmps := Array.ext_getElem? fun t => I.else_ t fun i hi hin => absurd (hall i (Mix2.on_lt I.lsize hi)) hin
    have h2 := I.defers
    cases a; cases b
    simp only at h1 h2
    rw [h1, h2]
  have hls : Region.ready .any l.toArray ls = [] := by
    apply List.eq_nil_iff_forall_not_mem.2
    intro i hi
    obtain ⟨hlt, hun, _⟩ := (ready_spec I.lsize).1 hi
    exact hun (I.sub i (hall i hlt))
  rw [← hab]
  exact wpM_done hls h

/-- One operation of the run at hand, whatever the canonical run does first. -/
theorem Simstep (hF : ∀ f, F.fn f) (hD : noDefer l = true) (hC : Mix2.ChkM l) : ∀ (n : Nat) (c : Nat → Value) (ls : Array Bool) (S : World → Prop) (a : Act) (listed : Array Bool) (b : Act) (W : World) (i : Nat) (K : Act → World → Prop), Mix2.Sim P l c ls S a listed b W → wpM F N P l Q n ls S a W → i ∈ Region.ready .any l.toArray listed →
    (∀ (m : Nat) (c' : Nat → Value) (ls' : Array Bool) (S' : World → Prop) (a' : Act) (b' : Act) (W' : World), Mix2.Sim P l c' ls' S' a' (listed.setIfInBounds i true) b' W' → wpM F N P l Q m ls' S' a' W' → K b' W') → wpOpIn F N P l.toArray Q i K b W
  | n, c, ls, S, a, listed, b, W, i, K, I, h, hr, hK => by
    by_cases hi : on ls i
    · obtain ⟨I', hop⟩ := Simbehind (F := F) (N := N) (Q := Q) hF hD hC I hr hi
      exact hop K (hK n c ls S a _ _ I' h)
    · obtain ⟨hlt, hun, o, ho, hall⟩ := (ready_spec I.size).1 hr
      have hrl : i ∈ Region.ready .any l.toArray ls := (ready_spec I.lsize).2 ⟨hlt, hi, o, ho, fun e he hb => I.sub _ (hall e he hb)⟩
      match n, h with
      | 0, h => rw [h.1] at hrl; cases hrl
      | n + 1, .inl ⟨k, v, hk, hl, hy, h⟩ => exact Simstep hF hD hC n _ _ S _ listed b W i K (I.ahead hC hk hl hy) h hr hK
      | n + 1, .inr h =>
        have hgo := h.2 i hrl
        rw [ho] at hgo
        exact Simboth hF hD hC I hr hi ho hgo K fun b' W' S' a' I' h' => hK n c _ S' a' b' W' I' h'

theorem Simany (hF : ∀ f, F.fn f) (hD : noDefer l = true) (hC : Mix2.ChkM l) : ∀ (fuel : Nat) (n : Nat) (c : Nat → Value) (ls : Array Bool) (S : World → Prop) (a : Act) (listed : Array Bool) (b : Act) (W : World), listed.toList.count false = fuel → Mix2.Sim P l c ls S a listed b W → wpM F N P l Q n ls S a W → wpAnyIn F N P .any l.toArray Q fuel listed b W
  | 0, n, c, ls, S, a, listed, b, W, hf, I, h => by
    have hr : Region.ready .any l.toArray listed = [] := by
      apply List.eq_nil_iff_forall_not_mem.2
      intro i hi
      obtain ⟨hlt, hun, _⟩ := (ready_spec I.size).1 hi
      have h1 : i < listed.toList.length := by rw [Array.length_toList, I.size]; exact hlt
      have h2 : listed.toList[i] = false := by
        unfold on at hun
        have h3 : i < listed.size := by rw [I.size]; exact hlt
        simp [h3] at hun
        simpa using hun
      have := List.count_pos_iff.2 (h2 ▸ List.getElem_mem h1)
      omega
    exact ⟨hr, Simdone hF hD hC I hr h⟩
  | fuel + 1, n, c, ls, S, a, listed, b, W, hf, I, h => by
    refine ⟨fun hr => Simdone hF hD hC I hr h, fun i hi => ?_⟩
    obtain ⟨hlt, hun, _⟩ := (ready_spec I.size).1 hi
    have hcount := Mix2.count_set (by rw [I.size]; exact hlt) hun hf
    exact Simstep hF hD hC n c ls S a listed b W i _ I h hi fun m c' ls' S' a' b' W' I' h' => Simany hF hD hC fuel m c' ls' S' a' _ b' W' hcount I' h'

/-- THE LAW. -/
theorem wpIn_mix {id : Nat} {a : Act} {w : World} (S : World → Prop) (n : Nat) (hF : ∀ f, F.fn f) (hD : noDefer l = true) (hm : P.follows .mixedOrders = true) (hC : Mix2.chkM l = true) (hS : S w.drew) (h : wpM F N P l Q n (Array.replicate l.length false) S a w.drew) : (Code.region id l.toArray true).wpIn F N P Q a w := by
  have hC := Mix2.chkM_spec hC
  have hoff : ∀ i, ¬ on (Array.replicate l.length false) i := fun i h => by
    unfold on at h
    obtain ⟨h1, h2⟩ := Array.getElem?_eq_some_iff.1 h
    simp at h2
  refine wpIn_region_any hm (Simany hF hD hC _ n (fun _ => undef) _ S a _ _ _ (by simp) ⟨by simp, by simp, fun i h => absurd h (by simpa using hoff i), fun j _ h => absurd h (by simpa using hoff j), fun j _ h => absurd h (hoff j), fun i h => absurd h (hoff i), rfl, rfl, fun i t h => absurd h (hoff i), fun _ _ => rfl, hS, fun i h => absurd h (hoff i)⟩ h)
end

section
variable {F : Fence} {N : Nat} {P : Program} {l : List Oper} {Q : Exit → Act → World → Prop} {n : Nat} {ls : Array Bool} {S : World → Prop} {a : Act} {W : World}
/-- A quiet operation that is not guarded; guarded: it runs; it does not. -/
theorem m_q (i : Nat) {o : Oper} {v : Value} (hr : ((Region.ready .any l.toArray ls).contains i && !Mix2.lateB l i) = true) (ho : l[i]? = some o) (hg : o.guard = none) (h : ∀ V, S V → (execOp a.eval o).run P V = .ok (.value v) V) (hk : wpM F N P l Q n (ls.setIfInBounds i true) S (a.put o.dst v) W) : wpM F N P l Q (n + 1) ls S a W := by
  refine .inl ⟨i, v, by have := (Bool.and_eq_true _ _ ▸ hr).1; simpa using this, by have := (Bool.and_eq_true _ _ ▸ hr).2; simpa using this, ?_, ?_⟩
  · unfold EY; rw [ho]; dsimp only; rw [if_pos (by simp [Region.wanted, hg])]; exact h
  · simpa [dstOf, ho] using hk
theorem m_yes (i : Nat) {o : Oper} {v : Value} (hr : ((Region.ready .any l.toArray ls).contains i && !Mix2.lateB l i) = true) (ho : l[i]? = some o) (hg : Region.wanted o (yielded l.toArray a.tmps) = true) (h : ∀ V, S V → (execOp a.eval o).run P V = .ok (.value v) V) (hk : wpM F N P l Q n (ls.setIfInBounds i true) S (a.put o.dst v) W) : wpM F N P l Q (n + 1) ls S a W := by
  refine .inl ⟨i, v, by have := (Bool.and_eq_true _ _ ▸ hr).1; simpa using this, by have := (Bool.and_eq_true _ _ ▸ hr).2; simpa using this, ?_, ?_⟩
  · unfold EY; rw [ho]; dsimp only; rw [if_pos hg]; exact h
  · simpa [dstOf, ho] using hk
theorem m_no (i : Nat) {o : Oper} (hr : ((Region.ready .any l.toArray ls).contains i && !Mix2.lateB l i) = true) (ho : l[i]? = some o) (hg : Region.wanted o (yielded l.toArray a.tmps) = false) (hk : wpM F N P l Q n (ls.setIfInBounds i true) S (a.put o.dst undef) W) : wpM F N P l Q (n + 1) ls S a W := by
  refine .inl ⟨i, undef, by have := (Bool.and_eq_true _ _ ▸ hr).1; simpa using this, by have := (Bool.and_eq_true _ _ ▸ hr).2; simpa using this, ?_, ?_⟩
  · unfold EY; rw [ho]; dsimp only; rw [if_neg (by rw [hg]; decide)]
  · simpa [dstOf, ho] using hk
/-- Of the others one is ready; two are; three. -/
theorem m_s1 (s : Nat) {o : Oper} (hr : Region.ready .any l.toArray ls = [s]) (ho : l[s]? = some o) (h : wpListIn F N P l.toArray (nxt (afterM F N P l Q n ls S s)) [o] a W) : wpM F N P l Q (n + 1) ls S a W := by
  refine .inr ⟨fun e => by rw [hr] at e; (cases e), fun i hi => ?_⟩
  rw [hr, List.mem_singleton] at hi
  subst hi
  rw [ho]; exact h
theorem m_s2 (s t : Nat) {o p : Oper} (hr : Region.ready .any l.toArray ls = [s, t]) (ho : l[s]? = some o) (hp : l[t]? = some p) (h : wpListIn F N P l.toArray (nxt (afterM F N P l Q n ls S s)) [o] a W) (h2 : wpListIn F N P l.toArray (nxt (afterM F N P l Q n ls S t)) [p] a W) : wpM F N P l Q (n + 1) ls S a W := by
  refine .inr ⟨fun e => by rw [hr] at e; (cases e), fun i hi => ?_⟩
  rw [hr] at hi
  simp only [List.mem_cons, List.mem_nil_iff, or_false] at hi
  rcases hi with rfl | rfl
  · rw [ho]; exact h
  · rw [hp]; exact h2
theorem m_s3 (s t u : Nat) {o p q : Oper} (hr : Region.ready .any l.toArray ls = [s, t, u]) (ho : l[s]? = some o) (hp : l[t]? = some p) (hq : l[u]? = some q) (h : wpListIn F N P l.toArray (nxt (afterM F N P l Q n ls S s)) [o] a W) (h2 : wpListIn F N P l.toArray (nxt (afterM F N P l Q n ls S t)) [p] a W) (h3 : wpListIn F N P l.toArray (nxt (afterM F N P l Q n ls S u)) [q] a W) : wpM F N P l Q (n + 1) ls S a W := by
  refine .inr ⟨fun e => by rw [hr] at e; (cases e), fun i hi => ?_⟩
  rw [hr] at hi
  simp only [List.mem_cons, List.mem_nil_iff, or_false] at hi
  rcases hi with rfl | rfl | rfl
  · rw [ho]; exact h
  · rw [hp]; exact h2
  · rw [hq]; exact h3
/-- It waits for all before it: whatever it has done. -/
theorem m_clear {s : Nat} (hc : Mix2.clears l ls s = true) (h : wpM F N P l Q n (ls.setIfInBounds s true) (fun V => Below W.heap.size W V) a W) : nxt (afterM F N P l Q n ls S s) .normal a W :=
  ⟨_, Below.refl _ _, .inr hc, h⟩
theorem m_end (hr : Region.ready .any l.toArray ls = []) (h : Q .normal a W) : wpM F N P l Q n ls S a W := by
  cases n with
  | zero => exact ⟨hr, h⟩
  | succ n => exact .inr ⟨fun _ => h, fun i hi => by rw [hr] at hi; cases hi⟩
theorem m_keep {F : Fence} {N : Nat} {P : Program} {l : List Oper} {Q : Exit → Act → World → Prop} {n : Nat} {ls : Array Bool} {S : World → Prop} {a : Act} {W : World} {s : Nat} (hS : S W) (h : wpM F N P l Q n (ls.setIfInBounds s true) S a W) : nxt (afterM F N P l Q n ls S s) .normal a W :=
  ⟨S, hS, .inl fun _ h => h, h⟩
end
end MixI
end Go.Proofs.YtfbkcdhmggjbaaaGreatDoor

/-
  package cover: some uncovered ones of which no two lie in one rectangle.
-/
namespace Go.Proofs.YtfbkcdhmggjbaaaGreatDoor
open Go.RowKit
attribute [local go_sem] Oper.semAt_some
theorem run_store_funcE {P : Program} {w : World} {a : Addr} {m : Mode} (fn : Fn) (first cap : Array Value) : (store a (.func fn first cap) m).run P w = stored P w a (.func fn first cap) m := run_store P w a _ m rfl
attribute [local go_sem] run_store_funcE

/-- The cells that fooling takes. -/
def foolS (C : Nat) (Ns : List Nat) (l : List (Nat × Nat)) (c : Nat × Nat) : List (Nat × Nat) := if foolP C Ns (cz (l ++ [c])) = true then l ++ [c] else l
def foolL (C : Nat) (Ns : List Nat) (o : List (Nat × Nat)) : List (Nat × Nat) := o.foldl (foolS C Ns) []
theorem foolS_len (C : Nat) (Ns : List Nat) (l : List (Nat × Nat)) (c : Nat × Nat) : (foolS C Ns l c).length ≤ l.length + 1 := by
  unfold foolS; split
  · rw [List.length_append]; exact Nat.le_refl _
  · omega
theorem foolF_len (C : Nat) (Ns : List Nat) : ∀ (o l : List (Nat × Nat)), (o.foldl (foolS C Ns) l).length ≤ l.length + o.length
  | [], l => Nat.le_refl _
  | c :: o, l => by
    rw [List.foldl_cons]
    have h1 := foolF_len C Ns o (foolS C Ns l c)
    have h2 := foolS_len C Ns l c
    rw [List.length_cons]; omega
theorem foolL_snoc (C : Nat) (Ns : List Nat) (o : List (Nat × Nat)) (c : Nat × Nat) : foolL C Ns (o ++ [c]) = foolS C Ns (foolL C Ns o) c := by
  unfold foolL; rw [List.foldl_append]; rfl
theorem foolL_len (C : Nat) (Ns : List Nat) (o : List (Nat × Nat)) : (foolL C Ns o).length ≤ o.length := by
  have := foolF_len C Ns o []
  unfold foolL; simpa using this
namespace MixI
set_option maxRecDepth 100000 in
set_option maxHeartbeats 16000000 in
theorem fooling_any (gs base base' : Nat) (vL : Value) (q C : Nat) (Ns L Os : List Nat) (nd : Int) (v : Value) (w : World) (hM : IsMat w q C Ns) (hS : IsSr w gs base vL q C Ns L nd) (hO : OwnO w base' v Os) (hl : Os.length ≤ 60) (hcl : (cellsOf Os).length ≤ 1000) (hT : Tab w) :
    Calls Tryz.prog 121 #[ptr gs, v] w fun e w' => ∃ v', e = .returned v' ∧ OwnP w' w.heap.size v' (cz (foolL C Ns (cellsOf Os))) ∧ Below w.heap.size w w' := by
  obtain ⟨i0, hi0, hz0, hz1, hz2⟩ := info_parts info_pair
  obtain ⟨A, c, rfl⟩ := hO.val
  have HFO := Lib.hid (fun W v l (hb : Below w.heap.size w W) hp => fool_any q C Ns v l W (hM.below hb) hp)
  have HSB := Lib.hid (fun W (hb : Below w.heap.size w W) => (hS.below hb).1)
  have HO := Lib.hid hO
  have hmono := fun d k => onesC_le Os d k
  have HMO := Lib.hid hmono
  have HSN := Lib.hid (fun o c => foolL_snoc C Ns o c)
  have HLN := Lib.hid (fun o => foolL_len C Ns o)
  clear hmono hO
  refine (callsIn_wide (n := 9)).1 (callsIn_of_wp_marks Tryz.func121 rfl trivial (wpIn_wide.2 ?_) rfl)
  simp only [Tryz.ntmps121, List.size_toArray, List.length_cons, List.length_nil, Nat.reduceAdd, Nat.reduceSub, Array.replicate_succ, Array.replicate_zero, List.push_toArray, List.append_toArray, List.nil_append, List.cons_append]
  go_upto_region 2 with fail
  refine abs2 fun W1 h2 h5 hb1 hz1 => ?_
  clear hz1
  obtain ⟨g2, hg2⟩ : ∃ x, x = w.heap.size := ⟨_, rfl⟩
  have hgw : w.heap.size ≤ g2 := by omega
  rw [← hg2] at h2 h5 ⊢
  clear hg2
  go_wp2_with fail
  refine wp_loopF (β := Nat × Value) (fun x f => #[ptr gs, .slice A Os.length c, ptr g2, f 3, .slice none 0 0, ptr (g2 + 1), f 6, f 7, f 8, f 9, .slice A Os.length c, .int .i64 (Os.length : Int), .int .i64 (x.1 : Int), f 13, f 14, f 15, f 16, f 17, f 18, f 19, f 20, f 21, f 22, f 23, f 24, f 25, f 26, f 27, f 28, f 29, f 30, f 31, f 32, f 33, f 34, f 35])
    (fun x ds W => x.1 ≤ Os.length ∧ Marks w.heap.size W ds ∧ Below w.heap.size w W ∧ Blk W g2 131 #[ptr gs] ∧ Blk W (g2 + 1) 65 #[x.2] ∧ OwnP W (g2 + 2) x.2 (cz (foolL C Ns (onesC Os x.1)))) (fun x => Os.length - x.1) (0, .slice none 0 0) rfl
    ⟨Nat.zero_le _, trivial, hb1, h2, h5, OwnP.nil _ _⟩ ?_
  rintro ⟨k, v5⟩ f ds W ⟨hk, hM0, hb, k2, k5, hown⟩
  dsimp only at hk k5 hown ⊢
  by_cases hlt : k < Os.length
  · obtain ⟨gO, A1, c1, rfl, -, -, -, d0, s1⟩ := (HO.out.below hb).at hlt
    have hsu := onesC_succ Os k
    have hmo := HMO.out (Os.length - k) k
    rw [show k + (Os.length - k) = Os.length by omega] at hmo
    obtain ⟨N, hN⟩ : ∃ N, N = Os.getD k 0 := ⟨_, rfl⟩
    rw [← hN] at d0 s1 hsu
    have hmem : (onesC Os k).length ≤ 1000 := Nat.le_trans hmo hcl
    have HSU := Lib.hid hsu
    clear hN hsu hmo
    go_upto_region 5 with fail
    refine abs2 fun W3 h6 h7 hb3 hz3 => ?_
    clear hz3
    have k3 := hb.trans (hb3.mono hb.size)
    have k23 := k2.below hb3 k2.lt
    have k53 := k5.below hb3 k5.lt
    have hown3 := hown.below hb3
    have s13 := s1.below hb3
    have hM3 := hM0.kd (KeepD.of_below hb3)
    obtain ⟨g6, hg6⟩ : ∃ x, x = W.heap.size := ⟨_, rfl⟩
    have hg6x : g2 + 2 ≤ g6 := by rw [hg6]; exact k5.lt
    rw [← hg6] at h6 h7 ⊢
    have c7 := h7.cell 0
    clear hg6 hb3 d0 s1 hM0 k2 k5 hown hb
    go_wp2_with fail
    refine (all_any A1 (nw N) c1 W3).mono ?_
    rintro e w5 ⟨rfl, hw5⟩
    have hY := hw5 ▸ Blk.new W3 74 #[.slice A1 (nw N) c1]
    have hb5 : Below W3.heap.size W3 w5 := by rw [hw5]; exact (Below.refl _ _).alloc (Nat.le_refl _) _
    clear hw5
    have b5 := k3.trans (hb5.mono k3.size)
    have k25 := k23.below hb5 k23.lt
    have k55 := k53.below hb5 k53.lt
    have h65 := h6.below hb5 h6.lt
    have hown5 := hown3.below hb5
    have s15 := s13.below hb5
    have hM5 := hM3.kd (KeepD.of_below hb5)
    have hT5 := hT.below b5
    obtain ⟨gy, hgy⟩ : ∃ g, g = W3.heap.size := ⟨_, rfl⟩
    rw [← hgy] at hY ⊢
    clear hgy hb5 k3 k23 k53 h6 h7 s13 hM3 c7 hown3
    go_wp2_with fail
    refine wp_rangeAll (v := .slice A1 (nw N) c1) (N := N) (Bx := gy) rfl (hY.cell 0) s15 hT5 rfl
      (fun pre W => (∃ u, Blk W (g2 + 1) 65 #[u] ∧ OwnP W (g2 + 2) u (cz (foolL C Ns (onesC Os k ++ pre.map fun j => (k, j))))) ∧ Blk W g2 131 #[ptr gs] ∧ Blk W g6 3 #[.int .i64 (k : Int)] ∧ Below w.heap.size w W ∧ KeepD w5 W) (fun _ _ _ => False)
      ?hI (fun _ _ _ _ _ hs _ _ => hs) ?h0 ?a1 ?assign ?body ?done (fun _ _ _ _ _ h _ => h.elim)
    case assign =>
      intro l x W K hKa
      gi_wp2
      exact hKa
    case hI =>
      rintro s W W' row ⟨⟨u, h1, h1'⟩, h2, h3, h4, h5⟩ hg hrw
      have hkc := KeepC.of_grown hg hrw
      exact ⟨⟨u, h1.kc hkc, own_kc h1' hkc⟩, h2.kc hkc, h3.kc hkc, h4.grown hg h4.size fun k' e => Nat.le_trans b5.size (hrw k' e).1, h5.grown hg hrw⟩
    case h0 => exact ⟨⟨v5, k55, by simpa using hown5⟩, k25, h65, b5, KeepD.refl _⟩
    case body =>
      rintro ll pre x W hx ⟨⟨u, h1, h1'⟩, h2, h3, h4, h5⟩ hlen hkp
      have hW2 : g2 + 2 ≤ W.heap.size := h1.lt
      have hst : foolL C Ns (onesC Os k ++ (pre ++ [x]).map fun j => (k, j)) = foolS C Ns (foolL C Ns (onesC Os k ++ pre.map fun j => (k, j))) (k, x) := by
        rw [List.map_append, ← List.append_assoc]; exact HSN.out _ _
      have hll : (foolL C Ns (onesC Os k ++ pre.map fun j => (k, j))).length ≤ 5096 := Nat.le_trans (HLN.out _) (by rw [List.length_append, List.length_map]; omega)
      obtain ⟨Lq, hLq⟩ : ∃ l, l = foolL C Ns (onesC Os k ++ pre.map fun j => (k, j)) := ⟨_, rfl⟩
      rw [← hLq] at hst hll h1'
      unfold foolS at hst
      obtain ⟨fb, hfb⟩ : ∃ b, b = foolP C Ns (cz (Lq ++ [(k, x)])) := ⟨_, rfl⟩
      rw [← hfb] at hst
      have hFO2 := fun W v hb hp => HFO.out W v (cz (Lq ++ [(k, x)])) hb hp
      have hzl : (cz (Lq ++ [(k, x)])).length = Lq.length + 1 := by rw [cz_len]; simp
      have hzq : (cz Lq).length = Lq.length := cz_len Lq
      have hpn : PN W u (cz Lq) := OwnP.pn h1' (by rw [hzq]; omega)
      have HCL := Lib.hid (fun V (hV : Below W.heap.size W V) => clonep_pn (hpn.below hV))
      have HST := Lib.hid hst
      have HFB := Lib.hid hfb
      obtain ⟨A5, c5, rfl, -⟩ := id hpn
      have y5 := h1.cell 0
      have y6 := h3.cell 0
      have hzb : (cz Lq).length ≤ 5096 := by rw [hzq]; exact hll
      have HZL := Lib.hid hzl
      clear hLq hst hfb hFO2 hzq hzl
      gi_wp2_with fail
      refine wpIn_mix (fun V => Below W.heap.size W V) 8 (fun _ => trivial) (by kernel_rfl) (by kernel_rfl) (by kernel_rfl) (Below.refl _ _).drew ?_
      have hr := (Below.refl W.heap.size W).drew
      obtain ⟨uC, huC⟩ : ∃ V, V = W.drew := ⟨_, rfl⟩
      rw [← huC] at hr ⊢
      clear huC
      (refine m_q 0 (v := ?_) (by kernel_rfl) rfl rfl (fun W hW => ?_) ?_; rotate_left; (have z5 := onB hW y5; have z6 := onB hW y6; go_simp; first | done | with_reducible rfl); simp only [Act.put, List.setIfInBounds_toArray, List.set_cons_zero, List.set_cons_succ]); (refine m_q 2 (v := ?_) (by kernel_rfl) rfl rfl (fun W hW => ?_) ?_; rotate_left; (have z5 := onB hW y5; have z6 := onB hW y6; go_simp; first | done | with_reducible rfl); simp only [Act.put, List.setIfInBounds_toArray, List.set_cons_zero, List.set_cons_succ]); (refine m_q 3 (v := ?_) (by kernel_rfl) rfl rfl (fun W hW => ?_) ?_; rotate_left; (have z5 := onB hW y5; have z6 := onB hW y6; go_simp; first | done | with_reducible rfl); simp only [Act.put, List.setIfInBounds_toArray, List.set_cons_zero, List.set_cons_succ]); (refine m_q 4 (v := ?_) (by kernel_rfl) rfl rfl (fun W hW => ?_) ?_; rotate_left; (have z5 := onB hW y5; have z6 := onB hW y6; go_simp; first | done | with_reducible rfl); simp only [Act.put, List.setIfInBounds_toArray, List.set_cons_zero, List.set_cons_succ])
      have hrC := hr.size
      refine m_s2 1 5 (by kernel_rfl) rfl rfl ?_ ?_
      · gi_wp2_with (refine ⟨trivial, ?_⟩; gi_at_call 85; refine (CallsIn.inRound ll (callsIn_wide.2 (HCL.out uC hr))).mono ?_; rintro e u1 ⟨vC, rfl, hoC, hb1⟩)
        replace hr := hr.trans (hb1.mono hr.size)
        refine m_keep hr ?_
        refine m_s1 5 (by kernel_rfl) rfl ?_
        gi_wp2_with fail
        refine absN fun u2 hL hb2 hz2 => ?_
        clear hz2
        obtain ⟨gL, hgL⟩ : ∃ g, g = u1.heap.size := ⟨_, rfl⟩
        rw [← hgL] at hL ⊢
        clear hgL
        replace hr := hr.trans (hb2.mono hr.size)
        replace hoC := hoC.below hb2
        replace hoC := hoC.low hrC
        refine m_keep hr ?_
        have hszr := hr.size
        refine m_s1 6 (by kernel_rfl) rfl ?_
        gi_wp2_with (gi_at_builtin; refine wpListIn_append_own _ rfl _ _ 65 rfl W.heap.size 146 i0 (.agg #[.int .i64 0, .int .i64 0]) 2 16 Tryz.underlying65 hi0 hz0 hz1 hz2 rfl (by decide) _ _ _ rfl hoC ⟨gL, 0, none⟩ 1 1 [.int .i64 (k : Int), .int .i64 (x : Int)] rfl rfl (World.news_of_block hL) (by intro u hu; simp at hu; rcases hu with rfl | rfl <;> rfl) (by unfold maxLen; omega) (by omega) (by omega) ?_; intro vL u5 hoL0 hgrow _)
        have hr5 := hr.grown hgrow hr.size (fun q hq => (hoC.lt q hq).1)
        have hoL : OwnP u5 W.heap.size vL (cz (Lq ++ [(k, x)])) := by rw [cz_app]; exact OwnP.mk_ hoL0 (by rw [cellsP_app]; rfl)
        refine m_keep hr5 ?_
        (refine m_q 7 (v := ?_) (by kernel_rfl) rfl rfl (fun W hW => ?_) ?_; rotate_left; (go_simp; first | done | with_reducible rfl); simp only [Act.put, List.setIfInBounds_toArray, List.set_cons_zero, List.set_cons_succ])
        refine m_end (by kernel_rfl) ?_
        have hfc := HFO.out u5 vL (cz (Lq ++ [(k, x)])) (h4.trans (hr5.mono h4.size)) (OwnP.pairs hoL (by rw [HZL.out]; omega))
        rw [← HFB.out] at hfc
        have HFC := hideC hfc
        clear hfc
        obtain ⟨g9, cap9, rfl⟩ := own_succP hoL0
        have k2u := h2.below hr5 h2.lt
        have kgu := HSB.out u5 (h4.trans (hr5.mono h4.size))
        have k5u := h1.below hr5 h1.lt
        have y2 := k2u.cell 0
        have yg := kgu.cell 0
        cases fb with
        | true =>
          have HF2 := Lib.hid (HST.out.trans (if_pos rfl))
          gi_wp2_with (refine ⟨trivial, ?_⟩; gi_at_call 171; refine (CallsIn.inRound ll (callsIn_wide.2 HFC.out)).mono ?_; rintro e w8 ⟨rfl, hb8⟩; have k58 := (k5u.below hb8 k5u.lt).cell 0; have f58 := (k5u.below hb8 k5u.lt).frozen 0)
          have hr8 := hr5.trans (hb8.mono hr5.size)
          have h18 := h1.below hr8 h1.lt
          have hb9 := (hr8.mono h4.size).setCell (p := ⟨g2 + 1, 0, none⟩) (show w.heap.size ≤ g2 + 1 by omega) (.slice (some ⟨g9, 0, none⟩) ((cz Lq).length + 1) cap9)
          have hot := (KeepsOthers.of_below hr8).trans (KeepsOthers.setCell w8 ⟨g2 + 1, 0, none⟩ (.slice (some ⟨g9, 0, none⟩) ((cz Lq).length + 1) cap9))
          have hoL8 := (hoL.below hb8).low (show g2 + 2 ≤ W.heap.size by omega)
          have hoL9 := ownsRow_setCell_other hoL8 (a := ⟨g2 + 1, 0, none⟩) (fun e => absurd (show g2 + 2 ≤ g2 + 1 from (hoL8.lt _ e).1) (by omega)) (.slice (some ⟨g9, 0, none⟩) ((cz Lq).length + 1) cap9)
          exact ⟨hot.from _, KpA.mk_ ((KeepW.of_below hr8).trans (KeepW.setCell (p := ⟨g2 + 1, 0, none⟩) h18 (by decide) _)) hb9 hT.pos, ⟨_, h18.set_ 0 _, by rw [HF2.out]; exact hoL9⟩, (h2.below hr8 h2.lt).far (p := ⟨g2 + 1, 0, none⟩) (by simp) _, (h3.below hr8 h3.lt).far (p := ⟨g2 + 1, 0, none⟩) (by simp; omega) _, h4.trans hb9, h5.others hot⟩
        | false =>
          have HF2 := Lib.hid (HST.out.trans (if_neg (by simp)))
          gi_wp2_with (refine ⟨trivial, ?_⟩; gi_at_call 171; refine (CallsIn.inRound ll (callsIn_wide.2 HFC.out)).mono ?_; rintro e w8 ⟨rfl, hb8⟩)
          have hr8 := hr5.trans (hb8.mono hr5.size)
          exact ⟨(KeepsOthers.of_below hr8).from _, KpA.of_below hr8, ⟨_, h1.below hr8 h1.lt, by rw [HF2.out]; exact h1'.below hr8⟩, h2.below hr8 h2.lt, h3.below hr8 h3.lt, h4.trans (hr8.mono h4.size), h5.others (KeepsOthers.of_below hr8)⟩
      · gi_wp2_with fail
        refine absN fun u1 hL hb1 hz2 => ?_
        clear hz2
        obtain ⟨gL, hgL⟩ : ∃ g, g = uC.heap.size := ⟨_, rfl⟩
        rw [← hgL] at hL ⊢
        clear hgL
        replace hr := hr.trans (hb1.mono hr.size)
        refine m_keep hr ?_
        refine m_s1 1 (by kernel_rfl) rfl ?_
        gi_wp2_with (refine ⟨trivial, ?_⟩; gi_at_call 85; refine (CallsIn.inRound ll (callsIn_wide.2 (HCL.out u1 hr))).mono ?_; rintro e u2 ⟨vC, rfl, hoC, hb2⟩)
        have hL0 := hL.below hb2 hL.lt
        have hrC := hr.size
        replace hr := hr.trans (hb2.mono hr.size)
        replace hL := hL0
        replace hoC := hoC.low hrC
        refine m_keep hr ?_
        have hszr := hr.size
        refine m_s1 6 (by kernel_rfl) rfl ?_
        gi_wp2_with (gi_at_builtin; refine wpListIn_append_own _ rfl _ _ 65 rfl W.heap.size 146 i0 (.agg #[.int .i64 0, .int .i64 0]) 2 16 Tryz.underlying65 hi0 hz0 hz1 hz2 rfl (by decide) _ _ _ rfl hoC ⟨gL, 0, none⟩ 1 1 [.int .i64 (k : Int), .int .i64 (x : Int)] rfl rfl (World.news_of_block hL) (by intro u hu; simp at hu; rcases hu with rfl | rfl <;> rfl) (by unfold maxLen; omega) (by omega) (by omega) ?_; intro vL u5 hoL0 hgrow _)
        have hr5 := hr.grown hgrow hr.size (fun q hq => (hoC.lt q hq).1)
        have hoL : OwnP u5 W.heap.size vL (cz (Lq ++ [(k, x)])) := by rw [cz_app]; exact OwnP.mk_ hoL0 (by rw [cellsP_app]; rfl)
        refine m_keep hr5 ?_
        (refine m_q 7 (v := ?_) (by kernel_rfl) rfl rfl (fun W hW => ?_) ?_; rotate_left; (go_simp; first | done | with_reducible rfl); simp only [Act.put, List.setIfInBounds_toArray, List.set_cons_zero, List.set_cons_succ])
        refine m_end (by kernel_rfl) ?_
        have hfc := HFO.out u5 vL (cz (Lq ++ [(k, x)])) (h4.trans (hr5.mono h4.size)) (OwnP.pairs hoL (by rw [HZL.out]; omega))
        rw [← HFB.out] at hfc
        have HFC := hideC hfc
        clear hfc
        obtain ⟨g9, cap9, rfl⟩ := own_succP hoL0
        have k2u := h2.below hr5 h2.lt
        have kgu := HSB.out u5 (h4.trans (hr5.mono h4.size))
        have k5u := h1.below hr5 h1.lt
        have y2 := k2u.cell 0
        have yg := kgu.cell 0
        cases fb with
        | true =>
          have HF2 := Lib.hid (HST.out.trans (if_pos rfl))
          gi_wp2_with (refine ⟨trivial, ?_⟩; gi_at_call 171; refine (CallsIn.inRound ll (callsIn_wide.2 HFC.out)).mono ?_; rintro e w8 ⟨rfl, hb8⟩; have k58 := (k5u.below hb8 k5u.lt).cell 0; have f58 := (k5u.below hb8 k5u.lt).frozen 0)
          have hr8 := hr5.trans (hb8.mono hr5.size)
          have h18 := h1.below hr8 h1.lt
          have hb9 := (hr8.mono h4.size).setCell (p := ⟨g2 + 1, 0, none⟩) (show w.heap.size ≤ g2 + 1 by omega) (.slice (some ⟨g9, 0, none⟩) ((cz Lq).length + 1) cap9)
          have hot := (KeepsOthers.of_below hr8).trans (KeepsOthers.setCell w8 ⟨g2 + 1, 0, none⟩ (.slice (some ⟨g9, 0, none⟩) ((cz Lq).length + 1) cap9))
          have hoL8 := (hoL.below hb8).low (show g2 + 2 ≤ W.heap.size by omega)
          have hoL9 := ownsRow_setCell_other hoL8 (a := ⟨g2 + 1, 0, none⟩) (fun e => absurd (show g2 + 2 ≤ g2 + 1 from (hoL8.lt _ e).1) (by omega)) (.slice (some ⟨g9, 0, none⟩) ((cz Lq).length + 1) cap9)
          exact ⟨hot.from _, KpA.mk_ ((KeepW.of_below hr8).trans (KeepW.setCell (p := ⟨g2 + 1, 0, none⟩) h18 (by decide) _)) hb9 hT.pos, ⟨_, h18.set_ 0 _, by rw [HF2.out]; exact hoL9⟩, (h2.below hr8 h2.lt).far (p := ⟨g2 + 1, 0, none⟩) (by simp) _, (h3.below hr8 h3.lt).far (p := ⟨g2 + 1, 0, none⟩) (by simp; omega) _, h4.trans hb9, h5.others hot⟩
        | false =>
          have HF2 := Lib.hid (HST.out.trans (if_neg (by simp)))
          gi_wp2_with (refine ⟨trivial, ?_⟩; gi_at_call 171; refine (CallsIn.inRound ll (callsIn_wide.2 HFC.out)).mono ?_; rintro e w8 ⟨rfl, hb8⟩)
          have hr8 := hr5.trans (hb8.mono hr5.size)
          exact ⟨(KeepsOthers.of_below hr8).from _, KpA.of_below hr8, ⟨_, h1.below hr8 h1.lt, by rw [HF2.out]; exact h1'.below hr8⟩, h2.below hr8 h2.lt, h3.below hr8 h3.lt, h4.trans (hr8.mono h4.size), h5.others (KeepsOthers.of_below hr8)⟩
    case done =>
      rintro D W hD ⟨⟨u, h1, h1'⟩, h2, h3, h4, h5⟩ hKd
      have hM6 := hM5.cons h5 (by have := b5.size; omega) hD hKd
      rw [← HSU.out] at h1'
      go_wp2_with fail
      exact ⟨(k + 1, u), rfl, ⟨by show k + 1 ≤ Os.length; omega, hM6, h4, h2, h1, h1'⟩, by show Os.length - (k + 1) < Os.length - k; omega⟩
  · obtain rfl : k = Os.length := by omega
    rw [onesC_all] at hown
    have y5 := k5.cell 0
    obtain ⟨A5, c5, rfl⟩ : ∃ A c, v5 = .slice A (cz (foolL C Ns (cellsOf Os))).length c := by obtain ⟨A, c, e, _⟩ := RowN.of_own hown; exact ⟨A, c, e⟩
    go_wp2_with fail
    refine leave_marks (n₀ := w.heap.size) _ _ hM0 fun W' hW' => ?_
    refine ⟨.slice A5 (cz (foolL C Ns (cellsOf Os))).length c5, by simp [results, Tryz.results121], _, rfl, ?_, hb.trans hW'.1⟩
    have hX2 : OwnP W' (g2 + 2) _ _ := own_kc hown ⟨hW'.1.size, hW'.2⟩
    exact hX2.low (by omega)
end MixI
end Go.Proofs.YtfbkcdhmggjbaaaGreatDoor

/-
  package cover: two uncovered ones that do not lie in one rectangle.
-/
namespace Go.Proofs.YtfbkcdhmggjbaaaGreatDoor
open Go.RowKit
attribute [local go_sem] Oper.semAt_some
theorem run_store_funcF {P : Program} {w : World} {a : Addr} {m : Mode} (fn : Fn) (first cap : Array Value) : (store a (.func fn first cap) m).run P w = stored P w a (.func fn first cap) m := run_store P w a _ m rfl
attribute [local go_sem] run_store_funcF

theorem wpIn_loopB {F : Fence} {N : Nat} {P : Program} {Q : Exit → Act → World → Prop} {a : Act} {w : World} {c : Code} {β : Type} (I : β → Act → World → Prop) (μ : β → Nat) (b0 : β) (h₀ : I b0 a w)
    (round : ∀ b a w, I b a w → c.wpIn F N P (Exit.then (fun a' w' => ∃ b', I b' a' w' ∧ μ b' < μ b) Q) a w) : (Code.loop c).wpIn F N P Q a w := by
  refine wpIn_loop (fun a w => ∃ b, I b a w) (fun a w => leastOf fun n => ∃ b, I b a w ∧ μ b = n) ⟨b0, h₀⟩ ?_
  rintro a w ⟨b, hb⟩
  obtain ⟨⟨b1, hb1, e1⟩, _⟩ := leastOf_spec (p := fun n => ∃ b, I b a w ∧ μ b = n) ⟨b, hb, rfl⟩
  refine wpIn_mono (round b1 a w hb1) ?_
  intro e a' w' h
  cases e with
  | normal =>
    obtain ⟨b', h1, h2⟩ := h
    refine ⟨⟨b', h1⟩, ?_⟩
    rw [← e1]
    exact Nat.lt_of_le_of_lt ((leastOf_spec (p := fun n => ∃ b, I b a' w' ∧ μ b = n) ⟨b', h1, rfl⟩).2 _ ⟨b', h1, rfl⟩) h2
  | _ => exact h
/-- S: the frame over free slots; R: what holds; both of the loop's own state. -/
theorem wpIn_loopF {F : Fence} {N : Nat} {P : Program} {Q : Exit → Act → World → Prop} {a : Act} {w : World} {c : Code} {β : Type} (S : β → (Nat → Value) → Array Value) (R : β → List Deferred → World → Prop) (μ : β → Nat) (b0 : β)
    (hs : a.tmps = S b0 fun i => a.tmps.getD i undef) (h₀ : R b0 a.defers w)
    (round : ∀ b f ds w, R b ds w → c.wpIn F N P (Exit.then (fun a' w' => ∃ b', a'.tmps = S b' (fun i => a'.tmps.getD i undef) ∧ R b' a'.defers w' ∧ μ b' < μ b) Q) { tmps := S b f, defers := ds } w) : (Code.loop c).wpIn F N P Q a w := by
  refine wpIn_loopB (fun b a w => (∃ f, a.tmps = S b f) ∧ R b a.defers w) μ b0 ⟨⟨_, hs⟩, h₀⟩ ?_
  rintro b ⟨tmps, ds⟩ w ⟨⟨f, hf⟩, hR⟩
  dsimp only at hf hR
  subst hf
  refine wpIn_mono (round b f ds w hR) ?_
  intro e a' w' h
  cases e with
  | normal => obtain ⟨b', h1, h2, h3⟩ := h; exact ⟨b', ⟨⟨_, h1⟩, h2⟩, h3⟩
  | _ => exact h
/-- No cells, or two of the ones that do not lie in one rectangle. -/
def PairOK (C : Nat) (Ns : List Nat) (o l : List (Nat × Nat)) : Prop := l = [] ∨ ∃ c d, c ∈ o ∧ d ∈ o ∧ l = [c, d] ∧ foolP C Ns (cz [c, d]) = true
theorem own_two {w : World} {base g : Nat} {a b : Nat × Nat} (hB : Blk w g 146 #[.int .i64 (a.1 : Int), .int .i64 (a.2 : Int), .int .i64 (b.1 : Int), .int .i64 (b.2 : Int)]) (hg : base ≤ g) : OwnP w base (.slice (some ⟨g, 0, none⟩) 2 2) (cz [a, b]) :=
  ⟨by simp [cellsP, cz], .inr ⟨g, 2, _, rfl, hg, hB, by simp [cz], by decide, by simp, by simp [cellsP, cz]⟩⟩
set_option maxRecDepth 100000 in
set_option maxHeartbeats 16000000 in
theorem pair_any (gs base base' : Nat) (vL : Value) (q C : Nat) (Ns L Os : List Nat) (nd : Int) (v : Value) (w : World) (hM : IsMat w q C Ns) (hS : IsSr w gs base vL q C Ns L nd) (hO : OwnO w base' v Os) (hl : Os.length ≤ 60) (hT : Tab w) :
    Calls Tryz.prog 122 #[ptr gs, v] w fun e w' => ∃ v' l, e = .returned v' ∧ PairOK C Ns (cellsOf Os) l ∧ OwnP w' w.heap.size v' (cz l) ∧ Below w.heap.size w w' := by
  obtain ⟨i0, hi0, hz0, hz1, hz2⟩ := info_parts info_pair
  obtain ⟨A, c, rfl⟩ := hO.val
  have HFO := Lib.hid (fun W v l (hb : Below w.heap.size w W) hp => fool_any q C Ns v l W (hM.below hb) hp)
  have HSB := Lib.hid (fun W (hb : Below w.heap.size w W) => (hS.below hb).1)
  have HO := Lib.hid hO
  clear hO
  refine (callsIn_wide (n := 9)).1 (callsIn_of_wp_marks Tryz.func122 rfl trivial (wpIn_wide.2 ?_) rfl)
  simp only [Tryz.ntmps122, List.size_toArray, List.length_cons, List.length_nil, Nat.reduceAdd, Nat.reduceSub, Array.replicate_succ, Array.replicate_zero, List.push_toArray, List.append_toArray, List.nil_append, List.cons_append]
  go_upto_region 2 with fail
  refine abs3 fun W1 h2 h4 h5 hb1 hz1 => ?_
  clear hz1
  obtain ⟨g2, hg2⟩ : ∃ x, x = w.heap.size := ⟨_, rfl⟩
  have hgw : w.heap.size ≤ g2 := by omega
  rw [← hg2] at h2 h4 h5 ⊢
  clear hg2
  go_wp2_with fail
  refine wp_loopF (β := Nat × Value × List (Nat × Nat)) (fun x f => #[ptr gs, .slice A Os.length c, ptr g2, f 3, ptr (g2 + 1), ptr (g2 + 2), f 6, f 7, f 8, f 9, f 10, f 11, .slice A Os.length c, .int .i64 (Os.length : Int), .int .i64 (x.1 : Int), f 15, f 16, f 17, f 18, f 19, f 20, f 21, f 22, f 23, f 24, f 25, f 26, f 27, f 28, f 29, f 30, f 31, f 32, f 33, f 34, f 35, f 36, f 37, f 38, f 39, f 40, f 41, f 42, f 43, f 44, f 45, f 46, f 47])
    (fun x ds W => x.1 ≤ Os.length ∧ Marks w.heap.size W ds ∧ Below w.heap.size w W ∧ Blk W g2 131 #[ptr gs] ∧ Blk W (g2 + 1) 65 #[.slice none 0 0] ∧ Blk W (g2 + 2) 65 #[x.2.1] ∧ OwnP W w.heap.size x.2.1 (cz x.2.2) ∧ x.2.2.length ≤ x.1 * 4096 ∧ ∀ c ∈ x.2.2, c ∈ cellsOf Os) (fun x => Os.length - x.1) (0, .slice none 0 0, []) rfl
    ⟨Nat.zero_le _, trivial, hb1, h2, h4, h5, OwnP.nil _ _, Nat.zero_le _, by simp⟩ ?_
  rintro ⟨k, v5, l5⟩ f ds W ⟨hk, hM0, hb, k2, k4, k5, hown, hll, hmem⟩
  dsimp only at hk k5 hown hll hmem ⊢
  by_cases hlt : k < Os.length
  · obtain ⟨gO, A1, c1, rfl, -, -, -, d0, s1⟩ := (HO.out.below hb).at hlt
    have hin : ∀ x, (Os.getD k 0).testBit x = true → (k, x) ∈ cellsOf Os := fun x hx => mem_cellsOf.2 ⟨hlt, hx⟩
    have hcd := card_le (HO.out.nw k hlt)
    rw [← mems_len] at hcd
    obtain ⟨N, hN⟩ : ∃ N, N = Os.getD k 0 := ⟨_, rfl⟩
    rw [← hN] at d0 s1 hin hcd
    have HIN := Lib.hid hin
    clear hN hin
    go_upto_region 5 with fail
    refine abs2 fun W3 h6 h7 hb3 hz3 => ?_
    clear hz3
    have k3 := hb.trans (hb3.mono hb.size)
    have k23 := k2.below hb3 k2.lt
    have k43 := k4.below hb3 k4.lt
    have k53 := k5.below hb3 k5.lt
    have hown3 := hown.below hb3
    have s13 := s1.below hb3
    have hM3 := hM0.kd (KeepD.of_below hb3)
    obtain ⟨g6, hg6⟩ : ∃ x, x = W.heap.size := ⟨_, rfl⟩
    have hg6x : g2 + 3 ≤ g6 := by rw [hg6]; exact k5.lt
    rw [← hg6] at h6 h7 ⊢
    have c7 := h7.cell 0
    clear hg6 hb3 d0 s1 hM0 k2 k4 k5 hown hb
    go_wp2_with fail
    refine (all_any A1 (nw N) c1 W3).mono ?_
    rintro e w5 ⟨rfl, hw5⟩
    have hY := hw5 ▸ Blk.new W3 74 #[.slice A1 (nw N) c1]
    have hb5 : Below W3.heap.size W3 w5 := by rw [hw5]; exact (Below.refl _ _).alloc (Nat.le_refl _) _
    clear hw5
    have b5 := k3.trans (hb5.mono k3.size)
    have k25 := k23.below hb5 k23.lt
    have k45 := k43.below hb5 k43.lt
    have k55 := k53.below hb5 k53.lt
    have h65 := h6.below hb5 h6.lt
    have hown5 := hown3.below hb5
    have s15 := s13.below hb5
    have hM5 := hM3.kd (KeepD.of_below hb5)
    have hT5 := hT.below b5
    obtain ⟨gy, hgy⟩ : ∃ g, g = W3.heap.size := ⟨_, rfl⟩
    rw [← hgy] at hY ⊢
    clear hgy hb5 k3 k23 k43 k53 h6 h7 s13 hM3 c7 hown3
    go_wp2_with fail
    refine wp_rangeAll (v := .slice A1 (nw N) c1) (N := N) (Bx := gy) rfl (hY.cell 0) s15 hT5 rfl
      (fun pre W => (∃ u l, Boxed W (g2 + 2) 65 u ∧ OwnP W w.heap.size u (cz l) ∧ l.length ≤ k * 4096 + pre.length ∧ ∀ c ∈ l, c ∈ cellsOf Os) ∧ Blk W g2 131 #[ptr gs] ∧ Blk W (g2 + 1) 65 #[.slice none 0 0] ∧ Blk W g6 3 #[.int .i64 (k : Int)] ∧ Below w.heap.size w W ∧ KeepD w5 W)
      (fun c pre W => c = .ret ∧ (∃ A n d l, Blk W (g2 + 1) 65 #[.slice A n d] ∧ OwnP W w.heap.size (.slice A n d) (cz l) ∧ PairOK C Ns (cellsOf Os) l) ∧ Below w.heap.size w W ∧ KeepD w5 W)
      ?hI ?hIx ?h0 ?a1 ?assign ?body ?done ?stop
    case assign =>
      intro l x W K hKa
      gi_wp2
      exact hKa
    case hI =>
      rintro s W W' row ⟨⟨u, l, h1, h1', h1''⟩, h2, h3, h3', h4, h5⟩ hg hrw
      have hkc := KeepC.of_grown hg hrw
      exact ⟨⟨u, l, hkc.2 _ _ _ _ h1, own_kc h1' hkc, h1''⟩, h2.kc hkc, h3.kc hkc, h3'.kc hkc, h4.grown hg h4.size fun k' e => Nat.le_trans b5.size (hrw k' e).1, h5.grown hg hrw⟩
    case hIx =>
      rintro c s W W' row ⟨hc, ⟨A, n, d, l, h1, h1', h1''⟩, h4, h5⟩ hg hrw
      have hkc := KeepC.of_grown hg hrw
      exact ⟨hc, ⟨A, n, d, l, h1.kc hkc, own_kc h1' hkc, h1''⟩, h4.grown hg h4.size fun k' e => Nat.le_trans b5.size (hrw k' e).1, h5.grown hg hrw⟩
    case h0 => exact ⟨⟨v5, l5, k55, hown5, hll, hmem⟩, k25, k45, h65, b5, KeepD.refl _⟩
    case body =>
      rintro ll pre x W hx ⟨⟨u, l, h1, h1', hl1, hl2⟩, h2, h3, h3', h4, h5⟩ hlen hkp
      have hxm := HIN.out x hx
      have hW3 : g2 + 3 ≤ W.heap.size := (show Blk W (g2 + 2) 65 #[u] from h1).lt
      have hlb : l.length ≤ 300000 := by
        have : k * 4096 ≤ 60 * 4096 := Nat.mul_le_mul_right _ (by omega)
        omega
      obtain ⟨A5, c5, rfl⟩ : ∃ A c, u = .slice A (cz l).length c := by obtain ⟨A, c, e, _⟩ := RowN.of_own h1'; exact ⟨A, c, e⟩
      have y5 := h1.cell
      have HXM := Lib.hid hxm; have HL2 := Lib.hid hl2; have HLB := Lib.hid hlb
      clear hxm hl2
      gi_wp2_with fail
      refine wpIn_loopF (β := Nat) (fun j f => #[f 0, f 1, ptr g2, f 3, ptr (g2 + 1), ptr (g2 + 2), ptr g6, f 7, .int .i64 (x : Int), f 9, f 10, f 11, f 12, f 13, f 14, f 15, f 16, f 17, f 18, f 19, f 20, f 21, .slice A5 (cz l).length c5, .int .i64 ((cz l).length : Int), .int .i64 (j : Int), f 25, f 26, f 27, f 28, f 29, f 30, f 31, f 32, f 33, f 34, f 35, f 36, f 37, f 38, f 39, f 40, f 41, f 42, f 43, f 44, f 45, f 46, f 47])
        (fun j ds V => j ≤ l.length ∧ ds = [] ∧ Below W.heap.size W V) (fun j => l.length - j) 0 rfl ⟨Nat.zero_le _, rfl, Below.refl _ _⟩ ?_
      rintro j f ds V ⟨hj, rfl, hbV⟩
      dsimp only at hj ⊢
      have hVs := hbV.size
      by_cases hjl : j < l.length
      · obtain ⟨d, hd⟩ : ∃ d, l[j]? = some d := ⟨_, List.getElem?_eq_getElem hjl⟩
        obtain ⟨_, _, e, hrow, -, -⟩ := (h1'.below hbV).pairs (by rw [cz_len]; omega)
        cases e
        obtain ⟨gl, ol, rfl, hgl, e0, e1⟩ := row_pairs hrow (cz_get hd)
        have hdm := HL2.out d (List.mem_of_getElem? hd)
        have hjz : j < (cz l).length := by rw [cz_len]; exact hjl
        have v2 := h2.below hbV h2.lt
        have v6 := h3'.below hbV h3'.lt
        have vg := HSB.out V (h4.trans (hbV.mono h4.size))
        have c2 := v2.cell 0
        have c6 := v6.cell 0
        have cg := vg.cell 0
        have n2 := v2.lt
        have n6 := v6.lt
        have ng := vg.lt
        obtain ⟨V2, hV2⟩ : ∃ X, X = (V.alloc (.cells #[.int .i64 (d.1 : Int), .int .i64 (d.2 : Int)] 146)).alloc (.cells #[.int .i64 (d.1 : Int), .int .i64 (d.2 : Int), .int .i64 (k : Int), .int .i64 (x : Int)] 146) := ⟨_, rfl⟩
        have hbV2 : Below V.heap.size V V2 := by rw [hV2]; exact ((Below.refl _ _).alloc (Nat.le_refl _) _).alloc (by simp) _
        have hB2 : Blk V2 (V.heap.size + 1) 146 #[.int .i64 (d.1 : Int), .int .i64 (d.2 : Int), .int .i64 (k : Int), .int .i64 (x : Int)] := by rw [hV2]; exact Blk.new_ (by simp) _ _
        have hO2 : OwnP V2 w.heap.size (.slice (some ⟨V.heap.size + 1, 0, none⟩) 2 2) (cz [d, (k, x)]) := own_two hB2 (by have := h4.size; omega)
        have hbW2 := hbV.trans (hbV2.mono hbV.size)
        have hfo := HFO.out V2 _ (cz [d, (k, x)]) (h4.trans (hbW2.mono h4.size)) (hO2.pairs (by simp [cz]))
        obtain ⟨fb, hfb⟩ : ∃ b, b = foolP C Ns (cz [d, (k, x)]) := ⟨_, rfl⟩
        rw [← hfb, hV2] at hfo
        have HFC := hideC hfo
        have HFB := Lib.hid hfb; have HDM := Lib.hid hdm; have HV2 := Lib.hid hV2
        clear hfo hfb hdm hd hrow hV2 hB2
        cases fb with
        | true =>
          gi_wp2_with (refine ⟨trivial, ?_⟩; gi_at_call 171; refine (CallsIn.inRound ll (callsIn_wide.2 HFC.out)).mono ?_; rintro e w8 ⟨rfl, hb8⟩; rw [← HV2.out] at hb8; have hb8' := hbW2.trans (hb8.mono hbW2.size); have k48 := (h3.below hb8' h3.lt).cell 0; have f48 := (h3.below hb8' h3.lt).frozen 0)
          have h38 := h3.below hb8' h3.lt
          have hO8 := hO2.below hb8
          have hO9 := ownsRow_setCell_other hO8 (a := ⟨g2 + 1, 0, none⟩) (fun e => own_ne hO8 h38 (by decide) e.symm) (.slice (some ⟨V.heap.size + 1, 0, none⟩) 2 2)
          have hb9 := (hb8'.mono h4.size).setCell (p := ⟨g2 + 1, 0, none⟩) (show w.heap.size ≤ g2 + 1 by omega) (.slice (some ⟨V.heap.size + 1, 0, none⟩) 2 2)
          have hot := (KeepsOthers.of_below hb8').trans (KeepsOthers.setCell w8 ⟨g2 + 1, 0, none⟩ (.slice (some ⟨V.heap.size + 1, 0, none⟩) 2 2))
          exact ⟨hot.from _, rfl, ⟨_, _, _, [d, (k, x)], h38.set_ 0 _, hO9, .inr ⟨d, (k, x), HDM.out, HXM.out, rfl, HFB.out.symm⟩⟩, h4.trans hb9, h5.others hot⟩
        | false =>
          gi_wp2_with (refine ⟨trivial, ?_⟩; gi_at_call 171; refine (CallsIn.inRound ll (callsIn_wide.2 HFC.out)).mono ?_; rintro e w8 ⟨rfl, hb8⟩; rw [← HV2.out] at hb8; have hb8' := hbW2.trans (hb8.mono hbW2.size))
          exact ⟨j + 1, rfl, ⟨hjl, by first | rfl | trivial, hb8'⟩, by omega⟩
      · obtain rfl : j = l.length := by omega
        have hv : Boxed V (g2 + 2) 65 (.slice A5 (cz l).length c5) := (show Blk W (g2 + 2) 65 #[.slice A5 (cz l).length c5] from h1).below hbV (show Blk W (g2 + 2) 65 #[.slice A5 (cz l).length c5] from h1).lt
        have hc := hv.cell
        have v6 := h3'.below hbV h3'.lt
        have v2 := h2.below hbV h2.lt
        have v3 := h3.below hbV h3.lt
        have c6 := v6.cell 0
        have n6 := v6.lt
        have hbl := hbV.mono h4.size
        have hLL : cz (l ++ [(k, x)]) = cz l ++ [((k : Int), (x : Int))] := cz_app l [(k, x)]
        have hzl : (cz l).length ≤ 300000 := by rw [cz_len]; exact HLB.out
        have hrw0 : V.ownsRow w.heap.size 146 2 (.slice A5 (cz l).length c5) (cz l).length (cellsP (cz l)) := h1'.below hbV
        have hl3 : (l ++ [(k, x)]).length ≤ k * 4096 + (pre ++ [x]).length := by rw [List.length_append, List.length_append]; show l.length + 1 ≤ k * 4096 + (pre.length + 1); omega
        have HL3 := Lib.hid hl3
        have HLL := Lib.hid hLL
        have hnlt : ¬ l.length < (cz l).length := by rw [cz_len]; omega
        have hnlt2 : decide (l.length < (cz l).length) = false := decide_eq_false hnlt
        obtain ⟨Q, hQ⟩ : ∃ Q, Q = cz l := ⟨_, rfl⟩
        rw [← hQ] at hv hc hrw0 hzl HLL hnlt hnlt2 ⊢
        have hrw1 := hrw0.alloc (.cells #[.int .i64 (k : Int), .int .i64 (x : Int)] 146)
        clear hQ hLL hl3 hll h1 y5 hjl hj
        gi_wp2_with (gi_at_builtin; refine wpListIn_append_own _ rfl _ _ 65 rfl w.heap.size 146 i0 (.agg #[.int .i64 0, .int .i64 0]) 2 16 Tryz.underlying65 hi0 hz0 hz1 hz2 rfl (by decide) _ _ _ rfl hrw1 ⟨V.heap.size, 0, none⟩ 1 1 [.int .i64 (k : Int), .int .i64 (x : Int)] rfl rfl (cells_new2 _ _ _ _) (by intro u hu; simp at hu; rcases hu with rfl | rfl <;> rfl) (by unfold maxLen; omega) (by omega) (by have := hbl.size; have := h4.size; simp; omega) ?_; intro v' w6 hown' hgrow _; obtain ⟨g', cap', rfl⟩ := own_succP hown'; have hkw := (KeepW.alloc V _).trans (KeepW.grown hgrow hrw1 (by decide)); obtain ⟨hv1, hv2, hr2, hk2, hb2⟩ := hv.appended (by decide) hrw0 (Nat.le_trans h4.size hVs) (by omega) hown' hgrow; have hc1 := hv1.cell; have hf1 := hv1.frozen)
        have hQ2 := (((Blk.alloc v2 _).grown hgrow (own_ne hrw1 (Blk.alloc v2 _) (by decide))).far (p := ⟨g2 + 2, 0, none⟩) (by simp) (.slice (some ⟨g', 0, none⟩) (Q.length + 1) cap'))
        have hQ3 := (((Blk.alloc v3 _).grown hgrow (own_ne hrw1 (Blk.alloc v3 _) (by decide))).far (p := ⟨g2 + 2, 0, none⟩) (by simp) (.slice (some ⟨g', 0, none⟩) (Q.length + 1) cap'))
        have hQ6 := (((Blk.alloc v6 _).grown hgrow (own_ne hrw1 (Blk.alloc v6 _) (by decide))).far (p := ⟨g2 + 2, 0, none⟩) (by simp; omega) (.slice (some ⟨g', 0, none⟩) (Q.length + 1) cap'))
        exact ⟨((KeepsOthers.of_below hbV).trans hk2).from _, KpA.mk_ ((KeepW.of_below hbV).trans (hkw.trans (KeepW.setCell (p := ⟨g2 + 2, 0, none⟩) (t := 65) (cs := #[.slice A5 Q.length c5]) hv1 (by decide) _))) (hbl.trans hb2) hT.pos, ⟨_, l ++ [(k, x)], hv2, by rw [HLL.out]; exact OwnP.mk_ hr2 (cellsP_snoc Q ((k : Int), (x : Int))).symm, HL3.out, fun c hc => by
          rcases List.mem_append.1 hc with hc | hc
          · exact HL2.out c hc
          · rw [List.mem_singleton.1 hc]; exact HXM.out⟩, hQ2, hQ3, hQ6, (h4.trans hbl).trans hb2, (h5.others (KeepsOthers.of_below hbV)).others hk2⟩
    case done =>
      rintro D W hD ⟨⟨u, l, h1, h1', hl1, hl2⟩, h2, h3, h3', h4, h5⟩ hKd
      have hM6 := hM5.cons h5 (by have := b5.size; omega) hD hKd
      go_wp2_with fail
      exact ⟨(k + 1, u, l), rfl, ⟨by show k + 1 ≤ Os.length; omega, hM6, h4, h2, h3, h1, h1', by show l.length ≤ (k + 1) * 4096; omega, hl2⟩, by show Os.length - (k + 1) < Os.length - k; omega⟩
    case stop =>
      rintro D c pre W hD ⟨rfl, ⟨A9, n9, d9, l9, h1, h1', h1''⟩, h4, h5⟩ hKd
      have hM6 := hM5.cons h5 (by have := b5.size; omega) hD hKd
      have HP := Lib.hid h1''
      clear h1''
      go_wp2_with fail
      refine leave_marks (n₀ := w.heap.size) _ _ hM6 fun W' hW' => ?_
      have hBB : Blk W' (g2 + 1) 65 _ := hW'.2 _ _ _ _ h1
      have cX := hBB.cell 0
      exact ⟨.slice A9 n9 d9, by simp [results, Tryz.results122, go_sem, cX], .slice A9 n9 d9, l9, rfl, HP.out, own_kc h1' ⟨hW'.1.size, hW'.2⟩, h4.trans hW'.1⟩
  · obtain rfl : k = Os.length := by omega
    have f4 := k4.frozen 0
    have c4 := k4.cell 0
    clear hll
    go_wp2_with fail
    have k49 := k4.set_ 0 (.slice none 0 0)
    refine leave_marks (n₀ := w.heap.size) _ _ (hM0.kd ((KeepD.refl W).others (KeepsOthers.setCell W ⟨g2 + 1, 0, none⟩ (.slice none 0 0)))) fun W' hW' => ?_
    have hBB : Blk W' (g2 + 1) 65 _ := hW'.2 _ _ _ _ k49
    have cX := hBB.cell 0
    exact ⟨.slice none 0 0, by simp [results, Tryz.results122, go_sem, cX], .slice none 0 0, [], rfl, .inl rfl, OwnP.nil _ _, (hb.setCell (p := ⟨g2 + 1, 0, none⟩) (show w.heap.size ≤ g2 + 1 by omega) _).trans hW'.1⟩
end Go.Proofs.YtfbkcdhmggjbaaaGreatDoor
