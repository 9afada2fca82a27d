/-
  The law wp_mix once more, with one condition weaker: an operation may write what an earlier one reads, if it waits for it.
-/
import Derived.Test.YtfbkcdhmggjbaaaGreatDoorBits
namespace Go.Proofs.YtfbkcdhmggjbaaaGreatDoor
open Go.RowKit
namespace Mix2

/-- Every operation that reads a temporary of the region waits for what writes it; no two write one. -/
def chkM (l : List Oper) : Bool :=
  (List.range l.length).all (okOp l) &&
  (List.range l.length).all (fun i => (List.range l.length).all fun j => i == j || (dstOf l i).isNone || dstOf l i != dstOf l j) &&
  (List.range l.length).all (fun i => (List.range l.length).all fun j => match dstOf l i with | none => true | some d => !(looks l j).contains d || waitsI l j i || waitsI l i j)
structure ChkM (l : List Oper) : Prop where
  ok : ∀ i o, l[i]? = some o → (∀ cs b, o.op ≠ .select cs b) ∧ ∀ e ∈ o.after, Region.binds .any e = true → e.on < i
  dist : ∀ i, i < l.length → ∀ j, j < l.length → i ≠ j → ∀ d, dstOf l i = some d → dstOf l j ≠ some d
  reads : ∀ i, i < l.length → ∀ j, j < l.length → ∀ d, dstOf l i = some d → d ∈ looks l j → waitsI l j i = true ∨ waitsI l i j = true
theorem chkM_spec {l : List Oper} (h : chkM l = true) : ChkM l := by
  simp only [chkM, Bool.and_eq_true, List.all_eq_true, List.mem_range, Bool.or_eq_true] at h
  obtain ⟨⟨h1, h5⟩, h6⟩ := h
  refine ⟨fun i o ho => ?_, fun i hi j hj hne d hd => ?_, fun i hi j hj d hd hl => ?_⟩
  · have hlt : i < l.length := (List.getElem?_eq_some_iff.1 ho).1
    have := h1 i hlt
    simp only [okOp, ho, Bool.and_eq_true, Array.all_eq_true'] at this
    refine ⟨fun cs b hs => by simp [hs] at this, fun e he hb => ?_⟩
    have := this.2 e he
    simpa [hb] using this
  · have := h5 i hi j hj
    rcases this with (this | this) | this
    · exact absurd (by simpa using this) hne
    · simp [hd] at this
    · intro e; simp [hd, e] at this
  · have := h6 i hi j hj
    simp only [hd, Bool.or_eq_true] at this
    rcases this with (this | this) | this
    · simp [hl] at this
    · exact .inl this
    · exact .inr this
/-- Operation i writes what another one reads that does not wait for it. -/
def lateB (l : List Oper) (i : Nat) : Bool := (List.range l.length).any fun j => match dstOf l i with | none => false | some d => (looks l j).contains d && !waitsI l j i
theorem lateB_no {l : List Oper} {i : Nat} (h : lateB l i = false) {j : Nat} (hj : j < l.length) {d : Tmp} (hd : dstOf l i = some d) (hl : d ∈ looks l j) : waitsI l j i = true := by
  unfold lateB at h
  rw [List.any_eq_false] at h
  have := h j (List.mem_range.2 hj)
  rw [hd] at this
  simpa [hl] using this
theorem lateB_yes {l : List Oper} {i j : Nat} (hj : j < l.length) {d : Tmp} (hd : dstOf l i = some d) (hl : d ∈ looks l j) (hw : ¬ waitsI l j i = true) : lateB l i = true := by
  cases h : lateB l i
  · exact absurd (lateB_no h hj hd hl) hw
  · rfl

section
variable {P : Program} {l : List Oper} {Q : Exit → Act → World → Prop}
/-- Operation s waits (over one step at the most) for everything that is listed. -/
def clears (l : List Oper) (ls : Array Bool) (s : Nat) : Bool :=
  (List.range l.length).all fun i => !(ls.getD i false) || waitsI l s i || (List.range l.length).any fun j => waitsI l s j && waitsI l j i
/-- The walk along canonical orders. -/
def wpM (P : Program) (l : List Oper) (Q : Exit → Act → World → Prop) : Nat → Array Bool → (World → Prop) → Act → World → Prop
  | 0, ls, _, a, W => Region.ready .any l.toArray ls = [] ∧ Q .normal a W
  | n + 1, ls, S, a, W =>
    (∃ i v, i ∈ Region.ready .any l.toArray ls ∧ lateB l i = false ∧ EY P S l i a v ∧ wpM P l Q n (ls.setIfInBounds i true) S (a.put (dstOf l i) v) W) ∨
    ((Region.ready .any l.toArray ls = [] → Q .normal a W) ∧ ∀ s ∈ Region.ready .any l.toArray ls, match l[s]? with
      | none => False
      | some o => wpList P l.toArray (nxt fun a' W' => ∃ S' : World → Prop, S' W' ∧ ((∀ V, S' V → S V) ∨ clears l ls s = true) ∧ wpM P l Q n (ls.setIfInBounds s true) S' a' W') [o] a W)
/-- What stands behind operation s. -/
def afterM (P : Program) (l : List Oper) (Q : Exit → Act → World → Prop) (n : Nat) (ls : Array Bool) (S : World → Prop) (s : Nat) (a' : Act) (W' : World) : Prop :=
  ∃ S' : World → Prop, S' W' ∧ ((∀ V, S' V → S V) ∨ clears l ls s = true) ∧ wpM P l Q n (ls.setIfInBounds s true) S' a' W'

/-- The run at hand (b) beside the canonical one (a): the same but for quiet operations that are still to come. -/
structure Sim (P : Program) (l : List Oper) (c : Nat → Value) (ls : Array Bool) (S : World → Prop) (a : Act) (listed : Array Bool) (b : Act) (W : World) : Prop where
  size : listed.size = l.length
  lsize : ls.size = l.length
  sub : ∀ i, on listed i → on ls i
  closed : ∀ j i, on listed j → waitsI l j i = true → on listed i
  lclosed : ∀ j i, on ls j → waitsI l j i = true → on ls i
  pend : ∀ i, on ls i → ¬ on listed i → ∀ b' : Act, (∀ t ∈ looks l i, b'.tmps[t]? = a.tmps[t]?) → EY P S l i b' (c i)
  asize : b.tmps.size = a.tmps.size
  defers : b.defers = a.defers
  at_ : ∀ i t, on ls i → ¬ on listed i → dstOf l i = some t → a.tmps[t]? = (b.put (some t) (c i)).tmps[t]?
  else_ : ∀ t, (∀ i, on ls i → ¬ on listed i → dstOf l i ≠ some t) → a.tmps[t]? = b.tmps[t]?
  s : S W
  late : ∀ i, on ls i → lateB l i = true → on listed i

theorem on_lt {ls : Array Bool} {i : Nat} (hs : ls.size = l.length) (h : on ls i) : i < l.length := by
  have := (Array.getElem?_eq_some_iff.1 h).1; omega
theorem looks_op {i : Nat} {o : Oper} (ho : l[i]? = some o) : looks l i = o.looksAt l.toArray := by simp [looks, ho]

/-- What an operation that is ready at hand looks at is alike in both. -/
theorem Sim.look (_hC : ChkM l) {c : Nat → Value} {ls listed : Array Bool} {S : World → Prop} {a b : Act} {W : World} (I : Sim P l c ls S a listed b W) {i : Nat} (hr : i ∈ Region.ready .any l.toArray listed) :
    ∀ t ∈ looks l i, b.tmps[t]? = a.tmps[t]? := fun t ht => by
  obtain ⟨hlt, hun, o, ho, hall⟩ := (ready_spec I.size).1 hr
  refine (I.else_ t fun k hk hku hd => ?_).symm
  by_cases hw : waitsI l i k = true
  · obtain ⟨o', ho', e, he, hb, rfl⟩ := waitsI_spec hw
    rw [ho] at ho'; cases ho'
    exact hku (hall e he hb)
  · exact hku (I.late k hk (lateB_yes hlt hd ht hw))

/-- A quiet operation more in the canonical run. -/
theorem Sim.ahead (hC : ChkM l) {c : Nat → Value} {ls listed : Array Bool} {S : World → Prop} {a b : Act} {W : World} (I : Sim P l c ls S a listed b W) {k : Nat} {v : Value} (hk : k ∈ Region.ready .any l.toArray ls) (hlk : lateB l k = false) (hy : EY P S l k a v) :
    Sim P l (fun i => if i = k then v else c i) (ls.setIfInBounds k true) S (a.put (dstOf l k) v) listed b W := by
  obtain ⟨hlt, hun, o, ho, hall⟩ := (ready_spec I.lsize).1 hk
  have hkl : k < ls.size := by rw [I.lsize]; exact hlt
  have hkn : ¬ on listed k := fun h => hun (I.sub k h)
  have hdk : ∀ i, on ls i → ∀ t, dstOf l k = some t → t ∉ looks l i := fun i hi t hd ht => by
    have hw := lateB_no hlk (on_lt I.lsize hi) hd ht
    exact hun (I.lclosed i k hi hw)
  refine ⟨I.size, by simpa using I.lsize, fun i hi => on_set (I.sub i hi), I.closed, fun j i hj hw => ?_, fun i hi hin b' hb' => ?_, by rw [put_size]; exact I.asize, ?_, fun i t hi hin hd => ?_, fun t ht => ?_, I.s, fun i hi hl => ?_⟩
  · rcases on_of_set hj with rfl | hj
    · obtain ⟨o', ho', e, he, hb, rfl⟩ := waitsI_spec hw
      rw [ho] at ho'; cases ho'
      exact on_set (hall e he hb)
    · exact on_set (I.lclosed j i hj hw)
  · rcases on_of_set hi with rfl | hi
    · rw [if_pos rfl]
      have hself : ∀ t ∈ looks l i, (a.put (dstOf l i) v).tmps[t]? = a.tmps[t]? := fun t ht => put_get_ne fun hd => by
        have hw := lateB_no hlk hlt hd ht
        obtain ⟨o', ho', e, he, hb, he2⟩ := waitsI_spec hw
        have := (hC.ok i o' ho').2 e he hb
        omega
      exact hy.agree (fun o' ho' => (hC.ok i o' ho').1) fun t ht => by rw [hb' t ht, hself t ht]
    · have hne : i ≠ k := fun e => hun (e ▸ hi)
      rw [if_neg hne]
      refine I.pend i hi hin b' fun t ht => ?_
      rw [hb' t ht]
      exact put_get_ne fun hd => hdk i hi t hd ht
  · cases dstOf l k <;> exact I.defers
  · rcases on_of_set hi with rfl | hi
    · rw [if_pos rfl, hd]
      exact put_get _ I.asize.symm
    · have hne : i ≠ k := fun e => hun (e ▸ hi)
      rw [if_neg hne, put_get_ne fun e => hC.dist i (on_lt I.lsize hi) k hlt hne t hd e]
      exact I.at_ i t hi hin hd
  · rw [put_get_ne fun e => ht k (on_self hkl) hkn e]
    exact I.else_ t fun i hi hin => ht i (on_set hi) hin
  · rcases on_of_set hi with rfl | hi
    · rw [hlk] at hl; cases hl
    · exact I.late i hi hl

/-- A pending quiet operation comes up. -/
theorem Sim.behind (hC : ChkM l) {c : Nat → Value} {ls listed : Array Bool} {S : World → Prop} {a b : Act} {W : World} (I : Sim P l c ls S a listed b W) {i : Nat} (hr : i ∈ Region.ready .any l.toArray listed) (hi : on ls i) :
    Sim P l c ls S a (listed.setIfInBounds i true) (b.put (dstOf l i) (c i)) W ∧ ∀ K : Act → World → Prop, K (b.put (dstOf l i) (c i)) W → wpOp P l.toArray Q i K b W := by
  obtain ⟨hlt, hun, o, ho, hall⟩ := (ready_spec I.size).1 hr
  have hisz : i < listed.size := by rw [I.size]; exact hlt
  constructor
  · refine ⟨by simpa using I.size, I.lsize, fun j hj => ?_, Inv.closed_set I.closed I.size hr, I.lclosed, fun k hk hkn => I.pend k hk fun h => hkn (on_set h), by rw [put_size]; exact I.asize, ?_, fun k t hk hkn hd => ?_, fun t ht => ?_, I.s, fun k hk hl => on_set (I.late k hk hl)⟩
    · rcases on_of_set hj with rfl | hj
      · exact hi
      · exact I.sub j hj
    · cases dstOf l i <;> exact I.defers
    · have hne : k ≠ i := fun e => hkn (by rw [e]; exact on_self hisz)
      rw [I.at_ k t hk (fun h => hkn (on_set h)) hd]
      exact put_get _ (put_size ..).symm
    · by_cases hd : dstOf l i = some t
      · rw [I.at_ i t hi hun hd, hd]
      · rw [put_get_ne hd]
        refine I.else_ t fun k hk hkn hdk => ?_
        by_cases hki : k = i
        · exact hd (hki ▸ hdk)
        · exact ht k hk (fun h => hkn ((on_of_set h).resolve_left hki)) hdk
  · intro K hK
    have hy := I.pend i hi hun b (I.look hC hr)
    unfold EY at hy
    unfold wpOp
    have ho' : l.toArray[i]? = some o := by simpa using ho
    have hd : dstOf l i = o.dst := by simp [dstOf, ho]
    simp only [ho] at hy
    simp only [ho']
    rw [hd] at hK
    split
    · rename_i hw
      rw [if_pos hw] at hy
      refine .inl ?_
      unfold Oper.wp
      rw [hy W I.s]
      exact hK
    · rename_i hw
      rw [if_neg hw] at hy
      rw [← hy]; exact hK

/-- An operation that both runs take. -/
theorem Sim.both (hC : ChkM l) {c : Nat → Value} {ls listed : Array Bool} {S : World → Prop} {a b : Act} {W : World} {n : Nat} (I : Sim P l c ls S a listed b W) {s : Nat} (hr : s ∈ Region.ready .any l.toArray listed) (hs : ¬ on ls s) {o : Oper} (ho : l[s]? = some o)
    (hgo : wpList P l.toArray (nxt (afterM P l Q n ls S s)) [o] a W) (K : Act → World → Prop)
    (hK : ∀ b' W' S' a', Sim P l c (ls.setIfInBounds s true) S' a' (listed.setIfInBounds s true) b' W' → wpM P l Q n (ls.setIfInBounds s true) S' a' W' → K b' W') : wpOp P l.toArray Q s K b W := by
  obtain ⟨hlt, hun, o2, ho2, hall⟩ := (ready_spec I.size).1 hr
  rw [ho] at ho2; cases ho2
  have hlsz : s < ls.size := by rw [I.lsize]; exact hlt
  have hsz : s < listed.size := by rw [I.size]; exact hlt
  have hag := I.look hC hr
  rw [looks_op ho] at hag
  have hd : dstOf l s = o.dst := by simp [dstOf, ho]
  have nodst : ∀ i, on ls i → ∀ t, o.dst = some t → dstOf l i ≠ some t := fun i hi t ht => by
    have hne : s ≠ i := fun e => hs (e ▸ hi)
    exact hC.dist s hlt i (on_lt I.lsize hi) hne t (hd ▸ ht)
  have nolook : ∀ i, on ls i → ¬ on listed i → ∀ t, o.dst = some t → t ∉ looks l i := fun i hi hin t ht hl => by
    rcases hC.reads s hlt i (on_lt I.lsize hi) t (hd ▸ ht) hl with hw | hw
    · exact hs (I.lclosed i s hi hw)
    · obtain ⟨o', ho', e, he, hb, rfl⟩ := waitsI_spec hw
      rw [ho] at ho'; cases ho'
      exact hin (hall e he hb)
  have next : ∀ v D W', afterM P l Q n ls S s (({ a with defers := D } : Act).put o.dst v) W' → K (({ b with defers := D } : Act).put o.dst v) W' := by
    rintro v D W' ⟨S', hS', hsub, hm⟩
    refine hK _ _ S' _ ⟨by simpa using I.size, by simpa using I.lsize, fun j hj => ?_, Inv.closed_set I.closed I.size hr, fun j i hj hw => ?_, fun i hi hin b' hb' => ?_, ?_, ?_, fun i t hi hin hdi => ?_, fun t ht => ?_, hS', fun i hi hl => ?_⟩ hm
    · rcases on_of_set hj with rfl | hj
      · exact on_self hlsz
      · exact on_set (I.sub j hj)
    · rcases on_of_set hj with rfl | hj
      · obtain ⟨o', ho', e, he, hb, rfl⟩ := waitsI_spec hw
        rw [ho] at ho'; cases ho'
        exact on_set (I.sub _ (hall e he hb))
      · exact on_set (I.lclosed j i hj hw)
    · have hne : i ≠ s := fun e => hin (by rw [e]; exact on_self hsz)
      have hi' := (on_of_set hi).resolve_left hne
      have hin' : ¬ on listed i := fun h => hin (on_set h)
      rcases hsub with hsub | hcl
      · have hy := I.pend i hi' hin' b' fun t ht => by
          rw [hb' t ht]
          exact put_get_ne fun e => nolook i hi' hin' t e ht
        unfold EY at hy ⊢
        cases hoi : l[i]? with
        | none => rw [hoi] at hy; exact hy
        | some oi =>
          rw [hoi] at hy
          dsimp only at hy ⊢
          split at hy
          · rename_i hw; rw [if_pos hw]; exact fun V hV => hy V (hsub V hV)
          · rename_i hw; rw [if_neg hw]; exact hy
      · exfalso
        unfold clears at hcl
        have hil := on_lt I.lsize hi'
        have := List.all_eq_true.1 hcl i (List.mem_range.2 hil)
        simp only [Bool.or_eq_true, List.any_eq_true, Bool.and_eq_true] at this
        have hon : ls.getD i false = true := by
          unfold on at hi'; simp [hi']
        have up : ∀ j, waitsI l s j = true → on listed j := fun j hw => by
          obtain ⟨o', ho', e, he, hb, rfl⟩ := waitsI_spec hw
          rw [ho] at ho'; cases ho'
          exact hall e he hb
        rcases this with (h | h) | ⟨j, _, h1, h2⟩
        · simp [hon] at h
        · exact hin' (up i h)
        · exact hin' (I.closed j i (up j h1) h2)
    · simp only [put_size]; exact I.asize
    · cases o.dst <;> rfl
    · have hne : i ≠ s := fun e => hin (by rw [e]; exact on_self hsz)
      have hi' := (on_of_set hi).resolve_left hne
      rw [put_get_ne fun e => nodst i hi' t e hdi]
      refine (I.at_ i t hi' (fun h => hin (on_set h)) hdi).trans (put_get _ ?_)
      simp only [put_size]
    · by_cases hds : o.dst = some t
      · rw [hds]
        refine put_get _ ?_
        exact I.asize.symm
      · rw [put_get_ne hds, put_get_ne hds]
        refine I.else_ t fun i hi hin hdi => ?_
        have hne : i ≠ s := fun e => hs (e ▸ hi)
        exact ht i (on_set hi) (fun h => hin ((on_of_set h).resolve_left hne)) hdi
    · rcases on_of_set hi with rfl | hi
      · exact on_self hsz
      · exact on_set (I.late i hi hl)
  unfold wpOp
  have ho' : l.toArray[s]? = some o := by simpa using ho
  simp only [ho']
  unfold wpList at hgo
  rw [← wanted_agree hag] at hgo
  have ea : ∀ x : Act, ({ x with defers := x.defers } : Act) = x := fun _ => rfl
  split
  · rename_i hw
    rw [if_pos hw] at hgo
    rcases hgo with hgo | ⟨_, _, _, h⟩
    · refine .inl ?_
      unfold Oper.wp at *
      rw [execOp_congr o (hC.ok s o ho).1 (eval_agree hag)]
      refine upon_to (A := a) (K := afterM P l Q n ls S s) (fun v W' h => ?_) (fun d W' h => ?_) _ hgo
      · have := next v a.defers W' h
        have e2 : ({ b with defers := a.defers } : Act) = b := by rw [← I.defers]
        rwa [e2] at this
      · have := next undef (d :: a.defers) W' h
        rw [I.defers]; exact this
    · exact h.elim
  · rename_i hw
    rw [if_neg hw] at hgo
    have := next undef a.defers W hgo
    have e2 : ({ b with defers := a.defers } : Act) = b := by rw [← I.defers]
    rwa [e2] at this

theorem Sim.all (hC : ChkM l) {listed : Array Bool} (hsz : listed.size = l.length) (hr : Region.ready .any l.toArray listed = []) : ∀ i, i < l.length → on listed i := by
  intro i
  induction i using Nat.strongRecOn with
  | _ i ih =>
    intro hi
    by_cases hon : on listed i
    · exact hon
    · have : i ∈ Region.ready .any l.toArray listed := (ready_spec hsz).2 ⟨hi, hon, l[i], List.getElem?_eq_getElem hi, fun e he hb =>
        have hlt := (hC.ok i _ (List.getElem?_eq_getElem hi)).2 e he hb
        ih e.on hlt (by omega)⟩
      rw [hr] at this; cases this
theorem wpM_done {n : Nat} {ls : Array Bool} {S : World → Prop} {a : Act} {W : World} (hr : Region.ready .any l.toArray ls = []) (h : wpM P l Q n ls S a W) : Q .normal a W := by
  cases n with
  | zero => exact h.2
  | succ n =>
    rcases h with ⟨i, v, hi, _, _⟩ | h
    · rw [hr] at hi; cases hi
    · exact h.1 hr
theorem Sim.done (hC : ChkM l) {c : Nat → Value} {ls listed : Array Bool} {S : World → Prop} {a b : Act} {W : World} {n : Nat} (I : Sim P l c ls S a listed b W) (hr : Region.ready .any l.toArray listed = []) (h : wpM P l Q n ls S a W) : Q .normal b W := by
  have hall := Sim.all hC I.size hr
  have hab : a = b := by
    have h1 : a.tmps = b.tmps := Array.ext_getElem? fun t => I.else_ t fun i hi hin => absurd (hall i (on_lt I.lsize hi)) hin
    have h2 := I.defers
    cases a; cases b
    simp only at h1 h2
    rw [h1, h2]
  have hls : Region.ready .any l.toArray ls = [] := by
    apply List.eq_nil_iff_forall_not_mem.2
    intro i hi
    obtain ⟨hlt, hun, _⟩ := (ready_spec I.lsize).1 hi
    exact hun (I.sub i (hall i hlt))
  rw [← hab]
  exact wpM_done hls h

theorem count_set {listed : Array Bool} {i fuel : Nat} (hsz : i < listed.size) (hun : ¬ on listed i) (hf : listed.toList.count false = fuel + 1) : (listed.setIfInBounds i true).toList.count false = fuel := by
  have h1 : i < listed.toList.length := by rw [Array.length_toList]; exact hsz
  have h2 : listed.toList[i] = false := by
    unfold on at hun
    simp [hsz] at hun
    simpa using hun
  rw [Array.toList_setIfInBounds, List.count_set h1, h2, hf]
  simp

/-- One operation of the run at hand, whatever the canonical run does first. -/
theorem Sim.step (hC : ChkM l) : ∀ (n : Nat) (c : Nat → Value) (ls : Array Bool) (S : World → Prop) (a : Act) (listed : Array Bool) (b : Act) (W : World) (i : Nat) (K : Act → World → Prop), Sim P l c ls S a listed b W → wpM P l Q n ls S a W → i ∈ Region.ready .any l.toArray listed →
    (∀ (m : Nat) (c' : Nat → Value) (ls' : Array Bool) (S' : World → Prop) (a' : Act) (b' : Act) (W' : World), Sim P l c' ls' S' a' (listed.setIfInBounds i true) b' W' → wpM P l Q m ls' S' a' W' → K b' W') → wpOp P l.toArray Q i K b W
  | n, c, ls, S, a, listed, b, W, i, K, I, h, hr, hK => by
    by_cases hi : on ls i
    · obtain ⟨I', hop⟩ := I.behind (Q := Q) hC hr hi
      exact hop K (hK n c ls S a _ _ I' h)
    · obtain ⟨hlt, hun, o, ho, hall⟩ := (ready_spec I.size).1 hr
      have hrl : i ∈ Region.ready .any l.toArray ls := (ready_spec I.lsize).2 ⟨hlt, hi, o, ho, fun e he hb => I.sub _ (hall e he hb)⟩
      match n, h with
      | 0, h => rw [h.1] at hrl; cases hrl
      | n + 1, .inl ⟨k, v, hk, hl, hy, h⟩ => exact Sim.step hC n _ _ S _ listed b W i K (I.ahead hC hk hl hy) h hr hK
      | n + 1, .inr h =>
        have hgo := h.2 i hrl
        rw [ho] at hgo
        exact I.both hC hr hi ho hgo K fun b' W' S' a' I' h' => hK n c _ S' a' b' W' I' h'

theorem Sim.any (hC : ChkM l) : ∀ (fuel : Nat) (n : Nat) (c : Nat → Value) (ls : Array Bool) (S : World → Prop) (a : Act) (listed : Array Bool) (b : Act) (W : World), listed.toList.count false = fuel → Sim P l c ls S a listed b W → wpM P l Q n ls S a W → wpAny P .any l.toArray Q fuel listed b W
  | 0, n, c, ls, S, a, listed, b, W, hf, I, h => by
    have hr : Region.ready .any l.toArray listed = [] := by
      apply List.eq_nil_iff_forall_not_mem.2
      intro i hi
      obtain ⟨hlt, hun, _⟩ := (ready_spec I.size).1 hi
      have h1 : i < listed.toList.length := by rw [Array.length_toList, I.size]; exact hlt
      have h2 : listed.toList[i] = false := by
        unfold on at hun
        have h3 : i < listed.size := by rw [I.size]; exact hlt
        simp [h3] at hun
        simpa using hun
      have := List.count_pos_iff.2 (h2 ▸ List.getElem_mem h1)
      omega
    exact ⟨hr, I.done hC hr h⟩
  | fuel + 1, n, c, ls, S, a, listed, b, W, hf, I, h => by
    refine ⟨fun hr => I.done hC hr h, fun i hi => ?_⟩
    obtain ⟨hlt, hun, _⟩ := (ready_spec I.size).1 hi
    have hcount := count_set (by rw [I.size]; exact hlt) hun hf
    exact Sim.step hC n c ls S a listed b W i _ I h hi fun m c' ls' S' a' b' W' I' h' => Sim.any hC fuel m c' ls' S' a' _ b' W' hcount I' h'

/-- THE LAW. -/
theorem wp_mix {id : Nat} {a : Act} {w : World} (S : World → Prop) (n : Nat) (hm : P.follows .mixedOrders = true) (hC : chkM l = true) (hS : S w.drew) (h : wpM P l Q n (Array.replicate l.length false) S a w.drew) : (Code.region id l.toArray true).wp P Q a w := by
  have hC := chkM_spec hC
  have hoff : ∀ i, ¬ on (Array.replicate l.length false) i := fun i h => by
    unfold on at h
    obtain ⟨h1, h2⟩ := Array.getElem?_eq_some_iff.1 h
    simp at h2
  refine wp_region_any hm (Sim.any hC _ n (fun _ => undef) _ S a _ _ _ (by simp) ⟨by simp, by simp, fun i h => absurd h (by simpa using hoff i), fun j _ h => absurd h (by simpa using hoff j), fun j _ h => absurd h (hoff j), fun i h => absurd h (hoff i), rfl, rfl, fun i t h => absurd h (hoff i), fun _ _ => rfl, hS, fun i h => absurd h (hoff i)⟩ h)
end

section
variable {P : Program} {l : List Oper} {Q : Exit → Act → World → Prop} {n : Nat} {ls : Array Bool} {S : World → Prop} {a : Act} {W : World}
/-- A quiet operation that is not guarded; guarded: it runs; it does not. -/
theorem m_q (i : Nat) {o : Oper} {v : Value} (hr : ((Region.ready .any l.toArray ls).contains i && !lateB l i) = true) (ho : l[i]? = some o) (hg : o.guard = none) (h : ∀ V, S V → (execOp a.eval o).run P V = .ok (.value v) V) (hk : wpM P l Q n (ls.setIfInBounds i true) S (a.put o.dst v) W) : wpM P l Q (n + 1) ls S a W := by
  refine .inl ⟨i, v, by have := (Bool.and_eq_true _ _ ▸ hr).1; simpa using this, by have := (Bool.and_eq_true _ _ ▸ hr).2; simpa using this, ?_, ?_⟩
  · unfold EY; rw [ho]; dsimp only; rw [if_pos (by simp [Region.wanted, hg])]; exact h
  · simpa [dstOf, ho] using hk
theorem m_yes (i : Nat) {o : Oper} {v : Value} (hr : ((Region.ready .any l.toArray ls).contains i && !lateB l i) = true) (ho : l[i]? = some o) (hg : Region.wanted o (yielded l.toArray a.tmps) = true) (h : ∀ V, S V → (execOp a.eval o).run P V = .ok (.value v) V) (hk : wpM P l Q n (ls.setIfInBounds i true) S (a.put o.dst v) W) : wpM P l Q (n + 1) ls S a W := by
  refine .inl ⟨i, v, by have := (Bool.and_eq_true _ _ ▸ hr).1; simpa using this, by have := (Bool.and_eq_true _ _ ▸ hr).2; simpa using this, ?_, ?_⟩
  · unfold EY; rw [ho]; dsimp only; rw [if_pos hg]; exact h
  · simpa [dstOf, ho] using hk
theorem m_no (i : Nat) {o : Oper} (hr : ((Region.ready .any l.toArray ls).contains i && !lateB l i) = true) (ho : l[i]? = some o) (hg : Region.wanted o (yielded l.toArray a.tmps) = false) (hk : wpM P l Q n (ls.setIfInBounds i true) S (a.put o.dst undef) W) : wpM P l Q (n + 1) ls S a W := by
  refine .inl ⟨i, undef, by have := (Bool.and_eq_true _ _ ▸ hr).1; simpa using this, by have := (Bool.and_eq_true _ _ ▸ hr).2; simpa using this, ?_, ?_⟩
  · unfold EY; rw [ho]; dsimp only; rw [if_neg (by rw [hg]; decide)]
  · simpa [dstOf, ho] using hk
/-- Of the others one is ready; two are; three. -/
theorem m_s1 (s : Nat) {o : Oper} (hr : Region.ready .any l.toArray ls = [s]) (ho : l[s]? = some o) (h : wpList P l.toArray (nxt (afterM P l Q n ls S s)) [o] a W) : wpM P l Q (n + 1) ls S a W := by
  refine .inr ⟨fun e => by rw [hr] at e; (cases e), fun i hi => ?_⟩
  rw [hr, List.mem_singleton] at hi
  subst hi
  rw [ho]; exact h
theorem m_s2 (s t : Nat) {o p : Oper} (hr : Region.ready .any l.toArray ls = [s, t]) (ho : l[s]? = some o) (hp : l[t]? = some p) (h : wpList P l.toArray (nxt (afterM P l Q n ls S s)) [o] a W) (h2 : wpList P l.toArray (nxt (afterM P l Q n ls S t)) [p] a W) : wpM P l Q (n + 1) ls S a W := by
  refine .inr ⟨fun e => by rw [hr] at e; (cases e), fun i hi => ?_⟩
  rw [hr] at hi
  simp only [List.mem_cons, List.mem_nil_iff, or_false] at hi
  rcases hi with rfl | rfl
  · rw [ho]; exact h
  · rw [hp]; exact h2
theorem m_s3 (s t u : Nat) {o p q : Oper} (hr : Region.ready .any l.toArray ls = [s, t, u]) (ho : l[s]? = some o) (hp : l[t]? = some p) (hq : l[u]? = some q) (h : wpList P l.toArray (nxt (afterM P l Q n ls S s)) [o] a W) (h2 : wpList P l.toArray (nxt (afterM P l Q n ls S t)) [p] a W) (h3 : wpList P l.toArray (nxt (afterM P l Q n ls S u)) [q] a W) : wpM P l Q (n + 1) ls S a W := by
  refine .inr ⟨fun e => by rw [hr] at e; (cases e), fun i hi => ?_⟩
  rw [hr] at hi
  simp only [List.mem_cons, List.mem_nil_iff, or_false] at hi
  rcases hi with rfl | rfl | rfl
  · rw [ho]; exact h
  · rw [hp]; exact h2
  · rw [hq]; exact h3
/-- It waits for all before it: whatever it has done. -/
theorem m_clear {s : Nat} (hc : clears l ls s = true) (h : wpM P l Q n (ls.setIfInBounds s true) (fun V => Below W.heap.size W V) a W) : nxt (afterM P l Q n ls S s) .normal a W :=
  ⟨_, Below.refl _ _, .inr hc, h⟩
theorem m_end (hr : Region.ready .any l.toArray ls = []) (h : Q .normal a W) : wpM P l Q n ls S a W := by
  cases n with
  | zero => exact ⟨hr, h⟩
  | succ n => exact .inr ⟨fun _ => h, fun i hi => by rw [hr] at hi; cases hi⟩
end
/-- Where the orders of a region meet again: the rest is walked once. F: the frame over free slots; R: what holds. -/
theorem m_keep {P : Program} {l : List Oper} {Q : Exit → Act → World → Prop} {n : Nat} {ls : Array Bool} {S : World → Prop} {a : Act} {W : World} {s : Nat} (hS : S W) (h : wpM P l Q n (ls.setIfInBounds s true) S a W) : nxt (afterM P l Q n ls S s) .normal a W :=
  ⟨S, hS, .inl fun _ h => h, h⟩
theorem m_join {P : Program} {l : List Oper} {Q : Exit → Act → World → Prop} {n : Nat} {ls : Array Bool} {S : World → Prop} {a : Act} {W : World} {β : Type} (ls' : Array Bool) (n' : Nat) (F : β → (Nat → Value) → Array Value) (R : β → List Deferred → World → Prop)
    (leaf : ∀ b f ds W, R b ds W → wpM P l Q n' ls' S { tmps := F b f, defers := ds } W)
    (h : (∀ b (a' : Act) W' (ls'' : Array Bool), ls'' = ls' → a'.tmps = F b (fun i => a'.tmps.getD i undef) → R b a'.defers W' → wpM P l Q n' ls'' S a' W') → wpM P l Q n ls S a W) : wpM P l Q n ls S a W :=
  h fun b ⟨tmps, ds⟩ W' ls'' e1 e2 hR => by
    subst e1
    dsimp only at e2 hR
    rw [e2]
    exact leaf b _ ds W' hR
end Mix2
end Go.Proofs.YtfbkcdhmggjbaaaGreatDoor
