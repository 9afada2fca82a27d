/-
  The law wp_spine once more, with one condition weaker: an operation of the forced order may write what an early one reads, if it waits for it ('x = append(x, f(y))').
-/
import Derived.Test.YtjlcnbfkblmoeaaDoorBits
namespace Go.Proofs.YtjlcnbfkblmoeaaDoor
open Go.RowKit
namespace Late

def chk (l : List Oper) (E T : List Nat) : Bool :=
  (List.range l.length).all (okOp l) && (List.range l.length).all (fun i => E.contains i != T.contains i) && (E ++ T).all (fun i => decide (i < l.length)) && sortedB E &&
  E.all (fun i => (List.range l.length).all fun j => i == j || (dstOf l i).isNone || dstOf l i != dstOf l j) &&
  E.all (fun i => (List.range l.length).all fun j => match dstOf l i with | none => true | some d => !(looks l j).contains d || waitsI l j i) &&
  T.all (fun j => E.all fun i => match dstOf l j with | none => true | some d => !(looks l i).contains d || waitsI l j i) && chainT l T &&
  (T.isEmpty || E.all fun i => (List.range l.length).any fun j => decide (i < j) && waitsI l j i)

structure Chk (l : List Oper) (E T : List Nat) : Prop where
  ok : ∀ i o, l[i]? = some o → (∀ cs b, o.op ≠ .select cs b) ∧ ∀ e ∈ o.after, Region.binds .any e = true → e.on < i
  part : ∀ i, i < l.length → (i ∈ E ↔ i ∉ T)
  lt : ∀ i, i ∈ E ∨ i ∈ T → i < l.length
  sorted : sortedB E = true
  dist : ∀ i ∈ E, ∀ j, j < l.length → i ≠ j → ∀ d, dstOf l i = some d → dstOf l j ≠ some d
  reads : ∀ i ∈ E, ∀ j, j < l.length → ∀ d, dstOf l i = some d → d ∈ looks l j → waitsI l j i = true
  apart : ∀ j ∈ T, ∀ i ∈ E, ∀ d, dstOf l j = some d → d ∈ looks l i → waitsI l j i = true
  chain : chainT l T = true
  sink : T ≠ [] → ∀ i ∈ E, ∃ j, j < l.length ∧ i < j ∧ waitsI l j i = true

theorem chk_spec {l : List Oper} {E T : List Nat} (h : chk l E T = true) : Chk l E T := by
  simp only [chk, Bool.and_eq_true, List.all_eq_true, List.mem_range, Bool.or_eq_true, List.mem_append] at h
  obtain ⟨⟨⟨⟨⟨⟨⟨⟨h1, h2⟩, h3⟩, h4⟩, h5⟩, h6⟩, h7⟩, h8⟩, h9⟩ := h
  refine ⟨fun i o ho => ?_, fun i hi => ?_, fun i hi => by simpa using h3 i hi, h4, fun i hi j hj hne d hd => ?_, fun i hi j hj d hd hl => ?_, fun j hj i hi d hd hl => ?_, h8, fun hT i hi => ?_⟩
  · have hlt : i < l.length := (List.getElem?_eq_some_iff.1 ho).1
    have := h1 i hlt
    simp only [okOp, ho, Bool.and_eq_true, Array.all_eq_true'] at this
    refine ⟨fun cs b hs => by simp [hs] at this, fun e he hb => ?_⟩
    have := this.2 e he
    simpa [hb] using this
  · have := h2 i hi
    by_cases hE : i ∈ E <;> by_cases hT : i ∈ T <;> simp_all
  · have := h5 i hi j hj
    rcases this with (this | this) | this
    · exact absurd (by simpa using this) hne
    · simp [hd] at this
    · intro e; simp [hd, e] at this
  · have := h6 i hi j hj
    simp only [hd, Bool.or_eq_true] at this
    rcases this with this | this
    · simp [hl] at this
    · exact this
  · have := h7 j hj i hi
    simpa [hd, hl] using this
  · rcases h9 with h9 | h9
    · exact absurd (by simpa using h9) hT
    · obtain ⟨j, hj, h⟩ := List.any_eq_true.1 (h9 i hi)
      simp only [Bool.and_eq_true, decide_eq_true_eq] at h
      exact ⟨j, List.mem_range.1 hj, h.1, h.2⟩

section
variable {P : Program} {l : List Oper} {S : World → Prop} {c : Nat → Value}

variable {E T : List Nat} {Q : Exit → Act → World → Prop} {a : Act}

structure Inv (P : Program) (S : World → Prop) (l : List Oper) (c : Nat → Value) (E T : List Nat) (Q : Exit → Act → World → Prop) (a : Act) (listed : Array Bool) (b : Act) (W : World) (R : List Nat) : Prop where
  size : listed.size = l.length
  asize : b.tmps.size = a.tmps.size
  closed : ∀ j i, on listed j → waitsI l j i = true → on listed i
  idem : ∀ i ∈ E, on listed i → b.put (dstOf l i) (c i) = b
  old : ∀ t, (∀ j, j < l.length → on listed j → dstOf l j ≠ some t) → b.tmps[t]? = a.tmps[t]?
  rem : ∃ pre, T = pre ++ R ∧ (∀ t ∈ pre, on listed t) ∧ (∀ t ∈ R, ¬ on listed t)
  sOK : R = [] → S W ∨ ∀ i ∈ E, on listed i
  go : wpSp P S l Q R (putAll l c E b) W

theorem Inv.closed_set {listed : Array Bool} {i : Nat} (hc : ∀ j i, on listed j → waitsI l j i = true → on listed i) (hs : listed.size = l.length) (hr : i ∈ Region.ready .any l.toArray listed) :
    ∀ j k, on (listed.setIfInBounds i true) j → waitsI l j k = true → on (listed.setIfInBounds i true) k := fun j k hj hw => by
  rcases on_of_set hj with rfl | hj
  · obtain ⟨_, _, o, ho, hall⟩ := (ready_spec hs).1 hr
    obtain ⟨o', ho', e, he, hb, rfl⟩ := waitsI_spec hw
    rw [ho] at ho'; cases ho'
    exact on_set (hall e he hb)
  · exact on_set (hc j k hj hw)

theorem Inv.early_of_all {listed : Array Bool} (hC : Chk l E T) (hT : T ≠ []) (hcl : ∀ j i, on listed j → waitsI l j i = true → on listed i) (hall : ∀ t ∈ T, on listed t) : ∀ i ∈ E, on listed i := by
  have : ∀ d i, l.length - i = d → i ∈ E → on listed i := by
    intro d
    induction d using Nat.strongRecOn with
    | _ d ih =>
      intro i hd hi
      obtain ⟨j, hj, hij, hw⟩ := hC.sink hT i hi
      by_cases hjE : j ∈ E
      · exact hcl j i (ih (l.length - j) (by omega) j rfl hjE) hw
      · have : j ∈ T := by
          by_cases hjT : j ∈ T
          · exact hjT
          · exact absurd ((hC.part j hj).2 hjT) hjE
        exact hcl j i (hall j this) hw
  exact fun i hi => this _ i rfl hi

theorem Inv.early (hC : Chk l E T) (hc : ∀ pre i suf, E = pre ++ i :: suf → EY P S l i (putAll l c pre a) (c i)) {listed : Array Bool} {b : Act} {W : World} {R : List Nat}
    (I : Inv P S l c E T Q a listed b W R) {i : Nat} (hr : i ∈ Region.ready .any l.toArray listed) (hiE : i ∈ E) :
    Inv P S l c E T Q a (listed.setIfInBounds i true) (b.put (dstOf l i) (c i)) W R ∧ ∀ K : Act → World → Prop, K (b.put (dstOf l i) (c i)) W → wpOp P l.toArray Q i K b W := by
  obtain ⟨hlt, hun, o, ho, hall⟩ := (ready_spec I.size).1 hr
  have hisz : i < listed.size := by rw [I.size]; exact hlt
  constructor
  · refine ⟨by simpa using I.size, by rw [put_size]; exact I.asize, Inv.closed_set I.closed I.size hr, fun k hk hon => ?_, fun t ht => ?_, ?_, fun hR => ?_, ?_⟩
    · by_cases hki : k = i
      · subst hki; exact put_put _ _ _
      · have hon' := (on_of_set hon).resolve_left hki
        rw [Act.put_comm b (c i) (c k) (fun d hd => hC.dist i hiE k (hC.lt k (.inl hk)) (Ne.symm hki) d hd), I.idem k hk hon']
    · rw [put_get_ne (ht i hlt (on_self hisz))]
      exact I.old t fun j hj hon => ht j hj (on_set hon)
    · obtain ⟨pre, e, h1, h2⟩ := I.rem
      refine ⟨pre, e, fun t ht => on_set (h1 t ht), fun t ht hon => ?_⟩
      rcases on_of_set hon with rfl | hon
      · exact (hC.part t hlt).1 hiE (by rw [e]; exact List.mem_append_right _ ht)
      · exact h2 t ht hon
    · rcases I.sOK hR with h | h
      · exact .inl h
      · exact .inr fun k hk => on_set (h k hk)
    · rw [putAll_own E b hiE (fun j hj hji d hd => hC.dist i hiE j (hC.lt j (.inl hj)) (Ne.symm hji) d hd)]
      exact I.go
  · intro K hK
    obtain ⟨pre, suf, he, hpre⟩ := sortedB_split hC.sorted hiE
    have hy := hc pre i suf he
    have hSW : S W := by
      cases R with
      | nil =>
        rcases I.sOK rfl with h | h
        · exact h
        · exact absurd (h i hiE) hun
      | cons s R => exact I.go.1
    have hag : ∀ t ∈ looks l i, b.tmps[t]? = (putAll l c pre a).tmps[t]? := fun t ht => by
      by_cases hex : ∃ j, j ∈ E ∧ dstOf l j = some t
      · obtain ⟨j, hjE, hd⟩ := hex
        have hw := hC.reads j hjE i hlt t hd ht
        obtain ⟨o', ho', e, hee, hb, rfl⟩ := waitsI_spec hw
        rw [ho] at ho'; cases ho'
        have hji := (hC.ok i o ho).2 e hee hb
        have hon := hall e hee hb
        have h1 := I.idem e.on hjE hon
        rw [putAll_at hd pre a (hpre e.on hjE hji) (fun k hk hke => hC.dist e.on hjE k (hC.lt k (.inl (by rw [he]; exact List.mem_append_left _ hk))) (Ne.symm hke) t hd)]
        rw [← h1, hd]
        exact put_get _ I.asize
      · have hno : ∀ j, j ∈ E → dstOf l j ≠ some t := fun j hj hd => hex ⟨j, hj, hd⟩
        rw [I.old t fun j hj hon hd => ?_, putAll_ne pre a fun k hk => hno k (by rw [he]; exact List.mem_append_left _ hk)]
        by_cases hjE : j ∈ E
        · exact hno j hjE hd
        · have hjT : j ∈ T := by
            by_cases hjT : j ∈ T
            · exact hjT
            · exact absurd ((hC.part j hj).2 hjT) hjE
          exact hun (I.closed j i hon (hC.apart j hjT i hiE t hd ht))
    have hyb := hy.agree (b := b) (fun o' ho' => by rw [ho] at ho'; cases ho'; exact (hC.ok i o ho).1) hag
    unfold EY at hyb
    unfold wpOp
    have ho' : l.toArray[i]? = some o := by simpa using ho
    have hd : dstOf l i = o.dst := by simp [dstOf, ho]
    simp only [ho] at hyb
    simp only [ho']
    rw [hd] at hK
    split
    · rename_i hw
      rw [if_pos hw] at hyb
      refine .inl ?_
      unfold Oper.wp
      rw [hyb W hSW]
      exact hK
    · rename_i hw
      rw [if_neg hw] at hyb
      rw [← hyb]; exact hK

theorem Inv.other (hC : Chk l E T) {listed : Array Bool} {b : Act} {W : World} {R : List Nat}
    (I : Inv P S l c E T Q a listed b W R) {s : Nat} (hr : s ∈ Region.ready .any l.toArray listed) (hsT : s ∈ T) (K : Act → World → Prop)
    (hK : ∀ b' W' R', Inv P S l c E T Q a (listed.setIfInBounds s true) b' W' R' → K b' W') : wpOp P l.toArray Q s K b W := by
  obtain ⟨hlt, hun, o, ho, hall⟩ := (ready_spec I.size).1 hr
  have hssz : s < listed.size := by rw [I.size]; exact hlt
  obtain ⟨pre, hTe, hp, hR⟩ := I.rem
  have hsR : s ∈ R := by
    rw [hTe] at hsT
    rcases List.mem_append.1 hsT with h | h
    · exact absurd (hp s h) hun
    · exact h
  cases R with
  | nil => cases hsR
  | cons r R =>
    have hch : chainT l (r :: R) = true := chain_drop (pre := pre) (by rw [← hTe]; exact hC.chain)
    have hsr : s = r := by
      rcases List.mem_cons.1 hsR with h | h
      · exact h
      · obtain ⟨p, hpm, hw⟩ := chain_pred hch h
        obtain ⟨o', ho', e, he, hb, rfl⟩ := waitsI_spec hw
        rw [ho] at ho'; cases ho'
        exact absurd (hall e he hb) (hR _ hpm)
    subst hsr
    have hsE : s ∉ E := fun h => (hC.part s hlt).1 h hsT
    have hnd : ∀ i ∈ E, ∀ t, o.dst = some t → dstOf l i ≠ some t := fun i hi t hd hdi => by
      have := hC.dist i hi s hlt (fun e => hsE (e ▸ hi)) t hdi
      exact this (by simp [dstOf, ho, hd])
    obtain ⟨_, hgo⟩ := I.go
    rw [ho] at hgo
    dsimp only at hgo
    have hag : ∀ t ∈ o.looksAt l.toArray, b.tmps[t]? = (putAll l c E b).tmps[t]? := fun t ht => by
      by_cases hex : ∃ i ∈ E, dstOf l i = some t
      · obtain ⟨i, hi, hd⟩ := hex
        have hw := hC.reads i hi s hlt t hd (by simpa [looks, ho] using ht)
        obtain ⟨o', ho', e, he, hb, rfl⟩ := waitsI_spec hw
        rw [ho] at ho'; cases ho'
        rw [putAll_at hd E b hi (fun k hk hke => hC.dist e.on hi k (hC.lt k (.inl hk)) (Ne.symm hke) t hd), ← hd, I.idem e.on hi (hall e he hb)]
      · rw [putAll_ne E b fun i hi hd => hex ⟨i, hi, hd⟩]
    have ho' : l.toArray[s]? = some o := by simpa using ho
    have next : ∀ b' W', b'.tmps = (b.put o.dst (b'.tmps.getD 0 undef)).tmps ∨ True → (∃ v D, b' = ({ b with defers := D } : Act).put o.dst v) → wpSp P S l Q R (putAll l c E b') W' → K b' W' := by
      rintro b' W' - ⟨v, D, rfl⟩ hsp
      have hput : ∀ d v', (({ b with defers := D } : Act).put o.dst v).put d v' = { (b.put o.dst v).put d v' with defers := D } := fun d v' => by
        cases d <;> cases o.dst <;> rfl
      refine hK _ _ R ⟨by simpa using I.size, by rw [put_size]; exact I.asize, Inv.closed_set I.closed I.size hr, fun i hi hon => ?_, fun t ht => ?_, ?_, fun hR0 => ?_, hsp⟩
      · have hne : i ≠ s := fun e => hsE (e ▸ hi)
        have hon' := (on_of_set hon).resolve_left hne
        rw [hput, Act.put_comm b v (c i) (fun d hd => hnd i hi d hd), I.idem i hi hon']
        cases o.dst <;> rfl
      · have h1 := ht s hlt (on_self hssz)
        have h2 : dstOf l s = o.dst := by simp [dstOf, ho]
        rw [h2] at h1
        rw [put_get_ne h1]
        exact I.old t fun j hj hon => ht j hj (on_set hon)
      · refine ⟨pre ++ [s], by rw [hTe]; simp, fun t ht => ?_, fun t ht hon => ?_⟩
        · rcases List.mem_append.1 ht with h | h
          · exact on_set (hp t h)
          · rw [List.mem_singleton.1 h]; exact on_self hssz
        · rcases on_of_set hon with rfl | hon
          · obtain ⟨p, hpm, hw⟩ := chain_pred hch ht
            obtain ⟨o', ho', e, he, hb, rfl⟩ := waitsI_spec hw
            rw [ho] at ho'; cases ho'
            exact hR _ hpm (hall e he hb)
          · exact hR t (List.mem_cons_of_mem _ ht) hon
      · refine .inr (Inv.early_of_all hC (fun e => by rw [e] at hTe; simp at hTe) (Inv.closed_set I.closed I.size hr) fun t ht => ?_)
        subst hR0
        rw [hTe] at ht
        rcases List.mem_append.1 ht with h | h
        · exact on_set (hp t h)
        · rw [List.mem_singleton.1 h]; exact on_self hssz
    unfold wpOp
    simp only [ho']
    unfold wpList at hgo
    rw [← wanted_agree hag] at hgo
    split
    · rename_i hw
      rw [if_pos hw] at hgo
      rcases hgo with hgo | ⟨_, _, _, h⟩
      · refine .inl ?_
        unfold Oper.wp at *
        rw [execOp_congr o (hC.ok s o ho).1 (eval_agree hag)]
        refine upon_to (A := putAll l c E b) (K := wpSp P S l Q R) (fun v W' h => ?_) (fun d W' h => ?_) _ hgo
        · refine next _ _ (.inr trivial) ⟨v, b.defers, rfl⟩ ?_
          rw [putAll_put E b (fun i hi t hd => hnd i hi t hd)]; exact h
        · have hdf : (putAll l c E b).defers = b.defers := by
            have := putAll_defers (l := l) (c := c) b.defers E b
            have h2 := congrArg Act.defers this
            exact h2
          refine next _ _ (.inr trivial) ⟨undef, d :: b.defers, rfl⟩ ?_
          rw [putAll_put E _ (fun i hi t hd => hnd i hi t hd), putAll_defers]
          rw [hdf] at h; exact h
      · exact h.elim
    · rename_i hw
      rw [if_neg hw] at hgo
      refine next _ _ (.inr trivial) ⟨undef, b.defers, rfl⟩ ?_
      rw [putAll_put E b (fun i hi t hd => hnd i hi t hd)]; exact hgo

theorem Inv.done (hC : Chk l E T) {listed : Array Bool} {b : Act} {W : World} {R : List Nat} (I : Inv P S l c E T Q a listed b W R) (hr : Region.ready .any l.toArray listed = []) : Q .normal b W := by
  have hall : ∀ i, i < l.length → on listed i := by
    intro i
    induction i using Nat.strongRecOn with
    | _ i ih =>
      intro hi
      by_cases hon : on listed i
      · exact hon
      · have : i ∈ Region.ready .any l.toArray listed := (ready_spec I.size).2 ⟨hi, hon, l[i], List.getElem?_eq_getElem hi, fun e he hb =>
          have hlt := (hC.ok i _ (List.getElem?_eq_getElem hi)).2 e he hb
          ih e.on hlt (by omega)⟩
        rw [hr] at this; cases this
  obtain ⟨pre, hTe, _, hR⟩ := I.rem
  cases R with
  | cons r R => exact absurd (hall r (hC.lt r (.inr (by rw [hTe]; simp)))) (hR r (List.mem_cons_self ..))
  | nil =>
    have := I.go
    rw [putAll_same E b fun i hi => I.idem i hi (hall i (hC.lt i (.inl hi)))] at this
    exact this

theorem Inv.any (hC : Chk l E T) (hc : ∀ pre i suf, E = pre ++ i :: suf → EY P S l i (putAll l c pre a) (c i)) : ∀ (fuel : Nat) (listed : Array Bool) (b : Act) (W : World) (R : List Nat),
    listed.toList.count false = fuel → Inv P S l c E T Q a listed b W R → wpAny P .any l.toArray Q fuel listed b W
  | 0, listed, b, W, R, hf, I => by
    have hr : Region.ready .any l.toArray listed = [] := by
      apply List.eq_nil_iff_forall_not_mem.2
      intro i hi
      obtain ⟨hlt, hun, _⟩ := (ready_spec I.size).1 hi
      have h1 : i < listed.toList.length := by rw [Array.length_toList, I.size]; exact hlt
      have h2 : listed.toList[i] = false := by
        unfold on at hun
        have h3 : i < listed.size := by rw [I.size]; exact hlt
        simp [h3] at hun
        simpa using hun
      have := List.count_pos_iff.2 (h2 ▸ List.getElem_mem h1)
      omega
    exact ⟨hr, I.done hC hr⟩
  | fuel + 1, listed, b, W, R, hf, I => by
    refine ⟨fun hr => I.done hC hr, fun i hi => ?_⟩
    obtain ⟨hlt, hun, _⟩ := (ready_spec I.size).1 hi
    have hcount : (listed.setIfInBounds i true).toList.count false = fuel := by
      have h1 : i < listed.toList.length := by rw [Array.length_toList, I.size]; exact hlt
      have h2 : listed.toList[i] = false := by
        unfold on at hun
        have h3 : i < listed.size := by rw [I.size]; exact hlt
        simp [h3] at hun
        simpa using hun
      rw [Array.toList_setIfInBounds, List.count_set h1, h2, hf]
      simp
    by_cases hiE : i ∈ E
    · obtain ⟨I', hop⟩ := I.early hC hc hi hiE
      exact hop _ (Inv.any hC hc fuel _ _ _ _ hcount I')
    · have hiT : i ∈ T := by
        by_cases hiT : i ∈ T
        · exact hiT
        · exact absurd ((hC.part i hlt).2 hiT) hiE
      exact I.other hC hi hiT _ fun b' W' R' I' => Inv.any hC hc fuel _ _ _ _ hcount I'

theorem wp_spine2 {id : Nat} {w : World} (S : World → Prop) (E T : List Nat) (hm : P.follows .mixedOrders = true) (hC : chk l E T = true)
    (h : wpE P S l E a fun a' => (T = [] → S w.drew) ∧ wpSp P S l Q T a' w.drew) : (Code.region id l.toArray true).wp P Q a w := by
  have hC := chk_spec hC
  obtain ⟨c, hc, hS, hgo⟩ := wpE_spec E a _ (sortedB_nodup hC.sorted) h
  have hoff : ∀ i, ¬ on (Array.replicate l.toArray.size false) i := fun i h => by
    unfold on at h
    obtain ⟨h1, h2⟩ := Array.getElem?_eq_some_iff.1 h
    simp at h2
  refine wp_region_any hm (Inv.any (c := c) (a := a) (E := E) (T := T) hC hc _ _ _ _ T (by simp) ⟨by simp, rfl, fun j _ h => absurd h (hoff j), fun i _ h => absurd h (hoff i), fun _ _ => rfl, ⟨[], rfl, (fun _ h => by cases h), fun t _ => hoff t⟩, fun hT => .inl (hS hT), hgo⟩)
end
end Late
end Go.Proofs.YtjlcnbfkblmoeaaDoor
