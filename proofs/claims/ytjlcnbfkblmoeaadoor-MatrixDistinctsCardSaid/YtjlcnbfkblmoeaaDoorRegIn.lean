/-
  The law of XRegion inside a round of a loop over a function (the wide fence).
-/
import Derived.Test.YtjlcnbfkblmoeaaDoorRegion
import Derived.OrdersIn
import Derived.TacticsIn
namespace Go.Proofs.YtjlcnbfkblmoeaaDoor
open Go.RowKit
section
variable {P : Program} {S : World → Prop} {l : List Oper} {c : Nat → Value} {F : Fence} {n : Nat}
/-- No operation defers a call. -/
def noDefer (l : List Oper) : Bool := l.all fun o => match o.op with | .defer _ => false | _ => true
theorem noDefer_at {l : List Oper} (h : noDefer l = true) {i : Nat} {o : Oper} (ho : l[i]? = some o) : ∀ c, o.op ≠ .defer c := fun c hc => by
  have := List.all_eq_true.1 h o (List.mem_of_getElem? ho)
  simp [hc] at this
/-- The others, one after the other, S shown ahead of each. -/
def wpSpI (F : Fence) (n : Nat) (P : Program) (S : World → Prop) (l : List Oper) (Q : Exit → Act → World → Prop) : List Nat → Act → World → Prop
  | [], a, W => Q .normal a W
  | s :: T, a, W => S W ∧ match l[s]? with
    | none => False
    | some o => wpListIn F n P l.toArray (nxt (wpSpI F n P S l Q T)) [o] a W

variable {E T : List Nat} {Q : Exit → Act → World → Prop} {a : Act}
structure InvI (F : Fence) (n : Nat) (P : Program) (S : World → Prop) (l : List Oper) (c : Nat → Value) (E T : List Nat) (Q : Exit → Act → World → Prop) (a : Act) (listed : Array Bool) (b : Act) (W : World) (R : List Nat) : Prop where
  size : listed.size = l.length
  asize : b.tmps.size = a.tmps.size
  closed : ∀ j i, on listed j → waitsI l j i = true → on listed i
  idem : ∀ i ∈ E, on listed i → b.put (dstOf l i) (c i) = b
  old : ∀ t, (∀ j, j < l.length → on listed j → dstOf l j ≠ some t) → b.tmps[t]? = a.tmps[t]?
  rem : ∃ pre, T = pre ++ R ∧ (∀ t ∈ pre, on listed t) ∧ (∀ t ∈ R, ¬ on listed t)
  sOK : R = [] → S W ∨ ∀ i ∈ E, on listed i
  go : wpSpI F n P S l Q R (putAll l c E b) W

/-- An early operation that is ready. -/
theorem InvI.early (hF : ∀ f, F.fn f) (hD : noDefer l = true) (hC : Chk l E T) (hc : ∀ pre i suf, E = pre ++ i :: suf → EY P S l i (putAll l c pre a) (c i)) {listed : Array Bool} {b : Act} {W : World} {R : List Nat}
    (I : InvI F n P S l c E T Q a listed b W R) {i : Nat} (hr : i ∈ Region.ready .any l.toArray listed) (hiE : i ∈ E) :
    InvI F n P S l c E T Q a (listed.setIfInBounds i true) (b.put (dstOf l i) (c i)) W R ∧ ∀ K : Act → World → Prop, K (b.put (dstOf l i) (c i)) W → wpOpIn F n P l.toArray Q i K b W := by
  obtain ⟨hlt, hun, o, ho, hall⟩ := (ready_spec I.size).1 hr
  have hisz : i < listed.size := by rw [I.size]; exact hlt
  constructor
  · refine ⟨by simpa using I.size, by rw [put_size]; exact I.asize, Inv.closed_set I.closed I.size hr, fun k hk hon => ?_, fun t ht => ?_, ?_, fun hR => ?_, ?_⟩
    · by_cases hki : k = i
      · subst hki; exact put_put _ _ _
      · have hon' := (on_of_set hon).resolve_left hki
        rw [Act.put_comm b (c i) (c k) (fun d hd => hC.dist i hiE k (hC.lt k (.inl hk)) (Ne.symm hki) d hd), I.idem k hk hon']
    · rw [put_get_ne (ht i hlt (on_self hisz))]
      exact I.old t fun j hj hon => ht j hj (on_set hon)
    · obtain ⟨pre, e, h1, h2⟩ := I.rem
      refine ⟨pre, e, fun t ht => on_set (h1 t ht), fun t ht hon => ?_⟩
      rcases on_of_set hon with rfl | hon
      · exact (hC.part t hlt).1 hiE (by rw [e]; exact List.mem_append_right _ ht)
      · exact h2 t ht hon
    · rcases I.sOK hR with h | h
      · exact .inl h
      · exact .inr fun k hk => on_set (h k hk)
    · rw [putAll_own E b hiE (fun j hj hji d hd => hC.dist i hiE j (hC.lt j (.inl hj)) (Ne.symm hji) d hd)]
      exact I.go
  · intro K hK
    obtain ⟨pre, suf, he, hpre⟩ := sortedB_split hC.sorted hiE
    have hy := hc pre i suf he
    have hSW : S W := by
      cases R with
      | nil =>
        rcases I.sOK rfl with h | h
        · exact h
        · exact absurd (h i hiE) hun
      | cons s R => exact I.go.1
    have hag : ∀ t ∈ looks l i, b.tmps[t]? = (putAll l c pre a).tmps[t]? := fun t ht => by
      by_cases hex : ∃ j, j < l.length ∧ dstOf l j = some t
      · obtain ⟨j, hj, hd⟩ := hex
        have hjE : j ∈ E := by
          by_cases hjE : j ∈ E
          · exact hjE
          · have hjT : j ∈ T := by
              by_cases hjT : j ∈ T
              · exact hjT
              · exact absurd ((hC.part j hj).2 hjT) hjE
            exact absurd ht (hC.apart j hjT i hiE t hd)
        have hw := hC.reads j hjE i hlt t hd ht
        obtain ⟨o', ho', e, hee, hb, rfl⟩ := waitsI_spec hw
        rw [ho] at ho'; cases ho'
        have hji := (hC.ok i o ho).2 e hee hb
        have hon := hall e hee hb
        have h1 := I.idem e.on hjE hon
        rw [putAll_at hd pre a (hpre e.on hjE hji) (fun k hk hke => hC.dist e.on hjE k (hC.lt k (.inl (by rw [he]; exact List.mem_append_left _ hk))) (Ne.symm hke) t hd)]
        rw [← h1, hd]
        exact put_get _ I.asize
      · have hno : ∀ j, j < l.length → dstOf l j ≠ some t := fun j hj hd => hex ⟨j, hj, hd⟩
        rw [I.old t fun j hj _ => hno j hj, putAll_ne pre a fun k hk => hno k (hC.lt k (.inl (by rw [he]; exact List.mem_append_left _ hk)))]
    have hyb := hy.agree (b := b) (fun o' ho' => by rw [ho] at ho'; cases ho'; exact (hC.ok i o ho).1) hag
    unfold EY at hyb
    unfold wpOpIn
    have ho' : l.toArray[i]? = some o := by simpa using ho
    have hd : dstOf l i = o.dst := by simp [dstOf, ho]
    simp only [ho] at hyb
    simp only [ho']
    rw [hd] at hK
    split
    · rename_i hw
      rw [if_pos hw] at hyb
      refine ⟨fun f _ => hF f, ?_⟩
      rw [Oper.semAt_eq _ _ _ (noDefer_at hD ho), hyb W hSW]
      exact hK
    · rename_i hw
      rw [if_neg hw] at hyb
      rw [← hyb]; exact ⟨fun f _ => hF f, hK⟩

theorem upon_toI {o : Oper} {A b : Act} {K K' : Act → World → Prop} (hv : ∀ v W, K (A.put o.dst v) W → K' (b.put o.dst v) W)
    (hd : ∀ d W, K ({ A with defers := d :: A.defers }.put o.dst undef) W → K' ({ b with defers := d :: b.defers }.put o.dst undef) W) :
    ∀ r : Result Next, o.uponIn F n P A K (nxt K) r → o.uponIn F n P b K' Q r := fun r h => by
  cases r with
  | ok n w' =>
    cases n with
    | value v => exact hv v w' h
    | skip => exact hv undef w' h
    | defer d => exact hd d w' h
    | enter f args =>
      refine ⟨h.1, CallsIn.mono h.2 fun e w'' he => ?_⟩
      cases e with
      | returned v => exact hv v w'' he
      | panicked chain => exact he.elim
      | outgrown => obtain ⟨_, _, h⟩ := he; exact h.elim
    | row r args => exact ⟨h.1, RowsIn.mono h.2 fun v w'' he => hv v w'' he⟩
    | round l f tmps assign body =>
      refine ⟨h.1, RoundIn.mono h.2 fun e w'' he => ?_⟩
      cases e with
      | returned v => exact hv v w'' he
      | panicked chain => exact he.elim
      | outgrown => obtain ⟨_, _, h⟩ := he; exact h.elim
    | _ => exact h
  | halt x w' =>
    cases x <;> first | exact h | exact h.elim

theorem InvI.other (hF : ∀ f, F.fn f) (hD : noDefer l = true) (hC : Chk l E T) {listed : Array Bool} {b : Act} {W : World} {R : List Nat}
    (I : InvI F n P S l c E T Q a listed b W R) {s : Nat} (hr : s ∈ Region.ready .any l.toArray listed) (hsT : s ∈ T) (K : Act → World → Prop)
    (hK : ∀ b' W' R', InvI F n P S l c E T Q a (listed.setIfInBounds s true) b' W' R' → K b' W') : wpOpIn F n P l.toArray Q s K b W := by
  obtain ⟨hlt, hun, o, ho, hall⟩ := (ready_spec I.size).1 hr
  have hssz : s < listed.size := by rw [I.size]; exact hlt
  obtain ⟨pre, hTe, hp, hR⟩ := I.rem
  have hsR : s ∈ R := by
    rw [hTe] at hsT
    rcases List.mem_append.1 hsT with h | h
    · exact absurd (hp s h) hun
    · exact h
  cases R with
  | nil => cases hsR
  | cons r R =>
    have hch : chainT l (r :: R) = true := chain_drop (pre := pre) (by rw [← hTe]; exact hC.chain)
    have hsr : s = r := by
      rcases List.mem_cons.1 hsR with h | h
      · exact h
      · obtain ⟨p, hpm, hw⟩ := chain_pred hch h
        obtain ⟨o', ho', e, he, hb, rfl⟩ := waitsI_spec hw
        rw [ho] at ho'; cases ho'
        exact absurd (hall e he hb) (hR _ hpm)
    subst hsr
    have hsE : s ∉ E := fun h => (hC.part s hlt).1 h hsT
    have hnd : ∀ i ∈ E, ∀ t, o.dst = some t → dstOf l i ≠ some t := fun i hi t hd hdi => by
      have := hC.dist i hi s hlt (fun e => hsE (e ▸ hi)) t hdi
      exact this (by simp [dstOf, ho, hd])
    obtain ⟨_, hgo⟩ := I.go
    rw [ho] at hgo
    dsimp only at hgo
    have hag : ∀ t ∈ o.looksAt l.toArray, b.tmps[t]? = (putAll l c E b).tmps[t]? := fun t ht => by
      by_cases hex : ∃ i ∈ E, dstOf l i = some t
      · obtain ⟨i, hi, hd⟩ := hex
        have hw := hC.reads i hi s hlt t hd (by simpa [looks, ho] using ht)
        obtain ⟨o', ho', e, he, hb, rfl⟩ := waitsI_spec hw
        rw [ho] at ho'; cases ho'
        rw [putAll_at hd E b hi (fun k hk hke => hC.dist e.on hi k (hC.lt k (.inl hk)) (Ne.symm hke) t hd), ← hd, I.idem e.on hi (hall e he hb)]
      · rw [putAll_ne E b fun i hi hd => hex ⟨i, hi, hd⟩]
    have ho' : l.toArray[s]? = some o := by simpa using ho
    have next : ∀ b' W', b'.tmps = (b.put o.dst (b'.tmps.getD 0 undef)).tmps ∨ True → (∃ v D, b' = ({ b with defers := D } : Act).put o.dst v) → wpSpI F n P S l Q R (putAll l c E b') W' → K b' W' := by
      rintro b' W' - ⟨v, D, rfl⟩ hsp
      have hput : ∀ d v', (({ b with defers := D } : Act).put o.dst v).put d v' = { (b.put o.dst v).put d v' with defers := D } := fun d v' => by
        cases d <;> cases o.dst <;> rfl
      refine hK _ _ R ⟨by simpa using I.size, by rw [put_size]; exact I.asize, Inv.closed_set I.closed I.size hr, fun i hi hon => ?_, fun t ht => ?_, ?_, fun hR0 => ?_, hsp⟩
      · have hne : i ≠ s := fun e => hsE (e ▸ hi)
        have hon' := (on_of_set hon).resolve_left hne
        rw [hput, Act.put_comm b v (c i) (fun d hd => hnd i hi d hd), I.idem i hi hon']
        cases o.dst <;> rfl
      · have h1 := ht s hlt (on_self hssz)
        have h2 : dstOf l s = o.dst := by simp [dstOf, ho]
        rw [h2] at h1
        rw [put_get_ne h1]
        exact I.old t fun j hj hon => ht j hj (on_set hon)
      · refine ⟨pre ++ [s], by rw [hTe]; simp, fun t ht => ?_, fun t ht hon => ?_⟩
        · rcases List.mem_append.1 ht with h | h
          · exact on_set (hp t h)
          · rw [List.mem_singleton.1 h]; exact on_self hssz
        · rcases on_of_set hon with rfl | hon
          · obtain ⟨p, hpm, hw⟩ := chain_pred hch ht
            obtain ⟨o', ho', e, he, hb, rfl⟩ := waitsI_spec hw
            rw [ho] at ho'; cases ho'
            exact hR _ hpm (hall e he hb)
          · exact hR t (List.mem_cons_of_mem _ ht) hon
      · refine .inr (Inv.early_of_all hC (fun e => by rw [e] at hTe; simp at hTe) (Inv.closed_set I.closed I.size hr) fun t ht => ?_)
        subst hR0
        rw [hTe] at ht
        rcases List.mem_append.1 ht with h | h
        · exact on_set (hp t h)
        · rw [List.mem_singleton.1 h]; exact on_self hssz
    unfold wpOpIn
    simp only [ho']
    unfold wpListIn at hgo
    rw [← wanted_agree hag] at hgo
    split
    · rename_i hw
      rw [if_pos hw] at hgo
      · refine ⟨fun f _ => hF f, ?_⟩
        have hgo := hgo.2
        rw [Oper.semAt_eq _ _ _ (noDefer_at hD ho)] at hgo ⊢
        rw [execOp_congr o (hC.ok s o ho).1 (eval_agree hag)]
        refine upon_toI (A := putAll l c E b) (K := wpSpI F n P S l Q R) (fun v W' h => ?_) (fun d W' h => ?_) _ hgo
        · refine next _ _ (.inr trivial) ⟨v, b.defers, rfl⟩ ?_
          rw [putAll_put E b (fun i hi t hd => hnd i hi t hd)]; exact h
        · have hdf : (putAll l c E b).defers = b.defers := by
            have := putAll_defers (l := l) (c := c) b.defers E b
            have h2 := congrArg Act.defers this
            exact h2
          refine next _ _ (.inr trivial) ⟨undef, d :: b.defers, rfl⟩ ?_
          rw [putAll_put E _ (fun i hi t hd => hnd i hi t hd), putAll_defers]
          rw [hdf] at h; exact h
    · rename_i hw
      rw [if_neg hw] at hgo
      refine ⟨fun f _ => hF f, next _ _ (.inr trivial) ⟨undef, b.defers, rfl⟩ ?_⟩
      rw [putAll_put E b (fun i hi t hd => hnd i hi t hd)]; exact hgo.2

theorem InvI.done (hC : Chk l E T) {listed : Array Bool} {b : Act} {W : World} {R : List Nat} (I : InvI F n P S l c E T Q a listed b W R) (hr : Region.ready .any l.toArray listed = []) : Q .normal b W := by
  have hall : ∀ i, i < l.length → on listed i := by
    intro i
    induction i using Nat.strongRecOn with
    | _ i ih =>
      intro hi
      by_cases hon : on listed i
      · exact hon
      · have : i ∈ Region.ready .any l.toArray listed := (ready_spec I.size).2 ⟨hi, hon, l[i], List.getElem?_eq_getElem hi, fun e he hb =>
          have hlt := (hC.ok i _ (List.getElem?_eq_getElem hi)).2 e he hb
          ih e.on hlt (by omega)⟩
        rw [hr] at this; cases this
  obtain ⟨pre, hTe, _, hR⟩ := I.rem
  cases R with
  | cons r R => exact absurd (hall r (hC.lt r (.inr (by rw [hTe]; simp)))) (hR r (List.mem_cons_self ..))
  | nil =>
    have := I.go
    rw [putAll_same E b fun i hi => I.idem i hi (hall i (hC.lt i (.inl hi)))] at this
    exact this

theorem InvI.any (hF : ∀ f, F.fn f) (hD : noDefer l = true) (hC : Chk l E T) (hc : ∀ pre i suf, E = pre ++ i :: suf → EY P S l i (putAll l c pre a) (c i)) : ∀ (fuel : Nat) (listed : Array Bool) (b : Act) (W : World) (R : List Nat),
    listed.toList.count false = fuel → InvI F n P S l c E T Q a listed b W R → wpAnyIn F n P .any l.toArray Q fuel listed b W
  | 0, listed, b, W, R, hf, I => by
    have hr : Region.ready .any l.toArray listed = [] := by
      apply List.eq_nil_iff_forall_not_mem.2
      intro i hi
      obtain ⟨hlt, hun, _⟩ := (ready_spec I.size).1 hi
      have h1 : i < listed.toList.length := by rw [Array.length_toList, I.size]; exact hlt
      have h2 : listed.toList[i] = false := by
        unfold on at hun
        have h3 : i < listed.size := by rw [I.size]; exact hlt
        simp [h3] at hun
        simpa using hun
      have := List.count_pos_iff.2 (h2 ▸ List.getElem_mem h1)
      omega
    exact ⟨hr, I.done hC hr⟩
  | fuel + 1, listed, b, W, R, hf, I => by
    refine ⟨fun hr => I.done hC hr, fun i hi => ?_⟩
    obtain ⟨hlt, hun, _⟩ := (ready_spec I.size).1 hi
    have hcount : (listed.setIfInBounds i true).toList.count false = fuel := by
      have h1 : i < listed.toList.length := by rw [Array.length_toList, I.size]; exact hlt
      have h2 : listed.toList[i] = false := by
        unfold on at hun
        have h3 : i < listed.size := by rw [I.size]; exact hlt
        simp [h3] at hun
        simpa using hun
      rw [Array.toList_setIfInBounds, List.count_set h1, h2, hf]
      simp
    by_cases hiE : i ∈ E
    · obtain ⟨I', hop⟩ := I.early hF hD hC hc hi hiE
      exact hop _ (InvI.any hF hD hC hc fuel _ _ _ _ hcount I')
    · have hiT : i ∈ T := by
        by_cases hiT : i ∈ T
        · exact hiT
        · exact absurd ((hC.part i hlt).2 hiT) hiE
      exact I.other hF hD hC hi hiT _ fun b' W' R' I' => InvI.any hF hD hC hc fuel _ _ _ _ hcount I'

/-- THE LAW. -/
theorem wpIn_spine {id : Nat} {w : World} (S : World → Prop) (E T : List Nat) (hF : ∀ f, F.fn f) (hD : noDefer l = true) (hm : P.follows .mixedOrders = true) (hC : chk l E T = true)
    (h : wpE P S l E a fun a' => (T = [] → S w.drew) ∧ wpSpI F n P S l Q T a' w.drew) : (Code.region id l.toArray true).wpIn F n P Q a w := by
  have hC := chk_spec hC
  obtain ⟨c, hc, hS, hgo⟩ := wpE_spec E a _ (sortedB_nodup hC.sorted) h
  have hoff : ∀ i, ¬ on (Array.replicate l.toArray.size false) i := fun i h => by
    unfold on at h
    obtain ⟨h1, h2⟩ := Array.getElem?_eq_some_iff.1 h
    simp at h2
  refine wpIn_region_any hm (InvI.any (c := c) (a := a) (E := E) (T := T) hF hD hC hc _ _ _ _ T (by simp) ⟨by simp, rfl, fun j _ h => absurd h (hoff j), fun i _ h => absurd h (hoff i), fun _ _ => rfl, ⟨[], rfl, (fun _ h => by cases h), fun t _ => hoff t⟩, fun hT => .inl (hS hT), hgo⟩)

theorem wpSpI_op {s : Nat} {o : Oper} {W : World} (ho : l[s]? = some o) (hS : S W) (h : wpListIn F n P l.toArray (nxt (wpSpI F n P S l Q T)) [o] a W) : wpSpI F n P S l Q (s :: T) a W :=
  ⟨hS, by rw [ho]; exact h⟩
theorem nxtI_op {s : Nat} {o : Oper} {W : World} (ho : l[s]? = some o) (hS : S W) (h : wpListIn F n P l.toArray (nxt (wpSpI F n P S l Q T)) [o] a W) : nxt (wpSpI F n P S l Q (s :: T)) .normal a W := wpSpI_op ho hS h
theorem nxtI_nil {W : World} (h : Q .normal a W) : nxt (wpSpI F n P S l Q []) .normal a W := h
theorem wpSpI_nil {W : World} (h : Q .normal a W) : wpSpI F n P S l Q [] a W := h
end
end Go.Proofs.YtjlcnbfkblmoeaaDoor
