import Derived.Test.YtafpmkdlciioaaaGreatDoorPk01
import Derived.Test.YtafpmkdlciioaaaGreatDoorPk02
import Derived.Test.YtafpmkdlciioaaaGreatDoorPk03
import Derived.Test.YtafpmkdlciioaaaGreatDoorShelf
import Derived.Sort.Grow
set_option maxHeartbeats 4000000
set_option maxRecDepth 100000
namespace Go.Proofs.YtafpmkdlciioaaaGreatDoor
open Go.RowKit
namespace Mix2
def chkM (l:List Oper):Bool :=
 (List.range l.length).all (okOp l) &&
 (List.range l.length).all (fun i=>(List.range l.length).all fun j=>i == j||(dstOf l i).isNone||dstOf l i != dstOf l j) &&
 (List.range l.length).all (fun i=>(List.range l.length).all fun j=>match dstOf l i with | none=>true | some d=>!(looks l j).contains d||waitsI l j i||waitsI l i j)
structure ChkM (l:List Oper):Prop where
 ok:∀ i o,l[i]?=some o→(∀ cs b,o.op≠.select cs b)∧∀ e∈o.after,Region.binds .any e=true→e.on < i
 dist:∀ i,i < l.length→∀ j,j < l.length→i≠j→∀ d,dstOf l i=some d→dstOf l j≠some d
 reads:∀ i,i < l.length→∀ j,j < l.length→∀ d,dstOf l i=some d→d∈looks l j→waitsI l j i=true∨waitsI l i j=true
theorem chkM_spec {l:List Oper} (h:chkM l=true):ChkM l:=by
 simp only [chkM,Bool.and_eq_true,List.all_eq_true,List.mem_range,Bool.or_eq_true] at h
 obtain ⟨⟨h1,h5⟩,h6⟩:=h
 refine ⟨fun i o ho=>?_,fun i hi j hj hne d hd=>?_,fun i hi j hj d hd hl=>?_⟩
 ·have hlt:i < l.length:=(List.getElem?_eq_some_iff.1 ho).1
  have:=h1 i hlt
  simp only [okOp,ho,Bool.and_eq_true,Array.all_eq_true'] at this
  refine ⟨fun cs b hs=>by simp [hs] at this,fun e he hb=>?_⟩
  have:=this.2 e he
  simpa [hb] using this
 ·have:=h5 i hi j hj
  rcases this with (this | this) | this
  ·exact absurd (by simpa using this) hne
  ·simp [hd] at this
  ·intro e;simp [hd,e] at this
 ·have:=h6 i hi j hj
  simp only [hd,Bool.or_eq_true] at this
  rcases this with (this | this) | this
  ·simp [hl] at this
  ·exact .inl this
  ·exact .inr this
def lateB (l:List Oper) (i:Nat):Bool:=(List.range l.length).any fun j=>match dstOf l i with | none=>false | some d=>(looks l j).contains d&&!waitsI l j i
theorem lateB_no {l:List Oper} {i:Nat} (h:lateB l i=false) {j:Nat} (hj:j < l.length) {d:Tmp} (hd:dstOf l i=some d) (hl:d∈looks l j):waitsI l j i=true:=by
 unfold lateB at h
 rw [List.any_eq_false] at h
 have:=h j (List.mem_range.2 hj)
 rw [hd] at this
 simpa [hl] using this
theorem lateB_yes {l:List Oper} {i j:Nat} (hj:j < l.length) {d:Tmp} (hd:dstOf l i=some d) (hl:d∈looks l j) (hw:¬ waitsI l j i=true):lateB l i=true:=by
 cases h:lateB l i
 ·exact absurd (lateB_no h hj hd hl) hw
 ·rfl
section
variable {P:Program} {l:List Oper} {Q:Exit→Act→World→Prop}
def clears (l:List Oper) (ls:Array Bool) (s:Nat):Bool :=
 (List.range l.length).all fun i=>!(ls.getD i false)||waitsI l s i||(List.range l.length).any fun j=>waitsI l s j&&waitsI l j i
def wpM (P:Program) (l:List Oper) (Q:Exit→Act→World→Prop):Nat→Array Bool→(World→Prop)→Act→World→Prop
 | 0,ls,_,a,W=>Region.ready .any l.toArray ls=[]∧Q .normal a W
 | n+1,ls,S,a,W =>
  (∃ i v,i∈Region.ready .any l.toArray ls∧lateB l i=false∧EY P S l i a v∧wpM P l Q n (ls.setIfInBounds i true) S (a.put (dstOf l i) v) W) ∨
  ((Region.ready .any l.toArray ls=[]→Q .normal a W)∧∀ s∈Region.ready .any l.toArray ls,match l[s]? with
   | none=>False
   | some o=>wpList P l.toArray (nxt fun a' W'=>∃ S':World→Prop,S' W'∧((∀ V,S' V→S V)∨clears l ls s=true)∧wpM P l Q n (ls.setIfInBounds s true) S' a' W') [o] a W)
def afterM (P:Program) (l:List Oper) (Q:Exit→Act→World→Prop) (n:Nat) (ls:Array Bool) (S:World→Prop) (s:Nat) (a':Act) (W':World):Prop :=
 ∃ S':World→Prop,S' W'∧((∀ V,S' V→S V)∨clears l ls s=true)∧wpM P l Q n (ls.setIfInBounds s true) S' a' W'
structure Sim (P:Program) (l:List Oper) (c:Nat→Value) (ls:Array Bool) (S:World→Prop) (a:Act) (listed:Array Bool) (b:Act) (W:World):Prop where
 size:listed.size=l.length
 lsize:ls.size=l.length
 sub:∀ i,on listed i→on ls i
 closed:∀ j i,on listed j→waitsI l j i=true→on listed i
 lclosed:∀ j i,on ls j→waitsI l j i=true→on ls i
 pend:∀ i,on ls i→¬ on listed i→∀ b':Act,(∀ t∈looks l i,b'.tmps[t]?=a.tmps[t]?)→EY P S l i b' (c i)
 asize:b.tmps.size=a.tmps.size
 defers:b.defers=a.defers
 at_:∀ i t,on ls i→¬ on listed i→dstOf l i=some t→a.tmps[t]?=(b.put (some t) (c i)).tmps[t]?
 else_:∀ t,(∀ i,on ls i→¬ on listed i→dstOf l i≠some t)→a.tmps[t]?=b.tmps[t]?
 s:S W
 late:∀ i,on ls i→lateB l i=true→on listed i
theorem on_lt {ls:Array Bool} {i:Nat} (hs:ls.size=l.length) (h:on ls i):i < l.length:=by
 have:=(Array.getElem?_eq_some_iff.1 h).1;omega
theorem looks_op {i:Nat} {o:Oper} (ho:l[i]?=some o):looks l i=o.looksAt l.toArray:=by simp [looks,ho]
theorem Sim.look (_hC:ChkM l) {c:Nat→Value} {ls listed:Array Bool} {S:World→Prop} {a b:Act} {W:World} (I:Sim P l c ls S a listed b W) {i:Nat} (hr:i∈Region.ready .any l.toArray listed) :
  ∀ t∈looks l i,b.tmps[t]?=a.tmps[t]?:=fun t ht=>by
 obtain ⟨hlt,hun,o,ho,hall⟩:=(ready_spec I.size).1 hr
 refine (I.else_ t fun k hk hku hd=>?_).symm
 by_cases hw:waitsI l i k=true
 ·obtain ⟨o',ho',e,he,hb,rfl⟩:=waitsI_spec hw
  rw [ho] at ho';cases ho'
  exact hku (hall e he hb)
 ·exact hku (I.late k hk (lateB_yes hlt hd ht hw))
theorem Sim.ahead (hC:ChkM l) {c:Nat→Value} {ls listed:Array Bool} {S:World→Prop} {a b:Act} {W:World} (I:Sim P l c ls S a listed b W) {k:Nat} {v:Value} (hk:k∈Region.ready .any l.toArray ls) (hlk:lateB l k=false) (hy:EY P S l k a v) :
  Sim P l (fun i=>if i=k then v else c i) (ls.setIfInBounds k true) S (a.put (dstOf l k) v) listed b W:=by
 obtain ⟨hlt,hun,o,ho,hall⟩:=(ready_spec I.lsize).1 hk
 have hkl:k < ls.size:=by rw [I.lsize];exact hlt
 have hkn:¬ on listed k:=fun h=>hun (I.sub k h)
 have hdk:∀ i,on ls i→∀ t,dstOf l k=some t→t ∉ looks l i:=fun i hi t hd ht=>by
  have hw:=lateB_no hlk (on_lt I.lsize hi) hd ht
  exact hun (I.lclosed i k hi hw)
 refine ⟨I.size,by simpa using I.lsize,fun i hi=>on_set (I.sub i hi),I.closed,fun j i hj hw=>?_,fun i hi hin b' hb'=>?_,by rw [put_size];exact I.asize,?_,fun i t hi hin hd=>?_,fun t ht=>?_,I.s,fun i hi hl=>?_⟩
 ·rcases on_of_set hj with rfl | hj
  ·obtain ⟨o',ho',e,he,hb,rfl⟩:=waitsI_spec hw
   rw [ho] at ho';cases ho'
   exact on_set (hall e he hb)
  ·exact on_set (I.lclosed j i hj hw)
 ·rcases on_of_set hi with rfl | hi
  ·rw [if_pos rfl]
   have hself:∀ t∈looks l i,(a.put (dstOf l i) v).tmps[t]?=a.tmps[t]?:=fun t ht=>put_get_ne fun hd=>by
    have hw:=lateB_no hlk hlt hd ht
    obtain ⟨o',ho',e,he,hb,he2⟩:=waitsI_spec hw
    have:=(hC.ok i o' ho').2 e he hb
    omega
   exact hy.agree (fun o' ho'=>(hC.ok i o' ho').1) fun t ht=>by rw [hb' t ht,hself t ht]
  ·have hne:i≠k:=fun e=>hun (e▸hi)
   rw [if_neg hne]
   refine I.pend i hi hin b' fun t ht=>?_
   rw [hb' t ht]
   exact put_get_ne fun hd=>hdk i hi t hd ht
 ·cases dstOf l k <;> exact I.defers
 ·rcases on_of_set hi with rfl | hi
  ·rw [if_pos rfl,hd]
   exact put_get _ I.asize.symm
  ·have hne:i≠k:=fun e=>hun (e▸hi)
   rw [if_neg hne,put_get_ne fun e=>hC.dist i (on_lt I.lsize hi) k hlt hne t hd e]
   exact I.at_ i t hi hin hd
 ·rw [put_get_ne fun e=>ht k (on_self hkl) hkn e]
  exact I.else_ t fun i hi hin=>ht i (on_set hi) hin
 ·rcases on_of_set hi with rfl | hi
  ·rw [hlk] at hl;cases hl
  ·exact I.late i hi hl
theorem Sim.behind (hC:ChkM l) {c:Nat→Value} {ls listed:Array Bool} {S:World→Prop} {a b:Act} {W:World} (I:Sim P l c ls S a listed b W) {i:Nat} (hr:i∈Region.ready .any l.toArray listed) (hi:on ls i) :
  Sim P l c ls S a (listed.setIfInBounds i true) (b.put (dstOf l i) (c i)) W∧∀ K:Act→World→Prop,K (b.put (dstOf l i) (c i)) W→wpOp P l.toArray Q i K b W:=by
 obtain ⟨hlt,hun,o,ho,hall⟩:=(ready_spec I.size).1 hr
 have hisz:i < listed.size:=by rw [I.size];exact hlt
 constructor
 ·refine ⟨by simpa using I.size,I.lsize,fun j hj=>?_,Inv.closed_set I.closed I.size hr,I.lclosed,fun k hk hkn=>I.pend k hk fun h=>hkn (on_set h),by rw [put_size];exact I.asize,?_,fun k t hk hkn hd=>?_,fun t ht=>?_,I.s,fun k hk hl=>on_set (I.late k hk hl)⟩
  ·rcases on_of_set hj with rfl | hj
   ·exact hi
   ·exact I.sub j hj
  ·cases dstOf l i <;> exact I.defers
  ·have hne:k≠i:=fun e=>hkn (by rw [e];exact on_self hisz)
   rw [I.at_ k t hk (fun h=>hkn (on_set h)) hd]
   exact put_get _ (put_size ..).symm
  ·by_cases hd:dstOf l i=some t
   ·rw [I.at_ i t hi hun hd,hd]
   ·rw [put_get_ne hd]
    refine I.else_ t fun k hk hkn hdk=>?_
    by_cases hki:k=i
    ·exact hd (hki▸hdk)
    ·exact ht k hk (fun h=>hkn ((on_of_set h).resolve_left hki)) hdk
 ·intro K hK
  have hy:=I.pend i hi hun b (I.look hC hr)
  unfold EY at hy
  unfold wpOp
  have ho':l.toArray[i]?=some o:=by simpa using ho
  have hd:dstOf l i=o.dst:=by simp [dstOf,ho]
  simp only [ho] at hy
  simp only [ho']
  rw [hd] at hK
  split
  ·rename_i hw
   rw [if_pos hw] at hy
   refine .inl ?_
   unfold Oper.wp
   rw [hy W I.s]
   exact hK
  ·rename_i hw
   rw [if_neg hw] at hy
   rw [← hy];exact hK
theorem Sim.both (hC:ChkM l) {c:Nat→Value} {ls listed:Array Bool} {S:World→Prop} {a b:Act} {W:World} {n:Nat} (I:Sim P l c ls S a listed b W) {s:Nat} (hr:s∈Region.ready .any l.toArray listed) (hs:¬ on ls s) {o:Oper} (ho:l[s]?=some o)
  (hgo:wpList P l.toArray (nxt (afterM P l Q n ls S s)) [o] a W) (K:Act→World→Prop)
  (hK:∀ b' W' S' a',Sim P l c (ls.setIfInBounds s true) S' a' (listed.setIfInBounds s true) b' W'→wpM P l Q n (ls.setIfInBounds s true) S' a' W'→K b' W'):wpOp P l.toArray Q s K b W:=by
 obtain ⟨hlt,hun,o2,ho2,hall⟩:=(ready_spec I.size).1 hr
 rw [ho] at ho2;cases ho2
 have hlsz:s < ls.size:=by rw [I.lsize];exact hlt
 have hsz:s < listed.size:=by rw [I.size];exact hlt
 have hag:=I.look hC hr
 rw [looks_op ho] at hag
 have hd:dstOf l s=o.dst:=by simp [dstOf,ho]
 have nodst:∀ i,on ls i→∀ t,o.dst=some t→dstOf l i≠some t:=fun i hi t ht=>by
  have hne:s≠i:=fun e=>hs (e▸hi)
  exact hC.dist s hlt i (on_lt I.lsize hi) hne t (hd▸ht)
 have nolook:∀ i,on ls i→¬ on listed i→∀ t,o.dst=some t→t ∉ looks l i:=fun i hi hin t ht hl=>by
  rcases hC.reads s hlt i (on_lt I.lsize hi) t (hd▸ht) hl with hw | hw
  ·exact hs (I.lclosed i s hi hw)
  ·obtain ⟨o',ho',e,he,hb,rfl⟩:=waitsI_spec hw
   rw [ho] at ho';cases ho'
   exact hin (hall e he hb)
 have next:∀ v D W',afterM P l Q n ls S s (({ a with defers:=D }:Act).put o.dst v) W'→K (({ b with defers:=D }:Act).put o.dst v) W':=by
  rintro v D W' ⟨S',hS',hsub,hm⟩
  refine hK _ _ S' _ ⟨by simpa using I.size,by simpa using I.lsize,fun j hj=>?_,Inv.closed_set I.closed I.size hr,fun j i hj hw=>?_,fun i hi hin b' hb'=>?_,?_,?_,fun i t hi hin hdi=>?_,fun t ht=>?_,hS',fun i hi hl=>?_⟩ hm
  ·rcases on_of_set hj with rfl | hj
   ·exact on_self hlsz
   ·exact on_set (I.sub j hj)
  ·rcases on_of_set hj with rfl | hj
   ·obtain ⟨o',ho',e,he,hb,rfl⟩:=waitsI_spec hw
    rw [ho] at ho';cases ho'
    exact on_set (I.sub _ (hall e he hb))
   ·exact on_set (I.lclosed j i hj hw)
  ·have hne:i≠s:=fun e=>hin (by rw [e];exact on_self hsz)
   have hi':=(on_of_set hi).resolve_left hne
   have hin':¬ on listed i:=fun h=>hin (on_set h)
   rcases hsub with hsub | hcl
   ·have hy:=I.pend i hi' hin' b' fun t ht=>by
     rw [hb' t ht]
     exact put_get_ne fun e=>nolook i hi' hin' t e ht
    unfold EY at hy ⊢
    cases hoi:l[i]? with
    | none=>rw [hoi] at hy;exact hy
    | some oi =>
     rw [hoi] at hy
     dsimp only at hy ⊢
     split at hy
     ·rename_i hw;rw [if_pos hw];exact fun V hV=>hy V (hsub V hV)
     ·rename_i hw;rw [if_neg hw];exact hy
   ·exfalso
    unfold clears at hcl
    have hil:=on_lt I.lsize hi'
    have:=List.all_eq_true.1 hcl i (List.mem_range.2 hil)
    simp only [Bool.or_eq_true,List.any_eq_true,Bool.and_eq_true] at this
    have hon:ls.getD i false=true:=by
     unfold on at hi';simp [hi']
    have up:∀ j,waitsI l s j=true→on listed j:=fun j hw=>by
     obtain ⟨o',ho',e,he,hb,rfl⟩:=waitsI_spec hw
     rw [ho] at ho';cases ho'
     exact hall e he hb
    rcases this with (h | h) | ⟨j,_,h1,h2⟩
    ·simp [hon] at h
    ·exact hin' (up i h)
    ·exact hin' (I.closed j i (up j h1) h2)
  ·simp only [put_size];exact I.asize
  ·cases o.dst <;> rfl
  ·have hne:i≠s:=fun e=>hin (by rw [e];exact on_self hsz)
   have hi':=(on_of_set hi).resolve_left hne
   rw [put_get_ne fun e=>nodst i hi' t e hdi]
   refine (I.at_ i t hi' (fun h=>hin (on_set h)) hdi).trans (put_get _ ?_)
   simp only [put_size]
  ·by_cases hds:o.dst=some t
   ·rw [hds]
    refine put_get _ ?_
    exact I.asize.symm
   ·rw [put_get_ne hds,put_get_ne hds]
    refine I.else_ t fun i hi hin hdi=>?_
    have hne:i≠s:=fun e=>hs (e▸hi)
    exact ht i (on_set hi) (fun h=>hin ((on_of_set h).resolve_left hne)) hdi
  ·rcases on_of_set hi with rfl | hi
   ·exact on_self hsz
   ·exact on_set (I.late i hi hl)
 unfold wpOp
 have ho':l.toArray[s]?=some o:=by simpa using ho
 simp only [ho']
 unfold wpList at hgo
 rw [← wanted_agree hag] at hgo
 have ea:∀ x:Act,({ x with defers:=x.defers }:Act)=x:=fun _=>rfl
 split
 ·rename_i hw
  rw [if_pos hw] at hgo
  rcases hgo with hgo | ⟨_,_,_,h⟩
  ·refine .inl ?_
   unfold Oper.wp at *
   rw [execOp_congr o (hC.ok s o ho).1 (eval_agree hag)]
   refine upon_to (A:=a) (K:=afterM P l Q n ls S s) (fun v W' h=>?_) (fun d W' h=>?_) _ hgo
   ·have:=next v a.defers W' h
    have e2:({ b with defers:=a.defers }:Act)=b:=by rw [← I.defers]
    rwa [e2] at this
   ·have:=next undef (d :: a.defers) W' h
    rw [I.defers];exact this
  ·exact h.elim
 ·rename_i hw
  rw [if_neg hw] at hgo
  have:=next undef a.defers W hgo
  have e2:({ b with defers:=a.defers }:Act)=b:=by rw [← I.defers]
  rwa [e2] at this
theorem Sim.all (hC:ChkM l) {listed:Array Bool} (hsz:listed.size=l.length) (hr:Region.ready .any l.toArray listed=[]):∀ i,i < l.length→on listed i:=by
 intro i
 induction i using Nat.strongRecOn with
 | _ i ih =>
  intro hi
  by_cases hon:on listed i
  ·exact hon
  ·have:i∈Region.ready .any l.toArray listed:=(ready_spec hsz).2 ⟨hi,hon,l[i],List.getElem?_eq_getElem hi,fun e he hb =>
    have hlt:=(hC.ok i _ (List.getElem?_eq_getElem hi)).2 e he hb
    ih e.on hlt (by omega)⟩
   rw [hr] at this;cases this
theorem wpM_done {n:Nat} {ls:Array Bool} {S:World→Prop} {a:Act} {W:World} (hr:Region.ready .any l.toArray ls=[]) (h:wpM P l Q n ls S a W):Q .normal a W:=by
 cases n with
 | zero=>exact h.2
 | succ n =>
  rcases h with ⟨i,v,hi,_,_⟩ | h
  ·rw [hr] at hi;cases hi
  ·exact h.1 hr
theorem Sim.done (hC:ChkM l) {c:Nat→Value} {ls listed:Array Bool} {S:World→Prop} {a b:Act} {W:World} {n:Nat} (I:Sim P l c ls S a listed b W) (hr:Region.ready .any l.toArray listed=[]) (h:wpM P l Q n ls S a W):Q .normal b W:=by
 have hall:=Sim.all hC I.size hr
 have hab:a=b:=by
  have h1:a.tmps=b.tmps:=Array.ext_getElem? fun t=>I.else_ t fun i hi hin=>absurd (hall i (on_lt I.lsize hi)) hin
  have h2:=I.defers
  cases a;cases b
  simp only at h1 h2
  rw [h1,h2]
 have hls:Region.ready .any l.toArray ls=[]:=by
  apply List.eq_nil_iff_forall_not_mem.2
  intro i hi
  obtain ⟨hlt,hun,_⟩:=(ready_spec I.lsize).1 hi
  exact hun (I.sub i (hall i hlt))
 rw [← hab]
 exact wpM_done hls h
theorem count_set {listed:Array Bool} {i fuel:Nat} (hsz:i < listed.size) (hun:¬ on listed i) (hf:listed.toList.count false=fuel+1):(listed.setIfInBounds i true).toList.count false=fuel:=by
 have h1:i < listed.toList.length:=by rw [Array.length_toList];exact hsz
 have h2:listed.toList[i]=false:=by
  unfold on at hun
  simp [hsz] at hun
  simpa using hun
 rw [Array.toList_setIfInBounds,List.count_set h1,h2,hf]
 simp
theorem Sim.step (hC:ChkM l):∀ (n:Nat) (c:Nat→Value) (ls:Array Bool) (S:World→Prop) (a:Act) (listed:Array Bool) (b:Act) (W:World) (i:Nat) (K:Act→World→Prop),Sim P l c ls S a listed b W→wpM P l Q n ls S a W→i∈Region.ready .any l.toArray listed →
  (∀ (m:Nat) (c':Nat→Value) (ls':Array Bool) (S':World→Prop) (a':Act) (b':Act) (W':World),Sim P l c' ls' S' a' (listed.setIfInBounds i true) b' W'→wpM P l Q m ls' S' a' W'→K b' W')→wpOp P l.toArray Q i K b W
 | n,c,ls,S,a,listed,b,W,i,K,I,h,hr,hK=>by
  by_cases hi:on ls i
  ·obtain ⟨I',hop⟩:=I.behind (Q:=Q) hC hr hi
   exact hop K (hK n c ls S a _ _ I' h)
  ·obtain ⟨hlt,hun,o,ho,hall⟩:=(ready_spec I.size).1 hr
   have hrl:i∈Region.ready .any l.toArray ls:=(ready_spec I.lsize).2 ⟨hlt,hi,o,ho,fun e he hb=>I.sub _ (hall e he hb)⟩
   match n,h with
   | 0,h=>rw [h.1] at hrl;cases hrl
   | n+1,.inl ⟨k,v,hk,hl,hy,h⟩=>exact Sim.step hC n _ _ S _ listed b W i K (I.ahead hC hk hl hy) h hr hK
   | n+1,.inr h =>
    have hgo:=h.2 i hrl
    rw [ho] at hgo
    exact I.both hC hr hi ho hgo K fun b' W' S' a' I' h'=>hK n c _ S' a' b' W' I' h'
theorem Sim.any (hC:ChkM l):∀ (fuel:Nat) (n:Nat) (c:Nat→Value) (ls:Array Bool) (S:World→Prop) (a:Act) (listed:Array Bool) (b:Act) (W:World),listed.toList.count false=fuel→Sim P l c ls S a listed b W→wpM P l Q n ls S a W→wpAny P .any l.toArray Q fuel listed b W
 | 0,n,c,ls,S,a,listed,b,W,hf,I,h=>by
  have hr:Region.ready .any l.toArray listed=[]:=by
   apply List.eq_nil_iff_forall_not_mem.2
   intro i hi
   obtain ⟨hlt,hun,_⟩:=(ready_spec I.size).1 hi
   have h1:i < listed.toList.length:=by rw [Array.length_toList,I.size];exact hlt
   have h2:listed.toList[i]=false:=by
    unfold on at hun
    have h3:i < listed.size:=by rw [I.size];exact hlt
    simp [h3] at hun
    simpa using hun
   have:=List.count_pos_iff.2 (h2▸List.getElem_mem h1)
   omega
  exact ⟨hr,I.done hC hr h⟩
 | fuel+1,n,c,ls,S,a,listed,b,W,hf,I,h=>by
  refine ⟨fun hr=>I.done hC hr h,fun i hi=>?_⟩
  obtain ⟨hlt,hun,_⟩:=(ready_spec I.size).1 hi
  have hcount:=count_set (by rw [I.size];exact hlt) hun hf
  exact Sim.step hC n c ls S a listed b W i _ I h hi fun m c' ls' S' a' b' W' I' h'=>Sim.any hC fuel m c' ls' S' a' _ b' W' hcount I' h'
theorem wp_mix {id:Nat} {a:Act} {w:World} (S:World→Prop) (n:Nat) (hm:P.follows .mixedOrders=true) (hC:chkM l=true) (hS:S w.drew) (h:wpM P l Q n (Array.replicate l.length false) S a w.drew):(Code.region id l.toArray true).wp P Q a w:=by
 have hC:=chkM_spec hC
 have hoff:∀ i,¬ on (Array.replicate l.length false) i:=fun i h=>by
  unfold on at h
  obtain ⟨h1,h2⟩:=Array.getElem?_eq_some_iff.1 h
  simp at h2
 refine wp_region_any hm (Sim.any hC _ n (fun _=>undef) _ S a _ _ _ (by simp) ⟨by simp,by simp,fun i h=>absurd h (by simpa using hoff i),fun j _ h=>absurd h (by simpa using hoff j),fun j _ h=>absurd h (hoff j),fun i h=>absurd h (hoff i),rfl,rfl,fun i t h=>absurd h (hoff i),fun _ _=>rfl,hS,fun i h=>absurd h (hoff i)⟩ h)
end
section
variable {P:Program} {l:List Oper} {Q:Exit→Act→World→Prop} {n:Nat} {ls:Array Bool} {S:World→Prop} {a:Act} {W:World}
theorem m_q (i:Nat) {o:Oper} {v:Value} (hr:((Region.ready .any l.toArray ls).contains i&&!lateB l i)=true) (ho:l[i]?=some o) (hg:o.guard=none) (h:∀ V,S V→(execOp a.eval o).run P V=.ok (.value v) V) (hk:wpM P l Q n (ls.setIfInBounds i true) S (a.put o.dst v) W):wpM P l Q (n+1) ls S a W:=by
 refine .inl ⟨i,v,by have:=(Bool.and_eq_true _ _▸hr).1;simpa using this,by have:=(Bool.and_eq_true _ _▸hr).2;simpa using this,?_,?_⟩
 ·unfold EY;rw [ho];dsimp only;rw [if_pos (by simp [Region.wanted,hg])];exact h
 ·simpa [dstOf,ho] using hk
theorem m_yes (i:Nat) {o:Oper} {v:Value} (hr:((Region.ready .any l.toArray ls).contains i&&!lateB l i)=true) (ho:l[i]?=some o) (hg:Region.wanted o (yielded l.toArray a.tmps)=true) (h:∀ V,S V→(execOp a.eval o).run P V=.ok (.value v) V) (hk:wpM P l Q n (ls.setIfInBounds i true) S (a.put o.dst v) W):wpM P l Q (n+1) ls S a W:=by
 refine .inl ⟨i,v,by have:=(Bool.and_eq_true _ _▸hr).1;simpa using this,by have:=(Bool.and_eq_true _ _▸hr).2;simpa using this,?_,?_⟩
 ·unfold EY;rw [ho];dsimp only;rw [if_pos hg];exact h
 ·simpa [dstOf,ho] using hk
theorem m_no (i:Nat) {o:Oper} (hr:((Region.ready .any l.toArray ls).contains i&&!lateB l i)=true) (ho:l[i]?=some o) (hg:Region.wanted o (yielded l.toArray a.tmps)=false) (hk:wpM P l Q n (ls.setIfInBounds i true) S (a.put o.dst undef) W):wpM P l Q (n+1) ls S a W:=by
 refine .inl ⟨i,undef,by have:=(Bool.and_eq_true _ _▸hr).1;simpa using this,by have:=(Bool.and_eq_true _ _▸hr).2;simpa using this,?_,?_⟩
 ·unfold EY;rw [ho];dsimp only;rw [if_neg (by rw [hg];decide)]
 ·simpa [dstOf,ho] using hk
theorem m_s1 (s:Nat) {o:Oper} (hr:Region.ready .any l.toArray ls=[s]) (ho:l[s]?=some o) (h:wpList P l.toArray (nxt (afterM P l Q n ls S s)) [o] a W):wpM P l Q (n+1) ls S a W:=by
 refine .inr ⟨fun e=>by rw [hr] at e;(cases e),fun i hi=>?_⟩
 rw [hr,List.mem_singleton] at hi
 subst hi
 rw [ho];exact h
theorem m_s2 (s t:Nat) {o p:Oper} (hr:Region.ready .any l.toArray ls=[s,t]) (ho:l[s]?=some o) (hp:l[t]?=some p) (h:wpList P l.toArray (nxt (afterM P l Q n ls S s)) [o] a W) (h2:wpList P l.toArray (nxt (afterM P l Q n ls S t)) [p] a W):wpM P l Q (n+1) ls S a W:=by
 refine .inr ⟨fun e=>by rw [hr] at e;(cases e),fun i hi=>?_⟩
 rw [hr] at hi
 simp only [List.mem_cons,List.mem_nil_iff,or_false] at hi
 rcases hi with rfl | rfl
 ·rw [ho];exact h
 ·rw [hp];exact h2
theorem m_s3 (s t u:Nat) {o p q:Oper} (hr:Region.ready .any l.toArray ls=[s,t,u]) (ho:l[s]?=some o) (hp:l[t]?=some p) (hq:l[u]?=some q) (h:wpList P l.toArray (nxt (afterM P l Q n ls S s)) [o] a W) (h2:wpList P l.toArray (nxt (afterM P l Q n ls S t)) [p] a W) (h3:wpList P l.toArray (nxt (afterM P l Q n ls S u)) [q] a W):wpM P l Q (n+1) ls S a W:=by
 refine .inr ⟨fun e=>by rw [hr] at e;(cases e),fun i hi=>?_⟩
 rw [hr] at hi
 simp only [List.mem_cons,List.mem_nil_iff,or_false] at hi
 rcases hi with rfl | rfl | rfl
 ·rw [ho];exact h
 ·rw [hp];exact h2
 ·rw [hq];exact h3
theorem m_clear {s:Nat} (hc:clears l ls s=true) (h:wpM P l Q n (ls.setIfInBounds s true) (fun V=>Below W.heap.size W V) a W):nxt (afterM P l Q n ls S s) .normal a W :=
 ⟨_,Below.refl _ _,.inr hc,h⟩
theorem m_end (hr:Region.ready .any l.toArray ls=[]) (h:Q .normal a W):wpM P l Q n ls S a W:=by
 cases n with
 | zero=>exact ⟨hr,h⟩
 | succ n=>exact .inr ⟨fun _=>h,fun i hi=>by rw [hr] at hi;cases hi⟩
end
theorem m_keep {P:Program} {l:List Oper} {Q:Exit→Act→World→Prop} {n:Nat} {ls:Array Bool} {S:World→Prop} {a:Act} {W:World} {s:Nat} (hS:S W) (h:wpM P l Q n (ls.setIfInBounds s true) S a W):nxt (afterM P l Q n ls S s) .normal a W :=
 ⟨S,hS,.inl fun _ h=>h,h⟩
theorem m_join {P:Program} {l:List Oper} {Q:Exit→Act→World→Prop} {n:Nat} {ls:Array Bool} {S:World→Prop} {a:Act} {W:World} {β:Type} (ls':Array Bool) (n':Nat) (F:β→(Nat→Value)→Array Value) (R:β→List Deferred→World→Prop)
  (leaf:∀ b f ds W,R b ds W→wpM P l Q n' ls' S { tmps:=F b f,defers:=ds } W)
  (h:(∀ b (a':Act) W' (ls'':Array Bool),ls''=ls'→a'.tmps=F b (fun i=>a'.tmps.getD i undef)→R b a'.defers W'→wpM P l Q n' ls'' S a' W')→wpM P l Q n ls S a W):wpM P l Q n ls S a W :=
 h fun b ⟨tmps,ds⟩ W' ls'' e1 e2 hR=>by
  subst e1
  dsimp only at e2 hR
  rw [e2]
  exact leaf b _ ds W' hR
end Mix2
theorem least_ex {p:Nat→Prop}:∀ n,p n→∃ n,p n∧∀ m,p m→n≤m:=by
 intro n
 induction n using Nat.strongRecOn with
 | _ n ih =>
  intro h
  by_cases hs:∃ m,m < n∧p m
  ·obtain ⟨m,hm,hp⟩:=hs;exact ih m hm hp
  ·exact ⟨n,h,fun m hm=>Nat.le_of_not_lt fun hl=>hs ⟨m,hl,hm⟩⟩
noncomputable def leastOf (p:Nat→Prop):Nat:=by
 classical
 exact if h:∃ n,p n∧∀ m,p m→n≤m then Classical.choose h else 0
theorem leastOf_spec {p:Nat→Prop} {n:Nat} (h:p n):p (leastOf p)∧∀ m,p m→leastOf p≤m:=by
 have hx:∃ n,p n∧∀ m,p m→n≤m:=least_ex n h
 unfold leastOf
 rw [dif_pos hx]
 exact Classical.choose_spec hx
theorem wp_loopB {P:Program} {Q:Exit→Act→World→Prop} {a:Act} {w:World} {c:Code} {β:Type} (I:β→Act→World→Prop) (μ:β→Nat) (b0:β) (h₀:I b0 a w)
  (round:∀ b a w,I b a w→c.wp P (Exit.then (fun a' w'=>∃ b',I b' a' w'∧μ b' < μ b) Q) a w):(Code.loop c).wp P Q a w:=by
 refine wp_loop (fun a w=>∃ b,I b a w) (fun a w=>leastOf fun n=>∃ b,I b a w∧μ b=n) ⟨b0,h₀⟩ ?_
 rintro a w ⟨b,hb⟩
 obtain ⟨⟨b1,hb1,e1⟩,_⟩:=leastOf_spec (p:=fun n=>∃ b,I b a w∧μ b=n) ⟨b,hb,rfl⟩
 refine wp_mono (round b1 a w hb1) ?_
 intro e a' w' h
 cases e with
 | normal =>
  obtain ⟨b',h1,h2⟩:=h
  refine ⟨⟨b',h1⟩,?_⟩
  rw [← e1]
  exact Nat.lt_of_le_of_lt ((leastOf_spec (p:=fun n=>∃ b,I b a' w'∧μ b=n) ⟨b',h1,rfl⟩).2 _ ⟨b',h1,rfl⟩) h2
 | _=>exact h
theorem wp_loopF {P:Program} {Q:Exit→Act→World→Prop} {a:Act} {w:World} {c:Code} {β:Type} (S:β→(Nat→Value)→Array Value) (R:β→List Deferred→World→Prop) (μ:β→Nat) (b0:β)
  (hs:a.tmps=S b0 fun i=>a.tmps.getD i undef) (h₀:R b0 a.defers w)
  (round:∀ b f ds w,R b ds w→c.wp P (Exit.then (fun a' w'=>∃ b',a'.tmps=S b' (fun i=>a'.tmps.getD i undef)∧R b' a'.defers w'∧μ b' < μ b) Q) { tmps:=S b f,defers:=ds } w):(Code.loop c).wp P Q a w:=by
 refine wp_loopB (fun b a w=>(∃ f,a.tmps=S b f)∧R b a.defers w) μ b0 ⟨⟨_,hs⟩,h₀⟩ ?_
 rintro b ⟨tmps,ds⟩ w ⟨⟨f,hf⟩,hR⟩
 dsimp only at hf hR
 subst hf
 refine wp_mono (round b f ds w hR) ?_
 intro e a' w' h
 cases e with
 | normal=>obtain ⟨b',h1,h2,h3⟩:=h;exact ⟨b',⟨⟨_,h1⟩,h2⟩,h3⟩
 | _=>exact h
def comTo (C:Nat) (Ns ks:List Nat):Nat:=ks.foldl (fun r i=>if i < Ns.length then r&&&Ns.getD i 0 else r) (lowN C)
theorem comTo_snoc (C:Nat) (Ns ks:List Nat) (i:Nat):comTo C Ns (ks ++ [i])=if i < Ns.length then comTo C Ns ks&&&Ns.getD i 0 else comTo C Ns ks:=by simp [comTo]
theorem testBit_comGo (Ns:List Nat) (j:Nat):∀ (ks:List Nat) (r:Nat),(ks.foldl (fun r i=>if i < Ns.length then r&&&Ns.getD i 0 else r) r).testBit j=true↔r.testBit j=true∧∀ i∈ks,i < Ns.length→(Ns.getD i 0).testBit j=true
 | [],r=>by simp
 | k :: ks,r=>by
  rw [List.foldl_cons,testBit_comGo Ns j ks]
  by_cases hk:k < Ns.length
  ·rw [if_pos hk,Nat.testBit_and,Bool.and_eq_true]
   constructor
   ·rintro ⟨⟨h1,h2⟩,h3⟩
    refine ⟨h1,fun i hi hl=>?_⟩
    rcases List.mem_cons.1 hi with rfl | hi
    ·exact h2
    ·exact h3 i hi hl
   ·rintro ⟨h1,h2⟩
    exact ⟨⟨h1,h2 k (by simp) hk⟩,fun i hi hl=>h2 i (by simp [hi]) hl⟩
  ·rw [if_neg hk]
   constructor
   ·rintro ⟨h1,h3⟩
    refine ⟨h1,fun i hi hl=>?_⟩
    rcases List.mem_cons.1 hi with rfl | hi
    ·exact absurd hl hk
    ·exact h3 i hi hl
   ·rintro ⟨h1,h2⟩
    exact ⟨h1,fun i hi hl=>h2 i (by simp [hi]) hl⟩
def comN (C:Nat) (Ns:List Nat) (S:Nat):Nat:=comTo C Ns (mems S)
theorem testBit_comN (C:Nat) (Ns:List Nat) (S j:Nat):(comN C Ns S).testBit j=true↔j < C∧∀ i,S.testBit i=true→i < Ns.length→(Ns.getD i 0).testBit j=true:=by
 unfold comN comTo
 rw [testBit_comGo,testBit_lowN,decide_eq_true_eq]
 exact and_congr_right fun _=>⟨fun h i hi=>h i (mem_mems.2 hi),fun h i hi=>h i (mem_mems.1 hi)⟩
def havTo (C:Nat) (Ns ks:List Nat):Nat:=ks.foldl (fun r j=>if j < C then r&&&mcol C Ns (j:Nat) else r) (lowN Ns.length)
theorem havTo_snoc (C:Nat) (Ns ks:List Nat) (j:Nat):havTo C Ns (ks ++ [j])=if j < C then havTo C Ns ks&&&mcol C Ns (j:Nat) else havTo C Ns ks:=by simp [havTo]
theorem testBit_havGo (C:Nat) (Ns:List Nat) (hl:Ns.length≤4096) (i:Nat):∀ (ks:List Nat) (r:Nat),(ks.foldl (fun r j=>if j < C then r&&&mcol C Ns (j:Nat) else r) r).testBit i=true↔r.testBit i=true∧∀ j∈ks,j < C→mhas C Ns i j=true
 | [],r=>by simp
 | k :: ks,r=>by
  rw [List.foldl_cons,testBit_havGo C Ns hl i ks]
  by_cases hk:k < C
  ·rw [if_pos hk,Nat.testBit_and,Bool.and_eq_true,testBit_mcol C Ns _ i hl]
   constructor
   ·rintro ⟨⟨h1,h2⟩,h3⟩
    refine ⟨h1,fun j hj hc=>?_⟩
    rcases List.mem_cons.1 hj with rfl | hj
    ·exact h2
    ·exact h3 j hj hc
   ·rintro ⟨h1,h2⟩
    exact ⟨⟨h1,h2 k (by simp) hk⟩,fun j hj hc=>h2 j (by simp [hj]) hc⟩
  ·rw [if_neg hk]
   constructor
   ·rintro ⟨h1,h3⟩
    refine ⟨h1,fun j hj hc=>?_⟩
    rcases List.mem_cons.1 hj with rfl | hj
    ·exact absurd hc hk
    ·exact h3 j hj hc
   ·rintro ⟨h1,h2⟩
    exact ⟨h1,fun j hj hc=>h2 j (by simp [hj]) hc⟩
def havN (C:Nat) (Ns:List Nat) (S:Nat):Nat:=havTo C Ns (mems S)
theorem mhas_at {C:Nat} {Ns:List Nat} {i j:Nat} (hi:i < Ns.length) (hj:j < C):mhas C Ns i j=(Ns.getD i 0).testBit j:=by
 unfold mhas insideB
 simp [hi,hj]
theorem testBit_havN (C:Nat) (Ns:List Nat) (hl:Ns.length≤4096) (S i:Nat):(havN C Ns S).testBit i=true↔i < Ns.length∧∀ j,S.testBit j=true→j < C→(Ns.getD i 0).testBit j=true:=by
 unfold havN havTo
 rw [testBit_havGo C Ns hl,testBit_lowN,decide_eq_true_eq]
 refine and_congr_right fun hi=>⟨fun h j hj hc=>?_,fun h j hj hc=>?_⟩
 ·rw [← mhas_at hi hc];exact h j (mem_mems.2 hj) hc
 ·rw [mhas_at hi hc];exact h j (mem_mems.1 hj) hc
def cloN (C:Nat) (Ns:List Nat) (S:Nat):Nat:=comN C Ns (havN C Ns S)
def ltR (N M:Nat):Bool:=if M=0 then false else if N=0 then true else if N%2=1∧M%2=0 then true else if N%2=0∧M%2=1 then false else ltR (N/2) (M/2)
termination_by N
decreasing_by omega
theorem ltR_irrefl:∀ N,ltR N N=false:=by
 intro N
 induction N using Nat.strongRecOn with
 | _ N ih =>
  rw [ltR]
  by_cases h:N=0
  ·simp [h]
  ·rw [if_neg h,if_neg h,if_neg (by omega),if_neg (by omega)]
   exact ih _ (by omega)
theorem ltR_trans:∀ N M K,ltR N M=true→ltR M K=true→ltR N K=true:=by
 intro N
 induction N using Nat.strongRecOn with
 | _ N ih =>
  intro M K h1 h2
  rw [ltR] at h1 h2 ⊢
  by_cases hK:K=0
  ·simp [hK] at h2
  ·rw [if_neg hK] at h2 ⊢
   by_cases hN:N=0
   ·simp [hN]
   ·rw [if_neg hN]
    by_cases hM:M=0
    ·simp [hM] at h1
    ·rw [if_neg hM,if_neg hN] at h1
     rw [if_neg hM] at h2
     by_cases n1:N%2=1 <;> by_cases m1:M%2=1 <;> by_cases k1:K%2=1 <;>
      simp only [show N%2=0↔¬ N%2=1 by omega,show M%2=0↔¬ M%2=1 by omega,show K%2=0↔¬ K%2=1 by omega,n1,m1,k1] at h1 h2 ⊢ <;> simp at h1 h2 ⊢ <;> exact ih _ (by omega) _ _ h1 h2
theorem ltR_total:∀ N M,N≠M→ltR N M=false→ltR M N=true:=by
 intro N
 induction N using Nat.strongRecOn with
 | _ N ih =>
  intro M hne h
  rw [ltR] at h ⊢
  by_cases hN:N=0
  ·by_cases hM:M=0
   ·omega
   ·simp [hN,hM] at h
  ·rw [if_neg hN]
   by_cases hM:M=0
   ·simp [hM]
   ·rw [if_neg hM]
    rw [if_neg hM,if_neg hN] at h
    by_cases n1:N%2=1 <;> by_cases m1:M%2=1 <;>
     simp only [show N%2=0↔¬ N%2=1 by omega,show M%2=0↔¬ M%2=1 by omega,n1,m1] at h ⊢ <;> simp at h ⊢ <;> exact ih _ (by omega) _ (by omega) h
theorem ltR_asymm {N M:Nat} (h:ltR N M=true):ltR M N=false:=by
 cases h2:ltR M N
 ·rfl
 ·rw [← ltR_irrefl N,ltR_trans _ _ _ h h2]
theorem ltR_at:∀ (i N M:Nat),(∀ j,j < i→N.testBit j=M.testBit j)→N.testBit i=true→M.testBit i=false→ltR N M=decide (M/2 ^ i≠0)
 | 0,N,M,_,hN,hM=>by
  have n1:N%2=1:=by simpa using hN
  have m1:M%2=0:=by
   have:¬ M%2=1:=by simpa using hM
   omega
  rw [ltR]
  by_cases h0:M=0
  ·simp [h0]
  ·rw [if_neg h0,if_neg (by omega),if_pos ⟨n1,m1⟩];simp [h0]
 | i+1,N,M,hj,hN,hM=>by
  have h0:=hj 0 (by omega)
  have hp:N%2=M%2:=by
   have:=Nat.testBit_zero N
   have:=Nat.testBit_zero M
   by_cases a:N%2=1 <;> by_cases b:M%2=1 <;> simp_all <;> omega
  have hN0:N≠0:=by rintro rfl;simp at hN
  rw [ltR]
  by_cases hM0:M=0
  ·simp [hM0]
  ·rw [if_neg hM0,if_neg hN0,if_neg (by omega),if_neg (by omega)]
   rw [ltR_at i (N/2) (M/2) (fun j hj'=>by rw [Nat.testBit_div_two,Nat.testBit_div_two];exact hj (j+1) (by omega)) (by rw [Nat.testBit_div_two];exact hN) (by rw [Nat.testBit_div_two];exact hM)]
   rw [Nat.div_div_eq_div_mul,Nat.pow_succ,Nat.mul_comm (2 ^ i) 2]
def cmpN (N M:Nat):Int:=if N=M then 0 else if ltR N M then -1 else 1
theorem cmpN_lt (N M:Nat):decide (cmpN N M < 0)=ltR N M:=by
 unfold cmpN
 by_cases h:N=M
 ·subst h;simp [ltR_irrefl]
 ·rw [if_neg h];cases ltR N M <;> simp
section
variable {C:Nat} {Ns:List Nat}
theorem nat_ext {a b:Nat} (h:∀ i,a.testBit i=true↔b.testBit i=true):a=b:=Nat.eq_of_testBit_eq fun i=>by
 have:=h i
 cases h1:a.testBit i <;> cases h2:b.testBit i <;> simp_all
theorem havN_lt (hl:Ns.length≤4096) {S i:Nat} (h:(havN C Ns S).testBit i=true):i < Ns.length:=((testBit_havN C Ns hl S i).1 h).1
theorem comN_lt {S j:Nat} (h:(comN C Ns S).testBit j=true):j < C:=((testBit_comN C Ns S j).1 h).1
theorem havN_anti (hl:Ns.length≤4096) {S T:Nat} (h:∀ j,j < C→S.testBit j=true→T.testBit j=true) {i:Nat} (hi:(havN C Ns T).testBit i=true):(havN C Ns S).testBit i=true:=by
 rw [testBit_havN C Ns hl] at hi ⊢
 exact ⟨hi.1,fun j hj hc=>hi.2 j (h j hc hj) hc⟩
theorem comN_anti {S T:Nat} (h:∀ i,i < Ns.length→S.testBit i=true→T.testBit i=true) {j:Nat} (hj:(comN C Ns T).testBit j=true):(comN C Ns S).testBit j=true:=by
 rw [testBit_comN] at hj ⊢
 exact ⟨hj.1,fun i hi hl=>hj.2 i (h i hl hi) hl⟩
theorem clo_sup (hl:Ns.length≤4096) {S j:Nat} (hc:j < C) (hj:S.testBit j=true):(cloN C Ns S).testBit j=true:=by
 unfold cloN
 rw [testBit_comN]
 exact ⟨hc,fun i hi _=>((testBit_havN C Ns hl S i).1 hi).2 j hj hc⟩
theorem clo_mono (hl:Ns.length≤4096) {S T:Nat} (h:∀ j,j < C→S.testBit j=true→T.testBit j=true) {j:Nat} (hj:(cloN C Ns S).testBit j=true):(cloN C Ns T).testBit j=true:=by
 unfold cloN at *
 exact comN_anti (fun i _ hi=>havN_anti hl h hi) hj
theorem hav_clo (hl:Ns.length≤4096) (S:Nat):havN C Ns (cloN C Ns S)=havN C Ns S:=by
 refine nat_ext fun i=>⟨fun h=>havN_anti hl (fun j hc hj=>clo_sup hl hc hj) h,fun h=>?_⟩
 rw [testBit_havN C Ns hl]
 refine ⟨havN_lt hl h,fun j hj hc=>?_⟩
 unfold cloN at hj
 exact ((testBit_comN C Ns _ j).1 hj).2 i h (havN_lt hl h)
theorem clo_clo (hl:Ns.length≤4096) (S:Nat):cloN C Ns (cloN C Ns S)=cloN C Ns S:=by
 show comN C Ns (havN C Ns (cloN C Ns S))=comN C Ns (havN C Ns S)
 rw [hav_clo hl]
theorem hav_iff_clo (hl:Ns.length≤4096) (S T:Nat):havN C Ns S=havN C Ns T↔cloN C Ns S=cloN C Ns T :=
 ⟨fun h=>by unfold cloN;rw [h],fun h=>by rw [← hav_clo hl S,← hav_clo hl T,h]⟩
end
def subTo (l:List Nat) (n:Nat):Nat→Nat
 | 0=>0
 | k+1=>if n.testBit k=true then subTo l n k|||2 ^ (l.getD k 0) else subTo l n k
theorem testBit_subTo (l:List Nat) (n j:Nat):∀ k,(subTo l n k).testBit j=true↔∃ i,i < k∧n.testBit i=true∧l.getD i 0=j
 | 0=>by simp [subTo]
 | k+1=>by
  rw [subTo]
  have ih:=testBit_subTo l n j k
  by_cases h:n.testBit k=true
  ·rw [if_pos h,Nat.testBit_or,Bool.or_eq_true,ih,Nat.testBit_two_pow,decide_eq_true_eq]
   constructor
   ·rintro (⟨i,h1,h2,h3⟩ | e)
    ·exact ⟨i,by omega,h2,h3⟩
    ·exact ⟨k,by omega,h,e⟩
   ·rintro ⟨i,h1,h2,h3⟩
    by_cases e:i=k
    ·subst e;exact Or.inr h3
    ·exact Or.inl ⟨i,by omega,h2,h3⟩
  ·rw [if_neg h,ih]
   constructor
   ·rintro ⟨i,h1,h2,h3⟩;exact ⟨i,by omega,h2,h3⟩
   ·rintro ⟨i,h1,h2,h3⟩
    by_cases e:i=k
    ·subst e;exact absurd h2 h
    ·exact ⟨i,by omega,h2,h3⟩
def subN (l:List Nat) (n:Nat):Nat:=subTo l n l.length
theorem bits_ex (f:Nat→Bool):∀ k,∃ n,n < 2 ^ k∧∀ i,i < k→n.testBit i=f i
 | 0=>⟨0,by simp,fun i h=>by omega⟩
 | k+1=>by
  obtain ⟨n,hn,h⟩:=bits_ex f k
  cases hf:f k
  ·exact ⟨n,by rw [Nat.pow_succ];omega,fun i hi=>by
    by_cases e:i=k
    ·subst e;rw [hf];exact Nat.testBit_lt_two_pow hn
    ·exact h i (by omega)⟩
  ·refine ⟨n|||2 ^ k,Nat.or_lt_two_pow (by rw [Nat.pow_succ];omega) (by rw [Nat.pow_succ];have:=Nat.two_pow_pos k;omega),fun i hi=>?_⟩
   rw [Nat.testBit_or,Nat.testBit_two_pow]
   by_cases e:i=k
   ·subst e;simp [hf]
   ·rw [h i (by omega)];simp;omega
theorem mems_nodup (N:Nat):(mems N).Nodup:=by
 unfold mems;rw [mTo_map];exact List.nodup_range.filter _
theorem subN_mems (K n:Nat) {j:Nat} (h:(subN (mems K) n).testBit j=true):K.testBit j=true:=by
 obtain ⟨i,hi,_,e⟩:=(testBit_subTo _ _ _ _).1 h
 rw [List.getD_eq_getElem?_getD,List.getElem?_eq_getElem hi,Option.getD_some] at e
 rw [← mem_mems,← e];exact List.getElem_mem hi
theorem subN_onto {K S:Nat} (h:∀ j,S.testBit j=true→K.testBit j=true):∃ n,n < 2 ^ (mems K).length∧subN (mems K) n=S:=by
 obtain ⟨n,hn,hb⟩:=bits_ex (fun i=>S.testBit ((mems K).getD i 0)) (mems K).length
 refine ⟨n,hn,nat_ext fun j=>?_⟩
 unfold subN
 rw [testBit_subTo]
 constructor
 ·rintro ⟨i,hi,h1,rfl⟩
  rw [← hb i hi];exact h1
 ·intro hj
  obtain ⟨i,hi,e⟩:=List.getElem_of_mem (mem_mems.2 (h j hj))
  refine ⟨i,hi,?_,by rw [List.getD_eq_getElem?_getD,List.getElem?_eq_getElem hi,Option.getD_some];exact e⟩
  rw [hb i hi,List.getD_eq_getElem?_getD,List.getElem?_eq_getElem hi,Option.getD_some,e];exact hj
theorem subN_inj {K n m:Nat} (hn:n < 2 ^ (mems K).length) (hm:m < 2 ^ (mems K).length) (h:subN (mems K) n=subN (mems K) m):n=m:=by
 have key:∀ {a b:Nat},subN (mems K) a=subN (mems K) b→∀ i,i < (mems K).length→a.testBit i=true→b.testBit i=true:=by
  intro a b e i hi ha
  have h1:(subN (mems K) a).testBit ((mems K).getD i 0)=true:=(testBit_subTo _ _ _ _).2 ⟨i,hi,ha,rfl⟩
  rw [e] at h1
  obtain ⟨i',hi',hb,e'⟩:=(testBit_subTo _ _ _ _).1 h1
  rw [List.getD_eq_getElem?_getD,List.getElem?_eq_getElem hi',Option.getD_some,List.getD_eq_getElem?_getD,List.getElem?_eq_getElem hi,Option.getD_some] at e'
  have e2:i'=i:=(List.getElem_inj (mems_nodup K)).1 e'
  rw [← e2];exact hb
 refine nat_ext fun i=>?_
 by_cases hi:i < (mems K).length
 ·exact ⟨key h i hi,key h.symm i hi⟩
 ·have p:2 ^ (mems K).length≤2 ^ i:=Nat.pow_le_pow_right (by omega) (by omega)
  rw [Nat.testBit_lt_two_pow (Nat.lt_of_lt_of_le hn p),Nat.testBit_lt_two_pow (Nat.lt_of_lt_of_le hm p)]
end Go.Proofs.YtafpmkdlciioaaaGreatDoor
namespace Go.Proofs.YtafpmkdlciioaaaGreatDoor
open Go.RowKit
attribute [local go_sem] Oper.semAt_some
def IsMV (w:World) (m:Option Addr) (C:Nat) (Ns:List Nat):Prop:=(m=none∧C=0∧Ns=[])∨∃ p,m=some ⟨p,0,none⟩∧IsMat w p C Ns
section
variable {w w':World} {m:Option Addr} {C:Nat} {Ns:List Nat}
theorem IsMV.below (h:IsMV w m C Ns) (hb:Below w.heap.size w w'):IsMV w' m C Ns:=h.imp id fun ⟨p,e,h⟩=>⟨p,e,h.below hb⟩
theorem IsMV.bd (h:IsMV w m C Ns):C≤4096∧Ns.length≤4096:=by
 rcases h with ⟨_,rfl,rfl⟩ | ⟨p,_,h⟩
 ·simp
 ·exact ⟨h.1,h.2.1⟩
theorem rows_v (h:IsMV w m C Ns):Calls Tryz.prog 10 #[.pointer m] w fun e w'=>e=.returned (.int .i64 Ns.length)∧w=w':=by
 rcases h with ⟨rfl,rfl,rfl⟩ | ⟨p,rfl,h⟩
 ·exact rows_nil w
 ·exact rows_any p C Ns w h
theorem cols_v (h:IsMV w m C Ns):Calls Tryz.prog 27 #[.pointer m] w fun e w'=>e=.returned (.int .i64 C)∧w=w':=by
 rcases h with ⟨rfl,rfl,rfl⟩ | ⟨p,rfl,h⟩
 ·exact cols_nil w
 ·exact cols_any p C Ns w h
theorem row_v (h:IsMV w m C Ns) {i:Nat} (hi:i < Ns.length):Calls Tryz.prog 40 #[.pointer m,.int .i64 i] w fun e w'=>∃ r,e=.returned (.agg #[r])∧IsSet w' r (Ns.getD i 0)∧Below w.heap.size w w':=by
 rcases h with ⟨rfl,rfl,rfl⟩ | ⟨p,rfl,h⟩
 ·simp at hi
 ·have:=row_any p C Ns i w h
  rw [mrow,if_pos (by omega),Int.toNat_natCast] at this
  exact this
theorem col_v (h:IsMV w m C Ns) {j:Nat} (hj:j < C):Calls Tryz.prog 50 #[.pointer m,.int .i64 j] w fun e w'=>∃ r,e=.returned (.agg #[r])∧IsSet w' r (mcol C Ns (j:Nat))∧Below w.heap.size w w':=by
 rcases h with ⟨rfl,rfl,rfl⟩ | ⟨p,rfl,h⟩
 ·omega
 ·exact col_any p C Ns j w h
end
theorem common_any (m:Option Addr) (C:Nat) (Ns:List Nat) (v:Value) (S:Nat) (w:World) (h:IsMV w m C Ns) (hs:IsSet w v S) (hT:Tab w) :
  Calls Tryz.prog 174 #[.pointer m,.agg #[v]] w fun e w'=>∃ r,e=.returned (.agg #[r])∧IsSet w' r (comN C Ns S)∧Below w.heap.size w w':=by
 obtain ⟨hC,hR⟩:=h.bd
 refine (callsIn_wide (n:=9)).1 (callsIn_of_wp_marks Tryz.func174 rfl trivial (wpIn_wide.2 ?_) rfl)
 simp only [Tryz.ntmps174,List.size_toArray,List.length_cons,List.length_nil,Nat.reduceAdd,Nat.reduceSub,Array.replicate_succ,Array.replicate_zero,List.push_toArray,List.append_toArray,List.nil_append,List.cons_append]
 go_wp2_with fail
 refine absC3 fun W0 hM0 hR0 hO0 hb0 hz0=>?_
 refine (cols_v (h.below hb0)).mono ?_
 rintro e w1 ⟨rfl,rfl⟩
 have x0:=hM0.cell 0
 go_wp2_with fail
 refine (below_any _ _).mono ?_
 rintro e w2 ⟨r,rfl,hset,hb2⟩
 rw [clamp_nat (by omega)] at hset
 have b2:=hb0.trans (hb2.mono hb0.size)
 have hM2:=hM0.below hb2 hM0.lt
 have hR2:=hR0.below hb2 hR0.lt
 have hO2:=hO0.below hb2 hO0.lt
 have y0:=hR2.cell 0
 obtain ⟨Ar,cr,rfl,_⟩:=id hset
 obtain ⟨Av,cv,rfl,_⟩:=id hs
 have lR:=hR2.lt
 clear x0 hM0 hR0 hO0
 go_wp2_with fail
 refine absC1 fun W3 hX3 hb3 hz3=>?_
 refine (all_any Av (nw S) cv W3).mono ?_
 rintro e w4 ⟨rfl,hw4⟩
 have hY:=hw4▸Blk.new W3 58 #[.slice Av (nw S) cv]
 have hb4:Below W3.heap.size W3 w4:=by rw [hw4];exact (Below.refl _ _).alloc (Nat.le_refl _) _
 have hb24:=hb3.trans (hb4.mono hb3.size)
 have b4:=b2.trans (hb24.mono b2.size)
 have hM4:=hM2.below hb24 hM2.lt
 have hO4:=hO2.below hb24 hO2.lt
 have hX4:=hX3.below hb4 hX3.lt
 have hset4:=hset.below hb24
 have hs4:=hs.below b4
 have hT4:=hT.below b4
 have hz2:w.heap.size+3≤w2.heap.size:=by have:=hb2.size;omega
 have hsz4:w4.heap.size=w2.heap.size+2:=by rw [hw4];simp [hz3]
 rw [hz3] at hY ⊢
 clear hw4 hX3 hM2 hR2 hO2 hb2 hset y0
 have HSZ:=Lib.hid hsz4
 have HZ3:=Lib.hid hz3
 have HZ0:=Lib.hid hz0
 clear hsz4 hz3 hz0
 have hXne:some (w.heap.size)≠some w2.heap.size:=by simp;omega
 go_wp2_with fail
 refine wp_rangeAll (v:=.slice Av (nw S) cv) (N:=S) (Bx:=w2.heap.size+1) rfl (hY.cell 0) hs4 hT4 rfl
  (fun pre W=>(∃ rv',Blk W w2.heap.size 58 #[rv']∧IsSet W rv' (comTo C Ns pre))∧But (some w2.heap.size) w4 W∧Below w.heap.size w W) (fun _ _ _=>False)
  ?hI (fun _ _ _ _ _ hs _ _=>hs) ?h0 ?a1 ?assign ?body ?done (fun _ _ _ _ _ h _=>h.elim)
 case assign =>
  intro l x W K hK
  gi_wp2
  exact hK
 case hI =>
  rintro s W W' row ⟨⟨rv',hb,hsr⟩,hbut,hbl⟩ hg hrow
  have hcells:∀ (g:Nat) cs t fz,W.heap[g]?=some (Obj.cells cs t fz)→W'.heap[g]?=some (Obj.cells cs t fz):=fun g cs t fz hb=>(hg.block g (Array.getElem?_eq_some_iff.1 hb).1 fun e=>by
   obtain ⟨_,o,ho,hc⟩:=hrow g e.symm
   rw [ho] at hb;cases hb;cases hc).trans hb
  refine ⟨⟨rv',hcells _ _ _ _ hb,hsr.keep ⟨hg.size,fun g cs h=>hcells _ _ _ _ h⟩⟩,⟨Nat.le_trans hbut.1 hg.size,fun g hg' hne=>(hg.block g (Nat.lt_of_lt_of_le hg' hbut.1) fun e=>?_).trans (hbut.2 g hg' hne)⟩,hbl.grown hg hbl.size fun k e=>?_⟩
  ·have:=(hrow g e.symm).1;omega
  ·have:=(hrow k e).1;have:=b4.size;omega
 case h0=>exact ⟨⟨_,hX4,by simpa [comTo] using hset4⟩,But.refl _ _,b4⟩
 case body =>
  rintro l pre x W hx ⟨⟨rv',hX,hsr⟩,hbut,hbl⟩ hlen hkp
  have cM:=hbut.on (hM4.cell 0) hXne
  have cX:=hX.cell 0
  have lX:=hX.lt
  have lM:=cell_lt cM
  have hmv:=h.below hbl
  have hd:Below W.heap.size W W.drew:=(Below.refl _ _).drew
  have hst:comTo C Ns (pre ++ [x])=_:=comTo_snoc C Ns pre x
  by_cases hxl:x < Ns.length
  ·rw [if_pos hxl] at hst
   have hgt:=row_v (hmv.below hd) hxl
   obtain ⟨rx,hrx⟩:∃ n,n=Ns.getD x 0:=⟨_,rfl⟩
   rw [← hrx] at hst hgt
   have HST:=Lib.hid hst
   have HC:=hideC (rows_v hmv)
   have HR:=hideC hgt
   clear hst hrx hgt
   gi_wp2_with (refine ⟨trivial,?_⟩;gi_at_call 10;refine (CallsIn.inRound l (callsIn_wide.2 HC.out)).mono ?_;rintro e w5 ⟨rfl,rfl⟩)
   refine wpIn_spine (fun V=>Below W.heap.size W V) [0,1,2] [3,4,5] (fun _=>trivial) (by kernel_rfl) (by kernel_rfl) (by kernel_rfl) ?_
   iterate 3 (refine wpE_op (v:=?_) rfl rfl (fun W hW=>?_) ?_;rotate_left;(have x1:=onB hW cX;have x2:=onB hW cM;go_simp;first | done | with_reducible rfl);simp only [pt1,pt3,pt4,pt5])
   refine wpE_nil ⟨fun h=>(by cases h),wpSpI_op rfl hd ?_⟩
   gi_wp2_with (refine ⟨trivial,?_⟩;gi_at_call 40;refine (CallsIn.inRound l (callsIn_wide.2 HR.out)).mono ?_;rintro e w6 ⟨r1,rfl,hr1,hb6⟩;obtain ⟨A6,c6,rfl,_⟩:=id hr1)
   have hb6':=hd.trans (hb6.mono hd.size)
   have HA:=hideC (and_any _ _ _ _ w6 (hsr.below hb6') hr1)
   refine nxtI_op rfl hb6' ?_
   gi_wp2_with (refine ⟨trivial,?_⟩;gi_at_call 81;refine (CallsIn.inRound l (callsIn_wide.2 HA.out)).mono ?_;rintro e w7 ⟨r2,rfl,hr2,hb7⟩;obtain ⟨A7,c7,rfl,_⟩:=id hr2)
   have hb7':=hb6'.trans (hb7.mono hb6'.size)
   have hX7:=hX.below hb7' hX.lt
   have cX7:=hX7.cell 0
   have fX7:=hX7.frozen 0
   refine nxtI_op rfl hb7' ?_
   gi_wp2_with fail
   refine nxtI_nil ?_
   gi_wp2_with fail
   have hk8:=(KeepW.of_below hb7').trans (KeepW.setCell (p:=⟨w2.heap.size,0,none⟩) hX7 (by decide) (.slice A7 (nw (comTo C Ns pre&&&rx)) c7))
   have hb8:=(hb7'.mono hbl.size).setCell (p:=⟨w2.heap.size,0,none⟩) (by simp;omega) (.slice A7 (nw (comTo C Ns pre&&&rx)) c7)
   exact ⟨((KeepsOthers.of_below hb7').trans (KeepsOthers.setCell _ _ _)).from _,KpA.mk_ hk8 hb8 hT.pos,
    ⟨_,hX7.set_ 0 (.slice A7 (nw (comTo C Ns pre&&&rx)) c7),by rw [HST.out];exact hr2.keep (KeepW.setCell (p:=⟨w2.heap.size,0,none⟩) hX7 (by decide) (.slice A7 (nw (comTo C Ns pre&&&rx)) c7))⟩,(hbut.below hb7').trans (But.setCell _ _ _),hbl.trans hb8⟩
  ·rw [if_neg hxl] at hst
   have HST:=Lib.hid hst
   have HC:=hideC (rows_v hmv)
   clear hst
   gi_wp2_with (refine ⟨trivial,?_⟩;gi_at_call 10;refine (CallsIn.inRound l (callsIn_wide.2 HC.out)).mono ?_;rintro e w5 ⟨rfl,rfl⟩)
   exact ⟨(KeepsOthers.of_below (Below.refl _ _)).from _,KpA.refl _,⟨_,hX,by rw [HST.out];exact hsr⟩,hbut,hbl⟩
 case done =>
  rintro D W hD ⟨⟨rv',hX,hsr⟩,hbut,hbl⟩ hK
  obtain ⟨A',c',rfl,_⟩:=id hsr
  have hOW:=hbut.blk hO4 (by simp;omega)
  have cX:=hX.cell 0
  have cO:=hOW.cell 0
  have fO:=hOW.frozen 0
  have lO:=hOW.lt
  go_wp2_with fail
  have hOX:=hOW.set_ 0 (.slice A' (nw (comTo C Ns (mems S))) c')
  have hbX:=hbl.setCell (p:=⟨w.heap.size+1+1,0,none⟩) (by show w.heap.size≤w.heap.size+1+1;omega) (.slice A' (nw (comTo C Ns (mems S))) c')
  have hsX:=hsr.keep (KeepW.setCell (p:=⟨w.heap.size+1+1,0,none⟩) hOW (by decide) (.slice A' (nw (comTo C Ns (mems S))) c'))
  have hKX:=(KeepsOthers.setCell W ⟨w.heap.size+1+1,0,none⟩ (.slice A' (nw (comTo C Ns (mems S))) c')).same _ _ hK rfl
  refine leave_marks (n₀:=w.heap.size) [{ target:=.collected D,args:=#[] }] _ ⟨⟨D,rfl,by have:=b4.size;omega,hKX,fun e he=>by cases he⟩,trivial⟩ fun W' hW'=>?_
  have hBB:Blk W' (w.heap.size+1+1) 58 _:=hW'.2 _ _ _ _ hOX
  have cX:=hBB.cell 0
  exact ⟨_,by simp [results,Tryz.results174,go_sem,cX],_,rfl,hsX.keep hW'.keep,hbX.trans hW'.1⟩
theorem having_any (m:Option Addr) (C:Nat) (Ns:List Nat) (v:Value) (S:Nat) (w:World) (h:IsMV w m C Ns) (hs:IsSet w v S) (hT:Tab w) :
  Calls Tryz.prog 94 #[.pointer m,.agg #[v]] w fun e w'=>∃ r,e=.returned (.agg #[r])∧IsSet w' r (havN C Ns S)∧Below w.heap.size w w':=by
 obtain ⟨hC,hR⟩:=h.bd
 refine (callsIn_wide (n:=9)).1 (callsIn_of_wp_marks Tryz.func94 rfl trivial (wpIn_wide.2 ?_) rfl)
 simp only [Tryz.ntmps94,List.size_toArray,List.length_cons,List.length_nil,Nat.reduceAdd,Nat.reduceSub,Array.replicate_succ,Array.replicate_zero,List.push_toArray,List.append_toArray,List.nil_append,List.cons_append]
 go_wp2_with fail
 refine absC3 fun W0 hM0 hR0 hO0 hb0 hz0=>?_
 refine (rows_v (h.below hb0)).mono ?_
 rintro e w1 ⟨rfl,rfl⟩
 have x0:=hM0.cell 0
 go_wp2_with fail
 refine (below_any _ _).mono ?_
 rintro e w2 ⟨r,rfl,hset,hb2⟩
 rw [clamp_nat (by omega)] at hset
 have b2:=hb0.trans (hb2.mono hb0.size)
 have hM2:=hM0.below hb2 hM0.lt
 have hR2:=hR0.below hb2 hR0.lt
 have hO2:=hO0.below hb2 hO0.lt
 have y0:=hR2.cell 0
 obtain ⟨Ar,cr,rfl,_⟩:=id hset
 obtain ⟨Av,cv,rfl,_⟩:=id hs
 have lR:=hR2.lt
 clear x0 hM0 hR0 hO0
 go_wp2_with fail
 refine absC1 fun W3 hX3 hb3 hz3=>?_
 refine (all_any Av (nw S) cv W3).mono ?_
 rintro e w4 ⟨rfl,hw4⟩
 have hY:=hw4▸Blk.new W3 58 #[.slice Av (nw S) cv]
 have hb4:Below W3.heap.size W3 w4:=by rw [hw4];exact (Below.refl _ _).alloc (Nat.le_refl _) _
 have hb24:=hb3.trans (hb4.mono hb3.size)
 have b4:=b2.trans (hb24.mono b2.size)
 have hM4:=hM2.below hb24 hM2.lt
 have hO4:=hO2.below hb24 hO2.lt
 have hX4:=hX3.below hb4 hX3.lt
 have hset4:=hset.below hb24
 have hs4:=hs.below b4
 have hT4:=hT.below b4
 have hz2:w.heap.size+3≤w2.heap.size:=by have:=hb2.size;omega
 have hsz4:w4.heap.size=w2.heap.size+2:=by rw [hw4];simp [hz3]
 rw [hz3] at hY ⊢
 clear hw4 hX3 hM2 hR2 hO2 hb2 hset y0
 have HSZ:=Lib.hid hsz4
 have HZ3:=Lib.hid hz3
 have HZ0:=Lib.hid hz0
 clear hsz4 hz3 hz0
 have hXne:some (w.heap.size)≠some w2.heap.size:=by simp;omega
 go_wp2_with fail
 refine wp_rangeAll (v:=.slice Av (nw S) cv) (N:=S) (Bx:=w2.heap.size+1) rfl (hY.cell 0) hs4 hT4 rfl
  (fun pre W=>(∃ rv',Blk W w2.heap.size 58 #[rv']∧IsSet W rv' (havTo C Ns pre))∧But (some w2.heap.size) w4 W∧Below w.heap.size w W) (fun _ _ _=>False)
  ?hI (fun _ _ _ _ _ hs _ _=>hs) ?h0 ?a1 ?assign ?body ?done (fun _ _ _ _ _ h _=>h.elim)
 case assign =>
  intro l x W K hK
  gi_wp2
  exact hK
 case hI =>
  rintro s W W' row ⟨⟨rv',hb,hsr⟩,hbut,hbl⟩ hg hrow
  have hcells:∀ (g:Nat) cs t fz,W.heap[g]?=some (Obj.cells cs t fz)→W'.heap[g]?=some (Obj.cells cs t fz):=fun g cs t fz hb=>(hg.block g (Array.getElem?_eq_some_iff.1 hb).1 fun e=>by
   obtain ⟨_,o,ho,hc⟩:=hrow g e.symm
   rw [ho] at hb;cases hb;cases hc).trans hb
  refine ⟨⟨rv',hcells _ _ _ _ hb,hsr.keep ⟨hg.size,fun g cs h=>hcells _ _ _ _ h⟩⟩,⟨Nat.le_trans hbut.1 hg.size,fun g hg' hne=>(hg.block g (Nat.lt_of_lt_of_le hg' hbut.1) fun e=>?_).trans (hbut.2 g hg' hne)⟩,hbl.grown hg hbl.size fun k e=>?_⟩
  ·have:=(hrow g e.symm).1;omega
  ·have:=(hrow k e).1;have:=b4.size;omega
 case h0=>exact ⟨⟨_,hX4,by simpa [havTo] using hset4⟩,But.refl _ _,b4⟩
 case body =>
  rintro l pre x W hx ⟨⟨rv',hX,hsr⟩,hbut,hbl⟩ hlen hkp
  have cM:=hbut.on (hM4.cell 0) hXne
  have cX:=hX.cell 0
  have lX:=hX.lt
  have lM:=cell_lt cM
  have hmv:=h.below hbl
  have hd:Below W.heap.size W W.drew:=(Below.refl _ _).drew
  have hst:havTo C Ns (pre ++ [x])=_:=havTo_snoc C Ns pre x
  by_cases hxl:x < C
  ·rw [if_pos hxl] at hst
   have hgt:=col_v (hmv.below hd) hxl
   obtain ⟨rx,hrx⟩:∃ n,n=mcol C Ns (x:Nat):=⟨_,rfl⟩
   rw [← hrx] at hst hgt
   have HST:=Lib.hid hst
   have HC:=hideC (cols_v hmv)
   have HR:=hideC hgt
   clear hst hrx hgt
   gi_wp2_with (refine ⟨trivial,?_⟩;gi_at_call 27;refine (CallsIn.inRound l (callsIn_wide.2 HC.out)).mono ?_;rintro e w5 ⟨rfl,rfl⟩)
   refine wpIn_spine (fun V=>Below W.heap.size W V) [0,1,2] [3,4,5] (fun _=>trivial) (by kernel_rfl) (by kernel_rfl) (by kernel_rfl) ?_
   iterate 3 (refine wpE_op (v:=?_) rfl rfl (fun W hW=>?_) ?_;rotate_left;(have x1:=onB hW cX;have x2:=onB hW cM;go_simp;first | done | with_reducible rfl);simp only [pt1,pt3,pt4,pt5])
   refine wpE_nil ⟨fun h=>(by cases h),wpSpI_op rfl hd ?_⟩
   gi_wp2_with (refine ⟨trivial,?_⟩;gi_at_call 50;refine (CallsIn.inRound l (callsIn_wide.2 HR.out)).mono ?_;rintro e w6 ⟨r1,rfl,hr1,hb6⟩;obtain ⟨A6,c6,rfl,_⟩:=id hr1)
   have hb6':=hd.trans (hb6.mono hd.size)
   have HA:=hideC (and_any _ _ _ _ w6 (hsr.below hb6') hr1)
   refine nxtI_op rfl hb6' ?_
   gi_wp2_with (refine ⟨trivial,?_⟩;gi_at_call 81;refine (CallsIn.inRound l (callsIn_wide.2 HA.out)).mono ?_;rintro e w7 ⟨r2,rfl,hr2,hb7⟩;obtain ⟨A7,c7,rfl,_⟩:=id hr2)
   have hb7':=hb6'.trans (hb7.mono hb6'.size)
   have hX7:=hX.below hb7' hX.lt
   have cX7:=hX7.cell 0
   have fX7:=hX7.frozen 0
   refine nxtI_op rfl hb7' ?_
   gi_wp2_with fail
   refine nxtI_nil ?_
   gi_wp2_with fail
   have hk8:=(KeepW.of_below hb7').trans (KeepW.setCell (p:=⟨w2.heap.size,0,none⟩) hX7 (by decide) (.slice A7 (nw (havTo C Ns pre&&&rx)) c7))
   have hb8:=(hb7'.mono hbl.size).setCell (p:=⟨w2.heap.size,0,none⟩) (by simp;omega) (.slice A7 (nw (havTo C Ns pre&&&rx)) c7)
   exact ⟨((KeepsOthers.of_below hb7').trans (KeepsOthers.setCell _ _ _)).from _,KpA.mk_ hk8 hb8 hT.pos,
    ⟨_,hX7.set_ 0 (.slice A7 (nw (havTo C Ns pre&&&rx)) c7),by rw [HST.out];exact hr2.keep (KeepW.setCell (p:=⟨w2.heap.size,0,none⟩) hX7 (by decide) (.slice A7 (nw (havTo C Ns pre&&&rx)) c7))⟩,(hbut.below hb7').trans (But.setCell _ _ _),hbl.trans hb8⟩
  ·rw [if_neg hxl] at hst
   have HST:=Lib.hid hst
   have HC:=hideC (cols_v hmv)
   clear hst
   gi_wp2_with (refine ⟨trivial,?_⟩;gi_at_call 27;refine (CallsIn.inRound l (callsIn_wide.2 HC.out)).mono ?_;rintro e w5 ⟨rfl,rfl⟩)
   exact ⟨(KeepsOthers.of_below (Below.refl _ _)).from _,KpA.refl _,⟨_,hX,by rw [HST.out];exact hsr⟩,hbut,hbl⟩
 case done =>
  rintro D W hD ⟨⟨rv',hX,hsr⟩,hbut,hbl⟩ hK
  obtain ⟨A',c',rfl,_⟩:=id hsr
  have hOW:=hbut.blk hO4 (by simp;omega)
  have cX:=hX.cell 0
  have cO:=hOW.cell 0
  have fO:=hOW.frozen 0
  have lO:=hOW.lt
  go_wp2_with fail
  have hOX:=hOW.set_ 0 (.slice A' (nw (havTo C Ns (mems S))) c')
  have hbX:=hbl.setCell (p:=⟨w.heap.size+1+1,0,none⟩) (by show w.heap.size≤w.heap.size+1+1;omega) (.slice A' (nw (havTo C Ns (mems S))) c')
  have hsX:=hsr.keep (KeepW.setCell (p:=⟨w.heap.size+1+1,0,none⟩) hOW (by decide) (.slice A' (nw (havTo C Ns (mems S))) c'))
  have hKX:=(KeepsOthers.setCell W ⟨w.heap.size+1+1,0,none⟩ (.slice A' (nw (havTo C Ns (mems S))) c')).same _ _ hK rfl
  refine leave_marks (n₀:=w.heap.size) [{ target:=.collected D,args:=#[] }] _ ⟨⟨D,rfl,by have:=b4.size;omega,hKX,fun e he=>by cases he⟩,trivial⟩ fun W' hW'=>?_
  have hBB:Blk W' (w.heap.size+1+1) 58 _:=hW'.2 _ _ _ _ hOX
  have cX:=hBB.cell 0
  exact ⟨_,by simp [results,Tryz.results94,go_sem,cX],_,rfl,hsX.keep hW'.keep,hbX.trans hW'.1⟩
end Go.Proofs.YtafpmkdlciioaaaGreatDoor
namespace Go.Proofs.YtafpmkdlciioaaaGreatDoor
open Go.RowKit
theorem IsSet.put {w:World} {v:Value} {N g:Nat} {t:TypeId} {cs:Array Value} (h:IsSet w v N) (hB:Blk w g t cs) (ht:146≠t) (i:Nat) (u:Value):IsSet (w.setCell ⟨g,i,none⟩ u) v N:=h.keep (KeepW.setCell (p:=⟨g,i,none⟩) hB ht u)
theorem close_any (m:Option Addr) (C:Nat) (Ns:List Nat) (v:Value) (S:Nat) (w:World) (h:IsMV w m C Ns) (hs:IsSet w v S) (hT:Tab w) :
  Calls Tryz.prog 126 #[.pointer m,.agg #[v]] w fun e w'=>∃ r,e=.returned (.agg #[r])∧IsSet w' r (cloN C Ns S)∧Below w.heap.size w w':=by
 obtain ⟨A,c,rfl,_⟩:=id hs
 go_enter Tryz.func126,Tryz.ntmps126
 go_wp2_with fail
 refine absC2 fun W0 hX hO hb0 hz=>?_
 refine (having_any m C Ns _ S W0 (h.below hb0) (hs.below hb0) (hT.below hb0)).mono ?_
 rintro e w1 ⟨r1,rfl,hr1,hb1⟩
 obtain ⟨A1,c1,rfl,_⟩:=id hr1
 have b1:=hb0.trans (hb1.mono hb0.size)
 have hO1:=hO.below hb1 hO.lt
 go_wp2_with fail
 refine (common_any m C Ns _ _ w1 (h.below b1) hr1 (hT.below b1)).mono ?_
 rintro e w2 ⟨r2,rfl,hr2,hb2⟩
 obtain ⟨A2,c2,rfl,_⟩:=id hr2
 have b2:=b1.trans (hb2.mono b1.size)
 have hO2:=hO1.below hb2 hO1.lt
 have f0:=hO2.frozen 0
 have o0:=hO2.cell 0
 have lO:=hO2.lt
 go_wp2_with fail
 have hOX:=hO2.set_ 0 (.slice A2 (nw (comN C Ns (havN C Ns S))) c2)
 have cX:=hOX.cell 0
 exact bodyPost_ret (v:=.agg #[.slice A2 (nw (comN C Ns (havN C Ns S))) c2]) (by simp [results,Tryz.results126,go_sem,cX]) rfl ⟨_,rfl,hr2.put hO2 (by decide) 0 _,b2.setCell (p:=⟨w.heap.size+1,0,none⟩) (by simp) _⟩
theorem own_any (m:Option Addr) (C:Nat) (Ns:List Nat) (v:Value) (S:Nat) (w:World) (h:IsMV w m C Ns) (hs:IsSet w v S) :
  Calls Tryz.prog 177 #[.pointer m,.agg #[v]] w fun e w'=>∃ r,e=.returned (.agg #[r])∧IsSet w' r (S&&&lowN C)∧Below w.heap.size w w':=by
 obtain ⟨A,c,rfl,_⟩:=id hs
 have hC:=h.bd.1
 go_enter Tryz.func177,Tryz.ntmps177
 go_wp2_with fail
 refine abs2 fun W0 hX hO hb0 hz=>?_
 have x0:=hX.cell 0
 have hd:Below W0.heap.size W0 W0.drew:=(Below.refl _ _).drew
 have bd:=hb0.trans (hd.mono hb0.size)
 refine wp_spine (fun W=>Below W0.heap.size W0 W) [0,1] [2,3,4,5] (by kernel_rfl) (by kernel_rfl) ?_
 iterate 2 (refine wpE_op (v:=?_) rfl rfl (fun W hW=>?_) ?_;rotate_left;(have z0:=onB hW x0;go_simp;first | done | with_reducible rfl);simp only [pt1,pt3,pt4,pt5])
 refine wpE_nil ⟨fun h=>(by cases h),wpSp_op rfl hd ?_⟩
 go_wp2_with fail
 refine (cols_v (h.below bd)).mono ?_
 rintro e w1 ⟨rfl,rfl⟩
 go_wp2_with fail
 refine nxt_op rfl hd ?_
 go_wp2_with fail
 refine (below_any _ _).mono ?_
 rintro e w2 ⟨r2,rfl,hr2,hb2⟩
 rw [clamp_nat hC] at hr2
 obtain ⟨A2,c2,rfl,_⟩:=id hr2
 have hb02:=hd.trans (hb2.mono hd.size)
 have b2:=hb0.trans (hb02.mono hb0.size)
 go_wp2_with fail
 refine nxt_op rfl hb02 ?_
 go_wp2_with fail
 refine (and_any _ _ S (lowN C) w2 (hs.below b2) hr2).mono ?_
 rintro e w3 ⟨r3,rfl,hr3,hb3⟩
 obtain ⟨A3,c3,rfl,_⟩:=id hr3
 have hb03:=hb02.trans (hb3.mono hb02.size)
 have b3:=hb0.trans (hb03.mono hb0.size)
 have hO3:=hO.below hb03 hO.lt
 have f0:=hO3.frozen 0
 have o0:=hO3.cell 0
 have lO:=hO3.lt
 go_wp2_with fail
 refine nxt_op rfl hb03 ?_
 go_wp2_with fail
 refine nxt_nil ?_
 go_wp2_with fail
 have hOX:=hO3.set_ 0 (.slice A3 (nw (S&&&lowN C)) c3)
 have cX:=hOX.cell 0
 exact bodyPost_ret (v:=.agg #[.slice A3 (nw (S&&&lowN C)) c3]) (by simp [results,Tryz.results177,go_sem,cX]) rfl ⟨_,rfl,hr3.put hO3 (by decide) 0 _,b3.setCell (p:=⟨w.heap.size+1,0,none⟩) (by simp) _⟩
theorem of_concept (m:Option Addr) (C:Nat) (Ns:List Nat) (v:Value) (S:Nat) (w:World) (h:IsMV w m C Ns) (hs:IsSet w v S) (hT:Tab w) :
  Calls Tryz.prog 127 #[.pointer m,.agg #[v]] w fun e w'=>∃ r q,e=.returned (.agg #[r,q])∧IsSet w' r (havN C Ns S)∧IsSet w' q (cloN C Ns S)∧Below w.heap.size w w':=by
 obtain ⟨A,c,rfl,_⟩:=id hs
 go_enter Tryz.func127,Tryz.ntmps127
 go_wp2_with fail
 refine abs2 fun W0 hX hO hb0 hz=>?_
 have x0:=hX.cell 0
 have hd:Below W0.heap.size W0 W0.drew:=(Below.refl _ _).drew
 have bd:=hb0.trans (hd.mono hb0.size)
 refine wp_spine (fun W=>Below W0.heap.size W0 W) [0,1,3,4] [2,5,6,7] (by kernel_rfl) (by kernel_rfl) ?_
 iterate 4 (refine wpE_op (v:=?_) rfl rfl (fun W hW=>?_) ?_;rotate_left;(have z0:=onB hW x0;go_simp;first | done | with_reducible rfl);simp only [pt1,pt3,pt4,pt5])
 refine wpE_nil ⟨fun h=>(by cases h),wpSp_op rfl hd ?_⟩
 go_wp2_with fail
 refine (having_any m C Ns _ S _ (h.below bd) (hs.below bd) (hT.below bd)).mono ?_
 rintro e w1 ⟨r1,rfl,hr1,hb1⟩
 obtain ⟨A1,c1,rfl,_⟩:=id hr1
 have hb01:=hd.trans (hb1.mono hd.size)
 have b1:=hb0.trans (hb01.mono hb0.size)
 go_wp2_with fail
 refine nxt_op rfl hb01 ?_
 go_wp2_with fail
 refine (close_any m C Ns _ S w1 (h.below b1) (hs.below b1) (hT.below b1)).mono ?_
 rintro e w2 ⟨r2,rfl,hr2,hb2⟩
 obtain ⟨A2,c2,rfl,_⟩:=id hr2
 have hb02:=hb01.trans (hb2.mono hb01.size)
 have b2:=hb0.trans (hb02.mono hb0.size)
 have hO3:=hO.below hb02 hO.lt
 have f0:=hO3.frozen 0
 have o0:=hO3.cell 0
 have f1:=hO3.frozen 1
 have o1:=hO3.cell 1
 have lO:=hO3.lt
 go_wp2_with fail
 refine nxt_op rfl hb02 ?_
 go_wp2_with fail
 refine nxt_op rfl hb02 ?_
 go_wp2_with fail
 refine nxt_nil ?_
 go_wp2_with fail
 have hOX:=(hO3.set_ 0 (.slice A1 (nw (havN C Ns S)) c1)).set_ 1 (.slice A2 (nw (cloN C Ns S)) c2)
 have cX:=hOX.cell 0
 have cY:=hOX.cell 1
 have hk:=KeepW.trans (KeepW.setCell (p:=⟨w.heap.size+1,0,none⟩) hO3 (by decide) (.slice A1 (nw (havN C Ns S)) c1)) (KeepW.setCell (p:=⟨w.heap.size+1,1,none⟩) (hO3.set_ 0 _) (by decide) (.slice A2 (nw (cloN C Ns S)) c2))
 exact bodyPost_ret (v:=.agg #[.slice A1 (nw (havN C Ns S)) c1,.slice A2 (nw (cloN C Ns S)) c2]) (by simp [results,Tryz.results127,go_sem,cX,cY]) rfl ⟨_,_,rfl,(hr1.below hb2).keep hk,hr2.keep hk,(b2.setCell (p:=⟨w.heap.size+1,0,none⟩) (by simp) _).setCell (p:=⟨w.heap.size+1,1,none⟩) (by simp) _⟩
theorem closed_any (p C:Nat) (Ns:List Nat) (v:Value) (S:Nat) (w:World) (h:IsMat w p C Ns) (hs:IsSet w v S) (hT:Tab w) :
  Calls Tryz.prog 135 #[ptr p,.agg #[v]] w fun e w'=>e=.returned (.bool (decide (cloN C Ns S=S&&&lowN C)))∧Below w.heap.size w w':=by
 obtain ⟨A,c,rfl,_⟩:=id hs
 have hm:IsMV w (some ⟨p,0,none⟩) C Ns:=.inr ⟨p,rfl,h⟩
 go_enter Tryz.func135,Tryz.ntmps135
 go_wp2_with fail
 refine abs1 fun W0 hX hb0 hz=>?_
 have x0:=hX.cell 0
 have hd:Below W0.heap.size W0 W0.drew:=(Below.refl _ _).drew
 have bd:=hb0.trans (hd.mono hb0.size)
 refine wp_spine (fun W=>Below W0.heap.size W0 W) [0,1,2,3,4,6,7] [5,8,9,10,11] (by kernel_rfl) (by kernel_rfl) ?_
 iterate 3 (refine wpE_op (v:=?_) rfl rfl (fun W hW=>?_) ?_;rotate_left;(go_simp;first | done | with_reducible rfl);simp only [pt1,pt3,pt4,pt5])
 iterate 4 (refine wpE_yes (v:=?_) rfl (by rfl) (fun W hW=>?_) ?_;rotate_left;(have z0:=onB hW x0;go_simp;first | done | with_reducible rfl);simp only [pt1,pt3,pt4,pt5])
 refine wpE_nil ⟨fun h=>(by cases h),wpSp_op rfl hd ?_⟩
 go_wp2_with fail
 refine (close_any _ C Ns _ S _ (hm.below bd) (hs.below bd) (hT.below bd)).mono ?_
 rintro e w1 ⟨r1,rfl,hr1,hb1⟩
 obtain ⟨A1,c1,rfl,_⟩:=id hr1
 have hb01:=hd.trans (hb1.mono hd.size)
 have b1:=hb0.trans (hb01.mono hb0.size)
 go_wp2_with fail
 refine nxt_op rfl hb01 ?_
 go_wp2_with fail
 refine (own_any _ C Ns _ S w1 (hm.below b1) (hs.below b1)).mono ?_
 rintro e w2 ⟨r2,rfl,hr2,hb2⟩
 obtain ⟨A2,c2,rfl,_⟩:=id hr2
 have hb02:=hb01.trans (hb2.mono hb01.size)
 have b2:=hb0.trans (hb02.mono hb0.size)
 go_wp2_with fail
 refine nxt_op rfl hb02 ?_
 go_wp2_with fail
 refine (equal_any _ _ _ _ w2 (hr1.below hb2) hr2).mono ?_
 rintro e w3 ⟨rfl,hb3⟩
 have hb03:=hb02.trans (hb3.mono hb02.size)
 have b3:=hb0.trans (hb03.mono hb0.size)
 go_wp2_with fail
 refine nxt_op rfl hb03 ?_
 go_wp2_with fail
 refine nxt_op rfl hb03 ?_
 go_wp2_with fail
 refine nxt_nil ?_
 go_wp2_with fail
 go_ret
 exact ⟨rfl,b3⟩
end Go.Proofs.YtafpmkdlciioaaaGreatDoor
namespace Go.Proofs.YtafpmkdlciioaaaGreatDoor
open Go.RowKit
attribute [local go_sem] Oper.semAt_some
theorem absC4 {P:Program} {w:World} {f:FuncId} {args:Array Value} {R:Ending→World→Prop} {c1 c2 c3 c4:Array Value} {t1 t2 t3 t4:TypeId} (h:∀ W,Blk W w.heap.size t1 c1→Blk W (w.heap.size+1) t2 c2→Blk W (w.heap.size+2) t3 c3→Blk W (w.heap.size+3) t4 c4→Below w.heap.size w W→W.heap.size=w.heap.size+4→Calls P f args W R) :
  Calls P f args ((((w.alloc (.cells c1 t1)).alloc (.cells c2 t2)).alloc (.cells c3 t3)).alloc (.cells c4 t4)) R :=
 h _ ((((Blk.new _ _ _).alloc _).alloc _).alloc _) (((Blk.new_ (by simp) _ _).alloc _).alloc _) ((Blk.new_ (by simp) _ _).alloc _) (Blk.new_ (by simp) _ _) (((((Below.refl _ _).alloc (Nat.le_refl _) _).alloc (by simp) _).alloc (by simp;omega) _).alloc (by simp;omega) _) (by simp)
end Go.Proofs.YtafpmkdlciioaaaGreatDoor
namespace Go.Proofs.YtafpmkdlciioaaaGreatDoor
open Go.RowKit
def Gw (w w':World):Prop:=∃ q os,w'=Go.Sort.grow (w.drewN q) os
theorem Gw.trans {a b c:World} (h:Gw a b) (k:Gw b c):Gw a c:=by
 obtain ⟨q,os,rfl⟩:=h
 obtain ⟨q',os',rfl⟩:=k
 refine ⟨q+q',os ++ os',?_⟩
 unfold Go.Sort.grow World.drewN
 dsimp only
 rw [Array.append_assoc,Nat.add_assoc]
theorem Gw.alloc (w:World) (o:Obj):Gw w (w.alloc o):=⟨0,#[o],by rw [Go.Sort.alloc_eq_grow];rfl⟩
theorem Gw.drew (w:World):Gw w w.drew:=⟨1,#[],by rw [Go.Sort.grow_empty];rfl⟩
theorem Gw.below {w w':World} (h:Gw w w'):Below w.heap.size w w':=by
 obtain ⟨q,os,rfl⟩:=h
 exact ⟨rfl,rfl,rfl,by simp [Go.Sort.grow,World.drewN],fun k hk=>by simp [Go.Sort.grow,World.drewN,Array.getElem?_append_left hk]⟩
theorem gabs2 {P:Program} {c:Code} {Q:Exit→Act→World→Prop} {a:Act} {w:World} {c1 c2:Array Value} {t1 t2:TypeId} (h:∀ W,Blk W w.heap.size t1 c1→Blk W (w.heap.size+1) t2 c2→Gw w W→c.wp P Q a W):c.wp P Q a ((w.alloc (.cells c1 t1)).alloc (.cells c2 t2)) :=
 h _ ((Blk.new _ _ _).alloc _) (Blk.new_ (by simp) _ _) ((Gw.alloc _ _).trans (Gw.alloc _ _))
theorem gabsC1 {P:Program} {w:World} {f:FuncId} {args:Array Value} {R:Ending→World→Prop} {c1:Array Value} {t1:TypeId} (h:∀ W,Blk W w.heap.size t1 c1→Gw w W→Calls P f args W R):Calls P f args (w.alloc (.cells c1 t1)) R :=
 h _ (Blk.new _ _ _) (Gw.alloc _ _)
theorem word_g (v:Value) (N k:Nat) (w:World) (hs:IsSet w v N) :
  Calls Tryz.prog 113 #[.agg #[v],.int .i64 k] w fun e w'=>e=.returned (u64 (wd N k))∧Gw w w':=by
 obtain ⟨A,c,rfl,h1,_,_,h4⟩:=hs
 by_cases hk:k < nw N
 ·obtain ⟨g,cs,rfl,hb,hc⟩:=h4 (by omega)
  have hlt:=hb.lt
  have hcell:w.cell? ⟨g,k,none⟩=some (u64 (wd N k)):=(hb.cell k).trans (hc k hk)
  clear h4 hc hb
  go_enter Tryz.func113,Tryz.ntmps113
  go_wp2
  go_ret
  exact ⟨rfl,Gw.alloc _ _⟩
 ·rw [wd_ge (by omega)]
  clear h4
  go_enter Tryz.func113,Tryz.ntmps113
  go_wp2
  go_ret
  exact ⟨rfl,Gw.alloc _ _⟩
theorem has_g (v:Value) (N i:Nat) (w:World) (hs:IsSet w v N) (hi:i≤4095) :
  Calls Tryz.prog 87 #[.agg #[v],.int .i64 i] w fun e w'=>e=.returned (.bool (N.testBit i))∧Gw w w':=by
 obtain ⟨A,c,rfl,hN,_⟩:=id hs
 have h1:(0:Int)≤i:=by omega
 go_enter Tryz.func87,Tryz.ntmps87
 have hs1:=hs.keep (KeepW.alloc w (.cells #[Value.slice A (nw N) c] 58))
 go_wp2_with (go_at_call 113;refine (word_g _ N (i/64) _ hs1).mono ?_;rintro e w1 ⟨rfl,hb1⟩)
 go_ret
 exact ⟨ret_bool (has_form N i),(Gw.alloc _ _).trans hb1⟩
theorem empty_g (v:Value) (N:Nat) (w:World) (hs:IsSet w v N) :
  Calls Tryz.prog 56 #[.agg #[v]] w fun e w'=>e=.returned (.bool (decide (N=0)))∧Gw w w':=by
 obtain ⟨A,c,rfl,hN,_,_,h4⟩:=hs
 go_enter Tryz.func56,Tryz.ntmps56
 go_wp2
 go_ret
 refine ⟨ret_bool ?_,Gw.alloc _ _⟩
 rw [Bool.eq_iff_iff,beq_iff_eq,decide_eq_true_eq,← nw_eq_zero];omega
theorem greatest_no_g (v:Value) (w:World) (hs:IsSet w v 0) :
  Calls Tryz.prog 152 #[.agg #[v]] w fun e w'=>e=.returned (.tuple #[.int .i64 0,.bool false])∧Gw w w':=by
 obtain ⟨A,c,rfl,hN,_⟩:=id hs
 go_enter Tryz.func152,Tryz.ntmps152
 go_wp2_with fail
 refine gabsC1 fun W0 hA0 hg0=>?_
 have hbel0:=hg0.below
 refine (empty_g _ _ _ (hs.below hbel0)).mono ?_
 rintro e w1 ⟨rfl,hg1⟩
 have hb1:=hg1.below
 go_wp2_with fail
 go_ret2
 exact ⟨rfl,hg0.trans hg1⟩
theorem greatest_yes_g (v:Value) (N:Nat) (w:World) (hs:IsSet w v N) (h0:N≠0) :
  Calls Tryz.prog 152 #[.agg #[v]] w fun e w'=>e=.returned (.tuple #[.int .i64 N.log2,.bool true])∧Gw w w':=by
 obtain ⟨A,c,rfl,hN,hNc,_,h4⟩:=id hs
 have hn0:0 < nw N:=Nat.pos_of_ne_zero fun h=>h0 (nw_eq_zero.1 h)
 obtain ⟨g,cs,rfl,hg,hcs⟩:=h4 hn0
 obtain ⟨m,hm⟩:∃ m,nw N=m+1:=⟨nw N-1,by omega⟩
 have htop:=top_log N h0
 rw [hm,Nat.add_sub_cancel] at htop
 have hcell:=hcs m (by omega)
 have hbl:Lib.bitLen (wd N m)≤64:=Lib.bitLen_le (wd N m) 64 (by omega) (wd_lt _ _)
 have hbp:0 < Lib.bitLen (wd N m):=by
  show 0 < Lib.bitLenAux 64 _
  have hne:wd N m≠0:=by have:=wd_top hn0;rwa [hm,Nat.add_sub_cancel] at this
  rw [bitLenAux_eq 64 _ (wd_lt _ _),if_neg hne];omega
 have HLEN:=hideC (fun W=>Tryz.bits_Len64 (wd N m) W (by omega) (by have:=wd_lt N m;omega))
 obtain ⟨bl,hble⟩:∃ bl,bl=Lib.bitLen (wd N m):=⟨_,rfl⟩
 rw [← hble] at htop hbl hbp
 clear h4 hcs
 have HTOP:=Lib.hid htop;clear htop
 rw [hm]
 go_enter Tryz.func152,Tryz.ntmps152
 go_wp2_with fail
 refine gabsC1 fun W0 hA0 hg0=>?_
 have hbel0:=hg0.below
 have hset:=hs.below hbel0
 rw [hm] at hset
 refine (empty_g _ N _ hset).mono ?_
 rw [decide_eq_false h0]
 rintro e w1 ⟨rfl,hg1⟩
 have hb1:=hg1.below
 have cA:=onB hb1 (hA0.cell 0)
 have hbw:=hbel0.trans (hb1.mono hbel0.size)
 have cg:=((hg.below hbw hg.lt).cell m).trans hcell
 have hm64:m < 64:=by omega
 clear hm hn0 hNc hN
 go_wp2_with fail
 refine (HLEN.out _).mono ?_
 rintro e w2 ⟨rfl,rfl⟩
 rw [Int.toNat_natCast]
 rw [hble] at hbl hbp
 have e9:(64:Int)*(m:Int)+((Lib.bitLen (wd N m):Nat):Int)-1=(N.log2:Int):=by have:=HTOP.out;omega
 go_wp2_with fail
 go_ret2
 exact ⟨by first | rfl | rw [e9],hg0.trans hg1⟩
def beyB (N i:Nat):Bool:=decide (N/2 ^ (i+1)≠0)
theorem beyB_log {N i:Nat} (h:N≠0):beyB N i=decide (i < N.log2):=by
 unfold beyB
 rw [decide_eq_decide]
 have e:i < N.log2↔2 ^ (i+1)≤N:=by rw [← Nat.le_log2 h];omega
 rw [e,ne_eq,Nat.div_eq_zero_iff]
 have:=Nat.two_pow_pos (i+1)
 omega
theorem beyond_g (v:Value) (N i:Nat) (w:World) (hs:IsSet w v N) :
  Calls Tryz.prog 114 #[.agg #[v],.int .i64 i] w fun e w'=>e=.returned (.bool (beyB N i))∧Gw w w':=by
 obtain ⟨A,c,rfl,hN,_⟩:=id hs
 by_cases h0:N=0
 ·subst h0
  have e:beyB 0 i=false:=by unfold beyB;simp
  rw [e]
  go_enter Tryz.func114,Tryz.ntmps114
  go_wp2_with fail
  refine gabsC1 fun W0 hA0 hg0=>?_
  refine (greatest_no_g _ _ (hs.below hg0.below)).mono ?_
  rintro e w1 ⟨rfl,hg1⟩
  go_wp2_with fail
  go_ret
  exact ⟨rfl,hg0.trans hg1⟩
 ·rw [beyB_log h0]
  obtain ⟨L,hL⟩:∃ L,L=N.log2:=⟨_,rfl⟩
  have HG:=hideC (fun W h=>greatest_yes_g (.slice A (nw N) c) N W h h0)
  rw [← hL] at HG ⊢
  clear hL
  go_enter Tryz.func114,Tryz.ntmps114
  go_wp2_with fail
  refine gabsC1 fun W0 hA0 hg0=>?_
  refine (HG.out _ (hs.below hg0.below)).mono ?_
  rintro e w1 ⟨rfl,hg1⟩
  go_wp2_with fail
  go_ret
  exact ⟨by first | rfl | (apply ret_bool;rw [Bool.eq_iff_iff];simp),hg0.trans hg1⟩
theorem u64_xor_nat (a b:Nat) (ha:a < 18446744073709551616) (hb:b < 18446744073709551616):bits .xor .u64 (a:Int) (b:Int)=((a ^^^ b:Nat):Int):=by
 have hx:a ^^^ b < 2 ^ 64:=Nat.xor_lt_two_pow (by omega) (by omega)
 show IntKind.u64.wrap ((BitVec.ofInt 64 (a:Int) ^^^ BitVec.ofInt 64 (b:Int)).toNat:Int)=_
 rw [BitVec.toNat_xor,ofInt_u64 a ha,ofInt_u64 b hb,IntKind.wrap_u64]
 omega
end Go.Proofs.YtafpmkdlciioaaaGreatDoor
