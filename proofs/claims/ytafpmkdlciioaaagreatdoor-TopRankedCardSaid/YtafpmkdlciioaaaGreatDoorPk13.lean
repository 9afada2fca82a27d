import Derived.Test.YtafpmkdlciioaaaGreatDoorPk04
import Derived.Test.YtafpmkdlciioaaaGreatDoorPk02
import Derived.Test.YtafpmkdlciioaaaGreatDoorPk12
set_option maxHeartbeats 16000000
set_option maxRecDepth 100000
namespace Go.Proofs.YtafpmkdlciioaaaGreatDoor
open Go.RowKit
namespace MixI
section
variable {F:Fence} {N:Nat} {P:Program} {l:List Oper} {Q:Exit→Act→World→Prop}
def wpM (F:Fence) (N:Nat) (P:Program) (l:List Oper) (Q:Exit→Act→World→Prop):Nat→Array Bool→(World→Prop)→Act→World→Prop
 | 0,ls,_,a,W=>Region.ready .any l.toArray ls=[]∧Q .normal a W
 | n+1,ls,S,a,W =>
  (∃ i v,i∈Region.ready .any l.toArray ls∧Mix2.lateB l i=false∧EY P S l i a v∧wpM F N P l Q n (ls.setIfInBounds i true) S (a.put (dstOf l i) v) W) ∨
  ((Region.ready .any l.toArray ls=[]→Q .normal a W)∧∀ s∈Region.ready .any l.toArray ls,match l[s]? with
   | none=>False
   | some o=>wpListIn F N P l.toArray (nxt fun a' W'=>∃ S':World→Prop,S' W'∧((∀ V,S' V→S V)∨Mix2.clears l ls s=true)∧wpM F N P l Q n (ls.setIfInBounds s true) S' a' W') [o] a W)
def afterM (F:Fence) (N:Nat) (P:Program) (l:List Oper) (Q:Exit→Act→World→Prop) (n:Nat) (ls:Array Bool) (S:World→Prop) (s:Nat) (a':Act) (W':World):Prop :=
 ∃ S':World→Prop,S' W'∧((∀ V,S' V→S V)∨Mix2.clears l ls s=true)∧wpM F N P l Q n (ls.setIfInBounds s true) S' a' W'
theorem Simbehind (hF:∀ f,F.fn f) (hD:noDefer l=true) (hC:Mix2.ChkM l) {c:Nat→Value} {ls listed:Array Bool} {S:World→Prop} {a b:Act} {W:World} (I:Mix2.Sim P l c ls S a listed b W) {i:Nat} (hr:i∈Region.ready .any l.toArray listed) (hi:on ls i) :
  Mix2.Sim P l c ls S a (listed.setIfInBounds i true) (b.put (dstOf l i) (c i)) W∧∀ K:Act→World→Prop,K (b.put (dstOf l i) (c i)) W→wpOpIn F N P l.toArray Q i K b W:=by
 obtain ⟨hlt,hun,o,ho,hall⟩:=(ready_spec I.size).1 hr
 have hisz:i < listed.size:=by rw [I.size];exact hlt
 constructor
 ·refine ⟨by simpa using I.size,I.lsize,fun j hj=>?_,Inv.closed_set I.closed I.size hr,I.lclosed,fun k hk hkn=>I.pend k hk fun h=>hkn (on_set h),by rw [put_size];exact I.asize,?_,fun k t hk hkn hd=>?_,fun t ht=>?_,I.s,fun k hk hl=>on_set (I.late k hk hl)⟩
  ·rcases on_of_set hj with rfl | hj
   ·exact hi
   ·exact I.sub j hj
  ·cases dstOf l i <;> exact I.defers
  ·have hne:k≠i:=fun e=>hkn (by rw [e];exact on_self hisz)
   rw [I.at_ k t hk (fun h=>hkn (on_set h)) hd]
   exact put_get _ (put_size ..).symm
  ·by_cases hd:dstOf l i=some t
   ·rw [I.at_ i t hi hun hd,hd]
   ·rw [put_get_ne hd]
    refine I.else_ t fun k hk hkn hdk=>?_
    by_cases hki:k=i
    ·exact hd (hki▸hdk)
    ·exact ht k hk (fun h=>hkn ((on_of_set h).resolve_left hki)) hdk
 ·intro K hK
  have hy:=I.pend i hi hun b (I.look hC hr)
  unfold EY at hy
  unfold wpOpIn
  have ho':l.toArray[i]?=some o:=by simpa using ho
  have hd:dstOf l i=o.dst:=by simp [dstOf,ho]
  simp only [ho] at hy
  simp only [ho']
  rw [hd] at hK
  split
  ·rename_i hw
   rw [if_pos hw] at hy
   refine ⟨fun f _=>hF f,?_⟩
   rw [Oper.semAt_eq _ _ _ (noDefer_at hD ho),hy W I.s]
   exact hK
  ·rename_i hw
   rw [if_neg hw] at hy
   rw [← hy];exact ⟨fun f _=>hF f,hK⟩
theorem Simboth (hF:∀ f,F.fn f) (hD:noDefer l=true) (hC:Mix2.ChkM l) {c:Nat→Value} {ls listed:Array Bool} {S:World→Prop} {a b:Act} {W:World} {n:Nat} (I:Mix2.Sim P l c ls S a listed b W) {s:Nat} (hr:s∈Region.ready .any l.toArray listed) (hs:¬ on ls s) {o:Oper} (ho:l[s]?=some o)
  (hgo:wpListIn F N P l.toArray (nxt (afterM F N P l Q n ls S s)) [o] a W) (K:Act→World→Prop)
  (hK:∀ b' W' S' a',Mix2.Sim P l c (ls.setIfInBounds s true) S' a' (listed.setIfInBounds s true) b' W'→wpM F N P l Q n (ls.setIfInBounds s true) S' a' W'→K b' W'):wpOpIn F N P l.toArray Q s K b W:=by
 obtain ⟨hlt,hun,o2,ho2,hall⟩:=(ready_spec I.size).1 hr
 rw [ho] at ho2;cases ho2
 have hlsz:s < ls.size:=by rw [I.lsize];exact hlt
 have hsz:s < listed.size:=by rw [I.size];exact hlt
 have hag:=I.look hC hr
 rw [Mix2.looks_op ho] at hag
 have hd:dstOf l s=o.dst:=by simp [dstOf,ho]
 have nodst:∀ i,on ls i→∀ t,o.dst=some t→dstOf l i≠some t:=fun i hi t ht=>by
  have hne:s≠i:=fun e=>hs (e▸hi)
  exact hC.dist s hlt i (Mix2.on_lt I.lsize hi) hne t (hd▸ht)
 have nolook:∀ i,on ls i→¬ on listed i→∀ t,o.dst=some t→t ∉ looks l i:=fun i hi hin t ht hl=>by
  rcases hC.reads s hlt i (Mix2.on_lt I.lsize hi) t (hd▸ht) hl with hw | hw
  ·exact hs (I.lclosed i s hi hw)
  ·obtain ⟨o',ho',e,he,hb,rfl⟩:=waitsI_spec hw
   rw [ho] at ho';cases ho'
   exact hin (hall e he hb)
 have next:∀ v D W',afterM F N P l Q n ls S s (({ a with defers:=D }:Act).put o.dst v) W'→K (({ b with defers:=D }:Act).put o.dst v) W':=by
  rintro v D W' ⟨S',hS',hsub,hm⟩
  refine hK _ _ S' _ ⟨by simpa using I.size,by simpa using I.lsize,fun j hj=>?_,Inv.closed_set I.closed I.size hr,fun j i hj hw=>?_,fun i hi hin b' hb'=>?_,?_,?_,fun i t hi hin hdi=>?_,fun t ht=>?_,hS',fun i hi hl=>?_⟩ hm
  ·rcases on_of_set hj with rfl | hj
   ·exact on_self hlsz
   ·exact on_set (I.sub j hj)
  ·rcases on_of_set hj with rfl | hj
   ·obtain ⟨o',ho',e,he,hb,rfl⟩:=waitsI_spec hw
    rw [ho] at ho';cases ho'
    exact on_set (I.sub _ (hall e he hb))
   ·exact on_set (I.lclosed j i hj hw)
  ·have hne:i≠s:=fun e=>hin (by rw [e];exact on_self hsz)
   have hi':=(on_of_set hi).resolve_left hne
   have hin':¬ on listed i:=fun h=>hin (on_set h)
   rcases hsub with hsub | hcl
   ·have hy:=I.pend i hi' hin' b' fun t ht=>by
     rw [hb' t ht]
     exact put_get_ne fun e=>nolook i hi' hin' t e ht
    unfold EY at hy ⊢
    cases hoi:l[i]? with
    | none=>rw [hoi] at hy;exact hy
    | some oi =>
     rw [hoi] at hy
     dsimp only at hy ⊢
     split at hy
     ·rename_i hw;rw [if_pos hw];exact fun V hV=>hy V (hsub V hV)
     ·rename_i hw;rw [if_neg hw];exact hy
   ·exfalso
    unfold Mix2.clears at hcl
    have hil:=Mix2.on_lt I.lsize hi'
    have:=List.all_eq_true.1 hcl i (List.mem_range.2 hil)
    simp only [Bool.or_eq_true,List.any_eq_true,Bool.and_eq_true] at this
    have hon:ls.getD i false=true:=by
     unfold on at hi';simp [hi']
    have up:∀ j,waitsI l s j=true→on listed j:=fun j hw=>by
     obtain ⟨o',ho',e,he,hb,rfl⟩:=waitsI_spec hw
     rw [ho] at ho';cases ho'
     exact hall e he hb
    rcases this with (h | h) | ⟨j,_,h1,h2⟩
    ·simp [hon] at h
    ·exact hin' (up i h)
    ·exact hin' (I.closed j i (up j h1) h2)
  ·simp only [put_size];exact I.asize
  ·cases o.dst <;> rfl
  ·have hne:i≠s:=fun e=>hin (by rw [e];exact on_self hsz)
   have hi':=(on_of_set hi).resolve_left hne
   rw [put_get_ne fun e=>nodst i hi' t e hdi]
   refine (I.at_ i t hi' (fun h=>hin (on_set h)) hdi).trans (put_get _ ?_)
   simp only [put_size]
  ·by_cases hds:o.dst=some t
   ·rw [hds]
    refine put_get _ ?_
    exact I.asize.symm
   ·rw [put_get_ne hds,put_get_ne hds]
    refine I.else_ t fun i hi hin hdi=>?_
    have hne:i≠s:=fun e=>hs (e▸hi)
    exact ht i (on_set hi) (fun h=>hin ((on_of_set h).resolve_left hne)) hdi
  ·rcases on_of_set hi with rfl | hi
   ·exact on_self hsz
   ·exact on_set (I.late i hi hl)
 unfold wpOpIn
 have ho':l.toArray[s]?=some o:=by simpa using ho
 simp only [ho']
 unfold wpListIn at hgo
 rw [← wanted_agree hag] at hgo
 split
 ·rename_i hw
  rw [if_pos hw] at hgo
  refine ⟨fun f _=>hF f,?_⟩
  have hgo:=hgo.2
  rw [Oper.semAt_eq _ _ _ (noDefer_at hD ho)] at hgo ⊢
  rw [execOp_congr o (hC.ok s o ho).1 (eval_agree hag)]
  refine upon_toI (A:=a) (K:=afterM F N P l Q n ls S s) (fun v W' h=>?_) (fun d W' h=>?_) _ hgo
  ·have:=next v a.defers W' h
   have e2:({ b with defers:=a.defers }:Act)=b:=by rw [← I.defers]
   rwa [e2] at this
  ·have:=next undef (d :: a.defers) W' h
   rw [I.defers];exact this
 ·rename_i hw
  rw [if_neg hw] at hgo
  have:=next undef a.defers W hgo.2
  have e2:({ b with defers:=a.defers }:Act)=b:=by rw [← I.defers]
  rw [e2] at this
  exact ⟨fun f _=>hF f,this⟩
theorem wpM_done {n:Nat} {ls:Array Bool} {S:World→Prop} {a:Act} {W:World} (hr:Region.ready .any l.toArray ls=[]) (h:wpM F N P l Q n ls S a W):Q .normal a W:=by
 cases n with
 | zero=>exact h.2
 | succ n =>
  rcases h with ⟨i,v,hi,_,_⟩ | h
  ·rw [hr] at hi;cases hi
  ·exact h.1 hr
theorem Simdone (_hF:∀ f,F.fn f) (_hD:noDefer l=true) (hC:Mix2.ChkM l) {c:Nat→Value} {ls listed:Array Bool} {S:World→Prop} {a b:Act} {W:World} {n:Nat} (I:Mix2.Sim P l c ls S a listed b W) (hr:Region.ready .any l.toArray listed=[]) (h:wpM F N P l Q n ls S a W):Q .normal b W:=by
 have hall:=Mix2.Sim.all hC I.size hr
 have hab:a=b:=by
  have h1:a.tmps=b.tmps:=Array.ext_getElem? fun t=>I.else_ t fun i hi hin=>absurd (hall i (Mix2.on_lt I.lsize hi)) hin
  have h2:=I.defers
  cases a;cases b
  simp only at h1 h2
  rw [h1,h2]
 have hls:Region.ready .any l.toArray ls=[]:=by
  apply List.eq_nil_iff_forall_not_mem.2
  intro i hi
  obtain ⟨hlt,hun,_⟩:=(ready_spec I.lsize).1 hi
  exact hun (I.sub i (hall i hlt))
 rw [← hab]
 exact wpM_done hls h
theorem Simstep (hF:∀ f,F.fn f) (hD:noDefer l=true) (hC:Mix2.ChkM l):∀ (n:Nat) (c:Nat→Value) (ls:Array Bool) (S:World→Prop) (a:Act) (listed:Array Bool) (b:Act) (W:World) (i:Nat) (K:Act→World→Prop),Mix2.Sim P l c ls S a listed b W→wpM F N P l Q n ls S a W→i∈Region.ready .any l.toArray listed →
  (∀ (m:Nat) (c':Nat→Value) (ls':Array Bool) (S':World→Prop) (a':Act) (b':Act) (W':World),Mix2.Sim P l c' ls' S' a' (listed.setIfInBounds i true) b' W'→wpM F N P l Q m ls' S' a' W'→K b' W')→wpOpIn F N P l.toArray Q i K b W
 | n,c,ls,S,a,listed,b,W,i,K,I,h,hr,hK=>by
  by_cases hi:on ls i
  ·obtain ⟨I',hop⟩:=Simbehind (F:=F) (N:=N) (Q:=Q) hF hD hC I hr hi
   exact hop K (hK n c ls S a _ _ I' h)
  ·obtain ⟨hlt,hun,o,ho,hall⟩:=(ready_spec I.size).1 hr
   have hrl:i∈Region.ready .any l.toArray ls:=(ready_spec I.lsize).2 ⟨hlt,hi,o,ho,fun e he hb=>I.sub _ (hall e he hb)⟩
   match n,h with
   | 0,h=>rw [h.1] at hrl;cases hrl
   | n+1,.inl ⟨k,v,hk,hl,hy,h⟩=>exact Simstep hF hD hC n _ _ S _ listed b W i K (I.ahead hC hk hl hy) h hr hK
   | n+1,.inr h =>
    have hgo:=h.2 i hrl
    rw [ho] at hgo
    exact Simboth hF hD hC I hr hi ho hgo K fun b' W' S' a' I' h'=>hK n c _ S' a' b' W' I' h'
theorem Simany (hF:∀ f,F.fn f) (hD:noDefer l=true) (hC:Mix2.ChkM l):∀ (fuel:Nat) (n:Nat) (c:Nat→Value) (ls:Array Bool) (S:World→Prop) (a:Act) (listed:Array Bool) (b:Act) (W:World),listed.toList.count false=fuel→Mix2.Sim P l c ls S a listed b W→wpM F N P l Q n ls S a W→wpAnyIn F N P .any l.toArray Q fuel listed b W
 | 0,n,c,ls,S,a,listed,b,W,hf,I,h=>by
  have hr:Region.ready .any l.toArray listed=[]:=by
   apply List.eq_nil_iff_forall_not_mem.2
   intro i hi
   obtain ⟨hlt,hun,_⟩:=(ready_spec I.size).1 hi
   have h1:i < listed.toList.length:=by rw [Array.length_toList,I.size];exact hlt
   have h2:listed.toList[i]=false:=by
    unfold on at hun
    have h3:i < listed.size:=by rw [I.size];exact hlt
    simp [h3] at hun
    simpa using hun
   have:=List.count_pos_iff.2 (h2▸List.getElem_mem h1)
   omega
  exact ⟨hr,Simdone hF hD hC I hr h⟩
 | fuel+1,n,c,ls,S,a,listed,b,W,hf,I,h=>by
  refine ⟨fun hr=>Simdone hF hD hC I hr h,fun i hi=>?_⟩
  obtain ⟨hlt,hun,_⟩:=(ready_spec I.size).1 hi
  have hcount:=Mix2.count_set (by rw [I.size];exact hlt) hun hf
  exact Simstep hF hD hC n c ls S a listed b W i _ I h hi fun m c' ls' S' a' b' W' I' h'=>Simany hF hD hC fuel m c' ls' S' a' _ b' W' hcount I' h'
theorem wpIn_mix {id:Nat} {a:Act} {w:World} (S:World→Prop) (n:Nat) (hF:∀ f,F.fn f) (hD:noDefer l=true) (hm:P.follows .mixedOrders=true) (hC:Mix2.chkM l=true) (hS:S w.drew) (h:wpM F N P l Q n (Array.replicate l.length false) S a w.drew):(Code.region id l.toArray true).wpIn F N P Q a w:=by
 have hC:=Mix2.chkM_spec hC
 have hoff:∀ i,¬ on (Array.replicate l.length false) i:=fun i h=>by
  unfold on at h
  obtain ⟨h1,h2⟩:=Array.getElem?_eq_some_iff.1 h
  simp at h2
 refine wpIn_region_any hm (Simany hF hD hC _ n (fun _=>undef) _ S a _ _ _ (by simp) ⟨by simp,by simp,fun i h=>absurd h (by simpa using hoff i),fun j _ h=>absurd h (by simpa using hoff j),fun j _ h=>absurd h (hoff j),fun i h=>absurd h (hoff i),rfl,rfl,fun i t h=>absurd h (hoff i),fun _ _=>rfl,hS,fun i h=>absurd h (hoff i)⟩ h)
end
section
variable {F:Fence} {N:Nat} {P:Program} {l:List Oper} {Q:Exit→Act→World→Prop} {n:Nat} {ls:Array Bool} {S:World→Prop} {a:Act} {W:World}
theorem m_q (i:Nat) {o:Oper} {v:Value} (hr:((Region.ready .any l.toArray ls).contains i&&!Mix2.lateB l i)=true) (ho:l[i]?=some o) (hg:o.guard=none) (h:∀ V,S V→(execOp a.eval o).run P V=.ok (.value v) V) (hk:wpM F N P l Q n (ls.setIfInBounds i true) S (a.put o.dst v) W):wpM F N P l Q (n+1) ls S a W:=by
 refine .inl ⟨i,v,by have:=(Bool.and_eq_true _ _▸hr).1;simpa using this,by have:=(Bool.and_eq_true _ _▸hr).2;simpa using this,?_,?_⟩
 ·unfold EY;rw [ho];dsimp only;rw [if_pos (by simp [Region.wanted,hg])];exact h
 ·simpa [dstOf,ho] using hk
theorem m_s1 (s:Nat) {o:Oper} (hr:Region.ready .any l.toArray ls=[s]) (ho:l[s]?=some o) (h:wpListIn F N P l.toArray (nxt (afterM F N P l Q n ls S s)) [o] a W):wpM F N P l Q (n+1) ls S a W:=by
 refine .inr ⟨fun e=>by rw [hr] at e;(cases e),fun i hi=>?_⟩
 rw [hr,List.mem_singleton] at hi
 subst hi
 rw [ho];exact h
theorem m_s2 (s t:Nat) {o p:Oper} (hr:Region.ready .any l.toArray ls=[s,t]) (ho:l[s]?=some o) (hp:l[t]?=some p) (h:wpListIn F N P l.toArray (nxt (afterM F N P l Q n ls S s)) [o] a W) (h2:wpListIn F N P l.toArray (nxt (afterM F N P l Q n ls S t)) [p] a W):wpM F N P l Q (n+1) ls S a W:=by
 refine .inr ⟨fun e=>by rw [hr] at e;(cases e),fun i hi=>?_⟩
 rw [hr] at hi
 simp only [List.mem_cons,List.mem_nil_iff,or_false] at hi
 rcases hi with rfl | rfl
 ·rw [ho];exact h
 ·rw [hp];exact h2
theorem m_end (hr:Region.ready .any l.toArray ls=[]) (h:Q .normal a W):wpM F N P l Q n ls S a W:=by
 cases n with
 | zero=>exact ⟨hr,h⟩
 | succ n=>exact .inr ⟨fun _=>h,fun i hi=>by rw [hr] at hi;cases hi⟩
theorem m_keep {F:Fence} {N:Nat} {P:Program} {l:List Oper} {Q:Exit→Act→World→Prop} {n:Nat} {ls:Array Bool} {S:World→Prop} {a:Act} {W:World} {s:Nat} (hS:S W) (h:wpM F N P l Q n (ls.setIfInBounds s true) S a W):nxt (afterM F N P l Q n ls S s) .normal a W :=
 ⟨S,hS,.inl fun _ h=>h,h⟩
end
end MixI
end Go.Proofs.YtafpmkdlciioaaaGreatDoor
namespace Go.Proofs.YtafpmkdlciioaaaGreatDoor
open Go.RowKit
attribute [local go_sem] Oper.semAt_some
theorem run_store_funcE {P:Program} {w:World} {a:Addr} {m:Mode} (fn:Fn) (first cap:Array Value):(store a (.func fn first cap) m).run P w=stored P w a (.func fn first cap) m:=run_store P w a _ m rfl
attribute [local go_sem] run_store_funcE
def foolS (C:Nat) (Ns:List Nat) (l:List (Nat×Nat)) (c:Nat×Nat):List (Nat×Nat):=if foolP C Ns (cz (l ++ [c]))=true then l ++ [c] else l
def foolL (C:Nat) (Ns:List Nat) (o:List (Nat×Nat)):List (Nat×Nat):=o.foldl (foolS C Ns) []
theorem foolS_len (C:Nat) (Ns:List Nat) (l:List (Nat×Nat)) (c:Nat×Nat):(foolS C Ns l c).length≤l.length+1:=by
 unfold foolS;split
 ·rw [List.length_append];exact Nat.le_refl _
 ·omega
theorem foolF_len (C:Nat) (Ns:List Nat):∀ (o l:List (Nat×Nat)),(o.foldl (foolS C Ns) l).length≤l.length+o.length
 | [],l=>Nat.le_refl _
 | c :: o,l=>by
  rw [List.foldl_cons]
  have h1:=foolF_len C Ns o (foolS C Ns l c)
  have h2:=foolS_len C Ns l c
  rw [List.length_cons];omega
theorem foolL_snoc (C:Nat) (Ns:List Nat) (o:List (Nat×Nat)) (c:Nat×Nat):foolL C Ns (o ++ [c])=foolS C Ns (foolL C Ns o) c:=by
 unfold foolL;rw [List.foldl_append];rfl
theorem foolL_len (C:Nat) (Ns:List Nat) (o:List (Nat×Nat)):(foolL C Ns o).length≤o.length:=by
 have:=foolF_len C Ns o []
 unfold foolL;simpa using this
namespace MixI
theorem fooling_any (gs base base':Nat) (vL:Value) (q C:Nat) (Ns L Os:List Nat) (nd:Int) (v:Value) (w:World) (hM:IsMat w q C Ns) (hS:IsSr w gs base vL q C Ns L nd) (hO:OwnO w base' v Os) (hl:Os.length≤60) (hcl:(cellsOf Os).length≤1000) (hT:Tab w) :
  Calls Tryz.prog 79 #[ptr gs,v] w fun e w'=>∃ v',e=.returned v'∧OwnP w' w.heap.size v' (cz (foolL C Ns (cellsOf Os)))∧Below w.heap.size w w':=by
 obtain ⟨i0,hi0,hz0,hz1,hz2⟩:=info_parts info_pair
 obtain ⟨A,c,rfl⟩:=hO.val
 have HFO:=Lib.hid (fun W v l (hb:Below w.heap.size w W) hp=>fool_any q C Ns v l W (hM.below hb) hp)
 have HSB:=Lib.hid (fun W (hb:Below w.heap.size w W)=>(hS.below hb).1)
 have HO:=Lib.hid hO
 have hmono:=fun d k=>onesC_le Os d k
 have HMO:=Lib.hid hmono
 have HSN:=Lib.hid (fun o c=>foolL_snoc C Ns o c)
 have HLN:=Lib.hid (fun o=>foolL_len C Ns o)
 clear hmono hO
 refine (callsIn_wide (n:=9)).1 (callsIn_of_wp_marks Tryz.func79 rfl trivial (wpIn_wide.2 ?_) rfl)
 simp only [Tryz.ntmps79,List.size_toArray,List.length_cons,List.length_nil,Nat.reduceAdd,Nat.reduceSub,Array.replicate_succ,Array.replicate_zero,List.push_toArray,List.append_toArray,List.nil_append,List.cons_append]
 go_upto_region 2 with fail
 refine abs2 fun W1 h2 h5 hb1 hz1=>?_
 clear hz1
 obtain ⟨g2,hg2⟩:∃ x,x=w.heap.size:=⟨_,rfl⟩
 have hgw:w.heap.size≤g2:=by omega
 rw [← hg2] at h2 h5 ⊢
 clear hg2
 go_wp2_with fail
 refine wp_loopF (β:=Nat×Value) (fun x f=>#[ptr gs,.slice A Os.length c,ptr g2,f 3,.slice none 0 0,ptr (g2+1),f 6,f 7,f 8,f 9,.slice A Os.length c,.int .i64 (Os.length:Int),.int .i64 (x.1:Int),f 13,f 14,f 15,f 16,f 17,f 18,f 19,f 20,f 21,f 22,f 23,f 24,f 25,f 26,f 27,f 28,f 29,f 30,f 31,f 32,f 33,f 34,f 35])
  (fun x ds W=>x.1≤Os.length∧Marks w.heap.size W ds∧Below w.heap.size w W∧Blk W g2 83 #[ptr gs]∧Blk W (g2+1) 50 #[x.2]∧OwnP W (g2+2) x.2 (cz (foolL C Ns (onesC Os x.1)))) (fun x=>Os.length-x.1) (0,.slice none 0 0) rfl
  ⟨Nat.zero_le _,trivial,hb1,h2,h5,OwnP.nil _ _⟩ ?_
 rintro ⟨k,v5⟩ f ds W ⟨hk,hM0,hb,k2,k5,hown⟩
 dsimp only at hk k5 hown ⊢
 by_cases hlt:k < Os.length
 ·obtain ⟨gO,A1,c1,rfl,-,-,-,d0,s1⟩:=(HO.out.below hb).at hlt
  have hsu:=onesC_succ Os k
  have hmo:=HMO.out (Os.length-k) k
  rw [show k+(Os.length-k)=Os.length by omega] at hmo
  obtain ⟨N,hN⟩:∃ N,N=Os.getD k 0:=⟨_,rfl⟩
  rw [← hN] at d0 s1 hsu
  have hmem:(onesC Os k).length≤1000:=Nat.le_trans hmo hcl
  have HSU:=Lib.hid hsu
  clear hN hsu hmo
  go_upto_region 5 with fail
  refine abs2 fun W3 h6 h7 hb3 hz3=>?_
  clear hz3
  have k3:=hb.trans (hb3.mono hb.size)
  have k23:=k2.below hb3 k2.lt
  have k53:=k5.below hb3 k5.lt
  have hown3:=hown.below hb3
  have s13:=s1.below hb3
  have hM3:=hM0.kd (KeepD.of_below hb3)
  obtain ⟨g6,hg6⟩:∃ x,x=W.heap.size:=⟨_,rfl⟩
  have hg6x:g2+2≤g6:=by rw [hg6];exact k5.lt
  rw [← hg6] at h6 h7 ⊢
  have c7:=h7.cell 0
  clear hg6 hb3 d0 s1 hM0 k2 k5 hown hb
  go_wp2_with fail
  refine (all_any A1 (nw N) c1 W3).mono ?_
  rintro e w5 ⟨rfl,hw5⟩
  have hY:=hw5▸Blk.new W3 58 #[.slice A1 (nw N) c1]
  have hb5:Below W3.heap.size W3 w5:=by rw [hw5];exact (Below.refl _ _).alloc (Nat.le_refl _) _
  clear hw5
  have b5:=k3.trans (hb5.mono k3.size)
  have k25:=k23.below hb5 k23.lt
  have k55:=k53.below hb5 k53.lt
  have h65:=h6.below hb5 h6.lt
  have hown5:=hown3.below hb5
  have s15:=s13.below hb5
  have hM5:=hM3.kd (KeepD.of_below hb5)
  have hT5:=hT.below b5
  obtain ⟨gy,hgy⟩:∃ g,g=W3.heap.size:=⟨_,rfl⟩
  rw [← hgy] at hY ⊢
  clear hgy hb5 k3 k23 k53 h6 h7 s13 hM3 c7 hown3
  go_wp2_with fail
  refine wp_rangeAll (v:=.slice A1 (nw N) c1) (N:=N) (Bx:=gy) rfl (hY.cell 0) s15 hT5 rfl
   (fun pre W=>(∃ u,Blk W (g2+1) 50 #[u]∧OwnP W (g2+2) u (cz (foolL C Ns (onesC Os k ++ pre.map fun j=>(k,j)))))∧Blk W g2 83 #[ptr gs]∧Blk W g6 3 #[.int .i64 (k:Int)]∧Below w.heap.size w W∧KeepD w5 W) (fun _ _ _=>False)
   ?hI (fun _ _ _ _ _ hs _ _=>hs) ?h0 ?a1 ?assign ?body ?done (fun _ _ _ _ _ h _=>h.elim)
  case assign =>
   intro l x W K hKa
   gi_wp2
   exact hKa
  case hI =>
   rintro s W W' row ⟨⟨u,h1,h1'⟩,h2,h3,h4,h5⟩ hg hrw
   have hkc:=KeepC.of_grown hg hrw
   exact ⟨⟨u,h1.kc hkc,own_kc h1' hkc⟩,h2.kc hkc,h3.kc hkc,h4.grown hg h4.size fun k' e=>Nat.le_trans b5.size (hrw k' e).1,h5.grown hg hrw⟩
  case h0=>exact ⟨⟨v5,k55,by simpa using hown5⟩,k25,h65,b5,KeepD.refl _⟩
  case body =>
   rintro ll pre x W hx ⟨⟨u,h1,h1'⟩,h2,h3,h4,h5⟩ hlen hkp
   have hW2:g2+2≤W.heap.size:=h1.lt
   have hst:foolL C Ns (onesC Os k ++ (pre ++ [x]).map fun j=>(k,j))=foolS C Ns (foolL C Ns (onesC Os k ++ pre.map fun j=>(k,j))) (k,x):=by
    rw [List.map_append,← List.append_assoc];exact HSN.out _ _
   have hll:(foolL C Ns (onesC Os k ++ pre.map fun j=>(k,j))).length≤5096:=Nat.le_trans (HLN.out _) (by rw [List.length_append,List.length_map];omega)
   obtain ⟨Lq,hLq⟩:∃ l,l=foolL C Ns (onesC Os k ++ pre.map fun j=>(k,j)):=⟨_,rfl⟩
   rw [← hLq] at hst hll h1'
   unfold foolS at hst
   obtain ⟨fb,hfb⟩:∃ b,b=foolP C Ns (cz (Lq ++ [(k,x)])):=⟨_,rfl⟩
   rw [← hfb] at hst
   have hFO2:=fun W v hb hp=>HFO.out W v (cz (Lq ++ [(k,x)])) hb hp
   have hzl:(cz (Lq ++ [(k,x)])).length=Lq.length+1:=by rw [cz_len];simp
   have hzq:(cz Lq).length=Lq.length:=cz_len Lq
   have hpn:PN W u (cz Lq):=OwnP.pn h1' (by rw [hzq];omega)
   have HCL:=Lib.hid (fun V (hV:Below W.heap.size W V)=>clonep_pn (hpn.below hV))
   have HST:=Lib.hid hst
   have HFB:=Lib.hid hfb
   obtain ⟨A5,c5,rfl,-⟩:=id hpn
   have y5:=h1.cell 0
   have y6:=h3.cell 0
   have hzb:(cz Lq).length≤5096:=by rw [hzq];exact hll
   have HZL:=Lib.hid hzl
   clear hLq hst hfb hFO2 hzq hzl
   gi_wp2_with fail
   refine wpIn_mix (fun V=>Below W.heap.size W V) 8 (fun _=>trivial) (by kernel_rfl) (by kernel_rfl) (by kernel_rfl) (Below.refl _ _).drew ?_
   have hr:=(Below.refl W.heap.size W).drew
   obtain ⟨uC,huC⟩:∃ V,V=W.drew:=⟨_,rfl⟩
   rw [← huC] at hr ⊢
   clear huC
   (refine m_q 0 (v:=?_) (by kernel_rfl) rfl rfl (fun W hW=>?_) ?_;rotate_left;(have z5:=onB hW y5;have z6:=onB hW y6;go_simp;first | done | with_reducible rfl);simp only [pt1,pt3,pt4,pt5]);(refine m_q 2 (v:=?_) (by kernel_rfl) rfl rfl (fun W hW=>?_) ?_;rotate_left;(have z5:=onB hW y5;have z6:=onB hW y6;go_simp;first | done | with_reducible rfl);simp only [pt1,pt3,pt4,pt5]);(refine m_q 3 (v:=?_) (by kernel_rfl) rfl rfl (fun W hW=>?_) ?_;rotate_left;(have z5:=onB hW y5;have z6:=onB hW y6;go_simp;first | done | with_reducible rfl);simp only [pt1,pt3,pt4,pt5]);(refine m_q 4 (v:=?_) (by kernel_rfl) rfl rfl (fun W hW=>?_) ?_;rotate_left;(have z5:=onB hW y5;have z6:=onB hW y6;go_simp;first | done | with_reducible rfl);simp only [pt1,pt3,pt4,pt5])
   have hrC:=hr.size
   refine m_s2 1 5 (by kernel_rfl) rfl rfl ?_ ?_
   ·gi_wp2_with (refine ⟨trivial,?_⟩;gi_at_call 52;refine (CallsIn.inRound ll (callsIn_wide.2 (HCL.out uC hr))).mono ?_;rintro e u1 ⟨vC,rfl,hoC,hb1⟩)
    replace hr:=hr.trans (hb1.mono hr.size)
    refine m_keep hr ?_
    refine m_s1 5 (by kernel_rfl) rfl ?_
    gi_wp2_with fail
    refine absN fun u2 hL hb2 hz2=>?_
    clear hz2
    obtain ⟨gL,hgL⟩:∃ g,g=u1.heap.size:=⟨_,rfl⟩
    rw [← hgL] at hL ⊢
    clear hgL
    replace hr:=hr.trans (hb2.mono hr.size)
    replace hoC:=hoC.below hb2
    replace hoC:=hoC.low hrC
    refine m_keep hr ?_
    have hszr:=hr.size
    refine m_s1 6 (by kernel_rfl) rfl ?_
    gi_wp2_with (gi_at_builtin;refine wpListIn_append_own _ rfl _ _ 50 rfl W.heap.size 117 i0 (.agg #[.int .i64 0,.int .i64 0]) 2 16 Tryz.underlying50 hi0 hz0 hz1 hz2 rfl (by decide) _ _ _ rfl hoC ⟨gL,0,none⟩ 1 1 [.int .i64 (k:Int),.int .i64 (x:Int)] rfl rfl (World.news_of_block hL) (by intro u hu;simp at hu;rcases hu with rfl | rfl <;> rfl) (by unfold maxLen;omega) (by omega) (by omega) ?_;intro vL u5 hoL0 hgrow _)
    have hr5:=hr.grown hgrow hr.size (fun q hq=>(hoC.lt q hq).1)
    have hoL:OwnP u5 W.heap.size vL (cz (Lq ++ [(k,x)])):=by rw [cz_app];exact OwnP.mk_ hoL0 (by rw [cellsP_app];rfl)
    refine m_keep hr5 ?_
    (refine m_q 7 (v:=?_) (by kernel_rfl) rfl rfl (fun W hW=>?_) ?_;rotate_left;(go_simp;first | done | with_reducible rfl);simp only [pt1,pt3,pt4,pt5])
    refine m_end (by kernel_rfl) ?_
    have hfc:=HFO.out u5 vL (cz (Lq ++ [(k,x)])) (h4.trans (hr5.mono h4.size)) (OwnP.pairs hoL (by rw [HZL.out];omega))
    rw [← HFB.out] at hfc
    have HFC:=hideC hfc
    clear hfc
    obtain ⟨g9,cap9,rfl⟩:=own_succP hoL0
    have k2u:=h2.below hr5 h2.lt
    have kgu:=HSB.out u5 (h4.trans (hr5.mono h4.size))
    have k5u:=h1.below hr5 h1.lt
    have y2:=k2u.cell 0
    have yg:=kgu.cell 0
    cases fb with
    | true =>
     have HF2:=Lib.hid (HST.out.trans (if_pos rfl))
     gi_wp2_with (refine ⟨trivial,?_⟩;gi_at_call 131;refine (CallsIn.inRound ll (callsIn_wide.2 HFC.out)).mono ?_;rintro e w8 ⟨rfl,hb8⟩;have k58:=(k5u.below hb8 k5u.lt).cell 0;have f58:=(k5u.below hb8 k5u.lt).frozen 0)
     have hr8:=hr5.trans (hb8.mono hr5.size)
     have h18:=h1.below hr8 h1.lt
     have hb9:=(hr8.mono h4.size).setCell (p:=⟨g2+1,0,none⟩) (show w.heap.size≤g2+1 by omega) (.slice (some ⟨g9,0,none⟩) ((cz Lq).length+1) cap9)
     have hot:=(KeepsOthers.of_below hr8).trans (KeepsOthers.setCell w8 ⟨g2+1,0,none⟩ (.slice (some ⟨g9,0,none⟩) ((cz Lq).length+1) cap9))
     have hoL8:=(hoL.below hb8).low (show g2+2≤W.heap.size by omega)
     have hoL9:=ownsRow_setCell_other hoL8 (a:=⟨g2+1,0,none⟩) (fun e=>absurd (show g2+2≤g2+1 from (hoL8.lt _ e).1) (by omega)) (.slice (some ⟨g9,0,none⟩) ((cz Lq).length+1) cap9)
     exact ⟨hot.from _,KpA.mk_ ((KeepW.of_below hr8).trans (KeepW.setCell (p:=⟨g2+1,0,none⟩) h18 (by decide) _)) hb9 hT.pos,⟨_,h18.set_ 0 _,by rw [HF2.out];exact hoL9⟩,(h2.below hr8 h2.lt).far (p:=⟨g2+1,0,none⟩) (by simp) _,(h3.below hr8 h3.lt).far (p:=⟨g2+1,0,none⟩) (by simp;omega) _,h4.trans hb9,h5.others hot⟩
    | false =>
     have HF2:=Lib.hid (HST.out.trans (if_neg (by simp)))
     gi_wp2_with (refine ⟨trivial,?_⟩;gi_at_call 131;refine (CallsIn.inRound ll (callsIn_wide.2 HFC.out)).mono ?_;rintro e w8 ⟨rfl,hb8⟩)
     have hr8:=hr5.trans (hb8.mono hr5.size)
     exact ⟨(KeepsOthers.of_below hr8).from _,KpA.of_below hr8,⟨_,h1.below hr8 h1.lt,by rw [HF2.out];exact h1'.below hr8⟩,h2.below hr8 h2.lt,h3.below hr8 h3.lt,h4.trans (hr8.mono h4.size),h5.others (KeepsOthers.of_below hr8)⟩
   ·gi_wp2_with fail
    refine absN fun u1 hL hb1 hz2=>?_
    clear hz2
    obtain ⟨gL,hgL⟩:∃ g,g=uC.heap.size:=⟨_,rfl⟩
    rw [← hgL] at hL ⊢
    clear hgL
    replace hr:=hr.trans (hb1.mono hr.size)
    refine m_keep hr ?_
    refine m_s1 1 (by kernel_rfl) rfl ?_
    gi_wp2_with (refine ⟨trivial,?_⟩;gi_at_call 52;refine (CallsIn.inRound ll (callsIn_wide.2 (HCL.out u1 hr))).mono ?_;rintro e u2 ⟨vC,rfl,hoC,hb2⟩)
    have hL0:=hL.below hb2 hL.lt
    have hrC:=hr.size
    replace hr:=hr.trans (hb2.mono hr.size)
    replace hL:=hL0
    replace hoC:=hoC.low hrC
    refine m_keep hr ?_
    have hszr:=hr.size
    refine m_s1 6 (by kernel_rfl) rfl ?_
    gi_wp2_with (gi_at_builtin;refine wpListIn_append_own _ rfl _ _ 50 rfl W.heap.size 117 i0 (.agg #[.int .i64 0,.int .i64 0]) 2 16 Tryz.underlying50 hi0 hz0 hz1 hz2 rfl (by decide) _ _ _ rfl hoC ⟨gL,0,none⟩ 1 1 [.int .i64 (k:Int),.int .i64 (x:Int)] rfl rfl (World.news_of_block hL) (by intro u hu;simp at hu;rcases hu with rfl | rfl <;> rfl) (by unfold maxLen;omega) (by omega) (by omega) ?_;intro vL u5 hoL0 hgrow _)
    have hr5:=hr.grown hgrow hr.size (fun q hq=>(hoC.lt q hq).1)
    have hoL:OwnP u5 W.heap.size vL (cz (Lq ++ [(k,x)])):=by rw [cz_app];exact OwnP.mk_ hoL0 (by rw [cellsP_app];rfl)
    refine m_keep hr5 ?_
    (refine m_q 7 (v:=?_) (by kernel_rfl) rfl rfl (fun W hW=>?_) ?_;rotate_left;(go_simp;first | done | with_reducible rfl);simp only [pt1,pt3,pt4,pt5])
    refine m_end (by kernel_rfl) ?_
    have hfc:=HFO.out u5 vL (cz (Lq ++ [(k,x)])) (h4.trans (hr5.mono h4.size)) (OwnP.pairs hoL (by rw [HZL.out];omega))
    rw [← HFB.out] at hfc
    have HFC:=hideC hfc
    clear hfc
    obtain ⟨g9,cap9,rfl⟩:=own_succP hoL0
    have k2u:=h2.below hr5 h2.lt
    have kgu:=HSB.out u5 (h4.trans (hr5.mono h4.size))
    have k5u:=h1.below hr5 h1.lt
    have y2:=k2u.cell 0
    have yg:=kgu.cell 0
    cases fb with
    | true =>
     have HF2:=Lib.hid (HST.out.trans (if_pos rfl))
     gi_wp2_with (refine ⟨trivial,?_⟩;gi_at_call 131;refine (CallsIn.inRound ll (callsIn_wide.2 HFC.out)).mono ?_;rintro e w8 ⟨rfl,hb8⟩;have k58:=(k5u.below hb8 k5u.lt).cell 0;have f58:=(k5u.below hb8 k5u.lt).frozen 0)
     have hr8:=hr5.trans (hb8.mono hr5.size)
     have h18:=h1.below hr8 h1.lt
     have hb9:=(hr8.mono h4.size).setCell (p:=⟨g2+1,0,none⟩) (show w.heap.size≤g2+1 by omega) (.slice (some ⟨g9,0,none⟩) ((cz Lq).length+1) cap9)
     have hot:=(KeepsOthers.of_below hr8).trans (KeepsOthers.setCell w8 ⟨g2+1,0,none⟩ (.slice (some ⟨g9,0,none⟩) ((cz Lq).length+1) cap9))
     have hoL8:=(hoL.below hb8).low (show g2+2≤W.heap.size by omega)
     have hoL9:=ownsRow_setCell_other hoL8 (a:=⟨g2+1,0,none⟩) (fun e=>absurd (show g2+2≤g2+1 from (hoL8.lt _ e).1) (by omega)) (.slice (some ⟨g9,0,none⟩) ((cz Lq).length+1) cap9)
     exact ⟨hot.from _,KpA.mk_ ((KeepW.of_below hr8).trans (KeepW.setCell (p:=⟨g2+1,0,none⟩) h18 (by decide) _)) hb9 hT.pos,⟨_,h18.set_ 0 _,by rw [HF2.out];exact hoL9⟩,(h2.below hr8 h2.lt).far (p:=⟨g2+1,0,none⟩) (by simp) _,(h3.below hr8 h3.lt).far (p:=⟨g2+1,0,none⟩) (by simp;omega) _,h4.trans hb9,h5.others hot⟩
    | false =>
     have HF2:=Lib.hid (HST.out.trans (if_neg (by simp)))
     gi_wp2_with (refine ⟨trivial,?_⟩;gi_at_call 131;refine (CallsIn.inRound ll (callsIn_wide.2 HFC.out)).mono ?_;rintro e w8 ⟨rfl,hb8⟩)
     have hr8:=hr5.trans (hb8.mono hr5.size)
     exact ⟨(KeepsOthers.of_below hr8).from _,KpA.of_below hr8,⟨_,h1.below hr8 h1.lt,by rw [HF2.out];exact h1'.below hr8⟩,h2.below hr8 h2.lt,h3.below hr8 h3.lt,h4.trans (hr8.mono h4.size),h5.others (KeepsOthers.of_below hr8)⟩
  case done =>
   rintro D W hD ⟨⟨u,h1,h1'⟩,h2,h3,h4,h5⟩ hKd
   have hM6:=hM5.cons h5 (by have:=b5.size;omega) hD hKd
   rw [← HSU.out] at h1'
   go_wp2_with fail
   exact ⟨(k+1,u),rfl,⟨by show k+1≤Os.length;omega,hM6,h4,h2,h1,h1'⟩,by show Os.length-(k+1) < Os.length-k;omega⟩
 ·obtain rfl:k=Os.length:=by omega
  rw [onesC_all] at hown
  have y5:=k5.cell 0
  obtain ⟨A5,c5,rfl⟩:∃ A c,v5=.slice A (cz (foolL C Ns (cellsOf Os))).length c:=by obtain ⟨A,c,e,_⟩:=RowN.of_own hown;exact ⟨A,c,e⟩
  go_wp2_with fail
  refine leave_marks (n₀:=w.heap.size) _ _ hM0 fun W' hW'=>?_
  refine ⟨.slice A5 (cz (foolL C Ns (cellsOf Os))).length c5,by simp [results,Tryz.results79],_,rfl,?_,hb.trans hW'.1⟩
  have hX2:OwnP W' (g2+2) _ _:=own_kc hown ⟨hW'.1.size,hW'.2⟩
  exact hX2.low (by omega)
end MixI
theorem run_store_funcF {P:Program} {w:World} {a:Addr} {m:Mode} (fn:Fn) (first cap:Array Value):(store a (.func fn first cap) m).run P w=stored P w a (.func fn first cap) m:=run_store P w a _ m rfl
attribute [local go_sem] run_store_funcF
theorem wpIn_loopB {F:Fence} {N:Nat} {P:Program} {Q:Exit→Act→World→Prop} {a:Act} {w:World} {c:Code} {β:Type} (I:β→Act→World→Prop) (μ:β→Nat) (b0:β) (h₀:I b0 a w)
  (round:∀ b a w,I b a w→c.wpIn F N P (Exit.then (fun a' w'=>∃ b',I b' a' w'∧μ b' < μ b) Q) a w):(Code.loop c).wpIn F N P Q a w:=by
 refine wpIn_loop (fun a w=>∃ b,I b a w) (fun a w=>leastOf fun n=>∃ b,I b a w∧μ b=n) ⟨b0,h₀⟩ ?_
 rintro a w ⟨b,hb⟩
 obtain ⟨⟨b1,hb1,e1⟩,_⟩:=leastOf_spec (p:=fun n=>∃ b,I b a w∧μ b=n) ⟨b,hb,rfl⟩
 refine wpIn_mono (round b1 a w hb1) ?_
 intro e a' w' h
 cases e with
 | normal =>
  obtain ⟨b',h1,h2⟩:=h
  refine ⟨⟨b',h1⟩,?_⟩
  rw [← e1]
  exact Nat.lt_of_le_of_lt ((leastOf_spec (p:=fun n=>∃ b,I b a' w'∧μ b=n) ⟨b',h1,rfl⟩).2 _ ⟨b',h1,rfl⟩) h2
 | _=>exact h
theorem wpIn_loopF {F:Fence} {N:Nat} {P:Program} {Q:Exit→Act→World→Prop} {a:Act} {w:World} {c:Code} {β:Type} (S:β→(Nat→Value)→Array Value) (R:β→List Deferred→World→Prop) (μ:β→Nat) (b0:β)
  (hs:a.tmps=S b0 fun i=>a.tmps.getD i undef) (h₀:R b0 a.defers w)
  (round:∀ b f ds w,R b ds w→c.wpIn F N P (Exit.then (fun a' w'=>∃ b',a'.tmps=S b' (fun i=>a'.tmps.getD i undef)∧R b' a'.defers w'∧μ b' < μ b) Q) { tmps:=S b f,defers:=ds } w):(Code.loop c).wpIn F N P Q a w:=by
 refine wpIn_loopB (fun b a w=>(∃ f,a.tmps=S b f)∧R b a.defers w) μ b0 ⟨⟨_,hs⟩,h₀⟩ ?_
 rintro b ⟨tmps,ds⟩ w ⟨⟨f,hf⟩,hR⟩
 dsimp only at hf hR
 subst hf
 refine wpIn_mono (round b f ds w hR) ?_
 intro e a' w' h
 cases e with
 | normal=>obtain ⟨b',h1,h2,h3⟩:=h;exact ⟨b',⟨⟨_,h1⟩,h2⟩,h3⟩
 | _=>exact h
def PairOK (C:Nat) (Ns:List Nat) (o l:List (Nat×Nat)):Prop:=l=[]∨∃ c d,c∈o∧d∈o∧l=[c,d]∧foolP C Ns (cz [c,d])=true
theorem own_two {w:World} {base g:Nat} {a b:Nat×Nat} (hB:Blk w g 117 #[.int .i64 (a.1:Int),.int .i64 (a.2:Int),.int .i64 (b.1:Int),.int .i64 (b.2:Int)]) (hg:base≤g):OwnP w base (.slice (some ⟨g,0,none⟩) 2 2) (cz [a,b]) :=
 ⟨by simp [cellsP,cz],.inr ⟨g,2,_,rfl,hg,hB,by simp [cz],by decide,by simp,by simp [cellsP,cz]⟩⟩
theorem pair_any (gs base base':Nat) (vL:Value) (q C:Nat) (Ns L Os:List Nat) (nd:Int) (v:Value) (w:World) (hM:IsMat w q C Ns) (hS:IsSr w gs base vL q C Ns L nd) (hO:OwnO w base' v Os) (hl:Os.length≤60) (hT:Tab w) :
  Calls Tryz.prog 80 #[ptr gs,v] w fun e w'=>∃ v' l,e=.returned v'∧PairOK C Ns (cellsOf Os) l∧OwnP w' w.heap.size v' (cz l)∧Below w.heap.size w w':=by
 obtain ⟨i0,hi0,hz0,hz1,hz2⟩:=info_parts info_pair
 obtain ⟨A,c,rfl⟩:=hO.val
 have HFO:=Lib.hid (fun W v l (hb:Below w.heap.size w W) hp=>fool_any q C Ns v l W (hM.below hb) hp)
 have HSB:=Lib.hid (fun W (hb:Below w.heap.size w W)=>(hS.below hb).1)
 have HO:=Lib.hid hO
 clear hO
 refine (callsIn_wide (n:=9)).1 (callsIn_of_wp_marks Tryz.func80 rfl trivial (wpIn_wide.2 ?_) rfl)
 simp only [Tryz.ntmps80,List.size_toArray,List.length_cons,List.length_nil,Nat.reduceAdd,Nat.reduceSub,Array.replicate_succ,Array.replicate_zero,List.push_toArray,List.append_toArray,List.nil_append,List.cons_append]
 go_upto_region 2 with fail
 refine abs3 fun W1 h2 h4 h5 hb1 hz1=>?_
 clear hz1
 obtain ⟨g2,hg2⟩:∃ x,x=w.heap.size:=⟨_,rfl⟩
 have hgw:w.heap.size≤g2:=by omega
 rw [← hg2] at h2 h4 h5 ⊢
 clear hg2
 go_wp2_with fail
 refine wp_loopF (β:=Nat×Value×List (Nat×Nat)) (fun x f=>#[ptr gs,.slice A Os.length c,ptr g2,f 3,ptr (g2+1),ptr (g2+2),f 6,f 7,f 8,f 9,f 10,f 11,.slice A Os.length c,.int .i64 (Os.length:Int),.int .i64 (x.1:Int),f 15,f 16,f 17,f 18,f 19,f 20,f 21,f 22,f 23,f 24,f 25,f 26,f 27,f 28,f 29,f 30,f 31,f 32,f 33,f 34,f 35,f 36,f 37,f 38,f 39,f 40,f 41,f 42,f 43,f 44,f 45,f 46,f 47])
  (fun x ds W=>x.1≤Os.length∧Marks w.heap.size W ds∧Below w.heap.size w W∧Blk W g2 83 #[ptr gs]∧Blk W (g2+1) 50 #[.slice none 0 0]∧Blk W (g2+2) 50 #[x.2.1]∧OwnP W w.heap.size x.2.1 (cz x.2.2)∧x.2.2.length≤x.1*4096∧∀ c∈x.2.2,c∈cellsOf Os) (fun x=>Os.length-x.1) (0,.slice none 0 0,[]) rfl
  ⟨Nat.zero_le _,trivial,hb1,h2,h4,h5,OwnP.nil _ _,Nat.zero_le _,by simp⟩ ?_
 rintro ⟨k,v5,l5⟩ f ds W ⟨hk,hM0,hb,k2,k4,k5,hown,hll,hmem⟩
 dsimp only at hk k5 hown hll hmem ⊢
 by_cases hlt:k < Os.length
 ·obtain ⟨gO,A1,c1,rfl,-,-,-,d0,s1⟩:=(HO.out.below hb).at hlt
  have hin:∀ x,(Os.getD k 0).testBit x=true→(k,x)∈cellsOf Os:=fun x hx=>mem_cellsOf.2 ⟨hlt,hx⟩
  have hcd:=card_le (HO.out.nw k hlt)
  rw [← mems_len] at hcd
  obtain ⟨N,hN⟩:∃ N,N=Os.getD k 0:=⟨_,rfl⟩
  rw [← hN] at d0 s1 hin hcd
  have HIN:=Lib.hid hin
  clear hN hin
  go_upto_region 5 with fail
  refine abs2 fun W3 h6 h7 hb3 hz3=>?_
  clear hz3
  have k3:=hb.trans (hb3.mono hb.size)
  have k23:=k2.below hb3 k2.lt
  have k43:=k4.below hb3 k4.lt
  have k53:=k5.below hb3 k5.lt
  have hown3:=hown.below hb3
  have s13:=s1.below hb3
  have hM3:=hM0.kd (KeepD.of_below hb3)
  obtain ⟨g6,hg6⟩:∃ x,x=W.heap.size:=⟨_,rfl⟩
  have hg6x:g2+3≤g6:=by rw [hg6];exact k5.lt
  rw [← hg6] at h6 h7 ⊢
  have c7:=h7.cell 0
  clear hg6 hb3 d0 s1 hM0 k2 k4 k5 hown hb
  go_wp2_with fail
  refine (all_any A1 (nw N) c1 W3).mono ?_
  rintro e w5 ⟨rfl,hw5⟩
  have hY:=hw5▸Blk.new W3 58 #[.slice A1 (nw N) c1]
  have hb5:Below W3.heap.size W3 w5:=by rw [hw5];exact (Below.refl _ _).alloc (Nat.le_refl _) _
  clear hw5
  have b5:=k3.trans (hb5.mono k3.size)
  have k25:=k23.below hb5 k23.lt
  have k45:=k43.below hb5 k43.lt
  have k55:=k53.below hb5 k53.lt
  have h65:=h6.below hb5 h6.lt
  have hown5:=hown3.below hb5
  have s15:=s13.below hb5
  have hM5:=hM3.kd (KeepD.of_below hb5)
  have hT5:=hT.below b5
  obtain ⟨gy,hgy⟩:∃ g,g=W3.heap.size:=⟨_,rfl⟩
  rw [← hgy] at hY ⊢
  clear hgy hb5 k3 k23 k43 k53 h6 h7 s13 hM3 c7 hown3
  go_wp2_with fail
  refine wp_rangeAll (v:=.slice A1 (nw N) c1) (N:=N) (Bx:=gy) rfl (hY.cell 0) s15 hT5 rfl
   (fun pre W=>(∃ u l,Boxed W (g2+2) 50 u∧OwnP W w.heap.size u (cz l)∧l.length≤k*4096+pre.length∧∀ c∈l,c∈cellsOf Os)∧Blk W g2 83 #[ptr gs]∧Blk W (g2+1) 50 #[.slice none 0 0]∧Blk W g6 3 #[.int .i64 (k:Int)]∧Below w.heap.size w W∧KeepD w5 W)
   (fun c pre W=>c=.ret∧(∃ A n d l,Blk W (g2+1) 50 #[.slice A n d]∧OwnP W w.heap.size (.slice A n d) (cz l)∧PairOK C Ns (cellsOf Os) l)∧Below w.heap.size w W∧KeepD w5 W)
   ?hI ?hIx ?h0 ?a1 ?assign ?body ?done ?stop
  case assign =>
   intro l x W K hKa
   gi_wp2
   exact hKa
  case hI =>
   rintro s W W' row ⟨⟨u,l,h1,h1',h1''⟩,h2,h3,h3',h4,h5⟩ hg hrw
   have hkc:=KeepC.of_grown hg hrw
   exact ⟨⟨u,l,hkc.2 _ _ _ _ h1,own_kc h1' hkc,h1''⟩,h2.kc hkc,h3.kc hkc,h3'.kc hkc,h4.grown hg h4.size fun k' e=>Nat.le_trans b5.size (hrw k' e).1,h5.grown hg hrw⟩
  case hIx =>
   rintro c s W W' row ⟨hc,⟨A,n,d,l,h1,h1',h1''⟩,h4,h5⟩ hg hrw
   have hkc:=KeepC.of_grown hg hrw
   exact ⟨hc,⟨A,n,d,l,h1.kc hkc,own_kc h1' hkc,h1''⟩,h4.grown hg h4.size fun k' e=>Nat.le_trans b5.size (hrw k' e).1,h5.grown hg hrw⟩
  case h0=>exact ⟨⟨v5,l5,k55,hown5,hll,hmem⟩,k25,k45,h65,b5,KeepD.refl _⟩
  case body =>
   rintro ll pre x W hx ⟨⟨u,l,h1,h1',hl1,hl2⟩,h2,h3,h3',h4,h5⟩ hlen hkp
   have hxm:=HIN.out x hx
   have hW3:g2+3≤W.heap.size:=(show Blk W (g2+2) 50 #[u] from h1).lt
   have hlb:l.length≤300000:=by
    have:k*4096≤60*4096:=Nat.mul_le_mul_right _ (by omega)
    omega
   obtain ⟨A5,c5,rfl⟩:∃ A c,u=.slice A (cz l).length c:=by obtain ⟨A,c,e,_⟩:=RowN.of_own h1';exact ⟨A,c,e⟩
   have y5:=h1.cell
   have HXM:=Lib.hid hxm;have HL2:=Lib.hid hl2;have HLB:=Lib.hid hlb
   clear hxm hl2
   gi_wp2_with fail
   refine wpIn_loopF (β:=Nat) (fun j f=>#[f 0,f 1,ptr g2,f 3,ptr (g2+1),ptr (g2+2),ptr g6,f 7,.int .i64 (x:Int),f 9,f 10,f 11,f 12,f 13,f 14,f 15,f 16,f 17,f 18,f 19,f 20,f 21,.slice A5 (cz l).length c5,.int .i64 ((cz l).length:Int),.int .i64 (j:Int),f 25,f 26,f 27,f 28,f 29,f 30,f 31,f 32,f 33,f 34,f 35,f 36,f 37,f 38,f 39,f 40,f 41,f 42,f 43,f 44,f 45,f 46,f 47])
    (fun j ds V=>j≤l.length∧ds=[]∧Below W.heap.size W V) (fun j=>l.length-j) 0 rfl ⟨Nat.zero_le _,rfl,Below.refl _ _⟩ ?_
   rintro j f ds V ⟨hj,rfl,hbV⟩
   dsimp only at hj ⊢
   have hVs:=hbV.size
   by_cases hjl:j < l.length
   ·obtain ⟨d,hd⟩:∃ d,l[j]?=some d:=⟨_,List.getElem?_eq_getElem hjl⟩
    obtain ⟨_,_,e,hrow,-,-⟩:=(h1'.below hbV).pairs (by rw [cz_len];omega)
    cases e
    obtain ⟨gl,ol,rfl,hgl,e0,e1⟩:=row_pairs hrow (cz_get hd)
    have hdm:=HL2.out d (List.mem_of_getElem? hd)
    have hjz:j < (cz l).length:=by rw [cz_len];exact hjl
    have v2:=h2.below hbV h2.lt
    have v6:=h3'.below hbV h3'.lt
    have vg:=HSB.out V (h4.trans (hbV.mono h4.size))
    have c2:=v2.cell 0
    have c6:=v6.cell 0
    have cg:=vg.cell 0
    have n2:=v2.lt
    have n6:=v6.lt
    have ng:=vg.lt
    obtain ⟨V2,hV2⟩:∃ X,X=(V.alloc (.cells #[.int .i64 (d.1:Int),.int .i64 (d.2:Int)] 117)).alloc (.cells #[.int .i64 (d.1:Int),.int .i64 (d.2:Int),.int .i64 (k:Int),.int .i64 (x:Int)] 117):=⟨_,rfl⟩
    have hbV2:Below V.heap.size V V2:=by rw [hV2];exact ((Below.refl _ _).alloc (Nat.le_refl _) _).alloc (by simp) _
    have hB2:Blk V2 (V.heap.size+1) 117 #[.int .i64 (d.1:Int),.int .i64 (d.2:Int),.int .i64 (k:Int),.int .i64 (x:Int)]:=by rw [hV2];exact Blk.new_ (by simp) _ _
    have hO2:OwnP V2 w.heap.size (.slice (some ⟨V.heap.size+1,0,none⟩) 2 2) (cz [d,(k,x)]):=own_two hB2 (by have:=h4.size;omega)
    have hbW2:=hbV.trans (hbV2.mono hbV.size)
    have hfo:=HFO.out V2 _ (cz [d,(k,x)]) (h4.trans (hbW2.mono h4.size)) (hO2.pairs (by simp [cz]))
    obtain ⟨fb,hfb⟩:∃ b,b=foolP C Ns (cz [d,(k,x)]):=⟨_,rfl⟩
    rw [← hfb,hV2] at hfo
    have HFC:=hideC hfo
    have HFB:=Lib.hid hfb;have HDM:=Lib.hid hdm;have HV2:=Lib.hid hV2
    clear hfo hfb hdm hd hrow hV2 hB2
    cases fb with
    | true =>
     gi_wp2_with (refine ⟨trivial,?_⟩;gi_at_call 131;refine (CallsIn.inRound ll (callsIn_wide.2 HFC.out)).mono ?_;rintro e w8 ⟨rfl,hb8⟩;rw [← HV2.out] at hb8;have hb8':=hbW2.trans (hb8.mono hbW2.size);have k48:=(h3.below hb8' h3.lt).cell 0;have f48:=(h3.below hb8' h3.lt).frozen 0)
     have h38:=h3.below hb8' h3.lt
     have hO8:=hO2.below hb8
     have hO9:=ownsRow_setCell_other hO8 (a:=⟨g2+1,0,none⟩) (fun e=>own_ne hO8 h38 (by decide) e.symm) (.slice (some ⟨V.heap.size+1,0,none⟩) 2 2)
     have hb9:=(hb8'.mono h4.size).setCell (p:=⟨g2+1,0,none⟩) (show w.heap.size≤g2+1 by omega) (.slice (some ⟨V.heap.size+1,0,none⟩) 2 2)
     have hot:=(KeepsOthers.of_below hb8').trans (KeepsOthers.setCell w8 ⟨g2+1,0,none⟩ (.slice (some ⟨V.heap.size+1,0,none⟩) 2 2))
     exact ⟨hot.from _,rfl,⟨_,_,_,[d,(k,x)],h38.set_ 0 _,hO9,.inr ⟨d,(k,x),HDM.out,HXM.out,rfl,HFB.out.symm⟩⟩,h4.trans hb9,h5.others hot⟩
    | false =>
     gi_wp2_with (refine ⟨trivial,?_⟩;gi_at_call 131;refine (CallsIn.inRound ll (callsIn_wide.2 HFC.out)).mono ?_;rintro e w8 ⟨rfl,hb8⟩;rw [← HV2.out] at hb8;have hb8':=hbW2.trans (hb8.mono hbW2.size))
     exact ⟨j+1,rfl,⟨hjl,by first | rfl | trivial,hb8'⟩,by omega⟩
   ·obtain rfl:j=l.length:=by omega
    have hv:Boxed V (g2+2) 50 (.slice A5 (cz l).length c5):=(show Blk W (g2+2) 50 #[.slice A5 (cz l).length c5] from h1).below hbV (show Blk W (g2+2) 50 #[.slice A5 (cz l).length c5] from h1).lt
    have hc:=hv.cell
    have v6:=h3'.below hbV h3'.lt
    have v2:=h2.below hbV h2.lt
    have v3:=h3.below hbV h3.lt
    have c6:=v6.cell 0
    have n6:=v6.lt
    have hbl:=hbV.mono h4.size
    have hLL:cz (l ++ [(k,x)])=cz l ++ [((k:Int),(x:Int))]:=cz_app l [(k,x)]
    have hzl:(cz l).length≤300000:=by rw [cz_len];exact HLB.out
    have hrw0:V.ownsRow w.heap.size 117 2 (.slice A5 (cz l).length c5) (cz l).length (cellsP (cz l)):=h1'.below hbV
    have hl3:(l ++ [(k,x)]).length≤k*4096+(pre ++ [x]).length:=by rw [List.length_append,List.length_append];show l.length+1≤k*4096+(pre.length+1);omega
    have HL3:=Lib.hid hl3
    have HLL:=Lib.hid hLL
    have hnlt:¬ l.length < (cz l).length:=by rw [cz_len];omega
    have hnlt2:decide (l.length < (cz l).length)=false:=decide_eq_false hnlt
    obtain ⟨Q,hQ⟩:∃ Q,Q=cz l:=⟨_,rfl⟩
    rw [← hQ] at hv hc hrw0 hzl HLL hnlt hnlt2 ⊢
    have hrw1:=hrw0.alloc (.cells #[.int .i64 (k:Int),.int .i64 (x:Int)] 117)
    clear hQ hLL hl3 hll h1 y5 hjl hj
    gi_wp2_with (gi_at_builtin;refine wpListIn_append_own _ rfl _ _ 50 rfl w.heap.size 117 i0 (.agg #[.int .i64 0,.int .i64 0]) 2 16 Tryz.underlying50 hi0 hz0 hz1 hz2 rfl (by decide) _ _ _ rfl hrw1 ⟨V.heap.size,0,none⟩ 1 1 [.int .i64 (k:Int),.int .i64 (x:Int)] rfl rfl (cells_new2 _ _ _ _) (by intro u hu;simp at hu;rcases hu with rfl | rfl <;> rfl) (by unfold maxLen;omega) (by omega) (by have:=hbl.size;have:=h4.size;simp;omega) ?_;intro v' w6 hown' hgrow _;obtain ⟨g',cap',rfl⟩:=own_succP hown';have hkw:=(KeepW.alloc V _).trans (KeepW.grown hgrow hrw1 (by decide));obtain ⟨hv1,hv2,hr2,hk2,hb2⟩:=hv.appended (by decide) hrw0 (Nat.le_trans h4.size hVs) (by omega) hown' hgrow;have hc1:=hv1.cell;have hf1:=hv1.frozen)
    have hQ2:=(((Blk.alloc v2 _).grown hgrow (own_ne hrw1 (Blk.alloc v2 _) (by decide))).far (p:=⟨g2+2,0,none⟩) (by simp) (.slice (some ⟨g',0,none⟩) (Q.length+1) cap'))
    have hQ3:=(((Blk.alloc v3 _).grown hgrow (own_ne hrw1 (Blk.alloc v3 _) (by decide))).far (p:=⟨g2+2,0,none⟩) (by simp) (.slice (some ⟨g',0,none⟩) (Q.length+1) cap'))
    have hQ6:=(((Blk.alloc v6 _).grown hgrow (own_ne hrw1 (Blk.alloc v6 _) (by decide))).far (p:=⟨g2+2,0,none⟩) (by simp;omega) (.slice (some ⟨g',0,none⟩) (Q.length+1) cap'))
    exact ⟨((KeepsOthers.of_below hbV).trans hk2).from _,KpA.mk_ ((KeepW.of_below hbV).trans (hkw.trans (KeepW.setCell (p:=⟨g2+2,0,none⟩) (t:=50) (cs:=#[.slice A5 Q.length c5]) hv1 (by decide) _))) (hbl.trans hb2) hT.pos,⟨_,l ++ [(k,x)],hv2,by rw [HLL.out];exact OwnP.mk_ hr2 (cellsP_snoc Q ((k:Int),(x:Int))).symm,HL3.out,fun c hc=>by
     rcases List.mem_append.1 hc with hc | hc
     ·exact HL2.out c hc
     ·rw [List.mem_singleton.1 hc];exact HXM.out⟩,hQ2,hQ3,hQ6,(h4.trans hbl).trans hb2,(h5.others (KeepsOthers.of_below hbV)).others hk2⟩
  case done =>
   rintro D W hD ⟨⟨u,l,h1,h1',hl1,hl2⟩,h2,h3,h3',h4,h5⟩ hKd
   have hM6:=hM5.cons h5 (by have:=b5.size;omega) hD hKd
   go_wp2_with fail
   exact ⟨(k+1,u,l),rfl,⟨by show k+1≤Os.length;omega,hM6,h4,h2,h3,h1,h1',by show l.length≤(k+1)*4096;omega,hl2⟩,by show Os.length-(k+1) < Os.length-k;omega⟩
  case stop =>
   rintro D c pre W hD ⟨rfl,⟨A9,n9,d9,l9,h1,h1',h1''⟩,h4,h5⟩ hKd
   have hM6:=hM5.cons h5 (by have:=b5.size;omega) hD hKd
   have HP:=Lib.hid h1''
   clear h1''
   go_wp2_with fail
   refine leave_marks (n₀:=w.heap.size) _ _ hM6 fun W' hW'=>?_
   have hBB:Blk W' (g2+1) 50 _:=hW'.2 _ _ _ _ h1
   have cX:=hBB.cell 0
   exact ⟨.slice A9 n9 d9,by simp [results,Tryz.results80,go_sem,cX],.slice A9 n9 d9,l9,rfl,HP.out,own_kc h1' ⟨hW'.1.size,hW'.2⟩,h4.trans hW'.1⟩
 ·obtain rfl:k=Os.length:=by omega
  have f4:=k4.frozen 0
  have c4:=k4.cell 0
  clear hll
  go_wp2_with fail
  have k49:=k4.set_ 0 (.slice none 0 0)
  refine leave_marks (n₀:=w.heap.size) _ _ (hM0.kd ((KeepD.refl W).others (KeepsOthers.setCell W ⟨g2+1,0,none⟩ (.slice none 0 0)))) fun W' hW'=>?_
  have hBB:Blk W' (g2+1) 50 _:=hW'.2 _ _ _ _ k49
  have cX:=hBB.cell 0
  exact ⟨.slice none 0 0,by simp [results,Tryz.results80,go_sem,cX],.slice none 0 0,[],rfl,.inl rfl,OwnP.nil _ _,(hb.setCell (p:=⟨g2+1,0,none⟩) (show w.heap.size≤g2+1 by omega) _).trans hW'.1⟩
end Go.Proofs.YtafpmkdlciioaaaGreatDoor
namespace Go.Proofs.YtafpmkdlciioaaaGreatDoor
open Go.RowKit
def GNodeAt (w:World) (base:Nat) (vs:List Value) (x:Nd):Prop:=∃ v3 v4,vs=[.int .u8 x.kind,.int .i64 x.row,.int .i64 x.col,v3,v4]∧w.ownsRow base 3 1 v3 x.ch.length (x.ch.map (.int .i64))∧OwnP w base v4 x.cells
def chG (vs:List Value):Option Nat:=(vs.getD 3 undef).ownBlock
structure GN (w:World) (base:Nat) (v:Value) (P:List Nd) (vss:List (List Value)):Prop where
 len:vss.length=P.length
 nodes:∀ (k:Nat) x,P[k]?=some x→∃ vs,vss[k]?=some vs∧GNodeAt w base vs x
 dist:∀ (i j:Nat) a b,i≠j→vss[i]?=some a→vss[j]?=some b→∀ g,chG a=some g→chG b≠some g
 own:w.ownsRow base 95 5 v P.length vss.flatten
section
variable {w w':World} {base:Nat} {v:Value} {P:List Nd} {vss:List (List Value)} {vs:List Value} {x:Nd}
theorem GNodeAt.len (h:GNodeAt w base vs x):vs.length=5:=by obtain ⟨_,_,rfl,_⟩:=h;rfl
theorem GNodeAt.below (h:GNodeAt w base vs x) (hb:Below w.heap.size w w'):GNodeAt w' base vs x:=by
 obtain ⟨v3,v4,h1,h2,h3⟩:=h;exact ⟨v3,v4,h1,own_below h2 hb,h3.below hb⟩
theorem GN.len5 (h:GN w base v P vss):∀ vs∈vss,vs.length=5:=fun vs hvs=>by
 obtain ⟨i,hi,e⟩:=List.getElem_of_mem hvs
 obtain ⟨vs',e',hn⟩:=h.nodes i _ (List.getElem?_eq_getElem (by rw [← h.len];exact hi))
 rw [List.getElem?_eq_getElem hi,Option.some.injEq] at e'
 rw [← e,e'];exact hn.len
theorem GN.below (h:GN w base v P vss) (hb:Below w.heap.size w w'):GN w' base v P vss :=
 ⟨h.len,fun k x hx=>by obtain ⟨vs,h1,h2⟩:=h.nodes k x hx;exact ⟨vs,h1,h2.below hb⟩,h.dist,own_below h.own hb⟩
theorem GNodeAt.but_node {u:Value} {b0 n size:Nat} {xs:List Value} (h:GNodeAt w base vs x) (hb:But u.ownBlock w w') (hu:w.ownsRow b0 95 size u n xs):GNodeAt w' base vs x:=by
 obtain ⟨v3,v4,h1,h2,h3⟩:=h
 refine ⟨v3,v4,h1,own_but h2 hb fun g hg=>?_,own_but h3 hb fun g hg=>?_⟩
 ·obtain ⟨cs,hB⟩:=own_kind h2 g hg
  exact own_ne hu hB (by decide)
 ·obtain ⟨cs,hB⟩:=own_kind h3 g hg
  exact own_ne hu hB (by decide)
theorem GN.app {v':Value} {cells:List Value} (h:GN w base v P vss) (hx:GNodeAt w base cells x) (hc:chG cells=none) (hgrow:w.grownBy w' v.ownBlock) (hown':w'.ownsRow base 95 5 v' (P.length+1) (vss.flatten ++ cells)):GN w' base v' (P ++ [x]) (vss ++ [cells]):=by
 refine ⟨by simp [h.len],fun k y hy=>?_,fun i j a b hij ha hb g hg=>?_,by simpa using hown'⟩
 ·by_cases hk:k < P.length
  ·rw [List.getElem?_append_left hk] at hy
   obtain ⟨vs,h1,h2⟩:=h.nodes k y hy
   exact ⟨vs,by rw [List.getElem?_append_left (by rw [h.len];exact hk)];exact h1,h2.but_node (But.grown hgrow) h.own⟩
  ·obtain rfl:k=P.length:=by have:=(List.getElem?_eq_some_iff.1 hy).1;simp at this;omega
   rw [List.getElem?_append_right (Nat.le_refl _),Nat.sub_self] at hy
   obtain rfl:x=y:=by simpa using hy
   exact ⟨cells,by rw [← h.len,List.getElem?_append_right (Nat.le_refl _),Nat.sub_self];rfl,hx.but_node (But.grown hgrow) h.own⟩
 ·have key:∀ (i:Nat) (a:List Value),(vss ++ [cells])[i]?=some a→chG a≠none→vss[i]?=some a:=fun i a ha hn=>by
   by_cases hi:i < vss.length
   ·rwa [List.getElem?_append_left hi] at ha
   ·rw [List.getElem?_append_right (by omega)] at ha
    have:i-vss.length=0:=by have:=(List.getElem?_eq_some_iff.1 ha).1;simp at this;omega
    rw [this] at ha
    obtain rfl:cells=a:=by simpa using ha
    exact absurd hc hn
  intro hg2
  have ha':=key i a ha (by rw [hg];simp)
  have hb':=key j b hb (by rw [hg2];simp)
  exact h.dist i j a b hij ha' hb' g hg hg2
theorem GN.cells (h:GN w base v P vss) {n:Nat} (hn:P[n]?=some x):∃ g cap v3 v4,v=.slice (some ⟨g,0,none⟩) P.length cap∧vss[n]?=some [.int .u8 x.kind,.int .i64 x.row,.int .i64 x.col,v3,v4]∧w.ownsRow base 3 1 v3 x.ch.length (x.ch.map (.int .i64))∧OwnP w base v4 x.cells∧w.cell? ⟨g,n*5+3,none⟩=some v3∧(∃ cs,Blk w g 95 cs)∧base≤g∧P.length≤cap:=by
 obtain ⟨vs,h1,v3,v4,rfl,h3,h4⟩:=h.nodes n x hn
 have hlt:=(List.getElem?_eq_some_iff.1 hn).1
 rcases id h.own.2 with ⟨hv,h0⟩ | ⟨g,cap,cur,hv,hg,hB,hnc,-,-,-⟩
 ·omega
 ·subst hv
  have hc:=h.own.cellAt (n*5+3) (by omega)
  rw [flatten5 vss h.len5 n 3 _ h1 (by omega)] at hc
  exact ⟨g,cap,v3,v4,rfl,h1,h3,h4,hc,⟨cur,hB⟩,hg,hnc⟩
theorem flatten_set5G:∀ (vss:List (List Value)),(∀ vs∈vss,vs.length=5)→∀ (k r:Nat) (vs:List Value) (u:Value),vss[k]?=some vs→r < 5→vss.flatten.set (k*5+r) u=(vss.set k (vs.set r u)).flatten
 | [],_,_,_,_,_,h,_=>by simp at h
 | a :: l,h5,0,r,vs,u,h,hr=>by
  obtain rfl:a=vs:=by simpa using h
  have:=h5 a (by simp)
  rw [List.flatten_cons,Nat.zero_mul,Nat.zero_add,List.set_append_left _ _ (by omega),List.set_cons_zero,List.flatten_cons]
 | a :: l,h5,k+1,r,vs,u,h,hr=>by
  have ha:=h5 a (by simp)
  rw [List.flatten_cons,List.set_append_right _ _ (by omega),ha,show (k+1)*5+r-5=k*5+r by omega,List.set_cons_succ,List.flatten_cons]
  rw [flatten_set5G l (fun x hx=>h5 x (by simp [hx])) k r vs u (by simpa using h) hr]
theorem GN.kid {w2:World} {n g g2 cap cap2:Nat} {v3 v4:Value} {c:Int} (h:GN w base (.slice (some ⟨g,0,none⟩) P.length cap) P vss) (hn:P[n]?=some x) (h1:vss[n]?=some [.int .u8 x.kind,.int .i64 x.row,.int .i64 x.col,v3,v4])
  (h3:w.ownsRow base 3 1 v3 x.ch.length (x.ch.map (.int .i64))) (h4:OwnP w base v4 x.cells)
  (hown':w2.ownsRow base 3 1 (.slice (some ⟨g2,0,none⟩) (x.ch.length+1) cap2) (x.ch.length+1) (x.ch.map (.int .i64) ++ [.int .i64 c])) (hgrow:w.grownBy w2 v3.ownBlock) (hat:v3.ownBlock=some g2∨g2=w.heap.size) :
  GN (w2.setCell ⟨g,n*5+3,none⟩ (.slice (some ⟨g2,0,none⟩) (x.ch.length+1) cap2)) base (.slice (some ⟨g,0,none⟩) P.length cap) (P.set n { x with ch:=x.ch ++ [c] }) (vss.set n [.int .u8 x.kind,.int .i64 x.row,.int .i64 x.col,.slice (some ⟨g2,0,none⟩) (x.ch.length+1) cap2,v4]):=by
 have hnl:=(List.getElem?_eq_some_iff.1 hn).1
 have hbut:=But.grown hgrow
 have ho2:w2.ownsRow base 95 5 (.slice (some ⟨g,0,none⟩) P.length cap) P.length vss.flatten:=own_but h.own hbut fun gg hg=>by
  obtain ⟨cs,hB⟩:=own_kind h.own gg hg
  exact own_ne h3 hB (by decide)
 have hst:=(ho2.stored (n*5+3) (.slice (some ⟨g2,0,none⟩) (x.ch.length+1) cap2)).1
 rw [flatten_set5G vss h.len5 n 3 _ _ h1 (by omega)] at hst
 have hb2:But (some g) w2 (w2.setCell ⟨g,n*5+3,none⟩ (.slice (some ⟨g2,0,none⟩) (x.ch.length+1) cap2)):=But.setCell w2 ⟨g,n*5+3,none⟩ _
 have hgne:∀ (u:Value) (e:TypeId) (size m:Nat) (xs:List Value),e≠95→w2.ownsRow base e size u m xs→∀ gg,u.ownBlock=some gg→some gg≠some g:=fun u e size m xs he hu gg hg=>by
  obtain ⟨cs,hB⟩:=own_kind hu gg hg
  exact own_ne ho2 hB he
 refine ⟨by rw [List.length_set,List.length_set];exact h.len,fun k y hy=>?_,fun i j a b hij ha hb gg hg=>?_,by rw [List.length_set];exact hst⟩
 ·by_cases hk:n=k
  ·subst hk
   rw [List.getElem?_set_self (by exact hnl)] at hy
   cases hy
   refine ⟨_,List.getElem?_set_self (by rw [h.len];exact hnl),_,v4,rfl,?_,?_⟩
   ·have:=own_but hown' hb2 (hgne _ _ _ _ _ (by decide) hown')
    simpa using this
   ·have h42:OwnP w2 base v4 x.cells:=own_but h4 hbut fun gg hg=>by
     obtain ⟨cs,hB⟩:=own_kind h4 gg hg
     exact own_ne h3 hB (by decide)
    exact own_but h42 hb2 (hgne _ _ _ _ _ (by decide) h42)
  ·rw [List.getElem?_set_ne hk] at hy
   obtain ⟨vs,e1,u3,u4,rfl,k3,k4⟩:=h.nodes k y hy
   refine ⟨_,by rw [List.getElem?_set_ne hk];exact e1,u3,u4,rfl,?_,?_⟩
   ·have k32:=own_but k3 hbut fun gg hg hgg=>h.dist n k _ _ hk h1 e1 gg (by show v3.ownBlock=_;exact hgg.symm) (by show u3.ownBlock=_;exact hg)
    exact own_but k32 hb2 (hgne _ _ _ _ _ (by decide) k32)
   ·have k42:OwnP w2 base u4 y.cells:=own_but k4 hbut fun gg hg=>by
     obtain ⟨cs,hB⟩:=own_kind k4 gg hg
     exact own_ne h3 hB (by decide)
    exact own_but k42 hb2 (hgne _ _ _ _ _ (by decide) k42)
 ·
  have hold:∀ (k:Nat) (a:List Value),k≠n→vss[k]?=some a→∀ gg,chG a=some gg→gg < w.heap.size:=fun k a hk ha gg hg=>by
   have hkl:k < P.length:=by rw [← h.len];exact (List.getElem?_eq_some_iff.1 ha).1
   obtain ⟨vs,e1,u3,u4,rfl,k3,_⟩:=h.nodes k _ (List.getElem?_eq_getElem hkl)
   rw [e1] at ha
   cases ha
   obtain ⟨cs,hB⟩:=own_kind k3 gg hg
   exact hB.lt
  have hnew:∀ (k:Nat) (a:List Value),k≠n→vss[k]?=some a→∀ gg,chG a=some gg→gg≠g2:=fun k2 a2 hk2 ha2 gg2 hgg2 e=>by
   rcases hat with hat | hat
   ·exact h.dist n k2 _ _ (Ne.symm hk2) h1 ha2 gg2 (by rw [e];exact hat) hgg2
   ·have:=hold k2 a2 hk2 ha2 gg2 hgg2;omega
  by_cases hi:n=i
  ·subst hi
   rw [List.getElem?_set_self (by rw [h.len];exact hnl)] at ha
   cases ha
   rw [List.getElem?_set_ne hij] at hb
   have hg2:gg=g2:=by simpa [chG,Value.ownBlock] using hg.symm
   intro hbg
   exact hnew j b (Ne.symm hij) hb gg hbg hg2
  ·rw [List.getElem?_set_ne hi] at ha
   by_cases hj:n=j
   ·subst hj
    rw [List.getElem?_set_self (by rw [h.len];exact hnl)] at hb
    cases hb
    intro hbg
    have hg2:gg=g2:=by simpa [chG,Value.ownBlock] using hbg.symm
    exact hnew i a (Ne.symm hi) ha gg hg hg2
   ·rw [List.getElem?_set_ne hj] at hb
    exact h.dist i j a b hij ha hb gg hg
end
def CellsG (C:Nat) (Ns:List Nat) (b:Nat) (o cells:List (Nat×Nat)):Prop:=if b=1∧(foolL C Ns o).length < 2 then PairOK C Ns o cells else cells=foolL C Ns o
def KidsQ (R:Nat→Nat→List Nd→Prop):Nat→List Nat→List Nd→List Int→Prop
 | _,[],K,ch=>K=[]∧ch=[]
 | off,k :: l,K,ch=>∃ Q K' ch',R off k Q∧KidsQ R (off+Q.length) l K' ch'∧K=Q ++ K'∧ch=(off:Int) :: ch'
theorem KidsQ.snoc {R:Nat→Nat→List Nd→Prop} {k:Nat} {Q:List Nd}:∀ {l:List Nat} {off:Nat} {K:List Nd} {ch:List Int},KidsQ R off l K ch→R (off+K.length) k Q→KidsQ R off (l ++ [k]) (K ++ Q) (ch ++ [((off+K.length:Nat):Int)])
 | [],off,K,ch,h,hR=>by
  obtain ⟨rfl,rfl⟩:=h
  exact ⟨Q,[],[],hR,⟨rfl,rfl⟩,by simp,rfl⟩
 | j :: l,off,K,ch,h,hR=>by
  obtain ⟨Q1,K1,ch1,h1,h2,rfl,rfl⟩:=h
  rw [List.length_append,← Nat.add_assoc] at hR
  refine ⟨Q1,K1 ++ Q,ch1 ++ [((off+Q1.length+K1.length:Nat):Int)],h1,h2.snoc hR,by simp,?_⟩
  rw [List.length_append,← Nat.add_assoc];rfl
def GQ (C:Nat) (Ns L:List Nat):Nat→Nat→List (Nat×Nat)→List Nd→Prop
 | 0,_,o,Q=>∃ cells,CellsG C Ns 0 o cells∧0 < cells.length∧Q=[⟨2,0,0,[],cz cells⟩]
 | b+1,off,o,Q=>∃ cells,CellsG C Ns (b+1) o cells∧(b+1 < cells.length∧Q=[⟨2,0,0,[],cz cells⟩]∨¬ b+1 < cells.length∧((b+1)*gainM C Ns L o < o.length∧Q=[⟨3,0,0,[],[]⟩] ∨
   ¬ (b+1)*gainM C Ns L o < o.length∧∃ c K ch,pickK (arK C Ns L 0) o none=some c∧KidsQ (fun off k Q=>GQ C Ns L b off (lessL C Ns o (L.getD k 0)) Q) (off+1) (arK C Ns L 0 c) K ch∧Q=⟨1,(c.1:Int),(c.2:Int),ch,[]⟩ :: K))
section
variable {C:Nat} {Ns L:List Nat}
theorem few_len {b:Nat} {o:List (Nat×Nat)} {c:Nat×Nat} (hf:Few C Ns L) (ho:∀ d∈o,d∈cellsOf Ns) (hn:¬ CovK C Ns L 0 (b+1) o) (hc:pickK (arK C Ns L 0) o none=some c):(arK C Ns L 0 c).length≤8:=by
 rcases hf 0 o c ho hc with h | h
 ·exact h
 ·cases hl:arK C Ns L 0 c with
  | nil=>decide
  | cons k l =>
   exfalso
   have hk:k∈arK C Ns L 0 c:=by rw [hl];exact .head _
   refine hn ⟨[k],by simp,fun k' hk'=>?_,fun d hd=>⟨k,.head _,?_⟩⟩
   ·rw [List.mem_singleton.1 hk'];exact ⟨Nat.zero_le _,(mem_arK.1 hk).1⟩
   ·cases hi:inS C Ns (L.getD k 0) d with
    | true=>rfl
    | false =>
     have:=mem_lessL.2 ⟨hd,hi⟩
     rw [h k hk] at this;cases this
theorem cov_kid {b:Nat} {o:List (Nat×Nat)} {c:Nat×Nat} {k:Nat} (hn:¬ CovK C Ns L 0 (b+1) o) (hk:k∈arK C Ns L 0 c):¬ CovK C Ns L 0 b (lessL C Ns o (L.getD k 0)):=by
 rintro ⟨ks,h1,h2,h3⟩
 refine hn ⟨k :: ks,by simpa using h1,fun k' hk'=>?_,fun d hd=>?_⟩
 ·rcases List.mem_cons.1 hk' with rfl | hk'
  ·exact ⟨Nat.zero_le _,(mem_arK.1 hk).1⟩
  ·exact h2 k' hk'
 ·cases hi:inS C Ns (L.getD k 0) d with
  | true=>exact ⟨k,.head _,hi⟩
  | false =>
   obtain ⟨k',hk',he⟩:=h3 d (mem_lessL.2 ⟨hd,hi⟩)
   exact ⟨k',.tail _ hk',he⟩
theorem cov_ne {b:Nat} {o:List (Nat×Nat)} (hn:¬ CovK C Ns L 0 b o):o≠[]:=fun e=>hn ⟨[],by simp,by simp,by rw [e];simp⟩
theorem foolS_ne {l:List (Nat×Nat)} {c:Nat×Nat} (h:l≠[]):foolS C Ns l c≠[]:=by
 unfold foolS
 split
 ·simp
 ·exact h
theorem foolF_ne:∀ {o l:List (Nat×Nat)},l≠[]→o.foldl (foolS C Ns) l≠[]
 | [],_,h=>h
 | c :: o,l,h=>by rw [List.foldl_cons];exact foolF_ne (foolS_ne h)
theorem fool_one {c:Nat×Nat} (h:c∈cellsOf Ns) (hin:rowsIn C Ns):foolP C Ns (cz [c])=true:=by
 obtain ⟨h1,h2⟩:=mem_cellsOf.1 h
 have hc:c.2 < C:=by
  have:=hin c.1 h1
  rw [← this,Nat.testBit_and,testBit_lowN,Bool.and_eq_true,decide_eq_true_eq] at h2
  exact h2.2
 have hm:mhas C Ns (c.1:Int) (c.2:Int)=true:=(mhas_at h1 hc).trans h2
 show (!(([((c.1:Int),(c.2:Int))]).any fun c=>!mhas C Ns c.1 c.2)&&apartB C Ns [((c.1:Int),(c.2:Int))])=true
 simp [hm,apartB]
theorem fool_pos {o:List (Nat×Nat)} (hin:rowsIn C Ns) (ho:∀ d∈o,d∈cellsOf Ns) (hne:o≠[]):0 < (foolL C Ns o).length:=by
 match o,hne,ho with
 | c :: o,_,ho =>
  unfold foolL
  rw [List.foldl_cons]
  refine List.length_pos_iff.2 (foolF_ne ?_)
  unfold foolS
  rw [if_pos]
  ·simp
  ·exact fool_one (ho c (.head _)) hin
theorem cells_small (hR:Ns.length≤5) (hC:C≤5) (hin:rowsIn C Ns) {Os:List Nat} (hU:Under Ns Os):(cellsOf Os).length≤1000:=by
 have h1:∀ k,k≤Os.length→(onesC Os k).length≤k*5:=by
  intro k
  induction k with
  | zero=>intro _;simp [onesC]
  | succ k ih =>
   intro hk
   have h1:=ih (by omega)
   have h2:(mems (Os.getD k 0)).length≤5:=by
    rw [mems_len]
    refine Nat.le_trans (card_bits (C:=C) fun j hj=>?_) hC
    have hj2:=hU.2 k (by omega) j hj
    have:=hin k (by rw [← hU.1];omega)
    rw [← this,Nat.testBit_and,testBit_lowN,Bool.and_eq_true,decide_eq_true_eq] at hj2
    exact hj2.2
   rw [onesC_succ,List.length_append,List.length_map]
   omega
 have h2:=h1 Os.length (Nat.le_refl _)
 rw [onesC_all] at h2
 have:=hU.1
 omega
end
end Go.Proofs.YtafpmkdlciioaaaGreatDoor
