import Derived.Test.YtafpmkdlciioaaaGreatDoorPk04
import Derived.Test.YtafpmkdlciioaaaGreatDoorPk01
import Derived.Test.YtafpmkdlciioaaaGreatDoorPk03
import Derived.Deep.DeepCutAuto
set_option maxHeartbeats 2000000
set_option maxRecDepth 100000
namespace Go.Proofs.YtafpmkdlciioaaaGreatDoor
open Go.RowKit
def lecR (N M:Nat):Bool:=if N=M then false else if N%2=M%2 then lecR (N/2) (M/2) else decide (M%2=1)
termination_by N+M
decreasing_by omega
theorem lecR_irrefl (N:Nat):lecR N N=false:=by rw [lecR];simp
theorem lecR_step {N M:Nat} (h:N%2=M%2):lecR N M=lecR (N/2) (M/2):=by
 by_cases e:N=M
 ·subst e;rw [lecR_irrefl,lecR_irrefl]
 ·rw [lecR,if_neg e,if_pos h]
theorem lecR_diff {N M:Nat} (h:N%2≠M%2):lecR N M=decide (M%2=1):=by
 rw [lecR,if_neg (fun e=>h (by rw [e])),if_neg h]
theorem lecR_total:∀ N M,N≠M→lecR N M=false→lecR M N=true:=by
 intro N
 induction N using Nat.strongRecOn with
 | _ N ih =>
  intro M hne h
  by_cases hp:N%2=M%2
  ·rw [lecR_step hp] at h
   rw [lecR_step hp.symm]
   by_cases h0:N=0
   ·
    subst h0
    have key:∀ M,M≠0→lecR 0 M=true:=by
     intro M
     induction M using Nat.strongRecOn with
     | _ M ih2 =>
      intro hM
      by_cases hq:0%2=M%2
      ·rw [lecR_step hq];exact ih2 _ (by omega) (by omega)
      ·rw [lecR_diff hq];simp;omega
    have:=key (M/2) (by omega)
    rw [Nat.zero_div] at h
    rw [this] at h;cases h
   ·exact ih _ (by omega) _ (by omega) h
  ·rw [lecR_diff hp] at h
   rw [lecR_diff (Ne.symm hp)]
   simp at h ⊢;omega
theorem lecR_asymm:∀ N M,lecR N M=true→lecR M N=false:=by
 intro N
 induction N using Nat.strongRecOn with
 | _ N ih =>
  intro M h
  by_cases e:N=M
  ·subst e;rw [lecR_irrefl] at h;cases h
  ·by_cases hp:N%2=M%2
   ·rw [lecR_step hp] at h
    rw [lecR_step hp.symm]
    by_cases h0:N=0
    ·subst h0
     have key:∀ M,lecR M 0=false:=by
      intro M
      induction M using Nat.strongRecOn with
      | _ M ih2 =>
       by_cases hM:M=0
       ·subst hM;exact lecR_irrefl 0
       ·by_cases hq:M%2=0%2
        ·rw [lecR_step hq];exact ih2 _ (by omega)
        ·rw [lecR_diff hq];simp
     rw [Nat.zero_div];exact key _
    ·exact ih _ (by omega) _ h
   ·rw [lecR_diff hp] at h
    rw [lecR_diff (Ne.symm hp)]
    simp at h ⊢;omega
theorem lecR_trans:∀ N M K,lecR N M=true→lecR M K=true→lecR N K=true:=by
 intro N M K
 induction hs:N+M+K using Nat.strongRecOn generalizing N M K with
 | _ s ih =>
  intro h1 h2
  have n1:N≠M:=fun e=>by rw [e,lecR_irrefl] at h1;cases h1
  have n2:M≠K:=fun e=>by rw [e,lecR_irrefl] at h2;cases h2
  by_cases hp:N%2=M%2
  ·by_cases hq:M%2=K%2
   ·rw [lecR_step hp] at h1
    rw [lecR_step hq] at h2
    rw [lecR_step (hp.trans hq)]
    exact ih _ (by omega) _ _ _ rfl h1 h2
   ·rw [lecR_diff hq] at h2
    rw [lecR_diff (by omega)];exact h2
  ·rw [lecR_diff hp] at h1
   by_cases hq:M%2=K%2
   ·rw [lecR_diff (by omega)]
    simp at h1 ⊢;omega
   ·rw [lecR_diff hq] at h2
    simp at h1 h2;omega
theorem lecR_at:∀ (i N M:Nat),(∀ j,j < i→N.testBit j=M.testBit j)→N.testBit i=false→M.testBit i=true→lecR N M=true
 | 0,N,M,_,hN,hM=>by
  have m1:M%2=1:=by simpa using hM
  have n1:¬ N%2=1:=by simpa using hN
  rw [lecR_diff (by omega),m1];rfl
 | i+1,N,M,hj,hN,hM=>by
  have h0:=hj 0 (by omega)
  have hp:N%2=M%2:=by
   have:=Nat.testBit_zero N
   have:=Nat.testBit_zero M
   by_cases a:N%2=1 <;> by_cases b:M%2=1 <;> simp_all <;> omega
  rw [lecR_step hp]
  exact lecR_at i _ _ (fun j hj'=>by rw [Nat.testBit_div_two,Nat.testBit_div_two];exact hj (j+1) (by omega)) (by rw [Nat.testBit_div_two];exact hN) (by rw [Nat.testBit_div_two];exact hM)
def Lec (l:List Nat):Prop:=l.Pairwise fun a b=>lecR a b=true
theorem Lec.ext:∀ {l m:List Nat},Lec l→Lec m→(∀ x,x∈l↔x∈m)→l=m
 | [],[],_,_,_=>rfl
 | [],b :: m,_,_,h=>by have:=(h b).2 (by simp);simp at this
 | a :: l,[],_,_,h=>by have:=(h a).1 (by simp);simp at this
 | a :: l,b :: m,hl,hm,h=>by
  unfold Lec at hl hm
  rw [List.pairwise_cons] at hl hm
  have e:a=b:=by
   rcases List.mem_cons.1 ((h a).1 (by simp)) with e | ha
   ·exact e
   ·rcases List.mem_cons.1 ((h b).2 (by simp)) with e | hb
    ·exact e.symm
    ·have h1:=hm.1 a ha
     have h2:=hl.1 b hb
     rw [lecR_asymm _ _ h1] at h2;cases h2
  subst e
  rw [Lec.ext hl.2 hm.2 fun x=>?_]
  constructor
  ·intro hx
   rcases List.mem_cons.1 ((h x).1 (by simp [hx])) with rfl | hm'
   ·have:=hl.1 _ hx;rw [lecR_irrefl] at this;cases this
   ·exact hm'
  ·intro hx
   rcases List.mem_cons.1 ((h x).2 (by simp [hx])) with rfl | hm'
   ·have:=hm.1 _ hx;rw [lecR_irrefl] at this;cases this
   ·exact hm'
def insL (s:Nat):List Nat→List Nat
 | []=>[s]
 | t :: l=>if lecR t s=true then t :: insL s l else s :: t :: l
theorem mem_insL (s x:Nat):∀ l,x∈insL s l↔x=s∨x∈l
 | []=>by simp [insL]
 | t :: l=>by
  rw [insL]
  split
  ·rw [List.mem_cons,mem_insL s x l,List.mem_cons]
   constructor <;> rintro (h | h | h) <;> simp [h]
  ·simp
theorem Lec.ins {s:Nat}:∀ {l:List Nat},Lec l→s ∉ l→Lec (insL s l)
 | [],_,_=>by simp [insL,Lec]
 | t :: l,h,hn=>by
  unfold Lec at *
  rw [insL]
  rw [List.pairwise_cons] at h
  by_cases hs:lecR t s=true
  ·rw [if_pos hs,List.pairwise_cons]
   refine ⟨fun x hx=>?_,Lec.ins (l:=l) h.2 (fun hm=>hn (by simp [hm]))⟩
   rcases (mem_insL s x l).1 hx with rfl | hx
   ·exact hs
   ·exact h.1 x hx
  ·rw [if_neg hs,List.pairwise_cons]
   have hst:lecR s t=true:=lecR_total t s (fun e=>hn (by simp [e])) (by simpa using hs)
   refine ⟨fun x hx=>?_,List.pairwise_cons.2 h⟩
   rcases List.mem_cons.1 hx with rfl | hx
   ·exact hst
   ·exact lecR_trans _ _ _ hst (h.1 x hx)
def sortL:List Nat→List Nat
 | []=>[]
 | s :: l=>insL s (sortL l)
theorem mem_sortL (x:Nat):∀ l,x∈sortL l↔x∈l
 | []=>by simp [sortL]
 | s :: l=>by rw [sortL,mem_insL,mem_sortL x l,List.mem_cons]
theorem Lec.sort:∀ {l:List Nat},l.Nodup→Lec (sortL l)
 | [],_=>by simp [sortL,Lec]
 | s :: l,h=>by
  rw [List.nodup_cons] at h
  exact Lec.ins (Lec.sort h.2) (by rw [mem_sortL];exact h.1)
def inC (C:Nat) (Ns:List Nat) (i j s:Nat):Bool:=decide (cloN C Ns s=s)&&s.testBit j&&(havN C Ns s).testBit i
def conL (C:Nat) (Ns:List Nat) (i j:Nat):List Nat:=sortL ((List.range (2 ^ C)).filter (inC C Ns i j))
theorem conL_lec (C:Nat) (Ns:List Nat) (i j:Nat):Lec (conL C Ns i j):=Lec.sort (List.nodup_range.filter _)
theorem mem_conL {C:Nat} {Ns:List Nat} {i j s:Nat}:s∈conL C Ns i j↔inC C Ns i j s=true:=by
 unfold conL
 rw [mem_sortL,List.mem_filter,List.mem_range]
 refine ⟨fun h=>h.2,fun h=>⟨?_,h⟩⟩
 unfold inC at h
 simp only [Bool.and_eq_true,decide_eq_true_eq] at h
 rw [← h.1.1]
 exact Nat.lt_pow_two_of_testBit _ fun x hx=>by
  cases hb:(cloN C Ns s).testBit x
  ·rfl
  ·have:=comN_lt hb;omega
def inS (C:Nat) (Ns:List Nat) (s:Nat) (c:Nat×Nat):Bool:=s.testBit c.2&&(havN C Ns s).testBit c.1
def lessL (C:Nat) (Ns:List Nat) (o:List (Nat×Nat)) (s:Nat):List (Nat×Nat):=o.filter fun c=>!inS C Ns s c
theorem mem_lessL {C:Nat} {Ns:List Nat} {o:List (Nat×Nat)} {s:Nat} {c:Nat×Nat}:c∈lessL C Ns o s↔c∈o∧inS C Ns s c=false:=by
 unfold lessL
 rw [List.mem_filter,Bool.not_eq_true']
theorem lessL_len (C:Nat) (Ns:List Nat) (o:List (Nat×Nat)) (s:Nat):(lessL C Ns o s).length≤o.length:=List.length_filter_le _ _
def Cov (C:Nat) (Ns:List Nat) (b:Nat) (o:List (Nat×Nat)):Prop:=∃ l:List Nat,l.length≤b∧(∀ s∈l,cloN C Ns s=s)∧∀ c∈o,∃ s∈l,inS C Ns s c=true
def covF (C:Nat) (Ns:List Nat):Nat→List (Nat×Nat)→Bool
 | _,[]=>true
 | 0,_ :: _=>false
 | b+1,c :: o=>(conL C Ns c.1 c.2).any fun s=>covF C Ns b (lessL C Ns (c :: o) s)
theorem mem_con {C:Nat} {Ns:List Nat} {s:Nat} {c:Nat×Nat}:s∈conL C Ns c.1 c.2↔cloN C Ns s=s∧inS C Ns s c=true:=by
 rw [mem_conL,inC,inS]
 simp only [Bool.and_eq_true,decide_eq_true_eq,and_assoc]
theorem covF_iff (C:Nat) (Ns:List Nat):∀ (b:Nat) (o:List (Nat×Nat)),covF C Ns b o=true↔Cov C Ns b o
 | b,[]=>by
  unfold covF
  exact ⟨fun _=>⟨[],by simp,by simp,by simp⟩,fun _=>rfl⟩
 | 0,c :: o=>by
  unfold covF
  refine ⟨fun h=>(by cases h),?_⟩
  rintro ⟨l,hl,_,hc⟩
  obtain ⟨s,hs,_⟩:=hc c (by simp)
  have:l=[]:=List.eq_nil_of_length_eq_zero (by omega)
  subst this;simp at hs
 | b+1,c :: o=>by
  rw [covF,List.any_eq_true]
  constructor
  ·rintro ⟨s,hs,h⟩
   obtain ⟨l,hl,hk,hc⟩:=(covF_iff C Ns b _).1 h
   refine ⟨s :: l,by simp;omega,fun t ht=>?_,fun d hd=>?_⟩
   ·rcases List.mem_cons.1 ht with rfl | ht
    ·exact (mem_con.1 hs).1
    ·exact hk t ht
   ·cases hin:inS C Ns s d
    ·obtain ⟨t,ht,h2⟩:=hc d (mem_lessL.2 ⟨hd,hin⟩)
     exact ⟨t,by simp [ht],h2⟩
    ·exact ⟨s,by simp,hin⟩
  ·rintro ⟨l,hl,hk,hc⟩
   obtain ⟨s,hs,h⟩:=hc c (by simp)
   refine ⟨s,mem_con.2 ⟨hk s hs,h⟩,(covF_iff C Ns b _).2 ⟨l.erase s,?_,fun t ht=>hk t (List.mem_of_mem_erase ht),fun d hd=>?_⟩⟩
   ·rw [List.length_erase_of_mem hs];omega
   ·obtain ⟨h1,h2⟩:=mem_lessL.1 hd
    obtain ⟨t,ht,h3⟩:=hc d h1
    refine ⟨t,?_,h3⟩
    by_cases e:t=s
    ·subst e;rw [h2] at h3;cases h3
    ·exact (List.mem_erase_of_ne e).2 ht
structure Nd where
 kind:Int
 row:Int
 col:Int
 ch:List Int
 cells:List (Int×Int)
instance:Inhabited Nd:=⟨⟨0,0,0,[],[]⟩⟩
def isIn (o:List (Nat×Nat)) (c:Int×Int):Bool:=o.any fun d=>decide (c.1=d.1∧c.2=d.2)
theorem isIn_iff {o:List (Nat×Nat)} {c:Int×Int}:isIn o c=true↔∃ d∈o,c=((d.1:Int),(d.2:Int)):=by
 unfold isIn
 rw [List.any_eq_true]
 simp only [decide_eq_true_eq,Prod.ext_iff]
def indep (C:Nat) (Ns:List Nat) (a b:Int×Int):Bool:=!mhas C Ns a.1 b.2||!mhas C Ns b.1 a.2
def apartB (C:Nat) (Ns:List Nat) (l:List (Int×Int)):Bool:=decide (l.Pairwise fun b a=>a≠b∧indep C Ns a b=true)
def mostL (C:Nat) (Ns:List Nat) (o:List (Nat×Nat)):Nat:=(((List.range (2 ^ C)).filter fun s=>decide (cloN C Ns s=s)).map fun s=>o.length-(lessL C Ns o s).length).foldl max 0
theorem foldl_max_le (l:List Nat):∀ (a:Nat),a≤l.foldl max a∧∀ x∈l,x≤l.foldl max a:=by
 induction l with
 | nil=>intro a;simp
 | cons y l ih =>
  intro a
  rw [List.foldl_cons]
  obtain ⟨h1,h2⟩:=ih (max a y)
  refine ⟨by omega,fun x hx=>?_⟩
  rcases List.mem_cons.1 hx with rfl | hx
  ·omega
  ·exact h2 x hx
theorem mostL_le {C:Nat} {Ns:List Nat} {o:List (Nat×Nat)} {s:Nat} (hs:cloN C Ns s=s):o.length-(lessL C Ns o s).length≤mostL C Ns o:=by
 unfold mostL
 refine (foldl_max_le _ 0).2 _ (List.mem_map.2 ⟨s,List.mem_filter.2 ⟨List.mem_range.2 ?_,decide_eq_true hs⟩,rfl⟩)
 rw [← hs]
 exact Nat.lt_pow_two_of_testBit _ fun x hx=>by
  cases hb:(cloN C Ns s).testBit x
  ·rfl
  ·have:=comN_lt hb;omega
def kidsF (g:Nat→Int→Int×Int):List (Nat×Int)→Int×Int
 | []=>(1,0)
 | (s,c) :: t=>if (g s c).1≠1 then g s c else kidsF g t
def nodeR (C:Nat) (Ns:List Nat) (P:List Nd):Nat→Int→Int→List (Nat×Nat)→Int×Int
 | 0,_,_,_=>(1,0)
 | f+1,n,b,o =>
  let x:=P.getD n.toNat default
  if x.kind=2 then (if x.cells.all (isIn o)=false then (3,n) else if (x.cells.length:Int)≤b∨apartB C Ns x.cells=false then (5,n) else (1,0))
  else if x.kind=3 then (if 12 < C∨(o.length:Int)≤b*mostL C Ns o then (5,n) else (1,0))
  else if isIn o (x.row,x.col)=false then (3,n)
  else if b < 1 then (5,n)
  else if (conL C Ns x.row.toNat x.col.toNat).length≠x.ch.length then (4,n)
  else kidsF (fun s c=>nodeR C Ns P f c (b-1) (lessL C Ns o s)) ((conL C Ns x.row.toNat x.col.toNat).zip x.ch)
theorem kidsF_sound {g:Nat→Int→Int×Int}:∀ {l:List (Nat×Int)},(kidsF g l).1=1→∀ x∈l,(g x.1 x.2).1=1
 | [],_,x,hx=>by simp at hx
 | (s,c) :: t,h,x,hx=>by
  rw [kidsF] at h
  by_cases hg:(g s c).1=1
  ·rw [if_neg (by simp [hg])] at h
   rcases List.mem_cons.1 hx with rfl | hx
   ·exact hg
   ·exact kidsF_sound h x hx
  ·rw [if_pos hg] at h;exact absurd h hg
theorem indep_in {C:Nat} {Ns:List Nat} (hl:Ns.length≤4096) {s:Nat} (hs:cloN C Ns s=s) {a b:Nat×Nat} (ha:inS C Ns s a=true) (hb:inS C Ns s b=true):indep C Ns ((a.1:Int),(a.2:Int)) ((b.1:Int),(b.2:Int))=false:=by
 unfold inS at ha hb
 rw [Bool.and_eq_true] at ha hb
 have key:∀ {x y:Nat×Nat},(havN C Ns s).testBit x.1=true→s.testBit y.2=true→mhas C Ns (x.1:Int) (y.2:Int)=true:=by
  intro x y hx hy
  have hyc:y.2 < C:=comN_lt (by rw [cloN] at hs;rw [hs];exact hy)
  have:=(testBit_havN C Ns hl s x.1).1 hx
  rw [mhas_at this.1 hyc]
  exact this.2 _ hy hyc
 unfold indep
 rw [key (x:=a) (y:=b) ha.2 hb.1,key (x:=b) (y:=a) hb.2 ha.1];rfl
theorem len_le_one {α:Type} {R:α→α→Prop} {l:List α} (h:l.Pairwise R) (hn:∀ a∈l,∀ b∈l,¬ R a b):l.length≤1:=by
 match l,h,hn with
 | [],_,_=>simp
 | [_],_,_=>simp
 | a :: b :: l,h,hn =>
  rw [List.pairwise_cons] at h
  exact absurd (h.1 b (by simp)) (hn a (by simp) b (by simp))
theorem fool_le {C:Nat} {Ns:List Nat} (hl:Ns.length≤4096):∀ (l:List Nat) (cs:List (Nat×Nat)),(∀ s∈l,cloN C Ns s=s) →
  (cs.Pairwise fun b a=>a≠b∧indep C Ns ((a.1:Int),(a.2:Int)) ((b.1:Int),(b.2:Int))=true)→(∀ c∈cs,∃ s∈l,inS C Ns s c=true)→cs.length≤l.length
 | [],cs,_,_,hc=>by
  match cs,hc with
  | [],_=>simp
  | c :: _,hc=>obtain ⟨s,hs,_⟩:=hc c (by simp);simp at hs
 | s :: l,cs,hk,hp,hc=>by
  have h1:(cs.filter (inS C Ns s)).length≤1:=len_le_one (hp.filter _) fun a ha b hb hr=>by
   rw [List.mem_filter] at ha hb
   rw [indep_in hl (hk s (by simp)) hb.2 ha.2] at hr
   exact absurd hr.2 (by simp)
  have h2:=fool_le hl l (cs.filter fun c=>!inS C Ns s c) (fun t ht=>hk t (by simp [ht])) (hp.filter _) fun c hc'=>by
   rw [List.mem_filter] at hc'
   obtain ⟨t,ht,h⟩:=hc c hc'.1
   rcases List.mem_cons.1 ht with rfl | ht
   ·have:=hc'.2;rw [h] at this;cases this
   ·exact ⟨t,ht,h⟩
  have h3:cs.length=(cs.filter (inS C Ns s)).length+(cs.filter fun c=>!inS C Ns s c).length:=by
   rw [← List.countP_eq_length_filter,← List.countP_eq_length_filter,List.length_eq_countP_add_countP (inS C Ns s)]
   congr 2
   funext c;cases inS C Ns s c <;> rfl
  rw [List.length_cons];omega
theorem gain_le {C:Nat} {Ns:List Nat} {K:Nat}:∀ (l:List Nat) (o:List (Nat×Nat)),(∀ s∈l,cloN C Ns s=s)→(∀ s,cloN C Ns s=s→o.countP (inS C Ns s)≤K)→(∀ c∈o,∃ s∈l,inS C Ns s c=true)→o.length≤l.length*K
 | [],o,_,_,hc=>by
  match o,hc with
  | [],_=>simp
  | c :: _,hc=>obtain ⟨s,hs,_⟩:=hc c (by simp);simp at hs
 | s :: l,o,hk,hK,hc=>by
  have h2:=gain_le (K:=K) l (lessL C Ns o s) (fun t ht=>hk t (by simp [ht])) (fun t ht=>Nat.le_trans (by unfold lessL;rw [List.countP_filter];exact List.countP_mono_left fun c _ h=>by simp at h;exact h.1) (hK t ht)) fun c hc'=>by
   obtain ⟨h1,h2⟩:=mem_lessL.1 hc'
   obtain ⟨t,ht,h⟩:=hc c h1
   rcases List.mem_cons.1 ht with rfl | ht
   ·rw [h2] at h;cases h
   ·exact ⟨t,ht,h⟩
  have h1:=hK s (hk s (by simp))
  have h3:o.length=o.countP (inS C Ns s)+(lessL C Ns o s).length:=by
   unfold lessL
   rw [← List.countP_eq_length_filter,List.length_eq_countP_add_countP (inS C Ns s)]
   congr 2
   funext c;cases inS C Ns s c <;> rfl
  rw [List.length_cons,Nat.add_mul,Nat.one_mul];omega
theorem gain_eq (C:Nat) (Ns:List Nat) (o:List (Nat×Nat)) (s:Nat):o.length-(lessL C Ns o s).length=o.countP (inS C Ns s):=by
 have h3:o.length=o.countP (inS C Ns s)+(lessL C Ns o s).length:=by
  unfold lessL
  rw [← List.countP_eq_length_filter,List.length_eq_countP_add_countP (inS C Ns s)]
  congr 2
  funext c;cases inS C Ns s c <;> rfl
 omega
def FormOK (P:List Nd):Prop:=∀ n,n < P.length→(1≤(P.getD n default).kind∧(P.getD n default).kind≤3)∧∀ c∈(P.getD n default).ch,(n:Int) < c∧c < P.length
theorem cov_step {C:Nat} {Ns:List Nat} {b:Nat} {o:List (Nat×Nat)} {c:Nat×Nat} (hc:c∈o) (h:Cov C Ns b o):∃ s∈conL C Ns c.1 c.2,∃ b',b=b'+1∧Cov C Ns b' (lessL C Ns o s):=by
 obtain ⟨l,hl,hk,hcv⟩:=h
 obtain ⟨s,hs,hin⟩:=hcv c hc
 have hpos:0 < l.length:=List.length_pos_of_mem hs
 obtain ⟨b',rfl⟩:∃ b',b=b'+1:=⟨b-1,by omega⟩
 refine ⟨s,mem_con.2 ⟨hk s hs,hin⟩,b',rfl,l.erase s,?_,fun t ht=>hk t (List.mem_of_mem_erase ht),fun d hd=>?_⟩
 ·rw [List.length_erase_of_mem hs];omega
 ·obtain ⟨h1,h2⟩:=mem_lessL.1 hd
  obtain ⟨t,ht,h3⟩:=hcv d h1
  refine ⟨t,?_,h3⟩
  by_cases e:t=s
  ·subst e;rw [h2] at h3;cases h3
  ·exact (List.mem_erase_of_ne e).2 ht
theorem mem_zip_left {α β:Type}:∀ {l:List α} {m:List β} {a:α},l.length=m.length→a∈l→∃ b,(a,b)∈l.zip m
 | a' :: l,b' :: m,a,h,ha=>by
  rcases List.mem_cons.1 ha with rfl | ha
  ·exact ⟨b',by simp⟩
  ·obtain ⟨b,hb⟩:=mem_zip_left (l:=l) (m:=m) (by simpa using h) ha
   exact ⟨b,by simp [hb]⟩
 | [],_,_,_,ha=>by simp at ha
 | _ :: _,[],_,h,_=>by simp at h
theorem nodeR_sound {C:Nat} {Ns:List Nat} (hl:Ns.length≤4096) {P:List Nd} (hP:FormOK P):∀ (f n:Nat) (b:Int) (o:List (Nat×Nat)),n < P.length→P.length≤f+n→0≤b→(nodeR C Ns P f n b o).1=1→¬ Cov C Ns b.toNat o
 | 0,n,b,o,hn,hf,_,_=>by omega
 | f+1,n,b,o,hn,hf,hb,h=>by
  rw [nodeR,Int.toNat_natCast] at h
  obtain ⟨hk,hch⟩:=hP n hn
  generalize P.getD n default=x at h hk hch
  intro hcov
  by_cases k2:x.kind=2
  ·rw [if_pos k2] at h
   by_cases h1:x.cells.all (isIn o)=false
   ·rw [if_pos h1] at h;exact absurd h (by simp)
   ·rw [if_neg h1] at h
    by_cases h2:(x.cells.length:Int)≤b∨apartB C Ns x.cells=false
    ·rw [if_pos h2] at h;exact absurd h (by simp)
    ·rw [not_or] at h2
     have hall:∀ c∈x.cells,∃ d∈o,c=((d.1:Int),(d.2:Int)):=fun c hc=>isIn_iff.1 (List.all_eq_true.1 (by simpa using h1) c hc)
     have hap:x.cells.Pairwise fun b a=>a≠b∧indep C Ns a b=true:=by
      have:=h2.2;unfold apartB at this;simpa using this
     have hmap:x.cells=(x.cells.map fun c=>(c.1.toNat,c.2.toNat)).map fun d:Nat×Nat=>((d.1:Int),(d.2:Int)):=by
      rw [List.map_map]
      conv=>lhs;rw [← List.map_id x.cells]
      refine List.map_congr_left fun c hc=>?_
      obtain ⟨d,_,rfl⟩:=hall c hc
      simp
     obtain ⟨l,hll,hkk,hcc⟩:=hcov
     rw [hmap,List.pairwise_map] at hap
     have:=fool_le hl l _ hkk (hap.imp fun {b a} hh=>⟨fun e=>hh.1 (by rw [e]),hh.2⟩) fun c hc=>by
      obtain ⟨c0,hc0,rfl⟩:=List.mem_map.1 hc
      obtain ⟨d,hd,rfl⟩:=hall c0 hc0
      simpa using hcc d hd
     rw [List.length_map] at this
     omega
  ·rw [if_neg k2] at h
   by_cases k3:x.kind=3
   ·rw [if_pos k3] at h
    by_cases h2:12 < C∨(o.length:Int)≤b*mostL C Ns o
    ·rw [if_pos h2] at h;exact absurd h (by simp)
    ·rw [not_or] at h2
     obtain ⟨l,hll,hkk,hcc⟩:=hcov
     have h4:=gain_le (K:=mostL C Ns o) l o hkk (fun s hs=>by rw [← gain_eq];exact mostL_le hs) hcc
     have h5:l.length*mostL C Ns o≤b.toNat*mostL C Ns o:=Nat.mul_le_mul_right _ hll
     have h6:((b.toNat*mostL C Ns o:Nat):Int)=b*mostL C Ns o:=by rw [Int.natCast_mul,Int.toNat_of_nonneg hb]
     omega
   ·rw [if_neg k3] at h
    by_cases h1:isIn o (x.row,x.col)=false
    ·rw [if_pos h1] at h;exact absurd h (by simp)
    ·rw [if_neg h1] at h
     by_cases h2:b < 1
     ·rw [if_pos h2] at h;exact absurd h (by simp)
     ·rw [if_neg h2] at h
      by_cases h3:(conL C Ns x.row.toNat x.col.toNat).length≠x.ch.length
      ·rw [if_pos h3] at h;exact absurd h (by simp)
      ·rw [if_neg h3] at h
       rw [Bool.not_eq_false] at h1
       obtain ⟨d,hd,e⟩:=isIn_iff.1 h1
       obtain ⟨e1,e2⟩:=Prod.mk.inj e
       rw [e1,e2,Int.toNat_natCast,Int.toNat_natCast] at h h3
       obtain ⟨s,hs,b',hb',hcv⟩:=cov_step hd hcov
       obtain ⟨ch,hz⟩:=mem_zip_left (by simpa using h3) hs
       have h7:=kidsF_sound h _ hz
       dsimp only at h7
       obtain ⟨g1,g2⟩:=hch ch (List.of_mem_zip hz).2
       obtain ⟨m,rfl⟩:=Int.eq_ofNat_of_zero_le (show 0≤ch by omega)
       refine nodeR_sound hl hP f m (b-1) _ (by omega) (by omega) (by omega) h7 ?_
       rw [show (b-1).toNat=b' by omega]
       exact hcv
def At (P:List Nd) (off:Nat) (L:List Nd):Prop:=∃ pre post,P=pre ++ L ++ post∧pre.length=off
theorem At.get {P:List Nd} {off:Nat} {L:List Nd} (h:At P off L) {i:Nat} (hi:i < L.length):P.getD (off+i) default=L.getD i default:=by
 obtain ⟨pre,post,rfl,rfl⟩:=h
 rw [List.getD_eq_getElem?_getD,List.getD_eq_getElem?_getD,List.append_assoc,List.getElem?_append_right (by omega),Nat.add_sub_cancel_left,List.getElem?_append_left hi]
theorem At.left {P:List Nd} {off:Nat} {L K:List Nd} (h:At P off (L ++ K)):At P off L:=by
 obtain ⟨pre,post,rfl,rfl⟩:=h;exact ⟨pre,K ++ post,by simp,rfl⟩
theorem At.right {P:List Nd} {off:Nat} {L K:List Nd} (h:At P off (L ++ K)):At P (off+L.length) K:=by
 obtain ⟨pre,post,rfl,rfl⟩:=h;exact ⟨pre ++ L,post,by simp,by simp⟩
theorem At.tail {P:List Nd} {off:Nat} {x:Nd} {K:List Nd} (h:At P off (x :: K)):At P (off+1) K:=At.right (L:=[x]) h
def chOf (L:List Nd):List Int:=L.flatMap Nd.ch
theorem chOf_append (L K:List Nd):chOf (L ++ K)=chOf L ++ chOf K:=by simp [chOf]
def Tree (L:List Nd) (off:Nat):Prop:=(∀ i,i < L.length→((1≤(L.getD i default).kind∧(L.getD i default).kind≤3)∧((L.getD i default).kind≠1→(L.getD i default).ch=[]))∧∀ c∈(L.getD i default).ch,((off+i:Nat):Int) < c∧c < ((off+L.length:Nat):Int)) ∧
 (chOf L).Perm ((List.range' (off+1) (L.length-1)).map Int.ofNat)
theorem range_cut (a n m:Nat):List.range' a (n+m)=List.range' a n ++ List.range' (a+n) m:=by
 rw [List.range'_append_1]
theorem foldl_max_bound (B:Nat):∀ (l:List Nat) (a:Nat),a≤B→(∀ x∈l,x≤B)→l.foldl max a≤B
 | [],a,ha,_=>ha
 | x :: l,a,ha,h=>by
  rw [List.foldl_cons]
  exact foldl_max_bound B l _ (by have:=h x (by simp);omega) fun y hy=>h y (by simp [hy])
theorem clo_lt (C:Nat) (Ns:List Nat) (s:Nat):cloN C Ns s < 2 ^ C:=Nat.lt_pow_two_of_testBit _ fun x hx=>by
 cases hb:(cloN C Ns s).testBit x
 ·rfl
 ·have:=comN_lt hb;omega
def oneS (C:Nat) (Ns:List Nat) (s:Nat):Bool:=decide (cloN C Ns s=s)&&!decide (havN C Ns s=0)
def allTo (C:Nat) (Ns:List Nat):Nat→List Nat
 | 0=>[]
 | n+1=>if n≠0∧oneS C Ns n=true then insL n (allTo C Ns n) else allTo C Ns n
def allL (C:Nat) (Ns:List Nat):List Nat:=allTo C Ns (2 ^ C)
theorem mem_allTo {C:Nat} {Ns:List Nat} {s:Nat}:∀ n,s∈allTo C Ns n↔s < n∧s≠0∧oneS C Ns s=true
 | 0=>by simp [allTo]
 | n+1=>by
  have ih:=mem_allTo (C:=C) (Ns:=Ns) (s:=s) n
  rw [allTo]
  by_cases h:n≠0∧oneS C Ns n=true
  ·rw [if_pos h,mem_insL,ih]
   constructor
   ·rintro (rfl | ⟨h1,h2⟩)
    ·exact ⟨by omega,h⟩
    ·exact ⟨by omega,h2⟩
   ·rintro ⟨h1,h2⟩
    by_cases e:s=n
    ·exact .inl e
    ·exact .inr ⟨by omega,h2⟩
  ·rw [if_neg h,ih]
   constructor
   ·rintro ⟨h1,h2⟩;exact ⟨by omega,h2⟩
   ·rintro ⟨h1,h2⟩
    refine ⟨?_,h2⟩
    by_cases e:s=n
    ·subst e;exact absurd h2 h
    ·omega
theorem allTo_lec (C:Nat) (Ns:List Nat):∀ n,Lec (allTo C Ns n)
 | 0=>by simp [allTo,Lec]
 | n+1=>by
  rw [allTo]
  split
  ·exact Lec.ins (allTo_lec C Ns n) fun h=>by have:=((mem_allTo n).1 h).1;omega
  ·exact allTo_lec C Ns n
theorem insL_len (s:Nat):∀ l,(insL s l).length=l.length+1
 | []=>rfl
 | t :: l=>by
  rw [insL]
  split
  ·rw [List.length_cons,insL_len s l,List.length_cons]
  ·rfl
theorem allTo_len (C:Nat) (Ns:List Nat):∀ n,(allTo C Ns n).length≤n
 | 0=>by simp [allTo]
 | n+1=>by
  have:=allTo_len C Ns n
  rw [allTo]
  split
  ·rw [insL_len];omega
  ·omega
theorem insL_at (s:Nat):∀ (l:List Nat) (i:Nat),i≤l.length→(∀ j x,j < i→l[j]?=some x→lecR x s=true)→(∀ x,l[i]?=some x→lecR x s=false)→insL s l=l.take i ++ s :: l.drop i
 | [],i,hi,_,_=>by
  obtain rfl:i=0:=by simpa using hi
  rfl
 | t :: l,0,_,_,h=>by
  rw [insL,if_neg (by rw [h t rfl];simp)];rfl
 | t :: l,i+1,hi,h1,h2=>by
  rw [insL,if_pos (h1 0 t (by omega) rfl),insL_at s l i (by simpa using hi) (fun j x hj hx=>h1 (j+1) x (by omega) (by simpa using hx)) (fun x hx=>h2 x (by simpa using hx))]
  simp
theorem allL_con {C:Nat} {Ns:List Nat} {i j:Nat}:(allL C Ns).filter (fun s=>inS C Ns s (i,j))=conL C Ns i j:=by
 refine Lec.ext (List.Pairwise.filter _ (allTo_lec C Ns _)) (conL_lec C Ns i j) fun s=>?_
 rw [List.mem_filter,mem_conL,allL,mem_allTo,inC]
 unfold oneS inS
 simp only [Bool.and_eq_true,decide_eq_true_eq,Bool.not_eq_true',decide_eq_false_iff_not]
 constructor
 ·rintro ⟨⟨_,_,h1,_⟩,h2,h3⟩;exact ⟨⟨h1,h2⟩,h3⟩
 ·rintro ⟨⟨h1,h2⟩,h3⟩
  refine ⟨⟨by rw [← h1];exact clo_lt C Ns s,fun e=>?_,h1,fun e=>?_⟩,h2,h3⟩
  ·subst e;simp at h2
  ·rw [e] at h3;simp at h3
def cellsOf (Os:List Nat):List (Nat×Nat):=(List.range Os.length).flatMap fun i=>(mems (Os.getD i 0)).map fun j=>(i,j)
theorem mem_cellsOf {Os:List Nat} {c:Nat×Nat}:c∈cellsOf Os↔c.1 < Os.length∧(Os.getD c.1 0).testBit c.2=true:=by
 unfold cellsOf
 rw [List.mem_flatMap]
 constructor
 ·rintro ⟨i,hi,h⟩
  obtain ⟨j,hj,rfl⟩:=List.mem_map.1 h
  exact ⟨List.mem_range.1 hi,mem_mems.1 hj⟩
 ·rintro ⟨h1,h2⟩
  exact ⟨c.1,List.mem_range.2 h1,List.mem_map.2 ⟨c.2,mem_mems.2 h2,rfl⟩⟩
theorem mems_is (N:Nat):∃ k,∀ m,k≤m→mems N=(List.range m).filter N.testBit:=by
 refine ⟨64*nw N,fun m hm=>?_⟩
 have e:mems N=(List.range (64*nw N)).filter N.testBit:=by unfold mems;rw [mTo_map]
 rw [e]
 obtain ⟨d,rfl⟩:=Nat.exists_eq_add_of_le hm
 clear hm e
 induction d with
 | zero=>rfl
 | succ d ih =>
  rw [ih,← Nat.add_assoc,List.range_succ,List.filter_append]
  have:N.testBit (64*nw N+d)=false:=testBit_ge (Nat.le_refl _) (by omega)
  simp [this]
theorem mems_under {N n:Nat} (h:∀ j,N.testBit j=true→j < n):mems N=(List.range n).filter N.testBit:=by
 obtain ⟨a,ha⟩:=mems_is N
 rw [ha (max a n) (by omega)]
 have key:∀ d,(List.range (n+d)).filter N.testBit=(List.range n).filter N.testBit:=by
  intro d
  induction d with
  | zero=>rfl
  | succ d ih =>
   rw [← Nat.add_assoc,List.range_succ,List.filter_append,ih]
   have:N.testBit (n+d)=false:=by
    cases hb:N.testBit (n+d) with
    | false=>rfl
    | true=>have:=h _ hb;omega
   simp [this]
 rw [show max a n=n+(max a n-n) by omega,key]
def minusN (N M:Nat):Nat:=N ^^^ (N&&&M)
theorem testBit_minusN (N M i:Nat):(minusN N M).testBit i=(N.testBit i&&!M.testBit i):=by
 unfold minusN
 rw [Nat.testBit_xor,Nat.testBit_and]
 cases N.testBit i <;> cases M.testBit i <;> rfl
theorem wd_minusN (N M k:Nat):wd N k&&&(18446744073709551615-wd M k)=wd (minusN N M) k:=by
 apply Nat.eq_of_testBit_eq;intro i
 have hM:=wd_lt M k
 rw [Nat.testBit_and,testBit_wd (minusN N M),testBit_minusN,testBit_wd N]
 have h1:18446744073709551615-wd M k=2 ^ 64-(wd M k+1):=by omega
 rw [h1,Nat.testBit_two_pow_sub_succ hM,testBit_wd M]
 by_cases hi:i < 64 <;> simp [hi]
theorem minus_form (N M k:Nat):bits .andNot .u64 (wd N k:Int) (wd M k:Int)=((wd (minusN N M) k:Nat):Int):=by
 rw [← wd_minusN]
 exact u64_andNot_nat _ _ (wd_lt N k) (wd_lt M k)
theorem minusN_ge {N M k:Nat} (h:nw N≤k):wd (minusN N M) k=0:=by
 rw [← wd_minusN,wd_ge h,Nat.zero_and]
theorem minus_any (v u:Value) (N M:Nat) (w:World) (hs:IsSet w v N) (ho:IsSet w u M) :
  Calls Tryz.prog 83 #[.agg #[v],.agg #[u]] w fun e w'=>∃ r,e=.returned (.agg #[r])∧IsSet w' r (minusN N M)∧Below w.heap.size w w':=by
 obtain ⟨A,c,rfl,hN,_,_,h4⟩:=id hs
 obtain ⟨A',c',rfl,hM,_,_,_⟩:=id ho
 obtain ⟨L,hLe⟩:∃ L,L=nw N:=⟨_,rfl⟩
 have hL:L≤64:=by omega
 have HL:=Lib.hid hLe
 have hmk:=make_u64 L (by omega)
 have hwz:∀ k,L≤k→wd (minusN N M) k=0:=fun k hk=>minusN_ge (by omega)
 have HWZ:=Lib.hid hwz
 clear hwz
 rw [← hLe]
 clear hLe
 go_enter Tryz.func83,Tryz.ntmps83
 go_wp2_with fail
 refine abs4 fun W0 hA0 hB0 hR0 hW0 hbel0 hz=>?_
 have hw0:=hW0.fill0 (fun j=>u64 (wd (minusN N M) j))
 have HZ:=Lib.hid hz;clear hz
 go_loopw [13] (fun i wr=>∃ k:Nat,k≤L∧i=.int .i64 k∧Blk wr (w.heap.size+3) 146 (filled (.int .u64 0) (fun j=>u64 (wd (minusN N M) j)) k L)∧Below (w.heap.size+3) W0 wr)
  (fun i _=>L-(intOf i).toNat)
 case atStart=>exact ⟨0,Nat.zero_le _,rfl,hw0,Below.refl _ _⟩
 case round =>
  obtain ⟨k,hk,rfl,hb,hbel⟩:=hrel
  have cA:=(hA0.below hbel (by omega)).cell 0
  have cB:=(hB0.below hbel (by omega)).cell 0
  have hbw:Below w.heap.size w wr:=hbel0.trans (hbel.mono (by omega))
  by_cases hlt:k < L
  ·have cW:=hb.cell k
   have fW:=hb.frozen k
   rw [filled_get _ _ hlt,if_neg (by omega)] at cW
   have hor:=minus_form N M k
   have hset:=filled_set (.int .u64 0) (fun j=>u64 (wd (minusN N M) j)) hlt
   have HSET:=Lib.hid hset;clear hset
   obtain ⟨g,cs,rfl,hg,hcs⟩:=h4 (by have:=HL.out;omega)
   have cN:=((hg.below hbw hg.lt).cell k).trans (hcs k (by have:=HL.out;omega))
   have HW:=hideC (fun W hW=>word_any (.slice A' (nw M) c') M k W (ho.below (w':=W) hW))
   clear hcs h4
   go_wp2_with fail
   refine wp_spine (fun W=>Below wr.heap.size wr W) [0,1,2,3,4,5,6,7,8] [9,10,11,12] (by kernel_rfl) (by kernel_rfl) ?_
   iterate 9 (refine wpE_op (v:=?_) rfl rfl (fun W hW=>?_) ?_;rotate_left;(have c1:=onB hW cA;have c2:=onB hW cB;have c3:=onB hW cN;go_simp;first | done | with_reducible rfl);simp only [pt1,pt3,pt4,pt5])
   refine wpE_nil ⟨fun h=>(by cases h),wpSp_op rfl (Below.refl _ _).drew ?_⟩
   go_wp2_with fail
   refine (HW.out _ (hbw.trans ((Below.refl wr.heap.size wr).drew.mono hbw.size))).mono ?_
   rintro e w2 ⟨rfl,hb2⟩
   have hk2:Below wr.heap.size wr w2:=(Below.refl _ _).drew.trans hb2
   have cW2:=onB hk2 cW
   have fW2:=onFrozen hk2 cW fW
   go_wp2_with fail
   refine nxt_op rfl hk2 ?_
   go_wp2_with fail
   refine nxt_op rfl hk2 ?_
   go_wp2_with fail
   refine nxt_op rfl hk2 ?_
   go_wp2_with fail
   refine nxt_nil ?_
   go_wp2_with fail
   have hb3:=((hb.below hk2 hb.lt).set_ k (u64 (wd (minusN N M) k)))
   rw [HSET.out] at hb3
   exact ⟨⟨k+1,by omega,by go_num,hb3,(hbel.trans (hk2.mono (by have:=hbel.size;have:=HZ.out;omega))).setCell (by simp) _⟩,by simp [intOf];omega⟩
  ·obtain rfl:k=L:=by omega
   have hR:=hR0.below hbel (by omega)
   have cR:=hR.cell 0
   have fR:=hR.frozen 0
   have hw:Words wr (some ⟨w.heap.size+1+1+1,0,none⟩) k (minusN N M):=⟨fun _=>⟨_,_,rfl,hb,fun j hj=>by rw [filled_get _ _ hj,if_pos hj]⟩,fun j hj=>HWZ.out j hj⟩
   clear h4
   go_wp2_with fail
   refine (trim_any _ k k _ _ hw hL (Nat.le_refl _) (le64 hL)).mono ?_
   rintro e w1 ⟨r,rfl,hr,hb1⟩
   obtain ⟨A1,c1,rfl,_⟩:=id hr
   have hr1:=onB hb1 cR
   have fr1:=onFrozen hb1 cR fR
   go_wp2_with fail
   have hX:=(hR.below hb1 hR.lt).set_ 0 (.slice A1 (nw (minusN N M)) c1)
   have cX:=hX.cell 0
   refine bodyPost_ret (v:=.agg #[.slice A1 (nw (minusN N M)) c1]) (by simp [results,Tryz.results83,go_sem,cX]) rfl ⟨_,rfl,?_,((hbw.trans (hb1.mono (by have:=hbel.size;have:=HZ.out;omega)))).setCell (by simp;omega) _⟩
   exact hr.keep (KeepW.setCell (t:=58) (hR.below hb1 hR.lt) (by decide) _)
end Go.Proofs.YtafpmkdlciioaaaGreatDoor
namespace Go.Proofs.YtafpmkdlciioaaaGreatDoor
section
variable {α:Type}
def pickL (a x:List α):List α:=if a.length < x.length then x else a
theorem pickL_len (a x:List α):(pickL a x).length=max a.length x.length:=by unfold pickL;split <;> omega
def bestE (ind:α→α→Bool):Nat→List α→List α→List α→List α
 | 0,_,_,best=>best
 | _+1,[],_,best=>best
 | n+1,c :: r,l,best=>if l.length+(r.length+1)≤best.length then best else bestE ind n r l (bestE ind n (r.filter (ind c)) (l ++ [c]) (pickL best (l ++ [c])))
end
end Go.Proofs.YtafpmkdlciioaaaGreatDoor
namespace Go.Proofs.YtafpmkdlciioaaaGreatDoor
open Go.RowKit
theorem two_form {n:Nat} (hn:n < 64):IntKind.u64.wrap ((2:Int) ^ n)=((2 ^ n:Nat):Int):=by
 have h:2 ^ n < 2 ^ 64:=Nat.pow_lt_pow_right (by omega) hn
 have e:((2:Int) ^ n)=((2 ^ n:Nat):Int):=by simp
 rw [e,u64_wrap_nat _ h]
theorem all_ref (n:Nat) (hn:n≤60) (w:World) :
  Calls Tryz.prog 205 #[.int .i64 n] w fun e w'=>e=.returned (.int .u64 (lowN n:Nat))∧w=w':=by
 have hf:=pow_form n (by omega)
 go_enter Tryz.func205,Tryz.ntmps205
 go_wp2_with fail
 go_ret
 exact ⟨rfl,rfl⟩
theorem tmod_form (x k:Nat):(((x:Int)/2 ^ k).tmod 2)=if x.testBit k=true then 1 else 0:=by
 have e:((x:Int)/2 ^ k)=((x/2 ^ k:Nat):Int):=by simp
 rw [e,Int.tmod_eq_emod_of_nonneg (Int.natCast_nonneg _)]
 have:=testBit_mod x k
 split <;> rename_i h <;> simp only [h] at this <;> simp at this <;> omega
def clr (N j:Nat):Nat:=N&&&(18446744073709551615-2 ^ j)
theorem clr_form {N j:Nat} (hN:N < 2 ^ 64) (hj:j < 64):bits .andNot .u64 (N:Int) ((2 ^ j:Nat):Int)=(clr N j:Int) :=
 u64_andNot_nat _ _ hN (Nat.pow_lt_pow_right (by omega) hj)
theorem testBit_clr {N j x:Nat} (hN:N < 2 ^ 64) (hj:j < 64):(clr N j).testBit x=(N.testBit x&&!decide (j=x)):=by
 unfold clr
 rw [Nat.testBit_and,show 18446744073709551615-2 ^ j=2 ^ 64-(2 ^ j+1) by omega,Nat.testBit_two_pow_sub_succ (Nat.pow_lt_pow_right (by omega) hj),Nat.testBit_two_pow]
 by_cases hx:x < 64
 ·simp [hx]
 ·rw [Nat.testBit_lt_two_pow (Nat.lt_of_lt_of_le hN (Nat.pow_le_pow_right (by omega) (by omega)))];simp
theorem clr_lt {N j:Nat} (hN:N < 2 ^ 64):clr N j < 2 ^ 64:=Nat.lt_of_le_of_lt Nat.and_le_left hN
theorem lowN_lt {n:Nat} (h:n≤60):lowN n < 2 ^ 64:=by
 have:2 ^ n < 2 ^ 64:=Nat.pow_lt_pow_right (by omega) (by omega)
 unfold lowN;omega
theorem nsOf_bit {C:Nat} {M:List (List Bool)} (hC:C≤4096) {i j:Nat} (hi:i < M.length) (hj:j < C):((nsOf C M).getD i 0).testBit j=mget M i j:=by
 rw [nsOf_get hi,testBit_rowN _ _ _ _ hC,hasR_in hi hj]
theorem comr_any (C:Nat) (A:Option Addr) (c:Nat) (M:List (List Bool)) (S:Nat) (w:World) (h:IsRef w C A M) (hC:C≤60) (hR:M.length≤60) :
  Calls Tryz.prog 204 #[refV C A M.length c,.int .u64 S] w fun e w'=>e=.returned (.int .u64 (comN C (nsOf C M) S:Nat))∧Below w.heap.size w w':=by
 go_enter Tryz.func204,Tryz.ntmps204
 go_wp2_with fail
 refine absC1 fun W0 hX hb0 hz=>?_
 have x0:=hX.cell 0
 have x1:=hX.cell 1
 have lX:=hX.lt
 have hM:=h.below hb0
 have HZ:=Lib.hid hz;clear hz
 go_wp2_with fail
 refine (all_ref C hC W0).mono ?_
 rintro e w' ⟨rfl,rfl⟩
 go_wp2_with fail
 refine wp_loopF (β:=Nat×Nat) (fun s f=>#[f 0,.int .u64 (S:Int),.pointer (some ⟨w.heap.size,0,none⟩),f 3,.int .u64 0,.int .u64 (s.2:Int),f 6,f 7,f 8,f 9,f 10,f 11,f 12,.int .i64 (M.length:Int),.int .i64 (s.1:Int),f 15,f 16,f 17,f 18,f 19,f 20,f 21,f 22,f 23,f 24,f 25,f 26,f 27,f 28,f 29,f 30,f 31,f 32,f 33,f 34,f 35,f 36,f 37,f 38,f 39,f 40,f 41,f 42,f 43,f 44])
  (fun s ds wr=>s.1≤M.length∧ds=[]∧wr=W0∧s.2 < 2 ^ 64∧∀ x,s.2.testBit x=true↔x < C∧∀ a,a < s.1→S.testBit a=true→mget M a x=true) (fun s=>M.length-s.1) (0,lowN C) rfl
  ⟨Nat.zero_le _,rfl,rfl,lowN_lt hC,fun x=>by rw [testBit_lowN];simp⟩ ?_
 rintro ⟨k,N⟩ f ds wr ⟨hk,rfl,rfl,hN64,hN⟩
 dsimp only at hk hN hN64 ⊢
 have HN:=Lib.hid hN;clear hN
 by_cases hlt:k < M.length
 ·go_wp2_with fail
  refine wp_loopF (β:=Nat×Nat) (fun s f=>#[f 0,.int .u64 (S:Int),.pointer (some ⟨w.heap.size,0,none⟩),f 3,.int .u64 0,.int .u64 (s.2:Int),.int .i64 (k:Int),.int .i64 (s.1:Int),f 8,f 9,f 10,f 11,f 12,.int .i64 (M.length:Int),.int .i64 (k:Int),f 15,f 16,f 17,f 18,f 19,f 20,f 21,f 22,f 23,f 24,f 25,f 26,f 27,f 28,f 29,f 30,f 31,f 32,f 33,f 34,f 35,f 36,f 37,f 38,f 39,f 40,f 41,f 42,f 43,f 44])
   (fun s ds w1=>s.1≤C∧ds=[]∧w1=wr∧s.2 < 2 ^ 64∧∀ x,s.2.testBit x=true↔(x < C∧∀ a,a < k→S.testBit a=true→mget M a x=true)∧(x < s.1→S.testBit k=true→mget M k x=true)) (fun s=>C-s.1) (0,N) rfl
   ⟨Nat.zero_le _,rfl,rfl,hN64,fun x=>by rw [HN.out x];simp⟩ ?_
  rintro ⟨n,N'⟩ f ds w1 ⟨hn,rfl,rfl,hN64',hN'⟩
  dsimp only at hn hN' hN64' ⊢
  have HN':=Lib.hid hN';clear hN'
  by_cases hnC:n < C
  ·obtain ⟨g,off,g2,off2,d1,rfl,hg,hg2,c1,c2⟩:=hM.at_ hlt hnC
   have ea:=tmod_form S k
   by_cases hs:S.testBit k=true
   ·rw [if_pos hs] at ea
    have HS:=Lib.hid hs;clear hs
    cases ha:mget M k n with
    | true =>
     rw [ha] at c2
     have HA:=Lib.hid ha;clear ha
     clear hM
     go_wp2_with fail
     exact ⟨(n+1,N'),rfl,⟨by show n+1≤C;omega,by first | rfl | trivial,by first | rfl | trivial,hN64',fun x=>by
      show N'.testBit x=true↔_∧(x < n+1→_)
      rw [HN'.out x]
      refine and_congr_right fun _=>⟨fun h hx hs=>?_,fun h hx=>h (by omega)⟩
      by_cases e:x=n
      ·subst e;exact HA.out
      ·exact h (by omega) hs⟩,by show C-(n+1) < C-n;omega⟩
    | false =>
     rw [ha] at c2
     have HA:=Lib.hid ha;clear ha
     have hpw:=two_form (n:=n) (by omega)
     have hcl:=clr_form (N:=N') (j:=n) hN64' (by omega)
     clear hM
     go_wp2_with fail
     refine ⟨(n+1,clr N' n),by first | rfl | (show _=_;rw [← hcl];rfl),⟨by show n+1≤C;omega,by first | rfl | trivial,by first | rfl | trivial,clr_lt hN64',fun x=>?_⟩,by show C-(n+1) < C-n;omega⟩
     show (clr N' n).testBit x=true↔_∧(x < n+1→_)
     rw [testBit_clr hN64' (by omega),Bool.and_eq_true,HN'.out x,and_assoc]
     refine and_congr_right fun _=>⟨fun h hx hs=>?_,fun h=>⟨fun hx=>h (by omega),?_⟩⟩
     ·have hne:¬ n=x:=by simpa using h.2
      exact h.1 (by omega) hs
     ·by_cases e:n=x
      ·subst e
       have:=h (by omega) HS.out
       rw [HA.out] at this;cases this
      ·simp [e]
   ·rw [if_neg hs] at ea
    have HS:=Lib.hid hs;clear hs
    clear hM
    go_wp2_with fail
    exact ⟨(n+1,N'),rfl,⟨by show n+1≤C;omega,by first | rfl | trivial,by first | rfl | trivial,hN64',fun x=>by
     show N'.testBit x=true↔_∧(x < n+1→_)
     rw [HN'.out x]
     exact and_congr_right fun _=>⟨fun h hx hs=>absurd hs HS.out,fun h hx=>h (by omega)⟩⟩,by show C-(n+1) < C-n;omega⟩
  ·obtain rfl:n=C:=by omega
   clear hM
   go_wp2_with fail
   refine ⟨(k+1,N'),rfl,⟨by show k+1≤M.length;omega,by first | rfl | trivial,by first | rfl | trivial,hN64',fun x=>?_⟩,by show M.length-(k+1) < M.length-k;omega⟩
   show N'.testBit x=true↔_∧∀ a,a < k+1→_
   rw [HN'.out x]
   constructor
   ·rintro ⟨⟨h1,h2⟩,h3⟩
    refine ⟨h1,fun a ha hs=>?_⟩
    by_cases e:a=k
    ·subst e;exact h3 h1 hs
    ·exact h2 a (by omega) hs
   ·rintro ⟨h1,h2⟩
    exact ⟨⟨h1,fun a ha hs=>h2 a (by omega) hs⟩,fun _ hs=>h2 k (by omega) hs⟩
 ·obtain rfl:k=M.length:=by omega
  have e:N=comN C (nsOf C M) S:=nat_ext fun x=>by
   rw [HN.out x,testBit_comN,nsTo_len]
   refine and_congr_right fun hx=>⟨fun h a hs ha=>?_,fun h a ha hs=>?_⟩
   ·rw [nsOf_bit (by omega) ha hx];exact h a ha hs
   ·rw [← nsOf_bit (by omega) ha hx];exact h a hs ha
  have HE:=Lib.hid e;clear e
  clear hM
  go_wp2_with fail
  go_ret
  exact ⟨by rw [HE.out];rfl,hb0⟩
theorem havr_any (C:Nat) (A:Option Addr) (c:Nat) (M:List (List Bool)) (S:Nat) (w:World) (h:IsRef w C A M) (hC:C≤60) (hR:M.length≤60) :
  Calls Tryz.prog 179 #[refV C A M.length c,.int .u64 S] w fun e w'=>e=.returned (.int .u64 (havN C (nsOf C M) S:Nat))∧Below w.heap.size w w':=by
 go_enter Tryz.func179,Tryz.ntmps179
 go_wp2_with fail
 refine absC1 fun W0 hX hb0 hz=>?_
 have x0:=hX.cell 0
 have x1:=hX.cell 1
 have lX:=hX.lt
 have hM:=h.below hb0
 have HZ:=Lib.hid hz;clear hz
 go_wp2_with fail
 refine (all_ref M.length hR W0).mono ?_
 rintro e w' ⟨rfl,rfl⟩
 go_wp2_with fail
 refine wp_loopF (β:=Nat×Nat) (fun s f=>#[f 0,.int .u64 (S:Int),.pointer (some ⟨w.heap.size,0,none⟩),f 3,.int .u64 0,.int .u64 (s.2:Int),f 6,f 7,f 8,f 9,f 10,f 11,f 12,f 13,.int .i64 (M.length:Int),.int .i64 (s.1:Int),f 16,f 17,f 18,f 19,f 20,f 21,f 22,f 23,f 24,f 25,f 26,f 27,f 28,f 29,f 30,f 31,f 32,f 33,f 34,f 35,f 36,f 37,f 38,f 39,f 40,f 41,f 42,f 43,f 44,f 45])
  (fun s ds wr=>s.1≤M.length∧ds=[]∧wr=W0∧s.2 < 2 ^ 64∧∀ x,s.2.testBit x=true↔x < M.length∧(x < s.1→∀ j,j < C→S.testBit j=true→mget M x j=true)) (fun s=>M.length-s.1) (0,lowN M.length) rfl
  ⟨Nat.zero_le _,rfl,rfl,lowN_lt hR,fun x=>by rw [testBit_lowN];simp⟩ ?_
 rintro ⟨k,N⟩ f ds wr ⟨hk,rfl,rfl,hN64,hN⟩
 dsimp only at hk hN hN64 ⊢
 have HN:=Lib.hid hN;clear hN
 by_cases hlt:k < M.length
 ·go_wp2_with fail
  refine wp_loopF (β:=Nat×Nat) (fun s f=>#[f 0,.int .u64 (S:Int),.pointer (some ⟨w.heap.size,0,none⟩),f 3,.int .u64 0,.int .u64 (s.2:Int),.int .i64 (k:Int),.int .i64 (s.1:Int),f 8,f 9,f 10,f 11,f 12,f 13,.int .i64 (M.length:Int),.int .i64 (k:Int),f 16,f 17,f 18,f 19,f 20,f 21,f 22,f 23,f 24,f 25,f 26,f 27,f 28,f 29,f 30,f 31,f 32,f 33,f 34,f 35,f 36,f 37,f 38,f 39,f 40,f 41,f 42,f 43,f 44,f 45])
   (fun s ds w1=>s.1≤C∧ds=[]∧w1=wr∧s.2 < 2 ^ 64∧∀ x,s.2.testBit x=true↔(x < M.length∧(x < k→∀ j,j < C→S.testBit j=true→mget M x j=true))∧(x=k→∀ j,j < s.1→S.testBit j=true→mget M k j=true)) (fun s=>C-s.1) (0,N) rfl
   ⟨Nat.zero_le _,rfl,rfl,hN64,fun x=>by rw [HN.out x];simp⟩ ?_
  rintro ⟨n,N'⟩ f ds w1 ⟨hn,rfl,rfl,hN64',hN'⟩
  dsimp only at hn hN' hN64' ⊢
  have HN':=Lib.hid hN';clear hN'
  by_cases hnC:n < C
  ·obtain ⟨g,off,g2,off2,d1,rfl,hg,hg2,c1,c2⟩:=hM.at_ hlt hnC
   have ea:=tmod_form S n
   by_cases hs:S.testBit n=true
   ·rw [if_pos hs] at ea
    have HS:=Lib.hid hs;clear hs
    cases ha:mget M k n with
    | true =>
     rw [ha] at c2
     have HA:=Lib.hid ha;clear ha
     clear hM
     go_wp2_with fail
     exact ⟨(n+1,N'),rfl,⟨by show n+1≤C;omega,by first | rfl | trivial,by first | rfl | trivial,hN64',fun x=>by
      show N'.testBit x=true↔_∧(_→∀ j,j < n+1→_)
      rw [HN'.out x]
      refine and_congr_right fun _=>⟨fun h hx j hj hs=>?_,fun h hx j hj=>h hx j (by omega)⟩
      by_cases e:j=n
      ·subst e;exact HA.out
      ·exact h hx j (by omega) hs⟩,by show C-(n+1) < C-n;omega⟩
    | false =>
     rw [ha] at c2
     have HA:=Lib.hid ha;clear ha
     have hpw:=two_form (n:=k) (by omega)
     have hcl:=clr_form (N:=N') (j:=k) hN64' (by omega)
     clear hM
     go_wp2_with fail
     refine ⟨(n+1,clr N' k),by first | rfl | (show _=_;rw [← hcl];rfl),⟨by show n+1≤C;omega,by first | rfl | trivial,by first | rfl | trivial,clr_lt hN64',fun x=>?_⟩,by show C-(n+1) < C-n;omega⟩
     show (clr N' k).testBit x=true↔_∧(_→∀ j,j < n+1→_)
     rw [testBit_clr hN64' (by omega),Bool.and_eq_true,HN'.out x,and_assoc]
     refine and_congr_right fun _=>⟨fun h hx j hj hs=>?_,fun h=>⟨fun hx j hj=>h hx j (by omega),?_⟩⟩
     ·have hne:¬ k=x:=by simpa using h.2
      omega
     ·by_cases e:k=x
      ·have:=h e.symm n (by omega) HS.out
       rw [HA.out] at this;cases this
      ·simp [e]
   ·rw [if_neg hs] at ea
    have HS:=Lib.hid hs;clear hs
    clear hM
    go_wp2_with fail
    exact ⟨(n+1,N'),rfl,⟨by show n+1≤C;omega,by first | rfl | trivial,by first | rfl | trivial,hN64',fun x=>by
     show N'.testBit x=true↔_∧(_→∀ j,j < n+1→_)
     rw [HN'.out x]
     refine and_congr_right fun _=>⟨fun h hx j hj hs=>?_,fun h hx j hj=>h hx j (by omega)⟩
     by_cases e:j=n
     ·subst e;exact absurd hs HS.out
     ·exact h hx j (by omega) hs⟩,by show C-(n+1) < C-n;omega⟩
  ·obtain rfl:n=C:=by omega
   clear hM
   go_wp2_with fail
   refine ⟨(k+1,N'),rfl,⟨by show k+1≤M.length;omega,by first | rfl | trivial,by first | rfl | trivial,hN64',fun x=>?_⟩,by show M.length-(k+1) < M.length-k;omega⟩
   show N'.testBit x=true↔_∧(x < k+1→_)
   rw [HN'.out x]
   constructor
   ·rintro ⟨⟨h1,h2⟩,h3⟩
    refine ⟨h1,fun hx j hj hs=>?_⟩
    by_cases e:x=k
    ·subst e;exact h3 rfl j hj hs
    ·exact h2 (by omega) j hj hs
   ·rintro ⟨h1,h2⟩
    exact ⟨⟨h1,fun hx=>h2 (by omega)⟩,fun hx j hj hs=>by subst hx;exact h2 (by omega) j hj hs⟩
 ·obtain rfl:k=M.length:=by omega
  have e:N=havN C (nsOf C M) S:=nat_ext fun x=>by
   rw [HN.out x,testBit_havN _ _ (by rw [nsTo_len];omega),nsTo_len]
   refine and_congr_right fun hx=>⟨fun h j hs hj=>?_,fun h _ j hj hs=>?_⟩
   ·rw [nsOf_bit (by omega) hx hj];exact h hx j hj hs
   ·rw [← nsOf_bit (by omega) hx hj];exact h j hs hj
  have HE:=Lib.hid e;clear e
  clear hM
  go_wp2_with fail
  go_ret
  exact ⟨by rw [HE.out];rfl,hb0⟩
theorem closer_any (C:Nat) (A:Option Addr) (c:Nat) (M:List (List Bool)) (S:Nat) (w:World) (h:IsRef w C A M) (hC:C≤60) (hR:M.length≤60) :
  Calls Tryz.prog 178 #[refV C A M.length c,.int .u64 S] w fun e w'=>e=.returned (.int .u64 (cloN C (nsOf C M) S:Nat))∧Below w.heap.size w w':=by
 go_enter Tryz.func178,Tryz.ntmps178
 go_wp2_with fail
 refine abs1 fun W0 hX hb0 hz=>?_
 have x0:=hX.cell 0
 have x1:=hX.cell 1
 have hd:Below W0.heap.size W0 W0.drew:=(Below.refl _ _).drew
 have bd:=hb0.trans (hd.mono hb0.size)
 refine wp_spine (fun W=>Below W0.heap.size W0 W) [0,1,2] [3,4,5] (by kernel_rfl) (by kernel_rfl) ?_
 iterate 3 (refine wpE_op (v:=?_) rfl rfl (fun W hW=>?_) ?_;rotate_left;(have z0:=onB hW x0;have z1:=onB hW x1;go_simp;first | done | with_reducible rfl);simp only [pt1,pt3,pt4,pt5])
 refine wpE_nil ⟨fun h=>(by cases h),wpSp_op rfl hd ?_⟩
 go_wp2_with fail
 refine (havr_any C A c M S _ (h.below bd) hC hR).mono ?_
 rintro e w1 ⟨rfl,hb1⟩
 have hb01:=hd.trans (hb1.mono hd.size)
 have b1:=hb0.trans (hb01.mono hb0.size)
 go_wp2_with fail
 refine nxt_op rfl hb01 ?_
 go_wp2_with fail
 refine (comr_any C A c M _ w1 (h.below b1) hC hR).mono ?_
 rintro e w2 ⟨rfl,hb2⟩
 have hb02:=hb01.trans (hb2.mono hb01.size)
 have b2:=hb0.trans (hb02.mono hb0.size)
 go_wp2_with fail
 refine nxt_op rfl hb02 ?_
 go_wp2_with fail
 refine nxt_nil ?_
 go_wp2_with fail
 go_ret
 exact ⟨rfl,b2⟩
theorem absN {K:Act→World→Prop} {a:Act} {w:World} {c1:Array Value} {t1:TypeId} (h:∀ W,Blk W w.heap.size t1 c1→Below w.heap.size w W→W.heap.size=w.heap.size+1→nxt K .normal a W):nxt K .normal a (w.alloc (.cells c1 t1)) :=
 h _ (Blk.new _ _ _) ((Below.refl _ _).alloc (Nat.le_refl _) _) (by simp)
theorem absND {K:Act→World→Prop} {a:Act} {w:World} {c1:Array Value} {t1:TypeId} (h:∀ W,Blk W w.heap.size t1 c1→Below w.heap.size w W→W.heap.size=w.heap.size+1→nxt K .normal a W):nxt K .normal a (w.alloc (.cells c1 t1)).drew :=
 h _ (Blk.new _ _ _).drew ((Below.refl _ _).alloc (Nat.le_refl _) _).drew (by simp)
theorem wp_frame {P:Program} {Q:Exit→Act→World→Prop} {c:Code} {a:Act} {w:World} (F:(Nat→Value)→Array Value) (hs:a.tmps=F fun i=>a.tmps.getD i undef) (h:∀ g,c.wp P Q { tmps:=F g,defers:=a.defers } w):c.wp P Q a w:=by
 obtain ⟨tmps,ds⟩:=a
 dsimp only at hs h
 rw [hs]
 exact h _
section
variable {P:Program} {ops:Array Oper} {Q:Exit→Act→World→Prop} {a:Act} {w:World} {rest:List Oper} {o:Oper} {v:Value}
end
end Go.Proofs.YtafpmkdlciioaaaGreatDoor
