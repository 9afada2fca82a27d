import Derived.Test.YtafpmkdlciioaaaGreatDoorPk17
import Derived.Test.YtafpmkdlciioaaaGreatDoorPk20
import Derived.Test.YtafpmkdlciioaaaGreatDoorSortQ
set_option maxHeartbeats 16000000
set_option maxRecDepth 100000
namespace Go.Proofs.YtafpmkdlciioaaaGreatDoor
open Go.RowKit
theorem emptyQ_any (v1 v2:Value) (N1 N2:Nat) (w:World) (s1:IsSet w v1 N1) (s2:IsSet w v2 N2) :
  Calls Tryz.prog 55 #[.agg #[v1,v2]] w fun e w'=>e=.returned (.bool (!nonE (N1,N2)))∧Below w.heap.size w w':=by
 have hne:(!nonE (N1,N2))=(decide (N1=0)||decide (N2=0)):=by unfold nonE;rw [Bool.not_not]
 rw [hne]
 have H1:=Lib.hid (fun W (hb:Below w.heap.size w W)=>empty_any v1 N1 W (s1.below hb))
 have H2:=Lib.hid (fun W (hb:Below w.heap.size w W)=>empty_any v2 N2 W (s2.below hb))
 obtain ⟨A1,c1,e1,_⟩:=id s1
 obtain ⟨A2,c2,e2,_⟩:=id s2
 generalize decide (N1=0)=b1 at H1 ⊢
 generalize decide (N2=0)=b2 at H2 ⊢
 subst e1;subst e2
 clear s1 s2 hne
 go_enter Tryz.func55,Tryz.ntmps55
 go_wp2_with fail
 refine absC1 fun W0 h1 hb0 hz=>?_
 clear hz
 have HA:=hideC (H1.out W0 hb0)
 with_reducible refine HA.out.mono ?_
 rintro e W1 ⟨rfl,hb1⟩
 have b1':=hb0.trans (hb1.mono hb0.size)
 have h11:=h1.below hb1 h1.lt
 have c0:=h11.cell 0
 have c1':=h11.cell 1
 clear HA H1 hb0 hb1
 cases b1 with
 | true =>
  go_wp2_with fail
  go_ret
  exact ⟨rfl,b1'⟩
 | false =>
  have HB:=hideC (H2.out W1 b1')
  go_wp2_with fail
  with_reducible refine HB.out.mono ?_
  rintro e W2 ⟨rfl,hb2⟩
  go_wp2_with fail
  go_ret
  exact ⟨rfl,b1'.trans (hb2.mono b1'.size)⟩
def fstE (L:List (Nat×Nat)) (n:Nat):Option Nat:=(List.range n).find? fun k=>!nonE (atQ L k)
theorem fstE_succ (L:List (Nat×Nat)) (n:Nat):fstE L (n+1)=match fstE L n with | some k=>some k | none=>if (!nonE (atQ L n))=true then some n else none:=by
 unfold fstE
 rw [List.range_succ,List.find?_append]
 cases (List.range n).find? fun k=>!nonE (atQ L k) with
 | some k=>rfl
 | none =>
  simp only [Option.none_or]
  rw [List.find?_cons]
  cases !nonE (atQ L n) <;> rfl
theorem fstE_none {L:List (Nat×Nat)} {n:Nat} (h:fstE L n=none):∀ k,k < n→nonE (atQ L k)=true:=fun k hk=>by
 unfold fstE at h
 rw [List.find?_eq_none] at h
 have:=h k (List.mem_range.2 hk)
 simpa using this
theorem fstE_lt {L:List (Nat×Nat)} {n k:Nat} (h:fstE L n=some k):k < n∧nonE (atQ L k)=false∧∀ j,j < k→nonE (atQ L j)=true:=by
 induction n with
 | zero=>simp [fstE] at h
 | succ n ih =>
  rw [fstE_succ] at h
  cases hf:fstE L n with
  | some m =>
   rw [hf] at h
   cases h
   obtain ⟨h1,h2,h3⟩:=ih hf
   exact ⟨by omega,h2,h3⟩
  | none =>
   rw [hf] at h
   simp only at h
   split at h
   ·cases h
    rename_i hb
    exact ⟨by omega,by simpa using hb,fun j hj=>fstE_none hf j hj⟩
   ·cases h
theorem OwnQ.two {w:World} {base n c k:Nat} {A:Option Addr} {L:List (Nat×Nat)} (h:OwnQ w base (.slice A n c) L) (hl:L.length≤1000000) (hk:k < L.length) :
  ∃ g A1 c1 A2 c2 cs,A=some ⟨g,0,none⟩∧base≤g∧Blk w g 98 cs∧w.cell? ⟨g,k*2,none⟩=some (.slice A1 (nw (atQ L k).1) c1)∧w.cell? ⟨g,k*2+1,none⟩=some (.slice A2 (nw (atQ L k).2) c2) ∧
   IsSet w (.slice A1 (nw (atQ L k).1) c1) (atQ L k).1∧IsSet w (.slice A2 (nw (atQ L k).2) c2) (atQ L k).2:=by
 obtain ⟨g,cs,rfl,hg,hB⟩:=h.blk (by omega)
 obtain ⟨A',c',e⟩:=h.val
 cases e
 have hs:L[k]?=some (atQ L k):=by unfold atQ;rw [List.getD_eq_getElem?_getD,List.getElem?_eq_getElem hk];rfl
 obtain ⟨g',off,A1,c1,A2,c2,e,_,h1,h2,h3,h4⟩:=(h.isQ hl).at hs
 cases e
 rw [Nat.zero_add] at h1 h2
 exact ⟨g,A1,c1,A2,c2,cs,rfl,hg,hB,h1,h2,h3,h4⟩
theorem indexQ_any (base:Nat) (v:Value) (L:List (Nat×Nat)) (w:World) (h:OwnQ w base v L) (hl:L.length≤4096) :
  Calls Tryz.prog 100 #[v,.func (.func 55) #[] #[]] w fun e w'=>e=.returned (.int .i64 (match fstE L L.length with | some k=>(k:Int) | none=>-1))∧Below w.heap.size w w':=by
 obtain ⟨A,c,rfl⟩:=h.val
 obtain ⟨an,han⟩:∃ an:Int,an=match fstE L L.length with | some k=>(k:Int) | none=>-1:=⟨_,rfl⟩
 rw [← han]
 have HAN:=Lib.hid han
 clear han
 have h0:fstE L 0=none:=rfl
 have hsu:=fstE_succ L
 have HS:=Lib.hid hsu
 have H:=Lib.hid h
 clear hsu h
 go_enter Tryz.func100,Tryz.ntmps100
 go_wp2_with fail
 refine wp_loopF (β:=Nat) (fun x f=>#[.slice A L.length c,.func (.func 55) #[] #[],f 2,f 3,f 4,f 5,f 6,.int .i64 (L.length:Int),.int .i64 (x:Int),f 9,f 10,f 11,f 12,f 13,f 14,f 15,f 16,f 17,f 18])
  (fun x ds W=>ds=[]∧x≤L.length∧fstE L x=none∧Below w.heap.size w W) (fun x=>L.length-x) 0 rfl ⟨rfl,Nat.zero_le _,h0,Below.refl _ _⟩ ?_
 rintro k f ds W ⟨rfl,hk,hf,hb⟩
 dsimp only at hk hf ⊢
 by_cases hlt:k < L.length
 ·obtain ⟨g,A1,c1,A2,c2,cs,e,hg,hB,d1,d2,s1,s2⟩:=(H.out.below hb).two (by omega) hlt
  subst e
  have hs:=HS.out k
  rw [hf] at hs
  have hlast:fstE L (k+1)=some k→fstE L L.length=some k:=fun hh=>by
   have:∀ m,fstE L (k+1+m)=some k:=by
    intro m
    induction m with
    | zero=>exact hh
    | succ m ih=>rw [show k+1+(m+1)=(k+1+m)+1 by omega,HS.out,ih]
   have e:=this (L.length-(k+1))
   rwa [show k+1+(L.length-(k+1))=L.length by omega] at e
  have HL:=Lib.hid hlast
  generalize atQ L k=s at d1 d2 s1 s2 hs
  obtain ⟨N1,N2⟩:=s
  dsimp only at d1 d2 s1 s2
  have HE:=hideC (emptyQ_any _ _ N1 N2 W s1 s2)
  obtain ⟨be,hbe⟩:∃ b,b=!nonE (N1,N2):=⟨_,rfl⟩
  rw [← hbe] at HE hs
  have HSS:=Lib.hid hs
  clear hs hbe s1 s2 hB hlast hf
  cases be with
  | true =>
   have hfin:=HL.out (by rw [HSS.out];rfl)
   have HF:=Lib.hid hfin
   clear hfin
   go_wp2_with fail
   with_reducible refine HE.out.mono ?_
   rintro e W1 ⟨rfl,hb1⟩
   go_wp2_with fail
   go_ret
   exact ⟨by rw [HAN.out,HF.out];rfl,hb.trans (hb1.mono hb.size)⟩
  | false =>
   go_wp2_with fail
   with_reducible refine HE.out.mono ?_
   rintro e W1 ⟨rfl,hb1⟩
   go_wp2_with fail
   exact ⟨k+1,rfl,⟨by first | rfl | trivial,by omega,by rw [HSS.out];rfl,hb.trans (hb1.mono hb.size)⟩,by omega⟩
 ·obtain rfl:k=L.length:=by omega
  have HF:=Lib.hid hf
  clear hf
  go_wp2_with fail
  go_ret
  exact ⟨by rw [HAN.out,HF.out];rfl,hb⟩
theorem OwnQ.put2 {w:World} {base g n c k N1 N2:Nat} {v1 v2:Value} {L:List (Nat×Nat)} (h:OwnQ w base (.slice (some ⟨g,0,none⟩) n c) L) (s1:IsSet w v1 N1) (s2:IsSet w v2 N2) (hk:k < L.length) :
  OwnQ ((w.setCell ⟨g,k*2,none⟩ v1).setCell ⟨g,k*2+1,none⟩ v2) base (.slice (some ⟨g,0,none⟩) n c) (L.set k (N1,N2)):=by
 obtain ⟨vs,h1,h2⟩:=h
 rcases id h1.2 with ⟨hv,hn⟩ | ⟨g',cap,cur,hv,hg,hB,hc1,hc2,hsz,htk⟩
 ·omega
 ·cases hv
  have hB':Blk w g 98 cur:=hB
  have hB1:=hB'.set_ (k*2) v1
  have hkw:=(KeepW.setCell (p:=⟨g,k*2,none⟩) hB' (by decide) v1).trans (KeepW.setCell (p:=⟨g,k*2+1,none⟩) hB1 (by decide) v2)
  have hfl:flatQ (L.set k (N1,N2))=((flatQ L).set (k*2) N1).set (k*2+1) N2:=by
   clear h1 h2 hB hkw hB1 hB' htk hsz hc1
   induction L generalizing k with
   | nil=>simp at hk
   | cons s L ih =>
    cases k with
    | zero=>rfl
    | succ k =>
     have:=ih (by simpa using hk)
     unfold flatQ at this ⊢
     rw [List.set_cons_succ,List.flatMap_cons,List.flatMap_cons,this,show (k+1)*2=k*2+1+1 by omega,show k*2+1+1+1=(k*2+1)+1+1 by omega]
     simp only [List.cons_append,List.nil_append,List.set_cons_succ]
  refine ⟨(vs.set (k*2) v1).set (k*2+1) v2,⟨by rw [List.length_set,List.length_set,List.length_set];exact h1.1,.inr ⟨g,c,(cur.setIfInBounds (k*2) v1).setIfInBounds (k*2+1) v2,by rw [List.length_set],hg,hB1.set_ (k*2+1) v2,by rw [List.length_set];exact hc1,hc2,by rw [Array.size_setIfInBounds,Array.size_setIfInBounds];exact hsz,?_⟩⟩,?_⟩
  ·rw [List.length_set,Array.toList_setIfInBounds,Array.toList_setIfInBounds,List.take_set,List.take_set,htk]
  ·rw [hfl]
   exact ((h2.keep hkw).put (s1.keep hkw)).put (s2.keep hkw)
theorem OwnQ.shrink {w:World} {base g n c i:Nat} {L:List (Nat×Nat)} (h:OwnQ w base (.slice (some ⟨g,0,none⟩) n c) L) (hi:i≤L.length) (ws:List Value) (o:Nat) (ho:i*2≤o) :
  OwnQ (w.setCells g o ws) base (.slice (some ⟨g,0,none⟩) i c) (L.take i)∧Below base w (w.setCells g o ws):=by
 obtain ⟨vs,h1,h2⟩:=h
 have hti:(L.take i).length=i:=by rw [List.length_take];omega
 rcases id h1.2 with ⟨hv,hn⟩ | ⟨g',cap,cur,hv,hg,hB,hc1,hc2,hsz,htk⟩
 ·cases hv
 ·cases hv
  have hB':Blk w g 98 cur:=hB
  have hkw:=KeepW.sets_ (t:=98) (by decide) ws o hB'
  have hvl:=h1.1
  refine ⟨⟨vs.take (i*2),⟨by rw [List.length_take,hti,hvl];omega,.inr ⟨g,c,setAll cur o ws,by rw [hti],hg,hB'.sets_ ws o,by rw [hti];omega,hc2,by rw [setAll_size];exact hsz,?_⟩⟩,?_⟩,Below.sets_ hg ws o w⟩
  ·rw [hti]
   apply List.ext_getElem?
   intro j
   rw [List.getElem?_take,List.getElem?_take]
   by_cases hj:j < i*2
   ·rw [if_pos hj,if_pos hj,Array.getElem?_toList,setAll_get _ _ _ _ (by rw [hsz];omega),if_neg (by omega),← htk,List.getElem?_take,if_pos (by omega),Array.getElem?_toList]
   ·rw [if_neg hj,if_neg hj]
  ·rw [flatQ_take]
   have q:=h2.cut (i*2) ((flatQ L).length)
   rw [List.drop_length,List.append_nil] at q
   have hl2:vs.drop (flatQ L).length=[]:=List.drop_eq_nil_of_le (by rw [h2.1];exact Nat.le_refl _)
   rw [hl2,List.append_nil] at q
   exact q.keep hkw
theorem clear_qn (w:World) (ty:TypeId) (b o m c:Nat) (hm:0 < m) (hc:∀ j,j < m*2→(w.cell? ⟨b,o+j,none⟩).isSome=true) (hf:∀ j,j < m*2→w.frozen? ⟨b,o+j,none⟩=false) :
  (Builtin.clear_ #[80] ty #[.slice (some ⟨b,o,none⟩) m c]).run Tryz.prog w=.ok (.tuple #[]) (w.setCells b o (List.replicate (m*2) (.slice none 0 0))):=by
 have hzc:(Builtin.zeroCells (Value.agg #[.slice none 0 0,.slice none 0 0]).cells m).toList=List.replicate (m*2) (.slice none 0 0):=by
  apply List.ext_getElem?
  intro i
  have hcs:(Value.agg #[.slice none 0 0,.slice none 0 0]).cells=#[.slice none 0 0,.slice none 0 0]:=rfl
  rw [hcs]
  unfold Builtin.zeroCells
  rw [Array.getElem?_toList,Array.getElem?_map,Array.getElem?_range,List.getElem?_replicate]
  by_cases hi:i < m*2
  ·rw [if_pos (show i < m*(#[Value.slice none 0 0,Value.slice none 0 0]:Array Value).size from hi),if_pos hi]
   have h2:i%(#[Value.slice none 0 0,Value.slice none 0 0]:Array Value).size=i%2:=rfl
   rw [Option.map_some,h2]
   rcases Nat.mod_two_eq_zero_or_one i with h | h <;> rw [h] <;> rfl
  ·rw [if_neg (show ¬ i < m*(#[Value.slice none 0 0,Value.slice none 0 0]:Array Value).size from hi),if_neg hi];rfl
 have hst:=run_storeCells_cells (P:=Tryz.prog) b o (List.replicate (m*2) (.slice none 0 0)) 0 w (by simpa using hc) (by simpa using hf) (by intro v hv';rw [List.eq_of_mem_replicate hv'];rfl)
 simp only [Nat.add_zero] at hst
 obtain ⟨m',rfl⟩:∃ m',m=m'+1:=⟨m-1,by omega⟩
 simp [Builtin.clear_,run_underlying Tryz.underlying80,hzc,hst]
theorem filter_none {L:List (Nat×Nat)} (h:fstE L L.length=none):L.filter nonE=L:=by
 rw [List.filter_eq_self]
 intro a ha
 obtain ⟨k,hk,rfl⟩:=List.mem_iff_getElem.1 ha
 have:=fstE_none h k hk
 unfold atQ at this
 rwa [List.getD_eq_getElem?_getD,List.getElem?_eq_getElem hk] at this
theorem atQ_get {L:List (Nat×Nat)} {k:Nat} (hk:k < L.length):L[k]?=some (atQ L k):=by unfold atQ;rw [List.getD_eq_getElem?_getD,List.getElem?_eq_getElem hk];rfl
theorem take_succQ {L:List (Nat×Nat)} {k:Nat} (hk:k < L.length):L.take (k+1)=L.take k ++ [atQ L k]:=by rw [List.take_add_one,atQ_get hk];rfl
theorem filter_first {L:List (Nat×Nat)} {i:Nat} (hi:i < L.length) (hb:nonE (atQ L i)=false) (hp:∀ j,j < i→nonE (atQ L j)=true):(L.take (i+1)).filter nonE=L.take i:=by
 rw [take_succQ hi,List.filter_append]
 have h1:(L.take i).filter nonE=L.take i:=by
  rw [List.filter_eq_self]
  intro a ha
  obtain ⟨k,hk,rfl⟩:=List.mem_iff_getElem.1 ha
  rw [List.length_take] at hk
  have:=hp k (by omega)
  unfold atQ at this
  rw [List.getD_eq_getElem?_getD,List.getElem?_eq_getElem (by omega)] at this
  rw [List.getElem_take];exact this
 rw [h1,List.filter_cons_of_neg (by rw [hb];simp),List.filter_nil,List.append_nil]
theorem atQ_drop {L M:List (Nat×Nat)} {j k:Nat} (h:M.drop j=L.drop j) (hk:j≤k):atQ M k=atQ L k:=by
 unfold atQ
 have h1:(M.drop j)[k-j]?=(L.drop j)[k-j]?:=by rw [h]
 rw [List.getElem?_drop,List.getElem?_drop,show j+(k-j)=k by omega] at h1
 rw [List.getD_eq_getElem?_getD,List.getD_eq_getElem?_getD,h1]
theorem drop_succQ {L M:List (Nat×Nat)} {j:Nat} (h:M.drop j=L.drop j):M.drop (j+1)=L.drop (j+1):=by
 have q:=congrArg (List.drop 1) h
 simpa [List.drop_drop,Nat.add_comm] using q
theorem take_setQ {M:List (Nat×Nat)} {i:Nat} {x:Nat×Nat} (hi:i < M.length):(M.set i x).take (i+1)=M.take i ++ [x]:=by
 rw [List.take_add_one,List.take_set_of_le (Nat.le_refl _),List.getElem?_set_self hi];rfl
theorem drop_setQ {M:List (Nat×Nat)} {i j:Nat} {x:Nat×Nat} (hi:i < j):(M.set i x).drop j=M.drop j:=List.drop_set_of_lt hi
theorem deleteF_any (base:Nat) (v:Value) (L:List (Nat×Nat)) (w:World) (h:OwnQ w base v L) (hl:L.length≤4096) (hbw:base≤w.heap.size) :
  Calls Tryz.prog 54 #[v,.func (.func 55) #[] #[]] w fun e w'=>∃ v',e=.returned v'∧OwnQ w' base v' (L.filter nonE)∧Below base w w':=by
 have HI:=hideC (indexQ_any base v L w h hl)
 cases hf:fstE L L.length with
 | none =>
  rw [hf] at HI
  have hfl:=filter_none hf
  rw [hfl]
  clear hf hfl
  obtain ⟨A,c,rfl⟩:=h.val
  go_enter Tryz.func54,Tryz.ntmps54
  go_wp2_with fail
  with_reducible refine HI.out.mono ?_
  rintro e w1 ⟨rfl,hb1⟩
  go_wp2_with fail
  go_ret
  exact ⟨_,rfl,h.below hb1,hb1.mono hbw⟩
 | some i0 =>
  rw [hf] at HI
  obtain ⟨hi0,hbad,hpre⟩:=fstE_lt hf
  have hff:=filter_first hi0 hbad hpre
  obtain ⟨A,c,rfl⟩:=h.val
  obtain ⟨g,cs0,e,hgb,hB0⟩:=h.blk (by omega)
  subst e
  have HFF:=Lib.hid hff
  clear hf hbad hpre hff
  go_enter Tryz.func54,Tryz.ntmps54
  go_wp2_with fail
  with_reducible refine HI.out.mono ?_
  rintro e w1 ⟨rfl,hb1⟩
  have h1:=h.below hb1
  have hb1':=hb1.mono hbw
  have hw1:base≤w1.heap.size:=Nat.le_trans hbw hb1.size
  have hne:((i0:Int) == -1)=false:=by rw [beq_eq_false_iff_ne];omega
  have hne2:decide ((i0:Int)=-1)=false:=decide_eq_false (by omega)
  clear HI hb1 h hB0
  dsimp only
  go_wp2_with fail
  refine wp_loopF (β:=Nat×Nat×List (Nat×Nat)) (fun x f=>#[.slice (some ⟨g,0,none⟩) L.length c,.func (.func 55) #[] #[],f 2,f 3,f 4,.int .i64 (x.1:Int),.int .i64 (x.2.1:Int),f 7,f 8,f 9,f 10,f 11,f 12,f 13,f 14,f 15,f 16,f 17,f 18,f 19,f 20,f 21,f 22,f 23,f 24,f 25,f 26,f 27,f 28,f 29,f 30,f 31,f 32,f 33,f 34,f 35,f 36,f 37,f 38,f 39,f 40,f 41])
   (fun x ds W=>ds=[]∧x.1 < x.2.1∧x.2.1≤L.length∧x.2.2.length=L.length∧x.2.2.take x.1=(L.take x.2.1).filter nonE∧x.2.2.drop x.2.1=L.drop x.2.1∧OwnQ W base (.slice (some ⟨g,0,none⟩) L.length c) x.2.2∧Below base w W∧base≤W.heap.size) (fun x=>L.length-x.2.1) (i0,i0+1,L) rfl
   ⟨rfl,Nat.lt_succ_self _,hi0,rfl,HFF.out.symm,rfl,h1,hb1',hw1⟩ ?_
  clear h1 hb1' hw1
  rintro ⟨i,j,M⟩ f ds W ⟨rfl,hij,hj,hMl,htk,hdr,hO,hbW,hWs⟩
  dsimp only at hij hj hMl htk hdr hO ⊢
  have HTK:=Lib.hid htk;have HDR:=Lib.hid hdr;have HML:=Lib.hid hMl
  by_cases hlt:j < L.length
  ·obtain ⟨g',A1,c1,A2,c2,cs,e,hg,hB,d1,d2,s1,s2⟩:=hO.two (k:=j) (by omega) (by omega)
   cases e
   rw [atQ_drop hdr (Nat.le_refl _)] at d1 d2 s1 s2
   have htn:=take_succQ hlt
   have HTN:=Lib.hid htn
   clear htk hdr hMl htn
   generalize atQ L j=s at d1 d2 s1 s2 HTN
   obtain ⟨N1,N2⟩:=s
   dsimp only at d1 d2 s1 s2
   go_upto_region 8 with fail
   refine abs1 fun W1 h7 hb7 hz=>?_
   clear hz
   obtain ⟨g7,hg7⟩:∃ x,x=W.heap.size:=⟨_,rfl⟩
   rw [← hg7] at h7 ⊢
   clear hg7
   have c70:=h7.cell 0
   have c71:=h7.cell 1
   have HE:=hideC (emptyQ_any _ _ N1 N2 W1 (s1.below hb7) (s2.below hb7))
   obtain ⟨be,hbe⟩:∃ b,b=nonE (N1,N2):=⟨_,rfl⟩
   rw [← hbe] at HE
   have HBE:=Lib.hid hbe
   clear hbe
   cases be with
   | false =>
    go_wp2_with fail
    with_reducible refine HE.out.mono ?_
    rintro e W2 ⟨rfl,hb2⟩
    have hbb:=hb7.trans (hb2.mono hb7.size)
    go_wp2_with fail
    refine ⟨(i,j+1,M),rfl,⟨by first | rfl | trivial,by show i < j+1;omega,by show j+1≤L.length;omega,HML.out,?_,drop_succQ HDR.out,hO.below hbb,hbW.trans (hbb.mono hWs),Nat.le_trans hWs hbb.size⟩,by show L.length-(j+1) < L.length-j;omega⟩
    show M.take i=(L.take (j+1)).filter nonE
    rw [HTN.out,List.filter_append,List.filter_cons_of_neg (by rw [← HBE.out];simp),List.filter_nil,List.append_nil]
    exact HTK.out
   | true =>
    have hiM:i < M.length:=by have:=HML.out;omega
    go_wp2_with (with_reducible refine HE.out.mono ?_;rintro e W2 ⟨rfl,hb2⟩;have hbb:=hb7.trans (hb2.mono hb7.size);have h72:=h7.below hb2 h7.lt;have c70:=h72.cell 0;have c71:=h72.cell 1;have hO2:=hO.below hbb;obtain ⟨g',B1,b1,B2,b2,cs',e',hg',hB',x1,x2,-,-⟩:=hO2.two (k:=i) (by have:=HML.out;omega) hiM;cases e';have f1:=hB'.frozen (i*2);have f2:=hB'.frozen (i*2+1);have lB:=hB'.lt)
    have hp:=OwnQ.put2 hO2 (s1.below hbb) (s2.below hbb) hiM
    have hbn:=((hbW.trans (hbb.mono hWs)).setCell (p:=⟨g,i*2,none⟩) hg (.slice A1 (nw N1) c1)).setCell (p:=⟨g,i*2+1,none⟩) hg (.slice A2 (nw N2) c2)
    refine ⟨(i+1,j+1,M.set i (N1,N2)),rfl,⟨by first | rfl | trivial,by show i+1 < j+1;omega,by show j+1≤L.length;omega,by show (M.set i _).length=_;rw [List.length_set];exact HML.out,?_,?_,hp,hbn,by have:=hbb.size;simp;omega⟩,by show L.length-(j+1) < L.length-j;omega⟩
    ·show (M.set i (N1,N2)).take (i+1)=(L.take (j+1)).filter nonE
     rw [take_setQ hiM,HTN.out,List.filter_append,List.filter_cons_of_pos HBE.out.symm,List.filter_nil]
     rw [HTK.out]
    ·show (M.set i (N1,N2)).drop (j+1)=_
     rw [drop_setQ (by omega)]
     exact drop_succQ HDR.out
  ·obtain rfl:j=L.length:=by omega
   have hfin:=HTK.out
   rw [List.take_length] at hfin
   have hiM:i≤M.length:=by have:=HML.out;omega
   obtain ⟨g',cs,e,hg,hB⟩:=hO.blk (by omega)
   cases e
   obtain ⟨hO',hbs⟩:=OwnQ.shrink hO hiM (List.replicate ((L.length-i)*2) (.slice none 0 0)) (i*2) (Nat.le_refl _)
   rw [hfin] at hO'
   have hcsz:∀ x,x < L.length*2→(W.cell? ⟨g,x,none⟩).isSome=true:=fun x hx=>by
    obtain ⟨vs,h1,h2⟩:=hO
    rcases id h1.2 with ⟨hv,hn⟩ | ⟨g',cap,cur,hv,_,hB2,hc1,_,hsz,_⟩
    ·cases hv
    ·injection hv with e1 e2 e3
     cases e1
     subst e3
     have hB3:Blk W g 98 cur:=hB2
     rw [hB3.cell,Array.getElem?_eq_getElem (by rw [hsz];have:=HML.out;omega)];rfl
   have hcl:∀ ty cc,(Builtin.clear_ #[80] ty #[.slice (some ⟨g,i*2,none⟩) (L.length-i) cc]).run Tryz.prog W=.ok (.tuple #[]) (W.setCells g (i*2) (List.replicate ((L.length-i)*2) (.slice none 0 0))):=fun ty cc =>
    clear_qn W ty g (i*2) (L.length-i) cc (by omega) (fun x hx=>hcsz _ (by omega)) (fun x _=>hB.frozen _)
   have HO':=Lib.hid hO';have HBS:=Lib.hid hbs
   obtain ⟨W9,hW9⟩:∃ W9,W9=W.setCells g (i*2) (List.replicate ((L.length-i)*2) (.slice none 0 0)):=⟨_,rfl⟩
   rw [← hW9] at HO' HBS hcl
   have hcap:L.length≤c:=by
    obtain ⟨vs,h1,h2⟩:=hO
    rcases id h1.2 with ⟨hv,hn⟩ | ⟨g',cap,cur,hv,_,_,hc1,_⟩
    ·cases hv
    ·injection hv with e1 e2 e3
     have:=HML.out
     omega
   have hci:¬ c=i:=by omega
   have hic:i≤c:=by omega
   have hii:(i:Int)≤(L.length:Int):=by omega
   clear hfin hO' hbs hcsz hW9 htk hdr hMl hB hO
   go_wp2_with fail
   go_ret
   exact ⟨_,rfl,HO'.out,hbW.trans HBS.out⟩
theorem gabsC2 {P:Program} {w:World} {f:FuncId} {args:Array Value} {R:Ending→World→Prop} {c1 c2:Array Value} {t1 t2:TypeId} (h:∀ W,Blk W w.heap.size t1 c1→Blk W (w.heap.size+1) t2 c2→Gw w W→Calls P f args W R):Calls P f args ((w.alloc (.cells c1 t1)).alloc (.cells c2 t2)) R :=
 h _ ((Blk.new _ _ _).alloc _) (Blk.new_ (by simp) _ _) ((Gw.alloc _ _).trans (Gw.alloc _ _))
theorem compareQ_g (a1 a2 b1 b2:Value) (s t:Nat×Nat) (w:World) (h1:IsSet w a1 s.1) (h2:IsSet w a2 s.2) (k1:IsSet w b1 t.1) (k2:IsSet w b2 t.2) (hT:Tab w) :
  Calls Tryz.prog 58 #[.agg #[a1,a2],.agg #[b1,b2]] w fun e w'=>e=.returned (.int .i64 (cmpQ s t))∧Gw w w':=by
 obtain ⟨s1,s2⟩:=s
 obtain ⟨t1,t2⟩:=t
 dsimp only at h1 h2 k1 k2
 have H1:=Lib.hid (fun W (hb:Gw w W)=>compare_g a1 b1 s1 t1 W (h1.below hb.below) (k1.below hb.below) (hT.below hb.below))
 have H2:=Lib.hid (fun W (hb:Gw w W)=>compare_g a2 b2 s2 t2 W (h2.below hb.below) (k2.below hb.below) (hT.below hb.below))
 have hq:cmpQ (s1,s2) (t1,t2)=if cmpN s2 t2=0 then cmpN s1 t1 else cmpN s2 t2:=rfl
 obtain ⟨A1,c1,e1,_⟩:=id h1
 obtain ⟨A2,c2,e2,_⟩:=id h2
 obtain ⟨B1,d1,e3,_⟩:=id k1
 obtain ⟨B2,d2,e4,_⟩:=id k2
 subst e1;subst e2;subst e3;subst e4
 obtain ⟨cv,hcv⟩:∃ x,x=cmpN s2 t2:=⟨_,rfl⟩
 obtain ⟨cu,hcu⟩:∃ x,x=cmpN s1 t1:=⟨_,rfl⟩
 rw [← hcv] at H2 hq
 rw [← hcu] at H1 hq
 obtain ⟨r,hr⟩:∃ r,r=cmpQ (s1,s2) (t1,t2):=⟨_,rfl⟩
 rw [← hr] at hq ⊢
 have HQ:=Lib.hid hq
 clear h1 h2 k1 k2 hcv hcu hr hq hT
 go_enter Tryz.func58,Tryz.ntmps58
 go_wp2_with fail
 refine gabsC2 fun W0 hX hY hb0=>?_
 obtain ⟨g,hg⟩:∃ x,x=w.heap.size:=⟨_,rfl⟩
 rw [← hg] at hX hY ⊢
 clear hg
 have HA:=hideC (H2.out W0 hb0)
 with_reducible refine HA.out.mono ?_
 rintro e W1 ⟨rfl,hb1⟩
 have b1:=hb0.trans hb1
 have hX1:=hX.below hb1.below hX.lt
 have hY1:=hY.below hb1.below hY.lt
 have x0:=hX1.cell 0
 have y0:=hY1.cell 0
 clear HA hX hY hb0 hb1
 by_cases hz:cv=0
 ·have hne:(cv != 0)=false:=by rw [hz];rfl
  have hr:=HQ.out
  rw [if_pos hz] at hr
  have HR:=Lib.hid hr
  have HB:=hideC (H1.out W1 b1)
  clear hr hz
  go_wp2_with fail
  with_reducible refine HB.out.mono ?_
  rintro e W2 ⟨rfl,hb2⟩
  go_wp2_with fail
  go_ret
  exact ⟨by rw [HR.out];rfl,b1.trans hb2⟩
 ·have hne:(cv != 0)=true:=by rw [bne_iff_ne];exact hz
  have hr:=HQ.out
  rw [if_neg hz] at hr
  have HR:=Lib.hid hr
  clear hr
  go_wp2_with fail
  go_ret
  exact ⟨by rw [HR.out];rfl,b1⟩
theorem eqQ_any (a1 a2 b1 b2:Value) (s t:Nat×Nat) (w:World) (h1:IsSet w a1 s.1) (h2:IsSet w a2 s.2) (k1:IsSet w b1 t.1) (k2:IsSet w b2 t.2) (hT:Tab w) :
  Calls Tryz.prog 60 #[.agg #[a1,a2],.agg #[b1,b2]] w fun e w'=>e=.returned (.bool (decide (s=t)))∧Below w.heap.size w w':=by
 have H:=Lib.hid (fun W (hb:Below w.heap.size w W)=>compareQ_g a1 a2 b1 b2 s t W (h1.below hb) (h2.below hb) (k1.below hb) (k2.below hb) (hT.below hb))
 have hq:(cmpQ s t == 0)=decide (s=t):=by
  rw [Bool.eq_iff_iff,beq_iff_eq,cmpQ_zero,decide_eq_true_eq]
 obtain ⟨A1,c1,e1,_⟩:=id h1
 obtain ⟨A2,c2,e2,_⟩:=id h2
 obtain ⟨B1,d1,e3,_⟩:=id k1
 obtain ⟨B2,d2,e4,_⟩:=id k2
 subst e1;subst e2;subst e3;subst e4
 generalize cmpQ s t=cv at H hq
 generalize decide (s=t)=b at hq ⊢
 have HQ:=Lib.hid hq
 clear h1 h2 k1 k2 hT hq
 go_enter Tryz.func60,Tryz.ntmps60
 go_wp2_with fail
 refine absC2 fun W0 hX hY hb0 hz=>?_
 clear hz
 have HA:=hideC (H.out W0 hb0)
 with_reducible refine HA.out.mono ?_
 rintro e W1 ⟨rfl,hb1⟩
 have hq:=HQ.out
 go_wp2_with fail
 go_ret
 exact ⟨by first | rfl | (rw [← hq];rfl),hb0.trans (hb1.below.mono hb0.size)⟩
def keepQ (L:List (Nat×Nat)):Nat→List (Nat×Nat)
 | 0=>[]
 | j+1=>if j=0∨atQ L j≠atQ L (j-1) then keepQ L j ++ [atQ L j] else keepQ L j
theorem keepQ_one (L:List (Nat×Nat)):keepQ L 1=[atQ L 0]:=rfl
theorem keepQ_yes {L:List (Nat×Nat)} {j:Nat} (h:atQ L (j+1)≠atQ L j):keepQ L (j+2)=keepQ L (j+1) ++ [atQ L (j+1)]:=by
 show (if j+1=0∨atQ L (j+1)≠atQ L (j+1-1) then _ else _)=_
 rw [if_pos (.inr h)]
theorem keepQ_no {L:List (Nat×Nat)} {j:Nat} (h:atQ L (j+1)=atQ L j):keepQ L (j+2)=keepQ L (j+1):=by
 show (if j+1=0∨atQ L (j+1)≠atQ L (j+1-1) then _ else _)=_
 rw [if_neg]
 rintro (h1 | h1)
 ·omega
 ·exact h1 h
theorem keepQ_mem {L:List (Nat×Nat)} {x:Nat×Nat}:∀ j,x∈keepQ L j↔∃ i,i < j∧atQ L i=x
 | 0=>by
  constructor
  ·intro h;cases h
  ·rintro ⟨i,hi,_⟩;omega
 | 1=>by
  rw [keepQ_one,List.mem_singleton]
  constructor
  ·rintro rfl;exact ⟨0,by omega,rfl⟩
  ·rintro ⟨i,hi,rfl⟩;rw [show i=0 by omega]
 | j+2=>by
  have ih:=keepQ_mem (L:=L) (x:=x) (j+1)
  by_cases h:atQ L (j+1)=atQ L j
  ·rw [keepQ_no h,ih]
   constructor
   ·rintro ⟨i,hi,e⟩;exact ⟨i,by omega,e⟩
   ·rintro ⟨i,hi,e⟩
    by_cases hj:i=j+1
    ·subst hj;exact ⟨j,by omega,by rw [← h];exact e⟩
    ·exact ⟨i,by omega,e⟩
  ·rw [keepQ_yes h,List.mem_append,ih,List.mem_singleton]
   constructor
   ·rintro (⟨i,hi,e⟩ | rfl)
    ·exact ⟨i,by omega,e⟩
    ·exact ⟨j+1,by omega,rfl⟩
   ·rintro ⟨i,hi,e⟩
    by_cases hj:i=j+1
    ·subst hj;exact .inr e.symm
    ·exact .inl ⟨i,by omega,e⟩
theorem keepQ_sorted {L:List (Nat×Nat)} (hs:∀ i j,i < j→j < L.length→ltQ (atQ L j) (atQ L i)=false):∀ j,j≤L.length→(keepQ L j).Pairwise (fun a b=>ltQ a b=true)
 | 0,_=>List.Pairwise.nil
 | 1,_=>by rw [keepQ_one];exact List.pairwise_singleton _ _
 | j+2,hj=>by
  have ih:=keepQ_sorted hs (j+1) (by omega)
  by_cases h:atQ L (j+1)=atQ L j
  ·rw [keepQ_no h];exact ih
  ·rw [keepQ_yes h,List.pairwise_append]
   refine ⟨ih,List.pairwise_singleton _ _,fun x hx y hy=>?_⟩
   rw [List.mem_singleton] at hy
   subst hy
   obtain ⟨i,hi,rfl⟩:=(keepQ_mem (j+1)).1 hx
   by_cases e:atQ L (j+1)=atQ L i
   ·exfalso
    have hij:i≠j:=fun hij=>h (by rw [e,hij])
    have q1:=hs i j (by omega) (by omega)
    have q2:=hs j (j+1) (by omega) (by omega)
    have hne:atQ L j≠atQ L i:=fun hh=>h (by rw [e,hh])
    have q3:=ltQ_total hne q1
    rw [← e,q2] at q3
    cases q3
   ·exact ltQ_total e (hs i (j+1) (by omega) (by omega))
theorem norm_prog2 {L S:List (Nat×Nat)} (hp:S.Perm (L.filter nonE)) (hs:S.Pairwise (fun a b=>ltQ b a=false)):keepQ S S.length=normL L:=by
 refine normL_ext (keepQ_sorted (fun i j hij hj=>?_) S.length (Nat.le_refl _)) fun x=>?_
 ·have:=List.pairwise_iff_getElem.1 hs i j (by omega) hj hij
  unfold atQ
  rw [List.getD_eq_getElem?_getD,List.getElem?_eq_getElem hj,List.getD_eq_getElem?_getD,List.getElem?_eq_getElem (by omega)]
  exact this
 ·rw [keepQ_mem,← List.mem_filter,← hp.mem_iff,List.mem_iff_getElem]
  constructor
  ·rintro ⟨i,hi,e⟩
   refine ⟨i,hi,?_⟩
   have:=atQ_get hi
   rw [List.getElem?_eq_getElem hi] at this
   rw [← e];exact Option.some.inj this
  ·rintro ⟨i,hi,e⟩
   refine ⟨i,hi,?_⟩
   have:=atQ_get hi
   rw [List.getElem?_eq_getElem hi] at this
   rw [← e];exact (Option.some.inj this).symm
theorem take_oneQ {L:List (Nat×Nat)} (h:L.length < 2):keepQ L L.length=L:=by
 match L with
 | []=>rfl
 | [a]=>rfl
 | a :: b :: l=>exact absurd h (by simp)
namespace Mix2
theorem compactF_any (base:Nat) (v:Value) (L:List (Nat×Nat)) (w:World) (h:OwnQ w base v L) (hl:L.length≤4096) (hbw:base≤w.heap.size) (hT:Tab w) (hTb:0 < base) :
  Calls Tryz.prog 59 #[v,.func (.func 60) #[] #[]] w fun e w'=>∃ v',e=.returned v'∧OwnQ w' base v' (keepQ L L.length)∧Below base w w':=by
 obtain ⟨A,c,rfl⟩:=h.val
 by_cases h2:L.length < 2
 ·have hk:=take_oneQ h2
  have HK:=Lib.hid hk
  have hlt:(L.length:Int) < 2:=by omega
  clear hk h2
  go_enter Tryz.func59,Tryz.ntmps59
  go_wp2_with fail
  go_ret
  exact ⟨_,rfl,by rw [HK.out];exact h,Below.refl _ _⟩
 have hlt:¬ (L.length:Int) < 2:=by omega
 have HL2:=Lib.hid h2
 obtain ⟨g,cs0,e,hgb,hB0⟩:=h.blk (by omega)
 subst e
 have hcap:L.length≤c:=by
  obtain ⟨vs,h1,h2⟩:=h
  rcases id h1.2 with ⟨hv,hn⟩ | ⟨g',cap,cur,hv,_,_,hc1,_⟩
  ·cases hv
  ·injection hv with e1 e2 e3
   omega
 have HEQ:=Lib.hid (fun a1 a2 b1 b2 s t W (h1:IsSet W a1 s.1) (h2:IsSet W a2 s.2) (k1:IsSet W b1 t.1) (k2:IsSet W b2 t.2) (hT':Tab W)=>eqQ_any a1 a2 b1 b2 s t W h1 h2 k1 k2 hT')
 have htab:∀ W,Below base w W→Tab W:=fun W hb j hj=>(hb.cell hTb).trans (hT j hj)
 have HTB:=Lib.hid htab
 have H:=Lib.hid h
 clear h2 hB0 htab
 go_enter Tryz.func59,Tryz.ntmps59
 go_wp2_with fail
 refine wp_loopF (β:=Nat) (fun x f=>#[.slice (some ⟨g,0,none⟩) L.length c,.func (.func 60) #[] #[],f 2,f 3,f 4,.int .i64 ((x+1:Nat):Int),f 6,f 7,f 8,f 9,f 10,f 11,f 12,f 13,f 14,f 15,f 16,f 17,f 18,f 19,f 20,f 21,f 22,f 23,f 24,f 25,f 26,f 27,f 28,f 29,f 30,f 31,f 32,f 33,f 34,f 35,f 36,f 37,f 38,f 39,f 40,f 41,f 42,f 43,f 44,f 45,f 46,f 47,f 48,f 49,f 50,f 51,f 52,f 53,f 54,f 55,f 56,f 57,f 58,f 59,f 60,f 61,f 62,f 63,f 64,f 65])
  (fun x ds W=>ds=[]∧x+1≤L.length∧keepQ L (x+1)=L.take (x+1)∧Below w.heap.size w W) (fun x=>L.length-x) 0 rfl
  ⟨rfl,by have:=HL2.out;omega,by rw [keepQ_one,take_succQ (by have:=HL2.out;omega)];rfl,Below.refl _ _⟩ ?_
 rintro k1 f ds W ⟨rfl,hk,hkq,hbW⟩
 dsimp only at hk hkq ⊢
 obtain ⟨k,hke⟩:∃ k,k=k1+1:=⟨_,rfl⟩
 rw [← hke] at hk hkq ⊢
 have HKE:=Lib.hid hke
 have HKQ:=Lib.hid hkq
 clear hke hkq
 by_cases hltk:k < L.length
 ·have hO:=H.out.below hbW
  have hk1:k1 < L.length:=by have:=HKE.out;omega
  obtain ⟨g',A1,c1,A2,c2,cs,e,hg,hB,d1,d2,s1,s2⟩:=hO.two (k:=k) (by omega) hltk
  cases e
  obtain ⟨g',B1,e1,B2,e2,cs',e,-,-,f1,f2,t1,t2⟩:=hO.two (k:=k1) (by omega) hk1
  cases e
  have ewk:IntKind.i64.wrap ((k:Int)-1)=(k1:Int):=by have:=HKE.out;rw [i64w ⟨by omega,by omega⟩];omega
  have EWK:=Lib.hid ewk
  have hkl:(k:Int) < (L.length:Int):=by omega
  have HE0:=Lib.hid (fun U (hb:Below W.heap.size W U)=>HEQ.out (.slice A1 (nw (atQ L k).1) c1) (.slice A2 (nw (atQ L k).2) c2) (.slice B1 (nw (atQ L k1).1) e1) (.slice B2 (nw (atQ L k1).2) e2) (atQ L k) (atQ L k1) U (s1.below hb) (s2.below hb) (t1.below hb) (t2.below hb) (hT.below (hbW.trans (hb.mono hbW.size))))
  obtain ⟨bq,hbq⟩:∃ b,b=decide (atQ L k=atQ L k1):=⟨_,rfl⟩
  rw [← hbq] at HE0
  have HBQ:=Lib.hid hbq
  generalize atQ L k=sk at d1 d2 HE0
  generalize atQ L k1=sk1 at f1 f2 HE0
  have hk1i:(k1:Int) < (L.length:Int):=by omega
  have hk1n:(0:Int)≤(k1:Int):=by omega
  have hlB:=hB.lt
  clear ewk hbq s1 s2 t1 t2 hB
  go_upto_region 6 with fail
  refine wp_mix (fun V=>Below W.heap.size W V) 11 (by kernel_rfl) (by kernel_rfl) (Below.refl _ _).drew ?_
  have hr:=(Below.refl W.heap.size W).drew
  obtain ⟨U,hU⟩:∃ U,U=W.drew:=⟨_,rfl⟩
  rw [← hU] at hr ⊢
  clear hU
  (refine m_q 0 (v:=?_) (by kernel_rfl) rfl rfl (fun W hW=>?_) ?_;rotate_left;(have y0:=onB hW d1;have y1:=onB hW d2;go_simp;first | done | with_reducible rfl);simp only [pt1,pt3,pt4,pt5]);(refine m_q 1 (v:=?_) (by kernel_rfl) rfl rfl (fun W hW=>?_) ?_;rotate_left;(have y0:=onB hW d1;have y1:=onB hW d2;go_simp;first | done | with_reducible rfl);simp only [pt1,pt3,pt4,pt5]);(refine m_q 2 (v:=?_) (by kernel_rfl) rfl rfl (fun W hW=>?_) ?_;rotate_left;(have y0:=onB hW d1;have y1:=onB hW d2;go_simp;first | done | with_reducible rfl);simp only [pt1,pt3,pt4,pt5]);(refine m_q 3 (v:=?_) (by kernel_rfl) rfl rfl (fun W hW=>?_) ?_;rotate_left;(have y0:=onB hW d1;have y1:=onB hW d2;go_simp;first | done | with_reducible rfl);simp only [pt1,pt3,pt4,pt5]);(refine m_q 4 (v:=?_) (by kernel_rfl) rfl rfl (fun W hW=>?_) ?_;rotate_left;(have y0:=onB hW d1;have y1:=onB hW d2;go_simp;first | done | with_reducible rfl);simp only [pt1,pt3,pt4,pt5]);(refine m_q 5 (v:=?_) (by kernel_rfl) rfl rfl (fun W hW=>?_) ?_;rotate_left;(have y0:=onB hW d1;have y1:=onB hW d2;go_simp;first | done | with_reducible rfl);simp only [pt1,pt3,pt4,pt5]);(refine m_q 6 (v:=?_) (by kernel_rfl) rfl rfl (fun W hW=>?_) ?_;rotate_left;(have y0:=onB hW d1;have y1:=onB hW d2;go_simp;first | done | with_reducible rfl);simp only [pt1,pt3,pt4,pt5])
  (refine m_q 7 (v:=?_) (by kernel_rfl) rfl rfl (fun W hW=>?_) ?_;rotate_left;(go_simp;first | done | with_reducible rfl);simp only [pt1,pt3,pt4,pt5])
  rw [EWK.out]
  (refine m_q 8 (v:=?_) (by kernel_rfl) rfl rfl (fun W hW=>?_) ?_;rotate_left;(have y0:=onB hW f1;have y1:=onB hW f2;go_simp;first | done | with_reducible rfl);simp only [pt1,pt3,pt4,pt5]);(refine m_q 9 (v:=?_) (by kernel_rfl) rfl rfl (fun W hW=>?_) ?_;rotate_left;(have y0:=onB hW f1;have y1:=onB hW f2;go_simp;first | done | with_reducible rfl);simp only [pt1,pt3,pt4,pt5])
  have HE1:=hideC (HE0.out U hr)
  refine m_s1 10 (by kernel_rfl) rfl ?_
  go_wp2_with fail
  with_reducible refine HE1.out.mono ?_
  rintro e W2 ⟨rfl,hb2⟩
  have hr2:=hr.trans (hb2.mono hr.size)
  go_wp2_with fail
  refine m_keep hr2 ?_
  refine m_end (by kernel_rfl) ?_
  have hbW2:=hbW.trans (hr2.mono hbW.size)
  clear HE1 HE0 hr hr2 hb2 d1 d2 f1 f2
  cases bq with
  | false =>
   have hne:atQ L k≠atQ L k1:=by have:=HBQ.out;exact of_decide_eq_false this.symm
   have hnx:keepQ L (k+1)=L.take (k+1):=by
    have e1:=keepQ_yes (L:=L) (j:=k1) (by rw [← HKE.out];exact hne)
    rw [show k1+2=k+1 by have:=HKE.out;omega,← HKE.out,HKQ.out] at e1
    rw [e1,take_succQ hltk]
   have HNX:=Lib.hid hnx
   clear hne hnx
   go_wp2_with fail
   exact ⟨k,rfl,⟨by first | rfl | trivial,by omega,HNX.out,hbW2⟩,by have:=HKE.out;omega⟩
  | true =>
   have heq:atQ L k=atQ L k1:=by have:=HBQ.out;exact of_decide_eq_true this.symm
   have hst:keepQ L (k+1)=L.take k:=by
    have e1:=keepQ_no (L:=L) (j:=k1) (by rw [← HKE.out];exact heq)
    rw [show k1+2=k+1 by have:=HKE.out;omega,← HKE.out,HKQ.out] at e1
    exact e1
   have HST:=Lib.hid hst
   have hck:¬ c=k:=by omega
   have hkc:k≤c:=by omega
   have hkn:(k:Int)≤(L.length:Int):=by omega
   have hk0:0 < k:=by have:=HKE.out;omega
   have hO2:=H.out.below hbW2
   have hbB:=hbW2.mono hbw
   have hbs:=Nat.le_trans hbw hbW2.size
   clear heq hst hk1i hk1n hlB EWK
   go_wp2_with fail
   obtain ⟨nk,hnk⟩:∃ x,x=L.length-k:=⟨_,rfl⟩
   obtain ⟨ck,hckk⟩:∃ x,x=c-k:=⟨_,rfl⟩
   rw [← hnk,← hckk]
   have HNK:=Lib.hid hnk
   have hnk4:nk≤4096:=by omega
   clear hnk hckk
   refine wp_loopF (β:=Nat×Nat×List (Nat×Nat)) (fun x f=>#[.slice (some ⟨g,0,none⟩) L.length c,.func (.func 60) #[] #[],f 2,f 3,f 4,.int .i64 (x.1:Int),.slice (some ⟨g,k*2,none⟩) nk ck,.int .i64 ((x.2.1+1:Nat):Int),f 8,f 9,f 10,f 11,f 12,f 13,f 14,f 15,f 16,f 17,f 18,f 19,f 20,f 21,f 22,f 23,f 24,f 25,f 26,f 27,f 28,f 29,f 30,f 31,f 32,f 33,f 34,f 35,f 36,f 37,f 38,f 39,f 40,f 41,f 42,f 43,f 44,f 45,f 46,f 47,f 48,f 49,f 50,f 51,f 52,f 53,f 54,f 55,f 56,f 57,f 58,f 59,f 60,f 61,f 62,f 63,f 64,f 65])
    (fun x ds V=>ds=[]∧x.1 < k+x.2.1+1∧k+x.2.1+1≤L.length∧x.2.2.length=L.length∧x.2.2.take x.1=keepQ L (k+x.2.1+1)∧x.2.2.drop (k+x.2.1)=L.drop (k+x.2.1)∧OwnQ V base (.slice (some ⟨g,0,none⟩) L.length c) x.2.2∧Below base w V∧base≤V.heap.size) (fun x=>L.length-x.2.1) (k,0,L) rfl
    ⟨rfl,by dsimp only;omega,by dsimp only;omega,rfl,HST.out.symm,rfl,hO2,hbB,hbs⟩ ?_
   clear hO2 hbB hbs hbW2 hbW
   rintro ⟨i,m,M⟩ f ds V ⟨rfl,hij,hj,hMl,htk,hdr,hO,hbV,hVs⟩
   dsimp only at hij hj hMl htk hdr hO ⊢
   have HTK:=Lib.hid htk;have HDR:=Lib.hid hdr;have HML:=Lib.hid hMl
   obtain ⟨k2,hk2⟩:∃ x,x=m+1:=⟨_,rfl⟩
   rw [← hk2]
   have HK2:=Lib.hid hk2
   by_cases hl2:k2 < nk
   ·have hjn:k+m+1 < L.length:=by have:=HNK.out;omega
    obtain ⟨g',A1,c1,A2,c2,cs,e,hg,hB,d1,d2,s1,s2⟩:=hO.two (k:=k+m+1) (by omega) (by omega)
    cases e
    obtain ⟨g',B1,e1,B2,e2,cs',e,-,-,f1,f2,t1,t2⟩:=hO.two (k:=k+m) (by omega) (by omega)
    cases e
    rw [atQ_drop hdr (by omega)] at d1 d2 s1 s2
    rw [atQ_drop hdr (Nat.le_refl _)] at f1 f2 t1 t2
    have e3:(k+m+1)*2=k*2+k2*2:=by omega
    have e4:(k+m)*2=k*2+m*2:=by omega
    rw [e3] at d1 d2
    rw [e4] at f1 f2
    have ewk:IntKind.i64.wrap ((k2:Int)-1)=(m:Int):=by rw [i64w ⟨by omega,by omega⟩];omega
    have EWK:=Lib.hid ewk
    have HE0:=Lib.hid (fun U (hb:Below V.heap.size V U)=>HEQ.out (.slice A1 (nw (atQ L (k+m+1)).1) c1) (.slice A2 (nw (atQ L (k+m+1)).2) c2) (.slice B1 (nw (atQ L (k+m)).1) e1) (.slice B2 (nw (atQ L (k+m)).2) e2) (atQ L (k+m+1)) (atQ L (k+m)) U (s1.below hb) (s2.below hb) (t1.below hb) (t2.below hb) (HTB.out U (hbV.trans (hb.mono hVs))))
    obtain ⟨bq,hbq⟩:∃ b,b=decide (atQ L (k+m+1)=atQ L (k+m)):=⟨_,rfl⟩
    rw [← hbq] at HE0
    have HBQ2:=Lib.hid hbq
    have hqy:=keepQ_yes (L:=L) (j:=k+m)
    have hqn:=keepQ_no (L:=L) (j:=k+m)
    have HQY:=Lib.hid hqy;have HQN:=Lib.hid hqn
    clear hbq hqy hqn hk2 htk hdr hMl e3 e4 ewk t1 t2
    obtain ⟨sk,hsk⟩:∃ s,s=atQ L (k+m+1):=⟨_,rfl⟩
    obtain ⟨sk1,hsk1⟩:∃ s,s=atQ L (k+m):=⟨_,rfl⟩
    rw [← hsk] at d1 d2 s1 s2 HE0
    rw [← hsk1] at f1 f2 HE0
    have HSK:=Lib.hid hsk
    clear hsk hsk1
    have hm1:(m:Int) < (nk:Int):=by have:=HK2.out;omega
    have hm0:(0:Int)≤(m:Int):=by omega
    have hmn:m < nk:=by have:=HK2.out;omega
    have hk2i:(k2:Int) < (nk:Int):=by omega
    have hlB:=hB.lt
    go_upto_region 11 with fail
    refine wp_mix (fun U=>Below V.heap.size V U) 12 (by kernel_rfl) (by kernel_rfl) (Below.refl _ _).drew ?_
    have hr:=(Below.refl V.heap.size V).drew
    obtain ⟨U,hU⟩:∃ U,U=V.drew:=⟨_,rfl⟩
    rw [← hU] at hr ⊢
    clear hU
    (refine m_q 0 (v:=?_) (by kernel_rfl) rfl rfl (fun W hW=>?_) ?_;rotate_left;(have y0:=onB hW d1;have y1:=onB hW d2;go_simp;first | done | with_reducible rfl);simp only [pt1,pt3,pt4,pt5]);(refine m_q 1 (v:=?_) (by kernel_rfl) rfl rfl (fun W hW=>?_) ?_;rotate_left;(have y0:=onB hW d1;have y1:=onB hW d2;go_simp;first | done | with_reducible rfl);simp only [pt1,pt3,pt4,pt5]);(refine m_q 2 (v:=?_) (by kernel_rfl) rfl rfl (fun W hW=>?_) ?_;rotate_left;(have y0:=onB hW d1;have y1:=onB hW d2;go_simp;first | done | with_reducible rfl);simp only [pt1,pt3,pt4,pt5]);(refine m_q 3 (v:=?_) (by kernel_rfl) rfl rfl (fun W hW=>?_) ?_;rotate_left;(have y0:=onB hW d1;have y1:=onB hW d2;go_simp;first | done | with_reducible rfl);simp only [pt1,pt3,pt4,pt5]);(refine m_q 4 (v:=?_) (by kernel_rfl) rfl rfl (fun W hW=>?_) ?_;rotate_left;(have y0:=onB hW d1;have y1:=onB hW d2;go_simp;first | done | with_reducible rfl);simp only [pt1,pt3,pt4,pt5]);(refine m_q 5 (v:=?_) (by kernel_rfl) rfl rfl (fun W hW=>?_) ?_;rotate_left;(have y0:=onB hW d1;have y1:=onB hW d2;go_simp;first | done | with_reducible rfl);simp only [pt1,pt3,pt4,pt5]);(refine m_q 6 (v:=?_) (by kernel_rfl) rfl rfl (fun W hW=>?_) ?_;rotate_left;(have y0:=onB hW d1;have y1:=onB hW d2;go_simp;first | done | with_reducible rfl);simp only [pt1,pt3,pt4,pt5])
    (refine m_q 7 (v:=?_) (by kernel_rfl) rfl rfl (fun W hW=>?_) ?_;rotate_left;(go_simp;first | done | with_reducible rfl);simp only [pt1,pt3,pt4,pt5])
    rw [EWK.out]
    (refine m_q 8 (v:=?_) (by kernel_rfl) rfl rfl (fun W hW=>?_) ?_;rotate_left;(have y0:=onB hW f1;have y1:=onB hW f2;go_simp;first | done | with_reducible rfl);simp only [pt1,pt3,pt4,pt5]);(refine m_q 9 (v:=?_) (by kernel_rfl) rfl rfl (fun W hW=>?_) ?_;rotate_left;(have y0:=onB hW f1;have y1:=onB hW f2;go_simp;first | done | with_reducible rfl);simp only [pt1,pt3,pt4,pt5])
    have HE1:=hideC (HE0.out U hr)
    refine m_s1 10 (by kernel_rfl) rfl ?_
    go_wp2_with fail
    with_reducible refine HE1.out.mono ?_
    rintro e W2 ⟨rfl,hb2⟩
    have hr2:=hr.trans (hb2.mono hr.size)
    go_wp2_with fail
    refine m_keep hr2 ?_
    (refine m_q 11 (v:=?_) (by kernel_rfl) rfl rfl (fun W hW=>?_) ?_;rotate_left;(go_simp;first | done | with_reducible rfl);simp only [pt1,pt3,pt4,pt5])
    refine m_end (by kernel_rfl) ?_
    have hbV2:=hbV.trans (hr2.mono hVs)
    have hVs2:=Nat.le_trans hVs hr2.size
    have hO2:=hO.below hr2
    have d1':=onB hr2 d1
    have d2':=onB hr2 d2
    have hB2:=hB.below hr2 hB.lt
    clear HE1 HE0 hr hb2 f1 f2 d1 d2
    cases bq with
    | true =>
     have hnx:=HQN.out (of_decide_eq_true HBQ2.out.symm)
     have HNX:=Lib.hid hnx
     clear hnx d1' d2' hB2
     go_wp2_with fail
     exact ⟨(i,k2,M),rfl,⟨by first | rfl | trivial,by show i < k+k2+1;have:=HK2.out;omega,by show k+k2+1≤_;have:=HK2.out;omega,HML.out,by show M.take i=keepQ L (k+k2+1);rw [HTK.out,show k+k2+1=k+m+2 by have:=HK2.out;omega,HNX.out],by show M.drop (k+k2)=L.drop (k+k2);rw [show k+k2=k+m+1 by have:=HK2.out;omega];exact drop_succQ HDR.out,hO2,hbV2,hVs2⟩,by show L.length-k2 < L.length-m;have:=HK2.out;omega⟩
    | false =>
     have hnx:=HQY.out (of_decide_eq_false HBQ2.out.symm)
     have HNX:=Lib.hid hnx
     have hiM:i < M.length:=by have:=HML.out;omega
     obtain ⟨g',P1,b1,P2,b2,cs',e',hg',-,x1,x2,-,-⟩:=hO2.two (k:=i) (by have:=HML.out;omega) hiM
     cases e'
     have q1:=hB2.frozen (i*2)
     have q2:=hB2.frozen (i*2+1)
     have lB:=hB2.lt
     have hp:=OwnQ.put2 hO2 (s1.below hr2) (s2.below hr2) hiM
     have hbn:=(hbV2.setCell (p:=⟨g,i*2,none⟩) hg (.slice A1 (nw sk.1) c1)).setCell (p:=⟨g,i*2+1,none⟩) hg (.slice A2 (nw sk.2) c2)
     have hiN:(i:Int) < (L.length:Int):=by have:=HML.out;omega
     have HP:=Lib.hid hp;have HBN:=Lib.hid hbn
     clear hnx hp hbn hO2 hO hB2 hB hr2
     go_wp2_with fail
     refine ⟨(i+1,k2,M.set i sk),rfl,⟨by first | rfl | trivial,by show i+1 < k+k2+1;have:=HK2.out;omega,by show k+k2+1≤_;have:=HK2.out;omega,by show (M.set i _).length=_;rw [List.length_set];exact HML.out,?_,?_,HP.out,HBN.out,by simp;omega⟩,by show L.length-k2 < L.length-m;have:=HK2.out;omega⟩
     ·show (M.set i sk).take (i+1)=keepQ L (k+k2+1)
      rw [take_setQ hiM,HTK.out,show k+k2+1=k+m+2 by have:=HK2.out;omega,HNX.out,HSK.out]
     ·show (M.set i sk).drop (k+k2)=L.drop (k+k2)
      rw [show k+k2=k+m+1 by have:=HK2.out;omega,drop_setQ (by omega)]
      exact drop_succQ HDR.out
   ·have hjn:k+m+1=L.length:=by have:=HNK.out;have:=HK2.out;omega
    have hfin:=HTK.out
    rw [hjn] at hfin
    have hiM:i≤M.length:=by have:=HML.out;omega
    obtain ⟨g',cs,e,hg,hB⟩:=hO.blk (by omega)
    cases e
    obtain ⟨hO',hbs⟩:=OwnQ.shrink hO hiM (List.replicate ((L.length-i)*2) (.slice none 0 0)) (i*2) (Nat.le_refl _)
    rw [hfin] at hO'
    have hcsz:∀ x,x < L.length*2→(V.cell? ⟨g,x,none⟩).isSome=true:=fun x hx=>by
     obtain ⟨vs,h1,h2⟩:=hO
     rcases id h1.2 with ⟨hv,hn⟩ | ⟨g',cap,cur,hv,_,hB2,hc1,_,hsz,_⟩
     ·cases hv
     ·injection hv with e1 e2 e3
      cases e1
      subst e3
      have hB3:Blk V g 98 cur:=hB2
      rw [hB3.cell,Array.getElem?_eq_getElem (by rw [hsz];have:=HML.out;omega)];rfl
    have hcl:∀ ty cc,(Builtin.clear_ #[80] ty #[.slice (some ⟨g,i*2,none⟩) (L.length-i) cc]).run Tryz.prog V=.ok (.tuple #[]) (V.setCells g (i*2) (List.replicate ((L.length-i)*2) (.slice none 0 0))):=fun ty cc =>
     clear_qn V ty g (i*2) (L.length-i) cc (by omega) (fun x hx=>hcsz _ (by omega)) (fun x _=>hB.frozen _)
    have HO':=Lib.hid hO';have HBS:=Lib.hid hbs
    obtain ⟨W9,hW9⟩:∃ W9,W9=V.setCells g (i*2) (List.replicate ((L.length-i)*2) (.slice none 0 0)):=⟨_,rfl⟩
    rw [← hW9] at HO' HBS hcl
    have hci:¬ c=i:=by omega
    have hic:i≤c:=by omega
    have hii:(i:Int)≤(L.length:Int):=by omega
    have hk2n:¬ (k2:Int) < (nk:Int):=by omega
    clear hfin hO' hbs hcsz hW9 htk hdr hMl hB hO hk2 hjn
    go_wp2_with fail
    go_ret
    exact ⟨_,rfl,HO'.out,hbV.trans HBS.out⟩
 ·obtain rfl:k=L.length:=by omega
  have hfin:=HKQ.out
  rw [List.take_length] at hfin
  have HF:=Lib.hid hfin
  have hkl:¬ (L.length:Int) < (L.length:Int):=by omega
  clear hfin
  go_wp2_with fail
  go_ret
  exact ⟨_,rfl,by rw [HF.out];exact H.out.below hbW,hbW.mono hbw⟩
end Mix2
abbrev ConIn (w:World):={ x:(Value×Value)×(Nat×Nat) // IsSet w x.1.1 x.2.1∧IsSet w x.1.2 x.2.2 }
@[reducible] def conInh (w:World):Inhabited (ConIn w):=⟨⟨((.slice none 0 0,.slice none 0 0),(0,0)),IsSet.empty w,IsSet.empty w⟩⟩
def encC (w:World) (x:ConIn w):List Value:=[x.1.1.1,x.1.1.2]
def cmpC (w:World) (x y:ConIn w):Int:=cmpQ x.1.2 y.1.2
theorem ltOf_C (w:World) (x y:ConIn w):Go.Proofs.ltOf (cmpC w) x y=ltQ x.1.2 y.1.2:=by
 unfold Go.Proofs.ltOf cmpC
 rw [Bool.eq_iff_iff,decide_eq_true_eq,cmpQ_neg]
theorem ltQ_asymm {a b:Nat×Nat} (h:ltQ a b=true):ltQ b a=false:=by
 cases h2:ltQ b a
 ·rfl
 ·rw [← ltQ_irrefl a,ltQ_trans h h2]
theorem swo_C (w:World):Go.Sort.SWO (Go.Proofs.ltOf (cmpC w)) where
 irrefl x:=by rw [ltOf_C];exact ltQ_irrefl _
 trans x y z h1 h2:=by rw [ltOf_C] at *;exact ltQ_trans h1 h2
 ntrans x y z h1 h2:=by
  rw [ltOf_C] at *
  cases h:ltQ x.1.2 z.1.2
  ·rfl
  ·by_cases e1:x.1.2=y.1.2
   ·rw [e1,h2] at h;cases h
   ·have a:=ltQ_total e1 h1
    by_cases e2:y.1.2=z.1.2
    ·rw [e2] at a;rw [ltQ_asymm a] at h;cases h
    ·have b:=ltQ_total e2 h2
     have c:=ltQ_trans b a
     rw [ltQ_asymm c] at h;cases h
section
variable {α:Type} [Inhabited α]
theorem sortW_heap (enc:α→List Value) (k:Nat) (w:World) (blk off m:Nat) (d:Array α) (os:Array Obj) {g:Nat} (hg:g < w.heap.size) (hne:g≠blk):(Go.Proofs.sortWorldK enc k w blk off m d os).heap[g]?=w.heap[g]?:=by
 unfold Go.Proofs.sortWorldK
 rw [Go.Sort.heap_grow_old _ _ (by simpa [Go.Sort.putRowK,Go.Sort.putRow,Go.Sort.mapBlock,Go.Sort.ahead] using hg)]
 unfold Go.Sort.putRowK Go.Sort.putRow Go.Sort.mapBlock Go.Sort.ahead
 dsimp only
 rw [Array.getElem?_modify,if_neg (fun e=>hne e.symm)]
theorem sortW_blk (enc:α→List Value) (k:Nat) (w:World) (blk off m:Nat) (d:Array α) (os:Array Obj) {t:TypeId} {cs:Array Value} (hB:Blk w blk t cs):∃ cs',Blk (Go.Proofs.sortWorldK enc k w blk off m d os) blk t cs'∧cs'.size=cs.size:=by
 refine ⟨Go.Sort.putCells id off (Go.Sort.flatK enc k d) cs,?_,by simp [Go.Sort.putCells]⟩
 unfold Blk Go.Proofs.sortWorldK
 rw [Go.Sort.heap_grow_old _ _ (by simpa [Go.Sort.putRowK,Go.Sort.putRow,Go.Sort.mapBlock,Go.Sort.ahead] using hB.lt)]
 unfold Go.Sort.putRowK Go.Sort.putRow Go.Sort.mapBlock Go.Sort.ahead
 dsimp only
 rw [Array.getElem?_modify,if_pos rfl]
 have h:w.heap[blk]?=some (.cells cs t (0,0)):=hB
 rw [h];rfl
theorem sortW_size (enc:α→List Value) (k:Nat) (w:World) (blk off m:Nat) (d:Array α) (os:Array Obj):w.heap.size≤(Go.Proofs.sortWorldK enc k w blk off m d os).heap.size:=by
 simp [Go.Proofs.sortWorldK,Go.Sort.putRowK,Go.Sort.putRow,Go.Sort.mapBlock,Go.Sort.ahead,Go.Sort.grow]
theorem sortW_keep (enc:α→List Value) (k:Nat) (w:World) (blk off m:Nat) (d:Array α) (os:Array Obj) {t:TypeId} {cs:Array Value} (hB:Blk w blk t cs) (ht:146≠t):KeepW w (Go.Proofs.sortWorldK enc k w blk off m d os) :=
 ⟨sortW_size enc k w blk off m d os,fun _ _ h=>(sortW_heap enc k w blk off m d os h.lt (h.ne_ hB ht)).trans h⟩
theorem sortW_below (enc:α→List Value) (k:Nat) (w:World) (base blk off m:Nat) (d:Array α) (os:Array Obj) (hb:base≤blk) (hl:blk < w.heap.size):Below base w (Go.Proofs.sortWorldK enc k w blk off m d os) :=
 ⟨rfl,rfl,rfl,sortW_size enc k w blk off m d os,fun g hg=>sortW_heap enc k w blk off m d os (by omega) (by omega)⟩
end
theorem isAggC (W:World):(isAgg 98).run Tryz.prog W=.ok true W:=by kernel_rfl
theorem sizeOfC (W:World):(Go.sizeOf 98).run Tryz.prog W=.ok 2 W:=by kernel_rfl
theorem cmpLays_C (w:World) (blk size:Nat) {t:TypeId} {cs:Array Value} (hB:Blk w blk t cs) (ht:146≠t) (ht2:blk≠0) (hT:Tab w):letI:=conInh w;Go.Proofs.CmpLays Tryz.prog 58 #[] (encC w) 2 (cmpC w) blk 0 size w:=by
 letI:=conInh w
 intro m os dk hs x y
 have hk:=sortW_keep (encC w) 2 w blk 0 m dk os hB ht
 have hT':Tab (Go.Proofs.sortWorldK (encC w) 2 w blk 0 m dk os):=fun j hj=>by
  have h:=hT j hj
  exact (World.cell?_of_block (sortW_heap (encC w) 2 w blk 0 m dk os (cell_lt h) (Ne.symm ht2))).trans h
 exact compareQ_g x.1.1.1 x.1.1.2 y.1.1.1 y.1.1.2 x.1.2 y.1.2 _ (x.2.1.keep hk) (x.2.2.keep hk) (y.2.1.keep hk) (y.2.2.keep hk) hT'
theorem sortQ_any (base:Nat) (v:Value) (L:List (Nat×Nat)) (w:World) (h:OwnQ w base v L) (hl:L.length≤4096) (hT:Tab w) (hTb:0 < base) :
  Calls Tryz.prog 57 #[v,.func (.func 58) #[] #[]] w fun e w'=>e=.returned (.tuple #[]) ∧
   ∃ S,S.Perm L∧S.Pairwise (fun a b=>ltQ b a=false)∧OwnQ w' base v S∧Below base w w':=by
 obtain ⟨vs,hown,hs⟩:=id h
 rcases id hown.2 with ⟨rfl,hn⟩ | ⟨g,cap,cur,rfl,hg,hB0,hnc,hcm,hsz,htk⟩
 ·have hL:L=[]:=List.length_eq_zero_iff.1 hn
  subst hL
  refine Calls.mono (AnyF.slices_SortFunc_none Tryz.sortCon none 0 (.func (.func 58) #[] #[]) w) ?_
  rintro e w' ⟨rfl,hw⟩
  have e9:w'=w:=by first | exact hw | exact hw.symm
  rw [e9]
  exact ⟨rfl,[],List.Perm.refl _,List.Pairwise.nil,h,Below.refl _ _⟩
 letI:=conInh w
 have hB:Blk w g 98 cur:=hB0
 have hvl:=hown.1
 have hget:∀ k,k < L.length→∃ v1 v2,vs[k*2]?=some v1∧vs[k*2+1]?=some v2∧IsSet w v1 (atQ L k).1∧IsSet w v2 (atQ L k).2:=fun k hk=>by
  obtain ⟨k1,k2⟩:=flatQ_get L k (atQ L k) (atQ_get hk)
  obtain ⟨v1,h1⟩:∃ x,vs[k*2]?=some x:=⟨_,List.getElem?_eq_getElem (by omega)⟩
  obtain ⟨v2,h2⟩:∃ x,vs[k*2+1]?=some x:=⟨_,List.getElem?_eq_getElem (by omega)⟩
  exact ⟨v1,v2,h1,h2,hs.2 _ _ _ h1 k1,hs.2 _ _ _ h2 k2⟩
 have hgD:∀ k,k < L.length→IsSet w (vs.getD (k*2) default) (atQ L k).1∧IsSet w (vs.getD (k*2+1) default) (atQ L k).2:=fun k hk=>by
  obtain ⟨v1,v2,h1,h2,h3,h4⟩:=hget k hk
  rw [List.getD_eq_getElem?_getD,List.getD_eq_getElem?_getD,h1,h2]
  exact ⟨h3,h4⟩
 let d:Array (ConIn w):=Array.ofFn (n:=L.length) fun k=>⟨((vs.getD (k.1*2) default,vs.getD (k.1*2+1) default),atQ L k.1),hgD k.1 k.2⟩
 have hd:d.size=L.length:=by simp [d]
 have hdL:d.toList.map (fun x=>x.1.2)=L:=by
  apply List.ext_getElem
  ·simp [d]
  ·intro i h1 h2
   have:=atQ_get h2
   rw [List.getElem?_eq_getElem h2] at this
   simp [d,Option.some.inj this]
 have hH:Go.Sort.HoldsK (encC w) 2 w g 0 d:=by
  intro j hj
  rw [Go.Sort.size_flatK] at hj
  refine ⟨?_,hB.frozen _⟩
  rw [Go.Sort.get_flatK _ _ _ _ hj,Nat.zero_add,hB.cell]
  have hjv:j < vs.length:=by omega
  obtain ⟨u,hu⟩:∃ u,vs[j]?=some u:=⟨_,List.getElem?_eq_getElem hjv⟩
  have hcj:cur[j]?=some u:=by
   have hu':=hu
   rw [← htk,List.getElem?_take] at hu'
   split at hu'
   ·simpa using hu'
   ·cases hu'
  rw [hcj]
  have hjd:j/2 < d.size:=by omega
  rw [getElem!_pos d (j/2) hjd]
  have he:d[j/2]=⟨((vs.getD ((j/2)*2) default,vs.getD ((j/2)*2+1) default),atQ L (j/2)),hgD (j/2) (by omega)⟩:=by simp [d]
  rw [he]
  show some _=some (id ([vs.getD ((j/2)*2) default,vs.getD ((j/2)*2+1) default][j%2]!))
  rcases Nat.mod_two_eq_zero_or_one j with hm | hm
  ·rw [hm]
   show some _=some (vs.getD ((j/2)*2) default)
   rw [show (j/2)*2=j by omega,List.getD_eq_getElem?_getD,hu];rfl
  ·rw [hm]
   show some _=some (vs.getD ((j/2)*2+1) default)
   rw [show (j/2)*2+1=j by omega,List.getD_eq_getElem?_getD,hu];rfl
 clear_value d
 have hone:∀ (x:ConIn w) (u:Value),u∈encC w x→u.oneCell'=true:=fun x u hx=>by
  obtain ⟨A1,c1,e1,_⟩:=x.2.1
  obtain ⟨A2,c2,e2,_⟩:=x.2.2
  unfold encC at hx
  rw [e1,e2] at hx
  simp only [List.mem_cons,List.mem_nil_iff,or_false] at hx
  rcases hx with rfl | rfl <;> rfl
 have hcon:=AnyQ.slices_SortFunc Tryz.sortCon 2 isAggC sizeOfC (encC w) (fun _=>rfl) hone (cmpC w) (swo_C w) 58 #[] g 0 cap d w (enters_of Tryz.func58 (by kernel_rfl) rfl) (cmpLays_C w g d.size hB (by decide) (by omega) hT) hH hB.lt (by omega)
 rw [hd] at hcon
 refine Calls.mono hcon ?_
 rintro e w' ⟨rfl,d',n',os,⟨hps,_,hperm⟩,hsort,rfl⟩
 have hk:=sortW_keep (encC w) 2 w g 0 n' d' os hB (by decide)
 have hp:d'.toList.Perm d.toList:=by
  have e1:d'.extract 0 L.length=d':=by rw [← hd,← hps];simp
  have e2:d.extract 0 L.length=d:=by rw [← hd];simp
  rwa [e1,e2] at hperm
 have hpl:d'.size=L.length:=by rw [hps,hd]
 obtain ⟨cs',hB',hcs'⟩:=sortW_blk (encC w) 2 w g 0 n' d' os hB
 have hcell:∀ j,j < d'.size*2→cs'[j]?=some ((encC w d'[j/2]!)[j%2]!):=fun j hj=>by
  have hc:=Go.Sort.cell?_putRow id (Go.Sort.ahead w n') g 0 (Go.Sort.flatK (encC w) 2 d) (Go.Sort.flatK (encC w) 2 d') (fun j hj=>hH j hj) (by rw [Go.Sort.size_flatK,Go.Sort.size_flatK,hps]) j (by rw [Go.Sort.size_flatK];omega)
  rw [← hB'.cell]
  unfold Go.Proofs.sortWorldK
  rw [Go.Sort.cell?_grow _ _ _ (by simpa [Go.Sort.putRowK,Go.Sort.putRow,Go.Sort.mapBlock,Go.Sort.ahead] using hB.lt)]
  unfold Go.Sort.putRowK
  rw [Nat.zero_add] at hc
  rw [hc,Go.Sort.get_flatK _ _ _ _ hj];rfl
 have hcll:cs'.toList.length=cap*2:=by rw [← hsz,← hcs'];simp
 have hSl:(d'.toList.map (fun x=>x.1.2)).length=L.length:=by simp [hpl]
 refine ⟨rfl,d'.toList.map (fun x=>x.1.2),by rw [← hdL];exact hp.map _,?_,⟨cs'.toList.take (L.length*2),⟨by rw [List.length_take,hSl,hcll];omega,.inr ⟨g,cap,cs',by rw [hSl],hg,hB',by rw [hSl];exact hnc,hcm,by rw [hcs'];exact hsz,by rw [hSl]⟩⟩,?_⟩,sortW_below _ _ _ _ _ _ _ _ _ hg hB.lt⟩
 ·rw [List.pairwise_map,List.pairwise_iff_getElem]
  intro i j hi hj hij
  rw [Array.length_toList] at hi hj
  have:=hsort i j (Nat.zero_le _) hij (by omega)
  rw [ltOf_C,getElem!_pos d' i hi,getElem!_pos d' j hj] at this
  simpa using this
 ·refine ⟨by rw [flatQ_len,hSl,List.length_take,hcll];omega,fun k v N hv hN=>?_⟩
  rw [List.getElem?_take] at hv
  split at hv
  case isFalse=>cases hv
  rename_i hk2
  rw [Array.getElem?_toList,hcell k (by omega)] at hv
  have hkd:k/2 < d'.size:=by omega
  rw [getElem!_pos d' (k/2) hkd] at hv
  have hx:(d'.toList.map (fun x=>x.1.2))[k/2]?=some d'[k/2].1.2:=by
   rw [List.getElem?_map,Array.getElem?_toList,Array.getElem?_eq_getElem hkd];rfl
  obtain ⟨q1,q2⟩:=flatQ_get _ _ _ hx
  rcases Nat.mod_two_eq_zero_or_one k with hm | hm
  ·rw [hm] at hv
   rw [show k/2*2=k by omega,hN] at q1
   cases q1;cases hv
   exact d'[k/2].2.1.keep hk
  ·rw [hm] at hv
   rw [show k/2*2+1=k by omega,hN] at q2
   cases q2;cases hv
   exact d'[k/2].2.2.keep hk
namespace Mix2
theorem normal_any (u p D C:Nat) (Us Ps:List Nat) (K:List (Nat×Nat)) (w:World) (hu:IsMat w u D Us) (hp:IsMat w p C Ps) (hinP:rowsIn C Ps) (hC:C≤256) (hR:Us.length≤256) (hP:Ps.length≤256) (hD:D=Ps.length) (hT:Tab w) (hK:K=normL (roleQ D Us Ps Ps.length)) :
  Calls Tryz.prog 16 #[.agg #[ptr u,ptr p]] w fun e w'=>∃ u' p',e=.returned (.tuple #[.agg #[ptr u',ptr p'],.int .i64 0])∧IsMO w' u' K.length (mtrans Us.length (K.map (·.1)) Us.length)∧IsMO w' p' C (K.map (·.2))∧Below w.heap.size w w':=by
 have hwf:=(roleQ_wf (D:=D) (Us:=Us) (Ps:=Ps) (R:=Us.length) rfl (by omega) hinP).normL
 have hkl:=normL_len (roleQ D Us Ps Ps.length)
 rw [roleQ_len] at hkl
 rw [← hK] at hwf hkl
 have hTb:0 < w.heap.size:=cell_lt (hT 0 (by decide))
 have HLI:=Lib.hid (fun W (hb:Below w.heap.size w W)=>list48_any u p D C Us Ps W (hu.below hb) (hp.below hb) hP)
 have HTA:=Lib.hid (fun W (hb:Below w.heap.size w W)=>hT.below hb)
 have HNP:=Lib.hid (fun (S:List (Nat×Nat)) (h1:S.Perm ((roleQ D Us Ps Ps.length).filter nonE)) (h2:S.Pairwise (fun a b=>ltQ b a=false))=>(norm_prog2 h1 h2).trans hK.symm)
 have hrl:=roleQ_len D Us Ps Ps.length
 obtain ⟨L0,hL0⟩:∃ L,L=roleQ D Us Ps Ps.length:=⟨_,rfl⟩
 rw [← hL0] at HLI HNP hrl
 have HWF:=Lib.hid hwf
 have HRL:=Lib.hid hrl
 clear hK hL0 hwf hrl
 go_enter Tryz.func16,Tryz.ntmps16
 go_upto_region 1 with fail
 refine abs2 fun W h1 h2 hb hz=>?_
 clear hz
 obtain ⟨g,hg⟩:∃ x,x=w.heap.size:=⟨_,rfl⟩
 have hgw:w.heap.size≤g+1:=by omega
 rw [← hg] at h1 h2 ⊢
 clear hg
 have p0:=h1.cell 0
 have p1:=h1.cell 1
 refine wp_mix (fun V=>Below W.heap.size W V) 17 (by kernel_rfl) (by kernel_rfl) (Below.refl _ _).drew ?_
 have hr:=(Below.refl W.heap.size W).drew
 obtain ⟨U,hU⟩:∃ U,U=W.drew:=⟨_,rfl⟩
 rw [← hU] at hr ⊢
 clear hU
 have hbU:=hb.trans (hr.mono hb.size)
 have HC:=hideC (cols_any u D Us U (hu.below hbU))
 have HR:=hideC (rows_any p C Ps U (hp.below hbU))
 (refine m_q 0 (v:=?_) (by kernel_rfl) rfl rfl (fun W hW=>?_) ?_;rotate_left;(have y0:=onB hW p0;have y1:=onB hW p1;go_simp;first | done | with_reducible rfl);simp only [pt1,pt3,pt4,pt5]);(refine m_q 1 (v:=?_) (by kernel_rfl) rfl rfl (fun W hW=>?_) ?_;rotate_left;(have y0:=onB hW p0;have y1:=onB hW p1;go_simp;first | done | with_reducible rfl);simp only [pt1,pt3,pt4,pt5]);(refine m_q 2 (v:=?_) (by kernel_rfl) rfl rfl (fun W hW=>?_) ?_;rotate_left;(have y0:=onB hW p0;have y1:=onB hW p1;go_simp;first | done | with_reducible rfl);simp only [pt1,pt3,pt4,pt5]);(refine m_q 3 (v:=?_) (by kernel_rfl) rfl rfl (fun W hW=>?_) ?_;rotate_left;(have y0:=onB hW p0;have y1:=onB hW p1;go_simp;first | done | with_reducible rfl);simp only [pt1,pt3,pt4,pt5])
 (refine m_yes 4 (v:=?_) (by kernel_rfl) rfl (by rfl) (fun W hW=>?_) ?_;rotate_left;(have y0:=onB hW p0;have y1:=onB hW p1;go_simp;first | done | with_reducible rfl);simp only [pt1,pt3,pt4,pt5]);(refine m_yes 5 (v:=?_) (by kernel_rfl) rfl (by rfl) (fun W hW=>?_) ?_;rotate_left;(have y0:=onB hW p0;have y1:=onB hW p1;go_simp;first | done | with_reducible rfl);simp only [pt1,pt3,pt4,pt5]);(refine m_yes 6 (v:=?_) (by kernel_rfl) rfl (by rfl) (fun W hW=>?_) ?_;rotate_left;(have y0:=onB hW p0;have y1:=onB hW p1;go_simp;first | done | with_reducible rfl);simp only [pt1,pt3,pt4,pt5])
 (refine m_q 7 (v:=?_) (by kernel_rfl) rfl rfl (fun W hW=>?_) ?_;rotate_left;(go_simp;first | done | with_reducible rfl);simp only [pt1,pt3,pt4,pt5]);(refine m_q 8 (v:=?_) (by kernel_rfl) rfl rfl (fun W hW=>?_) ?_;rotate_left;(go_simp;first | done | with_reducible rfl);simp only [pt1,pt3,pt4,pt5])
 (refine m_yes 9 (v:=?_) (by kernel_rfl) rfl (by rfl) (fun W hW=>?_) ?_;rotate_left;(have y0:=onB hW p0;have y1:=onB hW p1;go_simp;first | done | with_reducible rfl);simp only [pt1,pt3,pt4,pt5]);(refine m_yes 10 (v:=?_) (by kernel_rfl) rfl (by rfl) (fun W hW=>?_) ?_;rotate_left;(have y0:=onB hW p0;have y1:=onB hW p1;go_simp;first | done | with_reducible rfl);simp only [pt1,pt3,pt4,pt5]);(refine m_yes 12 (v:=?_) (by kernel_rfl) rfl (by rfl) (fun W hW=>?_) ?_;rotate_left;(have y0:=onB hW p0;have y1:=onB hW p1;go_simp;first | done | with_reducible rfl);simp only [pt1,pt3,pt4,pt5]);(refine m_yes 13 (v:=?_) (by kernel_rfl) rfl (by rfl) (fun W hW=>?_) ?_;rotate_left;(have y0:=onB hW p0;have y1:=onB hW p1;go_simp;first | done | with_reducible rfl);simp only [pt1,pt3,pt4,pt5])
 refine m_s1 11 (by kernel_rfl) rfl ?_
 go_wp2_with fail
 with_reducible refine HC.out.mono ?_
 rintro e w' ⟨rfl,rfl⟩
 go_wp2_with fail
 refine m_keep hr ?_
 refine m_s1 14 (by kernel_rfl) rfl ?_
 go_wp2_with fail
 with_reducible refine HR.out.mono ?_
 rintro e w' ⟨rfl,rfl⟩
 go_wp2_with fail
 refine m_keep hr ?_
 (refine m_yes 15 (v:=?_) (by kernel_rfl) rfl (by rfl) (fun W hW=>?_) ?_;rotate_left;(go_simp;first | done | with_reducible rfl);simp only [pt1,pt3,pt4,pt5])
 (refine m_q 16 (v:=?_) (by kernel_rfl) rfl rfl (fun W hW=>?_) ?_;rotate_left;(go_simp;first | done | with_reducible rfl);simp only [pt1,pt3,pt4,pt5])
 refine m_end (by kernel_rfl) ?_
 have k1:=h1.below hr h1.lt
 have k2:=h2.below hr h2.lt
 clear HC HR hr h1 h2 p0 p1 hb
 have e1:((D:Int) != (Ps.length:Int))=false:=by rw [hD];simp
 have e2:decide ((D:Int)=(Ps.length:Int))=true:=decide_eq_true (by rw [hD])
 have e3:((D:Int) == (Ps.length:Int))=true:=by rw [hD];simp
 have HD:=Lib.hid hD
 clear hD
 have p0:=k1.cell 0
 have p1:=k1.cell 1
 have HL:=hideC (HLI.out U hbU)
 go_wp2_with fail
 with_reducible refine HL.out.mono ?_
 rintro e W2 ⟨v2,rfl,hO2,hb2⟩
 have b2:=hbU.trans (hb2.mono hbU.size)
 have q1:=k1.below hb2 k1.lt
 have q2:=k2.below hb2 k2.lt
 have hg1:g+1 < U.heap.size:=k2.lt
 have hBw:=hb2.size
 have hwB:=hbU.size
 obtain ⟨B0,hB0⟩:∃ b,b=U.heap.size:=⟨_,rfl⟩
 rw [← hB0] at hO2 hg1 hBw hwB
 have hTB0:0 < B0:=Nat.lt_of_lt_of_le hTb hwB
 have hl2:L0.length≤4096:=by rw [HRL.out];omega
 have hlf:(L0.filter nonE).length≤4096:=Nat.le_trans (List.length_filter_le _ _) hl2
 have HLF:=Lib.hid hlf
 have HL2:=Lib.hid hl2
 clear e1 e2 e3 p0 p1 k1 k2 HL HLI hb2 hB0 hlf hl2
 have HDF:=hideC (deleteF_any B0 v2 L0 W2 hO2 HL2.out hBw)
 go_wp2_with fail
 with_reducible refine HDF.out.mono ?_
 rintro e W3 ⟨v3,rfl,hO3,hb3⟩
 have b3:=b2.trans (hb3.mono hwB)
 have hB3:=Nat.le_trans hBw hb3.size
 have q1:=q1.below hb3 (by omega)
 have q2:=q2.below hb3 (by omega)
 clear hO2 HDF hb3 HL2 b2
 obtain ⟨F0,hF0⟩:∃ F,F=L0.filter nonE:=⟨_,rfl⟩
 rw [← hF0] at hO3 HLF HNP
 clear hF0
 have HSF:=hideC (sortQ_any B0 v3 F0 W3 hO3 HLF.out (HTA.out W3 b3) hTB0)
 go_wp2_with fail
 with_reducible refine HSF.out.mono ?_
 rintro e W4 ⟨rfl,S,hS1,hS2,hO4,hb4⟩
 have b4:=b3.trans (hb4.mono hwB)
 have hB4:=Nat.le_trans hB3 hb4.size
 have q1:=q1.below hb4 (by omega)
 have q2:=q2.below hb4 (by omega)
 have hK:=HNP.out S hS1 hS2
 have hSl:S.length≤4096:=by rw [hS1.length_eq];exact HLF.out
 have hcf:=compactF_any B0 v3 S W4 hO4 hSl hB4 (HTA.out W4 b4) hTB0
 rw [hK] at hcf
 have HCF:=hideC hcf
 clear hO3 HSF hb4 b3 hS1 hS2 hK hSl hcf HNP HLF
 go_wp2_with fail
 with_reducible refine HCF.out.mono ?_
 rintro e W5 ⟨v5,rfl,hO5,hb5⟩
 have b5:=b4.trans (hb5.mono hwB)
 have hB5:=Nat.le_trans hB4 hb5.size
 have q1:=q1.below hb5 (by omega)
 have q2:=q2.below hb5 (by omega)
 clear hO4 HCF hb5 b4
 have p0:=q1.cell 0
 have p1:=q1.cell 1
 go_upto_region 6 with fail
 refine wp_mix (fun V=>Below W5.heap.size W5 V) 12 (by kernel_rfl) (by kernel_rfl) (Below.refl _ _).drew ?_
 have hr:=(Below.refl W5.heap.size W5).drew
 obtain ⟨Vd,hVd⟩:∃ Vd,Vd=W5.drew:=⟨_,rfl⟩
 rw [← hVd] at hr ⊢
 clear hVd
 have bU:=b5.trans (hr.mono b5.size)
 have HR:=hideC (rows_any u D Us Vd (hu.below bU))
 have HC:=hideC (cols_any p C Ps Vd (hp.below bU))
 have HB:=hideC (buildQ_any B0 v5 Us.length C K Vd (hO5.below hr) (Nat.le_trans hkl hP) hR hC HWF.out.rows1 HWF.out.rows2)
 (refine m_q 0 (v:=?_) (by kernel_rfl) rfl rfl (fun W hW=>?_) ?_;rotate_left;(have y0:=onB hW p0;have y1:=onB hW p1;go_simp;first | done | with_reducible rfl);simp only [pt1,pt3,pt4,pt5]);(refine m_q 1 (v:=?_) (by kernel_rfl) rfl rfl (fun W hW=>?_) ?_;rotate_left;(have y0:=onB hW p0;have y1:=onB hW p1;go_simp;first | done | with_reducible rfl);simp only [pt1,pt3,pt4,pt5]);(refine m_q 3 (v:=?_) (by kernel_rfl) rfl rfl (fun W hW=>?_) ?_;rotate_left;(have y0:=onB hW p0;have y1:=onB hW p1;go_simp;first | done | with_reducible rfl);simp only [pt1,pt3,pt4,pt5]);(refine m_q 4 (v:=?_) (by kernel_rfl) rfl rfl (fun W hW=>?_) ?_;rotate_left;(have y0:=onB hW p0;have y1:=onB hW p1;go_simp;first | done | with_reducible rfl);simp only [pt1,pt3,pt4,pt5]);(refine m_q 6 (v:=?_) (by kernel_rfl) rfl rfl (fun W hW=>?_) ?_;rotate_left;(have y0:=onB hW p0;have y1:=onB hW p1;go_simp;first | done | with_reducible rfl);simp only [pt1,pt3,pt4,pt5])
 refine m_s1 2 (by kernel_rfl) rfl ?_
 go_wp2_with fail
 with_reducible refine HR.out.mono ?_
 rintro e w' ⟨rfl,rfl⟩
 go_wp2_with fail
 refine m_keep hr ?_
 refine m_s1 5 (by kernel_rfl) rfl ?_
 go_wp2_with fail
 with_reducible refine HC.out.mono ?_
 rintro e w' ⟨rfl,rfl⟩
 go_wp2_with fail
 refine m_keep hr ?_
 refine m_s1 7 (by kernel_rfl) rfl ?_
 go_wp2_with fail
 with_reducible refine HB.out.mono ?_
 rintro e U3 ⟨u3,p3,rfl,hk1,hk2,hb6⟩
 have hr3:=hr.trans (hb6.mono hr.size)
 go_wp2_with fail
 refine m_keep hr3 ?_
 (refine m_q 8 (v:=?_) (by kernel_rfl) rfl rfl (fun W hW=>?_) ?_;rotate_left;(go_simp;first | done | with_reducible rfl);simp only [pt1,pt3,pt4,pt5]);(refine m_q 9 (v:=?_) (by kernel_rfl) rfl rfl (fun W hW=>?_) ?_;rotate_left;(go_simp;first | done | with_reducible rfl);simp only [pt1,pt3,pt4,pt5])
 have k2:=q2.below hr3 q2.lt
 have kb:=b5.trans (hr3.mono b5.size)
 have x2:=(k2.set_ 0 (ptr u3)).set_ 1 (ptr p3)
 have xb:=(kb.setCell (p:=⟨g+1,0,none⟩) hgw (ptr u3)).setCell (p:=⟨g+1,1,none⟩) hgw (ptr p3)
 have f0:=k2.frozen 0
 have f1:=k2.frozen 1
 have c0:=k2.cell 0
 have c1:=k2.cell 1
 have l2:=k2.lt
 have kk:∀ (r X:Nat) (Ms:List Nat),IsMO U3 r X Ms→IsMO ((U3.setCell ⟨g+1,0,none⟩ (ptr u3)).setCell ⟨g+1,1,none⟩ (ptr p3)) r X Ms:=fun r X Ms h=>(h.put (i:=0) k2 (by decide) (by decide) (by decide) (ptr u3)).put (i:=1) (k2.set_ 0 (ptr u3)) (by decide) (by decide) (by decide) (ptr p3)
 have hk1':=kk _ _ _ hk1
 have hk2':=kk _ _ _ hk2
 have X2:=Lib.hid x2;have XB:=Lib.hid xb;have K1:=Lib.hid hk1';have K2:=Lib.hid hk2'
 clear x2 xb q1 q2 k2 kb hr hr3 p0 p1 HB HC HR hb6 hk1 hk2 hk1' hk2' kk bU b5
 refine m_s1 10 (by kernel_rfl) rfl ?_
 go_wp2_with fail
 refine m_clear (by kernel_rfl) ?_
 (refine m_q 11 (v:=?_) (by kernel_rfl) rfl rfl (fun W hW=>?_) ?_;rotate_left;(go_simp;first | done | with_reducible rfl);simp only [pt1,pt3,pt4,pt5])
 refine m_end (by kernel_rfl) ?_
 go_wp2_with fail
 have d0:=Blk.cell X2.out 0
 have d1:=Blk.cell X2.out 1
 exact bodyPost_ret (v:=.tuple #[.agg #[ptr u3,ptr p3],.int .i64 0]) (by simp [results,Tryz.results16,go_sem,d0,d1]) rfl ⟨_,_,rfl,K1.out,K2.out,XB.out⟩
end Mix2
end Go.Proofs.YtafpmkdlciioaaaGreatDoor
