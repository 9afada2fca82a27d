import Derived.Test.YtafpmkdlciioaaaGreatDoorPk01
import Derived.OrdersIn
import Derived.TacticsIn
import Derived.RangeFuncCalls
set_option maxHeartbeats 2000000
set_option maxRecDepth 100000
namespace Go.Proofs.YtafpmkdlciioaaaGreatDoor
open Go.RowKit
def Sets (w:World) (vs:List Value) (Ns:List Nat):Prop:=vs.length=Ns.length∧∀ (k:Nat) v N,vs[k]?=some v→Ns[k]?=some N→IsSet w v N
theorem Sets.keep {w w':World} {vs:List Value} {Ns:List Nat} (h:Sets w vs Ns) (hk:KeepW w w'):Sets w' vs Ns:=⟨h.1,fun k v N hv hN=>(h.2 k v N hv hN).keep hk⟩
theorem Sets.below {w w':World} {vs:List Value} {Ns:List Nat} (h:Sets w vs Ns) (hb:Below w.heap.size w w'):Sets w' vs Ns:=h.keep (.of_below hb)
theorem Sets.nil (w:World):Sets w [] []:=⟨rfl,fun k v N h=>by simp at h⟩
theorem Sets.snoc {w:World} {vs:List Value} {Ns:List Nat} {v:Value} {N:Nat} (h:Sets w vs Ns) (hs:IsSet w v N):Sets w (vs ++ [v]) (Ns ++ [N]):=by
 refine ⟨by simp [h.1],fun k u M hu hM=>?_⟩
 by_cases hk:k < vs.length
 ·rw [List.getElem?_append_left hk] at hu
  rw [List.getElem?_append_left (by rw [← h.1];exact hk)] at hM
  exact h.2 k u M hu hM
 ·rw [List.getElem?_append_right (by omega)] at hu
  rw [List.getElem?_append_right (by rw [← h.1];omega),← h.1] at hM
  have hk2:k-vs.length=0:=by
   rcases Nat.eq_zero_or_pos (k-vs.length) with h0 | h0
   ·exact h0
   ·rw [List.getElem?_eq_none (by simp;omega)] at hu;cases hu
  rw [hk2] at hu hM
  simp at hu hM
  subst hu;subst hM;exact hs
theorem Sets.at_ {w:World} {vs:List Value} {Ns:List Nat} (h:Sets w vs Ns) {k:Nat} (hk:k < Ns.length):∃ A c,vs[k]?=some (.slice A (nw Ns[k]) c)∧IsSet w (.slice A (nw Ns[k]) c) Ns[k]:=by
 have hk':k < vs.length:=by rw [h.1];exact hk
 have hs:=h.2 k vs[k] Ns[k] (List.getElem?_eq_getElem hk') (List.getElem?_eq_getElem hk)
 obtain ⟨A,c,e,_⟩:=id hs
 exact ⟨A,c,by rw [← e];exact List.getElem?_eq_getElem hk',by rw [← e];exact hs⟩
def IsMat (w:World) (p C:Nat) (Ns:List Nat):Prop :=
 C≤4096∧Ns.length≤4096∧∃ (A:Option Addr) (c:Nat) (vs:List Value),Blk w p 104 #[.int .i64 (C:Int),.slice A Ns.length c]∧Ns.length≤c∧Row w A vs∧Sets w vs Ns
theorem IsMat.below {w w':World} {p C:Nat} {Ns:List Nat} (h:IsMat w p C Ns) (hb:Below w.heap.size w w'):IsMat w' p C Ns:=by
 obtain ⟨h1,h2,A,c,vs,hB,hc,hr,hs⟩:=h
 exact ⟨h1,h2,A,c,vs,hB.below hb hB.lt,hc,hr.below hb,hs.below hb⟩
abbrev ptr (p:Nat):Value:=.pointer (some ⟨p,0,none⟩)
theorem rows_any (p C:Nat) (Ns:List Nat) (w:World) (h:IsMat w p C Ns) :
  Calls Tryz.prog 10 #[ptr p] w fun e w'=>e=.returned (.int .i64 Ns.length)∧w=w':=by
 obtain ⟨h1,h2,A,c,vs,hB,hc,_⟩:=h
 have c1:=hB.cell 1
 clear hB
 go_enter Tryz.func10,Tryz.ntmps10
 go_wp2
 go_ret
 exact ⟨rfl,rfl⟩
theorem rows_nil (w:World):Calls Tryz.prog 10 #[.pointer none] w fun e w'=>e=.returned (.int .i64 0)∧w=w':=by
 go_enter Tryz.func10,Tryz.ntmps10
 go_wp2
 go_ret
 exact ⟨rfl,rfl⟩
theorem cols_any (p C:Nat) (Ns:List Nat) (w:World) (h:IsMat w p C Ns) :
  Calls Tryz.prog 27 #[ptr p] w fun e w'=>e=.returned (.int .i64 C)∧w=w':=by
 obtain ⟨h1,h2,A,c,vs,hB,hc,_⟩:=h
 have c1:=hB.cell 0
 clear hB
 go_enter Tryz.func27,Tryz.ntmps27
 go_wp2
 go_ret
 exact ⟨rfl,rfl⟩
theorem cols_nil (w:World):Calls Tryz.prog 27 #[.pointer none] w fun e w'=>e=.returned (.int .i64 0)∧w=w':=by
 go_enter Tryz.func27,Tryz.ntmps27
 go_wp2
 go_ret
 exact ⟨rfl,rfl⟩
def insideB (R C:Nat) (i j:Int):Bool:=decide (0≤i∧i < R∧0≤j∧j < C)
theorem inside_core (m:Value) (R C:Nat) (i j:Int) (w:World) (hr:Calls Tryz.prog 10 #[m] w fun e w'=>e=.returned (.int .i64 R)∧w=w') (hc:Calls Tryz.prog 27 #[m] w fun e w'=>e=.returned (.int .i64 C)∧w=w') :
  Calls Tryz.prog 139 #[m,.int .i64 i,.int .i64 j] w fun e w'=>e=.returned (.bool (insideB R C i j))∧w=w':=by
 have HR:=hideC hr;have HC:=hideC hc
 clear hr hc
 by_cases h1:0≤i
 ·by_cases h2:i < R
  ·by_cases h3:0≤j
   ·by_cases h4:j < C
    ·go_enter Tryz.func139,Tryz.ntmps139
     go_wp2_with (first | (go_at_call 10;refine HR.out.mono ?_;rintro e w' ⟨rfl,rfl⟩) | (go_at_call 27;refine HC.out.mono ?_;rintro e w' ⟨rfl,rfl⟩))
     go_ret
     exact ⟨ret_bool (by simp [insideB,h1,h2,h3,h4]),rfl⟩
    ·go_enter Tryz.func139,Tryz.ntmps139
     go_wp2_with (first | (go_at_call 10;refine HR.out.mono ?_;rintro e w' ⟨rfl,rfl⟩) | (go_at_call 27;refine HC.out.mono ?_;rintro e w' ⟨rfl,rfl⟩))
     go_ret
     exact ⟨ret_bool (by simp [insideB,h1,h2,h3]),rfl⟩
   ·go_enter Tryz.func139,Tryz.ntmps139
    go_wp2_with (first | (go_at_call 10;refine HR.out.mono ?_;rintro e w' ⟨rfl,rfl⟩))
    go_ret
    exact ⟨ret_bool (by rw [eq_comm];unfold insideB;rw [decide_eq_false_iff_not];omega),rfl⟩
  ·go_enter Tryz.func139,Tryz.ntmps139
   go_wp2_with (first | (go_at_call 10;refine HR.out.mono ?_;rintro e w' ⟨rfl,rfl⟩))
   go_ret
   exact ⟨ret_bool (by rw [eq_comm];unfold insideB;rw [decide_eq_false_iff_not];omega),rfl⟩
 ·go_enter Tryz.func139,Tryz.ntmps139
  go_wp2
  go_ret
  exact ⟨ret_bool (by rw [eq_comm];unfold insideB;rw [decide_eq_false_iff_not];omega),rfl⟩
theorem inside_any (p C:Nat) (Ns:List Nat) (i j:Int) (w:World) (h:IsMat w p C Ns) :
  Calls Tryz.prog 139 #[ptr p,.int .i64 i,.int .i64 j] w fun e w'=>e=.returned (.bool (insideB Ns.length C i j))∧w=w' :=
 inside_core _ _ _ i j w (rows_any p C Ns w h) (cols_any p C Ns w h)
theorem inside_nil (i j:Int) (w:World) :
  Calls Tryz.prog 139 #[.pointer none,.int .i64 i,.int .i64 j] w fun e w'=>e=.returned (.bool false)∧w=w':=by
 have h:=inside_core _ 0 0 i j w (rows_nil w) (cols_nil w)
 have e:insideB 0 0 i j=false:=by unfold insideB;rw [decide_eq_false_iff_not];omega
 rwa [e] at h
def mhas (C:Nat) (Ns:List Nat) (i j:Int):Bool:=insideB Ns.length C i j&&(Ns.getD i.toNat 0).testBit j.toNat
theorem hasm_any (p C:Nat) (Ns:List Nat) (i j:Int) (w:World) (h:IsMat w p C Ns) :
  Calls Tryz.prog 99 #[ptr p,.int .i64 i,.int .i64 j] w fun e w'=>e=.returned (.bool (mhas C Ns i j))∧Below w.heap.size w w':=by
 obtain ⟨h1,h2,A,c,vs,hB,hc,hr,hs⟩:=id h
 have hin:=hideC (inside_any p C Ns i j w h)
 unfold mhas
 by_cases hi:insideB Ns.length C i j=true
 ·rw [hi] at hin
  rw [hi,Bool.true_and]
  have hi':=hi
  simp only [insideB,decide_eq_true_eq] at hi'
  obtain ⟨a1,a2,a3,a4⟩:=hi'
  obtain ⟨I,rfl⟩:=Int.eq_ofNat_of_zero_le a1
  obtain ⟨J,rfl⟩:=Int.eq_ofNat_of_zero_le a3
  have aI:I < Ns.length:=by omega
  obtain ⟨A1,c1,hv,hset⟩:=hs.at_ aI
  obtain ⟨g,off,rfl,hg,hcell⟩:=hr (by rw [hs.1];omega)
  have cv:=hcell I _ hv
  have c1':=hB.cell 1
  rw [Int.toNat_natCast,Int.toNat_natCast,List.getD_eq_getElem?_getD,List.getElem?_eq_getElem aI,Option.getD_some]
  clear hB hcell hr hs hv h hi
  go_enter Tryz.func99,Tryz.ntmps99
  go_wp2_with (first | (go_at_call 139;refine hin.out.mono ?_;rintro e w' ⟨rfl,rfl⟩) | (go_at_call 87;refine (has_in _ _ J _ hset (by omega)).mono ?_;rintro e w' ⟨rfl,hb1⟩))
  go_ret
  exact ⟨rfl,hb1⟩
 ·have hi':insideB Ns.length C i j=false:=by simpa using hi
  rw [hi'] at hin
  rw [hi',Bool.false_and]
  clear hi hB hr hs h
  go_enter Tryz.func99,Tryz.ntmps99
  go_wp2_with (go_at_call 139;refine hin.out.mono ?_;rintro e w' ⟨rfl,rfl⟩)
  go_ret
  exact ⟨rfl,Below.refl _ _⟩
theorem hasm_nil (i j:Int) (w:World) :
  Calls Tryz.prog 99 #[.pointer none,.int .i64 i,.int .i64 j] w fun e w'=>e=.returned (.bool false)∧w=w':=by
 have hin:=hideC (inside_nil i j w)
 go_enter Tryz.func99,Tryz.ntmps99
 go_wp2_with (go_at_call 139;refine hin.out.mono ?_;rintro e w' ⟨rfl,rfl⟩)
 go_ret
 exact ⟨rfl,rfl⟩
theorem own_below {w w':World} {base:Nat} {e:TypeId} {size:Nat} {v:Value} {n:Nat} {xs:List Value} (h:w.ownsRow base e size v n xs) (hb:Below w.heap.size w w'):w'.ownsRow base e size v n xs:=by
 obtain ⟨hl,h⟩:=h
 refine ⟨hl,?_⟩
 rcases h with h | ⟨g,cap,cur,hv,hg,hh,r⟩
 ·exact .inl h
 ·exact .inr ⟨g,cap,cur,hv,hg,(hb.block g (Array.getElem?_eq_some_iff.1 hh).1).trans hh,r⟩
def mrow (Ns:List Nat) (i:Int):Nat:=if 0≤i then Ns.getD i.toNat 0 else 0
theorem row_core (m:Value) (R:Nat) (i:Int) (w:World) (hi:i < 0∨R≤i) (hr:Calls Tryz.prog 10 #[m] (w.alloc (.cells #[.slice none 0 0] 58)) fun e w'=>e=.returned (.int .i64 R)∧(w.alloc (.cells #[.slice none 0 0] 58))=w') :
  Calls Tryz.prog 40 #[m,.int .i64 i] w fun e w'=>∃ r,e=.returned (.agg #[r])∧IsSet w' r 0∧Below w.heap.size w w':=by
 have HR:=hideC hr
 clear hr
 by_cases h1:i < 0
 ·go_enter Tryz.func40,Tryz.ntmps40
  go_wp2
  refine bodyPost_ret (v:=.agg #[.slice none 0 0]) (by simp [results,Tryz.results40,go_sem]) rfl ⟨_,rfl,IsSet.empty _,(Below.refl _ _).alloc (Nat.le_refl _) _⟩
 ·have h2:(R:Int)≤i:=by omega
  clear hi
  go_enter Tryz.func40,Tryz.ntmps40
  go_wp2_with (go_at_call 10;refine HR.out.mono ?_;rintro e w' ⟨rfl,rfl⟩)
  refine bodyPost_ret (v:=.agg #[.slice none 0 0]) (by simp [results,Tryz.results40,go_sem]) rfl ⟨_,rfl,IsSet.empty _,(Below.refl _ _).alloc (Nat.le_refl _) _⟩
theorem row_any (p C:Nat) (Ns:List Nat) (i:Int) (w:World) (h:IsMat w p C Ns) :
  Calls Tryz.prog 40 #[ptr p,.int .i64 i] w fun e w'=>∃ r,e=.returned (.agg #[r])∧IsSet w' r (mrow Ns i)∧Below w.heap.size w w':=by
 have h':=h.below ((Below.refl w.heap.size w).alloc (Nat.le_refl _) (.cells #[.slice none 0 0] 58))
 by_cases hi:0≤i∧i < Ns.length
 ·obtain ⟨I,rfl⟩:=Int.eq_ofNat_of_zero_le hi.1
  have aI:I < Ns.length:=by omega
  have e:mrow Ns (I:Int)=Ns[I]:=by simp [mrow,aI]
  rw [e]
  have h0:¬ (I:Int) < 0:=by omega
  have HR:=hideC (rows_any p C Ns _ h')
  obtain ⟨h1,h2,A,c,vs,hB,hc,hr,hs⟩:=h
  obtain ⟨A1,c1,hv,hset⟩:=hs.at_ aI
  obtain ⟨g,off,rfl,hg,hcell⟩:=hr (by rw [hs.1];omega)
  have cv:=hcell I _ hv
  have c1':=hB.cell 1
  have lB:=hB.lt
  have hset2:=(hset.keep (KeepW.alloc w (.cells #[.slice A1 (nw Ns[I]) c1] 58)))
  clear hB hcell hr hs hv h' hi e
  go_enter Tryz.func40,Tryz.ntmps40
  go_wp2_with (go_at_call 10;refine HR.out.mono ?_;rintro e w' ⟨rfl,rfl⟩)
  refine bodyPost_ret (v:=.agg #[.slice A1 (nw Ns[I]) c1]) (by simp [results,Tryz.results40,go_sem]) rfl ⟨_,rfl,hset2,(Below.refl _ _).alloc (Nat.le_refl _) _⟩
 ·have e:mrow Ns i=0:=by
   unfold mrow
   by_cases h0:0≤i
   ·rw [if_pos h0,List.getD_eq_getElem?_getD,List.getElem?_eq_none (by omega)];rfl
   ·rw [if_neg h0]
  rw [e]
  exact row_core _ Ns.length i w (by omega) (rows_any p C Ns _ h')
def colTo (C:Nat) (Ns:List Nat) (j:Int) (k:Nat):List Nat:=(List.range k).filter fun i=>mhas C Ns i j
theorem colTo_yes {C:Nat} {Ns:List Nat} {j:Int} {k:Nat} (h:mhas C Ns k j=true):colTo C Ns j (k+1)=colTo C Ns j k ++ [k]:=by simp [colTo,List.range_succ,h]
theorem colTo_no {C:Nat} {Ns:List Nat} {j:Int} {k:Nat} (h:mhas C Ns k j=false):colTo C Ns j (k+1)=colTo C Ns j k:=by simp [colTo,List.range_succ,h]
theorem colTo_len (C:Nat) (Ns:List Nat) (j:Int) (k:Nat):(colTo C Ns j k).length≤k:=by unfold colTo;exact Nat.le_trans (List.length_filter_le _ _) (by simp)
def mcol (C:Nat) (Ns:List Nat) (j:Int):Nat:=setOf ((colTo C Ns j Ns.length).map Int.ofNat)
theorem testBit_mcol (C:Nat) (Ns:List Nat) (j:Int) (i:Nat) (h:Ns.length≤4096):(mcol C Ns j).testBit i=mhas C Ns i j:=by
 unfold mcol
 rw [testBit_setOf,Bool.eq_iff_iff,decide_eq_true_eq]
 constructor
 ·rintro ⟨_,h2⟩
  obtain ⟨x,hx,e⟩:=List.mem_map.1 h2
  have e':x=i:=Int.ofNat.inj e
  subst e'
  exact (List.mem_filter.1 hx).2
 ·intro h2
  have hi:i < Ns.length:=by
   unfold mhas insideB at h2
   simp at h2;omega
  exact ⟨by omega,List.mem_map.2 ⟨i,List.mem_filter.2 ⟨List.mem_range.2 hi,h2⟩,rfl⟩⟩
theorem col_any (p C:Nat) (Ns:List Nat) (j:Int) (w:World) (h:IsMat w p C Ns) :
  Calls Tryz.prog 50 #[ptr p,.int .i64 j] w fun e w'=>∃ r,e=.returned (.agg #[r])∧IsSet w' r (mcol C Ns j)∧Below w.heap.size w w':=by
 have hlen:Ns.length≤4096:=h.2.1
 obtain ⟨i0,hi0,hz0,hz1,hz2⟩:=info_parts info_int
 go_enter Tryz.func50,Tryz.ntmps50
 go_wp2_with fail
 refine absC1 fun W0 hR0 hbel0 hz=>?_
 refine (rows_any p C Ns _ (h.below hbel0)).mono ?_
 rintro e w1 ⟨rfl,rfl⟩
 have HZ:=Lib.hid hz;clear hz
 go_wp2_with fail
 go_loopw [5,9] (fun l i wr=>∃ k:Nat,k≤Ns.length∧i=.int .i64 k∧wr.ownsRow (w.heap.size+1) 3 1 l (colTo C Ns j k).length ((colTo C Ns j k).map i64)∧Below (w.heap.size+1) W0 wr)
  (fun _ i _=>Ns.length-(intOf i).toNat)
 case atStart=>exact ⟨0,Nat.zero_le _,rfl,World.ownsRow_nil _ _ _ _,Below.refl _ _⟩
 case round =>
  obtain ⟨k,hk,rfl,hown,hbel⟩:=hrel
  have hbw:Below w.heap.size w wr:=hbel0.trans (hbel.mono (by omega))
  have hcl:=colTo_len C Ns j k
  by_cases hlt:k < Ns.length
  ·cases hm:mhas C Ns k j with
   | true =>
    have hcall:=hasm_any p C Ns k j wr (h.below hbw)
    rw [hm] at hcall
    have HC:=hideC hcall;clear hcall
    have HS:=Lib.hid (colTo_yes hm);clear hm
    go_wp2_with fail
    refine HC.out.mono ?_
    rintro e w2 ⟨rfl,hb2⟩
    have hown2:=own_below hown hb2
    have hbel2:Below (w.heap.size+1) W0 w2:=hbel.trans (hb2.mono (by have:=hbel.size;have:=HZ.out;omega))
    go_wp2_with (at_builtin;refine wpList_append_own _ rfl _ _ 78 rfl (w.heap.size+1) 3 i0 (.int .i64 0) 1 8 Tryz.underlying78 hi0 hz0 hz1 hz2 rfl (by decide) _ _ _ rfl (hown2.alloc _) ⟨w2.heap.size,0,none⟩ 1 1 [.int .i64 k] rfl rfl (cell_one_new _ _ _) (by simp [Value.oneCell']) (by unfold maxLen;omega) (by omega) (by have:=hbel2.size;have:=HZ.out;simp;omega) ?_;intro v' w3 hown' hgrow _)
    have hb3:=(hbel2.alloc (by have:=hbel2.size;have:=HZ.out;omega) _).grown hgrow (by have:=hbel2.size;have:=HZ.out;simp;omega) (fun q hq=>(hown2.lt q hq).1)
    exact ⟨⟨k+1,by omega,by go_num,by rw [HS.out];simpa using hown',hb3⟩,by simp [intOf];omega⟩
   | false =>
    have hcall:=hasm_any p C Ns k j wr (h.below hbw)
    rw [hm] at hcall
    have HC:=hideC hcall;clear hcall
    have HS:=Lib.hid (colTo_no hm);clear hm
    go_wp2_with (go_at_call 99;refine HC.out.mono ?_;rintro e w2 ⟨rfl,hb2⟩)
    exact ⟨⟨k+1,by omega,by go_num,by rw [HS.out];exact own_below hown hb2,hbel.trans (hb2.mono (by have:=hbel.size;have:=HZ.out;omega))⟩,by simp [intOf];omega⟩
  ·obtain rfl:k=Ns.length:=by omega
   obtain ⟨A,c,rfl,_,_,hrow,_⟩:=row_of_own hown
   have hR:=hR0.below hbel (by omega)
   have cR:=hR.cell 0
   have fR:=hR.frozen 0
   have hof:=of_any A c ((colTo C Ns j Ns.length).map Int.ofNat) wr (by rw [List.map_map];exact hrow) (by rw [List.length_map];omega)
   rw [List.length_map] at hof
   have hmc:setOf ((colTo C Ns j Ns.length).map Int.ofNat)=mcol C Ns j:=rfl
   rw [hmc] at hof
   clear hmc
   have HC:=hideC hof;clear hof
   go_wp2_with fail
   refine HC.out.mono ?_
   rintro e w2 ⟨r,rfl,hr,hb2⟩
   obtain ⟨A1,c1,rfl,_⟩:=id hr
   have hR2:=hR.below hb2 hR.lt
   have cR2:=hR2.cell 0
   have fR2:=hR2.frozen 0
   go_wp2_with fail
   have cX:=(hR2.set_ 0 (.slice A1 (nw (mcol C Ns j)) c1)).cell 0
   refine bodyPost_ret (v:=.agg #[.slice A1 (nw (mcol C Ns j)) c1]) (by simp [results,Tryz.results50,go_sem,cX]) rfl ⟨_,rfl,?_,(hbw.trans (hb2.mono hbw.size)).setCell (by simp) _⟩
   exact hr.keep (KeepW.setCell (t:=58) hR2 (by decide) _)
def onesTo (Ns:List Nat) (k:Nat):Nat:=((Ns.take k).map card).sum
theorem onesTo_succ {Ns:List Nat} {k:Nat} (h:k < Ns.length):onesTo Ns (k+1)=onesTo Ns k+card Ns[k]:=by
 unfold onesTo
 rw [List.take_add_one,List.getElem?_eq_getElem h,List.map_append,List.sum_append]
 simp
theorem onesm_any (p C:Nat) (Ns:List Nat) (w:World) (h:IsMat w p C Ns) (_hT:Tab w) :
  Calls Tryz.prog 17 #[ptr p] w fun e w'=>e=.returned (.int .i64 (onesTo Ns Ns.length))∧Below w.heap.size w w':=by
 obtain ⟨h1,h2,A,c,vs,hB,hc,hr,hs⟩:=id h
 have HR:=hideC (rows_any p C Ns w h)
 go_enter Tryz.func17,Tryz.ntmps17
 go_wp2_with (go_at_call 10;refine HR.out.mono ?_;rintro e w' ⟨rfl,rfl⟩)
 go_loopw [3,7] (fun n i wr=>∃ k:Nat,k≤Ns.length∧i=.int .i64 k∧n=.int .i64 (onesTo Ns k)∧onesTo Ns k≤4096*k∧Below w.heap.size w wr) (fun _ i _=>Ns.length-(intOf i).toNat)
 case atStart=>exact ⟨0,Nat.zero_le _,rfl,by simp [onesTo],by simp [onesTo],Below.refl _ _⟩
 case round =>
  obtain ⟨k,hk,rfl,rfl,hle,hbel⟩:=hrel
  by_cases hlt:k < Ns.length
  ·have hstep:=onesTo_succ hlt
   obtain ⟨A1,c1,hv,hset⟩:=hs.at_ hlt
   obtain ⟨g,off,rfl,hg,hcell⟩:=hr (by rw [hs.1];omega)
   have cv:=onB hbel (hcell k _ hv)
   have cm:=onB hbel (hB.cell 1)
   have hcard:=card_le (N:=Ns[k]) (by obtain ⟨_,_,_,x,_⟩:=hset;exact x)
   clear hB hcell hr hs hv h
   have HS:=Lib.hid hstep;clear hstep
   go_wp2_with (go_at_call 61;refine (len_any _ _ _ (hset.below hbel)).mono ?_;rintro e w' ⟨rfl,hb1⟩)
   exact ⟨⟨k+1,by omega,by go_num,by rw [HS.out];go_num,by rw [HS.out];omega,hbel.trans (hb1.mono hbel.size)⟩,by simp [intOf];omega⟩
  ·obtain rfl:k=Ns.length:=by omega
   clear hB hr hs h
   go_wp2
   go_ret
   exact ⟨rfl,hbel⟩
theorem fits_any (p q C D:Nat) (Ns Ms:List Nat) (w:World) (h:IsMat w p C Ns) (h':IsMat w q D Ms) :
  Calls Tryz.prog 132 #[ptr p,ptr q] w fun e w'=>e=.returned (.bool (decide (C=D∧Ns.length=Ms.length)))∧Below w.heap.size w w':=by
 obtain ⟨h1,h2,A,c,vs,hB,hc,hr,hs⟩:=id h
 obtain ⟨h1',h2',A',c',vs',hB',hc',hr',hs'⟩:=id h'
 have a0:=hB.cell 0
 have a1:=hB.cell 1
 have b0:=hB'.cell 0
 have b1:=hB'.cell 1
 clear hB hB' hr hr' hs hs' h h'
 by_cases hC:C=D
 ·have e0:((C:Int) == (D:Int))=true:=by simp [hC]
  by_cases hL:Ns.length=Ms.length
  ·have e1:(((Ns.length:Nat):Int) == ((Ms.length:Nat):Int))=true:=by simp [hL]
   have H0:=Lib.hid hC;have H1:=Lib.hid hL;clear hC hL
   go_enter Tryz.func132,Tryz.ntmps132
   go_wp2_with fail
   refine wp_spine (fun W=>Below w.heap.size w W) [0,1,2,3,4,5,6,7,8,9,10,11,12,13,14,15,16,17,18,19,20,21,22,23,24,25,26,27,28,29,30] [] (by kernel_rfl) (by kernel_rfl) ?_
   iterate 3 (refine wpE_op (v:=?_) rfl rfl (fun W hW=>?_) ?_;rotate_left;(go_simp;first | done | with_reducible rfl);simp only [pt1,pt3,pt4,pt5])
   iterate 2 (refine wpE_yes (v:=?_) rfl (by rfl) (fun W hW=>?_) ?_;rotate_left;(go_simp;first | done | with_reducible rfl);simp only [pt1,pt3,pt4,pt5])
   iterate 2 (refine wpE_op (v:=?_) rfl rfl (fun W hW=>?_) ?_;rotate_left;(go_simp;first | done | with_reducible rfl);simp only [pt1,pt3,pt4,pt5])
   iterate 9 (refine wpE_yes (v:=?_) rfl (by rfl) (fun W hW=>?_) ?_;rotate_left;(have x1:=onB hW a0;have x2:=onB hW a1;have x3:=onB hW b0;have x4:=onB hW b1;go_simp;first | done | with_reducible rfl);simp only [pt1,pt3,pt4,pt5])
   iterate 2 (refine wpE_op (v:=?_) rfl rfl (fun W hW=>?_) ?_;rotate_left;(go_simp;first | done | with_reducible rfl);simp only [pt1,pt3,pt4,pt5])
   iterate 11 (refine wpE_yes (v:=?_) rfl (by rfl) (fun W hW=>?_) ?_;rotate_left;(have x1:=onB hW a0;have x2:=onB hW a1;have x3:=onB hW b0;have x4:=onB hW b1;go_simp;first | done | with_reducible rfl);simp only [pt1,pt3,pt4,pt5])
   iterate 2 (refine wpE_op (v:=?_) rfl rfl (fun W hW=>?_) ?_;rotate_left;(go_simp;first | done | with_reducible rfl);simp only [pt1,pt3,pt4,pt5])
   refine wpE_nil ⟨fun _=>(Below.refl _ _).drew,wpSp_nil ?_⟩
   go_wp2_with fail
   go_ret
   exact ⟨ret_bool (by rw [eq_comm,decide_eq_true_eq];exact ⟨H0.out,H1.out⟩),(Below.refl _ _).drew⟩
  ·have e1:(((Ns.length:Nat):Int) == ((Ms.length:Nat):Int))=false:=by simp;omega
   have H0:=Lib.hid hC;have H1:=Lib.hid hL;clear hC hL
   go_enter Tryz.func132,Tryz.ntmps132
   go_wp2_with fail
   refine wp_spine (fun W=>Below w.heap.size w W) [0,1,2,3,4,5,6,7,8,9,10,11,12,13,14,15,16,17,18,19,20,21,22,23,24,25,26,27,28,29,30] [] (by kernel_rfl) (by kernel_rfl) ?_
   iterate 3 (refine wpE_op (v:=?_) rfl rfl (fun W hW=>?_) ?_;rotate_left;(go_simp;first | done | with_reducible rfl);simp only [pt1,pt3,pt4,pt5])
   iterate 2 (refine wpE_yes (v:=?_) rfl (by rfl) (fun W hW=>?_) ?_;rotate_left;(go_simp;first | done | with_reducible rfl);simp only [pt1,pt3,pt4,pt5])
   iterate 2 (refine wpE_op (v:=?_) rfl rfl (fun W hW=>?_) ?_;rotate_left;(go_simp;first | done | with_reducible rfl);simp only [pt1,pt3,pt4,pt5])
   iterate 9 (refine wpE_yes (v:=?_) rfl (by rfl) (fun W hW=>?_) ?_;rotate_left;(have x1:=onB hW a0;have x2:=onB hW a1;have x3:=onB hW b0;have x4:=onB hW b1;go_simp;first | done | with_reducible rfl);simp only [pt1,pt3,pt4,pt5])
   iterate 2 (refine wpE_op (v:=?_) rfl rfl (fun W hW=>?_) ?_;rotate_left;(go_simp;first | done | with_reducible rfl);simp only [pt1,pt3,pt4,pt5])
   iterate 11 (refine wpE_yes (v:=?_) rfl (by rfl) (fun W hW=>?_) ?_;rotate_left;(have x1:=onB hW a0;have x2:=onB hW a1;have x3:=onB hW b0;have x4:=onB hW b1;go_simp;first | done | with_reducible rfl);simp only [pt1,pt3,pt4,pt5])
   iterate 2 (refine wpE_op (v:=?_) rfl rfl (fun W hW=>?_) ?_;rotate_left;(go_simp;first | done | with_reducible rfl);simp only [pt1,pt3,pt4,pt5])
   refine wpE_nil ⟨fun _=>(Below.refl _ _).drew,wpSp_nil ?_⟩
   go_wp2_with fail
   go_ret
   exact ⟨ret_bool (by rw [eq_comm,decide_eq_false_iff_not];exact fun h=>H1.out h.2),(Below.refl _ _).drew⟩
 ·have e0:((C:Int) == (D:Int))=false:=by simp;omega
  have H0:=Lib.hid hC;clear hC
  go_enter Tryz.func132,Tryz.ntmps132
  go_wp2_with fail
  refine wp_spine (fun W=>Below w.heap.size w W) [0,1,2,3,4,5,6,7,8,9,10,11,12,13,14,15,16,17,18,19,20,21,22,23,24,25,26,27,28,29,30] [] (by kernel_rfl) (by kernel_rfl) ?_
  iterate 3 (refine wpE_op (v:=?_) rfl rfl (fun W hW=>?_) ?_;rotate_left;(go_simp;first | done | with_reducible rfl);simp only [pt1,pt3,pt4,pt5])
  iterate 2 (refine wpE_yes (v:=?_) rfl (by rfl) (fun W hW=>?_) ?_;rotate_left;(go_simp;first | done | with_reducible rfl);simp only [pt1,pt3,pt4,pt5])
  iterate 2 (refine wpE_op (v:=?_) rfl rfl (fun W hW=>?_) ?_;rotate_left;(go_simp;first | done | with_reducible rfl);simp only [pt1,pt3,pt4,pt5])
  iterate 9 (refine wpE_yes (v:=?_) rfl (by rfl) (fun W hW=>?_) ?_;rotate_left;(have x1:=onB hW a0;have x2:=onB hW a1;have x3:=onB hW b0;have x4:=onB hW b1;go_simp;first | done | with_reducible rfl);simp only [pt1,pt3,pt4,pt5])
  iterate 2 (refine wpE_op (v:=?_) rfl rfl (fun W hW=>?_) ?_;rotate_left;(go_simp;first | done | with_reducible rfl);simp only [pt1,pt3,pt4,pt5])
  iterate 11 (refine wpE_no rfl (by rfl) ?_;simp only [pt1,pt3,pt4,pt5])
  iterate 2 (refine wpE_op (v:=?_) rfl rfl (fun W hW=>?_) ?_;rotate_left;(go_simp;first | done | with_reducible rfl);simp only [pt1,pt3,pt4,pt5])
  refine wpE_nil ⟨fun _=>(Below.refl _ _).drew,wpSp_nil ?_⟩
  go_wp2_with fail
  go_ret
  exact ⟨ret_bool (by rw [eq_comm,decide_eq_false_iff_not];exact fun h=>H0.out h.1),(Below.refl _ _).drew⟩
def withinM (Ns Ms:List Nat):Prop:=∀ k,k < Ns.length→Ns.getD k 0&&&Ms.getD k 0=Ns.getD k 0
instance (Ns Ms:List Nat):Decidable (withinM Ns Ms):=by unfold withinM;exact inferInstance
theorem withinm_core (m o:Value) (w:World) (h:Calls Tryz.prog 132 #[m,o] w fun e w'=>e=.returned (.bool false)∧Below w.heap.size w w') :
  Calls Tryz.prog 85 #[m,o] w fun e w'=>e=.returned (.bool false)∧Below w.heap.size w w':=by
 have HF:=hideC h;clear h
 go_enter Tryz.func85,Tryz.ntmps85
 go_wp2_with (go_at_call 132;refine HF.out.mono ?_;rintro e w' ⟨rfl,hb1⟩)
 go_ret
 exact ⟨rfl,hb1⟩
theorem withinm_any (p q C D:Nat) (Ns Ms:List Nat) (w:World) (h:IsMat w p C Ns) (h':IsMat w q D Ms) :
  Calls Tryz.prog 85 #[ptr p,ptr q] w fun e w'=>e=.returned (.bool (decide (C=D∧Ns.length=Ms.length∧withinM Ns Ms)))∧Below w.heap.size w w':=by
 have hf:=fits_any p q C D Ns Ms w h h'
 by_cases hfit:C=D∧Ns.length=Ms.length
 ·obtain ⟨h1,h2,A,c,vs,hB,hc,hr,hs⟩:=id h
  obtain ⟨h1',h2',A',c',vs',hB',hc',hr',hs'⟩:=id h'
  rw [decide_eq_true hfit] at hf
  have HF:=hideC hf;clear hf
  have HFIT:=Lib.hid hfit;clear hfit
  go_enter Tryz.func85,Tryz.ntmps85
  go_wp2_with fail
  refine HF.out.mono ?_
  rintro e w1 ⟨rfl,hb1⟩
  have a1:=onB hb1 (hB.cell 1)
  go_wp2_with fail
  go_loopw [16] (fun i wr=>∃ k:Nat,k≤Ns.length∧i=.int .i64 k∧(∀ j,j < k→Ns.getD j 0&&&Ms.getD j 0=Ns.getD j 0)∧Below w.heap.size w wr) (fun i _=>Ns.length-(intOf i).toNat)
  case atStart=>exact ⟨0,Nat.zero_le _,rfl,fun j hj=>absurd hj (by omega),hb1⟩
  case round =>
   obtain ⟨k,hk,rfl,heq,hbel⟩:=hrel
   have HEQ:=Lib.hid heq;clear heq
   by_cases hlt:k < Ns.length
   ·have hlt':k < Ms.length:=by have:=HFIT.out.2;omega
    obtain ⟨A1,c1,hv,hset⟩:=hs.at_ hlt
    obtain ⟨A2,c2,hv',hset'⟩:=hs'.at_ hlt'
    obtain ⟨g,off,rfl,hg,hcell⟩:=hr (by rw [hs.1];omega)
    obtain ⟨g',off',rfl,hg',hcell'⟩:=hr' (by rw [hs'.1];omega)
    have cv:=onB hbel (hcell k _ hv)
    have cv':=onB hbel (hcell' k _ hv')
    have b1:=onB hbel (hB'.cell 1)
    clear hB hB' hcell hcell' hr hr' hs hs' hv hv' h h'
    have hsb:=hset.below hbel
    have hsb':=hset'.below hbel
    go_wp2_with fail
    refine abs1 fun W1 hX hbx hz1=>?_
    have cX:=hX.cell 0
    have cv'2:=onB hbx cv'
    have b12:=onB hbx b1
    have hbel1:=hbel.trans (hbx.mono hbel.size)
    by_cases he:Ns[k]&&&Ms[k]=Ns[k]
    ·have hcall:=within_any _ _ _ _ W1.drew ((hsb.below hbx).below ((Below.refl _ _).drew)) ((hsb'.below hbx).below ((Below.refl _ _).drew))
     rw [decide_eq_true he] at hcall
     have HC:=hideC hcall;clear hcall
     have HE:=Lib.hid he;clear he
     have HZ1:=Lib.hid hz1;clear hz1
     refine wp_spine (fun W=>Below W1.heap.size W1 W) [0,1,2,3,4,5,6,7] [8,9] (by kernel_rfl) (by kernel_rfl) ?_
     iterate 8 (refine wpE_op (v:=?_) rfl rfl (fun W hW=>?_) ?_;rotate_left;(have x1:=onB hW cX;have x2:=onB hW cv'2;have x3:=onB hW b12;go_simp;first | done | with_reducible rfl);simp only [pt1,pt3,pt4,pt5])
     refine wpE_nil ⟨fun h=>(by cases h),wpSp_op rfl (Below.refl _ _).drew ?_⟩
     go_wp2_with fail
     refine HC.out.mono ?_
     rintro e w2 ⟨rfl,hb2⟩
     have hb3:Below W1.heap.size W1 w2:=(Below.refl _ _).drew.trans hb2
     go_wp2_with fail
     refine nxt_op rfl hb3 ?_
     go_wp2_with fail
     refine nxt_nil ?_
     go_wp2_with fail
     exact ⟨⟨k+1,by omega,by go_num,fun j hj=>by
      by_cases h:j=k
      ·rw [h,List.getD_eq_getElem?_getD,List.getD_eq_getElem?_getD,List.getElem?_eq_getElem hlt,List.getElem?_eq_getElem hlt'];exact HE.out
      ·exact HEQ.out j (by omega),hbel1.trans (hb3.mono hbel1.size)⟩,by simp [intOf];omega⟩
    ·have hcall:=within_any _ _ _ _ W1.drew ((hsb.below hbx).below ((Below.refl _ _).drew)) ((hsb'.below hbx).below ((Below.refl _ _).drew))
     rw [decide_eq_false he] at hcall
     have HC:=hideC hcall;clear hcall
     have HE:=Lib.hid he;clear he
     have HZ1:=Lib.hid hz1;clear hz1
     refine wp_spine (fun W=>Below W1.heap.size W1 W) [0,1,2,3,4,5,6,7] [8,9] (by kernel_rfl) (by kernel_rfl) ?_
     iterate 8 (refine wpE_op (v:=?_) rfl rfl (fun W hW=>?_) ?_;rotate_left;(have x1:=onB hW cX;have x2:=onB hW cv'2;have x3:=onB hW b12;go_simp;first | done | with_reducible rfl);simp only [pt1,pt3,pt4,pt5])
     refine wpE_nil ⟨fun h=>(by cases h),wpSp_op rfl (Below.refl _ _).drew ?_⟩
     go_wp2_with fail
     refine HC.out.mono ?_
     rintro e w2 ⟨rfl,hb2⟩
     have hb3:Below W1.heap.size W1 w2:=(Below.refl _ _).drew.trans hb2
     go_wp2_with fail
     refine nxt_op rfl hb3 ?_
     go_wp2_with fail
     refine nxt_nil ?_
     go_wp2_with fail
     go_ret
     exact ⟨ret_bool (by rw [eq_comm,decide_eq_false_iff_not];intro h;apply HE.out;have:=h.2.2 k hlt;rwa [List.getD_eq_getElem?_getD,List.getD_eq_getElem?_getD,List.getElem?_eq_getElem hlt,List.getElem?_eq_getElem hlt'] at this),hbel1.trans (hb3.mono hbel1.size)⟩
   ·obtain rfl:k=Ns.length:=by omega
    clear hB hr hs h hB' hr' hs' h'
    go_wp2
    go_ret
    exact ⟨ret_bool (by rw [eq_comm,decide_eq_true_eq];exact ⟨HFIT.out.1,HFIT.out.2,HEQ.out⟩),hbel⟩
 ·rw [decide_eq_false hfit] at hf
  have e:decide (C=D∧Ns.length=Ms.length∧withinM Ns Ms)=false:=by
   rw [decide_eq_false_iff_not];exact fun h=>hfit ⟨h.1,h.2.1⟩
  rw [e]
  exact withinm_core _ _ w hf
theorem info_set:(Tryz.prog.info? 58).map (fun i=>(i.zero,i.size,i.bytes))=some (some (.agg #[.slice none 0 0]),1,24):=by kernel_rfl
theorem makeSets_run (n:Nat) (hn:n≤65536) (w:World) :
  (Instr.makeSlice 67 (.int .i64 (n:Int)) (.int .i64 (n:Int))).run Tryz.prog w=.ok (.slice (some ⟨w.heap.size,0,none⟩) n n) (w.alloc (.cells (zeros (.slice none 0 0) n) 58)):=by
 obtain ⟨i,hi,hz,hs,hby⟩:=info_parts info_set
 have hb':(i.bytes:Int)*(n:Int)≤281474976710656:=by rw [hby];omega
 have hr:=run_make (P:=Tryz.prog) w 67 58 i (.agg #[.slice none 0 0]) Tryz.underlying67 hi hz .i64 .i64 n n (by omega) (by omega) hb' (by omega)
 simp only [Int.toNat_natCast,hs,Nat.mul_one] at hr
 rw [show (Value.agg #[.slice none 0 0]).cells=#[.slice none 0 0] from rfl,madeCells_one] at hr
 exact hr
abbrev pair (m:Value) (e:Int):Ending:=.returned (.tuple #[m,.int .i64 e])
theorem new_yes (R C:Nat) (w:World) (h1:R≤256) (h2:C≤256) :
  Calls Tryz.prog 67 #[.int .i64 R,.int .i64 C] w fun e w'=>e=pair (ptr (w.heap.size+1)) 0∧w'=((w.alloc (.cells (zeros (.slice none 0 0) R) 58)).alloc (.cells #[.int .i64 (C:Int),.slice (some ⟨w.heap.size,0,none⟩) R R] 104)):=by
 have hmk:=fun W=>makeSets_run R (by omega) W
 go_enter Tryz.func67,Tryz.ntmps67
 go_wp2
 go_ret2
 exact ⟨rfl,rfl⟩
theorem equalm_any (p q C D:Nat) (Ns Ms:List Nat) (w:World) (h:IsMat w p C Ns) (h':IsMat w q D Ms) :
  Calls Tryz.prog 38 #[ptr p,ptr q] w fun e w'=>e=.returned (.bool (decide (C=D∧Ns.length=Ms.length∧withinM Ns Ms∧withinM Ms Ns)))∧Below w.heap.size w w':=by
 have hf:=withinm_any p q C D Ns Ms w h h'
 by_cases h1:C=D∧Ns.length=Ms.length∧withinM Ns Ms
 ·rw [decide_eq_true h1] at hf
  have HF:=hideC hf;clear hf
  by_cases h2:withinM Ms Ns
  ·have H1:=Lib.hid h1;have H2:=Lib.hid h2;clear h1 h2
   go_enter Tryz.func38,Tryz.ntmps38
   go_wp2_with fail
   refine HF.out.mono ?_
   rintro e w1 ⟨rfl,hb1⟩
   have hg:=withinm_any q p D C Ms Ns w1 (h'.below hb1) (h.below hb1)
   rw [decide_eq_true ⟨H1.out.1.symm,H1.out.2.1.symm,H2.out⟩] at hg
   have HG:=hideC hg;clear hg
   go_wp2_with (go_at_call 85;refine HG.out.mono ?_;rintro e w2 ⟨rfl,hb2⟩)
   go_ret
   exact ⟨ret_bool (by rw [eq_comm,decide_eq_true_eq];exact ⟨H1.out.1,H1.out.2.1,H1.out.2.2,H2.out⟩),hb1.trans (hb2.mono hb1.size)⟩
  ·have H1:=Lib.hid h1;have H2:=Lib.hid h2;clear h1 h2
   go_enter Tryz.func38,Tryz.ntmps38
   go_wp2_with fail
   refine HF.out.mono ?_
   rintro e w1 ⟨rfl,hb1⟩
   have hg:=withinm_any q p D C Ms Ns w1 (h'.below hb1) (h.below hb1)
   rw [decide_eq_false (fun h=>H2.out h.2.2)] at hg
   have HG:=hideC hg;clear hg
   go_wp2_with (go_at_call 85;refine HG.out.mono ?_;rintro e w2 ⟨rfl,hb2⟩)
   go_ret
   exact ⟨ret_bool (by rw [eq_comm,decide_eq_false_iff_not];exact fun h=>H2.out h.2.2.2),hb1.trans (hb2.mono hb1.size)⟩
 ·rw [decide_eq_false h1] at hf
  have HF:=hideC hf;clear hf
  have H1:=Lib.hid h1;clear h1
  go_enter Tryz.func38,Tryz.ntmps38
  go_wp2_with (go_at_call 85;refine HF.out.mono ?_;rintro e w1 ⟨rfl,hb1⟩)
  go_ret
  exact ⟨ret_bool (by rw [eq_comm,decide_eq_false_iff_not];exact fun h=>H1.out ⟨h.1,h.2.1,h.2.2.1⟩),hb1⟩
def rowsIn (C:Nat) (Ns:List Nat):Prop:=∀ k,k < Ns.length→Ns.getD k 0&&&lowN C=Ns.getD k 0
theorem getD_at {Ns:List Nat} {k:Nat} (h:k < Ns.length):Ns.getD k 0=Ns[k]:=by rw [List.getD_eq_getElem?_getD,List.getElem?_eq_getElem h,Option.getD_some]
def OfPost (w:World) (C:Nat) (Ns:List Nat) (e:Ending) (w':World):Prop :=
 (e=pair (.pointer none) 2∧¬ rowsIn C Ns∧Below w.heap.size w w')∨(∃ q,e=pair (ptr q) 0∧rowsIn C Ns∧IsMat w' q C Ns∧w.heap.size≤q∧Below w.heap.size w w')
theorem ofm_any (A:Option Addr) (c C:Nat) (vs:List Value) (Ns:List Nat) (w:World) (hr:Row w A vs) (hs:Sets w vs Ns) (hC:C≤256) (hn:Ns.length≤256) :
  Calls Tryz.prog 20 #[.int .i64 C,.slice A Ns.length c] w (OfPost w C Ns):=by
 have HN:=hideC (new_yes Ns.length C w hn hC)
 go_enter Tryz.func20,Tryz.ntmps20
 go_wp2_with fail
 refine HN.out.mono ?_
 rintro e w1 ⟨rfl,hw1⟩
 have hb:=(Blk.new w 58 (zeros (.slice none 0 0) Ns.length)).alloc (.cells #[.int .i64 (C:Int),.slice (some ⟨w.heap.size,0,none⟩) Ns.length Ns.length] 104)
 have hm:=Blk.new_ (n:=w.heap.size+1) (w:=w.alloc (.cells (zeros (.slice none 0 0) Ns.length) 58)) (by simp) 104 #[.int .i64 (C:Int),.slice (some ⟨w.heap.size,0,none⟩) Ns.length Ns.length]
 have hbl:Below w.heap.size w w1:=by rw [hw1];exact ((Below.refl _ _).alloc (Nat.le_refl _) _).alloc (by simp) _
 have hz1:w1.heap.size=w.heap.size+2:=by rw [hw1];simp
 rw [← hw1] at hb hm
 clear hw1
 have HZ1:=Lib.hid hz1;clear hz1
 go_wp2_with fail
 go_loopw [22] (fun i wr=>∃ k:Nat,k≤Ns.length∧i=.int .i64 k∧(∀ j,j < k→Ns.getD j 0&&&lowN C=Ns.getD j 0)∧Blk wr (w.heap.size+1) 104 #[.int .i64 (C:Int),.slice (some ⟨w.heap.size,0,none⟩) Ns.length Ns.length] ∧
   Blk wr w.heap.size 58 (filled (.slice none 0 0) (fun j=>vs.getD j undef) k Ns.length)∧Below w.heap.size w wr) (fun i _=>Ns.length-(intOf i).toNat)
 case atStart=>exact ⟨0,Nat.zero_le _,rfl,fun j hj=>absurd hj (by omega),hm,hb.fill0 _,hbl⟩
 case round =>
  obtain ⟨k,hk,rfl,heq,hmb,hrb,hbel⟩:=hrel
  have HEQ:=Lib.hid heq;clear heq
  by_cases hlt:k < Ns.length
  ·obtain ⟨A1,c1,hv,hset⟩:=hs.at_ hlt
   obtain ⟨g,off,rfl,hg,hcell⟩:=hr (by rw [hs.1];omega)
   have cv:=onB hbel (hcell k _ hv)
   have hf:=filled_set (.slice none 0 0) (fun j=>vs.getD j undef) hlt
   have hvD:vs.getD k undef=.slice A1 (nw Ns[k]) c1:=by rw [List.getD_eq_getElem?_getD,hv];rfl
   rw [hvD] at hf
   have HF:=Lib.hid hf;clear hf hvD
   clear hcell hr hs hv hb hm
   have hsb:=hset.below hbel
   go_wp2_with fail
   refine abs1 fun W1 hX hbx hz1=>?_
   have cX:=hX.cell 0
   have HZ:=Lib.hid hz1;clear hz1
   have hbel1:=hbel.trans (hbx.mono hbel.size)
   have hbe:=below_any (C:Int) W1.drew
   rw [clamp_nat (by omega)] at hbe
   have HB:=hideC hbe;clear hbe
   by_cases he:Ns[k]&&&lowN C=Ns[k]
   ·have HE:=Lib.hid he;clear he
    refine wp_spine (fun W=>Below W1.heap.size W1 W) [0,1] [2,3,4] (by kernel_rfl) (by kernel_rfl) ?_
    iterate 2 (refine wpE_op (v:=?_) rfl rfl (fun W hW=>?_) ?_;rotate_left;(have x1:=onB hW cX;go_simp;first | done | with_reducible rfl);simp only [pt1,pt3,pt4,pt5])
    refine wpE_nil ⟨fun h=>(by cases h),wpSp_op rfl (Below.refl _ _).drew ?_⟩
    go_wp2_with fail
    refine HB.out.mono ?_
    rintro e w2 ⟨r,rfl,hset2,hb2⟩
    obtain ⟨A2,c2,rfl,_⟩:=id hset2
    have hb3:Below W1.heap.size W1 w2:=(Below.refl _ _).drew.trans hb2
    have hcall:=within_any _ _ _ _ w2 ((hsb.below hbx).below hb3) hset2
    rw [decide_eq_true HE.out] at hcall
    have HC:=hideC hcall;clear hcall
    go_wp2_with fail
    refine nxt_op rfl hb3 ?_
    go_wp2_with fail
    refine HC.out.mono ?_
    rintro e w3 ⟨rfl,hb4⟩
    have hb5:Below W1.heap.size W1 w3:=hb3.trans (hb4.mono hb3.size)
    go_wp2_with fail
    refine nxt_op rfl hb5 ?_
    go_wp2_with fail
    refine nxt_nil ?_
    have hm3:=(hmb.below hbx hmb.lt).below hb5 (Blk.lt (hmb.below hbx hmb.lt))
    have hr3:=(hrb.below hbx hrb.lt).below hb5 (Blk.lt (hrb.below hbx hrb.lt))
    have cX3:=onB hb5 cX
    have cm3:=hm3.cell 1
    have cr3:=(hr3.cell k).trans (filled_get _ _ hlt)
    have fr3:=hr3.frozen k
    go_wp2_with fail
    refine wp_spine (fun W=>Below w3.heap.size w3 W) [0,1,2,3,4,5,6] [7] (by kernel_rfl) (by kernel_rfl) ?_
    iterate 7 (refine wpE_op (v:=?_) rfl rfl (fun W hW=>?_) ?_;rotate_left;(have x1:=onB hW cX3;have x2:=onB hW cm3;go_simp;first | done | with_reducible rfl);simp only [pt1,pt3,pt4,pt5])
    refine wpE_nil ⟨fun h=>(by cases h),wpSp_op rfl (Below.refl _ _).drew ?_⟩
    go_wp2_with fail
    refine nxt_nil ?_
    go_wp2_with fail
    have hr4:=hr3.drew.set_ k (.slice A1 (nw Ns[k]) c1)
    rw [HF.out] at hr4
    have hne:w.heap.size+1≠w.heap.size:=by omega
    exact ⟨⟨k+1,by omega,by go_num,fun j hj=>by
     by_cases h:j=k
     ·rw [h,getD_at hlt];exact HE.out
     ·exact HEQ.out j (by omega),hm3.drew.far (p:=⟨w.heap.size,k,none⟩) hne _,hr4,((hbel1.trans (hb5.mono hbel1.size)).drew).setCell (Nat.le_refl _) _⟩,by simp [intOf];omega⟩
   ·have HE:=Lib.hid he;clear he
    refine wp_spine (fun W=>Below W1.heap.size W1 W) [0,1] [2,3,4] (by kernel_rfl) (by kernel_rfl) ?_
    iterate 2 (refine wpE_op (v:=?_) rfl rfl (fun W hW=>?_) ?_;rotate_left;(have x1:=onB hW cX;go_simp;first | done | with_reducible rfl);simp only [pt1,pt3,pt4,pt5])
    refine wpE_nil ⟨fun h=>(by cases h),wpSp_op rfl (Below.refl _ _).drew ?_⟩
    go_wp2_with fail
    refine HB.out.mono ?_
    rintro e w2 ⟨r,rfl,hset2,hb2⟩
    obtain ⟨A2,c2,rfl,_⟩:=id hset2
    have hb3:Below W1.heap.size W1 w2:=(Below.refl _ _).drew.trans hb2
    have hcall:=within_any _ _ _ _ w2 ((hsb.below hbx).below hb3) hset2
    rw [decide_eq_false HE.out] at hcall
    have HC:=hideC hcall;clear hcall
    go_wp2_with fail
    refine nxt_op rfl hb3 ?_
    go_wp2_with fail
    refine HC.out.mono ?_
    rintro e w3 ⟨rfl,hb4⟩
    have hb5:Below W1.heap.size W1 w3:=hb3.trans (hb4.mono hb3.size)
    go_wp2_with fail
    refine nxt_op rfl hb5 ?_
    go_wp2_with fail
    refine nxt_nil ?_
    go_wp2_with fail
    go_ret2
    exact .inl ⟨rfl,fun h=>HE.out (by have:=h k hlt;rwa [getD_at hlt] at this),hbel1.trans (hb5.mono hbel1.size)⟩
  ·obtain rfl:k=Ns.length:=by omega
   go_wp2
   go_ret2
   refine .inr ⟨_,rfl,HEQ.out,⟨by omega,by omega,some ⟨w.heap.size,0,none⟩,Ns.length,vs,hmb,Nat.le_refl _,Row.of_blk hrb fun j u hu=>?_,hs.below hbel⟩,by omega,hbel⟩
   have hj:j < Ns.length:=by
    rcases Nat.lt_or_ge j vs.length with h | h
    ·rw [← hs.1];exact h
    ·rw [List.getElem?_eq_none h] at hu;cases hu
   rw [filled_get _ _ hj,if_pos hj,List.getD_eq_getElem?_getD,hu];rfl
def But (r:Option Nat) (w w':World):Prop:=w.heap.size≤w'.heap.size∧∀ g,g < w.heap.size→some g≠r→w'.heap[g]?=w.heap[g]?
section
variable {w w' w'':World} {r:Option Nat}
theorem But.refl (r:Option Nat) (w:World):But r w w:=⟨Nat.le_refl _,fun _ _ _=>rfl⟩
theorem But.of_below (h:Below w.heap.size w w'):But r w w':=⟨h.size,fun g hg _=>h.block g hg⟩
theorem But.trans (h:But r w w') (k:But r w' w''):But r w w'':=⟨Nat.le_trans h.1 k.1,fun g hg hr=>(k.2 g (Nat.lt_of_lt_of_le hg h.1) hr).trans (h.2 g hg hr)⟩
theorem But.below (h:But r w w') (k:Below w'.heap.size w' w''):But r w w'':=h.trans (.of_below k)
theorem But.grown (h:w.grownBy w' r):But r w w':=⟨h.size,fun g hg hr=>h.block g hg hr⟩
theorem But.on (h:But r w w') {p:Addr} {v:Value} (hc:w.cell? p=some v) (hne:some p.block≠r):w'.cell? p=some v:=(World.cell?_of_block (h.2 p.block (cell_lt hc) hne)).trans hc
theorem But.frozen (h:But r w w') {p:Addr} {v:Value} {b:Bool} (hc:w.cell? p=some v) (hf:w.frozen? p=b) (hne:some p.block≠r):w'.frozen? p=b:=(World.frozen?_of_block (h.2 p.block (cell_lt hc) hne)).trans hf
theorem But.blk (h:But r w w') {g:Nat} {t:TypeId} {cs:Array Value} (hb:Blk w g t cs) (hne:some g≠r):Blk w' g t cs:=(h.2 g hb.lt hne).trans hb
end
theorem own_ne {W:World} {base:Nat} {e:TypeId} {size:Nat} {v:Value} {n:Nat} {xs:List Value} (h:W.ownsRow base e size v n xs) {q:Nat} {t:TypeId} {cs:Array Value} (hB:Blk W q t cs) (hne:t≠e):some q≠v.ownBlock:=by
 intro ej
 rcases h.2 with ⟨rfl,_⟩ | ⟨g',cap,cur,rfl,_,hgb,_⟩
 ·simp [Value.ownBlock] at ej
 ·obtain rfl:q=g':=by simpa [Value.ownBlock] using ej
  exact Blk.ne_ (t:=t) (t':=e) hB hgb hne rfl
def Bld (base q C:Nat) (Ns:List Nat) (W:World) (rv:Value) (vs:List Value):Prop :=
 Blk W q 104 #[.int .i64 (C:Int),rv]∧W.ownsRow base 58 1 rv Ns.length vs∧Sets W vs Ns
section
variable {W W':World} {base q C:Nat} {Ns:List Nat} {rv:Value} {vs:List Value}
theorem Bld.below (h:Bld base q C Ns W rv vs) (hb:Below W.heap.size W W'):Bld base q C Ns W' rv vs :=
 ⟨h.1.below hb h.1.lt,own_below h.2.1 hb,h.2.2.below hb⟩
theorem Bld.start (base q C:Nat) (W:World) (h:Blk W q 104 #[.int .i64 (C:Int),.slice none 0 0]):Bld base q C [] W (.slice none 0 0) [] :=
 ⟨h,World.ownsRow_nil _ _ _ _,Sets.nil _⟩
theorem Bld.ne (h:Bld base q C Ns W rv vs):some q≠rv.ownBlock:=own_ne h.2.1 h.1 (by decide)
theorem Bld.push (h:Bld base q C Ns W rv vs) {v v':Value} {N n:Nat} {ys:List Value} (hset:IsSet W v N) (hn:n=Ns.length+1) (hy:ys=vs ++ [v]) (hown':W'.ownsRow base 58 1 v' n ys) (hg:W.grownBy W' rv.ownBlock) :
  Bld base q C (Ns ++ [N]) (W'.setCell ⟨q,1,none⟩ v') v' (vs ++ [v])∧KeepW W (W'.setCell ⟨q,1,none⟩ v'):=by
 subst hn hy
 have hB':=h.1.grown hg h.ne
 have hne':=own_ne hown' hB' (by decide)
 have hk:KeepW W (W'.setCell ⟨q,1,none⟩ v'):=(KeepW.grown hg h.2.1 (by decide)).trans (KeepW.setCell (p:=⟨q,1,none⟩) hB' (by decide) v')
 refine ⟨⟨hB'.set_ 1 v',?_,(h.2.2.keep hk).snoc (hset.keep hk)⟩,hk⟩
 have:=ownsRow_setCell_other hown' (a:=⟨q,1,none⟩) (fun e=>hne' e.symm) v'
 simpa using this
theorem Bld.mat (h:Bld base q C Ns W rv vs) (hC:C≤4096) (hn:Ns.length≤4096):IsMat W q C Ns:=by
 obtain ⟨A,c,rfl,h1,_,h2,_⟩:=row_of_own h.2.1
 exact ⟨hC,hn,A,c,vs,h.1,h1,h2,h.2.2⟩
end
def mtrans (C:Nat) (Ns:List Nat) (k:Nat):List Nat:=(List.range k).map fun j=>mcol C Ns (j:Nat)
theorem mtrans_succ (C:Nat) (Ns:List Nat) (k:Nat):mtrans C Ns (k+1)=mtrans C Ns k ++ [mcol C Ns (k:Nat)]:=by simp [mtrans,List.range_succ]
theorem mtrans_len (C:Nat) (Ns:List Nat) (k:Nat):(mtrans C Ns k).length=k:=by simp [mtrans]
theorem trans_any (p C:Nat) (Ns:List Nat) (w:World) (h:IsMat w p C Ns) :
  Calls Tryz.prog 14 #[ptr p] w fun e w'=>∃ q,e=.returned (ptr q)∧IsMat w' q Ns.length (mtrans C Ns C)∧Below w.heap.size w w':=by
 obtain ⟨i0,hi0,hz0,hz1,hz2⟩:=info_parts info_set
 obtain ⟨h1,h2,A,c,vs,hB,hc,hr,hs⟩:=id h
 have m0:=hB.cell 0
 have m1:=hB.cell 1
 have lB:=hB.lt
 clear hB hr hs
 go_enter Tryz.func14,Tryz.ntmps14
 go_wp2_with fail
 refine abs1 fun W0 hQ0 hbel0 hz=>?_
 have HZ:=Lib.hid hz;clear hz
 go_loopw [18] (fun i wr=>∃ k:Nat,k≤C∧i=.int .i64 k∧(∃ rv us,Bld w.heap.size w.heap.size Ns.length (mtrans C Ns k) wr rv us)∧Below w.heap.size w wr) (fun i _=>C-(intOf i).toNat)
 case atStart=>exact ⟨0,Nat.zero_le _,rfl,⟨_,_,Bld.start _ _ _ _ hQ0⟩,hbel0⟩
 case round =>
  obtain ⟨k,hk,rfl,⟨rv,us,hbld⟩,hbel⟩:=hrel
  by_cases hlt:k < C
  ·have q1:=hbld.1.cell 1
   have n1:=hbld.ne
   have hc0:=col_any p C Ns (k:Nat) wr.drew ((h.below hbel).below (Below.refl _ _).drew)
   have HC:=hideC hc0;clear hc0
   go_wp2_with fail
   refine wp_spine (fun W=>But rv.ownBlock wr W) [0,1,2,3,4,5,6] [7,8,9,10,11,12] (by kernel_rfl) (by kernel_rfl) ?_
   iterate 7 (refine wpE_op (v:=?_) rfl rfl (fun W hW=>?_) ?_;rotate_left;(have x1:=hW.on q1 n1;go_simp;first | done | with_reducible rfl);simp only [pt1,pt3,pt4,pt5])
   refine wpE_nil ⟨fun h=>(by cases h),wpSp_op rfl ((But.refl _ _).below (Below.refl _ _).drew) ?_⟩
   go_wp2_with fail
   refine HC.out.mono ?_
   rintro e w2 ⟨r,rfl,hset,hb2⟩
   obtain ⟨A2,c2,rfl,_⟩:=id hset
   have hb3:Below wr.heap.size wr w2:=(Below.refl _ _).drew.trans hb2
   go_wp2_with fail
   refine nxt_op rfl (.of_below hb3) ?_
   go_wp2_with fail
   have hb4:=hb3.alloc hb3.size (.cells #[.slice A2 (nw (mcol C Ns (k:Nat))) c2] 58)
   have hbld4:=hbld.below hb4
   have hset4:=hset.keep (KeepW.alloc _ (.cells #[.slice A2 (nw (mcol C Ns (k:Nat))) c2] 58))
   have hln:=mtrans_len C Ns k
   have hsz:=hbel.size
   have hsz2:=hb3.size
   refine nxt_op rfl (.of_below hb4) ?_
   go_wp2_with (at_builtin;refine wpList_append_own _ rfl _ _ 67 rfl (w.heap.size) 58 i0 (.agg #[.slice none 0 0]) 1 24 Tryz.underlying67 hi0 hz0 hz1 hz2 rfl (by decide) _ _ _ rfl (hbld4.2.1) ⟨w2.heap.size,0,none⟩ 1 1 [.slice A2 (nw (mcol C Ns (k:Nat))) c2] rfl rfl (cell_one_new _ _ _) (by simp [Value.oneCell']) (by unfold maxLen;omega) (by omega) (by simp;omega) ?_;intro v' w3 hown' hgrow _)
   obtain ⟨g',cap',rfl⟩:=ownsRow_succ hown'
   have hbut:=(But.of_below hb4).trans (But.grown hgrow)
   have hbel3:=(hbel.trans (hb4.mono hbel.size)).grown hgrow (by simp;omega) (fun q hq=>(hbld4.2.1.lt q hq).1)
   have q3:=hbut.on q1 n1
   have f3:=hbut.frozen q1 (hbld.1.frozen 1) n1
   obtain ⟨hbld5,_⟩:=hbld4.push hset4 rfl rfl hown' hgrow
   rw [hln] at hbld5
   refine nxt_op rfl hbut ?_
   go_wp2_with fail
   refine nxt_op rfl hbut ?_
   go_wp2_with fail
   refine nxt_op rfl hbut ?_
   go_wp2_with fail
   refine nxt_nil ?_
   go_wp2_with fail
   exact ⟨⟨k+1,by omega,by go_num,⟨_,_,by rw [mtrans_succ];exact hbld5⟩,hbel3.setCell (by simp) _⟩,by simp [intOf];omega⟩
  ·obtain rfl:k=C:=by omega
   have hm:=hbld.mat h2 (by rw [mtrans_len];omega)
   go_wp2
   go_ret
   exact ⟨_,rfl,hm,hbel⟩
section
variable {P:Program} {S:World→Prop} {l:List Oper} {c:Nat→Value} {F:Fence} {n:Nat}
def noDefer (l:List Oper):Bool:=l.all fun o=>match o.op with | .defer _=>false | _=>true
theorem noDefer_at {l:List Oper} (h:noDefer l=true) {i:Nat} {o:Oper} (ho:l[i]?=some o):∀ c,o.op≠.defer c:=fun c hc=>by
 have:=List.all_eq_true.1 h o (List.mem_of_getElem? ho)
 simp [hc] at this
def wpSpI (F:Fence) (n:Nat) (P:Program) (S:World→Prop) (l:List Oper) (Q:Exit→Act→World→Prop):List Nat→Act→World→Prop
 | [],a,W=>Q .normal a W
 | s :: T,a,W=>S W∧match l[s]? with
  | none=>False
  | some o=>wpListIn F n P l.toArray (nxt (wpSpI F n P S l Q T)) [o] a W
variable {E T:List Nat} {Q:Exit→Act→World→Prop} {a:Act}
structure InvI (F:Fence) (n:Nat) (P:Program) (S:World→Prop) (l:List Oper) (c:Nat→Value) (E T:List Nat) (Q:Exit→Act→World→Prop) (a:Act) (listed:Array Bool) (b:Act) (W:World) (R:List Nat):Prop where
 size:listed.size=l.length
 asize:b.tmps.size=a.tmps.size
 closed:∀ j i,on listed j→waitsI l j i=true→on listed i
 idem:∀ i∈E,on listed i→b.put (dstOf l i) (c i)=b
 old:∀ t,(∀ j,j < l.length→on listed j→dstOf l j≠some t)→b.tmps[t]?=a.tmps[t]?
 rem:∃ pre,T=pre ++ R∧(∀ t∈pre,on listed t)∧(∀ t∈R,¬ on listed t)
 sOK:R=[]→S W∨∀ i∈E,on listed i
 go:wpSpI F n P S l Q R (putAll l c E b) W
theorem InvI.early (hF:∀ f,F.fn f) (hD:noDefer l=true) (hC:Chk l E T) (hc:∀ pre i suf,E=pre ++ i :: suf→EY P S l i (putAll l c pre a) (c i)) {listed:Array Bool} {b:Act} {W:World} {R:List Nat}
  (I:InvI F n P S l c E T Q a listed b W R) {i:Nat} (hr:i∈Region.ready .any l.toArray listed) (hiE:i∈E) :
  InvI F n P S l c E T Q a (listed.setIfInBounds i true) (b.put (dstOf l i) (c i)) W R∧∀ K:Act→World→Prop,K (b.put (dstOf l i) (c i)) W→wpOpIn F n P l.toArray Q i K b W:=by
 obtain ⟨hlt,hun,o,ho,hall⟩:=(ready_spec I.size).1 hr
 have hisz:i < listed.size:=by rw [I.size];exact hlt
 constructor
 ·refine ⟨by simpa using I.size,by rw [put_size];exact I.asize,Inv.closed_set I.closed I.size hr,fun k hk hon=>?_,fun t ht=>?_,?_,fun hR=>?_,?_⟩
  ·by_cases hki:k=i
   ·subst hki;exact put_put _ _ _
   ·have hon':=(on_of_set hon).resolve_left hki
    rw [Act.put_comm b (c i) (c k) (fun d hd=>hC.dist i hiE k (hC.lt k (.inl hk)) (Ne.symm hki) d hd),I.idem k hk hon']
  ·rw [put_get_ne (ht i hlt (on_self hisz))]
   exact I.old t fun j hj hon=>ht j hj (on_set hon)
  ·obtain ⟨pre,e,h1,h2⟩:=I.rem
   refine ⟨pre,e,fun t ht=>on_set (h1 t ht),fun t ht hon=>?_⟩
   rcases on_of_set hon with rfl | hon
   ·exact (hC.part t hlt).1 hiE (by rw [e];exact List.mem_append_right _ ht)
   ·exact h2 t ht hon
  ·rcases I.sOK hR with h | h
   ·exact .inl h
   ·exact .inr fun k hk=>on_set (h k hk)
  ·rw [putAll_own E b hiE (fun j hj hji d hd=>hC.dist i hiE j (hC.lt j (.inl hj)) (Ne.symm hji) d hd)]
   exact I.go
 ·intro K hK
  obtain ⟨pre,suf,he,hpre⟩:=sortedB_split hC.sorted hiE
  have hy:=hc pre i suf he
  have hSW:S W:=by
   cases R with
   | nil =>
    rcases I.sOK rfl with h | h
    ·exact h
    ·exact absurd (h i hiE) hun
   | cons s R=>exact I.go.1
  have hag:∀ t∈looks l i,b.tmps[t]?=(putAll l c pre a).tmps[t]?:=fun t ht=>by
   by_cases hex:∃ j,j < l.length∧dstOf l j=some t
   ·obtain ⟨j,hj,hd⟩:=hex
    have hjE:j∈E:=by
     by_cases hjE:j∈E
     ·exact hjE
     ·have hjT:j∈T:=by
       by_cases hjT:j∈T
       ·exact hjT
       ·exact absurd ((hC.part j hj).2 hjT) hjE
      exact absurd ht (hC.apart j hjT i hiE t hd)
    have hw:=hC.reads j hjE i hlt t hd ht
    obtain ⟨o',ho',e,hee,hb,rfl⟩:=waitsI_spec hw
    rw [ho] at ho';cases ho'
    have hji:=(hC.ok i o ho).2 e hee hb
    have hon:=hall e hee hb
    have h1:=I.idem e.on hjE hon
    rw [putAll_at hd pre a (hpre e.on hjE hji) (fun k hk hke=>hC.dist e.on hjE k (hC.lt k (.inl (by rw [he];exact List.mem_append_left _ hk))) (Ne.symm hke) t hd)]
    rw [← h1,hd]
    exact put_get _ I.asize
   ·have hno:∀ j,j < l.length→dstOf l j≠some t:=fun j hj hd=>hex ⟨j,hj,hd⟩
    rw [I.old t fun j hj _=>hno j hj,putAll_ne pre a fun k hk=>hno k (hC.lt k (.inl (by rw [he];exact List.mem_append_left _ hk)))]
  have hyb:=hy.agree (b:=b) (fun o' ho'=>by rw [ho] at ho';cases ho';exact (hC.ok i o ho).1) hag
  unfold EY at hyb
  unfold wpOpIn
  have ho':l.toArray[i]?=some o:=by simpa using ho
  have hd:dstOf l i=o.dst:=by simp [dstOf,ho]
  simp only [ho] at hyb
  simp only [ho']
  rw [hd] at hK
  split
  ·rename_i hw
   rw [if_pos hw] at hyb
   refine ⟨fun f _=>hF f,?_⟩
   rw [Oper.semAt_eq _ _ _ (noDefer_at hD ho),hyb W hSW]
   exact hK
  ·rename_i hw
   rw [if_neg hw] at hyb
   rw [← hyb];exact ⟨fun f _=>hF f,hK⟩
theorem upon_toI {o:Oper} {A b:Act} {K K':Act→World→Prop} (hv:∀ v W,K (A.put o.dst v) W→K' (b.put o.dst v) W)
  (hd:∀ d W,K ({ A with defers:=d :: A.defers }.put o.dst undef) W→K' ({ b with defers:=d :: b.defers }.put o.dst undef) W) :
  ∀ r:Result Next,o.uponIn F n P A K (nxt K) r→o.uponIn F n P b K' Q r:=fun r h=>by
 cases r with
 | ok n w' =>
  cases n with
  | value v=>exact hv v w' h
  | skip=>exact hv undef w' h
  | defer d=>exact hd d w' h
  | enter f args =>
   refine ⟨h.1,CallsIn.mono h.2 fun e w'' he=>?_⟩
   cases e with
   | returned v=>exact hv v w'' he
   | panicked chain=>exact he.elim
   | outgrown=>obtain ⟨_,_,h⟩:=he;exact h.elim
  | row r args=>exact ⟨h.1,RowsIn.mono h.2 fun v w'' he=>hv v w'' he⟩
  | round l f tmps assign body =>
   refine ⟨h.1,RoundIn.mono h.2 fun e w'' he=>?_⟩
   cases e with
   | returned v=>exact hv v w'' he
   | panicked chain=>exact he.elim
   | outgrown=>obtain ⟨_,_,h⟩:=he;exact h.elim
  | _=>exact h
 | halt x w' =>
  cases x <;> first | exact h | exact h.elim
theorem InvI.other (hF:∀ f,F.fn f) (hD:noDefer l=true) (hC:Chk l E T) {listed:Array Bool} {b:Act} {W:World} {R:List Nat}
  (I:InvI F n P S l c E T Q a listed b W R) {s:Nat} (hr:s∈Region.ready .any l.toArray listed) (hsT:s∈T) (K:Act→World→Prop)
  (hK:∀ b' W' R',InvI F n P S l c E T Q a (listed.setIfInBounds s true) b' W' R'→K b' W'):wpOpIn F n P l.toArray Q s K b W:=by
 obtain ⟨hlt,hun,o,ho,hall⟩:=(ready_spec I.size).1 hr
 have hssz:s < listed.size:=by rw [I.size];exact hlt
 obtain ⟨pre,hTe,hp,hR⟩:=I.rem
 have hsR:s∈R:=by
  rw [hTe] at hsT
  rcases List.mem_append.1 hsT with h | h
  ·exact absurd (hp s h) hun
  ·exact h
 cases R with
 | nil=>cases hsR
 | cons r R =>
  have hch:chainT l (r :: R)=true:=chain_drop (pre:=pre) (by rw [← hTe];exact hC.chain)
  have hsr:s=r:=by
   rcases List.mem_cons.1 hsR with h | h
   ·exact h
   ·obtain ⟨p,hpm,hw⟩:=chain_pred hch h
    obtain ⟨o',ho',e,he,hb,rfl⟩:=waitsI_spec hw
    rw [ho] at ho';cases ho'
    exact absurd (hall e he hb) (hR _ hpm)
  subst hsr
  have hsE:s ∉ E:=fun h=>(hC.part s hlt).1 h hsT
  have hnd:∀ i∈E,∀ t,o.dst=some t→dstOf l i≠some t:=fun i hi t hd hdi=>by
   have:=hC.dist i hi s hlt (fun e=>hsE (e▸hi)) t hdi
   exact this (by simp [dstOf,ho,hd])
  obtain ⟨_,hgo⟩:=I.go
  rw [ho] at hgo
  dsimp only at hgo
  have hag:∀ t∈o.looksAt l.toArray,b.tmps[t]?=(putAll l c E b).tmps[t]?:=fun t ht=>by
   by_cases hex:∃ i∈E,dstOf l i=some t
   ·obtain ⟨i,hi,hd⟩:=hex
    have hw:=hC.reads i hi s hlt t hd (by simpa [looks,ho] using ht)
    obtain ⟨o',ho',e,he,hb,rfl⟩:=waitsI_spec hw
    rw [ho] at ho';cases ho'
    rw [putAll_at hd E b hi (fun k hk hke=>hC.dist e.on hi k (hC.lt k (.inl hk)) (Ne.symm hke) t hd),← hd,I.idem e.on hi (hall e he hb)]
   ·rw [putAll_ne E b fun i hi hd=>hex ⟨i,hi,hd⟩]
  have ho':l.toArray[s]?=some o:=by simpa using ho
  have next:∀ b' W',b'.tmps=(b.put o.dst (b'.tmps.getD 0 undef)).tmps∨True→(∃ v D,b'=({ b with defers:=D }:Act).put o.dst v)→wpSpI F n P S l Q R (putAll l c E b') W'→K b' W':=by
   rintro b' W'-⟨v,D,rfl⟩ hsp
   have hput:∀ d v',(({ b with defers:=D }:Act).put o.dst v).put d v'={ (b.put o.dst v).put d v' with defers:=D }:=fun d v'=>by
    cases d <;> cases o.dst <;> rfl
   refine hK _ _ R ⟨by simpa using I.size,by rw [put_size];exact I.asize,Inv.closed_set I.closed I.size hr,fun i hi hon=>?_,fun t ht=>?_,?_,fun hR0=>?_,hsp⟩
   ·have hne:i≠s:=fun e=>hsE (e▸hi)
    have hon':=(on_of_set hon).resolve_left hne
    rw [hput,Act.put_comm b v (c i) (fun d hd=>hnd i hi d hd),I.idem i hi hon']
    cases o.dst <;> rfl
   ·have h1:=ht s hlt (on_self hssz)
    have h2:dstOf l s=o.dst:=by simp [dstOf,ho]
    rw [h2] at h1
    rw [put_get_ne h1]
    exact I.old t fun j hj hon=>ht j hj (on_set hon)
   ·refine ⟨pre ++ [s],by rw [hTe];simp,fun t ht=>?_,fun t ht hon=>?_⟩
    ·rcases List.mem_append.1 ht with h | h
     ·exact on_set (hp t h)
     ·rw [List.mem_singleton.1 h];exact on_self hssz
    ·rcases on_of_set hon with rfl | hon
     ·obtain ⟨p,hpm,hw⟩:=chain_pred hch ht
      obtain ⟨o',ho',e,he,hb,rfl⟩:=waitsI_spec hw
      rw [ho] at ho';cases ho'
      exact hR _ hpm (hall e he hb)
     ·exact hR t (List.mem_cons_of_mem _ ht) hon
   ·refine .inr (Inv.early_of_all hC (fun e=>by rw [e] at hTe;simp at hTe) (Inv.closed_set I.closed I.size hr) fun t ht=>?_)
    subst hR0
    rw [hTe] at ht
    rcases List.mem_append.1 ht with h | h
    ·exact on_set (hp t h)
    ·rw [List.mem_singleton.1 h];exact on_self hssz
  unfold wpOpIn
  simp only [ho']
  unfold wpListIn at hgo
  rw [← wanted_agree hag] at hgo
  split
  ·rename_i hw
   rw [if_pos hw] at hgo
   ·refine ⟨fun f _=>hF f,?_⟩
    have hgo:=hgo.2
    rw [Oper.semAt_eq _ _ _ (noDefer_at hD ho)] at hgo ⊢
    rw [execOp_congr o (hC.ok s o ho).1 (eval_agree hag)]
    refine upon_toI (A:=putAll l c E b) (K:=wpSpI F n P S l Q R) (fun v W' h=>?_) (fun d W' h=>?_) _ hgo
    ·refine next _ _ (.inr trivial) ⟨v,b.defers,rfl⟩ ?_
     rw [putAll_put E b (fun i hi t hd=>hnd i hi t hd)];exact h
    ·have hdf:(putAll l c E b).defers=b.defers:=by
      have:=putAll_defers (l:=l) (c:=c) b.defers E b
      have h2:=congrArg Act.defers this
      exact h2
     refine next _ _ (.inr trivial) ⟨undef,d :: b.defers,rfl⟩ ?_
     rw [putAll_put E _ (fun i hi t hd=>hnd i hi t hd),putAll_defers]
     rw [hdf] at h;exact h
  ·rename_i hw
   rw [if_neg hw] at hgo
   refine ⟨fun f _=>hF f,next _ _ (.inr trivial) ⟨undef,b.defers,rfl⟩ ?_⟩
   rw [putAll_put E b (fun i hi t hd=>hnd i hi t hd)];exact hgo.2
theorem InvI.done (hC:Chk l E T) {listed:Array Bool} {b:Act} {W:World} {R:List Nat} (I:InvI F n P S l c E T Q a listed b W R) (hr:Region.ready .any l.toArray listed=[]):Q .normal b W:=by
 have hall:∀ i,i < l.length→on listed i:=by
  intro i
  induction i using Nat.strongRecOn with
  | _ i ih =>
   intro hi
   by_cases hon:on listed i
   ·exact hon
   ·have:i∈Region.ready .any l.toArray listed:=(ready_spec I.size).2 ⟨hi,hon,l[i],List.getElem?_eq_getElem hi,fun e he hb =>
     have hlt:=(hC.ok i _ (List.getElem?_eq_getElem hi)).2 e he hb
     ih e.on hlt (by omega)⟩
    rw [hr] at this;cases this
 obtain ⟨pre,hTe,_,hR⟩:=I.rem
 cases R with
 | cons r R=>exact absurd (hall r (hC.lt r (.inr (by rw [hTe];simp)))) (hR r (List.mem_cons_self ..))
 | nil =>
  have:=I.go
  rw [putAll_same E b fun i hi=>I.idem i hi (hall i (hC.lt i (.inl hi)))] at this
  exact this
theorem InvI.any (hF:∀ f,F.fn f) (hD:noDefer l=true) (hC:Chk l E T) (hc:∀ pre i suf,E=pre ++ i :: suf→EY P S l i (putAll l c pre a) (c i)):∀ (fuel:Nat) (listed:Array Bool) (b:Act) (W:World) (R:List Nat),
  listed.toList.count false=fuel→InvI F n P S l c E T Q a listed b W R→wpAnyIn F n P .any l.toArray Q fuel listed b W
 | 0,listed,b,W,R,hf,I=>by
  have hr:Region.ready .any l.toArray listed=[]:=by
   apply List.eq_nil_iff_forall_not_mem.2
   intro i hi
   obtain ⟨hlt,hun,_⟩:=(ready_spec I.size).1 hi
   have h1:i < listed.toList.length:=by rw [Array.length_toList,I.size];exact hlt
   have h2:listed.toList[i]=false:=by
    unfold on at hun
    have h3:i < listed.size:=by rw [I.size];exact hlt
    simp [h3] at hun
    simpa using hun
   have:=List.count_pos_iff.2 (h2▸List.getElem_mem h1)
   omega
  exact ⟨hr,I.done hC hr⟩
 | fuel+1,listed,b,W,R,hf,I=>by
  refine ⟨fun hr=>I.done hC hr,fun i hi=>?_⟩
  obtain ⟨hlt,hun,_⟩:=(ready_spec I.size).1 hi
  have hcount:(listed.setIfInBounds i true).toList.count false=fuel:=by
   have h1:i < listed.toList.length:=by rw [Array.length_toList,I.size];exact hlt
   have h2:listed.toList[i]=false:=by
    unfold on at hun
    have h3:i < listed.size:=by rw [I.size];exact hlt
    simp [h3] at hun
    simpa using hun
   rw [Array.toList_setIfInBounds,List.count_set h1,h2,hf]
   simp
  by_cases hiE:i∈E
  ·obtain ⟨I',hop⟩:=I.early hF hD hC hc hi hiE
   exact hop _ (InvI.any hF hD hC hc fuel _ _ _ _ hcount I')
  ·have hiT:i∈T:=by
    by_cases hiT:i∈T
    ·exact hiT
    ·exact absurd ((hC.part i hlt).2 hiT) hiE
   exact I.other hF hD hC hi hiT _ fun b' W' R' I'=>InvI.any hF hD hC hc fuel _ _ _ _ hcount I'
theorem wpIn_spine {id:Nat} {w:World} (S:World→Prop) (E T:List Nat) (hF:∀ f,F.fn f) (hD:noDefer l=true) (hm:P.follows .mixedOrders=true) (hC:chk l E T=true)
  (h:wpE P S l E a fun a'=>(T=[]→S w.drew)∧wpSpI F n P S l Q T a' w.drew):(Code.region id l.toArray true).wpIn F n P Q a w:=by
 have hC:=chk_spec hC
 obtain ⟨c,hc,hS,hgo⟩:=wpE_spec E a _ (sortedB_nodup hC.sorted) h
 have hoff:∀ i,¬ on (Array.replicate l.toArray.size false) i:=fun i h=>by
  unfold on at h
  obtain ⟨h1,h2⟩:=Array.getElem?_eq_some_iff.1 h
  simp at h2
 refine wpIn_region_any hm (InvI.any (c:=c) (a:=a) (E:=E) (T:=T) hF hD hC hc _ _ _ _ T (by simp) ⟨by simp,rfl,fun j _ h=>absurd h (hoff j),fun i _ h=>absurd h (hoff i),fun _ _=>rfl,⟨[],rfl,(fun _ h=>by cases h),fun t _=>hoff t⟩,fun hT=>.inl (hS hT),hgo⟩)
theorem wpSpI_op {s:Nat} {o:Oper} {W:World} (ho:l[s]?=some o) (hS:S W) (h:wpListIn F n P l.toArray (nxt (wpSpI F n P S l Q T)) [o] a W):wpSpI F n P S l Q (s :: T) a W :=
 ⟨hS,by rw [ho];exact h⟩
theorem nxtI_op {s:Nat} {o:Oper} {W:World} (ho:l[s]?=some o) (hS:S W) (h:wpListIn F n P l.toArray (nxt (wpSpI F n P S l Q T)) [o] a W):nxt (wpSpI F n P S l Q (s :: T)) .normal a W:=wpSpI_op ho hS h
theorem nxtI_nil {W:World} (h:Q .normal a W):nxt (wpSpI F n P S l Q []) .normal a W:=h
end
end Go.Proofs.YtafpmkdlciioaaaGreatDoor
namespace Go.Proofs.YtafpmkdlciioaaaGreatDoor
open Go.RowKit
attribute [local go_sem] Oper.semAt_some
def Marks (n₀:Nat) (W:World):List Deferred→Prop
 | []=>True
 | d :: ds=>(∃ D,d={ target:=.collected D,args:=#[] }∧n₀≤D∧W.heap[D]?=some (.deferred (some []))∧∀ e∈ds,∀ D',e.target=.collected D'→D' < D)∧Marks n₀ W ds
theorem Marks.keep {n₀:Nat} {W W':World} (h:∀ (g:Nat),n₀≤g→W.heap[g]?=some (.deferred (some []))→W'.heap[g]?=some (.deferred (some []))):∀ {ds:List Deferred},Marks n₀ W ds→Marks n₀ W' ds
 | [],_=>trivial
 | _ :: _,⟨⟨D,h1,h2,h3,h4⟩,h5⟩=>⟨⟨D,h1,h2,h _ h2 h3,h4⟩,h5.keep h⟩
theorem Marks.lt {n₀:Nat} {W:World}:∀ {ds:List Deferred},Marks n₀ W ds→∀ e∈ds,∀ D,e.target=.collected D→D < W.heap.size
 | _ :: _,⟨⟨D,h1,_,h3,_⟩,h5⟩,e,he,D',hD=>by
  rcases List.mem_cons.1 he with rfl | he
  ·subst h1;cases hD;exact (Array.getElem?_eq_some_iff.1 h3).1
  ·exact h5.lt e he D' hD
theorem Marks.keepBut {n₀:Nat} {W W':World} (D:Nat) (hB:∀ g,g≠D→W'.heap[g]?=W.heap[g]?):∀ {ds:List Deferred},Marks n₀ W ds→(∀ e∈ds,∀ D',e.target=.collected D'→D' < D)→Marks n₀ W' ds
 | [],_,_=>trivial
 | d :: _,⟨⟨D1,h1,h2,h3,h4⟩,h5⟩,hlt=>⟨⟨D1,h1,h2,(hB _ (by have:=hlt d (List.mem_cons_self ..) D1 (by rw [h1]);omega)).trans h3,h4⟩,h5.keepBut D hB fun e he=>hlt e (List.mem_cons_of_mem _ he)⟩
def Shut (n₀:Nat) (W W':World):Prop:=Below n₀ W W'∧∀ (g:Nat) cs t fz,W.heap[g]?=some (Obj.cells cs t fz)→W'.heap[g]?=some (Obj.cells cs t fz)
theorem Shut.refl (n₀:Nat) (W:World):Shut n₀ W W:=⟨Below.refl _ _,fun _ _ _ _ h=>h⟩
theorem leave_marks {F:Fence} {n:Nat} {P:Program} {fn:Func} {tmps:Array Value} {R:Ending→World→Prop} {n₀:Nat}:∀ (ds:List Deferred) (W:World),Marks n₀ W ds→(∀ W',Shut n₀ W W'→LeavesIn F n P fn tmps R [] .returning W')→LeavesInM F n P fn tmps R ds .returning W
 | [],W,_,h=>h W (Shut.refl _ _)
 | d :: ds,W,⟨⟨D,h1,h2,h3,h4⟩,h5⟩,h=>by
  subst h1
  refine ⟨by simp,.inl ⟨D,_,rfl,run_takeDeferred h3,?_⟩⟩
  have ho:∀ g,g≠D→(W.putObj D (.deferred none)).heap[g]?=W.heap[g]?:=fun g hg=>World.putObj_heap_other hg
  refine leave_marks ds _ (h5.keepBut D ho h4) fun W' hW'=>h W' ⟨?_,?_⟩
  ·exact (belowK_b (w:={ W with heap:=W.heap.extract 0 n₀ }) (by simp;have:=(Array.getElem?_eq_some_iff.1 h3).1;omega) W D _ _ (by simp;omega) h3 rfl rfl).trans hW'.1
  ·intro g cs t fz hb
   refine hW'.2 g cs t fz ((ho g fun e=>?_).trans hb)
   subst e
   rw [h3] at hb;cases hb
section
variable {n₀:Nat} {W W':World}
theorem Shut.keep (h:Shut n₀ W W'):KeepW W W':=⟨h.1.size,fun g cs hb=>h.2 g cs _ _ hb⟩
theorem cells_of {W:World} {a:Addr} {u:Value} (h:W.cell? a=some u):∃ cs t fz,W.heap[a.block]?=some (Obj.cells cs t fz):=by
 unfold World.cell? at h
 cases hb:W.heap[a.block]? with
 | none=>rw [hb] at h;cases h
 | some o =>
  rw [hb] at h
  cases o <;> simp_all
theorem Shut.row (h:Shut n₀ W W') {A:Option Addr} {cs:List Value} (hr:Row W A cs):Row W' A cs:=fun hn=>by
 obtain ⟨g,off,hA,hg,hc⟩:=hr hn
 refine ⟨g,off,hA,Nat.lt_of_lt_of_le hg h.1.size,fun k u hu=>?_⟩
 have h1:=hc k u hu
 obtain ⟨cs',t,fz,hb⟩:=cells_of h1
 exact (World.cell?_of_block ((h.2 _ _ _ _ hb).trans hb.symm)).trans h1
theorem Shut.mat (h:Shut n₀ W W') {p C:Nat} {Ns:List Nat} (hm:IsMat W p C Ns):IsMat W' p C Ns:=by
 obtain ⟨h1,h2,A,c,vs,hB,hc,hr,hs⟩:=hm
 exact ⟨h1,h2,A,c,vs,h.2 _ _ _ _ hB,hc,h.row hr,hs.keep h.keep⟩
end
theorem KeepW.of_but {W W':World} {r:Nat} {t:TypeId} {cs:Array Value} (h:But (some r) W W') (hr:Blk W r t cs) (ht:146≠t):KeepW W W' :=
 ⟨h.1,fun g cs' hb=>h.blk hb fun e=>by cases e;exact hb.ne_ hr ht rfl⟩
theorem But.setCell (w:World) (p:Addr) (u:Value):But (some p.block) w (w.setCell p u):=⟨by simp [World.setCell],fun g _ hne=>Below.heap_setCell w p u g fun e=>hne (by rw [e])⟩
theorem KeepsOthers.of_below {W W':World} (h:Below W.heap.size W W'):KeepsOthers W W':=⟨h.size,fun k _ hk _=>(h.block k (Array.getElem?_eq_some_iff.1 hk).1).trans hk⟩
theorem own_kind {W:World} {base:Nat} {e:TypeId} {size:Nat} {v:Value} {n:Nat} {xs:List Value} (h:W.ownsRow base e size v n xs) (g:Nat) (hg:v.ownBlock=some g):∃ cs,Blk W g e cs:=by
 rcases h.2 with ⟨rfl,_⟩ | ⟨g',cap,cur,rfl,_,hgb,_⟩
 ·simp [Value.ownBlock] at hg
 ·obtain rfl:g'=g:=by simpa [Value.ownBlock] using hg
  exact ⟨_,hgb⟩
theorem Bld.but {W W':World} {base q C r:Nat} {Ns:List Nat} {rv:Value} {vs:List Value} {cs:Array Value} (h:Bld base q C Ns W rv vs) (hb:But (some r) W W') (hr:Blk W r 58 cs) (hne:some r≠rv.ownBlock):Bld base q C Ns W' rv vs:=by
 refine ⟨hb.blk h.1 fun e=>by cases e;exact h.1.ne_ hr (by decide) rfl,?_,h.2.2.keep (KeepW.of_but hb hr (by decide))⟩
 obtain ⟨hl,h2⟩:=h.2.1
 refine ⟨hl,?_⟩
 rcases h2 with h2 | ⟨g,cap,cur,hv,hg,hh,r2⟩
 ·exact .inl h2
 ·refine .inr ⟨g,cap,cur,hv,hg,(hb.2 g (Array.getElem?_eq_some_iff.1 hh).1 fun e=>hne ?_).trans hh,r2⟩
  rw [hv];exact e.symm
theorem Marks.others {n₀:Nat} {W W':World} (h:KeepsOthers W W') {ds:List Deferred} (hm:Marks n₀ W ds):Marks n₀ W' ds:=hm.keep fun g _ hg=>h.same g _ hg rfl
def prow (Ms:List Nat) (ks:List Nat):Nat:=ks.foldl (fun r k=>r|||Ms.getD k 0) 0
theorem prow_snoc (Ms ks:List Nat) (k:Nat):prow Ms (ks ++ [k])=prow Ms ks|||Ms.getD k 0:=by simp [prow]
def mprod (Ns Ms:List Nat) (k:Nat):List Nat:=(List.range k).map fun i=>prow Ms (mems (Ns.getD i 0))
theorem mprod_succ (Ns Ms:List Nat) (k:Nat):mprod Ns Ms (k+1)=mprod Ns Ms k ++ [prow Ms (mems (Ns.getD k 0))]:=by simp [mprod,List.range_succ]
theorem mprod_len (Ns Ms:List Nat) (k:Nat):(mprod Ns Ms k).length=k:=by simp [mprod]
theorem mem_rowsIn {C k x:Nat} {Ns:List Nat} (h:rowsIn C Ns) (hk:k < Ns.length) (hx:Ns[k].testBit x=true):x < C:=by
 have:=h k hk
 rw [getD_at hk] at this
 have h2:=congrArg (fun n=>n.testBit x) this
 simp only [Nat.testBit_and,testBit_lowN,hx,Bool.true_and,decide_eq_true_eq] at h2
 exact h2
theorem prod_any (p q C D:Nat) (Ns Ms:List Nat) (w:World) (h:IsMat w p C Ns) (h':IsMat w q D Ms) (hC:C=Ms.length) (hin:rowsIn C Ns) (hT:Tab w) :
  Calls Tryz.prog 37 #[ptr p,ptr q] w fun e w'=>∃ b,e=pair (ptr b) 0∧IsMat w' b D (mprod Ns Ms Ns.length)∧Below w.heap.size w w':=by
 obtain ⟨i0,hi0,hz0,hz1,hz2⟩:=info_parts info_set
 obtain ⟨h1,h2,A,c,vs,hB,hc,hr,hs⟩:=id h
 obtain ⟨h1',h2',A',c',vs',hB',hc',hr',hs'⟩:=id h'
 have e0:((C:Int) != ((Ms.length:Nat):Int))=false:=by simp [hC]
 have HCM:=Lib.hid hC;clear hC
 refine (callsIn_wide (n:=9)).1 (callsIn_of_wp_marks Tryz.func37 rfl trivial (wpIn_wide.2 ?_) rfl)
 simp only [Tryz.ntmps37,List.size_toArray,List.length_cons,List.length_nil,Nat.reduceAdd,Nat.reduceSub,Array.replicate_succ,Array.replicate_zero,List.push_toArray,List.append_toArray,List.nil_append,List.cons_append]
 go_wp2_with fail
 refine abs1 fun W0 hO0 hbel0 hz=>?_
 have HZ:=Lib.hid hz;clear hz
 have o0:=hO0.cell 0
 have m0:=onB hbel0 (hB.cell 0)
 have m1:=onB hbel0 (hB.cell 1)
 have n1:=onB hbel0 (hB'.cell 1)
 have n0:=onB hbel0 (hB'.cell 0)
 refine wp_spine (fun W=>Below W0.heap.size W0 W) [0,1,2,3,4,5,6,7,8,9,10,11,12,13,14,15,16,17] [] (by kernel_rfl) (by kernel_rfl) ?_
 iterate 3 (refine wpE_op (v:=?_) rfl rfl (fun W hW=>?_) ?_;rotate_left;(go_simp;first | done | with_reducible rfl);simp only [pt1,pt3,pt4,pt5])
 iterate 2 (refine wpE_yes (v:=?_) rfl (by rfl) (fun W hW=>?_) ?_;rotate_left;(have x1:=onB hW o0;go_simp;first | done | with_reducible rfl);simp only [pt1,pt3,pt4,pt5])
 iterate 2 (refine wpE_op (v:=?_) rfl rfl (fun W hW=>?_) ?_;rotate_left;(go_simp;first | done | with_reducible rfl);simp only [pt1,pt3,pt4,pt5])
 iterate 10 (refine wpE_yes (v:=?_) rfl (by rfl) (fun W hW=>?_) ?_;rotate_left;(have x1:=onB hW o0;have x2:=onB hW m0;have x3:=onB hW n1;go_simp;first | done | with_reducible rfl);simp only [pt1,pt3,pt4,pt5])
 iterate 1 (refine wpE_op (v:=?_) rfl rfl (fun W hW=>?_) ?_;rotate_left;(go_simp;first | done | with_reducible rfl);simp only [pt1,pt3,pt4,pt5])
 refine wpE_nil ⟨fun _=>(Below.refl _ _).drew,wpSp_nil ?_⟩
 have lB:=Nat.lt_of_lt_of_le hB.lt hbel0.size
 have lO:=hO0.lt
 have lB':=Nat.lt_of_lt_of_le hB'.lt hbel0.size
 go_wp2_with fail
 refine wp_loop (fun a' wr=>∃ (u8 u9 u10 u41 u42 u43 u44 u45 u46 u47 u48 u49 u50 u51 u52 u53 u54 u55 u56 u57 u58 u59 u60 u61 u62 u63 u64 u65 u66:Value) (ds:List Deferred) (k:Nat),(k≤Ns.length∧(∃ rv us,Bld w.heap.size W0.heap.size D (mprod Ns Ms k) wr rv us)∧Below w.heap.size w wr∧Blk wr w.heap.size 30 #[ptr q]∧Marks w.heap.size wr ds) ∧
   a'={ tmps:=#[ptr p,ptr q,undef,Value.pointer (some ⟨w.heap.size,0,none⟩),Value.pointer none,.int .i64 0,Value.pointer (some ⟨W0.heap.size,0,none⟩),undef,u8,u9,u10,
    ptr p,.bool false,.bool false,ptr q,.bool false,.bool false,.bool false,ptr p,.pointer (some ⟨p,0,none⟩),.pointer (some ⟨p,0,none⟩),.int .i64 (C:Int),ptr q,.pointer (some ⟨q,0,none⟩),.pointer (some ⟨q,1,none⟩),
    .slice A' Ms.length c',.int .i64 (Ms.length:Int),.bool false,.bool false,ptr q,.pointer (some ⟨q,0,none⟩),.pointer (some ⟨q,0,none⟩),.int .i64 (D:Int),.agg #[.int .i64 (D:Int),.slice none 0 0],.pointer (some ⟨W0.heap.size,0,none⟩),
    ptr p,.pointer (some ⟨p,0,none⟩),.pointer (some ⟨p,1,none⟩),.slice A Ns.length c,.int .i64 (Ns.length:Int),.int .i64 (k:Int),u41,u42,u43,u44,u45,u46,u47,u48,u49,u50,u51,u52,u53,u54,u55,u56,u57,u58,u59,u60,u61,u62,u63,u64,u65,u66,undef],defers:=ds })
  (fun a' _=>Ns.length-(intOf (a'.tmps.getD 40 undef)).toNat) ?_ ?_
 ·refine ⟨_,_,_,_,_,_,_,_,_,_,_,_,_,_,_,_,_,_,_,_,_,_,_,_,_,_,_,_,_,[],0,⟨Nat.zero_le _,⟨_,_,Bld.start _ _ _ _ (Blk.new _ _ _)⟩,(hbel0.alloc hbel0.size _).drew,(hO0.alloc _).drew,trivial⟩,rfl⟩
 rintro _ wr ⟨u8,u9,u10,u41,u42,u43,u44,u45,u46,u47,u48,u49,u50,u51,u52,u53,u54,u55,u56,u57,u58,u59,u60,u61,u62,u63,u64,u65,u66,ds,k,⟨hk,⟨rv,us,hbld⟩,hbel,hO,hM⟩,rfl⟩
 dsimp only
 by_cases hlt:k < Ns.length
 ·obtain ⟨A1,c1,hv,hset⟩:=hs.at_ hlt
  obtain ⟨g,off,rfl,hg,hcell⟩:=hr (by rw [hs.1];omega)
  have cv:=onB hbel (hcell k _ hv)
  go_wp2_with fail
  refine absC2 fun W1 hS1 hR1 hbx hz1=>?_
  refine (all_any A1 (nw Ns[k]) c1 W1).mono ?_
  rintro e w3 ⟨rfl,hw3⟩
  have hX:=hw3▸Blk.new W1 58 #[.slice A1 (nw Ns[k]) c1]
  have hbx3:Below wr.heap.size wr w3:=by rw [hw3];exact hbx.alloc hbx.size _
  have hR3:Blk w3 (wr.heap.size+1) 58 #[.slice none 0 0]:=by rw [hw3];exact hR1.alloc _
  have hz3:w3.heap.size=wr.heap.size+3:=by rw [hw3];simp [hz1]
  clear hw3 hS1 hR1 hbx
  rw [hz1] at hX ⊢
  clear hz1
  have HZ3:=Lib.hid hz3;clear hz3
  have hbel3:=hbel.trans (hbx3.mono hbel.size)
  have hs3:=hset.below hbel3
  have hT3:=hT.below hbel3
  go_wp2_with fail
  have nR:some (wr.heap.size+1)≠rv.ownBlock:=fun e=>by have:=(hbld.2.1.lt _ e.symm).2;omega
  refine wp_rangeAll (v:=.slice A1 (nw Ns[k]) c1) (N:=Ns[k]) (Bx:=wr.heap.size+2) rfl (hX.cell 0) hs3 hT3 rfl
   (fun pre W=>(∃ rv',Blk W (wr.heap.size+1) 58 #[rv']∧IsSet W rv' (prow Ms pre))∧But (some (wr.heap.size+1)) w3 W∧Below w.heap.size w W) (fun _ _ _=>False)
   ?hI (fun _ _ _ _ _ hs _ _=>hs) ?h0 ?a1 ?assign ?body ?done (fun _ _ _ _ _ h _=>h.elim)
  case assign =>
   intro l x W K hK
   gi_wp2
   exact hK
  case hI =>
   rintro s W W' row ⟨⟨rv',hb,hsr⟩,hbut,hbl⟩ hg hrow
   have hcells:∀ (g:Nat) cs t fz,W.heap[g]?=some (Obj.cells cs t fz)→W'.heap[g]?=some (Obj.cells cs t fz):=fun g cs t fz hb=>(hg.block g (Array.getElem?_eq_some_iff.1 hb).1 fun e=>by
    obtain ⟨_,o,ho,hc⟩:=hrow g e.symm
    rw [ho] at hb;cases hb;cases hc).trans hb
   refine ⟨⟨rv',hcells _ _ _ _ hb,hsr.keep ⟨hg.size,fun g cs h=>hcells _ _ _ _ h⟩⟩,⟨Nat.le_trans hbut.1 hg.size,fun g hg' hne=>(hg.block g (Nat.lt_of_lt_of_le hg' hbut.1) fun e=>?_).trans (hbut.2 g hg' hne)⟩,hbl.grown hg hbl.size fun k e=>?_⟩
   ·have:=(hrow g e.symm).1;omega
   ·have:=(hrow k e).1;have:=hbel3.size;omega
  case h0=>exact ⟨⟨_,hR3,IsSet.empty _⟩,But.refl _ _,hbel3⟩
  case body =>
   rintro l pre x W hx ⟨⟨rv',hR,hsr⟩,hbut,hbl⟩ hlen hkp
   have hxM:x < Ms.length:=by have:=mem_rowsIn hin hlt hx;have:=HCM.out;omega
   obtain ⟨A2,c2,hv',hset'⟩:=hs'.at_ hxM
   obtain ⟨g',off',rfl,hg',hcell'⟩:=hr' (by rw [hs'.1];omega)
   have hsz:=hbel.size
   have cv':=hbut.on (onB hbel3 (hcell' x _ hv')) (by simp;omega)
   have cO:=hbut.on (onB hbx3 (hO.cell 0)) (by simp;omega)
   have cn:=hbut.on (onB hbel3 (hB'.cell 1)) (by have:=hB'.lt;simp;omega)
   have cR:=hR.cell 0
   have lR:=hR.lt
   have lg':=Nat.lt_of_lt_of_le hg' hbl.size
   have lO':=Nat.lt_of_lt_of_le (Blk.lt hO) (Nat.le_trans hbx3.size hbut.1)
   have lq':=Nat.lt_of_lt_of_le hB'.lt hbl.size
   have hcall:=or_any _ _ _ _ W.drew (hsr.below (Below.refl _ _).drew) ((hset'.below hbl).below (Below.refl _ _).drew)
   have HC:=hideC hcall;clear hcall
   gi_wp2_with fail
   refine wpIn_spine (fun V=>Below W.heap.size W V) [0,1,2,3,4,5,6,7] [8,9] (fun _=>trivial) (by kernel_rfl) (by kernel_rfl) (by kernel_rfl) ?_
   iterate 8 (refine wpE_op (v:=?_) rfl rfl (fun W hW=>?_) ?_;rotate_left;(have x1:=onB hW cR;have x2:=onB hW cO;have x3:=onB hW cn;have x4:=onB hW cv';go_simp;first | done | with_reducible rfl);simp only [pt1,pt3,pt4,pt5])
   refine wpE_nil ⟨fun h=>(by cases h),wpSpI_op rfl (Below.refl _ _).drew ?_⟩
   gi_wp2_with (refine ⟨trivial,?_⟩;gi_at_call 84;refine (CallsIn.inRound l (callsIn_wide.2 HC.out)).mono ?_;rintro e w4 ⟨r,rfl,hsetr,hb4⟩;obtain ⟨A3,c3,rfl,_⟩:=id hsetr)
   have hb5:Below W.heap.size W w4:=(Below.refl _ _).drew.trans hb4
   have hR4:=hR.below hb5 hR.lt
   have cR4:=hR4.cell 0
   have fR4:=hR4.frozen 0
   refine nxtI_op rfl hb5 ?_
   gi_wp2_with fail
   refine nxtI_nil ?_
   gi_wp2_with fail
   have hb6:=(hb5.mono hbl.size).setCell (p:=⟨wr.heap.size+1,0,none⟩) (by simp;omega) (.slice A3 (nw (prow Ms pre|||Ms[x])) c3)
   have hk6:=(KeepW.of_below hb5).trans (KeepW.setCell (p:=⟨wr.heap.size+1,0,none⟩) hR4 (by decide) (.slice A3 (nw (prow Ms pre|||Ms[x])) c3))
   exact ⟨((KeepsOthers.of_below hb5).trans (KeepsOthers.setCell _ _ _)).from _,KpA.mk_ hk6 hb6 hT.pos,
    ⟨_,hR4.set_ 0 _,by rw [prow_snoc,getD_at hxM];exact hsetr.keep (KeepW.setCell (p:=⟨wr.heap.size+1,0,none⟩) hR4 (by decide) _)⟩,(hbut.below hb5).trans (But.setCell _ _ _),hbl.trans hb6⟩
  case done =>
   rintro Dk W hDk ⟨⟨rv',hR,hsr⟩,hbut,hbl⟩ hK
   obtain ⟨A3,c3,rfl,_⟩:=id hsr
   have hbldW:=(hbld.below hbx3).but hbut hR3 nR
   have hsz:=hbel.size
   have hsz0:=hbel0.size
   have hMW:Marks w.heap.size W ds:=(hM.keep fun g _ hg=>(hbx3.block g (Array.getElem?_eq_some_iff.1 hg).1).trans hg).keep fun g _ hg=>(hbut.2 g (Array.getElem?_eq_some_iff.1 hg).1 fun e=>by cases e;rw [hR3] at hg;cases hg).trans hg
   have hlt':∀ e∈ds,∀ D',e.target=.collected D'→D' < Dk:=fun e he D' hD'=>by have:=hM.lt e he D' hD';have:=HZ3.out;omega
   have hOW:=hbut.blk (hO.below hbx3 hO.lt) (by simp;omega)
   have q1:=hbldW.1.cell 1
   have n1:=hbldW.ne
   have cR:=hR.cell 0
   have hln:=mprod_len Ns Ms k
   have hsw:=hbl.size
   dsimp only
   go_wp2_with fail
   refine wp_spine (fun V=>But rv.ownBlock W V) [0,1,2,3,4,5] [6,7,8,9,10] (by kernel_rfl) (by kernel_rfl) ?_
   iterate 6 (refine wpE_op (v:=?_) rfl rfl (fun W hW=>?_) ?_;rotate_left;(have x1:=hW.on q1 n1;have x2:=hW.on cR nR;go_simp;first | done | with_reducible rfl);simp only [pt1,pt3,pt4,pt5])
   refine wpE_nil ⟨fun h=>(by cases h),wpSp_op rfl ((But.refl _ _).below (Below.refl _ _).drew) ?_⟩
   go_wp2_with fail
   have hb4:=(Below.refl W.heap.size W).drew.alloc (Nat.le_refl _) (.cells #[.slice A3 (nw (prow Ms (mems Ns[k]))) c3] 58)
   have hbld4:=hbldW.below hb4
   have hset4:=hsr.below hb4
   refine nxt_op rfl (.of_below hb4) ?_
   go_wp2_with (at_builtin;refine wpList_append_own _ rfl _ _ 67 rfl (w.heap.size) 58 i0 (.agg #[.slice none 0 0]) 1 24 Tryz.underlying67 hi0 hz0 hz1 hz2 rfl (by decide) _ _ _ rfl (hbld4.2.1) ⟨W.heap.size,0,none⟩ 1 1 [.slice A3 (nw (prow Ms (mems Ns[k]))) c3] rfl rfl (cell_one_new _ _ _) (by simp [Value.oneCell']) (by unfold maxLen;omega) (by omega) (by simp;omega) ?_;intro v' w3 hown' hgrow _)
   obtain ⟨g5,cap5,rfl⟩:=ownsRow_succ hown'
   have hbut5:=(But.of_below hb4).trans (But.grown hgrow)
   have hbel5:=(hbl.trans (hb4.mono hbl.size)).grown hgrow (by simp;omega) (fun q hq=>(hbld4.2.1.lt q hq).1)
   have q3:=hbut5.on q1 n1
   have f3:=hbut5.frozen q1 (hbldW.1.frozen 1) n1
   obtain ⟨hbld5,_⟩:=hbld4.push hset4 rfl rfl hown' hgrow
   have hKO:KeepsOthers W w3:=(KeepsOthers.of_below hb4).trans (KeepsOthers.of_grownBy hgrow fun j o ej ho=>by
    obtain ⟨cs,h⟩:=own_kind hbld4.2.1 j ej
    rw [h] at ho;cases ho;rfl)
   rw [hln] at hbld5
   refine nxt_op rfl hbut5 ?_
   go_wp2_with fail
   refine nxt_op rfl hbut5 ?_
   go_wp2_with fail
   refine nxt_op rfl hbut5 ?_
   go_wp2_with fail
   refine nxt_nil ?_
   go_wp2_with fail
   have hO5:=(hbut5.blk hOW (own_ne hbldW.2.1 hOW (by decide))).far (p:=⟨W0.heap.size,1,none⟩) (by have:=HZ.out;simp;omega) (.slice (some ⟨g5,0,none⟩) (k+1) cap5)
   have hKO5:=hKO.trans (KeepsOthers.setCell w3 ⟨W0.heap.size,1,none⟩ (.slice (some ⟨g5,0,none⟩) (k+1) cap5))
   rw [← getD_at hlt,← mprod_succ] at hbld5
   have hM5:=hMW.others hKO5
   refine ⟨⟨_,_,_,_,_,_,_,_,_,_,_,_,_,_,_,_,_,_,_,_,_,_,_,_,_,_,_,_,_,{ target:=.collected Dk,args:=#[] } :: ds,k+1,⟨by omega,⟨_,_,hbld5⟩,hbel5.setCell (by simp;omega) _,hO5,⟨⟨Dk,rfl,by have:=HZ3.out;omega,hKO5.same _ _ hK rfl,hlt'⟩,hM5⟩⟩,rfl⟩,?_⟩
   simp [intOf];omega
 ·obtain rfl:k=Ns.length:=by omega
  have hm:=hbld.mat h1' (by rw [mprod_len];omega)
  go_wp2_with fail
  refine leave_marks ds wr hM fun W' hW'=>?_
  exact ⟨_,results_tmp2 rfl _ _ _,_,rfl,hW'.mat hm,hbel.trans hW'.1⟩
end Go.Proofs.YtafpmkdlciioaaaGreatDoor
namespace Go.Proofs.YtafpmkdlciioaaaGreatDoor
open Go.RowKit
theorem prod_ne (p q C D:Nat) (Ns Ms:List Nat) (w:World) (h:IsMat w p C Ns) (h':IsMat w q D Ms) (hC:C≠Ms.length) :
  Calls Tryz.prog 37 #[ptr p,ptr q] w fun e w'=>e=pair (.pointer none) 1∧Below w.heap.size w w':=by
 obtain ⟨h1,h2,A,c,vs,hB,hc,hr,hs⟩:=id h
 obtain ⟨h1',h2',A',c',vs',hB',hc',hr',hs'⟩:=id h'
 have e0:((C:Int) != ((Ms.length:Nat):Int))=true:=by simp;omega
 have HCM:=Lib.hid hC;clear hC
 refine (callsIn_wide (n:=9)).1 (callsIn_of_wp_marks Tryz.func37 rfl trivial (wpIn_wide.2 ?_) rfl)
 simp only [Tryz.ntmps37,List.size_toArray,List.length_cons,List.length_nil,Nat.reduceAdd,Nat.reduceSub,Array.replicate_succ,Array.replicate_zero,List.push_toArray,List.append_toArray,List.nil_append,List.cons_append]
 go_wp2_with fail
 refine abs1 fun W0 hO0 hbel0 hz=>?_
 have HZ:=Lib.hid hz;clear hz
 have o0:=hO0.cell 0
 have m0:=onB hbel0 (hB.cell 0)
 have n1:=onB hbel0 (hB'.cell 1)
 refine wp_spine (fun W=>Below W0.heap.size W0 W) [0,1,2,3,4,5,6,7,8,9,10,11,12,13,14,15,16,17] [] (by kernel_rfl) (by kernel_rfl) ?_
 iterate 3 (refine wpE_op (v:=?_) rfl rfl (fun W hW=>?_) ?_;rotate_left;(go_simp;first | done | with_reducible rfl);simp only [pt1,pt3,pt4,pt5])
 iterate 2 (refine wpE_yes (v:=?_) rfl (by rfl) (fun W hW=>?_) ?_;rotate_left;(have x1:=onB hW o0;go_simp;first | done | with_reducible rfl);simp only [pt1,pt3,pt4,pt5])
 iterate 2 (refine wpE_op (v:=?_) rfl rfl (fun W hW=>?_) ?_;rotate_left;(go_simp;first | done | with_reducible rfl);simp only [pt1,pt3,pt4,pt5])
 iterate 10 (refine wpE_yes (v:=?_) rfl (by rfl) (fun W hW=>?_) ?_;rotate_left;(have x1:=onB hW o0;have x2:=onB hW m0;have x3:=onB hW n1;go_simp;first | done | with_reducible rfl);simp only [pt1,pt3,pt4,pt5])
 iterate 1 (refine wpE_op (v:=?_) rfl rfl (fun W hW=>?_) ?_;rotate_left;(go_simp;first | done | with_reducible rfl);simp only [pt1,pt3,pt4,pt5])
 refine wpE_nil ⟨fun _=>(Below.refl _ _).drew,wpSp_nil ?_⟩
 go_wp2_with fail
 exact ⟨_,results_tmp2 rfl _ _ _,rfl,hbel0.drew⟩
end Go.Proofs.YtafpmkdlciioaaaGreatDoor
