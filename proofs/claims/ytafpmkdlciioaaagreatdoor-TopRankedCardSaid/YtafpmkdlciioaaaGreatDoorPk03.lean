import Derived.Test.YtafpmkdlciioaaaGreatDoorPk02
import Derived.Test.YtafpmkdlciioaaaGreatDoorShelf
import Derived.Shelf.Strings.Builder1
import Derived.Shelf.Strings.Split
import Derived.Shelf.RegionOpenPlain
import Derived.Deep.LoopGhost
import Derived.Sort.WalkB12
import Derived.Lib.SlicesMore
import Derived.Lib.OwnBridge
import Derived.Laws.Bits128
import Derived.Laws.AppendOwnNone
import Derived.Deep.AppendLies
import Derived.Deep.Onto
import Derived.Laws.IdiomStrings
import Derived.Lib.BitFns
import Derived.Test.YtafpmkdlciioaaaGreatDoorCards
import Derived.Test.YtafpmkdlciioaaaGreatDoorTie
import Derived.ProofKit
import Derived.OpenShut
import Derived.Carry
import Derived.Lib.SmallJoins
import Derived.Deep.DeepHandedRow
import Derived.Lib.LaidTab
import Derived.ChangeMaps5
set_option maxHeartbeats 2000000
set_option maxRecDepth 100000
namespace Go.Proofs.YtafpmkdlciioaaaGreatDoor
open Go.RowKit
theorem own_but {W W':World} {base:Nat} {e:TypeId} {size:Nat} {v:Value} {n:Nat} {xs:List Value} {r:Option Nat} (h:W.ownsRow base e size v n xs) (hb:But r W W') (hne:∀ g,v.ownBlock=some g→some g≠r):W'.ownsRow base e size v n xs:=by
 obtain ⟨hl,h2⟩:=h
 refine ⟨hl,?_⟩
 rcases h2 with h2 | ⟨g,cap,cur,hv,hg,hh,r2⟩
 ·exact .inl h2
 ·exact .inr ⟨g,cap,cur,hv,hg,(hb.2 g (Array.getElem?_eq_some_iff.1 hh).1 (hne g (by rw [hv];rfl))).trans hh,r2⟩
end Go.Proofs.YtafpmkdlciioaaaGreatDoor
namespace Go.Proofs.YtafpmkdlciioaaaGreatDoor
open Go.RowKit Go.Sort
end Go.Proofs.YtafpmkdlciioaaaGreatDoor
namespace Go.Proofs.YtafpmkdlciioaaaGreatDoor
open Go.RowKit
theorem bitLenAux_eq:∀ (f x:Nat),x < 2 ^ f→Lib.bitLenAux f x=if x=0 then 0 else x.log2+1
 | 0,x,h=>by
  have:x=0:=by simpa using h
  subst this;rfl
 | f+1,x,h=>by
  unfold Lib.bitLenAux
  by_cases h0:x=0
  ·rw [if_pos h0,if_pos h0]
  ·rw [if_neg h0,if_neg h0,bitLenAux_eq f (x/2) (by rw [Nat.pow_succ] at h;omega),Nat.log2_def x]
   by_cases h2:2≤x
   ·rw [if_pos h2,if_neg (by omega)];omega
   ·rw [if_neg h2,if_pos (by omega)]
theorem top_log (N:Nat) (h:N≠0):64*(nw N-1)+Lib.bitLen (wd N (nw N-1))-1=N.log2:=by
 have hq:nw N-1=N.log2/64:=by rw [nw,if_neg h];rfl
 have hlt:N < 2 ^ (N.log2+1):=Nat.lt_log2_self
 have hle:2 ^ N.log2≤N:=Nat.log2_self_le h
 rw [hq]
 generalize hL:N.log2=L at *
 have hd:64*(L/64)≤L:=by omega
 have hw:wd N (L/64)=N/2 ^ (64*(L/64)):=by
  rw [wd,Nat.shiftRight_eq_div_pow,Nat.mod_eq_of_lt]
  rw [Nat.div_lt_iff_lt_mul (Nat.two_pow_pos _),← Nat.pow_add]
  exact Nat.lt_of_lt_of_le hlt (Nat.pow_le_pow_right (by omega) (by omega))
 have h1:2 ^ (L-64*(L/64))≤N/2 ^ (64*(L/64)):=by
  rw [Nat.le_div_iff_mul_le (Nat.two_pow_pos _),← Nat.pow_add,show L-64*(L/64)+64*(L/64)=L by omega];exact hle
 have h2:N/2 ^ (64*(L/64)) < 2 ^ (L-64*(L/64)+1):=by
  rw [Nat.div_lt_iff_lt_mul (Nat.two_pow_pos _),← Nat.pow_add,show L-64*(L/64)+1+64*(L/64)=L+1 by omega];exact hlt
 have h3:N/2 ^ (64*(L/64))≠0:=Nat.ne_of_gt (Nat.lt_of_lt_of_le (Nat.two_pow_pos _) h1)
 have hl:(N/2 ^ (64*(L/64))).log2=L-64*(L/64):=(Nat.log2_eq_iff h3).2 ⟨h1,h2⟩
 have hb:Lib.bitLen (wd N (L/64))=L-64*(L/64)+1:=by
  show Lib.bitLenAux 64 _=_
  rw [bitLenAux_eq 64 _ (wd_lt _ _),hw,if_neg h3,hl]
 rw [hb];omega
theorem greatest_no (v:Value) (w:World) (hs:IsSet w v 0) :
  Calls Tryz.prog 152 #[.agg #[v]] w fun e w'=>e=.returned (.tuple #[.int .i64 0,.bool false])∧Below w.heap.size w w':=by
 obtain ⟨A,c,rfl,hN,_⟩:=id hs
 go_enter Tryz.func152,Tryz.ntmps152
 go_wp2_with fail
 refine absC1 fun W0 hA0 hbel0 hz=>?_
 refine (empty_any _ _ _ (hs.below hbel0)).mono ?_
 rintro e w1 ⟨rfl,hb1⟩
 go_wp2_with fail
 go_ret2
 exact ⟨rfl,hbel0.trans (hb1.mono hbel0.size)⟩
theorem greatest_yes (v:Value) (N:Nat) (w:World) (hs:IsSet w v N) (h0:N≠0) :
  Calls Tryz.prog 152 #[.agg #[v]] w fun e w'=>e=.returned (.tuple #[.int .i64 N.log2,.bool true])∧Below w.heap.size w w':=by
 obtain ⟨A,c,rfl,hN,hNc,_,h4⟩:=id hs
 have hn0:0 < nw N:=Nat.pos_of_ne_zero fun h=>h0 (nw_eq_zero.1 h)
 obtain ⟨g,cs,rfl,hg,hcs⟩:=h4 hn0
 obtain ⟨m,hm⟩:∃ m,nw N=m+1:=⟨nw N-1,by omega⟩
 have htop:=top_log N h0
 rw [hm,Nat.add_sub_cancel] at htop
 have hcell:=hcs m (by omega)
 have hbl:Lib.bitLen (wd N m)≤64:=Lib.bitLen_le (wd N m) 64 (by omega) (wd_lt _ _)
 have hbp:0 < Lib.bitLen (wd N m):=by
  show 0 < Lib.bitLenAux 64 _
  have hne:wd N m≠0:=by have:=wd_top hn0;rwa [hm,Nat.add_sub_cancel] at this
  rw [bitLenAux_eq 64 _ (wd_lt _ _),if_neg hne];omega
 have HLEN:=hideC (fun W=>Tryz.bits_Len64 (wd N m) W (by omega) (by have:=wd_lt N m;omega))
 obtain ⟨bl,hble⟩:∃ bl,bl=Lib.bitLen (wd N m):=⟨_,rfl⟩
 rw [← hble] at htop hbl hbp
 clear h4 hcs
 have HTOP:=Lib.hid htop;clear htop
 rw [hm]
 go_enter Tryz.func152,Tryz.ntmps152
 go_wp2_with fail
 refine absC1 fun W0 hA0 hbel0 hz=>?_
 have hset:=hs.below hbel0
 rw [hm] at hset
 refine (empty_any _ N _ hset).mono ?_
 rw [decide_eq_false h0]
 rintro e w1 ⟨rfl,hb1⟩
 have cA:=onB hb1 (hA0.cell 0)
 have hbw:=hbel0.trans (hb1.mono hbel0.size)
 have cg:=((hg.below hbw hg.lt).cell m).trans hcell
 have hm64:m < 64:=by omega
 clear hm hn0 hNc hN
 go_wp2_with fail
 refine (HLEN.out _).mono ?_
 rintro e w2 ⟨rfl,rfl⟩
 rw [Int.toNat_natCast]
 rw [hble] at hbl hbp
 have e9:(64:Int)*(m:Int)+((Lib.bitLen (wd N m):Nat):Int)-1=(N.log2:Int):=by have:=HTOP.out;omega
 go_wp2_with fail
 go_ret2
 exact ⟨by first | rfl | rw [e9],hbw⟩
theorem run_eql_some_nil {P:Program} {t e:TypeId} (h:P.underlying t=some (.slice e)) (a:Addr) (l c:Nat) (w:World):(binOp .eql t (.slice (some a) l c) (.slice none 0 0)).run P w=.ok (.bool false) w:=by
 simp only [binOp]
 simp [run_equal_slice_nil w t e (some a) l c h]
abbrev refV (C:Nat) (A:Option Addr) (R c:Nat):Value:=.agg #[.int .i64 (C:Int),.slice A R c]
def mget (M:List (List Bool)) (i j:Nat):Bool:=(M.getD i []).getD j false
def IsRef (w:World) (C:Nat) (A:Option Addr) (M:List (List Bool)):Prop :=
 C≤4096∧M.length≤4096∧∃ vs:List Value,vs.length=M.length∧Row w A vs∧∀ (i:Nat) r,M[i]?=some r→r.length=C∧∃ B d,vs[i]?=some (.slice B C d)∧Row w B (r.map .bool)
theorem IsRef.below {w w':World} {C:Nat} {A:Option Addr} {M:List (List Bool)} (h:IsRef w C A M) (hb:Below w.heap.size w w'):IsRef w' C A M:=by
 obtain ⟨h1,h2,vs,h3,h4,h5⟩:=h
 refine ⟨h1,h2,vs,h3,h4.below hb,fun i r hr=>?_⟩
 obtain ⟨h6,B,d,h7,h8⟩:=h5 i r hr
 exact ⟨h6,B,d,h7,h8.below hb⟩
theorem IsRef.row {w:World} {C:Nat} {A:Option Addr} {M:List (List Bool)} (h:IsRef w C A M) {i:Nat} (hi:i < M.length) :
  ∃ g off B d,A=some ⟨g,off,none⟩∧g < w.heap.size∧w.cell? ⟨g,off+i,none⟩=some (.slice B C d)∧Row w B (M[i].map .bool)∧M[i].length=C:=by
 obtain ⟨_,_,vs,h3,h4,h5⟩:=h
 obtain ⟨h6,B,d,h7,h8⟩:=h5 i M[i] (List.getElem?_eq_getElem hi)
 obtain ⟨g,off,hA,hg,hc⟩:=h4 (by omega)
 exact ⟨g,off,B,d,hA,hg,hc i _ h7,h8,h6⟩
theorem IsRef.at_ {w:World} {C:Nat} {A:Option Addr} {M:List (List Bool)} (h:IsRef w C A M) {i j:Nat} (hi:i < M.length) (hj:j < C) :
  ∃ g off g2 off2 d,A=some ⟨g,off,none⟩∧g < w.heap.size∧g2 < w.heap.size∧w.cell? ⟨g,off+i,none⟩=some (.slice (some ⟨g2,off2,none⟩) C d)∧w.cell? ⟨g2,off2+j,none⟩=some (.bool (mget M i j)):=by
 obtain ⟨g,off,B,d,hA,hg,hc,hr,hl⟩:=h.row hi
 obtain ⟨g2,off2,rfl,hg2,hc2⟩:=hr (by simp;omega)
 refine ⟨g,off,g2,off2,d,hA,hg,hg2,hc,hc2 j _ ?_⟩
 have hj':j < M[i].length:=by omega
 rw [List.getElem?_map,List.getElem?_eq_getElem hj',Option.map_some]
 simp only [mget,List.getD_eq_getElem?_getD,List.getElem?_eq_getElem hi,Option.getD_some,List.getElem?_eq_getElem hj']
def hasR (C:Nat) (M:List (List Bool)) (i j:Int):Bool:=insideB M.length C i j&&mget M i.toNat j.toNat
theorem hasr_any (C:Nat) (A:Option Addr) (c:Nat) (M:List (List Bool)) (i j:Int) (w:World) (h:IsRef w C A M) :
  Calls Tryz.prog 73 #[refV C A M.length c,.int .i64 i,.int .i64 j] w fun e w'=>e=.returned (.bool (hasR C M i j))∧Below w.heap.size w w':=by
 have hb:=(Below.refl w.heap.size w).alloc (Nat.le_refl _) (.cells #[.int .i64 (C:Int),.slice A M.length c] 28)
 unfold hasR
 by_cases h1:0≤i
 ·by_cases h2:i < M.length
  ·by_cases h3:0≤j
   ·by_cases h4:j < C
    ·obtain ⟨I,rfl⟩:=Int.eq_ofNat_of_zero_le h1
     obtain ⟨J,rfl⟩:=Int.eq_ofNat_of_zero_le h3
     obtain ⟨g,off,g2,off2,d,rfl,hg,hg2,c1,c2⟩:=h.at_ (i:=I) (j:=J) (by omega) (by omega)
     have hin:insideB M.length C I J=true:=by unfold insideB;rw [decide_eq_true_eq];omega
     rw [hin,Bool.true_and,Int.toNat_natCast,Int.toNat_natCast]
     clear h hin
     go_enter Tryz.func73,Tryz.ntmps73
     go_wp2
     go_ret
     exact ⟨rfl,hb⟩
    ·have hin:insideB M.length C i j=false:=by unfold insideB;rw [decide_eq_false_iff_not];omega
     rw [hin,Bool.false_and]
     clear h hin
     go_enter Tryz.func73,Tryz.ntmps73
     go_wp2
     go_ret
     exact ⟨rfl,hb⟩
   ·have hin:insideB M.length C i j=false:=by unfold insideB;rw [decide_eq_false_iff_not];omega
    rw [hin,Bool.false_and]
    clear h hin
    go_enter Tryz.func73,Tryz.ntmps73
    go_wp2
    go_ret
    exact ⟨rfl,hb⟩
  ·have hin:insideB M.length C i j=false:=by unfold insideB;rw [decide_eq_false_iff_not];omega
   rw [hin,Bool.false_and]
   clear h hin
   go_enter Tryz.func73,Tryz.ntmps73
   go_wp2
   go_ret
   exact ⟨rfl,hb⟩
 ·have hin:insideB M.length C i j=false:=by unfold insideB;rw [decide_eq_false_iff_not];omega
  rw [hin,Bool.false_and]
  clear h hin
  go_enter Tryz.func73,Tryz.ntmps73
  go_wp2
  go_ret
  exact ⟨rfl,hb⟩
def rowTo (C:Nat) (M:List (List Bool)) (i:Int) (k:Nat):List Nat:=(List.range k).filter fun j=>hasR C M i j
theorem rowTo_yes {C:Nat} {M:List (List Bool)} {i:Int} {k:Nat} (h:hasR C M i k=true):rowTo C M i (k+1)=rowTo C M i k ++ [k]:=by simp [rowTo,List.range_succ,h]
theorem rowTo_no {C:Nat} {M:List (List Bool)} {i:Int} {k:Nat} (h:hasR C M i k=false):rowTo C M i (k+1)=rowTo C M i k:=by simp [rowTo,List.range_succ,h]
theorem rowTo_len (C:Nat) (M:List (List Bool)) (i:Int) (k:Nat):(rowTo C M i k).length≤k:=by unfold rowTo;exact Nat.le_trans (List.length_filter_le _ _) (by simp)
theorem rowr_any (C:Nat) (A:Option Addr) (c:Nat) (M:List (List Bool)) (i:Int) (w:World) (h:IsRef w C A M) :
  Calls Tryz.prog 26 #[refV C A M.length c,.int .i64 i] w fun e w'=>∃ B d,e=.returned (.slice B (rowTo C M i C).length d)∧(rowTo C M i C).length≤d∧Row w' B ((rowTo C M i C).map i64)∧Below w.heap.size w w':=by
 obtain ⟨i0,hi0,hz0,hz1,hz2⟩:=info_parts info_int
 have hC:C≤4096:=h.1
 go_enter Tryz.func26,Tryz.ntmps26
 go_wp2_with fail
 refine abs1 fun W0 hX0 hbel0 hz=>?_
 have HZ:=Lib.hid hz;clear hz
 go_loopw [5,6] (fun l j wr=>∃ k:Nat,k≤C∧j=.int .i64 k∧wr.ownsRow (w.heap.size+1) 3 1 l (rowTo C M i k).length ((rowTo C M i k).map i64)∧Below (w.heap.size+1) W0 wr) (fun _ j _=>C-(intOf j).toNat)
 case atStart=>exact ⟨0,Nat.zero_le _,rfl,World.ownsRow_nil _ _ _ _,Below.refl _ _⟩
 case round =>
  obtain ⟨k,hk,rfl,hown,hbel⟩:=hrel
  have hX:=hX0.below hbel (by omega)
  have x0:=hX.cell 0
  have x1:=hX.cell 1
  have hbw:Below w.heap.size w wr:=hbel0.trans (hbel.mono (by omega))
  have hrl:=rowTo_len C M i k
  by_cases hlt:k < C
  ·have hcall:=hasr_any C A c M i k wr (h.below hbw)
   cases hh:hasR C M i k with
   | true =>
    rw [hh] at hcall
    have HC:=hideC hcall;clear hcall
    have HS:=Lib.hid (rowTo_yes hh);clear hh
    go_wp2_with fail
    refine HC.out.mono ?_
    rintro e w2 ⟨rfl,hb2⟩
    have hown2:=(own_below hown hb2).alloc (.cells #[.int .i64 (k:Int)] 3)
    have hsz:=hbel.size
    have hsz2:=hb2.size
    have hbel2:Below (w.heap.size+1) W0 w2:=hbel.trans (hb2.mono (by have:=HZ.out;omega))
    have hzz:=HZ.out
    go_wp2_with (at_builtin;refine wpList_append_own _ rfl _ _ 78 rfl (w.heap.size+1) 3 i0 (.int .i64 0) 1 8 Tryz.underlying78 hi0 hz0 hz1 hz2 rfl (by decide) _ _ _ rfl (hown2) ⟨w2.heap.size,0,none⟩ 1 1 [.int .i64 k] rfl rfl (cell_one_new _ _ _) (by simp [Value.oneCell']) (by unfold maxLen;omega) (by omega) (by simp;omega) ?_;intro v' w3 hown' hgrow _)
    exact ⟨⟨k+1,by omega,by go_num,by rw [HS.out];simpa using hown',(hbel2.alloc (by omega) _).grown hgrow (by simp;omega) (fun q hq=>(hown2.lt q hq).1)⟩,by simp [intOf];omega⟩
   | false =>
    rw [hh] at hcall
    have HC:=hideC hcall;clear hcall
    have HS:=Lib.hid (rowTo_no hh);clear hh
    go_wp2_with fail
    refine HC.out.mono ?_
    rintro e w2 ⟨rfl,hb2⟩
    go_wp2_with fail
    exact ⟨⟨k+1,by omega,by go_num,by rw [HS.out];exact own_below hown hb2,hbel.trans (hb2.mono (by have:=HZ.out;have:=hbel.size;omega))⟩,by simp [intOf];omega⟩
  ·obtain rfl:k=C:=by omega
   obtain ⟨B,d,rfl,h1,_,h2,_⟩:=row_of_own hown
   go_wp2_with fail
   go_ret
   exact ⟨B,d,rfl,h1,h2,hbw⟩
def mat (R C:Nat) (f:Nat→Nat→Bool):List (List Bool):=(List.range R).map fun i=>(List.range C).map fun j=>f i j
theorem mat_len (R C:Nat) (f:Nat→Nat→Bool):(mat R C f).length=R:=by simp [mat]
theorem info_bool:(Tryz.prog.info? 4).map (fun i=>(i.zero,i.size,i.bytes))=some (some (.bool false),1,1):=by kernel_rfl
theorem info_bools:(Tryz.prog.info? 77).map (fun i=>(i.zero,i.size,i.bytes))=some (some (.slice none 0 0),1,24):=by kernel_rfl
def OwnRows (W:World) (base C:Nat) (gs:List Nat) (f:Nat→Nat→Bool):Prop :=
 gs.Nodup∧(∀ g∈gs,base≤g)∧∀ (i:Nat) g,gs[i]?=some g→Blk W g 4 ((List.range C).map fun j=>Value.bool (f i j)).toArray
def hdrs (C:Nat) (gs:List Nat):List Value:=gs.map fun g=>.slice (some ⟨g,0,none⟩) C C
def OwnRef (W:World) (base C:Nat) (v:Value) (gs:List Nat) (f:Nat→Nat→Bool):Prop :=
 W.ownsRow base 77 1 v gs.length (hdrs C gs)∧OwnRows W base C gs f
section
variable {W W':World} {base C:Nat} {gs:List Nat} {f:Nat→Nat→Bool} {v:Value}
theorem OwnRows.below (h:OwnRows W base C gs f) (hb:Below W.heap.size W W'):OwnRows W' base C gs f:=⟨h.1,h.2.1,fun i g hg=>(h.2.2 i g hg).below hb (h.2.2 i g hg).lt⟩
theorem OwnRef.below (h:OwnRef W base C v gs f) (hb:Below W.heap.size W W'):OwnRef W' base C v gs f:=⟨own_below h.1 hb,h.2.below hb⟩
theorem OwnRef.ref (h:OwnRef W base C v gs f) (hC:C≤4096) (hR:gs.length≤4096):∃ A c,v=.slice A gs.length c∧gs.length≤c∧IsRef W C A (mat gs.length C f):=by
 obtain ⟨A,c,hv,h1,_,h2,_⟩:=row_of_own h.1
 refine ⟨A,c,hv,h1,hC,by rw [mat_len];exact hR,hdrs C gs,by simp [hdrs,mat],h2,fun i r hr=>?_⟩
 have hi:i < gs.length:=by have:=(List.getElem?_eq_some_iff.1 hr).1;rwa [mat_len] at this
 have hr':r=(List.range C).map fun j=>f i j:=by
  unfold mat at hr
  rw [List.getElem?_map,List.getElem?_range hi] at hr
  simpa using hr.symm
 subst hr'
 refine ⟨by simp,some ⟨gs[i],0,none⟩,C,by unfold hdrs;rw [List.getElem?_map,List.getElem?_eq_getElem hi];rfl,?_⟩
 refine Row.of_blk (h.2.2.2 i gs[i] (List.getElem?_eq_getElem hi)) fun k u hu=>?_
 rw [List.getElem?_toArray]
 rw [List.map_map] at hu
 exact hu
theorem OwnRows.set_ (h:OwnRows W base C gs f) {i j g:Nat} (hg:gs[i]?=some g) (b:Bool) :
  OwnRows (W.setCell ⟨g,j,none⟩ (.bool b)) base C gs (fun x y=>if x=i∧y=j then b else f x y):=by
 refine ⟨h.1,h.2.1,fun i' g' hg'=>?_⟩
 by_cases e:i'=i
 ·subst e
  rw [hg] at hg';cases hg'
  have:=(h.2.2 i' g hg).set_ j (.bool b)
  have e2:((List.range C).map fun y=>Value.bool (f i' y)).toArray.setIfInBounds j (.bool b)=((List.range C).map fun y=>Value.bool (if i'=i'∧y=j then b else f i' y)).toArray:=by
   apply Array.ext_getElem?
   intro k
   rw [Array.getElem?_setIfInBounds]
   by_cases hk:k < C
   ·by_cases hjk:j=k
    ·subst hjk;simp [hk]
    ·rw [if_neg hjk];simp [hk,show ¬ k=j from fun e=>hjk e.symm]
   ·rw [List.getElem?_toArray,List.getElem?_toArray,List.getElem?_eq_none (by simp;omega),List.getElem?_eq_none (by simp;omega)]
    split
    ·rename_i hh;rw [if_neg (by simp;omega)]
    ·rfl
  rw [e2] at this
  exact this
 ·have hne:g'≠g:=fun eg=>by
   subst eg
   have hi:=(List.getElem?_eq_some_iff.1 hg)
   have hi':=(List.getElem?_eq_some_iff.1 hg')
   obtain ⟨a1,a2⟩:=hi
   obtain ⟨b1,b2⟩:=hi'
   exact e ((List.getElem_inj h.1).1 (b2.trans a2.symm))
  have:=(h.2.2 i' g' hg').far (p:=⟨g,j,none⟩) hne (.bool b)
  simpa [e] using this
end
theorem OwnRows.but {W W':World} {base C:Nat} {gs:List Nat} {f:Nat→Nat→Bool} {r:Option Nat} (h:OwnRows W base C gs f) (hb:But r W W') (hr:∀ g cs,Blk W g 4 cs→some g≠r):OwnRows W' base C gs f :=
 ⟨h.1,h.2.1,fun i g hg=>hb.blk (h.2.2 i g hg) (hr g _ (h.2.2 i g hg))⟩
theorem OwnRows.snoc {W:World} {base C:Nat} {gs:List Nat} {f:Nat→Nat→Bool} {g:Nat} (h:OwnRows W base C gs f) (hg:base≤g) (hn:g ∉ gs) (hb:Blk W g 4 ((List.range C).map fun j=>Value.bool (f gs.length j)).toArray):OwnRows W base C (gs ++ [g]) f:=by
 refine ⟨?_,fun q hq=>?_,fun i q hq=>?_⟩
 ·rw [List.nodup_append]
  refine ⟨h.1,by simp,?_⟩
  intro a ha b hb2
  rw [List.mem_singleton] at hb2
  subst hb2
  exact fun e=>hn (e▸ha)
 ·rcases List.mem_append.1 hq with h2 | h2
  ·exact h.2.1 q h2
  ·rw [List.mem_singleton.1 h2];exact hg
 ·by_cases hi:i < gs.length
  ·rw [List.getElem?_append_left hi] at hq
   exact h.2.2 i q hq
  ·rw [List.getElem?_append_right (by omega)] at hq
   have hi2:i=gs.length:=by
    have:=(List.getElem?_eq_some_iff.1 hq).1
    simp at this;omega
   subst hi2
   rw [Nat.sub_self] at hq
   simp at hq
   subst hq
   exact hb
theorem OwnRef.far {W:World} {base C:Nat} {v:Value} {gs:List Nat} {f:Nat→Nat→Bool} (h:OwnRef W base C v gs f) {b:Nat} {t:TypeId} {cs:Array Value} (hB:Blk W b t cs) (h1:t≠77) (h2:t≠4) (i:Nat) (u:Value):OwnRef (W.setCell ⟨b,i,none⟩ u) base C v gs f:=by
 refine ⟨?_,h.2.but (But.setCell _ _ _) (fun g cs hb e=>by cases e;exact hb.ne_ hB (fun e=>h2 e.symm) rfl)⟩
 exact ownsRow_setCell_other h.1 (a:=⟨b,i,none⟩) (fun e=>own_ne h.1 hB h1 e.symm) u
theorem zeros_bools (C:Nat):zeros (.bool false) C=((List.range C).map fun _=>Value.bool false).toArray:=by
 unfold zeros
 apply Array.ext
 ·simp
 ·intro i h1 h2;simp
theorem hdrs_snoc (C:Nat) (gs:List Nat) (g:Nat):hdrs C (gs ++ [g])=hdrs C gs ++ [.slice (some ⟨g,0,none⟩) C C]:=by simp [hdrs]
theorem newr_any (R C:Nat) (w:World) (hR:R≤4096) (hC:C≤4096) :
  Calls Tryz.prog 24 #[.int .i64 R,.int .i64 C] w fun e w'=>∃ A c gs,e=.returned (refV C A R c)∧gs.length=R∧OwnRef w' w.heap.size C (.slice A R c) gs (fun _ _=>false)∧Below w.heap.size w w':=by
 obtain ⟨i0,hi0,hz0,hz1,hz2⟩:=info_parts info_bools
 have hmk:=fun W=>make_run (P:=Tryz.prog) 77 4 _ 1 Tryz.underlying77 info_bool rfl C (by omega) (by omega) W
 go_enter Tryz.func24,Tryz.ntmps24
 go_wp2_with fail
 refine abs2 fun W0 hX0 hY0 hbel0 hz=>?_
 have HZ:=Lib.hid hz;clear hz
 go_loopw [6] (fun i wr=>∃ k:Nat,k≤R∧i=.int .i64 k∧Blk wr w.heap.size 28 #[.int .i64 0,.slice none 0 0]∧(∃ v gs,gs.length=k∧Blk wr (w.heap.size+1) 28 #[.int .i64 (C:Int),v]∧OwnRef wr w.heap.size C v gs (fun _ _=>false))∧Below w.heap.size w wr) (fun i _=>R-(intOf i).toNat)
 case atStart=>exact ⟨0,Nat.zero_le _,rfl,hX0,⟨_,[],rfl,hY0,World.ownsRow_nil _ _ _ _,List.nodup_nil,fun g h=>(by cases h),fun i g h=>(by simp at h)⟩,hbel0⟩
 case round =>
  obtain ⟨k,hk,rfl,hX,⟨v,gs,hgk,hY,hO⟩,hbel⟩:=hrel
  by_cases hlt:k < R
  ·have y0:=hY.cell 0
   have y1:=hY.cell 1
   have nY:some (w.heap.size+1)≠v.ownBlock:=own_ne hO.1 hY (by decide)
   have hsz:=hbel.size
   go_wp2_with fail
   refine wp_spine (fun V=>But v.ownBlock wr V) [0,1,2] [3,4,5,6,7] (by kernel_rfl) (by kernel_rfl) ?_
   iterate 3 (refine wpE_op (v:=?_) rfl rfl (fun W hW=>?_) ?_;rotate_left;(have x1:=hW.on y1 nY;go_simp;first | done | with_reducible rfl);simp only [pt1,pt3,pt4,pt5])
   refine wpE_nil ⟨fun h=>(by cases h),wpSp_op rfl ((But.refl _ _).below (Below.refl _ _).drew) ?_⟩
   go_wp2_with fail
   have ha1:Below wr.heap.size wr (wr.alloc (.cells (zeros (.bool false) C) 4)).drew:=((Below.refl _ _).alloc (Nat.le_refl _) _).drew
   have hblkN:Blk (wr.alloc (.cells (zeros (.bool false) C) 4)).drew wr.heap.size 4 ((List.range C).map fun _=>Value.bool false).toArray:=by rw [← zeros_bools];exact Blk.new _ _ _
   have hO1:=hO.below ha1
   have hY1:=hY.below ha1 hY.lt
   have hX1:=hX.below ha1 hX.lt
   have hz1':(wr.alloc (.cells (zeros (.bool false) C) 4)).drew.heap.size=wr.heap.size+1:=by simp
   obtain ⟨Wa,hWa⟩:∃ Wa,Wa=(wr.alloc (.cells (zeros (.bool false) C) 4)).drew:=⟨_,rfl⟩
   rw [← hWa] at ha1 hblkN hO1 hY1 hX1 hz1' ⊢
   clear hWa
   have hza:wr.heap.size≤Wa.heap.size:=by omega
   clear hz1'
   refine nxt_op rfl (.of_below ha1) ?_
   go_wp2_with fail
   have ha2:=(Below.refl Wa.heap.size Wa).alloc (Nat.le_refl _) (.cells #[.slice (some ⟨wr.heap.size,0,none⟩) C C] 77)
   have hO2:=hO1.below ha2
   have hY2:=hY1.below ha2 hY1.lt
   have hX2:=hX1.below ha2 hX1.lt
   have hN2:=hblkN.below ha2 hblkN.lt
   have hown2:=hO2.1
   rw [hgk] at hown2
   refine nxt_op rfl ((But.of_below ha1).below ha2) ?_
   go_wp2_with (at_builtin;refine wpList_append_own _ rfl _ _ 26 rfl (w.heap.size) 77 i0 (.slice none 0 0) 1 24 Tryz.underlying26 hi0 hz0 hz1 hz2 rfl (by decide) _ _ _ rfl (hown2) ⟨Wa.heap.size,0,none⟩ 1 1 [.slice (some ⟨wr.heap.size,0,none⟩) C C] rfl rfl (cell_one_new _ _ _) (by simp [Value.oneCell']) (by unfold maxLen;omega) (by omega) (by simp;omega) ?_;intro v' w3 hown' hgrow _)
   obtain ⟨g5,cap5,rfl⟩:=ownsRow_succ hown'
   have hbut3:=(But.of_below ha2 (r:=v.ownBlock)).trans (But.grown hgrow)
   have hbut5:=(But.of_below ha1).trans hbut3
   have y03:=hbut5.on y0 nY
   have y13:=hbut5.on y1 nY
   have f13:=hbut5.frozen y1 (hY.frozen 1) nY
   have hY3:=hbut5.blk hY nY
   have hX3:=hbut5.blk hX (own_ne hO.1 hX (by decide))
   have hNne:∀ g cs,Blk (Wa.alloc (.cells #[.slice (some ⟨wr.heap.size,0,none⟩) C C] 77)) g 4 cs→some g≠v.ownBlock:=fun g cs hb=>own_ne hO2.1 hb (by decide)
   have hR3:=(hO2.2.but (But.grown hgrow) hNne).snoc (g:=wr.heap.size) (by omega) (fun hm=>by
    obtain ⟨i,hi,e⟩:=List.getElem_of_mem hm
    have:=(hO.2.2.2 i wr.heap.size (by rw [← e];exact List.getElem?_eq_getElem hi)).lt
    omega) ((But.grown hgrow).blk hN2 (hNne _ _ hN2))
   have hbe3:=((hbel.trans (ha1.mono hbel.size)).trans (ha2.mono (by omega))).grown hgrow (by simp;omega) (fun q hq=>(hO2.1.lt q hq).1)
   refine nxt_op rfl hbut5 ?_
   go_wp2_with fail
   refine nxt_op rfl hbut5 ?_
   go_wp2_with fail
   refine nxt_nil ?_
   go_wp2_with fail
   have hne5:=own_ne hown' hY3 (by decide)
   have hown5:=ownsRow_setCell_other hown' (a:=⟨w.heap.size+1,1,none⟩) (fun e=>hne5 e.symm) (.slice (some ⟨g5,0,none⟩) (k+1) cap5)
   have hR5:OwnRows (w3.setCell ⟨w.heap.size+1,1,none⟩ (.slice (some ⟨g5,0,none⟩) (k+1) cap5)) w.heap.size C (gs ++ [wr.heap.size]) (fun _ _=>false) :=
    hR3.but (But.setCell _ _ _) (fun g cs hb e=>by cases e;exact hb.ne_ hY3 (by decide) rfl)
   refine ⟨⟨k+1,by omega,by go_num,hX3.far (p:=⟨w.heap.size+1,1,none⟩) (by simp) _,⟨_,gs ++ [wr.heap.size],by simp [hgk],hY3.set_ 1 _,?_,hR5⟩,hbe3.setCell (by simp) _⟩,by simp [intOf];omega⟩
   rw [hdrs_snoc]
   simpa [hgk] using hown5
  ·obtain rfl:k=R:=by omega
   have y0:=hY.cell 0
   have y1:=hY.cell 1
   have x0:=hX.cell 0
   have x1:=hX.cell 1
   have fx0:=hX.frozen 0
   have fx1:=hX.frozen 1
   obtain ⟨A,c,rfl,_,_,_,_⟩:=row_of_own hO.1
   rw [hgk] at hO hY
   go_wp2_with fail
   have hE:=(hX.set_ 0 (.int .i64 (C:Int))).set_ 1 (.slice A k c)
   have hOE:=(hO.far hX (by decide) (by decide) 0 (.int .i64 (C:Int))).far (hX.set_ 0 (.int .i64 (C:Int))) (by decide) (by decide) 1 (.slice A k c)
   have cX:=hE.cell 0
   have cY:=hE.cell 1
   refine bodyPost_ret (v:=refV C A k c) (by simp [results,Tryz.results24,go_sem,cX,cY]) rfl ⟨A,c,gs,rfl,hgk,hOE,?_⟩
   exact (hbel.setCell (by simp) _).setCell (by simp) _
def bitB (zs:List Int) (k:Nat):Bool:=decide (k/8 < zs.length)&&decide ((zs.getD (k/8) 0)/2 ^ (k%8)%2=1)
theorem bit_any (A:Option Addr) (c:Nat) (zs:List Int) (k:Nat) (w:World) (hr:Row w A (zs.map (.int .u8))) (hz:∀ z∈zs,0≤z∧z≤255) (hk:k≤1000000) (hl:zs.length≤maxLen) :
  Calls Tryz.prog 25 #[.slice A zs.length c,.int .i64 k] w fun e w'=>e=.returned (.bool (bitB zs k))∧w=w':=by
 unfold maxLen at hl
 by_cases h:k/8 < zs.length
 ·obtain ⟨g,off,rfl,hg,hc⟩:=hr (by simp;omega)
  have hc1:=hc (k/8) (.int .u8 (zs.getD (k/8) 0)) (by
   rw [List.getElem?_map,List.getElem?_eq_getElem h,List.getD_eq_getElem?_getD,List.getElem?_eq_getElem h];rfl)
  have hb:=hz (zs.getD (k/8) 0) (by rw [List.getD_eq_getElem?_getD,List.getElem?_eq_getElem h];exact List.getElem_mem h)
  obtain ⟨b1,b2⟩:=hb
  have e:bitB zs k=decide ((zs.getD (k/8) 0)/2 ^ (k%8)%2=1):=by unfold bitB;rw [decide_eq_true h,Bool.true_and]
  rw [e]
  clear hc hz e
  obtain ⟨z,hz⟩:∃ z,z=zs.getD (k/8) 0:=⟨_,rfl⟩
  rw [← hz] at hc1 b1 b2 ⊢
  clear hz
  go_enter Tryz.func25,Tryz.ntmps25
  go_wp2
  go_ret
  refine ⟨ret_bool ?_,rfl⟩
  rw [Int.tmod_eq_emod_of_nonneg (Int.ediv_nonneg b1 (Int.le_of_lt (Int.pow_pos (by decide)))),Bool.eq_iff_iff,beq_iff_eq,decide_eq_true_eq]
 ·have e:bitB zs k=false:=by unfold bitB;rw [decide_eq_false h,Bool.false_and]
  rw [e]
  clear e hr hz
  go_enter Tryz.func25,Tryz.ntmps25
  go_wp2
  go_ret
  exact ⟨rfl,rfl⟩
def part (k n:Nat) (T:Nat→Nat→Bool) (i j:Nat):Bool:=if i < k∨(i=k∧j < n) then T i j else false
theorem part_zero (T:Nat→Nat→Bool):part 0 0 T=fun _ _=>false:=by
 funext i j;unfold part;rw [if_neg (by omega)]
theorem part_step (k n:Nat) (T:Nat→Nat→Bool):(fun x y=>if x=k∧y=n then T k n else part k n T x y)=part k (n+1) T:=by
 funext i j
 unfold part
 by_cases h:i=k∧j=n
 ·rw [if_pos h,if_pos (by omega)];rw [h.1,h.2]
 ·rw [if_neg h]
  by_cases h2:i < k∨(i=k∧j < n)
  ·rw [if_pos h2,if_pos (by omega)]
  ·rw [if_neg h2,if_neg (by omega)]
section
variable {W W':World} {base C:Nat} {gs:List Nat} {f f':Nat→Nat→Bool} {v:Value}
theorem OwnRows.congr (h:OwnRows W base C gs f) (he:∀ i,i < gs.length→∀ j,j < C→f i j=f' i j):OwnRows W base C gs f':=by
 refine ⟨h.1,h.2.1,fun i g hg=>?_⟩
 have hi:i < gs.length:=(List.getElem?_eq_some_iff.1 hg).1
 have:=h.2.2 i g hg
 have e:(List.range C).map (fun j=>Value.bool (f i j))=(List.range C).map (fun j=>Value.bool (f' i j)):=List.map_congr_left fun j hj=>by rw [he i hi j (List.mem_range.1 hj)]
 rwa [e] at this
theorem OwnRef.congr (h:OwnRef W base C v gs f) (he:∀ i,i < gs.length→∀ j,j < C→f i j=f' i j):OwnRef W base C v gs f':=⟨h.1,h.2.congr he⟩
theorem OwnRef.row_done {T:Nat→Nat→Bool} {k:Nat} (h:OwnRef W base C v gs (part k C T)):OwnRef W base C v gs (part (k+1) 0 T) :=
 h.congr fun i _ j hj=>by
  unfold part
  by_cases h2:i < k∨(i=k∧j < C)
  ·rw [if_pos h2,if_pos (by omega)]
  ·rw [if_neg h2,if_neg (by omega)]
theorem OwnRef.all_done {T:Nat→Nat→Bool} (h:OwnRef W base C v gs (part gs.length 0 T)):OwnRef W base C v gs T :=
 h.congr fun i hi j _=>by unfold part;rw [if_pos (by omega)]
theorem OwnRef.at_ {A:Option Addr} {c:Nat} (h:OwnRef W base C (.slice A gs.length c) gs f) {i:Nat} (hi:i < gs.length) :
  ∃ g off,A=some ⟨g,off,none⟩∧g < W.heap.size∧W.cell? ⟨g,off+i,none⟩=some (.slice (some ⟨gs[i],0,none⟩) C C)∧Blk W gs[i] 4 ((List.range C).map fun j=>Value.bool (f i j)).toArray∧base≤gs[i]:=by
 obtain ⟨A',c',hv,_,_,h2,_⟩:=row_of_own h.1
 cases hv
 obtain ⟨g,off,rfl,hg,hc⟩:=h2 (by simp [hdrs];omega)
 refine ⟨g,off,rfl,hg,hc i _ ?_,h.2.2.2 i _ (List.getElem?_eq_getElem hi),h.2.2.1 _ (List.getElem_mem hi)⟩
 unfold hdrs
 rw [List.getElem?_map,List.getElem?_eq_getElem hi];rfl
theorem bools_get {C j:Nat} (hj:j < C) (F:Nat→Bool):(((List.range C).map fun y=>Value.bool (F y)).toArray)[j]?=some (.bool (F j)):=by
 simp [hj]
theorem OwnRef.put {v:Value} (h:OwnRef W base C v gs f) {i j:Nat} (hi:i < gs.length) (b:Bool):OwnRef (W.setCell ⟨gs[i],j,none⟩ (.bool b)) base C v gs (fun x y=>if x=i∧y=j then b else f x y):=by
 refine ⟨ownsRow_setCell_other h.1 (a:=⟨gs[i],j,none⟩) (fun e=>own_ne h.1 (h.2.2.2 i _ (List.getElem?_eq_getElem hi)) (by decide) e.symm) _,h.2.set_ (List.getElem?_eq_getElem hi) b⟩
end
def rawF (C:Nat) (zs:List Int) (i j:Nat):Bool:=bitB zs (C*i+j)
theorem maker_any (r c R C:Nat) (A:Option Addr) (d:Nat) (zs:List Int) (w:World) (hR:(r:Int)%6=R) (hC:(c:Int)%6=C) (hr1:r≤255) (hc1:c≤255) (hr:Row w A (zs.map (.int .u8))) (hz:∀ z∈zs,0≤z∧z≤255) (hl:zs.length≤maxLen) :
  Calls Tryz.prog 5 #[.agg #[.int .u8 r,.int .u8 c,.slice A zs.length d]] w fun e w'=>∃ A' c' gs,e=.returned (refV C A' R c')∧gs.length=R∧OwnRef w' w.heap.size C (.slice A' R c') gs (rawF C zs)∧Below w.heap.size w w':=by
 have hR5:R≤5:=by omega
 have hC5:C≤5:=by omega
 go_enter Tryz.func5,Tryz.ntmps5
 go_wp2_with fail
 refine absC2 fun W0 hX0 hY0 hbel0 hz0=>?_
 refine (newr_any R C W0 (by omega) (by omega)).mono ?_
 rintro e w1 ⟨A1,c1,gs,rfl,hgs,hO1,hb1⟩
 go_wp2_with fail
 refine abs1 fun W2 hM2 hb2 hz2=>?_
 have hX2:=(hX0.below hb1 hX0.lt).below hb2 (by have:=hb1.size;omega)
 have hY2:=(hY0.below hb1 hY0.lt).below hb2 (by have:=hb1.size;omega)
 have hO2:=hO1.below hb2
 have hbe2:Below w.heap.size w W2:=hbel0.trans ((hb1.trans (hb2.mono hb1.size)).mono (by omega))
 have hsz1:w.heap.size+2≤w1.heap.size:=by have:=hb1.size;omega
 subst hgs
 have HZ2:=Lib.hid hz2;have HZ0:=Lib.hid hz0;have HR:=Lib.hid hR;have HC:=Lib.hid hC;have HZS:=Lib.hid hz
 clear hz2 hz0 hR hC hz hX0 hY0 hO1 hbel0 hb1 hb2
 go_loopw [18] (fun i wr=>∃ k:Nat,k≤gs.length∧i=.int .i64 k∧Blk wr w.heap.size 24 #[.int .u8 r,.int .u8 c,.slice A zs.length d]∧Blk wr (w.heap.size+1) 28 #[.int .i64 0,.slice none 0 0] ∧
  Blk wr w1.heap.size 28 #[.int .i64 (C:Int),.slice A1 gs.length c1]∧OwnRef wr W0.heap.size C (.slice A1 gs.length c1) gs (part k 0 (rawF C zs))∧Below w.heap.size w wr) (fun i _=>gs.length-(intOf i).toNat)
 case atStart=>exact ⟨0,Nat.zero_le _,rfl,hX2,hY2,hM2,by rw [part_zero];exact hO2,hbe2⟩
 case round =>
  obtain ⟨k,hk,rfl,hX,hY,hM,hO,hbel⟩:=hrel
  clear hX2 hY2 hM2 hO2 hbe2
  by_cases hlt:k < gs.length
  ·have m1:=hM.cell 1
   have m0:=hM.cell 0
   go_wp2_with fail
   obtain ⟨wo,rfl⟩:∃ wo:World,wo=wr:=⟨_,rfl⟩
   go_loopw [5] (fun j wq=>∃ n:Nat,n≤C∧j=.int .i64 n∧Blk wq w.heap.size 24 #[.int .u8 r,.int .u8 c,.slice A zs.length d]∧Blk wq (w.heap.size+1) 28 #[.int .i64 0,.slice none 0 0] ∧
    Blk wq w1.heap.size 28 #[.int .i64 (C:Int),.slice A1 gs.length c1]∧OwnRef wq W0.heap.size C (.slice A1 gs.length c1) gs (part k n (rawF C zs))∧Below w.heap.size w wq) (fun j _=>C-(intOf j).toNat)
   case atStart=>exact ⟨0,Nat.zero_le _,rfl,hX,hY,hM,hO,hbel⟩
   case round =>
    clear hX hY hM hO hbel m0 m1
    obtain ⟨n,hn,rfl,hX,hY,hM,hO,hbel⟩:=hrel
    have m1:=hM.cell 1
    have m0:=hM.cell 0
    by_cases hnC:n < C
    ·have x2:=hX.cell 2
     obtain ⟨g,off,rfl,hg,h1,hB,hbase⟩:=hO.at_ hlt
     have hput:=hO.put (j:=n) hlt (rawF C zs k n)
     rw [part_step] at hput
     have b0:=(hB.cell n).trans (bools_get hnC _)
     have f0:=hB.frozen n
     have hw1:=hX.far (p:=⟨gs[k],n,none⟩) (hX.ne_ hB (by decide)) (.bool (rawF C zs k n))
     have hw2:=hY.far (p:=⟨gs[k],n,none⟩) (hY.ne_ hB (by decide)) (.bool (rawF C zs k n))
     have hw3:=hM.far (p:=⟨gs[k],n,none⟩) (hM.ne_ hB (by decide)) (.bool (rawF C zs k n))
     have hbw:=hbel.setCell (p:=⟨gs[k],n,none⟩) (by have:=HZ0.out;simp;omega) (.bool (rawF C zs k n))
     have HBIT:=hideC (bit_any A d zs (C*k+n) wr.drew (hr.below (hbel.drew)) HZS.out (by have:C*k≤5*5:=Nat.mul_le_mul hC5 (by omega);omega) hl)
     have q0:(0:Int)≤(C:Int)*k:=Int.mul_nonneg (by omega) (by omega)
     have q1:(C:Int)*k≤25:=by have:C*k≤5*5:=Nat.mul_le_mul hC5 (by omega);exact_mod_cast this
     clear hX hY hM hB hO
     generalize gs[k]=gk at *
     have e1:=i64w (x:=(C:Int)*k) ⟨by omega,by omega⟩
     have e2:=i64w (x:=(C:Int)*k+n) ⟨by omega,by omega⟩
     have HCAST:=Lib.hid (show ((C:Int)*k+n)=((C*k+n:Nat):Int) by push_cast;rfl)
     go_wp2_with fail
     refine wp_spine (fun W=>Below wr.heap.size wr W) [0,1,2,3,4,5,6,7,8,9,10,11,12,13] [14,15,16] (by kernel_rfl) (by kernel_rfl) ?_
     iterate 14 (refine wpE_op (v:=?_) rfl rfl (fun W hW=>?_) ?_;rotate_left;(have y1:=onB hW m1;have y2:=onB hW m0;have y3:=onB hW h1;have y4:=onB hW x2;go_simp;first | done | with_reducible rfl);simp only [pt1,pt3,pt4,pt5])
     clear e1 e2
     refine wpE_nil ⟨fun h=>(by cases h),wpSp_op rfl (Below.refl _ _).drew ?_⟩
     go_wp2_with fail
     rw [HCAST.out]
     refine HBIT.out.mono ?_
     rintro e w' ⟨rfl,rfl⟩
     go_wp2_with fail
     refine nxt_op rfl (Below.refl _ _).drew ?_
     go_wp2_with fail
     refine nxt_op rfl (Below.refl _ _).drew ?_
     go_wp2_with fail
     refine nxt_nil ?_
     go_wp2_with fail
     exact ⟨⟨n+1,by omega,by go_num,hw1.drew,hw2.drew,hw3.drew,hput.below (Below.refl _ _).drew,hbw.drew⟩,by simp [intOf];omega⟩
    ·obtain rfl:n=C:=by omega
     go_wp2_with fail
     exact ⟨⟨k+1,by omega,by go_num,hX,hY,hM,hO.row_done,hbel⟩,by simp [intOf];omega⟩
  ·obtain rfl:k=gs.length:=by omega
   have m0:=hM.cell 0
   have m1:=hM.cell 1
   have fy0:=hY.frozen 0
   have fy1:=hY.frozen 1
   have y0:=hY.cell 0
   have y1:=hY.cell 1
   have nM:=hM.lt
   go_wp2_with fail
   have hE:=(hY.set_ 0 (.int .i64 (C:Int))).set_ 1 (.slice A1 gs.length c1)
   have hOE:=(hO.all_done.far hY (by decide) (by decide) 0 (.int .i64 (C:Int))).far (hY.set_ 0 (.int .i64 (C:Int))) (by decide) (by decide) 1 (.slice A1 gs.length c1)
   have cX:=hE.cell 0
   have cY:=hE.cell 1
   have hbs:w.heap.size≤W0.heap.size:=by have:=HZ0.out;omega
   refine bodyPost_ret (v:=refV C A1 gs.length c1) (by simp [results,Tryz.results5,go_sem,cX,cY]) rfl ⟨A1,c1,gs,rfl,rfl,⟨?_,hOE.2.1,fun g hg=>Nat.le_trans hbs (hOE.2.2.1 g hg),hOE.2.2.2⟩,(hbel.setCell (by simp) _).setCell (by simp) _⟩
   exact hOE.1.mono hbs
section
variable {w W2 W W':World} {base C:Nat} {v:Value} {gs:List Nat} {f f':Nat→Nat→Bool}
end
def rowN (C:Nat) (M:List (List Bool)) (i:Nat):Nat:=setOf ((rowTo C M i C).map Int.ofNat)
def nsTo (C:Nat) (M:List (List Bool)) (k:Nat):List Nat:=(List.range k).map (rowN C M)
abbrev nsOf (C:Nat) (M:List (List Bool)):List Nat:=nsTo C M M.length
theorem nsTo_len (C:Nat) (M:List (List Bool)) (k:Nat):(nsTo C M k).length=k:=by simp [nsTo]
theorem nsTo_succ (C:Nat) (M:List (List Bool)) (k:Nat):nsTo C M (k+1)=nsTo C M k ++ [rowN C M k]:=by simp [nsTo,List.range_succ]
theorem hasR_nat (C:Nat) (M:List (List Bool)) (i j:Nat):hasR C M i j=(decide (i < M.length)&&decide (j < C)&&mget M i j):=by
 unfold hasR insideB
 by_cases h1:i < M.length <;> by_cases h2:j < C <;> simp [h1,h2]
theorem testBit_rowN (C:Nat) (M:List (List Bool)) (i j:Nat) (hC:C≤4096):(rowN C M i).testBit j=hasR C M i j:=by
 unfold rowN
 rw [testBit_setOf,Bool.eq_iff_iff,decide_eq_true_eq]
 constructor
 ·rintro ⟨_,h2⟩
  obtain ⟨x,hx,e⟩:=List.mem_map.1 h2
  have e':x=j:=Int.ofNat.inj e
  subst e'
  exact (List.mem_filter.1 hx).2
 ·intro h2
  have hj:j < C:=by
   rw [hasR_nat] at h2;simp at h2;omega
  exact ⟨by omega,List.mem_map.2 ⟨j,List.mem_filter.2 ⟨List.mem_range.2 hj,h2⟩,rfl⟩⟩
theorem nsOf_get {C:Nat} {M:List (List Bool)} {i k:Nat} (h:i < k):(nsTo C M k).getD i 0=rowN C M i:=by
 unfold nsTo;rw [List.getD_eq_getElem?_getD,List.getElem?_map,List.getElem?_range h];rfl
theorem rowsIn_nsOf (C:Nat) (M:List (List Bool)) (hC:C≤4096):rowsIn C (nsOf C M):=by
 intro k hk
 rw [nsTo_len] at hk
 rw [nsOf_get hk]
 apply Nat.eq_of_testBit_eq
 intro j
 rw [Nat.testBit_and,testBit_rowN _ _ _ _ hC,testBit_lowN,hasR_nat]
 by_cases h:j < C <;> simp [h]
theorem matrixl_any (C:Nat) (A:Option Addr) (c:Nat) (M:List (List Bool)) (w:World) (h:IsRef w C A M) (hC:C≤256) (hR:M.length≤256) :
  Calls Tryz.prog 6 #[refV C A M.length c] w fun e w'=>∃ q,e=.returned (ptr q)∧IsMat w' q C (nsOf C M)∧w.heap.size≤q∧Below w.heap.size w w':=by
 obtain ⟨i0,hi0,hz0,hz1,hz2⟩:=info_parts info_set
 go_enter Tryz.func6,Tryz.ntmps6
 go_wp2_with fail
 refine abs1 fun W0 hX0 hbel0 hz=>?_
 have HZ:=Lib.hid hz;clear hz
 have x0:=hX0.cell 0
 have x1:=hX0.cell 1
 go_loopw [3,10] (fun l j wr=>∃ (k:Nat) (vs:List Value),k≤M.length∧j=.int .i64 k∧wr.ownsRow (w.heap.size+1) 58 1 l k vs∧Sets wr vs (nsTo C M k)∧Below (w.heap.size+1) W0 wr) (fun _ j _=>M.length-(intOf j).toNat)
 case atStart=>exact ⟨0,[],Nat.zero_le _,rfl,World.ownsRow_nil _ _ _ _,Sets.nil _,Below.refl _ _⟩
 case round =>
  obtain ⟨k,vs,hk,rfl,hown,hsets,hbel⟩:=hrel
  have hX:=hX0.below hbel (by omega)
  have x0:=hX.cell 0
  have x1:=hX.cell 1
  have hbw:Below w.heap.size w wr:=hbel0.trans (hbel.mono (by omega))
  by_cases hlt:k < M.length
  ·have HROW:=hideC (rowr_any C A c M k wr (h.below hbw))
   go_wp2_with fail
   refine HROW.out.mono ?_
   rintro e w2 ⟨B,d,rfl,hd,hrow,hb2⟩
   have hrl:=rowTo_len C M k C
   have hof:=of_any B d ((rowTo C M k C).map Int.ofNat) w2 (by rw [List.map_map];exact hrow) (by rw [List.length_map];omega)
   rw [List.length_map] at hof
   have hmc:setOf ((rowTo C M k C).map Int.ofNat)=rowN C M k:=rfl
   rw [hmc] at hof
   clear hmc
   have HC:=hideC hof;clear hof
   go_wp2_with fail
   refine HC.out.mono ?_
   rintro e w3 ⟨r,rfl,hset,hb3⟩
   have hb23:=hb2.trans (hb3.mono hb2.size)
   obtain ⟨A2,c2,rfl,_⟩:=id hset
   have hown3:=(own_below hown hb23).alloc (.cells #[.slice A2 (nw (rowN C M k)) c2] 58)
   have hsz:=hbel.size
   have hsz2:=hb23.size
   have hzz:=HZ.out
   have hbel3:Below (w.heap.size+1) W0 w3:=hbel.trans (hb23.mono (by omega))
   have hS3:Sets w3 (vs ++ [.slice A2 (nw (rowN C M k)) c2]) (nsTo C M (k+1)):=by rw [nsTo_succ];exact (hsets.below hb23).snoc hset
   go_wp2_with (at_builtin;refine wpList_append_own _ rfl _ _ 67 rfl (w.heap.size+1) 58 i0 (.agg #[.slice none 0 0]) 1 24 Tryz.underlying67 hi0 hz0 hz1 hz2 rfl (by decide) _ _ _ rfl (hown3) ⟨w3.heap.size,0,none⟩ 1 1 [.slice A2 (nw (rowN C M k)) c2] rfl rfl (cell_one_new _ _ _) (by simp [Value.oneCell']) (by unfold maxLen;omega) (by omega) (by simp;omega) ?_;intro v' w3 hown' hgrow _)
   exact ⟨⟨k+1,vs ++ [.slice A2 (nw (rowN C M k)) c2],by omega,by go_num,hown',(hS3.keep (KeepW.alloc _ _)).keep (KeepW.grown hgrow hown3 (by decide)),(hbel3.alloc (by omega) _).grown hgrow (by simp;omega) (fun q hq=>(hown3.lt q hq).1)⟩,by simp [intOf];omega⟩
  ·obtain rfl:k=M.length:=by omega
   obtain ⟨B,d,rfl,h1,_,h2,_⟩:=row_of_own hown
   have hof:=ofm_any B d C vs (nsOf C M) wr h2 hsets hC (by rw [nsTo_len];exact hR)
   rw [nsTo_len] at hof
   have HO:=hideC hof;clear hof
   go_wp2_with fail
   refine HO.out.mono ?_
   rintro e w2 (⟨_,hno,_⟩ | ⟨q,rfl,_,hm,hq,hb2⟩)
   ·exact absurd (rowsIn_nsOf C M (by omega)) hno
   have hsz:=hbw.size
   go_wp2_with fail
   go_ret
   exact ⟨q,rfl,hm,by omega,hbw.trans (hb2.mono hbw.size)⟩
section
variable {w W2 W:World} {base C:Nat} {v:Value} {gs:List Nat} {T:Nat→Nat→Bool}
end
theorem mhas_in {C:Nat} {Ns:List Nat} {i j:Nat} (hi:i < Ns.length) (hj:j < C):mhas C Ns i j=(Ns.getD i 0).testBit j:=by
 unfold mhas insideB
 rw [decide_eq_true (by omega),Bool.true_and,Int.toNat_natCast,Int.toNat_natCast]
theorem hasR_in {C:Nat} {M:List (List Bool)} {i j:Nat} (hi:i < M.length) (hj:j < C):hasR C M i j=mget M i j:=by
 rw [hasR_nat,decide_eq_true hi,decide_eq_true hj];rfl
theorem getD_map_range {f:Nat→Nat} {k i:Nat} (h:i < k):((List.range k).map f).getD i 0=f i:=by
 rw [List.getD_eq_getElem?_getD,List.getElem?_map,List.getElem?_range h];rfl
theorem testBit_prow (Ms ks:List Nat) (j:Nat):(prow Ms ks).testBit j=ks.any fun k=>(Ms.getD k 0).testBit j:=by
 unfold prow
 have:∀ (ks:List Nat) (N:Nat),(ks.foldl (fun r k=>r|||Ms.getD k 0) N).testBit j=(N.testBit j||ks.any fun k=>(Ms.getD k 0).testBit j):=by
  intro ks
  induction ks with
  | nil=>intro N;simp
  | cons k ks ih=>intro N;rw [List.foldl_cons,ih,Nat.testBit_or,List.any_cons,Bool.or_assoc]
 rw [this,Nat.zero_testBit,Bool.false_or]
theorem mprod_bit {Ns Ms:List Nat} {R i j:Nat} (hi:i < R):((mprod Ns Ms R).getD i 0).testBit j=true↔∃ k,(Ns.getD i 0).testBit k=true∧(Ms.getD k 0).testBit j=true:=by
 unfold mprod
 rw [getD_map_range hi,testBit_prow,List.any_eq_true]
 constructor
 ·rintro ⟨k,hk,h⟩;exact ⟨k,mem_mems.1 hk,h⟩
 ·rintro ⟨k,hk,h⟩;exact ⟨k,mem_mems.2 hk,h⟩
def IsRaw (w:World) (v:Value) (R C:Nat) (zs:List Int):Prop :=
 ∃ (r c:Nat) (A:Option Addr) (d:Nat),v=.agg #[.int .u8 r,.int .u8 c,.slice A zs.length d]∧(r:Int)%6=R∧(c:Int)%6=C∧r≤255∧c≤255∧Row w A (zs.map (.int .u8))∧(∀ z∈zs,0≤z∧z≤255)∧zs.length≤maxLen
theorem IsRaw.below {w w':World} {v:Value} {R C:Nat} {zs:List Int} (h:IsRaw w v R C zs) (hb:Below w.heap.size w w'):IsRaw w' v R C zs:=by
 obtain ⟨r,c,A,d,h1,h2,h3,h4,h5,h6,h7,h8⟩:=h
 exact ⟨r,c,A,d,h1,h2,h3,h4,h5,h6.below hb,h7,h8⟩
theorem IsRaw.bd {w:World} {v:Value} {R C:Nat} {zs:List Int} (h:IsRaw w v R C zs):R≤5∧C≤5:=by
 obtain ⟨r,c,A,d,h1,h2,h3,h4,h5,h6,h7,h8⟩:=h;omega
abbrev rawM (R C:Nat) (zs:List Int):List (List Bool):=mat R C (rawF C zs)
theorem make_raw (v:Value) (R C:Nat) (zs:List Int) (w:World) (h:IsRaw w v R C zs) :
  Calls Tryz.prog 5 #[v] w fun e w'=>∃ A c,e=.returned (refV C A R c)∧IsRef w' C A (rawM R C zs)∧Below w.heap.size w w':=by
 have hbd:=h.bd
 obtain ⟨r,c,A,d,rfl,h2,h3,h4,h5,h6,h7,h8⟩:=h
 refine (maker_any r c R C A d zs w h2 h3 h4 h5 h6 h7 h8).mono ?_
 rintro e w' ⟨A',c',gs,rfl,hgs,hO,hb⟩
 subst hgs
 obtain ⟨A2,c2,hv,_,hI⟩:=hO.ref (by omega) (by omega)
 cases hv
 exact ⟨_,_,rfl,hI,hb⟩
end Go.Proofs.YtafpmkdlciioaaaGreatDoor
namespace Go.Proofs.YtafpmkdlciioaaaGreatDoor
open Go.ChangeShapes Go.WideShapes Go.ChangeAt Go.RowKit
section
variable {H:Type} {enc:TypeId×Value→H} {P:Program}
theorem args_stay (hl:laidOutB P=true) {W W':World} (hb:Below W.heap.size W W'):∀ (ts:List TypeId) (vs:List Value) (ds:List (DataW H)) (ps:List MemPlace),
  (∀ t∈ts,P.readableRec t=true∧t < P.types.size)→DataW.TrodAll enc P W 0 (fun _=>true) true ts vs ds ps→(∀ x∈ps,x.block < W.heap.size)→DataW.TrodAll enc P W' 0 (fun b=>decide (b < W.heap.size)) true ts vs ds ps
 | [],vs,ds,ps,_,h,_=>by
  obtain ⟨rfl,rfl,rfl⟩:=trodAll_nil h
  exact trodAll_mk0
 | t :: ts,vs,ds,ps,ht,h,hp=>by
  obtain ⟨v,vs',d,ds',p,q,rfl,rfl,rfl,h1,h2⟩:=trodAll_cons h
  obtain ⟨r1,r2⟩:=ht t (List.mem_cons_self ..)
  exact trodAll_cons_mk (Below.trod hl r1 r2 h1 hb fun x hx=>hp x (List.mem_append_left _ hx)) (args_stay hl hb ts vs' ds' q (fun u hu=>ht u (List.mem_cons_of_mem _ hu)) h2 fun x hx=>hp x (List.mem_append_right _ hx))
theorem law_post {f:Func} {s:ChangeSpec} {W W':World} {args:Array Value} {ds gs:List (DataW H)} {before:List MemPlace} {tb:TypeId} (hl:laidOutB P=true) (htb:P.underlying tb=some .bool)
  (hr:f.params.toList.all (fun t=>P.readableRec t&&decide (t < P.types.size))=true) (hres:f.resultTypes=#[tb]) (hs:s.vars=[])
  (hW:DataW.Whole enc P f.params.toList s.vars false W args.toList ds gs before) (hfn:s.fn H ds={ results:=[.lit (.bool true)],args:=ds }) (hb:Below W.heap.size W W') :
  s.post enc P f false true false false W args (.bool true) W':=by
 have hlt:∀ p∈before,p.block < W.heap.size:=fun p hp=>hW.lt p hp
 obtain ⟨p,q,hA,hV,hpq,hz,hn⟩:=id hW
 rw [hs] at hV
 obtain ⟨rfl,rfl⟩:=trodVars_none hV
 have hf:s.fn H (ds ++ [])={ results:=[.lit (.bool true)],args:=ds }:=by rw [List.append_nil];exact hfn
 have hr':∀ t∈f.params.toList,P.readableRec t=true∧t < P.types.size:=fun t ht=>by
  have:=List.all_eq_true.1 hr t ht
  simpa using this
 rw [List.append_nil] at hpq
 subst hpq
 refine ⟨ds,[],before,[],before,[],hW,?_,?_,?_,World.keptBut_mono (fun p hp=>⟨hp,.inr (.inl hp)⟩) (hb.frame (·∈before)),fun h=>by cases h⟩
 ·rw [hf,hres]
  exact trodAll_mk1 (shut_bool htb true)
 ·rw [hf]
  exact args_stay hl hb _ _ _ _ hr' hA hlt
 ·rw [hf,hs];rfl
end
theorem own:ownKnob Tryz.prog.godebug=none:=by kernel_rfl
theorem laidOut:laidOutB Tryz.prog=true:=by kernel_rfl
theorem gTab:Tryz.prog.globalNamed "math/bits.deBruijn64tab"=some 0:=by kernel_rfl
theorem gTabType:(Tryz.prog.globals[0]?).map (·.type)=some 205:=by kernel_rfl
theorem cellsTab:Tryz.prog.cellsOf 205=64:=by kernel_rfl
theorem cellsU8:Tryz.prog.cellsOf 5=1:=by kernel_rfl
theorem notHandles:Rows.topRankedRow.laid.filter (fun x=>x.2.handleName?.isSome)=[]:=by kernel_rfl
theorem tab_of {W:World} (h:laidMetH Tryz.prog Rows.topRankedRow.laid W):Tab W:=by
 unfold laidMetH at h
 rw [notHandles] at h
 have ht:=Lib.tabIs_of_head (k:=.u8) gTab gTabType Tryz.underlying205 Tryz.underlying5 cellsU8 cellsTab (zs:=Lib.deBruijn64tab.map Int.ofNat) h
 intro j hj
 have hc:=ht.cell gTab j (by rw [List.length_map];exact hj)
 rw [List.getD_eq_getElem?_getD,List.getElem?_map,List.getElem?_eq_getElem hj] at hc
 rw [List.getD_eq_getElem?_getD,List.getElem?_eq_getElem hj]
 exact hc
def filling (cs:List Nat):Obj→Obj
 | .cells _ t frozen=>.cells (cs.map fun n:Nat=>Value.int .u8 (n:Int)).toArray t frozen
 | o=>o
theorem u8_bd {k:Int} (h:(Lit.int .u8 k).wf=true):0≤k∧k≤255:=by
 rw [Lit.wf,Bool.and_eq_true,decide_eq_true_eq,decide_eq_true_eq,show IntKind.u8.min=0 from by decide,show IntKind.u8.max=255 from by decide] at h
 exact h
theorem raw_open {H:Type} {enc:TypeId×Value→H} {W:World} {base b0:Nat} {sp:Nat→Bool} {held:Bool} {r:Reach} {v:Value} {d:DataW H} {p:List MemPlace} (hv:Value.okWide Tryz.prog W r b0 24 v) (h:DataW.Trod enc Tryz.prog W base sp held 24 v d p) :
  ∃ R C zs,IsRaw W v R C zs:=by
 obtain ⟨v0,v1,v2,y0,y1,y2,n,rfl,-,-,h0,h1,h2⟩:=Joins.open_agg3 Tryz.underlying24 (by kernel_rfl) (by kernel_rfl) hv h
 obtain ⟨k0,e0,-,w0⟩:=DataW.trod_int Tryz.underlying5 h0
 obtain ⟨k1,e1,-,w1⟩:=DataW.trod_int Tryz.underlying5 h1
 cases e0;cases e1
 obtain ⟨l0,g0⟩:=u8_bd w0
 obtain ⟨l1,g1⟩:=u8_bd w1
 obtain ⟨r,rfl⟩:=Int.eq_ofNat_of_zero_le l0
 obtain ⟨c,rfl⟩:=Int.eq_ofNat_of_zero_le l1
 have hR:((r:Int)%6)=((r%6:Nat):Int):=by omega
 have hC:((c:Int)%6)=((c%6:Nat):Int):=by omega
 rcases open_ints Tryz.underlying22 Tryz.underlying5 cellsU8 h2 with ⟨e,-⟩ | ⟨a,len,cap,zs,e,-,hlc,hcm,hlen,-,hcell,hwf⟩
 ·cases e
  exact ⟨_,_,[],r,c,none,0,rfl,hR,hC,by omega,by omega,fun h=>by simp at h,fun z hz=>by simp at hz,by simp⟩
 ·cases e
  have hle:len≤zs.length:=by rw [hlen];split <;> omega
  have hlt:(zs.take len).length=len:=by rw [List.length_take];omega
  refine ⟨_,_,zs.take len,r,c,some a,cap,by rw [hlt],hR,hC,by omega,by omega,fun h=>?_,fun z hz=>u8_bd (hwf z (List.mem_of_mem_take hz)),by omega⟩
  rw [List.length_map,hlt] at h
  have h0:=hcell 0 (by omega)
  have hs:a.spot=none:=by
   have h0':W.cell? a=some (.int .u8 (zs.getD 0 0)):=by
    unfold Addr.add at h0;rwa [if_pos rfl] at h0
   unfold World.cell? at h0'
   split at h0'
   ·split at h0'
    ·cases h0'
    ·rename_i hh;simpa using hh
   ·cases h0'
  obtain ⟨g,off,spot⟩:=a
  cases hs
  refine ⟨g,off,rfl,by have:=cell_lt h0;simpa [Addr.add] using this,fun k u hu=>?_⟩
  rw [List.getElem?_map] at hu
  obtain ⟨z,hz,rfl⟩:=Option.map_eq_some_iff.1 hu
  have hk:k < len:=by
   have:=(List.getElem?_eq_some_iff.1 hz).1
   omega
  have hc:=hcell k (by omega)
  rw [List.getElem?_take_of_lt hk] at hz
  rw [List.getD_eq_getElem?_getD,hz,Option.getD_some] at hc
  by_cases hk0:k=0
  ·subst hk0;simpa [Addr.add] using hc
  ·simpa [Addr.add,hk0] using hc
set_option maxRecDepth 100000
section
variable {H:Type} {enc:TypeId×Value→H} {W:World} {base b0:Nat} {sp:Nat→Bool} {held:Bool} {r:Reach} {v:Value} {d:DataW H} {p:List MemPlace}
end
set_option maxRecDepth 100000
noncomputable def laidWorld1 (os:Os):World :=
 { World.holding Tryz.prog os ⟨#[],#[],[]⟩ with heap:=(World.holding Tryz.prog os ⟨#[],#[],[]⟩).heap.modify 0 (filling Lib.deBruijn64tab) }
theorem laid_met1 (os:Os) (args:Array Value):laidMet Tryz.prog Rows.topRankedRow.laid ((laidWorld1 os).forCall (fun _ _=>0) ⟨#[],args,[]⟩).memory :=
 laidMet_of_run' 8 (by kernel_rfl) (by kernel_rfl)
end Go.Proofs.YtafpmkdlciioaaaGreatDoor
namespace Go.Proofs.YtafpmkdlciioaaaGreatDoor
open Go.RowKit
def withoutB (N:Nat) (i:Int):Nat:=if hasB N i=true then N ^^^ 2 ^ i.toNat else N
theorem testBit_without {N I:Nat} (h:N.testBit I=true) (j:Nat):(N ^^^ 2 ^ I).testBit j=(N.testBit j&&decide (j≠I)):=by
 rw [Nat.testBit_xor,Nat.testBit_two_pow]
 by_cases e:I=j
 ·subst e;simp [h]
 ·simp [e,show ¬ j=I from fun e'=>e e'.symm]
theorem full_sub (x:Nat):18446744073709551615-x=2 ^ 64-(x+1):=by omega
theorem wd_without {N I:Nat} (h:N.testBit I=true) (k:Nat):wd (N ^^^ 2 ^ I) k=if k=I/64 then wd N k&&&(18446744073709551615-2 ^ (I%64)) else wd N k:=by
 apply Nat.eq_of_testBit_eq;intro i
 rw [testBit_wd,testBit_without h]
 by_cases hk:k=I/64
 ·rw [if_pos hk,Nat.testBit_and,testBit_wd,full_sub,Nat.testBit_two_pow_sub_succ (Nat.pow_lt_pow_right (by omega) (Nat.mod_lt _ (by omega))),Nat.testBit_two_pow]
  by_cases hi:i < 64
  ·have e:(64*k+i=I)↔(I%64=i):=by omega
   by_cases he:I%64=i
   ·simp [hi,he,e.2 he]
   ·have:¬ 64*k+i=I:=fun h=>he (e.1 h)
    simp [hi,he,this]
  ·simp [hi]
 ·rw [if_neg hk,testBit_wd]
  by_cases hi:i < 64
  ·have:¬ 64*k+i=I:=by omega
   simp [this]
  ·simp [hi]
theorem nw_without {N I:Nat} (h:N.testBit I=true):∀ k,nw N≤k→wd (N ^^^ 2 ^ I) k=0:=fun k hk=>by
 rw [wd_without h,wd_ge hk];split <;> simp
theorem andNot_form (N I:Nat):bits .andNot .u64 (wd N (I/64):Int) ((2 ^ (I%64):Nat):Int)=((wd N (I/64)&&&(18446744073709551615-2 ^ (I%64)):Nat):Int):=by
 rw [u64_andNot_nat _ _ (wd_lt _ _) (Nat.pow_lt_pow_right (by omega) (Nat.mod_lt _ (by omega)))]
theorem without_no (v:Value) (N:Nat) (i:Int) (w:World) (hs:IsSet w v N) (hi:hasB N i=false) :
  Calls Tryz.prog 47 #[.agg #[v],.int .i64 i] w fun e w'=>∃ r,e=.returned (.agg #[r])∧IsSet w' r N∧Below w.heap.size w w':=by
 obtain ⟨A,c,rfl,hN,_⟩:=id hs
 go_enter Tryz.func47,Tryz.ntmps47
 go_wp2_with fail
 refine absC2 fun W0 hA0 hR0 hbel0 hz=>?_
 have HZ:=Lib.hid hz;clear hz
 have hcall:=has_any _ N i W0 (hs.below hbel0)
 rw [hi] at hcall
 have HC:=hideC hcall;clear hcall hi
 refine HC.out.mono ?_
 rintro e w1 ⟨rfl,hb1⟩
 have hA1:=hA0.below hb1 hA0.lt
 have hR1:=hR0.below hb1 hR0.lt
 have cA:=hA1.cell 0
 have cR:=hR1.cell 0
 have fR:=hR1.frozen 0
 go_wp2_with fail
 have cX:=(hR1.set_ 0 (.slice A (nw N) c)).cell 0
 refine bodyPost_ret (v:=.agg #[.slice A (nw N) c]) (by simp [results,Tryz.results47,go_sem,cX]) rfl ⟨_,rfl,?_,(hbel0.trans (hb1.mono hbel0.size)).setCell (by simp) _⟩
 exact ((hs.below hbel0).below hb1).keep (KeepW.setCell (t:=58) hR1 (by decide) _)
theorem without_yes (v:Value) (N I:Nat) (w:World) (hs:IsSet w v N) (hI:I≤4095) (ht:N.testBit I=true) :
  Calls Tryz.prog 47 #[.agg #[v],.int .i64 I] w fun e w'=>∃ r,e=.returned (.agg #[r])∧IsSet w' r (N ^^^ 2 ^ I)∧Below w.heap.size w w':=by
 obtain ⟨i0,hi0,hz0,hz1,hz2⟩:=info_parts info_u64
 obtain ⟨A,c,rfl,hN,hnc,hcm,h4⟩:=id hs
 have hlt:I/64 < nw N:=by
  rcases Nat.lt_or_ge (I/64) (nw N) with h | h
  ·exact h
  ·rw [testBit_ge h (by omega)] at ht;cases ht
 obtain ⟨g,cs,rfl,hB,hcs⟩:=h4 (by omega)
 have HT:=Lib.hid ht
 have hcall:=fun W (h:IsSet W (.slice (some ⟨g,0,none⟩) (nw N) c) N)=>has_in _ N I W h hI
 rw [ht] at hcall
 have HC:=hideC hcall;clear hcall ht h4
 have HCS:=Lib.hid hcs;clear hcs
 go_enter Tryz.func47,Tryz.ntmps47
 go_wp2_with fail
 refine absC2 fun W0 hA0 hR0 hbel0 hz=>?_
 have HZ:=Lib.hid hz;clear hz
 refine (HC.out W0 (hs.below hbel0)).mono ?_
 rintro e w1 ⟨rfl,hb1⟩
 have hA1:=hA0.below hb1 hA0.lt
 have hR1:=hR0.below hb1 hR0.lt
 have hB1:=(hB.below hbel0 hB.lt).below hb1 (Nat.lt_of_lt_of_le hB.lt hbel0.size)
 have cA:=hA1.cell 0
 have lA:=hA1.lt
 have lR:=hR1.lt
 have hbw:=hbel0.trans (hb1.mono hbel0.size)
 have hadd:∀ (j:Nat) u,((List.range (nw N)).map fun k=>u64 (wd N k))[j]?=some u→(w1.alloc (.cells #[] 146)).cell? ((⟨g,0,none⟩:Addr).add j)=some u:=fun j u hu=>by
  rw [List.getElem?_map] at hu
  obtain ⟨k,hk,rfl⟩:=Option.map_eq_some_iff.1 hu
  obtain ⟨hj,hk2⟩:=List.getElem?_eq_some_iff.1 hk
  rw [List.length_range] at hj
  rw [List.getElem_range] at hk2
  subst hk2
  have e:(⟨g,0,none⟩:Addr).add j=⟨g,j,none⟩:=by unfold Addr.add;split <;> simp_all
  rw [e,World.cell?_alloc_lt _ _ _ hB1.lt,hB1.cell j]
  exact HCS.out j hj
 have HADD:=Lib.hid hadd;clear hadd
 have own0:=World.ownsRow_lit (base:=w1.heap.size) (e:=146) (size:=1) w1 #[] 0 (Nat.le_refl _) (by decide) rfl
 have hb0:=(Below.refl w1.heap.size w1).alloc (Nat.le_refl _) (.cells #[] 146)
 clear hA0 hR0 hB hB1
 have hne0:w.heap.size+1≠w1.heap.size:=by omega
 have HS:=hideC hs;clear hs
 go_wp2_with (at_builtin;refine wpList_append_lies _ rfl _ _ 56 rfl w1.heap.size 146 i0 (.int .u64 0) 1 8 Tryz.underlying56 hi0 hz0 hz1 hz2 rfl (by decide) _ _ _ rfl own0 ⟨g,0,none⟩ (nw N) c ((List.range (nw N)).map fun k=>u64 (wd N k)) rfl (by simp) HADD.out (by intro u hu;obtain ⟨x,_,rfl⟩:=List.mem_map.1 hu;rfl) (by omega) (by unfold maxLen;omega) (by omega) (by simp) _ rfl ?_)
 intro g5 cap5 w3 hown' hgrow hlies hlt5
 have hge:w1.heap.size≤g5:=(hown'.lt g5 rfl).1
 have hbe3:=hb0.grown hgrow (by simp) (fun q hq=>(own0.lt q hq).1)
 have hR3:=hR1.below hbe3 lR
 have cW:=hown'.cellAt (I/64) (by omega)
 have fW:=hown'.frozenAt (I/64)
 rw [List.getElem?_map,List.getElem?_range hlt,Option.map_some] at cW
 have hst:=(hown'.stored (I/64) (u64 (wd N (I/64)&&&(18446744073709551615-2 ^ (I%64))))).1
 have hlst:((List.range (nw N)).map fun k=>u64 (wd N k)).set (I/64) (u64 (wd N (I/64)&&&(18446744073709551615-2 ^ (I%64))))=(List.range (nw N)).map fun k=>u64 (wd (N ^^^ 2 ^ I) k):=by
  apply List.ext_getElem
  ·simp
  ·intro k h1 h2
   have hk:k < nw N:=by simpa using h2
   rw [List.getElem_set]
   by_cases e:I/64=k
   ·rw [if_pos e]
    simp only [List.getElem_map,List.getElem_range]
    rw [wd_without HT.out,if_pos e.symm,← e]
   ·rw [if_neg e]
    simp only [List.getElem_map,List.getElem_range]
    rw [wd_without HT.out,if_neg fun h=>e h.symm]
 rw [hlst] at hst
 clear hlst
 have HST:=hideC hst;clear hst
 have h64:I%64 < 64:=Nat.mod_lt _ (by omega)
 have hsh:=shl_form (I%64) h64
 have hof:=andNot_form N I
 have hpw:((2 ^ (I%64):Nat):Int)=(2:Int) ^ (I%64):=by simp
 rw [hpw] at hof
 clear hpw
 go_wp2_with fail
 have q1:=i64w (x:=(I:Int)/64) (by omega)
 have q2:(I:Int).tmod 64=(I:Int)%64:=Int.tmod_eq_emod_of_nonneg (by omega)
 have q3:(0:Int)≤(I:Int)/64:=by omega
 have q4:(I:Int)/64 < (nw N:Int):=by omega
 have q5:((I:Int)/64).toNat=I/64:=by omega
 have q6:((I:Int)%64).toNat=I%64:=by omega
 have q7:(0:Int)≤(I:Int)%64:=by omega
 have q8:(I:Int)%64 < 64:=by omega
 refine wp_spine (fun W=>Below w3.heap.size w3 W) [0,1,2,3,4,5,6,7,8,9] [10] (by kernel_rfl) (by kernel_rfl) ?_
 iterate 10 (refine wpE_op (v:=?_) rfl rfl (fun W hW=>?_) ?_;rotate_left;(have c1:=onB hW cW;go_simp;first | done | with_reducible rfl);simp only [pt1,pt3,pt4,pt5])
 refine wpE_nil ⟨fun h=>(by cases h),wpSp_op rfl (Below.refl _ _).drew ?_⟩
 clear q1 q2 q3 q4 q5 q6 q7 q8
 go_wp2_with fail
 refine nxt_nil ?_
 obtain ⟨W4,hW4⟩:∃ W4,W4=w3.setCell ⟨g5,I/64,none⟩ (u64 (wd N (I/64)&&&(18446744073709551615-2 ^ (I%64)))):=⟨_,rfl⟩
 have hR4:Blk W4 (w.heap.size+1) 58 #[.slice none 0 0]:=by rw [hW4];exact hR3.far (p:=⟨g5,I/64,none⟩) (by show w.heap.size+1≠g5;omega) _
 have hb4:Below w.heap.size w W4:=by
  rw [hW4]
  exact (hbw.trans (hbe3.mono hbw.size)).setCell (p:=⟨g5,I/64,none⟩) (by have:=hbw.size;show w.heap.size≤g5;omega) _
 have hst:=HST.out
 rw [← hW4] at hst ⊢
 obtain ⟨_,_,e1,hc5,hc6,_,_⟩:=row_of_own hst
 cases e1
 have hwords:Words W4.drew (some ⟨g5,0,none⟩) (nw N) (N ^^^ 2 ^ I):=by
  refine ⟨fun _=>?_,nw_without HT.out⟩
  rcases hst.2 with ⟨h',_⟩ | ⟨g',cap',cur,h',hb',hg',hnc',hcm',hcs',htake⟩
  ·cases h'
  ·cases h'
   refine ⟨g5,cur,rfl,hg',fun k hk=>?_⟩
   have h1:=congrArg (fun l=>l[k]?) htake
   simp only [Nat.mul_one,List.getElem?_take_of_lt hk,Array.getElem?_toList] at h1
   rw [h1,List.getElem?_map,List.getElem?_range hk];rfl
 have HTR:=hideC (trim_any (some ⟨g5,0,none⟩) (nw N) cap5 (N ^^^ 2 ^ I) W4.drew hwords hN hc5 hc6)
 clear hW4 HST hst hwords cW fW hof hsh
 go_wp2_with fail
 refine HTR.out.mono ?_
 rintro e w6 ⟨r,rfl,hr,hb6⟩
 have hb7:Below W4.heap.size W4 w6:=(Below.refl _ _).drew.trans hb6
 have hR6:=hR4.below hb7 hR4.lt
 obtain ⟨A6,c6,rfl,_⟩:=id hr
 have cR:=hR6.cell 0
 have fR:=hR6.frozen 0
 go_wp2_with fail
 have cX:=(hR6.set_ 0 (.slice A6 (nw (N ^^^ 2 ^ I)) c6)).cell 0
 refine bodyPost_ret (v:=.agg #[.slice A6 (nw (N ^^^ 2 ^ I)) c6]) (by simp [results,Tryz.results47,go_sem,cX]) rfl ⟨_,rfl,?_,(hb4.trans (hb7.mono hb4.size)).setCell (by simp) _⟩
 exact hr.keep (KeepW.setCell (t:=58) hR6 (by decide) _)
theorem without_any (v:Value) (N:Nat) (i:Int) (w:World) (hs:IsSet w v N) :
  Calls Tryz.prog 47 #[.agg #[v],.int .i64 i] w fun e w'=>∃ r,e=.returned (.agg #[r])∧IsSet w' r (withoutB N i)∧Below w.heap.size w w':=by
 unfold withoutB
 by_cases h:hasB N i=true
 ·rw [if_pos h]
  have hi:0≤i:=by
   rcases Int.lt_or_le i 0 with h0 | h0
   ·rw [hasB_neg N h0] at h;cases h
   ·exact h0
  obtain ⟨I,rfl⟩:=Int.eq_ofNat_of_zero_le hi
  rw [hasB_nat] at h
  rw [Int.toNat_natCast]
  refine without_yes v N I w hs ?_ h
  rcases Nat.lt_or_ge I 4096 with h0 | h0
  ·omega
  ·rw [testBit_big (by obtain ⟨_,_,_,x,_⟩:=hs;exact x) h0] at h;cases h
 ·rw [if_neg h]
  exact without_no v N i w hs (by simpa using h)
theorem cloneS_any (g off c:Nat) (vs:List Value) (Ns:List Nat) (w:World) (hr:Row w (some ⟨g,off,none⟩) vs) (hs:Sets w vs Ns) (h0:0 < Ns.length) (hl:Ns.length≤4096) :
  Calls Tryz.prog 93 #[.slice (some ⟨g,off,none⟩) Ns.length c] w fun e w'=>∃ g' c',e=.returned (.slice (some ⟨g',0,none⟩) Ns.length c')∧w'.ownsRow w.heap.size 58 1 (.slice (some ⟨g',0,none⟩) Ns.length c') Ns.length vs∧Below w.heap.size w w':=by
 obtain ⟨i0,hi0,hz0,hz1,hz2⟩:=info_parts info_set
 obtain ⟨g1,o1,he,hg,hc⟩:=hr (by rw [hs.1];exact h0)
 cases he
 have hadd:∀ (j:Nat) u,vs[j]?=some u→(w.alloc (.cells #[] 58)).cell? ((⟨g,off,none⟩:Addr).add j)=some u:=fun j u hu=>by
  have:=hc j u hu
  have e:(⟨g,off,none⟩:Addr).add j=⟨g,off+j,none⟩:=by unfold Addr.add;split <;> simp_all
  rw [e];exact (World.cell?_alloc_lt _ _ _ hg).trans this
 have hone:∀ u∈vs,u.oneCell'=true:=fun u hu=>by
  obtain ⟨j,hj⟩:=List.getElem?_of_mem hu
  have hlt:j < Ns.length:=by rw [← hs.1];exact (List.getElem?_eq_some_iff.1 hj).1
  obtain ⟨A,d,e,_⟩:=hs.at_ hlt
  rw [hj] at e
  cases e;rfl
 have hlen:vs.length=Ns.length*1:=by rw [hs.1];omega
 have HADD:=Lib.hid hadd;have HONE:=Lib.hid hone;have HLEN:=Lib.hid hlen
 clear hadd hc hone hlen hr hs
 have own0:=World.ownsRow_lit (base:=w.heap.size) (e:=58) (size:=1) w #[] 0 (Nat.le_refl _) (by decide) rfl
 have hb0:=(Below.refl w.heap.size w).alloc (Nat.le_refl _) (.cells #[] 58)
 have hnil:=fun W=>run_eql_some_nil (P:=Tryz.prog) Tryz.underlying67 ⟨g,off,none⟩ Ns.length c W
 go_enter Tryz.func93,Tryz.ntmps93
 go_wp2_with (at_builtin;refine wpList_append_lies _ rfl _ _ 67 rfl w.heap.size 58 i0 (.agg #[.slice none 0 0]) 1 24 Tryz.underlying67 hi0 hz0 hz1 hz2 rfl (by decide) _ _ _ rfl own0 ⟨g,off,none⟩ Ns.length c vs rfl HLEN.out HADD.out HONE.out h0 (by unfold maxLen;omega) (by omega) (by simp) _ rfl ?_)
 intro g5 cap5 w3 hown' hgrow hlies hlt5
 have hbe3:=hb0.grown hgrow (by simp) (fun q hq=>(own0.lt q hq).1)
 go_wp2_with fail
 go_ret
 exact ⟨g5,cap5,by simp,by simpa using hown',hbe3⟩
theorem Sets.put {w:World} {vs:List Value} {Ns:List Nat} {v:Value} {N I:Nat} (h:Sets w vs Ns) (hs:IsSet w v N):Sets w (vs.set I v) (Ns.set I N):=by
 refine ⟨by simp [h.1],fun k u M hu hM=>?_⟩
 rw [List.getElem?_set] at hu hM
 by_cases e:I=k
 ·rw [if_pos e] at hu hM
  split at hu
  ·split at hM
   ·cases hu;cases hM;exact hs
   ·cases hM
  ·cases hu
 ·rw [if_neg e] at hu hM
  exact h.2 k u M hu hM
end Go.Proofs.YtafpmkdlciioaaaGreatDoor
