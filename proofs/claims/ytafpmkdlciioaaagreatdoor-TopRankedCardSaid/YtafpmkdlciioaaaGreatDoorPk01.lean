import Derived.WalkKit
import Derived.WalkSpells
import Derived.WalkLawsBesides
import Derived.Deep.Draws
import Derived.Lib.Hide
import Derived.Test.YtafpmkdlciioaaaGreatDoorRows
import Derived.OrdersHeld
import Derived.Laws.CopyOwn
import Derived.Shelf.Spec.TrailingZeros
import Derived.RangeFuncBox
import Derived.RangeFuncLeaves
import Derived.OwnWalkIn
import Derived.TacticsInMore
import Derived.LoopNIn
import Derived.LoopIn
import Derived.Maps.AppendAt
set_option maxHeartbeats 1000000
set_option maxRecDepth 100000
namespace Go.Proofs.YtafpmkdlciioaaaGreatDoor
theorem pt1(a:Go.Act)(d:Go.Tmp)(v:Go.Value):a.put (some d) v={a with tmps:=a.tmps.setIfInBounds d v}:=rfl
theorem pt2(a:Go.Act)(v:Go.Value):a.put none v=a:=rfl
theorem pt3{α:Type}(l:List α)(i:Nat)(a:α):l.toArray.setIfInBounds i a=(l.set i a).toArray:=List.setIfInBounds_toArray ..
theorem pt4{α:Type}(x:α)(l:List α)(a:α):(x::l).set 0 a=a::l:=rfl
theorem pt5{α:Type}(x:α)(l:List α)(n:Nat)(a:α):(x::l).set (n+1) a=x::l.set n a:=rfl
end Go.Proofs.YtafpmkdlciioaaaGreatDoor
namespace Go.Proofs.YtafpmkdlciioaaaGreatDoor
open Go.RowKit
def Blk (w:World) (g:Nat) (t:TypeId) (cs:Array Value):Prop:=w.heap[g]?=some (.cells cs t (0,0))
section
variable {w w':World} {g:Nat} {t:TypeId} {cs:Array Value}
theorem Blk.lt (h:Blk w g t cs):g < w.heap.size:=by
 rcases Nat.lt_or_ge g w.heap.size with hlt | hge
 ·exact hlt
 ·unfold Blk at h;rw [Array.getElem?_eq_none hge] at h;cases h
theorem Blk.cell (h:Blk w g t cs) (i:Nat):w.cell? ⟨g,i,none⟩=cs[i]?:=cell_of_row w g i cs t (0,0) h
theorem Blk.frozen (h:Blk w g t cs) (i:Nat):w.frozen? ⟨g,i,none⟩=false:=by
 unfold Blk at h
 simp [World.frozen?,h]
theorem Blk.new (w:World) (t:TypeId) (cs:Array Value):Blk (w.alloc (.cells cs t)) w.heap.size t cs:=heap_alloc_new w _
theorem Blk.new_ {n:Nat} (h:n=w.heap.size) (t:TypeId) (cs:Array Value):Blk (w.alloc (.cells cs t)) n t cs:=by subst h;exact Blk.new w t cs
theorem Blk.drew (h:Blk w g t cs):Blk w.drew g t cs:=h
theorem Blk.alloc (h:Blk w g t cs) (o:Obj):Blk (w.alloc o) g t cs:=(Below.heap_alloc w o g h.lt).trans h
theorem Blk.set_ (h:Blk w g t cs) (i:Nat) (u:Value):Blk (w.setCell ⟨g,i,none⟩ u) g t (cs.setIfInBounds i u):=by
 unfold Blk at h ⊢
 simp [World.setCell,Array.getElem?_modify,h]
theorem Blk.far (h:Blk w g t cs) {p:Addr} (hp:g≠p.block) (u:Value):Blk (w.setCell p u) g t cs:=(Below.heap_setCell w p u g hp).trans h
theorem Blk.below {B:Nat} (h:Blk w g t cs) (hb:Below B w w') (hg:g < B):Blk w' g t cs:=(hb.block g hg).trans h
theorem Blk.grown {row:Option Nat} (h:Blk w g t cs) (hb:w.grownBy w' row) (hg:some g≠row):Blk w' g t cs:=(hb.block g h.lt hg).trans h
theorem Blk.ne_ {g':Nat} {t':TypeId} {cs':Array Value} (h:Blk w g t cs) (h':Blk w g' t' cs') (hne:t≠t'):g≠g':=by
 rintro rfl
 unfold Blk at h h'
 rw [h] at h'
 injection h' with h'
 injection h' with _ ht
 exact hne ht
end
theorem cell_lt {w:World} {p:Addr} {v:Value} (h:w.cell? p=some v):p.block < w.heap.size:=World.block_lt_of_cell? w p h
theorem onB {wr W:World} (hB:Below wr.heap.size wr W) {p:Addr} {v:Value} (h:wr.cell? p=some v):W.cell? p=some v:=(hB.cell (cell_lt h)).trans h
theorem onFrozen {wr W:World} (hB:Below wr.heap.size wr W) {p:Addr} {v:Value} {b:Bool} (h:wr.cell? p=some v) (hf:wr.frozen? p=b):W.frozen? p=b:=(hB.frozen (cell_lt h)).trans hf
theorem i64w {x:Int} (h:-9223372036854775808≤x∧x≤9223372036854775807):IntKind.i64.wrap x=x:=IntWalk.i64_in _ h
def zeros (z:Value) (n:Nat):Array Value:=Array.replicate n z
theorem madeCells_one (z:Value) (n:Nat):madeCells #[z] n=zeros z n:=by
 unfold madeCells zeros
 apply Array.ext (by simp)
 intro i h1 h2
 simp [Nat.mod_one]
theorem make_run {P:Program} (t e:TypeId) (z:Value) (bytes:Nat) (ht:P.underlying t=some (.slice e)) (hinfo:(P.info? e).map (fun i=>(i.zero,i.size,i.bytes))=some (some z,1,bytes)) (hz1:z.cells=#[z])
  (n:Nat) (hb:bytes*n≤281474976710656) (hn:n≤65536) (w:World) :
  (Instr.makeSlice t (.int .i64 (n:Int)) (.int .i64 (n:Int))).run P w=.ok (.slice (some ⟨w.heap.size,0,none⟩) n n) (w.alloc (.cells (zeros z n) e)):=by
 obtain ⟨i,hi,hz,hs,hby⟩:=info_parts hinfo
 have hb':(i.bytes:Int)*(n:Int)≤281474976710656:=by
  have h:((i.bytes*n:Nat):Int)≤281474976710656:=by rw [hby];omega
  rwa [Int.natCast_mul] at h
 have hr:=run_make (P:=P) w t e i z ht hi hz .i64 .i64 n n (by omega) (by omega) hb' (by omega)
 simp only [Int.toNat_natCast,hs,hz1,Nat.mul_one,madeCells_one] at hr
 exact hr
def filled (z:Value) (f:Nat→Value) (k n:Nat):Array Value:=(Array.range n).map fun j=>if j < k then f j else z
theorem filled_zero (z:Value) (f:Nat→Value) (n:Nat):zeros z n=filled z f 0 n:=by
 unfold zeros filled
 apply Array.ext (by simp)
 intro i h1 h2
 simp
theorem filled_get (z:Value) (f:Nat→Value) {k n j:Nat} (hj:j < n):(filled z f k n)[j]?=some (if j < k then f j else z):=by
 unfold filled
 rw [Array.getElem?_map,Array.getElem?_range]
 simp [hj]
theorem filled_size (z:Value) (f:Nat→Value) (k n:Nat):(filled z f k n).size=n:=by simp [filled]
theorem filled_set (z:Value) (f:Nat→Value) {k n:Nat} (hk:k < n):(filled z f k n).setIfInBounds k (f k)=filled z f (k+1) n:=by
 apply Array.ext_getElem?
 intro i
 rw [Array.getElem?_setIfInBounds]
 by_cases hi:i < n
 ·rw [filled_get z f hi,filled_get z f hi,filled_size]
  by_cases h:k=i
  ·subst h;simp [hk]
  ·rw [if_neg h]
   by_cases h2:i < k
   ·rw [if_pos h2,if_pos (by omega)]
   ·rw [if_neg h2,if_neg (by omega)]
 ·have h1:∀ k,(filled z f k n)[i]?=none:=fun k=>Array.getElem?_eq_none (by rw [filled_size];omega)
  rw [h1,h1,if_neg (by omega)]
theorem Blk.fill0 {w:World} {g:Nat} {t:TypeId} {z:Value} {n:Nat} (h:Blk w g t (zeros z n)) (f:Nat→Value):Blk w g t (filled z f 0 n):=filled_zero z f n▸h
def Row (w:World) (A:Option Addr) (cs:List Value):Prop :=
 0 < cs.length→∃ g off,A=some ⟨g,off,none⟩∧g < w.heap.size∧∀ (k:Nat) u,cs[k]?=some u→w.cell? ⟨g,off+k,none⟩=some u
theorem Row.below {w w':World} {A:Option Addr} {cs:List Value} (h:Row w A cs) (hb:Below w.heap.size w w'):Row w' A cs:=fun hn=>by
 obtain ⟨g,off,hA,hg,hc⟩:=h hn
 exact ⟨g,off,hA,Nat.lt_of_lt_of_le hg hb.size,fun k u hu=>(hb.cell (p:=⟨g,off+k,none⟩) hg).trans (hc k u hu)⟩
theorem Row.empty (w:World) (A:Option Addr):Row w A []:=fun h=>by simp at h
theorem Row.of_blk {w:World} {g:Nat} {t:TypeId} {cs:Array Value} {l:List Value} (h:Blk w g t cs) (hl:∀ (k:Nat) u,l[k]?=some u→cs[k]?=some u):Row w (some ⟨g,0,none⟩) l :=
 fun _=>⟨g,0,rfl,h.lt,fun k u hu=>(Nat.zero_add k).symm▸(h.cell k).trans (hl k u hu)⟩
section
variable {P:Program} {c:Code} {Q:Exit→Act→World→Prop} {a:Act} {w:World}
theorem abs1 {c1:Array Value} {t1:TypeId} (h:∀ W,Blk W w.heap.size t1 c1→Below w.heap.size w W→W.heap.size=w.heap.size+1→c.wp P Q a W) :
  c.wp P Q a (w.alloc (.cells c1 t1)) :=
 h _ (Blk.new _ _ _) ((Below.refl _ _).alloc (Nat.le_refl _) _) (by simp)
theorem abs2 {c1 c2:Array Value} {t1 t2:TypeId} (h:∀ W,Blk W w.heap.size t1 c1→Blk W (w.heap.size+1) t2 c2→Below w.heap.size w W→W.heap.size=w.heap.size+2→c.wp P Q a W) :
  c.wp P Q a ((w.alloc (.cells c1 t1)).alloc (.cells c2 t2)) :=
 h _ ((Blk.new _ _ _).alloc _) (Blk.new_ (by simp) _ _) (((Below.refl _ _).alloc (Nat.le_refl _) _).alloc (by simp) _) (by simp)
theorem abs3 {c1 c2 c3:Array Value} {t1 t2 t3:TypeId} (h:∀ W,Blk W w.heap.size t1 c1→Blk W (w.heap.size+1) t2 c2→Blk W (w.heap.size+2) t3 c3→Below w.heap.size w W→W.heap.size=w.heap.size+3→c.wp P Q a W) :
  c.wp P Q a (((w.alloc (.cells c1 t1)).alloc (.cells c2 t2)).alloc (.cells c3 t3)) :=
 h _ (((Blk.new _ _ _).alloc _).alloc _) ((Blk.new_ (by simp) _ _).alloc _) (Blk.new_ (by simp) _ _) ((((Below.refl _ _).alloc (Nat.le_refl _) _).alloc (by simp) _).alloc (by simp;omega) _) (by simp)
theorem abs4 {c1 c2 c3 c4:Array Value} {t1 t2 t3 t4:TypeId} (h:∀ W,Blk W w.heap.size t1 c1→Blk W (w.heap.size+1) t2 c2→Blk W (w.heap.size+2) t3 c3→Blk W (w.heap.size+3) t4 c4→Below w.heap.size w W→W.heap.size=w.heap.size+4→c.wp P Q a W) :
  c.wp P Q a ((((w.alloc (.cells c1 t1)).alloc (.cells c2 t2)).alloc (.cells c3 t3)).alloc (.cells c4 t4)) :=
 h _ ((((Blk.new _ _ _).alloc _).alloc _).alloc _) (((Blk.new_ (by simp) _ _).alloc _).alloc _) ((Blk.new_ (by simp) _ _).alloc _) (Blk.new_ (by simp) _ _) (((((Below.refl _ _).alloc (Nat.le_refl _) _).alloc (by simp) _).alloc (by simp;omega) _).alloc (by simp;omega) _) (by simp)
theorem absC1 {f:FuncId} {args:Array Value} {R:Ending→World→Prop} {c1:Array Value} {t1:TypeId} (h:∀ W,Blk W w.heap.size t1 c1→Below w.heap.size w W→W.heap.size=w.heap.size+1→Calls P f args W R) :
  Calls P f args (w.alloc (.cells c1 t1)) R :=
 h _ (Blk.new _ _ _) ((Below.refl _ _).alloc (Nat.le_refl _) _) (by simp)
theorem absC2 {f:FuncId} {args:Array Value} {R:Ending→World→Prop} {c1 c2:Array Value} {t1 t2:TypeId} (h:∀ W,Blk W w.heap.size t1 c1→Blk W (w.heap.size+1) t2 c2→Below w.heap.size w W→W.heap.size=w.heap.size+2→Calls P f args W R) :
  Calls P f args ((w.alloc (.cells c1 t1)).alloc (.cells c2 t2)) R :=
 h _ ((Blk.new _ _ _).alloc _) (Blk.new_ (by simp) _ _) (((Below.refl _ _).alloc (Nat.le_refl _) _).alloc (by simp) _) (by simp)
theorem absC3 {f:FuncId} {args:Array Value} {R:Ending→World→Prop} {c1 c2 c3:Array Value} {t1 t2 t3:TypeId} (h:∀ W,Blk W w.heap.size t1 c1→Blk W (w.heap.size+1) t2 c2→Blk W (w.heap.size+2) t3 c3→Below w.heap.size w W→W.heap.size=w.heap.size+3→Calls P f args W R) :
  Calls P f args (((w.alloc (.cells c1 t1)).alloc (.cells c2 t2)).alloc (.cells c3 t3)) R :=
 h _ (((Blk.new _ _ _).alloc _).alloc _) ((Blk.new_ (by simp) _ _).alloc _) (Blk.new_ (by simp) _ _) ((((Below.refl _ _).alloc (Nat.le_refl _) _).alloc (by simp) _).alloc (by simp;omega) _) (by simp)
end
end Go.Proofs.YtafpmkdlciioaaaGreatDoor
namespace Go.Proofs.YtafpmkdlciioaaaGreatDoor
def wd (N k:Nat):Nat:=(N >>> (64*k))%2 ^ 64
def nw (N:Nat):Nat:=if N=0 then 0 else N.log2/64+1
theorem wd_lt (N k:Nat):wd N k < 2 ^ 64:=Nat.mod_lt _ (Nat.two_pow_pos 64)
theorem testBit_wd (N k i:Nat):(wd N k).testBit i=(decide (i < 64)&&N.testBit (64*k+i)):=by
 unfold wd;rw [Nat.testBit_mod_two_pow,Nat.testBit_shiftRight]
theorem wd_or (N M k:Nat):wd (N|||M) k=wd N k|||wd M k:=by
 apply Nat.eq_of_testBit_eq;intro i
 simp only [testBit_wd,Nat.testBit_or];cases decide (i < 64) <;> simp
theorem wd_and (N M k:Nat):wd (N&&&M) k=wd N k&&&wd M k:=by
 apply Nat.eq_of_testBit_eq;intro i
 simp only [testBit_wd,Nat.testBit_and];cases decide (i < 64) <;> simp
theorem nw_zero:nw 0=0:=rfl
theorem nw_le_iff (N n:Nat):nw N≤n↔N < 2 ^ (64*n):=by
 unfold nw
 by_cases h:N=0
 ·subst h;simp [Nat.two_pow_pos]
 ·rw [if_neg h,← Nat.log2_lt h];omega
theorem nw_eq_zero {N:Nat}:nw N=0↔N=0:=by
 unfold nw;by_cases h:N=0 <;> simp [h]
theorem testBit_div (N i:Nat):N.testBit i=(wd N (i/64)).testBit (i%64):=by
 rw [testBit_wd,Nat.div_add_mod];simp [Nat.mod_lt]
theorem wd_ext {N M:Nat} (h:∀ k,wd N k=wd M k):N=M:=by
 apply Nat.eq_of_testBit_eq;intro i;rw [testBit_div,testBit_div M,h]
theorem wd_ge {N k:Nat} (h:nw N≤k):wd N k=0:=by
 have h1:=(nw_le_iff N k).1 h
 unfold wd;rw [Nat.shiftRight_eq_div_pow,Nat.div_eq_of_lt h1]
theorem wd_top {N:Nat} (h:0 < nw N):wd N (nw N-1)≠0:=by
 intro hz
 have h1:¬ N < 2 ^ (64*(nw N-1)):=by rw [← nw_le_iff];omega
 have h2:N < 2 ^ (64*nw N):=(nw_le_iff N _).1 (Nat.le_refl _)
 apply h1
 unfold wd at hz
 rw [Nat.shiftRight_eq_div_pow,Nat.mod_eq_of_lt] at hz
 ·rcases Nat.div_eq_zero_iff.1 hz with h | h
  ·exact absurd h (Nat.ne_of_gt (Nat.two_pow_pos _))
  ·exact h
 ·rw [Nat.div_lt_iff_lt_mul (Nat.two_pow_pos _),← Nat.pow_add]
  have:64+64*(nw N-1)=64*nw N:=by omega
  rw [this];exact h2
theorem nw_of_top {N n:Nat} (h:∀ k,n≤k→wd N k=0) (ht:n=0∨wd N (n-1)≠0):nw N=n:=by
 have h1:nw N≤n:=by
  rcases Nat.lt_or_ge n (nw N) with hl | hl
  ·exact absurd (h (nw N-1) (by omega)) (wd_top (by omega))
  ·exact hl
 rcases ht with rfl | ht
 ·omega
 ·rcases Nat.lt_or_ge (nw N) n with hl | hl
  ·exact absurd (wd_ge (by omega)) ht
  ·omega
theorem nw_or (N M:Nat):nw (N|||M)=max (nw N) (nw M):=by
 apply nw_of_top
 ·intro k hk;rw [wd_or,wd_ge (by omega),wd_ge (by omega)];rfl
 ·by_cases hz:max (nw N) (nw M)=0
  ·exact .inl hz
  ·right;rw [wd_or];intro h0
   have hh:=Nat.or_eq_zero_iff.1 h0
   rcases Nat.le_total (nw N) (nw M) with h | h
   ·rw [Nat.max_eq_right h] at hh;exact wd_top (by omega) hh.2
   ·rw [Nat.max_eq_left h] at hh;exact wd_top (by omega) hh.1
def ofW (f:Nat→Nat):Nat→Nat
 | 0=>0
 | n+1=>ofW f n|||(f n%2 ^ 64) <<< (64*n)
theorem wd_shl (x n k:Nat) (hx:x < 2 ^ 64):wd (x <<< (64*n)) k=if k=n then x else 0:=by
 apply Nat.eq_of_testBit_eq;intro i
 rw [testBit_wd,Nat.testBit_shiftLeft]
 by_cases hk:k=n
 ·subst hk
  by_cases hi:i < 64
  ·simp [hi]
  ·have:x.testBit i=false:=Nat.testBit_lt_two_pow (Nat.lt_of_lt_of_le hx (Nat.pow_le_pow_right (by omega) (by omega)))
   simp [hi,this]
 ·rw [if_neg hk,Nat.zero_testBit]
  by_cases hi:i < 64
  ·rcases Nat.lt_or_ge (64*k+i) (64*n) with hl | hl
   ·have:¬ 64*n≤64*k+i:=by omega
    simp [this]
   ·have:x.testBit (64*k+i-64*n)=false:=Nat.testBit_lt_two_pow (Nat.lt_of_lt_of_le hx (Nat.pow_le_pow_right (by omega) (by omega)))
    simp [this]
  ·simp [hi]
theorem wd_zero (k:Nat):wd 0 k=0:=by simp [wd]
theorem testBit_mod (x k:Nat):(x/2 ^ k%2=1)=(x.testBit k=true):=by
 rw [Nat.testBit_eq_decide_div_mod_eq];simp
theorem testBit_ge {N n i:Nat} (h:nw N≤n) (hi:64*n≤i):N.testBit i=false :=
 Nat.testBit_lt_two_pow (Nat.lt_of_lt_of_le ((nw_le_iff N n).1 h) (Nat.pow_le_pow_right (by omega) hi))
def lowN (m:Nat):Nat:=2 ^ m-1
theorem testBit_lowN (m i:Nat):(lowN m).testBit i=decide (i < m):=Nat.testBit_two_pow_sub_one m i
theorem wd_full {m k:Nat} (h:64*(k+1)≤m):wd (lowN m) k=18446744073709551615:=by
 apply Nat.eq_of_testBit_eq;intro i
 rw [testBit_wd,testBit_lowN,show 18446744073709551615=2 ^ 64-1 by decide,Nat.testBit_two_pow_sub_one]
 by_cases hi:i < 64
 ·simp [hi];omega
 ·simp [hi]
theorem wd_part {m k:Nat} (h1:64*k≤m) (h:m≤64*(k+1)):wd (lowN m) k=2 ^ (m-64*k)-1:=by
 apply Nat.eq_of_testBit_eq;intro i
 rw [testBit_wd,testBit_lowN,Nat.testBit_two_pow_sub_one]
 by_cases hi:i < 64
 ·simp [hi];omega
 ·simp [hi];omega
theorem nw_lowN (m:Nat):nw (lowN m)=(m+63)/64:=by
 apply nw_of_top
 ·intro k hk
  apply Nat.eq_of_testBit_eq;intro i
  rw [testBit_wd,testBit_lowN,Nat.zero_testBit]
  have:¬ 64*k+i < m:=by omega
  simp [this]
 ·by_cases hm:m=0
  ·left;omega
  ·right
   intro hz
   have h1:=testBit_wd (lowN m) ((m+63)/64-1) ((m-1)%64)
   rw [hz,Nat.zero_testBit,testBit_lowN] at h1
   have h2:(m-1)%64 < 64:=Nat.mod_lt _ (by omega)
   have h3:64*((m+63)/64-1)+(m-1)%64 < m:=by omega
   simp [h2,h3] at h1
theorem wd_pow (i k:Nat):wd (2 ^ i) k=if k=i/64 then 2 ^ (i%64) else 0:=by
 have e:2 ^ i=(2 ^ (i%64)) <<< (64*(i/64)):=by
  rw [Nat.shiftLeft_eq,← Nat.pow_add];congr 1;omega
 rw [e,wd_shl _ _ _ (Nat.pow_lt_pow_right (by omega) (Nat.mod_lt _ (by omega)))]
theorem wd_with (N i k:Nat):wd (N|||2 ^ i) k=if k=i/64 then wd N k|||2 ^ (i%64) else wd N k:=by
 rw [wd_or,wd_pow];split
 ·rfl
 ·rw [Nat.or_zero]
theorem nw_pow (i:Nat):nw (2 ^ i)=i/64+1:=by
 apply nw_of_top
 ·intro k hk;rw [wd_pow,if_neg (by omega)]
 ·right;rw [wd_pow,if_pos (by omega)];exact Nat.ne_of_gt (Nat.two_pow_pos _)
def setStep (N:Nat) (x:Int):Nat:=if 0≤x∧x≤4095 then N|||2 ^ x.toNat else N
def setOf (l:List Int):Nat:=l.foldl setStep 0
def topStep (t x:Int):Int:=if x≤4095 then (if t < x then x else t) else t
def topOf (l:List Int):Int:=l.foldl topStep (-1)
theorem topOf_snoc (l:List Int) (x:Int):topOf (l ++ [x])=topStep (topOf l) x:=by simp [topOf]
theorem setOf_snoc (l:List Int) (x:Int):setOf (l ++ [x])=setStep (setOf l) x:=by simp [setOf]
theorem topOf_bd (l:List Int):-1≤topOf l∧topOf l≤4095:=by
 have:∀ (l:List Int) (t:Int),-1≤t→t≤4095→-1≤l.foldl topStep t∧l.foldl topStep t≤4095:=by
  intro l
  induction l with
  | nil=>intro t h1 h2;exact ⟨h1,h2⟩
  | cons x l ih=>intro t h1 h2;refine ih _ ?_ ?_ <;> (unfold topStep;split <;> (try split) <;> omega)
 exact this l (-1) (by omega) (by omega)
theorem topOf_ge (l:List Int):∀ x∈l,x≤4095→x≤topOf l:=by
 have mono:∀ (l:List Int) (t:Int),t≤l.foldl topStep t:=by
  intro l
  induction l with
  | nil=>intro t;exact Int.le_refl _
  | cons x l ih=>intro t;refine Int.le_trans ?_ (ih _);unfold topStep;split <;> (try split) <;> omega
 have:∀ (l:List Int) (t:Int),∀ x∈l,x≤4095→x≤l.foldl topStep t:=by
  intro l
  induction l with
  | nil=>intro t x hx;cases hx
  | cons y l ih =>
   intro t x hx h
   rcases List.mem_cons.1 hx with rfl | hx
   ·refine Int.le_trans ?_ (mono l _);unfold topStep;rw [if_pos h];split <;> omega
   ·exact ih _ x hx h
 exact this l (-1)
theorem testBit_setOf (l:List Int) (i:Nat):(setOf l).testBit i=decide (i≤4095∧(i:Int)∈l):=by
 have:∀ (l:List Int) (N:Nat),(l.foldl setStep N).testBit i=(N.testBit i||decide (i≤4095∧(i:Int)∈l)):=by
  intro l
  induction l with
  | nil=>intro N;simp
  | cons x l ih =>
   intro N
   rw [List.foldl_cons,ih]
   unfold setStep
   by_cases hx:0≤x∧x≤4095
   ·rw [if_pos hx,Nat.testBit_or,Nat.testBit_two_pow]
    by_cases hi:x.toNat=i
    ·have h1:(i:Int)=x:=by omega
     have h2:i≤4095:=by omega
     simp [hi,h1,h2]
    ·have h1:¬ (i:Int)=x:=by omega
     simp [hi,h1]
   ·rw [if_neg hx]
    have h1:i≤4095→¬ (i:Int)=x:=by omega
    by_cases h2:i≤4095
    ·simp [h1 h2,h2]
    ·simp [h2]
 rw [setOf,this];simp
theorem nw_setOf (l:List Int) (n:Nat) (h:∀ x∈l,x≤4095→x < 64*n):nw (setOf l)≤n:=by
 rw [nw_le_iff]
 apply Nat.lt_pow_two_of_testBit
 intro i hi
 rw [testBit_setOf,decide_eq_false_iff_not]
 rintro ⟨h1,h2⟩
 have:=h _ h2 (by omega)
 omega
end Go.Proofs.YtafpmkdlciioaaaGreatDoor
namespace Go.Proofs.YtafpmkdlciioaaaGreatDoor
open Go.RowKit
abbrev u64 (x:Nat):Value:=.int .u64 (x:Int)
def IsSet (w:World) (v:Value) (N:Nat):Prop :=
 ∃ (A:Option Addr) (c:Nat),v=.slice A (nw N) c∧nw N≤64∧nw N≤c∧c≤maxLen ∧
  (0 < nw N→∃ g cs,A=some ⟨g,0,none⟩∧Blk w g 146 cs∧∀ k,k < nw N→cs[k]?=some (u64 (wd N k)))
section
variable {w w':World} {v:Value} {N:Nat}
def KeepW (w w':World):Prop:=w.heap.size≤w'.heap.size∧∀ g cs,Blk w g 146 cs→Blk w' g 146 cs
theorem KeepW.refl (w:World):KeepW w w:=⟨Nat.le_refl _,fun _ _ h=>h⟩
theorem KeepW.trans {a b c:World} (h:KeepW a b) (k:KeepW b c):KeepW a c:=⟨Nat.le_trans h.1 k.1,fun g cs hg=>k.2 g cs (h.2 g cs hg)⟩
theorem KeepW.of_below (hb:Below w.heap.size w w'):KeepW w w':=⟨hb.size,fun _ _ h=>h.below hb h.lt⟩
theorem KeepW.alloc (w:World) (o:Obj):KeepW w (w.alloc o):=⟨by simp,fun _ _ h=>h.alloc o⟩
theorem KeepW.setCell {p:Addr} {t:TypeId} {cs:Array Value} (h:Blk w p.block t cs) (ht:146≠t) (u:Value):KeepW w (w.setCell p u) :=
 ⟨by simp [World.setCell],fun _ _ hg=>hg.far (hg.ne_ h ht) u⟩
theorem IsSet.keep (h:IsSet w v N) (hk:KeepW w w'):IsSet w' v N:=by
 obtain ⟨A,c,hv,h1,h2,h3,h4⟩:=h
 refine ⟨A,c,hv,h1,h2,h3,fun hn=>?_⟩
 obtain ⟨g,cs,hA,hb,hc⟩:=h4 hn
 exact ⟨g,cs,hA,hk.2 _ _ hb,hc⟩
theorem IsSet.below (h:IsSet w v N) (hb:Below w.heap.size w w'):IsSet w' v N:=h.keep (.of_below hb)
theorem IsSet.empty (w:World):IsSet w (.slice none 0 0) 0:=⟨none,0,rfl,by decide,by decide,Nat.zero_le _,fun h=>absurd h (by decide)⟩
theorem le64 {c:Nat} (h:c≤64):c≤maxLen:=by unfold maxLen;omega
theorem IsSet.mk_ {g c:Nat} {cs:Array Value} (hb:Blk w g 146 cs) (hn:nw N≤64) (hc:nw N≤c) (hc':c≤maxLen) (h:∀ k,k < nw N→cs[k]?=some (u64 (wd N k))) :
  IsSet w (.slice (some ⟨g,0,none⟩) (nw N) c) N:=⟨_,c,rfl,hn,hc,hc',fun _=>⟨g,cs,rfl,hb,h⟩⟩
end
theorem ret_bool {a b:Bool} (h:a=b):Ending.returned (.bool a)=.returned (.bool b):=by rw [h]
theorem ret_int {k:IntKind} {a b:Int} (h:a=b):Ending.returned (.int k a)=.returned (.int k b):=by rw [h]
theorem u64_one (x:Nat) (hx:x < 2 ^ 64):bits .and .u64 (x:Int) 1=((x%2:Nat):Int):=by
 rw [show (1:Int)=((1:Nat):Int) from rfl,u64_and_nat x 1 hx (by decide),Nat.and_one_is_mod]
theorem has_form (N i:Nat):(bits .and .u64 ((wd N (i/64):Int)/2 ^ (i%64)) 1 == 1)=N.testBit i:=by
 have e:((wd N (i/64):Int)/2 ^ (i%64))=((wd N (i/64)/2 ^ (i%64):Nat):Int):=by simp
 rw [e,u64_one _ (Nat.lt_of_le_of_lt (Nat.div_le_self _ _) (wd_lt _ _)),testBit_div N i,Bool.eq_iff_iff,← testBit_mod]
 simp only [beq_iff_eq]
 omega
theorem word_any (v:Value) (N k:Nat) (w:World) (hs:IsSet w v N) :
  Calls Tryz.prog 113 #[.agg #[v],.int .i64 k] w fun e w'=>e=.returned (u64 (wd N k))∧Below w.heap.size w w':=by
 obtain ⟨A,c,rfl,h1,_,_,h4⟩:=hs
 by_cases hk:k < nw N
 ·obtain ⟨g,cs,rfl,hb,hc⟩:=h4 (by omega)
  have hlt:=hb.lt
  have hcell:w.cell? ⟨g,k,none⟩=some (u64 (wd N k)):=(hb.cell k).trans (hc k hk)
  clear h4 hc hb
  go_enter Tryz.func113,Tryz.ntmps113
  go_wp2
  go_ret
  exact ⟨rfl,(Below.refl _ _).alloc (Nat.le_refl _) _⟩
 ·rw [wd_ge (by omega)]
  clear h4
  go_enter Tryz.func113,Tryz.ntmps113
  go_wp2
  go_ret
  exact ⟨rfl,(Below.refl _ _).alloc (Nat.le_refl _) _⟩
def hasB (N:Nat) (i:Int):Bool:=decide (0≤i)&&N.testBit i.toNat
theorem hasB_nat (N i:Nat):hasB N i=N.testBit i:=by simp [hasB]
theorem hasB_neg (N:Nat) {i:Int} (h:i < 0):hasB N i=false:=by simp [hasB];omega
theorem testBit_big {N i:Nat} (h:nw N≤64) (hi:4096≤i):N.testBit i=false:=testBit_ge h (by omega)
theorem has_in (v:Value) (N i:Nat) (w:World) (hs:IsSet w v N) (hi:i≤4095) :
  Calls Tryz.prog 87 #[.agg #[v],.int .i64 i] w fun e w'=>e=.returned (.bool (N.testBit i))∧Below w.heap.size w w':=by
 obtain ⟨A,c,rfl,hN,_⟩:=id hs
 have h1:(0:Int)≤i:=by omega
 go_enter Tryz.func87,Tryz.ntmps87
 have hs1:=hs.keep (KeepW.alloc w (.cells #[Value.slice A (nw N) c] 58))
 go_wp2_with (go_at_call 113;refine (word_any _ N (i/64) _ hs1).mono ?_;rintro e w1 ⟨rfl,hb1⟩)
 go_ret
 exact ⟨ret_bool (has_form N i),((Below.refl _ _).alloc (Nat.le_refl _) _).trans (hb1.mono (by simp))⟩
theorem has_out (v:Value) (i:Int) (w:World) (hi:i < 0∨4095 < i) :
  Calls Tryz.prog 87 #[.agg #[v],.int .i64 i] w fun e w'=>e=.returned (.bool false)∧Below w.heap.size w w':=by
 rcases hi with h | h
 ·go_enter Tryz.func87,Tryz.ntmps87
  go_wp2
  go_ret
  exact ⟨rfl,(Below.refl _ _).alloc (Nat.le_refl _) _⟩
 ·have h0:0≤i:=by omega
  have h2:¬ i≤4095:=by omega
  go_enter Tryz.func87,Tryz.ntmps87
  go_wp2
  go_ret
  exact ⟨rfl,(Below.refl _ _).alloc (Nat.le_refl _) _⟩
theorem has_any (v:Value) (N:Nat) (i:Int) (w:World) (hs:IsSet w v N) :
  Calls Tryz.prog 87 #[.agg #[v],.int .i64 i] w fun e w'=>e=.returned (.bool (hasB N i))∧Below w.heap.size w w':=by
 by_cases h:0≤i
 ·obtain ⟨n,rfl⟩:=Int.eq_ofNat_of_zero_le h
  rw [hasB_nat]
  by_cases h2:n≤4095
  ·exact has_in v N n w hs h2
  ·rw [testBit_big (by obtain ⟨_,_,_,h,_⟩:=hs;exact h) (by omega)]
   exact has_out v _ w (by omega)
 ·rw [hasB_neg N (by omega)]
  exact has_out v _ w (by omega)
def quietOp:Op→Bool
 | .move _ | .assign _ | .pick .. | .nilCheck _ | .binOp .. | .unOp .. | .convert .. | .fieldAddr .. | .field .. | .indexAddr .. | .index .. | .extract .. | .slice .. | .load ..=>true
 | .call { callee:=.builtin b,.. }=>match b with | .len | .cap | .min | .max=>true | _=>false
 | _=>false
def earlyGo:List Oper→Nat→List Nat→List Nat
 | [],_,acc=>acc.reverse
 | o :: l,k,acc=>earlyGo l (k+1) (if quietOp o.op&&o.after.all (fun e=>!Region.binds .any e||acc.contains e.on) then k :: acc else acc)
def early (l:List Oper):List Nat:=earlyGo l 0 []
def dstOf (l:List Oper) (i:Nat):Option Tmp:=(l[i]?).bind (·.dst)
def looks (l:List Oper) (i:Nat):List Tmp:=match l[i]? with | some o=>o.looksAt l.toArray | none=>[]
def waitsI (l:List Oper) (j i:Nat):Bool:=match l[j]? with | some o=>o.after.any fun e=>Region.binds .any e&&e.on == i | none=>false
def okOp (l:List Oper) (i:Nat):Bool:=match l[i]? with
 | some o=>(match o.op with | .select ..=>false | _=>true)&&o.after.all fun e=>!Region.binds .any e||decide (e.on < i)
 | none=>false
def sortedB:List Nat→Bool
 | a :: b :: r=>decide (a < b)&&sortedB (b :: r)
 | _=>true
def chainT (l:List Oper):List Nat→Bool
 | a :: b :: r=>waitsI l b a&&chainT l (b :: r)
 | _=>true
def chk (l:List Oper) (E T:List Nat):Bool :=
 (List.range l.length).all (okOp l)&&(List.range l.length).all (fun i=>E.contains i != T.contains i)&&(E ++ T).all (fun i=>decide (i < l.length))&&sortedB E &&
 E.all (fun i=>(List.range l.length).all fun j=>i == j||(dstOf l i).isNone||dstOf l i != dstOf l j) &&
 E.all (fun i=>(List.range l.length).all fun j=>match dstOf l i with | none=>true | some d=>!(looks l j).contains d||waitsI l j i) &&
 T.all (fun j=>E.all fun i=>match dstOf l j with | none=>true | some d=>!(looks l i).contains d)&&chainT l T &&
 (T.isEmpty||E.all fun i=>(List.range l.length).any fun j=>decide (i < j)&&waitsI l j i)
structure Chk (l:List Oper) (E T:List Nat):Prop where
 ok:∀ i o,l[i]?=some o→(∀ cs b,o.op≠.select cs b)∧∀ e∈o.after,Region.binds .any e=true→e.on < i
 part:∀ i,i < l.length→(i∈E↔i ∉ T)
 lt:∀ i,i∈E∨i∈T→i < l.length
 sorted:sortedB E=true
 dist:∀ i∈E,∀ j,j < l.length→i≠j→∀ d,dstOf l i=some d→dstOf l j≠some d
 reads:∀ i∈E,∀ j,j < l.length→∀ d,dstOf l i=some d→d∈looks l j→waitsI l j i=true
 apart:∀ j∈T,∀ i∈E,∀ d,dstOf l j=some d→d ∉ looks l i
 chain:chainT l T=true
 sink:T≠[]→∀ i∈E,∃ j,j < l.length∧i < j∧waitsI l j i=true
theorem chk_spec {l:List Oper} {E T:List Nat} (h:chk l E T=true):Chk l E T:=by
 simp only [chk,Bool.and_eq_true,List.all_eq_true,List.mem_range,Bool.or_eq_true,List.mem_append] at h
 obtain ⟨⟨⟨⟨⟨⟨⟨⟨h1,h2⟩,h3⟩,h4⟩,h5⟩,h6⟩,h7⟩,h8⟩,h9⟩:=h
 refine ⟨fun i o ho=>?_,fun i hi=>?_,fun i hi=>by simpa using h3 i hi,h4,fun i hi j hj hne d hd=>?_,fun i hi j hj d hd hl=>?_,fun j hj i hi d hd hl=>?_,h8,fun hT i hi=>?_⟩
 ·have hlt:i < l.length:=(List.getElem?_eq_some_iff.1 ho).1
  have:=h1 i hlt
  simp only [okOp,ho,Bool.and_eq_true,Array.all_eq_true'] at this
  refine ⟨fun cs b hs=>by simp [hs] at this,fun e he hb=>?_⟩
  have:=this.2 e he
  simpa [hb] using this
 ·have:=h2 i hi
  by_cases hE:i∈E <;> by_cases hT:i∈T <;> simp_all
 ·have:=h5 i hi j hj
  rcases this with (this | this) | this
  ·exact absurd (by simpa using this) hne
  ·simp [hd] at this
  ·intro e;simp [hd,e] at this
 ·have:=h6 i hi j hj
  simp only [hd,Bool.or_eq_true] at this
  rcases this with this | this
  ·simp [hl] at this
  ·exact this
 ·have:=h7 j hj i hi
  simp [hd,hl] at this
 ·rcases h9 with h9 | h9
  ·exact absurd (by simpa using h9) hT
  ·obtain ⟨j,hj,h⟩:=List.any_eq_true.1 (h9 i hi)
   simp only [Bool.and_eq_true,decide_eq_true_eq] at h
   exact ⟨j,List.mem_range.1 hj,h.1,h.2⟩
section
variable {P:Program} {l:List Oper} {S:World→Prop} {c:Nat→Value}
theorem waitsI_spec {j i:Nat} (h:waitsI l j i=true):∃ o,l[j]?=some o∧∃ e∈o.after,Region.binds .any e=true∧e.on=i:=by
 unfold waitsI at h
 split at h
 ·rename_i o ho
  obtain ⟨e,he,hb⟩:=Array.any_eq_true'.1 h
  simp only [Bool.and_eq_true,beq_iff_eq] at hb
  exact ⟨o,ho,e,he,hb.1,hb.2⟩
 ·cases h
theorem put_size (a:Act) (d:Option Tmp) (v:Value):(a.put d v).tmps.size=a.tmps.size:=by cases d <;> simp [Act.put]
theorem put_put (a:Act) (d:Option Tmp) (v:Value):(a.put d v).put d v=a.put d v:=by
 cases d with
 | none=>rfl
 | some d=>simp [Act.put]
theorem put_get_ne {a:Act} {d:Option Tmp} {v:Value} {t:Tmp} (h:d≠some t):(a.put d v).tmps[t]?=a.tmps[t]?:=by
 cases d with
 | none=>rfl
 | some d=>exact Array.getElem?_setIfInBounds_ne (fun e=>h (by rw [e]))
theorem put_get {a b:Act} {t:Tmp} (v:Value) (h:a.tmps.size=b.tmps.size):(a.put (some t) v).tmps[t]?=(b.put (some t) v).tmps[t]?:=by
 show (a.tmps.setIfInBounds t v)[t]?=(b.tmps.setIfInBounds t v)[t]?
 rw [Array.getElem?_setIfInBounds_self,Array.getElem?_setIfInBounds_self,h]
def putAll (l:List Oper) (c:Nat→Value):List Nat→Act→Act
 | [],a=>a
 | i :: E,a=>putAll l c E (a.put (dstOf l i) (c i))
theorem putAll_size:∀ (E:List Nat) (a:Act),(putAll l c E a).tmps.size=a.tmps.size
 | [],_=>rfl
 | i :: E,a=>by rw [putAll,putAll_size E,put_size]
theorem putAll_ne {t:Tmp}:∀ (E:List Nat) (a:Act),(∀ i∈E,dstOf l i≠some t)→(putAll l c E a).tmps[t]?=a.tmps[t]?
 | [],_,_=>rfl
 | i :: E,a,h=>by rw [putAll,putAll_ne E _ (fun j hj=>h j (List.mem_cons_of_mem _ hj)),put_get_ne (h i (List.mem_cons_self ..))]
theorem putAll_at {t:Tmp} {i:Nat} (hd:dstOf l i=some t):∀ (E:List Nat) (a:Act),i∈E→(∀ j∈E,j≠i→dstOf l j≠some t)→(putAll l c E a).tmps[t]?=(a.put (some t) (c i)).tmps[t]?
 | j :: E,a,h,hne=>by
  rw [putAll]
  by_cases hiE:i∈E
  ·rw [putAll_at hd E _ hiE (fun k hk hki=>hne k (List.mem_cons_of_mem _ hk) hki)]
   exact put_get _ (put_size ..)
  ·have hji:j=i:=by
    rcases List.mem_cons.1 h with e | e
    ·exact e.symm
    ·exact absurd e hiE
   subst hji
   rw [putAll_ne E _ (fun k hk=>hne k (List.mem_cons_of_mem _ hk) (fun e=>hiE (e▸hk))),hd]
theorem putAll_put {d:Option Tmp} {v:Value}:∀ (E:List Nat) (a:Act),(∀ i∈E,∀ t,d=some t→dstOf l i≠some t)→putAll l c E (a.put d v)=(putAll l c E a).put d v
 | [],_,_=>rfl
 | i :: E,a,h=>by
  rw [putAll,putAll,← putAll_put E _ (fun j hj=>h j (List.mem_cons_of_mem _ hj))]
  rw [Act.put_comm a v (c i) (h i (List.mem_cons_self ..))]
theorem putAll_own {i:Nat}:∀ (E:List Nat) (a:Act),i∈E→(∀ j∈E,j≠i→∀ d,dstOf l i=some d→dstOf l j≠some d)→putAll l c E (a.put (dstOf l i) (c i))=putAll l c E a
 | j :: E,a,h,hne=>by
  rw [putAll,putAll]
  by_cases hji:j=i
  ·subst hji;rw [put_put]
  ·have hiE:i∈E:=by
    rcases List.mem_cons.1 h with e | e
    ·exact absurd e.symm hji
    ·exact e
   rw [Act.put_comm a (c i) (c j) (fun d hd=>hne j (List.mem_cons_self ..) hji d hd),putAll_own E _ hiE (fun k hk hki=>hne k (List.mem_cons_of_mem _ hk) hki)]
theorem putAll_same:∀ (E:List Nat) (a:Act),(∀ i∈E,a.put (dstOf l i) (c i)=a)→putAll l c E a=a
 | [],_,_=>rfl
 | i :: E,a,h=>by rw [putAll,h i (List.mem_cons_self ..)];exact putAll_same E a (fun j hj=>h j (List.mem_cons_of_mem _ hj))
theorem putAll_defers (D:List Deferred):∀ (E:List Nat) (a:Act),putAll l c E { a with defers:=D }={ putAll l c E a with defers:=D }
 | [],_=>rfl
 | i :: E,a=>by
  rw [putAll,putAll,← putAll_defers D E]
  cases dstOf l i <;> rfl
def EY (P:Program) (S:World→Prop) (l:List Oper) (i:Nat) (a:Act) (v:Value):Prop :=
 match l[i]? with
 | none=>False
 | some o=>if Region.wanted o (yielded l.toArray a.tmps)=true then ∀ W,S W→(execOp a.eval o).run P W=.ok (.value v) W else v=undef
theorem eval_agree {a b:Act} {o:Oper} (h:∀ t∈o.looksAt l.toArray,b.tmps[t]?=a.tmps[t]?):∀ x∈o.op.operands,b.eval x=a.eval x:=fun x hx=>by
 cases x with
 | tmp t =>
  have ht:t∈o.looksAt l.toArray:=List.mem_append_left _ (List.mem_filterMap.2 ⟨.tmp t,by simpa using hx,rfl⟩)
  simp only [Act.eval,Array.getD_eq_getD_getElem?,h t ht]
 | _=>rfl
theorem wanted_agree {a b:Act} {o:Oper} (h:∀ t∈o.looksAt l.toArray,b.tmps[t]?=a.tmps[t]?):Region.wanted o (yielded l.toArray b.tmps)=Region.wanted o (yielded l.toArray a.tmps):=by
 unfold Region.wanted
 cases hg:o.guard with
 | none=>rfl
 | some gw =>
  obtain ⟨g,want⟩:=gw
  have hy:yielded l.toArray b.tmps g=yielded l.toArray a.tmps g:=by
   unfold yielded
   cases ht:(l.toArray[g]?).bind (·.dst) with
   | none=>rfl
   | some t =>
    have hm:t∈o.looksAt l.toArray:=List.mem_append_right _ (by simp only [hg,ht];simp)
    simp only [Option.bind_some,h t hm]
  simp only [hy]
theorem EY.agree {i:Nat} {a b:Act} {v:Value} (hsel:∀ o,l[i]?=some o→∀ cs d,o.op≠.select cs d) (hy:EY P S l i a v) (h:∀ t∈looks l i,b.tmps[t]?=a.tmps[t]?):EY P S l i b v:=by
 unfold EY at *
 cases ho:l[i]? with
 | none=>rw [ho] at hy;exact hy
 | some o =>
  rw [ho] at hy
  simp only [looks,ho] at h
  dsimp only at hy ⊢
  rw [wanted_agree h,execOp_congr o (hsel o ho) (eval_agree h)]
  exact hy
def wpE (P:Program) (S:World→Prop) (l:List Oper):List Nat→Act→(Act→Prop)→Prop
 | [],a,K=>K a
 | i :: E,a,K=>∃ v,EY P S l i a v∧wpE P S l E (a.put (dstOf l i) v) K
def nxt (K:Act→World→Prop):Exit→Act→World→Prop
 | .normal,a,w=>K a w
 | _,_,_=>False
def wpSp (P:Program) (S:World→Prop) (l:List Oper) (Q:Exit→Act→World→Prop):List Nat→Act→World→Prop
 | [],a,W=>Q .normal a W
 | s :: T,a,W=>S W∧match l[s]? with
  | none=>False
  | some o=>wpList P l.toArray (nxt (wpSp P S l Q T)) [o] a W
theorem wpE_spec:∀ (E:List Nat) (a:Act) (K:Act→Prop),E.Nodup→wpE P S l E a K→∃ c:Nat→Value,(∀ pre i suf,E=pre ++ i :: suf→EY P S l i (putAll l c pre a) (c i))∧K (putAll l c E a)
 | [],a,K,_,h=>⟨fun _=>undef,fun pre i suf e=>by simp at e,h⟩
 | i :: E,a,K,hn,h=>by
  obtain ⟨v,hy,h⟩:=h
  obtain ⟨hi,hn⟩:=List.nodup_cons.1 hn
  obtain ⟨c,hc,hK⟩:=wpE_spec E _ K hn h
  have hset:∀ (L:List Nat) (b:Act),i ∉ L→putAll l (fun k=>if k=i then v else c k) L b=putAll l c L b:=by
   intro L
   induction L with
   | nil=>intro b _;rfl
   | cons j L ih =>
    intro b hL
    have hj:j≠i:=fun e=>hL (by rw [e];exact List.mem_cons_self ..)
    rw [putAll,putAll,ih _ (fun h=>hL (List.mem_cons_of_mem _ h)),if_neg hj]
  refine ⟨fun k=>if k=i then v else c k,fun pre j suf e=>?_,?_⟩
  ·cases pre with
   | nil =>
    obtain ⟨rfl,rfl⟩:=List.cons.inj e
    simpa [putAll] using hy
   | cons p pre =>
    obtain ⟨rfl,e2⟩:=List.cons.inj e
    have e3:E=pre ++ j :: suf:=e2
    have hj:j≠i:=fun e'=>hi (by rw [e3,← e'];simp)
    have hp:i ∉ pre:=fun h=>hi (by rw [e3];exact List.mem_append_left _ h)
    have:=hc pre j suf e3
    simp only [putAll,hset pre _ hp,if_true,if_neg hj]
    exact this
  ·rw [putAll,hset E _ hi,if_pos rfl];exact hK
theorem sortedB_lt:∀ {E:List Nat} {i:Nat},sortedB (i :: E)=true→∀ j∈E,i < j
 | [],_,_,_,hj=>by cases hj
 | a :: E,i,h,j,hj=>by
  simp only [sortedB,Bool.and_eq_true,decide_eq_true_eq] at h
  rcases List.mem_cons.1 hj with rfl | hj
  ·exact h.1
  ·exact Nat.lt_trans h.1 (sortedB_lt h.2 j hj)
theorem sortedB_tail {E:List Nat} {i:Nat} (h:sortedB (i :: E)=true):sortedB E=true:=by
 cases E with
 | nil=>rfl
 | cons a E=>simp only [sortedB,Bool.and_eq_true] at h;exact h.2
theorem sortedB_nodup:∀ {E:List Nat},sortedB E=true→E.Nodup
 | [],_=>List.nodup_nil
 | i :: _,h=>List.nodup_cons.2 ⟨fun hi=>Nat.lt_irrefl i (sortedB_lt h i hi),sortedB_nodup (sortedB_tail h)⟩
theorem sortedB_split:∀ {E:List Nat} {i:Nat},sortedB E=true→i∈E→∃ pre suf,E=pre ++ i :: suf∧∀ j∈E,j < i→j∈pre
 | a :: E,i,h,hi=>by
  rcases List.mem_cons.1 hi with rfl | hi
  ·refine ⟨[],E,rfl,fun j hj hlt=>?_⟩
   rcases List.mem_cons.1 hj with rfl | hj
   ·omega
   ·have:=sortedB_lt h j hj;omega
  ·obtain ⟨pre,suf,e,hp⟩:=sortedB_split (sortedB_tail h) hi
   refine ⟨a :: pre,suf,by rw [e];rfl,fun j hj hlt=>?_⟩
   rcases List.mem_cons.1 hj with rfl | hj
   ·exact List.mem_cons_self ..
   ·exact List.mem_cons_of_mem _ (hp j hj hlt)
theorem chain_pred:∀ {T:List Nat} {r s:Nat},chainT l (r :: T)=true→s∈T→∃ p∈r :: T,waitsI l s p=true
 | b :: T,r,s,h,hs=>by
  simp only [chainT,Bool.and_eq_true] at h
  rcases List.mem_cons.1 hs with rfl | hs
  ·exact ⟨r,List.mem_cons_self ..,h.1⟩
  ·obtain ⟨p,hp,hw⟩:=chain_pred h.2 hs
   exact ⟨p,List.mem_cons_of_mem _ hp,hw⟩
theorem chain_drop:∀ {pre T:List Nat},chainT l (pre ++ T)=true→chainT l T=true
 | [],_,h=>h
 | [a],T,h=>by
  cases T with
  | nil=>rfl
  | cons b T=>simp only [List.cons_append,List.nil_append,chainT,Bool.and_eq_true] at h;exact h.2
 | a :: b :: pre,T,h=>by
  simp only [List.cons_append,chainT,Bool.and_eq_true] at h
  exact chain_drop (pre:=b :: pre) h.2
def on (listed:Array Bool) (i:Nat):Prop:=listed[i]?=some true
theorem on_set {listed:Array Bool} {i j:Nat} (h:on listed j):on (listed.setIfInBounds i true) j:=by
 unfold on at *
 rw [Array.getElem?_setIfInBounds]
 split
 ·rename_i e;subst e
  rw [if_pos (Array.getElem?_eq_some_iff.1 h).1]
 ·exact h
theorem on_self {listed:Array Bool} {i:Nat} (h:i < listed.size):on (listed.setIfInBounds i true) i:=by
 unfold on;rw [Array.getElem?_setIfInBounds,if_pos rfl,if_pos h]
theorem on_of_set {listed:Array Bool} {i j:Nat} (h:on (listed.setIfInBounds i true) j):j=i∨on listed j:=by
 unfold on at *
 rw [Array.getElem?_setIfInBounds] at h
 split at h
 ·rename_i e;exact .inl e.symm
 ·exact .inr h
theorem ready_spec {listed:Array Bool} {i:Nat} (hs:listed.size=l.length):i∈Region.ready .any l.toArray listed ↔
  i < l.length∧¬ on listed i∧∃ o,l[i]?=some o∧∀ e∈o.after,Region.binds .any e=true→on listed e.on:=by
 rw [mem_ready]
 unfold on
 constructor
 ·rintro ⟨h0,o,ho,hall⟩
  have ho':l[i]?=some o:=by simpa using ho
  have hlt:i < l.length:=(List.getElem?_eq_some_iff.1 ho').1
  refine ⟨hlt,?_,o,ho',fun e he hb=>?_⟩
  ·have:i < listed.size:=by omega
   simp [this] at h0
   simp [this,h0]
  ·have:=hall e he hb
   rcases Nat.lt_or_ge e.on listed.size with h | h
   ·simp [h] at this;simp [h,this]
   ·simp [Array.getElem?_eq_none h] at this
 ·rintro ⟨hlt,h0,o,ho,hall⟩
  refine ⟨?_,o,by simpa using ho,fun e he hb=>?_⟩
  ·have:i < listed.size:=by omega
   simp [this] at h0
   simp [this,h0]
  ·have:=hall e he hb
   obtain ⟨h1,h2⟩:=Array.getElem?_eq_some_iff.1 this
   simp [h1,h2]
variable {E T:List Nat} {Q:Exit→Act→World→Prop} {a:Act}
structure Inv (P:Program) (S:World→Prop) (l:List Oper) (c:Nat→Value) (E T:List Nat) (Q:Exit→Act→World→Prop) (a:Act) (listed:Array Bool) (b:Act) (W:World) (R:List Nat):Prop where
 size:listed.size=l.length
 asize:b.tmps.size=a.tmps.size
 closed:∀ j i,on listed j→waitsI l j i=true→on listed i
 idem:∀ i∈E,on listed i→b.put (dstOf l i) (c i)=b
 old:∀ t,(∀ j,j < l.length→on listed j→dstOf l j≠some t)→b.tmps[t]?=a.tmps[t]?
 rem:∃ pre,T=pre ++ R∧(∀ t∈pre,on listed t)∧(∀ t∈R,¬ on listed t)
 sOK:R=[]→S W∨∀ i∈E,on listed i
 go:wpSp P S l Q R (putAll l c E b) W
theorem Inv.closed_set {listed:Array Bool} {i:Nat} (hc:∀ j i,on listed j→waitsI l j i=true→on listed i) (hs:listed.size=l.length) (hr:i∈Region.ready .any l.toArray listed) :
  ∀ j k,on (listed.setIfInBounds i true) j→waitsI l j k=true→on (listed.setIfInBounds i true) k:=fun j k hj hw=>by
 rcases on_of_set hj with rfl | hj
 ·obtain ⟨_,_,o,ho,hall⟩:=(ready_spec hs).1 hr
  obtain ⟨o',ho',e,he,hb,rfl⟩:=waitsI_spec hw
  rw [ho] at ho';cases ho'
  exact on_set (hall e he hb)
 ·exact on_set (hc j k hj hw)
theorem Inv.early_of_all {listed:Array Bool} (hC:Chk l E T) (hT:T≠[]) (hcl:∀ j i,on listed j→waitsI l j i=true→on listed i) (hall:∀ t∈T,on listed t):∀ i∈E,on listed i:=by
 have:∀ d i,l.length-i=d→i∈E→on listed i:=by
  intro d
  induction d using Nat.strongRecOn with
  | _ d ih =>
   intro i hd hi
   obtain ⟨j,hj,hij,hw⟩:=hC.sink hT i hi
   by_cases hjE:j∈E
   ·exact hcl j i (ih (l.length-j) (by omega) j rfl hjE) hw
   ·have:j∈T:=by
     by_cases hjT:j∈T
     ·exact hjT
     ·exact absurd ((hC.part j hj).2 hjT) hjE
    exact hcl j i (hall j this) hw
 exact fun i hi=>this _ i rfl hi
theorem Inv.early (hC:Chk l E T) (hc:∀ pre i suf,E=pre ++ i :: suf→EY P S l i (putAll l c pre a) (c i)) {listed:Array Bool} {b:Act} {W:World} {R:List Nat}
  (I:Inv P S l c E T Q a listed b W R) {i:Nat} (hr:i∈Region.ready .any l.toArray listed) (hiE:i∈E) :
  Inv P S l c E T Q a (listed.setIfInBounds i true) (b.put (dstOf l i) (c i)) W R∧∀ K:Act→World→Prop,K (b.put (dstOf l i) (c i)) W→wpOp P l.toArray Q i K b W:=by
 obtain ⟨hlt,hun,o,ho,hall⟩:=(ready_spec I.size).1 hr
 have hisz:i < listed.size:=by rw [I.size];exact hlt
 constructor
 ·refine ⟨by simpa using I.size,by rw [put_size];exact I.asize,Inv.closed_set I.closed I.size hr,fun k hk hon=>?_,fun t ht=>?_,?_,fun hR=>?_,?_⟩
  ·by_cases hki:k=i
   ·subst hki;exact put_put _ _ _
   ·have hon':=(on_of_set hon).resolve_left hki
    rw [Act.put_comm b (c i) (c k) (fun d hd=>hC.dist i hiE k (hC.lt k (.inl hk)) (Ne.symm hki) d hd),I.idem k hk hon']
  ·rw [put_get_ne (ht i hlt (on_self hisz))]
   exact I.old t fun j hj hon=>ht j hj (on_set hon)
  ·obtain ⟨pre,e,h1,h2⟩:=I.rem
   refine ⟨pre,e,fun t ht=>on_set (h1 t ht),fun t ht hon=>?_⟩
   rcases on_of_set hon with rfl | hon
   ·exact (hC.part t hlt).1 hiE (by rw [e];exact List.mem_append_right _ ht)
   ·exact h2 t ht hon
  ·rcases I.sOK hR with h | h
   ·exact .inl h
   ·exact .inr fun k hk=>on_set (h k hk)
  ·rw [putAll_own E b hiE (fun j hj hji d hd=>hC.dist i hiE j (hC.lt j (.inl hj)) (Ne.symm hji) d hd)]
   exact I.go
 ·intro K hK
  obtain ⟨pre,suf,he,hpre⟩:=sortedB_split hC.sorted hiE
  have hy:=hc pre i suf he
  have hSW:S W:=by
   cases R with
   | nil =>
    rcases I.sOK rfl with h | h
    ·exact h
    ·exact absurd (h i hiE) hun
   | cons s R=>exact I.go.1
  have hag:∀ t∈looks l i,b.tmps[t]?=(putAll l c pre a).tmps[t]?:=fun t ht=>by
   by_cases hex:∃ j,j < l.length∧dstOf l j=some t
   ·obtain ⟨j,hj,hd⟩:=hex
    have hjE:j∈E:=by
     by_cases hjE:j∈E
     ·exact hjE
     ·have hjT:j∈T:=by
       by_cases hjT:j∈T
       ·exact hjT
       ·exact absurd ((hC.part j hj).2 hjT) hjE
      exact absurd ht (hC.apart j hjT i hiE t hd)
    have hw:=hC.reads j hjE i hlt t hd ht
    obtain ⟨o',ho',e,hee,hb,rfl⟩:=waitsI_spec hw
    rw [ho] at ho';cases ho'
    have hji:=(hC.ok i o ho).2 e hee hb
    have hon:=hall e hee hb
    have h1:=I.idem e.on hjE hon
    rw [putAll_at hd pre a (hpre e.on hjE hji) (fun k hk hke=>hC.dist e.on hjE k (hC.lt k (.inl (by rw [he];exact List.mem_append_left _ hk))) (Ne.symm hke) t hd)]
    rw [← h1,hd]
    exact put_get _ I.asize
   ·have hno:∀ j,j < l.length→dstOf l j≠some t:=fun j hj hd=>hex ⟨j,hj,hd⟩
    rw [I.old t fun j hj _=>hno j hj,putAll_ne pre a fun k hk=>hno k (hC.lt k (.inl (by rw [he];exact List.mem_append_left _ hk)))]
  have hyb:=hy.agree (b:=b) (fun o' ho'=>by rw [ho] at ho';cases ho';exact (hC.ok i o ho).1) hag
  unfold EY at hyb
  unfold wpOp
  have ho':l.toArray[i]?=some o:=by simpa using ho
  have hd:dstOf l i=o.dst:=by simp [dstOf,ho]
  simp only [ho] at hyb
  simp only [ho']
  rw [hd] at hK
  split
  ·rename_i hw
   rw [if_pos hw] at hyb
   refine .inl ?_
   unfold Oper.wp
   rw [hyb W hSW]
   exact hK
  ·rename_i hw
   rw [if_neg hw] at hyb
   rw [← hyb];exact hK
theorem upon_to {o:Oper} {A b:Act} {K K':Act→World→Prop} (hv:∀ v W,K (A.put o.dst v) W→K' (b.put o.dst v) W)
  (hd:∀ d W,K ({ A with defers:=d :: A.defers }.put o.dst undef) W→K' ({ b with defers:=d :: b.defers }.put o.dst undef) W) :
  ∀ r:Result Next,o.upon P A K (nxt K) r→o.upon P b K' Q r:=fun r h=>by
 cases r with
 | ok n w' =>
  cases n with
  | value v=>exact hv v w' h
  | skip=>exact hv undef w' h
  | defer d=>exact hd d w' h
  | enter f args =>
   refine Calls.mono h fun e w'' he=>?_
   cases e with
   | returned v=>exact hv v w'' he
   | panicked chain=>exact he.elim
   | outgrown=>obtain ⟨_,_,h⟩:=he;exact h.elim
  | row r args=>exact Rows.mono h fun v w'' he=>hv v w'' he
  | _=>exact h
 | halt x w' =>
  cases x <;> first | exact h | exact h.elim
theorem Inv.other (hC:Chk l E T) {listed:Array Bool} {b:Act} {W:World} {R:List Nat}
  (I:Inv P S l c E T Q a listed b W R) {s:Nat} (hr:s∈Region.ready .any l.toArray listed) (hsT:s∈T) (K:Act→World→Prop)
  (hK:∀ b' W' R',Inv P S l c E T Q a (listed.setIfInBounds s true) b' W' R'→K b' W'):wpOp P l.toArray Q s K b W:=by
 obtain ⟨hlt,hun,o,ho,hall⟩:=(ready_spec I.size).1 hr
 have hssz:s < listed.size:=by rw [I.size];exact hlt
 obtain ⟨pre,hTe,hp,hR⟩:=I.rem
 have hsR:s∈R:=by
  rw [hTe] at hsT
  rcases List.mem_append.1 hsT with h | h
  ·exact absurd (hp s h) hun
  ·exact h
 cases R with
 | nil=>cases hsR
 | cons r R =>
  have hch:chainT l (r :: R)=true:=chain_drop (pre:=pre) (by rw [← hTe];exact hC.chain)
  have hsr:s=r:=by
   rcases List.mem_cons.1 hsR with h | h
   ·exact h
   ·obtain ⟨p,hpm,hw⟩:=chain_pred hch h
    obtain ⟨o',ho',e,he,hb,rfl⟩:=waitsI_spec hw
    rw [ho] at ho';cases ho'
    exact absurd (hall e he hb) (hR _ hpm)
  subst hsr
  have hsE:s ∉ E:=fun h=>(hC.part s hlt).1 h hsT
  have hnd:∀ i∈E,∀ t,o.dst=some t→dstOf l i≠some t:=fun i hi t hd hdi=>by
   have:=hC.dist i hi s hlt (fun e=>hsE (e▸hi)) t hdi
   exact this (by simp [dstOf,ho,hd])
  obtain ⟨_,hgo⟩:=I.go
  rw [ho] at hgo
  dsimp only at hgo
  have hag:∀ t∈o.looksAt l.toArray,b.tmps[t]?=(putAll l c E b).tmps[t]?:=fun t ht=>by
   by_cases hex:∃ i∈E,dstOf l i=some t
   ·obtain ⟨i,hi,hd⟩:=hex
    have hw:=hC.reads i hi s hlt t hd (by simpa [looks,ho] using ht)
    obtain ⟨o',ho',e,he,hb,rfl⟩:=waitsI_spec hw
    rw [ho] at ho';cases ho'
    rw [putAll_at hd E b hi (fun k hk hke=>hC.dist e.on hi k (hC.lt k (.inl hk)) (Ne.symm hke) t hd),← hd,I.idem e.on hi (hall e he hb)]
   ·rw [putAll_ne E b fun i hi hd=>hex ⟨i,hi,hd⟩]
  have ho':l.toArray[s]?=some o:=by simpa using ho
  have next:∀ b' W',b'.tmps=(b.put o.dst (b'.tmps.getD 0 undef)).tmps∨True→(∃ v D,b'=({ b with defers:=D }:Act).put o.dst v)→wpSp P S l Q R (putAll l c E b') W'→K b' W':=by
   rintro b' W'-⟨v,D,rfl⟩ hsp
   have hput:∀ d v',(({ b with defers:=D }:Act).put o.dst v).put d v'={ (b.put o.dst v).put d v' with defers:=D }:=fun d v'=>by
    cases d <;> cases o.dst <;> rfl
   refine hK _ _ R ⟨by simpa using I.size,by rw [put_size];exact I.asize,Inv.closed_set I.closed I.size hr,fun i hi hon=>?_,fun t ht=>?_,?_,fun hR0=>?_,hsp⟩
   ·have hne:i≠s:=fun e=>hsE (e▸hi)
    have hon':=(on_of_set hon).resolve_left hne
    rw [hput,Act.put_comm b v (c i) (fun d hd=>hnd i hi d hd),I.idem i hi hon']
    cases o.dst <;> rfl
   ·have h1:=ht s hlt (on_self hssz)
    have h2:dstOf l s=o.dst:=by simp [dstOf,ho]
    rw [h2] at h1
    rw [put_get_ne h1]
    exact I.old t fun j hj hon=>ht j hj (on_set hon)
   ·refine ⟨pre ++ [s],by rw [hTe];simp,fun t ht=>?_,fun t ht hon=>?_⟩
    ·rcases List.mem_append.1 ht with h | h
     ·exact on_set (hp t h)
     ·rw [List.mem_singleton.1 h];exact on_self hssz
    ·rcases on_of_set hon with rfl | hon
     ·obtain ⟨p,hpm,hw⟩:=chain_pred hch ht
      obtain ⟨o',ho',e,he,hb,rfl⟩:=waitsI_spec hw
      rw [ho] at ho';cases ho'
      exact hR _ hpm (hall e he hb)
     ·exact hR t (List.mem_cons_of_mem _ ht) hon
   ·refine .inr (Inv.early_of_all hC (fun e=>by rw [e] at hTe;simp at hTe) (Inv.closed_set I.closed I.size hr) fun t ht=>?_)
    subst hR0
    rw [hTe] at ht
    rcases List.mem_append.1 ht with h | h
    ·exact on_set (hp t h)
    ·rw [List.mem_singleton.1 h];exact on_self hssz
  unfold wpOp
  simp only [ho']
  unfold wpList at hgo
  rw [← wanted_agree hag] at hgo
  split
  ·rename_i hw
   rw [if_pos hw] at hgo
   rcases hgo with hgo | ⟨_,_,_,h⟩
   ·refine .inl ?_
    unfold Oper.wp at *
    rw [execOp_congr o (hC.ok s o ho).1 (eval_agree hag)]
    refine upon_to (A:=putAll l c E b) (K:=wpSp P S l Q R) (fun v W' h=>?_) (fun d W' h=>?_) _ hgo
    ·refine next _ _ (.inr trivial) ⟨v,b.defers,rfl⟩ ?_
     rw [putAll_put E b (fun i hi t hd=>hnd i hi t hd)];exact h
    ·have hdf:(putAll l c E b).defers=b.defers:=by
      have:=putAll_defers (l:=l) (c:=c) b.defers E b
      have h2:=congrArg Act.defers this
      exact h2
     refine next _ _ (.inr trivial) ⟨undef,d :: b.defers,rfl⟩ ?_
     rw [putAll_put E _ (fun i hi t hd=>hnd i hi t hd),putAll_defers]
     rw [hdf] at h;exact h
   ·exact h.elim
  ·rename_i hw
   rw [if_neg hw] at hgo
   refine next _ _ (.inr trivial) ⟨undef,b.defers,rfl⟩ ?_
   rw [putAll_put E b (fun i hi t hd=>hnd i hi t hd)];exact hgo
theorem Inv.done (hC:Chk l E T) {listed:Array Bool} {b:Act} {W:World} {R:List Nat} (I:Inv P S l c E T Q a listed b W R) (hr:Region.ready .any l.toArray listed=[]):Q .normal b W:=by
 have hall:∀ i,i < l.length→on listed i:=by
  intro i
  induction i using Nat.strongRecOn with
  | _ i ih =>
   intro hi
   by_cases hon:on listed i
   ·exact hon
   ·have:i∈Region.ready .any l.toArray listed:=(ready_spec I.size).2 ⟨hi,hon,l[i],List.getElem?_eq_getElem hi,fun e he hb =>
     have hlt:=(hC.ok i _ (List.getElem?_eq_getElem hi)).2 e he hb
     ih e.on hlt (by omega)⟩
    rw [hr] at this;cases this
 obtain ⟨pre,hTe,_,hR⟩:=I.rem
 cases R with
 | cons r R=>exact absurd (hall r (hC.lt r (.inr (by rw [hTe];simp)))) (hR r (List.mem_cons_self ..))
 | nil =>
  have:=I.go
  rw [putAll_same E b fun i hi=>I.idem i hi (hall i (hC.lt i (.inl hi)))] at this
  exact this
theorem Inv.any (hC:Chk l E T) (hc:∀ pre i suf,E=pre ++ i :: suf→EY P S l i (putAll l c pre a) (c i)):∀ (fuel:Nat) (listed:Array Bool) (b:Act) (W:World) (R:List Nat),
  listed.toList.count false=fuel→Inv P S l c E T Q a listed b W R→wpAny P .any l.toArray Q fuel listed b W
 | 0,listed,b,W,R,hf,I=>by
  have hr:Region.ready .any l.toArray listed=[]:=by
   apply List.eq_nil_iff_forall_not_mem.2
   intro i hi
   obtain ⟨hlt,hun,_⟩:=(ready_spec I.size).1 hi
   have h1:i < listed.toList.length:=by rw [Array.length_toList,I.size];exact hlt
   have h2:listed.toList[i]=false:=by
    unfold on at hun
    have h3:i < listed.size:=by rw [I.size];exact hlt
    simp [h3] at hun
    simpa using hun
   have:=List.count_pos_iff.2 (h2▸List.getElem_mem h1)
   omega
  exact ⟨hr,I.done hC hr⟩
 | fuel+1,listed,b,W,R,hf,I=>by
  refine ⟨fun hr=>I.done hC hr,fun i hi=>?_⟩
  obtain ⟨hlt,hun,_⟩:=(ready_spec I.size).1 hi
  have hcount:(listed.setIfInBounds i true).toList.count false=fuel:=by
   have h1:i < listed.toList.length:=by rw [Array.length_toList,I.size];exact hlt
   have h2:listed.toList[i]=false:=by
    unfold on at hun
    have h3:i < listed.size:=by rw [I.size];exact hlt
    simp [h3] at hun
    simpa using hun
   rw [Array.toList_setIfInBounds,List.count_set h1,h2,hf]
   simp
  by_cases hiE:i∈E
  ·obtain ⟨I',hop⟩:=I.early hC hc hi hiE
   exact hop _ (Inv.any hC hc fuel _ _ _ _ hcount I')
  ·have hiT:i∈T:=by
    by_cases hiT:i∈T
    ·exact hiT
    ·exact absurd ((hC.part i hlt).2 hiT) hiE
   exact I.other hC hi hiT _ fun b' W' R' I'=>Inv.any hC hc fuel _ _ _ _ hcount I'
theorem wp_spine {id:Nat} {w:World} (S:World→Prop) (E T:List Nat) (hm:P.follows .mixedOrders=true) (hC:chk l E T=true)
  (h:wpE P S l E a fun a'=>(T=[]→S w.drew)∧wpSp P S l Q T a' w.drew):(Code.region id l.toArray true).wp P Q a w:=by
 have hC:=chk_spec hC
 obtain ⟨c,hc,hS,hgo⟩:=wpE_spec E a _ (sortedB_nodup hC.sorted) h
 have hoff:∀ i,¬ on (Array.replicate l.toArray.size false) i:=fun i h=>by
  unfold on at h
  obtain ⟨h1,h2⟩:=Array.getElem?_eq_some_iff.1 h
  simp at h2
 refine wp_region_any hm (Inv.any (c:=c) (a:=a) (E:=E) (T:=T) hC hc _ _ _ _ T (by simp) ⟨by simp,rfl,fun j _ h=>absurd h (hoff j),fun i _ h=>absurd h (hoff i),fun _ _=>rfl,⟨[],rfl,(fun _ h=>by cases h),fun t _=>hoff t⟩,fun hT=>.inl (hS hT),hgo⟩)
theorem wpE_nil {K:Act→Prop} (h:K a):wpE P S l [] a K:=h
theorem wpE_op {i:Nat} {o:Oper} {v:Value} {K:Act→Prop} (ho:l[i]?=some o) (hg:o.guard=none) (h:∀ W,S W→(execOp a.eval o).run P W=.ok (.value v) W) (hr:wpE P S l E (a.put o.dst v) K):wpE P S l (i :: E) a K:=by
 refine ⟨v,?_,?_⟩
 ·unfold EY;rw [ho];dsimp only;rw [if_pos (by simp [Region.wanted,hg])];exact h
 ·simpa [dstOf,ho] using hr
theorem wpE_yes {i:Nat} {o:Oper} {v:Value} {K:Act→Prop} (ho:l[i]?=some o) (hg:Region.wanted o (yielded l.toArray a.tmps)=true) (h:∀ W,S W→(execOp a.eval o).run P W=.ok (.value v) W) (hr:wpE P S l E (a.put o.dst v) K):wpE P S l (i :: E) a K:=by
 refine ⟨v,?_,?_⟩
 ·unfold EY;rw [ho];dsimp only;rw [if_pos hg];exact h
 ·simpa [dstOf,ho] using hr
theorem wpE_no {i:Nat} {o:Oper} {K:Act→Prop} (ho:l[i]?=some o) (hg:Region.wanted o (yielded l.toArray a.tmps)=false) (hr:wpE P S l E (a.put o.dst undef) K):wpE P S l (i :: E) a K:=by
 refine ⟨undef,?_,?_⟩
 ·unfold EY;rw [ho];dsimp only;rw [if_neg (by rw [hg];decide)]
 ·simpa [dstOf,ho] using hr
theorem wpSp_op {s:Nat} {o:Oper} {W:World} (ho:l[s]?=some o) (hS:S W) (h:wpList P l.toArray (nxt (wpSp P S l Q T)) [o] a W):wpSp P S l Q (s :: T) a W :=
 ⟨hS,by rw [ho];exact h⟩
theorem nxt_op {s:Nat} {o:Oper} {W:World} (ho:l[s]?=some o) (hS:S W) (h:wpList P l.toArray (nxt (wpSp P S l Q T)) [o] a W):nxt (wpSp P S l Q (s :: T)) .normal a W:=wpSp_op ho hS h
theorem nxt_nil {W:World} (h:Q .normal a W):nxt (wpSp P S l Q []) .normal a W:=h
theorem wpSp_nil {W:World} (h:Q .normal a W):wpSp P S l Q [] a W:=h
end
section
variable {P:Program} {l:List Oper} {Q:Exit→Act→World→Prop}
end
section
variable {P:Program} {l:List Oper} {Q:Exit→Act→World→Prop} {n:Nat} {ls:Array Bool} {S:World→Prop} {a:Act} {W:World}
end
theorem info_u64:(Tryz.prog.info? 146).map (fun i=>(i.zero,i.size,i.bytes))=some (some (.int .u64 0),1,8):=by kernel_rfl
theorem make_u64 (n:Nat) (hn:n≤65536) (w:World) :
  (Instr.makeSlice 56 (.int .i64 (n:Int)) (.int .i64 (n:Int))).run Tryz.prog w=.ok (.slice (some ⟨w.heap.size,0,none⟩) n n) (w.alloc (.cells (zeros (.int .u64 0) n) 146)) :=
 make_run 56 146 _ 8 Tryz.underlying56 info_u64 rfl n (by omega) hn w
theorem or_any (v u:Value) (N M:Nat) (w:World) (hs:IsSet w v N) (ho:IsSet w u M) :
  Calls Tryz.prog 84 #[.agg #[v],.agg #[u]] w fun e w'=>∃ r,e=.returned (.agg #[r])∧IsSet w' r (N|||M)∧Below w.heap.size w w':=by
 obtain ⟨A,c,rfl,hN,_⟩:=id hs
 obtain ⟨A',c',rfl,hM,_⟩:=id ho
 have hL:nw (N|||M)≤64:=by rw [nw_or];omega
 have hmx:(if nw N < nw M then (nw M:Int) else (nw N:Int))=(nw (N|||M):Int):=by rw [nw_or];split <;> omega
 obtain ⟨L,hLe⟩:∃ L,L=nw (N|||M):=⟨_,rfl⟩
 rw [← hLe] at hL hmx
 have HL:=Lib.hid hLe;clear hLe
 have hmk:=make_u64 L (by omega)
 go_enter Tryz.func84,Tryz.ntmps84
 go_wp2_with fail
 refine abs4 fun W0 hA0 hB0 hR0 hW0 hbel0 hz=>?_
 have hw0:=hW0.fill0 (fun j=>u64 (wd N j|||wd M j))
 have hs1:=hs.below hbel0
 have ho1:=ho.below hbel0
 have HZ:=Lib.hid hz;clear hz
 go_loopw [17] (fun i wr=>∃ k:Nat,k≤L∧i=.int .i64 k∧Blk wr (w.heap.size+3) 146 (filled (.int .u64 0) (fun j=>u64 (wd N j|||wd M j)) k L)∧Below (w.heap.size+3) W0 wr)
  (fun i _=>L-(intOf i).toNat)
 case atStart=>exact ⟨0,Nat.zero_le _,rfl,hw0,Below.refl _ _⟩
 case round =>
  obtain ⟨k,hk,rfl,hb,hbel⟩:=hrel
  have cA:=(hA0.below hbel (by omega)).cell 0
  have cB:=(hB0.below hbel (by omega)).cell 0
  have hbw:Below w.heap.size w wr:=hbel0.trans (hbel.mono (by omega))
  have hs1:=hs.below hbw
  have ho1:=ho.below hbw
  by_cases hlt:k < L
  ·have cW:=hb.cell k
   have fW:=hb.frozen k
   rw [filled_get _ _ hlt,if_neg (by omega)] at cW
   have hor:=u64_or_nat (wd N k) (wd M k) (wd_lt N k) (wd_lt M k)
   have hset:=filled_set (.int .u64 0) (fun j=>u64 (wd N j|||wd M j)) hlt
   have HSET:=Lib.hid hset;clear hset
   go_wp2_with fail
   refine wp_spine (fun W=>W.cell? ⟨w.heap.size,0,none⟩=some (.slice A (nw N) c)∧W.cell? ⟨w.heap.size+1,0,none⟩=some (.slice A' (nw M) c')∧Below wr.heap.size wr W) [0,1,2,3,5,6] [4,7,8,9,10] (by kernel_rfl) (by kernel_rfl) ?_
   iterate 6 (refine wpE_op (v:=?_) rfl rfl (fun W hW=>?_) ?_;rotate_left;(go_simp;first | done | with_reducible rfl);simp only [pt1,pt3,pt4,pt5])
   refine wpE_nil ⟨fun h=>(by cases h),wpSp_op rfl ⟨cA,cB,(Below.refl _ _).drew⟩ ?_⟩
   go_wp2_with fail
   refine (word_any _ N k _ (hs1.below (Below.refl _ _).drew)).mono ?_
   rintro e w1 ⟨rfl,hb1⟩
   have hB1:Below wr.heap.size wr w1:=(Below.refl _ _).drew.trans hb1
   go_wp2_with fail
   refine nxt_op rfl ⟨onB hB1 cA,onB hB1 cB,hB1⟩ ?_
   go_wp2_with fail
   refine (word_any _ M k _ (ho1.below hB1)).mono ?_
   rintro e w2 ⟨rfl,hb2⟩
   have hB2:Below wr.heap.size wr w2:=hB1.trans (hb2.mono hB1.size)
   go_wp2_with fail
   refine nxt_op rfl ⟨onB hB2 cA,onB hB2 cB,hB2⟩ ?_
   go_wp2_with fail
   refine nxt_op rfl ⟨onB hB2 cA,onB hB2 cB,hB2⟩ ?_
   go_wp2_with fail
   refine nxt_op rfl ⟨onB hB2 cA,onB hB2 cB,hB2⟩ ?_
   have cW2:=onB hB2 cW
   have fW2:w2.frozen? ⟨w.heap.size+3,k,none⟩=false:=onFrozen hB2 cW fW
   go_wp2_with fail
   refine nxt_nil ?_
   go_wp2_with fail
   have hb2:=((hb.below hB2 hb.lt).set_ k (u64 (wd N k|||wd M k)))
   rw [HSET.out] at hb2
   exact ⟨⟨k+1,by omega,by go_num,hb2,(hbel.trans (hB2.mono (by have:=hbel.size;have:=HZ.out;omega))).setCell (by simp) _⟩,by simp [intOf];omega⟩
  ·obtain rfl:k=L:=by omega
   have cR:=(hR0.below hbel (by omega)).cell 0
   have fR:=(hR0.below hbel (by omega)).frozen 0
   go_wp2_with fail
   have cX:=((hR0.below hbel (by omega)).set_ 0 (.slice (some ⟨w.heap.size+3,0,none⟩) k k)).cell 0
   refine bodyPost_ret (v:=.agg #[.slice (some ⟨w.heap.size+3,0,none⟩) k k]) (by simp [results,Tryz.results84,go_sem,cX]) rfl ⟨_,rfl,?_,(hbel0.trans (hbel.mono (by omega))).setCell (by simp;omega) _⟩
   have hk':=HL.out
   rw [hk'] at hb hL ⊢
   exact IsSet.mk_ (hb.far (by simp) _) hL (Nat.le_refl _) (le64 hL) (fun j hj=>by rw [filled_get _ _ hj,if_pos hj,wd_or])
def Words (w:World) (A:Option Addr) (n:Nat) (N:Nat):Prop :=
 (0 < n→∃ g cs,A=some ⟨g,0,none⟩∧Blk w g 146 cs∧∀ k,k < n→cs[k]?=some (u64 (wd N k)))∧∀ k,n≤k→wd N k=0
theorem Words.below {w w':World} {A:Option Addr} {n N:Nat} (h:Words w A n N) (hb:Below w.heap.size w w'):Words w' A n N :=
 ⟨fun hn=>by
  obtain ⟨g,cs,hA,hB,hc⟩:=h.1 hn
  exact ⟨g,cs,hA,hB.below hb hB.lt,hc⟩,h.2⟩
def slen:Value→Nat | .slice _ m _=>m | _=>0
theorem trim_any (A:Option Addr) (n c N:Nat) (w:World) (hw:Words w A n N) (_hn:n≤64) (hc:n≤c) (hc':c≤maxLen) :
  Calls Tryz.prog 70 #[.slice A n c] w fun e w'=>∃ r,e=.returned (.agg #[r])∧IsSet w' r N∧Below w.heap.size w w':=by
 go_enter Tryz.func70,Tryz.ntmps70
 go_wp2_with fail
 refine abs1 fun W0 hA0 hbel0 hz=>?_
 have hw0:=hw.below hbel0
 have cR:=hA0.cell 0
 have fR:=hA0.frozen 0
 go_loop [0] (fun s=>∃ m:Nat,m≤n∧s=.slice A m c∧Words W0 A m N) (fun s=>slen s)
 case atStart=>exact ⟨n,Nat.le_refl _,rfl,hw0⟩
 case round =>
  obtain ⟨m,hm,rfl,hwm⟩:=hrel
  by_cases h0:0 < m
  ·obtain ⟨g,cs,rfl,hB,hcs⟩:=hwm.1 h0
   have cW:=(hB.cell (m-1)).trans (hcs (m-1) (by omega))
   by_cases hzz:wd N (m-1)=0
   ·have e0:((wd N (m-1):Int) == 0)=true:=by simp [hzz]
    have hz2:∀ k,m-1≤k→wd N k=0:=fun k hk=>by
     by_cases hkm:k=m-1
     ·rw [hkm];exact hzz
     ·exact hwm.2 k (by omega)
    have HZ2:=Lib.hid hz2;clear hz2
    have HZZ:=Lib.hid hzz;clear hzz
    clear hw
    have HCS:=Lib.hid hcs;clear hcs
    go_wp2
    exact ⟨⟨m-1,by omega,rfl,fun hm0=>⟨g,cs,rfl,hB,fun k hk=>HCS.out k (by omega)⟩,HZ2.out⟩,by simp [slen];omega⟩
   ·have e0:((wd N (m-1):Int) == 0)=false:=by simp [hzz]
    have hm2:m=nw N:=(nw_of_top hwm.2 (.inr hzz)).symm
    have HZZ:=Lib.hid hzz;clear hzz
    have HM:=Lib.hid hm2;clear hm2
    clear hw
    have HCS:=Lib.hid hcs;clear hcs
    go_wp2
    have cX:=(hA0.set_ 0 (.slice (some ⟨g,0,none⟩) m c)).cell 0
    refine bodyPost_ret (v:=.agg #[.slice (some ⟨g,0,none⟩) m c]) (by simp [results,Tryz.results70,go_sem,cX]) rfl ⟨_,rfl,?_,hbel0.setCell (by simp) _⟩
    have e:=HM.out;subst e
    exact IsSet.mk_ (hB.far (p:=⟨w.heap.size,0,none⟩) (hB.ne_ hA0 (by decide)) _) (by omega) (by omega) hc' HCS.out
  ·obtain rfl:m=0:=by omega
   have hN:N=0:=wd_ext fun k=>by rw [hwm.2 k (by omega),wd_zero]
   subst hN
   clear hw
   go_wp2
   have cX:=(hA0.set_ 0 (.slice A 0 c)).cell 0
   refine bodyPost_ret (v:=.agg #[.slice A 0 c]) (by simp [results,Tryz.results70,go_sem,cX]) rfl ⟨_,rfl,⟨A,c,rfl,by decide,by simp [nw_zero],hc',fun h=>absurd h (by decide)⟩,hbel0.setCell (by simp) _⟩
theorem nw_and (N M:Nat):nw (N&&&M)≤min (nw N) (nw M):=by
 rw [Nat.le_min,nw_le_iff,nw_le_iff]
 have h1:=(nw_le_iff N _).1 (Nat.le_refl _)
 have h2:=(nw_le_iff M _).1 (Nat.le_refl _)
 exact ⟨Nat.lt_of_le_of_lt Nat.and_le_left h1,Nat.lt_of_le_of_lt Nat.and_le_right h2⟩
theorem and_any (v u:Value) (N M:Nat) (w:World) (hs:IsSet w v N) (ho:IsSet w u M) :
  Calls Tryz.prog 81 #[.agg #[v],.agg #[u]] w fun e w'=>∃ r,e=.returned (.agg #[r])∧IsSet w' r (N&&&M)∧Below w.heap.size w w':=by
 obtain ⟨A,c,rfl,hN,_,_,h4⟩:=id hs
 obtain ⟨A',c',rfl,hM,_,_,h4'⟩:=id ho
 have hL:min (nw N) (nw M)≤64:=by omega
 have hmx:(if nw M < nw N then (nw M:Int) else (nw N:Int))=(min (nw N) (nw M):Nat):=by split <;> omega
 obtain ⟨L,hLe⟩:∃ L,L=min (nw N) (nw M):=⟨_,rfl⟩
 rw [← hLe] at hL hmx
 have HL:=Lib.hid hLe;clear hLe
 have hmk:=make_u64 L (by omega)
 go_enter Tryz.func81,Tryz.ntmps81
 go_wp2_with fail
 refine abs4 fun W0 hA0 hB0 hR0 hW0 hbel0 hz=>?_
 have hw0:=hW0.fill0 (fun j=>u64 (wd N j&&&wd M j))
 have HZ:=Lib.hid hz;clear hz
 go_loopw [17] (fun i wr=>∃ k:Nat,k≤L∧i=.int .i64 k∧Blk wr (w.heap.size+3) 146 (filled (.int .u64 0) (fun j=>u64 (wd N j&&&wd M j)) k L)∧Below (w.heap.size+3) W0 wr)
  (fun i _=>L-(intOf i).toNat)
 case atStart=>exact ⟨0,Nat.zero_le _,rfl,hw0,Below.refl _ _⟩
 case round =>
  obtain ⟨k,hk,rfl,hb,hbel⟩:=hrel
  have cA:=(hA0.below hbel (by omega)).cell 0
  have cB:=(hB0.below hbel (by omega)).cell 0
  have hbw:Below w.heap.size w wr:=hbel0.trans (hbel.mono (by omega))
  by_cases hlt:k < L
  ·have cW:=hb.cell k
   have fW:=hb.frozen k
   rw [filled_get _ _ hlt,if_neg (by omega)] at cW
   have hor:=u64_and_nat (wd N k) (wd M k) (wd_lt N k) (wd_lt M k)
   have hset:=filled_set (.int .u64 0) (fun j=>u64 (wd N j&&&wd M j)) hlt
   have HSET:=Lib.hid hset;clear hset
   have hk2:=HL.out
   obtain ⟨g,cs,rfl,hg,hcs⟩:=h4 (by omega)
   obtain ⟨g',cs',rfl,hg',hcs'⟩:=h4' (by omega)
   have kN:k < nw N:=by omega
   have kM:k < nw M:=by omega
   have cN:=((hg.below hbw hg.lt).cell k).trans (hcs k kN)
   have cM:=((hg'.below hbw hg'.lt).cell k).trans (hcs' k kM)
   clear hcs hcs' h4 h4' hk2
   go_wp2_with fail
   refine wp_spine (fun W=>Below wr.heap.size wr W) [0,1,2,3,4,5,6,7,8,9,10,11,12,13] [14] (by kernel_rfl) (by kernel_rfl) ?_
   iterate 14 (refine wpE_op (v:=?_) rfl rfl (fun W hW=>?_) ?_;rotate_left;(have c1:=onB hW cA;have c2:=onB hW cB;have c3:=onB hW cN;have c4:=onB hW cM;go_simp;first | done | with_reducible rfl);simp only [pt1,pt3,pt4,pt5])
   refine wpE_nil ⟨fun h=>(by cases h),wpSp_op rfl (Below.refl _ _).drew ?_⟩
   go_wp2_with fail
   refine nxt_nil ?_
   go_wp2_with fail
   have hb2:=((hb.drew).set_ k (u64 (wd N k&&&wd M k)))
   rw [HSET.out] at hb2
   exact ⟨⟨k+1,by omega,by go_num,hb2,hbel.drew.setCell (by simp) _⟩,by simp [intOf];omega⟩
  ·obtain rfl:k=L:=by omega
   have hR:=hR0.below hbel (by omega)
   have cR:=hR.cell 0
   have fR:=hR.frozen 0
   have hw:Words wr (some ⟨w.heap.size+1+1+1,0,none⟩) k (N&&&M):=⟨fun _=>⟨_,_,rfl,hb,fun j hj=>by rw [filled_get _ _ hj,if_pos hj,wd_and]⟩,fun j hj=>wd_ge (by have:=nw_and N M;have:=HL.out;omega)⟩
   go_wp2_with fail
   refine (trim_any _ k k _ _ hw hL (Nat.le_refl _) (le64 hL)).mono ?_
   rintro e w1 ⟨r,rfl,hr,hb1⟩
   obtain ⟨A1,c1,rfl,_⟩:=id hr
   have hr1:=onB hb1 cR
   have fr1:=onFrozen hb1 cR fR
   go_wp2_with fail
   have hX:=(hR.below hb1 hR.lt).set_ 0 (.slice A1 (nw (N&&&M)) c1)
   have cX:=hX.cell 0
   refine bodyPost_ret (v:=.agg #[.slice A1 (nw (N&&&M)) c1]) (by simp [results,Tryz.results81,go_sem,cX]) rfl ⟨_,rfl,?_,((hbw.trans (hb1.mono (by have:=hbel.size;have:=HZ.out;omega)))).setCell (by simp;omega) _⟩
   exact hr.keep (KeepW.setCell (t:=58) (hR.below hb1 hR.lt) (by decide) _)
theorem andNot_zero (a b:Nat) (ha:a < 2 ^ 64) (hb:b < 2 ^ 64):(bits .andNot .u64 (a:Int) (b:Int) != 0)=!decide (a&&&b=a):=by
 rw [u64_andNot_nat a b ha hb]
 have e:(18446744073709551615-b)=2 ^ 64-(b+1):=by omega
 rw [e]
 have hz:(a&&&(2 ^ 64-(b+1))=0)↔(a&&&b=a):=by
  constructor
  ·intro h
   apply Nat.eq_of_testBit_eq;intro i
   have h1:=congrArg (fun x=>x.testBit i) h
   simp only [Nat.testBit_and,Nat.testBit_two_pow_sub_succ hb,Nat.zero_testBit] at h1 ⊢
   by_cases hi:i < 64
   ·simp only [hi,decide_true,Bool.true_and] at h1
    cases ha:a.testBit i <;> cases hb':b.testBit i <;> simp_all
   ·have:a.testBit i=false:=Nat.testBit_lt_two_pow (Nat.lt_of_lt_of_le ha (Nat.pow_le_pow_right (by omega) (by omega)))
    simp [this]
  ·intro h
   apply Nat.eq_of_testBit_eq;intro i
   have h1:=congrArg (fun x=>x.testBit i) h
   simp only [Nat.testBit_and,Nat.testBit_two_pow_sub_succ hb,Nat.zero_testBit] at h1 ⊢
   cases ha:a.testBit i <;> cases hb':b.testBit i <;> simp_all
 by_cases h:a&&&b=a
 ·rw [hz.2 h];simp [h]
 ·have h2:¬ (a&&&(2 ^ 64-(b+1))=0):=fun h3=>h (hz.1 h3)
  rw [decide_eq_false h,Bool.not_false,bne_iff_ne]
  omega
theorem empty_any (v:Value) (N:Nat) (w:World) (hs:IsSet w v N) :
  Calls Tryz.prog 56 #[.agg #[v]] w fun e w'=>e=.returned (.bool (decide (N=0)))∧Below w.heap.size w w':=by
 obtain ⟨A,c,rfl,hN,_,_,h4⟩:=hs
 go_enter Tryz.func56,Tryz.ntmps56
 go_wp2
 go_ret
 refine ⟨ret_bool ?_,(Below.refl _ _).alloc (Nat.le_refl _) _⟩
 rw [Bool.eq_iff_iff,beq_iff_eq,decide_eq_true_eq,← nw_eq_zero];omega
theorem equal_any (v u:Value) (N M:Nat) (w:World) (hs:IsSet w v N) (ho:IsSet w u M) :
  Calls Tryz.prog 23 #[.agg #[v],.agg #[u]] w fun e w'=>e=.returned (.bool (decide (N=M)))∧Below w.heap.size w w':=by
 obtain ⟨A,c,rfl,hN,_,_,h4⟩:=hs
 obtain ⟨A',c',rfl,hM,_,_,h4'⟩:=ho
 by_cases hnm:nw N=nw M
 ·have e0:(((nw N:Nat):Int) != ((nw M:Nat):Int))=false:=by simp [hnm]
  have HNM:=Lib.hid hnm;clear hnm
  go_enter Tryz.func23,Tryz.ntmps23
  go_wp2_with fail
  refine abs2 fun W0 hA0 hB0 hbel0 hz=>?_
  have cA:=hA0.cell 0
  have cB:=hB0.cell 0
  go_loop [17] (fun i=>∃ k:Nat,k≤nw N∧i=.int .i64 k∧∀ j,j < k→wd N j=wd M j) (fun i=>nw N-(intOf i).toNat)
  case atStart=>exact ⟨0,Nat.zero_le _,rfl,fun j hj=>absurd hj (by omega)⟩
  case round =>
   obtain ⟨k,hk,rfl,heq⟩:=hrel
   by_cases hlt:k < nw N
   ·have HEQ:=Lib.hid heq;clear heq
    have hk2:=HNM.out
    obtain ⟨g,cs,rfl,hg,hcs⟩:=h4 (by omega)
    obtain ⟨g',cs',rfl,hg',hcs'⟩:=h4' (by omega)
    have kM:k < nw M:=by omega
    have cN:=((hg.below hbel0 hg.lt).cell k).trans (hcs k hlt)
    have cM:=((hg'.below hbel0 hg'.lt).cell k).trans (hcs' k kM)
    clear hcs hcs' h4 h4' hk2
    by_cases he:wd N k=wd M k
    ·have e1:((wd N k:Int) != (wd M k:Int))=false:=by simp [he]
     have HE:=Lib.hid he;clear he
     go_wp2
     exact ⟨⟨k+1,by omega,by go_num,fun j hj=>by
      by_cases h:j=k
      ·rw [h];exact HE.out
      ·exact HEQ.out j (by omega)⟩,by simp [intOf];omega⟩
    ·have e1:((wd N k:Int) != (wd M k:Int))=true:=by rw [bne_iff_ne];omega
     have HE:=Lib.hid he;clear he
     go_wp2
     go_ret
     exact ⟨ret_bool (by rw [eq_comm,decide_eq_false_iff_not];intro h;exact HE.out (by rw [h])),hbel0⟩
   ·obtain rfl:k=nw N:=by omega
    have HEQ:=Lib.hid heq;clear heq
    clear h4 h4'
    go_wp2
    go_ret
    refine ⟨ret_bool ?_,hbel0⟩
    rw [eq_comm,decide_eq_true_eq]
    exact wd_ext fun j=>by
     by_cases h:j < nw N
     ·exact HEQ.out j h
     ·rw [wd_ge (by omega),wd_ge (by have:=HNM.out;omega)]
 ·have e0:(((nw N:Nat):Int) != ((nw M:Nat):Int))=true:=by rw [bne_iff_ne];omega
  have HNM:=Lib.hid hnm;clear hnm
  clear h4 h4'
  go_enter Tryz.func23,Tryz.ntmps23
  go_wp2
  go_ret
  exact ⟨ret_bool (by rw [eq_comm,decide_eq_false_iff_not];intro h;exact HNM.out (by rw [h])),((Below.refl _ _).alloc (Nat.le_refl _) _).alloc (by simp) _⟩
theorem within_any (v u:Value) (N M:Nat) (w:World) (hs:IsSet w v N) (ho:IsSet w u M) :
  Calls Tryz.prog 68 #[.agg #[v],.agg #[u]] w fun e w'=>e=.returned (.bool (decide (N&&&M=N)))∧Below w.heap.size w w':=by
 obtain ⟨A,c,rfl,hN,_,_,h4⟩:=hs
 obtain ⟨A',c',rfl,hM,_⟩:=id ho
 go_enter Tryz.func68,Tryz.ntmps68
 go_wp2_with fail
 refine abs2 fun W0 hA0 hB0 hbel0 hz=>?_
 go_loopw [10] (fun i wr=>∃ k:Nat,k≤nw N∧i=.int .i64 k∧(∀ j,j < k→wd N j&&&wd M j=wd N j)∧Below W0.heap.size W0 wr) (fun i _=>nw N-(intOf i).toNat)
 case atStart=>exact ⟨0,Nat.zero_le _,rfl,fun j hj=>absurd hj (by omega),Below.refl _ _⟩
 case round =>
  obtain ⟨k,hk,rfl,heq,hbel⟩:=hrel
  have HEQ:=Lib.hid heq;clear heq
  have cA:=onB hbel (hA0.cell 0)
  have cB:=onB hbel (hB0.cell 0)
  have hbw:Below w.heap.size w wr:=hbel0.trans (hbel.mono hbel0.size)
  by_cases hlt:k < nw N
  ·obtain ⟨g,cs,rfl,hg,hcs⟩:=h4 (by omega)
   have cN:=((hg.below hbw hg.lt).cell k).trans (hcs k hlt)
   clear hcs h4
   have hz0:=andNot_zero (wd N k) (wd M k) (wd_lt N k) (wd_lt M k)
   by_cases he:wd N k&&&wd M k=wd N k
   ·rw [decide_eq_true he,Bool.not_true] at hz0
    have HE:=Lib.hid he;clear he
    go_wp2_with (go_at_call 113;refine (word_any _ M k _ (ho.below hbw)).mono ?_;rintro e w1 ⟨rfl,hb1⟩)
    exact ⟨⟨k+1,by omega,by go_num,fun j hj=>by
      by_cases h:j=k
      ·rw [h];exact HE.out
      ·exact HEQ.out j (by omega),hbel.trans (hb1.mono hbel.size)⟩,by simp [intOf];omega⟩
   ·rw [decide_eq_false he,Bool.not_false] at hz0
    have HE:=Lib.hid he;clear he
    go_wp2_with (go_at_call 113;refine (word_any _ M k _ (ho.below hbw)).mono ?_;rintro e w1 ⟨rfl,hb1⟩)
    go_ret
    exact ⟨ret_bool (by rw [eq_comm,decide_eq_false_iff_not];intro h;exact HE.out (by rw [← wd_and,h])),hbw.trans (hb1.mono hbw.size)⟩
  ·obtain rfl:k=nw N:=by omega
   clear h4
   go_wp2
   go_ret
   refine ⟨ret_bool ?_,hbw⟩
   rw [eq_comm,decide_eq_true_eq]
   exact wd_ext fun j=>by
    rw [wd_and]
    by_cases h:j < nw N
    ·exact HEQ.out j h
    ·rw [wd_ge (N:=N) (by omega),Nat.zero_and]
end Go.Proofs.YtafpmkdlciioaaaGreatDoor
namespace Go.Proofs.YtafpmkdlciioaaaGreatDoor
def pc (n x:Nat):Nat:=(List.range n).countP fun i=>x.testBit i
theorem and_lane (k d r c s:Nat) (hd:d < 2 ^ k) (hc:c < 2 ^ k):(d+2 ^ k*r)&&&(c+2 ^ k*s)=(d&&&c)+2 ^ k*(r&&&s):=by
 apply Nat.eq_of_testBit_eq;intro i
 have h:d&&&c < 2 ^ k:=Nat.lt_of_le_of_lt Nat.and_le_left hd
 rw [Nat.testBit_and,Nat.add_comm d,Nat.add_comm c,Nat.add_comm (d&&&c),Nat.testBit_two_pow_mul_add _ hd,Nat.testBit_two_pow_mul_add _ hc,Nat.testBit_two_pow_mul_add _ h]
 split <;> simp
def mask (c:Nat):Nat→Nat
 | 0=>0
 | n+1=>c+256*mask c n
def f1 (n x:Nat):Nat:=((x/2)&&&mask 0x55 n)+(x&&&mask 0x55 n)
def f2 (n x:Nat):Nat:=((x/4)&&&mask 0x33 n)+(x&&&mask 0x33 n)
def f3 (n x:Nat):Nat:=(x/16+x)&&&mask 0x0f n
theorem and_mask (d r c n:Nat) (hd:d < 256) (hc:c < 256):(d+256*r)&&&mask c (n+1)=(d&&&c)+256*(r&&&mask c n):=and_lane 8 d r c (mask c n) hd hc
theorem b1:∀ d < 256,∀ t < 2,(d/2+128*t)&&&0x55=(d/2)&&&0x55:=by decide +kernel
theorem b2:∀ d < 256,∀ t < 4,(d/4+64*t)&&&0x33=(d/4)&&&0x33:=by decide +kernel
def byte1 (d:Nat):Nat:=((d/2)&&&0x55)+(d&&&0x55)
def byte2 (d:Nat):Nat:=((d/4)&&&0x33)+(d&&&0x33)
theorem byte1_lt:∀ d < 256,byte1 d < 256:=by decide +kernel
theorem byte2_le:∀ d < 256,byte2 (byte1 d)/16≤4∧byte2 (byte1 d)%16≤4:=by decide +kernel
theorem b3:∀ q < 5,∀ p < 5,∀ t < 5,(((16*q+p)/16+(16*q+p)+16*t)&&&0x0f)=p+q:=by decide +kernel
theorem byte_pc:∀ d < 256,byte2 (byte1 d)/16+byte2 (byte1 d)%16=pc 8 d:=by decide +kernel
theorem f1_step (n d r:Nat) (hd:d < 256):f1 (n+1) (d+256*r)=byte1 d+256*f1 n r:=by
 unfold f1 byte1
 have e:(d+256*r)/2=(d/2+128*(r%2))+256*(r/2):=by omega
 rw [e,and_mask _ _ _ _ (by omega) (by decide),and_mask _ _ _ _ hd (by decide),b1 d hd (r%2) (by omega)]
 omega
theorem f2_step (n d r:Nat) (hd:d < 256):f2 (n+1) (d+256*r)=byte2 d+256*f2 n r:=by
 unfold f2 byte2
 have e:(d+256*r)/4=(d/4+64*(r%4))+256*(r/4):=by omega
 rw [e,and_mask _ _ _ _ (by omega) (by decide),and_mask _ _ _ _ hd (by decide),b2 d hd (r%4) (by omega)]
 omega
def lanes (n x:Nat):Nat:=f2 n (f1 n x)
theorem lanes_step (n d r:Nat) (hd:d < 256):lanes (n+1) (d+256*r)=byte2 (byte1 d)+256*lanes n r:=by
 unfold lanes;rw [f1_step n d r hd,f2_step n _ _ (byte1_lt d hd)]
theorem lanes_mod (n x:Nat):lanes n x%16≤4:=by
 cases n with
 | zero=>simp [lanes,f2,mask]
 | succ n =>
  have e:x=x%256+256*(x/256):=by omega
  rw [e,lanes_step n _ _ (by omega)]
  have:=byte2_le (x%256) (by omega)
  omega
theorem f3_step (n d r:Nat) (hd:d < 256):f3 (n+1) (lanes (n+1) (d+256*r))=pc 8 d+256*f3 n (lanes n r):=by
 rw [lanes_step n d r hd]
 have h:=byte2_le d hd
 have hm:=lanes_mod n r
 have hp:=byte_pc d hd
 generalize byte2 (byte1 d)=y at h hp
 generalize lanes n r=z at hm
 unfold f3
 have e:(y+256*z)/16+(y+256*z)=(y/16+y+16*(z%16))+256*(z/16+z):=by omega
 rw [e,and_mask _ _ _ _ (by omega) (by decide)]
 have:=b3 (y/16) (by omega) (y%16) (by omega) (z%16) (by omega)
 rw [show 16*(y/16)+y%16=y by omega] at this
 rw [this];omega
def sums:Nat→Nat→Nat
 | 0,_=>0
 | n+1,x=>pc 8 (x%256)+256*sums n (x/256)
theorem f3_sums (n:Nat):∀ x,f3 n (lanes n x)=sums n x:=by
 induction n with
 | zero=>intro x;simp [f3,sums,mask]
 | succ n ih =>
  intro x
  have e:x=x%256+256*(x/256):=by omega
  rw [sums,← ih,← f3_step n _ _ (by omega),← e]
theorem pc_le (n x:Nat):pc n x≤n:=by unfold pc;exact Nat.le_trans List.countP_le_length (by simp)
theorem pc_add (a b x:Nat):pc (a+b) x=pc a x+pc b (x/2 ^ a):=by
 unfold pc
 rw [List.range_add,List.countP_append,List.countP_map]
 congr 1
 apply List.countP_congr
 intro i _
 simp [Nat.testBit_div_two_pow,Nat.add_comm]
theorem pc8_mod (x:Nat):pc 8 (x%256)=pc 8 x:=by
 unfold pc
 apply List.countP_congr
 intro i hi
 have:i < 8:=List.mem_range.1 hi
 rw [show (256:Nat)=2 ^ 8 by decide,Nat.testBit_mod_two_pow]
 simp [this]
theorem sum8 (p0 p1 p2 p3 p4 p5 p6 p7:Nat) (h0:p0≤8) (h1:p1≤8) (h2:p2≤8) (h3:p3≤8) (h4:p4≤8) (h5:p5≤8) (h6:p6≤8) (h7:p7≤8)
  (y z1 z2 z3:Nat) (hy:y=p0+256*(p1+256*(p2+256*(p3+256*(p4+256*(p5+256*(p6+256*p7))))))) (e1:z1=y+y/256) (e2:z2=z1+z1/65536) (e3:z3=z2+z2/4294967296) :
  z3%128=p0+p1+p2+p3+p4+p5+p6+p7:=by
 have dv:∀ a b n:Nat,a < 256→n=a+256*b→n/256=b:=fun a b n h e=>by omega
 have dd:∀ n:Nat,n/65536=n/256/256:=fun n=>by rw [Nat.div_div_eq_div_mul]
 have dq:∀ n:Nat,n/4294967296=n/256/256/256/256:=fun n=>by simp only [Nat.div_div_eq_div_mul]
 obtain ⟨r6,g6⟩:∃ r,r=p6+256*p7:=⟨_,rfl⟩
 obtain ⟨r5,g5⟩:∃ r,r=p5+256*r6:=⟨_,rfl⟩
 obtain ⟨r4,g4⟩:∃ r,r=p4+256*r5:=⟨_,rfl⟩
 obtain ⟨r3,g3⟩:∃ r,r=p3+256*r4:=⟨_,rfl⟩
 obtain ⟨r2,g2⟩:∃ r,r=p2+256*r3:=⟨_,rfl⟩
 obtain ⟨r1,g1⟩:∃ r,r=p1+256*r2:=⟨_,rfl⟩
 rw [← g6,← g5,← g4,← g3,← g2,← g1] at hy
 rw [dv p0 r1 y (by omega) hy] at e1
 have q0:z1=(p0+p1)+256*(r1+r2):=by omega
 have q1:r1+r2=(p1+p2)+256*(r2+r3):=by omega
 have q2:r2+r3=(p2+p3)+256*(r3+r4):=by omega
 have q3:r3+r4=(p3+p4)+256*(r4+r5):=by omega
 have q4:r4+r5=(p4+p5)+256*(r5+r6):=by omega
 have q5:r5+r6=(p5+p6)+256*(r6+p7):=by omega
 have q6:r6+p7=(p6+p7)+256*p7:=by omega
 rw [dd,dv _ _ z1 (by omega) q0,dv _ _ _ (by omega) q1] at e2
 have t0:z2=(p0+p1+p2+p3)+256*((r1+r2)+(r3+r4)):=by omega
 have t1:(r1+r2)+(r3+r4)=(p1+p2+p3+p4)+256*((r2+r3)+(r4+r5)):=by omega
 have t2:(r2+r3)+(r4+r5)=(p2+p3+p4+p5)+256*((r3+r4)+(r5+r6)):=by omega
 have t3:(r3+r4)+(r5+r6)=(p3+p4+p5+p6)+256*((r4+r5)+(r6+p7)):=by omega
 have t4:(r4+r5)+(r6+p7)=(p4+p5+p6+p7)+256*((r5+r6)+p7):=by omega
 rw [dq,dv _ _ z2 (by omega) t0,dv _ _ _ (by omega) t1,dv _ _ _ (by omega) t2,dv _ _ _ (by omega) t3] at e3
 clear dv dd dq q0 q1 q2 q3 q4 q5 q6 t1 t2 t3 e1 e2 hy g1 g2 g3 g4 g5 g6
 omega
theorem ones_sum (x z1 z2 z3:Nat) (_hx:x < 2 ^ 64) (e1:z1=sums 8 x+sums 8 x/256) (e2:z2=z1+z1/65536) (e3:z3=z2+z2/4294967296):z3%128=pc 64 x:=by
 have h:=sum8 _ _ _ _ _ _ _ _ (pc_le 8 (x%256)) (pc_le 8 (x/256%256)) (pc_le 8 (x/256/256%256)) (pc_le 8 (x/256/256/256%256)) (pc_le 8 (x/256/256/256/256%256)) (pc_le 8 (x/256/256/256/256/256%256)) (pc_le 8 (x/256/256/256/256/256/256%256)) (pc_le 8 (x/256/256/256/256/256/256/256%256)) (sums 8 x) z1 z2 z3 (by simp [sums]) e1 e2 e3
 rw [h]
 have s:∀ n x,pc (8+n) x=pc 8 (x%256)+pc n (x/256):=fun n x=>by rw [pc_add,pc8_mod]
 rw [show (64:Nat)=8+(8+(8+(8+(8+(8+(8+(8+0))))))) by rfl,s,s,s,s,s,s,s,s]
 simp [pc];omega
theorem sums_lt (x:Nat):sums 8 x≤578721382704613384:=by
 have h:∀ n x,sums n x≤8*mask 1 n:=by
  intro n
  induction n with
  | zero=>intro x;simp [sums,mask]
  | succ n ih=>intro x;have:=ih (x/256);have:=pc_le 8 (x%256);simp only [sums,mask];omega
 exact h 8 x
end Go.Proofs.YtafpmkdlciioaaaGreatDoor
namespace Go.Proofs.YtafpmkdlciioaaaGreatDoor
open Go.RowKit
theorem u64_wrap_nat (n:Nat) (h:n < 2 ^ 64):IntKind.u64.wrap (n:Int)=(n:Int):=by rw [IntKind.wrap_u64];omega
theorem f1_form (x:Nat) (hx:x < 2 ^ 64):IntKind.u64.wrap (bits .and .u64 ((x:Int)/2) 6148914691236517205+bits .and .u64 (x:Int) 6148914691236517205)=(f1 8 x:Int):=by
 have e:((x:Int)/2)=((x/2:Nat):Int):=by omega
 have m:(6148914691236517205:Int)=((6148914691236517205:Nat):Int):=rfl
 rw [e,m,u64_and_nat _ _ (by omega) (by decide),u64_and_nat _ _ (by omega) (by decide),← Int.natCast_add,u64_wrap_nat]
 ·rfl
 ·have h1:(x/2)&&&6148914691236517205≤6148914691236517205:=Nat.and_le_right
  have h2:x&&&6148914691236517205≤6148914691236517205:=Nat.and_le_right
  omega
theorem f2_form (x:Nat) (hx:x < 2 ^ 64):IntKind.u64.wrap (bits .and .u64 ((x:Int)/4) 3689348814741910323+bits .and .u64 (x:Int) 3689348814741910323)=(f2 8 x:Int):=by
 have e:((x:Int)/4)=((x/4:Nat):Int):=by omega
 have m:(3689348814741910323:Int)=((3689348814741910323:Nat):Int):=rfl
 rw [e,m,u64_and_nat _ _ (by omega) (by decide),u64_and_nat _ _ (by omega) (by decide),← Int.natCast_add,u64_wrap_nat]
 ·rfl
 ·have h1:(x/4)&&&3689348814741910323≤3689348814741910323:=Nat.and_le_right
  have h2:x&&&3689348814741910323≤3689348814741910323:=Nat.and_le_right
  omega
theorem f1_le (x:Nat):f1 8 x≤12297829382473034410:=by
 have h1:(x/2)&&&mask 0x55 8≤mask 0x55 8:=Nat.and_le_right
 have h2:x&&&mask 0x55 8≤mask 0x55 8:=Nat.and_le_right
 have e:mask 0x55 8=6148914691236517205:=by decide
 unfold f1;omega
theorem f2_le (x:Nat):f2 8 x≤7378697629483820646:=by
 have h1:(x/4)&&&mask 0x33 8≤mask 0x33 8:=Nat.and_le_right
 have h2:x&&&mask 0x33 8≤mask 0x33 8:=Nat.and_le_right
 have e:mask 0x33 8=3689348814741910323:=by decide
 unfold f2;omega
theorem f3_form (x:Nat) (hx:x≤7378697629483820646):bits .and .u64 (IntKind.u64.wrap ((x:Int)/16+x)) 1085102592571150095=(f3 8 x:Int):=by
 have e:((x:Int)/16+x)=((x/16+x:Nat):Int):=by omega
 have m:(1085102592571150095:Int)=((1085102592571150095:Nat):Int):=rfl
 rw [e,u64_wrap_nat _ (by omega),m,u64_and_nat _ _ (by omega) (by decide)]
 rfl
theorem add_form (x k:Nat) (_hk:0 < k) (h:x+x/k < 2 ^ 64):IntKind.u64.wrap ((x:Int)+x/(k:Int))=((x+x/k:Nat):Int):=by
 have e:((x:Int)+x/(k:Int))=((x+x/k:Nat):Int):=by rw [Int.natCast_add,Int.natCast_ediv]
 rw [e,u64_wrap_nat _ h]
theorem low_form (z:Nat) (hz:z < 2 ^ 63):bits .and .i64 (wrap64 (z:Int)) 127=((z%128:Nat):Int):=by
 have e:wrap64 (z:Int)=(z:Int):=IntWalk.wrap64_in _ ⟨by omega,by omega⟩
 have hx:(BitVec.ofInt 64 (z:Int)).toNat=z:=by rw [BitVec.ofInt_natCast,BitVec.toNat_ofNat];exact Nat.mod_eq_of_lt (by omega)
 rw [e]
 show IntKind.i64.wrap ((BitVec.ofInt 64 (z:Int)&&&BitVec.ofInt 64 127).toNat:Int)=_
 rw [BitVec.toNat_and,hx,show (BitVec.ofInt 64 127).toNat=2 ^ 7-1 by decide,Nat.and_two_pow_sub_one_eq_mod,IntKind.wrap_i64]
 omega
theorem ones_core (x a b y z1 z2 z3:Nat) (r:Int) (w:World)
  (h1:IntKind.u64.wrap (bits .and .u64 ((x:Int)/2) 6148914691236517205+bits .and .u64 (x:Int) 6148914691236517205)=(a:Int))
  (h2:IntKind.u64.wrap (bits .and .u64 ((a:Int)/4) 3689348814741910323+bits .and .u64 (a:Int) 3689348814741910323)=(b:Int))
  (h3:bits .and .u64 (IntKind.u64.wrap ((b:Int)/16+b)) 1085102592571150095=(y:Int))
  (h4:IntKind.u64.wrap ((y:Int)+y/256)=(z1:Int)) (h5:IntKind.u64.wrap ((z1:Int)+z1/65536)=(z2:Int)) (h6:IntKind.u64.wrap ((z2:Int)+z2/4294967296)=(z3:Int))
  (h7:bits .and .i64 (wrap64 (z3:Int)) 127=r) :
  Calls Tryz.prog 103 #[.int .u64 x] w fun e w'=>e=.returned (.int .i64 r)∧w=w':=by
 go_enter Tryz.func103,Tryz.ntmps103
 go_wp2
 go_ret
 exact ⟨rfl,rfl⟩
theorem ones_any (x:Nat) (w:World) (hx:x < 2 ^ 64) :
  Calls Tryz.prog 103 #[.int .u64 x] w fun e w'=>e=.returned (.int .i64 (pc 64 x))∧w=w':=by
 have l1:=f1_le x
 have l2:=f2_le (f1 8 x)
 have l3:=sums_lt x
 have e3:f3 8 (f2 8 (f1 8 x))=sums 8 x:=f3_sums 8 x
 generalize hz1:sums 8 x+sums 8 x/256=z1
 obtain ⟨z2,hz2⟩:∃ z2,z2=z1+z1/65536:=⟨_,rfl⟩
 obtain ⟨z3,hz3⟩:∃ z3,z3=z2+z2/4294967296:=⟨_,rfl⟩
 rw [← ones_sum x z1 z2 z3 hx hz1.symm hz2 hz3]
 refine ones_core x _ _ (sums 8 x) z1 z2 z3 _ w (f1_form x hx) (f2_form _ (by omega)) ?_ ?_ ?_ ?_ (low_form _ (by omega))
 ·rw [f3_form _ l2,e3]
 ·rw [← hz1];exact add_form _ 256 (by omega) (by omega)
 ·rw [hz2];exact add_form _ 65536 (by omega) (by omega)
 ·rw [hz3];exact add_form _ 4294967296 (by omega) (by omega)
def card (N:Nat):Nat:=pc (64*nw N) N
theorem pc_word (N k:Nat):pc 64 (wd N k)=pc 64 (N/2 ^ (64*k)):=by
 unfold pc
 apply List.countP_congr
 intro i hi
 have:i < 64:=List.mem_range.1 hi
 rw [testBit_wd,Nat.testBit_div_two_pow]
 simp [this,Nat.add_comm]
theorem pc_words (N k:Nat):pc (64*(k+1)) N=pc (64*k) N+pc 64 (wd N k):=by
 rw [pc_word,show 64*(k+1)=64*k+64 by omega,pc_add]
theorem len_any (v:Value) (N:Nat) (w:World) (hs:IsSet w v N) :
  Calls Tryz.prog 61 #[.agg #[v]] w fun e w'=>e=.returned (.int .i64 (card N))∧Below w.heap.size w w':=by
 obtain ⟨A,c,rfl,hN,_,_,h4⟩:=hs
 go_enter Tryz.func61,Tryz.ntmps61
 go_wp2_with fail
 refine abs1 fun W0 hA0 hbel0 hz=>?_
 go_loop [3,9] (fun n i=>∃ k:Nat,k≤nw N∧i=.int .i64 k∧n=.int .i64 (pc (64*k) N)) (fun _ i=>nw N-(intOf i).toNat)
 case atStart=>exact ⟨0,Nat.zero_le _,rfl,rfl⟩
 case round =>
  obtain ⟨k,hk,rfl,rfl⟩:=hrel
  have hb1:=pc_le (64*k) N
  by_cases hlt:k < nw N
  ·obtain ⟨g,cs,rfl,hg,hcs⟩:=h4 (by omega)
   have cN:=((hg.below hbel0 hg.lt).cell k).trans (hcs k hlt)
   clear hcs h4
   have hb2:=pc_le 64 (wd N k)
   go_wp2_with (go_at_call 103;refine (ones_any (wd N k) _ (wd_lt N k)).mono ?_;rintro e w1 ⟨rfl,rfl⟩)
   exact ⟨⟨k+1,by omega,by go_num,by rw [pc_words];go_num⟩,by simp [intOf];omega⟩
  ·obtain rfl:k=nw N:=by omega
   clear h4
   go_wp2
   go_ret
   exact ⟨rfl,hbel0⟩
theorem pow_form (j:Nat) (hj:j < 64):IntKind.u64.wrap (IntKind.u64.wrap ((2:Int) ^ j)-1)=((2 ^ j-1:Nat):Int):=by
 have h1:2 ^ j < 2 ^ 64:=Nat.pow_lt_pow_right (by omega) hj
 have h2:0 < 2 ^ j:=Nat.two_pow_pos j
 have e:((2:Int) ^ j)=((2 ^ j:Nat):Int):=by simp
 rw [e,u64_wrap_nat _ h1]
 have e2:((2 ^ j:Nat):Int)-1=((2 ^ j-1:Nat):Int):=by omega
 rw [e2,u64_wrap_nat _ (by omega)]
theorem below_core (n:Int) (a m:Nat) (w:World) (hm:m≤4096) (e1:(if n < 0 then 0 else n)=(a:Int)) (e2:(if (4096:Int) < (a:Int) then (4096:Int) else (a:Int))=(m:Int)) :
  Calls Tryz.prog 69 #[.int .i64 n] w fun e w'=>∃ r,e=.returned (.agg #[r])∧IsSet w' r (lowN m)∧Below w.heap.size w w':=by
 obtain ⟨L,hLe⟩:∃ L,L=(m+63)/64:=⟨_,rfl⟩
 have hL:L≤64:=by omega
 have eL:((m:Int)+63)/64=(L:Int):=by omega
 have HL:=Lib.hid hLe;clear hLe
 have hmk:=make_u64 L (by omega)
 go_enter Tryz.func69,Tryz.ntmps69
 go_wp2_with fail
 refine abs2 fun W0 hR0 hW0 hbel0 hz=>?_
 have hw0:=hW0.fill0 (fun _=>.int .u64 18446744073709551615)
 go_loopw [14] (fun i wr=>∃ k:Nat,k≤L∧i=.int .i64 k∧Blk wr (w.heap.size+1) 146 (filled (.int .u64 0) (fun _=>.int .u64 18446744073709551615) k L)∧Below (w.heap.size+1) W0 wr)
  (fun i _=>L-(intOf i).toNat)
 case atStart=>exact ⟨0,Nat.zero_le _,rfl,hw0,Below.refl _ _⟩
 case round =>
  obtain ⟨k,hk,rfl,hb,hbel⟩:=hrel
  by_cases hlt:k < L
  ·have cW:=hb.cell k
   have fW:=hb.frozen k
   rw [filled_get _ _ hlt,if_neg (by omega)] at cW
   have hset:=filled_set (.int .u64 0) (fun _=>.int .u64 18446744073709551615) hlt
   have HSET:=Lib.hid hset;clear hset
   go_wp2
   have hb2:=hb.set_ k (.int .u64 18446744073709551615)
   rw [HSET.out] at hb2
   exact ⟨⟨k+1,by omega,by go_num,hb2,hbel.setCell (by simp) _⟩,by simp [intOf];omega⟩
  ·obtain rfl:k=L:=by omega
   have hR:=hR0.below hbel (by omega)
   have cR:=hR.cell 0
   have fR:=hR.frozen 0
   have hbw:Below w.heap.size w wr:=hbel0.trans (hbel.mono (by omega))
   by_cases hmm:0 < m%64
   ·have h64:m%64 < 64:=Nat.mod_lt _ (by omega)
    have hL0:0 < k:=by have:=HL.out;omega
    have cW:=hb.cell (k-1)
    have fW:=hb.frozen (k-1)
    rw [filled_get _ _ (by omega),if_pos (by omega)] at cW
    have hpf:=pow_form (m%64) h64
    go_wp2
    have hX:=((hR.far (p:=⟨w.heap.size+1,k-1,none⟩) (by simp) (.int .u64 ((2 ^ (m%64)-1:Nat):Int))).set_ 0 (.slice (some ⟨w.heap.size+1,0,none⟩) k k))
    have cX:=hX.cell 0
    have hB:=((hb.set_ (k-1) (.int .u64 ((2 ^ (m%64)-1:Nat):Int))).far (p:=⟨w.heap.size,0,none⟩) (by simp) (.slice (some ⟨w.heap.size+1,0,none⟩) k k))
    refine bodyPost_ret (v:=.agg #[.slice (some ⟨w.heap.size+1,0,none⟩) k k]) (by simp [results,Tryz.results69,go_sem,cX]) rfl ⟨_,rfl,?_,(hbw.setCell (by simp) _).setCell (by simp) _⟩
    have hk':=HL.out
    have hn:nw (lowN m)=k:=by rw [nw_lowN,hk']
    rw [← hn] at hB ⊢
    refine IsSet.mk_ hB (by omega) (Nat.le_refl _) (le64 (by omega)) (fun j hj=>?_)
    rw [Array.getElem?_setIfInBounds,filled_size]
    by_cases hj2:nw (lowN m)-1=j
    ·rw [if_pos hj2,if_pos (by omega),wd_part (by omega) (by omega),show m-64*j=m%64 by omega]
    ·rw [if_neg hj2,filled_get _ _ hj,if_pos hj,wd_full (by omega)]
     rfl
   ·have e0:(m:Int)%64=0:=by omega
    go_wp2
    have hX:=hR.set_ 0 (.slice (some ⟨w.heap.size+1,0,none⟩) k k)
    have cX:=hX.cell 0
    have hB:=hb.far (p:=⟨w.heap.size,0,none⟩) (by simp) (.slice (some ⟨w.heap.size+1,0,none⟩) k k)
    refine bodyPost_ret (v:=.agg #[.slice (some ⟨w.heap.size+1,0,none⟩) k k]) (by simp [results,Tryz.results69,go_sem,cX]) rfl ⟨_,rfl,?_,hbw.setCell (by simp) _⟩
    have hk':=HL.out
    have hn:nw (lowN m)=k:=by rw [nw_lowN,hk']
    rw [← hn] at hB ⊢
    refine IsSet.mk_ hB (by omega) (Nat.le_refl _) (le64 (by omega)) (fun j hj=>?_)
    rw [filled_get _ _ hj,if_pos hj,wd_full (by omega)]
    rfl
def clamp (n:Int):Nat:=min (max n 0) 4096 |>.toNat
theorem below_any (n:Int) (w:World):Calls Tryz.prog 69 #[.int .i64 n] w fun e w'=>∃ r,e=.returned (.agg #[r])∧IsSet w' r (lowN (clamp n))∧Below w.heap.size w w':=by
 refine below_core n (max n 0).toNat (clamp n) w (by unfold clamp;omega) ?_ ?_
 ·split <;> omega
 ·unfold clamp;split <;> omega
theorem clamp_nat {n:Nat} (h:n≤4096):clamp n=n:=by unfold clamp;omega
def wordsOf (N L:Nat):Array Value:=(Array.range L).map fun j=>u64 (wd N j)
theorem wordsOf_get {N L j:Nat} (hj:j < L):(wordsOf N L)[j]?=some (u64 (wd N j)):=by
 unfold wordsOf;rw [Array.getElem?_map,Array.getElem?_range];simp [hj]
theorem wordsOf_size (N L:Nat):(wordsOf N L).size=L:=by simp [wordsOf]
theorem wordsOf_zero (L:Nat):zeros (.int .u64 0) L=wordsOf 0 L:=by
 unfold zeros wordsOf
 apply Array.ext (by simp)
 intro i h1 h2
 simp [wd_zero]
theorem wordsOf_with (N i L:Nat):(wordsOf N L).setIfInBounds (i/64) (u64 (wd N (i/64)|||2 ^ (i%64)))=wordsOf (N|||2 ^ i) L:=by
 apply Array.ext_getElem?
 intro j
 rw [Array.getElem?_setIfInBounds,wordsOf_size]
 by_cases hj:j < L
 ·rw [wordsOf_get hj,wordsOf_get hj,wd_with]
  by_cases h:i/64=j
  ·subst h;simp [hj]
  ·rw [if_neg h,if_neg (Ne.symm h)]
 ·have h1:∀ N,(wordsOf N L)[j]?=none:=fun N=>Array.getElem?_eq_none (by rw [wordsOf_size];omega)
  rw [h1,h1]
  by_cases h:i/64=j
  ·rw [if_pos h,if_neg (by omega)]
  ·rw [if_neg h]
theorem shl_form (j:Nat) (hj:j < 64):IntKind.u64.wrap ((2:Int) ^ j)=((2 ^ j:Nat):Int):=by
 have h1:2 ^ j < 2 ^ 64:=Nat.pow_lt_pow_right (by omega) hj
 have e:((2:Int) ^ j)=((2 ^ j:Nat):Int):=by simp
 rw [e,u64_wrap_nat _ h1]
theorem or_form (N i:Nat):bits .or .u64 (wd N (i/64):Int) ((2:Int) ^ (i%64))=((wd N (i/64)|||2 ^ (i%64):Nat):Int):=by
 have e:((2:Int) ^ (i%64))=((2 ^ (i%64):Nat):Int):=by simp
 rw [e,u64_or_nat _ _ (wd_lt _ _) (Nat.pow_lt_pow_right (by omega) (Nat.mod_lt _ (by omega)))]
theorem of_any (A:Option Addr) (c:Nat) (xs:List Int) (w:World) (hr:Row w A (xs.map (Value.int .i64))) (hn:xs.length≤1000000) :
  Calls Tryz.prog 21 #[.slice A xs.length c] w fun e w'=>∃ r,e=.returned (.agg #[r])∧IsSet w' r (setOf xs)∧Below w.heap.size w w':=by
 obtain ⟨n,hn0⟩:∃ n,n=xs.length:=⟨_,rfl⟩
 rw [← hn0] at hn ⊢
 have HN:=Lib.hid hn0;clear hn0
 have cX:∀ k x,xs[k]?=some x→∃ g off,A=some ⟨g,off,none⟩∧g < w.heap.size∧w.cell? ⟨g,off+k,none⟩=some (.int .i64 x):=fun k x hx=>by
  obtain ⟨g,off,hA,hg,hc⟩:=hr (by
   have:=(List.getElem?_eq_some_iff.1 hx).1
   simp;omega)
  exact ⟨g,off,hA,hg,hc k _ (by simp [hx])⟩
 clear hr
 have HX:=Lib.hid cX;clear cX
 go_enter Tryz.func21,Tryz.ntmps21
 go_wp2_with fail
 refine abs1 fun W0 hR0 hbel0 hz=>?_
 go_loop [3,11] (fun t i=>∃ k:Nat,k≤n∧i=.int .i64 k∧t=.int .i64 (topOf (xs.take k))) (fun _ i=>n-(intOf i).toNat)
 case atStart=>exact ⟨0,Nat.zero_le _,rfl,rfl⟩
 case round =>
  obtain ⟨k,hk,rfl,rfl⟩:=hrel
  have hbd:=topOf_bd (xs.take k)
  by_cases hlt:k < n
  ·obtain ⟨x,hx⟩:∃ x,xs[k]?=some x:=⟨_,List.getElem?_eq_getElem (by have:=HN.out;omega)⟩
   obtain ⟨g,off,rfl,hg,hc⟩:=HX.out k x hx
   have hc0:=onB hbel0 hc
   have hs:topOf (xs.take (k+1))=topStep (topOf (xs.take k)) x:=by
    rw [List.take_add_one,hx,Option.toList_some,topOf_snoc]
   have HS:=Lib.hid hs;clear hs
   clear hx hc
   generalize topOf (xs.take k)=t at *
   by_cases hx:x≤4095
   ·by_cases ht:t < x
    all_goals
     go_wp2
     exact ⟨⟨k+1,by omega,by go_num,by rw [HS.out];unfold topStep;simp [hx,ht]⟩,by simp [intOf];omega⟩
   ·go_wp2
    exact ⟨⟨k+1,by omega,by go_num,by rw [HS.out];unfold topStep;simp [hx]⟩,by simp [intOf];omega⟩
  ·obtain rfl:k=n:=by omega
   have htk:xs.take k=xs:=List.take_of_length_le (by have:=HN.out;omega)
   rw [htk] at hbd ⊢
   have hge:=Lib.hid (topOf_ge xs)
   generalize topOf xs=t at *
   clear htk
   have cR:=hR0.cell 0
   have fR:=hR0.frozen 0
   by_cases ht:t < 0
   ·go_wp2
    have cX:=(hR0.set_ 0 (.slice none 0 0)).cell 0
    refine bodyPost_ret (v:=.agg #[.slice none 0 0]) (by simp [results,Tryz.results21,go_sem,cX]) rfl ⟨_,rfl,?_,hbel0.setCell (by simp) _⟩
    have h0:setOf xs=0:=by
     apply Nat.eq_of_testBit_eq;intro i
     rw [testBit_setOf,Nat.zero_testBit,decide_eq_false_iff_not]
     rintro ⟨h1,h2⟩
     have:=hge.out _ h2 (by omega)
     omega
    rw [h0]
    exact IsSet.empty _
   ·obtain ⟨T,rfl⟩:=Int.eq_ofNat_of_zero_le (Int.not_lt.1 ht)
    obtain ⟨L,hLe⟩:∃ L,L=T/64+1:=⟨_,rfl⟩
    have hL:L≤64:=by omega
    have eL:(T:Int)/64+1=(L:Int):=by omega
    have hmk:=make_u64 L (by omega)
    have HLe:=Lib.hid hLe;clear hLe
    clear hk hlt
    go_wp2_with fail
    have hW1:=Blk.new W0 146 (zeros (.int .u64 0) L)
    have hb1:=(Below.refl W0.heap.size W0).alloc (Nat.le_refl _) (.cells (zeros (.int .u64 0) L) 146)
    generalize W0.alloc (.cells (zeros (.int .u64 0) L) 146)=W1 at hW1 hb1 ⊢
    rw [wordsOf_zero] at hW1
    have hR1:=hR0.below hb1 hR0.lt
    have hbel1:Below w.heap.size w W1:=hbel0.trans (hb1.mono (by omega))
    rw [hz] at hb1 hW1
    clear hmk eL hz cR fR hbd
    go_loopw [30] (fun i wr=>∃ j:Nat,j≤k∧i=.int .i64 j∧Blk wr (w.heap.size+1) 146 (wordsOf (setOf (xs.take j)) L)∧Below (w.heap.size+1) W1 wr)
     (fun i _=>k-(intOf i).toNat)
    case atStart=>exact ⟨0,Nat.zero_le _,rfl,hW1,Below.refl _ _⟩
    case round =>
     obtain ⟨j,hj,rfl,hb,hbel⟩:=hrel
     by_cases hlt:j < k
     ·obtain ⟨x,hx⟩:∃ x,xs[j]?=some x:=⟨_,List.getElem?_eq_getElem (by have:=HN.out;omega)⟩
      obtain ⟨g,off,rfl,hg,hc⟩:=HX.out j x hx
      have hc0:=onB hbel1 hc
      have hc1:wr.cell? ⟨g,off+j,none⟩=some (.int .i64 x):=(hbel.cell (p:=⟨g,off+j,none⟩) (by simp;omega)).trans hc0
      have hs:setOf (xs.take (j+1))=setStep (setOf (xs.take j)) x:=by
       rw [List.take_add_one,hx,Option.toList_some,setOf_snoc]
      have HS:=Lib.hid hs;clear hs
      have hle:x≤4095→x≤T:=hge.out x (List.mem_of_getElem? hx)
      clear hx hc hc0
      generalize setOf (xs.take j)=N at *
      by_cases hx0:0≤x
      ·by_cases hxT:x≤T
       ·obtain ⟨X,rfl⟩:=Int.eq_ofNat_of_zero_le hx0
        have h64:X%64 < 64:=Nat.mod_lt _ (by omega)
        have hXL:X/64 < L:=by have:=HLe.out;omega
        have cW:=hb.cell (X/64)
        have fW:=hb.frozen (X/64)
        rw [wordsOf_get hXL] at cW
        have hsh:=shl_form (X%64) h64
        have hof:=or_form N X
        have hXT:X≤T:=by omega
        clear hle
        go_wp2_with fail
        have q1:=i64w (x:=(X:Int)/64) (by omega)
        have q2:(X:Int).tmod 64=(X:Int)%64:=Int.tmod_eq_emod_of_nonneg (by omega)
        have q3:(0:Int)≤(X:Int)/64:=by omega
        have q4:(X:Int)/64 < (L:Int):=by omega
        have q5:((X:Int)/64).toNat=X/64:=by omega
        have q6:((X:Int)%64).toNat=X%64:=by omega
        have q7:(0:Int)≤(X:Int)%64:=by omega
        have q8:(X:Int)%64 < 64:=by omega
        refine wp_spine (fun W=>Below wr.heap.size wr W) [0,1,2,3,4,5,6,7,8,9] [10] (by kernel_rfl) (by kernel_rfl) ?_
        iterate 10 (refine wpE_op (v:=?_) rfl rfl (fun W hW=>?_) ?_;rotate_left;(have c1:=onB hW cW;go_simp;first | done | with_reducible rfl);simp only [pt1,pt3,pt4,pt5])
        refine wpE_nil ⟨fun h=>(by cases h),wpSp_op rfl (Below.refl _ _).drew ?_⟩
        go_wp2_with fail
        refine nxt_nil ?_
        go_wp2_with fail
        have hb2:=hb.drew.set_ (X/64) (u64 (wd N (X/64)|||2 ^ (X%64)))
        rw [wordsOf_with] at hb2
        exact ⟨⟨j+1,by omega,by go_num,by rw [HS.out];unfold setStep;rw [if_pos ⟨hx0,by omega⟩,Int.toNat_natCast];exact hb2,hbel.drew.setCell (by simp) _⟩,by simp [intOf];omega⟩
       ·have hn:¬ (0≤x∧x≤4095):=by omega
        clear hle
        go_wp2
        exact ⟨⟨j+1,by omega,by go_num,by rw [HS.out];unfold setStep;rw [if_neg hn];exact hb,hbel⟩,by simp [intOf];omega⟩
      ·have hn:¬ (0≤x∧x≤4095):=by omega
       clear hle
       go_wp2
       exact ⟨⟨j+1,by omega,by go_num,by rw [HS.out];unfold setStep;rw [if_neg hn];exact hb,hbel⟩,by simp [intOf];omega⟩
     ·obtain rfl:j=k:=by omega
      have htk:xs.take j=xs:=List.take_of_length_le (by have:=HN.out;omega)
      rw [htk] at hb
      have hnw:nw (setOf xs)≤L:=nw_setOf xs L fun x hx h=>by have:=hge.out x hx h;have:=HLe.out;omega
      have hw:Words wr (some ⟨w.heap.size+1,0,none⟩) L (setOf xs):=⟨fun _=>⟨_,_,rfl,hb,fun i hi=>wordsOf_get hi⟩,fun i hi=>wd_ge (by omega)⟩
      have hR:=hR1.below hbel (by omega)
      have cR:=hR.cell 0
      have fR:=hR.frozen 0
      have hbw:Below w.heap.size w wr:=hbel1.trans (hbel.mono (by omega))
      clear hnw htk
      go_wp2_with fail
      refine (trim_any _ L L _ _ hw hL (Nat.le_refl _) (le64 hL)).mono ?_
      rintro e w1 ⟨r,rfl,hr,hb1⟩
      obtain ⟨A1,c1,rfl,_⟩:=id hr
      have hr1:=onB hb1 cR
      have fr1:=onFrozen hb1 cR fR
      go_wp2_with fail
      have hX:=(hR.below hb1 hR.lt).set_ 0 (.slice A1 (nw (setOf xs)) c1)
      have cX:=hX.cell 0
      refine bodyPost_ret (v:=.agg #[.slice A1 (nw (setOf xs)) c1]) (by simp [results,Tryz.results21,go_sem,cX]) rfl ⟨_,rfl,?_,(hbw.trans (hb1.mono hbw.size)).setCell (by simp) _⟩
      exact hr.keep (KeepW.setCell (t:=58) (hR.below hb1 hR.lt) (by decide) _)
theorem size_u64:(Tryz.prog.info? 146).map (·.size)=some 1:=by kernel_rfl
def withB (N:Nat) (i:Int):Nat:=if 0≤i∧i≤4095 then N|||2 ^ i.toNat else N
theorem splice_words (N L:Nat) (h:nw N≤L):(splice (wordsOf 0 L).toList 0 (wordsOf N (nw N)).toList).toArray=wordsOf N L:=by
 apply Array.ext_getElem?
 intro i
 rw [List.getElem?_toArray]
 unfold splice
 simp only [List.take_zero,List.nil_append,Nat.zero_add]
 have hl:(wordsOf N (nw N)).toList.length=nw N:=by simp [wordsOf]
 by_cases hi:i < nw N
 ·rw [List.getElem?_append_left (by rw [hl];exact hi),Array.getElem?_toList,wordsOf_get hi,wordsOf_get (by omega)]
 ·rw [List.getElem?_append_right (by rw [hl];omega),hl,List.getElem?_drop,show nw N+(i-nw N)=i by omega,Array.getElem?_toList]
  by_cases hj:i < L
  ·rw [wordsOf_get hj,wordsOf_get hj,wd_zero,wd_ge (by omega)]
  ·rw [Array.getElem?_eq_none (by rw [wordsOf_size];omega),Array.getElem?_eq_none (by rw [wordsOf_size];omega)]
theorem with_out (v:Value) (N:Nat) (i:Int) (w:World) (hs:IsSet w v N) (hi:i < 0∨4095 < i) :
  Calls Tryz.prog 125 #[.agg #[v],.int .i64 i] w fun e w'=>∃ r,e=.returned (.agg #[r])∧IsSet w' r N∧Below w.heap.size w w':=by
 obtain ⟨A,c,rfl,hN,_⟩:=id hs
 have hs1:=(hs.keep (KeepW.alloc w (.cells #[Value.slice A (nw N) c] 58)))
 have hs2:=hs1.keep (KeepW.alloc _ (.cells #[Value.slice A (nw N) c] 58))
 rcases hi with h | h
 ·go_enter Tryz.func125,Tryz.ntmps125
  go_wp2
  refine bodyPost_ret (v:=.agg #[.slice A (nw N) c]) (by simp [results,Tryz.results125,go_sem]) rfl ⟨_,rfl,?_,?_⟩
  ·exact hs2
  ·exact ((Below.refl _ _).alloc (Nat.le_refl _) _).alloc (by simp) _
 ·have h0:¬ i < 0:=by omega
  go_enter Tryz.func125,Tryz.ntmps125
  go_wp2
  refine bodyPost_ret (v:=.agg #[.slice A (nw N) c]) (by simp [results,Tryz.results125,go_sem]) rfl ⟨_,rfl,?_,?_⟩
  ·exact hs2
  ·exact ((Below.refl _ _).alloc (Nat.le_refl _) _).alloc (by simp) _
theorem with_had (v:Value) (N I:Nat) (w:World) (hs:IsSet w v N) (hI:I≤4095) (ht:N.testBit I=true) :
  Calls Tryz.prog 125 #[.agg #[v],.int .i64 I] w fun e w'=>∃ r,e=.returned (.agg #[r])∧IsSet w' r N∧Below w.heap.size w w':=by
 obtain ⟨A,c,rfl,hN,_⟩:=id hs
 have h0:¬ (I:Int) < 0:=by omega
 have h1:¬ (4095:Int) < (I:Int):=by omega
 go_enter Tryz.func125,Tryz.ntmps125
 go_wp2_with fail
 refine absC2 fun W0 hA0 hR0 hbel0 hz=>?_
 refine (has_in _ N I _ (hs.below hbel0) hI).mono ?_
 rintro e w1 ⟨rfl,hb1⟩
 have hA1:=hA0.below hb1 hA0.lt
 have hR1:=hR0.below hb1 hR0.lt
 have cA:=hA1.cell 0
 have cR:=hR1.cell 0
 have fR:=hR1.frozen 0
 go_wp2
 have cX:=(hR1.set_ 0 (.slice A (nw N) c)).cell 0
 refine bodyPost_ret (v:=.agg #[.slice A (nw N) c]) (by simp [results,Tryz.results125,go_sem,cX]) rfl ⟨_,rfl,?_,(hbel0.trans (hb1.mono hbel0.size)).setCell (by simp) _⟩
 exact ((hs.below hbel0).below hb1).keep (KeepW.setCell (t:=58) hR1 (by decide) _)
theorem with_new (v:Value) (N I:Nat) (w:World) (hs:IsSet w v N) (hI:I≤4095) (ht:N.testBit I=false) :
  Calls Tryz.prog 125 #[.agg #[v],.int .i64 I] w fun e w'=>∃ r,e=.returned (.agg #[r])∧IsSet w' r (N|||2 ^ I)∧Below w.heap.size w w':=by
 obtain ⟨A,c,rfl,hN,_,_,h4⟩:=id hs
 have hmx:(if (nw N:Int) < (I:Int)/64+1 then (I:Int)/64+1 else (nw N:Int))=(max (nw N) (I/64+1):Nat):=by split <;> omega
 obtain ⟨L,hLe⟩:∃ L,L=max (nw N) (I/64+1):=⟨_,rfl⟩
 rw [← hLe] at hmx
 have hL:L≤64:=by omega
 have hL1:nw N≤L:=by omega
 have hL2:I/64 < L:=by omega
 have hnw:nw (N|||2 ^ I)=L:=by rw [nw_or,nw_pow,hLe]
 have HNW:=Lib.hid hnw;clear hnw
 have HLe:=Lib.hid hLe;clear hLe
 have hmk:=make_u64 L (by omega)
 have h0:¬ (I:Int) < 0:=by omega
 have h1:¬ (4095:Int) < (I:Int):=by omega
 go_enter Tryz.func125,Tryz.ntmps125
 go_wp2_with fail
 refine absC2 fun W0 hA0 hR0 hbel0 hz=>?_
 refine (has_in _ N I _ (hs.below hbel0) hI).mono ?_
 rintro e w1 ⟨rfl,hb1⟩
 have hA1:=hA0.below hb1 hA0.lt
 have hR1:=hR0.below hb1 hR0.lt
 have cA:=hA1.cell 0
 have hsrc:0 < nw N→∃ g,A=some ⟨g,0,none⟩∧g < w1.heap.size∧∀ k,k < nw N→w1.cell? ⟨g,k,none⟩=some (u64 (wd N k)):=fun hp=>by
  obtain ⟨g,cs,hA,hb,hc⟩:=h4 hp
  have hb':=(hb.below hbel0 hb.lt).below hb1 (Nat.lt_of_lt_of_le hb.lt hbel0.size)
  exact ⟨g,hA,hb'.lt,fun k hk=>(hb'.cell k).trans (hc k hk)⟩
 have HSRC:=Lib.hid hsrc;clear hsrc h4
 have hl1:=hA1.lt
 go_wp2_with (with_reducible refine wpList_copy_splice rfl (.tmp 26) (.tmp 28) 56 56 rfl 146 Tryz.underlying56 size_u64 (some ⟨w1.heap.size,0,none⟩) A L L (nw N) c rfl rfl w1.heap.size 0 (wordsOf 0 L).toList 146 ?hg (wordsOf N (nw N)).toList ?hn ?hpos ?hfit ?h1 w1.heap.size w1 ?hb (Nat.le_refl _) ?_)
 case hg=>rw [← wordsOf_zero];exact heap_alloc_new _ _
 case hn=>rw [show (nw N).min L=nw N from Nat.min_eq_left hL1];simp [wordsOf]
 case hpos =>
  intro hp
  have hp':0 < nw N:=by simpa [wordsOf] using hp
  obtain ⟨g,hA,hg,hc⟩:=HSRC.out hp'
  refine ⟨⟨g,0,none⟩,hA,fun j u hu=>?_⟩
  have hj:j < nw N:=by have:=(Array.getElem?_eq_some_iff.1 hu).1;simpa [wordsOf] using this
  rw [wordsOf_get hj] at hu
  cases hu
  have e:(⟨g,0,none⟩:Addr).add j=⟨g,j,none⟩:=by unfold Addr.add;split <;> simp_all
  rw [e]
  exact (World.cell?_alloc_lt _ _ _ hg).trans (hc j hj)
 case hfit=>simp [wordsOf];omega
 case h1=>intro u hu;simp [wordsOf] at hu;obtain ⟨k,_,rfl⟩:=hu;rfl
 case hb=>exact (Below.refl _ _).alloc (Nat.le_refl _) _
 intro w2 hg2 hb2
 have hg3:Blk w2 w1.heap.size 146 (wordsOf N L):=by
  have:=hg2.out
  rw [splice_words N L hL1] at this
  exact this
 clear hg2
 have h64:I%64 < 64:=Nat.mod_lt _ (by omega)
 have cW:=hg3.cell (I/64)
 have fW:=hg3.frozen (I/64)
 rw [wordsOf_get hL2] at cW
 have hsh:=shl_form (I%64) h64
 have hof:=or_form N I
 go_wp2_with fail
 have q1:=i64w (x:=(I:Int)/64) (by omega)
 have q2:(I:Int).tmod 64=(I:Int)%64:=Int.tmod_eq_emod_of_nonneg (by omega)
 have q3:(0:Int)≤(I:Int)/64:=by omega
 have q4:(I:Int)/64 < (L:Int):=by omega
 have q5:((I:Int)/64).toNat=I/64:=by omega
 have q6:((I:Int)%64).toNat=I%64:=by omega
 have q7:(0:Int)≤(I:Int)%64:=by omega
 have q8:(I:Int)%64 < 64:=by omega
 refine wp_spine (fun W=>Below w2.heap.size w2 W) [0,1,2,3,4,5,6,7,8,9] [10] (by kernel_rfl) (by kernel_rfl) ?_
 iterate 10 (refine wpE_op (v:=?_) rfl rfl (fun W hW=>?_) ?_;rotate_left;(have c1:=onB hW cW;go_simp;first | done | with_reducible rfl);simp only [pt1,pt3,pt4,pt5])
 refine wpE_nil ⟨fun h=>(by cases h),wpSp_op rfl (Below.refl _ _).drew ?_⟩
 clear q1 q2 q3 q4 q5 q6 q7 q8
 go_wp2_with fail
 refine nxt_nil ?_
 have hb3:=hg3.set_ (I/64) (u64 (wd N (I/64)|||2 ^ (I%64)))
 rw [wordsOf_with] at hb3
 have hR2:=(hR1.below hb2 hR1.lt).far (p:=⟨w1.heap.size,I/64,none⟩) (by have:=hR1.lt;simp;omega) (u64 (wd N (I/64)|||2 ^ (I%64)))
 have hbel:Below w.heap.size w (w2.setCell ⟨w1.heap.size,I/64,none⟩ (u64 (wd N (I/64)|||2 ^ (I%64)))) :=
  (((hbel0.trans (hb1.mono hbel0.size)).trans (hb2.mono (Nat.le_trans hbel0.size hb1.size)))).setCell (by simp;omega) _
 have cR2:=hR2.cell 0
 have fR2:=hR2.frozen 0
 have hne:w1.heap.size≠w.heap.size+1:=by have:=hR1.lt;omega
 go_wp2_with fail
 have cX:=(hR2.set_ 0 (.slice (some ⟨w1.heap.size,0,none⟩) L L)).cell 0
 refine bodyPost_ret (v:=.agg #[.slice (some ⟨w1.heap.size,0,none⟩) L L]) (by simp [results,Tryz.results125,go_sem,cX]) rfl ⟨_,rfl,?_,hbel.drew.setCell (by simp) _⟩
 have e:=HNW.out
 rw [← e] at hb3 hL ⊢
 exact IsSet.mk_ (hb3.drew.far (p:=⟨w.heap.size+1,0,none⟩) (by simpa using hne) _) hL (Nat.le_refl _) (le64 hL) (fun k hk=>wordsOf_get hk)
theorem with_any (v:Value) (N:Nat) (i:Int) (w:World) (hs:IsSet w v N) :
  Calls Tryz.prog 125 #[.agg #[v],.int .i64 i] w fun e w'=>∃ r,e=.returned (.agg #[r])∧IsSet w' r (withB N i)∧Below w.heap.size w w':=by
 unfold withB
 by_cases h:0≤i∧i≤4095
 ·rw [if_pos h]
  obtain ⟨I,rfl⟩:=Int.eq_ofNat_of_zero_le h.1
  rw [Int.toNat_natCast]
  by_cases ht:N.testBit I=true
  ·have e:N|||2 ^ I=N:=by
    apply Nat.eq_of_testBit_eq;intro j
    rw [Nat.testBit_or,Nat.testBit_two_pow]
    by_cases hj:I=j
    ·subst hj;simp [ht]
    ·simp [hj]
   rw [e]
   exact with_had v N I w hs (by omega) ht
  ·exact with_new v N I w hs (by omega) (by simpa using ht)
 ·rw [if_neg h]
  exact with_out v N i w hs (by omega)
end Go.Proofs.YtafpmkdlciioaaaGreatDoor
namespace Go.Proofs.YtafpmkdlciioaaaGreatDoor
open Go.RowKit
attribute [local go_sem] Oper.semAt_some
def Tab (w:World):Prop:=TabAt 0 Lib.deBruijn64tab w
theorem Tab.below {w w':World} (h:Tab w) (hb:Below w.heap.size w w'):Tab w':=fun j hj=>onB hb (h j hj)
theorem tz_core (x k idx:Nat) (w:World) (hx0:((x:Int) == 0)=false)
  (key:IntKind.u64.wrap (bits BinOp.and IntKind.u64 (x:Int) (IntKind.u64.wrap (-(x:Int)))*285870213051353865)/288230376151711744=(idx:Int))
  (hi:idx < 64) (hk:k < 64) (hcell:w.cell? ⟨0,idx,none⟩=some (.int .u8 k)) :
  Calls Tryz.prog 96 #[.int .u64 x] w fun e w'=>e=.returned (.int .i64 k)∧w=w':=by
 go_enter Tryz.func96,Tryz.ntmps96
 go_wp2
 go_ret
 exact ⟨rfl,rfl⟩
theorem tz_any (x:Nat) (hx0:x≠0) (hx:x < 2 ^ 64) (w:World) (hT:Tab w) :
  Calls Tryz.prog 96 #[.int .u64 x] w fun e w'=>e=.returned (.int .i64 (Lib.ctz 64 x))∧w=w':=by
 obtain ⟨hlow,hk⟩:=Lib.lowest_bit 64 x hx0 hx
 obtain ⟨hi,htab⟩:=Lib.deBruijn64_at _ hk
 have hcell:=hT _ hi
 rw [htab] at hcell
 exact tz_core x _ _ w (by simp;omega) (tz64_key x _ hx hx0 hlow) hi hk hcell
theorem ctz_spec (y:Nat) (h0:y≠0) (h:y < 2 ^ 64):∃ b,Lib.ctz 64 y=b∧b < 64∧y.testBit b=true∧(∀ i,i < b→y.testBit i=false)∧∀ i,(y&&&(y-1)).testBit i=(y.testBit i&&decide (i≠b)):=by
 obtain ⟨m,hm,hk⟩:=Lib.ctzFrom_spec 64 y (by omega) h
 have e:Lib.ctz 64 y=Lib.ctzFrom 64 y:=by simp [Lib.ctz,h0]
 rw [e]
 generalize Lib.ctzFrom 64 y=b at hm hk
 have hp:0 < 2 ^ b:=Nat.two_pow_pos b
 have hy:∀ i,y.testBit i=if i < b then false else (2*m+1).testBit (i-b):=fun i=>by
  rw [hm,show 2 ^ b*(2*m+1)=2 ^ b*(2*m+1)+0 by rfl,Nat.testBit_two_pow_mul_add _ hp];simp
 have hy1:∀ i,(y-1).testBit i=if i < b then (2 ^ b-1).testBit i else (2*m).testBit (i-b):=fun i=>by
  rw [show y-1=2 ^ b*(2*m)+(2 ^ b-1) by rw [hm,Nat.mul_add];omega,Nat.testBit_two_pow_mul_add _ (by omega)]
 refine ⟨b,rfl,hk,?_,fun i hi=>by rw [hy,if_pos hi],fun i=>?_⟩
 ·rw [hy,if_neg (by omega),Nat.sub_self,Nat.testBit_zero];simp
 ·rw [Nat.testBit_and,hy,hy1]
  by_cases h1:i < b
  ·simp [h1]
  ·rw [if_neg h1,if_neg h1]
   by_cases h2:i=b
   ·subst h2;simp [Nat.testBit_zero]
   ·obtain ⟨j,hj⟩:∃ j,i-b=j+1:=⟨i-b-1,by omega⟩
    rw [hj,Nat.testBit_succ,Nat.testBit_succ,show (2*m+1)/2=m by omega,show 2*m/2=m by omega]
    simp [h2]
def hiB (x m:Nat):Nat:=(x >>> m) <<< m
theorem testBit_hiB (x m i:Nat):(hiB x m).testBit i=(decide (m≤i)&&x.testBit i):=by
 unfold hiB
 rw [Nat.testBit_shiftLeft,Nat.testBit_shiftRight]
 by_cases h:m≤i
 ·simp [h]
 ·simp [h]
theorem hiB_zero (x:Nat):hiB x 0=x:=by simp [hiB]
theorem hiB_lt {x m:Nat} (h:x < 2 ^ 64):hiB x m < 2 ^ 64:=by
 apply Nat.lt_pow_two_of_testBit
 intro i hi
 rw [testBit_hiB,Nat.testBit_lt_two_pow (Nat.lt_of_lt_of_le h (Nat.pow_le_pow_right (by omega) hi))];simp
theorem hiB_next {x m b:Nat} (hb:m≤b) (h:∀ i,(hiB x m&&&(hiB x m-1)).testBit i=((hiB x m).testBit i&&decide (i≠b))) (hlow:∀ i,i < b→(hiB x m).testBit i=false):hiB x m&&&(hiB x m-1)=hiB x (b+1):=by
 apply Nat.eq_of_testBit_eq;intro i
 rw [h]
 by_cases h1:i < b
 ·rw [hlow i h1,testBit_hiB]
  have:¬ b+1≤i:=by omega
  simp [this]
 ·rw [testBit_hiB,testBit_hiB]
  by_cases h2:i=b
  ·subst h2
   have:¬ i+1≤i:=by omega
   simp [this]
  ·have:b+1≤i:=by omega
   have h3:m≤i:=by omega
   simp [h2,this,h3]
abbrev Mem (N:Nat):={ x:Nat // N.testBit x=true }
def mTo (N:Nat):Nat→List (Mem N)
 | 0=>[]
 | t+1=>if h:N.testBit t=true then mTo N t ++ [⟨t,h⟩] else mTo N t
theorem mTo_yes {N t:Nat} (h:N.testBit t=true):mTo N (t+1)=mTo N t ++ [⟨t,h⟩]:=by rw [mTo,dif_pos h]
theorem mTo_no {N t:Nat} (h:N.testBit t=false):mTo N (t+1)=mTo N t:=by rw [mTo,dif_neg (by simp [h])]
theorem mTo_len (N t:Nat):(mTo N t).length≤t:=by
 induction t with
 | zero=>exact Nat.le_refl _
 | succ t ih=>rw [mTo];split <;> (try simp) <;> omega
theorem mTo_skip {N a:Nat}:∀ d,(∀ i,a≤i→i < a+d→N.testBit i=false)→mTo N (a+d)=mTo N a
 | 0,_=>rfl
 | d+1,h=>by rw [← Nat.add_assoc,mTo_no (h (a+d) (by omega) (by omega)),mTo_skip d fun i h1 h2=>h i h1 (by omega)]
def mems (N:Nat):List Nat:=(mTo N (64*nw N)).map (·.1)
theorem mTo_map (N t:Nat):(mTo N t).map (·.1)=(List.range t).filter N.testBit:=by
 induction t with
 | zero=>rfl
 | succ t ih =>
  rw [List.range_succ,List.filter_append,← ih]
  by_cases h:N.testBit t=true
  ·rw [mTo_yes h];simp [h]
  ·rw [mTo_no (by simpa using h)];simp [h]
theorem mem_mems {N i:Nat}:i∈mems N↔N.testBit i=true:=by
 unfold mems
 rw [mTo_map,List.mem_filter,List.mem_range]
 refine ⟨fun h=>h.2,fun h=>⟨?_,h⟩⟩
 rcases Nat.lt_or_ge i (64*nw N) with hl | hl
 ·exact hl
 ·rw [testBit_ge (Nat.le_refl _) hl] at h;cases h
theorem hideC {p:Prop} (h:p):Hid p:=h
def KpA (W W':World):Prop:=KeepW W W'∧(Tab W→Tab W')
theorem KpA.trans {A B C:World} (h:KpA A B) (k:KpA B C):KpA A C:=⟨h.1.trans k.1,fun t=>k.2 (h.2 t)⟩
theorem KpA.refl (W:World):KpA W W:=⟨KeepW.refl W,id⟩
theorem KpA.of_below {W W':World} (h:Below W.heap.size W W'):KpA W W':=⟨.of_below h,fun t=>t.below h⟩
theorem all1_in (n:Nat) (hn:1≤n) (l Bx:Nat) (v:Value) (N:Nat) (J Jx:List (Mem N)→World→Prop)
  (hY:∀ pre (x:Mem N) W,J pre W→pre.length < 4096→YieldAt Fence.wide (n-1) Tryz.prog l #[.int .i64 (x.1:Int)] W fun e W' =>
   (e=.returned (.bool true)∧J (pre ++ [x]) W'∧KpA W W')∨(e=.returned (.bool false)∧Jx (pre ++ [x]) W'))
  (W:World) (hBx:W.cell? ⟨Bx,0,none⟩=some v) (hs:IsSet W v N) (hT:Tab W) (h0:J [] W) :
  CallsIn Fence.wide n Tryz.prog 95 #[.func (.yield l) #[] #[],.pointer (some ⟨Bx,0,none⟩)] W fun e W'=>(∃ v,e=.returned v) ∧
   ((∃ ys,ys=mTo N (64*nw N)∧J ys W')∨(∃ pre,True∧Jx pre W')):=by
 obtain ⟨A,c,rfl,hN,_,_,h4⟩:=hs
 refine callsIn_of_wp Tryz.func95 rfl trivial ?_ rfl
 simp only [Tryz.ntmps95,List.size_toArray,List.length_cons,List.length_nil,Nat.reduceAdd,Nat.reduceSub,Array.replicate_succ,Array.replicate_zero,List.push_toArray,List.append_toArray,List.nil_append,List.cons_append]
 gi_wp2
 gi_loopw [3,4,8] (fun _ _ i wr=>∃ k:Nat,k≤nw N∧i=.int .i64 k∧J (mTo N (64*k)) wr∧KpA W wr)
  (fun _ _ i _=>nw N-(intOf i).toNat)
 case atStart=>exact ⟨0,Nat.zero_le _,rfl,h0,KpA.refl _⟩
 case round =>
  obtain ⟨k,hk,rfl,hJs,hkp⟩:=hrel
  by_cases hlt:k < nw N
  ·obtain ⟨g,cs,rfl,hb,hc⟩:=h4 (by omega)
   have hcell:=((hkp.1.2 g cs hb).cell k).trans (hc k hlt)
   clear h4 hc hb
   obtain ⟨wo,rfl⟩:∃ wo:World,wo=wr:=⟨_,rfl⟩
   gi_wp2
   gi_loopw [4] (fun x wq=>∃ m:Nat,m≤64∧x=.int .u64 (hiB (wd N k) m)∧J (mTo N (64*k+m)) wq∧KpA W wq)
    (fun x _=>(intOf x).toNat)
   case atStart=>exact ⟨0,Nat.zero_le _,by rw [hiB_zero],hJs,hkp⟩
   case round =>
    obtain ⟨m,hm,rfl,hJm,hkm⟩:=hrel
    obtain ⟨y,hyE⟩:∃ y,y=hiB (wd N k) m:=⟨_,rfl⟩
    rw [← hyE]
    have hyl:y < 2 ^ 64:=by rw [hyE];exact hiB_lt (wd_lt N k)
    have hbit:∀ i,m≤i→i < 64→N.testBit (64*k+i)=y.testBit i:=fun i h1 h2=>by rw [hyE,testBit_hiB,testBit_wd];simp [h1,h2]
    have HYE:=Lib.hid hyE;clear hyE
    have HBIT:=Lib.hid hbit;clear hbit
    by_cases h0:y=0
    ·have e0:((y:Int) != 0)=false:=by simp [h0]
     have hJn:J (mTo N (64*(k+1))) wr:=by
      have:=mTo_skip (N:=N) (a:=64*k+m) (64-m) fun i h1 h2=>by
       have:=HBIT.out (i-64*k) (by omega) (by omega)
       rw [show 64*k+(i-64*k)=i by omega,h0,Nat.zero_testBit] at this
       exact this
      rw [show 64*k+m+(64-m)=64*(k+1) by omega] at this
      rw [this];exact hJm
     have H0:=Lib.hid h0;clear h0
     gi_wp2
     exact ⟨⟨k+1,by omega,by go_num,hJn,hkm⟩,by simp [intOf];omega⟩
    ·obtain ⟨b,hb,hb64,hbt,hblow,hand⟩:=ctz_spec y h0 hyl
     have hmb:m≤b:=by
      rcases Nat.lt_or_ge b m with h | h
      ·rw [HYE.out,testBit_hiB] at hbt
       simp at hbt;omega
      ·exact h
     have hNb:N.testBit (64*k+b)=true:=by rw [HBIT.out b hmb hb64];exact hbt
     have hpre:mTo N (64*k+b)=mTo N (64*k+m):=by
      have:=mTo_skip (N:=N) (a:=64*k+m) (b-m) fun i h1 h2=>by
       have:=HBIT.out (i-64*k) (by omega) (by omega)
       rw [show 64*k+(i-64*k)=i by omega,hblow _ (by omega)] at this
       exact this
      rw [show 64*k+m+(b-m)=64*k+b by omega] at this
      exact this
     have hsuc:mTo N (64*k+(b+1))=mTo N (64*k+m) ++ [⟨64*k+b,hNb⟩]:=by rw [← hpre,← mTo_yes hNb,Nat.add_assoc]
     have hnext:y&&&(y-1)=hiB (wd N k) (b+1):=by
      rw [HYE.out]
      exact hiB_next hmb (by rw [← HYE.out];exact hand) (by rw [← HYE.out];exact hblow)
     have hlt2:y&&&(y-1)≤y-1:=Nat.and_le_right
     rw [hnext] at hlt2
     obtain ⟨fn,tmps,assign,body,hy,hR⟩:=hY _ ⟨64*k+b,hNb⟩ wr hJm (Nat.lt_of_le_of_lt (mTo_len _ _) (by omega))
     have ecast:((64*k+b:Nat):Int)=64*(k:Int)+b:=by omega
     dsimp only at hy
     rw [ecast] at hy
     have e0:((y:Int) != 0)=true:=by rw [bne_iff_ne];omega
     have e1:IntKind.u64.wrap ((y:Int)-1)=((y-1:Nat):Int):=by rw [show (y:Int)-1=((y-1:Nat):Int) by omega,u64_wrap_nat _ (by omega)]
     have e2:=u64_and_nat y (y-1) hyl (by omega)
     rw [hnext] at e2
     have htz:=tz_any y h0 hyl wr (hkm.2 hT)
     rw [hb] at htz
     have HTZ:=hideC htz;clear htz
     have H1:=Lib.hid hnext;have H2:=Lib.hid hsuc;have H3:=Lib.hid h0
     clear hnext hsuc h0 hpre hand hblow hbt ecast hb
     gi_wp2_with (refine ⟨trivial,?_⟩;gi_at_call 96;refine (callsIn_wide.2 HTZ.out).mono ?_;rintro e w1 ⟨rfl,rfl⟩)
     refine hR.mono ?_
     rintro e W3 (⟨rfl,hJ3,hk3⟩ | ⟨rfl,hJx3⟩)
     ·gi_wp2
      exact ⟨⟨b+1,by omega,rfl,by rw [H2.out];exact hJ3,hkm.trans hk3⟩,by simp [intOf];have:=H3.out;omega⟩
     ·gi_wp2
      refine bodyPost_ret (results_none rfl _ _ _) rfl ?_
      exact ⟨⟨_,rfl⟩,.inr ⟨_,trivial,hJx3⟩⟩
  ·obtain rfl:k=nw N:=by omega
   clear h4
   gi_wp2
   go_end0
   exact ⟨⟨_,rfl⟩,.inl ⟨_,rfl,hJs⟩⟩
theorem all_any (A:Option Addr) (n c:Nat) (w:World) :
  Calls Tryz.prog 46 #[.agg #[.slice A n c]] w fun e w'=>e=.returned (.func (.func 95) #[] #[.pointer (some ⟨w.heap.size,0,none⟩)])∧w'=w.alloc (.cells #[.slice A n c] 58):=by
 go_enter Tryz.func46,Tryz.ntmps46
 go_wp2
 go_ret
 exact ⟨rfl,rfl⟩
theorem all_stops (n:Nat) (hn:1≤n) (Bx:Nat) (v:Value) (N:Nat) (w:World) (hBx:w.cell? ⟨Bx,0,none⟩=some v) (hs:IsSet w v N) (hT:Tab w) :
  SeqStopsK Fence.wide n Tryz.prog 95 #[.pointer (some ⟨Bx,0,none⟩)] (fun x:Mem N=>#[Value.int .i64 (x.1:Int)]) KpA (fun ys=>ys=mTo N (64*nw N)) (fun _=>True) 4096 w :=
 fun l J Jx W hW _ _ hY h0=>all1_in n hn l Bx v N J Jx hY W (onB hW hBx) (hs.below hW) (hT.below hW) h0
theorem KpA.putObj {W:World} {l:Nat} {o o':Obj} (hl:W.heap[l]?=some o) (ho:o.isCells=false):KpA W (W.putObj l o'):=by
 have hb:∀ k t cs,Blk W k t cs→(W.putObj l o').heap[k]?=W.heap[k]?:=fun k t cs h=>World.putObj_heap_other (fun e=>by
  subst e;unfold Blk at h;rw [hl] at h;cases h;cases ho)
 refine ⟨⟨by simp,fun g cs h=>(hb g _ cs h).trans h⟩,fun t j hj=>?_⟩
 have h:=t j hj
 have hne:0≠l:=fun e=>by
  subst e
  unfold World.cell? at h
  rw [show W.heap[(⟨0,j,none⟩:Addr).block]?=some o from hl] at h
  cases o <;> simp_all [Obj.isCells]
 exact (World.cell?_of_block (w:=W) (a:=⟨0,j,none⟩) (World.putObj_heap_other hne)).trans h
theorem wp_rangeAll {g:Operand} {ps:Array Tmp} {assign body:Code} {Q:Exit→Act→World→Prop} {a:Act} {w:World} {v:Value} {N Bx:Nat}
  (hg:a.eval g=.func (.func 95) #[] #[.pointer (some ⟨Bx,0,none⟩)]) (hBx:w.cell? ⟨Bx,0,none⟩=some v) (hs:IsSet w v N) (hT:Tab w) (hps:ps.size=1)
  (I:List Nat→World→Prop) (Ix:Code→List Nat→World→Prop) (hI:OwnFrom w.heap.size I) (hIx:∀ c,OwnFrom w.heap.size (Ix c)) (h0:I [] w) (a₁:Nat→Act)
  (hassign:∀ (l x:Nat) (W:World) (K:Act→World→Prop),K (a₁ x) W →
   assign.wpIn (Fence.wide.inRound l) 7 Tryz.prog (Exit.then K (fun _ _ _=>False)) { tmps:=(ps.zip #[Value.int .i64 (x:Int)]).foldl (fun t (p,v)=>t.setIfInBounds p v) a.tmps,defers:=[] } W)
  (hbody:∀ (l:Nat) (pre:List Nat) (x:Nat) (W:World),N.testBit x=true→I pre W→pre.length < 4096→KpA w W→body.wpIn (Fence.wide.inRound l) 7 Tryz.prog (ownPostG w.heap.size KpA I Ix (pre ++ [x]) W) (a₁ x) W)
  (hdone:∀ (D:Nat) (W:World),w.heap.size≤D→I (mems N) W→W.heap[D]?=some (.deferred (some []))→Q .normal { a with defers:={ target:=.collected D,args:=#[] } :: a.defers } W)
  (hstop:∀ (D:Nat) (c:Code) (pre:List Nat) (W:World),w.heap.size≤D→Ix c pre W→W.heap[D]?=some (.deferred (some []))→c.wp Tryz.prog Q { a with defers:={ target:=.collected D,args:=#[] } :: a.defers } W) :
  (Code.rangeFunc g ps assign body).wp Tryz.prog Q a w:=by
 have hkI:OwnFrom w.heap.size (fun (_:List (Mem N)) W=>KpA w W):=fun s W W' row hs hg hr=>by
  refine hs.trans ?_
  have hb:∀ k t cs,Blk W k t cs→W'.heap[k]?=W.heap[k]?:=fun k t cs h=>hg.block k h.lt fun e=>by
   obtain ⟨_,o,ho,hc⟩:=hr k e.symm
   unfold Blk at h;rw [ho] at h;cases h;cases hc
  refine ⟨⟨hg.size,fun g cs h=>(hb g _ cs h).trans h⟩,fun t j hj=>?_⟩
  have h:=t j hj
  refine (World.cell?_of_block (w:=W) (a:=⟨0,j,none⟩) (hg.block _ (cell_lt h) fun e=>?_)).trans h
  obtain ⟨_,o,ho,hc⟩:=hr _ e.symm
  unfold World.cell? at h
  rw [ho] at h
  cases o <;> simp_all [Obj.isCells]
 refine (wpIn_wide (n:=9)).1 (wpIn_rangeFunc_ownG (F:=Fence.wide) (n:=9) rfl (by omega) hg trivial (enters_of Tryz.func95 (by kernel_rfl) rfl)
  (all_stops 8 (by omega) Bx v N w hBx hs hT) (fun h k=>KpA.trans h k) (fun W l o o' _ hl ho _=>KpA.putObj hl ho) (Below.refl _ _) (fun _=>hps.symm)
  (fun xs W=>I (xs.map (·.1)) W∧KpA w W) (fun c xs W=>Ix c (xs.map (·.1)) W)
  (OwnFrom.and (fun s=>hI (s.map (·.1))) hkI) (fun c s=>hIx c (s.map (·.1))) ⟨h0,KpA.refl _⟩ (fun x=>a₁ x.1) (fun l x=>hassign l x.1) ?_ ?_ ?_)
 ·rintro l pre x W ⟨hi,hk⟩ hlen
  refine wpIn_mono (hbody l (pre.map (·.1)) x.1 W x.2 hi (by simpa using hlen) hk) ?_
  intro e a' W' h
  cases e with
  | normal=>exact ⟨h.1,h.2.1,by simpa using h.2.2,hk.trans h.2.1⟩
  | ret=>exact ⟨h.1,by simpa using h.2⟩
  | exit id=>exact ⟨h.1,by simpa using h.2⟩
  | goto t=>exact ⟨h.1,by simpa using h.2⟩
  | panic c=>exact h
  | outgrown=>exact h
 ·rintro D xs W hD rfl ⟨hi,_⟩ hK
  exact hdone D W hD hi hK
 ·rintro D c pre W hD _ hi hK
  exact wpIn_wide.2 (hstop D c _ W hD hi hK)
theorem info_int:(Tryz.prog.info? 3).map (fun i=>(i.zero,i.size,i.bytes))=some (some (.int .i64 0),1,8):=by kernel_rfl
abbrev i64 (x:Nat):Value:=.int .i64 (x:Int)
theorem make0_run {P:Program} (t e:TypeId) (z:Value) (bytes:Nat) (ht:P.underlying t=some (.slice e)) (hinfo:(P.info? e).map (fun i=>(i.zero,i.size,i.bytes))=some (some z,1,bytes)) (hz1:z.cells=#[z])
  (n:Nat) (hb:bytes*n≤281474976710656) (hn:n≤65536) (w:World) :
  (Instr.makeSlice t (.int .i64 0) (.int .i64 (n:Int))).run P w=.ok (.slice (some ⟨w.heap.size,0,none⟩) 0 n) (w.alloc (.cells (zeros z n) e)):=by
 obtain ⟨i,hi,hz,hs,hby⟩:=info_parts hinfo
 have hb':(i.bytes:Int)*(n:Int)≤281474976710656:=by
  have h:((i.bytes*n:Nat):Int)≤281474976710656:=by rw [hby];omega
  rwa [Int.natCast_mul] at h
 have hr:=run_make (P:=P) w t e i z ht hi hz .i64 .i64 0 n (by omega) (by omega) hb' (by omega)
 simp only [Int.toNat_natCast,hs,hz1,Nat.mul_one,madeCells_one] at hr
 exact hr
theorem row_of_own {w:World} {base:Nat} {e:TypeId} {v:Value} {n:Nat} {xs:List Value} (h:w.ownsRow base e 1 v n xs):∃ A c,v=.slice A n c∧n≤c∧c≤maxLen∧Row w A xs∧xs.length=n:=by
 obtain ⟨hl,h⟩:=h
 rcases h with ⟨rfl,rfl⟩ | ⟨g,cap,cur,rfl,hg,hb,hnc,hm,hs,ht⟩
 ·have:xs=[]:=List.eq_nil_of_length_eq_zero (by omega)
  subst this
  exact ⟨none,0,rfl,Nat.le_refl _,by decide,Row.empty _ _,rfl⟩
 ·refine ⟨_,cap,rfl,hnc,hm,Row.of_blk (t:=e) (cs:=cur) hb fun k u hu=>?_,by omega⟩
  rw [← ht] at hu
  rw [List.getElem?_take] at hu
  split at hu
  ·simpa using hu
  ·cases hu
theorem pc_filter (N m:Nat):pc m N=((List.range m).filter N.testBit).length:=by
 unfold pc;rw [List.countP_eq_length_filter]
theorem mems_len (N:Nat):(mems N).length=card N:=by
 unfold mems card;rw [mTo_map,pc_filter]
theorem card_le {N:Nat} (h:nw N≤64):card N≤4096:=Nat.le_trans (pc_le _ _) (by omega)
theorem KeepW.grown {W w1:World} {base:Nat} {e:TypeId} {size k:Nat} {v:Value} {xs:List Value} (hg:W.grownBy w1 v.ownBlock) (hrow:W.ownsRow base e size v k xs) (hne:146≠e):KeepW W w1 :=
 ⟨hg.size,fun g cs h=>(hg.block g h.lt fun ej=>by
  rcases hrow.2 with ⟨rfl,_⟩ | ⟨g',cap,cur,rfl,_,hgb,_⟩
  ·simp [Value.ownBlock] at ej
  ·obtain rfl:g=g':=by simpa [Value.ownBlock] using ej
   exact Blk.ne_ (t:=146) (t':=e) h hgb hne rfl).trans h⟩
theorem KpA.mk_ {n₀:Nat} {W W':World} (hk:KeepW W W') (hb:Below n₀ W W') (h0:0 < n₀):KpA W W' :=
 ⟨hk,fun t j hj=>(hb.cell (p:=⟨0,j,none⟩) h0).trans (t j hj)⟩
theorem Tab.pos {w:World} (h:Tab w):0 < w.heap.size:=Nat.lt_of_le_of_lt (Nat.zero_le _) (cell_lt (h 0 (by decide)))
theorem grown_alloc_row {w:World} {base:Nat} {e:TypeId} {z:Value} (n:Nat) (hb:base≤w.heap.size) (hn:n≤maxLen):(w.alloc (.cells (zeros z n) e)).ownsRow base e 1 (.slice (some ⟨w.heap.size,0,none⟩) 0 n) 0 [] :=
 ⟨by simp,.inr ⟨_,_,_,rfl,hb,heap_alloc_new _ _,Nat.zero_le _,hn,by simp [zeros],by simp⟩⟩
theorem list_any (v:Value) (N:Nat) (w:World) (hs:IsSet w v N) (hT:Tab w) :
  Calls Tryz.prog 134 #[.agg #[v]] w fun e w'=>∃ A c,e=.returned (.slice A (mems N).length c)∧(mems N).length≤c∧c≤maxLen∧Row w' A ((mems N).map i64)∧Below w.heap.size w w':=by
 obtain ⟨A,c,rfl,hN,_⟩:=id hs
 obtain ⟨i0,hi0,hz0,hz1,hz2⟩:=info_parts info_int
 have hmk:∀ W,_:=fun W=>make0_run (P:=Tryz.prog) 78 3 _ 8 Tryz.underlying78 info_int rfl (card N) (by have:=card_le hN;omega) (by have:=card_le hN;omega) W
 refine (callsIn_wide (n:=9)).1 (callsIn_of_wp_marks Tryz.func134 rfl trivial (wpIn_wide.2 ?_) rfl)
 simp only [Tryz.ntmps134,List.size_toArray,List.length_cons,List.length_nil,Nat.reduceAdd,Nat.reduceSub,Array.replicate_succ,Array.replicate_zero,List.push_toArray,List.append_toArray,List.nil_append,List.cons_append]
 go_wp2_with fail
 refine absC1 fun W0 hA0 hbel0 hz=>?_
 refine (len_any _ N _ (hs.below hbel0)).mono ?_
 rintro e w1 ⟨rfl,hb1⟩
 have hA1:=hA0.below hb1 hA0.lt
 have cA:=hA1.cell 0
 have lA:=hA1.lt
 go_wp2_with fail
 have hwb1:Below w.heap.size w w1:=hbel0.trans (hb1.mono hbel0.size)
 have own0:=((grown_alloc_row (z:=.int .i64 0) (w:=w1) (base:=w.heap.size) (e:=3) (card N) hwb1.size (by have:=card_le hN;unfold maxLen;omega)).alloc (.cells #[Value.slice (some ⟨w1.heap.size,0,none⟩) 0 (card N)] 78)).alloc (.cells #[Value.slice A (nw N) c] 58)
 have hO3:=(Blk.new_ (w:=w1.alloc (.cells (zeros (.int .i64 0) (card N)) 3)) (n:=w1.heap.size+1) (by simp) 78 #[Value.slice (some ⟨w1.heap.size,0,none⟩) 0 (card N)]).alloc (.cells #[Value.slice A (nw N) c] 58)
 refine (all_any A (nw N) c _).mono ?_
 rintro e w3 ⟨rfl,rfl⟩
 have hX3:=Blk.new_ (n:=w1.heap.size+2) (w:=(w1.alloc (.cells (zeros (.int .i64 0) (card N)) 3)).alloc (.cells #[Value.slice (some ⟨w1.heap.size,0,none⟩) 0 (card N)] 78)) (by simp) 58 #[Value.slice A (nw N) c]
 have hw3:=((hwb1.alloc hwb1.size (.cells (zeros (.int .i64 0) (card N)) 3)).alloc (by have:=hwb1.size;simp;omega) (.cells #[Value.slice (some ⟨w1.heap.size,0,none⟩) 0 (card N)] 78)).alloc (by have:=hwb1.size;simp;omega) (.cells #[Value.slice A (nw N) c] 58)
 generalize hW3:((w1.alloc (.cells (zeros (.int .i64 0) (card N)) 3)).alloc (.cells #[Value.slice (some ⟨w1.heap.size,0,none⟩) 0 (card N)] 78)).alloc (.cells #[Value.slice A (nw N) c] 58)=W3 at *
 have hs3:=hs.below hw3
 have hT3:=hT.below hw3
 have hz3:W3.heap.size=w1.heap.size+3:=by rw [← hW3];simp
 clear hW3
 have HZ3:=Lib.hid hz3;clear hz3
 have hle:w.heap.size≤w1.heap.size+1:=by have:=hwb1.size;omega
 go_wp2_with fail
 refine wp_rangeAll (v:=.slice A (nw N) c) (N:=N) (Bx:=w1.heap.size+2) rfl (hX3.cell 0) hs3 hT3 rfl
  (fun pre W=>(∃ u,Boxed W (w1.heap.size+1) 78 u∧W.ownsRow w.heap.size 3 1 u pre.length (pre.map i64))∧Below w.heap.size w W) (fun _ _ _=>False)
  ?hI (fun _ _ _ _ _ hs _ _=>hs) ?h0 ?a1 ?assign ?body ?done (fun _ _ _ _ _ h _=>h.elim)
 case assign =>
  intro l x W K hK
  gi_wp2
  exact hK
 case hI =>
  refine OwnFrom.and (Own.from ?_ _) (ownFrom_below (Nat.le_refl _) (by have:=HZ3.out;omega))
  intro s W W' row hs hg hr
  obtain ⟨v,h1,h2,_⟩:=holdsRow_own w.heap.size (w1.heap.size+1) 78 3 1 (fun pre:List Nat=>pre.length) (fun pre=>pre.map i64) (fun _ _=>True) s W W' row (by obtain ⟨u,a,b⟩:=hs;exact ⟨u,a,b,trivial⟩) hg hr
  exact ⟨v,h1,h2⟩
 case h0=>exact ⟨⟨_,hO3,own0⟩,hw3⟩
 case body =>
  rintro l pre x W hx ⟨⟨u,hv,hrow⟩,hB⟩ hlen hkp
  have hc:=hv.cell
  gi_wp2_with (gi_at_builtin;refine wpListIn_append_own _ rfl _ _ 78 rfl w.heap.size 3 i0 (.int .i64 0) 1 8 Tryz.underlying78 hi0 hz0 hz1 hz2 rfl (by decide) _ _ _ rfl (hrow.alloc _) ⟨W.heap.size,0,none⟩ 1 1 [.int .i64 x] rfl rfl (cell_one_new _ _ _) (by simp [Value.oneCell']) (by unfold maxLen;omega) (by omega) (by have:=hB.size;simp;omega) ?_;intro v' w4 hown' hgrow _;obtain ⟨g',cap',rfl⟩:=ownsRow_succ hown';have hkw:=(KeepW.alloc W _).trans (KeepW.grown hgrow (hrow.alloc _) (by decide));obtain ⟨hv1,hv2,hr2,hk2,hb2⟩:=hv.appended (by decide) hrow hB.size hle hown' hgrow;have hc1:=hv1.cell;have hf1:=hv1.frozen)
  exact ⟨hk2.from _,KpA.mk_ (hkw.trans (KeepW.setCell (p:=⟨w1.heap.size+1,0,none⟩) (t:=78) (cs:=#[u]) hv1 (by decide) _)) hb2 hT.pos,⟨_,hv2,by simpa using hr2⟩,hB.trans hb2⟩
 case done =>
  rintro D W hD ⟨⟨u,hv,hrow⟩,hB⟩ hK
  have hc:=hv.cell
  go_wp2_with fail
  refine ⟨by simp,.inl ⟨_,_,rfl,run_takeDeferred hK,?_⟩⟩
  obtain ⟨A',c',rfl,h1,h2,h3,h4⟩:=row_of_own (ownsRow_putObj hrow (.deferred none) hK rfl)
  exact ⟨_,results_tmp rfl _ _ _,A',c',rfl,h1,h2,h3,hB.trans (belowK_b (w:=w) (Nat.le_refl _) W D _ _ (by have:=HZ3.out;have:=hwb1.size;omega) hK rfl rfl)⟩
end Go.Proofs.YtafpmkdlciioaaaGreatDoor
