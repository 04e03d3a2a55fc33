/- Texts that are wanted for PTopFull.
   Conditions: none. -/
import Derived.WalkKit
import Derived.Deep.Draws
import Derived.Deep.Quiet
import Derived.Lib.Hide
import Derived.WalkSmall
import Derived.Deep.QuietTactic
import Derived.StillTail
import Derived.OrdersHeld
import Derived.Deep.RegionHeld3
import Derived.Maps.AppendAt
import Derived.Deep.AppendLies
import Derived.OwnWalk
set_option maxRecDepth 100000
set_option maxHeartbeats 6400000
namespace Go.Proofs.YtbcnnhlpilmmbaaGreat
open Go Go.RowKit
structure Kp (B:Nat) (L:List TypeId) (w w':World):Prop where
 below:Below B w w'
 ty:∀ (g:Nat) (o:Obj),w.heap[g]? =some o→(∀ cs t fz,o= .cells cs t fz→t∉L)→w'.heap[g]? =some o
variable {w:World}
theorem lt_size {g:Nat} {o:Obj} (h:w.heap[g]? =some o):g<w.heap.size:=lt_of_block h
theorem Kp.size {B:Nat} {L:List TypeId} {w w':World} (h:Kp B L w w'):w.heap.size≤w'.heap.size:=h.below.size
theorem Kp.refl (B:Nat) (L:List TypeId) (w:World):Kp B L w w:=⟨Below.refl _ _,fun _ _ h _=>h⟩
theorem Kp.trans {B:Nat} {L:List TypeId} {a b c:World} (h:Kp B L a b) (k:Kp B L b c):Kp B L a c:=
 ⟨h.below.trans k.below,fun g o ho hl=>k.ty g o (h.ty g o ho hl) hl⟩
theorem Kp.mono {B B':Nat} {L L':List TypeId} {w w':World} (h:Kp B L w w') (hB:B'≤B) (hL:∀ t,t∈L→t∈L'):Kp B' L' w w':=
 ⟨h.below.mono hB,fun g o ho hl=>h.ty g o ho fun cs t fz e ht=>hl cs t fz e (hL t ht)⟩
variable {w':World}
theorem Kp.of_below (h:Below w.heap.size w w') (L:List TypeId):Kp w.heap.size L w w':=
 ⟨h,fun g _ ho _=>(h.block g (lt_size ho)).trans ho⟩
theorem Kp.drew {B:Nat} {L:List TypeId} {a w:World} (h:Kp B L a w):Kp B L a w.drew:=⟨h.below.drew,h.ty⟩
theorem Kp.alloc {B:Nat} {L:List TypeId} {a w:World} (h:Kp B L a w) (hB:B≤w.heap.size) (o:Obj):Kp B L a (w.alloc o):=
 ⟨h.below.alloc hB o,fun g o' ho hl=>by
  have:=h.ty g o' ho hl
  exact(Below.heap_alloc w o g (lt_size this)).trans this⟩
theorem Kp.step {B:Nat} {L:List TypeId} {a w w':World} (h:Kp B L a w) (hB:B≤w.heap.size) (hb:Below w.heap.size w w'):Kp B L a w':=
 h.trans ((Kp.of_below hb L).mono hB (fun _ h=>h))
theorem Kp.grown {B:Nat} {L:List TypeId} {a w w':World} {row:Option Nat} (h:Kp B L a w) (hB:B≤w.heap.size) (hg:w.grownBy w' row)
  (hr:∀ g,row=some g→B≤g∧∃ cs t fz,w.heap[g]? =some (.cells cs t fz)∧t∈L):Kp B L a w':=
 ⟨h.below.grown hg hB (fun k hk=>(hr k hk).1),fun g o ho hl=>by
  have h1:=h.ty g o ho hl
  rw[hg.block g (lt_size h1) (fun e=>by
   obtain⟨_,cs,t,fz,h2,h3⟩:=hr g e.symm
   rw[h1] at h2
   injection h2 with h2
   exact hl cs t fz h2 h3)]
  exact h1⟩
def a8 (w:World) (g:Nat) (t:TypeId) (cs:Array Value):Prop:=w.heap[g]? =some (.cells cs t (0,0))
section
variable {w w':World} {g:Nat} {t:TypeId} {cs:Array Value}
theorem a8.lt (h:a8 w g t cs):g<w.heap.size:=lt_size h
theorem a8.cell (h:a8 w g t cs) (i:Nat):w.cell? ⟨g,i,none⟩=cs[i]? :=cell_of_row w g i cs t (0,0) h
theorem a8.cells (h:a8 w g t cs):∀ i,w.cell? ⟨g,i,none⟩=cs[i]? :=h.cell
theorem a8.frozen (h:a8 w g t cs) (i:Nat):w.frozen? ⟨g,i,none⟩=false:=by
 unfold a8 at h
 simp[World.frozen?,h]
theorem a8.frees (h:a8 w g t cs):∀ i,w.frozen? ⟨g,i,none⟩=false:=h.frozen
theorem a8.new (w:World) (t:TypeId) (cs:Array Value):a8 (w.alloc (.cells cs t)) w.heap.size t cs:=heap_alloc_new w _
theorem a8.newAt (w:World) (t:TypeId) (cs:Array Value) {g:Nat} (hg:g=w.heap.size):a8 (w.alloc (.cells cs t)) g t cs:=by subst hg;exact a8.new w t cs
theorem a8.drew (h:a8 w g t cs):a8 w.drew g t cs:=h
theorem a8.drewN (h:a8 w g t cs) (n:Nat):a8 (w.drewN n) g t cs:=h
theorem a8.alloc (h:a8 w g t cs) (o:Obj):a8 (w.alloc o) g t cs:=(Below.heap_alloc w o g h.lt).trans h
theorem a8.ao (h:a8 w g t cs) (i:Nat) (u:Value):a8 (w.setCell ⟨g,i,none⟩ u) g t (cs.setIfInBounds i u):=heap_setCell_same w g i cs t u h
theorem a8.far (h:a8 w g t cs) {p:Addr} (hp:g≠p.block) (u:Value):a8 (w.setCell p u) g t cs:=(heap_setCell_other w p g u hp).trans h
theorem a8.below {B:Nat} (h:a8 w g t cs) (hb:Below B w w') (hg:g<B):a8 w' g t cs:=(hb.block g hg).trans h
theorem a8.step (h:a8 w g t cs) (hb:Below w.heap.size w w'):a8 w' g t cs:=h.below hb h.lt
theorem a8.grown {row:Option Nat} (h:a8 w g t cs) (hb:w.grownBy w' row) (hg:row≠some g):a8 w' g t cs:=(hb.block g h.lt (fun e=>hg e.symm)).trans h
theorem a8.q8 {g':Nat} {t':TypeId} {cs':Array Value} (h:a8 w g t cs) (h':a8 w g' t' cs') (hne:t≠t'):g≠g':=by
 rintro rfl
 unfold a8 at h h'
 rw[h] at h'
 injection h' with h'
 injection h' with _ ht
 exact hne ht
end
section
variable {w w':World} {base base':Nat} {e:TypeId} {size n:Nat} {v:Value} {xs:List Value}
theorem bH (h:w.ownsRow base e size v n xs):∀ g,v.ownBlock=some g→base≤g∧∃ cs,a8 w g e cs:=by
 intro g hg
 rcases h.2 with ⟨rfl,_⟩ | ⟨g',cap,cur,rfl,hb,hh,_⟩
 ·simp[Value.ownBlock] at hg
 ·simp[Value.ownBlock] at hg
  subst hg
  exact⟨hb,cur,hh⟩
theorem own_ne {g:Nat} {t:TypeId} {cs:Array Value} (h:w.ownsRow base e size v n xs) (hg:a8 w g t cs) (hne:e≠t):v.ownBlock≠some g:=by
 intro he
 obtain⟨_,cs',h'⟩:=bH h g he
 exact a8.q8 h' hg hne rfl
theorem nZ {e':TypeId} {size' n':Nat} {v':Value} {xs':List Value} (h:w.ownsRow base e size v n xs) (h':w.ownsRow base' e' size' v' n' xs') (hne:e≠e'):
  v.ownBlock=none∨v.ownBlock≠v'.ownBlock:=by
 cases hv:v.ownBlock with
 | none=>exact .inl rfl
 | some g=>
  refine .inr fun he=> ?_
  obtain⟨_,cs,h1⟩:=bH h g hv
  obtain⟨_,cs',h2⟩:=bH h' g he.symm
  exact a8.q8 h1 h2 hne rfl
theorem own_below {B:Nat} (h:w.ownsRow base e size v n xs) (hb:Below B w w') (hB:∀ g,v.ownBlock=some g→g<B):w'.ownsRow base e size v n xs:=by
 refine⟨h.1,?_⟩
 rcases h.2 with hn | ⟨g,cap,cur,rfl,hbg,hg,rest⟩
 ·exact .inl hn
 ·exact .inr ⟨g,cap,cur,rfl,hbg,(hb.block g (hB g rfl)).trans hg,rest⟩
theorem cW (h:w.ownsRow base e size v n xs) (hb:Below w.heap.size w w'):w'.ownsRow base e size v n xs:=
 own_below h hb fun g hg=>by obtain⟨_,cs,h'⟩:=bH h g hg;exact h'.lt
theorem dB (h:w.ownsRow base e size v n xs) {a:Addr} (ha:v.ownBlock≠some a.block) (u:Value):(w.setCell a u).ownsRow base e size v n xs:=ownsRow_setCell_other h ha u
theorem own_base (h:w.ownsRow base e size v n xs) (hb:∀ g,v.ownBlock=some g→base'≤g):w.ownsRow base' e size v n xs:=by
 refine⟨h.1,?_⟩
 rcases h.2 with hn | ⟨g,cap,cur,rfl,hbg,rest⟩
 ·exact .inl hn
 ·exact .inr ⟨g,cap,cur,rfl,hb g rfl,rest⟩
theorem eh (h:w.ownsRow base e size v n xs) (hb:base'≤base):w.ownsRow base' e size v n xs:=
 own_base h fun g hg=>Nat.le_trans hb (bH h g hg).1
theorem bF (h:w.ownsRow base e size v n xs):∃ A c,v= .slice A n c∧n≤c∧(A=none→n=0∧c=0)∧∀ a,A=some a→a=⟨a.block,0,none⟩:=by
 rcases h.2 with ⟨rfl,rfl⟩ | ⟨g,cap,cur,rfl,_,_,hc,_⟩
 ·exact⟨none,0,rfl,Nat.le_refl _,fun _=>⟨rfl,rfl⟩,by simp⟩
 ·exact⟨_,cap,rfl,hc,by simp,by simp⟩
end
def bt (A:Option Addr):Nat:=(A.map (·.block)).getD 0
def bY (A:Option Addr):Nat:=(A.map (·.off)).getD 0
structure Sl (w:World) (B sz:Nat) (A:Option Addr) (n:Nat) (xs:List Value):Prop where
 len:xs.length=n*sz
 CF:0<n→A=some ⟨bt A,bY A,none⟩
 blt:0<n→bt A<B
 cell:∀ j,j<n*sz→w.cell? ⟨bt A,bY A+j,none⟩=xs[j]?
section
variable {w w':World} {B B' sz n:Nat} {A:Option Addr} {xs:List Value}
theorem Sl.pos (h:Sl w B sz A n xs) {j:Nat} (hj:j<n*sz):0<n:=by
 rcases Nat.eq_zero_or_pos n with h0 | h0
 ·subst h0;simp at hj
 ·exact h0
theorem Sl.nil_ (w:World) (B sz:Nat):Sl w B sz none 0 []:=⟨by simp,fun h=>absurd h (by omega),fun h=>absurd h (by omega),fun j hj=>absurd hj (by simp)⟩
theorem Sl.empty (w:World) (B sz:Nat) (A:Option Addr):Sl w B sz A 0 []:=⟨by simp,fun h=>absurd h (by omega),fun h=>absurd h (by omega),fun j hj=>absurd hj (by simp)⟩
theorem Sl.keep (h:Sl w B sz A n xs) (hk:∀ p:Addr,p.block<B→w'.cell? p=w.cell? p):Sl w' B sz A n xs:=
 ⟨h.len,h.CF,h.blt,fun j hj=>(hk _ (h.blt (h.pos hj))).trans (h.cell j hj)⟩
theorem Sl.below (h:Sl w B sz A n xs) (hb:Below B w w'):Sl w' B sz A n xs:=h.keep fun _ hp=>hb.cell hp
theorem Sl.more (h:Sl w B sz A n xs) (hB:B≤B'):Sl w B' sz A n xs:=⟨h.len,h.CF,fun hn=>by have:=h.blt hn;omega,h.cell⟩
theorem Sl.step (h:Sl w B sz A n xs) (hB:B≤w.heap.size) (hb:Below w.heap.size w w'):Sl w' B sz A n xs:=h.below (hb.mono hB)
theorem Sl.cB {base c:Nat} {e:TypeId} (h:w.ownsRow base e sz (.slice A n c) n xs):Sl w w.heap.size sz A n xs:=by
 rcases h.2 with ⟨h0,rfl⟩ | ⟨g,cap,cur,hv,hbg,hg,hnc,hcm,hcs,htake⟩
 ·injection h0 with h0;subst h0
  have:xs=[]:=List.eq_nil_of_length_eq_zero (by simpa using h.1)
  subst this
  exact Sl.nil_ _ _ _
 ·injection hv with hv _ _;subst hv
  refine⟨h.1,fun _=>rfl,fun _=>lt_size hg,fun j hj=> ?_⟩
  have:=h.cells (g:=g) rfl j
  have hjl:j<xs.length:=by rw[h.1];exact hj
  have h2:=this _ (List.getElem?_eq_getElem hjl)
  rw[List.getElem?_eq_getElem hjl]
  simp only[bt,bY,Option.map_some,Option.getD_some,Nat.zero_add]
  have hadd:(⟨g,0,none⟩:Addr).add j=⟨g,j,none⟩:=by unfold Addr.add;split<;>simp_all
  rw[hadd] at h2
  exact h2
theorem Sl.idx {P:Program} {t e:TypeId} (h:Sl w B sz A n xs) (ht:P.underlying t=some (.slice e)) (he:(P.info? e).map (·.size)=some sz) {k c:Nat} (hk:k<n):
  ∀ W:World,(Instr.indexAt t (.slice A n c) (.int .i64 (k:Int))).run P W= .ok (.pointer (some ⟨bt A,bY A+k*sz,none⟩)) W:=by
 intro W
 have hA:=h.CF (by omega)
 rw[hA]
 have hel:P.elem t=e:=by simp[Program.elem,ht]
 rw[run_indexAt_slice (h:=by rw[hel];exact ht),if_pos (by omega),hel]
 obtain⟨i,hi,hs⟩:=Option.map_eq_some_iff.1 he
 simp[sizeOf,typeInfo,hi,hs,Addr.add]
 by_cases h0:k*sz=0
 ·have h1:k=0∨sz=0:=Nat.mul_eq_zero.1 h0
  simp[h0,bt,bY]
 ·have h1:¬ (k=0∨sz=0):=fun h=>h0 (Nat.mul_eq_zero.2 h)
  simp[h0,bt,bY]
theorem Sl.at_ (h:Sl w B sz A n xs) {k i:Nat} (hk:k<n) (hi:i<sz):w.cell? ⟨bt A,bY A+k*sz+i,none⟩=xs[k*sz+i]? :=by
 have:k*sz+i<n*sz:=by
  have h1:(k+1)*sz≤n*sz:=Nat.mul_le_mul_right _ (by omega)
  rw[Nat.add_mul] at h1;omega
 rw[Nat.add_assoc]
 exact h.cell _ this
end
theorem Sl.cut {B sz n:Nat} {A:Option Addr} {xs:List Value} (h:Sl w B sz A n xs) {k cap:Nat} (hk:k≤n) (hc:n≤cap):
  Sl w B sz (if cap=k then A else A.map (·.add (k*sz))) (n - k) (xs.drop (k*sz)):=by
 have key:0<n - k→(if cap=k then A else A.map (·.add (k*sz)))=some ⟨bt A,bY A+k*sz,none⟩:=fun h0=>by
  have hA:=h.CF (by omega)
  rw[if_neg (by omega),hA]
  simp only[Option.map_some,bt,bY,Option.getD_some]
  unfold Addr.add
  split
  ·rename_i hz;simp[hz]
  ·rfl
 refine⟨by rw[List.length_drop,h.len,Nat.sub_mul],fun h0=> ?_,fun h0=> ?_,fun j hj=> ?_⟩
 ·rw[key h0];simp[bt,bY]
 ·rw[key h0];exact h.blt (by omega)
 ·have h0:0<n - k:=by
   rcases Nat.eq_zero_or_pos (n - k) with h0 | h0
   ·rw[h0] at hj;simp at hj
   ·exact h0
  rw[key h0]
  simp only[bt,bY,Option.map_some,Option.getD_some]
  have:=h.cell (k*sz+j) (by rw[Nat.sub_mul] at hj;omega)
  rw[←Nat.add_assoc] at this
  simp only[bt,bY] at this
  rw[this,List.getElem?_drop]
theorem CG {P:Program} {t e:TypeId} {sz:Nat} (ht:P.underlying t=some (.slice e)) (he:(P.info? e).map (·.size)=some sz) (A:Option Addr) (m c k:Nat) (i:Int) (hi:i=(k:Int)) (hk:k≤m) (W:World):
  (Instr.sliceAt t (.slice A m c) (some (.int .i64 i)) none none).run P W= .ok (.slice (if c=k then A else A.map (·.add (k*sz))) (m - k) (c - k)) W:=by
 subst hi
 obtain⟨inf,JO,hs⟩:=Option.map_eq_some_iff.1 he
 have h1:(0:Int)≤(k:Int)∧(k:Int)≤(m:Int):=by omega
 simp[Instr.sliceAt,Instr.slice,run_underlying ht,Instr.sliceBounds,Instr.sliceBound,asIntOf,h1,sizeOf,typeInfo,JO,hs,hk]
theorem fS {α:Type} (f:α→List Value) (sz:Nat) (hf:∀ x,(f x).length=sz):∀ (l:List α) (k i:Nat) (x:α),l[k]? =some x→i<sz→(l.flatMap f)[k*sz+i]? =(f x)[i]?
 | [],k,i,x,h,_=>by simp at h
 | y::l,0,i,x,h,hi=>by
  simp at h;subst h
  simp[List.flatMap_cons,List.getElem?_append,hf,hi]
 | y::l,k+1,i,x,h,hi=>by
  simp at h
  rw[List.flatMap_cons,List.getElem?_append_right (by rw[hf,Nat.add_mul];omega),hf]
  have:(k+1)*sz+i - sz=k*sz+i:=by rw[Nat.add_mul];omega
  rw[this]
  exact fS f sz hf l k i x h hi
structure Later (B:Nat) (w:World) where
 val:World
 below:Below B w val
instance Later.inst {B:Nat} {w:World}:Nonempty (Later B w):=⟨⟨w,Below.refl B w⟩⟩
theorem Later.bI {B:Nat} {w w':World} (h:Below B w w'):∃ q:Later B w,w'=q.val:=⟨⟨w',h⟩,rfl⟩
theorem nu {P:Program} {id:Nat} {Q:Exit→Act→World→Prop} {a:Act} {w:World} {l:List Oper} (B:Nat) (hm:P.follows .mixedOrders=true) (hB:Region.lexB .any l.toArray=true)
  (h:wpQuiet P l.toArray (fun w'=>∃ q:Later B w,w'=q.val) (fun a'=>∀ w',(∃ q:Later B w,w'=q.val)→Q .normal a' w') l a):(Code.region id l.toArray true).wp P Q a w:=
 wp_region_quiet (C:=fun w'=>∃ q:Later B w,w'=q.val) hm hB (Later.bI (Below.refl B w).drew) (by simpa using h)
theorem Later.cell {B:Nat} {w:World} {g i:Nat} {u:Option Value} (h:w.cell? ⟨g,i,none⟩=u) (hg:g<B):∀ q:Later B w,q.val.cell? ⟨g,i,none⟩=u:=
 fun q=>(q.below.cell (p:=⟨g,i,none⟩) hg).trans h
theorem Later.cells {B:Nat} {w:World} {g:Nat} {t:TypeId} {cs:Array Value} (h:a8 w g t cs) (hg:g<B):∀ (q:Later B w) (i:Nat),q.val.cell? ⟨g,i,none⟩=cs[i]? :=
 fun q i=>(h.below q.below hg).cell i
structure Such (S:World→Prop) where
 val:World
 ok:S val
theorem Such.bI {S:World→Prop} {w:World} (h:S w):∃ q:Such S,w=q.val:=⟨⟨w,h⟩,rfl⟩
theorem Such.q8 {S:World→Prop} {w:World} (h:S w):Nonempty (Such S):=⟨⟨w,h⟩⟩
def cz (b:Bool):Int:=if b then 1 else 0
structure Wd where
 key:Int
 next:Int
 mark:Bool
 claim:Int
 ver:Int
def Wd.val (w:Wd):Value:= .agg #[.int .i64 w.key,.int .i64 w.next,.bool w.mark,.int .i64 w.claim,.int .i64 w.ver]
def du (n m:Int):Bool:=decide (0≤n) && decide (n<m)
def Wd.fit (w:Wd):Bool:=du w.key 1024 && (du w.next 512 && (du w.claim 32 && du w.ver 262144))
def Wd.num (w:Wd):Int:=w.key+w.next*1024+cz w.mark*524288+w.claim*1048576+w.ver*33554432
def aE (x:Int):Wd:=⟨x % 1024,x / 1024 % 512,decide (x / 524288 % 2=1),x / 1048576 % 32,x / 33554432 % 262144⟩
def eU (w:Wd):Int:=if w.fit then w.num else 0
def Wd.newer (w:Wd):Wd:={ w with ver:=(w.ver+1) % 262144 }
def Wd.link (w:Wd) (next:Int):Wd:={ w with next:=next,ver:=(w.ver+1) % 262144 }
def Wd.claimed (w:Wd) (u next:Int) (mark:Bool):Wd:={ w with claim:=u+1,next:=next,mark:=mark }
def Wd.free (w:Wd):Wd:={ w with claim:=0,ver:=(w.ver+1) % 262144 }
theorem ei (b:Bool):0≤cz b∧cz b≤1:=by cases b<;>decide
theorem tx (b:Bool):decide (cz b=1)=b:=by cases b<;>rfl
theorem aI {n m:Int} (h:du n m=true):0≤n∧n<m:=by
 unfold du at h
 rw[Bool.and_eq_true] at h
 exact⟨of_decide_eq_true h.1,of_decide_eq_true h.2⟩
theorem a6 {n m:Int} (h:0≤n∧n<m):du n m=true:=by unfold du;rw[decide_eq_true h.1,decide_eq_true h.2];rfl
structure Wd.Fit (w:Wd):Prop where
 key:0≤w.key∧w.key<1024
 next:0≤w.next∧w.next<512
 claim:0≤w.claim∧w.claim<32
 ver:0≤w.ver∧w.ver<262144
theorem Wd.lp (w:Wd):w.fit=true↔w.Fit:=by
 unfold Wd.fit
 constructor
 ·intro h
  simp only[Bool.and_eq_true] at h
  exact⟨aI h.1,aI h.2.1,aI h.2.2.1,aI h.2.2.2⟩
 ·intro h
  rw[a6 h.key,a6 h.next,a6 h.claim,a6 h.ver];rfl
theorem bG (x:Int):(aE x).Fit:=by
 refine⟨?_,?_,?_,?_⟩<;>simp only[aE]<;>omega
theorem Wd.lq {w:Wd} (h:w.Fit):0≤w.num∧w.num<8796093022208:=by
 obtain⟨h1,h2,h3,h4⟩:=h
 have:=ei w.mark
 unfold Wd.num;omega
theorem zP {w:Wd} (h:w.Fit):aE w.num=w:=by
 obtain⟨h1,h2,h3,h4⟩:=h
 have:=ei w.mark
 obtain⟨k,n,m,c,v⟩:=w
 simp only at *
 obtain⟨x,hx⟩:∃ x,(⟨k,n,m,c,v⟩:Wd).num=x:=⟨_,rfl⟩
 rw[hx]
 have hx':k+n*1024+cz m*524288+c*1048576+v*33554432=x:=hx
 clear hx
 have e:x / 524288 % 2=cz m:=by omega
 have e5:decide (x / 524288 % 2=1)=m:=by rw[e];exact tx m
 unfold aE
 rw[e5]
 congr 1<;>omega
theorem zQ {w:Wd} (h:w.Fit):eU w=w.num:=if_pos ((Wd.lp w).2 h)
theorem gU {w:Wd} (h:w.Fit):aE (eU w)=w:=by rw[zQ h,zP h]
theorem fA (w:Wd):0≤eU w∧eU w<8796093022208:=by
 unfold eU
 split
 ·exact Wd.lq ((Wd.lp w).1 (by assumption))
 ·omega
theorem Wd.GD {w:Wd} (h:w.Fit):w.newer.Fit:=⟨h.key,h.next,h.claim,by simp only[Wd.newer];omega⟩
theorem Wd.tz {w:Wd} (h:w.Fit) {n:Int} (hn:0≤n∧n<512):(w.link n).Fit:=⟨h.key,hn,h.claim,by simp only[Wd.link];omega⟩
theorem Wd.tA {w:Wd} (h:w.Fit):w.free.Fit:=⟨h.key,h.next,by simp[Wd.free],by simp only[Wd.free];omega⟩
theorem Wd.m0 {w:Wd} (h:w.Fit) {u n:Int} {m:Bool} (hu:0≤u∧u<31) (hn:0≤n∧n<512):(w.claimed u n m).Fit:=⟨h.key,hn,by simp only[Wd.claimed];omega,h.ver⟩
structure Ds where
 aM:Int
 addr:Int
 ver:Int
 next:Int
 mark:Bool
 status:Int
 val:Int
def Ds.vals (d:Ds):Value:= .agg #[.int .i64 d.aM,.int .i64 d.addr,.int .i64 d.ver,.int .i64 d.next,.bool d.mark,.int .i64 d.status,.int .i64 d.val]
structure Ds.Fit (d:Ds):Prop where
 aM:0≤d.aM∧d.aM<4096
 addr:0≤d.addr∧d.addr<512
 ver:0≤d.ver∧d.ver<262144
 next:0≤d.next∧d.next<512
 status:0≤d.status∧d.status<8
 val:0≤d.val∧d.val<1024
def Ds.fit (d:Ds):Bool:=du d.aM 4096 && (du d.addr 512 && (du d.ver 262144 && (du d.next 512 && (du d.status 8 && du d.val 1024))))
def Ds.num (d:Ds):Int:=d.aM+d.addr*4096+d.ver*2097152+d.next*549755813888+cz d.mark*281474976710656+d.status*562949953421312+d.val*4503599627370496
def getD' (x:Int):Ds:=⟨x % 4096,x / 4096 % 512,x / 2097152 % 262144,x / 549755813888 % 512,decide (x / 281474976710656 % 2=1),x / 562949953421312 % 8,x / 4503599627370496 % 1024⟩
def cL (d:Ds):Int:=if d.fit then d.num else 0
theorem Ds.lp (d:Ds):d.fit=true↔d.Fit:=by
 unfold Ds.fit
 constructor
 ·intro h
  simp only[Bool.and_eq_true] at h
  exact⟨aI h.1,aI h.2.1,aI h.2.2.1,aI h.2.2.2.1,aI h.2.2.2.2.1,aI h.2.2.2.2.2⟩
 ·intro h
  rw[a6 h.aM,a6 h.addr,a6 h.ver,a6 h.next,a6 h.status,a6 h.val];rfl
theorem cX (x:Int):(getD' x).Fit:=by
 refine⟨?_,?_,?_,?_,?_,?_⟩<;>simp only[getD']<;>omega
theorem Ds.lq {d:Ds} (h:d.Fit):0≤d.num∧d.num<4611686018427387904:=by
 obtain⟨h1,h2,h3,h4,h5,h6⟩:=h
 have:=ei d.mark
 unfold Ds.num;omega
theorem zS {d:Ds} (h:d.Fit):getD' d.num=d:=by
 obtain⟨h1,h2,h3,h4,h5,h6⟩:=h
 have:=ei d.mark
 obtain⟨a,b,v,n,m,s,l⟩:=d
 simp only at *
 obtain⟨x,hx⟩:∃ x,(⟨a,b,v,n,m,s,l⟩:Ds).num=x:=⟨_,rfl⟩
 rw[hx]
 have hx':a+b*4096+v*2097152+n*549755813888+cz m*281474976710656+s*562949953421312+l*4503599627370496=x:=hx
 clear hx
 have e:x / 281474976710656 % 2=cz m:=by omega
 have e5:decide (x / 281474976710656 % 2=1)=m:=by rw[e];exact tx m
 unfold getD'
 rw[e5]
 congr 1<;>omega
theorem zT {d:Ds} (h:d.Fit):cL d=d.num:=if_pos ((Ds.lp d).2 h)
theorem dH {d:Ds} (h:d.Fit):getD' (cL d)=d:=by rw[zT h,zS h]
theorem gV (d:Ds):0≤cL d∧cL d<4611686018427387904:=by
 unfold cL
 split
 ·exact Ds.lq ((Ds.lp d).1 (by assumption))
 ·omega
def Ds.pend (d:Ds):Bool:=decide (1≤d.status) && decide (d.status≤4)
def Ds.cm (d:Ds):Ds:=⟨(d.aM+1) % 4096,0,0,0,false,1,0⟩
def Ds.with_ (d:Ds) (s:Int):Ds:={ d with status:=s }
def Ds.ended (d:Ds) (code:Int) (ok:Bool) (val:Int):Ds:=⟨d.aM,0,0,if code=4 then 1 else 0,ok,5,val⟩
theorem cY {α β:Type} {r:Result α} {f:α→World→Result β} {b:β} {w:World} (h:r.andThen f= .ok b w):∃ a w',r= .ok a w'∧f a w'= .ok b w:=by
 cases r with
 | ok a w'=>exact⟨a,w',rfl,h⟩
 | halt x w'=>cases h
theorem vG {P:Program} {s:Sem Value} {w w':World} {r:Next} (h:(s.bind fun x=>Sem.pure (Next.value x)).run P w= .ok r w'):∃ v,r= .value v:=by
 rw[Sem.run_bind'] at h
 obtain⟨a,w1,_,h1⟩:=cY h
 simp[Sem.run] at h1
 exact⟨a,h1.1.symm⟩
def r5 (o:Oper):Bool:=
 match o.op with
 | .move _ | .assign _ | .build _ _ | .load _ _ | .binOp _ _ _ _ _ | .unOp _ _ _ | .convert _ _ _ | .fieldAddr _ _ _ | .field _ _ _ | .indexAddr _ _ _ | .extract _ _ | .slice _ _ _ _ _=>true
 | .nilCheck _=>true
 | .pick _ _ _=>true
 | .call { callee:= .builtin .len,.. }=>true
 | .call { callee:= .builtin .cap,.. }=>true
 | _=>false
theorem m3 {P:Program} {o:Oper} (hp:r5 o=true) {ρ:Operand→Value} {w w':World} {r:Next} (h:(execOp ρ o).run P w= .ok r w'):∃ v,r= .value v:=by
 unfold r5 at hp
 unfold execOp at h
 split at hp
 case h_13 ho=>
  rw[ho] at h
  simp only at h
  split at h
  ·simp[runtimePanic,goPanic] at h
  ·simp[runtimePanic,goPanic] at h
  ·simp[runtimePanic,goPanic] at h
  ·split at h
   ·simp[runtimePanic,goPanic] at h
   ·simp only[Sem.run_bind] at h
    obtain⟨_,_,_,h1⟩:=cY h
    obtain⟨c,_,_,h1⟩:=cY h1
    by_cases hc:(c !=some false)=true
    ·rw[if_pos hc] at h1;simp[unsupported] at h1
    ·rw[if_neg hc] at h1;simp at h1;exact⟨_,h1.1.symm⟩
   ·simp at h;exact⟨_,h.1.symm⟩
  ·simp at h;exact⟨_,h.1.symm⟩
 case h_14 ho=>
  rw[ho] at h
  simp only[Sem.run_bind] at h
  obtain⟨_,_,_,h1⟩:=cY h
  simp at h1
  exact⟨_,h1.1.symm⟩
 case h_15 ho=>
  rw[ho] at h
  simp only[resolve,invoke,builtin,Sem.run_bind,Sem.run_pure,Result.andThen_ok] at h
  obtain⟨_,_,_,h1⟩:=cY h
  simp at h1
  exact⟨_,h1.1.symm⟩
 case h_16 ho=>
  rw[ho] at h
  simp only[resolve,invoke,builtin,Sem.run_bind,Sem.run_pure,Result.andThen_ok] at h
  obtain⟨_,_,_,h1⟩:=cY h
  simp at h1
  exact⟨_,h1.1.symm⟩
 case h_17=>cases hp
 all_goals
  rename_i ho
  rw[ho] at h
  first
   | exact vG h
   | (simp at h;exact⟨_,h.1.symm⟩)
section
variable {P:Program} {ops:Array Oper} {Q:Exit→Act→World→Prop} {md:Region.Mode} {S:World→Prop} {n:Nat}
def iJ (ops:Array Oper) (i:Nat):Bool:=
 match ops[i]? with
 | some o=>(match o.op with | .move _=>true | _=>false)
 | none=>false
def need (ops:Array Oper) (n i:Nat):Bool:=decide (i<n) && !iJ ops i
theorem yo {i:Nat} {K:Act→World→Prop} {a:Act} {w:World} (hm:iJ ops i=true) (h:wpOp P ops Q i K a w):wpOp P ops Q i (fun a' w'=>w'=w∧K a' w') a w:=by
 unfold iJ at hm
 unfold wpOp at h⊢
 cases ho:ops[i]? with
 | none=>simp[ho] at hm
 | some o=>
  simp only[ho] at hm h⊢
  split at hm
  ·rename_i x hx
   split at h
   ·rename_i hw
    simp only[hw,if_true]
    rcases h with h | h
    ·refine .inl ?_
     have hr:(execOp a.eval o).run P w= .ok (.value (a.eval x)) w:=by unfold execOp;rw[hx];simp
     unfold Oper.wp at h⊢
     rw[hr] at h⊢
     exact⟨rfl,h⟩
    ·exact .inr h
   ·rename_i hw
    simp only[hw]
    exact⟨trivial,h⟩
  ·cases hm
def eW (P:Program) (md:Region.Mode) (ops:Array Oper) (Q:Exit→Act→World→Prop) (S:World→Prop) (n:Nat):Nat→Array Bool→Act→World→Prop
 | 0,listed,a,w=>Region.ready md ops listed=[]∧Q .normal a w
 | fuel+1,listed,a,w=>
  (Region.ready md ops listed=[]→Q .normal a w)∧
  ∀ i∈Region.ready md ops listed,wpOp P ops Q i (fun a' w'=>(need ops n i=true→S w')∧eW P md ops Q S n fuel (listed.setIfInBounds i true) a' w') a w
theorem gi:∀ (fuel:Nat) (listed:Array Bool) (a:Act) (w:World),eW P md ops Q S n fuel listed a w→wpAny P md ops Q fuel listed a w
 | 0,_,_,_,h=>h
 | fuel+1,_,_,_,h=>⟨h.1,fun i hi=>wpOp_mono (fun a' w' h'=>gi fuel _ a' w' h'.2) (h.2 i hi)⟩
structure gK (md:Region.Mode) (ops:Array Oper) (listed:Array Bool):Prop where
 size:listed.size=ops.size
 closed:∀ j oj,ops[j]? =some oj→listed.getD j false=true→∀ e∈oj.after,Region.binds md e=true→listed.getD e.on false=true
theorem gK.start (md:Region.Mode) (ops:Array Oper):gK md ops (Array.replicate ops.size false):=
 ⟨by simp,fun j oj _ h=>by rw[getD_replicate_false] at h;cases h⟩
theorem gK.set {i:Nat} {listed:Array Bool} (inv:gK md ops listed) (hi:i∈Region.ready md ops listed):gK md ops (listed.setIfInBounds i true):=by
 obtain⟨_,oi,hoi,hall⟩:=mem_ready.1 hi
 refine⟨by simp[inv.size],fun j oj hj hl e he hb=> ?_⟩
 by_cases hij:i=j
 ·subst hij
  have:oj=oi:=Option.some.inj (hj.symm.trans hoi)
  subst this
  exact getD_set_true (hall e he hb)
 ·rw[getD_set_ne false hij] at hl
  exact getD_set_true (inv.closed j oj hj hl e he hb)
def gW (md:Region.Mode) (ops:Array Oper) (listed:Array Bool) (j:Nat):Prop:=∀ i,Region.waitsFor md ops j i=true→listed.getD i false=true
theorem jD {listed:Array Bool} {j:Nat} (h:j∈Region.ready md ops listed):gW md ops listed j:=by
 intro i hw
 obtain⟨oj,hoj,e,he,hb,rfl⟩:=Region.waitsFor_spec hw
 obtain⟨_,oj',JP,hall⟩:=mem_ready.1 h
 have:oj=oj':=Option.some.inj (hoj.symm.trans JP)
 subst this
 exact hall e he hb
theorem kr {listed:Array Bool} {j:Nat} (inv:gK md ops listed) (h:listed.getD j false=true):gW md ops listed j:=by
 intro i hw
 obtain⟨oj,hoj,e,he,hb,rfl⟩:=Region.waitsFor_spec hw
 exact inv.closed j oj hoj h e he hb
theorem kD {listed:Array Bool} (inv:gK md ops listed) (hc:Region.chainB md ops n=true):∀ (d j:Nat),j=n+d→j<ops.size→gW md ops listed j→gW md ops listed n
 | 0,j,hj,_,h=>by subst hj;simpa using h
 | d+1,j,hj,hlt,h=>by
  have h1:=List.all_eq_true.1 hc j (List.mem_range.2 hlt)
  simp only[Bool.or_eq_true,decide_eq_true_eq] at h1
  rcases h1 with h1 | h1
  ·omega
  ·exact kD inv hc d (j - 1) (by omega) (by omega) (kr inv (h _ h1))
def cG (md:Region.Mode) (ops:Array Oper):Nat→List Nat→List Nat
 | 0,acc=>acc
 | i+1,acc=>cG md ops i (if acc.any (fun j=>Region.waitsFor md ops j i) then i::acc else acc)
theorem mg {listed:Array Bool} (inv:gK md ops listed) (hn:gW md ops listed n):∀ (i:Nat) (acc:List Nat),(∀ k∈acc,k=n∨listed.getD k false=true)→
  ∀ k∈cG md ops i acc,k=n∨listed.getD k false=true
 | 0,_,h=>h
 | i+1,acc,h=>by
  refine mg inv hn i _ ?_
  split
  ·rename_i hany
   obtain⟨j,hj,hw⟩:=List.any_eq_true.1 hany
   intro k hk
   rcases List.mem_cons.1 hk with rfl | hk
   ·refine .inr ?_
    rcases h j hj with rfl | hd
    ·exact hn _ hw
    ·exact kr inv hd _ hw
   ·exact h k hk
  ·exact h
theorem fT {i:Nat} {oi:Oper} {v:Value} {S':World→Prop} (hi:ops[i]? =some oi) (hsel:∀ (j:Nat) (o:Oper) cs b,ops[j]? =some o→o.op≠.select cs b)
  (hQ:∀ c a w,Q (.panic c) (a.put oi.dst v) w→Q (.panic c) a w) (himp:∀ w,S w→S' w)
  (GX:∀ listed j,gK md ops listed→listed.getD i true=false→j∈Region.ready md ops listed→n≤j→j≠i→∀ w,S' w):
  ∀ (fuel:Nat) (listed:Array Bool) (a:Act) (w:World),gK md ops listed→
   (∀ j oj,ops[j]? =some oj→j≠i→listed.getD j true=false→(∀ e∈oj.after,Region.binds md e=true→e.on≠i)→oi.apart ops oj=true)→
   i∈Region.ready md ops listed→YieldsIf P ops S' oi v a→S' w→
   eW P md ops Q S n fuel (listed.setIfInBounds i true) (a.put oi.dst v) w→(∀ w,S' w→need ops n i=true→S w)→eW P md ops Q S n (fuel+1) listed a w:=by
 intro fuel
 induction fuel with
 | zero=>
  intro listed a w inv _ hr hy hS H hback
  refine⟨fun h=>(by rw[h] at hr;cases hr),fun j hj=> ?_⟩
  by_cases hji:j=i
  ·subst hji;exact hy.wpOp hi hS ⟨hback _ hS,H⟩
  ·have:=ready_mono hj hji
   rw[H.1] at this
   cases this
 | succ fuel ih=>
  intro listed a w inv hfree hr hy hS H hback
  refine⟨fun h=>(by rw[h] at hr;cases hr),fun j hj=> ?_⟩
  by_cases hji:j=i
  ·subst hji;exact hy.wpOp hi hS ⟨hback _ hS,H⟩
  ·have h1:=H.2 j (ready_mono hj hji)
   obtain⟨hjun,oj,hoj,hall⟩:=mem_ready.1 hj
   have hun:=(mem_ready.1 hr).1
   have hnot:∀ e∈oj.after,Region.binds md e=true→e.on≠i:=fun e he hb heq=>by
    have h1:=hall e he hb
    rw[heq,getD_both hun] at h1
    cases h1
   have h2:=wpOp_putIf hoj (hfree j oj hoj hji hjun hnot) (fun cs b=>hsel i oi cs b hi) (fun cs b=>hsel j oj cs b hoj) hQ hy h1
   have hfree':∀ k ok,ops[k]? =some ok→k≠i→(listed.setIfInBounds j true).getD k true=false→
     (∀ e∈ok.after,Region.binds md e=true→e.on≠i)→oi.apart ops ok=true:=fun k ok hk hki hun hno=>by
    refine hfree k ok hk hki ?_ hno
    by_cases hjk:j=k
    ·subst hjk;exact hjun
    ·rw[getD_set_ne true hjk] at hun;exact hun
   have h4:wpOp P ops Q j (fun a' w'=>S' w'∧(YieldsIf P ops S' oi v a'∧(need ops n j=true→S w')∧eW P md ops Q S n fuel ((listed.setIfInBounds i true).setIfInBounds j true) (a'.put oi.dst v) w')) a w:=by
    by_cases hmj:iJ ops j=true
    ·exact wpOp_mono (fun a' w' h3=>⟨by rw[h3.1];exact hS,h3.2⟩) (yo hmj h2)
    ·refine wpOp_mono (fun a' w' h3=>⟨?_,h3⟩) h2
     rcases Nat.lt_or_ge j n with hjn | hjn
     ·exact himp _ (h3.2.1 (by simp[need,hjn,hmj]))
     ·exact GX listed j inv hun hj hjn hji w'
   refine wpOp_mono (fun a' w' h3=>⟨h3.2.2.1,?_⟩) h4
   refine ih (listed.setIfInBounds j true) a' w' (inv.set hj) hfree' (ready_mono hr (Ne.symm hji)) h3.2.1 h3.1 ?_ hback
   rw[Array.setIfInBounds_comm _ _ hji]
   exact h3.2.2.2
def vH (md:Region.Mode) (ops:Array Oper) (n:Nat) (vI:List Nat) (listed:Array Bool) (i:Nat):Bool:=
 (Region.ready md ops listed).contains i && Region.free md ops listed i &&
 match ops[i]? with
 | some o=>r5 o && (iJ ops i || vI.contains i && decide (i<n))
 | none=>false
def gD (md:Region.Mode) (ops:Array Oper) (n:Nat) (vI:List Nat):List Nat→Array Bool→Bool
 | [],_=>true
 | i::is,listed=>vH md ops n vI listed i && gD md ops n vI is (listed.setIfInBounds i true)
def fR (md:Region.Mode) (ops:Array Oper):List Nat→Array Bool→Bool
 | [],listed=>(Region.ready md ops listed).isEmpty
 | i::is,listed=>decide (Region.ready md ops listed=[i]) && fR md ops is (listed.setIfInBounds i true)
def bV:List Nat→Array Bool→Array Bool
 | [],listed=>listed
 | i::is,listed=>bV is (listed.setIfInBounds i true)
def au (ops:Array Oper) (is:List Nat):List Oper:=is.map fun i=>ops.toList.getD i default
theorem kE {i:Nat} {o:Oper} (h:ops[i]? =some o):ops.toList.getD i default=o:=by
 rw[←Array.getElem?_toList] at h
 simp[List.getD,h]
def cH (P:Program) (ops:Array Oper) (Q:Exit→Act→World→Prop) (S:World→Prop) (n:Nat):List Nat→Act→World→Prop
 | [],a,w=>Q .normal a w
 | i::is,a,w=>wpOp P ops Q i (fun a' w'=>(need ops n i=true→S w')∧cH P ops Q S n is a' w') a w
theorem m4:∀ (is:List Nat) (listed:Array Bool) (a:Act) (w:World),fR md ops is listed=true→cH P ops Q S n is a w→eW P md ops Q S n is.length listed a w
 | [],listed,a,w,hB,h=>⟨by simpa [fR] using hB,h⟩
 | i::is,listed,a,w,hB,h=>by
  simp only[fR,Bool.and_eq_true,decide_eq_true_eq] at hB
  refine⟨fun h1=>(by rw[hB.1] at h1;cases h1),fun j hj=> ?_⟩
  rw[hB.1] at hj
  have:j=i:=by simpa using hj
  subst this
  exact wpOp_mono (fun a' w' h'=>⟨h'.1,m4 is _ a' w' hB.2 h'.2⟩) h
theorem jE (hs:Region.noSelect ops=true) (hc:Region.chainB md ops n=true)
  (hQ:∀ c a d v w,Q (.panic c) (Act.put a d v) w→Q (.panic c) a w) (is:List Nat):
  ∀ (ls:List Nat) (listed:Array Bool) (a:Act) (w:World),gK md ops listed→gD md ops n (cG md ops n [n]) ls listed=true→fR md ops is (bV ls listed)=true→S w→
   wpQuiet P ops S (fun a'=>cH P ops Q S n is a' w) (au ops ls) a→eW P md ops Q S n (ls.length+is.length) listed a w
 | [],listed,a,w,_,_,ht,_,h=>by
  simp only[au,List.map_nil,wpQuiet] at h
  simpa using m4 is listed a w ht h
 | i::ls,listed,a,w,inv,hB,ht,hS,h=>by
  simp only[gD,Bool.and_eq_true] at hB
  obtain⟨hok,hB⟩:=hB
  unfold vH at hok
  cases hoi:ops[i]? with
  | none=>simp[hoi] at hok
  | some oi=>
   simp only[hoi,Bool.and_eq_true] at hok
   obtain⟨⟨hr,hf⟩,hp,hm⟩:=hok
   have ES:i∈Region.ready md ops listed:=by simpa using hr
   have hq:qOp P ops S i (wpQuiet P ops S (fun a'=>cH P ops Q S n is a' w) (au ops ls)) a:=by
    unfold qOp
    simp only[hoi]
    simp only[au,List.map_cons,kE hoi,wpQuiet] at h
    exact h
   obtain⟨v,hy,hK⟩:=yieldsIn_of_qOp hoi hq
   have hval:∀ w,Region.wanted oi (yielded ops a.tmps)=true→S w→oi.quietAt P a S w v→(execOp a.eval oi).run P w= .ok (.value v) w:=by
    intro w _ _ h1
    unfold Oper.quietAt at h1
    generalize hr:(execOp a.eval oi).run P w=r at h1
    cases r with
    | halt x w'=>simp only[Oper.quietUpon] at h1
    | ok r w'=>
     obtain⟨u,rfl⟩:=m3 hp hr
     simp only[Oper.quietUpon] at h1
     rw[h1.1,h1.2]
   have hy':YieldsIf P ops S oi v a:=by
    rcases hy with ⟨hw,hv⟩ | ⟨hw,hv⟩
    ·exact .inl ⟨hw,fun w hS=>hval w hw hS (hv w hS)⟩
    ·exact .inr ⟨hw,hv⟩
   have hrec:=jE hs hc hQ is ls (listed.setIfInBounds i true) (a.put oi.dst v) w (inv.set ES) hB ht hS hK
   have hlen:(i::ls).length+is.length=(ls.length+is.length)+1:=by simp only[List.length_cons];omega
   rw[hlen]
   cases hmv:iJ ops i with
   | true=>
    have hany:YieldsIf P ops (fun _=>True) oi v a:=by
     rcases hy' with ⟨hw,hv⟩ | ⟨hw,hv⟩
     ·refine .inl ⟨hw,fun w' _=> ?_⟩
      have h1:=hv w hS
      unfold iJ at hmv
      simp only[hoi] at hmv
      unfold execOp at h1⊢
      split at hmv
      ·rename_i x ho
       rw[ho] at h1⊢
       simp at h1⊢
       exact h1
      ·cases hmv
     ·exact .inr ⟨hw,hv⟩
    exact fT (S':=fun _=>True) hoi (Region.noSelect_spec hs) (fun c a w=>hQ c a oi.dst v w) (fun _ _=>trivial) (fun _ _ _ _ _ _ _ _=>trivial) _ _ _ _ inv (Region.free_spec hoi hf) ES hany trivial hrec
     (fun _ _ h=>by simp[need,hmv] at h)
   | false=>
    have hsk:(cG md ops n [n]).contains i=true∧i<n:=by
     simpa [hmv] using hm
    refine fT hoi (Region.noSelect_spec hs) (fun c a w=>hQ c a oi.dst v w) (fun _ h=>h) ?_ _ listed a w inv (Region.free_spec hoi hf) ES hy' hS hrec (fun _ h _=>h)
    intro listed' j vJ hun hj Mr hji w'
    exfalso
    have hjl:j<ops.size:=by
     obtain⟨_,oj,hoj,_⟩:=mem_ready.1 hj
     exact(Array.getElem?_eq_some_iff.1 hoj).1
    have hpn:=kD vJ hc (j - n) j (by omega) hjl (jD hj)
    rcases mg vJ hpn n [n] (fun k hk=> .inl (by simpa using hk)) i (by simpa using hsk.1) with h1 | h1
    ·omega
    ·rw[getD_both hun] at h1;cases h1
theorem cZ {id:Nat} {l:List Oper} {a:Act} {w:World} (S:World→Prop) (n:Nat) (ls is:List Nat) (hm:P.follows .mixedOrders=true)
  (hB:(Region.noSelect l.toArray && Region.chainB .any l.toArray n && decide (ls.length+is.length=l.length) && gD .any l.toArray n (cG .any l.toArray n [n]) ls (Array.replicate l.toArray.size false) &&
   fR .any l.toArray is (bV ls (Array.replicate l.toArray.size false)))=true)
  (hS:S w.drew) (h:wpQuiet P l.toArray S (fun a'=>cH P l.toArray (NoPanic Q) S n is a' w.drew) (au l.toArray ls) a):(Code.region id l.toArray true).wp P Q a w:=by
 refine wp_region_noPanic ?_
 simp only[Bool.and_eq_true,decide_eq_true_eq] at hB
 obtain⟨⟨⟨⟨h1,h2⟩,h3⟩,h4⟩,h5⟩:=hB
 refine wp_region_any hm (gi (S:=S) (n:=n) _ _ _ _ ?_)
 have:=jE (Q:=NoPanic Q) h1 h2 (fun _ _ _ _ _ h=>h) is ls _ a w.drew (gK.start .any l.toArray) h4 h5 hS h
 rw[h3] at this
 simpa using this
theorem ay {i:Nat} {o:Oper} {is:List Nat} {a:Act} {w:World} (ho:ops[i]? =some o)
  (h:∀ K:Act→World→Prop,(∀ a' w',S w'→cH P ops Q S n is a' w'→K a' w')→if Region.wanted o (yielded ops a.tmps)=true then Oper.wp P o a w K Q else K (a.put o.dst undef) w):
  cH P ops Q S n (i::is) a w:=by
 have:=h (fun a' w'=>(need ops n i=true→S w')∧cH P ops Q S n is a' w') (fun a' w' h1 h2=>⟨fun _=>h1,h2⟩)
 simp only[cH,wpOp,ho]
 split
 ·rename_i hw;rw[if_pos hw] at this;exact .inl this
 ·rename_i hw;rw[if_neg hw] at this;exact this
theorem ae:∀ (is:List Nat) (a:Act) (w:World),(is.all fun i=>decide (n≤i) && decide (i<ops.size))=true→wpList P ops Q (au ops is) a w→cH P ops Q S n is a w
 | [],_,_,_,h=>h
 | i::is,a,w,hs,h=>by
  simp only[List.all_cons,Bool.and_eq_true,decide_eq_true_eq] at hs
  have ho:ops[i]? =some ops[i]:=Array.getElem?_eq_getElem hs.1.2
  simp only[au,List.map_cons,kE ho] at h
  simp only[cH,wpOp,ho]
  unfold wpList at h
  have hnd:need ops n i=false:=by
   simp[need];intro h;omega
  have step:∀ a' w',wpList P ops Q (au ops is) a' w'→(need ops n i=true→S w')∧cH P ops Q S n is a' w':=fun a' w' hh=>
   ⟨by simp[hnd],ae is a' w' hs.2 hh⟩
  split
  ·rename_i hw;rw[if_pos hw] at h
   rcases h with h | h
   ·exact .inl (Oper.wp_mono step h)
   ·exact .inr h
  ·rename_i hw;rw[if_neg hw] at h;exact step _ _ h
end
section
variable {P:Program} {ops:Array Oper} {Q:Exit→Act→World→Prop} {md:Region.Mode} {S:World→Prop} {n:Nat}
def iK (P:Program) (ops:Array Oper) (Q:Exit→Act→World→Prop) (S:World→Prop) (F:Act→World→Prop):List (List Nat×Nat)→Act→World→Prop
 | [],a,w=>F a w
 | (ls,i)::ph,a,w=>wpQuiet P ops S (fun a'=>wpOp P ops Q i (fun a'' w''=>S w''∧iK P ops Q S F ph a'' w'') a' w) (au ops ls) a
def Cn (md:Region.Mode) (ops:Array Oper) (n:Nat) (vI:List Nat):List (List Nat×Nat)→Array Bool→Bool
 | [],_=>true
 | (ls,i)::ph,listed=>gD md ops n vI ls listed && decide (Region.ready md ops (bV ls listed)=[i]) && Cn md ops n vI ph ((bV ls listed).setIfInBounds i true)
def fB:List (List Nat×Nat)→Array Bool→Array Bool
 | [],listed=>listed
 | (ls,i)::ph,listed=>fB ph ((bV ls listed).setIfInBounds i true)
def gX:List (List Nat×Nat)→Nat
 | []=>0
 | (ls,_)::ph=>ls.length+1+gX ph
theorem fU (hs:Region.noSelect ops=true) (hc:Region.chainB md ops n=true)
  (hQ:∀ c a d v w,Q (.panic c) (Act.put a d v) w→Q (.panic c) a w) (k:Nat):
  ∀ (ls:List Nat) (listed:Array Bool) (a:Act) (w:World),gK md ops listed→gD md ops n (cG md ops n [n]) ls listed=true→S w→
   wpQuiet P ops S (fun a'=>gK md ops (bV ls listed)→eW P md ops Q S n k (bV ls listed) a' w) (au ops ls) a→eW P md ops Q S n (ls.length+k) listed a w
 | [],listed,a,w,inv,_,_,h=>by
  simp only[au,List.map_nil,wpQuiet,bV] at h
  simpa [bV] using h inv
 | i::ls,listed,a,w,inv,hB,hS,h=>by
  simp only[gD,Bool.and_eq_true] at hB
  obtain⟨hok,hB⟩:=hB
  unfold vH at hok
  cases hoi:ops[i]? with
  | none=>simp[hoi] at hok
  | some oi=>
   simp only[hoi,Bool.and_eq_true] at hok
   obtain⟨⟨hr,hf⟩,hp,hm⟩:=hok
   have ES:i∈Region.ready md ops listed:=by simpa using hr
   have hq:qOp P ops S i (wpQuiet P ops S (fun a'=>gK md ops (bV ls (listed.setIfInBounds i true))→eW P md ops Q S n k (bV ls (listed.setIfInBounds i true)) a' w) (au ops ls)) a:=by
    unfold qOp
    simp only[hoi]
    simp only[au,List.map_cons,kE hoi,wpQuiet,bV] at h
    exact h
   obtain⟨v,hy,hK⟩:=yieldsIn_of_qOp hoi hq
   have hval:∀ w,Region.wanted oi (yielded ops a.tmps)=true→S w→oi.quietAt P a S w v→(execOp a.eval oi).run P w= .ok (.value v) w:=by
    intro w _ _ h1
    unfold Oper.quietAt at h1
    generalize hr:(execOp a.eval oi).run P w=r at h1
    cases r with
    | halt x w'=>simp only[Oper.quietUpon] at h1
    | ok r w'=>
     obtain⟨u,rfl⟩:=m3 hp hr
     simp only[Oper.quietUpon] at h1
     rw[h1.1,h1.2]
   have hy':YieldsIf P ops S oi v a:=by
    rcases hy with ⟨hw,hv⟩ | ⟨hw,hv⟩
    ·exact .inl ⟨hw,fun w hS=>hval w hw hS (hv w hS)⟩
    ·exact .inr ⟨hw,hv⟩
   have hrec:=fU hs hc hQ k ls (listed.setIfInBounds i true) (a.put oi.dst v) w (inv.set ES) hB hS hK
   have hlen:(i::ls).length+k=(ls.length+k)+1:=by simp only[List.length_cons];omega
   rw[hlen]
   cases hmv:iJ ops i with
   | true=>
    have hany:YieldsIf P ops (fun _=>True) oi v a:=by
     rcases hy' with ⟨hw,hv⟩ | ⟨hw,hv⟩
     ·refine .inl ⟨hw,fun w' _=> ?_⟩
      have h1:=hv w hS
      unfold iJ at hmv
      simp only[hoi] at hmv
      unfold execOp at h1⊢
      split at hmv
      ·rename_i x ho
       rw[ho] at h1⊢
       simp at h1⊢
       exact h1
      ·cases hmv
     ·exact .inr ⟨hw,hv⟩
    exact fT (S':=fun _=>True) hoi (Region.noSelect_spec hs) (fun c a w=>hQ c a oi.dst v w) (fun _ _=>trivial) (fun _ _ _ _ _ _ _ _=>trivial) _ _ _ _ inv (Region.free_spec hoi hf) ES hany trivial hrec
     (fun _ _ h=>by simp[need,hmv] at h)
   | false=>
    have hsk:(cG md ops n [n]).contains i=true∧i<n:=by
     simpa [hmv] using hm
    refine fT hoi (Region.noSelect_spec hs) (fun c a w=>hQ c a oi.dst v w) (fun _ h=>h) ?_ _ listed a w inv (Region.free_spec hoi hf) ES hy' hS hrec (fun _ h _=>h)
    intro listed' j vJ hun hj Mr hji w'
    exfalso
    have hjl:j<ops.size:=by
     obtain⟨_,oj,hoj,_⟩:=mem_ready.1 hj
     exact(Array.getElem?_eq_some_iff.1 hoj).1
    have hpn:=kD vJ hc (j - n) j (by omega) hjl (jD hj)
    rcases mg vJ hpn n [n] (fun k hk=> .inl (by simpa using hk)) i (by simpa using hsk.1) with h1 | h1
    ·omega
    ·rw[getD_both hun] at h1;cases h1
theorem eM {K K':Act→Prop} (h:∀ a,K a→K' a):∀ (l:List Oper) (a:Act),wpQuiet P ops S K l a→wpQuiet P ops S K' l a
 | [],_,hh=>h _ hh
 | o::l,a,hh=>by
  unfold wpQuiet at hh⊢
  split
  ·rename_i hw
   rw[if_pos hw] at hh
   exact Oper.quiet_mono (fun a=>eM h l a) hh
  ·rename_i hw
   rw[if_neg hw] at hh
   exact eM h l _ hh
theorem jZ (hs:Region.noSelect ops=true) (hc:Region.chainB md ops n=true)
  (hQ:∀ c a d v w,Q (.panic c) (Act.put a d v) w→Q (.panic c) a w) (ls is:List Nat):
  ∀ (ph:List (List Nat×Nat)) (listed:Array Bool) (a:Act) (w:World),gK md ops listed→Cn md ops n (cG md ops n [n]) ph listed=true→
   gD md ops n (cG md ops n [n]) ls (fB ph listed)=true→fR md ops is (bV ls (fB ph listed))=true→S w→
   iK P ops Q S (fun a w=>wpQuiet P ops S (fun a'=>cH P ops Q S n is a' w) (au ops ls) a) ph a w→eW P md ops Q S n (gX ph+ls.length+is.length) listed a w
 | [],listed,a,w,inv,_,hl,ht,hS,h=>by
  simp only[gX,Nat.zero_add,iK,fB] at h hl ht⊢
  exact jE hs hc hQ is ls listed a w inv hl ht hS h
 | (rs,i)::ph,listed,a,w,inv,hp,hl,ht,hS,h=>by
  simp only[Cn,Bool.and_eq_true,decide_eq_true_eq] at hp
  obtain⟨⟨h1,h2⟩,h3⟩:=hp
  simp only[fB] at hl ht
  have e:gX ((rs,i)::ph)+ls.length+is.length=rs.length+((gX ph+ls.length+is.length)+1):=by simp only[gX];omega
  rw[e]
  refine fU hs hc hQ _ rs listed a w inv h1 hS ?_
  simp only[iK] at h
  refine eM (fun a' h' vJ=> ?_) _ _ h
  refine⟨fun hr=>(by rw[h2] at hr;cases hr),fun j hj=> ?_⟩
  have hij:j=i:=by rw[h2] at hj;simpa using hj
  subst hij
  refine wpOp_mono (fun a'' w'' h''=>⟨fun _=>h''.1,?_⟩) h'
  exact jZ hs hc hQ ls is ph _ a'' w'' (vJ.set hj) h3 hl ht h''.1 h''.2
theorem az {id:Nat} {l:List Oper} {a:Act} {w:World} (S:World→Prop) (n:Nat) (ph:List (List Nat×Nat)) (ls is:List Nat) (hm:P.follows .mixedOrders=true)
  (hB:(Region.noSelect l.toArray && Region.chainB .any l.toArray n && decide (gX ph+ls.length+is.length=l.length) && Cn .any l.toArray n (cG .any l.toArray n [n]) ph (Array.replicate l.toArray.size false) &&
   gD .any l.toArray n (cG .any l.toArray n [n]) ls (fB ph (Array.replicate l.toArray.size false)) &&
   fR .any l.toArray is (bV ls (fB ph (Array.replicate l.toArray.size false))))=true)
  (hS:S w.drew) (h:iK P l.toArray (NoPanic Q) S (fun a w=>wpQuiet P l.toArray S (fun a'=>cH P l.toArray (NoPanic Q) S n is a' w) (au l.toArray ls) a) ph a w.drew):(Code.region id l.toArray true).wp P Q a w:=by
 refine wp_region_noPanic ?_
 simp only[Bool.and_eq_true,decide_eq_true_eq] at hB
 obtain⟨⟨⟨⟨⟨h1,h2⟩,h3⟩,h4⟩,h5⟩,h6⟩:=hB
 refine wp_region_any hm (gi (S:=S) (n:=n) _ _ _ _ ?_)
 have:=jZ (Q:=NoPanic Q) h1 h2 (fun _ _ _ _ _ h=>h) ls is ph _ a w.drew (gK.start .any l.toArray) h4 h5 h6 hS h
 rw[h3] at this
 simpa using this
theorem ai {F:Act→World→Prop} {rs:List Nat} {i:Nat} {ph:List (List Nat×Nat)} {a:Act} {w:World}
  (h:wpQuiet P ops S (fun a'=>wpOp P ops Q i (fun a'' w''=>S w''∧iK P ops Q S F ph a'' w'') a' w) (au ops rs) a):iK P ops Q S F ((rs,i)::ph) a w:=h
theorem af {F:Act→World→Prop} {a:Act} {w:World} (h:F a w):iK P ops Q S F [] a w:=h
theorem bm {F:Act→World→Prop} {i:Nat} {o:Oper} {ph:List (List Nat×Nat)} {a:Act} {w:World} (ho:ops[i]? =some o)
  (h:∀ K:Act→World→Prop,(∀ a' w',S w'→iK P ops Q S F ph a' w'→K a' w')→if Region.wanted o (yielded ops a.tmps)=true then Oper.wp P o a w K Q else K (a.put o.dst undef) w):
  wpOp P ops Q i (fun a'' w''=>S w''∧iK P ops Q S F ph a'' w'') a w:=by
 have:=h (fun a'' w''=>S w''∧iK P ops Q S F ph a'' w'') (fun a' w' h1 h2=>⟨h1,h2⟩)
 simp only[wpOp,ho]
 split
 ·rename_i hw;rw[if_pos hw] at this;exact .inl this
 ·rename_i hw;rw[if_neg hw] at this;exact this
end
section
variable {P:Program} (w:World)
theorem lr (base:Nat) (t ty e:TypeId) (i:TypeInfo) (size:Nat) (ht:P.underlying t=some (.slice e)) (hi:P.info? e=some i)
  (v:Value) (n:Nat) (xs:List Value) (hown:w.ownsRow base e size v n xs) (c:Nat):(Builtin.append_ #[t,t] ty #[v,.slice none 0 c]).run P w= .ok v w:=by
 rcases hown.2 with ⟨rfl,rfl⟩ | ⟨g,cap,cur,rfl,_,_,hnc,_⟩
 ·simp[Builtin.append_,run_underlying ht,sizeOf,typeInfo,hi,Builtin.lenOf,Builtin.firstCells]
 ·simp[Builtin.append_,run_underlying ht,sizeOf,typeInfo,hi,Builtin.lenOf,Builtin.firstCells,hnc,storeCells]
theorem qd (base:Nat) (t ty e:TypeId) (i:TypeInfo) (z:Value) (size bytes:Nat) (ht:P.underlying t=some (.slice e)) (hi:P.info? e=some i) (hz:i.zero=some z)
  (hsize:i.size=size) (hby:i.bytes=bytes) (hzs:z.cells.size=size) (hsz:0<size)
  (v:Value) (n:Nat) (xs:List Value) (hown:w.ownsRow base e size v n xs)
  (B:Nat) (A:Option Addr) (m c:Nat) (news:List Value) (hr:Sl w B size A m news) (h1:∀ u∈news,u.oneCell'=true)
  (h63:n+m≤maxLen) (hbytes:(n+m)*bytes≤140737488355328) (hbase:base≤w.heap.size):
  ∃ v' w',(Builtin.append_ #[t,t] ty #[v,.slice A m c]).run P w= .ok v' w'∧w'.ownsRow base e size v' (n+m) (xs++news)∧w.grownBy w' v.ownBlock∧
   (v'.ownBlock=v.ownBlock∨v'.ownBlock=some w.heap.size):=by
 cases A with
 | none=>
  have hm:m=0:=by
   rcases Nat.eq_zero_or_pos m with h0 | h0
   ·exact h0
   ·have:=hr.CF h0;cases this
  subst hm
  have hn:news=[]:=List.eq_nil_of_length_eq_zero (by simpa using hr.len)
  subst hn
  exact⟨v,w,lr w base t ty e i size ht hi v n xs hown c,by simpa using hown,⟨rfl,rfl,rfl,Nat.le_refl _,fun _ _ _=>rfl⟩,.inl rfl⟩
 | some ad=>
  have hcells:∀ j u,news[j]? =some u→w.cell? (ad.add j)=some u:=by
   intro j u hu
   have hj:j<m*size:=by
    rw[←hr.len]
    exact(List.getElem?_eq_some_iff.1 hu).1
   have h0:=hr.pos hj
   have h2:=hr.CF h0
   injection h2 with h2
   have h3:=hr.cell j hj
   rw[hu] at h3
   rw[h2]
   unfold Addr.add
   split
   ·rename_i hj0;subst hj0;simpa [bt,bY] using h3
   ·simpa [bt,bY] using h3
  obtain⟨v',w',hrun,h2,h3,_,h5⟩:=run_append_own_at (P:=P) w base t ty e i z size bytes ht hi hz hsize hby hzs hsz v n xs hown ad m c news hr.len hcells h1 h63 hbytes hbase
  exact⟨v',w',hrun,h2,h3,h5⟩
theorem r6 {o:Oper} {a:Act} {K:Act→World→Prop} {Q:Exit→Act→World→Prop} (s x:Operand) (t:TypeId)
  (ho:o.op= .call { callee:= .builtin .append,args:= #[s,x],argTypes:= #[t,t] })
  (base:Nat) (e:TypeId) (i:TypeInfo) (z:Value) (size bytes:Nat) (ht:P.underlying t=some (.slice e)) (hi:P.info? e=some i) (hz:i.zero=some z)
  (hsize:i.size=size) (hby:i.bytes=bytes) (hzs:z.cells.size=size) (hsz:0<size)
  (v:Value) (n:Nat) (xs:List Value) (hs:a.eval s=v) (hown:w.ownsRow base e size v n xs)
  (B:Nat) (A:Option Addr) (m c:Nat) (news:List Value) (hx:a.eval x= .slice A m c) (hr:Sl w B size A m news) (h1:∀ u∈news,u.oneCell'=true)
  (h63:n+m≤maxLen) (hbytes:(n+m)*bytes≤140737488355328) (hbase:base≤w.heap.size)
  (h:∀ v' w',w'.ownsRow base e size v' (n+m) (xs++news)→w.grownBy w' v.ownBlock→(v'.ownBlock=v.ownBlock∨v'.ownBlock=some w.heap.size)→K (a.put o.dst v') w'):o.wp P a w K Q:=by
 obtain⟨v',w',hrun,h2,h3,h4⟩:=qd (P:=P) w base t o.type e i z size bytes ht hi hz hsize hby hzs hsz v n xs hown B A m c news hr h1 h63 hbytes hbase
 unfold Oper.wp execOp
 simp only[ho,resolve,invoke,builtin,Sem.run_bind,Sem.run_pure,Result.andThen_ok,List.map_toArray,List.map_cons,List.map_nil,hs,hx,hrun]
 exact h v' w' h2 h3 h4
theorem dU {ops:Array Oper} {rest:List Oper} {o:Oper} {a:Act} {Q:Exit→Act→World→Prop} (hgd:o.guard=none) (s x:Operand) (t:TypeId)
  (ho:o.op= .call { callee:= .builtin .append,args:= #[s,x],argTypes:= #[t,t] })
  (base:Nat) (e:TypeId) (i:TypeInfo) (z:Value) (size bytes:Nat) (ht:P.underlying t=some (.slice e)) (hi:P.info? e=some i) (hz:i.zero=some z)
  (hsize:i.size=size) (hby:i.bytes=bytes) (hzs:z.cells.size=size) (hsz:0<size)
  (v:Value) (n:Nat) (xs:List Value) (hs:a.eval s=v) (hown:w.ownsRow base e size v n xs)
  (B:Nat) (A:Option Addr) (m c:Nat) (news:List Value) (hx:a.eval x= .slice A m c) (hr:Sl w B size A m news) (h1:∀ u∈news,u.oneCell'=true)
  (h63:n+m≤maxLen) (hbytes:(n+m)*bytes≤140737488355328) (hbase:base≤w.heap.size)
  (h:∀ v' w',w'.ownsRow base e size v' (n+m) (xs++news)→w.grownBy w' v.ownBlock→(v'.ownBlock=v.ownBlock∨v'.ownBlock=some w.heap.size)→wpList P ops Q rest (a.put o.dst v') w'):wpList P ops Q (o::rest) a w:=
 wpList_plain hgd fun _ hK=>r6 w s x t ho base e i z size bytes ht hi hz hsize hby hzs hsz v n xs hs hown B A m c news hx hr h1 h63 hbytes hbase fun v' w' h2 h3 h4=>hK _ _ (h v' w' h2 h3 h4)
end
theorem n5 (w:World) (e:TypeId) (size:Nat) {base g:Nat} (hb:base≤w.heap.size) (hg:g=w.heap.size):(w.alloc (.cells #[] e)).ownsRow base e size (.slice (some ⟨g,0,none⟩) 0 0) 0 []:=by
 subst hg
 exact World.ownsRow_made w #[] 0 hb (by simp[maxLen]) (by simp)
end Go.Proofs.YtbcnnhlpilmmbaaGreat
