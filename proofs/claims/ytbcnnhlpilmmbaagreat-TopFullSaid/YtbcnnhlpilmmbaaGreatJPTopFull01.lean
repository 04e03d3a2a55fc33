/- Texts that are wanted for PTopFull.
   Conditions: none. -/
import Derived.Test.YtbcnnhlpilmmbaaGreatRows
import Derived.WalkKit
import Derived.WalkSpells
import Derived.WalkLawsBesides
import Derived.Lib.Hide
import Derived.Deep.QuietTactic
import Derived.BigQuiet
import Derived.Deep.Cut
import Derived.Deep.CutBlock
import Derived.Deep.RegionHeld3
import Derived.Deep.AppendLies
import Derived.StillTailTactics
import Derived.Laws.Bits64b
import Derived.IntWalk
import Derived.Outline
import Derived.OwnWalk
import Derived.KernelRfl
import Derived.Test.YtbcnnhlpilmmbaaGreatJPTopFull00
set_option maxRecDepth 100000
set_option maxHeartbeats 6400000
namespace Go.Proofs.YtbcnnhlpilmmbaaGreat
open Go Go.RowKit
def Eo:Obj→Option TypeId
 | .cells _ t _=>some t
 | _=>none
structure Fr (C:Nat→Nat) (K:Nat→Prop) (L:List (Option TypeId)) (w w':World):Prop where
 os:w'.os=w.os
 tape:w'.tape=w.tape
 output:w'.output=w.output
 size:w.heap.size≤w'.heap.size
 keep:∀ g o,w.heap[g]? =some o→(¬ K (C g)∨Eo o∉L)→w'.heap[g]? =some o
def aB (N:Nat) (C C':Nat→Nat):Prop:=∀ g,g<N→C' g=C g
def a9 (C:Nat→Nat) (N c:Nat):Nat→Nat:=fun g=>if g<N then C g else c
theorem aB.refl (N:Nat) (C:Nat→Nat):aB N C C:=fun _ _=>rfl
theorem aB.trans {N N':Nat} {C C' Lm:Nat→Nat} (h:aB N C C') (k:aB N' C' Lm) (hN:N≤N'):aB N C Lm:=fun g hg=>(k g (by omega)).trans (h g hg)
theorem aB.a9 (C:Nat→Nat) (N c:Nat):aB N C (a9 C N c):=fun _ hg=>if_pos hg
theorem aO (C:Nat→Nat) {N g:Nat} (c:Nat) (h:N≤g):a9 C N c g=c:=if_neg (by omega)
theorem cu (C:Nat→Nat) {N g:Nat} (c:Nat) (h:g<N):a9 C N c g=C g:=if_pos h
section
variable {C C':Nat→Nat} {K K':Nat→Prop} {L L':List (Option TypeId)} {a w w':World}
theorem Fr.refl (C:Nat→Nat) (K:Nat→Prop) (L:List (Option TypeId)) (w:World):Fr C K L w w:=⟨rfl,rfl,rfl,Nat.le_refl _,fun _ _ h _=>h⟩
theorem Fr.trans (h:Fr C K L a w) (k:Fr C' K L w w') (hC:aB a.heap.size C C'):Fr C K L a w':=
 ⟨k.os.trans h.os,k.tape.trans h.tape,k.output.trans h.output,Nat.le_trans h.size k.size,fun g o ho hk=>k.keep g o (h.keep g o ho hk) (by rw[hC g (lt_size ho)];exact hk)⟩
theorem Fr.eX (h:Fr C K L a w) (k:Fr C K L w w'):Fr C K L a w':=h.trans k (aB.refl _ _)
theorem Fr.mono (h:Fr C K L a w) (hK:∀ c,K c→K' c) (hL:∀ t,t∈L→t∈L'):Fr C K' L' a w:=
 ⟨h.os,h.tape,h.output,h.size,fun g o ho hk=>h.keep g o ho (hk.imp (fun h1 h2=>h1 (hK _ h2)) (fun h1 h2=>h1 (hL _ h2)))⟩
theorem Fr.of_below (h:Below w.heap.size w w') (C:Nat→Nat) (K:Nat→Prop) (L:List (Option TypeId)):Fr C K L w w':=⟨h.os,h.tape,h.output,h.size,fun g _ ho _=>(h.block g (lt_size ho)).trans ho⟩
theorem Fr.step (h:Fr C K L a w) (k:Below w.heap.size w w'):Fr C K L a w':=h.eX (Fr.of_below k C K L)
theorem Fr.drew (h:Fr C K L a w):Fr C K L a w.drew:=⟨h.os,h.tape,h.output,h.size,h.keep⟩
theorem Fr.drewN (h:Fr C K L a w) (n:Nat):Fr C K L a (w.drewN n):=⟨h.os,h.tape,h.output,h.size,h.keep⟩
theorem Fr.alloc (h:Fr C K L a w) (o:Obj):Fr C K L a (w.alloc o):=h.step ((Below.refl _ _).alloc (Nat.le_refl _) o)
theorem Fr.grown {row:Option Nat} (h:Fr C K L a w) (hg:w.grownBy w' row) (hr:∀ g,row=some g→K (C g)∧∃ o,w.heap[g]? =some o∧Eo o∈L):Fr C K L a w':=
 h.eX ⟨hg.os,hg.tape,hg.output,hg.size,fun g o ho hk=>by
  rw[hg.block g (lt_size ho) (fun e=>by
   obtain⟨h1,o',h2,h3⟩:=hr g e.symm
   rw[ho] at h2
   injection h2 with h2
   subst h2
   rcases hk with hk | hk
   ·exact hk h1
   ·exact hk h3)]
  exact ho⟩
theorem Fr.ct (h:Fr C K L a w) {p:Addr} (hp:a.heap.size≤p.block) (u:Value):Fr C K L a (w.setCell p u):=
 ⟨h.os,h.tape,h.output,by simpa [World.setCell] using h.size,fun g o ho hk=>by
  have:=lt_size ho
  rw[Below.heap_setCell _ _ _ _ (fun e=>by omega)]
  exact h.keep g o ho hk⟩
theorem Fr.below {B:Nat} (h:Fr C K L w w') (hC:∀ g,g<B→¬ K (C g)) (hB:B≤w.heap.size):Below B w w':=
 ⟨h.os,h.tape,h.output,h.size,fun g hg=>by
  have:g<w.heap.size:=by omega
  have e:=Array.getElem?_eq_getElem this
  rw[e]
  exact h.keep g _ e (.inl (hC g hg))⟩
theorem a8.fr {g:Nat} {t:TypeId} {cs:Array Value} (h:a8 w g t cs) (k:Fr C K L w w') (hk:¬ K (C g)∨some t∉L):a8 w' g t cs:=k.keep g _ h hk
theorem vK {base:Nat} {e:TypeId} {size n:Nat} {v:Value} {xs:List Value} (h:w.ownsRow base e size v n xs) (k:Fr C K L w w') (hk:(∀ g,v.ownBlock=some g→¬ K (C g))∨some e∉L):w'.ownsRow base e size v n xs:=by
 refine⟨h.1,?_⟩
 rcases h.2 with hn | ⟨g,cap,cur,rfl,hbg,hg,rest⟩
 ·exact .inl hn
 ·exact .inr ⟨g,cap,cur,rfl,hbg,k.keep g _ hg (hk.imp (fun h1=>h1 g rfl) id),rest⟩
end
structure Ms (w:World) (C:Nat→Nat) (c b:Nat) (t:TypeId) (cs:Array Value):Prop where
 blk:a8 w b t cs
 col:C b=c
abbrev SB (w:World) (C:Nat→Nat) (c b:Nat) (t:TypeId) (cs:Array Value):Prop:=(∀ i,w.cell? ⟨b,i,none⟩=cs[i]?)∧(∀ i,w.frozen? ⟨b,i,none⟩=false)∧Ms w C c b t cs
variable {w:World} {C:Nat→Nat} {c b:Nat}
theorem SB.mk {t:TypeId} {cs:Array Value} (h:a8 w b t cs) (k:C b=c):SB w C c b t cs:=⟨h.cells,h.frees,h,k⟩
theorem SB.blk {t:TypeId} {cs:Array Value} (h:SB w C c b t cs):a8 w b t cs:=h.2.2.blk
theorem SB.col {t:TypeId} {cs:Array Value} (h:SB w C c b t cs):C b=c:=h.2.2.col
structure Row (w:World) (C:Nat→Nat) (c:Nat) (e:TypeId) (size:Nat) (v:Value) (n:Nat) (xs:List Value):Prop where
 own:w.ownsRow 0 e size v n xs
 col:∀ g,v.ownBlock=some g→C g=c
section
variable {C C':Nat→Nat} {K:Nat→Prop} {L:List (Option TypeId)} {a w w':World} {c b:Nat} {t:TypeId} {cs:Array Value} {e:TypeId} {size n:Nat} {v:Value} {xs:List Value}
theorem SB.lt (h:SB w C c b t cs):b<w.heap.size:=h.blk.lt
theorem SB.fr (h:SB w C c b t cs) (k:Fr C K L w w') (hk:¬ K c∨some t∉L):SB w' C c b t cs:=SB.mk (h.blk.fr k (by rw[h.col];exact hk)) (h.col)
theorem SB.nv (h:SB w C c b t cs) (k:aB w.heap.size C C'):SB w C' c b t cs:=SB.mk (h.blk) ((k b h.lt).trans h.col)
theorem SB.step (h:SB w C c b t cs) (k:Below w.heap.size w w'):SB w' C c b t cs:=SB.mk (h.blk.step k) (h.col)
theorem SB.drew (h:SB w C c b t cs):SB w.drew C c b t cs:=SB.mk (h.blk.drew) (h.col)
theorem SB.drewN (h:SB w C c b t cs) (n:Nat):SB (w.drewN n) C c b t cs:=SB.mk (h.blk.drewN n) (h.col)
theorem SB.alloc (h:SB w C c b t cs) (o:Obj):SB (w.alloc o) C c b t cs:=SB.mk (h.blk.alloc o) (h.col)
theorem SB.ao (h:SB w C c b t cs) (i:Nat) (u:Value):SB (w.setCell ⟨b,i,none⟩ u) C c b t (cs.setIfInBounds i u):=SB.mk (h.blk.ao i u) (h.col)
theorem SB.far (h:SB w C c b t cs) {p:Addr} (hp:b≠p.block) (u:Value):SB (w.setCell p u) C c b t cs:=SB.mk (h.blk.far hp u) (h.col)
theorem SB.new (w:World) (C:Nat→Nat) {g:Nat} (hC:C g=c) (t:TypeId) (cs:Array Value) (hg:g=w.heap.size):SB (w.alloc (.cells cs t)) C c g t cs:=SB.mk (a8.newAt w t cs hg) (hC)
theorem SB.q8 {c' b':Nat} {t':TypeId} {cs':Array Value} (h:SB w C c b t cs) (h':SB w C c' b' t' cs') (hne:t≠t'):b≠b':=a8.q8 h.blk h'.blk hne
theorem Fr.ao (h:Fr C K L a w) (hb:SB w C c b t cs) (hK:K c) (hL:some t∈L) (i:Nat) (u:Value):Fr C K L a (w.setCell ⟨b,i,none⟩ u):=
 h.grown (row:=some b) ⟨rfl,rfl,rfl,by simp[World.setCell],fun j _ hj=>Below.heap_setCell _ _ _ _ (fun e=>hj (by simp[e]))⟩ fun g hg=>by
  injection hg with hg;subst hg
  exact⟨by rw[hb.col];exact hK,_,hb.blk,hL⟩
theorem Row.nil_ (w:World) (C:Nat→Nat) (c:Nat) (e:TypeId) (size:Nat):Row w C c e size (.slice none 0 0) 0 []:=⟨World.ownsRow_nil _ _ _ _,by simp[Value.ownBlock]⟩
theorem Row.fr (h:Row w C c e size v n xs) (k:Fr C K L w w') (hk:¬ K c∨some e∉L):Row w' C c e size v n xs:=⟨vK h.own k (hk.imp (fun h1 g hg=>by rw[h.col g hg];exact h1) id),h.col⟩
theorem Row.nv (h:Row w C c e size v n xs) (k:aB w.heap.size C C'):Row w C' c e size v n xs:=⟨h.own,fun g hg=>by
 obtain⟨-,cs,hb⟩:=bH h.own g hg
 exact(k g hb.lt).trans (h.col g hg)⟩
theorem Row.step (h:Row w C c e size v n xs) (k:Below w.heap.size w w'):Row w' C c e size v n xs:=⟨cW h.own k,h.col⟩
theorem Row.far (h:Row w C c e size v n xs) {p:Addr} (hp:v.ownBlock≠some p.block) (u:Value):Row (w.setCell p u) C c e size v n xs:=⟨dB h.own hp u,h.col⟩
theorem Row.q8 {c' b':Nat} {t':TypeId} {cs':Array Value} (h:Row w C c e size v n xs) (h':SB w C c' b' t' cs') (hne:e≠t'):v.ownBlock≠some b':=own_ne h.own h'.blk hne
theorem Row.ao (h:Row w C c e size v n xs) {c' b':Nat} {t':TypeId} {cs':Array Value} (h':SB w C c' b' t' cs') (hne:e≠t') (i:Nat) (u:Value):Row (w.setCell ⟨b',i,none⟩ u) C c e size v n xs:=h.far (h.q8 h' hne) u
theorem Row.form (h:Row w C c e size v n xs):∃ A m,v= .slice A n m∧n≤m∧(A=none→n=0∧m=0)∧∀ a,A=some a→a=⟨a.block,0,none⟩:=bF h.own
theorem Row.app {v':Value} {n':Nat} {xs':List Value} (h:Row w C c e size v n xs) (ho:w'.ownsRow 0 e size v' n' xs') (hb:v'.ownBlock=v.ownBlock∨v'.ownBlock=some w.heap.size):Row w' (a9 C w.heap.size c) c e size v' n' xs':=
 ⟨ho,fun g hg=>by
  rcases hb with hb | hb
  ·rw[hb] at hg
   obtain⟨-,cs,hk⟩:=bH h.own g hg
   rw[cu C c hk.lt];exact h.col g hg
  ·rw[hb] at hg;injection hg with hg;subst hg
   exact aO C c (Nat.le_refl _)⟩
theorem Fr.app (k:Fr C K L a w) (h:Row w C c e size v n xs) (hg:w.grownBy w' v.ownBlock) (hK:K c) (hL:some e∈L):Fr C K L a w':=
 k.grown hg fun g hv=>by
  obtain⟨-,cs,hk⟩:=bH h.own g hv
  exact⟨by rw[h.col g hv];exact hK,_,hk,hL⟩
end
structure Tk (C:Nat→Nat) (K:Nat→Prop) (T:List (Option TypeId)) (w0 w:World) (c b:Nat) (t:TypeId) (cs:Array Value):Prop where
 sb:SB w C c b t cs
 fr:Fr C K T w0 w
section
variable {C:Nat→Nat} {K:Nat→Prop} {T:List (Option TypeId)} {w0 w w':World} {c b:Nat} {t:TypeId} {cs:Array Value}
theorem SB.tk (h:SB w C c b t cs) (K:Nat→Prop) (T:List (Option TypeId)):Tk C K T w w c b t cs:=⟨h,Fr.refl C K T w⟩
theorem Tk.set (h:Tk C K T w0 w c b t cs) (hK:K c) (hT:some t∈T) (i:Nat) (u:Value):Tk C K T w0 (w.setCell ⟨b,i,none⟩ u) c b t (cs.setIfInBounds i u):=⟨h.sb.ao i u,h.fr.ao h.sb hK hT i u⟩
theorem Tk.drew (h:Tk C K T w0 w c b t cs):Tk C K T w0 w.drew c b t cs:=⟨h.sb.drew,h.fr.drew⟩
theorem Tk.step (h:Tk C K T w0 w c b t cs) (k:Below w.heap.size w w'):Tk C K T w0 w' c b t cs:=⟨h.sb.step k,h.fr.step k⟩
theorem Tk.call {K':Nat→Prop} {T':List (Option TypeId)} (h:Tk C K T w0 w c b t cs) (k:Fr C K' T' w w') (hK:∀ x,K' x→K x) (hT:∀ x,x∈T'→x∈T) (hn:¬ K' c∨some t∉T'):Tk C K T w0 w' c b t cs:=
 ⟨h.sb.fr k hn,h.fr.eX (k.mono hK hT)⟩
end
structure Ev where
 th:Int
 ends:Bool
 kind:Int
 key:Int
 code:Int
 ok:Bool
 val:Int
def Ev.cells (e:Ev):List Value:=[.int .i64 e.th,.bool e.ends,.int .i64 e.kind,.int .i64 e.key,.int .i64 e.code,.bool e.ok,.int .i64 e.val]
theorem Ev.db (e:Ev):e.cells.length=7:=rfl
theorem Ev.cells_one (e:Ev):∀ u∈e.cells,u.oneCell'=true:=by
 intro u hu
 simp only[Ev.cells,List.mem_cons,List.not_mem_nil,or_false] at hu
 rcases hu with rfl | rfl | rfl | rfl | rfl | rfl | rfl<;>rfl
structure HC where
 began:Int
 ended:Int
 id:Int
 th:Int
 kind:Int
 key:Int
 code:Int
 ok:Bool
 val:Int
def HC.cells (e:HC):List Value:=[.int .i64 e.began,.int .i64 e.ended,.int .i64 e.id,.int .i64 e.th,.int .i64 e.kind,.int .i64 e.key,.int .i64 e.code,.bool e.ok,.int .i64 e.val]
theorem HC.db (e:HC):e.cells.length=9:=rfl
theorem HC.cells_one (e:HC):∀ u∈e.cells,u.oneCell'=true:=by
 intro u hu
 simp only[HC.cells,List.mem_cons,List.not_mem_nil,or_false] at hu
 rcases hu with rfl | rfl | rfl | rfl | rfl | rfl | rfl | rfl | rfl<;>rfl
structure HS where
 evs:List Ev
 calls:List HC
 now:Nat→Int
def HS.new:HS:=⟨[],[],fun _=>0⟩
def JQ (t:Int) (kind key:Int):Ev:=⟨t,false,kind,key,0,false,0⟩
def GF (t:Int) (code:Int) (ok:Bool) (val:Int):Ev:=⟨t,true,0,0,code,ok,val⟩
def HS.zU (s:HS) (t:Nat) (kind key:Int):HS:=
 ⟨s.evs++[JQ t kind key],s.calls++[⟨s.evs.length,-1,s.calls.length,t,kind,key,0,false,0⟩],fun u=>if u=t then s.calls.length+1 else s.now u⟩
def HC.stop (c:HC) (n:Int) (code:Int) (ok:Bool) (val:Int):HC:={ c with ended:=n,code:=code,ok:=ok,val:=val }
def HS.xE (s:HS) (t:Nat) (code:Int) (ok:Bool) (val:Int):HS:=
 ⟨s.evs++[GF t code ok val],s.calls.modify (s.now t - 1).toNat (fun c=>c.stop s.evs.length code ok val),fun u=>if u=t then 0 else s.now u⟩
def HS.pend (s:HS) (t:Int):Bool:=decide (0≤t) && decide (t<8) && decide (0<s.now t.toNat)
def HS.qg (s:HS) (t:Int):Int:=if t<0∨8≤t then 2 else if 0<s.now t.toNat then 1 else 0
def HS.ny (s:HS) (t:Int):Int:=if t<0∨8≤t then 2 else if 0<s.now t.toNat then 0 else 5
def HS.begin_ (s:HS) (t:Int) (kind key:Int):HS:=if s.qg t=0 then s.zU t.toNat kind key else s
def HS.end_ (s:HS) (t:Int) (code:Int) (ok:Bool) (val:Int):HS:=if s.ny t=0 then s.xE t.toNat code ok val else s
structure HS.wf (s:HS):Prop where
 lo:∀ t,0≤s.now t
 hi:∀ t,s.now t≤s.calls.length
 le:s.calls.length≤s.evs.length
theorem HS.ET:HS.new.wf:=⟨fun _=>by simp[HS.new],fun _=>by simp[HS.new],by simp[HS.new]⟩
theorem HS.EU {s:HS} (h:s.wf) (t:Nat) (kind key:Int):(s.zU t kind key).wf:=by
 refine⟨fun u=> ?_,fun u=> ?_,?_⟩
 ·simp only[HS.zU];split
  ·omega
  ·exact h.lo u
 ·simp only[HS.zU,List.length_append,List.length_cons,List.length_nil]
  split
  ·omega
  ·have:=h.hi u;omega
 ·simp only[HS.zU,List.length_append,List.length_cons,List.length_nil];have:=h.le;omega
theorem HS.EV {s:HS} (h:s.wf) (t:Nat) (code:Int) (ok:Bool) (val:Int):(s.xE t code ok val).wf:=by
 refine⟨fun u=> ?_,fun u=> ?_,?_⟩
 ·simp only[HS.xE];split
  ·omega
  ·exact h.lo u
 ·simp only[HS.xE,List.length_modify]
  split
  ·omega
  ·exact h.hi u
 ·simp only[HS.xE,List.length_modify,List.length_append,List.length_cons,List.length_nil];have:=h.le;omega
theorem tB (n code:Int) (ok:Bool) (val:Int):∀ (l:List HC) (k:Nat),k<l.length→
  ((((l.flatMap HC.cells).set (k*9+1) (.int .i64 n)).set (k*9+6) (.int .i64 code)).set (k*9+6+1) (.bool ok)).set (k*9+6+2) (.int .i64 val)=(l.modify k fun c=>c.stop n code ok val).flatMap HC.cells
 | [],k,h=>by simp at h
 | c::l,0,_=>by simp[HC.cells,HC.stop]
 | c::l,k+1,h=>by
  have ih:=tB n code ok val l k (by simpa using h)
  have e:∀ j,(k+1)*9+j=(k*9+j)+9:=fun j=>by omega
  have e2:∀ j j',(k+1)*9+j+j'=(k*9+j+j')+9:=fun j j'=>by omega
  have s:∀ (xs:List Value) (j:Nat) (v:Value),(HC.cells c++xs).set (j+9) v=HC.cells c++xs.set j v:=fun xs j v=>by simp[HC.cells]
  simp only[List.flatMap_cons,List.modify_succ_cons,e,s,ih]
structure dZ (tH tE tC:TypeId) (w:World) (B b:Nat) (v1 v2:Value) (cs:Array Value) (evs:List Ev) (calls:List HC) (now:Nat→Int):Prop where
 blk:a8 w b tH cs
 size:cs.size=10
 c0:cs[0]? =some v1
 c1:cs[1]? =some v2
 cn:∀ t,t<8→cs[2+t]? =some (.int .i64 (now t))
 o1:w.ownsRow B tE 7 v1 evs.length (evs.flatMap Ev.cells)
 o2:w.ownsRow B tC 9 v2 calls.length (calls.flatMap HC.cells)
structure eu (tH tE tC:TypeId) (w:World) (B b:Nat) (s:HS):Prop where
 wf:s.wf
 base:B≤b
 at_:∃ (v1 v2:Value) (cs:Array Value),dZ tH tE tC w B b v1 v2 cs s.evs s.calls s.now
section
variable {tH tE tC:TypeId} {w w':World} {B b:Nat} {s:HS} {v1 v2:Value} {cs:Array Value} {evs:List Ev} {calls:List HC} {now:Nat→Int}
theorem dZ.lt (h:dZ tH tE tC w B b v1 v2 cs evs calls now):b<w.heap.size:=h.blk.lt
theorem dZ.step (h:dZ tH tE tC w B b v1 v2 cs evs calls now) (k:Below w.heap.size w w'):dZ tH tE tC w' B b v1 v2 cs evs calls now:=
 ⟨h.blk.step k,h.size,h.c0,h.c1,h.cn,cW h.o1 k,cW h.o2 k⟩
theorem dZ.mono {B':Nat} (h:dZ tH tE tC w B b v1 v2 cs evs calls now) (hB:B'≤B):dZ tH tE tC w B' b v1 v2 cs evs calls now:=
 ⟨h.blk,h.size,h.c0,h.c1,h.cn,eh h.o1 hB,eh h.o2 hB⟩
theorem dZ.alloc (h:dZ tH tE tC w B b v1 v2 cs evs calls now) (o:Obj):dZ tH tE tC (w.alloc o) B b v1 v2 cs evs calls now:=h.step ((Below.refl _ _).alloc (Nat.le_refl _) o)
theorem dZ.drew (h:dZ tH tE tC w B b v1 v2 cs evs calls now):dZ tH tE tC w.drew B b v1 v2 cs evs calls now:=h.step ((Below.refl _ _).drew)
theorem dZ.f0 (h:dZ tH tE tC w B b v1 v2 cs evs calls now):w.cell? ⟨b,0,none⟩=some v1:=(h.blk.cell 0).trans h.c0
theorem dZ.f1 (h:dZ tH tE tC w B b v1 v2 cs evs calls now):w.cell? ⟨b,1,none⟩=some v2:=(h.blk.cell 1).trans h.c1
theorem dZ.fn (h:dZ tH tE tC w B b v1 v2 cs evs calls now) {t:Nat} (ht:t<8):w.cell? ⟨b,2+t,none⟩=some (.int .i64 (now t)):=(h.blk.cell (2+t)).trans (h.cn t ht)
theorem dZ.zV (h:dZ tH tE tC w B b v1 v2 cs evs calls now) (hne:tH≠tC) (hne2:tE≠tC) (yp:tH≠tE) {calls':List HC} {g cap n':Nat} (hn':calls'.length=n')
  (hown:w'.ownsRow B tC 9 (.slice (some ⟨g,0,none⟩) n' cap) n' (calls'.flatMap HC.cells)) (hg:w.grownBy w' v2.ownBlock):
  dZ tH tE tC (w'.setCell ⟨b,1,none⟩ (.slice (some ⟨g,0,none⟩) n' cap)) B b v1 (.slice (some ⟨g,0,none⟩) n' cap) (cs.setIfInBounds 1 (.slice (some ⟨g,0,none⟩) n' cap)) evs calls' now:=by
 subst hn'
 have hb':a8 w' b tH cs:=h.blk.grown hg (own_ne h.o2 h.blk hne.symm)
 have Ln:w'.ownsRow B tE 7 v1 evs.length (evs.flatMap Ev.cells):=h.o1.kept hg (nZ h.o1 h.o2 hne2)
 have hs:=h.size
 refine⟨hb'.ao 1 _,by simpa using hs,?_,?_,fun t ht=> ?_,?_,?_⟩
 ·rw[Array.getElem?_setIfInBounds];simpa using h.c0
 ·rw[Array.getElem?_setIfInBounds];simp;omega
 ·rw[Array.getElem?_setIfInBounds,if_neg (by omega)];exact h.cn t ht
 ·exact dB Ln (own_ne Ln hb' yp.symm) _
 ·exact dB hown (own_ne hown hb' hne.symm) _
theorem dZ.zW (h:dZ tH tE tC w B b v1 v2 cs evs calls now) (hne:tH≠tC) (hne2:tE≠tC) (yp:tH≠tE) {zX:List Ev} {g cap n':Nat} (hn':zX.length=n')
  (hown:w'.ownsRow B tE 7 (.slice (some ⟨g,0,none⟩) n' cap) n' (zX.flatMap Ev.cells)) (hg:w.grownBy w' v1.ownBlock):
  dZ tH tE tC (w'.setCell ⟨b,0,none⟩ (.slice (some ⟨g,0,none⟩) n' cap)) B b (.slice (some ⟨g,0,none⟩) n' cap) v2 (cs.setIfInBounds 0 (.slice (some ⟨g,0,none⟩) n' cap)) zX calls now:=by
 subst hn'
 have hb':a8 w' b tH cs:=h.blk.grown hg (own_ne h.o1 h.blk yp.symm)
 have Lp:w'.ownsRow B tC 9 v2 calls.length (calls.flatMap HC.cells):=h.o2.kept hg (nZ h.o2 h.o1 hne2.symm)
 have hs:=h.size
 refine⟨hb'.ao 0 _,by simpa using hs,?_,?_,fun t ht=> ?_,?_,?_⟩
 ·rw[Array.getElem?_setIfInBounds,if_pos rfl,if_pos (by omega)]
 ·rw[Array.getElem?_setIfInBounds];simpa using h.c1
 ·rw[Array.getElem?_setIfInBounds,if_neg (by omega)];exact h.cn t ht
 ·exact dB hown (own_ne hown hb' yp.symm) _
 ·exact dB Lp (own_ne Lp hb' hne.symm) _
theorem dZ.CH {g cap:Nat} (h:dZ tH tE tC w B b v1 (.slice (some ⟨g,0,none⟩) calls.length cap) cs evs calls now) (hne:tH≠tC) (hne2:tE≠tC) {k:Nat} (hk:k<calls.length) (n code:Int) (ok:Bool) (val:Int):
  dZ tH tE tC ((((w.setCell ⟨g,k*9+1,none⟩ (.int .i64 n)).setCell ⟨g,k*9+6,none⟩ (.int .i64 code)).setCell ⟨g,k*9+6+1,none⟩ (.bool ok)).setCell ⟨g,k*9+6+2,none⟩ (.int .i64 val)) B b v1 (.slice (some ⟨g,0,none⟩) calls.length cap) cs evs (calls.modify k fun c=>c.stop n code ok val) now:=by
 have hb:b≠g:=by
  obtain⟨_,cs',h'⟩:=bH h.o2 g rfl
  exact a8.q8 h.blk h' hne
 have h1:v1.ownBlock≠some g:=by
  obtain⟨_,cs',h'⟩:=bH h.o2 g rfl
  exact own_ne h.o1 h' hne2
 refine⟨(((h.blk.far hb _).far hb _).far hb _).far hb _,h.size,h.c0,h.c1,h.cn,dB (dB (dB (dB h.o1 h1 _) h1 _) h1 _) h1 _,?_⟩
 rw[List.length_modify,←tB n code ok val calls k hk]
 exact(((((h.o2.stored _ _).1.stored _ _).1).stored _ _).1.stored _ _).1
theorem dZ.zY (h:dZ tH tE tC w B b v1 v2 cs evs calls now) (hne:tH≠tC) (yp:tH≠tE) {t:Nat} (ht:t<8) (x:Int):
  dZ tH tE tC (w.setCell ⟨b,2+t,none⟩ (.int .i64 x)) B b v1 v2 (cs.setIfInBounds (2+t) (.int .i64 x)) evs calls (fun u=>if u=t then x else now u):=by
 have hs:=h.size
 refine⟨h.blk.ao _ _,by simpa using hs,?_,?_,fun u hu=> ?_,?_,?_⟩
 ·rw[Array.getElem?_setIfInBounds,if_neg (by omega)];exact h.c0
 ·rw[Array.getElem?_setIfInBounds,if_neg (by omega)];exact h.c1
 ·rw[Array.getElem?_setIfInBounds]
  by_cases hu':u=t
  ·subst hu';simp;omega
  ·rw[if_neg (by omega)];simp only[hu',if_false];exact h.cn u hu
 ·exact dB h.o1 (own_ne h.o1 h.blk yp.symm) _
 ·exact dB h.o2 (own_ne h.o2 h.blk hne.symm) _
theorem Kp.setB {L:List TypeId} {a:World} (k:Kp B L a w) (hb:a8 w b tH cs) (hB:B≤b) (hL:tH∈L) (i:Nat) (u:Value):Kp B L a (w.setCell ⟨b,i,none⟩ u):=
 k.grown (row:=some b) (by have:=hb.lt;have:=k.size;have:=hB;omega) ⟨rfl,rfl,rfl,by simp[World.setCell],fun j _ hj=>Below.heap_setCell _ _ _ _ (fun e=>hj (by simp[e]))⟩
  (fun g hg=>by injection hg with hg;subst hg;exact⟨hB,_,_,_,hb,hL⟩)
theorem Kp.own {L:List TypeId} {a:World} {e:TypeId} {size n base:Nat} {v:Value} {xs:List Value} (k:Kp B L a w) (ho:w.ownsRow base e size v n xs) (hb:B≤base) (hB:B≤w.heap.size) (hL:e∈L) (hg:w.grownBy w' v.ownBlock):Kp B L a w':=
 k.grown hB hg fun g hv=>by
  obtain⟨h1,cs,h2⟩:=bH ho g hv
  exact⟨Nat.le_trans hb h1,_,_,_,h2,hL⟩
theorem eu.lt (h:eu tH tE tC w B b s):b<w.heap.size:=by
 obtain⟨_,_,_,h1⟩:=h.at_
 exact h1.lt
theorem eu.step (h:eu tH tE tC w B b s) (k:Below w.heap.size w w'):eu tH tE tC w' B b s:=by
 obtain⟨v1,v2,cs,hr⟩:=h.at_
 exact⟨h.wf,h.base,v1,v2,cs,hr.step k⟩
theorem eu.mono {B':Nat} (h:eu tH tE tC w B b s) (hB:B'≤B):eu tH tE tC w B' b s:=by
 obtain⟨v1,v2,cs,hr⟩:=h.at_
 exact⟨h.wf,Nat.le_trans hB h.base,v1,v2,cs,hr.mono hB⟩
theorem eu.alloc (h:eu tH tE tC w B b s) (o:Obj):eu tH tE tC (w.alloc o) B b s:=h.step ((Below.refl _ _).alloc (Nat.le_refl _) o)
theorem eu.drew (h:eu tH tE tC w B b s):eu tH tE tC w.drew B b s:=h.step ((Below.refl _ _).drew)
end
theorem yq:(Tryz.prog.info? 3).map (fun i=>(i.zero,i.size,i.bytes))=some (some (.int .i64 0),1,8):=by kernel_rfl
theorem iL:(Tryz.prog.info? 3).map (·.size)=some 1:=by kernel_rfl
def cv (l:List Int):List Value:=l.map (Value.int .i64)
theorem CI (l:List Int):(cv l).length=l.length:=by simp[cv]
theorem gE (l:List Int):∀ u∈cv l,u.oneCell'=true:=by
 intro u hu
 obtain⟨x,_,rfl⟩:=List.mem_map.1 hu
 rfl
theorem CJ (l m:List Int):cv (l++m)=cv l++cv m:=by simp[cv]
theorem iM (l:List Int) (k:Nat):(cv l)[k]? =l[k]?.map (Value.int .i64):=by simp[cv]
theorem CK (w:World) (e:TypeId) (cs:Array Value) (n:Nat) (hn:n≤1000) (hc:cs.size=n) {base:Nat} (hb:base≤w.heap.size):(w.alloc (.cells cs e)).ownsRow base e 1 (.slice (some ⟨w.heap.size,0,none⟩) n n) n cs.toList:=
 ⟨by simp[hc],.inr ⟨_,n,cs,rfl,hb,heap_alloc_new w _,Nat.le_refl _,by unfold maxLen;omega,by omega,by rw[List.take_of_length_le];simp[hc]⟩⟩
theorem zZ (x:Int) (a m:Nat) (hx:0≤x∧x<18446744073709551616) (hm:m≤30):
  wrap64 (bits .and .u64 (x / 2 ^ a) (IntKind.u64.wrap (IntKind.u64.wrap (2 ^ m) - 1)))=x / 2 ^ a % 2 ^ m:=by
 obtain⟨n,rfl⟩:=Int.eq_ofNat_of_zero_le hx.1
 have e1:((n:Int) / 2 ^ a)=((n / 2 ^ a:Nat):Int):=by simp
 have h1:n / 2 ^ a<18446744073709551616:=Nat.lt_of_le_of_lt (Nat.div_le_self _ _) (by omega)
 have h2:(2:Nat) ^ m≤2 ^ 30:=Nat.pow_le_pow_right (by omega) hm
 have h3:1≤(2:Nat) ^ m:=Nat.one_le_two_pow
 have e2:((2:Int) ^ m)=((2 ^ m:Nat):Int):=by simp
 have h2':(2:Nat) ^ m≤1073741824:=h2
 have w1:IntKind.u64.wrap ((2 ^ m:Nat):Int)=((2 ^ m:Nat):Int):=IntWalk.u64_in _ ⟨by omega,by omega⟩
 have w2:IntKind.u64.wrap (((2 ^ m:Nat):Int) - 1)=((2 ^ m - 1:Nat):Int):=(IntWalk.u64_in _ ⟨by omega,by omega⟩).trans (by omega)
 rw[e2,w1,w2,e1,bits_and_u64_nat _ _ h1 (by omega),Nat.and_two_pow_sub_one_eq_mod]
 have h4:n / 2 ^ a % 2 ^ m<2 ^ m:=Nat.mod_lt _ (by omega)
 rw[IntWalk.wrap64_in _ (by omega)]
 simp
theorem z8 (b:Bool) (w:World):Calls Tryz.prog 196 #[.bool b] w fun e w'=>e= .returned (.int .i64 (cz b))∧w=w':=by
 cases b
 all_goals
  go_enter Tryz.func196,Tryz.ntmps196
  go_wp2_with fail
  go_ret
  exact⟨rfl,rfl⟩
theorem z9 (x:Int) (at_ width:Nat) (w:World) (hx:0≤x∧x<18446744073709551616) (ha:at_≤60) (hw:1≤width∧width≤30):
  Calls Tryz.prog 170 #[.int .u64 x,.int .i64 at_,.int .i64 width] w fun e w'=>e= .returned (.int .i64 (x / 2 ^ at_ % 2 ^ width))∧∃ n,w'=w.drewN n:=by
 have HC:=Lib.hid (zZ x at_ width hx hw.2)
 go_enter Tryz.func170,Tryz.ntmps170
 go_wp2_with fail
 go_quiet (fail)
 rw[HC.out]
 go_wp2_with fail
 go_ret
 exact⟨rfl,_,rfl⟩
theorem gY (x a m d p:Int) (at_ width:Nat) (w:World) (hx:0≤x∧x<18446744073709551616) (ha:at_≤60) (hw:1≤width∧width≤30) (h1:a=at_) (h2:m=width) (h3:2 ^ at_=d) (h4:2 ^ width=p):
  Calls Tryz.prog 170 #[.int .u64 x,.int .i64 a,.int .i64 m] w fun e w'=>e= .returned (.int .i64 (x / d % p))∧∃ n,w'=w.drewN n:=by
 subst h1 h2 h3 h4;exact z9 x at_ width w hx ha hw
def eN (l:List Int):Nat→Int
 | 0=>0
 | k+1=>eN l k+l.getD k 0
def tD (l:List Int):List Int:=(List.range (l.length+1)).map (eN l)
theorem n6 {l:List Int} (h:∀ x∈l,0≤x∧x≤64):∀ k,0≤eN l k∧eN l k≤64*k
 | 0=>by simp[eN]
 | k+1=>by
  have:=n6 h k
  simp only[eN]
  have h2:0≤l.getD k 0∧l.getD k 0≤64:=by
   rcases Nat.lt_or_ge k l.length with hk | hk
   ·rw[List.getD_eq_getElem?_getD,List.getElem?_eq_getElem hk];exact h _ (List.getElem_mem _)
   ·rw[List.getD_eq_getElem?_getD,List.getElem?_eq_none hk];simp
  omega
theorem mh (A:Option Addr) (n c B:Nat) (l:List Int) (w:World) (hs:Sl w B 1 A n (cv l)) (hB:B≤w.heap.size) (hl:l.length=n) (hn:n≤20) (hr:∀ x∈l,0≤x∧x≤64):
  Calls Tryz.prog 139 #[.slice A n c] w fun e w'=>∃ v,e= .returned v∧w'.ownsRow w.heap.size 3 1 v (n+1) (cv (tD l))∧Below w.heap.size w w':=by
 obtain⟨i0,hi,hz0,hz1,hz2⟩:=info_parts yq
 have HL:=Lib.hid hl
 have HR:=Lib.hid hr
 clear hl hr
 go_enter Tryz.func139,Tryz.ntmps139
 go_upto_region 2 with (fail)
 have ho:(w.alloc (.cells #[.int .i64 0] 3)).ownsRow w.heap.size 3 1 (.slice (some ⟨w.heap.size,0,none⟩) 1 1) 1 (cv ((List.range 1).map (eN l))):=CK w 3 _ 1 (by omega) rfl (by simp)
 have hb1:Below w.heap.size w (w.alloc (.cells #[.int .i64 0] 3)):=(Below.refl _ _).alloc (Nat.le_refl _) _
 have hs1:w.heap.size≤(w.alloc (.cells #[.int .i64 0] 3)).heap.size:=hb1.size
 obtain⟨b,hb⟩:∃ b,w.heap.size=b:=⟨_,rfl⟩
 rw[hb] at ho hb1 hs1 hB⊢
 generalize(w.alloc (.cells #[.int .i64 0] 3))=w1 at *
 have HB:=Lib.hid hb
 clear hb
 go_wp2_with fail
 go_loopw [3,9] (fun ov i wr=>∃ k:Nat,k≤n∧i= .int .i64 k∧wr.ownsRow b 3 1 ov (k+1) (cv ((List.range (k+1)).map (eN l)))∧Below b w wr∧b≤wr.heap.size) (fun _ i _=>n - (intOf i).toNat)
 case atStart=>exact⟨0,by omega,rfl,ho,hb1,hs1⟩
 case round=>
  clear ho hb1 hs1
  obtain⟨k,hk,rfl,hown,hbr,hbs⟩:=hrel
  obtain⟨Ao,co,rfl,hco,-,-⟩:=bF hown
  by_cases hlt:k<n
  ·obtain⟨x,hx⟩:∃ x,l[k]? =some x:=⟨_,List.getElem?_eq_getElem (by rw[HL.out];exact hlt)⟩
   have hxr:=HR.out x (List.mem_of_getElem? hx)
   have hs1:=hs.below (hbr.mono hB)
   have hidx:=hs1.idx (P:=Tryz.prog) (c:=c) Tryz.underlying89 iL hlt
   have g1:=hs1.at_ (i:=0) hlt (by omega)
   rw[Nat.mul_one,Nat.add_zero,Nat.add_zero,iM,hx] at g1
   simp only[Nat.mul_one] at hidx
   have hso:=Sl.cB hown
   have JR:=hso.idx (P:=Tryz.prog) (c:=co) Tryz.underlying89 iL (show k<k+1 by omega)
   have g2:=hso.at_ (k:=k) (i:=0) (by omega) (by omega)
   simp only[Nat.mul_one,Nat.add_zero] at g2 JR
   rw[iM,List.getElem?_map,List.getElem?_range (by omega)] at g2
   simp only[Option.map_some] at g1 g2
   obtain⟨y,hy⟩:∃ y,eN l k=y:=⟨_,rfl⟩
   have Mt:=n6 HR.out k
   have hsucc:eN l (k+1)=y+x:=by simp only[eN];rw[hy,List.getD_eq_getElem?_getD,hx];rfl
   rw[hy] at g2 Mt
   have hlist:cv ((List.range (k+1+1)).map (eN l))=cv ((List.range (k+1)).map (eN l))++[.int .i64 (y+x)]:=by
    rw[List.range_succ,List.map_append,CJ];simp[cv,hsucc]
   have fJ:=Lib.hid hlist
   clear hlist hsucc hy hx hso
   have hown2:=hown.alloc (.cells #[.int .i64 (y+x)] 3)
   go_wp2_with (at_builtin;refine wpList_append_lies _ rfl _ _ _ rfl b 3 i0 _ 1 8 Tryz.underlying89 hi hz0 hz1 hz2 rfl (by omega) (.slice Ao (k+1) co) (k+1) (cv ((List.range (k+1)).map (eN l))) rfl hown2 ⟨wr.heap.size,0,none⟩ 1 1 [.int .i64 (y+x)] rfl rfl (World.news_of_block (heap_alloc_new wr _)) (by simp[Value.oneCell']) (by omega) (by unfold maxLen;omega) (by omega) (by simp;omega) (wr.heap.size+1) (by simp) ?_;intro g cap w9 GY hgrow hat Mu)
   have Lq:Kp b [3] wr w9:=((Kp.refl b [3] wr).alloc hbs _).own hown2 (Nat.le_refl _) (by simp;omega) (by decide) hgrow
   exact⟨⟨k+1,by omega,by go_num,by rw[fJ.out];exact GY,hbr.trans Lq.below,Nat.le_trans hbs Lq.size⟩,by simp[intOf];omega⟩
  ·obtain rfl:k=n:=by omega
   go_wp2_with fail
   go_ret
   exact⟨_,rfl,by unfold tD;rw[HL.out,HB.out];exact hown,by rw[HB.out];exact hbr⟩
theorem kF (w:World) (l:List Int) (n:Nat) (hn:l.length=n):Sl (w.alloc (.cells (cv l).toArray 3)) (w.heap.size+1) 1 (some ⟨w.heap.size,0,none⟩) n (cv l):=
 ⟨by rw[CI];omega,fun _=>rfl,fun _=>by simp[bt],fun j _=>by
  have:=(a8.new w 3 (cv l).toArray).cell j
  simp only[bt,bY,Option.map_some,Option.getD_some,Nat.zero_add]
  rw[this];simp⟩
theorem aT (x:Int) (w:World) (hx:0≤x∧x<18446744073709551616):Calls Tryz.prog 129 #[.int .u64 x] w fun e w'=>e= .returned (aE x).val∧Below w.heap.size w w':=by
 go_enter Tryz.func129,Tryz.ntmps129
 go_wp2_with fail
 obtain⟨w1,hw1⟩:∃ w1,w.alloc (.cells #[.int .i64 0,.int .i64 0,.bool false,.int .i64 0,.int .i64 0] 198)=w1:=⟨_,rfl⟩
 have hr0:=a8.new w 198 #[.int .i64 0,.int .i64 0,.bool false,.int .i64 0,.int .i64 0]
 have hb1:Below w.heap.size w (w.alloc (.cells #[.int .i64 0,.int .i64 0,.bool false,.int .i64 0,.int .i64 0] 198)):=(Below.refl _ _).alloc (Nat.le_refl _) _
 have hs1:(w.alloc (.cells #[.int .i64 0,.int .i64 0,.bool false,.int .i64 0,.int .i64 0] 198)).heap.size=w.heap.size+1:=by simp
 rw[hw1] at hr0 hb1 hs1⊢
 have hsl:=kF w1 [10,9,1,5,18] 5 rfl
 have hbl:Below w1.heap.size w1 (w1.alloc (.cells (cv [10,9,1,5,18]).toArray 3)):=(Below.refl _ _).alloc (Nat.le_refl _) _
 rw[hs1] at hsl
 refine(mh (some ⟨w.heap.size+1,0,none⟩) 5 5 (w.heap.size+1+1) [10,9,1,5,18] _ hsl (by simp[hs1]) rfl (by omega) (by simp)).mono ?_
 rintro e w2 ⟨v,rfl,hown,hb2⟩
 have iN:=hbl.trans (hb2.mono hbl.size)
 have hr2:=hr0.step iN
 obtain⟨g,cap,rfl,-,-⟩:=hown.form (by omega)
 have hcell:∀ (k:Nat) (y:Int),[(0:Int),10,19,20,25,43][k]? =some y→w2.cell? ⟨g,k,none⟩=some (.int .i64 y):=fun k y hy=>by
  have h1:=hown.cells (g:=g) rfl k (.int .i64 y) (by
   have:tD [10,9,1,5,18]=[0,10,19,20,25,43]:=by decide
   rw[this,iM,hy];rfl)
  have hadd:(⟨g,0,none⟩:Addr).add k=⟨g,k,none⟩:=by unfold Addr.add;split<;>simp_all
  rwa [hadd] at h1
 have hgl:g<w2.heap.size:=by
  obtain⟨-,cs,hk⟩:=bH hown g rfl
  exact hk.lt
 have q0:=Later.cell (B:=w2.heap.size) (hcell 0 0 rfl) hgl
 have q1:=Later.cell (B:=w2.heap.size) (hcell 1 10 rfl) hgl
 have q2:=Later.cell (B:=w2.heap.size) (hcell 2 19 rfl) hgl
 have q3:=Later.cell (B:=w2.heap.size) (hcell 3 20 rfl) hgl
 have q4:=Later.cell (B:=w2.heap.size) (hcell 4 25 rfl) hgl
 have de:=hb1.trans (iN.mono hb1.size)
 clear hcell hown hsl hbl hr0 hb1 hb2 iN hs1
 go_wp2_with fail
 refine az (fun w'=>∃ q:Later w2.heap.size w2,w'=q.val) 27 [([0,1,2,3,5,6,7,8,10,11,12,13,16,17,18,19,21,22,23,24],4),([],9),([],14),([15],20),([],25)] [26] [27] (by kernel_rfl) (by kernel_rfl) (Later.bI (Below.refl _ _).drew) ?_
 refine ai ?_
 simp only[au,List.map_cons,List.map_nil,List.getD_cons_zero,List.getD_cons_succ]
 repeat(go_big_quiet_step (fail))
 refine wpQuiet_nil ?_
 refine bm rfl (fun K' hK'=> ?_)
 go_simp
 ((with_reducible refine(gY x 0 10 1 1024 0 10 _ hx (by omega) (by omega) rfl rfl rfl rfl).mono ?_);rintro e w3 ⟨rfl,n0,rfl⟩)
 refine hK' _ _ (Later.bI (below_drewN ((Below.refl w2.heap.size w2).drew) _)) ?_
 clear hK' K'
 refine ai ?_
 simp only[au,List.map_nil]
 repeat(go_big_quiet_step (fail))
 refine wpQuiet_nil ?_
 refine bm rfl (fun K' hK'=> ?_)
 go_simp
 ((with_reducible refine(gY x 10 9 1024 512 10 9 _ hx (by omega) (by omega) rfl rfl rfl rfl).mono ?_);rintro e w4 ⟨rfl,n1,rfl⟩)
 refine hK' _ _ (Later.bI (below_drewN (below_drewN (Below.refl w2.heap.size w2) _) _)) ?_
 clear hK' K'
 refine ai ?_
 simp only[au,List.map_nil]
 repeat(go_big_quiet_step (fail))
 refine wpQuiet_nil ?_
 refine bm rfl (fun K' hK'=> ?_)
 go_simp
 ((with_reducible refine(gY x 19 1 524288 2 19 1 _ hx (by omega) (by omega) rfl rfl rfl rfl).mono ?_);rintro e w5 ⟨rfl,n2,rfl⟩)
 refine hK' _ _ (Later.bI (below_drewN (below_drewN (Below.refl w2.heap.size w2) _) _)) ?_
 clear hK' K'
 refine ai ?_
 simp only[au,List.map_cons,List.map_nil,List.getD_cons_zero,List.getD_cons_succ]
 repeat(go_big_quiet_step (fail))
 refine wpQuiet_nil ?_
 refine bm rfl (fun K' hK'=> ?_)
 go_simp
 ((with_reducible refine(gY x 20 5 1048576 32 20 5 _ hx (by omega) (by omega) rfl rfl rfl rfl).mono ?_);rintro e w6 ⟨rfl,n3,rfl⟩)
 refine hK' _ _ (Later.bI (below_drewN (below_drewN (Below.refl w2.heap.size w2) _) _)) ?_
 clear hK' K'
 refine ai ?_
 simp only[au,List.map_nil]
 repeat(go_big_quiet_step (fail))
 refine wpQuiet_nil ?_
 refine bm rfl (fun K' hK'=> ?_)
 go_simp
 ((with_reducible refine(gY x 25 18 33554432 262144 25 18 _ hx (by omega) (by omega) rfl rfl rfl rfl).mono ?_);rintro e w7 ⟨rfl,n4,rfl⟩)
 refine hK' _ _ (Later.bI (below_drewN (below_drewN (Below.refl w2.heap.size w2) _) _)) ?_
 clear hK' K'
 refine af ?_
 try simp only[au,List.map_cons,List.map_nil,List.getD_cons_zero,List.getD_cons_succ]
 repeat(go_big_quiet_step (fail))
 refine wpQuiet_nil ?_
 refine ae _ _ _ (by kernel_rfl) ?_
 try simp only[au,List.map_cons,List.map_nil,List.getD_cons_zero,List.getD_cons_succ]
 have hc:=hr2.cells
 have hf:=hr2.frees
 have hz:=hr2.lt
 clear q0 q1 q2 q3 q4
 go_wp2_with fail
 refine NoPanic.normal ?_
 go_wp2_with fail
 refine bodyPost_ret (v:=(aE x).val) ?_ rfl ⟨rfl,?_⟩
 ·simp[results,Tryz.results129,go_sem,hc]
  rfl
 ·exact(((((below_drewN de _).setCell (Nat.le_refl _) _).setCell (Nat.le_refl _) _).setCell (Nat.le_refl _) _).setCell (Nat.le_refl _) _).setCell (Nat.le_refl _) _
theorem n7 (x:Int) (m:Nat) (h:0≤x∧x<9223372036854775807) (hm:m≤30):bits .and .i64 x (2 ^ m - 1)=x % 2 ^ m:=by
 obtain⟨n,rfl⟩:=Int.eq_ofNat_of_zero_le h.1
 have h2:(2:Nat) ^ m≤2 ^ 30:=Nat.pow_le_pow_right (by omega) hm
 have h2':(2:Nat) ^ m≤1073741824:=h2
 have h3:1≤(2:Nat) ^ m:=Nat.one_le_two_pow
 have e2:((2:Int) ^ m - 1)=((2 ^ m - 1:Nat):Int):=by
  have:((2:Int) ^ m)=((2 ^ m:Nat):Int):=by simp
  omega
 have e3:bits .and .i64 (n:Int) ((2 ^ m - 1:Nat):Int)=IntKind.i64.wrap ((BitVec.ofInt 64 (n:Int) &&& BitVec.ofInt 64 ((2 ^ m - 1:Nat):Int)).toNat:Int):=rfl
 have e4:(BitVec.ofInt 64 (n:Int) &&& BitVec.ofInt 64 ((2 ^ m - 1:Nat):Int)).toNat=n % 2 ^ m:=by
  rw[BitVec.toNat_and,BitVec.ofInt_natCast,BitVec.ofInt_natCast,BitVec.toNat_ofNat,BitVec.toNat_ofNat,Nat.mod_eq_of_lt (by omega:n<2 ^ 64),Nat.mod_eq_of_lt (by omega:2 ^ m - 1<2 ^ 64),Nat.and_two_pow_sub_one_eq_mod]
 have h5:n % 2 ^ m<2 ^ m:=Nat.mod_lt _ (by omega)
 rw[e2,e3,e4,IntKind.wrap_i64]
 have:((n:Int) % 2 ^ m)=((n % 2 ^ m:Nat):Int):=by simp
 rw[this];omega
theorem r7 (x:Int) (h:0≤x∧x<262144):bits .and .i64 (x+1) 262143=(x+1) % 262144:=n7 (x+1) 18 (by omega) (by omega)
theorem CL (x:Int) (h:0≤x∧x<4096):bits .and .i64 (x+1) 4095=(x+1) % 4096:=n7 (x+1) 12 (by omega) (by omega)
theorem EW (W:Wd) (w:World) (hv:0≤W.ver∧W.ver<262144):Calls Tryz.prog 192 #[W.val] w fun e w'=>e= .returned W.newer.val∧Below w.heap.size w w':=by
 obtain⟨k,n,m,c,v⟩:=W
 have HV:=Lib.hid (r7 v hv)
 simp only[Wd.val,Wd.newer] at hv⊢
 go_enter Tryz.func192,Tryz.ntmps192
 go_wp2_with fail
 rw[HV.out]
 refine bodyPost_ret (v:= .agg #[.int .i64 k,.int .i64 n,.bool m,.int .i64 c,.int .i64 ((v+1) % 262144)]) (by simp[results,Tryz.results192,go_sem]) rfl ⟨rfl,?_⟩
 exact((Below.refl _ _).alloc (Nat.le_refl _) _).alloc (by simp) _
theorem mi (W:Wd) (next:Int) (w:World) (hv:0≤W.ver∧W.ver<262144):Calls Tryz.prog 164 #[W.val,.int .i64 next] w fun e w'=>e= .returned (W.link next).val∧Below w.heap.size w w':=by
 obtain⟨k,n,m,c,v⟩:=W
 have HV:=Lib.hid (r7 v hv)
 simp only[Wd.val,Wd.link] at hv⊢
 go_enter Tryz.func164,Tryz.ntmps164
 go_wp2
 rw[HV.out]
 refine bodyPost_ret (v:= .agg #[.int .i64 k,.int .i64 next,.bool m,.int .i64 c,.int .i64 ((v+1) % 262144)]) (by simp[results,Tryz.results192,go_sem]) rfl ?_
 go_wp2_with fail
 refine bodyPost_ret (v:= .agg #[.int .i64 k,.int .i64 next,.bool m,.int .i64 c,.int .i64 ((v+1) % 262144)]) (by simp[results,Tryz.results164,go_sem]) rfl ⟨rfl,?_⟩
 exact by repeat(first | exact Below.refl _ _ | refine Below.alloc ?_ (by simp<;>omega) _ | refine Below.setCell ?_ (by simp<;>omega) _)
theorem mj (W:Wd) (w:World) (hv:0≤W.ver∧W.ver<262144):Calls Tryz.prog 162 #[W.val] w fun e w'=>e= .returned W.free.val∧Below w.heap.size w w':=by
 obtain⟨k,n,m,c,v⟩:=W
 have HV:=Lib.hid (r7 v hv)
 simp only[Wd.val,Wd.free] at hv⊢
 go_enter Tryz.func162,Tryz.ntmps162
 go_wp2
 rw[HV.out]
 refine bodyPost_ret (v:= .agg #[.int .i64 k,.int .i64 n,.bool m,.int .i64 0,.int .i64 ((v+1) % 262144)]) (by simp[results,Tryz.results192,go_sem]) rfl ?_
 go_wp2_with fail
 refine bodyPost_ret (v:= .agg #[.int .i64 k,.int .i64 n,.bool m,.int .i64 0,.int .i64 ((v+1) % 262144)]) (by simp[results,Tryz.results162,go_sem]) rfl ⟨rfl,?_⟩
 exact by repeat(first | exact Below.refl _ _ | refine Below.alloc ?_ (by simp<;>omega) _ | refine Below.setCell ?_ (by simp<;>omega) _)
theorem lu (W:Wd) (u next:Int) (mk:Bool) (w:World) (hu:0≤u∧u≤100):Calls Tryz.prog 166 #[W.val,.int .i64 u,.int .i64 next,.bool mk] w fun e w'=>e= .returned (W.claimed u next mk).val∧Below w.heap.size w w':=by
 obtain⟨k,n,m,c,v⟩:=W
 simp only[Wd.val,Wd.claimed]
 go_enter Tryz.func166,Tryz.ntmps166
 go_wp2
 refine bodyPost_ret (v:= .agg #[.int .i64 k,.int .i64 next,.bool mk,.int .i64 (u+1),.int .i64 v]) (by simp[results,Tryz.results166,go_sem]) rfl ⟨rfl,?_⟩
 exact by repeat(first | exact Below.refl _ _ | refine Below.alloc ?_ (by simp<;>omega) _ | refine Below.setCell ?_ (by simp<;>omega) _)
theorem gj (n:Int) (m:Nat) (p:Int) (w:World) (hm:m≤20) (hp:2 ^ m=p) (a:Int) (ha:a=m):Calls Tryz.prog 191 #[.agg #[.int .i64 n,.int .i64 a]] w fun e w'=>e= .returned (.bool (du n p))∧Below w.heap.size w w':=by
 subst ha hp
 have h2:(2:Nat) ^ m≤2 ^ 20:=Nat.pow_le_pow_right (by omega) hm
 have h3:1≤(2:Nat) ^ m:=Nat.one_le_two_pow
 have e2:((2:Int) ^ m)=((2 ^ m:Nat):Int):=by simp
 have hw:wrap64 (2 ^ m)=2 ^ m:=IntWalk.wrap64_in _ (by rw[e2];omega)
 clear e2 h2 h3
 have HI:Hid (du n (2 ^ m)=(decide (0≤n) && decide (n<2 ^ m))):=Lib.hid rfl
 by_cases h0:0≤n
 ·have hd:decide (0≤n)=true:=decide_eq_true h0
  go_enter Tryz.func191,Tryz.ntmps191
  go_wp2_with fail
  go_quiet (fail)
  rw[hw]
  go_wp2_with fail
  go_ret
  exact⟨by rw[HI.out,hd,Bool.true_and];rfl,below_drewN ((Below.refl _ _).alloc (Nat.le_refl _) _) _⟩
 ·have hd:decide (0≤n)=false:=decide_eq_false h0
  go_enter Tryz.func191,Tryz.ntmps191
  go_wp2_with fail
  go_quiet (fail)
  go_wp2_with fail
  go_ret
  exact⟨by rw[HI.out,hd,Bool.false_and];rfl,below_drewN ((Below.refl _ _).alloc (Nat.le_refl _) _) _⟩
def Wd.EX (W:Wd):Value:= .agg #[.int .i64 W.key,.int .i64 10,.int .i64 W.next,.int .i64 9,.int .i64 (cz W.mark),.int .i64 1,.int .i64 W.claim,.int .i64 5,.int .i64 W.ver,.int .i64 18]
theorem tF (W:Wd) (w:World):Calls Tryz.prog 190 #[W.val] w fun e w'=>e= .returned W.EX∧Below w.heap.size w w':=by
 obtain⟨k,n,m,c,v⟩:=W
 simp only[Wd.val,Wd.EX]
 go_enter Tryz.func190,Tryz.ntmps190
 go_wp2_with fail
 have hr0:=(a8.new w 198 #[.int .i64 k,.int .i64 n,.bool m,.int .i64 c,.int .i64 v]).alloc (.cells #[.int .i64 0,.int .i64 0,.int .i64 0,.int .i64 0,.int .i64 0,.int .i64 0,.int .i64 0,.int .i64 0,.int .i64 0,.int .i64 0] 256)
 have hr1:=a8.newAt (w.alloc (.cells #[.int .i64 k,.int .i64 n,.bool m,.int .i64 c,.int .i64 v] 198)) 256 #[.int .i64 0,.int .i64 0,.int .i64 0,.int .i64 0,.int .i64 0,.int .i64 0,.int .i64 0,.int .i64 0,.int .i64 0,.int .i64 0] (g:=w.heap.size+1) (by simp)
 have hb0:Below w.heap.size w ((w.alloc (.cells #[.int .i64 k,.int .i64 n,.bool m,.int .i64 c,.int .i64 v] 198)).alloc (.cells #[.int .i64 0,.int .i64 0,.int .i64 0,.int .i64 0,.int .i64 0,.int .i64 0,.int .i64 0,.int .i64 0,.int .i64 0,.int .i64 0] 256)):=((Below.refl _ _).alloc (Nat.le_refl _) _).alloc (by simp) _
 generalize((w.alloc (.cells #[.int .i64 k,.int .i64 n,.bool m,.int .i64 c,.int .i64 v] 198)).alloc (.cells #[.int .i64 0,.int .i64 0,.int .i64 0,.int .i64 0,.int .i64 0,.int .i64 0,.int .i64 0,.int .i64 0,.int .i64 0,.int .i64 0] 256))=w2 at *
 have qr:=Later.cells (B:=w2.heap.size) hr0 hr0.lt
 refine az (fun w'=>∃ q:Later w2.heap.size w2,w'=q.val) 17 [([0,1,2,3,4,5,6,7,10,11,12,13,14,15],8)] [9,16] [17] (by kernel_rfl) (by kernel_rfl) (Later.bI (Below.refl _ _).drew) ?_
 refine ai ?_
 simp only[au,List.map_cons,List.map_nil,List.getD_cons_zero,List.getD_cons_succ]
 repeat(go_big_quiet_step (fail))
 refine wpQuiet_nil ?_
 refine bm rfl (fun K' hK'=> ?_)
 go_simp
 ((with_reducible refine(z8 m _).mono ?_);rintro e w3 ⟨rfl,rfl⟩)
 refine hK' _ _ (Later.bI ((Below.refl w2.heap.size w2).drew)) ?_
 clear hK' K'
 refine af ?_
 try simp only[au,List.map_cons,List.map_nil,List.getD_cons_zero,List.getD_cons_succ]
 repeat(go_big_quiet_step (fail))
 refine wpQuiet_nil ?_
 refine ae _ _ _ (by kernel_rfl) ?_
 try simp only[au,List.map_cons,List.map_nil,List.getD_cons_zero,List.getD_cons_succ]
 have hc:=hr1.cells
 have hf:=hr1.frees
 have hz:=hr1.lt
 clear qr
 go_wp2_with fail
 refine NoPanic.normal ?_
 go_wp2_with fail
 refine bodyPost_ret (v:= .agg #[.int .i64 k,.int .i64 10,.int .i64 n,.int .i64 9,.int .i64 (cz m),.int .i64 1,.int .i64 c,.int .i64 5,.int .i64 v,.int .i64 18]) ?_ rfl ⟨rfl,?_⟩
 ·simp[results,Tryz.results190,go_sem,hc]
 ·exact(((((((((((hb0.setCell (Nat.le_succ _) _).setCell (Nat.le_succ _) _).setCell (Nat.le_succ _) _).setCell (Nat.le_succ _) _).setCell (Nat.le_succ _) _).setCell (Nat.le_succ _) _).setCell (Nat.le_succ _) _).setCell (Nat.le_succ _) _).setCell (Nat.le_succ _) _).setCell (Nat.le_succ _) _)).drew
theorem fp {k:IntKind} {a b:Int} (h:a=b):Ending.returned (.int k a)= .returned (.int k b):=by rw[h]
structure Ly where
 th:Int
 nd:Int
abbrev Ly.val (L:Ly):Value:= .agg #[.int .i64 L.th,.int .i64 L.nd]
structure Ly.Ok (L:Ly):Prop where
 th:1≤L.th∧L.th≤8
 nd:1≤L.nd∧L.nd≤200
def Ly.node (L:Ly) (a:Int):Bool:=decide (1≤a) && decide (a≤L.nd)
def Ly.head (L:Ly) (n:Int):Int:=1+L.nd+n
def Ly.life (L:Ly) (n:Int):Int:=L.nd+4+n
def Ly.slot (L:Ly) (t n:Int):Int:=2*L.nd+5+2*t+n
def Ly.ticket (L:Ly) (t:Int):Int:=2*L.nd+5+2*L.th+3*t
def Ly.task (L:Ly) (t:Int):Int:=2*L.nd+6+2*L.th+3*t
def Ly.desc (L:Ly) (t:Int):Int:=2*L.nd+7+2*L.th+3*t
def Ly.counter (L:Ly):Int:=2*L.nd+5+5*L.th
def Ly.size (L:Ly):Int:=2*L.nd+6+5*L.th
theorem Aa (L:Ly) (hL:L.Ok) (n:Int) (hn: -100000≤n∧n≤100000) (w:World):Calls Tryz.prog 27 #[L.val,.int .i64 n] w fun e w'=>e= .returned (.int .i64 (L.head n))∧Below w.heap.size w w':=by
 obtain⟨h1,h2⟩:=hL
 obtain⟨th,nd⟩:=L
 simp only at h1 h2
 simp only[Ly.val,Ly.head]
 go_enter Tryz.func27,Tryz.ntmps27
 go_wp2
 go_ret
 exact⟨fp (by first | rfl | omega),by repeat(first | with_reducible exact Below.refl _ _ | refine Below.alloc ?_ (by simp<;>omega) _ | refine Below.setCell ?_ (by simp<;>omega) _ | refine below_drewN ?_ _ | refine Below.drew ?_)⟩
theorem jF (L:Ly) (hL:L.Ok) (n:Int) (hn: -100000≤n∧n≤100000) (w:World):Calls Tryz.prog 12 #[L.val,.int .i64 n] w fun e w'=>e= .returned (.int .i64 (L.life n))∧Below w.heap.size w w':=by
 obtain⟨h1,h2⟩:=hL
 obtain⟨th,nd⟩:=L
 simp only at h1 h2
 simp only[Ly.val,Ly.life]
 go_enter Tryz.func12,Tryz.ntmps12
 go_wp2
 go_ret
 exact⟨fp (by first | rfl | omega),by repeat(first | with_reducible exact Below.refl _ _ | refine Below.alloc ?_ (by simp<;>omega) _ | refine Below.setCell ?_ (by simp<;>omega) _ | refine below_drewN ?_ _ | refine Below.drew ?_)⟩
theorem jG (L:Ly) (hL:L.Ok) (t:Int) (n:Int) (ht: -100000≤t∧t≤100000) (hn: -100000≤n∧n≤100000) (w:World):Calls Tryz.prog 53 #[L.val,.int .i64 t,.int .i64 n] w fun e w'=>e= .returned (.int .i64 (L.slot t n))∧Below w.heap.size w w':=by
 obtain⟨h1,h2⟩:=hL
 obtain⟨th,nd⟩:=L
 simp only at h1 h2
 simp only[Ly.val,Ly.slot]
 go_enter Tryz.func53,Tryz.ntmps53
 go_wp2
 go_ret
 exact⟨fp (by first | rfl | omega),by repeat(first | with_reducible exact Below.refl _ _ | refine Below.alloc ?_ (by simp<;>omega) _ | refine Below.setCell ?_ (by simp<;>omega) _ | refine below_drewN ?_ _ | refine Below.drew ?_)⟩
theorem kG (L:Ly) (hL:L.Ok) (t:Int) (ht: -100000≤t∧t≤100000) (w:World):Calls Tryz.prog 95 #[L.val,.int .i64 t] w fun e w'=>e= .returned (.int .i64 (L.ticket t))∧Below w.heap.size w w':=by
 obtain⟨h1,h2⟩:=hL
 obtain⟨th,nd⟩:=L
 simp only at h1 h2
 simp only[Ly.val,Ly.ticket]
 go_enter Tryz.func95,Tryz.ntmps95
 go_wp2
 go_ret
 exact⟨fp (by first | rfl | omega),by repeat(first | with_reducible exact Below.refl _ _ | refine Below.alloc ?_ (by simp<;>omega) _ | refine Below.setCell ?_ (by simp<;>omega) _ | refine below_drewN ?_ _ | refine Below.drew ?_)⟩
theorem tG (L:Ly) (hL:L.Ok) (t:Int) (ht: -100000≤t∧t≤100000) (w:World):Calls Tryz.prog 99 #[L.val,.int .i64 t] w fun e w'=>e= .returned (.int .i64 (L.task t))∧Below w.heap.size w w':=by
 obtain⟨h1,h2⟩:=hL
 obtain⟨th,nd⟩:=L
 simp only at h1 h2
 simp only[Ly.val,Ly.task]
 go_enter Tryz.func99,Tryz.ntmps99
 go_wp2
 go_ret
 exact⟨fp (by first | rfl | omega),by repeat(first | with_reducible exact Below.refl _ _ | refine Below.alloc ?_ (by simp<;>omega) _ | refine Below.setCell ?_ (by simp<;>omega) _ | refine below_drewN ?_ _ | refine Below.drew ?_)⟩
theorem cC (L:Ly) (hL:L.Ok) (t:Int) (ht: -100000≤t∧t≤100000) (w:World):Calls Tryz.prog 19 #[L.val,.int .i64 t] w fun e w'=>e= .returned (.int .i64 (L.desc t))∧Below w.heap.size w w':=by
 obtain⟨h1,h2⟩:=hL
 obtain⟨th,nd⟩:=L
 simp only at h1 h2
 simp only[Ly.val,Ly.desc]
 go_enter Tryz.func19,Tryz.ntmps19
 go_wp2
 go_ret
 exact⟨fp (by first | rfl | omega),by repeat(first | with_reducible exact Below.refl _ _ | refine Below.alloc ?_ (by simp<;>omega) _ | refine Below.setCell ?_ (by simp<;>omega) _ | refine below_drewN ?_ _ | refine Below.drew ?_)⟩
theorem tI (L:Ly) (hL:L.Ok) (w:World):Calls Tryz.prog 66 #[L.val] w fun e w'=>e= .returned (.int .i64 (L.counter))∧Below w.heap.size w w':=by
 obtain⟨h1,h2⟩:=hL
 obtain⟨th,nd⟩:=L
 simp only at h1 h2
 simp only[Ly.val,Ly.counter]
 go_enter Tryz.func66,Tryz.ntmps66
 go_wp2
 go_ret
 exact⟨fp (by first | rfl | omega),by repeat(first | with_reducible exact Below.refl _ _ | refine Below.alloc ?_ (by simp<;>omega) _ | refine Below.setCell ?_ (by simp<;>omega) _ | refine below_drewN ?_ _ | refine Below.drew ?_)⟩
theorem Ab (L:Ly) (hL:L.Ok) (w:World):Calls Tryz.prog 59 #[L.val] w fun e w'=>e= .returned (.int .i64 (L.size))∧Below w.heap.size w w':=by
 obtain⟨h1,h2⟩:=hL
 obtain⟨th,nd⟩:=L
 simp only at h1 h2
 simp only[Ly.val,Ly.size]
 go_enter Tryz.func59,Tryz.ntmps59
 go_wp2
 go_ret
 exact⟨fp (by first | rfl | omega),by repeat(first | with_reducible exact Below.refl _ _ | refine Below.alloc ?_ (by simp<;>omega) _ | refine Below.setCell ?_ (by simp<;>omega) _ | refine below_drewN ?_ _ | refine Below.drew ?_)⟩
theorem tJ (L:Ly) (a:Int) (w:World):Calls Tryz.prog 151 #[L.val,.int .i64 a] w fun e w'=>e= .returned (.bool (L.node a))∧Below w.heap.size w w':=by
 have HN:Hid (L.node a=(decide (1≤a) && decide (a≤L.nd))):=Lib.hid rfl
 obtain⟨th,nd⟩:=L
 simp only[Ly.val] at HN⊢
 by_cases h:1≤a
 ·have hd:decide (1≤a)=true:=decide_eq_true h
  go_enter Tryz.func151,Tryz.ntmps151
  go_wp2_with fail
  go_ret
  exact⟨by rw[HN.out,hd,Bool.true_and];rfl,(Below.refl _ _).alloc (Nat.le_refl _) _⟩
 ·have hd:decide (1≤a)=false:=decide_eq_false h
  go_enter Tryz.func151,Tryz.ntmps151
  go_wp2_with fail
  go_ret
  exact⟨by rw[HN.out,hd,Bool.false_and];rfl,(Below.refl _ _).alloc (Nat.le_refl _) _⟩
theorem kt (L:Ly) (hL:L.Ok) (w:World):Calls Tryz.prog 56 #[L.val] w fun e w'=>e= .returned (.bool true)∧Below w.heap.size w w':=by
 obtain⟨⟨h1,h2⟩,h3,h4⟩:=hL
 obtain⟨th,nd⟩:=L
 simp only at h1 h2 h3 h4
 simp only[Ly.val]
 have d1:decide (1≤th)=true:=decide_eq_true h1
 have d2:decide (th≤8)=true:=decide_eq_true h2
 have d3:decide (1≤nd)=true:=decide_eq_true h3
 have d4:decide (nd≤200)=true:=decide_eq_true h4
 go_enter Tryz.func56,Tryz.ntmps56
 go_wp2_with fail
 go_ret
 exact⟨rfl,(Below.refl _ _).alloc (Nat.le_refl _) _⟩
def upd {α:Type} (f:Nat→α) (i:Nat) (x:α):Nat→α:=fun j=>if j=i then x else f j
theorem upd_same {α:Type} (f:Nat→α) (i:Nat) (x:α):upd f i x i=x:=if_pos rfl
theorem gb {α:Type} (f:Nat→α) {i j:Nat} (x:α) (h:j≠i):upd f i x j=f j:=if_neg h
theorem EY {α:Type} (f:Nat→α) (i:Nat):upd f i (f i)=f:=by
 funext j
 unfold upd
 split
 ·subst_vars;rfl
 ·rfl
structure ML where
 b:Nat
 wb:Nat
 L:Ly
def ML.sz (M:ML):Nat:=M.L.size.toNat
def eY (N:Nat) (m:Nat→Int):Array Value:=((List.range N).map fun i=>Value.int .u64 (m i)).toArray
theorem df {N:Nat} (m:Nat→Int) {i:Nat} (h:i<N):(eY N m)[i]? =some (.int .u64 (m i)):=by
 unfold eY
 rw[List.getElem?_toArray,List.getElem?_map,List.getElem?_range h];rfl
theorem iP (N:Nat) (m:Nat→Int) (i:Nat) (x:Int):(eY N m).setIfInBounds i (.int .u64 x)=eY N (upd m i x):=by
 refine Array.ext_getElem? fun j=> ?_
 rw[Array.getElem?_setIfInBounds]
 by_cases hj:j<N
 ·rw[df _ hj,df _ hj]
  by_cases e:i=j
  ·subst e
   rw[if_pos rfl,upd_same,if_pos (by simpa [eY] using hj)]
  ·rw[if_neg e,gb _ _ (fun h=>e h.symm)]
 ·have h1:(eY N m).size≤j:=by simpa [eY] using hj
  rw[Array.getElem?_eq_none h1,Array.getElem?_eq_none (by simpa [eY] using hj)]
  split
  ·rename_i e;subst e;rw[if_neg (by omega)]
  ·rfl
def ld (M:ML) (m:Nat→Int) (a:Int):Int:=if 0≤a∧a<M.L.size then m a.toNat else 0
def st (M:ML) (m:Nat→Int) (a x:Int):Nat→Int:=if 0≤a∧a<M.L.size then upd m a.toNat x else m
def bS (M:ML) (m:Nat→Int) (a old:Int):Bool:=decide (0≤a∧a<M.L.size) && decide (m a.toNat=old)
def cas (M:ML) (m:Nat→Int) (a old x:Int):Nat→Int:=if bS M m a old then st M m a x else m
def add (M:ML) (m:Nat→Int) (a n:Int):Nat→Int:=st M m a ((ld M m a+n) % 18446744073709551616)
structure aj (w:World) (C:Nat→Nat) (M:ML) (m:Nat→Int):Prop where
 ok:M.L.Ok
 blk:∃ (n k a o x:Int) (q:Bool),SB w C 1 M.b 75 #[.int .i64 M.L.th,.int .i64 M.L.nd,.slice (some ⟨M.wb,0,none⟩) M.sz M.sz,.int .i64 n,.int .i64 k,.int .i64 a,.int .u64 o,.int .u64 x,.bool q]
 row:SB w C 1 M.wb 34 (eY M.sz m)
 rng:∀ i,0≤m i∧m i<18446744073709551616
section
variable {w w':World} {C C':Nat→Nat} {M:ML} {m:Nat→Int}
theorem aj.ne (h:aj w C M m):M.b≠M.wb:=by
 obtain⟨n,k,a,o,x,q,hb⟩:=h.blk
 exact hb.q8 h.row (by decide)
theorem aj.sz (h:aj w C M m):(M.sz:Int)=M.L.size∧13≤M.L.size∧M.L.size≤446:=by
 have h1:=h.ok.th
 have h2:=h.ok.nd
 have:13≤M.L.size∧M.L.size≤446:=by unfold Ly.size;omega
 exact⟨by unfold ML.sz;omega,this⟩
theorem aj.fr {K:Nat→Prop} {L:List (Option TypeId)} (h:aj w C M m) (k:Fr C K L w w') (hk:¬ K 1∨(some 75∉L∧some 34∉L)):aj w' C M m:=by
 obtain⟨n,kk,a,o,x,q,hb⟩:=h.blk
 exact⟨h.ok,⟨n,kk,a,o,x,q,hb.fr k (hk.imp id (·.1))⟩,h.row.fr k (hk.imp id (·.2)),h.rng⟩
theorem aj.step (h:aj w C M m) (k:Below w.heap.size w w'):aj w' C M m:=by
 obtain⟨n,kk,a,o,x,q,hb⟩:=h.blk
 exact⟨h.ok,⟨n,kk,a,o,x,q,hb.step k⟩,h.row.step k,h.rng⟩
theorem aj.drew (h:aj w C M m):aj w.drew C M m:=h.step ((Below.refl _ _).drew)
theorem aj.ao (h:aj w C M m) {c b:Nat} {t:TypeId} {cs:Array Value} (hb:SB w C c b t cs) (h1:t≠75) (h2:t≠34) (i:Nat) (u:Value):aj (w.setCell ⟨b,i,none⟩ u) C M m:=by
 obtain⟨n,kk,a,o,x,q,hm⟩:=h.blk
 exact⟨h.ok,⟨n,kk,a,o,x,q,hm.far (hm.q8 hb (fun e=>h1 e.symm)) u⟩,h.row.far (h.row.q8 hb (fun e=>h2 e.symm)) u,h.rng⟩
end
def LM:List (Option TypeId):=[some 75,some 34]
def K1:Nat→Prop:=fun c=>c=1
variable {M:ML} {m:Nat→Int}
theorem gk (h:aj w C M m) (a:Int):Calls Tryz.prog 26 #[.pointer (some ⟨M.b,0,none⟩),.int .i64 a] w fun e w'=>e= .returned (.int .u64 (ld M m a))∧w=w':=by
 obtain⟨hs,hs1,hs2⟩:=h.sz
 obtain⟨n,k,aa,o,x,q,hb⟩:=h.blk
 have hc:=hb.blk.cells
 have Ep:Hid (ld M m a=if 0≤a∧a<M.L.size then m a.toNat else 0):=Lib.hid rfl
 by_cases h0:a<0
 ·have HV:=Lib.hid (show ld M m a=0 by rw[Ep.out,if_neg (by omega)])
  have d0:decide (a<0)=true:=decide_eq_true h0
  clear hs
  go_enter Tryz.func26,Tryz.ntmps26
  go_wp2_with fail
  go_ret
  exact⟨by rw[HV.out];rfl,rfl⟩
 ·have d0:decide (a<0)=false:=decide_eq_false h0
  by_cases h1:(M.sz:Int)≤a
  ·have HV:=Lib.hid (show ld M m a=0 by rw[Ep.out,if_neg (by omega)])
   clear hs
   go_enter Tryz.func26,Tryz.ntmps26
   go_wp2_with fail
   go_ret
   exact⟨by rw[HV.out];rfl,rfl⟩
  ·obtain⟨i,rfl⟩:=Int.eq_ofNat_of_zero_le (by omega:0≤a)
   have hi:i<M.sz:=by omega
   have HV:=Lib.hid (show ld M m (i:Int)=m i by rw[Ep.out,if_pos (by omega)];rfl)
   have hw:w.cell? ⟨M.wb,i,none⟩=some (.int .u64 (m i)):=(h.row.blk.cell i).trans (df m hi)
   clear hs
   go_enter Tryz.func26,Tryz.ntmps26
   go_wp2_with fail
   go_ret
   exact⟨by rw[HV.out];rfl,rfl⟩
structure tK (C:Nat→Nat) (M:ML) (m:Nat→Int) (v:Value) (w:World) (e:Ending) (w':World):Prop where
 ret:e= .returned v
 mem:aj w' C M m
 fr:Fr C K1 LM w w'
end Go.Proofs.YtbcnnhlpilmmbaaGreat
