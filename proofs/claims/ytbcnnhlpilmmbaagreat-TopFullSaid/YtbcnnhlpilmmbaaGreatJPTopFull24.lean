/- Texts that are wanted for PTopFull.
   Conditions: none. -/
import Derived.Test.YtbcnnhlpilmmbaaGreatJPTopFull22
import Derived.Test.YtbcnnhlpilmmbaaGreatJPTopFull23
set_option maxRecDepth 100000
set_option maxHeartbeats 6400000
namespace Go.Proofs.YtbcnnhlpilmmbaaGreat
open Go Go.RowKit
structure cy where
 st:cV
 tasks:List bq
 ended:Nat
 now:Option aH
def cy.left (x:cy):Int:=(x.tasks.length:Int) - (x.ended:Int)
def bq.cells (t:bq):List Value:=[.int .i64 t.sh,.int .i64 t.kind,.int .i64 t.key]
theorem bq.db (t:bq):t.cells.length=3:=rfl
structure GL (w:World) (C:Nat→Nat) (k q sg b:Nat) (A:Option Addr) (n cap:Nat) (pn tv lv:Value) (x:cy):Prop where
 blk:SB w C k b 91 #[.pointer (some ⟨sg,0,none⟩),.slice A n cap,.int .i64 (x.ended:Int),pn,tv,lv]
 len:x.tasks.length=n
 small:n≤1000
 le:x.ended≤n
 row:Sr w C k 85 3 A n (x.tasks.flatMap bq.cells)
 took:∃ n1 xs,Row w C k 3 1 tv n1 (cv xs)∧xs.length=n1∧n1=x.ended+(if x.now.isSome then 1 else 0)
 slow:∃ n2 ys,Row w C q 3 1 lv n2 (cv ys)∧ys.length=n2∧n2≤x.ended
def L4:List (Option TypeId):=[some 91,some 85,some 3]
variable {w w':World} {C C':Nat→Nat} {K:Nat→Prop} {T:List (Option TypeId)}
theorem GL.mv {k q sg b:Nat} {A:Option Addr} {n cap:Nat} {pn tv lv:Value} {x:cy} (h:GL w C k q sg b A n cap pn tv lv x) (f:Fr C K T w w') (a:aB w.heap.size C C') (hk:(¬ K k∧¬ K q)∨dr L4 T):GL w' C' k q sg b A n cap pn tv lv x:=by
 obtain⟨n1,xs,h1,h2,h3⟩:=h.took
 obtain⟨n2,ys,g1,g2,g3⟩:=h.slow
 exact⟨h.blk.mv f a (hk.imp (·.1) (fun h=>h _ (by decide))),h.len,h.small,h.le,h.row.mv f a (hk.imp (·.1) (fun h=>h _ (by decide))),⟨n1,xs,h1.mv f a (hk.imp (·.1) (fun h=>h _ (by decide))),h2,h3⟩,⟨n2,ys,g1.mv f a (hk.imp (·.2) (fun h=>h _ (by decide))),g2,g3⟩⟩
structure ji (w:World) (C:Nat→Nat) (c s k q sg b:Nat) (L:Ly) (me:Int) (x:cy):Prop where
 st:al w C s sg L me x.st
 ex:∃ A n cap pn tv lv,GL w C k q sg b A n cap pn tv lv x∧oy x.now pn (fun bd d=>aX w C c s sg bd L me d)
def GM:List (Option TypeId):=L4++some 137::JF
theorem ji.mv {c s k q sg b:Nat} {L:Ly} {me:Int} {x:cy} (h:ji w C c s k q sg b L me x) (f:Fr C K T w w') (a:aB w.heap.size C C') (hk:(¬ K c∧¬ K s∧¬ K k∧¬ K q)∨dr GM T):ji w' C' c s k q sg b L me x:=by
 obtain⟨A,n,cap,pn,tv,lv,h1,h2⟩:=h.ex
 exact⟨h.st.mv f a (hk.imp (·.2.1) (fun h x hx=>h x (by revert x;decide))),A,n,cap,pn,tv,lv,h1.mv f a (hk.imp (·.2.2) (fun h x hx=>h x (by revert x;decide))),h2.imp fun bd d hd=>hd.mv f a (hk.imp (fun e=>⟨e.1,e.2.1⟩) (fun h x hx=>h x (by revert x;decide)))⟩
theorem ji.fr {c s ck q sg b:Nat} {L:Ly} {me:Int} {x:cy} (h:ji w C c s ck q sg b L me x) (k:Fr C K T w w') (hk:(¬ K c∧¬ K s∧¬ K ck∧¬ K q)∨dr GM T):ji w' C c s ck q sg b L me x:=h.mv k (aB.refl _ _) hk
instance {w:World} {C:Nat→Nat} {c s ck q sg b:Nat} {L:Ly} {me:Int} {x:cy}:Mv (ji w C c s ck q sg b L me x) w C GM (fun w' C'=>ji w' C' c s ck q sg b L me x):=⟨fun h k a hk=>h.mv k a (.inr hk)⟩
structure gP (w:World) (B b:Nat) (s:HS):Prop where
 at_:HAt w B b s
theorem gP.le {B b:Nat} {s:HS} (h:gP w B b s):B≤w.heap.size:=Nat.le_trans h.at_.base (Nat.le_of_lt h.at_.lt)
def yb:List (Option TypeId):=[some 100,some 51,some 109]
theorem gP.mv {B b:Nat} {s:HS} (h:gP w B b s) (f:Fr C K T w w') (_:aB w.heap.size C C') (hk:False∨dr yb T):gP w' B b s:=by
 have hk:=hk.resolve_left id
 obtain⟨h1,h2,v1,v2,cs,h3⟩:=h.at_
 have key:∀ (e:TypeId) (size n:Nat) (v:Value) (xs:List Value),some e∉T→w.ownsRow B e size v n xs→w'.ownsRow B e size v n xs:=fun e size n v xs he ho=>vK ho f (.inr he)
 exact⟨h1,h2,v1,v2,cs,h3.blk.fr f (.inr (hk _ (by decide))),h3.size,h3.c0,h3.c1,h3.cn,key _ _ _ _ _ (hk _ (by decide)) h3.o1,key _ _ _ _ _ (hk _ (by decide)) h3.o2⟩
theorem gP.fr {B b:Nat} {s:HS} (h:gP w B b s) (f:Fr C K T w w') (hk:False∨dr yb T):gP w' B b s:=h.mv f (aB.refl _ _) hk
theorem gP.step {B b:Nat} {s:HS} (h:gP w B b s) (k:Below w.heap.size w w'):gP w' B b s:=⟨h.at_.step k⟩
def l4 (w:World) (_:Nat→Nat) (B b:Nat) (s:HS):Prop:=gP w B b s
theorem l4.bI (C:Nat→Nat) {w:World} {B b:Nat} {s:HS} (h:gP w B b s):l4 w C B b s:=h
theorem l4.out {B b:Nat} {s:HS} (h:l4 w C B b s):gP w B b s:=h
theorem l4.fr {B b:Nat} {s:HS} (h:l4 w C B b s) (f:Fr C K T w w') (hk:False∨dr yb T):l4 w' C B b s:=h.out.fr f hk
instance {w:World} {C:Nat→Nat} {B b:Nat} {s:HS}:Mv (l4 w C B b s) w C yb (fun w' C'=>l4 w' C' B b s):=⟨fun h k a hk=>h.out.mv k a (.inr hk)⟩
theorem Fr.jj {B:Nat} (h:Kp B [100,51,109] w w') (C:Nat→Nat):Fr C (fun _=>True) yb w w':=
 ⟨h.below.os,h.below.tape,h.below.output,h.below.size,fun g o ho hk=>h.ty g o ho fun cs t fz e ht=>hk.elim (fun h=>h trivial) (fun h=>h (by subst e;simp only[Eo];revert ht;simp[yb]))⟩
structure iB (B:Nat) (C:Nat→Nat) (w w':World):Prop where
 os:w'.os=w.os
 tape:w'.tape=w.tape
 output:w'.output=w.output
 size:w.heap.size≤w'.heap.size
 keep:∀ g o,w.heap[g]? =some o→C g=0→Eo o∉yb∨g<B→w'.heap[g]? =some o
theorem iB.refl (B:Nat) (C:Nat→Nat) (w:World):iB B C w w:=⟨rfl,rfl,rfl,Nat.le_refl _,fun _ _ h _ _=>h⟩
def KE:Nat→Prop:=fun x=>x≠0
theorem iB.Ik {B:Nat} {C:Nat→Nat} {L:List (Option TypeId)} {w w':World} (k:Fr C KE L w w'):iB B C w w':=⟨k.os,k.tape,k.output,k.size,fun g o ho hc _=>k.keep g o ho (.inl (fun h=>h hc))⟩
theorem iB.jj {B:Nat} (C:Nat→Nat) {w w':World} (k:Kp B [100,51,109] w w'):iB B C w w':=⟨k.below.os,k.below.tape,k.below.output,k.below.size,fun g o ho _ ht=>ht.elim (fun ht=>(Fr.jj k C).keep g o ho (.inr ht)) (fun hl=>(k.below.block g hl).trans ho)⟩
theorem iB.comp {B:Nat} {C C':Nat→Nat} {a w w':World} (h:iB B C a w) (k:iB B C' w w') (hC:aB a.heap.size C C'):iB B C a w':=
 ⟨k.os.trans h.os,k.tape.trans h.tape,k.output.trans h.output,Nat.le_trans h.size k.size,fun g o ho hc ht=>k.keep g o (h.keep g o ho hc ht) ((hC g (lt_size ho)).trans hc) ht⟩
theorem iB.trans {B:Nat} {C C':Nat→Nat} {L:List (Option TypeId)} {a w w':World} (h:iB B C a w) (k:Fr C' KE L w w') (hC:aB a.heap.size C C'):iB B C a w':=h.comp (.Ik k) hC
theorem iB.hist {B:Nat} {C C':Nat→Nat} {a w w':World} (h:iB B C a w) (k:Kp B [100,51,109] w w') (hC:aB a.heap.size C C'):iB B C a w':=h.comp (.jj C' k) hC
theorem iB.step {B:Nat} {C:Nat→Nat} {a w w':World} (h:iB B C a w) (k:Below w.heap.size w w'):iB B C a w':=h.trans (Fr.of_below k C KE []) (aB.refl _ _)
theorem SB.fe {B:Nat} {C C':Nat→Nat} {b:Nat} {t:TypeId} {cs:Array Value} (h:SB w C 0 b t cs) (f:iB B C w w') (a:aB w.heap.size C C') (ht:some t∉yb):SB w' C' 0 b t cs:=SB.mk (f.keep _ _ h.blk h.col (.inl ht)) ((a b h.lt).trans h.col)
section
variable {B0:Nat} {w w' w0:World} {C C0:Nat→Nat} {G B:Prop} {T:List (Option TypeId)} {G':World→(Nat→Nat)→Prop→Prop}
theorem pL [Gm G w C B T G'] (hb:Below w.heap.size w w') (k:iB B0 C0 w0 w'→G' w' C B):iB B0 C0 w0 w→G:=
 fun fr=>Gm.mv (G:=G) (C:=C) (fun s=>s (Fr.of_below hb C (fun _=>False) []) (aB.refl _ _) (fun _ _ h=>by cases h) (k (fr.step hb)))
theorem DY [Gm G w C B T G'] (k:iB B0 C0 w0 w.drew→G' w.drew C B):iB B0 C0 w0 w→G:=pL (Below.refl _ _).drew k
theorem DZ [Gm G w C B T G'] (t:TypeId) (cs:Array Value) (k:∀ w',w.alloc (.cells cs t)=w'→w0.heap.size≤w.heap.size→iB B0 C0 w0 w'→SB w' C (C w.heap.size) w.heap.size t cs→G' w' C B):iB B0 C0 w0 w→G:=
 fun fr=>Gm.mv (G:=G) (C:=C) (fun s=>s (Fr.of_below ((Below.refl _ _).alloc (Nat.le_refl _) (.cells cs t)) C (fun _=>False) []) (aB.refl _ _) (fun _ _ h=>by cases h) (k _ rfl fr.size (fr.step ((Below.refl _ _).alloc (Nat.le_refl _) _)) (SB.new w C rfl t cs rfl)))
theorem D0 {P:Program} {f:FuncId} {args:Array Value} {R:Ending→Prop} {Q:Ending→World→Prop} (h:Calls P f args w (fun e w'=>R e∧Below w.heap.size w w')) [Gm G w C (Calls P f args w Q) T G'] (k:∀ e w',R e→iB B0 C0 w0 w'→G' w' C (Q e w')):iB B0 C0 w0 w→G:=
 fun fr=>Gm.mv (G:=G) (C:=C) (fun s=>h.mono fun e w' hh=>s (Fr.of_below hh.2 C (fun _=>False) []) (aB.refl _ _) (fun _ _ h=>by cases h) (k e w' hh.1 (fr.step hh.2)))
end
def cM (u:Nat):Nat:=4+4*u
def cS (u:Nat):Nat:=5+4*u
def cK (u:Nat):Nat:=6+4*u
def cQ (u:Nat):Nat:=7+4*u
structure fP where
 M:ML
 hb:Nat
 wb:Nat→Nat
 sg:Nat→Nat
 B:Nat
structure aZ where
 shape:Int
 tries:Int
 m:Mm
 hist:HS
 ws:Nat→cy
 steps:Nat
abbrev fP.n (E:fP):Nat:=E.M.L.th.toNat
abbrev zK (w:World) (C:Nat→Nat) (E:fP) (u:Nat) (x:cy):Prop:=ji w C (cM u) (cS u) (cK u) (cQ u) (E.sg u) (E.wb u) E.M.L u x
structure dR (w:World) (C:Nat→Nat) (E:fP) (ws:Nat→cy) (P:Nat→Prop):Prop where
 at_:∀ v,v<E.n→P v→zK w C E v (ws v)
theorem dR.mv {E:fP} {ws:Nat→cy} {P:Nat→Prop} (h:dR w C E ws P) (f:Fr C K T w w') (a:aB w.heap.size C C') (hk:(∀ v,P v→¬ K (cM v)∧¬ K (cS v)∧¬ K (cK v)∧¬ K (cQ v))∨dr GM T):dR w' C' E ws P:=
 ⟨fun v hv hp=>(h.at_ v hv hp).mv f a (hk.imp (fun h=>h v hp) id)⟩
theorem dR.fr {E:fP} {ws:Nat→cy} {P:Nat→Prop} (h:dR w C E ws P) (k:Fr C K T w w') (hk:(∀ v,P v→¬ K (cM v)∧¬ K (cS v)∧¬ K (cK v)∧¬ K (cQ v))∨dr GM T):dR w' C E ws P:=h.mv k (aB.refl _ _) hk
theorem dR.step {E:fP} {ws:Nat→cy} {P:Nat→Prop} (h:dR w C E ws P) (k:Below w.heap.size w w'):dR w' C E ws P:=h.mv (Fr.of_below k C (fun _=>False) []) (aB.refl _ _) (.inr (by decide))
theorem dR.nv {E:fP} {ws:Nat→cy} {P:Nat→Prop} (h:dR w C E ws P) (a:aB w.heap.size C C'):dR w C' E ws P:=h.mv (Fr.refl C (fun _=>False) [] w) a (.inr (by decide))
instance {w:World} {C:Nat→Nat} {E:fP} {ws:Nat→cy} {P:Nat→Prop}:Mv (dR w C E ws P) w C GM (fun w' C'=>dR w' C' E ws P):=⟨fun h k a hk=>h.mv k a (.inr hk)⟩
def l5 (E:fP) (n:Nat):List Value:=(List.range n).map fun u=>Value.pointer (some ⟨E.wb u,0,none⟩)
theorem BN (E:fP) {n u:Nat} (h:u<n):(l5 E n)[u]? =some (.pointer (some ⟨E.wb u,0,none⟩)):=by
 unfold l5
 rw[List.getElem?_map,List.getElem?_range h];rfl
structure dx (w:World) (C:Nat→Nat) (b:Nat) (E:fP) (e:aZ):Prop where
 blk:∃ A cap,SB w C 3 b 79 #[.int .i64 e.shape,.int .i64 E.M.L.th,.int .i64 E.M.L.nd,.int .i64 e.tries,.pointer (some ⟨E.M.b,0,none⟩),.pointer (some ⟨E.hb,0,none⟩),.slice A E.n cap,.int .i64 (e.steps:Int)]∧Sr w C 3 80 1 A E.n (l5 E E.n)
 mem:aj w C E.M e.m
 hist:gP w E.B E.hb e.hist
 wk:dR w C E e.ws (fun _=>True)
variable {b:Nat}
theorem dx.out {E:fP} {e:aZ} (h:dx w C b E e) (f:Fr C (fun x=>x=0) T w w') (a:aB w.heap.size C C') (ht:dr yb T):dx w' C' b E e:=by
 obtain⟨A,cap,h1,h2⟩:=h.blk
 exact⟨⟨A,cap,h1.mv f a (.inl (by decide)),h2.mv f a (.inl (by decide))⟩,h.mem.mv f a (.inl (by decide)),h.hist.mv f a (.inr ht),h.wk.mv f a (.inl (fun v _=>by refine⟨?_,?_,?_,?_⟩<;>simp[cM,cS,cK,cQ]))⟩
theorem dx.step {E:fP} {e:aZ} (h:dx w C b E e) (k:Below w.heap.size w w'):dx w' C b E e:=h.out (Fr.of_below k C _ []) (aB.refl _ _) (by decide)
theorem dx.nv {E:fP} {e:aZ} (h:dx w C b E e) (a:aB w.heap.size C C'):dx w C' b E e:=h.out (Fr.refl C _ [] w) a (by decide)
theorem KF:(Tryz.prog.info? 80).map (·.size)=some 1:=by kernel_rfl
theorem KG:(Tryz.prog.info? 85).map (·.size)=some 3:=by kernel_rfl
theorem ve {k q sg b:Nat} {A:Option Addr} {n cap:Nat} {pn tv lv:Value} {x:cy} (h:GL w C k q sg b A n cap pn tv lv x):Calls Tryz.prog 29 #[.pointer (some ⟨b,0,none⟩)] w fun e w'=>e= .returned (.int .i64 x.left)∧Below w.heap.size w w':=by
 obtain⟨sb,hlen,hsm,hle,-,-,-⟩:=h
 have e6:wrap64 ((n:Int) - (x.ended:Int))=x.left:=by rw[IntWalk.wrap64_in _ (by omega)];unfold cy.left;rw[hlen]
 obtain⟨lf,hlf⟩:∃ lf,x.left=lf:=⟨_,rfl⟩
 obtain⟨en,hen⟩:∃ en,x.ended=en:=⟨_,rfl⟩
 rw[hlf] at e6⊢
 rw[hen] at sb e6
 clear hlf hen hle hlen hsm
 go_enter Tryz.func29,Tryz.ntmps29
 have fr:=Fr.refl C (fun _=>False) [] w
 have ag:=aB.refl w.heap.size C
 go_wp2_with fail
 revert sb;revert fr;refine bD ?_;intro fr sb
 obtain⟨q1,qi⟩:=aV sb
 refine ar sb 10 [] [0,1,2,3,4,5,6,7,8,9] [10] (by kernel_rfl) (by kernel_rfl) ?_
 refine af ?_;try simp only[ox]
 repeat(go_big_quiet_step (fail))
 refine wpQuiet_nil ?_
 refine ae _ _ _ (by kernel_rfl) ?_;try simp only[ox]
 clear qi q1
 go_wp2_with fail
 refine NoPanic.normal ?_
 go_wp2_with fail
 go_ret
 exact⟨congrArg (fun v=>Ending.returned (.int .i64 v)) e6,fr.b4⟩
theorem iD {E:fP} {e:aZ} (h:dx w C b E e) (u:Int) (hu:u<0):Calls Tryz.prog 28 #[.pointer (some ⟨b,0,none⟩),.int .i64 u] w fun r w'=>r= .returned (.pointer none)∧Below w.heap.size w w':=by
 obtain⟨⟨A,cap,sb,hsr⟩,-,-,-⟩:=h
 clear hsr
 have d0:decide (u<0)=true:=decide_eq_true hu
 go_enter Tryz.func28,Tryz.ntmps28
 have fr:=Fr.refl C (fun _=>False) [] w
 have ag:=aB.refl w.heap.size C
 go_wp2_with fail
 go_ret
 exact⟨rfl,fr.b4⟩
theorem iF {E:fP} {e:aZ} (h:dx w C b E e) (u:Int) (hu:¬ u<0) (hu2:(E.n:Int)≤u):Calls Tryz.prog 28 #[.pointer (some ⟨b,0,none⟩),.int .i64 u] w fun r w'=>r= .returned (.pointer none)∧Below w.heap.size w w':=by
 obtain⟨⟨A,cap,sb,hsr⟩,-,-,-⟩:=h
 clear hsr
 obtain⟨N,hN⟩:∃ N,E.n=N:=⟨_,rfl⟩
 rw[hN] at sb hu2
 have d0:decide (u<0)=false:=decide_eq_false hu
 have d1:decide (u≥(N:Int))=true:=decide_eq_true hu2
 clear hN
 go_enter Tryz.func28,Tryz.ntmps28
 have fr:=Fr.refl C (fun _=>False) [] w
 have ag:=aB.refl w.heap.size C
 go_wp2_with fail
 go_ret
 exact⟨rfl,fr.b4⟩
theorem ch {E:fP} {e:aZ} (h:dx w C b E e) (u:Nat) (hu:u<E.n):Calls Tryz.prog 28 #[.pointer (some ⟨b,0,none⟩),.int .i64 (u:Int)] w fun r w'=>r= .returned (.pointer (some ⟨E.wb u,0,none⟩))∧Below w.heap.size w w':=by
 obtain⟨⟨A,cap,sb,hsr⟩,-,-,-⟩:=h
 have d0:decide ((u:Int)<0)=false:=decide_eq_false (by omega)
 have d1:decide ((u:Int)≥(E.n:Int))=false:=decide_eq_false (by omega)
 obtain⟨N,hN⟩:∃ N,E.n=N:=⟨_,rfl⟩
 have hidx:=hsr.sl.idx (P:=Tryz.prog) (c:=cap) Tryz.underlying77 KF hu
 have hcl:=hsr.sl.cell u (by omega)
 rw[BN E hu] at hcl
 simp only[Nat.mul_one] at hidx
 clear hsr
 rw[hN] at sb hidx d1 hu
 clear hN
 go_enter Tryz.func28,Tryz.ntmps28
 have fr:=Fr.refl C (fun _=>False) [] w
 have ag:=aB.refl w.heap.size C
 go_wp2_with fail
 go_ret
 exact⟨rfl,fr.b4⟩
variable {c sg:Nat}
theorem yc {d:aH} {ph pl pe pf pa pr pi pd ps:Value} (sb:ep w C c sg b ph pl pe pf pa pr pi pd ps d):Calls Tryz.prog 32 #[.pointer (some ⟨b,0,none⟩)] w fun e w'=>e= .returned d.task.val∧Below w.heap.size w w':=by
 unfold ep at sb
 obtain⟨⟨rc,ro,rv⟩,slow,⟨sh,kind,key⟩,limit,at_,head,help,a5,fast,ann,find,drop,sweep⟩:=d
 simp only at sb⊢
 have hl:=sb.lt
 go_enter Tryz.func32,Tryz.ntmps32
 have fr:=Fr.refl C (fun _=>False) [] w
 have ag:=aB.refl w.heap.size C
 go_wp2_with fail
 have BO:=(a8.new w 85 #[.int .i64 sh,.int .i64 kind,.int .i64 key]).cells
 refine bodyPost_ret (v:= .agg #[.int .i64 sh,.int .i64 kind,.int .i64 key]) (by simp[results,Tryz.results32,go_sem,BO]) rfl ⟨rfl,(Below.refl _ _).alloc (Nat.le_refl _) _⟩
variable {s:Nat} {L:Ly} {me:Int} {t:cV}
theorem xl (hst:al w C s sg L me t) (k:bq) (limit:Int):Calls Tryz.prog 49 #[.pointer (some ⟨sg,0,none⟩),k.val,.int .i64 limit] w (H7 C c [] (fun w' C' b=>aX w' C' c s sg b L me (.new L k limit)) w):=by
 obtain⟨⟨A,n,cap,hn,sb,hrow⟩,-,-,-⟩:=hst
 obtain⟨sh,kind,key⟩:=k
 clear hn hrow
 go_enter Tryz.func49,Tryz.ntmps49
 have fr:=Fr.refl C (K0 c) [] w
 have ag:=aB.refl w.heap.size C
 have z1:=sb
 revert sb;revert fr;refine bx1 85 #[.int .i64 sh,.int .i64 kind,.int .i64 key] ?_;rintro w1 Be H9 fr tb sb
 go_wp2_with fail
 clear Be z1
 revert fr tb sb;refine bD ?_;intro fr tb sb
 obtain⟨q1,q2,qi⟩:=bl sb tb
 refine aA sb tb 9 [([0,1,2,3,4,5,6],7)] [8] [9,10] (by kernel_rfl) (by kernel_rfl) ?_
 refine ai ?_;simp only[ox];repeat(go_big_quiet_step (fail))
 refine di rfl (fun K' hK'=> ?_);go_simp
 revert ag fr tb sb;with_reducible refine fL (yT L C c _) ?_;rintro w2 bh C2 ag fr hhd tb sb
 refine hK' _ _ (eJ sb tb) ?_;clear hK' K'
 refine af ?_;try simp only[ox]
 repeat(go_big_quiet_step (fail))
 refine wpQuiet_nil ?_
 refine ae _ _ _ (by kernel_rfl) ?_;try simp only[ox]
 clear qi q1 q2
 go_wp2_with fail
 refine NoPanic.normal ?_
 go_wp2_with fail
 go_ret
 refine⟨⟨w2.heap.size,a9 C2 w2.heap.size c,rfl,ag.trans (aB.a9 _ _ _) fr.size,?_⟩,fr.step ((Below.refl _ _).alloc (Nat.le_refl _) _)⟩
 exact .Kr (SB.new w2 (a9 C2 w2.heap.size c) (aO _ _ (Nat.le_refl _)) 129 #[.pointer (some ⟨sg,0,none⟩),.int .i64 0,.bool false,.int .i64 0,.bool false,.int .i64 sh,.int .i64 kind,.int .i64 key,.int .i64 limit,.int .i64 0,.pointer (some ⟨bh,0,none⟩),.pointer none,.pointer none,.pointer none,.pointer none,.pointer none,.pointer none,.pointer none,.pointer none] rfl) rfl ((hhd.nv (aB.a9 _ _ _)).step ((Below.refl _ _).alloc (Nat.le_refl _) _))
def Kw (c s k q:Nat):Nat→Prop:=fun x=>x=c∨x=s∨x=k∨x=q∨x=1
theorem pM (c s k q:Nat):∀ x,K0 k x→Kw c s k q x:=fun _ h=> .inr (.inr (.inl h))
theorem KH (c s k q:Nat):∀ x,K0 q x→Kw c s k q x:=fun _ h=> .inr (.inr (.inr (.inl h)))
theorem KI (c s k q:Nat):∀ x,K0 c x→Kw c s k q x:=fun _ h=> .inl h
theorem BP (c s k q:Nat):∀ x,dK c s x→Kw c s k q x:=fun _ h=>h.elim .inl (fun h=>h.elim (fun h=> .inr (.inl h)) (fun h=> .inr (.inr (.inr (.inr h)))))
def Il:List (Option TypeId):=some 91::some 3::iI
def L5:List (Option TypeId):=[some 91,some 3]
theorem tf:∀ x,x∈iI→x∈Il:=fun _ h=> .tail _ (.tail _ h)
theorem zh (l:List bq) (k i:Nat) (t:bq) (hk:l[k]? =some t) (hi:i<3):(l.flatMap bq.cells)[k*3+i]? =t.cells[i]? :=fS bq.cells 3 bq.db l k i t hk hi
theorem gH {k q sg b:Nat} {A:Option Addr} {n cap bd:Nat} {tv lv:Value} {x:cy} (h:GL w C k q sg b A n cap (.pointer (some ⟨bd,0,none⟩)) tv lv x) (tries:Int):Calls Tryz.prog 30 #[.pointer (some ⟨b,0,none⟩),.int .i64 tries] w fun e w'=>e= .returned (.bool false)∧Below w.heap.size w w':=by
 obtain⟨sb,-,-,-,-,-,-⟩:=h
 obtain⟨en,hen⟩:∃ en,x.ended=en:=⟨_,rfl⟩
 rw[hen] at sb
 clear hen
 have hc:=sb.blk.cells
 go_enter Tryz.func30,Tryz.ntmps30
 go_wp2_with fail
 go_ret
 exact⟨rfl,Below.refl _ _⟩
theorem gI {c s k q sg b:Nat} {L:Ly} {me:Int} {x:cy} (h:ji w C c s k q sg b L me x) (cR:x.now=none) {tk:bq} (htk:x.tasks[x.ended]? =some tk) (hkc:k≠c) (hks:k≠s) (hkq:k≠q) (tries:Int):
  Calls Tryz.prog 30 #[.pointer (some ⟨b,0,none⟩),.int .i64 tries] w (OW C (Kw c s k q) L5 (.bool true) (fun w' C'=>ji w' C' c s k q sg b L me { x with now:=some (.new L tk tries) }) w):=by
 obtain⟨hst,A,n,cap,pn,tv,lv,⟨sb,hlen,hsm,hle,hsr,⟨n1,xs,hrow,hxl,hn1⟩,⟨n2,ys,aN,hyl,hn2⟩⟩,hpn⟩:=h
 obtain⟨stt,tasks,en,now⟩:=x
 simp only at hst sb hlen hle hsr hn1 hn2 hpn cR htk
 subst cR
 have KJ:pn= .pointer none:=hpn
 subst KJ
 have hlt:en<n:=by rw[←hlen];exact(List.getElem?_eq_some_iff.1 htk).1
 simp only[Option.isSome_none] at hn1
 obtain⟨A2,cap1,rfl,hnc,hnil,hA2⟩:=hrow.form
 obtain⟨cs,htb,kM⟩:=hsr.blk (by omega)
 have hidx:=hsr.sl.idx (P:=Tryz.prog) (c:=cap) Tryz.underlying87 KG hlt
 have gB:SB w C k (bt A) 85 cs:=SB.mk htb kM
 have hcell:∀ i,i<3→cs[bY A+en*3+i]? =tk.cells[i]? :=fun i hi=>by
  have h1:=hsr.sl.at_ hlt hi
  rw[htb.cell,zh _ _ _ _ htk hi] at h1
  exact h1
 have f0:=hcell 0 (by omega)
 have f1:=hcell 1 (by omega)
 have f2:=hcell 2 (by omega)
 obtain⟨sh,kind,key⟩:=tk
 simp only[bq.cells,List.getElem?_cons_zero,List.getElem?_cons_succ,Nat.add_zero] at f0 f1 f2
 obtain⟨i0,hi,hz0,hz1,hz2⟩:=info_parts gZ
 have hnn:n1≤100000:=by simp at hn1;omega
 have Fm:Hid (cv (xs++[0])=cv xs++[.int .i64 0]):=Lib.hid (by simp[cv])
 have HN:=Lib.hid hn1
 have HX:=Lib.hid hxl
 have FT:¬ K0 k c:=fun e=>hkc e.symm
 have tu:¬ K0 k s:=fun e=>hks e.symm
 have FU:¬ K0 k q:=fun e=>hkq e.symm
 clear hcell htb hn1 hxl hnc hA2 htk hpn
 go_enter Tryz.func30,Tryz.ntmps30
 have fr:=Fr.refl C (Kw c s k q) L5 w
 have ag:=aB.refl w.heap.size C
 go_wp2_with fail
 revert gB;revert hsr;revert aN;revert hrow;revert hst;revert sb;revert fr;refine bD ?_;intro fr sb hst hrow aN hsr gB
 obtain⟨q1,q2,qi⟩:=bl sb gB
 refine aA sb gB 16 [] [0,1,2,3,4,5,6,7,8,9,10,11,12,13,14,15] [16,17,18,19] (by kernel_rfl) (by kernel_rfl) ?_
 refine af ?_;try simp only[ox]
 repeat(go_big_quiet_step (fail))
 refine wpQuiet_nil ?_
 refine ae _ _ _ (by kernel_rfl) ?_;try simp only[ox]
 clear qi q1 q2
 go_wp2_with fail
 refine(xl (C:=C) (c:=c) hst ⟨sh,kind,key⟩ tries).mono ?_
 rintro e w1 ⟨⟨bd,C1,rfl,nT,hdo⟩,hf1⟩
 have sz:=fr.size
 replace fr:=fr.trans (hf1.mono (KI c s k q) (by simp)) ag
 replace sb:=sb.mv hf1 nT (.inr (by decide))
 replace hst:=hst.mv hf1 nT (.inr (by decide))
 replace hrow:=hrow.mv hf1 nT (.inr (by decide))
 replace aN:=aN.mv hf1 nT (.inr (by decide))
 replace hsr:=hsr.mv hf1 nT (.inr (by decide))
 replace gB:=gB.mv hf1 nT (.inr (by decide))
 replace ag:=ag.trans nT sz
 clear sz nT hf1
 have z1:=And.intro sb gB
 revert gB;revert hdo;revert hsr;revert aN;revert hrow;revert hst;revert fr;refine st1 sb 3 (.pointer (some ⟨bd,0,none⟩)) (pM c s k q) ag ?_;clear sb;rintro w2 e1 fr sb hst hrow aN hsr hdo gB
 simp only[sx] at sb
 go_wp2_with fail
 try simp only[e1]
 clear z1 e1
 refine NoPanic.normal ?_
 have z2:=And.intro sb gB
 revert fr hst hrow aN hsr hdo gB sb;refine bx1 3 #[.int .i64 0] ?_;rintro w3 a5 JA fr ns hst hrow aN hsr hdo gB sb
 go_wp2_with (at_builtin;refine wpList_append_lies _ rfl _ _ _ rfl 0 3 i0 _ 1 8 Tryz.underlying89 hi hz0 hz1 hz2 rfl (by omega) (.slice A2 n1 cap1) n1 (cv xs) rfl hrow.own ⟨w2.heap.size,0,none⟩ 1 1 [.int .i64 0] rfl rfl (World.news_of_block ns.blk) (gE [0]) (by omega) (by unfold maxLen;omega) (by omega) (Nat.zero_le _) (w3.heap.size) rfl ?_;intro g cap2 wA hownA eP lK Dg;have hfA:Fr C1 (K0 k) [some 3] w3 wA:=(Fr.refl C1 (K0 k) [some 3] w3).app hrow eP (eO k) (by decide);have sA:=sb.fr hfA (.inr (by decide)))
 have sH:=hrow.app hownA (lK.elim (fun e=> .inl e.symm) (fun e=> .inr (by rw[e];rfl)))
 obtain⟨CA,sI⟩:∃ C',C'=a9 C1 w3.heap.size k:=⟨_,rfl⟩
 rw[←sI] at sH
 have aG:aB w3.heap.size C1 CA:=by rw[sI];exact aB.a9 _ _ _
 replace hst:=hst.mv hfA aG (.inl tu)
 replace hdo:=hdo.mv hfA aG (.inl ⟨FT,tu⟩)
 replace aN:=aN.mv hfA aG (.inl FU)
 clear hrow ns sA sI;revert gB;revert hsr;revert sb;revert fr;revert ag;refine kx hfA aG (pM c s k q) (by decide) ?_;intro ag fr sb hsr gB
 have hrow:=sH
 clear sH aG hfA eP lK hownA
 have lL:=own_ne hrow.own sb.blk (by decide)
 revert hst hdo aN hsr gB hrow;revert fr;refine st1 sb 4 (.slice (some ⟨g,0,none⟩) (n1+1) cap2) (pM c s k q) ag ?_;clear sb;rintro w4 e1 fr sb hst hdo aN hsr gB hrow
 simp only[sx] at sb
 rw[e1]
 clear a5 z2 e1
 clear lL
 go_wp2_with fail
 go_ret
 refine⟨rfl,⟨_,ag,?_⟩,fr⟩
 refine⟨hst,A,n,cap,_,_,lv,⟨sb,hlen,hsm,hle,hsr,⟨n1+1,xs++[0],by rw[Fm.out];exact hrow,by simp[HX.out],?_⟩,⟨n2,ys,aN,hyl,hn2⟩⟩,bd,rfl,hdo⟩
 have:=HN.out
 simp at this⊢
 omega
theorem Row.put {c g n cap:Nat} {xs:List Int} (h:Row w C c 3 1 (.slice (some ⟨g,0,none⟩) n cap) n (cv xs)) (i:Nat) (_:i<n) (v:Int):Row (w.setCell ⟨g,i,none⟩ (.int .i64 v)) C c 3 1 (.slice (some ⟨g,0,none⟩) n cap) n (cv (xs.set i v)):=by
 refine⟨⟨by simpa [cv] using h.own.1,?_⟩,h.col⟩
 rcases h.own.2 with ⟨h0,-⟩ | ⟨g',cap',cur,hv,hb,hg,hnc,hcm,hcs,htk⟩
 ·injection h0 with h0;cases h0
 ·injection hv with hv1 hv2 hv3
  injection hv1 with hv1
  injection hv1 with hv1
  subst hv1 hv3
  refine .inr ⟨g,cap,cur.setIfInBounds i (.int .i64 v),rfl,hb,a8.ao (t:=3) hg i _,hnc,hcm,by simpa using hcs,?_⟩
  rw[Array.toList_setIfInBounds,List.take_set,htk]
  simp[cv,List.map_set]
theorem Row.FV {c g n cap:Nat} {xs:List Int} (h:Row w C c 3 1 (.slice (some ⟨g,0,none⟩) n cap) n (cv xs)):∃ cur,SB w C c g 3 cur∧∀ i,i<n→cur[i]? =(cv xs)[i]? :=by
 obtain⟨-,cs,hb⟩:=bH h.own g rfl
 refine⟨cs,SB.mk hb (h.col g rfl),fun i hi=> ?_⟩
 have h1:=(Sl.cB h.own).cell i (by omega)
 rw[←hb.cell i];simpa [bt,bY] using h1
def cy.stop (x:cy) (r:Bool×Mm×cV×aH):cy:=if r.1 then { x with st:=r.2.2.1,now:=none,ended:=x.ended+1 } else { x with st:=r.2.2.1,now:=some r.2.2.2 }
def ku.xm (r:ku):Value:= .agg #[.int .i64 r.code,.bool r.ok,.int .i64 r.val]
def cy.tells (r:Bool×Mm×cV×aH):ku:=if r.1 then r.2.2.2.res else ⟨0,false,0⟩
structure WsW (C:Nat→Nat) (c s k q sg b:Nat) (M:ML) (me:Int) (x:cy) (r:Bool×Mm×cV×aH) (w:World) (e:Ending) (w':World):Prop where
 ret:e= .returned (.tuple #[(cy.tells r).xm,.bool r.1])
 own:∃ C',aB w.heap.size C C'∧aj w' C' M r.2.1∧ji w' C' c s k q sg b M.L me (x.stop r)
 fr:Fr C (Kw c s k q) Il w w'
theorem pN {c s k q sg b:Nat} {M:ML} {m:Mm} {me:Int} {x:cy} {d:aH} (hm:aj w C M m) (h:ji w C c s k q sg b M.L me x) (cR:x.now=some d) (hlt:x.ended<x.tasks.length) (hf:d.Fine M m x.st)
  (hcs:c≠s) (hs1:s≠1) (hkc:k≠c) (hks:k≠s) (hk1:k≠1) (hkq:k≠q) (hqc:q≠c) (zL:q≠s) (hq1:q≠1) (hq:(ak M me m x.st d).1=false):Calls Tryz.prog 33 #[.pointer (some ⟨b,0,none⟩),.pointer (some ⟨M.b,0,none⟩)] w (WsW C c s k q sg b M me x (ak M me m x.st d) w):=by
 obtain⟨hst,A,n,cap,pn,tv,lv,⟨sb,hlen,hsm,hle,hsr,⟨n1,xs,hrow,hxl,hn1⟩,⟨n2,ys,aN,hyl,hn2⟩⟩,hpn⟩:=h
 obtain⟨stt,tasks,en,now⟩:=x
 simp only at hst sb hlen hle hsr hn1 hn2 hpn cR hlt hf hq⊢
 subst cR
 obtain⟨bd,rfl,hdo⟩:=hpn
 simp only[Option.isSome_some,if_true] at hn1
 obtain⟨A1,cap1,rfl,hnc,hnil,hA1⟩:=hrow.form
 obtain⟨a1,rfl⟩:∃ a1,A1=some a1:=by
  cases A1 with
  | none=>exact absurd (hnil rfl).1 (by omega)
  | some a1=>exact⟨a1,rfl⟩
 obtain⟨g1,hg1⟩:∃ g1,a1=⟨g1,0,none⟩:=⟨_,hA1 a1 rfl⟩
 subst hg1
 have hi1:en<n1:=by omega
 have hL1:en+1≤n:=by omega
 have hL2:n2≤en+1:=by omega
 have hL3:n2+1≤en+1:=by omega
 obtain⟨cur,gB,hcur⟩:=hrow.FV
 obtain⟨t0,ht0⟩:∃ t0,xs[en]? =some t0:=⟨_,List.getElem?_eq_getElem (by omega)⟩
 have f0:cur[en]? =some (.int .i64 t0):=by rw[hcur en hi1,iM,ht0];rfl
 have hidx:=(Sl.cB hrow.own).idx (P:=Tryz.prog) (c:=cap1) Tryz.underlying89 iL hi1
 simp only[bt,bY,Option.map_some,Option.getD_some,Nat.zero_add,Nat.mul_one] at hidx
 have hps:=hrow.put en hi1 (wrap64 (t0+1))
 have EF:=fun W C' (k1:aj W C' M m) (k2:al W C' s sg M.L me stt) (k3:aX W C' c s sg bd M.L me d)=>td hcs hs1 k1 k2 k3 hf
 obtain⟨r,hr⟩:∃ r,ak M me m stt d=r:=⟨_,rfl⟩
 simp only[hr] at EF hq⊢
 obtain⟨r1,m',t2,d2⟩:=r
 simp only at hq
 subst hq
 have FT:¬ K0 k c:=fun e=>hkc e.symm
 have tu:¬ K0 k s:=fun e=>hks e.symm
 have FU:¬ K0 k q:=fun e=>hkq e.symm
 have KK:¬ K0 q k:=fun e=>hkq e
 have KL:¬ K0 q c:=fun e=>hqc e.symm
 have JJ:¬ K0 q s:=fun e=>zL e.symm
 have Im:¬ dK c s k:=fun e=>e.elim hkc (fun e=>e.elim hks hk1)
 have Io:¬ dK c s q:=fun e=>e.elim hqc (fun e=>e.elim zL hq1)
 have HN:=Lib.hid hn1
 have HX:=Lib.hid hxl
 have hnn:n2≤100000:=by omega
 clear hr hcur hn1 hxl hnc hnil hA1 ht0 hf hlt hps
 go_enter Tryz.func33,Tryz.ntmps33
 have fr:=Fr.refl C (Kw c s k q) Il w
 have ag:=aB.refl w.heap.size C
 have z1:=And.intro sb gB
 revert gB;revert hdo;revert hsr;revert aN;revert hrow;revert hst;revert hm;revert sb;revert fr;refine bx1 49 #[.int .i64 0,.bool false,.int .i64 0] ?_;rintro w1 Ip L6 fr rc sb hm hst hrow aN hsr hdo gB
 go_wp2_with fail
 clear Ip z1
 revert fr rc sb hm hst hrow aN hsr hdo gB;refine bD ?_;intro fr rc sb hm hst hrow aN hsr hdo gB
 obtain⟨q1,q2,qi⟩:=bl sb gB
 refine aA sb gB 12 [] [0,1,2,3,4,5,6,7,8,9,10,11] [12] (by kernel_rfl) (by kernel_rfl) ?_
 refine af ?_;try simp only[ox]
 repeat(go_big_quiet_step (fail))
 refine wpQuiet_nil ?_
 refine ae _ _ _ (by kernel_rfl) ?_;try simp only[ox]
 clear qi q1 q2
 have hf':=gB.qh en (.int .i64 (wrap64 (t0+1)))
 have hsv:SB (w1.setCell ⟨g1,en,none⟩ (.int .i64 (wrap64 (t0+1)))).drew C k b 91 #[.pointer (some ⟨sg,0,none⟩),.slice A n cap,.int .i64 (en:Int),.pointer (some ⟨bd,0,none⟩),.slice (some ⟨g1,0,none⟩) n1 cap1,lv]:=sb.fr hf' (.inr (by decide))
 have BQ:=hsv.blk.cells
 have vf:=hsv.blk.frees
 go_wp2_with fail
 clear BQ vf
 replace sb:=hsv
 clear hsv
 replace fr:=fr.trans (hf'.mono (pM c s k q) (by decide)) ag
 replace hst:=hst.fr hf' (.inl tu)
 replace hrow:=hrow.put en hi1 (wrap64 (t0+1))
 replace aN:=aN.fr hf' (.inl FU)
 replace hsr:=hsr.fr hf' (.inr (by decide))
 replace hdo:=hdo.fr hf' (.inl ⟨FT,tu⟩)
 replace rc:=rc.fr hf' (.inr (by decide))
 replace hm:=hm.fr hf' (.inl (fun e=>hk1 e.symm))
 clear hf' gB f0
 rw[ou] at fr hst hrow aN hsr hdo rc hm
 generalize(w1.setCell ⟨g1,en,none⟩ (.int .i64 (wrap64 (t0+1)))).drew=w2 at *
 refine NoPanic.normal ?_
 go_wp2_with fail
 refine(EF _ _ hm hst hdo).mono ?_;clear hm hst hdo;rintro e w3 ⟨rfl,⟨C3,aG,hm,hst,hdo⟩,hf⟩
 replace hrow:=hrow.mv hf aG (.inl Im)
 replace aN:=aN.mv hf aG (.inl Io)
 revert rc;revert hsr;revert sb;revert fr;revert ag;refine kx hf aG (BP c s k q) tf ?_;clear hf aG;intro ag fr sb hsr rc
 try dsimp only at hm hst hdo
 have z2:=And.intro sb rc
 have hR:=ko
 revert hdo;revert hsr;revert aN;revert hrow;revert hst;revert hm;revert sb;revert fr;refine gO rc [(0,.int .i64 0),(1,.bool false),(2,.int .i64 0)] ?_;clear rc;rintro w4 e1 fr rc sb hm hst hrow aN hsr hdo
 simp only[stx,sx] at e1 rc
 go_wp2_with fail
 clear z2 e1 hR
 refine bodyPost_ret (v:= .tuple #[(cy.tells (false,m',t2,d2)).xm,.bool false]) (by simp[results,Tryz.results33,go_sem,rc.1,cy.tells,ku.xm]) rfl ⟨rfl,⟨_,ag,hm,?_⟩,fr⟩
 exact⟨hst,A,n,cap,_,_,lv,⟨sb,hlen,hsm,hle,hsr,⟨n1,xs.set en (wrap64 (t0+1)),hrow,by simp[HX.out],by have:=HN.out;simp[cy.stop] at this⊢;omega⟩,⟨n2,ys,aN,hyl,hn2⟩⟩,bd,rfl,hdo⟩
theorem mS {c s k q sg b:Nat} {M:ML} {m:Mm} {me:Int} {x:cy} {d:aH} (hm:aj w C M m) (h:ji w C c s k q sg b M.L me x) (cR:x.now=some d) (hlt:x.ended<x.tasks.length) (hf:d.Fine M m x.st)
  (hcs:c≠s) (hs1:s≠1) (hkc:k≠c) (hks:k≠s) (hk1:k≠1) (hkq:k≠q) (hqc:q≠c) (zL:q≠s) (hq1:q≠1) (hq:(ak M me m x.st d).1=true) (hsl:(ak M me m x.st d).2.2.2.slow=false):Calls Tryz.prog 33 #[.pointer (some ⟨b,0,none⟩),.pointer (some ⟨M.b,0,none⟩)] w (WsW C c s k q sg b M me x (ak M me m x.st d) w):=by
 obtain⟨hst,A,n,cap,pn,tv,lv,⟨sb,hlen,hsm,hle,hsr,⟨n1,xs,hrow,hxl,hn1⟩,⟨n2,ys,aN,hyl,hn2⟩⟩,hpn⟩:=h
 obtain⟨stt,tasks,en,now⟩:=x
 simp only at hst sb hlen hle hsr hn1 hn2 hpn cR hlt hf hq hsl⊢
 subst cR
 obtain⟨bd,rfl,hdo⟩:=hpn
 simp only[Option.isSome_some,if_true] at hn1
 obtain⟨A1,cap1,rfl,hnc,hnil,hA1⟩:=hrow.form
 obtain⟨a1,rfl⟩:∃ a1,A1=some a1:=by
  cases A1 with
  | none=>exact absurd (hnil rfl).1 (by omega)
  | some a1=>exact⟨a1,rfl⟩
 obtain⟨g1,hg1⟩:∃ g1,a1=⟨g1,0,none⟩:=⟨_,hA1 a1 rfl⟩
 subst hg1
 have hi1:en<n1:=by omega
 have hL1:en+1≤n:=by omega
 have hL2:n2≤en+1:=by omega
 have hL3:n2+1≤en+1:=by omega
 obtain⟨cur,gB,hcur⟩:=hrow.FV
 obtain⟨t0,ht0⟩:∃ t0,xs[en]? =some t0:=⟨_,List.getElem?_eq_getElem (by omega)⟩
 have f0:cur[en]? =some (.int .i64 t0):=by rw[hcur en hi1,iM,ht0];rfl
 have hidx:=(Sl.cB hrow.own).idx (P:=Tryz.prog) (c:=cap1) Tryz.underlying89 iL hi1
 simp only[bt,bY,Option.map_some,Option.getD_some,Nat.zero_add,Nat.mul_one] at hidx
 have hps:=hrow.put en hi1 (wrap64 (t0+1))
 have EF:=fun W C' (k1:aj W C' M m) (k2:al W C' s sg M.L me stt) (k3:aX W C' c s sg bd M.L me d)=>td hcs hs1 k1 k2 k3 hf
 obtain⟨r,hr⟩:∃ r,ak M me m stt d=r:=⟨_,rfl⟩
 simp only[hr] at EF hq hsl⊢
 obtain⟨r1,m',t2,d2⟩:=r
 simp only at hq hsl
 subst hq
 have FT:¬ K0 k c:=fun e=>hkc e.symm
 have tu:¬ K0 k s:=fun e=>hks e.symm
 have FU:¬ K0 k q:=fun e=>hkq e.symm
 have KK:¬ K0 q k:=fun e=>hkq e
 have KL:¬ K0 q c:=fun e=>hqc e.symm
 have JJ:¬ K0 q s:=fun e=>zL e.symm
 have Im:¬ dK c s k:=fun e=>e.elim hkc (fun e=>e.elim hks hk1)
 have Io:¬ dK c s q:=fun e=>e.elim hqc (fun e=>e.elim zL hq1)
 have HN:=Lib.hid hn1
 have HX:=Lib.hid hxl
 have hnn:n2≤100000:=by omega
 clear hr hcur hn1 hxl hnc hnil hA1 ht0 hf hlt hps
 go_enter Tryz.func33,Tryz.ntmps33
 have fr:=Fr.refl C (Kw c s k q) Il w
 have ag:=aB.refl w.heap.size C
 have z1:=And.intro sb gB
 revert gB;revert hdo;revert hsr;revert aN;revert hrow;revert hst;revert hm;revert sb;revert fr;refine bx1 49 #[.int .i64 0,.bool false,.int .i64 0] ?_;rintro w1 Ip L6 fr rc sb hm hst hrow aN hsr hdo gB
 go_wp2_with fail
 clear Ip z1
 revert fr rc sb hm hst hrow aN hsr hdo gB;refine bD ?_;intro fr rc sb hm hst hrow aN hsr hdo gB
 obtain⟨q1,q2,qi⟩:=bl sb gB
 refine aA sb gB 12 [] [0,1,2,3,4,5,6,7,8,9,10,11] [12] (by kernel_rfl) (by kernel_rfl) ?_
 refine af ?_;try simp only[ox]
 repeat(go_big_quiet_step (fail))
 refine wpQuiet_nil ?_
 refine ae _ _ _ (by kernel_rfl) ?_;try simp only[ox]
 clear qi q1 q2
 have hf':=gB.qh en (.int .i64 (wrap64 (t0+1)))
 have hsv:SB (w1.setCell ⟨g1,en,none⟩ (.int .i64 (wrap64 (t0+1)))).drew C k b 91 #[.pointer (some ⟨sg,0,none⟩),.slice A n cap,.int .i64 (en:Int),.pointer (some ⟨bd,0,none⟩),.slice (some ⟨g1,0,none⟩) n1 cap1,lv]:=sb.fr hf' (.inr (by decide))
 have BQ:=hsv.blk.cells
 have vf:=hsv.blk.frees
 go_wp2_with fail
 clear BQ vf
 replace sb:=hsv
 clear hsv
 replace fr:=fr.trans (hf'.mono (pM c s k q) (by decide)) ag
 replace hst:=hst.fr hf' (.inl tu)
 replace hrow:=hrow.put en hi1 (wrap64 (t0+1))
 replace aN:=aN.fr hf' (.inl FU)
 replace hsr:=hsr.fr hf' (.inr (by decide))
 replace hdo:=hdo.fr hf' (.inl ⟨FT,tu⟩)
 replace rc:=rc.fr hf' (.inr (by decide))
 replace hm:=hm.fr hf' (.inl (fun e=>hk1 e.symm))
 clear hf' gB f0
 rw[ou] at fr hst hrow aN hsr hdo rc hm
 generalize(w1.setCell ⟨g1,en,none⟩ (.int .i64 (wrap64 (t0+1)))).drew=w2 at *
 refine NoPanic.normal ?_
 go_wp2_with fail
 refine(EF _ _ hm hst hdo).mono ?_;clear hm hst hdo;rintro e w3 ⟨rfl,⟨C3,aG,hm,hst,hdo⟩,hf⟩
 replace hrow:=hrow.mv hf aG (.inl Im)
 replace aN:=aN.mv hf aG (.inl Io)
 revert rc;revert hsr;revert sb;revert fr;revert ag;refine kx hf aG (BP c s k q) tf ?_;clear hf aG;intro ag fr sb hsr rc
 try dsimp only at hm hst hdo
 obtain⟨Iq,Ir,Is,It,Iu,Iv,Iw,Ix,Iy,fy,-⟩:=id hdo.ex
 unfold ep at fy
 obtain⟨⟨D1,D3,D4⟩,Iz,tk1,FW,M7,hd1,hp1,M8,fs1,EC,M9,Na,Nb⟩:=d2
 simp only at fy hsl
 subst hsl
 have IA:=rc.lt
 have z2:=And.intro sb (And.intro rc fy)
 revert fy;revert rc;revert hdo;revert hsr;revert aN;revert hrow;revert hst;revert hm;revert sb;revert fr;refine bx1 49 #[.int .i64 D1,.bool D3,.int .i64 D4] ?_;rintro w4 xn lrs fr rs sb hm hst hrow aN hsr hdo rc fy
 have e1:wrap64 ((en:Int)+1)=(en:Int)+1:=IntWalk.wrap64_in _ (by omega)
 have z3:=And.intro sb (And.intro rc (And.intro fy rs))
 revert fr rs hm hst hrow aN hsr hdo rc fy;refine st1 sb 3 (.pointer none) (pM c s k q) ag ?_;clear sb;rintro w5 e1 fr sb rs hm hst hrow aN hsr hdo rc fy
 simp only[sx] at sb
 have z4:=And.intro sb (And.intro rc (And.intro fy rs))
 revert fr rs hm hst hrow aN hsr hdo rc fy;refine st1 sb 2 (.int .i64 ((en:Int)+1)) (pM c s k q) ag ?_;clear sb;rintro w6 e2 fr sb rs hm hst hrow aN hsr hdo rc fy
 simp only[sx] at sb
 have z5:=And.intro sb (And.intro rc (And.intro fy rs))
 have hR:=ko
 replace rs:=rs.yG (b:=w.heap.size) (by first | omega | (simp<;>omega)) [(0,.int .i64 D1),(1,.bool D3),(2,.int .i64 D4)]
 revert fr hm hst hrow aN hsr hdo fy sb;refine gO rc [(0,.int .i64 D1),(1,.bool D3),(2,.int .i64 D4)] ?_;clear rc;rintro w7 e3 fr rc hm hst hrow aN hsr hdo fy sb
 rw[e3] at rs
 simp only[stx,sx] at e3 rc
 go_wp2_with fail
 clear xn z2 z3 e1 z4 e2 z5 e3 hR
 refine bodyPost_ret (v:= .tuple #[.agg #[.int .i64 D1,.bool D3,.int .i64 D4],.bool true]) (by simp[results,Tryz.results33,go_sem,rc.1]) rfl ⟨rfl,⟨_,ag,hm,?_⟩,fr⟩
 exact⟨hst,A,n,cap,_,_,_,⟨sb,hlen,hsm,hL1,hsr,⟨n1,xs.set en (wrap64 (t0+1)),hrow,by simp[HX.out],by have:=HN.out;simp[cy.stop] at this⊢;omega⟩,⟨n2,ys,aN,hyl,hL2⟩⟩,rfl⟩
theorem mT {c s k q sg b:Nat} {M:ML} {m:Mm} {me:Int} {x:cy} {d:aH} (hm:aj w C M m) (h:ji w C c s k q sg b M.L me x) (cR:x.now=some d) (hlt:x.ended<x.tasks.length) (hf:d.Fine M m x.st)
  (hcs:c≠s) (hs1:s≠1) (hkc:k≠c) (hks:k≠s) (hk1:k≠1) (hkq:k≠q) (hqc:q≠c) (zL:q≠s) (hq1:q≠1) (hq:(ak M me m x.st d).1=true) (hsl:(ak M me m x.st d).2.2.2.slow=true):Calls Tryz.prog 33 #[.pointer (some ⟨b,0,none⟩),.pointer (some ⟨M.b,0,none⟩)] w (WsW C c s k q sg b M me x (ak M me m x.st d) w):=by
 obtain⟨hst,A,n,cap,pn,tv,lv,⟨sb,hlen,hsm,hle,hsr,⟨n1,xs,hrow,hxl,hn1⟩,⟨n2,ys,aN,hyl,hn2⟩⟩,hpn⟩:=h
 obtain⟨stt,tasks,en,now⟩:=x
 simp only at hst sb hlen hle hsr hn1 hn2 hpn cR hlt hf hq hsl⊢
 subst cR
 obtain⟨bd,rfl,hdo⟩:=hpn
 simp only[Option.isSome_some,if_true] at hn1
 obtain⟨A1,cap1,rfl,hnc,hnil,hA1⟩:=hrow.form
 obtain⟨a1,rfl⟩:∃ a1,A1=some a1:=by
  cases A1 with
  | none=>exact absurd (hnil rfl).1 (by omega)
  | some a1=>exact⟨a1,rfl⟩
 obtain⟨g1,hg1⟩:∃ g1,a1=⟨g1,0,none⟩:=⟨_,hA1 a1 rfl⟩
 subst hg1
 have hi1:en<n1:=by omega
 have hL1:en+1≤n:=by omega
 have hL2:n2≤en+1:=by omega
 have hL3:n2+1≤en+1:=by omega
 obtain⟨cur,gB,hcur⟩:=hrow.FV
 obtain⟨t0,ht0⟩:∃ t0,xs[en]? =some t0:=⟨_,List.getElem?_eq_getElem (by omega)⟩
 have f0:cur[en]? =some (.int .i64 t0):=by rw[hcur en hi1,iM,ht0];rfl
 have hidx:=(Sl.cB hrow.own).idx (P:=Tryz.prog) (c:=cap1) Tryz.underlying89 iL hi1
 simp only[bt,bY,Option.map_some,Option.getD_some,Nat.zero_add,Nat.mul_one] at hidx
 have hps:=hrow.put en hi1 (wrap64 (t0+1))
 have EF:=fun W C' (k1:aj W C' M m) (k2:al W C' s sg M.L me stt) (k3:aX W C' c s sg bd M.L me d)=>td hcs hs1 k1 k2 k3 hf
 obtain⟨r,hr⟩:∃ r,ak M me m stt d=r:=⟨_,rfl⟩
 simp only[hr] at EF hq hsl⊢
 obtain⟨r1,m',t2,d2⟩:=r
 simp only at hq hsl
 subst hq
 have FT:¬ K0 k c:=fun e=>hkc e.symm
 have tu:¬ K0 k s:=fun e=>hks e.symm
 have FU:¬ K0 k q:=fun e=>hkq e.symm
 have KK:¬ K0 q k:=fun e=>hkq e
 have KL:¬ K0 q c:=fun e=>hqc e.symm
 have JJ:¬ K0 q s:=fun e=>zL e.symm
 have Im:¬ dK c s k:=fun e=>e.elim hkc (fun e=>e.elim hks hk1)
 have Io:¬ dK c s q:=fun e=>e.elim hqc (fun e=>e.elim zL hq1)
 have HN:=Lib.hid hn1
 have HX:=Lib.hid hxl
 have hnn:n2≤100000:=by omega
 clear hr hcur hn1 hxl hnc hnil hA1 ht0 hf hlt hps
 go_enter Tryz.func33,Tryz.ntmps33
 have fr:=Fr.refl C (Kw c s k q) Il w
 have ag:=aB.refl w.heap.size C
 have z1:=And.intro sb gB
 revert gB;revert hdo;revert hsr;revert aN;revert hrow;revert hst;revert hm;revert sb;revert fr;refine bx1 49 #[.int .i64 0,.bool false,.int .i64 0] ?_;rintro w1 Ip L6 fr rc sb hm hst hrow aN hsr hdo gB
 go_wp2_with fail
 clear Ip z1
 revert fr rc sb hm hst hrow aN hsr hdo gB;refine bD ?_;intro fr rc sb hm hst hrow aN hsr hdo gB
 obtain⟨q1,q2,qi⟩:=bl sb gB
 refine aA sb gB 12 [] [0,1,2,3,4,5,6,7,8,9,10,11] [12] (by kernel_rfl) (by kernel_rfl) ?_
 refine af ?_;try simp only[ox]
 repeat(go_big_quiet_step (fail))
 refine wpQuiet_nil ?_
 refine ae _ _ _ (by kernel_rfl) ?_;try simp only[ox]
 clear qi q1 q2
 have hf':=gB.qh en (.int .i64 (wrap64 (t0+1)))
 have hsv:SB (w1.setCell ⟨g1,en,none⟩ (.int .i64 (wrap64 (t0+1)))).drew C k b 91 #[.pointer (some ⟨sg,0,none⟩),.slice A n cap,.int .i64 (en:Int),.pointer (some ⟨bd,0,none⟩),.slice (some ⟨g1,0,none⟩) n1 cap1,lv]:=sb.fr hf' (.inr (by decide))
 have BQ:=hsv.blk.cells
 have vf:=hsv.blk.frees
 go_wp2_with fail
 clear BQ vf
 replace sb:=hsv
 clear hsv
 replace fr:=fr.trans (hf'.mono (pM c s k q) (by decide)) ag
 replace hst:=hst.fr hf' (.inl tu)
 replace hrow:=hrow.put en hi1 (wrap64 (t0+1))
 replace aN:=aN.fr hf' (.inl FU)
 replace hsr:=hsr.fr hf' (.inr (by decide))
 replace hdo:=hdo.fr hf' (.inl ⟨FT,tu⟩)
 replace rc:=rc.fr hf' (.inr (by decide))
 replace hm:=hm.fr hf' (.inl (fun e=>hk1 e.symm))
 clear hf' gB f0
 rw[ou] at fr hst hrow aN hsr hdo rc hm
 generalize(w1.setCell ⟨g1,en,none⟩ (.int .i64 (wrap64 (t0+1)))).drew=w2 at *
 refine NoPanic.normal ?_
 go_wp2_with fail
 refine(EF _ _ hm hst hdo).mono ?_;clear hm hst hdo;rintro e w3 ⟨rfl,⟨C3,aG,hm,hst,hdo⟩,hf⟩
 replace hrow:=hrow.mv hf aG (.inl Im)
 replace aN:=aN.mv hf aG (.inl Io)
 revert rc;revert hsr;revert sb;revert fr;revert ag;refine kx hf aG (BP c s k q) tf ?_;clear hf aG;intro ag fr sb hsr rc
 try dsimp only at hm hst hdo
 obtain⟨Iq,Ir,Is,It,Iu,Iv,Iw,Ix,Iy,fy,-⟩:=id hdo.ex
 unfold ep at fy
 obtain⟨⟨D1,D3,D4⟩,Iz,tk1,FW,M7,hd1,hp1,M8,fs1,EC,M9,Na,Nb⟩:=d2
 simp only at fy hsl
 subst hsl
 have LB:=fr.size
 have Ey:=sb.lt
 have IA:=rc.lt
 have KM:=fy.lt
 have z2:=And.intro sb (And.intro rc fy)
 revert fy;revert rc;revert hdo;revert hsr;revert aN;revert hrow;revert hst;revert hm;revert sb;revert fr;refine bx1 49 #[.int .i64 D1,.bool D3,.int .i64 D4] ?_;rintro w4 xn lrs fr rs sb hm hst hrow aN hsr hdo rc fy
 go_wp2_with fail
 clear xn z2
 generalize w3.heap.size=ND at *
 obtain⟨A2,cap2,rfl,-,-,-⟩:=aN.form
 obtain⟨i0,hi,hz0,hz1,hz2⟩:=info_parts gZ
 have Fm:Hid (cv (ys++[(en:Int)])=cv ys++[.int .i64 (en:Int)]):=Lib.hid (by simp[cv])
 revert rs;revert fy;revert rc;revert hdo;revert hsr;revert aN;revert hrow;revert hst;revert hm;revert sb;revert fr;refine bD ?_;intro fr sb hm hst hrow aN hsr hdo rc fy rs
 obtain⟨q1,qi⟩:=aV sb
 refine ar sb 10 [] [0,1,2,3,4,5,6,7,8] [9,10,11,12,13] (by kernel_rfl) (by kernel_rfl) ?_
 refine af ?_;try simp only[ox]
 repeat(go_big_quiet_step (fail))
 refine wpQuiet_nil ?_
 refine ay rfl (fun K' hK'=> ?_);go_simp
 revert fr sb hm hst hrow aN hsr hdo rc fy rs;refine yI 3 #[.int .i64 (en:Int)] ?_;rintro w5 e1 JA fr ns sb hm hst hrow aN hsr hdo rc fy rs;rw[e1]
 refine hK' _ _ (bZ sb) ?_;clear hK' K' e1
 refine ae _ _ _ (by kernel_rfl) ?_;try simp only[ox]
 clear qi q1
 go_wp2_with (at_builtin;refine wpList_append_lies _ rfl _ _ _ rfl 0 3 i0 _ 1 8 Tryz.underlying89 hi hz0 hz1 hz2 rfl (by omega) (.slice A2 n2 cap2) n2 (cv ys) rfl aN.own ⟨w4.heap.size,0,none⟩ 1 1 [.int .i64 (en:Int)] rfl rfl (World.news_of_block ns.blk) (gE [(en:Int)]) (by omega) (by unfold maxLen;omega) (by omega) (Nat.zero_le _) (w5.heap.size) rfl ?_;intro g3 cap3 wA hownA eP lK Dg;have hfA:Fr C3 (K0 q) [some 3] w5 wA:=(Fr.refl C3 (K0 q) [some 3] w5).app aN eP (eO q) (by decide);have sA:=sb.fr hfA (.inr (by decide)))
 have sH:=aN.app hownA (lK.elim (fun e=> .inl e.symm) (fun e=> .inr (by rw[e];rfl)))
 obtain⟨CA,sI⟩:∃ C',C'=a9 C3 w5.heap.size q:=⟨_,rfl⟩
 rw[←sI] at sH
 have aG:aB w5.heap.size C3 CA:=by rw[sI];exact aB.a9 _ _ _
 replace hst:=hst.mv hfA aG (.inl JJ)
 replace hdo:=hdo.mv hfA aG (.inl ⟨KL,JJ⟩)
 replace hrow:=hrow.mv hfA aG (.inl KK)
 clear aN ns sA sI;revert rs;revert fy;revert rc;revert hsr;revert hm;revert sb;revert fr;revert ag;refine kx hfA aG (KH c s k q) (by decide) ?_;intro ag fr sb hm hsr rc fy rs
 have aN:=sH
 clear sH aG hfA eP lK hownA
 have lL:=own_ne aN.own sb.blk (by decide)
 revert hst hdo hrow hm hsr rc fy rs aN;revert fr;refine st1 sb 5 (.slice (some ⟨g3,0,none⟩) (n2+1) cap3) (pM c s k q) ag ?_;clear sb;rintro w6 e1 fr sb hst hdo hrow hm hsr rc fy rs aN
 simp only[sx] at sb
 rw[e1]
 clear e1
 clear lL
 try rw[←Fm.out] at aN
 refine NoPanic.normal ?_
 have e1:wrap64 ((en:Int)+1)=(en:Int)+1:=IntWalk.wrap64_in _ (by omega)
 have z3:=And.intro sb (And.intro rc (And.intro fy rs))
 revert rs;revert fy;revert rc;revert hdo;revert hsr;revert aN;revert hrow;revert hst;revert hm;revert fr;refine st1 sb 3 (.pointer none) (pM c s k q) ag ?_;clear sb;rintro w7 e1 fr sb hm hst hrow aN hsr hdo rc fy rs
 simp only[sx] at sb
 have z4:=And.intro sb (And.intro rc (And.intro fy rs))
 revert fr hm hst hrow aN hsr hdo rc fy rs;refine st1 sb 2 (.int .i64 ((en:Int)+1)) (pM c s k q) ag ?_;clear sb;rintro w8 e2 fr sb hm hst hrow aN hsr hdo rc fy rs
 simp only[sx] at sb
 have z5:=And.intro sb (And.intro rc (And.intro fy rs))
 have hR:=ko
 replace rs:=rs.yG (b:=w.heap.size) (by first | omega | (simp<;>omega)) [(0,.int .i64 D1),(1,.bool D3),(2,.int .i64 D4)]
 revert fr hm hst hrow aN hsr hdo fy sb;refine gO rc [(0,.int .i64 D1),(1,.bool D3),(2,.int .i64 D4)] ?_;clear rc;rintro w9 e3 fr rc hm hst hrow aN hsr hdo fy sb
 rw[e3] at rs
 simp only[stx,sx] at e3 rc
 go_wp2_with fail
 try simp only[e1,e2,e3]
 clear z3 e1 z4 e2 z5 e3 hR
 refine bodyPost_ret (v:= .tuple #[.agg #[.int .i64 D1,.bool D3,.int .i64 D4],.bool true]) (by simp[results,Tryz.results33,go_sem,rc.1]) rfl ⟨rfl,⟨_,ag,hm,?_⟩,fr⟩
 exact⟨hst,A,n,cap,_,_,_,⟨sb,hlen,hsm,hL1,hsr,⟨n1,xs.set en (wrap64 (t0+1)),hrow,by simp[HX.out],by have:=HN.out;simp[cy.stop] at this⊢;omega⟩,⟨n2+1,ys++[(en:Int)],aN,by simp[hyl],hL3⟩⟩,rfl⟩
end Go.Proofs.YtbcnnhlpilmmbaaGreat
