/- Texts that are wanted for PTopFull.
   Conditions: none. -/
import Derived.Test.YtbcnnhlpilmmbaaGreatJPTopFull06
set_option maxRecDepth 100000
set_option maxHeartbeats 6400000
namespace Go.Proofs.YtbcnnhlpilmmbaaGreat
open Go Go.RowKit
def S1 (b:Nat) (cs:Array Value) (W:World):Prop:=∀ i:Nat,W.cell? ⟨b,i,none⟩=cs[i]?
def S2 (b:Nat) (cs:Array Value) (b2:Nat) (cs2:Array Value) (W:World):Prop:=(∀ i:Nat,W.cell? ⟨b,i,none⟩=cs[i]?)∧∀ i:Nat,W.cell? ⟨b2,i,none⟩=cs2[i]?
def S3 (b:Nat) (cs:Array Value) (b2:Nat) (cs2:Array Value) (b3:Nat) (p9:Array Value) (W:World):Prop:=(∀ i:Nat,W.cell? ⟨b,i,none⟩=cs[i]?)∧(∀ i:Nat,W.cell? ⟨b2,i,none⟩=cs2[i]?)∧∀ i:Nat,W.cell? ⟨b3,i,none⟩=p9[i]?
variable {b:Nat}
theorem oq {cs:Array Value} (q:Such (S1 b cs)) (i:Nat):q.val.cell? ⟨b,i,none⟩=cs[i]? :=q.ok i
theorem AF {cs:Array Value} {b2:Nat} {cs2:Array Value} (q:Such (S2 b cs b2 cs2)) (i:Nat):q.val.cell? ⟨b,i,none⟩=cs[i]? :=q.ok.1 i
theorem yD {cs:Array Value} {b2:Nat} {cs2:Array Value} (q:Such (S2 b cs b2 cs2)) (i:Nat):q.val.cell? ⟨b2,i,none⟩=cs2[i]? :=q.ok.2 i
theorem AG {cs:Array Value} {b2:Nat} {cs2:Array Value} {b3:Nat} {p9:Array Value} (q:Such (S3 b cs b2 cs2 b3 p9)) (i:Nat):q.val.cell? ⟨b,i,none⟩=cs[i]? :=q.ok.1 i
theorem yE {cs:Array Value} {b2:Nat} {cs2:Array Value} {b3:Nat} {p9:Array Value} (q:Such (S3 b cs b2 cs2 b3 p9)) (i:Nat):q.val.cell? ⟨b2,i,none⟩=cs2[i]? :=q.ok.2.1 i
theorem yF {cs:Array Value} {b2:Nat} {cs2:Array Value} {b3:Nat} {p9:Array Value} (q:Such (S3 b cs b2 cs2 b3 p9)) (i:Nat):q.val.cell? ⟨b3,i,none⟩=p9[i]? :=q.ok.2.2 i
section
variable {W:World} {C:Nat→Nat} {c c2 c3 b b2 b3:Nat} {t t2 t3:TypeId} {cs cs2 p9:Array Value}
theorem aV (h1:SB W C c b t cs):(∀ (q:Such (S1 b cs)) (i:Nat),q.val.cell? ⟨b,i,none⟩=cs[i]?)∧Nonempty (Such (S1 b cs)):=⟨oq,Such.q8 h1.blk.cells⟩
theorem bZ (h1:SB W C c b t cs):∃ q:Such (S1 b cs),W=q.val:=Such.bI h1.blk.cells
theorem ar {P:Program} {Q:Exit→Act→World→Prop} {w:World} {id:Nat} {l:List Oper} {a:Act} (h1:SB w.drew C c b t cs) (n:Nat) (ph:List (List Nat×Nat)) (ls is:List Nat) (hm:P.follows .mixedOrders=true)
  (hB:(Region.noSelect l.toArray && Region.chainB .any l.toArray n && decide (gX ph+ls.length+is.length=l.length) && Cn .any l.toArray n (cG .any l.toArray n [n]) ph (Array.replicate l.toArray.size false) &&
   gD .any l.toArray n (cG .any l.toArray n [n]) ls (fB ph (Array.replicate l.toArray.size false)) && fR .any l.toArray is (bV ls (fB ph (Array.replicate l.toArray.size false))))=true)
  (h:iK P l.toArray (NoPanic Q) (fun w'=>∃ q:Such (S1 b cs),w'=q.val) (fun a w=>wpQuiet P l.toArray (fun w'=>∃ q:Such (S1 b cs),w'=q.val) (fun a'=>cH P l.toArray (NoPanic Q) (fun w'=>∃ q:Such (S1 b cs),w'=q.val) n is a' w) (au l.toArray ls) a) ph a w.drew):(Code.region id l.toArray true).wp P Q a w:=
 az (fun w'=>∃ q:Such (S1 b cs),w'=q.val) n ph ls is hm hB (bZ h1) h
theorem bl (h1:SB W C c b t cs) (h2:SB W C c2 b2 t2 cs2):(∀ (q:Such (S2 b cs b2 cs2)) (i:Nat),q.val.cell? ⟨b,i,none⟩=cs[i]?)∧(∀ (q:Such (S2 b cs b2 cs2)) (i:Nat),q.val.cell? ⟨b2,i,none⟩=cs2[i]?)∧Nonempty (Such (S2 b cs b2 cs2)):=⟨AF,yD,Such.q8 ⟨h1.blk.cells,h2.blk.cells⟩⟩
theorem eJ (h1:SB W C c b t cs) (h2:SB W C c2 b2 t2 cs2):∃ q:Such (S2 b cs b2 cs2),W=q.val:=Such.bI ⟨h1.blk.cells,h2.blk.cells⟩
theorem aA {P:Program} {Q:Exit→Act→World→Prop} {w:World} {id:Nat} {l:List Oper} {a:Act} (h1:SB w.drew C c b t cs) (h2:SB w.drew C c2 b2 t2 cs2) (n:Nat) (ph:List (List Nat×Nat)) (ls is:List Nat) (hm:P.follows .mixedOrders=true)
  (hB:(Region.noSelect l.toArray && Region.chainB .any l.toArray n && decide (gX ph+ls.length+is.length=l.length) && Cn .any l.toArray n (cG .any l.toArray n [n]) ph (Array.replicate l.toArray.size false) &&
   gD .any l.toArray n (cG .any l.toArray n [n]) ls (fB ph (Array.replicate l.toArray.size false)) && fR .any l.toArray is (bV ls (fB ph (Array.replicate l.toArray.size false))))=true)
  (h:iK P l.toArray (NoPanic Q) (fun w'=>∃ q:Such (S2 b cs b2 cs2),w'=q.val) (fun a w=>wpQuiet P l.toArray (fun w'=>∃ q:Such (S2 b cs b2 cs2),w'=q.val) (fun a'=>cH P l.toArray (NoPanic Q) (fun w'=>∃ q:Such (S2 b cs b2 cs2),w'=q.val) n is a' w) (au l.toArray ls) a) ph a w.drew):(Code.region id l.toArray true).wp P Q a w:=
 az (fun w'=>∃ q:Such (S2 b cs b2 cs2),w'=q.val) n ph ls is hm hB (eJ h1 h2) h
theorem cF (h1:SB W C c b t cs) (h2:SB W C c2 b2 t2 cs2) (h3:SB W C c3 b3 t3 p9):(∀ (q:Such (S3 b cs b2 cs2 b3 p9)) (i:Nat),q.val.cell? ⟨b,i,none⟩=cs[i]?)∧(∀ (q:Such (S3 b cs b2 cs2 b3 p9)) (i:Nat),q.val.cell? ⟨b2,i,none⟩=cs2[i]?)∧(∀ (q:Such (S3 b cs b2 cs2 b3 p9)) (i:Nat),q.val.cell? ⟨b3,i,none⟩=p9[i]?)∧Nonempty (Such (S3 b cs b2 cs2 b3 p9)):=⟨AG,yE,yF,Such.q8 ⟨h1.blk.cells,h2.blk.cells,h3.blk.cells⟩⟩
theorem jz (h1:SB W C c b t cs) (h2:SB W C c2 b2 t2 cs2) (h3:SB W C c3 b3 t3 p9):∃ q:Such (S3 b cs b2 cs2 b3 p9),W=q.val:=Such.bI ⟨h1.blk.cells,h2.blk.cells,h3.blk.cells⟩
theorem aY {P:Program} {Q:Exit→Act→World→Prop} {w:World} {id:Nat} {l:List Oper} {a:Act} (h1:SB w.drew C c b t cs) (h2:SB w.drew C c2 b2 t2 cs2) (h3:SB w.drew C c3 b3 t3 p9) (n:Nat) (ph:List (List Nat×Nat)) (ls is:List Nat) (hm:P.follows .mixedOrders=true)
  (hB:(Region.noSelect l.toArray && Region.chainB .any l.toArray n && decide (gX ph+ls.length+is.length=l.length) && Cn .any l.toArray n (cG .any l.toArray n [n]) ph (Array.replicate l.toArray.size false) &&
   gD .any l.toArray n (cG .any l.toArray n [n]) ls (fB ph (Array.replicate l.toArray.size false)) && fR .any l.toArray is (bV ls (fB ph (Array.replicate l.toArray.size false))))=true)
  (h:iK P l.toArray (NoPanic Q) (fun w'=>∃ q:Such (S3 b cs b2 cs2 b3 p9),w'=q.val) (fun a w=>wpQuiet P l.toArray (fun w'=>∃ q:Such (S3 b cs b2 cs2 b3 p9),w'=q.val) (fun a'=>cH P l.toArray (NoPanic Q) (fun w'=>∃ q:Such (S3 b cs b2 cs2 b3 p9),w'=q.val) n is a' w) (au l.toArray ls) a) ph a w.drew):(Code.region id l.toArray true).wp P Q a w:=
 az (fun w'=>∃ q:Such (S3 b cs b2 cs2 b3 p9),w'=q.val) n ph ls is hm hB (jz h1 h2 h3) h
end
theorem hU (W:Wd) (x:Int) (hx:eU W=x) (w:World):Calls Tryz.prog 161 #[W.val] w fun e w'=>(∃ ec:Int,e= .returned (.tuple #[.int .u64 x,.int .i64 ec]))∧Below w.heap.size w w':=by
 subst hx
 exact(tP W w).mono fun e w' h=>⟨⟨_,h.1⟩,h.2⟩
theorem j8 (d:Ds) (x:Int) (hx:cL d=x) (w:World):Calls Tryz.prog 100 #[d.vals] w fun e w'=>(∃ ec:Int,e= .returned (.tuple #[.int .u64 x,.int .i64 ec]))∧Below w.heap.size w w':=by
 subst hx
 exact(tQ d w).mono fun e w' h=>⟨⟨_,h.1⟩,h.2⟩
theorem ou (X:World) (p:Addr) (u:Value):X.drew.setCell p u=(X.setCell p u).drew:=rfl
def dK (c s:Nat):Nat→Prop:=fun x=>x=c∨x=s∨x=1
theorem iY (c s:Nat):∀ x,K1 x→dK c s x:=fun _ h=> .inr (.inr h)
theorem eE (c s:Nat):∀ x,Kc c x→dK c s x:=fun _ h=>h.elim .inl (fun h=> .inr (.inr h))
theorem aR (c s:Nat):∀ x,K0 c x→dK c s x:=fun _ h=> .inl h
theorem ej (c s:Nat):∀ x,K0 s x→dK c s x:=fun _ h=> .inr (.inl h)
variable {w w':World} {C C':Nat→Nat} {K:Nat→Prop} {T:List (Option TypeId)} {c:Nat}
theorem SB.mv {t:TypeId} {cs:Array Value} (h:SB w C c b t cs) (k:Fr C K T w w') (a:aB w.heap.size C C') (hk:¬ K c∨some t∉T):SB w' C' c b t cs:=SB.mk (h.blk.fr k (by rw[h.col];exact hk)) ((a b h.lt).trans h.col)
theorem Row.mv {e:TypeId} {size n:Nat} {v:Value} {xs:List Value} (h:Row w C c e size v n xs) (k:Fr C K T w w') (a:aB w.heap.size C C') (hk:¬ K c∨some e∉T):Row w' C' c e size v n xs:=by
 have h2:=h.nv a
 refine⟨vK h.own k (hk.imp (fun h1 g hg=>by rw[h.col g hg];exact h1) id),h2.col⟩
theorem Sr.mv {e:TypeId} {size n:Nat} {A:Option Addr} {xs:List Value} (h:Sr w C c e size A n xs) (k:Fr C K T w w') (a:aB w.heap.size C C') (hk:¬ K c∨some e∉T):Sr w' C' c e size A n xs:=by
 have h1:=h.fr k hk
 refine⟨h1.sl,fun hn=> ?_⟩
 obtain⟨cs,hb,-⟩:=h1.blk hn
 obtain⟨cs0,hb0,hc0⟩:=h.blk hn
 exact⟨cs,hb,(a _ hb0.lt).trans hc0⟩
variable {L:Ly}
theorem lB.mv {l:List Int} (h:lB w C c b L l) (k:Fr C K T w w') (a:aB w.heap.size C C') (hk:¬ K c∨(some 259∉T∧some 3∉T)):lB w' C' c b L l:=by
 obtain⟨A,m,h1,h2,h3⟩:=h.ex
 exact⟨⟨A,m,h1.mv k a (hk.imp id (·.1)),h2.mv k a (hk.imp id (·.2)),h3⟩,h.small⟩
theorem mo.mv {x:gL} (h:mo w C c b L x) (k:Fr C K T w w') (a:aB w.heap.size C C') (hk:¬ K c∨some 185∉T):mo w' C' c b L x:=⟨h.blk.mv k a hk,h.found,h.at_,h.left⟩
theorem gl.mv {x:gR} (h:gl w C c b L x) (k:Fr C K T w w') (a:aB w.heap.size C C') (hk:¬ K c∨some 230∉T):gl w' C' c b L x:=⟨h.blk.mv k a hk,h.word,h.found,h.at_⟩
theorem oe.mv {x:CR} (h:oe w C c b L x) (k:Fr C K T w w') (a:aB w.heap.size C C') (hk:¬ K c∨some 204∉T):oe w' C' c b L x:=⟨h.blk.mv k a hk,h.thread,h.at_⟩
variable {M:ML} {m:Mm}
theorem aj.mv (h:aj w C M m) (k:Fr C K T w w') (a:aB w.heap.size C C') (hk:¬ K 1∨(some 75∉T∧some 34∉T)):aj w' C' M m:=
 aj.col (h.fr k hk) (a _ h.Co.1) (a _ h.Co.2)
structure lD (w:World) (C:Nat→Nat) (c b n:Nat) (l:List Int):Prop where
 at_:cA w b n l
 col:C b=c
theorem kS (x:Int): -9223372036854775808≤wrap64 x∧wrap64 x<9223372036854775808:=by
 unfold wrap64;omega
theorem sx:(∀ (l:List Value) (i:Nat) (a:Value),l.toArray.setIfInBounds i a=(l.set i a).toArray)∧(∀ (x a:Value) (l:List Value),(x::l).set 0 a=a::l)∧(∀ (x a:Value) (l:List Value) (i:Nat),(x::l).set (i+1) a=x::l.set i a):=⟨by intros;simp,by intros;rfl,by intros;rfl⟩
theorem Fr.b4 {L:List (Option TypeId)} {w w':World} (h:Fr C (fun _=>False) L w w'):Below w.heap.size w w':=h.below (fun _ _ h=>h) (Nat.le_refl _)
theorem ox:(∀ (ops:Array Oper) (is:List Nat),au ops is=is.map fun i=>ops.toList.getD i default)∧(∀ (f:Nat→Oper) (a:Nat) (l:List Nat),List.map f (a::l)=f a::List.map f l)∧(∀ (f:Nat→Oper),List.map f []=[])∧(∀ (a d:Oper) (l:List Oper),(a::l).getD 0 d=a)∧(∀ (a d:Oper) (l:List Oper) (n:Nat),(a::l).getD (n+1) d=l.getD n d):=⟨fun _ _=>rfl,fun _ _ _=>rfl,fun _=>rfl,fun _ _ _=>rfl,fun _ _ _ _=>rfl⟩
theorem di {P:Program} {ops:Array Oper} {Q:Exit→Act→World→Prop} {S:World→Prop} {F:Act→World→Prop} {i:Nat} {o:Oper} {ph:List (List Nat×Nat)} {a:Act} {w:World} (ho:ops[i]? =some o)
  (h:∀ K:Act→World→Prop,(∀ a' w',S w'→iK P ops Q S F ph a' w'→K a' w')→if Region.wanted o (yielded ops a.tmps)=true then Oper.wp P o a w K Q else K (a.put o.dst undef) w):
  wpQuiet P ops S (fun a'=>wpOp P ops Q i (fun a'' w''=>S w''∧iK P ops Q S F ph a'' w'') a' w) [] a:=wpQuiet_nil (bm ho h)
theorem lD.mv {c b n:Nat} {l:List Int} (h:lD w C c b n l) (k:Fr C K T w w') (a:aB w.heap.size C C') (hk:¬ K c∨none∉T):lD w' C' c b n l:=⟨h.at_.fr k h.col hk,(a _ h.at_.lt).trans h.col⟩
def dr (T T':List (Option TypeId)):Prop:=∀ x∈T,x∉T'
instance (T T':List (Option TypeId)):Decidable (dr T T'):=by unfold dr;infer_instance
class Mv (P:Prop) (w:outParam World) (C:outParam (Nat→Nat)) (T:outParam (List (Option TypeId))) (Q:outParam (World→(Nat→Nat)→Prop)):Prop where
 mv:∀ {K:Nat→Prop} {T':List (Option TypeId)} {w':World} {C':Nat→Nat},P→Fr C K T' w w'→aB w.heap.size C C'→dr T T'→Q w' C'
section
variable {w w' w0:World} {C C' C0:Nat→Nat} {c b n sz:Nat} {t:TypeId} {cs:Array Value} {L:Ly} {M:ML} {m:Mm} {K K':Nat→Prop} {LT GI:List (Option TypeId)}
instance:Mv (SB w C c b t cs) w C [some t] (fun w' C'=>SB w' C' c b t cs):=⟨fun h k a hk=>h.mv k a (.inr (hk _ (List.mem_cons_self ..)))⟩
instance {v:Value} {xs:List Value}:Mv (Row w C c t sz v n xs) w C [some t] (fun w' C'=>Row w' C' c t sz v n xs):=⟨fun h k a hk=>h.mv k a (.inr (hk _ (List.mem_cons_self ..)))⟩
instance {A:Option Addr} {xs:List Value}:Mv (Sr w C c t sz A n xs) w C [some t] (fun w' C'=>Sr w' C' c t sz A n xs):=⟨fun h k a hk=>h.mv k a (.inr (hk _ (List.mem_cons_self ..)))⟩
instance {l:List Int}:Mv (lB w C c b L l) w C [some 259,some 3] (fun w' C'=>lB w' C' c b L l):=⟨fun h k a hk=>h.mv k a (.inr ⟨hk _ (by decide),hk _ (by decide)⟩)⟩
instance {x:gL}:Mv (mo w C c b L x) w C [some 185] (fun w' C'=>mo w' C' c b L x):=⟨fun h k a hk=>h.mv k a (.inr (hk _ (by decide)))⟩
instance {x:gR}:Mv (gl w C c b L x) w C [some 230] (fun w' C'=>gl w' C' c b L x):=⟨fun h k a hk=>h.mv k a (.inr (hk _ (by decide)))⟩
instance {x:CR}:Mv (oe w C c b L x) w C [some 204] (fun w' C'=>oe w' C' c b L x):=⟨fun h k a hk=>h.mv k a (.inr (hk _ (by decide)))⟩
instance {l:List Int}:Mv (lD w C c b n l) w C [none] (fun w' C'=>lD w' C' c b n l):=⟨fun h k a hk=>h.mv k a (.inr (hk _ (List.mem_cons_self ..)))⟩
instance:Mv (aj w C M m) w C [some 75,some 34] (fun w' C'=>aj w' C' M m):=⟨fun h k a hk=>h.mv k a (.inr ⟨hk _ (by decide),hk _ (by decide)⟩)⟩
def Nw (_:World) (_:Nat→Nat):Prop:=True
theorem Jv (w:World) (C:Nat→Nat) {A B:Prop} (h:A→Nw w C→B) (a:A):B:=h a trivial
instance:Mv (Nw w C) w C [] (fun w' C'=>Nw w' C'):=⟨fun _ _ _ _=>trivial⟩
class Gm (G:Prop) (w:outParam World) (C:outParam (Nat→Nat)) (B:outParam Prop) (T:outParam (List (Option TypeId))) (G':outParam (World→(Nat→Nat)→Prop→Prop)):Prop where
 mv:((∀ {K:Nat→Prop} {T':List (Option TypeId)} {w':World} {C':Nat→Nat} {B':Prop},Fr C K T' w w'→aB w.heap.size C C'→dr T T'→G' w' C' B'→B')→B)→G
variable {G B P:Prop} {T T1 T2:List (Option TypeId)} {Q:World→(Nat→Nat)→Prop} {G':World→(Nat→Nat)→Prop→Prop}
instance (priority:=low) Gm.one [Mv P w C T Q]:Gm (P→B) w C B T (fun w' C' B'=>Q w' C'→B'):=⟨fun f p=>f (fun k a hk g=>g (Mv.mv p k a hk))⟩
instance Gm.cons [Mv P w C T1 Q] [Gm G w C B T2 G']:Gm (P→G) w C B (T1++T2) (fun w' C' B'=>Q w' C'→G' w' C' B'):=
 ⟨fun f p=>Gm.mv (G:=G) (fun s=>f (fun k a hk g=>s k a (fun x hx=>hk x (List.mem_append_right _ hx)) (g (Mv.mv p k a (fun x hx=>hk x (List.mem_append_left _ hx))))))⟩
variable [Gm G w C B T G']
theorem kx (hf:Fr C K' GI w w') (a:aB w.heap.size C C') (hK:∀ x,K' x→K x) (hL:∀ x,x∈GI→x∈LT) (k:aB w0.heap.size C0 C'→Fr C0 K LT w0 w'→G' w' C' B) (hT:dr T GI:=by decide):aB w0.heap.size C0 C→Fr C0 K LT w0 w→G:=
 fun ag fr=>Gm.mv (G:=G) (C:=C) (fun s=>s hf a hT (k (ag.trans a fr.size) (fr.trans (hf.mono hK hL) ag)))
theorem dS (hf:Fr C K' GI w w') (hK:∀ x,K' x→K x) (hL:∀ x,x∈GI→x∈LT) (ag:aB w0.heap.size C0 C) (k:Fr C0 K LT w0 w'→G' w' C B) (hT:dr T GI:=by decide):Fr C0 K LT w0 w→G:=
 fun fr=>Gm.mv (G:=G) (C:=C) (fun s=>s hf (aB.refl _ _) hT (k (fr.trans (hf.mono hK hL) ag)))
theorem dX {T:List (Option TypeId)} [Gm G w C B T G'] (hb:Below w.heap.size w w') (k:Fr C0 K LT w0 w'→G' w' C B):Fr C0 K LT w0 w→G:=
 fun fr=>Gm.mv (G:=G) (C:=C) (fun s=>s (Fr.of_below hb C (fun _=>False) []) (aB.refl _ _) (fun _ _ h=>by cases h) (k (fr.step hb)))
theorem bD {T:List (Option TypeId)} [Gm G w C B T G'] (k:Fr C0 K LT w0 w.drew→G' w.drew C B):Fr C0 K LT w0 w→G:=dX (Below.refl _ _).drew k
theorem st1 (h:SB w C c b t cs) (i:Nat) (v:Value) (hK:∀ x,K0 c x→K x) (ag:aB w0.heap.size C0 C) (k:∀ w',w.setCell ⟨b,i,none⟩ v=w'→Fr C0 K LT w0 w'→SB w' C c b t (cs.setIfInBounds i v)→G' w' C B) (hL:∀ x,x∈[some t]→x∈LT:=by decide) (hT:dr T [some t]:=by decide):Fr C0 K LT w0 w→G:=
 fun fr=>Gm.mv (G:=G) (C:=C) (fun s=>s (h.qh i v) (aB.refl _ _) hT (k _ rfl (fr.trans ((h.qh i v).mono hK hL) ag) (h.ao i v)))
theorem vX (h:SB w C c b t cs) (i:Nat) (v:Value) (k:∀ w',w.setCell ⟨b,i,none⟩ v=w'→Fr C0 K LT w0 w'→SB w' C c b t (cs.setIfInBounds i v)→G' w' C B) (hb:w0.heap.size≤b:=by first | exact Nat.le_refl _ | assumption | (simp<;>omega) | omega) (hT:dr T [some t]:=by decide):Fr C0 K LT w0 w→G:=
 fun fr=>Gm.mv (G:=G) (C:=C) (fun s=>s (h.qh i v) (aB.refl _ _) hT (k _ rfl (fr.ct (p:=⟨b,i,none⟩) hb v) (h.ao i v)))
theorem bx1 {T:List (Option TypeId)} [Gm G w C B T G'] (t:TypeId) (cs:Array Value) (k:∀ w',w.alloc (.cells cs t)=w'→w0.heap.size≤w.heap.size→Fr C0 K LT w0 w'→SB w' C (C w.heap.size) w.heap.size t cs→G' w' C B):Fr C0 K LT w0 w→G:=
 fun fr=>Gm.mv (G:=G) (C:=C) (fun s=>s (Fr.of_below ((Below.refl _ _).alloc (Nat.le_refl _) (.cells cs t)) C (fun _=>False) []) (aB.refl _ _) (fun _ _ h=>by cases h) (k _ rfl fr.size (fr.step ((Below.refl _ _).alloc (Nat.le_refl _) _)) (SB.new w C rfl t cs rfl)))
end
def Cr (b:Nat):World→List (Nat×Value)→World
 | w,[]=>w
 | w,(i,v)::l=>Cr b (w.setCell ⟨b,i,none⟩ v) l
def Fl:Array Value→List (Nat×Value)→Array Value
 | cs,[]=>cs
 | cs,(i,v)::l=>Fl (cs.setIfInBounds i v) l
theorem mD (w:World) (b i j:Nat) (v:Value) (h:(i==j)=false):(w.setCell ⟨b,i,none⟩ v).cell? ⟨b,j,none⟩=w.cell? ⟨b,j,none⟩:=
 World.cell?_setCell_other _ _ _ _ (by intro e;injection e with _ e;subst e;simp at h)
theorem mE (w:World) (b b' i j:Nat) (v:Value) (h:b≠b'):(w.setCell ⟨b,i,none⟩ v).cell? ⟨b',j,none⟩=w.cell? ⟨b',j,none⟩:=
 World.cell?_setCell_other _ _ _ _ (by intro e;injection e with e;exact h e)
theorem ko:(∀ (w:World) (p:Addr) (v:Value) (q:Addr),(w.setCell p v).frozen? q=w.frozen? q)∧(∀ (w:World) (b i j:Nat) (v:Value),(i==j)=false→(w.setCell ⟨b,i,none⟩ v).cell? ⟨b,j,none⟩=w.cell? ⟨b,j,none⟩)∧(∀ (w:World) (b b' i j:Nat) (v:Value),b≠b'→(w.setCell ⟨b,i,none⟩ v).cell? ⟨b',j,none⟩=w.cell? ⟨b',j,none⟩):=⟨fun w p v q=>World.frozen?_setCell w p q v,mD,mE⟩
theorem stx:(∀ b w,Cr b w []=w)∧(∀ b w i v l,Cr b w ((i,v)::l)=Cr b (w.setCell ⟨b,i,none⟩ v) l)∧(∀ cs,Fl cs []=cs)∧∀ cs i v l,Fl cs ((i,v)::l)=Fl (cs.setIfInBounds i v) l:=⟨fun _ _=>rfl,fun _ _ _ _ _=>rfl,fun _=>rfl,fun _ _ _ _=>rfl⟩
theorem SB.sets {t:TypeId}:∀ (l:List (Nat×Value)) {w:World} {cs:Array Value},SB w C c b t cs→Fr C (K0 c) [some t] w (Cr b w l)∧SB (Cr b w l) C c b t (Fl cs l)
 | [],_,_,h=>⟨Fr.refl _ _ _ _,h⟩
 | (i,v)::l,_,_,h=>⟨(h.qh i v).eX (SB.sets l (h.ao i v)).1,(SB.sets l (h.ao i v)).2⟩
theorem SB.yG {c b b':Nat} {t:TypeId} (hne:b'≠b):∀ (l:List (Nat×Value)) {w:World} {cs:Array Value},SB w C c b' t cs→SB (Cr b w l) C c b' t cs
 | [],_,_,h=>h
 | (i,v)::l,_,_,h=>SB.yG hne l (h.far (p:=⟨b,i,none⟩) hne v)
theorem Fr.news {C0:Nat→Nat} {K:Nat→Prop} {LT:List (Option TypeId)} {w0:World} {b:Nat} (hb:w0.heap.size≤b):∀ (l:List (Nat×Value)) {w:World},Fr C0 K LT w0 w→Fr C0 K LT w0 (Cr b w l)
 | [],_,h=>h
 | (i,v)::l,_,h=>Fr.news hb l (h.ct (p:=⟨b,i,none⟩) hb v)
section
variable {w w' w0:World} {C C0:Nat→Nat} {c b:Nat} {t:TypeId} {cs:Array Value} {K:Nat→Prop} {LT:List (Option TypeId)} {G B:Prop} {T:List (Option TypeId)} {G':World→(Nat→Nat)→Prop→Prop}
theorem kT [Gm G w.drew C B T G'] (h:SB w.drew C c b t cs) (i:Nat) (v:Value) (hK:∀ x,K0 c x→K x) (ag:aB w0.heap.size C0 C) (k:∀ w',(w.setCell ⟨b,i,none⟩ v).drew=w'→Fr C0 K LT w0 w'→SB w' C c b t (cs.setIfInBounds i v)→G' w' C B) (hL:∀ x,x∈[some t]→x∈LT:=by decide) (hT:dr T [some t]:=by decide):Fr C0 K LT w0 w.drew→G:=st1 h i v hK ag k hL hT
theorem yH [Gm G w C B T G'] (h:SB w C c b t cs) (l:List (Nat×Value)) (hK:∀ x,K0 c x→K x) (ag:aB w0.heap.size C0 C) (k:∀ w',Cr b w l=w'→Fr C0 K LT w0 w'→SB w' C c b t (Fl cs l)→G' w' C B) (hL:∀ x,x∈[some t]→x∈LT:=by decide) (hT:dr T [some t]:=by decide):Fr C0 K LT w0 w→G:=
 fun fr=>Gm.mv (G:=G) (C:=C) (fun s=>s (h.sets l).1 (aB.refl _ _) hT (k _ rfl (fr.trans ((h.sets l).1.mono hK hL) ag) (h.sets l).2))
theorem gO [Gm G w C B T G'] (h:SB w C c b t cs) (l:List (Nat×Value)) (k:∀ w',Cr b w l=w'→Fr C0 K LT w0 w'→SB w' C c b t (Fl cs l)→G' w' C B) (hb:w0.heap.size≤b:=by first | exact Nat.le_refl _ | assumption | (simp<;>omega) | omega) (hT:dr T [some t]:=by decide):Fr C0 K LT w0 w→G:=
 fun fr=>Gm.mv (G:=G) (C:=C) (fun s=>s (h.sets l).1 (aB.refl _ _) hT (k _ rfl (fr.news hb l) (h.sets l).2))
theorem bx0 (w:World) (t:TypeId) (cs:Array Value) (k:∀ (C:Nat→Nat) w',w.alloc (.cells cs t)=w'→aB w.heap.size C C→Fr C (fun _=>False) [] w w'→SB w' C (C w.heap.size) w.heap.size t cs→B):B:=
 k (fun _=>0) _ rfl (aB.refl _ _) (Fr.of_below ((Below.refl _ _).alloc (Nat.le_refl _) _) _ _ _) (SB.new w _ rfl t cs rfl)
theorem Lx (C:Nat→Nat) (w:World) (t:TypeId) (cs:Array Value) (k:∀ w',w.alloc (.cells cs t)=w'→aB w.heap.size C C→Fr C (fun _=>False) [] w w'→SB w' C (C w.heap.size) w.heap.size t cs→B):B:=
 k _ rfl (aB.refl _ _) (Fr.of_below ((Below.refl _ _).alloc (Nat.le_refl _) _) _ _ _) (SB.new w _ rfl t cs rfl)
theorem yI [Gm G w.drew C B T G'] (t:TypeId) (cs:Array Value) (k:∀ w',(w.alloc (.cells cs t)).drew=w'→w0.heap.size≤w.heap.size→Fr C0 K LT w0 w'→SB w' C (C w.heap.size) w.heap.size t cs→G' w' C B):Fr C0 K LT w0 w.drew→G:=bx1 t cs k
theorem bk {P:Program} {f:FuncId} {args:Array Value} {R:Ending→Prop} {Q:Ending→World→Prop} (h:Calls P f args w (fun e w'=>R e∧Below w.heap.size w w')) [Gm G w C (Calls P f args w Q) T G'] (k:∀ e w',R e→Fr C0 K LT w0 w'→G' w' C (Q e w')):Fr C0 K LT w0 w→G:=
 fun fr=>Gm.mv (G:=G) (C:=C) (fun s=>h.mono fun e w' hh=>s (Fr.of_below hh.2 C (fun _=>False) []) (aB.refl _ _) (fun _ _ h=>by cases h) (k e w' hh.1 (fr.step hh.2)))
end
structure lE (w:World) (C:Nat→Nat) (c s b:Nat) (L:Ly) (x:iH):Prop where
 look:x.at_<2*L.th→sj w C c b L x.nodes x.seen x.at_
 give:2*L.th≤x.at_→oo w C c s b L x.at_ x.kept x.freed x.give
 at_:0≤x.at_∧x.at_≤2*L.th
 small:Small x.nodes
 vY:Small x.kept
 len:x.nodes.length≤100000∧x.give.length≤100000
def Hm:List (Option TypeId):=[some 212,some 259,some 3,none]
def Cs:List (Option TypeId):=[some 212,some 259,none,some 75,some 34]
theorem AH:∀ x,x∈LM→x∈Cs:=by decide
theorem CY:∀ x,x∈Jr→x∈Cs:=by decide
theorem AI:∀ x,x∈[some 212]→x∈Cs:=by decide
theorem sj.mv {l seen:List Int} {at_:Int} (h:sj w C c b L l seen at_) (k:Fr C K T w w') (a:aB w.heap.size C C') (hk:¬ K c∨dr Hm T):sj w' C' c b L l seen at_:=by
 obtain⟨An,n,cn,mb,k0,h1,h2,h3,h3',h4,h5,h6⟩:=h.ex
 exact⟨An,n,cn,mb,k0,h1,h2.mv k a (hk.imp id (fun h=>h _ (by decide))),h3.mv k a (hk.imp id (fun h=>h _ (by decide))),h3',h4.fr k h5 (hk.imp id (fun h=>h _ (by decide))),(a _ h4.lt).trans h5,h6⟩
variable {s:Nat}
theorem oo.mv {at_:Int} {kept freed give:List Int} (h:oo w C c s b L at_ kept freed give) (k:Fr C K T w w') (a:aB w.heap.size C C') (hk:(¬ K c∧¬ K s)∨dr Hm T):oo w' C' c s b L at_ kept freed give:=by
 obtain⟨Ak,Af,nk,nf,ck,cf,bg,vn,vm,h1,h2,h3,h4,h5⟩:=h.ex
 exact⟨Ak,Af,nk,nf,ck,cf,bg,vn,vm,h1,h2,h3.mv k a (hk.imp (·.1) (fun h=>h _ (by decide))),h4.mv k a (hk.imp (·.2) (fun h=>h _ (by decide))),h5.mv k a (hk.imp (·.1) (fun h=>⟨h _ (by decide),h _ (by decide)⟩))⟩
theorem lE.mv {x:iH} (h:lE w C c s b L x) (k:Fr C K T w w') (a:aB w.heap.size C C') (hk:(¬ K c∧¬ K s)∨dr Hm T):lE w' C' c s b L x:=
 ⟨fun h1=>(h.look h1).mv k a (hk.imp (·.1) id),fun h1=>(h.give h1).mv k a hk,h.at_,h.small,h.vY,h.len⟩
theorem vZ (M:ML) (m:Mm) (l:List Int):(ez M m l).2.2.length≤l.length:=by cases l<;>simp[ez]
theorem cA.qh {c mb n:Nat} {l:List Int} (h:cA w mb n l) (hC:C mb=c) (hg:w.grownBy w' (some mb)):Fr C (K0 c) [none] w w':=by
 obtain⟨D,⟨es,clock,h4,-⟩,-⟩:=h
 refine(Fr.refl C (K0 c) [none] w).grown hg fun g e=> ?_
 injection e with e
 subst e
 exact⟨hC,_,h4,by simp[Eo]⟩
theorem uf:∀ x,x∈[none]→x∈Cs:=by decide
structure Jw (C:Nat→Nat) (c s b:Nat) (M:ML) (r:Bool×Mm×iH) (w:World) (e:Ending) (w':World):Prop where
 ret:e= .returned (.bool r.1)
 own:∃ C',aB w.heap.size C C'∧aj w' C' M r.2.1∧lE w' C' c s b M.L r.2.2
 fr:Fr C (Kc c) Cs w w'
theorem v7 {x:iH} (hm:aj w C M m) (h:lE w C c s b M.L x) (hat:2*M.L.th≤x.at_):Calls Tryz.prog 137 #[.pointer (some ⟨b,0,none⟩),.pointer (some ⟨M.b,0,none⟩)] w (Jw C c s b M (cI M m x) w):=by
 obtain⟨nodes,seen,at_,kept,freed,give⟩:=x
 have HST:Hid (cI M m ⟨nodes,seen,at_,kept,freed,give⟩=((ez M m give).1,(ez M m give).2.1,⟨nodes,seen,at_,kept,freed,(ez M m give).2.2⟩)):=Lib.hid (by unfold cI;rw[if_pos hat])
 obtain⟨-,hg,gN,hsm,hsk,hln⟩:=h
 obtain⟨Ak,Af,nk,nf,ck,cf,bg,vn,vm,hnk,hnf,sb,hrow,hgv⟩:=hg hat
 simp only at hat gN hsm hsk hln hnk hnf sb hrow hgv
 obtain⟨r,hr⟩:∃ r,ez M m give=r:=⟨_,rfl⟩
 have Lz:=fun W (h1:aj W C M m) (h2:lB W C c bg M.L give)=>yt h1 h2 hln.2
 rw[hr] at HST Lz
 have d0:decide (at_≥2*M.L.th)=true:=decide_eq_true hat
 clear hg
 go_enter Tryz.func137,Tryz.ntmps137
 have fr:=Fr.refl C (Kc c) Cs w
 have ag:=aB.refl w.heap.size C
 go_wp2_with fail
 revert hgv;revert hrow;revert hm;revert sb;revert fr;refine bD ?_;intro fr sb hm hrow hgv
 obtain⟨q1,qi⟩:=aV sb
 refine ar sb 9 [] [0,1,2,3,4,5,6,7] [8,9] (by kernel_rfl) (by kernel_rfl) ?_
 refine af ?_;try simp only[ox]
 repeat(go_big_quiet_step (fail))
 refine wpQuiet_nil ?_
 refine ay rfl (fun K' hK'=> ?_);go_simp
 ((with_reducible refine(fD M.L hm.ok _).mono ?_);rintro e w1 ⟨rfl,hb1⟩)
 revert fr sb hm hrow hgv;refine dX hb1 ?_;intro fr sb hm hrow hgv
 refine hK' _ _ (bZ sb) ?_;clear hK' K'
 refine ae _ _ _ (by kernel_rfl) ?_;try simp only[ox]
 clear qi q1
 go_wp2_with fail
 refine NoPanic.normal ?_
 go_wp2_with fail
 refine(Lz _ hm hgv).mono ?_;clear hm hgv;rintro e w2 ⟨rfl,hm,hgv,hf⟩
 revert fr sb hrow;refine dS hf (fun _ h=>h) CY ag ?_;clear hf;intro fr sb hrow
 go_wp2_with fail
 go_ret
 refine⟨by rw[HST.out];rfl,⟨C,aB.refl _ _,by rw[HST.out];exact hm,?_⟩,fr⟩
 rw[HST.out]
 exact⟨fun h=>by simp only at h;omega,fun _=>⟨Ak,Af,nk,nf,ck,cf,bg,vn,vm,hnk,hnf,sb,hrow,hgv⟩,gN,hsm,hsk,hln.1,by simp only;rw[←hr];exact Nat.le_trans (vZ M m give) hln.2⟩
theorem AJ {x:iH} (hm:aj w C M m) (h:lE w C c s b M.L x) (hat:x.at_<2*M.L.th) (h0:¬ x.at_+1=2*M.L.th):Calls Tryz.prog 137 #[.pointer (some ⟨b,0,none⟩),.pointer (some ⟨M.b,0,none⟩)] w (Jw C c s b M (cI M m x) w):=by
 obtain⟨nodes,seen,at_,kept,freed,give⟩:=x
 obtain⟨hg,-,gN,hsm,hsk,hln⟩:=h
 obtain⟨An,n,cn,mb,k0,hn,sb,hsr,hcn,hse,hmb,hk0⟩:=hg hat
 simp only at hat gN hsm hsk hln hn sb hsr hse hk0 h0
 have hth:=hm.ok.th
 have cr:=bJ hm (M.L.slot 0 at_)
 obtain⟨v,hv⟩:∃ v,ld M m (M.L.slot 0 at_)=v:=⟨_,rfl⟩
 have HST:Hid (cI M m ⟨nodes,seen,at_,kept,freed,give⟩=(false,m,(⟨nodes,wrap64 v::seen,at_+1,kept,freed,give⟩:iH))):=Lib.hid (by unfold cI;rw[if_neg (by simp only;omega)];rw[if_neg h0,hv];rfl)
 rw[hv] at cr
 have HV:=Lib.hid hv
 have HN:=Lib.hid hn
 have mC:=Lib.hid hsm
 have Jx:=Lib.hid hsk
 have Jy:=Lib.hid hln
 have hnn:n≤100000:=by rw[←hn];exact hln.1
 have d0:decide (at_≥2*M.L.th)=false:=by simp;omega
 have e6:wrap64 (at_+1)=at_+1:=IntWalk.wrap64_in _ (by omega)
 have hwr:=kS v
 replace hse:lD w C c mb k0 seen:=⟨hse,hmb⟩
 have H0:=Lib.hid h0
 clear hg hv hn hsm hsk hln h0
 go_enter Tryz.func137,Tryz.ntmps137
 have fr:=Fr.refl C (Kc c) Cs w
 have ag:=aB.refl w.heap.size C
 go_wp2_with fail
 revert hse;revert hsr;revert hm;revert sb;revert fr;refine bD ?_;intro fr sb hm hsr hse
 obtain⟨q1,qi⟩:=aV sb
 refine ar sb 9 [] [0,1,2,3,4,5,6,7] [8,9] (by kernel_rfl) (by kernel_rfl) ?_
 refine af ?_;try simp only[ox]
 repeat(go_big_quiet_step (fail))
 refine wpQuiet_nil ?_
 refine ay rfl (fun K' hK'=> ?_);go_simp
 ((with_reducible refine(fD M.L hm.ok _).mono ?_);rintro e w1 ⟨rfl,hb1⟩)
 revert fr sb hm hsr hse;refine dX hb1 ?_;intro fr sb hm hsr hse
 refine hK' _ _ (bZ sb) ?_;clear hK' K'
 refine ae _ _ _ (by kernel_rfl) ?_;try simp only[ox]
 clear qi q1
 go_wp2_with fail
 refine NoPanic.normal ?_
 go_wp2_with fail
 revert fr sb hm hsr hse;refine bD ?_;intro fr sb hm hsr hse
 obtain⟨q1,qi⟩:=aV sb
 refine ar sb 16 [([0,1,2,3,4,5,6,7,8,9,10,11,12],13),([],14)] [15] [16] (by kernel_rfl) (by kernel_rfl) ?_
 refine ai ?_;simp only[ox];repeat(go_big_quiet_step (fail))
 refine di rfl (fun K' hK'=> ?_);go_simp
 ((with_reducible refine(jG M.L hm.ok 0 at_ (by omega) (by omega) _).mono ?_);rintro e w2 ⟨rfl,hb2⟩)
 revert fr sb hm hsr hse;refine dX hb2 ?_;intro fr sb hm hsr hse
 refine hK' _ _ (bZ sb) ?_;clear hK' K'
 refine ai ?_;simp only[ox];repeat(go_big_quiet_step (fail))
 refine di rfl (fun K' hK'=> ?_);go_simp
 ((with_reducible refine(aP hm (M.L.slot 0 at_)).mono ?_);clear hm;rintro e w3 ⟨rfl,hm,hf⟩)
 rw[HV.out]
 revert fr sb hsr hse;refine dS hf (aS c) AH ag ?_;clear hf;intro fr sb hsr hse
 refine hK' _ _ (bZ sb) ?_;clear hK' K'
 refine af ?_;try simp only[ox]
 repeat(go_big_quiet_step (fail))
 refine wpQuiet_nil ?_
 refine ae _ _ _ (by kernel_rfl) ?_;try simp only[ox]
 clear qi q1
 obtain⟨w9,hput,AK,Hn⟩:=hse.at_.put (by unfold maxLen;omega) (wrap64 v) (.int .i64 (wrap64 v)) (nS _ hwr)
 have bU:=hse.at_.qh hmb Hn
 go_wp2_with fail
 refine NoPanic.normal ?_
 revert hm sb hsr;revert fr;refine dS bU (aL c) uf ag ?_;clear bU;intro fr hm sb hsr
 replace hse:lD w9 C c mb (k0+1) (wrap64 v::seen):=⟨AK,hmb⟩
 clear AK hput Hn
 have z1:=sb
 revert hse;revert hsr;revert hm;revert fr;refine st1 sb 6 (.int .i64 (at_+1)) (aL c) ag ?_;clear sb;rintro w4 e1 fr sb hm hsr hse
 simp only[sx] at sb
 go_wp2_with fail
 clear z1 e1
 have d5:((at_+1:Int)==2*M.L.th)=false:=beq_eq_false_iff_ne.2 H0.out
 revert fr hm hsr hse sb;refine bD ?_;intro fr hm hsr hse sb
 obtain⟨q1,qi⟩:=aV sb
 refine ar sb 12 [([0,1,2,3,4,5,6,7],8)] [9,10,11] [12,13,14] (by kernel_rfl) (by kernel_rfl) ?_
 refine ai ?_;simp only[ox];repeat(go_big_quiet_step (fail))
 refine di rfl (fun K' hK'=> ?_);go_simp
 ((with_reducible refine(fD M.L hm.ok _).mono ?_);rintro e w5 ⟨rfl,hb5⟩)
 revert fr hm hsr hse sb;refine dX hb5 ?_;intro fr hm hsr hse sb
 refine hK' _ _ (bZ sb) ?_;clear hK' K'
 refine af ?_;try simp only[ox]
 repeat(go_big_quiet_step (fail))
 refine wpQuiet_nil ?_
 refine ae _ _ _ (by kernel_rfl) ?_;try simp only[ox]
 clear qi q1
 go_wp2_with fail
 refine NoPanic.normal ?_
 go_wp2_with fail
 go_ret
 refine⟨by rw[HST.out];rfl,⟨C,aB.refl _ _,by rw[HST.out];exact hm,?_⟩,fr⟩
 rw[HST.out]
 have h0:=H0.out
 exact⟨fun _=>⟨An,n,cn,mb,k0+1,HN.out,sb,hsr,hcn,hse.at_,hmb,by simp only;omega⟩,fun h=>by simp only at h;omega,by simp only;omega,mC.out,Jx.out,Jy.out⟩
theorem AM {x:iH} (hm:aj w C M m) (h:lE w C c s b M.L x) (hat:x.at_<2*M.L.th) (h0:x.at_+1=2*M.L.th):Calls Tryz.prog 137 #[.pointer (some ⟨b,0,none⟩),.pointer (some ⟨M.b,0,none⟩)] w (Jw C c s b M (cI M m x) w):=by
 obtain⟨nodes,seen,at_,kept,freed,give⟩:=x
 obtain⟨hg,-,gN,hsm,hsk,hln⟩:=h
 obtain⟨An,n,cn,mb,k0,hn,sb,hsr,hcn,hse,hmb,hk0⟩:=hg hat
 simp only at hat gN hsm hsk hln hn sb hsr hse hk0 h0
 have hth:=hm.ok.th
 have cr:=bJ hm (M.L.slot 0 at_)
 obtain⟨v,hv⟩:∃ v,ld M m (M.L.slot 0 at_)=v:=⟨_,rfl⟩
 have HST:Hid (cI M m ⟨nodes,seen,at_,kept,freed,give⟩=((⟨nodes,wrap64 v::seen,at_+1,kept,freed,give⟩:iH).part.freed.isEmpty,m,(⟨nodes,wrap64 v::seen,at_+1,kept,freed,give⟩:iH).part)):=Lib.hid (by unfold cI;rw[if_neg (by simp only;omega)];rw[if_pos h0,hv];rfl)
 rw[hv] at cr
 have HV:=Lib.hid hv
 have HN:=Lib.hid hn
 have mC:=Lib.hid hsm
 have Jx:=Lib.hid hsk
 have Jy:=Lib.hid hln
 have hnn:n≤100000:=by rw[←hn];exact hln.1
 have d0:decide (at_≥2*M.L.th)=false:=by simp;omega
 have e6:wrap64 (at_+1)=at_+1:=IntWalk.wrap64_in _ (by omega)
 have hwr:=kS v
 replace hse:lD w C c mb k0 seen:=⟨hse,hmb⟩
 have H0:=Lib.hid h0
 clear hg hv hn hsm hsk hln h0
 go_enter Tryz.func137,Tryz.ntmps137
 have fr:=Fr.refl C (Kc c) Cs w
 have ag:=aB.refl w.heap.size C
 go_wp2_with fail
 revert hse;revert hsr;revert hm;revert sb;revert fr;refine bD ?_;intro fr sb hm hsr hse
 obtain⟨q1,qi⟩:=aV sb
 refine ar sb 9 [] [0,1,2,3,4,5,6,7] [8,9] (by kernel_rfl) (by kernel_rfl) ?_
 refine af ?_;try simp only[ox]
 repeat(go_big_quiet_step (fail))
 refine wpQuiet_nil ?_
 refine ay rfl (fun K' hK'=> ?_);go_simp
 ((with_reducible refine(fD M.L hm.ok _).mono ?_);rintro e w1 ⟨rfl,hb1⟩)
 revert fr sb hm hsr hse;refine dX hb1 ?_;intro fr sb hm hsr hse
 refine hK' _ _ (bZ sb) ?_;clear hK' K'
 refine ae _ _ _ (by kernel_rfl) ?_;try simp only[ox]
 clear qi q1
 go_wp2_with fail
 refine NoPanic.normal ?_
 go_wp2_with fail
 revert fr sb hm hsr hse;refine bD ?_;intro fr sb hm hsr hse
 obtain⟨q1,qi⟩:=aV sb
 refine ar sb 16 [([0,1,2,3,4,5,6,7,8,9,10,11,12],13),([],14)] [15] [16] (by kernel_rfl) (by kernel_rfl) ?_
 refine ai ?_;simp only[ox];repeat(go_big_quiet_step (fail))
 refine di rfl (fun K' hK'=> ?_);go_simp
 ((with_reducible refine(jG M.L hm.ok 0 at_ (by omega) (by omega) _).mono ?_);rintro e w2 ⟨rfl,hb2⟩)
 revert fr sb hm hsr hse;refine dX hb2 ?_;intro fr sb hm hsr hse
 refine hK' _ _ (bZ sb) ?_;clear hK' K'
 refine ai ?_;simp only[ox];repeat(go_big_quiet_step (fail))
 refine di rfl (fun K' hK'=> ?_);go_simp
 ((with_reducible refine(aP hm (M.L.slot 0 at_)).mono ?_);clear hm;rintro e w3 ⟨rfl,hm,hf⟩)
 rw[HV.out]
 revert fr sb hsr hse;refine dS hf (aS c) AH ag ?_;clear hf;intro fr sb hsr hse
 refine hK' _ _ (bZ sb) ?_;clear hK' K'
 refine af ?_;try simp only[ox]
 repeat(go_big_quiet_step (fail))
 refine wpQuiet_nil ?_
 refine ae _ _ _ (by kernel_rfl) ?_;try simp only[ox]
 clear qi q1
 obtain⟨w9,hput,AK,Hn⟩:=hse.at_.put (by unfold maxLen;omega) (wrap64 v) (.int .i64 (wrap64 v)) (nS _ hwr)
 have bU:=hse.at_.qh hmb Hn
 go_wp2_with fail
 refine NoPanic.normal ?_
 revert hm sb hsr;revert fr;refine dS bU (aL c) uf ag ?_;clear bU;intro fr hm sb hsr
 replace hse:lD w9 C c mb (k0+1) (wrap64 v::seen):=⟨AK,hmb⟩
 clear AK hput Hn
 have z1:=sb
 revert hse;revert hsr;revert hm;revert fr;refine st1 sb 6 (.int .i64 (at_+1)) (aL c) ag ?_;clear sb;rintro w4 e1 fr sb hm hsr hse
 simp only[sx] at sb
 go_wp2_with fail
 clear z1 e1
 have d5:((at_+1:Int)==2*M.L.th)=true:=beq_iff_eq.2 H0.out
 revert fr hm hsr hse sb;refine bD ?_;intro fr hm hsr hse sb
 obtain⟨q1,qi⟩:=aV sb
 refine ar sb 12 [([0,1,2,3,4,5,6,7],8)] [9,10,11] [12,13,14] (by kernel_rfl) (by kernel_rfl) ?_
 refine ai ?_;simp only[ox];repeat(go_big_quiet_step (fail))
 refine di rfl (fun K' hK'=> ?_);go_simp
 ((with_reducible refine(fD M.L hm.ok _).mono ?_);rintro e w5 ⟨rfl,hb5⟩)
 revert fr hm hsr hse sb;refine dX hb5 ?_;intro fr hm hsr hse sb
 refine hK' _ _ (bZ sb) ?_;clear hK' K'
 refine af ?_;try simp only[ox]
 repeat(go_big_quiet_step (fail))
 refine wpQuiet_nil ?_
 refine ae _ _ _ (by kernel_rfl) ?_;try simp only[ox]
 clear qi q1
 go_wp2_with fail
 have MM:=fr.size
 refine(vV (s:=s) sb HN.out hnn mC.out hsr hse.at_ hmb).mono ?_
 rintro e w8 ⟨rfl,⟨C',hag,hgi⟩,hf⟩
 replace fr:=fr.eX (hf.mono (aL c) AI)
 have hm':=hm.mv hf hag (.inr ⟨by decide,by decide⟩)
 have hag':aB w.heap.size C C':=fun g hg=>hag g (Nat.lt_of_lt_of_le hg MM)
 go_wp2_with fail
 refine NoPanic.normal ?_
 go_wp2_with fail
 go_ret
 refine⟨by rw[HST.out];rfl,⟨C',hag',by rw[HST.out];exact hm',?_⟩,fr⟩
 rw[HST.out]
 have h0:=H0.out
 refine⟨fun h=>by simp only[iH.part] at h;omega,fun _=>hgi,by simp only[iH.part];omega,mC.out,fun x hx=>mC.out x (List.mem_filter.1 hx).1,Jy.out.1,Nat.le_trans (mB _ _) Jy.out.1⟩
theorem rr {x:iH} (hm:aj w C M m) (h:lE w C c s b M.L x):Calls Tryz.prog 137 #[.pointer (some ⟨b,0,none⟩),.pointer (some ⟨M.b,0,none⟩)] w (Jw C c s b M (cI M m x) w):=by
 by_cases hat:2*M.L.th≤x.at_
 ·exact v7 hm h hat
 ·by_cases h0:x.at_+1=2*M.L.th
  ·exact AM hm h (by omega) h0
  ·exact AJ hm h (by omega) h0
structure al (w:World) (C:Nat→Nat) (s b:Nat) (L:Ly) (me:Int) (t:cV):Prop where
 ex:∃ (A:Option Addr) (n cap:Nat),t.ret.length=n∧SB w C s b 137 #[.int .i64 L.th,.int .i64 L.nd,.int .i64 me,.int .i64 t.spare,.slice A n cap]∧Row w C s 3 1 (.slice A n cap) n (cv t.ret)
 me:0≤me∧me≤7
 spare:0≤t.spare∧t.spare≤1000
 small:Small t.ret
def AN:List (Option TypeId):=[some 137,some 3]
variable {me:Int} {t:cV}
theorem al.mv (h:al w C s b L me t) (k:Fr C K T w w') (a:aB w.heap.size C C') (hk:¬ K s∨dr AN T):al w' C' s b L me t:=by
 obtain⟨A,n,cap,h1,h2,h3⟩:=h.ex
 exact⟨⟨A,n,cap,h1,h2.mv k a (hk.imp id (fun h=>h _ (by decide))),h3.mv k a (hk.imp id (fun h=>h _ (by decide)))⟩,h.me,h.spare,h.small⟩
theorem al.fr (h:al w C s b L me t) (k:Fr C K T w w') (hk:¬ K s∨dr AN T):al w' C s b L me t:=h.mv k (aB.refl _ _) hk
theorem al.step (h:al w C s b L me t) (k:Below w.heap.size w w'):al w' C s b L me t:=h.mv (Fr.of_below k C (fun _=>False) []) (aB.refl _ _) (.inr (by decide))
theorem al.nv (h:al w C s b L me t) (a:aB w.heap.size C C'):al w C' s b L me t:=h.mv (Fr.refl C (fun _=>False) [] w) a (.inr (by decide))
instance {w:World} {C:Nat→Nat} {s b:Nat} {L:Ly} {me:Int} {t:cV}:Mv (al w C s b L me t) w C AN (fun w' C'=>al w' C' s b L me t):=⟨fun h k a hk=>h.mv k a (.inr hk)⟩
instance {w:World} {C:Nat→Nat} {c s b:Nat} {L:Ly} {x:iH}:Mv (lE w C c s b L x) w C Hm (fun w' C'=>lE w' C' c s b L x):=⟨fun h k a hk=>h.mv k a (.inr hk)⟩
def oy {α:Type} (o:Option α) (v:Value) (P:Nat→α→Prop):Prop:=
 match o with
 | none=>v= .pointer none
 | some a=>∃ b,v= .pointer (some ⟨b,0,none⟩)∧P b a
theorem oy.imp {α:Type} {o:Option α} {v:Value} {P P':Nat→α→Prop} (h:oy o v P) (hi:∀ b a,P b a→P' b a):oy o v P':=by
 cases o with
 | none=>exact h
 | some a=>obtain⟨b,h1,h2⟩:=h;exact⟨b,h1,hi b a h2⟩
structure jJ (w:World) (C:Nat→Nat) (c s sb b:Nat) (L:Ly) (x:tY):Prop where
 ex:∃ p,SB w C c b 207 #[.pointer (some ⟨sb,0,none⟩),p]∧oy x p (fun bs y=>lE w C c s bs L y)
def J5:List (Option TypeId):=some 207::Hm
theorem jJ.mv {c s sb b:Nat} {L:Ly} {x:tY} (h:jJ w C c s sb b L x) (k:Fr C K T w w') (a:aB w.heap.size C C') (hk:(¬ K c∧¬ K s)∨dr J5 T):jJ w' C' c s sb b L x:=by
 obtain⟨p,h1,h2⟩:=h.ex
 exact⟨p,h1.mv k a (hk.imp (·.1) (fun h=>h _ (by decide))),h2.imp fun bs y hy=>hy.mv k a (hk.imp id (fun h x hx=>h x (List.mem_cons_of_mem _ hx)))⟩
instance {w:World} {C:Nat→Nat} {c s sb b:Nat} {L:Ly} {x:tY}:Mv (jJ w C c s sb b L x) w C J5 (fun w' C'=>jJ w' C' c s sb b L x):=⟨fun h k a hk=>h.mv k a (.inr hk)⟩
structure fh (w:World) (C:Nat→Nat) (c s sb b:Nat) (L:Ly) (e:j5):Prop where
 ex:∃ pa pw,SB w C c b 182 #[.pointer (some ⟨sb,0,none⟩),.bool e.short,pa,pw,.bool e.done]∧oy e.scan pw (fun bw y=>jJ w C c s sb bw L y)∧(e.scan=none→oy e.alloc pa (fun ba y=>mo w C c ba L y∧0≤y.got∧y.got≤1000))
def Jz:List (Option TypeId):=some 182::some 185::J5
theorem fh.mv {c s sb b:Nat} {L:Ly} {x:j5} (h:fh w C c s sb b L x) (k:Fr C K T w w') (a:aB w.heap.size C C') (hk:(¬ K c∧¬ K s)∨dr Jz T):fh w' C' c s sb b L x:=by
 obtain⟨pa,pw,h1,h2,h3⟩:=h.ex
 exact⟨pa,pw,h1.mv k a (hk.imp (·.1) (fun h=>h _ (by decide))),h2.imp fun bs y hy=>hy.mv k a (hk.imp id (fun h x hx=>h x (List.mem_cons_of_mem _ (List.mem_cons_of_mem _ hx)))),
  fun hs=>(h3 hs).imp fun bs y hy=>⟨hy.1.mv k a (hk.imp (·.1) (fun h=>h _ (by decide))),hy.2⟩⟩
theorem fh.fr {c s sb b:Nat} {L:Ly} {x:j5} (h:fh w C c s sb b L x) (k:Fr C K T w w') (hk:(¬ K c∧¬ K s)∨dr Jz T):fh w' C c s sb b L x:=h.mv k (aB.refl _ _) hk
instance {w:World} {C:Nat→Nat} {c s sb b:Nat} {L:Ly} {x:j5}:Mv (fh w C c s sb b L x) w C Jz (fun w' C'=>fh w' C' c s sb b L x):=⟨fun h k a hk=>h.mv k a (.inr hk)⟩
structure jK (w:World) (C:Nat→Nat) (c sb b:Nat) (p:nB):Prop where
 blk:SB w C c b 236 #[.pointer (some ⟨sb,0,none⟩),.int .i64 p.key,.int .i64 p.next,.int .u64 p.found,.bool p.loaded]
 found:0≤p.found∧p.found<18446744073709551616
def J6:List (Option TypeId):=[some 236]
theorem jK.mv {c sb b:Nat} {x:nB} (h:jK w C c sb b x) (k:Fr C K T w w') (a:aB w.heap.size C C') (hk:¬ K c∨dr J6 T):jK w' C' c sb b x:=⟨h.blk.mv k a (hk.imp id (fun h=>h _ (by decide))),h.found⟩
theorem jK.fr {c sb b:Nat} {x:nB} (h:jK w C c sb b x) (k:Fr C K T w w') (hk:¬ K c∨dr J6 T):jK w' C c sb b x:=h.mv k (aB.refl _ _) hk
instance {w:World} {C:Nat→Nat} {c sb b:Nat} {x:nB}:Mv (jK w C c sb b x) w C J6 (fun w' C'=>jK w' C' c sb b x):=⟨fun h k a hk=>h.mv k a (.inr hk)⟩
variable {w0:World}
theorem fL {C C0:Nat→Nat} {c:Nat} {X:World→(Nat→Nat)→Nat→Prop} {K:Nat→Prop} {LT T:List (Option TypeId)} {G:Prop} {G':World→(Nat→Nat)→Prop→Prop} {P:Program} {f:FuncId} {args:Array Value} {Q:Ending→World→Prop} (h:Calls P f args w (kH C c X w)) [Gm G w C (Calls P f args w Q) T G']
  (k:∀ w' b C',aB w0.heap.size C0 C'→Fr C0 K LT w0 w'→X w' C' b→G' w' C' (Q (.returned (.pointer (some ⟨b,0,none⟩))) w')):aB w0.heap.size C0 C→Fr C0 K LT w0 w→G:=
 fun ag fr=>Gm.mv (G:=G) (C:=C) (fun s=>h.mono fun e w' hh=>by
  obtain⟨⟨b,rfl,-,hx⟩,hb⟩:=hh
  exact s (Fr.of_below hb C (fun _=>False) []) (aB.a9 _ _ _) (fun _ _ h=>by cases h) (k w' b _ (ag.trans (aB.a9 _ _ _) fr.size) (fr.step hb) hx))
theorem yJ (L:Ly) (me:Int) (hme:0≤me∧me≤7) (C:Nat→Nat) (s:Nat) (w:World):Calls Tryz.prog 58 #[L.val,.int .i64 me] w (kH C s (fun w' C' b=>al w' C' s b L me ⟨0,[]⟩) w):=by
 obtain⟨th,nd⟩:=L
 simp only[Ly.val]
 go_enter Tryz.func58,Tryz.ntmps58
 go_wp2_with fail
 have hb0:Below w.heap.size w (w.alloc (.cells #[.int .i64 th,.int .i64 nd] 31)):=(Below.refl _ _).alloc (Nat.le_refl _) _
 go_ret
 exact⟨⟨w.heap.size+1,rfl,by omega,⟨none,0,0,rfl,SB.new _ _ (aO C s (by omega)) _ _ (by simp),Row.nil_ _ _ _ _ _⟩,hme,by simp,by intro x hx;cases hx⟩,hb0.alloc (by simp) _⟩
theorem fE (sb:Nat) (L:Ly) (s:Nat) (C:Nat→Nat) (c:Nat) (w:World):Calls Tryz.prog 86 #[.pointer (some ⟨sb,0,none⟩)] w (kH C c (fun w' C' b=>jJ w' C' c s sb b L none) w):=by
 go_enter Tryz.func86,Tryz.ntmps86
 go_wp2_with fail
 go_ret
 exact⟨⟨w.heap.size,rfl,Nat.le_refl _,⟨_,SB.new _ _ (aO C c (Nat.le_refl _)) _ _ rfl,rfl⟩⟩,(Below.refl _ _).alloc (Nat.le_refl _) _⟩
theorem lF (sb:Nat) (L:Ly) (s:Nat) (C:Nat→Nat) (c:Nat) (w:World):Calls Tryz.prog 107 #[.pointer (some ⟨sb,0,none⟩)] w (kH C c (fun w' C' b=>fh w' C' c s sb b L .new) w):=by
 go_enter Tryz.func107,Tryz.ntmps107
 go_wp2_with fail
 go_ret
 exact⟨⟨w.heap.size,rfl,Nat.le_refl _,⟨_,_,SB.new _ _ (aO C c (Nat.le_refl _)) _ _ rfl,rfl,fun _=>rfl⟩⟩,(Below.refl _ _).alloc (Nat.le_refl _) _⟩
theorem ky (sb:Nat) (key next:Int) (C:Nat→Nat) (c:Nat) (w:World):Calls Tryz.prog 157 #[.pointer (some ⟨sb,0,none⟩),.int .i64 key,.int .i64 next] w (kH C c (fun w' C' b=>jK w' C' c sb b (.new key next)) w):=by
 go_enter Tryz.func157,Tryz.ntmps157
 go_wp2_with fail
 go_ret
 exact⟨⟨w.heap.size,rfl,Nat.le_refl _,SB.new _ _ (aO C c (Nat.le_refl _)) _ _ rfl,by simp[nB.new]⟩,(Below.refl _ _).alloc (Nat.le_refl _) _⟩
theorem v9 (hL:L.Ok) (h:al w C s b L me t):Calls Tryz.prog 87 #[.pointer (some ⟨b,0,none⟩)] w fun e w'=>e= .returned (.bool (tZ L t))∧Below w.heap.size w w':=by
 obtain⟨⟨A,n,cap,hn,sb,hrow⟩,-,-,-⟩:=h
 have hth:=hL.th
 have HN:=Lib.hid hn
 have e1:wrap64 (4*L.th)=4*L.th:=IntWalk.wrap64_in _ (by omega)
 have hc:=sb.blk.cells
 clear hn
 go_enter Tryz.func87,Tryz.ntmps87
 have fr:=Fr.refl C (fun _=>False) [] w
 go_wp2_with fail
 revert sb;revert fr;refine bD ?_;intro fr sb
 obtain⟨q1,qi⟩:=aV sb
 refine ar sb 12 [] [0,1,2,3,4,5,6,7,8,9,10,11] [12] (by kernel_rfl) (by kernel_rfl) ?_
 refine af ?_;try simp only[ox]
 repeat(go_big_quiet_step (fail))
 refine wpQuiet_nil ?_
 refine ae _ _ _ (by kernel_rfl) ?_;try simp only[ox]
 clear qi q1
 go_wp2_with fail
 refine NoPanic.normal ?_
 go_wp2_with fail
 go_ret
 exact⟨by unfold tZ;rw[HN.out];rfl,(Below.refl _ _).drew⟩
theorem ug (hL:L.Ok) (h:al w C s b L me t):Calls Tryz.prog 111 #[.pointer (some ⟨b,0,none⟩)] w fun e w'=>e= .returned (.int .i64 (iV L me))∧Below w.heap.size w w':=by
 obtain⟨⟨A,n,cap,hn,sb,hrow⟩,hme,-,-⟩:=h
 have hth:=hL.th
 have hnd:=hL.nd
 have d1:decide (L.th<1)=false:=by simp;omega
 have hp:0≤me*L.nd∧me*L.nd≤1400:=⟨Int.mul_nonneg hme.1 (by omega),by
  have:=Int.mul_le_mul hme.2 hnd.2 (by omega) (by omega);omega⟩
 have e1:wrap64 (me*L.nd)=me*L.nd:=IntWalk.wrap64_in _ (by omega)
 have hq:0≤(me*L.nd).tdiv L.th∧(me*L.nd).tdiv L.th≤1400:=by
  rw[Int.tdiv_eq_ediv_of_nonneg hp.1]
  exact⟨Int.ediv_nonneg hp.1 (by omega),Int.le_trans (Int.ediv_le_self _ hp.1) hp.2⟩
 have e2:wrap64 ((me*L.nd).tdiv L.th)=(me*L.nd).tdiv L.th:=IntWalk.wrap64_in _ (by omega)
 have e3:wrap64 (1+(me*L.nd).tdiv L.th)=1+(me*L.nd).tdiv L.th:=IntWalk.wrap64_in _ (by omega)
 have hz:(L.th==0)=false:=beq_eq_false_iff_ne.2 (by omega)
 have hz2:L.th≠0:=by omega
 have hc:=sb.blk.cells
 clear hn
 go_enter Tryz.func111,Tryz.ntmps111
 have fr:=Fr.refl C (fun _=>False) [] w
 go_wp2_with fail
 revert sb;revert fr;refine bD ?_;intro fr sb
 obtain⟨q1,qi⟩:=aV sb
 refine ar sb 17 [] [0,1,2,3,4,5,6,7,8,9,10,11,12,13,14,15,16] [17] (by kernel_rfl) (by kernel_rfl) ?_
 refine af ?_;try simp only[ox]
 repeat(go_big_quiet_step (fail))
 refine wpQuiet_nil ?_
 refine ae _ _ _ (by kernel_rfl) ?_;try simp only[ox]
 clear qi q1
 go_wp2_with fail
 refine NoPanic.normal ?_
 go_wp2_with fail
 go_ret
 exact⟨fp (by first | rfl | (unfold iV;omega)),(Below.refl _ _).drew⟩
structure J7 (C:Nat→Nat) (s b:Nat) (L:Ly) (me:Int) (t:cV) (w:World) (e:Ending) (w':World):Prop where
 ret:e= .returned (.int .i64 t.spare)
 own:al w' C s b L me { t with spare:=0 }
 fr:Fr C (K0 s) AN w w'
theorem mF (h:al w C s b L me t):Calls Tryz.prog 105 #[.pointer (some ⟨b,0,none⟩)] w (J7 C s b L me t w):=by
 obtain⟨⟨A,n,cap,hn,sb,hrow⟩,hme,hsp,hsm⟩:=h
 have HN:=Lib.hid hn
 have mC:=Lib.hid hsm
 clear hn hsm
 have hc:=sb.blk.cells
 have hfz:=sb.blk.frees
 have fr:=(Fr.refl C (K0 s) AN w).ao sb (eO s) (by decide) 3 (.int .i64 0)
 have hr2:=hrow.ao sb (by decide) 3 (.int .i64 0)
 have Ho:=sb.ao 3 (.int .i64 0)
 go_enter Tryz.func105,Tryz.ntmps105
 go_wp2_with fail
 go_ret
 exact⟨rfl,⟨⟨A,n,cap,HN.out,Ho,hr2⟩,hme,by simp,mC.out⟩,fr⟩
structure CZ (C:Nat→Nat) (s b:Nat) (L:Ly) (me:Int) (t:cV) (w:World) (e:Ending) (w':World):Prop where
 ret:e= .returned (.tuple #[])
 own:∃ C',aB w.heap.size C C'∧al w' C' s b L me t
 fr:Fr C (K0 s) AN w w'
theorem cj (h:al w C s b L me t) (l:List Int) (A2:Option Addr) (n2 c2 B:Nat) (hs:Sl w B 1 A2 n2 (cv l)) (hn2:l.length=n2) (hle:t.ret.length≤100000) (hle2:n2≤100000) (Hp:Small l):
  Calls Tryz.prog 83 #[.pointer (some ⟨b,0,none⟩),.slice A2 n2 c2] w (CZ C s b L me (t.retire l) w):=by
 obtain⟨i0,hi,hz0,hz1,hz2⟩:=info_parts gZ
 obtain⟨⟨A,n,cap,hn,sb,hrow⟩,hme,hsp,hsm⟩:=h
 rw[hn] at hle
 have HN:=Lib.hid (show (t.retire l).ret.length=n+n2 by simp[cV.retire,hn,hn2])
 have mC:=Lib.hid (show Small (t.retire l).ret from fun x hx=>(List.mem_append.1 hx).elim (hsm x) (Hp x))
 have Fm:=Lib.hid (show cv (t.retire l).ret=cv t.ret++cv l by simp[cV.retire,cv])
 clear hn hsm Hp hn2
 have hne:=own_ne hrow.own sb.blk (by decide)
 have hc:=sb.blk.cells
 have Fo:=Fr.refl C (K0 s) AN w
 go_enter Tryz.func83,Tryz.ntmps83
 go_wp2_with (at_builtin;refine dU _ rfl _ _ _ rfl 0 3 i0 _ 1 8 Tryz.underlying89 hi hz0 hz1 hz2 rfl (by omega) (.slice A n cap) n (cv t.ret) rfl hrow.own B A2 n2 c2 (cv l) rfl hs (gE l) (by unfold maxLen;omega) (by omega) (by omega) ?_;intro v1 w1 hown1 hg1 CS;have sb1:SB w1 C s b 137 _:=SB.mk (sb.blk.grown hg1 (fun e=>hne e)) sb.col;have qh:=Fo.app hrow hg1 (eO s) (by decide);have hr1:=hrow.app hown1 CS;have hc1:=sb1.blk.cells;have hfz1:=sb1.blk.frees;obtain⟨A3,c3,rfl,hc3,-,-⟩:=bF hown1)
 have ag:aB w.heap.size C (a9 C w.heap.size s):=aB.a9 C _ s
 have Ho:=sb1.ao 4 (.slice A3 (n+n2) c3)
 have hr2:=hr1.far (p:=⟨b,4,none⟩) (own_ne hown1 sb1.blk (by decide)) (.slice A3 (n+n2) c3)
 have MN:=qh.ao sb1 (eO s) (by decide) 4 (.slice A3 (n+n2) c3)
 go_end0
 refine⟨rfl,⟨a9 C w.heap.size s,ag,⟨A3,n+n2,c3,HN.out,SB.mk Ho.blk ?_,by rw[Fm.out];exact hr2⟩,hme,hsp,mC.out⟩,MN⟩
 exact(ag b sb.lt).trans sb.col
end Go.Proofs.YtbcnnhlpilmmbaaGreat
