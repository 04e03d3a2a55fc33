/- Texts that are wanted for PTopClaims.
   Conditions: none. -/
import Derived.Test.YtbcnnhlpilmmbaaGreatJPTopClaims06
set_option maxRecDepth 100000
set_option maxHeartbeats 6400000
namespace Go.Proofs.YtbcnnhlpilmmbaaGreat
open Go Go.RowKit
def S1 (b:Nat) (cs:Array Value) (W:World):Prop:=∀ i:Nat,W.cell? ⟨b,i,none⟩=cs[i]?
def S2 (b:Nat) (cs:Array Value) (b2:Nat) (cs2:Array Value) (W:World):Prop:=(∀ i:Nat,W.cell? ⟨b,i,none⟩=cs[i]?)∧∀ i:Nat,W.cell? ⟨b2,i,none⟩=cs2[i]?
def S3 (b:Nat) (cs:Array Value) (b2:Nat) (cs2:Array Value) (b3:Nat) (qQ:Array Value) (W:World):Prop:=(∀ i:Nat,W.cell? ⟨b,i,none⟩=cs[i]?)∧(∀ i:Nat,W.cell? ⟨b2,i,none⟩=cs2[i]?)∧∀ i:Nat,W.cell? ⟨b3,i,none⟩=qQ[i]?
variable {b:Nat}
theorem oX {cs:Array Value} (q:Such (S1 b cs)) (i:Nat):q.val.cell? ⟨b,i,none⟩=cs[i]? :=q.ok i
theorem Bz {cs:Array Value} {b2:Nat} {cs2:Array Value} (q:Such (S2 b cs b2 cs2)) (i:Nat):q.val.cell? ⟨b,i,none⟩=cs[i]? :=q.ok.1 i
theorem zj {cs:Array Value} {b2:Nat} {cs2:Array Value} (q:Such (S2 b cs b2 cs2)) (i:Nat):q.val.cell? ⟨b2,i,none⟩=cs2[i]? :=q.ok.2 i
theorem BA {cs:Array Value} {b2:Nat} {cs2:Array Value} {b3:Nat} {qQ:Array Value} (q:Such (S3 b cs b2 cs2 b3 qQ)) (i:Nat):q.val.cell? ⟨b,i,none⟩=cs[i]? :=q.ok.1 i
theorem zk {cs:Array Value} {b2:Nat} {cs2:Array Value} {b3:Nat} {qQ:Array Value} (q:Such (S3 b cs b2 cs2 b3 qQ)) (i:Nat):q.val.cell? ⟨b2,i,none⟩=cs2[i]? :=q.ok.2.1 i
theorem zl {cs:Array Value} {b2:Nat} {cs2:Array Value} {b3:Nat} {qQ:Array Value} (q:Such (S3 b cs b2 cs2 b3 qQ)) (i:Nat):q.val.cell? ⟨b3,i,none⟩=qQ[i]? :=q.ok.2.2 i
section
variable {W:World} {C:Nat→Nat} {c c2 c3 b b2 b3:Nat} {t t2 t3:TypeId} {cs cs2 qQ:Array Value}
theorem aY (h1:SB W C c b t cs):(∀ (q:Such (S1 b cs)) (i:Nat),q.val.cell? ⟨b,i,none⟩=cs[i]?)∧Nonempty (Such (S1 b cs)):=⟨oX,Such.rN h1.blk.cells⟩
theorem cj (h1:SB W C c b t cs):∃ q:Such (S1 b cs),W=q.val:=Such.bW h1.blk.cells
theorem ax {P:Program} {Q:Exit→Act→World→Prop} {w:World} {id:Nat} {l:List Oper} {a:Act} (h1:SB w.drew C c b t cs) (n:Nat) (ph:List (List Nat×Nat)) (ls is:List Nat) (hm:P.follows .mixedOrders=true)
  (hB:(Region.noSelect l.toArray && Region.chainB .any l.toArray n && decide (ik ph+ls.length+is.length=l.length) && Dn .any l.toArray n (df .any l.toArray n [n]) ph (Array.replicate l.toArray.size false) &&
   gR .any l.toArray n (df .any l.toArray n [n]) ls (fS ph (Array.replicate l.toArray.size false)) && gi .any l.toArray is (bX ls (fS ph (Array.replicate l.toArray.size false))))=true)
  (h:ja P l.toArray (NoPanic Q) (fun w'=>∃ q:Such (S1 b cs),w'=q.val) (fun a w=>wpQuiet P l.toArray (fun w'=>∃ q:Such (S1 b cs),w'=q.val) (fun a'=>dh P l.toArray (NoPanic Q) (fun w'=>∃ q:Such (S1 b cs),w'=q.val) n is a' w) (ay l.toArray ls) a) ph a w.drew):(Code.region id l.toArray true).wp P Q a w:=
 aD (fun w'=>∃ q:Such (S1 b cs),w'=q.val) n ph ls is hm hB (cj h1) h
theorem bD (h1:SB W C c b t cs) (h2:SB W C c2 b2 t2 cs2):(∀ (q:Such (S2 b cs b2 cs2)) (i:Nat),q.val.cell? ⟨b,i,none⟩=cs[i]?)∧(∀ (q:Such (S2 b cs b2 cs2)) (i:Nat),q.val.cell? ⟨b2,i,none⟩=cs2[i]?)∧Nonempty (Such (S2 b cs b2 cs2)):=⟨Bz,zj,Such.rN ⟨h1.blk.cells,h2.blk.cells⟩⟩
theorem fa (h1:SB W C c b t cs) (h2:SB W C c2 b2 t2 cs2):∃ q:Such (S2 b cs b2 cs2),W=q.val:=Such.bW ⟨h1.blk.cells,h2.blk.cells⟩
theorem aC {P:Program} {Q:Exit→Act→World→Prop} {w:World} {id:Nat} {l:List Oper} {a:Act} (h1:SB w.drew C c b t cs) (h2:SB w.drew C c2 b2 t2 cs2) (n:Nat) (ph:List (List Nat×Nat)) (ls is:List Nat) (hm:P.follows .mixedOrders=true)
  (hB:(Region.noSelect l.toArray && Region.chainB .any l.toArray n && decide (ik ph+ls.length+is.length=l.length) && Dn .any l.toArray n (df .any l.toArray n [n]) ph (Array.replicate l.toArray.size false) &&
   gR .any l.toArray n (df .any l.toArray n [n]) ls (fS ph (Array.replicate l.toArray.size false)) && gi .any l.toArray is (bX ls (fS ph (Array.replicate l.toArray.size false))))=true)
  (h:ja P l.toArray (NoPanic Q) (fun w'=>∃ q:Such (S2 b cs b2 cs2),w'=q.val) (fun a w=>wpQuiet P l.toArray (fun w'=>∃ q:Such (S2 b cs b2 cs2),w'=q.val) (fun a'=>dh P l.toArray (NoPanic Q) (fun w'=>∃ q:Such (S2 b cs b2 cs2),w'=q.val) n is a' w) (ay l.toArray ls) a) ph a w.drew):(Code.region id l.toArray true).wp P Q a w:=
 aD (fun w'=>∃ q:Such (S2 b cs b2 cs2),w'=q.val) n ph ls is hm hB (fa h1 h2) h
theorem db (h1:SB W C c b t cs) (h2:SB W C c2 b2 t2 cs2) (h3:SB W C c3 b3 t3 qQ):(∀ (q:Such (S3 b cs b2 cs2 b3 qQ)) (i:Nat),q.val.cell? ⟨b,i,none⟩=cs[i]?)∧(∀ (q:Such (S3 b cs b2 cs2 b3 qQ)) (i:Nat),q.val.cell? ⟨b2,i,none⟩=cs2[i]?)∧(∀ (q:Such (S3 b cs b2 cs2 b3 qQ)) (i:Nat),q.val.cell? ⟨b3,i,none⟩=qQ[i]?)∧Nonempty (Such (S3 b cs b2 cs2 b3 qQ)):=⟨BA,zk,zl,Such.rN ⟨h1.blk.cells,h2.blk.cells,h3.blk.cells⟩⟩
theorem jI (h1:SB W C c b t cs) (h2:SB W C c2 b2 t2 cs2) (h3:SB W C c3 b3 t3 qQ):∃ q:Such (S3 b cs b2 cs2 b3 qQ),W=q.val:=Such.bW ⟨h1.blk.cells,h2.blk.cells,h3.blk.cells⟩
theorem a8 {P:Program} {Q:Exit→Act→World→Prop} {w:World} {id:Nat} {l:List Oper} {a:Act} (h1:SB w.drew C c b t cs) (h2:SB w.drew C c2 b2 t2 cs2) (h3:SB w.drew C c3 b3 t3 qQ) (n:Nat) (ph:List (List Nat×Nat)) (ls is:List Nat) (hm:P.follows .mixedOrders=true)
  (hB:(Region.noSelect l.toArray && Region.chainB .any l.toArray n && decide (ik ph+ls.length+is.length=l.length) && Dn .any l.toArray n (df .any l.toArray n [n]) ph (Array.replicate l.toArray.size false) &&
   gR .any l.toArray n (df .any l.toArray n [n]) ls (fS ph (Array.replicate l.toArray.size false)) && gi .any l.toArray is (bX ls (fS ph (Array.replicate l.toArray.size false))))=true)
  (h:ja P l.toArray (NoPanic Q) (fun w'=>∃ q:Such (S3 b cs b2 cs2 b3 qQ),w'=q.val) (fun a w=>wpQuiet P l.toArray (fun w'=>∃ q:Such (S3 b cs b2 cs2 b3 qQ),w'=q.val) (fun a'=>dh P l.toArray (NoPanic Q) (fun w'=>∃ q:Such (S3 b cs b2 cs2 b3 qQ),w'=q.val) n is a' w) (ay l.toArray ls) a) ph a w.drew):(Code.region id l.toArray true).wp P Q a w:=
 aD (fun w'=>∃ q:Such (S3 b cs b2 cs2 b3 qQ),w'=q.val) n ph ls is hm hB (jI h1 h2 h3) h
end
theorem iA (W:Wd) (x:Int) (hx:dS W=x) (w:World):Calls Tryz.prog 161 #[W.val] w fun e w'=>(∃ ec:Int,e= .returned (.tuple #[.int .u64 x,.int .i64 ec]))∧Below w.heap.size w w':=by
 subst hx
 exact(uD W w).mono fun e w' h=>⟨⟨_,h.1⟩,h.2⟩
theorem kD (d:Ds) (x:Int) (hx:cv d=x) (w:World):Calls Tryz.prog 100 #[d.vals] w fun e w'=>(∃ ec:Int,e= .returned (.tuple #[.int .u64 x,.int .i64 ec]))∧Below w.heap.size w w':=by
 subst hx
 exact(uE d w).mono fun e w' h=>⟨⟨_,h.1⟩,h.2⟩
theorem oY (X:World) (p:Addr) (u:Value):X.drew.setCell p u=(X.setCell p u).drew:=rfl
def ef (c s:Nat):Nat→Prop:=fun x=>x=c∨x=s∨x=1
theorem jl (c s:Nat):∀ x,K1 x→ef c s x:=fun _ h=> .inr (.inr h)
theorem eW (c s:Nat):∀ x,Kc c x→ef c s x:=fun _ h=>h.elim .inl (fun h=> .inr (.inr h))
theorem aU (c s:Nat):∀ x,K0 c x→ef c s x:=fun _ h=> .inl h
theorem eP (c s:Nat):∀ x,K0 s x→ef c s x:=fun _ h=> .inr (.inl h)
variable {w w':World} {C C':Nat→Nat} {K:Nat→Prop} {T:List (Option TypeId)} {c:Nat}
theorem SB.mv {t:TypeId} {cs:Array Value} (h:SB w C c b t cs) (k:Fr C K T w w') (a:aF w.heap.size C C') (hk:¬ K c∨some t∉T):SB w' C' c b t cs:=SB.mk (h.blk.fr k (by rw[h.col];exact hk)) ((a b h.lt).trans h.col)
theorem Row.mv {e:TypeId} {size n:Nat} {v:Value} {xs:List Value} (h:Row w C c e size v n xs) (k:Fr C K T w w') (a:aF w.heap.size C C') (hk:¬ K c∨some e∉T):Row w' C' c e size v n xs:=by
 have h2:=h.oK a
 refine⟨wP h.own k (hk.imp (fun h1 g hg=>by rw[h.col g hg];exact h1) id),h2.col⟩
theorem Sr.mv {e:TypeId} {size n:Nat} {A:Option Addr} {xs:List Value} (h:Sr w C c e size A n xs) (k:Fr C K T w w') (a:aF w.heap.size C C') (hk:¬ K c∨some e∉T):Sr w' C' c e size A n xs:=by
 have h1:=h.fr k hk
 refine⟨h1.sl,fun hn=> ?_⟩
 obtain⟨cs,hb,-⟩:=h1.blk hn
 obtain⟨cs0,hb0,hc0⟩:=h.blk hn
 exact⟨cs,hb,(a _ hb0.lt).trans hc0⟩
variable {L:Ly}
theorem l6.mv {l:List Int} (h:l6 w C c b L l) (k:Fr C K T w w') (a:aF w.heap.size C C') (hk:¬ K c∨(some 259∉T∧some 3∉T)):l6 w' C' c b L l:=by
 obtain⟨A,m,h1,h2,h3⟩:=h.ex
 exact⟨⟨A,m,h1.mv k a (hk.imp id (·.1)),h2.mv k a (hk.imp id (·.2)),h3⟩,h.small⟩
theorem mT.mv {x:iq} (h:mT w C c b L x) (k:Fr C K T w w') (a:aF w.heap.size C C') (hk:¬ K c∨some 185∉T):mT w' C' c b L x:=⟨h.blk.mv k a hk,h.found,h.at_,h.left⟩
theorem gD.mv {x:fo} (h:gD w C c b L x) (k:Fr C K T w w') (a:aF w.heap.size C C') (hk:¬ K c∨some 230∉T):gD w' C' c b L x:=⟨h.blk.mv k a hk,h.word,h.found,h.at_⟩
theorem oR.mv {x:DO} (h:oR w C c b L x) (k:Fr C K T w w') (a:aF w.heap.size C C') (hk:¬ K c∨some 204∉T):oR w' C' c b L x:=⟨h.blk.mv k a hk,h.thread,h.at_⟩
variable {M:ML} {m:Mm}
theorem aj.mv (h:aj w C M m) (k:Fr C K T w w') (a:aF w.heap.size C C') (hk:¬ K 1∨(some 75∉T∧some 34∉T)):aj w' C' M m:=
 aj.col (h.fr k hk) (a _ h.Dp.1) (a _ h.Dp.2)
structure l8 (w:World) (C:Nat→Nat) (c b n:Nat) (l:List Int):Prop where
 at_:cT w b n l
 col:C b=c
theorem oZ (x:Int): -9223372036854775808≤wrap64 x∧wrap64 x<9223372036854775808:=by
 unfold wrap64;omega
theorem sx:(∀ (l:List Value) (i:Nat) (a:Value),l.toArray.setIfInBounds i a=(l.set i a).toArray)∧(∀ (x a:Value) (l:List Value),(x::l).set 0 a=a::l)∧(∀ (x a:Value) (l:List Value) (i:Nat),(x::l).set (i+1) a=x::l.set i a):=⟨by intros;simp,by intros;rfl,by intros;rfl⟩
theorem Fr.cr {L:List (Option TypeId)} {w w':World} (h:Fr C (fun _=>False) L w w'):Below w.heap.size w w':=h.below (fun _ _ h=>h) (Nat.le_refl _)
theorem ox:(∀ (ops:Array Oper) (is:List Nat),ay ops is=is.map fun i=>ops.toList.getD i default)∧(∀ (f:Nat→Oper) (a:Nat) (l:List Nat),List.map f (a::l)=f a::List.map f l)∧(∀ (f:Nat→Oper),List.map f []=[])∧(∀ (a d:Oper) (l:List Oper),(a::l).getD 0 d=a)∧(∀ (a d:Oper) (l:List Oper) (n:Nat),(a::l).getD (n+1) d=l.getD n d):=⟨fun _ _=>rfl,fun _ _ _=>rfl,fun _=>rfl,fun _ _ _=>rfl,fun _ _ _ _=>rfl⟩
theorem dI {P:Program} {ops:Array Oper} {Q:Exit→Act→World→Prop} {S:World→Prop} {F:Act→World→Prop} {i:Nat} {o:Oper} {ph:List (List Nat×Nat)} {a:Act} {w:World} (ho:ops[i]? =some o)
  (h:∀ K:Act→World→Prop,(∀ a' w',S w'→ja P ops Q S F ph a' w'→K a' w')→if Region.wanted o (yielded ops a.tmps)=true then Oper.wp P o a w K Q else K (a.put o.dst undef) w):
  wpQuiet P ops S (fun a'=>wpOp P ops Q i (fun a'' w''=>S w''∧ja P ops Q S F ph a'' w'') a' w) [] a:=wpQuiet_nil (bG ho h)
theorem l8.mv {c b n:Nat} {l:List Int} (h:l8 w C c b n l) (k:Fr C K T w w') (a:aF w.heap.size C C') (hk:¬ K c∨none∉T):l8 w' C' c b n l:=⟨h.at_.fr k h.col hk,(a _ h.at_.lt).trans h.col⟩
def dJ (T T':List (Option TypeId)):Prop:=∀ x∈T,x∉T'
instance (T T':List (Option TypeId)):Decidable (dJ T T'):=by unfold dJ;infer_instance
class Mv (P:Prop) (w:outParam World) (C:outParam (Nat→Nat)) (T:outParam (List (Option TypeId))) (Q:outParam (World→(Nat→Nat)→Prop)):Prop where
 mv:∀ {K:Nat→Prop} {T':List (Option TypeId)} {w':World} {C':Nat→Nat},P→Fr C K T' w w'→aF w.heap.size C C'→dJ T T'→Q w' C'
section
variable {w w' w0:World} {C C' C0:Nat→Nat} {c b n sz:Nat} {t:TypeId} {cs:Array Value} {L:Ly} {M:ML} {m:Mm} {K K':Nat→Prop} {LT Hs:List (Option TypeId)}
instance:Mv (SB w C c b t cs) w C [some t] (fun w' C'=>SB w' C' c b t cs):=⟨fun h k a hk=>h.mv k a (.inr (hk _ (List.mem_cons_self ..)))⟩
instance {v:Value} {xs:List Value}:Mv (Row w C c t sz v n xs) w C [some t] (fun w' C'=>Row w' C' c t sz v n xs):=⟨fun h k a hk=>h.mv k a (.inr (hk _ (List.mem_cons_self ..)))⟩
instance {A:Option Addr} {xs:List Value}:Mv (Sr w C c t sz A n xs) w C [some t] (fun w' C'=>Sr w' C' c t sz A n xs):=⟨fun h k a hk=>h.mv k a (.inr (hk _ (List.mem_cons_self ..)))⟩
instance {l:List Int}:Mv (l6 w C c b L l) w C [some 259,some 3] (fun w' C'=>l6 w' C' c b L l):=⟨fun h k a hk=>h.mv k a (.inr ⟨hk _ (by decide),hk _ (by decide)⟩)⟩
instance {x:iq}:Mv (mT w C c b L x) w C [some 185] (fun w' C'=>mT w' C' c b L x):=⟨fun h k a hk=>h.mv k a (.inr (hk _ (by decide)))⟩
instance {x:fo}:Mv (gD w C c b L x) w C [some 230] (fun w' C'=>gD w' C' c b L x):=⟨fun h k a hk=>h.mv k a (.inr (hk _ (by decide)))⟩
instance {x:DO}:Mv (oR w C c b L x) w C [some 204] (fun w' C'=>oR w' C' c b L x):=⟨fun h k a hk=>h.mv k a (.inr (hk _ (by decide)))⟩
instance {l:List Int}:Mv (l8 w C c b n l) w C [none] (fun w' C'=>l8 w' C' c b n l):=⟨fun h k a hk=>h.mv k a (.inr (hk _ (List.mem_cons_self ..)))⟩
instance:Mv (aj w C M m) w C [some 75,some 34] (fun w' C'=>aj w' C' M m):=⟨fun h k a hk=>h.mv k a (.inr ⟨hk _ (by decide),hk _ (by decide)⟩)⟩
def Nw (_:World) (_:Nat→Nat):Prop:=True
theorem J6 (w:World) (C:Nat→Nat) {A B:Prop} (h:A→Nw w C→B) (a:A):B:=h a trivial
instance:Mv (Nw w C) w C [] (fun w' C'=>Nw w' C'):=⟨fun _ _ _ _=>trivial⟩
class Gm (G:Prop) (w:outParam World) (C:outParam (Nat→Nat)) (B:outParam Prop) (T:outParam (List (Option TypeId))) (G':outParam (World→(Nat→Nat)→Prop→Prop)):Prop where
 mv:((∀ {K:Nat→Prop} {T':List (Option TypeId)} {w':World} {C':Nat→Nat} {B':Prop},Fr C K T' w w'→aF w.heap.size C C'→dJ T T'→G' w' C' B'→B')→B)→G
variable {G B P:Prop} {T T1 T2:List (Option TypeId)} {Q:World→(Nat→Nat)→Prop} {G':World→(Nat→Nat)→Prop→Prop}
instance (priority:=low) Gm.one [Mv P w C T Q]:Gm (P→B) w C B T (fun w' C' B'=>Q w' C'→B'):=⟨fun f p=>f (fun k a hk g=>g (Mv.mv p k a hk))⟩
instance Gm.cons [Mv P w C T1 Q] [Gm G w C B T2 G']:Gm (P→G) w C B (T1++T2) (fun w' C' B'=>Q w' C'→G' w' C' B'):=
 ⟨fun f p=>Gm.mv (G:=G) (fun s=>f (fun k a hk g=>s k a (fun x hx=>hk x (List.mem_append_right _ hx)) (g (Mv.mv p k a (fun x hx=>hk x (List.mem_append_left _ hx))))))⟩
variable [Gm G w C B T G']
theorem kV (hf:Fr C K' Hs w w') (a:aF w.heap.size C C') (hK:∀ x,K' x→K x) (hL:∀ x,x∈Hs→x∈LT) (k:aF w0.heap.size C0 C'→Fr C0 K LT w0 w'→G' w' C' B) (hT:dJ T Hs:=by decide):aF w0.heap.size C0 C→Fr C0 K LT w0 w→G:=
 fun ag fr=>Gm.mv (G:=G) (C:=C) (fun s=>s hf a hT (k (ag.trans a fr.size) (fr.trans (hf.mono hK hL) ag)))
theorem eA (hf:Fr C K' Hs w w') (hK:∀ x,K' x→K x) (hL:∀ x,x∈Hs→x∈LT) (ag:aF w0.heap.size C0 C) (k:Fr C0 K LT w0 w'→G' w' C B) (hT:dJ T Hs:=by decide):Fr C0 K LT w0 w→G:=
 fun fr=>Gm.mv (G:=G) (C:=C) (fun s=>s hf (aF.refl _ _) hT (k (fr.trans (hf.mono hK hL) ag)))
theorem eH {T:List (Option TypeId)} [Gm G w C B T G'] (hb:Below w.heap.size w w') (k:Fr C0 K LT w0 w'→G' w' C B):Fr C0 K LT w0 w→G:=
 fun fr=>Gm.mv (G:=G) (C:=C) (fun s=>s (Fr.of_below hb C (fun _=>False) []) (aF.refl _ _) (fun _ _ h=>by cases h) (k (fr.step hb)))
theorem bK {T:List (Option TypeId)} [Gm G w C B T G'] (k:Fr C0 K LT w0 w.drew→G' w.drew C B):Fr C0 K LT w0 w→G:=eH (Below.refl _ _).drew k
theorem st1 (h:SB w C c b t cs) (i:Nat) (v:Value) (hK:∀ x,K0 c x→K x) (ag:aF w0.heap.size C0 C) (k:∀ w',w.setCell ⟨b,i,none⟩ v=w'→Fr C0 K LT w0 w'→SB w' C c b t (cs.setIfInBounds i v)→G' w' C B) (hL:∀ x,x∈[some t]→x∈LT:=by decide) (hT:dJ T [some t]:=by decide):Fr C0 K LT w0 w→G:=
 fun fr=>Gm.mv (G:=G) (C:=C) (fun s=>s (h.sV i v) (aF.refl _ _) hT (k _ rfl (fr.trans ((h.sV i v).mono hK hL) ag) (h.ar i v)))
theorem xa (h:SB w C c b t cs) (i:Nat) (v:Value) (k:∀ w',w.setCell ⟨b,i,none⟩ v=w'→Fr C0 K LT w0 w'→SB w' C c b t (cs.setIfInBounds i v)→G' w' C B) (hb:w0.heap.size≤b:=by first | exact Nat.le_refl _ | assumption | (simp<;>omega) | omega) (hT:dJ T [some t]:=by decide):Fr C0 K LT w0 w→G:=
 fun fr=>Gm.mv (G:=G) (C:=C) (fun s=>s (h.sV i v) (aF.refl _ _) hT (k _ rfl (fr.cH (p:=⟨b,i,none⟩) hb v) (h.ar i v)))
theorem bx1 {T:List (Option TypeId)} [Gm G w C B T G'] (t:TypeId) (cs:Array Value) (k:∀ w',w.alloc (.cells cs t)=w'→w0.heap.size≤w.heap.size→Fr C0 K LT w0 w'→SB w' C (C w.heap.size) w.heap.size t cs→G' w' C B):Fr C0 K LT w0 w→G:=
 fun fr=>Gm.mv (G:=G) (C:=C) (fun s=>s (Fr.of_below ((Below.refl _ _).alloc (Nat.le_refl _) (.cells cs t)) C (fun _=>False) []) (aF.refl _ _) (fun _ _ h=>by cases h) (k _ rfl fr.size (fr.step ((Below.refl _ _).alloc (Nat.le_refl _) _)) (SB.new w C rfl t cs rfl)))
end
def Dr (b:Nat):World→List (Nat×Value)→World
 | w,[]=>w
 | w,(i,v)::l=>Dr b (w.setCell ⟨b,i,none⟩ v) l
def F6:Array Value→List (Nat×Value)→Array Value
 | cs,[]=>cs
 | cs,(i,v)::l=>F6 (cs.setIfInBounds i v) l
theorem m3 (w:World) (b i j:Nat) (v:Value) (h:(i==j)=false):(w.setCell ⟨b,i,none⟩ v).cell? ⟨b,j,none⟩=w.cell? ⟨b,j,none⟩:=
 World.cell?_setCell_other _ _ _ _ (by intro e;injection e with _ e;subst e;simp at h)
theorem m4 (w:World) (b b' i j:Nat) (v:Value) (h:b≠b'):(w.setCell ⟨b,i,none⟩ v).cell? ⟨b',j,none⟩=w.cell? ⟨b',j,none⟩:=
 World.cell?_setCell_other _ _ _ _ (by intro e;injection e with e;exact h e)
theorem kQ:(∀ (w:World) (p:Addr) (v:Value) (q:Addr),(w.setCell p v).frozen? q=w.frozen? q)∧(∀ (w:World) (b i j:Nat) (v:Value),(i==j)=false→(w.setCell ⟨b,i,none⟩ v).cell? ⟨b,j,none⟩=w.cell? ⟨b,j,none⟩)∧(∀ (w:World) (b b' i j:Nat) (v:Value),b≠b'→(w.setCell ⟨b,i,none⟩ v).cell? ⟨b',j,none⟩=w.cell? ⟨b',j,none⟩):=⟨fun w p v q=>World.frozen?_setCell w p q v,m3,m4⟩
theorem stx:(∀ b w,Dr b w []=w)∧(∀ b w i v l,Dr b w ((i,v)::l)=Dr b (w.setCell ⟨b,i,none⟩ v) l)∧(∀ cs,F6 cs []=cs)∧∀ cs i v l,F6 cs ((i,v)::l)=F6 (cs.setIfInBounds i v) l:=⟨fun _ _=>rfl,fun _ _ _ _ _=>rfl,fun _=>rfl,fun _ _ _ _=>rfl⟩
theorem SB.sets {t:TypeId}:∀ (l:List (Nat×Value)) {w:World} {cs:Array Value},SB w C c b t cs→Fr C (K0 c) [some t] w (Dr b w l)∧SB (Dr b w l) C c b t (F6 cs l)
 | [],_,_,h=>⟨Fr.refl _ _ _ _,h⟩
 | (i,v)::l,_,_,h=>⟨(h.sV i v).fw (SB.sets l (h.ar i v)).1,(SB.sets l (h.ar i v)).2⟩
theorem SB.zm {c b b':Nat} {t:TypeId} (hne:b'≠b):∀ (l:List (Nat×Value)) {w:World} {cs:Array Value},SB w C c b' t cs→SB (Dr b w l) C c b' t cs
 | [],_,_,h=>h
 | (i,v)::l,_,_,h=>SB.zm hne l (h.far (p:=⟨b,i,none⟩) hne v)
theorem Fr.news {C0:Nat→Nat} {K:Nat→Prop} {LT:List (Option TypeId)} {w0:World} {b:Nat} (hb:w0.heap.size≤b):∀ (l:List (Nat×Value)) {w:World},Fr C0 K LT w0 w→Fr C0 K LT w0 (Dr b w l)
 | [],_,h=>h
 | (i,v)::l,_,h=>Fr.news hb l (h.cH (p:=⟨b,i,none⟩) hb v)
section
variable {w w' w0:World} {C C0:Nat→Nat} {c b:Nat} {t:TypeId} {cs:Array Value} {K:Nat→Prop} {LT:List (Option TypeId)} {G B:Prop} {T:List (Option TypeId)} {G':World→(Nat→Nat)→Prop→Prop}
theorem lC [Gm G w.drew C B T G'] (h:SB w.drew C c b t cs) (i:Nat) (v:Value) (hK:∀ x,K0 c x→K x) (ag:aF w0.heap.size C0 C) (k:∀ w',(w.setCell ⟨b,i,none⟩ v).drew=w'→Fr C0 K LT w0 w'→SB w' C c b t (cs.setIfInBounds i v)→G' w' C B) (hL:∀ x,x∈[some t]→x∈LT:=by decide) (hT:dJ T [some t]:=by decide):Fr C0 K LT w0 w.drew→G:=st1 h i v hK ag k hL hT
theorem zn [Gm G w C B T G'] (h:SB w C c b t cs) (l:List (Nat×Value)) (hK:∀ x,K0 c x→K x) (ag:aF w0.heap.size C0 C) (k:∀ w',Dr b w l=w'→Fr C0 K LT w0 w'→SB w' C c b t (F6 cs l)→G' w' C B) (hL:∀ x,x∈[some t]→x∈LT:=by decide) (hT:dJ T [some t]:=by decide):Fr C0 K LT w0 w→G:=
 fun fr=>Gm.mv (G:=G) (C:=C) (fun s=>s (h.sets l).1 (aF.refl _ _) hT (k _ rfl (fr.trans ((h.sets l).1.mono hK hL) ag) (h.sets l).2))
theorem ia [Gm G w C B T G'] (h:SB w C c b t cs) (l:List (Nat×Value)) (k:∀ w',Dr b w l=w'→Fr C0 K LT w0 w'→SB w' C c b t (F6 cs l)→G' w' C B) (hb:w0.heap.size≤b:=by first | exact Nat.le_refl _ | assumption | (simp<;>omega) | omega) (hT:dJ T [some t]:=by decide):Fr C0 K LT w0 w→G:=
 fun fr=>Gm.mv (G:=G) (C:=C) (fun s=>s (h.sets l).1 (aF.refl _ _) hT (k _ rfl (fr.news hb l) (h.sets l).2))
theorem bx0 (w:World) (t:TypeId) (cs:Array Value) (k:∀ (C:Nat→Nat) w',w.alloc (.cells cs t)=w'→aF w.heap.size C C→Fr C (fun _=>False) [] w w'→SB w' C (C w.heap.size) w.heap.size t cs→B):B:=
 k (fun _=>0) _ rfl (aF.refl _ _) (Fr.of_below ((Below.refl _ _).alloc (Nat.le_refl _) _) _ _ _) (SB.new w _ rfl t cs rfl)
theorem Mh (C:Nat→Nat) (w:World) (t:TypeId) (cs:Array Value) (k:∀ w',w.alloc (.cells cs t)=w'→aF w.heap.size C C→Fr C (fun _=>False) [] w w'→SB w' C (C w.heap.size) w.heap.size t cs→B):B:=
 k _ rfl (aF.refl _ _) (Fr.of_below ((Below.refl _ _).alloc (Nat.le_refl _) _) _ _ _) (SB.new w _ rfl t cs rfl)
theorem zo [Gm G w.drew C B T G'] (t:TypeId) (cs:Array Value) (k:∀ w',(w.alloc (.cells cs t)).drew=w'→w0.heap.size≤w.heap.size→Fr C0 K LT w0 w'→SB w' C (C w.heap.size) w.heap.size t cs→G' w' C B):Fr C0 K LT w0 w.drew→G:=bx1 t cs k
theorem bB {P:Program} {f:FuncId} {args:Array Value} {R:Ending→Prop} {Q:Ending→World→Prop} (h:Calls P f args w (fun e w'=>R e∧Below w.heap.size w w')) [Gm G w C (Calls P f args w Q) T G'] (k:∀ e w',R e→Fr C0 K LT w0 w'→G' w' C (Q e w')):Fr C0 K LT w0 w→G:=
 fun fr=>Gm.mv (G:=G) (C:=C) (fun s=>h.mono fun e w' hh=>s (Fr.of_below hh.2 C (fun _=>False) []) (aF.refl _ _) (fun _ _ h=>by cases h) (k e w' hh.1 (fr.step hh.2)))
end
structure l9 (w:World) (C:Nat→Nat) (c s b:Nat) (L:Ly) (x:fY):Prop where
 look:x.at_<2*L.th→s8 w C c b L x.nodes x.seen x.at_
 give:2*L.th≤x.at_→oW w C c s b L x.at_ x.kept x.freed x.give
 at_:0≤x.at_∧x.at_≤2*L.th
 small:Small x.nodes
 xc:Small x.kept
 len:x.nodes.length≤100000∧x.give.length≤100000
def IC:List (Option TypeId):=[some 212,some 259,some 3,none]
def Dt:List (Option TypeId):=[some 212,some 259,none,some 75,some 34]
theorem BC:∀ x,x∈LM→x∈Dt:=by decide
theorem DX:∀ x,x∈J2→x∈Dt:=by decide
theorem BD:∀ x,x∈[some 212]→x∈Dt:=by decide
theorem s8.mv {l seen:List Int} {at_:Int} (h:s8 w C c b L l seen at_) (k:Fr C K T w w') (a:aF w.heap.size C C') (hk:¬ K c∨dJ IC T):s8 w' C' c b L l seen at_:=by
 obtain⟨An,n,cn,mb,k0,h1,h2,h3,h3',h4,h5,h6⟩:=h.ex
 exact⟨An,n,cn,mb,k0,h1,h2.mv k a (hk.imp id (fun h=>h _ (by decide))),h3.mv k a (hk.imp id (fun h=>h _ (by decide))),h3',h4.fr k h5 (hk.imp id (fun h=>h _ (by decide))),(a _ h4.lt).trans h5,h6⟩
variable {s:Nat}
theorem oW.mv {at_:Int} {kept freed give:List Int} (h:oW w C c s b L at_ kept freed give) (k:Fr C K T w w') (a:aF w.heap.size C C') (hk:(¬ K c∧¬ K s)∨dJ IC T):oW w' C' c s b L at_ kept freed give:=by
 obtain⟨Ak,Af,nk,nf,ck,cf,bg,vn,vm,h1,h2,h3,h4,h5⟩:=h.ex
 exact⟨Ak,Af,nk,nf,ck,cf,bg,vn,vm,h1,h2,h3.mv k a (hk.imp (·.1) (fun h=>h _ (by decide))),h4.mv k a (hk.imp (·.2) (fun h=>h _ (by decide))),h5.mv k a (hk.imp (·.1) (fun h=>⟨h _ (by decide),h _ (by decide)⟩))⟩
theorem l9.mv {x:fY} (h:l9 w C c s b L x) (k:Fr C K T w w') (a:aF w.heap.size C C') (hk:(¬ K c∧¬ K s)∨dJ IC T):l9 w' C' c s b L x:=
 ⟨fun h1=>(h.look h1).mv k a (hk.imp (·.1) id),fun h1=>(h.give h1).mv k a hk,h.at_,h.small,h.xc,h.len⟩
theorem xd (M:ML) (m:Mm) (l:List Int):(dH M m l).2.2.length≤l.length:=by cases l<;>simp[dH]
theorem cT.sV {c mb n:Nat} {l:List Int} (h:cT w mb n l) (hC:C mb=c) (hg:w.grownBy w' (some mb)):Fr C (K0 c) [none] w w':=by
 obtain⟨D,⟨es,clock,h4,-⟩,-⟩:=h
 refine(Fr.refl C (K0 c) [none] w).grown hg fun g e=> ?_
 injection e with e
 subst e
 exact⟨hC,_,h4,by simp[Ib]⟩
theorem uR:∀ x,x∈[none]→x∈Dt:=by decide
structure J7 (C:Nat→Nat) (c s b:Nat) (M:ML) (r:Bool×Mm×fY) (w:World) (e:Ending) (w':World):Prop where
 ret:e= .returned (.bool r.1)
 own:∃ C',aF w.heap.size C C'∧aj w' C' M r.2.1∧l9 w' C' c s b M.L r.2.2
 fr:Fr C (Kc c) Dt w w'
theorem xf {x:fY} (hm:aj w C M m) (h:l9 w C c s b M.L x) (hat:2*M.L.th≤x.at_):Calls Tryz.prog 137 #[.pointer (some ⟨b,0,none⟩),.pointer (some ⟨M.b,0,none⟩)] w (J7 C c s b M (ct M m x) w):=by
 obtain⟨nodes,seen,at_,kept,freed,give⟩:=x
 have HST:Hid (ct M m ⟨nodes,seen,at_,kept,freed,give⟩=((dH M m give).1,(dH M m give).2.1,⟨nodes,seen,at_,kept,freed,(dH M m give).2.2⟩)):=Lib.hid (by unfold ct;rw[if_pos hat])
 obtain⟨-,hg,hY,hsm,hsk,hln⟩:=h
 obtain⟨Ak,Af,nk,nf,ck,cf,bg,vn,vm,hnk,hnf,sb,hrow,hgv⟩:=hg hat
 simp only at hat hY hsm hsk hln hnk hnf sb hrow hgv
 obtain⟨r,hr⟩:∃ r,dH M m give=r:=⟨_,rfl⟩
 have Mi:=fun W (h1:aj W C M m) (h2:l6 W C c bg M.L give)=>zd h1 h2 hln.2
 rw[hr] at HST Mi
 have d0:decide (at_≥2*M.L.th)=true:=decide_eq_true hat
 clear hg
 go_enter Tryz.func137,Tryz.ntmps137
 have fr:=Fr.refl C (Kc c) Dt w
 have ag:=aF.refl w.heap.size C
 go_wp2_with fail
 revert hgv;revert hrow;revert hm;revert sb;revert fr;refine bK ?_;intro fr sb hm hrow hgv
 obtain⟨q1,qi⟩:=aY sb
 refine ax sb 9 [] [0,1,2,3,4,5,6,7] [8,9] (by kernel_rfl) (by kernel_rfl) ?_
 refine af ?_;try simp only[ox]
 repeat(go_big_quiet_step (fail))
 refine wpQuiet_nil ?_
 refine aA rfl (fun K' hK'=> ?_);go_simp
 ((with_reducible refine(fU M.L hm.ok _).mono ?_);rintro e w1 ⟨rfl,hb1⟩)
 revert fr sb hm hrow hgv;refine eH hb1 ?_;intro fr sb hm hrow hgv
 refine hK' _ _ (cj sb) ?_;clear hK' K'
 refine ae _ _ _ (by kernel_rfl) ?_;try simp only[ox]
 clear qi q1
 go_wp2_with fail
 refine NoPanic.normal ?_
 go_wp2_with fail
 refine(Mi _ hm hgv).mono ?_;clear hm hgv;rintro e w2 ⟨rfl,hm,hgv,hf⟩
 revert fr sb hrow;refine eA hf (fun _ h=>h) DX ag ?_;clear hf;intro fr sb hrow
 go_wp2_with fail
 go_ret
 refine⟨by rw[HST.out];rfl,⟨C,aF.refl _ _,by rw[HST.out];exact hm,?_⟩,fr⟩
 rw[HST.out]
 exact⟨fun h=>by simp only at h;omega,fun _=>⟨Ak,Af,nk,nf,ck,cf,bg,vn,vm,hnk,hnf,sb,hrow,hgv⟩,hY,hsm,hsk,hln.1,by simp only;rw[←hr];exact Nat.le_trans (xd M m give) hln.2⟩
theorem BE {x:fY} (hm:aj w C M m) (h:l9 w C c s b M.L x) (hat:x.at_<2*M.L.th) (h0:¬ x.at_+1=2*M.L.th):Calls Tryz.prog 137 #[.pointer (some ⟨b,0,none⟩),.pointer (some ⟨M.b,0,none⟩)] w (J7 C c s b M (ct M m x) w):=by
 obtain⟨nodes,seen,at_,kept,freed,give⟩:=x
 obtain⟨hg,-,hY,hsm,hsk,hln⟩:=h
 obtain⟨An,n,cn,mb,k0,hn,sb,hsr,hcn,hse,hmb,hk0⟩:=hg hat
 simp only at hat hY hsm hsk hln hn sb hsr hse hk0 h0
 have hth:=hm.ok.th
 have cF:=bN hm (M.L.slot 0 at_)
 obtain⟨v,hv⟩:∃ v,ld M m (M.L.slot 0 at_)=v:=⟨_,rfl⟩
 have HST:Hid (ct M m ⟨nodes,seen,at_,kept,freed,give⟩=(false,m,(⟨nodes,wrap64 v::seen,at_+1,kept,freed,give⟩:fY))):=Lib.hid (by unfold ct;rw[if_neg (by simp only;omega)];rw[if_neg h0,hv];rfl)
 rw[hv] at cF
 have HV:=Lib.hid hv
 have HN:=Lib.hid hn
 have m0:=Lib.hid hsm
 have J8:=Lib.hid hsk
 have J9:=Lib.hid hln
 have hnn:n≤100000:=by rw[←hn];exact hln.1
 have d0:decide (at_≥2*M.L.th)=false:=by simp;omega
 have e6:wrap64 (at_+1)=at_+1:=IntWalk.wrap64_in _ (by omega)
 have hwr:=oZ v
 replace hse:l8 w C c mb k0 seen:=⟨hse,hmb⟩
 have H0:=Lib.hid h0
 clear hg hv hn hsm hsk hln h0
 go_enter Tryz.func137,Tryz.ntmps137
 have fr:=Fr.refl C (Kc c) Dt w
 have ag:=aF.refl w.heap.size C
 go_wp2_with fail
 revert hse;revert hsr;revert hm;revert sb;revert fr;refine bK ?_;intro fr sb hm hsr hse
 obtain⟨q1,qi⟩:=aY sb
 refine ax sb 9 [] [0,1,2,3,4,5,6,7] [8,9] (by kernel_rfl) (by kernel_rfl) ?_
 refine af ?_;try simp only[ox]
 repeat(go_big_quiet_step (fail))
 refine wpQuiet_nil ?_
 refine aA rfl (fun K' hK'=> ?_);go_simp
 ((with_reducible refine(fU M.L hm.ok _).mono ?_);rintro e w1 ⟨rfl,hb1⟩)
 revert fr sb hm hsr hse;refine eH hb1 ?_;intro fr sb hm hsr hse
 refine hK' _ _ (cj sb) ?_;clear hK' K'
 refine ae _ _ _ (by kernel_rfl) ?_;try simp only[ox]
 clear qi q1
 go_wp2_with fail
 refine NoPanic.normal ?_
 go_wp2_with fail
 revert fr sb hm hsr hse;refine bK ?_;intro fr sb hm hsr hse
 obtain⟨q1,qi⟩:=aY sb
 refine ax sb 16 [([0,1,2,3,4,5,6,7,8,9,10,11,12],13),([],14)] [15] [16] (by kernel_rfl) (by kernel_rfl) ?_
 refine ai ?_;simp only[ox];repeat(go_big_quiet_step (fail))
 refine dI rfl (fun K' hK'=> ?_);go_simp
 ((with_reducible refine(jR M.L hm.ok 0 at_ (by omega) (by omega) _).mono ?_);rintro e w2 ⟨rfl,hb2⟩)
 revert fr sb hm hsr hse;refine eH hb2 ?_;intro fr sb hm hsr hse
 refine hK' _ _ (cj sb) ?_;clear hK' K'
 refine ai ?_;simp only[ox];repeat(go_big_quiet_step (fail))
 refine dI rfl (fun K' hK'=> ?_);go_simp
 ((with_reducible refine(aS hm (M.L.slot 0 at_)).mono ?_);clear hm;rintro e w3 ⟨rfl,hm,hf⟩)
 rw[HV.out]
 revert fr sb hsr hse;refine eA hf (aV c) BC ag ?_;clear hf;intro fr sb hsr hse
 refine hK' _ _ (cj sb) ?_;clear hK' K'
 refine af ?_;try simp only[ox]
 repeat(go_big_quiet_step (fail))
 refine wpQuiet_nil ?_
 refine ae _ _ _ (by kernel_rfl) ?_;try simp only[ox]
 clear qi q1
 obtain⟨w9,hput,BF,ID⟩:=hse.at_.put (by unfold maxLen;omega) (wrap64 v) (.int .i64 (wrap64 v)) (s7 _ hwr)
 have bV:=hse.at_.sV hmb ID
 go_wp2_with fail
 refine NoPanic.normal ?_
 revert hm sb hsr;revert fr;refine eA bV (aN c) uR ag ?_;clear bV;intro fr hm sb hsr
 replace hse:l8 w9 C c mb (k0+1) (wrap64 v::seen):=⟨BF,hmb⟩
 clear BF hput ID
 have z1:=sb
 revert hse;revert hsr;revert hm;revert fr;refine st1 sb 6 (.int .i64 (at_+1)) (aN c) ag ?_;clear sb;rintro w4 e1 fr sb hm hsr hse
 simp only[sx] at sb
 go_wp2_with fail
 clear z1 e1
 have d5:((at_+1:Int)==2*M.L.th)=false:=beq_eq_false_iff_ne.2 H0.out
 revert fr hm hsr hse sb;refine bK ?_;intro fr hm hsr hse sb
 obtain⟨q1,qi⟩:=aY sb
 refine ax sb 12 [([0,1,2,3,4,5,6,7],8)] [9,10,11] [12,13,14] (by kernel_rfl) (by kernel_rfl) ?_
 refine ai ?_;simp only[ox];repeat(go_big_quiet_step (fail))
 refine dI rfl (fun K' hK'=> ?_);go_simp
 ((with_reducible refine(fU M.L hm.ok _).mono ?_);rintro e w5 ⟨rfl,hb5⟩)
 revert fr hm hsr hse sb;refine eH hb5 ?_;intro fr hm hsr hse sb
 refine hK' _ _ (cj sb) ?_;clear hK' K'
 refine af ?_;try simp only[ox]
 repeat(go_big_quiet_step (fail))
 refine wpQuiet_nil ?_
 refine ae _ _ _ (by kernel_rfl) ?_;try simp only[ox]
 clear qi q1
 go_wp2_with fail
 refine NoPanic.normal ?_
 go_wp2_with fail
 go_ret
 refine⟨by rw[HST.out];rfl,⟨C,aF.refl _ _,by rw[HST.out];exact hm,?_⟩,fr⟩
 rw[HST.out]
 have h0:=H0.out
 exact⟨fun _=>⟨An,n,cn,mb,k0+1,HN.out,sb,hsr,hcn,hse.at_,hmb,by simp only;omega⟩,fun h=>by simp only at h;omega,by simp only;omega,m0.out,J8.out,J9.out⟩
theorem BG {x:fY} (hm:aj w C M m) (h:l9 w C c s b M.L x) (hat:x.at_<2*M.L.th) (h0:x.at_+1=2*M.L.th):Calls Tryz.prog 137 #[.pointer (some ⟨b,0,none⟩),.pointer (some ⟨M.b,0,none⟩)] w (J7 C c s b M (ct M m x) w):=by
 obtain⟨nodes,seen,at_,kept,freed,give⟩:=x
 obtain⟨hg,-,hY,hsm,hsk,hln⟩:=h
 obtain⟨An,n,cn,mb,k0,hn,sb,hsr,hcn,hse,hmb,hk0⟩:=hg hat
 simp only at hat hY hsm hsk hln hn sb hsr hse hk0 h0
 have hth:=hm.ok.th
 have cF:=bN hm (M.L.slot 0 at_)
 obtain⟨v,hv⟩:∃ v,ld M m (M.L.slot 0 at_)=v:=⟨_,rfl⟩
 have HST:Hid (ct M m ⟨nodes,seen,at_,kept,freed,give⟩=((⟨nodes,wrap64 v::seen,at_+1,kept,freed,give⟩:fY).part.freed.isEmpty,m,(⟨nodes,wrap64 v::seen,at_+1,kept,freed,give⟩:fY).part)):=Lib.hid (by unfold ct;rw[if_neg (by simp only;omega)];rw[if_pos h0,hv];rfl)
 rw[hv] at cF
 have HV:=Lib.hid hv
 have HN:=Lib.hid hn
 have m0:=Lib.hid hsm
 have J8:=Lib.hid hsk
 have J9:=Lib.hid hln
 have hnn:n≤100000:=by rw[←hn];exact hln.1
 have d0:decide (at_≥2*M.L.th)=false:=by simp;omega
 have e6:wrap64 (at_+1)=at_+1:=IntWalk.wrap64_in _ (by omega)
 have hwr:=oZ v
 replace hse:l8 w C c mb k0 seen:=⟨hse,hmb⟩
 have H0:=Lib.hid h0
 clear hg hv hn hsm hsk hln h0
 go_enter Tryz.func137,Tryz.ntmps137
 have fr:=Fr.refl C (Kc c) Dt w
 have ag:=aF.refl w.heap.size C
 go_wp2_with fail
 revert hse;revert hsr;revert hm;revert sb;revert fr;refine bK ?_;intro fr sb hm hsr hse
 obtain⟨q1,qi⟩:=aY sb
 refine ax sb 9 [] [0,1,2,3,4,5,6,7] [8,9] (by kernel_rfl) (by kernel_rfl) ?_
 refine af ?_;try simp only[ox]
 repeat(go_big_quiet_step (fail))
 refine wpQuiet_nil ?_
 refine aA rfl (fun K' hK'=> ?_);go_simp
 ((with_reducible refine(fU M.L hm.ok _).mono ?_);rintro e w1 ⟨rfl,hb1⟩)
 revert fr sb hm hsr hse;refine eH hb1 ?_;intro fr sb hm hsr hse
 refine hK' _ _ (cj sb) ?_;clear hK' K'
 refine ae _ _ _ (by kernel_rfl) ?_;try simp only[ox]
 clear qi q1
 go_wp2_with fail
 refine NoPanic.normal ?_
 go_wp2_with fail
 revert fr sb hm hsr hse;refine bK ?_;intro fr sb hm hsr hse
 obtain⟨q1,qi⟩:=aY sb
 refine ax sb 16 [([0,1,2,3,4,5,6,7,8,9,10,11,12],13),([],14)] [15] [16] (by kernel_rfl) (by kernel_rfl) ?_
 refine ai ?_;simp only[ox];repeat(go_big_quiet_step (fail))
 refine dI rfl (fun K' hK'=> ?_);go_simp
 ((with_reducible refine(jR M.L hm.ok 0 at_ (by omega) (by omega) _).mono ?_);rintro e w2 ⟨rfl,hb2⟩)
 revert fr sb hm hsr hse;refine eH hb2 ?_;intro fr sb hm hsr hse
 refine hK' _ _ (cj sb) ?_;clear hK' K'
 refine ai ?_;simp only[ox];repeat(go_big_quiet_step (fail))
 refine dI rfl (fun K' hK'=> ?_);go_simp
 ((with_reducible refine(aS hm (M.L.slot 0 at_)).mono ?_);clear hm;rintro e w3 ⟨rfl,hm,hf⟩)
 rw[HV.out]
 revert fr sb hsr hse;refine eA hf (aV c) BC ag ?_;clear hf;intro fr sb hsr hse
 refine hK' _ _ (cj sb) ?_;clear hK' K'
 refine af ?_;try simp only[ox]
 repeat(go_big_quiet_step (fail))
 refine wpQuiet_nil ?_
 refine ae _ _ _ (by kernel_rfl) ?_;try simp only[ox]
 clear qi q1
 obtain⟨w9,hput,BF,ID⟩:=hse.at_.put (by unfold maxLen;omega) (wrap64 v) (.int .i64 (wrap64 v)) (s7 _ hwr)
 have bV:=hse.at_.sV hmb ID
 go_wp2_with fail
 refine NoPanic.normal ?_
 revert hm sb hsr;revert fr;refine eA bV (aN c) uR ag ?_;clear bV;intro fr hm sb hsr
 replace hse:l8 w9 C c mb (k0+1) (wrap64 v::seen):=⟨BF,hmb⟩
 clear BF hput ID
 have z1:=sb
 revert hse;revert hsr;revert hm;revert fr;refine st1 sb 6 (.int .i64 (at_+1)) (aN c) ag ?_;clear sb;rintro w4 e1 fr sb hm hsr hse
 simp only[sx] at sb
 go_wp2_with fail
 clear z1 e1
 have d5:((at_+1:Int)==2*M.L.th)=true:=beq_iff_eq.2 H0.out
 revert fr hm hsr hse sb;refine bK ?_;intro fr hm hsr hse sb
 obtain⟨q1,qi⟩:=aY sb
 refine ax sb 12 [([0,1,2,3,4,5,6,7],8)] [9,10,11] [12,13,14] (by kernel_rfl) (by kernel_rfl) ?_
 refine ai ?_;simp only[ox];repeat(go_big_quiet_step (fail))
 refine dI rfl (fun K' hK'=> ?_);go_simp
 ((with_reducible refine(fU M.L hm.ok _).mono ?_);rintro e w5 ⟨rfl,hb5⟩)
 revert fr hm hsr hse sb;refine eH hb5 ?_;intro fr hm hsr hse sb
 refine hK' _ _ (cj sb) ?_;clear hK' K'
 refine af ?_;try simp only[ox]
 repeat(go_big_quiet_step (fail))
 refine wpQuiet_nil ?_
 refine ae _ _ _ (by kernel_rfl) ?_;try simp only[ox]
 clear qi q1
 go_wp2_with fail
 have Ns:=fr.size
 refine(wY (s:=s) sb HN.out hnn m0.out hsr hse.at_ hmb).mono ?_
 rintro e w8 ⟨rfl,⟨C',hag,hgi⟩,hf⟩
 replace fr:=fr.fw (hf.mono (aN c) BD)
 have hm':=hm.mv hf hag (.inr ⟨by decide,by decide⟩)
 have hag':aF w.heap.size C C':=fun g hg=>hag g (Nat.lt_of_lt_of_le hg Ns)
 go_wp2_with fail
 refine NoPanic.normal ?_
 go_wp2_with fail
 go_ret
 refine⟨by rw[HST.out];rfl,⟨C',hag',by rw[HST.out];exact hm',?_⟩,fr⟩
 rw[HST.out]
 have h0:=H0.out
 refine⟨fun h=>by simp only[fY.part] at h;omega,fun _=>hgi,by simp only[fY.part];omega,m0.out,fun x hx=>m0.out x (List.mem_filter.1 hx).1,J9.out.1,Nat.le_trans (mZ _ _) J9.out.1⟩
theorem rZ {x:fY} (hm:aj w C M m) (h:l9 w C c s b M.L x):Calls Tryz.prog 137 #[.pointer (some ⟨b,0,none⟩),.pointer (some ⟨M.b,0,none⟩)] w (J7 C c s b M (ct M m x) w):=by
 by_cases hat:2*M.L.th≤x.at_
 ·exact xf hm h hat
 ·by_cases h0:x.at_+1=2*M.L.th
  ·exact BG hm h (by omega) h0
  ·exact BE hm h (by omega) h0
structure aq (w:World) (C:Nat→Nat) (s b:Nat) (L:Ly) (me:Int) (t:cg):Prop where
 ex:∃ (A:Option Addr) (n cap:Nat),t.ret.length=n∧SB w C s b 137 #[.int .i64 L.th,.int .i64 L.nd,.int .i64 me,.int .i64 t.spare,.slice A n cap]∧Row w C s 3 1 (.slice A n cap) n (cJ t.ret)
 me:0≤me∧me≤7
 spare:0≤t.spare∧t.spare≤1000
 small:Small t.ret
def BI:List (Option TypeId):=[some 137,some 3]
variable {me:Int} {t:cg}
theorem aq.mv (h:aq w C s b L me t) (k:Fr C K T w w') (a:aF w.heap.size C C') (hk:¬ K s∨dJ BI T):aq w' C' s b L me t:=by
 obtain⟨A,n,cap,h1,h2,h3⟩:=h.ex
 exact⟨⟨A,n,cap,h1,h2.mv k a (hk.imp id (fun h=>h _ (by decide))),h3.mv k a (hk.imp id (fun h=>h _ (by decide)))⟩,h.me,h.spare,h.small⟩
theorem aq.fr (h:aq w C s b L me t) (k:Fr C K T w w') (hk:¬ K s∨dJ BI T):aq w' C s b L me t:=h.mv k (aF.refl _ _) hk
theorem aq.step (h:aq w C s b L me t) (k:Below w.heap.size w w'):aq w' C s b L me t:=h.mv (Fr.of_below k C (fun _=>False) []) (aF.refl _ _) (.inr (by decide))
theorem aq.oK (h:aq w C s b L me t) (a:aF w.heap.size C C'):aq w C' s b L me t:=h.mv (Fr.refl C (fun _=>False) [] w) a (.inr (by decide))
instance {w:World} {C:Nat→Nat} {s b:Nat} {L:Ly} {me:Int} {t:cg}:Mv (aq w C s b L me t) w C BI (fun w' C'=>aq w' C' s b L me t):=⟨fun h k a hk=>h.mv k a (.inr hk)⟩
instance {w:World} {C:Nat→Nat} {c s b:Nat} {L:Ly} {x:fY}:Mv (l9 w C c s b L x) w C IC (fun w' C'=>l9 w' C' c s b L x):=⟨fun h k a hk=>h.mv k a (.inr hk)⟩
def o0 {α:Type} (o:Option α) (v:Value) (P:Nat→α→Prop):Prop:=
 match o with
 | none=>v= .pointer none
 | some a=>∃ b,v= .pointer (some ⟨b,0,none⟩)∧P b a
theorem o0.imp {α:Type} {o:Option α} {v:Value} {P P':Nat→α→Prop} (h:o0 o v P) (hi:∀ b a,P b a→P' b a):o0 o v P':=by
 cases o with
 | none=>exact h
 | some a=>obtain⟨b,h1,h2⟩:=h;exact⟨b,h1,hi b a h2⟩
structure jU (w:World) (C:Nat→Nat) (c s sb b:Nat) (L:Ly) (x:qV):Prop where
 ex:∃ p,SB w C c b 207 #[.pointer (some ⟨sb,0,none⟩),p]∧o0 x p (fun bs y=>l9 w C c s bs L y)
def KR:List (Option TypeId):=some 207::IC
theorem jU.mv {c s sb b:Nat} {L:Ly} {x:qV} (h:jU w C c s sb b L x) (k:Fr C K T w w') (a:aF w.heap.size C C') (hk:(¬ K c∧¬ K s)∨dJ KR T):jU w' C' c s sb b L x:=by
 obtain⟨p,h1,h2⟩:=h.ex
 exact⟨p,h1.mv k a (hk.imp (·.1) (fun h=>h _ (by decide))),h2.imp fun bs y hy=>hy.mv k a (hk.imp id (fun h x hx=>h x (List.mem_cons_of_mem _ hx)))⟩
instance {w:World} {C:Nat→Nat} {c s sb b:Nat} {L:Ly} {x:qV}:Mv (jU w C c s sb b L x) w C KR (fun w' C'=>jU w' C' c s sb b L x):=⟨fun h k a hk=>h.mv k a (.inr hk)⟩
structure fE (w:World) (C:Nat→Nat) (c s sb b:Nat) (L:Ly) (e:jL):Prop where
 ex:∃ pa pw,SB w C c b 182 #[.pointer (some ⟨sb,0,none⟩),.bool e.short,pa,pw,.bool e.done]∧o0 e.scan pw (fun bw y=>jU w C c s sb bw L y)∧(e.scan=none→o0 e.alloc pa (fun ba y=>mT w C c ba L y∧0≤y.got∧y.got≤1000))
def Ka:List (Option TypeId):=some 182::some 185::KR
theorem fE.mv {c s sb b:Nat} {L:Ly} {x:jL} (h:fE w C c s sb b L x) (k:Fr C K T w w') (a:aF w.heap.size C C') (hk:(¬ K c∧¬ K s)∨dJ Ka T):fE w' C' c s sb b L x:=by
 obtain⟨pa,pw,h1,h2,h3⟩:=h.ex
 exact⟨pa,pw,h1.mv k a (hk.imp (·.1) (fun h=>h _ (by decide))),h2.imp fun bs y hy=>hy.mv k a (hk.imp id (fun h x hx=>h x (List.mem_cons_of_mem _ (List.mem_cons_of_mem _ hx)))),
  fun hs=>(h3 hs).imp fun bs y hy=>⟨hy.1.mv k a (hk.imp (·.1) (fun h=>h _ (by decide))),hy.2⟩⟩
theorem fE.fr {c s sb b:Nat} {L:Ly} {x:jL} (h:fE w C c s sb b L x) (k:Fr C K T w w') (hk:(¬ K c∧¬ K s)∨dJ Ka T):fE w' C c s sb b L x:=h.mv k (aF.refl _ _) hk
instance {w:World} {C:Nat→Nat} {c s sb b:Nat} {L:Ly} {x:jL}:Mv (fE w C c s sb b L x) w C Ka (fun w' C'=>fE w' C' c s sb b L x):=⟨fun h k a hk=>h.mv k a (.inr hk)⟩
structure jV (w:World) (C:Nat→Nat) (c sb b:Nat) (p:kP):Prop where
 blk:SB w C c b 236 #[.pointer (some ⟨sb,0,none⟩),.int .i64 p.key,.int .i64 p.next,.int .u64 p.found,.bool p.loaded]
 found:0≤p.found∧p.found<18446744073709551616
def KS:List (Option TypeId):=[some 236]
theorem jV.mv {c sb b:Nat} {x:kP} (h:jV w C c sb b x) (k:Fr C K T w w') (a:aF w.heap.size C C') (hk:¬ K c∨dJ KS T):jV w' C' c sb b x:=⟨h.blk.mv k a (hk.imp id (fun h=>h _ (by decide))),h.found⟩
theorem jV.fr {c sb b:Nat} {x:kP} (h:jV w C c sb b x) (k:Fr C K T w w') (hk:¬ K c∨dJ KS T):jV w' C c sb b x:=h.mv k (aF.refl _ _) hk
instance {w:World} {C:Nat→Nat} {c sb b:Nat} {x:kP}:Mv (jV w C c sb b x) w C KS (fun w' C'=>jV w' C' c sb b x):=⟨fun h k a hk=>h.mv k a (.inr hk)⟩
variable {w0:World}
theorem gd {C C0:Nat→Nat} {c:Nat} {X:World→(Nat→Nat)→Nat→Prop} {K:Nat→Prop} {LT T:List (Option TypeId)} {G:Prop} {G':World→(Nat→Nat)→Prop→Prop} {P:Program} {f:FuncId} {args:Array Value} {Q:Ending→World→Prop} (h:Calls P f args w (ln C c X w)) [Gm G w C (Calls P f args w Q) T G']
  (k:∀ w' b C',aF w0.heap.size C0 C'→Fr C0 K LT w0 w'→X w' C' b→G' w' C' (Q (.returned (.pointer (some ⟨b,0,none⟩))) w')):aF w0.heap.size C0 C→Fr C0 K LT w0 w→G:=
 fun ag fr=>Gm.mv (G:=G) (C:=C) (fun s=>h.mono fun e w' hh=>by
  obtain⟨⟨b,rfl,-,hx⟩,hb⟩:=hh
  exact s (Fr.of_below hb C (fun _=>False) []) (aF.br _ _ _) (fun _ _ h=>by cases h) (k w' b _ (ag.trans (aF.br _ _ _) fr.size) (fr.step hb) hx))
theorem zp (L:Ly) (me:Int) (hme:0≤me∧me≤7) (C:Nat→Nat) (s:Nat) (w:World):Calls Tryz.prog 58 #[L.val,.int .i64 me] w (ln C s (fun w' C' b=>aq w' C' s b L me ⟨0,[]⟩) w):=by
 obtain⟨th,nd⟩:=L
 simp only[Ly.val]
 go_enter Tryz.func58,Tryz.ntmps58
 go_wp2_with fail
 have hb0:Below w.heap.size w (w.alloc (.cells #[.int .i64 th,.int .i64 nd] 31)):=(Below.refl _ _).alloc (Nat.le_refl _) _
 go_ret
 exact⟨⟨w.heap.size+1,rfl,by omega,⟨none,0,0,rfl,SB.new _ _ (aT C s (by omega)) _ _ (by simp),Row.nil_ _ _ _ _ _⟩,hme,by simp,by intro x hx;cases hx⟩,hb0.alloc (by simp) _⟩
theorem fV (sb:Nat) (L:Ly) (s:Nat) (C:Nat→Nat) (c:Nat) (w:World):Calls Tryz.prog 86 #[.pointer (some ⟨sb,0,none⟩)] w (ln C c (fun w' C' b=>jU w' C' c s sb b L none) w):=by
 go_enter Tryz.func86,Tryz.ntmps86
 go_wp2_with fail
 go_ret
 exact⟨⟨w.heap.size,rfl,Nat.le_refl _,⟨_,SB.new _ _ (aT C c (Nat.le_refl _)) _ _ rfl,rfl⟩⟩,(Below.refl _ _).alloc (Nat.le_refl _) _⟩
theorem mc (sb:Nat) (L:Ly) (s:Nat) (C:Nat→Nat) (c:Nat) (w:World):Calls Tryz.prog 107 #[.pointer (some ⟨sb,0,none⟩)] w (ln C c (fun w' C' b=>fE w' C' c s sb b L .new) w):=by
 go_enter Tryz.func107,Tryz.ntmps107
 go_wp2_with fail
 go_ret
 exact⟨⟨w.heap.size,rfl,Nat.le_refl _,⟨_,_,SB.new _ _ (aT C c (Nat.le_refl _)) _ _ rfl,rfl,fun _=>rfl⟩⟩,(Below.refl _ _).alloc (Nat.le_refl _) _⟩
theorem kW (sb:Nat) (key next:Int) (C:Nat→Nat) (c:Nat) (w:World):Calls Tryz.prog 157 #[.pointer (some ⟨sb,0,none⟩),.int .i64 key,.int .i64 next] w (ln C c (fun w' C' b=>jV w' C' c sb b (.new key next)) w):=by
 go_enter Tryz.func157,Tryz.ntmps157
 go_wp2_with fail
 go_ret
 exact⟨⟨w.heap.size,rfl,Nat.le_refl _,SB.new _ _ (aT C c (Nat.le_refl _)) _ _ rfl,by simp[kP.new]⟩,(Below.refl _ _).alloc (Nat.le_refl _) _⟩
theorem xg (hL:L.Ok) (h:aq w C s b L me t):Calls Tryz.prog 87 #[.pointer (some ⟨b,0,none⟩)] w fun e w'=>e= .returned (.bool (uM L t))∧Below w.heap.size w w':=by
 obtain⟨⟨A,n,cap,hn,sb,hrow⟩,-,-,-⟩:=h
 have hth:=hL.th
 have HN:=Lib.hid hn
 have e1:wrap64 (4*L.th)=4*L.th:=IntWalk.wrap64_in _ (by omega)
 have hc:=sb.blk.cells
 clear hn
 go_enter Tryz.func87,Tryz.ntmps87
 have fr:=Fr.refl C (fun _=>False) [] w
 go_wp2_with fail
 revert sb;revert fr;refine bK ?_;intro fr sb
 obtain⟨q1,qi⟩:=aY sb
 refine ax sb 12 [] [0,1,2,3,4,5,6,7,8,9,10,11] [12] (by kernel_rfl) (by kernel_rfl) ?_
 refine af ?_;try simp only[ox]
 repeat(go_big_quiet_step (fail))
 refine wpQuiet_nil ?_
 refine ae _ _ _ (by kernel_rfl) ?_;try simp only[ox]
 clear qi q1
 go_wp2_with fail
 refine NoPanic.normal ?_
 go_wp2_with fail
 go_ret
 exact⟨by unfold uM;rw[HN.out];rfl,(Below.refl _ _).drew⟩
theorem uS (hL:L.Ok) (h:aq w C s b L me t):Calls Tryz.prog 111 #[.pointer (some ⟨b,0,none⟩)] w fun e w'=>e= .returned (.int .i64 (jk L me))∧Below w.heap.size w w':=by
 obtain⟨⟨A,n,cap,hn,sb,hrow⟩,hme,-,-⟩:=h
 have hth:=hL.th
 have hnd:=hL.nd
 have d1:decide (L.th<1)=false:=by simp;omega
 have hp:0≤me*L.nd∧me*L.nd≤1400:=⟨Int.mul_nonneg hme.1 (by omega),by
  have:=Int.mul_le_mul hme.2 hnd.2 (by omega) (by omega);omega⟩
 have e1:wrap64 (me*L.nd)=me*L.nd:=IntWalk.wrap64_in _ (by omega)
 have hq:0≤(me*L.nd).tdiv L.th∧(me*L.nd).tdiv L.th≤1400:=by
  rw[Int.tdiv_eq_ediv_of_nonneg hp.1]
  exact⟨Int.ediv_nonneg hp.1 (by omega),Int.le_trans (Int.ediv_le_self _ hp.1) hp.2⟩
 have e2:wrap64 ((me*L.nd).tdiv L.th)=(me*L.nd).tdiv L.th:=IntWalk.wrap64_in _ (by omega)
 have e3:wrap64 (1+(me*L.nd).tdiv L.th)=1+(me*L.nd).tdiv L.th:=IntWalk.wrap64_in _ (by omega)
 have hz:(L.th==0)=false:=beq_eq_false_iff_ne.2 (by omega)
 have hz2:L.th≠0:=by omega
 have hc:=sb.blk.cells
 clear hn
 go_enter Tryz.func111,Tryz.ntmps111
 have fr:=Fr.refl C (fun _=>False) [] w
 go_wp2_with fail
 revert sb;revert fr;refine bK ?_;intro fr sb
 obtain⟨q1,qi⟩:=aY sb
 refine ax sb 17 [] [0,1,2,3,4,5,6,7,8,9,10,11,12,13,14,15,16] [17] (by kernel_rfl) (by kernel_rfl) ?_
 refine af ?_;try simp only[ox]
 repeat(go_big_quiet_step (fail))
 refine wpQuiet_nil ?_
 refine ae _ _ _ (by kernel_rfl) ?_;try simp only[ox]
 clear qi q1
 go_wp2_with fail
 refine NoPanic.normal ?_
 go_wp2_with fail
 go_ret
 exact⟨fL (by first | rfl | (unfold jk;omega)),(Below.refl _ _).drew⟩
structure KT (C:Nat→Nat) (s b:Nat) (L:Ly) (me:Int) (t:cg) (w:World) (e:Ending) (w':World):Prop where
 ret:e= .returned (.int .i64 t.spare)
 own:aq w' C s b L me { t with spare:=0 }
 fr:Fr C (K0 s) BI w w'
theorem m5 (h:aq w C s b L me t):Calls Tryz.prog 105 #[.pointer (some ⟨b,0,none⟩)] w (KT C s b L me t w):=by
 obtain⟨⟨A,n,cap,hn,sb,hrow⟩,hme,hsp,hsm⟩:=h
 have HN:=Lib.hid hn
 have m0:=Lib.hid hsm
 clear hn hsm
 have hc:=sb.blk.cells
 have hfz:=sb.blk.frees
 have fr:=(Fr.refl C (K0 s) BI w).ar sb (fk s) (by decide) 3 (.int .i64 0)
 have hr2:=hrow.ar sb (by decide) 3 (.int .i64 0)
 have IE:=sb.ar 3 (.int .i64 0)
 go_enter Tryz.func105,Tryz.ntmps105
 go_wp2_with fail
 go_ret
 exact⟨rfl,⟨⟨A,n,cap,HN.out,IE,hr2⟩,hme,by simp,m0.out⟩,fr⟩
structure DY (C:Nat→Nat) (s b:Nat) (L:Ly) (me:Int) (t:cg) (w:World) (e:Ending) (w':World):Prop where
 ret:e= .returned (.tuple #[])
 own:∃ C',aF w.heap.size C C'∧aq w' C' s b L me t
 fr:Fr C (K0 s) BI w w'
theorem cE (h:aq w C s b L me t) (l:List Int) (A2:Option Addr) (n2 c2 B:Nat) (hs:Sl w B 1 A2 n2 (cJ l)) (hn2:l.length=n2) (hle:t.ret.length≤100000) (hle2:n2≤100000) (IF:Small l):
  Calls Tryz.prog 83 #[.pointer (some ⟨b,0,none⟩),.slice A2 n2 c2] w (DY C s b L me (t.retire l) w):=by
 obtain⟨i0,hi,hz0,hz1,hz2⟩:=info_parts iu
 obtain⟨⟨A,n,cap,hn,sb,hrow⟩,hme,hsp,hsm⟩:=h
 rw[hn] at hle
 have HN:=Lib.hid (show (t.retire l).ret.length=n+n2 by simp[cg.retire,hn,hn2])
 have m0:=Lib.hid (show Small (t.retire l).ret from fun x hx=>(List.mem_append.1 hx).elim (hsm x) (IF x))
 have F7:=Lib.hid (show cJ (t.retire l).ret=cJ t.ret++cJ l by simp[cg.retire,cJ])
 clear hn hsm IF hn2
 have hne:=own_ne hrow.own sb.blk (by decide)
 have hc:=sb.blk.cells
 have F8:=Fr.refl C (K0 s) BI w
 go_enter Tryz.func83,Tryz.ntmps83
 go_wp2_with (at_builtin;refine eD _ rfl _ _ _ rfl 0 3 i0 _ 1 8 Tryz.underlying89 hi hz0 hz1 hz2 rfl (by omega) (.slice A n cap) n (cJ t.ret) rfl hrow.own B A2 n2 c2 (cJ l) rfl hs (gS l) (by unfold maxLen;omega) (by omega) (by omega) ?_;intro v1 w1 hown1 hg1 DP;have sb1:SB w1 C s b 137 _:=SB.mk (sb.blk.grown hg1 (fun e=>hne e)) sb.col;have sV:=F8.app hrow hg1 (fk s) (by decide);have hr1:=hrow.app hown1 DP;have hc1:=sb1.blk.cells;have hfz1:=sb1.blk.frees;obtain⟨A3,c3,rfl,hc3,-,-⟩:=bT hown1)
 have ag:aF w.heap.size C (br C w.heap.size s):=aF.br C _ s
 have IE:=sb1.ar 4 (.slice A3 (n+n2) c3)
 have hr2:=hr1.far (p:=⟨b,4,none⟩) (own_ne hown1 sb1.blk (by decide)) (.slice A3 (n+n2) c3)
 have Nt:=sV.ar sb1 (fk s) (by decide) 4 (.slice A3 (n+n2) c3)
 go_end0
 refine⟨rfl,⟨br C w.heap.size s,ag,⟨A3,n+n2,c3,HN.out,SB.mk IE.blk ?_,by rw[F7.out];exact hr2⟩,hme,hsp,m0.out⟩,Nt⟩
 exact(ag b sb.lt).trans sb.col
end Go.Proofs.YtbcnnhlpilmmbaaGreat
