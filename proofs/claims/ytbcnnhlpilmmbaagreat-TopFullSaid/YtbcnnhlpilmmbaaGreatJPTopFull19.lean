/- Texts that are wanted for PTopFull.
   Conditions: none. -/
import Derived.Test.YtbcnnhlpilmmbaaGreatJPTopFull17
import Derived.Test.YtbcnnhlpilmmbaaGreatJPTopFull18
set_option maxRecDepth 100000
set_option maxHeartbeats 6400000
namespace Go.Proofs.YtbcnnhlpilmmbaaGreat
open Go Go.RowKit
def ep (w:World) (C:Nat→Nat) (c sg b:Nat) (ph pl pe pf pa pr pi pd ps:Value) (d:aH):Prop:=SB w C c b 129 #[.pointer (some ⟨sg,0,none⟩),.int .i64 d.res.code,.bool d.res.ok,.int .i64 d.res.val,.bool d.slow,.int .i64 d.task.sh,.int .i64 d.task.kind,.int .i64 d.task.key,.int .i64 d.limit,.int .i64 d.at_,ph,pl,pe,pf,pa,pr,pi,pd,ps]
structure aX (w:World) (C:Nat→Nat) (c s sg b:Nat) (L:Ly) (me:Int) (d:aH):Prop where
 ex:∃ ph pl pe pf pa pr pi pd ps,ep w C c sg b ph pl pe pf pa pr pi pd ps d∧(d.at_=0→∃ b',ph= .pointer (some ⟨b',0,none⟩)∧ie w C c b' L d.head)∧
  (d.at_=1→∃ b',pl= .pointer (some ⟨b',0,none⟩)∧br w C c s sg b' L d.help)∧
  (d.at_=2→∃ b',pe= .pointer (some ⟨b',0,none⟩)∧fh w C c s sg b' L d.a5)∧
  (d.at_=3→∃ b',pf= .pointer (some ⟨b',0,none⟩)∧cO w C c sg b' L d.fast)∧
  (d.at_=4→∃ b',pa= .pointer (some ⟨b',0,none⟩)∧kp w C c b' L me d.ann)∧
  (d.at_=5→∃ b',pl= .pointer (some ⟨b',0,none⟩)∧br w C c s sg b' L d.help)∧
  (d.at_=6→∃ b',pr= .pointer (some ⟨b',0,none⟩)∧(∃ r,pq w C c b' L me r))∧
  (d.at_=7→∃ b',pi= .pointer (some ⟨b',0,none⟩)∧eK w C c b' L d.find)∧
  (d.at_=8→∃ b',pd= .pointer (some ⟨b',0,none⟩)∧oe w C c b' L d.drop)∧
  (d.at_=9→∃ b',ps= .pointer (some ⟨b',0,none⟩)∧jJ w C c s sg b' L d.sweep)
def JF:List (Option TypeId):=[some 129,some 142,some 187,some 147,some 151,some 204]++Km
variable {w w':World} {C C':Nat→Nat} {K:Nat→Prop} {T:List (Option TypeId)} {c s sg b:Nat} {L:Ly} {me:Int}
theorem aX.mv {d:aH} (h:aX w C c s sg b L me d) (k:Fr C K T w w') (a:aB w.heap.size C C') (hk:(¬ K c∧¬ K s)∨dr JF T):aX w' C' c s sg b L me d:=by
 obtain⟨ph,pl,pe,pf,pa,pr,pi,pd,ps,sb,g0,g1,g2,g3,g4,g5,g6,g7,g8,g9⟩:=h.ex
 refine⟨ph,pl,pe,pf,pa,pr,pi,pd,ps,SB.mv sb k a (hk.imp (·.1) (fun h=>h _ (by decide))),fun e=> ?_,fun e=> ?_,fun e=> ?_,fun e=> ?_,fun e=> ?_,fun e=> ?_,fun e=> ?_,fun e=> ?_,fun e=> ?_,fun e=> ?_⟩
 ·obtain⟨b',e1,e2⟩:=g0 e
  exact⟨b',e1,e2.mv k a (hk.imp (·.1) (fun h x hx=>h x (by revert x;decide)))⟩
 ·obtain⟨b',e1,e2⟩:=g1 e
  exact⟨b',e1,e2.mv k a (hk.imp id (fun h x hx=>h x (by revert x;decide)))⟩
 ·obtain⟨b',e1,e2⟩:=g2 e
  exact⟨b',e1,e2.mv k a (hk.imp id (fun h x hx=>h x (by revert x;decide)))⟩
 ·obtain⟨b',e1,e2⟩:=g3 e
  exact⟨b',e1,e2.mv k a (hk.imp (·.1) (fun h x hx=>h x (by revert x;decide)))⟩
 ·obtain⟨b',e1,e2⟩:=g4 e
  exact⟨b',e1,e2.mv k a (hk.imp (·.1) (fun h x hx=>h x (by revert x;decide)))⟩
 ·obtain⟨b',e1,e2⟩:=g5 e
  exact⟨b',e1,e2.mv k a (hk.imp id (fun h x hx=>h x (by revert x;decide)))⟩
 ·obtain⟨b',e1,e2⟩:=g6 e
  exact⟨b',e1,e2.imp fun r e2=>e2.mv k a (hk.imp (·.1) (fun h x hx=>h x (by revert x;decide)))⟩
 ·obtain⟨b',e1,e2⟩:=g7 e
  exact⟨b',e1,e2.mv k a (hk.imp (·.1) (fun h x hx=>h x (by revert x;decide)))⟩
 ·obtain⟨b',e1,e2⟩:=g8 e
  exact⟨b',e1,e2.mv k a (hk.imp (·.1) (fun h=>h _ (by decide)))⟩
 ·obtain⟨b',e1,e2⟩:=g9 e
  exact⟨b',e1,e2.mv k a (hk.imp id (fun h x hx=>h x (by revert x;decide)))⟩
theorem aX.fr {x:aH} (h:aX w C c s sg b L me x) (k:Fr C K T w w') (hk:(¬ K c∧¬ K s)∨dr JF T):aX w' C c s sg b L me x:=h.mv k (aB.refl _ _) hk
theorem aX.step {x:aH} (h:aX w C c s sg b L me x) (k:Below w.heap.size w w'):aX w' C c s sg b L me x:=h.mv (Fr.of_below k C (fun _=>False) []) (aB.refl _ _) (.inr (by decide))
instance {w:World} {C:Nat→Nat} {c s sg b:Nat} {L:Ly} {me:Int} {x:aH}:Mv (aX w C c s sg b L me x) w C JF (fun w' C'=>aX w' C' c s sg b L me x):=⟨fun h k a hk=>h.mv k a (.inr hk)⟩
theorem aX.Kr {c s sg b b':Nat} {L:Ly} {me:Int} {d:aH} {pl pe pf pa pr pi pd ps:Value} (sb:ep w C c sg b (.pointer (some ⟨b',0,none⟩)) pl pe pf pa pr pi pd ps d) (h:d.at_=0) (k:ie w C c b' L d.head):aX w C c s sg b L me d:=⟨_,_,_,_,_,_,_,_,_,sb,fun _=>⟨b',rfl,k⟩,fun e=>absurd e (by rw[h];decide),fun e=>absurd e (by rw[h];decide),fun e=>absurd e (by rw[h];decide),fun e=>absurd e (by rw[h];decide),fun e=>absurd e (by rw[h];decide),fun e=>absurd e (by rw[h];decide),fun e=>absurd e (by rw[h];decide),fun e=>absurd e (by rw[h];decide),fun e=>absurd e (by rw[h];decide)⟩
theorem aX.LO {c s sg b b':Nat} {L:Ly} {me:Int} {d:aH} {ph pe pf pa pr pi pd ps:Value} (sb:ep w C c sg b ph (.pointer (some ⟨b',0,none⟩)) pe pf pa pr pi pd ps d) (h:d.at_=1) (k:br w C c s sg b' L d.help):aX w C c s sg b L me d:=⟨_,_,_,_,_,_,_,_,_,sb,fun e=>absurd e (by rw[h];decide),fun _=>⟨b',rfl,k⟩,fun e=>absurd e (by rw[h];decide),fun e=>absurd e (by rw[h];decide),fun e=>absurd e (by rw[h];decide),fun e=>absurd e (by rw[h];decide),fun e=>absurd e (by rw[h];decide),fun e=>absurd e (by rw[h];decide),fun e=>absurd e (by rw[h];decide),fun e=>absurd e (by rw[h];decide)⟩
theorem aX.Ks {c s sg b b':Nat} {L:Ly} {me:Int} {d:aH} {ph pl pf pa pr pi pd ps:Value} (sb:ep w C c sg b ph pl (.pointer (some ⟨b',0,none⟩)) pf pa pr pi pd ps d) (h:d.at_=2) (k:fh w C c s sg b' L d.a5):aX w C c s sg b L me d:=⟨_,_,_,_,_,_,_,_,_,sb,fun e=>absurd e (by rw[h];decide),fun e=>absurd e (by rw[h];decide),fun _=>⟨b',rfl,k⟩,fun e=>absurd e (by rw[h];decide),fun e=>absurd e (by rw[h];decide),fun e=>absurd e (by rw[h];decide),fun e=>absurd e (by rw[h];decide),fun e=>absurd e (by rw[h];decide),fun e=>absurd e (by rw[h];decide),fun e=>absurd e (by rw[h];decide)⟩
theorem aX.Kt {c s sg b b':Nat} {L:Ly} {me:Int} {d:aH} {ph pl pe pa pr pi pd ps:Value} (sb:ep w C c sg b ph pl pe (.pointer (some ⟨b',0,none⟩)) pa pr pi pd ps d) (h:d.at_=3) (k:cO w C c sg b' L d.fast):aX w C c s sg b L me d:=⟨_,_,_,_,_,_,_,_,_,sb,fun e=>absurd e (by rw[h];decide),fun e=>absurd e (by rw[h];decide),fun e=>absurd e (by rw[h];decide),fun _=>⟨b',rfl,k⟩,fun e=>absurd e (by rw[h];decide),fun e=>absurd e (by rw[h];decide),fun e=>absurd e (by rw[h];decide),fun e=>absurd e (by rw[h];decide),fun e=>absurd e (by rw[h];decide),fun e=>absurd e (by rw[h];decide)⟩
theorem aX.LP {c s sg b b':Nat} {L:Ly} {me:Int} {d:aH} {ph pl pe pf pr pi pd ps:Value} (sb:ep w C c sg b ph pl pe pf (.pointer (some ⟨b',0,none⟩)) pr pi pd ps d) (h:d.at_=4) (k:kp w C c b' L me d.ann):aX w C c s sg b L me d:=⟨_,_,_,_,_,_,_,_,_,sb,fun e=>absurd e (by rw[h];decide),fun e=>absurd e (by rw[h];decide),fun e=>absurd e (by rw[h];decide),fun e=>absurd e (by rw[h];decide),fun _=>⟨b',rfl,k⟩,fun e=>absurd e (by rw[h];decide),fun e=>absurd e (by rw[h];decide),fun e=>absurd e (by rw[h];decide),fun e=>absurd e (by rw[h];decide),fun e=>absurd e (by rw[h];decide)⟩
theorem aX.LQ {c s sg b b':Nat} {L:Ly} {me:Int} {d:aH} {ph pe pf pa pr pi pd ps:Value} (sb:ep w C c sg b ph (.pointer (some ⟨b',0,none⟩)) pe pf pa pr pi pd ps d) (h:d.at_=5) (k:br w C c s sg b' L d.help):aX w C c s sg b L me d:=⟨_,_,_,_,_,_,_,_,_,sb,fun e=>absurd e (by rw[h];decide),fun e=>absurd e (by rw[h];decide),fun e=>absurd e (by rw[h];decide),fun e=>absurd e (by rw[h];decide),fun e=>absurd e (by rw[h];decide),fun _=>⟨b',rfl,k⟩,fun e=>absurd e (by rw[h];decide),fun e=>absurd e (by rw[h];decide),fun e=>absurd e (by rw[h];decide),fun e=>absurd e (by rw[h];decide)⟩
theorem aX.M0 {c s sg b b':Nat} {L:Ly} {me:Int} {d:aH} {ph pl pe pf pa pi pd ps:Value} (sb:ep w C c sg b ph pl pe pf pa (.pointer (some ⟨b',0,none⟩)) pi pd ps d) (h:d.at_=6) (k:(∃ r,pq w C c b' L me r)):aX w C c s sg b L me d:=⟨_,_,_,_,_,_,_,_,_,sb,fun e=>absurd e (by rw[h];decide),fun e=>absurd e (by rw[h];decide),fun e=>absurd e (by rw[h];decide),fun e=>absurd e (by rw[h];decide),fun e=>absurd e (by rw[h];decide),fun e=>absurd e (by rw[h];decide),fun _=>⟨b',rfl,k⟩,fun e=>absurd e (by rw[h];decide),fun e=>absurd e (by rw[h];decide),fun e=>absurd e (by rw[h];decide)⟩
theorem aX.LR {c s sg b b':Nat} {L:Ly} {me:Int} {d:aH} {ph pl pe pf pa pr pd ps:Value} (sb:ep w C c sg b ph pl pe pf pa pr (.pointer (some ⟨b',0,none⟩)) pd ps d) (h:d.at_=7) (k:eK w C c b' L d.find):aX w C c s sg b L me d:=⟨_,_,_,_,_,_,_,_,_,sb,fun e=>absurd e (by rw[h];decide),fun e=>absurd e (by rw[h];decide),fun e=>absurd e (by rw[h];decide),fun e=>absurd e (by rw[h];decide),fun e=>absurd e (by rw[h];decide),fun e=>absurd e (by rw[h];decide),fun e=>absurd e (by rw[h];decide),fun _=>⟨b',rfl,k⟩,fun e=>absurd e (by rw[h];decide),fun e=>absurd e (by rw[h];decide)⟩
theorem aX.LS {c s sg b b':Nat} {L:Ly} {me:Int} {d:aH} {ph pl pe pf pa pr pi ps:Value} (sb:ep w C c sg b ph pl pe pf pa pr pi (.pointer (some ⟨b',0,none⟩)) ps d) (h:d.at_=8) (k:oe w C c b' L d.drop):aX w C c s sg b L me d:=⟨_,_,_,_,_,_,_,_,_,sb,fun e=>absurd e (by rw[h];decide),fun e=>absurd e (by rw[h];decide),fun e=>absurd e (by rw[h];decide),fun e=>absurd e (by rw[h];decide),fun e=>absurd e (by rw[h];decide),fun e=>absurd e (by rw[h];decide),fun e=>absurd e (by rw[h];decide),fun e=>absurd e (by rw[h];decide),fun _=>⟨b',rfl,k⟩,fun e=>absurd e (by rw[h];decide)⟩
theorem aX.LU {c s sg b b':Nat} {L:Ly} {me:Int} {d:aH} {ph pl pe pf pa pr pi pd:Value} (sb:ep w C c sg b ph pl pe pf pa pr pi pd (.pointer (some ⟨b',0,none⟩)) d) (h:d.at_=9) (k:jJ w C c s sg b' L d.sweep):aX w C c s sg b L me d:=⟨_,_,_,_,_,_,_,_,_,sb,fun e=>absurd e (by rw[h];decide),fun e=>absurd e (by rw[h];decide),fun e=>absurd e (by rw[h];decide),fun e=>absurd e (by rw[h];decide),fun e=>absurd e (by rw[h];decide),fun e=>absurd e (by rw[h];decide),fun e=>absurd e (by rw[h];decide),fun e=>absurd e (by rw[h];decide),fun e=>absurd e (by rw[h];decide),fun _=>⟨b',rfl,k⟩⟩
def jP:List (Option TypeId):=[some 129,some 187]
theorem Bf:∀ x,x∈[some 187]→x∈jP:=by decide
variable {t:cV}
theorem xc {d:aH} {ph pl pe pf pa pr pi pd ps:Value} (hL:L.Ok) (hst:al w C s sg L me t) (sb:ep w C c sg b ph pl pe pf pa pr pi pd ps d) (hmay:d.task.may=true) (hlim:0≤d.limit∧d.limit≤1000):Calls Tryz.prog 108 #[.pointer (some ⟨b,0,none⟩)] w (OW C (K0 c) jP (.tuple #[]) (fun w' C'=>aX w' C' c s sg b L me (d.aU L me)) w):=by
 unfold ep at sb
 obtain⟨⟨A,n,cap,hn,st,hrow⟩,hme,hsp,hsm⟩:=id hst
 clear hn hrow hsm hsp
 obtain⟨⟨rc,ro,rv⟩,slow,⟨sh,kind,key⟩,limit,at_,head,help,a5,fast,ann,find,drop,sweep⟩:=d
 simp only at sb hmay hlim
 have HST:Hid (aH.aU L me (⟨⟨rc,ro,rv⟩,slow,⟨sh,kind,key⟩,limit,at_,head,help,a5,fast,ann,find,drop,sweep⟩:aH)=(⟨⟨rc,ro,rv⟩,slow,⟨sh,kind,key⟩,limit,3,head,help,a5,.new L me ⟨sh,kind,key⟩ limit,ann,find,drop,sweep⟩:aH)):=Lib.hid rfl
 go_enter Tryz.func108,Tryz.ntmps108
 have fr:=Fr.refl C (K0 c) jP w
 have ag:=aB.refl w.heap.size C
 go_wp2_with fail
 revert st;revert hst;revert sb;revert fr;refine bD ?_;intro fr sb hst st
 obtain⟨q1,q2,qi⟩:=bl sb st
 refine aA sb st 14 [] [0,1,2,3,4,5,6,7,8,9,10,11,12,13] [14,15,16,17,18,19,20] (by kernel_rfl) (by kernel_rfl) ?_
 refine af ?_;try simp only[ox]
 repeat(go_big_quiet_step (fail))
 refine wpQuiet_nil ?_
 refine ae _ _ _ (by kernel_rfl) ?_;try simp only[ox]
 clear qi q1 q2
 go_wp2_with fail
 refine(Bb (C:=C) (c:=c) hL hst ⟨sh,kind,key⟩ limit hmay hlim).mono ?_
 rintro e w1 ⟨⟨bf,C1,rfl,nT,hfs⟩,hf1⟩
 have sz:=fr.size
 replace fr:=fr.trans (hf1.mono (fun _ h=>h) Bf) ag
 replace sb:=sb.mv hf1 nT (.inr (by decide))
 replace hst:=hst.mv hf1 nT (.inr (by decide))
 replace st:=st.mv hf1 nT (.inr (by decide))
 replace ag:=ag.trans nT sz
 clear sz nT hf1
 have z1:=And.intro sb st
 revert st;revert hfs;revert hst;revert fr;refine st1 sb 9 (.int .i64 3) (fun _ h=>h) ag ?_;clear sb;rintro w2 e1 fr sb hst hfs st
 simp only[sx] at sb
 have z2:=And.intro sb st
 revert fr hst hfs st;refine st1 sb 13 (.pointer (some ⟨bf,0,none⟩)) (fun _ h=>h) ag ?_;clear sb;rintro w3 e2 fr sb hst hfs st
 simp only[sx] at sb
 go_wp2_with fail
 try simp only[e1,e2]
 refine NoPanic.normal ?_
 go_wp2_with fail
 clear z1 e1 z2 e2
 go_end0
 exact⟨rfl,⟨_,ag,by rw[HST.out];exact .Kt sb rfl hfs⟩,fr⟩
theorem lO {d:aH} {ph pl pe pf pa pr pi pd ps:Value} (_:L.Ok) (hst:al w C s sg L me t) (sb:ep w C c sg b ph pl pe pf pa pr pi pd ps d) (hmay:d.task.may=true) (hlim:0≤d.limit∧d.limit≤1000):Calls Tryz.prog 84 #[.pointer (some ⟨b,0,none⟩)] w (OW C (K0 c) jP (.tuple #[]) (fun w' C'=>aX w' C' c s sg b L me (d.leave me)) w):=by
 unfold ep at sb
 obtain⟨⟨A,n,cap,hn,st,hrow⟩,hme,hsp,hsm⟩:=id hst
 clear hn hrow hsm hsp
 obtain⟨⟨rc,ro,rv⟩,slow,⟨sh,kind,key⟩,limit,at_,head,help,a5,fast,ann,find,drop,sweep⟩:=d
 simp only at sb hmay hlim
 have HST:Hid (aH.leave me (⟨⟨rc,ro,rv⟩,slow,⟨sh,kind,key⟩,limit,at_,head,help,a5,fast,ann,find,drop,sweep⟩:aH)=(⟨⟨rc,ro,rv⟩,slow,⟨sh,kind,key⟩,limit,8,head,help,a5,fast,ann,find,⟨me,0⟩,sweep⟩:aH)):=Lib.hid rfl
 go_enter Tryz.func84,Tryz.ntmps84
 have fr:=Fr.refl C (K0 c) jP w
 have ag:=aB.refl w.heap.size C
 go_wp2_with fail
 revert st;revert sb;revert fr;refine bD ?_;intro fr sb st
 obtain⟨q1,q2,qi⟩:=bl sb st
 refine aA sb st 16 [] [0,1,2,3,4,5,6,7,8,9,10,11,12,13,14,15] [16,17,18,19,20,21,22] (by kernel_rfl) (by kernel_rfl) ?_
 refine af ?_;try simp only[ox]
 repeat(go_big_quiet_step (fail))
 refine wpQuiet_nil ?_
 refine ae _ _ _ (by kernel_rfl) ?_;try simp only[ox]
 clear qi q1 q2
 go_wp2_with fail
 revert ag fr sb st;refine fL (vQ L me (by omega) C c _) ?_;rintro w1 bd C1 ag fr hgc sb st
 have z1:=And.intro sb st
 revert fr hgc st;refine st1 sb 9 (.int .i64 8) (fun _ h=>h) ag ?_;clear sb;rintro w2 e1 fr sb hgc st
 simp only[sx] at sb
 have z2:=And.intro sb st
 revert fr hgc st;refine st1 sb 17 (.pointer (some ⟨bd,0,none⟩)) (fun _ h=>h) ag ?_;clear sb;rintro w3 e2 fr sb hgc st
 simp only[sx] at sb
 go_wp2_with fail
 refine NoPanic.normal ?_
 go_wp2_with fail
 clear z1 e1 z2 e2
 go_end0
 exact⟨rfl,⟨_,ag,by rw[HST.out];exact .LS sb rfl hgc⟩,fr⟩
theorem yW {d:aH} {ph pl pe pf pa pr pi pd ps:Value} (_:L.Ok) (hst:al w C s sg L me t) (sb:ep w C c sg b ph pl pe pf pa pr pi pd ps d) (hmay:d.task.may=true) (hlim:0≤d.limit∧d.limit≤1000) (hlk:d.task.links=true) (hz:t.spare=0):Calls Tryz.prog 72 #[.pointer (some ⟨b,0,none⟩)] w (OW C (K0 c) jP (.tuple #[]) (fun w' C'=>aX w' C' c s sg b L me (d.want L me t)) w):=by
 obtain⟨⟨A,n,cap,hn,st,hrow⟩,hme,hsp,hsm⟩:=id hst
 clear hn hrow hsm hsp
 have fJ:=fun W=>a4 d.task W
 rw[hlk] at fJ
 have dz:(t.spare==0)=true:=by rw[hz];rfl
 have HST:Hid (d.want L me t={ d with at_:=2,a5:= .new }):=Lib.hid (by unfold aH.want;rw[if_pos (by rw[hlk,hz];rfl)])
 unfold ep at sb
 obtain⟨⟨rc,ro,rv⟩,slow,⟨sh,kind,key⟩,limit,at_,head,help,a5,fast,ann,find,drop,sweep⟩:=d
 simp only at sb hmay hlim fJ HST
 clear hlk hz
 go_enter Tryz.func72,Tryz.ntmps72
 have fr:=Fr.refl C (K0 c) jP w
 have ag:=aB.refl w.heap.size C
 go_wp2_with fail
 revert st;revert hst;revert sb;revert fr;refine bk (fJ _) ?_;rintro e w1 rfl fr sb hst st
 go_wp2_with fail
 revert ag fr sb hst st;refine fL (lF sg L s C c _) ?_;rintro w2 bn C2 ag fr hen sb hst st
 have z1:=And.intro sb st
 revert fr hen hst st;refine st1 sb 9 (.int .i64 2) (fun _ h=>h) ag ?_;clear sb;rintro w3 e1 fr sb hen hst st
 simp only[sx] at sb
 have z2:=And.intro sb st
 revert fr hen hst st;refine st1 sb 12 (.pointer (some ⟨bn,0,none⟩)) (fun _ h=>h) ag ?_;clear sb;rintro w4 e2 fr sb hen hst st
 simp only[sx] at sb
 go_wp2_with fail
 clear z1 e1 z2 e2
 go_end0
 exact⟨rfl,⟨_,ag,by rw[HST.out];exact .Ks sb rfl hen⟩,fr⟩
theorem yX {d:aH} {ph pl pe pf pa pr pi pd ps:Value} (hL:L.Ok) (hst:al w C s sg L me t) (sb:ep w C c sg b ph pl pe pf pa pr pi pd ps d) (hmay:d.task.may=true) (hlim:0≤d.limit∧d.limit≤1000) (hlk:d.task.links=false):Calls Tryz.prog 72 #[.pointer (some ⟨b,0,none⟩)] w (OW C (K0 c) jP (.tuple #[]) (fun w' C'=>aX w' C' c s sg b L me (d.want L me t)) w):=by
 obtain⟨⟨A,n,cap,hn,st,hrow⟩,hme,hsp,hsm⟩:=id hst
 clear hn hrow hsm hsp
 have oQ:=fun W C' (k1:al W C' s sg L me t) (k2:ep W C' c sg b ph pl pe pf pa pr pi pd ps d)=>xc hL k1 k2 hmay hlim
 have fJ:=fun W=>a4 d.task W
 rw[hlk] at fJ
 have HST:Hid (d.want L me t=d.aU L me):=Lib.hid (by unfold aH.want;rw[if_neg (by rw[hlk];simp)])
 unfold ep at sb
 obtain⟨⟨rc,ro,rv⟩,slow,⟨sh,kind,key⟩,limit,at_,head,help,a5,fast,ann,find,drop,sweep⟩:=d
 simp only at sb hmay hlim fJ HST oQ
 clear hlk
 go_enter Tryz.func72,Tryz.ntmps72
 have fr:=Fr.refl C (K0 c) jP w
 have ag:=aB.refl w.heap.size C
 go_wp2_with fail
 revert st;revert hst;revert sb;revert fr;refine bk (fJ _) ?_;rintro e w1 rfl fr sb hst st
 go_wp2_with fail
 refine(oQ _ _ hst sb).mono ?_
 rintro e w9 ⟨rfl,⟨C9,dC,bN⟩,bU⟩
 have fX:=ag.trans dC fr.size
 replace fr:=fr.trans (bU.mono (fun _ h=>h) (fun _ h=>h)) ag
 go_wp2_with fail
 go_end0
 exact⟨rfl,⟨_,fX,by rw[HST.out];exact bN⟩,fr⟩
theorem yY {d:aH} {ph pl pe pf pa pr pi pd ps:Value} (hL:L.Ok) (hst:al w C s sg L me t) (sb:ep w C c sg b ph pl pe pf pa pr pi pd ps d) (hmay:d.task.may=true) (hlim:0≤d.limit∧d.limit≤1000) (hlk:d.task.links=true) (hz:t.spare≠0):Calls Tryz.prog 72 #[.pointer (some ⟨b,0,none⟩)] w (OW C (K0 c) jP (.tuple #[]) (fun w' C'=>aX w' C' c s sg b L me (d.want L me t)) w):=by
 obtain⟨⟨A,n,cap,hn,st,hrow⟩,hme,hsp,hsm⟩:=id hst
 clear hn hrow hsm hsp
 have oQ:=fun W C' (k1:al W C' s sg L me t) (k2:ep W C' c sg b ph pl pe pf pa pr pi pd ps d)=>xc hL k1 k2 hmay hlim
 have fJ:=fun W=>a4 d.task W
 rw[hlk] at fJ
 have dz:(t.spare==0)=false:=beq_false_of_ne hz
 have HST:Hid (d.want L me t=d.aU L me):=Lib.hid (by unfold aH.want;rw[if_neg (by rw[hlk];simp[hz])])
 unfold ep at sb
 obtain⟨⟨rc,ro,rv⟩,slow,⟨sh,kind,key⟩,limit,at_,head,help,a5,fast,ann,find,drop,sweep⟩:=d
 simp only at sb hmay hlim fJ HST oQ
 clear hlk hz
 go_enter Tryz.func72,Tryz.ntmps72
 have fr:=Fr.refl C (K0 c) jP w
 have ag:=aB.refl w.heap.size C
 go_wp2_with fail
 revert st;revert hst;revert sb;revert fr;refine bk (fJ _) ?_;rintro e w1 rfl fr sb hst st
 go_wp2_with fail
 refine(oQ _ _ hst sb).mono ?_
 rintro e w9 ⟨rfl,⟨C9,dC,bN⟩,bU⟩
 have fX:=ag.trans dC fr.size
 replace fr:=fr.trans (bU.mono (fun _ h=>h) (fun _ h=>h)) ag
 go_wp2_with fail
 go_end0
 exact⟨rfl,⟨_,fX,by rw[HST.out];exact bN⟩,fr⟩
theorem x6 {d:aH} {ph pl pe pf pa pr pi pd ps:Value} (hL:L.Ok) (hst:al w C s sg L me t) (sb:ep w C c sg b ph pl pe pf pa pr pi pd ps d) (hmay:d.task.may=true) (hlim:0≤d.limit∧d.limit≤1000):Calls Tryz.prog 72 #[.pointer (some ⟨b,0,none⟩)] w (OW C (K0 c) jP (.tuple #[]) (fun w' C'=>aX w' C' c s sg b L me (d.want L me t)) w):=by
 cases hlk:d.task.links with
 | false=>exact yX hL hst sb hmay hlim hlk
 | true=>
  by_cases hz:t.spare=0
  ·exact yW hL hst sb hmay hlim hlk hz
  ·exact yY hL hst sb hmay hlim hlk hz
theorem uX {d:aH} (hL:L.Ok) (hst:al w C s sg L me t) (h:aX w C c s sg b L me d) (h0:d.at_=0) (hmay:d.task.may=true) (hlim:0≤d.limit∧d.limit≤1000) (hq:d.head.u<0):Calls Tryz.prog 70 #[.pointer (some ⟨b,0,none⟩)] w (OW C (K0 c) jP (.tuple #[]) (fun w' C'=>aX w' C' c s sg b L me (d.looked L me t)) w):=by
 obtain⟨ph,pl,pe,pf,pa,pr,pi,pd,ps,sb,g0,-,-,-,-,-,-,-,-,-⟩:=h.ex
 obtain⟨bx,rfl,hhd⟩:=g0 h0
 have jQ:=fun W C' (k1:al W C' s sg L me t) (k2:ep W C' c sg b (.pointer (some ⟨bx,0,none⟩)) pl pe pf pa pr pi pd ps d)=>x6 hL k1 k2 hmay hlim
 have hbl:=hhd.blk
 obtain⟨⟨A,n,cap,hn,st,hrow⟩,hme,hsp,hsm⟩:=id hst
 clear hn hrow hsm hsp
 have HST:Hid (d.looked L me t=d.want L me t):=Lib.hid (by unfold aH.looked;rw[if_pos hq])
 unfold ep at sb
 obtain⟨⟨rc,ro,rv⟩,slow,⟨sh,kind,key⟩,limit,at_,head,help,a5,fast,ann,find,drop,sweep⟩:=d
 simp only at sb hmay hlim hbl HST hq h0 jQ
 subst h0
 obtain⟨hu,hno,hat,htk⟩:=head
 simp only at hbl HST hq
 have dq:decide (hu<0)=true:=decide_eq_true hq
 clear h hhd hmay hlim
 go_enter Tryz.func70,Tryz.ntmps70
 have fr:=Fr.refl C (K0 c) jP w
 have ag:=aB.refl w.heap.size C
 go_wp2_with fail
 refine(jQ _ _ hst sb).mono ?_
 rintro e w9 ⟨rfl,⟨C9,dC,bN⟩,bU⟩
 have fX:=ag.trans dC fr.size
 replace fr:=fr.trans (bU.mono (fun _ h=>h) (fun _ h=>h)) ag
 go_wp2_with fail
 go_end0
 exact⟨rfl,⟨_,fX,by rw[HST.out];exact bN⟩,fr⟩
theorem uY {d:aH} (_:L.Ok) (hst:al w C s sg L me t) (h:aX w C c s sg b L me d) (h0:d.at_=0) (hmay:d.task.may=true) (hlim:0≤d.limit∧d.limit≤1000) (hq:¬ d.head.u<0):Calls Tryz.prog 70 #[.pointer (some ⟨b,0,none⟩)] w (OW C (K0 c) jP (.tuple #[]) (fun w' C'=>aX w' C' c s sg b L me (d.looked L me t)) w):=by
 obtain⟨ph,pl,pe,pf,pa,pr,pi,pd,ps,sb,g0,-,-,-,-,-,-,-,-,-⟩:=h.ex
 obtain⟨bx,rfl,hhd⟩:=g0 h0
 have hbl:=hhd.blk
 obtain⟨⟨A,n,cap,hn,st,hrow⟩,hme,hsp,hsm⟩:=id hst
 clear hn hrow hsm hsp
 have HST:Hid (d.looked L me t={ d with at_:=1,help:= .new L d.head.u d.head.no d.limit }):=Lib.hid (by unfold aH.looked;rw[if_neg hq])
 unfold ep at sb
 obtain⟨⟨rc,ro,rv⟩,slow,⟨sh,kind,key⟩,limit,at_,head,help,a5,fast,ann,find,drop,sweep⟩:=d
 simp only at sb hmay hlim hbl HST hq h0
 subst h0
 obtain⟨hu,hno,hat,htk⟩:=head
 simp only at hbl HST hq
 have dq:decide (hu<0)=false:=decide_eq_false hq
 clear h hhd hmay hlim
 go_enter Tryz.func70,Tryz.ntmps70
 have fr:=Fr.refl C (K0 c) jP w
 have ag:=aB.refl w.heap.size C
 go_wp2_with fail
 revert hbl;revert st;revert hst;revert sb;revert fr;refine bD ?_;intro fr sb hst st hbl
 obtain⟨q1,q2,q3,qi⟩:=cF sb st hbl
 refine aY sb st hbl 24 [] [0,1,2,3,4,5,6,7,8,9,10,11,12,13,14,15,16,17,18,19,20,21,22,23] [24,25,26,27,28,29,30] (by kernel_rfl) (by kernel_rfl) ?_
 refine af ?_;try simp only[ox]
 repeat(go_big_quiet_step (fail))
 refine wpQuiet_nil ?_
 refine ae _ _ _ (by kernel_rfl) ?_;try simp only[ox]
 clear qi q1 q2 q3
 go_wp2_with fail
 revert ag fr sb hst st hbl;refine fL (uO sg L s hu hno limit C c _) ?_;rintro w1 bp C1 ag fr kq sb hst st hbl
 have z1:=And.intro sb (And.intro st hbl)
 revert fr kq hst st hbl;refine st1 sb 9 (.int .i64 1) (fun _ h=>h) ag ?_;clear sb;rintro w2 e1 fr sb kq hst st hbl
 simp only[sx] at sb
 have z2:=And.intro sb (And.intro st hbl)
 revert fr kq hst st hbl;refine st1 sb 11 (.pointer (some ⟨bp,0,none⟩)) (fun _ h=>h) ag ?_;clear sb;rintro w3 e2 fr sb kq hst st hbl
 simp only[sx] at sb
 go_wp2_with fail
 refine NoPanic.normal ?_
 go_wp2_with fail
 clear z1 e1 z2 e2
 go_end0
 exact⟨rfl,⟨_,ag,by rw[HST.out];exact .LO sb rfl kq⟩,fr⟩
theorem yZ {d:aH} (hL:L.Ok) (hst:al w C s sg L me t) (h:aX w C c s sg b L me d) (h0:d.at_=0) (hmay:d.task.may=true) (hlim:0≤d.limit∧d.limit≤1000):Calls Tryz.prog 70 #[.pointer (some ⟨b,0,none⟩)] w (OW C (K0 c) jP (.tuple #[]) (fun w' C'=>aX w' C' c s sg b L me (d.looked L me t)) w):=by
 by_cases hq:d.head.u<0
 ·exact uX hL hst h h0 hmay hlim hq
 ·exact uY hL hst h h0 hmay hlim hq
theorem s7 {d:aH} (hL:L.Ok) (hst:al w C s sg L me t) (h:aX w C c s sg b L me d) (h0:d.at_=2) (hmay:d.task.may=true) (hlim:0≤d.limit∧d.limit≤1000) (hq:d.a5.short=true):Calls Tryz.prog 74 #[.pointer (some ⟨b,0,none⟩)] w (OW C (K0 c) jP (.tuple #[]) (fun w' C'=>aX w' C' c s sg b L me (d.ensured L me)) w):=by
 obtain⟨ph,pl,pe,pf,pa,pr,pi,pd,ps,sb,-,-,g2,-,-,-,-,-,-,-⟩:=h.ex
 obtain⟨bx,rfl,hen⟩:=g2 h0
 have jQ:=fun W C' (k1:al W C' s sg L me t) (k2:ep W C' c sg b ph pl (.pointer (some ⟨bx,0,none⟩)) pf pa pr pi pd ps { d with res:=⟨4,false,0⟩ })=>lO hL k1 k2 hmay hlim
 obtain⟨qa,qw,en,-,-⟩:=hen.ex
 rw[hq] at en
 have HST:Hid (d.ensured L me=({ d with res:=⟨4,false,0⟩ }:aH).leave me):=Lib.hid (by unfold aH.ensured;rw[if_pos hq])
 unfold ep at sb
 obtain⟨⟨rc,ro,rv⟩,slow,⟨sh,kind,key⟩,limit,at_,head,help,a5,fast,ann,find,drop,sweep⟩:=d
 simp only at sb hmay hlim en HST h0 jQ
 subst h0
 clear h hen hmay hlim hq
 go_enter Tryz.func74,Tryz.ntmps74
 have fr:=Fr.refl C (K0 c) jP w
 have ag:=aB.refl w.heap.size C
 go_wp2_with fail
 have z1:=And.intro sb en
 revert en;revert hst;revert fr;refine st1 sb 1 (.int .i64 4) (fun _ h=>h) ag ?_;clear sb;rintro w1 e1 fr sb hst en
 simp only[sx] at sb
 have z2:=And.intro sb en
 revert fr hst en;refine st1 sb 2 (.bool false) (fun _ h=>h) ag ?_;clear sb;rintro w2 e2 fr sb hst en
 simp only[sx] at sb
 have z3:=And.intro sb en
 revert fr hst en;refine st1 sb 3 (.int .i64 0) (fun _ h=>h) ag ?_;clear sb;rintro w3 e3 fr sb hst en
 simp only[sx] at sb
 go_wp2_with fail
 try simp only[e1,e2,e3]
 clear z1 e1 z2 e2 z3 e3
 refine(jQ _ _ hst sb).mono ?_
 rintro e w9 ⟨rfl,⟨C9,dC,bN⟩,bU⟩
 have fX:=ag.trans dC fr.size
 replace fr:=fr.trans (bU.mono (fun _ h=>h) (fun _ h=>h)) ag
 go_wp2_with fail
 go_end0
 exact⟨rfl,⟨_,fX,by rw[HST.out];exact bN⟩,fr⟩
theorem s8 {d:aH} (hL:L.Ok) (hst:al w C s sg L me t) (h:aX w C c s sg b L me d) (h0:d.at_=2) (hmay:d.task.may=true) (hlim:0≤d.limit∧d.limit≤1000) (hq:d.a5.short=false):Calls Tryz.prog 74 #[.pointer (some ⟨b,0,none⟩)] w (OW C (K0 c) jP (.tuple #[]) (fun w' C'=>aX w' C' c s sg b L me (d.ensured L me)) w):=by
 obtain⟨ph,pl,pe,pf,pa,pr,pi,pd,ps,sb,-,-,g2,-,-,-,-,-,-,-⟩:=h.ex
 obtain⟨bx,rfl,hen⟩:=g2 h0
 have jQ:=fun W C' (k1:al W C' s sg L me t) (k2:ep W C' c sg b ph pl (.pointer (some ⟨bx,0,none⟩)) pf pa pr pi pd ps d)=>xc hL k1 k2 hmay hlim
 obtain⟨qa,qw,en,-,-⟩:=hen.ex
 rw[hq] at en
 have HST:Hid (d.ensured L me=d.aU L me):=Lib.hid (by unfold aH.ensured;rw[if_neg (by rw[hq];decide)])
 unfold ep at sb
 obtain⟨⟨rc,ro,rv⟩,slow,⟨sh,kind,key⟩,limit,at_,head,help,a5,fast,ann,find,drop,sweep⟩:=d
 simp only at sb hmay hlim en HST h0 jQ
 subst h0
 clear h hen hmay hlim hq
 go_enter Tryz.func74,Tryz.ntmps74
 have fr:=Fr.refl C (K0 c) jP w
 have ag:=aB.refl w.heap.size C
 go_wp2_with fail
 refine(jQ _ _ hst sb).mono ?_
 rintro e w9 ⟨rfl,⟨C9,dC,bN⟩,bU⟩
 have fX:=ag.trans dC fr.size
 replace fr:=fr.trans (bU.mono (fun _ h=>h) (fun _ h=>h)) ag
 go_wp2_with fail
 go_end0
 exact⟨rfl,⟨_,fX,by rw[HST.out];exact bN⟩,fr⟩
theorem xd {d:aH} (hL:L.Ok) (hst:al w C s sg L me t) (h:aX w C c s sg b L me d) (h0:d.at_=2) (hmay:d.task.may=true) (hlim:0≤d.limit∧d.limit≤1000):Calls Tryz.prog 74 #[.pointer (some ⟨b,0,none⟩)] w (OW C (K0 c) jP (.tuple #[]) (fun w' C'=>aX w' C' c s sg b L me (d.ensured L me)) w):=by
 cases hq:d.a5.short with
 | true=>exact s7 hL hst h h0 hmay hlim hq
 | false=>exact s8 hL hst h h0 hmay hlim hq
theorem y3 {d:aH} {ph pl pe pf pa pr pi pd ps:Value} (hL:L.Ok) (hst:al w C s sg L me t) (sb:ep w C c sg b ph pl pe pf pa pr pi pd ps d) (hmay:d.task.may=true) (hlim:0≤d.limit∧d.limit≤1000) (r:ku) (hq:r.ok=false):Calls Tryz.prog 81 #[.pointer (some ⟨b,0,none⟩),.agg #[.int .i64 r.code,.bool r.ok,.int .i64 r.val]] w (OW C (K0 c) jP (.tuple #[]) (fun w' C'=>aX w' C' c s sg b L me (d.told L me r)) w):=by
 obtain⟨⟨A,n,cap,hn,st,hrow⟩,hme,hsp,hsm⟩:=id hst
 clear hn hrow hsm hsp
 obtain⟨qc,qo,qv⟩:=r
 simp only at hq
 subst hq
 have jQ:=fun W C' (k1:al W C' s sg L me t) (k2:ep W C' c sg b ph pl pe pf pa pr pi pd ps { d with res:=⟨qc,false,qv⟩ })=>lO hL k1 k2 hmay hlim
 have HST:Hid (d.told L me ⟨qc,false,qv⟩=({ d with res:=⟨qc,false,qv⟩ }:aH).leave me):=Lib.hid (by unfold aH.told;simp only;rw[if_pos (Or.inl (by simp))])
 unfold ep at sb
 obtain⟨⟨rc,ro,rv⟩,slow,⟨sh,kind,key⟩,limit,at_,head,help,a5,fast,ann,find,drop,sweep⟩:=d
 simp only at sb hmay hlim HST jQ
 clear hmay
 go_enter Tryz.func81,Tryz.ntmps81
 have fr:=Fr.refl C (K0 c) jP w
 have ag:=aB.refl w.heap.size C
 have z1:=sb
 revert hst;revert sb;revert fr;refine bx1 49 #[.int .i64 qc,.bool false,.int .i64 qv] ?_;rintro w1 Ig LV fr rb sb hst
 have z2:=And.intro sb rb
 have hR:=ko
 revert fr rb hst;refine yH sb [(1,.int .i64 qc),(2,.bool false),(3,.int .i64 qv)] (fun _ h=>h) ag ?_;clear sb;rintro w2 e1 fr sb rb hst
 simp only[stx,sx] at e1 sb
 go_wp2_with fail
 clear Ig z1 z2 e1 hR
 refine(jQ _ _ hst sb).mono ?_
 rintro e w9 ⟨rfl,⟨C9,dC,bN⟩,bU⟩
 have fX:=ag.trans dC fr.size
 replace fr:=fr.trans (bU.mono (fun _ h=>h) (fun _ h=>h)) ag
 go_wp2_with fail
 go_end0
 exact⟨rfl,⟨_,fX,by rw[HST.out];exact bN⟩,fr⟩
theorem y4 {d:aH} {ph pl pe pf pa pr pi pd ps:Value} (hL:L.Ok) (hst:al w C s sg L me t) (sb:ep w C c sg b ph pl pe pf pa pr pi pd ps d) (hmay:d.task.may=true) (hlim:0≤d.limit∧d.limit≤1000) (r:ku) (hq:r.ok=true) (hmk:d.task.marks=false):Calls Tryz.prog 81 #[.pointer (some ⟨b,0,none⟩),.agg #[.int .i64 r.code,.bool r.ok,.int .i64 r.val]] w (OW C (K0 c) jP (.tuple #[]) (fun w' C'=>aX w' C' c s sg b L me (d.told L me r)) w):=by
 obtain⟨⟨A,n,cap,hn,st,hrow⟩,hme,hsp,hsm⟩:=id hst
 clear hn hrow hsm hsp
 obtain⟨qc,qo,qv⟩:=r
 simp only at hq
 subst hq
 have jQ:=fun W C' (k1:al W C' s sg L me t) (k2:ep W C' c sg b ph pl pe pf pa pr pi pd ps { d with res:=⟨qc,true,qv⟩ })=>lO hL k1 k2 hmay hlim
 have ja:=fun W=>og d.task W
 rw[hmk] at ja
 have HST:Hid (d.told L me ⟨qc,true,qv⟩=({ d with res:=⟨qc,true,qv⟩ }:aH).leave me):=Lib.hid (by unfold aH.told;simp only;rw[if_pos (.inr hmk)])
 unfold ep at sb
 obtain⟨⟨rc,ro,rv⟩,slow,⟨sh,kind,key⟩,limit,at_,head,help,a5,fast,ann,find,drop,sweep⟩:=d
 simp only at sb hmay hlim HST jQ ja
 clear hmay hmk
 go_enter Tryz.func81,Tryz.ntmps81
 have fr:=Fr.refl C (K0 c) jP w
 have ag:=aB.refl w.heap.size C
 have z1:=sb
 revert hst;revert sb;revert fr;refine bx1 49 #[.int .i64 qc,.bool true,.int .i64 qv] ?_;rintro w1 Ig LV fr rb sb hst
 have z2:=And.intro sb rb
 have hR:=ko
 revert fr rb hst;refine yH sb [(1,.int .i64 qc),(2,.bool true),(3,.int .i64 qv)] (fun _ h=>h) ag ?_;clear sb;rintro w2 e1 fr sb rb hst
 simp only[stx,sx] at e1 sb
 go_wp2_with fail
 clear Ig z1 z2 e1 hR
 revert fr rb hst sb;refine bk (ja _) ?_;rintro e w3 rfl fr rb hst sb
 go_wp2_with fail
 refine(jQ _ _ hst sb).mono ?_
 rintro e w9 ⟨rfl,⟨C9,dC,bN⟩,bU⟩
 have fX:=ag.trans dC fr.size
 replace fr:=fr.trans (bU.mono (fun _ h=>h) (fun _ h=>h)) ag
 go_wp2_with fail
 go_end0
 exact⟨rfl,⟨_,fX,by rw[HST.out];exact bN⟩,fr⟩
theorem y5 {d:aH} {ph pl pe pf pa pr pi pd ps:Value} (hL:L.Ok) (hst:al w C s sg L me t) (sb:ep w C c sg b ph pl pe pf pa pr pi pd ps d) (hmay:d.task.may=true) (hlim:0≤d.limit∧d.limit≤1000) (r:ku) (hq:r.ok=true) (hmk:d.task.marks=true):Calls Tryz.prog 81 #[.pointer (some ⟨b,0,none⟩),.agg #[.int .i64 r.code,.bool r.ok,.int .i64 r.val]] w (OW C (K0 c) jP (.tuple #[]) (fun w' C'=>aX w' C' c s sg b L me (d.told L me r)) w):=by
 obtain⟨⟨A,n,cap,hn,st,hrow⟩,hme,hsp,hsm⟩:=id hst
 clear hn hrow hsm hsp
 obtain⟨qc,qo,qv⟩:=r
 simp only at hq
 subst hq
 have ja:=fun W=>og d.task W
 rw[hmk] at ja
 have HST:Hid (d.told L me ⟨qc,true,qv⟩={ d with res:=⟨qc,true,qv⟩,at_:=7,find:= .new L me d.task.head d.task.lC d.limit }):=Lib.hid (by unfold aH.told;simp only;rw[if_neg (by rw[hmk];simp)])
 unfold ep at sb
 obtain⟨⟨rc,ro,rv⟩,slow,⟨sh,kind,key⟩,limit,at_,head,help,a5,fast,ann,find,drop,sweep⟩:=d
 simp only at sb hmay hlim HST ja
 have hkr:=(bq.rng hmay).key
 have Ez:=bq.oM hmay
 simp only at hkr
 have oN:∀ W,Calls Tryz.prog 127 #[.agg #[.int .i64 sh,.int .i64 kind,.int .i64 key]] W fun e w'=>e= .returned (.agg #[.int .i64 (bq.head ⟨sh,kind,key⟩),.int .i64 (bq.lC ⟨sh,kind,key⟩)])∧Below W.heap.size W w':=fun W=>kN ⟨sh,kind,key⟩ (by simp only;omega) W
 obtain⟨hd,hhd⟩:∃ hd,bq.head ⟨sh,kind,key⟩=hd:=⟨_,rfl⟩
 obtain⟨pk,hpk⟩:∃ pk,bq.lC ⟨sh,kind,key⟩=pk:=⟨_,rfl⟩
 simp only[hhd,hpk] at oN Ez HST
 have Hx:=fun C' W=>oD L hL me hd pk limit Ez C' c W
 clear hhd hpk
 clear hmay hmk
 go_enter Tryz.func81,Tryz.ntmps81
 have fr:=Fr.refl C (K0 c) jP w
 have ag:=aB.refl w.heap.size C
 have z1:=And.intro sb st
 revert st;revert sb;revert fr;refine bx1 49 #[.int .i64 qc,.bool true,.int .i64 qv] ?_;rintro w1 Ig LV fr rb sb st
 have z2:=And.intro sb (And.intro st rb)
 have hR:=ko
 revert fr rb st;refine yH sb [(1,.int .i64 qc),(2,.bool true),(3,.int .i64 qv)] (fun _ h=>h) ag ?_;clear sb;rintro w2 e1 fr sb rb st
 simp only[stx,sx] at e1 sb
 go_wp2_with fail
 clear Ig z1 z2 e1 hR
 revert fr rb st sb;refine bk (ja _) ?_;rintro e w3 rfl fr rb st sb
 go_wp2_with fail
 revert fr rb st sb;refine bk (oN _) ?_;rintro e w4 rfl fr rb st sb
 have z3:=And.intro sb (And.intro st rb)
 revert fr rb st sb;refine bx1 195 #[.int .i64 hd,.int .i64 pk] ?_;rintro w5 Hy LD fr pb rb st sb
 go_wp2_with fail
 clear Hy z3
 revert fr pb rb st sb;refine bD ?_;intro fr pb rb st sb
 obtain⟨q1,q2,q3,qi⟩:=cF sb st pb
 refine aY sb st pb 24 [] [0,1,2,3,4,5,6,7,8,9,10,11,12,13,14,15,16,17,18,19,20,21,22,23] [24,25,26,27,28,29,30] (by kernel_rfl) (by kernel_rfl) ?_
 refine af ?_;try simp only[ox]
 repeat(go_big_quiet_step (fail))
 refine wpQuiet_nil ?_
 refine ae _ _ _ (by kernel_rfl) ?_;try simp only[ox]
 clear qi q1 q2 q3
 go_wp2_with fail
 revert ag fr pb rb st sb;refine fL (Hx C _) ?_;rintro w6 bf C6 ag fr hfi pb rb st sb
 have z4:=And.intro sb (And.intro st (And.intro rb pb))
 revert fr hfi pb rb st;refine st1 sb 9 (.int .i64 7) (fun _ h=>h) ag ?_;clear sb;rintro w7 e1 fr sb hfi pb rb st
 simp only[sx] at sb
 have z5:=And.intro sb (And.intro st (And.intro rb pb))
 revert fr hfi pb rb st;refine st1 sb 16 (.pointer (some ⟨bf,0,none⟩)) (fun _ h=>h) ag ?_;clear sb;rintro w8 e2 fr sb hfi pb rb st
 simp only[sx] at sb
 go_wp2_with fail
 refine NoPanic.normal ?_
 go_wp2_with fail
 clear z4 e1 z5 e2
 go_end0
 exact⟨rfl,⟨_,ag,by rw[HST.out];exact .LR sb rfl hfi⟩,fr⟩
theorem x7 {d:aH} {ph pl pe pf pa pr pi pd ps:Value} (hL:L.Ok) (hst:al w C s sg L me t) (sb:ep w C c sg b ph pl pe pf pa pr pi pd ps d) (hmay:d.task.may=true) (hlim:0≤d.limit∧d.limit≤1000) (r:ku):Calls Tryz.prog 81 #[.pointer (some ⟨b,0,none⟩),.agg #[.int .i64 r.code,.bool r.ok,.int .i64 r.val]] w (OW C (K0 c) jP (.tuple #[]) (fun w' C'=>aX w' C' c s sg b L me (d.told L me r)) w):=by
 cases hq:r.ok with
 | false=>exact hq ▸ y3 hL hst sb hmay hlim r hq
 | true=>
  cases hmk:d.task.marks with
  | false=>exact hq ▸ y4 hL hst sb hmay hlim r hq hmk
  | true=>exact hq ▸ y5 hL hst sb hmay hlim r hq hmk
theorem xf {d:aH} (hL:L.Ok) (hst:al w C s sg L me t) (h:aX w C c s sg b L me d) (h0:d.at_=3) (hmay:d.task.may=true) (hlim:0≤d.limit∧d.limit≤1000) (hq:d.fast.failed=false):Calls Tryz.prog 76 #[.pointer (some ⟨b,0,none⟩)] w (OW C (K0 c) jP (.tuple #[]) (fun w' C'=>aX w' C' c s sg b L me (d.tried L me)) w):=by
 obtain⟨ph,pl,pe,pf,pa,pr,pi,pd,ps,sb,-,-,-,g3,-,-,-,-,-,-⟩:=h.ex
 obtain⟨bx,rfl,hfs⟩:=g3 h0
 have jQ:=fun W C' (k1:al W C' s sg L me t) (k2:ep W C' c sg b ph pl pe (.pointer (some ⟨bx,0,none⟩)) pa pr pi pd ps d)=>x7 hL k1 k2 hmay hlim d.fast.res
 obtain⟨qf,qc,qp,fb,-⟩:=hfs.ex
 unfold fw at fb
 rw[hq] at fb
 obtain⟨⟨A,n,cap,hn,st,hrow⟩,hme,hsp,hsm⟩:=id hst
 clear hn hrow hsm hsp
 have HST:Hid (d.tried L me=d.told L me d.fast.res):=Lib.hid (by unfold aH.tried;rw[if_pos hq])
 unfold ep at sb
 obtain⟨⟨rc,ro,rv⟩,slow,⟨sh,kind,key⟩,limit,at_,head,help,a5,fast,ann,find,drop,sweep⟩:=d
 simp only at sb hmay hlim fb HST h0 jQ
 subst h0
 clear h hfs hlim hq
 go_enter Tryz.func76,Tryz.ntmps76
 have fr:=Fr.refl C (K0 c) jP w
 have ag:=aB.refl w.heap.size C
 go_wp2_with fail
 refine(jQ _ _ hst sb).mono ?_
 rintro e w9 ⟨rfl,⟨C9,dC,bN⟩,bU⟩
 have fX:=ag.trans dC fr.size
 replace fr:=fr.trans (bU.mono (fun _ h=>h) (fun _ h=>h)) ag
 go_wp2_with fail
 go_end0
 exact⟨rfl,⟨_,fX,by rw[HST.out];exact bN⟩,fr⟩
theorem xg {d:aH} (_:L.Ok) (hst:al w C s sg L me t) (h:aX w C c s sg b L me d) (h0:d.at_=3) (hmay:d.task.may=true) (hlim:0≤d.limit∧d.limit≤1000) (hq:d.fast.failed=true):Calls Tryz.prog 76 #[.pointer (some ⟨b,0,none⟩)] w (OW C (K0 c) jP (.tuple #[]) (fun w' C'=>aX w' C' c s sg b L me (d.tried L me)) w):=by
 obtain⟨ph,pl,pe,pf,pa,pr,pi,pd,ps,sb,-,-,-,g3,-,-,-,-,-,-⟩:=h.ex
 obtain⟨bx,rfl,hfs⟩:=g3 h0
 obtain⟨qf,qc,qp,fb,-⟩:=hfs.ex
 unfold fw at fb
 rw[hq] at fb
 obtain⟨⟨A,n,cap,hn,st,hrow⟩,hme,hsp,hsm⟩:=id hst
 clear hn hrow hsm hsp
 have HST:Hid (d.tried L me={ d with slow:=true,at_:=4,ann:= .new d.task }):=Lib.hid (by unfold aH.tried;rw[if_neg (by rw[hq];decide)])
 unfold ep at sb
 obtain⟨⟨rc,ro,rv⟩,slow,⟨sh,kind,key⟩,limit,at_,head,help,a5,fast,ann,find,drop,sweep⟩:=d
 simp only at sb hmay hlim fb HST h0
 subst h0
 clear h hfs hlim hq
 go_enter Tryz.func76,Tryz.ntmps76
 have fr:=Fr.refl C (K0 c) jP w
 have ag:=aB.refl w.heap.size C
 go_wp2_with fail
 have z1:=And.intro sb (And.intro st fb)
 revert fb;revert st;revert hst;revert fr;refine st1 sb 4 (.bool true) (fun _ h=>h) ag ?_;clear sb;rintro w1 e1 fr sb hst st fb
 simp only[sx] at sb
 go_wp2_with fail
 try simp only[e1]
 clear z1 e1
 revert fr hst st fb sb;refine bD ?_;intro fr hst st fb sb
 obtain⟨q1,q2,qi⟩:=bl sb st
 refine aA sb st 20 [] [0,1,2,3,4,5,6,7,8,9,10,11,12,13,14,15,16,17,18,19] [20,21,22,23,24,25,26] (by kernel_rfl) (by kernel_rfl) ?_
 refine af ?_;try simp only[ox]
 repeat(go_big_quiet_step (fail))
 refine wpQuiet_nil ?_
 refine ae _ _ _ (by kernel_rfl) ?_;try simp only[ox]
 clear qi q1 q2
 go_wp2_with fail
 revert ag fr hst st fb sb;refine fL (wZ L me ⟨sh,kind,key⟩ hmay hme C c _) ?_;rintro w2 ba C2 ag fr han hst st fb sb
 have z2:=And.intro sb (And.intro st fb)
 revert fr han hst st fb;refine st1 sb 9 (.int .i64 4) (fun _ h=>h) ag ?_;clear sb;rintro w3 e1 fr sb han hst st fb
 simp only[sx] at sb
 have z3:=And.intro sb (And.intro st fb)
 revert fr han hst st fb;refine st1 sb 14 (.pointer (some ⟨ba,0,none⟩)) (fun _ h=>h) ag ?_;clear sb;rintro w4 e2 fr sb han hst st fb
 simp only[sx] at sb
 go_wp2_with fail
 refine NoPanic.normal ?_
 go_wp2_with fail
 clear z2 e1 z3 e2
 go_end0
 exact⟨rfl,⟨_,ag,by rw[HST.out];exact .LP sb rfl han⟩,fr⟩
theorem Bg {d:aH} (hL:L.Ok) (hst:al w C s sg L me t) (h:aX w C c s sg b L me d) (h0:d.at_=3) (hmay:d.task.may=true) (hlim:0≤d.limit∧d.limit≤1000):Calls Tryz.prog 76 #[.pointer (some ⟨b,0,none⟩)] w (OW C (K0 c) jP (.tuple #[]) (fun w' C'=>aX w' C' c s sg b L me (d.tried L me)) w):=by
 cases hq:d.fast.failed with
 | false=>exact xf hL hst h h0 hmay hlim hq
 | true=>exact xg hL hst h h0 hmay hlim hq
structure bj.Fine (M:ML) (m:Mm) (t:cV) (f:bj):Prop where
 ok:f.Ok 400000
 at_:0≤f.at_∧f.at_≤3
 find:f.at_=0→(f.task.links && decide (t.spare=0))=false→f.find.Ok 100000∧(0≤f.find.at_∧f.find.at_≤6)∧(ax M m f.find).2.2.Ok 100000
 aD:f.at_=2→0≤f.aD.key
 old:f.at_=3→(0≤f.plan.old∧f.plan.old<18446744073709551616)∧0≤f.plan.pops∧f.plan.pops≤1000
variable {M:ML} {m:Mm}
theorem y6 {f:bj} (hcs:c≠s) (hs1:s≠1) (hm:aj w C M m) (hst:al w C s sg M.L me t) (h:cO w C c sg b M.L f) (hf:f.Fine M m t) (hle:t.ret.length≤98000):Calls Tryz.prog 75 #[.pointer (some ⟨b,0,none⟩),.pointer (some ⟨M.b,0,none⟩)] w (MW C c s rF M (aJ M me m t f).1 (aJ M me m t f).2.1 (fun w' C'=>al w' C' s sg M.L me (aJ M me m t f).2.2.1∧cO w' C' c sg b M.L (aJ M me m t f).2.2.2) w):=by
 rcases(by have:=hf.at_;omega:f.at_=0∨f.at_=1∨f.at_=2∨f.at_=3) with h0 | h0 | h0 | h0
 ·cases ho:(f.task.links && decide (t.spare=0)) with
  | true=>exact qI hcs hs1 hm hst h hf.ok hle h0 ho
  | false=>exact oV hcs hs1 hm hst h hf.ok hle h0 ho (hf.find h0 ho).1 (hf.find h0 ho).2.1 (hf.find h0 ho).2.2
 ·exact wG hcs hs1 hm hst h hf.ok hle h0
 ·exact wH hcs hs1 hm hst h hf.ok hle h0 (hf.aD h0)
 ·cases hq:bS M m f.plan.addr f.plan.old with
  | false=>exact mM hcs hs1 hm hst h hf.ok hle h0 (hf.old h0).1 (hf.old h0).2 hq
  | true=>exact nM hcs hs1 hm hst h hf.ok hle h0 (hf.old h0).1 (hf.old h0).2 hq
structure aH.Fine (M:ML) (m:Mm) (t:cV) (d:aH):Prop where
 may:d.task.may=true
 lim:0≤d.limit∧d.limit≤1000
 len:t.ret.length≤98000
 at_:0≤d.at_∧d.at_≤9
 head:d.at_=0→d.head.at_<M.L.th
 help:d.at_=1∨d.at_=5→d.help.Fine M m
 live:d.at_=2→d.a5.Live
 fast:d.at_=3→d.fast.Fine M m t
 ann:d.at_=4→0≤d.ann.at_∧d.ann.at_≤4
 drop:d.at_=8→d.drop.at_≤50
 find:d.at_=7→d.find.Ok 100000∧(0≤d.find.at_∧d.find.at_≤6)∧(ax M m d.find).2.2.Ok 100000
def iI:List (Option TypeId):=[some 129,some 142,some 187,some 147,some 151,some 204]++gS
theorem DD:∀ x,x∈FH→x∈iI:=by decide
theorem x8:∀ x,x∈gS→x∈iI:=by decide
theorem DE:∀ x,x∈wa→x∈iI:=by decide
theorem DF:∀ x,x∈rF→x∈iI:=by decide
theorem DG:∀ x,x∈EB→x∈iI:=by decide
theorem DH:∀ x,x∈JE→x∈iI:=by decide
theorem DI:∀ x,x∈oE→x∈iI:=by decide
theorem DJ:∀ x,x∈Jq→x∈iI:=by decide
theorem DK:∀ x,x∈C8→x∈iI:=by decide
theorem kd:∀ x,x∈jP→x∈iI:=by decide
theorem DL:∀ x,x∈AN→x∈iI:=by decide
theorem y7 {d:aH} (_:c≠s) (_:s≠1) (hm:aj w C M m) (hst:al w C s sg M.L me t) (h:aX w C c s sg b M.L me d) (hf:d.Fine M m t) (h0:d.at_=0):Calls Tryz.prog 62 #[.pointer (some ⟨b,0,none⟩),.pointer (some ⟨M.b,0,none⟩)] w (MV C c s iI (.tuple #[]) M (ak M me m t d).2.1 (fun w' C'=>al w' C' s sg M.L me (ak M me m t d).2.2.1∧aX w' C' c s sg b M.L me (ak M me m t d).2.2.2) w):=by
 obtain⟨ph,pl,pe,pf,pa,pr,pi,pd,ps,sb,g0,-,-,-,-,-,-,-,-,-⟩:=h.ex
 obtain⟨bx,rfl,hhd⟩:=g0 h0
 have hmay:=hf.may
 have hlim:=hf.lim
 have hle:=hf.len
 have Ku:=fun W C' (k1:aj W C' M m) (k2:ie W C' c bx M.L d.head)=>yV k1 k2 (hf.head h0)
 obtain⟨r,hr⟩:∃ r,cq M m d.head=r:=⟨_,rfl⟩
 simp only[hr] at Ku
 obtain⟨r1,m',hd2⟩:=r
 have jQ:=fun W C' (k1:al W C' s sg M.L me t) (k2:aX W C' c s sg b M.L me { d with head:=hd2 })=>yZ hm.ok k1 k2 h0 hmay hlim
 have HST:Hid (ak M me m t d=(false,m',t,if r1 then aH.looked M.L me t { d with head:=hd2 } else { d with head:=hd2 })):=Lib.hid (by unfold ak;simp only;rw[if_pos h0];simp only[hr])
 unfold ep at sb
 clear hr
 obtain⟨⟨rc,ro,rv⟩,slow,⟨sh,kind,key⟩,limit,at_,head,help,a5,fast,ann,find,drop,sweep⟩:=d
 simp only at sb h0 hhd HST jQ Ku
 subst h0
 clear h hf hle hmay hlim
 go_enter Tryz.func62,Tryz.ntmps62
 have fr:=Fr.refl C (dK c s) iI w
 have ag:=aB.refl w.heap.size C
 go_wp2_with fail
 refine(Ku _ _ hm hhd).mono ?_;clear hm hhd;rintro e w1 ⟨rfl,hm,hhd,hf⟩
 revert hst;revert sb;revert fr;refine dS hf (eE c s) DD ag ?_;clear hf;intro fr sb hst
 try dsimp only at hm hhd
 cases r1
 ·skip
  go_wp2_with fail
  go_end0
  exact⟨rfl,⟨_,ag,by rw[HST.out];exact hm,by rw[HST.out];exact⟨hst,.Kr sb rfl hhd⟩⟩,fr⟩
 ·skip
  go_wp2_with fail
  refine(jQ _ _ hst (.Kr sb rfl hhd)).mono ?_
  rintro e w9 ⟨rfl,⟨C9,dC,bN⟩,bU⟩
  have fX:=ag.trans dC fr.size
  replace fr:=fr.trans (bU.mono (aR c s) kd) ag
  replace hm:=hm.mv bU dC (.inr ⟨by decide,by decide⟩)
  replace hst:=hst.mv bU dC (.inr (by decide))
  go_wp2_with fail
  go_end0
  exact⟨rfl,⟨_,fX,by rw[HST.out];exact hm,by rw[HST.out];exact⟨hst,bN⟩⟩,fr⟩
theorem y8 {d:aH} (hcs:c≠s) (hs1:s≠1) (hm:aj w C M m) (hst:al w C s sg M.L me t) (h:aX w C c s sg b M.L me d) (hf:d.Fine M m t) (h0:d.at_=1):Calls Tryz.prog 62 #[.pointer (some ⟨b,0,none⟩),.pointer (some ⟨M.b,0,none⟩)] w (MV C c s iI (.tuple #[]) M (ak M me m t d).2.1 (fun w' C'=>al w' C' s sg M.L me (ak M me m t d).2.2.1∧aX w' C' c s sg b M.L me (ak M me m t d).2.2.2) w):=by
 obtain⟨ph,pl,pe,pf,pa,pr,pi,pd,ps,sb,-,g1,-,-,-,-,-,-,-,-⟩:=h.ex
 obtain⟨bx,rfl,kq⟩:=g1 h0
 have hmay:=hf.may
 have hlim:=hf.lim
 have hle:=hf.len
 have FJ:=fun W C' (k1:aj W C' M m) (k2:al W C' s sg M.L me t) (k3:br W C' c s sg bx M.L d.help)=>rJ hcs hs1 k1 k2 k3 hle (hf.help (.inl h0))
 obtain⟨r,hr⟩:∃ r,ah M me m t d.help=r:=⟨_,rfl⟩
 simp only[hr] at FJ
 obtain⟨r1,m',t2,hp2⟩:=r
 have jQ:=fun W C' (k1:al W C' s sg M.L me t2) (k2:ep W C' c sg b ph (.pointer (some ⟨bx,0,none⟩)) pe pf pa pr pi pd ps { d with help:=hp2 })=>x6 hm.ok k1 k2 hmay hlim
 have HST:Hid (ak M me m t d=(false,m',t2,if r1 then aH.want M.L me t2 { d with help:=hp2 } else { d with help:=hp2 })):=Lib.hid (by unfold ak;simp only;rw[if_neg (by rw[h0];decide)];rw[if_pos h0];simp only[hr])
 unfold ep at sb
 clear hr
 obtain⟨⟨rc,ro,rv⟩,slow,⟨sh,kind,key⟩,limit,at_,head,help,a5,fast,ann,find,drop,sweep⟩:=d
 simp only at sb h0 kq HST jQ FJ
 subst h0
 clear h hf hle hmay hlim
 go_enter Tryz.func62,Tryz.ntmps62
 have fr:=Fr.refl C (dK c s) iI w
 have ag:=aB.refl w.heap.size C
 go_wp2_with fail
 refine(FJ _ _ hm hst kq).mono ?_;clear hm hst kq;rintro e w1 ⟨rfl,⟨C1,aG,hm,hst,kq⟩,hf⟩
 revert sb;revert fr;revert ag;refine kx hf aG (fun _ h=>h) x8 ?_;clear hf aG;intro ag fr sb
 try dsimp only at hm hst kq
 cases r1
 ·skip
  go_wp2_with fail
  go_end0
  exact⟨rfl,⟨_,ag,by rw[HST.out];exact hm,by rw[HST.out];exact⟨hst,.LO sb rfl kq⟩⟩,fr⟩
 ·skip
  go_wp2_with fail
  refine(jQ _ _ hst sb).mono ?_
  rintro e w9 ⟨rfl,⟨C9,dC,bN⟩,bU⟩
  have fX:=ag.trans dC fr.size
  replace fr:=fr.trans (bU.mono (aR c s) kd) ag
  replace hm:=hm.mv bU dC (.inr ⟨by decide,by decide⟩)
  replace hst:=hst.mv bU dC (.inr (by decide))
  go_wp2_with fail
  go_end0
  exact⟨rfl,⟨_,fX,by rw[HST.out];exact hm,by rw[HST.out];exact⟨hst,bN⟩⟩,fr⟩
theorem y9 {d:aH} (_:c≠s) (_:s≠1) (hm:aj w C M m) (hst:al w C s sg M.L me t) (h:aX w C c s sg b M.L me d) (hf:d.Fine M m t) (h0:d.at_=2):Calls Tryz.prog 62 #[.pointer (some ⟨b,0,none⟩),.pointer (some ⟨M.b,0,none⟩)] w (MV C c s iI (.tuple #[]) M (ak M me m t d).2.1 (fun w' C'=>al w' C' s sg M.L me (ak M me m t d).2.2.1∧aX w' C' c s sg b M.L me (ak M me m t d).2.2.2) w):=by
 obtain⟨ph,pl,pe,pf,pa,pr,pi,pd,ps,sb,-,-,g2,-,-,-,-,-,-,-⟩:=h.ex
 obtain⟨bx,rfl,hen⟩:=g2 h0
 have hmay:=hf.may
 have hlim:=hf.lim
 have hle:=hf.len
 have uR:=fun W C' (k1:aj W C' M m) (k2:al W C' s sg M.L me t) (k3:fh W C' c s sg bx M.L d.a5)=>m8 k1 k2 k3 (by omega) (hf.live h0)
 obtain⟨r,hr⟩:∃ r,aF M me m t d.a5=r:=⟨_,rfl⟩
 simp only[hr] at uR
 obtain⟨r1,m',t2,FF⟩:=r
 have jQ:=fun W C' (k1:al W C' s sg M.L me t2) (k2:aX W C' c s sg b M.L me { d with a5:=FF })=>xd hm.ok k1 k2 h0 hmay hlim
 have HST:Hid (ak M me m t d=(false,m',t2,if r1 then aH.ensured M.L me { d with a5:=FF } else { d with a5:=FF })):=Lib.hid (by unfold ak;simp only;rw[if_neg (by rw[h0];decide)];rw[if_neg (by rw[h0];decide)];rw[if_pos h0];simp only[hr])
 unfold ep at sb
 clear hr
 obtain⟨⟨rc,ro,rv⟩,slow,⟨sh,kind,key⟩,limit,at_,head,help,a5,fast,ann,find,drop,sweep⟩:=d
 simp only at sb h0 hen HST jQ uR
 subst h0
 clear h hf hle hmay hlim
 go_enter Tryz.func62,Tryz.ntmps62
 have fr:=Fr.refl C (dK c s) iI w
 have ag:=aB.refl w.heap.size C
 go_wp2_with fail
 refine(uR _ _ hm hst hen).mono ?_;clear hm hst hen;rintro e w1 ⟨rfl,⟨C1,aG,hm,hst,hen⟩,hf⟩
 revert sb;revert fr;revert ag;refine kx hf aG (fun _ h=>h) DE ?_;clear hf aG;intro ag fr sb
 try dsimp only at hm hst hen
 cases r1
 ·skip
  go_wp2_with fail
  go_end0
  exact⟨rfl,⟨_,ag,by rw[HST.out];exact hm,by rw[HST.out];exact⟨hst,.Ks sb rfl hen⟩⟩,fr⟩
 ·skip
  go_wp2_with fail
  refine(jQ _ _ hst (.Ks sb rfl hen)).mono ?_
  rintro e w9 ⟨rfl,⟨C9,dC,bN⟩,bU⟩
  have fX:=ag.trans dC fr.size
  replace fr:=fr.trans (bU.mono (aR c s) kd) ag
  replace hm:=hm.mv bU dC (.inr ⟨by decide,by decide⟩)
  replace hst:=hst.mv bU dC (.inr (by decide))
  go_wp2_with fail
  go_end0
  exact⟨rfl,⟨_,fX,by rw[HST.out];exact hm,by rw[HST.out];exact⟨hst,bN⟩⟩,fr⟩
theorem za {d:aH} (hcs:c≠s) (hs1:s≠1) (hm:aj w C M m) (hst:al w C s sg M.L me t) (h:aX w C c s sg b M.L me d) (hf:d.Fine M m t) (h0:d.at_=3):Calls Tryz.prog 62 #[.pointer (some ⟨b,0,none⟩),.pointer (some ⟨M.b,0,none⟩)] w (MV C c s iI (.tuple #[]) M (ak M me m t d).2.1 (fun w' C'=>al w' C' s sg M.L me (ak M me m t d).2.2.1∧aX w' C' c s sg b M.L me (ak M me m t d).2.2.2) w):=by
 obtain⟨ph,pl,pe,pf,pa,pr,pi,pd,ps,sb,-,-,-,g3,-,-,-,-,-,-⟩:=h.ex
 obtain⟨bx,rfl,hfs⟩:=g3 h0
 have hmay:=hf.may
 have hlim:=hf.lim
 have hle:=hf.len
 have Kv:=fun W C' (k1:aj W C' M m) (k2:al W C' s sg M.L me t) (k3:cO W C' c sg bx M.L d.fast)=>y6 hcs hs1 k1 k2 k3 (hf.fast h0) hle
 obtain⟨r,hr⟩:∃ r,aJ M me m t d.fast=r:=⟨_,rfl⟩
 simp only[hr] at Kv
 obtain⟨r1,m',t2,Kx⟩:=r
 have jQ:=fun W C' (k1:al W C' s sg M.L me t2) (k2:aX W C' c s sg b M.L me { d with fast:=Kx })=>Bg hm.ok k1 k2 h0 hmay hlim
 have HST:Hid (ak M me m t d=(false,m',t2,if r1 then aH.tried M.L me { d with fast:=Kx } else { d with fast:=Kx })):=Lib.hid (by unfold ak;simp only;rw[if_neg (by rw[h0];decide)];rw[if_neg (by rw[h0];decide)];rw[if_neg (by rw[h0];decide)];rw[if_pos h0];simp only[hr])
 unfold ep at sb
 clear hr
 obtain⟨⟨rc,ro,rv⟩,slow,⟨sh,kind,key⟩,limit,at_,head,help,a5,fast,ann,find,drop,sweep⟩:=d
 simp only at sb h0 hfs HST jQ Kv
 subst h0
 clear h hf hle hmay hlim
 go_enter Tryz.func62,Tryz.ntmps62
 have fr:=Fr.refl C (dK c s) iI w
 have ag:=aB.refl w.heap.size C
 go_wp2_with fail
 refine(Kv _ _ hm hst hfs).mono ?_;clear hm hst hfs;rintro e w1 ⟨rfl,⟨C1,aG,hm,hst,hfs⟩,hf⟩
 revert sb;revert fr;revert ag;refine kx hf aG (fun _ h=>h) DF ?_;clear hf aG;intro ag fr sb
 try dsimp only at hm hst hfs
 cases r1
 ·skip
  go_wp2_with fail
  go_end0
  exact⟨rfl,⟨_,ag,by rw[HST.out];exact hm,by rw[HST.out];exact⟨hst,.Kt sb rfl hfs⟩⟩,fr⟩
 ·skip
  go_wp2_with fail
  refine(jQ _ _ hst (.Kt sb rfl hfs)).mono ?_
  rintro e w9 ⟨rfl,⟨C9,dC,bN⟩,bU⟩
  have fX:=ag.trans dC fr.size
  replace fr:=fr.trans (bU.mono (aR c s) kd) ag
  replace hm:=hm.mv bU dC (.inr ⟨by decide,by decide⟩)
  replace hst:=hst.mv bU dC (.inr (by decide))
  go_wp2_with fail
  go_end0
  exact⟨rfl,⟨_,fX,by rw[HST.out];exact hm,by rw[HST.out];exact⟨hst,bN⟩⟩,fr⟩
end Go.Proofs.YtbcnnhlpilmmbaaGreat
