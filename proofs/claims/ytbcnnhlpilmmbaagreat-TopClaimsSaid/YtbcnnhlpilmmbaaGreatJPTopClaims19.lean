/- Texts that are wanted for PTopClaims.
   Conditions: none. -/
import Derived.Test.YtbcnnhlpilmmbaaGreatJPTopClaims17
import Derived.Test.YtbcnnhlpilmmbaaGreatJPTopClaims18
set_option maxRecDepth 100000
set_option maxHeartbeats 6400000
namespace Go.Proofs.YtbcnnhlpilmmbaaGreat
open Go Go.RowKit
def eR (w:World) (C:Nat→Nat) (c sg b:Nat) (ph pl pe pf pa pr pi pd ps:Value) (d:aI):Prop:=SB w C c b 129 #[.pointer (some ⟨sg,0,none⟩),.int .i64 d.res.code,.bool d.res.ok,.int .i64 d.res.val,.bool d.slow,.int .i64 d.task.sh,.int .i64 d.task.kind,.int .i64 d.task.key,.int .i64 d.limit,.int .i64 d.at_,ph,pl,pe,pf,pa,pr,pi,pd,ps]
structure a6 (w:World) (C:Nat→Nat) (c s sg b:Nat) (L:Ly) (me:Int) (d:aI):Prop where
 ex:∃ ph pl pe pf pa pr pi pd ps,eR w C c sg b ph pl pe pf pa pr pi pd ps d∧(d.at_=0→∃ b',ph= .pointer (some ⟨b',0,none⟩)∧iH w C c b' L d.head)∧
  (d.at_=1→∃ b',pl= .pointer (some ⟨b',0,none⟩)∧bI w C c s sg b' L d.help)∧
  (d.at_=2→∃ b',pe= .pointer (some ⟨b',0,none⟩)∧fE w C c s sg b' L d.bm)∧
  (d.at_=3→∃ b',pf= .pointer (some ⟨b',0,none⟩)∧dr w C c sg b' L d.fast)∧
  (d.at_=4→∃ b',pa= .pointer (some ⟨b',0,none⟩)∧kR w C c b' L me d.ann)∧
  (d.at_=5→∃ b',pl= .pointer (some ⟨b',0,none⟩)∧bI w C c s sg b' L d.help)∧
  (d.at_=6→∃ b',pr= .pointer (some ⟨b',0,none⟩)∧(∃ r,pW w C c b' L me r))∧
  (d.at_=7→∃ b',pi= .pointer (some ⟨b',0,none⟩)∧ff w C c b' L d.find)∧
  (d.at_=8→∃ b',pd= .pointer (some ⟨b',0,none⟩)∧oR w C c b' L d.drop)∧
  (d.at_=9→∃ b',ps= .pointer (some ⟨b',0,none⟩)∧jU w C c s sg b' L d.sweep)
def Ki:List (Option TypeId):=[some 129,some 142,some 187,some 147,some 151,some 204]++K9
variable {w w':World} {C C':Nat→Nat} {K:Nat→Prop} {T:List (Option TypeId)} {c s sg b:Nat} {L:Ly} {me:Int}
theorem a6.mv {d:aI} (h:a6 w C c s sg b L me d) (k:Fr C K T w w') (a:aF w.heap.size C C') (hk:(¬ K c∧¬ K s)∨dJ Ki T):a6 w' C' c s sg b L me d:=by
 obtain⟨ph,pl,pe,pf,pa,pr,pi,pd,ps,sb,g0,g1,g2,g3,g4,g5,g6,g7,g8,g9⟩:=h.ex
 refine⟨ph,pl,pe,pf,pa,pr,pi,pd,ps,SB.mv sb k a (hk.imp (·.1) (fun h=>h _ (by decide))),fun e=> ?_,fun e=> ?_,fun e=> ?_,fun e=> ?_,fun e=> ?_,fun e=> ?_,fun e=> ?_,fun e=> ?_,fun e=> ?_,fun e=> ?_⟩
 ·obtain⟨b',e1,e2⟩:=g0 e
  exact⟨b',e1,e2.mv k a (hk.imp (·.1) (fun h x hx=>h x (by revert x;decide)))⟩
 ·obtain⟨b',e1,e2⟩:=g1 e
  exact⟨b',e1,e2.mv k a (hk.imp id (fun h x hx=>h x (by revert x;decide)))⟩
 ·obtain⟨b',e1,e2⟩:=g2 e
  exact⟨b',e1,e2.mv k a (hk.imp id (fun h x hx=>h x (by revert x;decide)))⟩
 ·obtain⟨b',e1,e2⟩:=g3 e
  exact⟨b',e1,e2.mv k a (hk.imp (·.1) (fun h x hx=>h x (by revert x;decide)))⟩
 ·obtain⟨b',e1,e2⟩:=g4 e
  exact⟨b',e1,e2.mv k a (hk.imp (·.1) (fun h x hx=>h x (by revert x;decide)))⟩
 ·obtain⟨b',e1,e2⟩:=g5 e
  exact⟨b',e1,e2.mv k a (hk.imp id (fun h x hx=>h x (by revert x;decide)))⟩
 ·obtain⟨b',e1,e2⟩:=g6 e
  exact⟨b',e1,e2.imp fun r e2=>e2.mv k a (hk.imp (·.1) (fun h x hx=>h x (by revert x;decide)))⟩
 ·obtain⟨b',e1,e2⟩:=g7 e
  exact⟨b',e1,e2.mv k a (hk.imp (·.1) (fun h x hx=>h x (by revert x;decide)))⟩
 ·obtain⟨b',e1,e2⟩:=g8 e
  exact⟨b',e1,e2.mv k a (hk.imp (·.1) (fun h=>h _ (by decide)))⟩
 ·obtain⟨b',e1,e2⟩:=g9 e
  exact⟨b',e1,e2.mv k a (hk.imp id (fun h x hx=>h x (by revert x;decide)))⟩
theorem a6.fr {x:aI} (h:a6 w C c s sg b L me x) (k:Fr C K T w w') (hk:(¬ K c∧¬ K s)∨dJ Ki T):a6 w' C c s sg b L me x:=h.mv k (aF.refl _ _) hk
theorem a6.step {x:aI} (h:a6 w C c s sg b L me x) (k:Below w.heap.size w w'):a6 w' C c s sg b L me x:=h.mv (Fr.of_below k C (fun _=>False) []) (aF.refl _ _) (.inr (by decide))
instance {w:World} {C:Nat→Nat} {c s sg b:Nat} {L:Ly} {me:Int} {x:aI}:Mv (a6 w C c s sg b L me x) w C Ki (fun w' C'=>a6 w' C' c s sg b L me x):=⟨fun h k a hk=>h.mv k a (.inr hk)⟩
theorem a6.Le {c s sg b b':Nat} {L:Ly} {me:Int} {d:aI} {pl pe pf pa pr pi pd ps:Value} (sb:eR w C c sg b (.pointer (some ⟨b',0,none⟩)) pl pe pf pa pr pi pd ps d) (h:d.at_=0) (k:iH w C c b' L d.head):a6 w C c s sg b L me d:=⟨_,_,_,_,_,_,_,_,_,sb,fun _=>⟨b',rfl,k⟩,fun e=>absurd e (by rw[h];decide),fun e=>absurd e (by rw[h];decide),fun e=>absurd e (by rw[h];decide),fun e=>absurd e (by rw[h];decide),fun e=>absurd e (by rw[h];decide),fun e=>absurd e (by rw[h];decide),fun e=>absurd e (by rw[h];decide),fun e=>absurd e (by rw[h];decide),fun e=>absurd e (by rw[h];decide)⟩
theorem a6.Mw {c s sg b b':Nat} {L:Ly} {me:Int} {d:aI} {ph pe pf pa pr pi pd ps:Value} (sb:eR w C c sg b ph (.pointer (some ⟨b',0,none⟩)) pe pf pa pr pi pd ps d) (h:d.at_=1) (k:bI w C c s sg b' L d.help):a6 w C c s sg b L me d:=⟨_,_,_,_,_,_,_,_,_,sb,fun e=>absurd e (by rw[h];decide),fun _=>⟨b',rfl,k⟩,fun e=>absurd e (by rw[h];decide),fun e=>absurd e (by rw[h];decide),fun e=>absurd e (by rw[h];decide),fun e=>absurd e (by rw[h];decide),fun e=>absurd e (by rw[h];decide),fun e=>absurd e (by rw[h];decide),fun e=>absurd e (by rw[h];decide),fun e=>absurd e (by rw[h];decide)⟩
theorem a6.Lf {c s sg b b':Nat} {L:Ly} {me:Int} {d:aI} {ph pl pf pa pr pi pd ps:Value} (sb:eR w C c sg b ph pl (.pointer (some ⟨b',0,none⟩)) pf pa pr pi pd ps d) (h:d.at_=2) (k:fE w C c s sg b' L d.bm):a6 w C c s sg b L me d:=⟨_,_,_,_,_,_,_,_,_,sb,fun e=>absurd e (by rw[h];decide),fun e=>absurd e (by rw[h];decide),fun _=>⟨b',rfl,k⟩,fun e=>absurd e (by rw[h];decide),fun e=>absurd e (by rw[h];decide),fun e=>absurd e (by rw[h];decide),fun e=>absurd e (by rw[h];decide),fun e=>absurd e (by rw[h];decide),fun e=>absurd e (by rw[h];decide),fun e=>absurd e (by rw[h];decide)⟩
theorem a6.Lg {c s sg b b':Nat} {L:Ly} {me:Int} {d:aI} {ph pl pe pa pr pi pd ps:Value} (sb:eR w C c sg b ph pl pe (.pointer (some ⟨b',0,none⟩)) pa pr pi pd ps d) (h:d.at_=3) (k:dr w C c sg b' L d.fast):a6 w C c s sg b L me d:=⟨_,_,_,_,_,_,_,_,_,sb,fun e=>absurd e (by rw[h];decide),fun e=>absurd e (by rw[h];decide),fun e=>absurd e (by rw[h];decide),fun _=>⟨b',rfl,k⟩,fun e=>absurd e (by rw[h];decide),fun e=>absurd e (by rw[h];decide),fun e=>absurd e (by rw[h];decide),fun e=>absurd e (by rw[h];decide),fun e=>absurd e (by rw[h];decide),fun e=>absurd e (by rw[h];decide)⟩
theorem a6.Mx {c s sg b b':Nat} {L:Ly} {me:Int} {d:aI} {ph pl pe pf pr pi pd ps:Value} (sb:eR w C c sg b ph pl pe pf (.pointer (some ⟨b',0,none⟩)) pr pi pd ps d) (h:d.at_=4) (k:kR w C c b' L me d.ann):a6 w C c s sg b L me d:=⟨_,_,_,_,_,_,_,_,_,sb,fun e=>absurd e (by rw[h];decide),fun e=>absurd e (by rw[h];decide),fun e=>absurd e (by rw[h];decide),fun e=>absurd e (by rw[h];decide),fun _=>⟨b',rfl,k⟩,fun e=>absurd e (by rw[h];decide),fun e=>absurd e (by rw[h];decide),fun e=>absurd e (by rw[h];decide),fun e=>absurd e (by rw[h];decide),fun e=>absurd e (by rw[h];decide)⟩
theorem a6.My {c s sg b b':Nat} {L:Ly} {me:Int} {d:aI} {ph pe pf pa pr pi pd ps:Value} (sb:eR w C c sg b ph (.pointer (some ⟨b',0,none⟩)) pe pf pa pr pi pd ps d) (h:d.at_=5) (k:bI w C c s sg b' L d.help):a6 w C c s sg b L me d:=⟨_,_,_,_,_,_,_,_,_,sb,fun e=>absurd e (by rw[h];decide),fun e=>absurd e (by rw[h];decide),fun e=>absurd e (by rw[h];decide),fun e=>absurd e (by rw[h];decide),fun e=>absurd e (by rw[h];decide),fun _=>⟨b',rfl,k⟩,fun e=>absurd e (by rw[h];decide),fun e=>absurd e (by rw[h];decide),fun e=>absurd e (by rw[h];decide),fun e=>absurd e (by rw[h];decide)⟩
theorem a6.NG {c s sg b b':Nat} {L:Ly} {me:Int} {d:aI} {ph pl pe pf pa pi pd ps:Value} (sb:eR w C c sg b ph pl pe pf pa (.pointer (some ⟨b',0,none⟩)) pi pd ps d) (h:d.at_=6) (k:(∃ r,pW w C c b' L me r)):a6 w C c s sg b L me d:=⟨_,_,_,_,_,_,_,_,_,sb,fun e=>absurd e (by rw[h];decide),fun e=>absurd e (by rw[h];decide),fun e=>absurd e (by rw[h];decide),fun e=>absurd e (by rw[h];decide),fun e=>absurd e (by rw[h];decide),fun e=>absurd e (by rw[h];decide),fun _=>⟨b',rfl,k⟩,fun e=>absurd e (by rw[h];decide),fun e=>absurd e (by rw[h];decide),fun e=>absurd e (by rw[h];decide)⟩
theorem a6.Mz {c s sg b b':Nat} {L:Ly} {me:Int} {d:aI} {ph pl pe pf pa pr pd ps:Value} (sb:eR w C c sg b ph pl pe pf pa pr (.pointer (some ⟨b',0,none⟩)) pd ps d) (h:d.at_=7) (k:ff w C c b' L d.find):a6 w C c s sg b L me d:=⟨_,_,_,_,_,_,_,_,_,sb,fun e=>absurd e (by rw[h];decide),fun e=>absurd e (by rw[h];decide),fun e=>absurd e (by rw[h];decide),fun e=>absurd e (by rw[h];decide),fun e=>absurd e (by rw[h];decide),fun e=>absurd e (by rw[h];decide),fun e=>absurd e (by rw[h];decide),fun _=>⟨b',rfl,k⟩,fun e=>absurd e (by rw[h];decide),fun e=>absurd e (by rw[h];decide)⟩
theorem a6.MA {c s sg b b':Nat} {L:Ly} {me:Int} {d:aI} {ph pl pe pf pa pr pi ps:Value} (sb:eR w C c sg b ph pl pe pf pa pr pi (.pointer (some ⟨b',0,none⟩)) ps d) (h:d.at_=8) (k:oR w C c b' L d.drop):a6 w C c s sg b L me d:=⟨_,_,_,_,_,_,_,_,_,sb,fun e=>absurd e (by rw[h];decide),fun e=>absurd e (by rw[h];decide),fun e=>absurd e (by rw[h];decide),fun e=>absurd e (by rw[h];decide),fun e=>absurd e (by rw[h];decide),fun e=>absurd e (by rw[h];decide),fun e=>absurd e (by rw[h];decide),fun e=>absurd e (by rw[h];decide),fun _=>⟨b',rfl,k⟩,fun e=>absurd e (by rw[h];decide)⟩
theorem a6.MB {c s sg b b':Nat} {L:Ly} {me:Int} {d:aI} {ph pl pe pf pa pr pi pd:Value} (sb:eR w C c sg b ph pl pe pf pa pr pi pd (.pointer (some ⟨b',0,none⟩)) d) (h:d.at_=9) (k:jU w C c s sg b' L d.sweep):a6 w C c s sg b L me d:=⟨_,_,_,_,_,_,_,_,_,sb,fun e=>absurd e (by rw[h];decide),fun e=>absurd e (by rw[h];decide),fun e=>absurd e (by rw[h];decide),fun e=>absurd e (by rw[h];decide),fun e=>absurd e (by rw[h];decide),fun e=>absurd e (by rw[h];decide),fun e=>absurd e (by rw[h];decide),fun e=>absurd e (by rw[h];decide),fun e=>absurd e (by rw[h];decide),fun _=>⟨b',rfl,k⟩⟩
def j4:List (Option TypeId):=[some 129,some 187]
theorem B4:∀ x,x∈[some 187]→x∈j4:=by decide
variable {t:cg}
theorem xV {d:aI} {ph pl pe pf pa pr pi pd ps:Value} (hL:L.Ok) (hst:aq w C s sg L me t) (sb:eR w C c sg b ph pl pe pf pa pr pi pd ps d) (hmay:d.task.may=true) (hlim:0≤d.limit∧d.limit≤1000):Calls Tryz.prog 108 #[.pointer (some ⟨b,0,none⟩)] w (OW C (K0 c) j4 (.tuple #[]) (fun w' C'=>a6 w' C' c s sg b L me (d.aR L me)) w):=by
 unfold eR at sb
 obtain⟨⟨A,n,cap,hn,st,hrow⟩,hme,hsp,hsm⟩:=id hst
 clear hn hrow hsm hsp
 obtain⟨⟨rc,ro,rv⟩,slow,⟨sh,kind,key⟩,limit,at_,head,help,bm,fast,ann,find,drop,sweep⟩:=d
 simp only at sb hmay hlim
 have HST:Hid (aI.aR L me (⟨⟨rc,ro,rv⟩,slow,⟨sh,kind,key⟩,limit,at_,head,help,bm,fast,ann,find,drop,sweep⟩:aI)=(⟨⟨rc,ro,rv⟩,slow,⟨sh,kind,key⟩,limit,3,head,help,bm,.new L me ⟨sh,kind,key⟩ limit,ann,find,drop,sweep⟩:aI)):=Lib.hid rfl
 go_enter Tryz.func108,Tryz.ntmps108
 have fr:=Fr.refl C (K0 c) j4 w
 have ag:=aF.refl w.heap.size C
 go_wp2_with fail
 revert st;revert hst;revert sb;revert fr;refine bK ?_;intro fr sb hst st
 obtain⟨q1,q2,qi⟩:=bD sb st
 refine aC sb st 14 [] [0,1,2,3,4,5,6,7,8,9,10,11,12,13] [14,15,16,17,18,19,20] (by kernel_rfl) (by kernel_rfl) ?_
 refine af ?_;try simp only[ox]
 repeat(go_big_quiet_step (fail))
 refine wpQuiet_nil ?_
 refine ae _ _ _ (by kernel_rfl) ?_;try simp only[ox]
 clear qi q1 q2
 go_wp2_with fail
 refine(BZ (C:=C) (c:=c) hL hst ⟨sh,kind,key⟩ limit hmay hlim).mono ?_
 rintro e w1 ⟨⟨bf,C1,rfl,oC,hfs⟩,hf1⟩
 have sz:=fr.size
 replace fr:=fr.trans (hf1.mono (fun _ h=>h) B4) ag
 replace sb:=sb.mv hf1 oC (.inr (by decide))
 replace hst:=hst.mv hf1 oC (.inr (by decide))
 replace st:=st.mv hf1 oC (.inr (by decide))
 replace ag:=ag.trans oC sz
 clear sz oC hf1
 have z1:=And.intro sb st
 revert st;revert hfs;revert hst;revert fr;refine st1 sb 9 (.int .i64 3) (fun _ h=>h) ag ?_;clear sb;rintro w2 e1 fr sb hst hfs st
 simp only[sx] at sb
 have z2:=And.intro sb st
 revert fr hst hfs st;refine st1 sb 13 (.pointer (some ⟨bf,0,none⟩)) (fun _ h=>h) ag ?_;clear sb;rintro w3 e2 fr sb hst hfs st
 simp only[sx] at sb
 go_wp2_with fail
 try simp only[e1,e2]
 refine NoPanic.normal ?_
 go_wp2_with fail
 clear z1 e1 z2 e2
 go_end0
 exact⟨rfl,⟨_,ag,by rw[HST.out];exact .Lg sb rfl hfs⟩,fr⟩
theorem mq {d:aI} {ph pl pe pf pa pr pi pd ps:Value} (_:L.Ok) (hst:aq w C s sg L me t) (sb:eR w C c sg b ph pl pe pf pa pr pi pd ps d) (hmay:d.task.may=true) (hlim:0≤d.limit∧d.limit≤1000):Calls Tryz.prog 84 #[.pointer (some ⟨b,0,none⟩)] w (OW C (K0 c) j4 (.tuple #[]) (fun w' C'=>a6 w' C' c s sg b L me (d.leave me)) w):=by
 unfold eR at sb
 obtain⟨⟨A,n,cap,hn,st,hrow⟩,hme,hsp,hsm⟩:=id hst
 clear hn hrow hsm hsp
 obtain⟨⟨rc,ro,rv⟩,slow,⟨sh,kind,key⟩,limit,at_,head,help,bm,fast,ann,find,drop,sweep⟩:=d
 simp only at sb hmay hlim
 have HST:Hid (aI.leave me (⟨⟨rc,ro,rv⟩,slow,⟨sh,kind,key⟩,limit,at_,head,help,bm,fast,ann,find,drop,sweep⟩:aI)=(⟨⟨rc,ro,rv⟩,slow,⟨sh,kind,key⟩,limit,8,head,help,bm,fast,ann,find,⟨me,0⟩,sweep⟩:aI)):=Lib.hid rfl
 go_enter Tryz.func84,Tryz.ntmps84
 have fr:=Fr.refl C (K0 c) j4 w
 have ag:=aF.refl w.heap.size C
 go_wp2_with fail
 revert st;revert sb;revert fr;refine bK ?_;intro fr sb st
 obtain⟨q1,q2,qi⟩:=bD sb st
 refine aC sb st 16 [] [0,1,2,3,4,5,6,7,8,9,10,11,12,13,14,15] [16,17,18,19,20,21,22] (by kernel_rfl) (by kernel_rfl) ?_
 refine af ?_;try simp only[ox]
 repeat(go_big_quiet_step (fail))
 refine wpQuiet_nil ?_
 refine ae _ _ _ (by kernel_rfl) ?_;try simp only[ox]
 clear qi q1 q2
 go_wp2_with fail
 revert ag fr sb st;refine gd (wV L me (by omega) C c _) ?_;rintro w1 bd C1 ag fr hgc sb st
 have z1:=And.intro sb st
 revert fr hgc st;refine st1 sb 9 (.int .i64 8) (fun _ h=>h) ag ?_;clear sb;rintro w2 e1 fr sb hgc st
 simp only[sx] at sb
 have z2:=And.intro sb st
 revert fr hgc st;refine st1 sb 17 (.pointer (some ⟨bd,0,none⟩)) (fun _ h=>h) ag ?_;clear sb;rintro w3 e2 fr sb hgc st
 simp only[sx] at sb
 go_wp2_with fail
 refine NoPanic.normal ?_
 go_wp2_with fail
 clear z1 e1 z2 e2
 go_end0
 exact⟨rfl,⟨_,ag,by rw[HST.out];exact .MA sb rfl hgc⟩,fr⟩
theorem zG {d:aI} {ph pl pe pf pa pr pi pd ps:Value} (_:L.Ok) (hst:aq w C s sg L me t) (sb:eR w C c sg b ph pl pe pf pa pr pi pd ps d) (hmay:d.task.may=true) (hlim:0≤d.limit∧d.limit≤1000) (hlk:d.task.links=true) (hz:t.spare=0):Calls Tryz.prog 72 #[.pointer (some ⟨b,0,none⟩)] w (OW C (K0 c) j4 (.tuple #[]) (fun w' C'=>a6 w' C' c s sg b L me (d.want L me t)) w):=by
 obtain⟨⟨A,n,cap,hn,st,hrow⟩,hme,hsp,hsm⟩:=id hst
 clear hn hrow hsm hsp
 have fZ:=fun W=>bj d.task W
 rw[hlk] at fZ
 have dz:(t.spare==0)=true:=by rw[hz];rfl
 have HST:Hid (d.want L me t={ d with at_:=2,bm:= .new }):=Lib.hid (by unfold aI.want;rw[if_pos (by rw[hlk,hz];rfl)])
 unfold eR at sb
 obtain⟨⟨rc,ro,rv⟩,slow,⟨sh,kind,key⟩,limit,at_,head,help,bm,fast,ann,find,drop,sweep⟩:=d
 simp only at sb hmay hlim fZ HST
 clear hlk hz
 go_enter Tryz.func72,Tryz.ntmps72
 have fr:=Fr.refl C (K0 c) j4 w
 have ag:=aF.refl w.heap.size C
 go_wp2_with fail
 revert st;revert hst;revert sb;revert fr;refine bB (fZ _) ?_;rintro e w1 rfl fr sb hst st
 go_wp2_with fail
 revert ag fr sb hst st;refine gd (mc sg L s C c _) ?_;rintro w2 bn C2 ag fr hen sb hst st
 have z1:=And.intro sb st
 revert fr hen hst st;refine st1 sb 9 (.int .i64 2) (fun _ h=>h) ag ?_;clear sb;rintro w3 e1 fr sb hen hst st
 simp only[sx] at sb
 have z2:=And.intro sb st
 revert fr hen hst st;refine st1 sb 12 (.pointer (some ⟨bn,0,none⟩)) (fun _ h=>h) ag ?_;clear sb;rintro w4 e2 fr sb hen hst st
 simp only[sx] at sb
 go_wp2_with fail
 clear z1 e1 z2 e2
 go_end0
 exact⟨rfl,⟨_,ag,by rw[HST.out];exact .Lf sb rfl hen⟩,fr⟩
theorem zH {d:aI} {ph pl pe pf pa pr pi pd ps:Value} (hL:L.Ok) (hst:aq w C s sg L me t) (sb:eR w C c sg b ph pl pe pf pa pr pi pd ps d) (hmay:d.task.may=true) (hlim:0≤d.limit∧d.limit≤1000) (hlk:d.task.links=false):Calls Tryz.prog 72 #[.pointer (some ⟨b,0,none⟩)] w (OW C (K0 c) j4 (.tuple #[]) (fun w' C'=>a6 w' C' c s sg b L me (d.want L me t)) w):=by
 obtain⟨⟨A,n,cap,hn,st,hrow⟩,hme,hsp,hsm⟩:=id hst
 clear hn hrow hsm hsp
 have pC:=fun W C' (k1:aq W C' s sg L me t) (k2:eR W C' c sg b ph pl pe pf pa pr pi pd ps d)=>xV hL k1 k2 hmay hlim
 have fZ:=fun W=>bj d.task W
 rw[hlk] at fZ
 have HST:Hid (d.want L me t=d.aR L me):=Lib.hid (by unfold aI.want;rw[if_neg (by rw[hlk];simp)])
 unfold eR at sb
 obtain⟨⟨rc,ro,rv⟩,slow,⟨sh,kind,key⟩,limit,at_,head,help,bm,fast,ann,find,drop,sweep⟩:=d
 simp only at sb hmay hlim fZ HST pC
 clear hlk
 go_enter Tryz.func72,Tryz.ntmps72
 have fr:=Fr.refl C (K0 c) j4 w
 have ag:=aF.refl w.heap.size C
 go_wp2_with fail
 revert st;revert hst;revert sb;revert fr;refine bB (fZ _) ?_;rintro e w1 rfl fr sb hst st
 go_wp2_with fail
 refine(pC _ _ hst sb).mono ?_
 rintro e w9 ⟨rfl,⟨C9,dR,bP⟩,bV⟩
 have gp:=ag.trans dR fr.size
 replace fr:=fr.trans (bV.mono (fun _ h=>h) (fun _ h=>h)) ag
 go_wp2_with fail
 go_end0
 exact⟨rfl,⟨_,gp,by rw[HST.out];exact bP⟩,fr⟩
theorem zI {d:aI} {ph pl pe pf pa pr pi pd ps:Value} (hL:L.Ok) (hst:aq w C s sg L me t) (sb:eR w C c sg b ph pl pe pf pa pr pi pd ps d) (hmay:d.task.may=true) (hlim:0≤d.limit∧d.limit≤1000) (hlk:d.task.links=true) (hz:t.spare≠0):Calls Tryz.prog 72 #[.pointer (some ⟨b,0,none⟩)] w (OW C (K0 c) j4 (.tuple #[]) (fun w' C'=>a6 w' C' c s sg b L me (d.want L me t)) w):=by
 obtain⟨⟨A,n,cap,hn,st,hrow⟩,hme,hsp,hsm⟩:=id hst
 clear hn hrow hsm hsp
 have pC:=fun W C' (k1:aq W C' s sg L me t) (k2:eR W C' c sg b ph pl pe pf pa pr pi pd ps d)=>xV hL k1 k2 hmay hlim
 have fZ:=fun W=>bj d.task W
 rw[hlk] at fZ
 have dz:(t.spare==0)=false:=beq_false_of_ne hz
 have HST:Hid (d.want L me t=d.aR L me):=Lib.hid (by unfold aI.want;rw[if_neg (by rw[hlk];simp[hz])])
 unfold eR at sb
 obtain⟨⟨rc,ro,rv⟩,slow,⟨sh,kind,key⟩,limit,at_,head,help,bm,fast,ann,find,drop,sweep⟩:=d
 simp only at sb hmay hlim fZ HST pC
 clear hlk hz
 go_enter Tryz.func72,Tryz.ntmps72
 have fr:=Fr.refl C (K0 c) j4 w
 have ag:=aF.refl w.heap.size C
 go_wp2_with fail
 revert st;revert hst;revert sb;revert fr;refine bB (fZ _) ?_;rintro e w1 rfl fr sb hst st
 go_wp2_with fail
 refine(pC _ _ hst sb).mono ?_
 rintro e w9 ⟨rfl,⟨C9,dR,bP⟩,bV⟩
 have gp:=ag.trans dR fr.size
 replace fr:=fr.trans (bV.mono (fun _ h=>h) (fun _ h=>h)) ag
 go_wp2_with fail
 go_end0
 exact⟨rfl,⟨_,gp,by rw[HST.out];exact bP⟩,fr⟩
theorem yN {d:aI} {ph pl pe pf pa pr pi pd ps:Value} (hL:L.Ok) (hst:aq w C s sg L me t) (sb:eR w C c sg b ph pl pe pf pa pr pi pd ps d) (hmay:d.task.may=true) (hlim:0≤d.limit∧d.limit≤1000):Calls Tryz.prog 72 #[.pointer (some ⟨b,0,none⟩)] w (OW C (K0 c) j4 (.tuple #[]) (fun w' C'=>a6 w' C' c s sg b L me (d.want L me t)) w):=by
 cases hlk:d.task.links with
 | false=>exact zH hL hst sb hmay hlim hlk
 | true=>
  by_cases hz:t.spare=0
  ·exact zG hL hst sb hmay hlim hlk hz
  ·exact zI hL hst sb hmay hlim hlk hz
theorem vA {d:aI} (hL:L.Ok) (hst:aq w C s sg L me t) (h:a6 w C c s sg b L me d) (h0:d.at_=0) (hmay:d.task.may=true) (hlim:0≤d.limit∧d.limit≤1000) (hq:d.head.u<0):Calls Tryz.prog 70 #[.pointer (some ⟨b,0,none⟩)] w (OW C (K0 c) j4 (.tuple #[]) (fun w' C'=>a6 w' C' c s sg b L me (d.looked L me t)) w):=by
 obtain⟨ph,pl,pe,pf,pa,pr,pi,pd,ps,sb,g0,-,-,-,-,-,-,-,-,-⟩:=h.ex
 obtain⟨bx,rfl,hhd⟩:=g0 h0
 have j5:=fun W C' (k1:aq W C' s sg L me t) (k2:eR W C' c sg b (.pointer (some ⟨bx,0,none⟩)) pl pe pf pa pr pi pd ps d)=>yN hL k1 k2 hmay hlim
 have hbl:=hhd.blk
 obtain⟨⟨A,n,cap,hn,st,hrow⟩,hme,hsp,hsm⟩:=id hst
 clear hn hrow hsm hsp
 have HST:Hid (d.looked L me t=d.want L me t):=Lib.hid (by unfold aI.looked;rw[if_pos hq])
 unfold eR at sb
 obtain⟨⟨rc,ro,rv⟩,slow,⟨sh,kind,key⟩,limit,at_,head,help,bm,fast,ann,find,drop,sweep⟩:=d
 simp only at sb hmay hlim hbl HST hq h0 j5
 subst h0
 obtain⟨hu,hno,hat,htk⟩:=head
 simp only at hbl HST hq
 have dq:decide (hu<0)=true:=decide_eq_true hq
 clear h hhd hmay hlim
 go_enter Tryz.func70,Tryz.ntmps70
 have fr:=Fr.refl C (K0 c) j4 w
 have ag:=aF.refl w.heap.size C
 go_wp2_with fail
 refine(j5 _ _ hst sb).mono ?_
 rintro e w9 ⟨rfl,⟨C9,dR,bP⟩,bV⟩
 have gp:=ag.trans dR fr.size
 replace fr:=fr.trans (bV.mono (fun _ h=>h) (fun _ h=>h)) ag
 go_wp2_with fail
 go_end0
 exact⟨rfl,⟨_,gp,by rw[HST.out];exact bP⟩,fr⟩
theorem vB {d:aI} (_:L.Ok) (hst:aq w C s sg L me t) (h:a6 w C c s sg b L me d) (h0:d.at_=0) (hmay:d.task.may=true) (hlim:0≤d.limit∧d.limit≤1000) (hq:¬ d.head.u<0):Calls Tryz.prog 70 #[.pointer (some ⟨b,0,none⟩)] w (OW C (K0 c) j4 (.tuple #[]) (fun w' C'=>a6 w' C' c s sg b L me (d.looked L me t)) w):=by
 obtain⟨ph,pl,pe,pf,pa,pr,pi,pd,ps,sb,g0,-,-,-,-,-,-,-,-,-⟩:=h.ex
 obtain⟨bx,rfl,hhd⟩:=g0 h0
 have hbl:=hhd.blk
 obtain⟨⟨A,n,cap,hn,st,hrow⟩,hme,hsp,hsm⟩:=id hst
 clear hn hrow hsm hsp
 have HST:Hid (d.looked L me t={ d with at_:=1,help:= .new L d.head.u d.head.no d.limit }):=Lib.hid (by unfold aI.looked;rw[if_neg hq])
 unfold eR at sb
 obtain⟨⟨rc,ro,rv⟩,slow,⟨sh,kind,key⟩,limit,at_,head,help,bm,fast,ann,find,drop,sweep⟩:=d
 simp only at sb hmay hlim hbl HST hq h0
 subst h0
 obtain⟨hu,hno,hat,htk⟩:=head
 simp only at hbl HST hq
 have dq:decide (hu<0)=false:=decide_eq_false hq
 clear h hhd hmay hlim
 go_enter Tryz.func70,Tryz.ntmps70
 have fr:=Fr.refl C (K0 c) j4 w
 have ag:=aF.refl w.heap.size C
 go_wp2_with fail
 revert hbl;revert st;revert hst;revert sb;revert fr;refine bK ?_;intro fr sb hst st hbl
 obtain⟨q1,q2,q3,qi⟩:=db sb st hbl
 refine a8 sb st hbl 24 [] [0,1,2,3,4,5,6,7,8,9,10,11,12,13,14,15,16,17,18,19,20,21,22,23] [24,25,26,27,28,29,30] (by kernel_rfl) (by kernel_rfl) ?_
 refine af ?_;try simp only[ox]
 repeat(go_big_quiet_step (fail))
 refine wpQuiet_nil ?_
 refine ae _ _ _ (by kernel_rfl) ?_;try simp only[ox]
 clear qi q1 q2 q3
 go_wp2_with fail
 revert ag fr sb hst st hbl;refine gd (vr sg L s hu hno limit C c _) ?_;rintro w1 bp C1 ag fr jN sb hst st hbl
 have z1:=And.intro sb (And.intro st hbl)
 revert fr jN hst st hbl;refine st1 sb 9 (.int .i64 1) (fun _ h=>h) ag ?_;clear sb;rintro w2 e1 fr sb jN hst st hbl
 simp only[sx] at sb
 have z2:=And.intro sb (And.intro st hbl)
 revert fr jN hst st hbl;refine st1 sb 11 (.pointer (some ⟨bp,0,none⟩)) (fun _ h=>h) ag ?_;clear sb;rintro w3 e2 fr sb jN hst st hbl
 simp only[sx] at sb
 go_wp2_with fail
 refine NoPanic.normal ?_
 go_wp2_with fail
 clear z1 e1 z2 e2
 go_end0
 exact⟨rfl,⟨_,ag,by rw[HST.out];exact .Mw sb rfl jN⟩,fr⟩
theorem zJ {d:aI} (hL:L.Ok) (hst:aq w C s sg L me t) (h:a6 w C c s sg b L me d) (h0:d.at_=0) (hmay:d.task.may=true) (hlim:0≤d.limit∧d.limit≤1000):Calls Tryz.prog 70 #[.pointer (some ⟨b,0,none⟩)] w (OW C (K0 c) j4 (.tuple #[]) (fun w' C'=>a6 w' C' c s sg b L me (d.looked L me t)) w):=by
 by_cases hq:d.head.u<0
 ·exact vA hL hst h h0 hmay hlim hq
 ·exact vB hL hst h h0 hmay hlim hq
theorem tR {d:aI} (hL:L.Ok) (hst:aq w C s sg L me t) (h:a6 w C c s sg b L me d) (h0:d.at_=2) (hmay:d.task.may=true) (hlim:0≤d.limit∧d.limit≤1000) (hq:d.bm.short=true):Calls Tryz.prog 74 #[.pointer (some ⟨b,0,none⟩)] w (OW C (K0 c) j4 (.tuple #[]) (fun w' C'=>a6 w' C' c s sg b L me (d.ensured L me)) w):=by
 obtain⟨ph,pl,pe,pf,pa,pr,pi,pd,ps,sb,-,-,g2,-,-,-,-,-,-,-⟩:=h.ex
 obtain⟨bx,rfl,hen⟩:=g2 h0
 have j5:=fun W C' (k1:aq W C' s sg L me t) (k2:eR W C' c sg b ph pl (.pointer (some ⟨bx,0,none⟩)) pf pa pr pi pd ps { d with res:=⟨4,false,0⟩ })=>mq hL k1 k2 hmay hlim
 obtain⟨qa,qw,en,-,-⟩:=hen.ex
 rw[hq] at en
 have HST:Hid (d.ensured L me=({ d with res:=⟨4,false,0⟩ }:aI).leave me):=Lib.hid (by unfold aI.ensured;rw[if_pos hq])
 unfold eR at sb
 obtain⟨⟨rc,ro,rv⟩,slow,⟨sh,kind,key⟩,limit,at_,head,help,bm,fast,ann,find,drop,sweep⟩:=d
 simp only at sb hmay hlim en HST h0 j5
 subst h0
 clear h hen hmay hlim hq
 go_enter Tryz.func74,Tryz.ntmps74
 have fr:=Fr.refl C (K0 c) j4 w
 have ag:=aF.refl w.heap.size C
 go_wp2_with fail
 have z1:=And.intro sb en
 revert en;revert hst;revert fr;refine st1 sb 1 (.int .i64 4) (fun _ h=>h) ag ?_;clear sb;rintro w1 e1 fr sb hst en
 simp only[sx] at sb
 have z2:=And.intro sb en
 revert fr hst en;refine st1 sb 2 (.bool false) (fun _ h=>h) ag ?_;clear sb;rintro w2 e2 fr sb hst en
 simp only[sx] at sb
 have z3:=And.intro sb en
 revert fr hst en;refine st1 sb 3 (.int .i64 0) (fun _ h=>h) ag ?_;clear sb;rintro w3 e3 fr sb hst en
 simp only[sx] at sb
 go_wp2_with fail
 try simp only[e1,e2,e3]
 clear z1 e1 z2 e2 z3 e3
 refine(j5 _ _ hst sb).mono ?_
 rintro e w9 ⟨rfl,⟨C9,dR,bP⟩,bV⟩
 have gp:=ag.trans dR fr.size
 replace fr:=fr.trans (bV.mono (fun _ h=>h) (fun _ h=>h)) ag
 go_wp2_with fail
 go_end0
 exact⟨rfl,⟨_,gp,by rw[HST.out];exact bP⟩,fr⟩
theorem tS {d:aI} (hL:L.Ok) (hst:aq w C s sg L me t) (h:a6 w C c s sg b L me d) (h0:d.at_=2) (hmay:d.task.may=true) (hlim:0≤d.limit∧d.limit≤1000) (hq:d.bm.short=false):Calls Tryz.prog 74 #[.pointer (some ⟨b,0,none⟩)] w (OW C (K0 c) j4 (.tuple #[]) (fun w' C'=>a6 w' C' c s sg b L me (d.ensured L me)) w):=by
 obtain⟨ph,pl,pe,pf,pa,pr,pi,pd,ps,sb,-,-,g2,-,-,-,-,-,-,-⟩:=h.ex
 obtain⟨bx,rfl,hen⟩:=g2 h0
 have j5:=fun W C' (k1:aq W C' s sg L me t) (k2:eR W C' c sg b ph pl (.pointer (some ⟨bx,0,none⟩)) pf pa pr pi pd ps d)=>xV hL k1 k2 hmay hlim
 obtain⟨qa,qw,en,-,-⟩:=hen.ex
 rw[hq] at en
 have HST:Hid (d.ensured L me=d.aR L me):=Lib.hid (by unfold aI.ensured;rw[if_neg (by rw[hq];decide)])
 unfold eR at sb
 obtain⟨⟨rc,ro,rv⟩,slow,⟨sh,kind,key⟩,limit,at_,head,help,bm,fast,ann,find,drop,sweep⟩:=d
 simp only at sb hmay hlim en HST h0 j5
 subst h0
 clear h hen hmay hlim hq
 go_enter Tryz.func74,Tryz.ntmps74
 have fr:=Fr.refl C (K0 c) j4 w
 have ag:=aF.refl w.heap.size C
 go_wp2_with fail
 refine(j5 _ _ hst sb).mono ?_
 rintro e w9 ⟨rfl,⟨C9,dR,bP⟩,bV⟩
 have gp:=ag.trans dR fr.size
 replace fr:=fr.trans (bV.mono (fun _ h=>h) (fun _ h=>h)) ag
 go_wp2_with fail
 go_end0
 exact⟨rfl,⟨_,gp,by rw[HST.out];exact bP⟩,fr⟩
theorem xW {d:aI} (hL:L.Ok) (hst:aq w C s sg L me t) (h:a6 w C c s sg b L me d) (h0:d.at_=2) (hmay:d.task.may=true) (hlim:0≤d.limit∧d.limit≤1000):Calls Tryz.prog 74 #[.pointer (some ⟨b,0,none⟩)] w (OW C (K0 c) j4 (.tuple #[]) (fun w' C'=>a6 w' C' c s sg b L me (d.ensured L me)) w):=by
 cases hq:d.bm.short with
 | true=>exact tR hL hst h h0 hmay hlim hq
 | false=>exact tS hL hst h h0 hmay hlim hq
theorem zK {d:aI} {ph pl pe pf pa pr pi pd ps:Value} (hL:L.Ok) (hst:aq w C s sg L me t) (sb:eR w C c sg b ph pl pe pf pa pr pi pd ps d) (hmay:d.task.may=true) (hlim:0≤d.limit∧d.limit≤1000) (r:lQ) (hq:r.ok=false):Calls Tryz.prog 81 #[.pointer (some ⟨b,0,none⟩),.agg #[.int .i64 r.code,.bool r.ok,.int .i64 r.val]] w (OW C (K0 c) j4 (.tuple #[]) (fun w' C'=>a6 w' C' c s sg b L me (d.told L me r)) w):=by
 obtain⟨⟨A,n,cap,hn,st,hrow⟩,hme,hsp,hsm⟩:=id hst
 clear hn hrow hsm hsp
 obtain⟨qc,qo,qv⟩:=r
 simp only at hq
 subst hq
 have j5:=fun W C' (k1:aq W C' s sg L me t) (k2:eR W C' c sg b ph pl pe pf pa pr pi pd ps { d with res:=⟨qc,false,qv⟩ })=>mq hL k1 k2 hmay hlim
 have HST:Hid (d.told L me ⟨qc,false,qv⟩=({ d with res:=⟨qc,false,qv⟩ }:aI).leave me):=Lib.hid (by unfold aI.told;simp only;rw[if_pos (Or.inl (by simp))])
 unfold eR at sb
 obtain⟨⟨rc,ro,rv⟩,slow,⟨sh,kind,key⟩,limit,at_,head,help,bm,fast,ann,find,drop,sweep⟩:=d
 simp only at sb hmay hlim HST j5
 clear hmay
 go_enter Tryz.func81,Tryz.ntmps81
 have fr:=Fr.refl C (K0 c) j4 w
 have ag:=aF.refl w.heap.size C
 have z1:=sb
 revert hst;revert sb;revert fr;refine bx1 49 #[.int .i64 qc,.bool false,.int .i64 qv] ?_;rintro w1 IY MC fr rb sb hst
 have z2:=And.intro sb rb
 have hR:=kQ
 revert fr rb hst;refine zn sb [(1,.int .i64 qc),(2,.bool false),(3,.int .i64 qv)] (fun _ h=>h) ag ?_;clear sb;rintro w2 e1 fr sb rb hst
 simp only[stx,sx] at e1 sb
 go_wp2_with fail
 clear IY z1 z2 e1 hR
 refine(j5 _ _ hst sb).mono ?_
 rintro e w9 ⟨rfl,⟨C9,dR,bP⟩,bV⟩
 have gp:=ag.trans dR fr.size
 replace fr:=fr.trans (bV.mono (fun _ h=>h) (fun _ h=>h)) ag
 go_wp2_with fail
 go_end0
 exact⟨rfl,⟨_,gp,by rw[HST.out];exact bP⟩,fr⟩
theorem zL {d:aI} {ph pl pe pf pa pr pi pd ps:Value} (hL:L.Ok) (hst:aq w C s sg L me t) (sb:eR w C c sg b ph pl pe pf pa pr pi pd ps d) (hmay:d.task.may=true) (hlim:0≤d.limit∧d.limit≤1000) (r:lQ) (hq:r.ok=true) (hmk:d.task.marks=false):Calls Tryz.prog 81 #[.pointer (some ⟨b,0,none⟩),.agg #[.int .i64 r.code,.bool r.ok,.int .i64 r.val]] w (OW C (K0 c) j4 (.tuple #[]) (fun w' C'=>a6 w' C' c s sg b L me (d.told L me r)) w):=by
 obtain⟨⟨A,n,cap,hn,st,hrow⟩,hme,hsp,hsm⟩:=id hst
 clear hn hrow hsm hsp
 obtain⟨qc,qo,qv⟩:=r
 simp only at hq
 subst hq
 have j5:=fun W C' (k1:aq W C' s sg L me t) (k2:eR W C' c sg b ph pl pe pf pa pr pi pd ps { d with res:=⟨qc,true,qv⟩ })=>mq hL k1 k2 hmay hlim
 have jn:=fun W=>oS d.task W
 rw[hmk] at jn
 have HST:Hid (d.told L me ⟨qc,true,qv⟩=({ d with res:=⟨qc,true,qv⟩ }:aI).leave me):=Lib.hid (by unfold aI.told;simp only;rw[if_pos (.inr hmk)])
 unfold eR at sb
 obtain⟨⟨rc,ro,rv⟩,slow,⟨sh,kind,key⟩,limit,at_,head,help,bm,fast,ann,find,drop,sweep⟩:=d
 simp only at sb hmay hlim HST j5 jn
 clear hmay hmk
 go_enter Tryz.func81,Tryz.ntmps81
 have fr:=Fr.refl C (K0 c) j4 w
 have ag:=aF.refl w.heap.size C
 have z1:=sb
 revert hst;revert sb;revert fr;refine bx1 49 #[.int .i64 qc,.bool true,.int .i64 qv] ?_;rintro w1 IY MC fr rb sb hst
 have z2:=And.intro sb rb
 have hR:=kQ
 revert fr rb hst;refine zn sb [(1,.int .i64 qc),(2,.bool true),(3,.int .i64 qv)] (fun _ h=>h) ag ?_;clear sb;rintro w2 e1 fr sb rb hst
 simp only[stx,sx] at e1 sb
 go_wp2_with fail
 clear IY z1 z2 e1 hR
 revert fr rb hst sb;refine bB (jn _) ?_;rintro e w3 rfl fr rb hst sb
 go_wp2_with fail
 refine(j5 _ _ hst sb).mono ?_
 rintro e w9 ⟨rfl,⟨C9,dR,bP⟩,bV⟩
 have gp:=ag.trans dR fr.size
 replace fr:=fr.trans (bV.mono (fun _ h=>h) (fun _ h=>h)) ag
 go_wp2_with fail
 go_end0
 exact⟨rfl,⟨_,gp,by rw[HST.out];exact bP⟩,fr⟩
theorem zM {d:aI} {ph pl pe pf pa pr pi pd ps:Value} (hL:L.Ok) (hst:aq w C s sg L me t) (sb:eR w C c sg b ph pl pe pf pa pr pi pd ps d) (hmay:d.task.may=true) (hlim:0≤d.limit∧d.limit≤1000) (r:lQ) (hq:r.ok=true) (hmk:d.task.marks=true):Calls Tryz.prog 81 #[.pointer (some ⟨b,0,none⟩),.agg #[.int .i64 r.code,.bool r.ok,.int .i64 r.val]] w (OW C (K0 c) j4 (.tuple #[]) (fun w' C'=>a6 w' C' c s sg b L me (d.told L me r)) w):=by
 obtain⟨⟨A,n,cap,hn,st,hrow⟩,hme,hsp,hsm⟩:=id hst
 clear hn hrow hsm hsp
 obtain⟨qc,qo,qv⟩:=r
 simp only at hq
 subst hq
 have jn:=fun W=>oS d.task W
 rw[hmk] at jn
 have HST:Hid (d.told L me ⟨qc,true,qv⟩={ d with res:=⟨qc,true,qv⟩,at_:=7,find:= .new L me d.task.head d.task.kO d.limit }):=Lib.hid (by unfold aI.told;simp only;rw[if_neg (by rw[hmk];simp)])
 unfold eR at sb
 obtain⟨⟨rc,ro,rv⟩,slow,⟨sh,kind,key⟩,limit,at_,head,help,bm,fast,ann,find,drop,sweep⟩:=d
 simp only at sb hmay hlim HST jn
 have hkr:=(bl.rng hmay).key
 have Fm:=bl.py hmay
 simp only at hkr
 have pz:∀ W,Calls Tryz.prog 127 #[.agg #[.int .i64 sh,.int .i64 kind,.int .i64 key]] W fun e w'=>e= .returned (.agg #[.int .i64 (bl.head ⟨sh,kind,key⟩),.int .i64 (bl.kO ⟨sh,kind,key⟩)])∧Below W.heap.size W w':=fun W=>ly ⟨sh,kind,key⟩ (by simp only;omega) W
 obtain⟨hd,hhd⟩:∃ hd,bl.head ⟨sh,kind,key⟩=hd:=⟨_,rfl⟩
 obtain⟨pk,hpk⟩:∃ pk,bl.kO ⟨sh,kind,key⟩=pk:=⟨_,rfl⟩
 simp only[hhd,hpk] at pz Fm HST
 have IN:=fun C' W=>o7 L hL me hd pk limit Fm C' c W
 clear hhd hpk
 clear hmay hmk
 go_enter Tryz.func81,Tryz.ntmps81
 have fr:=Fr.refl C (K0 c) j4 w
 have ag:=aF.refl w.heap.size C
 have z1:=And.intro sb st
 revert st;revert sb;revert fr;refine bx1 49 #[.int .i64 qc,.bool true,.int .i64 qv] ?_;rintro w1 IY MC fr rb sb st
 have z2:=And.intro sb (And.intro st rb)
 have hR:=kQ
 revert fr rb st;refine zn sb [(1,.int .i64 qc),(2,.bool true),(3,.int .i64 qv)] (fun _ h=>h) ag ?_;clear sb;rintro w2 e1 fr sb rb st
 simp only[stx,sx] at e1 sb
 go_wp2_with fail
 clear IY z1 z2 e1 hR
 revert fr rb st sb;refine bB (jn _) ?_;rintro e w3 rfl fr rb st sb
 go_wp2_with fail
 revert fr rb st sb;refine bB (pz _) ?_;rintro e w4 rfl fr rb st sb
 have z3:=And.intro sb (And.intro st rb)
 revert fr rb st sb;refine bx1 195 #[.int .i64 hd,.int .i64 pk] ?_;rintro w5 IP Mn fr pb rb st sb
 go_wp2_with fail
 clear IP z3
 revert fr pb rb st sb;refine bK ?_;intro fr pb rb st sb
 obtain⟨q1,q2,q3,qi⟩:=db sb st pb
 refine a8 sb st pb 24 [] [0,1,2,3,4,5,6,7,8,9,10,11,12,13,14,15,16,17,18,19,20,21,22,23] [24,25,26,27,28,29,30] (by kernel_rfl) (by kernel_rfl) ?_
 refine af ?_;try simp only[ox]
 repeat(go_big_quiet_step (fail))
 refine wpQuiet_nil ?_
 refine ae _ _ _ (by kernel_rfl) ?_;try simp only[ox]
 clear qi q1 q2 q3
 go_wp2_with fail
 revert ag fr pb rb st sb;refine gd (IN C _) ?_;rintro w6 bf C6 ag fr hfi pb rb st sb
 have z4:=And.intro sb (And.intro st (And.intro rb pb))
 revert fr hfi pb rb st;refine st1 sb 9 (.int .i64 7) (fun _ h=>h) ag ?_;clear sb;rintro w7 e1 fr sb hfi pb rb st
 simp only[sx] at sb
 have z5:=And.intro sb (And.intro st (And.intro rb pb))
 revert fr hfi pb rb st;refine st1 sb 16 (.pointer (some ⟨bf,0,none⟩)) (fun _ h=>h) ag ?_;clear sb;rintro w8 e2 fr sb hfi pb rb st
 simp only[sx] at sb
 go_wp2_with fail
 refine NoPanic.normal ?_
 go_wp2_with fail
 clear z4 e1 z5 e2
 go_end0
 exact⟨rfl,⟨_,ag,by rw[HST.out];exact .Mz sb rfl hfi⟩,fr⟩
theorem yO {d:aI} {ph pl pe pf pa pr pi pd ps:Value} (hL:L.Ok) (hst:aq w C s sg L me t) (sb:eR w C c sg b ph pl pe pf pa pr pi pd ps d) (hmay:d.task.may=true) (hlim:0≤d.limit∧d.limit≤1000) (r:lQ):Calls Tryz.prog 81 #[.pointer (some ⟨b,0,none⟩),.agg #[.int .i64 r.code,.bool r.ok,.int .i64 r.val]] w (OW C (K0 c) j4 (.tuple #[]) (fun w' C'=>a6 w' C' c s sg b L me (d.told L me r)) w):=by
 cases hq:r.ok with
 | false=>exact hq ▸ zK hL hst sb hmay hlim r hq
 | true=>
  cases hmk:d.task.marks with
  | false=>exact hq ▸ zL hL hst sb hmay hlim r hq hmk
  | true=>exact hq ▸ zM hL hst sb hmay hlim r hq hmk
theorem xX {d:aI} (hL:L.Ok) (hst:aq w C s sg L me t) (h:a6 w C c s sg b L me d) (h0:d.at_=3) (hmay:d.task.may=true) (hlim:0≤d.limit∧d.limit≤1000) (hq:d.fast.failed=false):Calls Tryz.prog 76 #[.pointer (some ⟨b,0,none⟩)] w (OW C (K0 c) j4 (.tuple #[]) (fun w' C'=>a6 w' C' c s sg b L me (d.tried L me)) w):=by
 obtain⟨ph,pl,pe,pf,pa,pr,pi,pd,ps,sb,-,-,-,g3,-,-,-,-,-,-⟩:=h.ex
 obtain⟨bx,rfl,hfs⟩:=g3 h0
 have j5:=fun W C' (k1:aq W C' s sg L me t) (k2:eR W C' c sg b ph pl pe (.pointer (some ⟨bx,0,none⟩)) pa pr pi pd ps d)=>yO hL k1 k2 hmay hlim d.fast.res
 obtain⟨qf,qc,qp,fb,-⟩:=hfs.ex
 unfold fO at fb
 rw[hq] at fb
 obtain⟨⟨A,n,cap,hn,st,hrow⟩,hme,hsp,hsm⟩:=id hst
 clear hn hrow hsm hsp
 have HST:Hid (d.tried L me=d.told L me d.fast.res):=Lib.hid (by unfold aI.tried;rw[if_pos hq])
 unfold eR at sb
 obtain⟨⟨rc,ro,rv⟩,slow,⟨sh,kind,key⟩,limit,at_,head,help,bm,fast,ann,find,drop,sweep⟩:=d
 simp only at sb hmay hlim fb HST h0 j5
 subst h0
 clear h hfs hlim hq
 go_enter Tryz.func76,Tryz.ntmps76
 have fr:=Fr.refl C (K0 c) j4 w
 have ag:=aF.refl w.heap.size C
 go_wp2_with fail
 refine(j5 _ _ hst sb).mono ?_
 rintro e w9 ⟨rfl,⟨C9,dR,bP⟩,bV⟩
 have gp:=ag.trans dR fr.size
 replace fr:=fr.trans (bV.mono (fun _ h=>h) (fun _ h=>h)) ag
 go_wp2_with fail
 go_end0
 exact⟨rfl,⟨_,gp,by rw[HST.out];exact bP⟩,fr⟩
theorem xY {d:aI} (_:L.Ok) (hst:aq w C s sg L me t) (h:a6 w C c s sg b L me d) (h0:d.at_=3) (hmay:d.task.may=true) (hlim:0≤d.limit∧d.limit≤1000) (hq:d.fast.failed=true):Calls Tryz.prog 76 #[.pointer (some ⟨b,0,none⟩)] w (OW C (K0 c) j4 (.tuple #[]) (fun w' C'=>a6 w' C' c s sg b L me (d.tried L me)) w):=by
 obtain⟨ph,pl,pe,pf,pa,pr,pi,pd,ps,sb,-,-,-,g3,-,-,-,-,-,-⟩:=h.ex
 obtain⟨bx,rfl,hfs⟩:=g3 h0
 obtain⟨qf,qc,qp,fb,-⟩:=hfs.ex
 unfold fO at fb
 rw[hq] at fb
 obtain⟨⟨A,n,cap,hn,st,hrow⟩,hme,hsp,hsm⟩:=id hst
 clear hn hrow hsm hsp
 have HST:Hid (d.tried L me={ d with slow:=true,at_:=4,ann:= .new d.task }):=Lib.hid (by unfold aI.tried;rw[if_neg (by rw[hq];decide)])
 unfold eR at sb
 obtain⟨⟨rc,ro,rv⟩,slow,⟨sh,kind,key⟩,limit,at_,head,help,bm,fast,ann,find,drop,sweep⟩:=d
 simp only at sb hmay hlim fb HST h0
 subst h0
 clear h hfs hlim hq
 go_enter Tryz.func76,Tryz.ntmps76
 have fr:=Fr.refl C (K0 c) j4 w
 have ag:=aF.refl w.heap.size C
 go_wp2_with fail
 have z1:=And.intro sb (And.intro st fb)
 revert fb;revert st;revert hst;revert fr;refine st1 sb 4 (.bool true) (fun _ h=>h) ag ?_;clear sb;rintro w1 e1 fr sb hst st fb
 simp only[sx] at sb
 go_wp2_with fail
 try simp only[e1]
 clear z1 e1
 revert fr hst st fb sb;refine bK ?_;intro fr hst st fb sb
 obtain⟨q1,q2,qi⟩:=bD sb st
 refine aC sb st 20 [] [0,1,2,3,4,5,6,7,8,9,10,11,12,13,14,15,16,17,18,19] [20,21,22,23,24,25,26] (by kernel_rfl) (by kernel_rfl) ?_
 refine af ?_;try simp only[ox]
 repeat(go_big_quiet_step (fail))
 refine wpQuiet_nil ?_
 refine ae _ _ _ (by kernel_rfl) ?_;try simp only[ox]
 clear qi q1 q2
 go_wp2_with fail
 revert ag fr hst st fb sb;refine gd (xT L me ⟨sh,kind,key⟩ hmay hme C c _) ?_;rintro w2 ba C2 ag fr han hst st fb sb
 have z2:=And.intro sb (And.intro st fb)
 revert fr han hst st fb;refine st1 sb 9 (.int .i64 4) (fun _ h=>h) ag ?_;clear sb;rintro w3 e1 fr sb han hst st fb
 simp only[sx] at sb
 have z3:=And.intro sb (And.intro st fb)
 revert fr han hst st fb;refine st1 sb 14 (.pointer (some ⟨ba,0,none⟩)) (fun _ h=>h) ag ?_;clear sb;rintro w4 e2 fr sb han hst st fb
 simp only[sx] at sb
 go_wp2_with fail
 refine NoPanic.normal ?_
 go_wp2_with fail
 clear z2 e1 z3 e2
 go_end0
 exact⟨rfl,⟨_,ag,by rw[HST.out];exact .Mx sb rfl han⟩,fr⟩
theorem B5 {d:aI} (hL:L.Ok) (hst:aq w C s sg L me t) (h:a6 w C c s sg b L me d) (h0:d.at_=3) (hmay:d.task.may=true) (hlim:0≤d.limit∧d.limit≤1000):Calls Tryz.prog 76 #[.pointer (some ⟨b,0,none⟩)] w (OW C (K0 c) j4 (.tuple #[]) (fun w' C'=>a6 w' C' c s sg b L me (d.tried L me)) w):=by
 cases hq:d.fast.failed with
 | false=>exact xX hL hst h h0 hmay hlim hq
 | true=>exact xY hL hst h h0 hmay hlim hq
structure bq.Fine (M:ML) (m:Mm) (t:cg) (f:bq):Prop where
 ok:f.Ok 400000
 at_:0≤f.at_∧f.at_≤3
 find:f.at_=0→(f.task.links && decide (t.spare=0))=false→f.find.Ok 100000∧(0≤f.find.at_∧f.find.at_≤6)∧(aw M m f.find).2.2.Ok 100000
 az:f.at_=2→0≤f.az.key
 old:f.at_=3→(0≤f.plan.old∧f.plan.old<18446744073709551616)∧0≤f.plan.pops∧f.plan.pops≤1000
variable {M:ML} {m:Mm}
theorem zN {f:bq} (hcs:c≠s) (hs1:s≠1) (hm:aj w C M m) (hst:aq w C s sg M.L me t) (h:dr w C c sg b M.L f) (hf:f.Fine M m t) (hle:t.ret.length≤98000):Calls Tryz.prog 75 #[.pointer (some ⟨b,0,none⟩),.pointer (some ⟨M.b,0,none⟩)] w (MW C c s sc M (aH M me m t f).1 (aH M me m t f).2.1 (fun w' C'=>aq w' C' s sg M.L me (aH M me m t f).2.2.1∧dr w' C' c sg b M.L (aH M me m t f).2.2.2) w):=by
 rcases(by have:=hf.at_;omega:f.at_=0∨f.at_=1∨f.at_=2∨f.at_=3) with h0 | h0 | h0 | h0
 ·cases ho:(f.task.links && decide (t.spare=0)) with
  | true=>exact rp hcs hs1 hm hst h hf.ok hle h0 ho
  | false=>exact pH hcs hs1 hm hst h hf.ok hle h0 ho (hf.find h0 ho).1 (hf.find h0 ho).2.1 (hf.find h0 ho).2.2
 ·exact xA hcs hs1 hm hst h hf.ok hle h0
 ·exact xB hcs hs1 hm hst h hf.ok hle h0 (hf.az h0)
 ·cases hq:bA M m f.plan.addr f.plan.old with
  | false=>exact nh hcs hs1 hm hst h hf.ok hle h0 (hf.old h0).1 (hf.old h0).2 hq
  | true=>exact om hcs hs1 hm hst h hf.ok hle h0 (hf.old h0).1 (hf.old h0).2 hq
structure aI.Fine (M:ML) (m:Mm) (t:cg) (d:aI):Prop where
 may:d.task.may=true
 lim:0≤d.limit∧d.limit≤1000
 len:t.ret.length≤98000
 at_:0≤d.at_∧d.at_≤9
 head:d.at_=0→d.head.at_<M.L.th
 help:d.at_=1∨d.at_=5→d.help.Fine M m
 live:d.at_=2→d.bm.Live
 fast:d.at_=3→d.fast.Fine M m t
 ann:d.at_=4→0≤d.ann.at_∧d.ann.at_≤4
 drop:d.at_=8→d.drop.at_≤50
 find:d.at_=7→d.find.Ok 100000∧(0≤d.find.at_∧d.find.at_≤6)∧(aw M m d.find).2.2.Ok 100000
def iY:List (Option TypeId):=[some 129,some 142,some 187,some 147,some 151,some 204]++ic
theorem Et:∀ x,x∈Gt→x∈iY:=by decide
theorem yP:∀ x,x∈ic→x∈iY:=by decide
theorem Eu:∀ x,x∈xh→x∈iY:=by decide
theorem Ew:∀ x,x∈sc→x∈iY:=by decide
theorem Ex:∀ x,x∈Fp→x∈iY:=by decide
theorem Ey:∀ x,x∈Kh→x∈iY:=by decide
theorem Ez:∀ x,x∈o8→x∈iY:=by decide
theorem EA:∀ x,x∈J1→x∈iY:=by decide
theorem EB:∀ x,x∈DZ→x∈iY:=by decide
theorem kI:∀ x,x∈j4→x∈iY:=by decide
theorem EC:∀ x,x∈BI→x∈iY:=by decide
theorem zP {d:aI} (_:c≠s) (_:s≠1) (hm:aj w C M m) (hst:aq w C s sg M.L me t) (h:a6 w C c s sg b M.L me d) (hf:d.Fine M m t) (h0:d.at_=0):Calls Tryz.prog 62 #[.pointer (some ⟨b,0,none⟩),.pointer (some ⟨M.b,0,none⟩)] w (MV C c s iY (.tuple #[]) M (al M me m t d).2.1 (fun w' C'=>aq w' C' s sg M.L me (al M me m t d).2.2.1∧a6 w' C' c s sg b M.L me (al M me m t d).2.2.2) w):=by
 obtain⟨ph,pl,pe,pf,pa,pr,pi,pd,ps,sb,g0,-,-,-,-,-,-,-,-,-⟩:=h.ex
 obtain⟨bx,rfl,hhd⟩:=g0 h0
 have hmay:=hf.may
 have hlim:=hf.lim
 have hle:=hf.len
 have Lh:=fun W C' (k1:aj W C' M m) (k2:iH W C' c bx M.L d.head)=>zF k1 k2 (hf.head h0)
 obtain⟨r,hr⟩:∃ r,cB M m d.head=r:=⟨_,rfl⟩
 simp only[hr] at Lh
 obtain⟨r1,m',hd2⟩:=r
 have j5:=fun W C' (k1:aq W C' s sg M.L me t) (k2:a6 W C' c s sg b M.L me { d with head:=hd2 })=>zJ hm.ok k1 k2 h0 hmay hlim
 have HST:Hid (al M me m t d=(false,m',t,if r1 then aI.looked M.L me t { d with head:=hd2 } else { d with head:=hd2 })):=Lib.hid (by unfold al;simp only;rw[if_pos h0];simp only[hr])
 unfold eR at sb
 clear hr
 obtain⟨⟨rc,ro,rv⟩,slow,⟨sh,kind,key⟩,limit,at_,head,help,bm,fast,ann,find,drop,sweep⟩:=d
 simp only at sb h0 hhd HST j5 Lh
 subst h0
 clear h hf hle hmay hlim
 go_enter Tryz.func62,Tryz.ntmps62
 have fr:=Fr.refl C (ef c s) iY w
 have ag:=aF.refl w.heap.size C
 go_wp2_with fail
 refine(Lh _ _ hm hhd).mono ?_;clear hm hhd;rintro e w1 ⟨rfl,hm,hhd,hf⟩
 revert hst;revert sb;revert fr;refine eA hf (eW c s) Et ag ?_;clear hf;intro fr sb hst
 try dsimp only at hm hhd
 cases r1
 ·skip
  go_wp2_with fail
  go_end0
  exact⟨rfl,⟨_,ag,by rw[HST.out];exact hm,by rw[HST.out];exact⟨hst,.Le sb rfl hhd⟩⟩,fr⟩
 ·skip
  go_wp2_with fail
  refine(j5 _ _ hst (.Le sb rfl hhd)).mono ?_
  rintro e w9 ⟨rfl,⟨C9,dR,bP⟩,bV⟩
  have gp:=ag.trans dR fr.size
  replace fr:=fr.trans (bV.mono (aU c s) kI) ag
  replace hm:=hm.mv bV dR (.inr ⟨by decide,by decide⟩)
  replace hst:=hst.mv bV dR (.inr (by decide))
  go_wp2_with fail
  go_end0
  exact⟨rfl,⟨_,gp,by rw[HST.out];exact hm,by rw[HST.out];exact⟨hst,bP⟩⟩,fr⟩
theorem zQ {d:aI} (hcs:c≠s) (hs1:s≠1) (hm:aj w C M m) (hst:aq w C s sg M.L me t) (h:a6 w C c s sg b M.L me d) (hf:d.Fine M m t) (h0:d.at_=1):Calls Tryz.prog 62 #[.pointer (some ⟨b,0,none⟩),.pointer (some ⟨M.b,0,none⟩)] w (MV C c s iY (.tuple #[]) M (al M me m t d).2.1 (fun w' C'=>aq w' C' s sg M.L me (al M me m t d).2.2.1∧a6 w' C' c s sg b M.L me (al M me m t d).2.2.2) w):=by
 obtain⟨ph,pl,pe,pf,pa,pr,pi,pd,ps,sb,-,g1,-,-,-,-,-,-,-,-⟩:=h.ex
 obtain⟨bx,rfl,jN⟩:=g1 h0
 have hmay:=hf.may
 have hlim:=hf.lim
 have hle:=hf.len
 have Gv:=fun W C' (k1:aj W C' M m) (k2:aq W C' s sg M.L me t) (k3:bI W C' c s sg bx M.L d.help)=>si hcs hs1 k1 k2 k3 hle (hf.help (.inl h0))
 obtain⟨r,hr⟩:∃ r,ah M me m t d.help=r:=⟨_,rfl⟩
 simp only[hr] at Gv
 obtain⟨r1,m',t2,hp2⟩:=r
 have j5:=fun W C' (k1:aq W C' s sg M.L me t2) (k2:eR W C' c sg b ph (.pointer (some ⟨bx,0,none⟩)) pe pf pa pr pi pd ps { d with help:=hp2 })=>yN hm.ok k1 k2 hmay hlim
 have HST:Hid (al M me m t d=(false,m',t2,if r1 then aI.want M.L me t2 { d with help:=hp2 } else { d with help:=hp2 })):=Lib.hid (by unfold al;simp only;rw[if_neg (by rw[h0];decide)];rw[if_pos h0];simp only[hr])
 unfold eR at sb
 clear hr
 obtain⟨⟨rc,ro,rv⟩,slow,⟨sh,kind,key⟩,limit,at_,head,help,bm,fast,ann,find,drop,sweep⟩:=d
 simp only at sb h0 jN HST j5 Gv
 subst h0
 clear h hf hle hmay hlim
 go_enter Tryz.func62,Tryz.ntmps62
 have fr:=Fr.refl C (ef c s) iY w
 have ag:=aF.refl w.heap.size C
 go_wp2_with fail
 refine(Gv _ _ hm hst jN).mono ?_;clear hm hst jN;rintro e w1 ⟨rfl,⟨C1,aG,hm,hst,jN⟩,hf⟩
 revert sb;revert fr;revert ag;refine kV hf aG (fun _ h=>h) yP ?_;clear hf aG;intro ag fr sb
 try dsimp only at hm hst jN
 cases r1
 ·skip
  go_wp2_with fail
  go_end0
  exact⟨rfl,⟨_,ag,by rw[HST.out];exact hm,by rw[HST.out];exact⟨hst,.Mw sb rfl jN⟩⟩,fr⟩
 ·skip
  go_wp2_with fail
  refine(j5 _ _ hst sb).mono ?_
  rintro e w9 ⟨rfl,⟨C9,dR,bP⟩,bV⟩
  have gp:=ag.trans dR fr.size
  replace fr:=fr.trans (bV.mono (aU c s) kI) ag
  replace hm:=hm.mv bV dR (.inr ⟨by decide,by decide⟩)
  replace hst:=hst.mv bV dR (.inr (by decide))
  go_wp2_with fail
  go_end0
  exact⟨rfl,⟨_,gp,by rw[HST.out];exact hm,by rw[HST.out];exact⟨hst,bP⟩⟩,fr⟩
theorem zS {d:aI} (_:c≠s) (_:s≠1) (hm:aj w C M m) (hst:aq w C s sg M.L me t) (h:a6 w C c s sg b M.L me d) (hf:d.Fine M m t) (h0:d.at_=2):Calls Tryz.prog 62 #[.pointer (some ⟨b,0,none⟩),.pointer (some ⟨M.b,0,none⟩)] w (MV C c s iY (.tuple #[]) M (al M me m t d).2.1 (fun w' C'=>aq w' C' s sg M.L me (al M me m t d).2.2.1∧a6 w' C' c s sg b M.L me (al M me m t d).2.2.2) w):=by
 obtain⟨ph,pl,pe,pf,pa,pr,pi,pd,ps,sb,-,-,g2,-,-,-,-,-,-,-⟩:=h.ex
 obtain⟨bx,rfl,hen⟩:=g2 h0
 have hmay:=hf.may
 have hlim:=hf.lim
 have hle:=hf.len
 have zA:=fun W C' (k1:aj W C' M m) (k2:aq W C' s sg M.L me t) (k3:fE W C' c s sg bx M.L d.bm)=>nL k1 k2 k3 (by omega) (hf.live h0)
 obtain⟨r,hr⟩:∃ r,aK M me m t d.bm=r:=⟨_,rfl⟩
 simp only[hr] at zA
 obtain⟨r1,m',t2,Gr⟩:=r
 have j5:=fun W C' (k1:aq W C' s sg M.L me t2) (k2:a6 W C' c s sg b M.L me { d with bm:=Gr })=>xW hm.ok k1 k2 h0 hmay hlim
 have HST:Hid (al M me m t d=(false,m',t2,if r1 then aI.ensured M.L me { d with bm:=Gr } else { d with bm:=Gr })):=Lib.hid (by unfold al;simp only;rw[if_neg (by rw[h0];decide)];rw[if_neg (by rw[h0];decide)];rw[if_pos h0];simp only[hr])
 unfold eR at sb
 clear hr
 obtain⟨⟨rc,ro,rv⟩,slow,⟨sh,kind,key⟩,limit,at_,head,help,bm,fast,ann,find,drop,sweep⟩:=d
 simp only at sb h0 hen HST j5 zA
 subst h0
 clear h hf hle hmay hlim
 go_enter Tryz.func62,Tryz.ntmps62
 have fr:=Fr.refl C (ef c s) iY w
 have ag:=aF.refl w.heap.size C
 go_wp2_with fail
 refine(zA _ _ hm hst hen).mono ?_;clear hm hst hen;rintro e w1 ⟨rfl,⟨C1,aG,hm,hst,hen⟩,hf⟩
 revert sb;revert fr;revert ag;refine kV hf aG (fun _ h=>h) Eu ?_;clear hf aG;intro ag fr sb
 try dsimp only at hm hst hen
 cases r1
 ·skip
  go_wp2_with fail
  go_end0
  exact⟨rfl,⟨_,ag,by rw[HST.out];exact hm,by rw[HST.out];exact⟨hst,.Lf sb rfl hen⟩⟩,fr⟩
 ·skip
  go_wp2_with fail
  refine(j5 _ _ hst (.Lf sb rfl hen)).mono ?_
  rintro e w9 ⟨rfl,⟨C9,dR,bP⟩,bV⟩
  have gp:=ag.trans dR fr.size
  replace fr:=fr.trans (bV.mono (aU c s) kI) ag
  replace hm:=hm.mv bV dR (.inr ⟨by decide,by decide⟩)
  replace hst:=hst.mv bV dR (.inr (by decide))
  go_wp2_with fail
  go_end0
  exact⟨rfl,⟨_,gp,by rw[HST.out];exact hm,by rw[HST.out];exact⟨hst,bP⟩⟩,fr⟩
theorem zT {d:aI} (hcs:c≠s) (hs1:s≠1) (hm:aj w C M m) (hst:aq w C s sg M.L me t) (h:a6 w C c s sg b M.L me d) (hf:d.Fine M m t) (h0:d.at_=3):Calls Tryz.prog 62 #[.pointer (some ⟨b,0,none⟩),.pointer (some ⟨M.b,0,none⟩)] w (MV C c s iY (.tuple #[]) M (al M me m t d).2.1 (fun w' C'=>aq w' C' s sg M.L me (al M me m t d).2.2.1∧a6 w' C' c s sg b M.L me (al M me m t d).2.2.2) w):=by
 obtain⟨ph,pl,pe,pf,pa,pr,pi,pd,ps,sb,-,-,-,g3,-,-,-,-,-,-⟩:=h.ex
 obtain⟨bx,rfl,hfs⟩:=g3 h0
 have hmay:=hf.may
 have hlim:=hf.lim
 have hle:=hf.len
 have Li:=fun W C' (k1:aj W C' M m) (k2:aq W C' s sg M.L me t) (k3:dr W C' c sg bx M.L d.fast)=>zN hcs hs1 k1 k2 k3 (hf.fast h0) hle
 obtain⟨r,hr⟩:∃ r,aH M me m t d.fast=r:=⟨_,rfl⟩
 simp only[hr] at Li
 obtain⟨r1,m',t2,Lj⟩:=r
 have j5:=fun W C' (k1:aq W C' s sg M.L me t2) (k2:a6 W C' c s sg b M.L me { d with fast:=Lj })=>B5 hm.ok k1 k2 h0 hmay hlim
 have HST:Hid (al M me m t d=(false,m',t2,if r1 then aI.tried M.L me { d with fast:=Lj } else { d with fast:=Lj })):=Lib.hid (by unfold al;simp only;rw[if_neg (by rw[h0];decide)];rw[if_neg (by rw[h0];decide)];rw[if_neg (by rw[h0];decide)];rw[if_pos h0];simp only[hr])
 unfold eR at sb
 clear hr
 obtain⟨⟨rc,ro,rv⟩,slow,⟨sh,kind,key⟩,limit,at_,head,help,bm,fast,ann,find,drop,sweep⟩:=d
 simp only at sb h0 hfs HST j5 Li
 subst h0
 clear h hf hle hmay hlim
 go_enter Tryz.func62,Tryz.ntmps62
 have fr:=Fr.refl C (ef c s) iY w
 have ag:=aF.refl w.heap.size C
 go_wp2_with fail
 refine(Li _ _ hm hst hfs).mono ?_;clear hm hst hfs;rintro e w1 ⟨rfl,⟨C1,aG,hm,hst,hfs⟩,hf⟩
 revert sb;revert fr;revert ag;refine kV hf aG (fun _ h=>h) Ew ?_;clear hf aG;intro ag fr sb
 try dsimp only at hm hst hfs
 cases r1
 ·skip
  go_wp2_with fail
  go_end0
  exact⟨rfl,⟨_,ag,by rw[HST.out];exact hm,by rw[HST.out];exact⟨hst,.Lg sb rfl hfs⟩⟩,fr⟩
 ·skip
  go_wp2_with fail
  refine(j5 _ _ hst (.Lg sb rfl hfs)).mono ?_
  rintro e w9 ⟨rfl,⟨C9,dR,bP⟩,bV⟩
  have gp:=ag.trans dR fr.size
  replace fr:=fr.trans (bV.mono (aU c s) kI) ag
  replace hm:=hm.mv bV dR (.inr ⟨by decide,by decide⟩)
  replace hst:=hst.mv bV dR (.inr (by decide))
  go_wp2_with fail
  go_end0
  exact⟨rfl,⟨_,gp,by rw[HST.out];exact hm,by rw[HST.out];exact⟨hst,bP⟩⟩,fr⟩
end Go.Proofs.YtbcnnhlpilmmbaaGreat
