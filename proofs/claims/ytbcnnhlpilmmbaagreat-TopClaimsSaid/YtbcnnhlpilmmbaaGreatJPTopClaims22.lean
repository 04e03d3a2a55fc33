/- Texts that are wanted for PTopClaims.
   Conditions: none. -/
import Derived.WalkKit
import Derived.ProofKit
import Derived.OpenShut
import Derived.Below
import Derived.Deep.Slices
import Derived.Test.YtbcnnhlpilmmbaaGreatRows
import Derived.WalkSpells
import Derived.WalkLawsBesides
import Derived.Lib.Hide
import Derived.Deep.QuietTactic
import Derived.BigQuiet
import Derived.Deep.LoopGhost
import Derived.Deep.RegionHeld3
import Derived.Deep.AppendLies
import Derived.KernelRfl
import Derived.Test.YtbcnnhlpilmmbaaGreatJPTopClaims19
set_option maxRecDepth 100000
set_option maxHeartbeats 6400000
namespace Go.Proofs.YtbcnnhlpilmmbaaGreat
open Go Go.RowKit
variable {w:World} {C:Nat→Nat} {c s sg b:Nat} {M:ML} {m:Mm} {me:Int} {t:cg}
theorem EG {d:aI} (_:c≠s) (_:s≠1) (hm:aj w C M m) (hst:aq w C s sg M.L me t) (h:a6 w C c s sg b M.L me d) (hf:d.Fine M m t) (h0:d.at_=4):Calls Tryz.prog 63 #[.pointer (some ⟨b,0,none⟩),.pointer (some ⟨M.b,0,none⟩)] w (MV C c s iY (.bool (al M me m t d).1) M (al M me m t d).2.1 (fun w' C'=>aq w' C' s sg M.L me (al M me m t d).2.2.1∧a6 w' C' c s sg b M.L me (al M me m t d).2.2.2) w):=by
 obtain⟨ph,pl,pe,pf,pa,pr,pi,pd,ps,sb,-,-,-,-,g4,-,-,-,-,-⟩:=h.ex
 obtain⟨bx,rfl,han⟩:=g4 h0
 have hmay:=hf.may
 have hlim:=hf.lim
 have hle:=hf.len
 have Ll:=fun W C' (k1:aj W C' M m) (k2:kR W C' c bx M.L me d.ann)=>rF k1 k2 (hf.ann h0)
 obtain⟨r,hr⟩:∃ r,aZ M me m d.ann=r:=⟨_,rfl⟩
 simp only[hr] at Ll
 obtain⟨r1,m',Kk⟩:=r
 have HST:Hid (al M me m t d=(false,m',t,if r1 then { d with ann:=Kk,at_:=5,help:= .new M.L me Kk.no d.limit } else { d with ann:=Kk })):=Lib.hid (by unfold al;simp only;rw[if_neg (by rw[h0];decide)];rw[if_neg (by rw[h0];decide)];rw[if_neg (by rw[h0];decide)];rw[if_neg (by rw[h0];decide)];rw[if_pos h0];simp only[hr])
 unfold eR at sb
 clear hr
 obtain⟨⟨rc,ro,rv⟩,slow,⟨sh,kind,key⟩,limit,at_,head,help,bm,fast,ann,find,drop,sweep⟩:=d
 simp only at sb h0 han HST Ll
 subst h0
 clear h hf hle hmay hlim
 go_enter Tryz.func63,Tryz.ntmps63
 have fr:=Fr.refl C (ef c s) iY w
 have ag:=aF.refl w.heap.size C
 go_wp2_with fail
 refine(Ll _ _ hm han).mono ?_;clear hm han;rintro e w1 ⟨rfl,hm,han,hf⟩
 revert hst;revert sb;revert fr;refine eA hf (eW c s) Ex ag ?_;clear hf;intro fr sb hst
 try dsimp only at hm han
 cases r1
 ·skip
  go_wp2_with fail
  go_ret
  exact⟨by rw[HST.out];rfl,⟨_,ag,by rw[HST.out];exact hm,by rw[HST.out];exact⟨hst,.Mx sb rfl han⟩⟩,fr⟩
 ·skip
  obtain⟨⟨A,n,cap,hn,st,hrow⟩,hme,-,-⟩:=id hst
  clear hn hrow
  have AO:=han.blk
  go_wp2_with fail
  revert AO;revert st;revert han;revert hst;revert hm;revert sb;revert fr;refine bK ?_;intro fr sb hm hst han st AO
  obtain⟨q1,q2,q3,qi⟩:=db sb st AO
  refine a8 sb st AO 24 [] [0,1,2,3,4,5,6,7,8,9,10,11,12,13,14,15,16,17,18,19,20,21,22,23] [24,25,26,27,28,29,30] (by kernel_rfl) (by kernel_rfl) ?_
  refine af ?_;try simp only[ox]
  repeat(go_big_quiet_step (fail))
  refine wpQuiet_nil ?_
  refine ae _ _ _ (by kernel_rfl) ?_;try simp only[ox]
  clear qi q1 q2 q3
  go_wp2_with fail
  revert ag fr sb hm hst han st AO;refine gd (vr sg M.L s me Kk.no limit C c _) ?_;rintro w2 bp C2 ag fr jN sb hm hst han st AO
  have z1:=And.intro sb (And.intro st AO)
  revert fr jN hm hst han st AO;refine st1 sb 9 (.int .i64 5) (aU c s) ag ?_;clear sb;rintro w3 e1 fr sb jN hm hst han st AO
  simp only[sx] at sb
  have z2:=And.intro sb (And.intro st AO)
  revert fr jN hm hst han st AO;refine st1 sb 11 (.pointer (some ⟨bp,0,none⟩)) (aU c s) ag ?_;clear sb;rintro w4 e2 fr sb jN hm hst han st AO
  simp only[sx] at sb
  go_wp2_with fail
  refine NoPanic.normal ?_
  go_wp2_with fail
  clear z1 e1 z2 e2
  go_ret
  exact⟨by rw[HST.out];rfl,⟨_,ag,by rw[HST.out];exact hm,by rw[HST.out];exact⟨hst,.My sb rfl jN⟩⟩,fr⟩
theorem EH {d:aI} (hcs:c≠s) (hs1:s≠1) (hm:aj w C M m) (hst:aq w C s sg M.L me t) (h:a6 w C c s sg b M.L me d) (hf:d.Fine M m t) (h0:d.at_=5):Calls Tryz.prog 63 #[.pointer (some ⟨b,0,none⟩),.pointer (some ⟨M.b,0,none⟩)] w (MV C c s iY (.bool (al M me m t d).1) M (al M me m t d).2.1 (fun w' C'=>aq w' C' s sg M.L me (al M me m t d).2.2.1∧a6 w' C' c s sg b M.L me (al M me m t d).2.2.2) w):=by
 obtain⟨ph,pl,pe,pf,pa,pr,pi,pd,ps,sb,-,-,-,-,-,g5,-,-,-,-⟩:=h.ex
 obtain⟨bx,rfl,jN⟩:=g5 h0
 have hmay:=hf.may
 have hlim:=hf.lim
 have hle:=hf.len
 have Gv:=fun W C' (k1:aj W C' M m) (k2:aq W C' s sg M.L me t) (k3:bI W C' c s sg bx M.L d.help)=>si hcs hs1 k1 k2 k3 hle (hf.help (.inr h0))
 obtain⟨r,hr⟩:∃ r,ah M me m t d.help=r:=⟨_,rfl⟩
 simp only[hr] at Gv
 obtain⟨r1,m',t2,hp2⟩:=r
 have HST:Hid (al M me m t d=(false,m',t2,if r1 then { d with help:=hp2,at_:=6 } else { d with help:=hp2 })):=Lib.hid (by unfold al;simp only;rw[if_neg (by rw[h0];decide)];rw[if_neg (by rw[h0];decide)];rw[if_neg (by rw[h0];decide)];rw[if_neg (by rw[h0];decide)];rw[if_neg (by rw[h0];decide)];rw[if_pos h0];simp only[hr])
 unfold eR at sb
 clear hr
 obtain⟨⟨rc,ro,rv⟩,slow,⟨sh,kind,key⟩,limit,at_,head,help,bm,fast,ann,find,drop,sweep⟩:=d
 simp only at sb h0 jN HST Gv
 subst h0
 clear h hf hle hmay hlim
 go_enter Tryz.func63,Tryz.ntmps63
 have fr:=Fr.refl C (ef c s) iY w
 have ag:=aF.refl w.heap.size C
 go_wp2_with fail
 refine(Gv _ _ hm hst jN).mono ?_;clear hm hst jN;rintro e w1 ⟨rfl,⟨C1,aG,hm,hst,jN⟩,hf⟩
 revert sb;revert fr;revert ag;refine kV hf aG (fun _ h=>h) yP ?_;clear hf aG;intro ag fr sb
 try dsimp only at hm hst jN
 cases r1
 ·skip
  go_wp2_with fail
  go_ret
  exact⟨by rw[HST.out];rfl,⟨_,ag,by rw[HST.out];exact hm,by rw[HST.out];exact⟨hst,.My sb rfl jN⟩⟩,fr⟩
 ·skip
  obtain⟨⟨A,n,cap,hn,st,hrow⟩,hme,-,-⟩:=id hst
  clear hn hrow
  go_wp2_with fail
  revert st;revert jN;revert hst;revert hm;revert sb;revert fr;refine bK ?_;intro fr sb hm hst jN st
  obtain⟨q1,q2,qi⟩:=bD sb st
  refine aC sb st 16 [] [0,1,2,3,4,5,6,7,8,9,10,11,12,13,14,15] [16,17,18,19,20,21,22] (by kernel_rfl) (by kernel_rfl) ?_
  refine af ?_;try simp only[ox]
  repeat(go_big_quiet_step (fail))
  refine wpQuiet_nil ?_
  refine ae _ _ _ (by kernel_rfl) ?_;try simp only[ox]
  clear qi q1 q2
  go_wp2_with fail
  revert ag fr sb hm hst jN st;refine gd (xU M.L me hme C1 c _) ?_;rintro w2 ba C2 ag fr has sb hm hst jN st
  have z1:=And.intro sb st
  revert fr has hm hst jN st;refine st1 sb 9 (.int .i64 6) (aU c s) ag ?_;clear sb;rintro w3 e1 fr sb has hm hst jN st
  simp only[sx] at sb
  have z2:=And.intro sb st
  revert fr has hm hst jN st;refine st1 sb 15 (.pointer (some ⟨ba,0,none⟩)) (aU c s) ag ?_;clear sb;rintro w4 e2 fr sb has hm hst jN st
  simp only[sx] at sb
  go_wp2_with fail
  refine NoPanic.normal ?_
  go_wp2_with fail
  clear z1 e1 z2 e2
  go_ret
  exact⟨by rw[HST.out];rfl,⟨_,ag,by rw[HST.out];exact hm,by rw[HST.out];exact⟨hst,.NG sb rfl ⟨_,has⟩⟩⟩,fr⟩
theorem EI {d:aI} (_:c≠s) (_:s≠1) (hm:aj w C M m) (hst:aq w C s sg M.L me t) (h:a6 w C c s sg b M.L me d) (hf:d.Fine M m t) (h0:d.at_=6):Calls Tryz.prog 63 #[.pointer (some ⟨b,0,none⟩),.pointer (some ⟨M.b,0,none⟩)] w (MV C c s iY (.bool (al M me m t d).1) M (al M me m t d).2.1 (fun w' C'=>aq w' C' s sg M.L me (al M me m t d).2.2.1∧a6 w' C' c s sg b M.L me (al M me m t d).2.2.2) w):=by
 obtain⟨ph,pl,pe,pf,pa,pr,pi,pd,ps,sb,-,-,-,-,-,-,g6,-,-,-⟩:=h.ex
 obtain⟨bx,rfl,Lm⟩:=g6 h0
 have hmay:=hf.may
 have hlim:=hf.lim
 have hle:=hf.len
 obtain⟨r0,has⟩:=Lm
 obtain⟨q,hq⟩:∃ q,(getD' (ld M m (M.L.desc me))).res=q:=⟨_,rfl⟩
 have HAS:=fun W C' (k1:aj W C' M m) (k2:pW W C' c bx M.L me r0)=>vz k1 k2
 have j5:=fun W C' (k1:aq W C' s sg M.L me t) (k2:eR W C' c sg b ph pl pe pf pa (.pointer (some ⟨bx,0,none⟩)) pi pd ps d)=>yO hm.ok k1 k2 hmay hlim q
 simp only[hq] at HAS
 have HST:Hid (al M me m t d=(false,m,t,d.told M.L me q)):=Lib.hid (by unfold al;simp only;rw[if_neg (by rw[h0];decide)];rw[if_neg (by rw[h0];decide)];rw[if_neg (by rw[h0];decide)];rw[if_neg (by rw[h0];decide)];rw[if_neg (by rw[h0];decide)];rw[if_neg (by rw[h0];decide)];rw[if_pos h0];rw[hq])
 unfold eR at sb
 clear hq
 obtain⟨⟨rc,ro,rv⟩,slow,⟨sh,kind,key⟩,limit,at_,head,help,bm,fast,ann,find,drop,sweep⟩:=d
 simp only at sb h0 has HST j5 HAS
 subst h0
 clear h hf hle hmay hlim
 obtain⟨qc,qo,qv⟩:=q
 go_enter Tryz.func63,Tryz.ntmps63
 have fr:=Fr.refl C (ef c s) iY w
 have ag:=aF.refl w.heap.size C
 go_wp2_with fail
 refine(HAS _ _ hm has).mono ?_;clear hm has;rintro e w1 ⟨rfl,hm,has,hf⟩
 revert hst;revert sb;revert fr;refine eA hf (eW c s) Ey ag ?_;clear hf;intro fr sb hst
 have Om:=has.blk
 go_wp2_with fail
 refine(j5 _ _ hst sb).mono ?_
 rintro e w9 ⟨rfl,⟨C9,dR,bP⟩,bV⟩
 have gp:=ag.trans dR fr.size
 replace fr:=fr.trans (bV.mono (aU c s) kI) ag
 replace hm:=hm.mv bV dR (.inr ⟨by decide,by decide⟩)
 replace hst:=hst.mv bV dR (.inr (by decide))
 go_wp2_with fail
 go_ret
 exact⟨by rw[HST.out];rfl,⟨_,gp,by rw[HST.out];exact hm,by rw[HST.out];exact⟨hst,bP⟩⟩,fr⟩
theorem EJ {d:aI} (hcs:c≠s) (hs1:s≠1) (hm:aj w C M m) (hst:aq w C s sg M.L me t) (h:a6 w C c s sg b M.L me d) (hf:d.Fine M m t) (h0:d.at_=7):Calls Tryz.prog 63 #[.pointer (some ⟨b,0,none⟩),.pointer (some ⟨M.b,0,none⟩)] w (MV C c s iY (.bool (al M me m t d).1) M (al M me m t d).2.1 (fun w' C'=>aq w' C' s sg M.L me (al M me m t d).2.2.1∧a6 w' C' c s sg b M.L me (al M me m t d).2.2.2) w):=by
 obtain⟨ph,pl,pe,pf,pa,pr,pi,pd,ps,sb,-,-,-,-,-,-,-,g7,-,-⟩:=h.ex
 obtain⟨bx,rfl,hfi⟩:=g7 h0
 have hmay:=hf.may
 have hlim:=hf.lim
 have hle:=hf.len
 have hKs:¬ Kc c s:=fun e=>e.elim (fun e=>hcs e.symm) hs1
 have hKf:¬ K0 s c:=fun e=>hcs e
 have hfin:=hf.find h0
 have BX:=fun W C' (k1:aj W C' M m) (k2:ff W C' c bx M.L d.find)=>m8 k1 k2 hfin.1 hfin.2.1
 obtain⟨r,hr⟩:∃ r,aw M m d.find=r:=⟨_,rfl⟩
 have fp:=hfin.2.2
 simp only[hr] at BX fp
 obtain⟨r1,m',bU⟩:=r
 have j5:=fun W C' (k1:aq W C' s sg M.L me (t.retire bU.aO)) (k2:eR W C' c sg b ph pl pe pf pa pr (.pointer (some ⟨bx,0,none⟩)) pd ps { d with find:=bU })=>mq hm.ok k1 k2 hmay hlim
 have HST:Hid (al M me m t d=if r1 then (false,m',t.retire bU.aO,aI.leave me { d with find:=bU }) else (false,m',t,{ d with find:=bU })):=Lib.hid (by unfold al;simp only;rw[if_neg (by rw[h0];decide)];rw[if_neg (by rw[h0];decide)];rw[if_neg (by rw[h0];decide)];rw[if_neg (by rw[h0];decide)];rw[if_neg (by rw[h0];decide)];rw[if_neg (by rw[h0];decide)];rw[if_neg (by rw[h0];decide)];rw[if_pos h0];simp only[hr])
 have hu2:=fp.aO
 have zv:=Lib.hid hu2.1
 have hle2:bU.aO.length≤100000:=by have:=hu2.2;simp only at this;omega
 have hle':t.ret.length≤98000:=hle
 unfold eR at sb
 clear hr hu2 hfin fp
 obtain⟨⟨rc,ro,rv⟩,slow,⟨sh,kind,key⟩,limit,at_,head,help,bm,fast,ann,find,drop,sweep⟩:=d
 simp only at sb h0 hfi HST j5 BX
 subst h0
 clear h hf hle hmay hlim
 go_enter Tryz.func63,Tryz.ntmps63
 have fr:=Fr.refl C (ef c s) iY w
 have ag:=aF.refl w.heap.size C
 go_wp2_with fail
 refine(BX _ _ hm hfi).mono ?_;clear hm hfi;rintro e w1 ⟨rfl,⟨C1,aG,hm,hfi⟩,hf⟩
 replace hst:=hst.mv hf aG (.inl hKs)
 revert sb;revert fr;revert ag;refine kV hf aG (eW c s) Ez ?_;clear hf aG;intro ag fr sb
 try dsimp only at hm hfi
 cases r1
 ·skip
  go_wp2_with fail
  go_ret
  exact⟨by rw[HST.out];rfl,⟨_,ag,by rw[HST.out];exact hm,by rw[HST.out];exact⟨hst,.Mz sb rfl hfi⟩⟩,fr⟩
 ·skip
  obtain⟨pc1,hfc,-⟩:=id hfi.ex
  obtain⟨A1,n1,cap1,hn1,fi,hrow1⟩:=hfc.ex
  have u4:=Lib.hid hn1
  have iG:n1≤100000:=by omega
  have hsl:=Sl.de hrow1.own
  clear hn1 hrow1 hfc
  go_wp2_with fail
  revert fi;revert hfi;revert hst;revert hm;revert sb;revert fr;refine bK ?_;intro fr sb hm hst hfi fi
  obtain⟨q1,q2,qi⟩:=bD sb fi
  refine aC sb fi 11 [] [0,1,2,3,4,5,6,7,8,9,10] [11] (by kernel_rfl) (by kernel_rfl) ?_
  refine af ?_;try simp only[ox]
  repeat(go_big_quiet_step (fail))
  refine wpQuiet_nil ?_
  refine ae _ _ _ (by kernel_rfl) ?_;try simp only[ox]
  clear qi q1 q2
  go_wp2_with fail
  have hsl2:=hsl.step (Nat.le_refl _) (Below.refl w1.heap.size w1).drew
  refine(cE hst bU.aO A1 n1 cap1 _ hsl2 u4.out (by omega) iG zv.out).mono ?_;clear hst;rintro e w2 ⟨rfl,⟨C2,aG,hst⟩,hf⟩
  replace hfi:=hfi.mv hf aG (.inl hKf)
  revert ag fr sb hm fi;refine kV hf aG (eP c s) EC ?_;clear hf aG;intro ag fr sb hm fi
  clear hsl hsl2
  go_wp2_with fail
  refine NoPanic.normal ?_
  go_wp2_with fail
  refine(j5 _ _ hst sb).mono ?_
  rintro e w9 ⟨rfl,⟨C9,dR,bP⟩,bV⟩
  have gp:=ag.trans dR fr.size
  replace fr:=fr.trans (bV.mono (aU c s) kI) ag
  replace hm:=hm.mv bV dR (.inr ⟨by decide,by decide⟩)
  replace hst:=hst.mv bV dR (.inr (by decide))
  go_wp2_with fail
  go_ret
  exact⟨by rw[HST.out];rfl,⟨_,gp,by rw[HST.out];exact hm,by rw[HST.out];exact⟨hst,bP⟩⟩,fr⟩
theorem EK {d:aI} (_:c≠s) (_:s≠1) (hm:aj w C M m) (hst:aq w C s sg M.L me t) (h:a6 w C c s sg b M.L me d) (hf:d.Fine M m t) (h0:d.at_=8):Calls Tryz.prog 63 #[.pointer (some ⟨b,0,none⟩),.pointer (some ⟨M.b,0,none⟩)] w (MV C c s iY (.bool (al M me m t d).1) M (al M me m t d).2.1 (fun w' C'=>aq w' C' s sg M.L me (al M me m t d).2.2.1∧a6 w' C' c s sg b M.L me (al M me m t d).2.2.2) w):=by
 obtain⟨ph,pl,pe,pf,pa,pr,pi,pd,ps,sb,-,-,-,-,-,-,-,-,g8,-⟩:=h.ex
 obtain⟨bx,rfl,hgc⟩:=g8 h0
 have hmay:=hf.may
 have hlim:=hf.lim
 have hle:=hf.len
 have Ln:=fun W C' (k1:aj W C' M m) (k2:oR W C' c bx M.L d.drop)=>nY k1 k2 (hf.drop h0)
 have MD:=fun W C' (k1:aq W C' s sg M.L me t)=>xg hm.ok k1
 obtain⟨r,hr⟩:∃ r,ei M m d.drop=r:=⟨_,rfl⟩
 simp only[hr] at Ln
 obtain⟨r1,m',ME⟩:=r
 obtain⟨fu,hfu⟩:∃ fu,uM M.L t=fu:=⟨_,rfl⟩
 have HST:Hid (al M me m t d=if r1 then (!fu,m',t,{ d with drop:=ME,at_:=9,sweep:=none }) else (false,m',t,{ d with drop:=ME })):=Lib.hid (by unfold al;simp only;rw[if_neg (by rw[h0];decide)];rw[if_neg (by rw[h0];decide)];rw[if_neg (by rw[h0];decide)];rw[if_neg (by rw[h0];decide)];rw[if_neg (by rw[h0];decide)];rw[if_neg (by rw[h0];decide)];rw[if_neg (by rw[h0];decide)];rw[if_neg (by rw[h0];decide)];rw[if_pos h0];simp only[hr,hfu])
 simp only[hfu] at MD
 unfold eR at sb
 clear hr hfu
 obtain⟨⟨rc,ro,rv⟩,slow,⟨sh,kind,key⟩,limit,at_,head,help,bm,fast,ann,find,drop,sweep⟩:=d
 simp only at sb h0 hgc HST Ln
 subst h0
 clear h hf hle hmay hlim
 go_enter Tryz.func63,Tryz.ntmps63
 have fr:=Fr.refl C (ef c s) iY w
 have ag:=aF.refl w.heap.size C
 go_wp2_with fail
 refine(Ln _ _ hm hgc).mono ?_;clear hm hgc;rintro e w1 ⟨rfl,hm,hgc,hf⟩
 revert hst;revert sb;revert fr;refine eA hf (eW c s) EA ag ?_;clear hf;intro fr sb hst
 try dsimp only at hm hgc
 cases r1
 ·skip
  go_wp2_with fail
  go_ret
  exact⟨by rw[HST.out];rfl,⟨_,ag,by rw[HST.out];exact hm,by rw[HST.out];exact⟨hst,.MA sb rfl hgc⟩⟩,fr⟩
 ·skip
  go_wp2_with fail
  revert hgc;revert hst;revert hm;revert sb;revert fr;revert ag;refine gd (fV sg M.L s C c _) ?_;rintro w2 bw C2 ag fr hsw sb hm hst hgc
  have z1:=sb
  revert fr hsw hm hst hgc;refine st1 sb 9 (.int .i64 9) (aU c s) ag ?_;clear sb;rintro w3 e1 fr sb hsw hm hst hgc
  simp only[sx] at sb
  have z2:=sb
  revert fr hsw hm hst hgc;refine st1 sb 18 (.pointer (some ⟨bw,0,none⟩)) (aU c s) ag ?_;clear sb;rintro w4 e2 fr sb hsw hm hst hgc
  simp only[sx] at sb
  go_wp2_with fail
  clear z1 e1 z2 e2
  refine(MD _ _ hst).mono ?_;rintro e w5 ⟨rfl,hb5⟩
  revert fr hsw hm hst hgc sb;refine eH hb5 ?_;intro fr hsw hm hst hgc sb
  go_wp2_with fail
  go_ret
  exact⟨by rw[HST.out];rfl,⟨_,ag,by rw[HST.out];exact hm,by rw[HST.out];exact⟨hst,.MB sb rfl hsw⟩⟩,fr⟩
theorem EL {d:aI} (_:c≠s) (_:s≠1) (hm:aj w C M m) (hst:aq w C s sg M.L me t) (h:a6 w C c s sg b M.L me d) (hf:d.Fine M m t) (h0:d.at_=9):Calls Tryz.prog 63 #[.pointer (some ⟨b,0,none⟩),.pointer (some ⟨M.b,0,none⟩)] w (MV C c s iY (.bool (al M me m t d).1) M (al M me m t d).2.1 (fun w' C'=>aq w' C' s sg M.L me (al M me m t d).2.2.1∧a6 w' C' c s sg b M.L me (al M me m t d).2.2.2) w):=by
 obtain⟨ph,pl,pe,pf,pa,pr,pi,pd,ps,sb,-,-,-,-,-,-,-,-,-,g9⟩:=h.ex
 obtain⟨bx,rfl,hsw⟩:=g9 h0
 have hmay:=hf.may
 have hlim:=hf.lim
 have hle:=hf.len
 have Fk:=fun W C' (k1:aj W C' M m) (k2:aq W C' s sg M.L me t) (k3:jU W C' c s sg bx M.L d.sweep)=>o3 k1 k2 k3 (by omega)
 obtain⟨r,hr⟩:∃ r,a7 M m t d.sweep=r:=⟨_,rfl⟩
 simp only[hr] at Fk
 obtain⟨r1,m',t2,NH⟩:=r
 have HST:Hid (al M me m t d=(r1,m',t2,{ d with sweep:=NH })):=Lib.hid (by unfold al;simp only;rw[if_neg (by rw[h0];decide)];rw[if_neg (by rw[h0];decide)];rw[if_neg (by rw[h0];decide)];rw[if_neg (by rw[h0];decide)];rw[if_neg (by rw[h0];decide)];rw[if_neg (by rw[h0];decide)];rw[if_neg (by rw[h0];decide)];rw[if_neg (by rw[h0];decide)];rw[if_neg (by rw[h0];decide)];simp only[hr])
 unfold eR at sb
 clear hr
 obtain⟨⟨rc,ro,rv⟩,slow,⟨sh,kind,key⟩,limit,at_,head,help,bm,fast,ann,find,drop,sweep⟩:=d
 simp only at sb h0 hsw HST Fk
 subst h0
 clear h hf hle hmay hlim
 go_enter Tryz.func63,Tryz.ntmps63
 have fr:=Fr.refl C (ef c s) iY w
 have ag:=aF.refl w.heap.size C
 go_wp2_with fail
 refine(Fk _ _ hm hst hsw).mono ?_;clear hm hst hsw;rintro e w1 ⟨rfl,⟨C1,aG,hm,hst,hsw⟩,hf⟩
 revert sb;revert fr;revert ag;refine kV hf aG (fun _ h=>h) EB ?_;clear hf aG;intro ag fr sb
 try dsimp only at hm hst hsw
 go_wp2_with fail
 go_ret
 exact⟨by rw[HST.out];rfl,⟨_,ag,by rw[HST.out];exact hm,by rw[HST.out];exact⟨hst,.MB sb rfl hsw⟩⟩,fr⟩
theorem zU {d:aI} (h:a6 w C c s sg b M.L me d) (hmay:d.task.may=true) (hq0:0≤d.at_) (hq:d.at_≤3) (HB:∀ W,Below w.heap.size w W→Calls Tryz.prog 62 #[.pointer (some ⟨b,0,none⟩),.pointer (some ⟨M.b,0,none⟩)] W (MV C c s iY (.tuple #[]) M (al M me m t d).2.1 (fun w' C'=>aq w' C' s sg M.L me (al M me m t d).2.2.1∧a6 w' C' c s sg b M.L me (al M me m t d).2.2.2) W)):Calls Tryz.prog 52 #[.pointer (some ⟨b,0,none⟩),.pointer (some ⟨M.b,0,none⟩)] w (MV C c s iY (.bool (al M me m t d).1) M (al M me m t d).2.1 (fun w' C'=>aq w' C' s sg M.L me (al M me m t d).2.2.1∧a6 w' C' c s sg b M.L me (al M me m t d).2.2.2) w):=by
 obtain⟨ph,pl,pe,pf,pa,pr,pi,pd,ps,sb,-⟩:=h.ex
 have hr1:(al M me m t d).1=false:=by
  unfold al;simp only
  rcases(by omega:d.at_=0∨d.at_=1∨d.at_=2∨d.at_=3) with h0 | h0 | h0 | h0
  ·rw[if_pos h0]
  ·rw[if_neg (by omega),if_pos h0]
  ·rw[if_neg (by omega),if_neg (by omega),if_pos h0]
  ·rw[if_neg (by omega),if_neg (by omega),if_neg (by omega),if_pos h0]
 obtain⟨r,hr⟩:∃ r,al M me m t d=r:=⟨_,rfl⟩
 rw[hr] at HB hr1⊢
 have HR:∀ W,Calls Tryz.prog 57 #[.int .i64 d.task.sh,.agg #[.int .i64 d.task.kind,.int .i64 d.task.key]] W fun e w'=>e= .returned (.bool true)∧Below W.heap.size W w':=fun W=>(bY d.task.sh d.task.kind d.task.key W).mono fun e w' h=>⟨h.1.trans (by rw[show Proofs.YtbcnnhlpilmmbaaGreat.may d.task.sh ⟨d.task.kind,d.task.key⟩=true from hmay]),h.2⟩
 have dq:decide (d.at_<4)=true:=decide_eq_true (by omega)
 unfold eR at sb
 clear hr h hmay
 rw[hr1]
 obtain⟨⟨rc,ro,rv⟩,slow,⟨sh,kind,key⟩,limit,at_,head,help,bm,fast,ann,find,drop,sweep⟩:=d
 simp only at sb HR dq hq
 go_enter Tryz.func52,Tryz.ntmps52
 have fr:=Fr.refl C (fun _=>False) [] w
 have ag:=aF.refl w.heap.size C
 go_wp2_with fail
 revert sb;revert fr;refine bK ?_;intro fr sb
 obtain⟨q1,qi⟩:=aY sb
 refine ax sb 10 [] [0,1,2,3,4,5,6,7,8,9] [10,11] (by kernel_rfl) (by kernel_rfl) ?_
 refine af ?_;try simp only[ox]
 repeat(go_big_quiet_step (fail))
 refine wpQuiet_nil ?_
 refine ae _ _ _ (by kernel_rfl) ?_;try simp only[ox]
 clear qi q1
 go_wp2_with fail
 refine(HR _).mono ?_
 rintro e w2 ⟨rfl,hb2⟩
 replace fr:=fr.step hb2
 replace sb:=sb.step hb2
 have hc:=sb.blk.cells
 have hfz:=sb.blk.frees
 go_wp2_with fail
 refine NoPanic.normal ?_
 go_wp2_with fail
 refine(HB w2 fr.cr).mono ?_
 rintro e w9 ⟨rfl,⟨C9,dR,jM,bP⟩,bV⟩
 have hbl:=fr.cr
 go_wp2_with fail
 go_ret
 exact⟨rfl,⟨C9,fun g hg=>dR g (Nat.lt_of_lt_of_le hg hbl.size),jM,bP⟩,(Fr.of_below hbl C (ef c s) iY).fw bV⟩
theorem zV {d:aI} (h:a6 w C c s sg b M.L me d) (hmay:d.task.may=true) (hq:4≤d.at_) (HB:∀ W,Below w.heap.size w W→Calls Tryz.prog 63 #[.pointer (some ⟨b,0,none⟩),.pointer (some ⟨M.b,0,none⟩)] W (MV C c s iY (.bool (al M me m t d).1) M (al M me m t d).2.1 (fun w' C'=>aq w' C' s sg M.L me (al M me m t d).2.2.1∧a6 w' C' c s sg b M.L me (al M me m t d).2.2.2) W)):Calls Tryz.prog 52 #[.pointer (some ⟨b,0,none⟩),.pointer (some ⟨M.b,0,none⟩)] w (MV C c s iY (.bool (al M me m t d).1) M (al M me m t d).2.1 (fun w' C'=>aq w' C' s sg M.L me (al M me m t d).2.2.1∧a6 w' C' c s sg b M.L me (al M me m t d).2.2.2) w):=by
 obtain⟨ph,pl,pe,pf,pa,pr,pi,pd,ps,sb,-⟩:=h.ex
 obtain⟨r,hr⟩:∃ r,al M me m t d=r:=⟨_,rfl⟩
 rw[hr] at HB⊢
 have HR:∀ W,Calls Tryz.prog 57 #[.int .i64 d.task.sh,.agg #[.int .i64 d.task.kind,.int .i64 d.task.key]] W fun e w'=>e= .returned (.bool true)∧Below W.heap.size W w':=fun W=>(bY d.task.sh d.task.kind d.task.key W).mono fun e w' h=>⟨h.1.trans (by rw[show Proofs.YtbcnnhlpilmmbaaGreat.may d.task.sh ⟨d.task.kind,d.task.key⟩=true from hmay]),h.2⟩
 have dq:decide (d.at_<4)=false:=decide_eq_false (by omega)
 unfold eR at sb
 clear hr h hmay
 obtain⟨⟨rc,ro,rv⟩,slow,⟨sh,kind,key⟩,limit,at_,head,help,bm,fast,ann,find,drop,sweep⟩:=d
 simp only at sb HR dq hq
 go_enter Tryz.func52,Tryz.ntmps52
 have fr:=Fr.refl C (fun _=>False) [] w
 have ag:=aF.refl w.heap.size C
 go_wp2_with fail
 revert sb;revert fr;refine bK ?_;intro fr sb
 obtain⟨q1,qi⟩:=aY sb
 refine ax sb 10 [] [0,1,2,3,4,5,6,7,8,9] [10,11] (by kernel_rfl) (by kernel_rfl) ?_
 refine af ?_;try simp only[ox]
 repeat(go_big_quiet_step (fail))
 refine wpQuiet_nil ?_
 refine ae _ _ _ (by kernel_rfl) ?_;try simp only[ox]
 clear qi q1
 go_wp2_with fail
 refine(HR _).mono ?_
 rintro e w2 ⟨rfl,hb2⟩
 replace fr:=fr.step hb2
 replace sb:=sb.step hb2
 have hc:=sb.blk.cells
 have hfz:=sb.blk.frees
 go_wp2_with fail
 refine NoPanic.normal ?_
 go_wp2_with fail
 refine(HB w2 fr.cr).mono ?_
 rintro e w9 ⟨rfl,⟨C9,dR,jM,bP⟩,bV⟩
 have hbl:=fr.cr
 go_wp2_with fail
 go_ret
 exact⟨rfl,⟨C9,fun g hg=>dR g (Nat.lt_of_lt_of_le hg hbl.size),jM,bP⟩,(Fr.of_below hbl C (ef c s) iY).fw bV⟩
theorem tU {d:aI} (hcs:c≠s) (hs1:s≠1) (hm:aj w C M m) (hst:aq w C s sg M.L me t) (h:a6 w C c s sg b M.L me d) (hf:d.Fine M m t):Calls Tryz.prog 52 #[.pointer (some ⟨b,0,none⟩),.pointer (some ⟨M.b,0,none⟩)] w (MV C c s iY (.bool (al M me m t d).1) M (al M me m t d).2.1 (fun w' C'=>aq w' C' s sg M.L me (al M me m t d).2.2.1∧a6 w' C' c s sg b M.L me (al M me m t d).2.2.2) w):=by
 have hat:=hf.at_
 by_cases hq:d.at_≤3
 ·refine zU h hf.may hat.1 hq (fun W hb=> ?_)
  have hm':=hm.step hb
  have hst':=hst.step hb
  have h':=h.step hb
  rcases(by omega:d.at_=0∨d.at_=1∨d.at_=2∨d.at_=3) with h0 | h0 | h0 | h0
  ·exact zP hcs hs1 hm' hst' h' hf h0
  ·exact zQ hcs hs1 hm' hst' h' hf h0
  ·exact zS hcs hs1 hm' hst' h' hf h0
  ·exact zT hcs hs1 hm' hst' h' hf h0
 ·refine zV h hf.may (by omega) (fun W hb=> ?_)
  have hm':=hm.step hb
  have hst':=hst.step hb
  have h':=h.step hb
  rcases(by omega:d.at_=4∨d.at_=5∨d.at_=6∨d.at_=7∨d.at_=8∨d.at_=9) with h0 | h0 | h0 | h0 | h0 | h0
  ·exact EG hcs hs1 hm' hst' h' hf h0
  ·exact EH hcs hs1 hm' hst' h' hf h0
  ·exact EI hcs hs1 hm' hst' h' hf h0
  ·exact EJ hcs hs1 hm' hst' h' hf h0
  ·exact EK hcs hs1 hm' hst' h' hf h0
  ·exact EL hcs hs1 hm' hst' h' hf h0
open Go Go.RowKit Go.ChangeShapes Go.WideShapes Go.ChangeAt Go.Deep
def p9 (P:Program) (zW:TypeId→Option (List (Option IntKind))):List Field→Nat→Option (List (Option IntKind))
 | [],_=>some []
 | f::fs,off=>
  match zW f.type,decide (f.offset=off) with
  | some a,true=>if a.length=P.cellsOf f.type then (match p9 P zW fs (off+a.length) with | some b=>some (a++b) | none=>none) else none
  | _,_=>none
def gq (a:List (Option IntKind)):Nat→List (Option IntKind)
 | 0=>[]
 | n+1=>a++gq a n
def flatK (P:Program):Nat→TypeId→Option (List (Option IntKind))
 | 0,_=>none
 | n+1,t=>
  match P.underlying t with
  | some (.int k)=>some [some k]
  | some .bool=>some [none]
  | some (.struct fs)=>(match p9 P (flatK P n) fs.toList 0 with | some a=>if a.length=P.cellsOf t then some a else none | none=>none)
  | some (.array m e)=>(match flatK P n e with | some a=>if a.length=P.cellsOf e∧(gq a m).length=P.cellsOf t then some (gq a m) else none | none=>none)
  | _=>none
def Cu:Option IntKind→Value→Prop
 | none,v=>∃ b,v= .bool b
 | some k,v=>∃ n,v= .int k n∧(Lit.int k n).wf=true
def dK:List (Option IntKind)→List Value→Prop
 | [],[]=>True
 | k::ks,v::vs=>Cu k v∧dK ks vs
 | _,_=>False
theorem dK.append:∀ {a b:List (Option IntKind)} {x y:List Value},dK a x→dK b y→dK (a++b) (x++y)
 | [],_,[],_,_,h=>h
 | _::_,_,_::_,_,h,h'=>⟨h.1,dK.append h.2 h'⟩
section
variable {H:Type} {enc:TypeId×Value→H} {P:Program} {w:World} {base:Nat} {spare:Nat→Bool} {held:Bool}
theorem nO {n:Nat} {cs:List Value} (zW:TypeId→Option (List (Option IntKind))) (hrec:∀ t ks cs' y,zW t=some ks→DataW.trod enc P w base spare held n t cs'=some y→dK ks cs'):
  ∀ (fs:List Field) (off:Nat) (ks:List (Option IntKind)),p9 P zW fs off=some ks→(∀ f∈fs,∃ y,DataW.trod enc P w base spare held n f.type ((cs.drop f.offset).take (P.cellsOf f.type))=some y)→
   dK ks ((cs.drop off).take ks.length)
 | [],off,ks,h,_=>by simp[p9] at h;subst h;simp[dK]
 | f::fs,off,ks,h,hf=>by
  unfold p9 at h
  split at h
  ·rename_i a ha ho
   have ho':f.offset=off:=by simpa using ho
   split at h
   ·rename_i hal
    split at h
    ·rename_i b hb
     injection h with h
     subst h
     obtain⟨y,hy⟩:=hf f (List.mem_cons_self ..)
     have h1:=hrec _ _ _ _ ha hy
     have h2:=nO zW hrec fs (off+a.length) b hb (fun g hg=>hf g (List.mem_cons_of_mem _ hg))
     rw[ho',←hal] at h1
     have e:(cs.drop off).take (a++b).length=(cs.drop off).take a.length++(cs.drop (off+a.length)).take b.length:=by
      rw[List.length_append,List.take_add,List.drop_drop]
     rw[e]
     exact dK.append h1 h2
    ·cases h
   ·cases h
  ·cases h
theorem mC {cs:List Value} {a:List (Option IntKind)} (sz:Nat) (hsz:a.length=sz):∀ (m i:Nat),(∀ j,i≤j→j<i+m→dK a ((cs.drop (j*sz)).take sz))→dK (gq a m) ((cs.drop (i*sz)).take (gq a m).length)
 | 0,_,_=>by simp[gq,dK]
 | m+1,i,h=>by
  have h1:=h i (Nat.le_refl _) (by omega)
  have h2:=mC sz hsz m (i+1) (fun j hj hj'=>h j (by omega) (by omega))
  have e:(cs.drop (i*sz)).take (gq a (m+1)).length=(cs.drop (i*sz)).take sz++(cs.drop ((i+1)*sz)).take (gq a m).length:=by
   simp only[gq,List.length_append,hsz]
   rw[List.take_add,List.drop_drop,Nat.add_mul,Nat.one_mul]
  rw[e]
  exact dK.append h1 h2
theorem lJ:∀ (f n:Nat) (t:TypeId) (ks:List (Option IntKind)) (cs:List Value) (y:DataW H×List MemPlace),flatK P f t=some ks→DataW.trod enc P w base spare held n t cs=some y→dK ks cs
 | 0,_,_,_,_,_,h,_=>by simp[flatK] at h
 | f+1,n,t,ks,cs,y,h,hy=>by
  unfold flatK at h
  split at h
  ·rename_i k hu
   injection h with h;subst h
   obtain⟨x,rfl,_,hw⟩:=DataW.trod_int hu hy
   exact⟨⟨x,rfl,hw⟩,trivial⟩
  ·rename_i hu
   injection h with h;subst h
   obtain⟨b,rfl,_⟩:=DataW.trod_bool hu hy
   exact⟨⟨b,rfl⟩,trivial⟩
  ·rename_i fs hu
   split at h
   ·rename_i a ha
    split at h
    ·rename_i hal
     injection h with h;subst h
     obtain⟨xs,m,_,_,hlen,hxl,hf⟩:=DataW.trod_struct hu hy
     have:=nO (cs:=cs) (flatK P f) (fun t ks cs' y h1 h2=>lJ f m t ks cs' y h1 h2) fs.toList 0 a ha (fun g hg=>by
      obtain⟨j,hj,hjg⟩:=List.getElem_of_mem hg
      have hj':fs[j]? =some g:=by rw[←Array.getElem?_toList,List.getElem?_eq_getElem hj,hjg]
      have h3:=hf j g hj'
      have hjl:j<xs.length:=by rw[hxl];simpa using hj
      rw[List.getElem?_eq_getElem hjl] at h3
      exact⟨_,h3⟩)
     rw[List.drop_zero,hal,←hlen,List.take_length] at this
     exact this
    ·cases h
   ·cases h
  ·rename_i m e hu
   split at h
   ·rename_i a ha
    split at h
    ·rename_i hal
     injection h with h;subst h
     obtain⟨xs,m',_,_,hlen,hxl,hf⟩:=DataW.trod_array hu hy
     have:=mC (cs:=cs) (P.cellsOf e) hal.1 m 0 (fun j _ hj=>by
      have h3:=hf j (by omega)
      have hjl:j<xs.length:=by rw[hxl];omega
      rw[List.getElem?_eq_getElem hjl] at h3
      exact lJ f m' e a _ _ ha h3)
     rw[Nat.zero_mul,List.drop_zero,hal.2,←hlen,List.take_length] at this
     exact this
    ·cases h
   ·cases h
  ·cases h
theorem sn {t e:TypeId} {f sz:Nat} {ks:List (Option IntKind)} {A:Option Addr} {len cap:Nat} {d:DataW H} {ps:List MemPlace} (ht:P.underlying t=some (.slice e)) (hk:flatK P f e=some ks) (hC:P.cellsOf e=sz) (hsz:0<sz)
  (h:DataW.Trod enc P w base (fun _=>true) held t (.slice A len cap) d ps) (_:∀ x∈ps,x.block<w.heap.size):
  ∃ rows:List (List Value),rows.length=len∧(∀ r∈rows,dK ks r)∧Sl w w.heap.size sz A len rows.flatten∧len≤cap∧(A=none→len=0∧cap=0):=by
 obtain⟨fuel,hf⟩:=h
 rcases open_slice ht hf with ⟨hcs,_⟩ | ⟨a,l,c,m,n,D,Pl,hcs,hb,hl,hm,hmm,hx,hi⟩
 ·simp[Value.cells] at hcs
  obtain⟨rfl,rfl,rfl⟩:=hcs
  exact⟨[],rfl,by simp,Sl.nil_ _ _ _,Nat.le_refl _,fun _=>⟨rfl,rfl⟩⟩
 ·simp[Value.cells] at hcs
  obtain⟨rfl,rfl,rfl⟩:=hcs
  rw[hC] at hi hx
  have hml:len≤m:=by rw[hmm];exact hl
  have hrow:∀ i,i<len→∃ r:List Value,r.length=sz∧dK ks r∧∀ j,j<sz→w.cell? ((a.add (i*sz)).add j)=r[j]? :=fun i hil=>by
   obtain⟨cs',h1,h2⟩:=hi i (by omega)
   obtain⟨_,hcl,hat⟩:=World.cells?_some h1
   exact⟨cs',hcl,lJ f n e ks cs' _ hk h2,hat⟩
  obtain⟨R,hR⟩:∃ R:Nat→List Value,∀ i,i<len→(R i).length=sz∧dK ks (R i)∧∀ j,j<sz→w.cell? ((a.add (i*sz)).add j)=(R i)[j]? :=by
   refine⟨fun i=>if h:i<len then (hrow i h).choose else [],fun i hil=> ?_⟩
   simp only[hil,dif_pos]
   exact(hrow i hil).choose_spec
  have hpl:0<len→a.block<w.heap.size∧a.spot=none:=fun h0=>by
   obtain⟨h1,_,h3⟩:=hR 0 h0
   have h4:=h3 0 hsz
   have h5:∃ u,(R 0)[0]? =some u:=⟨_,List.getElem?_eq_getElem (by omega)⟩
   obtain⟨u,hu⟩:=h5
   rw[hu] at h4
   have h6:(a.add (0*sz)).add 0=a:=by simp[Addr.add]
   rw[h6] at h4
   refine⟨World.block_lt_of_cell? w a h4,?_⟩
   unfold World.cell? at h4
   cases hs:a.spot with
   | none=>rfl
   | some x=>rw[hs] at h4;split at h4<;>simp at h4
  refine⟨(List.range len).map R,by simp,fun r hr=> ?_,⟨?_,fun h0=> ?_,fun h0=> ?_,fun j hj=> ?_⟩,hl,fun h=>by cases h⟩
  ·obtain⟨i,hi',rfl⟩:=List.mem_map.1 hr
   exact(hR i (by simpa using hi')).2.1
  ·rw[List.length_flatten]
   have:((List.range len).map R).map List.length=List.replicate len sz:=by
    apply List.ext_getElem
    ·simp
    ·intro i h1 h2
     simp at h1⊢
     exact(hR i h1).1
   rw[this];simp
  ·obtain⟨_,hsp⟩:=hpl h0
   obtain⟨b,o,sp⟩:=a
   simp only at hsp
   subst hsp
   simp[bZ,cP]
  ·obtain⟨hb',_⟩:=hpl h0
   simpa [bZ] using hb'
  ·have h0:0<len:=by
    rcases Nat.eq_zero_or_pos len with h | h
    ·subst h;simp at hj
    ·exact h
   obtain⟨_,hsp⟩:=hpl h0
   have hjq:j / sz<len:=Nat.div_lt_of_lt_mul (by rw[Nat.mul_comm];exact hj)
   have hjr:j % sz<sz:=Nat.mod_lt _ hsz
   have h7:=(hR (j / sz) hjq).2.2 (j % sz) hjr
   have hjj:j / sz*sz+j % sz=j:=by rw[Nat.mul_comm];exact Nat.div_add_mod j sz
   have h8:(a.add (j / sz*sz)).add (j % sz)=⟨bZ (some a),cP (some a)+j,none⟩:=by
    obtain⟨b,o,sp⟩:=a
    simp only at hsp
    subst hsp
    rw[Go.Deep.add_add,hjj]
    unfold Addr.add
    split
    ·rename_i h;subst h;simp[bZ,cP]
    ·simp[bZ,cP]
   rw[h8] at h7
   rw[h7]
   have h9:=kx (fun r:List Value=>r) sz
   clear h9
   have key:∀ (l:List (List Value)) (k i:Nat) (x:List Value),(∀ r∈l,r.length=sz)→l[k]? =some x→i<sz→l.flatten[k*sz+i]? =x[i]? :=by
    intro l
    induction l with
    | nil=>intro k i x _ h;simp at h
    | cons y l ih=>
     intro k i x hall h hi
     have hy:y.length=sz:=hall y (List.mem_cons_self ..)
     cases k with
     | zero=>
      simp at h;subst h
      simp[List.flatten_cons,List.getElem?_append,hy,hi]
     | succ k=>
      simp at h
      rw[List.flatten_cons,List.getElem?_append_right (by rw[hy,Nat.add_mul];omega),hy]
      have:(k+1)*sz+i - sz=k*sz+i:=by rw[Nat.add_mul];omega
      rw[this]
      exact ih k i x (fun r hr=>hall r (List.mem_cons_of_mem _ hr)) h hi
   have hk2:=key ((List.range len).map R) (j / sz) (j % sz) (R (j / sz)) (fun r hr=>by
    obtain⟨i,hi',rfl⟩:=List.mem_map.1 hr
    exact(hR i (by simpa using hi')).1) (by simp[hjq]) hjr
   rw[hjj] at hk2
   exact hk2.symm
theorem dK.cons_inv {k:Option IntKind} {ks:List (Option IntKind)} {l:List Value} (h:dK (k::ks) l):∃ v l',l=v::l'∧Cu k v∧dK ks l':=by
 cases l with
 | nil=>exact h.elim
 | cons v l'=>exact⟨v,l',rfl,h.1,h.2⟩
theorem dK.EM {l:List Value} (h:dK [] l):l=[]:=by
 cases l with
 | nil=>rfl
 | cons v l'=>exact h.elim
theorem dK.two {l:List Value} (h:dK [some .i64,some .i64] l):∃ a b,l=[.int .i64 a,.int .i64 b]:=by
 obtain⟨_,_,rfl,⟨x,rfl,_⟩,h1⟩:=h.cons_inv
 obtain⟨_,_,rfl,⟨y,rfl,_⟩,h2⟩:=h1.cons_inv
 obtain rfl:=h2.EM
 exact⟨x,y,rfl⟩
end
theorem sq:∀ rows:List (List Value),(∀ r∈rows,dK [some .i64,some .i64] r)→∃ ops:List Opn,ops.length=rows.length∧rows.flatten=ops.flatMap Opn.cells
 | [],_=>⟨[],rfl,rfl⟩
 | r::rows,h=>by
  obtain⟨a,b,rfl⟩:=(h r (List.mem_cons_self ..)).two
  obtain⟨ops,h1,h2⟩:=sq rows (fun x hx=>h x (List.mem_cons_of_mem _ hx))
  exact⟨⟨a,b⟩::ops,by simp[h1],by simp[h2,Opn.cells]⟩
theorem zX:(Tryz.prog.info? 85).map (fun i=>(i.zero,i.size,i.bytes))=some (some (.agg #[.int .i64 0,.int .i64 0,.int .i64 0]),3,24):=by kernel_rfl
theorem Fs:(Tryz.prog.info? 46).map (·.size)=some 2:=by kernel_rfl
theorem sr {B n:Nat} {A:Option Addr} {ops:List Opn} (h:Sl w B 2 A n (ops.flatMap Opn.cells)) {k:Nat} {o:Opn} (hk:k<n) (he:ops[k]? =some o):
  w.cell? ⟨bZ A,cP A+k*2,none⟩=some (.int .i64 o.kind)∧w.cell? ⟨bZ A,cP A+k*2+1,none⟩=some (.int .i64 o.key):=by
 have key:∀ i,i<2→w.cell? ⟨bZ A,cP A+k*2+i,none⟩=o.cells[i]? :=fun i hi=>by
  rw[h.at_ hk hi,kx Opn.cells 2 Opn.fx ops k i o he hi]
 exact⟨key 0 (by omega),key 1 (by omega)⟩
def fm (sh:Int) (o:Opn):List Value:=[.int .i64 sh,.int .i64 o.kind,.int .i64 o.key]
theorem vE (sh:Int) (o:Opn):∀ u∈fm sh o,u.oneCell'=true:=by intro u hu;simp[fm] at hu;rcases hu with rfl | rfl | rfl<;>rfl
def MF (sh:Int) (ops:List Opn) (w:World) (e:Ending) (w':World):Prop:=
 (if ops.all (may sh) then ∃ v,e= .returned (.tuple #[v,.int .i64 0])∧w'.ownsRow w.heap.size 85 3 v ops.length (ops.flatMap (fm sh)) else e= .returned (.tuple #[.slice none 0 0,.int .i64 1]))∧Below w.heap.size w w'
variable {sh:Int}
theorem GD {ops:List Opn} {w w':World} {k:Nat} {o:Opn} (ho:ops[k]? =some o) (hm:may sh o=false) (hb:Below w.heap.size w w'):MF sh ops w (.returned (.tuple #[.slice none 0 0,.int .i64 1])) w':=by
 refine⟨?_,hb⟩
 rw[if_neg]
 intro h
 have:=List.all_eq_true.1 h o (List.mem_of_getElem? ho)
 rw[hm] at this;cases this
theorem kZ {p:Opn→Bool} {ops:List Opn} {k:Nat} {o:Opn} (ho:ops[k]? =some o) (h:(ops.take k).all p=true) (hp:p o=true):(ops.take (k+1)).all p=true:=by
 rw[List.take_add_one,ho];simp[h,hp]
theorem qb {α β:Type} (f:α→List β) {l:List α} {k:Nat} {o:α} (ho:l[k]? =some o):(l.take (k+1)).flatMap f=(l.take k).flatMap f++f o:=by
 rw[List.take_add_one,ho];simp
theorem EN (K:Int) (A:Option Addr) (n c B:Nat) (ops:List Opn) (w:World) (hs:Sl w B 2 A n (ops.flatMap Opn.cells)) (hB:B≤w.heap.size) (hel:ops.length=n) (hn:n≤1000):
  Calls Tryz.prog 46 #[.int .i64 K,.slice A n c] w (MF K ops w):=by
 obtain⟨iO,Kl,zO,sO,bO⟩:=info_parts zX
 have HL:=Lib.hid hel
 clear hel
 obtain⟨N,hN⟩:∃ N,w.heap.size=N:=⟨_,rfl⟩
 rw[hN] at hB
 have hb0:Below N w w:=Below.refl _ _
 have hN0:N≤w.heap.size:=by omega
 have HN:=Lib.hid hN
 clear hN
 go_enter Tryz.func46,Tryz.ntmps46
 go_wp2_with fail
 go_loopw [11,6] (fun i did wr=>∃ k:Nat,k≤n∧i= .int .i64 k∧Hid ((ops.take k).all (may K)=true)∧wr.ownsRow N 85 3 did k ((ops.take k).flatMap (fm K))∧Below N w wr∧N≤wr.heap.size) (fun i _ _=>n - (intOf i).toNat)
 case atStart=>exact⟨0,by omega,rfl,Lib.hid rfl,World.ownsRow_nil _ _ _ _,hb0,hN0⟩
 case round=>
  obtain⟨k,hk,rfl,hm,hown,hb,J5⟩:=hrel
  by_cases hlt:k<n
  ·have dk:decide ((k:Int)<(n:Int))=true:=by simp;omega
   obtain⟨o,ho⟩:∃ o,ops[k]? =some o:=⟨_,List.getElem?_eq_getElem (by rw[HL.out];exact hlt)⟩
   have hsw:=hs.below (hb.mono hB)
   have hidx:=hsw.idx (P:=Tryz.prog) (c:=c) Tryz.underlying52 Fs hlt
   obtain⟨f0,f1⟩:=sr hsw hlt ho
   have HO:=Lib.hid ho
   have HM:=Lib.hid (fun W=>bY K o.kind o.key W)
   clear ho hsw
   obtain⟨A7,c7,rfl,Ii,-,-⟩:=bT hown
   go_upto_region 5 with (fail)
   clear f0 f1 hidx
   have hb7:Below wr.heap.size wr (wr.alloc (.cells #[.int .i64 o.kind,.int .i64 o.key] 46)):=(Below.refl _ _).alloc (Nat.le_refl _) _
   have hx:=bo.new wr 46 #[.int .i64 o.kind,.int .i64 o.key]
   generalize(wr.alloc (.cells #[.int .i64 o.kind,.int .i64 o.key] 46))=W at *
   have MG:=dy hown hb7
   have hb':=hb.trans (hb7.mono J5)
   have hws:=hb7.size
   have cx:=hx.cells
   clear hown hb hb7
   go_wp2_with fail
   refine(HM.out W).mono ?_
   rintro e W8 ⟨rfl,hb8⟩
   have MH:=dy MG hb8
   have GF:=hb'.trans (hb8.mono (by omega))
   have Lp:=hx.step hb8
   have hs8:=hb8.size
   clear MG hb' hb8 cx hx HM
   have NI:Hid (Proofs.YtbcnnhlpilmmbaaGreat.may K ⟨o.kind,o.key⟩=may K o):=Lib.hid rfl
   rw[NI.out]
   cases hmay:may K o with
   | false=>
    have NJ:=Lib.hid hmay
    clear hmay
    go_wp2_with fail
    refine bodyPost_ret (v:= .tuple #[.slice none 0 0,.int .i64 1]) (by simp[results,Tryz.results46,go_sem]) rfl (GD HO.out NJ.out ?_)
    rw[HN.out];exact GF
   | true=>
    have hm':=Lib.hid (kZ HO.out hm.out hmay)
    have AM:=Lib.hid (qb (fm K) HO.out)
    clear hmay
    have cx:=Lp.cells
    have hxl:=Lp.lt
    have own':=MH.alloc (.cells #[.int .i64 K,.int .i64 o.kind,.int .i64 o.key] 85)
    go_wp2_with (at_builtin;refine wpList_append_lies _ rfl _ _ _ rfl N 85 iO _ 3 24 Tryz.underlying87 Kl zO sO bO rfl (by omega) (.slice A7 k c7) k ((ops.take k).flatMap (fm K)) rfl own' ⟨W8.heap.size,0,none⟩ 1 1 (fm K o) rfl rfl (World.news_of_block (heap_alloc_new W8 _)) (vE K o) (by omega) (by unfold maxLen;omega) (by omega) (by simp;omega) (W8.heap.size+1) (by simp) ?_;intro g cap Dq hown2 hgrow hat hlt2)
    have IZ:Dq.ownsRow N 85 3 (.slice (some ⟨g,0,none⟩) (k+1) cap) (k+1) ((ops.take (k+1)).flatMap (fm K)):=by rw[AM.out];simpa using hown2
    have I0:=((GF.alloc (by omega) (.cells #[.int .i64 K,.int .i64 o.kind,.int .i64 o.key] 85)).grown hgrow (by simp;omega) (fun x hx=>(bM own' x hx).1))
    have I1:=hgrow.size
    have NK:W8.heap.size+1≤Dq.heap.size:=by simpa using I1
    clear hown2 hgrow hat hlt2 own' MH GF I1 AM hm Lp cx
    go_wp2_with fail
    go_roundw
    case rel=>exact⟨k+1,by omega,by go_num,(by first | exact hm' | exact trivial),IZ,I0,by omega⟩
    case measure=>simp[intOf]<;>omega
  ·have dk:decide ((k:Int)<(n:Int))=false:=by simp;omega
   have hkn:k=n:=by omega
   subst hkn
   have hA:ops.take k=ops:=List.take_of_length_le (by rw[HL.out];exact Nat.le_refl _)
   rw[hA] at hown
   have HA:=Lib.hid (show ops.all (may K)=true by rw[←hA];exact hm.out)
   clear hA
   obtain⟨A7,c7,hv,Ii,-,-⟩:=bT hown
   subst hv
   clear Ii
   go_wp2_with fail
   refine bodyPost_ret (v:= .tuple #[.slice A7 k c7,.int .i64 0]) (by simp[results,Tryz.results46,go_sem]) rfl ⟨?_,by rw[HN.out];exact hb⟩
   rw[if_pos HA.out,HN.out,HL.out]
   exact⟨_,rfl,hown⟩
theorem mD {a b:Bool} (h:a=b):Ending.returned (.bool a)= .returned (.bool b):=by rw[h]
theorem tV (a b:Int) (w:World):
  Calls Tryz.prog 41 #[.agg #[.int .i64 a,.int .i64 b]] w fun e w'=>e= .returned (.bool (decide (b<0)))∧Below w.heap.size w w':=by
 go_enter Tryz.func41,Tryz.ntmps41
 go_wp2
 go_ret
 exact⟨rfl,(Below.refl _ _).alloc (Nat.le_refl _) _⟩
theorem jE (a b:Int) (w:World) (r:Bool) (h:decide (b<0)=r):
  Calls Tryz.prog 41 #[.agg #[.int .i64 a,.int .i64 b]] w fun e w'=>e= .returned (.bool r)∧Below w.heap.size w w':=by
 subst h;exact tV a b w
abbrev HAt (w:World) (B b:Nat) (s:HS):Prop:=eS 100 51 109 w B b s
theorem Cv (w:World):Calls Tryz.prog 45 #[] w fun e w'=>e= .returned (.pointer (some ⟨w.heap.size,0,none⟩))∧HAt w' w.heap.size w.heap.size HS.new∧Below w.heap.size w w':=by
 go_enter Tryz.func45,Tryz.ntmps45
 go_wp2
 go_ret
 refine⟨rfl,⟨HS.FG,Nat.le_refl _,_,_,_,bo.new _ _ _,rfl,rfl,rfl,?_,World.ownsRow_nil _ _ _ _,World.ownsRow_nil _ _ _ _⟩,(Below.refl _ _).alloc (Nat.le_refl _) _⟩
 intro t ht
 match t,ht with
 | 0,_=>rfl
 | 1,_=>rfl
 | 2,_=>rfl
 | 3,_=>rfl
 | 4,_=>rfl
 | 5,_=>rfl
 | 6,_=>rfl
 | 7,_=>rfl
theorem eu (t:Int) (w:World):Calls Tryz.prog 50 #[.int .i64 t] w fun e w'=>e= .returned (.bool (decide (0≤t) && decide (t<8)))∧w=w':=by
 by_cases h:0≤t
 ·go_enter Tryz.func50,Tryz.ntmps50
  go_wp2
  go_ret
  exact⟨mD (by simp[h]),rfl⟩
 ·go_enter Tryz.func50,Tryz.ntmps50
  go_wp2
  go_ret
  exact⟨mD (by simp;omega),rfl⟩
theorem gu (b:Nat) (s:HS) (B:Nat) (t:Int) (w:World) (h:HAt w B b s):
  Calls Tryz.prog 51 #[.pointer (some ⟨b,0,none⟩),.int .i64 t] w fun e w'=>e= .returned (.bool (s.pend t))∧w=w':=by
 obtain⟨v1,v2,cs,hr⟩:=h.at_
 by_cases hk:0≤t∧t<8
 ·obtain⟨t,rfl⟩:=Int.eq_ofNat_of_zero_le hk.1
  have ht:t<8:=by omega
  have hcell:=hr.fn ht
  have hkb:(decide (0≤(t:Int)) && decide ((t:Int)<8))=true:=by simp;omega
  clear hr h
  have HK:=Lib.hid hkb
  clear hkb
  go_enter Tryz.func51,Tryz.ntmps51
  go_wp2_with (go_at_call 50;refine(eu _ _).mono ?_;rw[HK.out];rintro e w1 ⟨rfl,rfl⟩)
  go_ret
  exact⟨mD (by simp[HS.pend];omega),rfl⟩
 ·have hkb:(decide (0≤t) && decide (t<8))=false:=by simp;omega
  have hp:s.pend t=false:=by simp only[HS.pend,hkb];rfl
  have HK:=Lib.hid hkb
  have HP:=Lib.hid hp
  clear hkb hp hr h
  go_enter Tryz.func51,Tryz.ntmps51
  go_wp2_with (go_at_call 50;refine(eu _ _).mono ?_;rw[HK.out];rintro e w1 ⟨rfl,rfl⟩)
  go_ret
  exact⟨mD (HP.out.symm),rfl⟩
theorem lK:(Tryz.prog.info? 51).map (fun i=>(i.zero,i.size,i.bytes))=some (some (.agg #[.int .i64 0,.bool false,.int .i64 0,.int .i64 0,.int .i64 0,.bool false,.int .i64 0]),7,56):=by kernel_rfl
theorem su:(Tryz.prog.info? 109).map (fun i=>(i.zero,i.size,i.bytes))=some (some (.agg #[.int .i64 0,.int .i64 0,.int .i64 0,.int .i64 0,.int .i64 0,.int .i64 0,.int .i64 0,.bool false,.int .i64 0]),9,72):=by kernel_rfl
theorem rG (b:Nat) (s:HS) (B:Nat) (t:Nat) (kind key:Int) (w:World) (h:HAt w B b s) (hBw:B≤w.heap.size) (ht:t<8) (hno:¬ 0<s.now t) (hsz:s.evs.length≤1000):
  Calls Tryz.prog 31 #[.pointer (some ⟨b,0,none⟩),.int .i64 t,.agg #[.int .i64 kind,.int .i64 key]] w fun e w'=>
   e= .returned (.int .i64 0)∧HAt w' B b (s.AX t kind key)∧Kp B [100,51,109] w w':=by
 obtain⟨iE,Lq,zE,sE,bE⟩:=info_parts lK
 obtain⟨iC,NL,zC,sC,bC⟩:=info_parts su
 obtain⟨v1,v2,cs,hr⟩:=h.at_
 have hwf:=h.wf
 have hbase:=h.base
 have hle:=hwf.le
 have hbl:=hr.lt
 have hkb:(decide (0≤(t:Int)) && decide ((t:Int)<8))=true:=by simp;omega
 have hp:s.pend t=false:=by simp[HS.pend];omega
 have HK:=Lib.hid hkb
 have HP:=Lib.hid hp
 clear hkb hp
 go_enter Tryz.func31,Tryz.ntmps31
 go_wp2_with (first
  | (go_at_call 50;refine(eu _ _).mono ?_;rw[HK.out];rintro e w1 ⟨rfl,rfl⟩)
  | (go_at_call 51;refine(gu b s B _ _ (h.alloc _)).mono ?_;rw[HP.out];rintro e w1 ⟨rfl,rfl⟩))
 obtain⟨A1,m1,rfl,-⟩:=bT hr.o1
 obtain⟨A2,m2,rfl,-⟩:=bT hr.o2
 have hr0:=hr.alloc (.cells #[.int .i64 kind,.int .i64 key] 46)
 have hq0:=bo.new w 46 #[.int .i64 kind,.int .i64 key]
 have k0:Kp B [100,51,109] w (w.alloc (.cells #[.int .i64 kind,.int .i64 key] 46)):=(Kp.refl _ _ _).alloc hBw _
 clear hr h
 generalize(w.alloc (.cells #[.int .i64 kind,.int .i64 key] 46))=W at *
 have MI:=hr0.lt
 have f0:=Later.cell (B:=W.heap.size) hr0.f0 hr0.lt
 have f1:=Later.cell (B:=W.heap.size) hr0.f1 hr0.lt
 have f2:=Later.cells hq0 hq0.lt
 refine dD (fun w'=>∃ q:Later W.heap.size W,w'=q.val) 20 [0,1,2,3,4,5,6,7,8,9,10,11,12,13,14,15,16,17,18] [19,20,21,22,23] (by kernel_rfl) (by kernel_rfl) (Later.bW (Below.refl _ _).drew) ?_
 simp only[ay,List.map_cons,List.map_nil,List.getD_cons_zero,List.getD_cons_succ]
 repeat(go_big_quiet_step (fail))
 refine wpQuiet_nil ?_
 refine aA rfl (fun K hK=> ?_)
 go_simp
 refine hK _ _ (Later.bW ((Below.refl _ _).alloc (Nat.le_refl _) _).drew) ?_
 clear hK K
 refine ae _ _ _ (by kernel_rfl) ?_
 simp only[ay,List.map_cons,List.map_nil,List.getD_cons_zero,List.getD_cons_succ]
 refine wpList_append_lies _ rfl _ _ _ rfl B 109 iC _ 9 72 Tryz.underlying97 NL zC sC bC rfl (by omega) (.slice A2 s.calls.length m2) s.calls.length (s.calls.flatMap HC.cells) rfl ((hr0.o2.alloc _).drew) ⟨W.heap.size,0,none⟩ 1 1 (HC.cells ⟨s.evs.length,-1,s.calls.length,t,kind,key,0,false,0⟩) rfl rfl (World.news_of_block (heap_alloc_new W _)) (HC.cells_one _) (by omega) (by unfold maxLen;omega) (by omega) (by simp;omega) (W.heap.size+1) (by simp) ?_
 intro gg cap w1 hown1 hgrow hat hlt
 have fb:=bo.grown (bo.drew (hr0.blk.alloc (.cells #[.int .i64 s.evs.length,.int .i64 (-1),.int .i64 s.calls.length,.int .i64 t,.int .i64 kind,.int .i64 key,.int .i64 0,.bool false,.int .i64 0] 109))) hgrow (own_ne hr0.o2 hr0.blk (by decide))
 have fz:=fb.frozen 1
 have fc:=(fb.cell 1).trans hr0.c1
 have k1:Kp B [100,51,109] w w1:=((k0.alloc (by omega) _).drew).own ((hr0.o2.alloc _).drew) (Nat.le_refl _) (by simp;omega) (by decide) hgrow
 have hq1:bo w1 w.heap.size 46 #[.int .i64 kind,.int .i64 key]:=bo.grown (bo.drew (hq0.alloc _)) hgrow (own_ne hr0.o2 hq0 (by decide))
 have hr1:=((hr0.alloc (.cells #[.int .i64 s.evs.length,.int .i64 (-1),.int .i64 s.calls.length,.int .i64 t,.int .i64 kind,.int .i64 key,.int .i64 0,.bool false,.int .i64 0] 109)).drew).AY (by decide) (by decide) (by decide) (calls':=s.calls++[⟨s.evs.length,-1,s.calls.length,t,kind,key,0,false,0⟩]) (n':=s.calls.length+1) (by simp) (by simpa using hown1) hgrow
 have k1':=k1.setB fb hbase (by decide) 1 (.slice (some ⟨gg,0,none⟩) (s.calls.length+1) cap)
 have hq1':=hq1.far (p:=⟨b,1,none⟩) (hq1.rN fb (by decide)) (.slice (some ⟨gg,0,none⟩) (s.calls.length+1) cap)
 clear f0 f1 f2 hown1 hgrow hat hr0 hq0 k0 hq1 k1 fb
 go_wp2_with fail
 refine NoPanic.normal ?_
 generalize(w1.setCell ⟨b,1,none⟩ (.slice (some ⟨gg,0,none⟩) (s.calls.length+1) cap))=W2 at *
 clear fz fc hlt
 go_wp2_with fail
 obtain⟨On,Oo,hv2,-⟩:=bT hr1.o2
 have hW2:=hr1.lt
 have f0:=Later.cell (B:=W2.heap.size) hr1.f0 hr1.lt
 have f2:=Later.cells hq1' hq1'.lt
 refine dD (fun w'=>∃ q:Later W2.heap.size W2,w'=q.val) 9 [0,1,2,3,4,5,6,7] [8,9,10,11,12] (by kernel_rfl) (by kernel_rfl) (Later.bW (Below.refl _ _).drew) ?_
 simp only[ay,List.map_cons,List.map_nil,List.getD_cons_zero,List.getD_cons_succ]
 repeat(go_big_quiet_step (fail))
 refine wpQuiet_nil ?_
 refine aA rfl (fun K hK=> ?_)
 go_simp
 refine hK _ _ (Later.bW ((Below.refl _ _).alloc (Nat.le_refl _) _).drew) ?_
 clear hK K
 refine ae _ _ _ (by kernel_rfl) ?_
 simp only[ay,List.map_cons,List.map_nil,List.getD_cons_zero,List.getD_cons_succ]
 refine wpList_append_lies _ rfl _ _ _ rfl B 51 iE _ 7 56 Tryz.underlying41 Lq zE sE bE rfl (by omega) (.slice A1 s.evs.length m1) s.evs.length (s.evs.flatMap Ev.cells) rfl ((hr1.o1.alloc _).drew) ⟨W2.heap.size,0,none⟩ 1 1 (Ev.cells (KA t kind key)) rfl rfl (World.news_of_block (heap_alloc_new W2 _)) (Ev.cells_one _) (by omega) (by unfold maxLen;omega) (by omega) (by simp;omega) (W2.heap.size+1) (by simp) ?_
 intro g2 cap2 w3 hown1 hgrow hat hlt
 have fb:=bo.grown (bo.drew (hr1.blk.alloc (.cells #[.int .i64 t,.bool false,.int .i64 kind,.int .i64 key,.int .i64 0,.bool false,.int .i64 0] 51))) hgrow (own_ne hr1.o1 hr1.blk (by decide))
 have fz:=fb.frozen 0
 have fc:=(fb.cell 0).trans hr1.c0
 have k1:Kp B [100,51,109] w w3:=((k1'.alloc (by omega) _).drew).own ((hr1.o1.alloc _).drew) (Nat.le_refl _) (by simp;omega) (by decide) hgrow
 have hr2:=((hr1.alloc (.cells #[.int .i64 t,.bool false,.int .i64 kind,.int .i64 key,.int .i64 0,.bool false,.int .i64 0] 51)).drew).AZ (by decide) (by decide) (by decide) (A4:=s.evs++[KA t kind key]) (n':=s.evs.length+1) (by simp) (by simpa using hown1) hgrow
 have k2:=k1.setB fb hbase (by decide) 0 (.slice (some ⟨g2,0,none⟩) (s.evs.length+1) cap2)
 clear f0 f2 hown1 hgrow hat hr1 hq1' k1' k1 fb
 go_wp2_with fail
 refine NoPanic.normal ?_
 generalize(w3.setCell ⟨b,0,none⟩ (.slice (some ⟨g2,0,none⟩) (s.evs.length+1) cap2))=W3 at *
 clear fz fc hlt
 go_wp2_with fail
 have f1:=Later.cell (B:=W3.heap.size) hr2.f1 hr2.lt
 have hi0:(0:Int)≤(t:Int):=Int.natCast_nonneg _
 have hi1:(t:Int)<8:=by omega
 refine dD (fun w'=>∃ q:Later W3.heap.size W3,w'=q.val) 10 [0,1,2,3,4,5,6,7,8,9] [10] (by kernel_rfl) (by kernel_rfl) (Later.bW (Below.refl _ _).drew) ?_
 simp only[ay,List.map_cons,List.map_nil,List.getD_cons_zero,List.getD_cons_succ]
 repeat(go_big_quiet_step (fail))
 refine wpQuiet_nil ?_
 refine ae _ _ _ (by kernel_rfl) ?_
 simp only[ay,List.map_cons,List.map_nil,List.getD_cons_zero,List.getD_cons_succ]
 have fz:=hr2.drew.blk.frozen (2+t)
 have fc:=hr2.drew.fn ht
 have hr3:=hr2.drew.A5 (by decide) (by decide) ht ((s.calls.length:Int)+1)
 have k3:=k2.drew.setB hr2.drew.blk hbase (by decide) (2+t) (.int .i64 ((s.calls.length:Int)+1))
 clear f1 hr2 k2
 go_wp2_with fail
 refine NoPanic.normal ?_
 go_wp2_with fail
 go_ret
 exact⟨rfl,⟨HS.FH hwf _ _ _,hbase,_,_,_,hr3⟩,k3⟩
theorem qd (b:Nat) (s:HS) (B:Nat) (t kind key:Int) (w:World) (h:HAt w B b s) (hBw:B≤w.heap.size) (hsz:s.evs.length≤1000):
  Calls Tryz.prog 31 #[.pointer (some ⟨b,0,none⟩),.int .i64 t,.agg #[.int .i64 kind,.int .i64 key]] w fun e w'=>
   e= .returned (.int .i64 (s.qT t))∧HAt w' B b (s.begin_ t kind key)∧Kp B [100,51,109] w w':=by
 by_cases hk:0≤t∧t<8
 ·obtain⟨t,rfl⟩:=Int.eq_ofNat_of_zero_le hk.1
  have ht:t<8:=by omega
  have hk':¬ ((t:Int)<0∨8≤(t:Int)):=by omega
  by_cases hp:0<s.now t
  ·have he:s.qT t=1:=by simp only[HS.qT,if_neg hk',Int.toNat_natCast,if_pos hp]
   have hs:s.begin_ t kind key=s:=by simp only[HS.begin_,he];rfl
   rw[he,hs]
   have hkb:(decide (0≤(t:Int)) && decide ((t:Int)<8))=true:=by simp;omega
   have hpb:s.pend t=true:=by simp only[HS.pend,hkb,Int.toNat_natCast];simpa using hp
   have HK:=Lib.hid hkb
   have HP:=Lib.hid hpb
   have hb2:Below w.heap.size w (w.alloc (.cells #[.int .i64 kind,.int .i64 key] 46)):=(Below.refl _ _).alloc (Nat.le_refl _) _
   clear hkb hpb he hs hk' hk
   go_enter Tryz.func31,Tryz.ntmps31
   go_wp2_with (first
    | (go_at_call 50;refine(eu _ _).mono ?_;rw[HK.out];rintro e w1 ⟨rfl,rfl⟩)
    | (go_at_call 51;refine(gu b s B _ _ (h.alloc _)).mono ?_;rw[HP.out];rintro e w1 ⟨rfl,rfl⟩))
   go_ret
   exact⟨rfl,h.step hb2,(Kp.refl _ _ _).step hBw hb2⟩
  ·have he:s.qT t=0:=by simp only[HS.qT,if_neg hk',Int.toNat_natCast,if_neg hp]
   have hs:s.begin_ t kind key=s.AX t kind key:=by simp only[HS.begin_,he,Int.toNat_natCast];rfl
   rw[he,hs]
   exact rG b s B t kind key w h hBw ht hp hsz
 ·have hk':t<0∨8≤t:=by omega
  have he:s.qT t=2:=by simp only[HS.qT,if_pos hk']
  have hs:s.begin_ t kind key=s:=by simp only[HS.begin_,he];rfl
  rw[he,hs]
  have hkb:(decide (0≤t) && decide (t<8))=false:=by simp;omega
  have HK:=Lib.hid hkb
  have hb2:Below w.heap.size w (w.alloc (.cells #[.int .i64 kind,.int .i64 key] 46)):=(Below.refl _ _).alloc (Nat.le_refl _) _
  clear hkb he hs hk' hk
  go_enter Tryz.func31,Tryz.ntmps31
  go_wp2_with (go_at_call 50;refine(eu _ _).mono ?_;rw[HK.out];rintro e w1 ⟨rfl,rfl⟩)
  go_ret
  exact⟨rfl,h.step hb2,(Kp.refl _ _ _).step hBw hb2⟩
end Go.Proofs.YtbcnnhlpilmmbaaGreat
