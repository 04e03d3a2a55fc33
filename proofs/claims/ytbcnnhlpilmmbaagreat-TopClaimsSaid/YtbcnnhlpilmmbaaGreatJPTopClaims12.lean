/- Texts that are wanted for PTopClaims.
   Conditions: none. -/
import Derived.Test.YtbcnnhlpilmmbaaGreatJPTopClaims11
set_option maxRecDepth 100000
set_option maxHeartbeats 6400000
namespace Go.Proofs.YtbcnnhlpilmmbaaGreat
open Go Go.RowKit
variable {w:World} {C:Nat→Nat} {c s sg b:Nat} {L:Ly} {me:Int} {t:cg}
theorem rn {f:bq} {pf pc pp:Value} (hst:aq w C s sg L me t) (sb:fO w C c sg b pf pc pp f) (hmay:f.task.may=true) (hl:f.task.links=true):Calls Tryz.prog 113 #[.pointer (some ⟨b,0,none⟩)] w fun e w'=>e= .returned (.bool (f.task.links && decide (t.spare=0)))∧Below w.heap.size w w':=by
 obtain⟨⟨A,n,cap,hn,st,hrow⟩,hme,hsp,hsm⟩:=hst
 unfold fO at sb
 obtain⟨⟨rc,ro,rv⟩,failed,tries,⟨sh,kind,key⟩,most,at_,⟨g0,⟨g1,g2,g3⟩,g4,g5,g6,g7,g8⟩,find,cl,az⟩:=f
 simp only at sb hmay hl⊢
 have HR:∀ W,Calls Tryz.prog 57 #[.int .i64 sh,.agg #[.int .i64 kind,.int .i64 key]] W fun e w'=>e= .returned (.bool true)∧Below W.heap.size W w':=fun W=>(bY sh kind key W).mono fun e w' h=>⟨h.1.trans (by rw[show Proofs.YtbcnnhlpilmmbaaGreat.may sh ⟨kind,key⟩=true from hmay]),h.2⟩
 have HL:∀ W,Calls Tryz.prog 104 #[.agg #[.int .i64 sh,.int .i64 kind,.int .i64 key]] W fun e w'=>e= .returned (.bool true)∧Below W.heap.size W w':=fun W=>(bj ⟨sh,kind,key⟩ W).mono fun e w' h=>⟨h.1.trans (by rw[hl]),h.2⟩
 rw[hl]
 have hq:(t.spare==0)=decide (t.spare=0):=rfl
 clear hmay hl hn hrow hsm
 go_enter Tryz.func113,Tryz.ntmps113
 have fr:=Fr.refl C (fun _=>False) [] w
 have ag:=aF.refl w.heap.size C
 go_wp2_with fail
 revert st;revert sb;revert fr;refine bK ?_;intro fr sb st
 obtain⟨q1,q2,qi⟩:=bD sb st
 refine aC sb st 29 [([0,1,2,3,4,5,6,7,8,9],10),([11,12,13,14,15,16],17)] [18,19,20,21,22,23,24,25,26,27,28] [29] (by kernel_rfl) (by kernel_rfl) ?_
 refine ai ?_;simp only[ox];repeat(go_big_quiet_step (fail))
 refine dI rfl (fun K' hK'=> ?_);go_simp
 revert fr sb st;with_reducible refine bB (HR _) ?_;rintro e w1 rfl fr sb st
 refine hK' _ _ (fa sb st) ?_;clear hK' K'
 refine ai ?_;simp only[ox];repeat(go_big_quiet_step (fail))
 refine dI rfl (fun K' hK'=> ?_);go_simp
 revert fr sb st;with_reducible refine bB (HL _) ?_;rintro e w2 rfl fr sb st
 refine hK' _ _ (fa sb st) ?_;clear hK' K'
 refine af ?_;try simp only[ox]
 repeat(go_big_quiet_step (fail))
 refine wpQuiet_nil ?_
 refine ae _ _ _ (by kernel_rfl) ?_;try simp only[ox]
 clear qi q1 q2
 go_wp2_with fail
 refine NoPanic.normal ?_
 go_wp2_with fail
 go_ret
 exact⟨rfl,fr.cr⟩
theorem pA {f:bq} {pf pc pp:Value} (hst:aq w C s sg L me t) (sb:fO w C c sg b pf pc pp f) (hmay:f.task.may=true) (hl:f.task.links=false):Calls Tryz.prog 113 #[.pointer (some ⟨b,0,none⟩)] w fun e w'=>e= .returned (.bool (f.task.links && decide (t.spare=0)))∧Below w.heap.size w w':=by
 obtain⟨⟨A,n,cap,hn,st,hrow⟩,hme,hsp,hsm⟩:=hst
 unfold fO at sb
 obtain⟨⟨rc,ro,rv⟩,failed,tries,⟨sh,kind,key⟩,most,at_,⟨g0,⟨g1,g2,g3⟩,g4,g5,g6,g7,g8⟩,find,cl,az⟩:=f
 simp only at sb hmay hl⊢
 have HR:∀ W,Calls Tryz.prog 57 #[.int .i64 sh,.agg #[.int .i64 kind,.int .i64 key]] W fun e w'=>e= .returned (.bool true)∧Below W.heap.size W w':=fun W=>(bY sh kind key W).mono fun e w' h=>⟨h.1.trans (by rw[show Proofs.YtbcnnhlpilmmbaaGreat.may sh ⟨kind,key⟩=true from hmay]),h.2⟩
 have HL:∀ W,Calls Tryz.prog 104 #[.agg #[.int .i64 sh,.int .i64 kind,.int .i64 key]] W fun e w'=>e= .returned (.bool false)∧Below W.heap.size W w':=fun W=>(bj ⟨sh,kind,key⟩ W).mono fun e w' h=>⟨h.1.trans (by rw[hl]),h.2⟩
 rw[hl]
 have hq:(t.spare==0)=decide (t.spare=0):=rfl
 clear hmay hl hn hrow hsm
 go_enter Tryz.func113,Tryz.ntmps113
 have fr:=Fr.refl C (fun _=>False) [] w
 have ag:=aF.refl w.heap.size C
 go_wp2_with fail
 revert st;revert sb;revert fr;refine bK ?_;intro fr sb st
 obtain⟨q1,q2,qi⟩:=bD sb st
 refine aC sb st 29 [([0,1,2,3,4,5,6,7,8,9],10),([11,12,13,14,15,16],17)] [18,19,20,21,22,23,24,25,26,27,28] [29] (by kernel_rfl) (by kernel_rfl) ?_
 refine ai ?_;simp only[ox];repeat(go_big_quiet_step (fail))
 refine dI rfl (fun K' hK'=> ?_);go_simp
 revert fr sb st;with_reducible refine bB (HR _) ?_;rintro e w1 rfl fr sb st
 refine hK' _ _ (fa sb st) ?_;clear hK' K'
 refine ai ?_;simp only[ox];repeat(go_big_quiet_step (fail))
 refine dI rfl (fun K' hK'=> ?_);go_simp
 revert fr sb st;with_reducible refine bB (HL _) ?_;rintro e w2 rfl fr sb st
 refine hK' _ _ (fa sb st) ?_;clear hK' K'
 refine af ?_;try simp only[ox]
 repeat(go_big_quiet_step (fail))
 refine wpQuiet_nil ?_
 refine ae _ _ _ (by kernel_rfl) ?_;try simp only[ox]
 clear qi q1 q2
 go_wp2_with fail
 refine NoPanic.normal ?_
 go_wp2_with fail
 go_ret
 exact⟨rfl,fr.cr⟩
theorem u9 {f:bq} {pf pc pp:Value} (hst:aq w C s sg L me t) (sb:fO w C c sg b pf pc pp f) (hmay:f.task.may=true):Calls Tryz.prog 113 #[.pointer (some ⟨b,0,none⟩)] w fun e w'=>e= .returned (.bool (f.task.links && decide (t.spare=0)))∧Below w.heap.size w w':=by
 cases hl:f.task.links with
 | true=>exact hl ▸ rn hst sb hmay hl
 | false=>exact hl ▸ pA hst sb hmay hl
variable {w':World}
theorem dr.tried {f:bq} {k:Int} {pf pc pp:Value} (h:dr w C c sg b L f) (hpf:fO w C c sg b pf pc pp f) (hs:fO w' C c sg b pf pc pp (f.aR k)) (hf:Fr C (K0 c) [some 187] w w'):dr w' C c sg b L (f.aR k):=by
 obtain⟨qf,qc,qp,g1,g2,g3,g4⟩:=h.ex
 have e1:=g1.blk
 have e2:=hpf.blk
 unfold bo at e1 e2
 rw[e1] at e2
 injection e2 with e2
 injection e2 with e2 _ _
 simp at e2
 obtain⟨rfl,rfl,rfl⟩:=e2
 exact⟨qf,qc,qp,hs,fun e=>(g2 e).imp fun bf hb=>⟨hb.1,hb.2.fr hf (.inr (by decide))⟩,fun e=>(g3 e).imp fun bf hb=>⟨hb.1,hb.2.fr hf (.inr (by decide))⟩,fun e=>(g4 e).imp fun bf hb=>⟨hb.1,hb.2.fr hf (.inr (by decide))⟩⟩
theorem pB {f:bq} (hL:L.Ok) (hst:aq w C s sg L me t) (h:dr w C c sg b L f) (hok:f.Ok 900000):Calls Tryz.prog 116 #[.pointer (some ⟨b,0,none⟩)] w (OW C (K0 c) [some 187] (.bool (f.again L me).1) (fun w' C'=>dr w' C' c sg b L (f.again L me).2) w):=by
 obtain⟨pf,pc,pp,sb,-,-,-⟩:=h.ex
 obtain⟨hmay,htr,hmo⟩:=hok
 have pC:=iF sb 1 (by omega) (by omega)
 have hok2:(f.aR 1).Ok 1000000:=⟨hmay,by simp only[bq.aR];omega,hmo⟩
 have HA:=Lib.hid (fun w' hs hf=>h.tried (k:=1) (w':=w') sb hs hf)
 have hc:=SB.blk sb
 obtain⟨ov,hov⟩:∃ ov,f.over 1=ov:=⟨_,rfl⟩
 have HST:Hid (f.again L me=if ov then (true,f.aR 1) else (false,(f.aR 1).hZ L me)):=Lib.hid (by unfold bq.again;rw[hov])
 rw[hov] at pC
 clear hov sb h hc
 go_enter Tryz.func116,Tryz.ntmps116
 go_wp2_with fail
 refine pC.mono ?_
 rintro e w2 ⟨rfl,⟨C2,-,rfl,sb⟩,hf⟩
 have hA:=HA.out w2 sb hf
 replace hst:=hst.fr hf (.inr (by decide))
 cases ov
 ·go_wp2_with fail
  refine(r8 hL hst sb hok2).mono ?_
  rintro e w3 ⟨rfl,⟨C3,r9,own⟩,hf3⟩
  go_wp2_with fail
  go_ret
  exact⟨by rw[HST.out];rfl,⟨C3,fun g hg=>r9 g (Nat.lt_of_lt_of_le hg hf.size),by rw[HST.out];exact own⟩,hf.fw hf3⟩
 ·go_wp2_with fail
  go_ret
  exact⟨by rw[HST.out];rfl,⟨C2,aF.refl _ _,by rw[HST.out];exact hA⟩,hf⟩
theorem fG {g:Nat} {x:Value} (h:bo w g 3 #[x]):Sl w w.heap.size 1 (some ⟨g,0,none⟩) 1 [x]:=
 ⟨by simp,fun _=>rfl,fun _=>h.lt,fun j hj=>by
  obtain rfl:j=0:=by simp at hj;omega
  have:=h.cell 0
  simpa [bZ,cP] using this⟩
def qR:List (Option TypeId):=[some 187,some 137,some 3]
theorem gn:∀ x,x∈BI→x∈qR:=by decide
theorem od {f:bq} {pf pc pp:Value} (hst:aq w C s sg L me t) (sb:fO w C c sg b pf pc pp f) (_:t.ret.length≤99000) (hl:f.task.links=true) (hp:f.plan.pops=0):Calls Tryz.prog 120 #[.pointer (some ⟨b,0,none⟩)] w (OW C (ef c s) qR (.tuple #[]) (fun w' C'=>aq w' C' s sg L me (t.did f.task f.plan)∧fO w' C' c sg b pf pc pp { f with res:=f.plan.res }) w):=by
 unfold fO at sb
 obtain⟨⟨rc,ro,rv⟩,failed,tries,⟨sh,kind,key⟩,most,at_,⟨g0,⟨g1,g2,g3⟩,g4,g5,g6,g7,g8⟩,find,cl,az⟩:=f
 simp only at sb hl hp
 have HL:∀ W,Calls Tryz.prog 104 #[.agg #[.int .i64 sh,.int .i64 kind,.int .i64 key]] W fun e w'=>e= .returned (.bool true)∧Below W.heap.size W w':=fun W=>(bj ⟨sh,kind,key⟩ W).mono fun e w' h=>⟨h.1.trans (by rw[hl]),h.2⟩
 have HST:Hid (t.did ⟨sh,kind,key⟩ ⟨g0,⟨g1,g2,g3⟩,g4,g5,g6,g7,g8⟩={ t with spare:=0 }):=Lib.hid (by unfold cg.did;simp only[hl,hp];simp)
 subst hp
 clear hl
 go_enter Tryz.func120,Tryz.ntmps120
 have fr:=Fr.refl C (ef c s) qR w
 have ag:=aF.refl w.heap.size C
 have z1:=sb
 revert hst;revert fr;refine st1 sb 1 (.int .i64 g1) (aU c s) ag ?_;clear sb;rintro w1 e1 fr sb hst
 simp only[sx] at sb
 have z2:=sb
 revert fr hst;refine st1 sb 2 (.bool g2) (aU c s) ag ?_;clear sb;rintro w2 e2 fr sb hst
 simp only[sx] at sb
 have z3:=sb
 revert fr hst;refine st1 sb 3 (.int .i64 g3) (aU c s) ag ?_;clear sb;rintro w3 e3 fr sb hst
 simp only[sx] at sb
 go_wp2_with fail
 clear z1 e1 z2 e2 z3 e3
 revert fr hst sb;refine bB (HL _) ?_;rintro e w4 rfl fr hst sb
 go_wp2_with fail
 refine(m5 hst).mono ?_;clear hst;rintro e w5 ⟨rfl,hst,hf⟩
 revert fr sb;refine eA hf (eP c s) gn ag ?_;clear hf;intro fr sb
 go_wp2_with fail
 go_end0
 exact⟨rfl,⟨_,ag,by rw[HST.out];exact hst,sb⟩,fr⟩
theorem oe {f:bq} {pf pc pp:Value} (hst:aq w C s sg L me t) (sb:fO w C c sg b pf pc pp f) (hle:t.ret.length≤99000) (hl:f.task.links=true) (hp:f.plan.pops≠0∧0≤f.plan.pops∧f.plan.pops≤1000):Calls Tryz.prog 120 #[.pointer (some ⟨b,0,none⟩)] w (OW C (ef c s) qR (.tuple #[]) (fun w' C'=>aq w' C' s sg L me (t.did f.task f.plan)∧fO w' C' c sg b pf pc pp { f with res:=f.plan.res }) w):=by
 unfold fO at sb
 obtain⟨⟨rc,ro,rv⟩,failed,tries,⟨sh,kind,key⟩,most,at_,⟨g0,⟨g1,g2,g3⟩,g4,g5,g6,g7,g8⟩,find,cl,az⟩:=f
 simp only at sb hl hp
 have HL:∀ W,Calls Tryz.prog 104 #[.agg #[.int .i64 sh,.int .i64 kind,.int .i64 key]] W fun e w'=>e= .returned (.bool true)∧Below W.heap.size W w':=fun W=>(bj ⟨sh,kind,key⟩ W).mono fun e w' h=>⟨h.1.trans (by rw[hl]),h.2⟩
 have HST:Hid (t.did ⟨sh,kind,key⟩ ⟨g0,⟨g1,g2,g3⟩,g4,g5,g6,g7,g8⟩=({ t with spare:=0 }:cg).retire [g8]):=Lib.hid (by unfold cg.did;simp only[hl];simp[hp.1])
 obtain⟨hp1,hp2⟩:=hp
 have dp:(g8 !=0)=true:=bne_iff_ne.2 hp1
 clear hp1
 clear hl
 go_enter Tryz.func120,Tryz.ntmps120
 have fr:=Fr.refl C (ef c s) qR w
 have ag:=aF.refl w.heap.size C
 have z1:=sb
 revert hst;revert fr;refine st1 sb 1 (.int .i64 g1) (aU c s) ag ?_;clear sb;rintro w1 e1 fr sb hst
 simp only[sx] at sb
 have z2:=sb
 revert fr hst;refine st1 sb 2 (.bool g2) (aU c s) ag ?_;clear sb;rintro w2 e2 fr sb hst
 simp only[sx] at sb
 have z3:=sb
 revert fr hst;refine st1 sb 3 (.int .i64 g3) (aU c s) ag ?_;clear sb;rintro w3 e3 fr sb hst
 simp only[sx] at sb
 go_wp2_with fail
 clear z1 e1 z2 e2 z3 e3
 revert fr hst sb;refine bB (HL _) ?_;rintro e w4 rfl fr hst sb
 go_wp2_with fail
 refine(m5 hst).mono ?_;clear hst;rintro e w5 ⟨rfl,hst,hf⟩
 revert fr sb;refine eA hf (eP c s) gn ag ?_;clear hf;intro fr sb
 go_wp2_with fail
 revert hst sb;revert fr;refine bK ?_;intro fr hst sb
 obtain⟨q1,qi⟩:=aY sb
 refine ax sb 10 [] [0,1,2,3,4,5,6,7,8] [9,10] (by kernel_rfl) (by kernel_rfl) ?_
 refine af ?_;try simp only[ox]
 repeat(go_big_quiet_step (fail))
 refine wpQuiet_nil ?_
 refine aA rfl (fun K' hK'=> ?_);go_simp
 revert fr hst sb;refine zo 3 #[.int .i64 g8] ?_;rintro w6 e1 Fo fr sl hst sb;rw[e1]
 refine hK' _ _ (cj sb) ?_;clear hK' K' e1
 refine ae _ _ _ (by kernel_rfl) ?_;try simp only[ox]
 clear qi q1
 go_wp2_with fail
 have hsl:Sl w6 w6.heap.size 1 (some ⟨w5.heap.size,0,none⟩) 1 (cJ [g8]):=fG sl.blk
 clear sl
 refine(cE hst [g8] _ 1 1 _ hsl rfl (by first | exact Nat.le_trans hle (by omega) | (simp only;omega)) (by omega) (by intro x hx;simp at hx;subst hx;exact hp2)).mono ?_;clear hst;rintro e w7 ⟨rfl,⟨C7,aG,hst⟩,hf⟩
 revert ag fr sb;refine kV hf aG (eP c s) gn ?_;clear hf aG;intro ag fr sb
 go_wp2_with fail
 refine NoPanic.normal ?_
 go_wp2_with fail
 go_end0
 exact⟨rfl,⟨_,ag,by rw[HST.out];exact hst,sb⟩,fr⟩
theorem na {f:bq} {pf pc pp:Value} (hst:aq w C s sg L me t) (sb:fO w C c sg b pf pc pp f) (_:t.ret.length≤99000) (hl:f.task.links=false) (hp:f.plan.pops=0):Calls Tryz.prog 120 #[.pointer (some ⟨b,0,none⟩)] w (OW C (ef c s) qR (.tuple #[]) (fun w' C'=>aq w' C' s sg L me (t.did f.task f.plan)∧fO w' C' c sg b pf pc pp { f with res:=f.plan.res }) w):=by
 unfold fO at sb
 obtain⟨⟨rc,ro,rv⟩,failed,tries,⟨sh,kind,key⟩,most,at_,⟨g0,⟨g1,g2,g3⟩,g4,g5,g6,g7,g8⟩,find,cl,az⟩:=f
 simp only at sb hl hp
 have HL:∀ W,Calls Tryz.prog 104 #[.agg #[.int .i64 sh,.int .i64 kind,.int .i64 key]] W fun e w'=>e= .returned (.bool false)∧Below W.heap.size W w':=fun W=>(bj ⟨sh,kind,key⟩ W).mono fun e w' h=>⟨h.1.trans (by rw[hl]),h.2⟩
 have HST:Hid (t.did ⟨sh,kind,key⟩ ⟨g0,⟨g1,g2,g3⟩,g4,g5,g6,g7,g8⟩=t):=Lib.hid (by unfold cg.did;simp only[hl,hp];simp)
 subst hp
 clear hl
 go_enter Tryz.func120,Tryz.ntmps120
 have fr:=Fr.refl C (ef c s) qR w
 have ag:=aF.refl w.heap.size C
 have z1:=sb
 revert hst;revert fr;refine st1 sb 1 (.int .i64 g1) (aU c s) ag ?_;clear sb;rintro w1 e1 fr sb hst
 simp only[sx] at sb
 have z2:=sb
 revert fr hst;refine st1 sb 2 (.bool g2) (aU c s) ag ?_;clear sb;rintro w2 e2 fr sb hst
 simp only[sx] at sb
 have z3:=sb
 revert fr hst;refine st1 sb 3 (.int .i64 g3) (aU c s) ag ?_;clear sb;rintro w3 e3 fr sb hst
 simp only[sx] at sb
 go_wp2_with fail
 clear z1 e1 z2 e2 z3 e3
 revert fr hst sb;refine bB (HL _) ?_;rintro e w4 rfl fr hst sb
 go_wp2_with fail
 go_end0
 exact⟨rfl,⟨_,ag,by rw[HST.out];exact hst,sb⟩,fr⟩
theorem nc {f:bq} {pf pc pp:Value} (hst:aq w C s sg L me t) (sb:fO w C c sg b pf pc pp f) (hle:t.ret.length≤99000) (hl:f.task.links=false) (hp:f.plan.pops≠0∧0≤f.plan.pops∧f.plan.pops≤1000):Calls Tryz.prog 120 #[.pointer (some ⟨b,0,none⟩)] w (OW C (ef c s) qR (.tuple #[]) (fun w' C'=>aq w' C' s sg L me (t.did f.task f.plan)∧fO w' C' c sg b pf pc pp { f with res:=f.plan.res }) w):=by
 unfold fO at sb
 obtain⟨⟨rc,ro,rv⟩,failed,tries,⟨sh,kind,key⟩,most,at_,⟨g0,⟨g1,g2,g3⟩,g4,g5,g6,g7,g8⟩,find,cl,az⟩:=f
 simp only at sb hl hp
 have HL:∀ W,Calls Tryz.prog 104 #[.agg #[.int .i64 sh,.int .i64 kind,.int .i64 key]] W fun e w'=>e= .returned (.bool false)∧Below W.heap.size W w':=fun W=>(bj ⟨sh,kind,key⟩ W).mono fun e w' h=>⟨h.1.trans (by rw[hl]),h.2⟩
 have HST:Hid (t.did ⟨sh,kind,key⟩ ⟨g0,⟨g1,g2,g3⟩,g4,g5,g6,g7,g8⟩=t.retire [g8]):=Lib.hid (by unfold cg.did;simp only[hl];simp[hp.1])
 obtain⟨hp1,hp2⟩:=hp
 have dp:(g8 !=0)=true:=bne_iff_ne.2 hp1
 clear hp1
 clear hl
 go_enter Tryz.func120,Tryz.ntmps120
 have fr:=Fr.refl C (ef c s) qR w
 have ag:=aF.refl w.heap.size C
 have z1:=sb
 revert hst;revert fr;refine st1 sb 1 (.int .i64 g1) (aU c s) ag ?_;clear sb;rintro w1 e1 fr sb hst
 simp only[sx] at sb
 have z2:=sb
 revert fr hst;refine st1 sb 2 (.bool g2) (aU c s) ag ?_;clear sb;rintro w2 e2 fr sb hst
 simp only[sx] at sb
 have z3:=sb
 revert fr hst;refine st1 sb 3 (.int .i64 g3) (aU c s) ag ?_;clear sb;rintro w3 e3 fr sb hst
 simp only[sx] at sb
 go_wp2_with fail
 clear z1 e1 z2 e2 z3 e3
 revert fr hst sb;refine bB (HL _) ?_;rintro e w4 rfl fr hst sb
 go_wp2_with fail
 revert fr hst sb;refine bK ?_;intro fr hst sb
 obtain⟨q1,qi⟩:=aY sb
 refine ax sb 10 [] [0,1,2,3,4,5,6,7,8] [9,10] (by kernel_rfl) (by kernel_rfl) ?_
 refine af ?_;try simp only[ox]
 repeat(go_big_quiet_step (fail))
 refine wpQuiet_nil ?_
 refine aA rfl (fun K' hK'=> ?_);go_simp
 revert fr hst sb;refine zo 3 #[.int .i64 g8] ?_;rintro w5 e1 Fo fr sl hst sb;rw[e1]
 refine hK' _ _ (cj sb) ?_;clear hK' K' e1
 refine ae _ _ _ (by kernel_rfl) ?_;try simp only[ox]
 clear qi q1
 go_wp2_with fail
 have hsl:Sl w5 w5.heap.size 1 (some ⟨w4.heap.size,0,none⟩) 1 (cJ [g8]):=fG sl.blk
 clear sl
 refine(cE hst [g8] _ 1 1 _ hsl rfl (by first | exact Nat.le_trans hle (by omega) | (simp only;omega)) (by omega) (by intro x hx;simp at hx;subst hx;exact hp2)).mono ?_;clear hst;rintro e w6 ⟨rfl,⟨C6,aG,hst⟩,hf⟩
 revert ag fr sb;refine kV hf aG (eP c s) gn ?_;clear hf aG;intro ag fr sb
 go_wp2_with fail
 refine NoPanic.normal ?_
 go_wp2_with fail
 go_end0
 exact⟨rfl,⟨_,ag,by rw[HST.out];exact hst,sb⟩,fr⟩
theorem zu {f:bq} {pf pc pp:Value} (hst:aq w C s sg L me t) (sb:fO w C c sg b pf pc pp f) (hle:t.ret.length≤99000) (hpp:0≤f.plan.pops∧f.plan.pops≤1000):Calls Tryz.prog 120 #[.pointer (some ⟨b,0,none⟩)] w (OW C (ef c s) qR (.tuple #[]) (fun w' C'=>aq w' C' s sg L me (t.did f.task f.plan)∧fO w' C' c sg b pf pc pp { f with res:=f.plan.res }) w):=by
 by_cases hp:f.plan.pops=0
 ·cases hl:f.task.links with
  | true=>exact od hst sb hle hl hp
  | false=>exact na hst sb hle hl hp
 ·cases hl:f.task.links with
  | true=>exact oe hst sb hle hl ⟨hp,hpp⟩
  | false=>exact nc hst sb hle hl ⟨hp,hpp⟩
theorem dt {t:bl} {p:Pos} {spare:Int} (hp:p.Ok) (_:(au t p spare).now=false):0≤(au t p spare).old∧(au t p spare).old<18446744073709551616:=by
 unfold au
 split
 ·exact hp.pw
 ·split
  ·exact hp.cw
  ·split
   ·unfold Pos.take
    split
    ·simp[told]
    ·split
     ·exact hp.pw
     ·exact hp.cw
   ·simp[told]
theorem ng {f:bq} (_:L.Ok) (hcs:c≠s) (hst:aq w C s sg L me t) (h:dr w C c sg b L f) (h0:f.at_=0) (hok:f.Ok 400000) (hfo:f.find.Ok 100000) (hle:t.ret.length≤99000) (ho:f.over f.find.tries=true):Calls Tryz.prog 114 #[.pointer (some ⟨b,0,none⟩)] w (OW C (ef c s) qR (.bool (f.sought t).1) (fun w' C'=>aq w' C' s sg L me (f.sought t).2.1∧dr w' C' c sg b L (f.sought t).2.2) w):=by
 obtain⟨pf,pc,pp,sb,h1,h2,h3⟩:=h.ex
 obtain⟨bf,rfl,hfi⟩:=h1 h0
 obtain⟨hmay,htr,hmo⟩:=hok
 unfold fO at sb
 obtain⟨⟨rc,ro,rv⟩,failed,tries,⟨sh,kind,key⟩,most,at_,⟨g0,⟨g1,g2,g3⟩,g4,g5,g6,g7,g8⟩,bU,cl,az⟩:=f
 simp only at sb h0 hfi hmay htr hmo hfo ho⊢
 subst h0
 obtain⟨pc1,hfc,-⟩:=hfi.ex
 obtain⟨A1,n1,cap1,hn1,fi,hrow1⟩:=hfc.ex
 have fp:=hfo.aO
 have hft:=hfo.tries
 have HSL:=Lib.hid hrow1
 have u4:=Lib.hid hn1
 have zv:=Lib.hid fp.1
 have iG:n1≤100000:=by omega
 have hK:¬ K0 s c:=fun e=>hcs e
 have HST:Hid (bq.sought t (⟨⟨rc,ro,rv⟩,failed,tries,⟨sh,kind,key⟩,most,0,⟨g0,⟨g1,g2,g3⟩,g4,g5,g6,g7,g8⟩,bU,cl,az⟩:bq)=(true,t.retire bU.aO,bq.aR (⟨⟨rc,ro,rv⟩,failed,tries,⟨sh,kind,key⟩,most,0,⟨g0,⟨g1,g2,g3⟩,g4,g5,g6,g7,g8⟩,bU,cl,az⟩:bq) bU.tries)):=Lib.hid (by unfold bq.sought;simp only;rw[if_pos ho])
 have Nz:Hid (bq.aR (⟨⟨rc,ro,rv⟩,failed,tries,⟨sh,kind,key⟩,most,0,⟨g0,⟨g1,g2,g3⟩,g4,g5,g6,g7,g8⟩,bU,cl,az⟩:bq) bU.tries=(⟨⟨rc,ro,rv⟩,true,tries+bU.tries,⟨sh,kind,key⟩,most,0,⟨g0,⟨g1,g2,g3⟩,g4,g5,g6,g7,g8⟩,bU,cl,az⟩:bq)):=Lib.hid (by unfold bq.aR;rw[ho])
 have pC:=fun W C' (k:fO W C' c sg b (.pointer (some ⟨bf,0,none⟩)) pc pp (⟨⟨rc,ro,rv⟩,failed,tries,⟨sh,kind,key⟩,most,0,⟨g0,⟨g1,g2,g3⟩,g4,g5,g6,g7,g8⟩,bU,cl,az⟩:bq))=>iF k bU.tries (by omega) (by simp only;omega)
 rw[ho] at pC
 have Ea:Hid (bq.over (⟨⟨rc,ro,rv⟩,failed,tries,⟨sh,kind,key⟩,most,0,⟨g0,⟨g1,g2,g3⟩,g4,g5,g6,g7,g8⟩,bU,cl,az⟩:bq) bU.tries=true):=Lib.hid ho
 clear ho hfo fp hn1 hrow1 h h1 h2 h3 hfc
 go_enter Tryz.func114,Tryz.ntmps114
 have fr:=Fr.refl C (ef c s) qR w
 have ag:=aF.refl w.heap.size C
 go_wp2_with fail
 revert fi;revert hfi;revert hst;revert sb;revert fr;refine bK ?_;intro fr sb hst hfi fi
 obtain⟨q1,q2,qi⟩:=bD sb fi
 refine aC sb fi 11 [] [0,1,2,3,4,5,6,7,8,9,10] [11] (by kernel_rfl) (by kernel_rfl) ?_
 refine af ?_;try simp only[ox]
 repeat(go_big_quiet_step (fail))
 refine wpQuiet_nil ?_
 refine ae _ _ _ (by kernel_rfl) ?_;try simp only[ox]
 clear qi q1 q2
 go_wp2_with fail
 have hsl:=(Sl.de HSL.out.own).step (Nat.le_refl _) (Below.refl w.heap.size w).drew
 refine(cE hst bU.aO A1 n1 cap1 _ hsl u4.out (by omega) iG zv.out).mono ?_;clear hst;rintro e w1 ⟨rfl,⟨C1,aG,hst⟩,hf⟩
 replace hfi:=hfi.mv hf aG (.inl hK)
 revert ag fr sb fi;refine kV hf aG (eP c s) gn ?_;clear hf aG;intro ag fr sb fi
 clear hsl
 go_wp2_with fail
 refine NoPanic.normal ?_
 go_wp2_with fail
 refine(pC _ _ sb).mono ?_
 rintro e w2 ⟨rfl,⟨C9,-,yB,og⟩,bV⟩
 try rw[yB] at og
 clear yB
 replace fr:=fr.trans (bV.mono (aU c s) (by decide)) ag
 replace hst:=hst.fr bV (.inr (by decide))
 replace hfi:=hfi.fr bV (.inr (by decide))
 replace fi:=fi.fr bV (.inr (by decide))
 have yC:SB w2 C1 c b 187 #[.pointer (some ⟨sg,0,none⟩),.int .i64 rc,.bool ro,.int .i64 rv,.bool true,.int .i64 (tries+bU.tries),.int .i64 sh,.int .i64 kind,.int .i64 key,.int .i64 most,.int .i64 0,.bool g0,.int .i64 g1,.bool g2,.int .i64 g3,.int .i64 g4,.int .u64 g5,.int .i64 g6,.bool g7,.int .i64 g8,.pointer (some ⟨bf,0,none⟩),pc,pp]:=by
  have:=og
  unfold fO bq.aR at this
  simpa [Ea.out] using this
 replace sb:=yC
 clear og yC bV
 go_wp2_with fail
 go_ret
 exact⟨by rw[HST.out];rfl,⟨_,ag,by rw[HST.out,Nz.out];exact⟨hst,⟨_,_,_,sb,fun _=>⟨bf,rfl,hfi⟩,fun h=>by simp at h,fun h=>by simp at h⟩⟩⟩,fr⟩
theorem oh {f:bq} (_:L.Ok) (hcs:c≠s) (hst:aq w C s sg L me t) (h:dr w C c sg b L f) (h0:f.at_=0) (hok:f.Ok 400000) (hfo:f.find.Ok 100000) (hle:t.ret.length≤99000) (ho:f.over f.find.tries=false) (hn0:(au f.task f.find.pos t.spare).now=true):Calls Tryz.prog 114 #[.pointer (some ⟨b,0,none⟩)] w (OW C (ef c s) qR (.bool (f.sought t).1) (fun w' C'=>aq w' C' s sg L me (f.sought t).2.1∧dr w' C' c sg b L (f.sought t).2.2) w):=by
 obtain⟨pf,pc,pp,sb,h1,h2,h3⟩:=h.ex
 obtain⟨bf,rfl,hfi⟩:=h1 h0
 obtain⟨hmay,htr,hmo⟩:=hok
 unfold fO at sb
 obtain⟨⟨rc,ro,rv⟩,failed,tries,⟨sh,kind,key⟩,most,at_,⟨g0,⟨g1,g2,g3⟩,g4,g5,g6,g7,g8⟩,bU,cl,az⟩:=f
 simp only at sb h0 hfi hmay htr hmo hfo ho hn0⊢
 subst h0
 obtain⟨pc1,hfc,-⟩:=hfi.ex
 obtain⟨A1,n1,cap1,hn1,fi,hrow1⟩:=hfc.ex
 have fp:=hfo.aO
 have hft:=hfo.tries
 have HSL:=Lib.hid hrow1
 have u4:=Lib.hid hn1
 have zv:=Lib.hid fp.1
 have iG:n1≤100000:=by omega
 have hK:¬ K0 s c:=fun e=>hcs e
 have hp:bU.pos.Ok:=⟨hfo.pw,hfo.cw⟩
 have ep:=fun W=>gl ⟨sh,kind,key⟩ bU.pos t.spare hp hmay W
 have hold:=fun (h:(au ⟨sh,kind,key⟩ bU.pos t.spare).now=false)=>dt (t:=⟨sh,kind,key⟩) (spare:=t.spare) hp h
 obtain⟨P,hP⟩:∃ P,au ⟨sh,kind,key⟩ bU.pos t.spare=P:=⟨_,rfl⟩
 simp only[hP] at ep hn0 hold
 have HST:Hid (bq.sought t (⟨⟨rc,ro,rv⟩,failed,tries,⟨sh,kind,key⟩,most,0,⟨g0,⟨g1,g2,g3⟩,g4,g5,g6,g7,g8⟩,bU,cl,az⟩:bq)=(true,t.retire bU.aO,(⟨P.res,false,tries+bU.tries,⟨sh,kind,key⟩,most,0,P,bU,cl,az⟩:bq))):=Lib.hid (by unfold bq.sought;simp only[hP];rw[if_neg (by rw[ho];decide)];rw[if_pos hn0];simp only[bq.aR,ho])
 clear hP hold
 obtain⟨p0,⟨p1,p2,p3⟩,p4,p5,p6,p7,p8⟩:=P
 simp only at hn0
 subst hn0
 simp only[cY.val] at ep
 have pC:=fun W C' (k:fO W C' c sg b (.pointer (some ⟨bf,0,none⟩)) pc pp (⟨⟨rc,ro,rv⟩,failed,tries,⟨sh,kind,key⟩,most,0,⟨g0,⟨g1,g2,g3⟩,g4,g5,g6,g7,g8⟩,bU,cl,az⟩:bq))=>iF k bU.tries (by omega) (by simp only;omega)
 rw[ho] at pC
 have Ea:Hid (bq.over (⟨⟨rc,ro,rv⟩,failed,tries,⟨sh,kind,key⟩,most,0,⟨g0,⟨g1,g2,g3⟩,g4,g5,g6,g7,g8⟩,bU,cl,az⟩:bq) bU.tries=false):=Lib.hid ho
 clear ho hfo fp hn1 hrow1 h h1 h2 h3 hfc
 go_enter Tryz.func114,Tryz.ntmps114
 have fr:=Fr.refl C (ef c s) qR w
 have ag:=aF.refl w.heap.size C
 go_wp2_with fail
 revert fi;revert hfi;revert hst;revert sb;revert fr;refine bK ?_;intro fr sb hst hfi fi
 obtain⟨q1,q2,qi⟩:=bD sb fi
 refine aC sb fi 11 [] [0,1,2,3,4,5,6,7,8,9,10] [11] (by kernel_rfl) (by kernel_rfl) ?_
 refine af ?_;try simp only[ox]
 repeat(go_big_quiet_step (fail))
 refine wpQuiet_nil ?_
 refine ae _ _ _ (by kernel_rfl) ?_;try simp only[ox]
 clear qi q1 q2
 go_wp2_with fail
 have hsl:=(Sl.de HSL.out.own).step (Nat.le_refl _) (Below.refl w.heap.size w).drew
 refine(cE hst bU.aO A1 n1 cap1 _ hsl u4.out (by omega) iG zv.out).mono ?_;clear hst;rintro e w1 ⟨rfl,⟨C1,aG,hst⟩,hf⟩
 replace hfi:=hfi.mv hf aG (.inl hK)
 revert ag fr sb fi;refine kV hf aG (eP c s) gn ?_;clear hf aG;intro ag fr sb fi
 clear hsl
 go_wp2_with fail
 refine NoPanic.normal ?_
 go_wp2_with fail
 refine(pC _ _ sb).mono ?_
 rintro e w2 ⟨rfl,⟨C9,-,yB,og⟩,bV⟩
 try rw[yB] at og
 clear yB
 replace fr:=fr.trans (bV.mono (aU c s) (by decide)) ag
 replace hst:=hst.fr bV (.inr (by decide))
 replace hfi:=hfi.fr bV (.inr (by decide))
 replace fi:=fi.fr bV (.inr (by decide))
 have yC:SB w2 C1 c b 187 #[.pointer (some ⟨sg,0,none⟩),.int .i64 rc,.bool ro,.int .i64 rv,.bool false,.int .i64 (tries+bU.tries),.int .i64 sh,.int .i64 kind,.int .i64 key,.int .i64 most,.int .i64 0,.bool g0,.int .i64 g1,.bool g2,.int .i64 g3,.int .i64 g4,.int .u64 g5,.int .i64 g6,.bool g7,.int .i64 g8,.pointer (some ⟨bf,0,none⟩),pc,pp]:=by
  have:=og
  unfold fO bq.aR at this
  simpa [Ea.out] using this
 replace sb:=yC
 clear og yC bV
 go_wp2_with fail
 obtain⟨A,n,cap,hn,st,hrow⟩:=hst.ex
 clear hn hrow
 revert st;revert fi;revert hfi;revert hst;revert sb;revert fr;refine bK ?_;intro fr sb hst hfi fi st
 obtain⟨q1,q2,q3,qi⟩:=db sb fi st
 refine a8 sb fi st 19 [] [0,1,2,3,4,5,6,7,8,9,10,11,12,13,14,15,16,17,18] [19,20,21,22] (by kernel_rfl) (by kernel_rfl) ?_
 refine af ?_;try simp only[ox]
 repeat(go_big_quiet_step (fail))
 refine wpQuiet_nil ?_
 refine ae _ _ _ (by kernel_rfl) ?_;try simp only[ox]
 clear qi q1 q2 q3
 go_wp2_with fail
 revert fr sb hst hfi fi st;refine bB (ep _) ?_;rintro e w3 rfl fr sb hst hfi fi st
 have z1:=And.intro sb (And.intro fi st)
 have hR:=kQ
 revert fr hst hfi fi st;refine zn sb [(11,.bool true),(12,.int .i64 p1),(13,.bool p2),(14,.int .i64 p3),(15,.int .i64 p4),(16,.int .u64 p5),(17,.int .i64 p6),(18,.bool p7),(19,.int .i64 p8)] (aU c s) ag ?_;clear sb;rintro w4 e1 fr sb hst hfi fi st
 simp only[stx,sx] at e1 sb
 go_wp2_with fail
 refine NoPanic.normal ?_
 go_wp2_with fail
 clear z1 e1 hR
 have z2:=And.intro sb (And.intro fi st)
 revert fr hst hfi fi st;refine st1 sb 1 (.int .i64 p1) (aU c s) ag ?_;clear sb;rintro w5 e1 fr sb hst hfi fi st
 simp only[sx] at sb
 have z3:=And.intro sb (And.intro fi st)
 revert fr hst hfi fi st;refine st1 sb 2 (.bool p2) (aU c s) ag ?_;clear sb;rintro w6 e2 fr sb hst hfi fi st
 simp only[sx] at sb
 have z4:=And.intro sb (And.intro fi st)
 revert fr hst hfi fi st;refine st1 sb 3 (.int .i64 p3) (aU c s) ag ?_;clear sb;rintro w7 e3 fr sb hst hfi fi st
 simp only[sx] at sb
 go_wp2_with fail
 simp only[e1,e2,e3]
 clear z2 e1 z3 e2 z4 e3
 go_ret
 exact⟨by rw[HST.out];rfl,⟨_,ag,by rw[HST.out];exact⟨hst,⟨_,_,_,sb,fun _=>⟨bf,rfl,hfi⟩,fun h=>by simp at h,fun h=>by simp at h⟩⟩⟩,fr⟩
theorem pD {f:bq} (_:L.Ok) (hcs:c≠s) (hst:aq w C s sg L me t) (h:dr w C c sg b L f) (h0:f.at_=0) (hok:f.Ok 400000) (hfo:f.find.Ok 100000) (hle:t.ret.length≤99000) (ho:f.over f.find.tries=false) (hn0:(au f.task f.find.pos t.spare).now=false) (hcl:(au f.task f.find.pos t.spare).claimed=true):Calls Tryz.prog 114 #[.pointer (some ⟨b,0,none⟩)] w (OW C (ef c s) qR (.bool (f.sought t).1) (fun w' C'=>aq w' C' s sg L me (f.sought t).2.1∧dr w' C' c sg b L (f.sought t).2.2) w):=by
 obtain⟨pf,pc,pp,sb,h1,h2,h3⟩:=h.ex
 obtain⟨bf,rfl,hfi⟩:=h1 h0
 obtain⟨hmay,htr,hmo⟩:=hok
 unfold fO at sb
 obtain⟨⟨rc,ro,rv⟩,failed,tries,⟨sh,kind,key⟩,most,at_,⟨g0,⟨g1,g2,g3⟩,g4,g5,g6,g7,g8⟩,bU,cl,az⟩:=f
 simp only at sb h0 hfi hmay htr hmo hfo ho hn0 hcl⊢
 subst h0
 obtain⟨pc1,hfc,-⟩:=hfi.ex
 obtain⟨A1,n1,cap1,hn1,fi,hrow1⟩:=hfc.ex
 have fp:=hfo.aO
 have hft:=hfo.tries
 have HSL:=Lib.hid hrow1
 have u4:=Lib.hid hn1
 have zv:=Lib.hid fp.1
 have iG:n1≤100000:=by omega
 have hK:¬ K0 s c:=fun e=>hcs e
 have hp:bU.pos.Ok:=⟨hfo.pw,hfo.cw⟩
 have ep:=fun W=>gl ⟨sh,kind,key⟩ bU.pos t.spare hp hmay W
 have hold:=fun (h:(au ⟨sh,kind,key⟩ bU.pos t.spare).now=false)=>dt (t:=⟨sh,kind,key⟩) (spare:=t.spare) hp h
 obtain⟨P,hP⟩:∃ P,au ⟨sh,kind,key⟩ bU.pos t.spare=P:=⟨_,rfl⟩
 simp only[hP] at ep hn0 hcl hold
 have HST:Hid (bq.sought t (⟨⟨rc,ro,rv⟩,failed,tries,⟨sh,kind,key⟩,most,0,⟨g0,⟨g1,g2,g3⟩,g4,g5,g6,g7,g8⟩,bU,cl,az⟩:bq)=(false,t.retire bU.aO,(⟨⟨rc,ro,rv⟩,false,tries+bU.tries,⟨sh,kind,key⟩,most,1,P,bU,.new P.addr,az⟩:bq))):=Lib.hid (by unfold bq.sought;simp only[hP];rw[if_neg (by rw[ho];decide)];rw[if_neg (by rw[hn0];decide),if_pos hcl];simp only[bq.aR,ho])
 have gT:=hold hn0
 have gF:=fun W=>eF P gT W
 rw[hcl] at gF
 clear hP hold
 obtain⟨p0,⟨p1,p2,p3⟩,p4,p5,p6,p7,p8⟩:=P
 simp only at hn0
 subst hn0
 simp only[cY.val] at ep gF
 have pC:=fun W C' (k:fO W C' c sg b (.pointer (some ⟨bf,0,none⟩)) pc pp (⟨⟨rc,ro,rv⟩,failed,tries,⟨sh,kind,key⟩,most,0,⟨g0,⟨g1,g2,g3⟩,g4,g5,g6,g7,g8⟩,bU,cl,az⟩:bq))=>iF k bU.tries (by omega) (by simp only;omega)
 rw[ho] at pC
 have Ea:Hid (bq.over (⟨⟨rc,ro,rv⟩,failed,tries,⟨sh,kind,key⟩,most,0,⟨g0,⟨g1,g2,g3⟩,g4,g5,g6,g7,g8⟩,bU,cl,az⟩:bq) bU.tries=false):=Lib.hid ho
 clear ho hfo fp hn1 hrow1 h h1 h2 h3 hfc hcl
 go_enter Tryz.func114,Tryz.ntmps114
 have fr:=Fr.refl C (ef c s) qR w
 have ag:=aF.refl w.heap.size C
 go_wp2_with fail
 revert fi;revert hfi;revert hst;revert sb;revert fr;refine bK ?_;intro fr sb hst hfi fi
 obtain⟨q1,q2,qi⟩:=bD sb fi
 refine aC sb fi 11 [] [0,1,2,3,4,5,6,7,8,9,10] [11] (by kernel_rfl) (by kernel_rfl) ?_
 refine af ?_;try simp only[ox]
 repeat(go_big_quiet_step (fail))
 refine wpQuiet_nil ?_
 refine ae _ _ _ (by kernel_rfl) ?_;try simp only[ox]
 clear qi q1 q2
 go_wp2_with fail
 have hsl:=(Sl.de HSL.out.own).step (Nat.le_refl _) (Below.refl w.heap.size w).drew
 refine(cE hst bU.aO A1 n1 cap1 _ hsl u4.out (by omega) iG zv.out).mono ?_;clear hst;rintro e w1 ⟨rfl,⟨C1,aG,hst⟩,hf⟩
 replace hfi:=hfi.mv hf aG (.inl hK)
 revert ag fr sb fi;refine kV hf aG (eP c s) gn ?_;clear hf aG;intro ag fr sb fi
 clear hsl
 go_wp2_with fail
 refine NoPanic.normal ?_
 go_wp2_with fail
 refine(pC _ _ sb).mono ?_
 rintro e w2 ⟨rfl,⟨C9,-,yB,og⟩,bV⟩
 try rw[yB] at og
 clear yB
 replace fr:=fr.trans (bV.mono (aU c s) (by decide)) ag
 replace hst:=hst.fr bV (.inr (by decide))
 replace hfi:=hfi.fr bV (.inr (by decide))
 replace fi:=fi.fr bV (.inr (by decide))
 have yC:SB w2 C1 c b 187 #[.pointer (some ⟨sg,0,none⟩),.int .i64 rc,.bool ro,.int .i64 rv,.bool false,.int .i64 (tries+bU.tries),.int .i64 sh,.int .i64 kind,.int .i64 key,.int .i64 most,.int .i64 0,.bool g0,.int .i64 g1,.bool g2,.int .i64 g3,.int .i64 g4,.int .u64 g5,.int .i64 g6,.bool g7,.int .i64 g8,.pointer (some ⟨bf,0,none⟩),pc,pp]:=by
  have:=og
  unfold fO bq.aR at this
  simpa [Ea.out] using this
 replace sb:=yC
 clear og yC bV
 go_wp2_with fail
 obtain⟨A,n,cap,hn,st,hrow⟩:=hst.ex
 clear hn hrow
 revert st;revert fi;revert hfi;revert hst;revert sb;revert fr;refine bK ?_;intro fr sb hst hfi fi st
 obtain⟨q1,q2,q3,qi⟩:=db sb fi st
 refine a8 sb fi st 19 [] [0,1,2,3,4,5,6,7,8,9,10,11,12,13,14,15,16,17,18] [19,20,21,22] (by kernel_rfl) (by kernel_rfl) ?_
 refine af ?_;try simp only[ox]
 repeat(go_big_quiet_step (fail))
 refine wpQuiet_nil ?_
 refine ae _ _ _ (by kernel_rfl) ?_;try simp only[ox]
 clear qi q1 q2 q3
 go_wp2_with fail
 revert fr sb hst hfi fi st;refine bB (ep _) ?_;rintro e w3 rfl fr sb hst hfi fi st
 have z1:=And.intro sb (And.intro fi st)
 have hR:=kQ
 revert fr hst hfi fi st;refine zn sb [(11,.bool false),(12,.int .i64 p1),(13,.bool p2),(14,.int .i64 p3),(15,.int .i64 p4),(16,.int .u64 p5),(17,.int .i64 p6),(18,.bool p7),(19,.int .i64 p8)] (aU c s) ag ?_;clear sb;rintro w4 e1 fr sb hst hfi fi st
 simp only[stx,sx] at e1 sb
 go_wp2_with fail
 refine NoPanic.normal ?_
 go_wp2_with fail
 clear z1 e1 hR
 revert fr hst hfi fi st sb;refine bB (gF _) ?_;rintro e w5 rfl fr hst hfi fi st sb
 go_wp2_with fail
 revert fr hst hfi fi st sb;refine bK ?_;intro fr hst hfi fi st sb
 obtain⟨q1,q2,q3,qi⟩:=db sb fi st
 refine a8 sb fi st 14 [] [0,1,2,3,4,5,6,7,8,9,10,11,12,13] [14,15,16,17,18,19,20] (by kernel_rfl) (by kernel_rfl) ?_
 refine af ?_;try simp only[ox]
 repeat(go_big_quiet_step (fail))
 refine wpQuiet_nil ?_
 refine ae _ _ _ (by kernel_rfl) ?_;try simp only[ox]
 clear qi q1 q2 q3
 go_wp2_with fail
 revert ag fr hst hfi fi st sb;refine gd (kA L p4 C1 c _) ?_;rintro w6 bc C6 ag fr hcl hst hfi fi st sb
 have z2:=And.intro sb (And.intro fi st)
 revert fr hcl hst hfi fi st;refine st1 sb 10 (.int .i64 1) (aU c s) ag ?_;clear sb;rintro w7 e1 fr sb hcl hst hfi fi st
 simp only[sx] at sb
 have z3:=And.intro sb (And.intro fi st)
 revert fr hcl hst hfi fi st;refine st1 sb 21 (.pointer (some ⟨bc,0,none⟩)) (aU c s) ag ?_;clear sb;rintro w8 e2 fr sb hcl hst hfi fi st
 simp only[sx] at sb
 go_wp2_with fail
 refine NoPanic.normal ?_
 go_wp2_with fail
 clear z2 e1 z3 e2
 go_ret
 exact⟨by rw[HST.out];rfl,⟨_,ag,by rw[HST.out];exact⟨hst,⟨_,_,_,sb,fun h=>by simp at h,fun _=>⟨bc,rfl,hcl⟩,fun h=>by simp at h⟩⟩⟩,fr⟩
theorem pE {f:bq} (_:L.Ok) (hcs:c≠s) (hst:aq w C s sg L me t) (h:dr w C c sg b L f) (h0:f.at_=0) (hok:f.Ok 400000) (hfo:f.find.Ok 100000) (hle:t.ret.length≤99000) (ho:f.over f.find.tries=false) (hn0:(au f.task f.find.pos t.spare).now=false) (hcl:(au f.task f.find.pos t.spare).claimed=false) (hlk:f.task.links=true):Calls Tryz.prog 114 #[.pointer (some ⟨b,0,none⟩)] w (OW C (ef c s) qR (.bool (f.sought t).1) (fun w' C'=>aq w' C' s sg L me (f.sought t).2.1∧dr w' C' c sg b L (f.sought t).2.2) w):=by
 obtain⟨pf,pc,pp,sb,h1,h2,h3⟩:=h.ex
 obtain⟨bf,rfl,hfi⟩:=h1 h0
 obtain⟨hmay,htr,hmo⟩:=hok
 unfold fO at sb
 obtain⟨⟨rc,ro,rv⟩,failed,tries,⟨sh,kind,key⟩,most,at_,⟨g0,⟨g1,g2,g3⟩,g4,g5,g6,g7,g8⟩,bU,cl,az⟩:=f
 simp only at sb h0 hfi hmay htr hmo hfo ho hn0 hcl hlk⊢
 subst h0
 obtain⟨pc1,hfc,-⟩:=hfi.ex
 obtain⟨A1,n1,cap1,hn1,fi,hrow1⟩:=hfc.ex
 have fp:=hfo.aO
 have hft:=hfo.tries
 have HSL:=Lib.hid hrow1
 have u4:=Lib.hid hn1
 have zv:=Lib.hid fp.1
 have iG:n1≤100000:=by omega
 have hK:¬ K0 s c:=fun e=>hcs e
 have hp:bU.pos.Ok:=⟨hfo.pw,hfo.cw⟩
 have ep:=fun W=>gl ⟨sh,kind,key⟩ bU.pos t.spare hp hmay W
 have hold:=fun (h:(au ⟨sh,kind,key⟩ bU.pos t.spare).now=false)=>dt (t:=⟨sh,kind,key⟩) (spare:=t.spare) hp h
 obtain⟨P,hP⟩:∃ P,au ⟨sh,kind,key⟩ bU.pos t.spare=P:=⟨_,rfl⟩
 simp only[hP] at ep hn0 hcl hold
 have HST:Hid (bq.sought t (⟨⟨rc,ro,rv⟩,failed,tries,⟨sh,kind,key⟩,most,0,⟨g0,⟨g1,g2,g3⟩,g4,g5,g6,g7,g8⟩,bU,cl,az⟩:bq)=(false,t.retire bU.aO,(⟨⟨rc,ro,rv⟩,false,tries+bU.tries,⟨sh,kind,key⟩,most,2,P,bU,cl,.new key bU.pos.curr⟩:bq))):=Lib.hid (by unfold bq.sought;simp only[hP];rw[if_neg (by rw[ho];decide)];rw[if_neg (by rw[hn0];decide),if_neg (by rw[hcl];decide),if_pos hlk];simp only[bq.aR,ho])
 have gT:=hold hn0
 have gF:=fun W=>eF P gT W
 rw[hcl] at gF
 have fZ:∀ W,Calls Tryz.prog 104 #[.agg #[.int .i64 sh,.int .i64 kind,.int .i64 key]] W fun e w'=>e= .returned (.bool true)∧Below W.heap.size W w':=fun W=>(bj ⟨sh,kind,key⟩ W).mono fun e w' h=>⟨h.1.trans (by rw[hlk]),h.2⟩
 clear hP hold
 obtain⟨p0,⟨p1,p2,p3⟩,p4,p5,p6,p7,p8⟩:=P
 simp only at hn0
 subst hn0
 simp only[cY.val] at ep gF
 have pC:=fun W C' (k:fO W C' c sg b (.pointer (some ⟨bf,0,none⟩)) pc pp (⟨⟨rc,ro,rv⟩,failed,tries,⟨sh,kind,key⟩,most,0,⟨g0,⟨g1,g2,g3⟩,g4,g5,g6,g7,g8⟩,bU,cl,az⟩:bq))=>iF k bU.tries (by omega) (by simp only;omega)
 rw[ho] at pC
 have Ea:Hid (bq.over (⟨⟨rc,ro,rv⟩,failed,tries,⟨sh,kind,key⟩,most,0,⟨g0,⟨g1,g2,g3⟩,g4,g5,g6,g7,g8⟩,bU,cl,az⟩:bq) bU.tries=false):=Lib.hid ho
 clear ho hfo fp hn1 hrow1 h h1 h2 h3 hfc hcl hlk
 go_enter Tryz.func114,Tryz.ntmps114
 have fr:=Fr.refl C (ef c s) qR w
 have ag:=aF.refl w.heap.size C
 go_wp2_with fail
 revert fi;revert hfi;revert hst;revert sb;revert fr;refine bK ?_;intro fr sb hst hfi fi
 obtain⟨q1,q2,qi⟩:=bD sb fi
 refine aC sb fi 11 [] [0,1,2,3,4,5,6,7,8,9,10] [11] (by kernel_rfl) (by kernel_rfl) ?_
 refine af ?_;try simp only[ox]
 repeat(go_big_quiet_step (fail))
 refine wpQuiet_nil ?_
 refine ae _ _ _ (by kernel_rfl) ?_;try simp only[ox]
 clear qi q1 q2
 go_wp2_with fail
 have hsl:=(Sl.de HSL.out.own).step (Nat.le_refl _) (Below.refl w.heap.size w).drew
 refine(cE hst bU.aO A1 n1 cap1 _ hsl u4.out (by omega) iG zv.out).mono ?_;clear hst;rintro e w1 ⟨rfl,⟨C1,aG,hst⟩,hf⟩
 replace hfi:=hfi.mv hf aG (.inl hK)
 revert ag fr sb fi;refine kV hf aG (eP c s) gn ?_;clear hf aG;intro ag fr sb fi
 clear hsl
 go_wp2_with fail
 refine NoPanic.normal ?_
 go_wp2_with fail
 refine(pC _ _ sb).mono ?_
 rintro e w2 ⟨rfl,⟨C9,-,yB,og⟩,bV⟩
 try rw[yB] at og
 clear yB
 replace fr:=fr.trans (bV.mono (aU c s) (by decide)) ag
 replace hst:=hst.fr bV (.inr (by decide))
 replace hfi:=hfi.fr bV (.inr (by decide))
 replace fi:=fi.fr bV (.inr (by decide))
 have yC:SB w2 C1 c b 187 #[.pointer (some ⟨sg,0,none⟩),.int .i64 rc,.bool ro,.int .i64 rv,.bool false,.int .i64 (tries+bU.tries),.int .i64 sh,.int .i64 kind,.int .i64 key,.int .i64 most,.int .i64 0,.bool g0,.int .i64 g1,.bool g2,.int .i64 g3,.int .i64 g4,.int .u64 g5,.int .i64 g6,.bool g7,.int .i64 g8,.pointer (some ⟨bf,0,none⟩),pc,pp]:=by
  have:=og
  unfold fO bq.aR at this
  simpa [Ea.out] using this
 replace sb:=yC
 clear og yC bV
 go_wp2_with fail
 obtain⟨A,n,cap,hn,st,hrow⟩:=hst.ex
 clear hn hrow
 revert st;revert fi;revert hfi;revert hst;revert sb;revert fr;refine bK ?_;intro fr sb hst hfi fi st
 obtain⟨q1,q2,q3,qi⟩:=db sb fi st
 refine a8 sb fi st 19 [] [0,1,2,3,4,5,6,7,8,9,10,11,12,13,14,15,16,17,18] [19,20,21,22] (by kernel_rfl) (by kernel_rfl) ?_
 refine af ?_;try simp only[ox]
 repeat(go_big_quiet_step (fail))
 refine wpQuiet_nil ?_
 refine ae _ _ _ (by kernel_rfl) ?_;try simp only[ox]
 clear qi q1 q2 q3
 go_wp2_with fail
 revert fr sb hst hfi fi st;refine bB (ep _) ?_;rintro e w3 rfl fr sb hst hfi fi st
 have z1:=And.intro sb (And.intro fi st)
 have hR:=kQ
 revert fr hst hfi fi st;refine zn sb [(11,.bool false),(12,.int .i64 p1),(13,.bool p2),(14,.int .i64 p3),(15,.int .i64 p4),(16,.int .u64 p5),(17,.int .i64 p6),(18,.bool p7),(19,.int .i64 p8)] (aU c s) ag ?_;clear sb;rintro w4 e1 fr sb hst hfi fi st
 simp only[stx,sx] at e1 sb
 go_wp2_with fail
 refine NoPanic.normal ?_
 go_wp2_with fail
 clear z1 e1 hR
 revert fr hst hfi fi st sb;refine bB (gF _) ?_;rintro e w5 rfl fr hst hfi fi st sb
 go_wp2_with fail
 revert fr hst hfi fi st sb;refine bB (fZ _) ?_;rintro e w6 rfl fr hst hfi fi st sb
 go_wp2_with fail
 revert fr hst hfi fi st sb;refine bK ?_;intro fr hst hfi fi st sb
 obtain⟨q1,q2,q3,qi⟩:=db sb fi st
 refine a8 sb fi st 20 [] [0,1,2,3,4,5,6,7,8,9,10,11,12,13,14,15,16,17,18,19] [20,21,22,23,24,25,26] (by kernel_rfl) (by kernel_rfl) ?_
 refine af ?_;try simp only[ox]
 repeat(go_big_quiet_step (fail))
 refine wpQuiet_nil ?_
 refine ae _ _ _ (by kernel_rfl) ?_;try simp only[ox]
 clear qi q1 q2 q3
 go_wp2_with fail
 revert ag fr hst hfi fi st sb;refine gd (kW sg key bU.pos.curr C1 c _) ?_;rintro w7 bp C7 ag fr hpr hst hfi fi st sb
 have z2:=And.intro sb (And.intro fi st)
 revert fr hpr hst hfi fi st;refine st1 sb 10 (.int .i64 2) (aU c s) ag ?_;clear sb;rintro w8 e1 fr sb hpr hst hfi fi st
 simp only[sx] at sb
 have z3:=And.intro sb (And.intro fi st)
 revert fr hpr hst hfi fi st;refine st1 sb 22 (.pointer (some ⟨bp,0,none⟩)) (aU c s) ag ?_;clear sb;rintro w9 e2 fr sb hpr hst hfi fi st
 simp only[sx] at sb
 go_wp2_with fail
 refine NoPanic.normal ?_
 go_wp2_with fail
 clear z2 e1 z3 e2
 go_ret
 exact⟨by rw[HST.out];rfl,⟨_,ag,by rw[HST.out];exact⟨hst,⟨_,_,_,sb,fun h=>by simp at h,fun h=>by simp at h,fun _=>⟨bp,rfl,hpr⟩⟩⟩⟩,fr⟩
theorem pF {f:bq} (_:L.Ok) (hcs:c≠s) (hst:aq w C s sg L me t) (h:dr w C c sg b L f) (h0:f.at_=0) (hok:f.Ok 400000) (hfo:f.find.Ok 100000) (hle:t.ret.length≤99000) (ho:f.over f.find.tries=false) (hn0:(au f.task f.find.pos t.spare).now=false) (hcl:(au f.task f.find.pos t.spare).claimed=false) (hlk:f.task.links=false):Calls Tryz.prog 114 #[.pointer (some ⟨b,0,none⟩)] w (OW C (ef c s) qR (.bool (f.sought t).1) (fun w' C'=>aq w' C' s sg L me (f.sought t).2.1∧dr w' C' c sg b L (f.sought t).2.2) w):=by
 obtain⟨pf,pc,pp,sb,h1,h2,h3⟩:=h.ex
 obtain⟨bf,rfl,hfi⟩:=h1 h0
 obtain⟨hmay,htr,hmo⟩:=hok
 unfold fO at sb
 obtain⟨⟨rc,ro,rv⟩,failed,tries,⟨sh,kind,key⟩,most,at_,⟨g0,⟨g1,g2,g3⟩,g4,g5,g6,g7,g8⟩,bU,cl,az⟩:=f
 simp only at sb h0 hfi hmay htr hmo hfo ho hn0 hcl hlk⊢
 subst h0
 obtain⟨pc1,hfc,-⟩:=hfi.ex
 obtain⟨A1,n1,cap1,hn1,fi,hrow1⟩:=hfc.ex
 have fp:=hfo.aO
 have hft:=hfo.tries
 have HSL:=Lib.hid hrow1
 have u4:=Lib.hid hn1
 have zv:=Lib.hid fp.1
 have iG:n1≤100000:=by omega
 have hK:¬ K0 s c:=fun e=>hcs e
 have hp:bU.pos.Ok:=⟨hfo.pw,hfo.cw⟩
 have ep:=fun W=>gl ⟨sh,kind,key⟩ bU.pos t.spare hp hmay W
 have hold:=fun (h:(au ⟨sh,kind,key⟩ bU.pos t.spare).now=false)=>dt (t:=⟨sh,kind,key⟩) (spare:=t.spare) hp h
 obtain⟨P,hP⟩:∃ P,au ⟨sh,kind,key⟩ bU.pos t.spare=P:=⟨_,rfl⟩
 simp only[hP] at ep hn0 hcl hold
 have HST:Hid (bq.sought t (⟨⟨rc,ro,rv⟩,failed,tries,⟨sh,kind,key⟩,most,0,⟨g0,⟨g1,g2,g3⟩,g4,g5,g6,g7,g8⟩,bU,cl,az⟩:bq)=(false,t.retire bU.aO,(⟨⟨rc,ro,rv⟩,false,tries+bU.tries,⟨sh,kind,key⟩,most,3,P,bU,cl,az⟩:bq))):=Lib.hid (by unfold bq.sought;simp only[hP];rw[if_neg (by rw[ho];decide)];rw[if_neg (by rw[hn0];decide),if_neg (by rw[hcl];decide),if_neg (by rw[hlk];decide)];simp only[bq.aR,ho])
 have gT:=hold hn0
 have gF:=fun W=>eF P gT W
 rw[hcl] at gF
 have fZ:∀ W,Calls Tryz.prog 104 #[.agg #[.int .i64 sh,.int .i64 kind,.int .i64 key]] W fun e w'=>e= .returned (.bool false)∧Below W.heap.size W w':=fun W=>(bj ⟨sh,kind,key⟩ W).mono fun e w' h=>⟨h.1.trans (by rw[hlk]),h.2⟩
 clear hP hold
 obtain⟨p0,⟨p1,p2,p3⟩,p4,p5,p6,p7,p8⟩:=P
 simp only at hn0
 subst hn0
 simp only[cY.val] at ep gF
 have pC:=fun W C' (k:fO W C' c sg b (.pointer (some ⟨bf,0,none⟩)) pc pp (⟨⟨rc,ro,rv⟩,failed,tries,⟨sh,kind,key⟩,most,0,⟨g0,⟨g1,g2,g3⟩,g4,g5,g6,g7,g8⟩,bU,cl,az⟩:bq))=>iF k bU.tries (by omega) (by simp only;omega)
 rw[ho] at pC
 have Ea:Hid (bq.over (⟨⟨rc,ro,rv⟩,failed,tries,⟨sh,kind,key⟩,most,0,⟨g0,⟨g1,g2,g3⟩,g4,g5,g6,g7,g8⟩,bU,cl,az⟩:bq) bU.tries=false):=Lib.hid ho
 clear ho hfo fp hn1 hrow1 h h1 h2 h3 hfc hcl hlk
 go_enter Tryz.func114,Tryz.ntmps114
 have fr:=Fr.refl C (ef c s) qR w
 have ag:=aF.refl w.heap.size C
 go_wp2_with fail
 revert fi;revert hfi;revert hst;revert sb;revert fr;refine bK ?_;intro fr sb hst hfi fi
 obtain⟨q1,q2,qi⟩:=bD sb fi
 refine aC sb fi 11 [] [0,1,2,3,4,5,6,7,8,9,10] [11] (by kernel_rfl) (by kernel_rfl) ?_
 refine af ?_;try simp only[ox]
 repeat(go_big_quiet_step (fail))
 refine wpQuiet_nil ?_
 refine ae _ _ _ (by kernel_rfl) ?_;try simp only[ox]
 clear qi q1 q2
 go_wp2_with fail
 have hsl:=(Sl.de HSL.out.own).step (Nat.le_refl _) (Below.refl w.heap.size w).drew
 refine(cE hst bU.aO A1 n1 cap1 _ hsl u4.out (by omega) iG zv.out).mono ?_;clear hst;rintro e w1 ⟨rfl,⟨C1,aG,hst⟩,hf⟩
 replace hfi:=hfi.mv hf aG (.inl hK)
 revert ag fr sb fi;refine kV hf aG (eP c s) gn ?_;clear hf aG;intro ag fr sb fi
 clear hsl
 go_wp2_with fail
 refine NoPanic.normal ?_
 go_wp2_with fail
 refine(pC _ _ sb).mono ?_
 rintro e w2 ⟨rfl,⟨C9,-,yB,og⟩,bV⟩
 try rw[yB] at og
 clear yB
 replace fr:=fr.trans (bV.mono (aU c s) (by decide)) ag
 replace hst:=hst.fr bV (.inr (by decide))
 replace hfi:=hfi.fr bV (.inr (by decide))
 replace fi:=fi.fr bV (.inr (by decide))
 have yC:SB w2 C1 c b 187 #[.pointer (some ⟨sg,0,none⟩),.int .i64 rc,.bool ro,.int .i64 rv,.bool false,.int .i64 (tries+bU.tries),.int .i64 sh,.int .i64 kind,.int .i64 key,.int .i64 most,.int .i64 0,.bool g0,.int .i64 g1,.bool g2,.int .i64 g3,.int .i64 g4,.int .u64 g5,.int .i64 g6,.bool g7,.int .i64 g8,.pointer (some ⟨bf,0,none⟩),pc,pp]:=by
  have:=og
  unfold fO bq.aR at this
  simpa [Ea.out] using this
 replace sb:=yC
 clear og yC bV
 go_wp2_with fail
 obtain⟨A,n,cap,hn,st,hrow⟩:=hst.ex
 clear hn hrow
 revert st;revert fi;revert hfi;revert hst;revert sb;revert fr;refine bK ?_;intro fr sb hst hfi fi st
 obtain⟨q1,q2,q3,qi⟩:=db sb fi st
 refine a8 sb fi st 19 [] [0,1,2,3,4,5,6,7,8,9,10,11,12,13,14,15,16,17,18] [19,20,21,22] (by kernel_rfl) (by kernel_rfl) ?_
 refine af ?_;try simp only[ox]
 repeat(go_big_quiet_step (fail))
 refine wpQuiet_nil ?_
 refine ae _ _ _ (by kernel_rfl) ?_;try simp only[ox]
 clear qi q1 q2 q3
 go_wp2_with fail
 revert fr sb hst hfi fi st;refine bB (ep _) ?_;rintro e w3 rfl fr sb hst hfi fi st
 have z1:=And.intro sb (And.intro fi st)
 have hR:=kQ
 revert fr hst hfi fi st;refine zn sb [(11,.bool false),(12,.int .i64 p1),(13,.bool p2),(14,.int .i64 p3),(15,.int .i64 p4),(16,.int .u64 p5),(17,.int .i64 p6),(18,.bool p7),(19,.int .i64 p8)] (aU c s) ag ?_;clear sb;rintro w4 e1 fr sb hst hfi fi st
 simp only[stx,sx] at e1 sb
 go_wp2_with fail
 refine NoPanic.normal ?_
 go_wp2_with fail
 clear z1 e1 hR
 revert fr hst hfi fi st sb;refine bB (gF _) ?_;rintro e w5 rfl fr hst hfi fi st sb
 go_wp2_with fail
 revert fr hst hfi fi st sb;refine bB (fZ _) ?_;rintro e w6 rfl fr hst hfi fi st sb
 have z2:=And.intro sb (And.intro fi st)
 revert fr hst hfi fi st;refine st1 sb 10 (.int .i64 3) (aU c s) ag ?_;clear sb;rintro w7 e1 fr sb hst hfi fi st
 simp only[sx] at sb
 go_wp2_with fail
 clear z2 e1
 go_ret
 exact⟨by rw[HST.out];rfl,⟨_,ag,by rw[HST.out];exact⟨hst,⟨_,_,_,sb,fun h=>by simp at h,fun h=>by simp at h,fun h=>by simp at h⟩⟩⟩,fr⟩
end Go.Proofs.YtbcnnhlpilmmbaaGreat
