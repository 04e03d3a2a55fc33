/- Texts that are wanted for PTopFull.
   Conditions: none. -/
import Derived.Test.YtbcnnhlpilmmbaaGreatJPTopFull11
set_option maxRecDepth 100000
set_option maxHeartbeats 6400000
namespace Go.Proofs.YtbcnnhlpilmmbaaGreat
open Go Go.RowKit
variable {w:World} {C:Nat→Nat} {c s sg b:Nat} {L:Ly} {me:Int} {t:cV}
theorem qH {f:bj} {pf pc pp:Value} (hst:al w C s sg L me t) (sb:fw w C c sg b pf pc pp f) (hmay:f.task.may=true) (hl:f.task.links=true):Calls Tryz.prog 113 #[.pointer (some ⟨b,0,none⟩)] w fun e w'=>e= .returned (.bool (f.task.links && decide (t.spare=0)))∧Below w.heap.size w w':=by
 obtain⟨⟨A,n,cap,hn,st,hrow⟩,hme,hsp,hsm⟩:=hst
 unfold fw at sb
 obtain⟨⟨rc,ro,rv⟩,failed,tries,⟨sh,kind,key⟩,most,at_,⟨g0,⟨g1,g2,g3⟩,g4,g5,g6,g7,g8⟩,find,cl,aD⟩:=f
 simp only at sb hmay hl⊢
 have HR:∀ W,Calls Tryz.prog 57 #[.int .i64 sh,.agg #[.int .i64 kind,.int .i64 key]] W fun e w'=>e= .returned (.bool true)∧Below W.heap.size W w':=fun W=>(bW sh kind key W).mono fun e w' h=>⟨h.1.trans (by rw[show Proofs.YtbcnnhlpilmmbaaGreat.may sh ⟨kind,key⟩=true from hmay]),h.2⟩
 have HL:∀ W,Calls Tryz.prog 104 #[.agg #[.int .i64 sh,.int .i64 kind,.int .i64 key]] W fun e w'=>e= .returned (.bool true)∧Below W.heap.size W w':=fun W=>(a4 ⟨sh,kind,key⟩ W).mono fun e w' h=>⟨h.1.trans (by rw[hl]),h.2⟩
 rw[hl]
 have hq:(t.spare==0)=decide (t.spare=0):=rfl
 clear hmay hl hn hrow hsm
 go_enter Tryz.func113,Tryz.ntmps113
 have fr:=Fr.refl C (fun _=>False) [] w
 have ag:=aB.refl w.heap.size C
 go_wp2_with fail
 revert st;revert sb;revert fr;refine bD ?_;intro fr sb st
 obtain⟨q1,q2,qi⟩:=bl sb st
 refine aA sb st 29 [([0,1,2,3,4,5,6,7,8,9],10),([11,12,13,14,15,16],17)] [18,19,20,21,22,23,24,25,26,27,28] [29] (by kernel_rfl) (by kernel_rfl) ?_
 refine ai ?_;simp only[ox];repeat(go_big_quiet_step (fail))
 refine di rfl (fun K' hK'=> ?_);go_simp
 revert fr sb st;with_reducible refine bk (HR _) ?_;rintro e w1 rfl fr sb st
 refine hK' _ _ (eJ sb st) ?_;clear hK' K'
 refine ai ?_;simp only[ox];repeat(go_big_quiet_step (fail))
 refine di rfl (fun K' hK'=> ?_);go_simp
 revert fr sb st;with_reducible refine bk (HL _) ?_;rintro e w2 rfl fr sb st
 refine hK' _ _ (eJ sb st) ?_;clear hK' K'
 refine af ?_;try simp only[ox]
 repeat(go_big_quiet_step (fail))
 refine wpQuiet_nil ?_
 refine ae _ _ _ (by kernel_rfl) ?_;try simp only[ox]
 clear qi q1 q2
 go_wp2_with fail
 refine NoPanic.normal ?_
 go_wp2_with fail
 go_ret
 exact⟨rfl,fr.b4⟩
theorem oO {f:bj} {pf pc pp:Value} (hst:al w C s sg L me t) (sb:fw w C c sg b pf pc pp f) (hmay:f.task.may=true) (hl:f.task.links=false):Calls Tryz.prog 113 #[.pointer (some ⟨b,0,none⟩)] w fun e w'=>e= .returned (.bool (f.task.links && decide (t.spare=0)))∧Below w.heap.size w w':=by
 obtain⟨⟨A,n,cap,hn,st,hrow⟩,hme,hsp,hsm⟩:=hst
 unfold fw at sb
 obtain⟨⟨rc,ro,rv⟩,failed,tries,⟨sh,kind,key⟩,most,at_,⟨g0,⟨g1,g2,g3⟩,g4,g5,g6,g7,g8⟩,find,cl,aD⟩:=f
 simp only at sb hmay hl⊢
 have HR:∀ W,Calls Tryz.prog 57 #[.int .i64 sh,.agg #[.int .i64 kind,.int .i64 key]] W fun e w'=>e= .returned (.bool true)∧Below W.heap.size W w':=fun W=>(bW sh kind key W).mono fun e w' h=>⟨h.1.trans (by rw[show Proofs.YtbcnnhlpilmmbaaGreat.may sh ⟨kind,key⟩=true from hmay]),h.2⟩
 have HL:∀ W,Calls Tryz.prog 104 #[.agg #[.int .i64 sh,.int .i64 kind,.int .i64 key]] W fun e w'=>e= .returned (.bool false)∧Below W.heap.size W w':=fun W=>(a4 ⟨sh,kind,key⟩ W).mono fun e w' h=>⟨h.1.trans (by rw[hl]),h.2⟩
 rw[hl]
 have hq:(t.spare==0)=decide (t.spare=0):=rfl
 clear hmay hl hn hrow hsm
 go_enter Tryz.func113,Tryz.ntmps113
 have fr:=Fr.refl C (fun _=>False) [] w
 have ag:=aB.refl w.heap.size C
 go_wp2_with fail
 revert st;revert sb;revert fr;refine bD ?_;intro fr sb st
 obtain⟨q1,q2,qi⟩:=bl sb st
 refine aA sb st 29 [([0,1,2,3,4,5,6,7,8,9],10),([11,12,13,14,15,16],17)] [18,19,20,21,22,23,24,25,26,27,28] [29] (by kernel_rfl) (by kernel_rfl) ?_
 refine ai ?_;simp only[ox];repeat(go_big_quiet_step (fail))
 refine di rfl (fun K' hK'=> ?_);go_simp
 revert fr sb st;with_reducible refine bk (HR _) ?_;rintro e w1 rfl fr sb st
 refine hK' _ _ (eJ sb st) ?_;clear hK' K'
 refine ai ?_;simp only[ox];repeat(go_big_quiet_step (fail))
 refine di rfl (fun K' hK'=> ?_);go_simp
 revert fr sb st;with_reducible refine bk (HL _) ?_;rintro e w2 rfl fr sb st
 refine hK' _ _ (eJ sb st) ?_;clear hK' K'
 refine af ?_;try simp only[ox]
 repeat(go_big_quiet_step (fail))
 refine wpQuiet_nil ?_
 refine ae _ _ _ (by kernel_rfl) ?_;try simp only[ox]
 clear qi q1 q2
 go_wp2_with fail
 refine NoPanic.normal ?_
 go_wp2_with fail
 go_ret
 exact⟨rfl,fr.b4⟩
theorem uA {f:bj} {pf pc pp:Value} (hst:al w C s sg L me t) (sb:fw w C c sg b pf pc pp f) (hmay:f.task.may=true):Calls Tryz.prog 113 #[.pointer (some ⟨b,0,none⟩)] w fun e w'=>e= .returned (.bool (f.task.links && decide (t.spare=0)))∧Below w.heap.size w w':=by
 cases hl:f.task.links with
 | true=>exact hl ▸ qH hst sb hmay hl
 | false=>exact hl ▸ oO hst sb hmay hl
variable {w':World}
theorem cO.tried {f:bj} {k:Int} {pf pc pp:Value} (h:cO w C c sg b L f) (hpf:fw w C c sg b pf pc pp f) (hs:fw w' C c sg b pf pc pp (f.aU k)) (hf:Fr C (K0 c) [some 187] w w'):cO w' C c sg b L (f.aU k):=by
 obtain⟨qf,qc,qp,g1,g2,g3,g4⟩:=h.ex
 have e1:=g1.blk
 have e2:=hpf.blk
 unfold a8 at e1 e2
 rw[e1] at e2
 injection e2 with e2
 injection e2 with e2 _ _
 simp at e2
 obtain⟨rfl,rfl,rfl⟩:=e2
 exact⟨qf,qc,qp,hs,fun e=>(g2 e).imp fun bf hb=>⟨hb.1,hb.2.fr hf (.inr (by decide))⟩,fun e=>(g3 e).imp fun bf hb=>⟨hb.1,hb.2.fr hf (.inr (by decide))⟩,fun e=>(g4 e).imp fun bf hb=>⟨hb.1,hb.2.fr hf (.inr (by decide))⟩⟩
theorem oP {f:bj} (hL:L.Ok) (hst:al w C s sg L me t) (h:cO w C c sg b L f) (hok:f.Ok 900000):Calls Tryz.prog 116 #[.pointer (some ⟨b,0,none⟩)] w (OW C (K0 c) [some 187] (.bool (f.again L me).1) (fun w' C'=>cO w' C' c sg b L (f.again L me).2) w):=by
 obtain⟨pf,pc,pp,sb,-,-,-⟩:=h.ex
 obtain⟨hmay,htr,hmo⟩:=hok
 have oQ:=ib sb 1 (by omega) (by omega)
 have hok2:(f.aU 1).Ok 1000000:=⟨hmay,by simp only[bj.aU];omega,hmo⟩
 have HA:=Lib.hid (fun w' hs hf=>h.tried (k:=1) (w':=w') sb hs hf)
 have hc:=SB.blk sb
 obtain⟨ov,hov⟩:∃ ov,f.over 1=ov:=⟨_,rfl⟩
 have HST:Hid (f.again L me=if ov then (true,f.aU 1) else (false,(f.aU 1).kn L me)):=Lib.hid (by unfold bj.again;rw[hov])
 rw[hov] at oQ
 clear hov sb h hc
 go_enter Tryz.func116,Tryz.ntmps116
 go_wp2_with fail
 refine oQ.mono ?_
 rintro e w2 ⟨rfl,⟨C2,-,rfl,sb⟩,hf⟩
 have hA:=HA.out w2 sb hf
 replace hst:=hst.fr hf (.inr (by decide))
 cases ov
 ·go_wp2_with fail
  refine(rC hL hst sb hok2).mono ?_
  rintro e w3 ⟨rfl,⟨C3,rD,own⟩,hf3⟩
  go_wp2_with fail
  go_ret
  exact⟨by rw[HST.out];rfl,⟨C3,fun g hg=>rD g (Nat.lt_of_lt_of_le hg hf.size),by rw[HST.out];exact own⟩,hf.eX hf3⟩
 ·go_wp2_with fail
  go_ret
  exact⟨by rw[HST.out];rfl,⟨C2,aB.refl _ _,by rw[HST.out];exact hA⟩,hf⟩
theorem fj {g:Nat} {x:Value} (h:a8 w g 3 #[x]):Sl w w.heap.size 1 (some ⟨g,0,none⟩) 1 [x]:=
 ⟨by simp,fun _=>rfl,fun _=>h.lt,fun j hj=>by
  obtain rfl:j=0:=by simp at hj;omega
  have:=h.cell 0
  simpa [bt,bY] using this⟩
def qb:List (Option TypeId):=[some 187,some 137,some 3]
theorem fW:∀ x,x∈AN→x∈qb:=by decide
theorem nI {f:bj} {pf pc pp:Value} (hst:al w C s sg L me t) (sb:fw w C c sg b pf pc pp f) (_:t.ret.length≤99000) (hl:f.task.links=true) (hp:f.plan.pops=0):Calls Tryz.prog 120 #[.pointer (some ⟨b,0,none⟩)] w (OW C (dK c s) qb (.tuple #[]) (fun w' C'=>al w' C' s sg L me (t.did f.task f.plan)∧fw w' C' c sg b pf pc pp { f with res:=f.plan.res }) w):=by
 unfold fw at sb
 obtain⟨⟨rc,ro,rv⟩,failed,tries,⟨sh,kind,key⟩,most,at_,⟨g0,⟨g1,g2,g3⟩,g4,g5,g6,g7,g8⟩,find,cl,aD⟩:=f
 simp only at sb hl hp
 have HL:∀ W,Calls Tryz.prog 104 #[.agg #[.int .i64 sh,.int .i64 kind,.int .i64 key]] W fun e w'=>e= .returned (.bool true)∧Below W.heap.size W w':=fun W=>(a4 ⟨sh,kind,key⟩ W).mono fun e w' h=>⟨h.1.trans (by rw[hl]),h.2⟩
 have HST:Hid (t.did ⟨sh,kind,key⟩ ⟨g0,⟨g1,g2,g3⟩,g4,g5,g6,g7,g8⟩={ t with spare:=0 }):=Lib.hid (by unfold cV.did;simp only[hl,hp];simp)
 subst hp
 clear hl
 go_enter Tryz.func120,Tryz.ntmps120
 have fr:=Fr.refl C (dK c s) qb w
 have ag:=aB.refl w.heap.size C
 have z1:=sb
 revert hst;revert fr;refine st1 sb 1 (.int .i64 g1) (aR c s) ag ?_;clear sb;rintro w1 e1 fr sb hst
 simp only[sx] at sb
 have z2:=sb
 revert fr hst;refine st1 sb 2 (.bool g2) (aR c s) ag ?_;clear sb;rintro w2 e2 fr sb hst
 simp only[sx] at sb
 have z3:=sb
 revert fr hst;refine st1 sb 3 (.int .i64 g3) (aR c s) ag ?_;clear sb;rintro w3 e3 fr sb hst
 simp only[sx] at sb
 go_wp2_with fail
 clear z1 e1 z2 e2 z3 e3
 revert fr hst sb;refine bk (HL _) ?_;rintro e w4 rfl fr hst sb
 go_wp2_with fail
 refine(mF hst).mono ?_;clear hst;rintro e w5 ⟨rfl,hst,hf⟩
 revert fr sb;refine dS hf (ej c s) fW ag ?_;clear hf;intro fr sb
 go_wp2_with fail
 go_end0
 exact⟨rfl,⟨_,ag,by rw[HST.out];exact hst,sb⟩,fr⟩
theorem nJ {f:bj} {pf pc pp:Value} (hst:al w C s sg L me t) (sb:fw w C c sg b pf pc pp f) (hle:t.ret.length≤99000) (hl:f.task.links=true) (hp:f.plan.pops≠0∧0≤f.plan.pops∧f.plan.pops≤1000):Calls Tryz.prog 120 #[.pointer (some ⟨b,0,none⟩)] w (OW C (dK c s) qb (.tuple #[]) (fun w' C'=>al w' C' s sg L me (t.did f.task f.plan)∧fw w' C' c sg b pf pc pp { f with res:=f.plan.res }) w):=by
 unfold fw at sb
 obtain⟨⟨rc,ro,rv⟩,failed,tries,⟨sh,kind,key⟩,most,at_,⟨g0,⟨g1,g2,g3⟩,g4,g5,g6,g7,g8⟩,find,cl,aD⟩:=f
 simp only at sb hl hp
 have HL:∀ W,Calls Tryz.prog 104 #[.agg #[.int .i64 sh,.int .i64 kind,.int .i64 key]] W fun e w'=>e= .returned (.bool true)∧Below W.heap.size W w':=fun W=>(a4 ⟨sh,kind,key⟩ W).mono fun e w' h=>⟨h.1.trans (by rw[hl]),h.2⟩
 have HST:Hid (t.did ⟨sh,kind,key⟩ ⟨g0,⟨g1,g2,g3⟩,g4,g5,g6,g7,g8⟩=({ t with spare:=0 }:cV).retire [g8]):=Lib.hid (by unfold cV.did;simp only[hl];simp[hp.1])
 obtain⟨hp1,hp2⟩:=hp
 have dp:(g8 !=0)=true:=bne_iff_ne.2 hp1
 clear hp1
 clear hl
 go_enter Tryz.func120,Tryz.ntmps120
 have fr:=Fr.refl C (dK c s) qb w
 have ag:=aB.refl w.heap.size C
 have z1:=sb
 revert hst;revert fr;refine st1 sb 1 (.int .i64 g1) (aR c s) ag ?_;clear sb;rintro w1 e1 fr sb hst
 simp only[sx] at sb
 have z2:=sb
 revert fr hst;refine st1 sb 2 (.bool g2) (aR c s) ag ?_;clear sb;rintro w2 e2 fr sb hst
 simp only[sx] at sb
 have z3:=sb
 revert fr hst;refine st1 sb 3 (.int .i64 g3) (aR c s) ag ?_;clear sb;rintro w3 e3 fr sb hst
 simp only[sx] at sb
 go_wp2_with fail
 clear z1 e1 z2 e2 z3 e3
 revert fr hst sb;refine bk (HL _) ?_;rintro e w4 rfl fr hst sb
 go_wp2_with fail
 refine(mF hst).mono ?_;clear hst;rintro e w5 ⟨rfl,hst,hf⟩
 revert fr sb;refine dS hf (ej c s) fW ag ?_;clear hf;intro fr sb
 go_wp2_with fail
 revert hst sb;revert fr;refine bD ?_;intro fr hst sb
 obtain⟨q1,qi⟩:=aV sb
 refine ar sb 10 [] [0,1,2,3,4,5,6,7,8] [9,10] (by kernel_rfl) (by kernel_rfl) ?_
 refine af ?_;try simp only[ox]
 repeat(go_big_quiet_step (fail))
 refine wpQuiet_nil ?_
 refine ay rfl (fun K' hK'=> ?_);go_simp
 revert fr hst sb;refine yI 3 #[.int .i64 g8] ?_;rintro w6 e1 EA fr sl hst sb;rw[e1]
 refine hK' _ _ (bZ sb) ?_;clear hK' K' e1
 refine ae _ _ _ (by kernel_rfl) ?_;try simp only[ox]
 clear qi q1
 go_wp2_with fail
 have hsl:Sl w6 w6.heap.size 1 (some ⟨w5.heap.size,0,none⟩) 1 (cv [g8]):=fj sl.blk
 clear sl
 refine(cj hst [g8] _ 1 1 _ hsl rfl (by first | exact Nat.le_trans hle (by omega) | (simp only;omega)) (by omega) (by intro x hx;simp at hx;subst hx;exact hp2)).mono ?_;clear hst;rintro e w7 ⟨rfl,⟨C7,aG,hst⟩,hf⟩
 revert ag fr sb;refine kx hf aG (ej c s) fW ?_;clear hf aG;intro ag fr sb
 go_wp2_with fail
 refine NoPanic.normal ?_
 go_wp2_with fail
 go_end0
 exact⟨rfl,⟨_,ag,by rw[HST.out];exact hst,sb⟩,fr⟩
theorem mJ {f:bj} {pf pc pp:Value} (hst:al w C s sg L me t) (sb:fw w C c sg b pf pc pp f) (_:t.ret.length≤99000) (hl:f.task.links=false) (hp:f.plan.pops=0):Calls Tryz.prog 120 #[.pointer (some ⟨b,0,none⟩)] w (OW C (dK c s) qb (.tuple #[]) (fun w' C'=>al w' C' s sg L me (t.did f.task f.plan)∧fw w' C' c sg b pf pc pp { f with res:=f.plan.res }) w):=by
 unfold fw at sb
 obtain⟨⟨rc,ro,rv⟩,failed,tries,⟨sh,kind,key⟩,most,at_,⟨g0,⟨g1,g2,g3⟩,g4,g5,g6,g7,g8⟩,find,cl,aD⟩:=f
 simp only at sb hl hp
 have HL:∀ W,Calls Tryz.prog 104 #[.agg #[.int .i64 sh,.int .i64 kind,.int .i64 key]] W fun e w'=>e= .returned (.bool false)∧Below W.heap.size W w':=fun W=>(a4 ⟨sh,kind,key⟩ W).mono fun e w' h=>⟨h.1.trans (by rw[hl]),h.2⟩
 have HST:Hid (t.did ⟨sh,kind,key⟩ ⟨g0,⟨g1,g2,g3⟩,g4,g5,g6,g7,g8⟩=t):=Lib.hid (by unfold cV.did;simp only[hl,hp];simp)
 subst hp
 clear hl
 go_enter Tryz.func120,Tryz.ntmps120
 have fr:=Fr.refl C (dK c s) qb w
 have ag:=aB.refl w.heap.size C
 have z1:=sb
 revert hst;revert fr;refine st1 sb 1 (.int .i64 g1) (aR c s) ag ?_;clear sb;rintro w1 e1 fr sb hst
 simp only[sx] at sb
 have z2:=sb
 revert fr hst;refine st1 sb 2 (.bool g2) (aR c s) ag ?_;clear sb;rintro w2 e2 fr sb hst
 simp only[sx] at sb
 have z3:=sb
 revert fr hst;refine st1 sb 3 (.int .i64 g3) (aR c s) ag ?_;clear sb;rintro w3 e3 fr sb hst
 simp only[sx] at sb
 go_wp2_with fail
 clear z1 e1 z2 e2 z3 e3
 revert fr hst sb;refine bk (HL _) ?_;rintro e w4 rfl fr hst sb
 go_wp2_with fail
 go_end0
 exact⟨rfl,⟨_,ag,by rw[HST.out];exact hst,sb⟩,fr⟩
theorem mK {f:bj} {pf pc pp:Value} (hst:al w C s sg L me t) (sb:fw w C c sg b pf pc pp f) (hle:t.ret.length≤99000) (hl:f.task.links=false) (hp:f.plan.pops≠0∧0≤f.plan.pops∧f.plan.pops≤1000):Calls Tryz.prog 120 #[.pointer (some ⟨b,0,none⟩)] w (OW C (dK c s) qb (.tuple #[]) (fun w' C'=>al w' C' s sg L me (t.did f.task f.plan)∧fw w' C' c sg b pf pc pp { f with res:=f.plan.res }) w):=by
 unfold fw at sb
 obtain⟨⟨rc,ro,rv⟩,failed,tries,⟨sh,kind,key⟩,most,at_,⟨g0,⟨g1,g2,g3⟩,g4,g5,g6,g7,g8⟩,find,cl,aD⟩:=f
 simp only at sb hl hp
 have HL:∀ W,Calls Tryz.prog 104 #[.agg #[.int .i64 sh,.int .i64 kind,.int .i64 key]] W fun e w'=>e= .returned (.bool false)∧Below W.heap.size W w':=fun W=>(a4 ⟨sh,kind,key⟩ W).mono fun e w' h=>⟨h.1.trans (by rw[hl]),h.2⟩
 have HST:Hid (t.did ⟨sh,kind,key⟩ ⟨g0,⟨g1,g2,g3⟩,g4,g5,g6,g7,g8⟩=t.retire [g8]):=Lib.hid (by unfold cV.did;simp only[hl];simp[hp.1])
 obtain⟨hp1,hp2⟩:=hp
 have dp:(g8 !=0)=true:=bne_iff_ne.2 hp1
 clear hp1
 clear hl
 go_enter Tryz.func120,Tryz.ntmps120
 have fr:=Fr.refl C (dK c s) qb w
 have ag:=aB.refl w.heap.size C
 have z1:=sb
 revert hst;revert fr;refine st1 sb 1 (.int .i64 g1) (aR c s) ag ?_;clear sb;rintro w1 e1 fr sb hst
 simp only[sx] at sb
 have z2:=sb
 revert fr hst;refine st1 sb 2 (.bool g2) (aR c s) ag ?_;clear sb;rintro w2 e2 fr sb hst
 simp only[sx] at sb
 have z3:=sb
 revert fr hst;refine st1 sb 3 (.int .i64 g3) (aR c s) ag ?_;clear sb;rintro w3 e3 fr sb hst
 simp only[sx] at sb
 go_wp2_with fail
 clear z1 e1 z2 e2 z3 e3
 revert fr hst sb;refine bk (HL _) ?_;rintro e w4 rfl fr hst sb
 go_wp2_with fail
 revert fr hst sb;refine bD ?_;intro fr hst sb
 obtain⟨q1,qi⟩:=aV sb
 refine ar sb 10 [] [0,1,2,3,4,5,6,7,8] [9,10] (by kernel_rfl) (by kernel_rfl) ?_
 refine af ?_;try simp only[ox]
 repeat(go_big_quiet_step (fail))
 refine wpQuiet_nil ?_
 refine ay rfl (fun K' hK'=> ?_);go_simp
 revert fr hst sb;refine yI 3 #[.int .i64 g8] ?_;rintro w5 e1 EA fr sl hst sb;rw[e1]
 refine hK' _ _ (bZ sb) ?_;clear hK' K' e1
 refine ae _ _ _ (by kernel_rfl) ?_;try simp only[ox]
 clear qi q1
 go_wp2_with fail
 have hsl:Sl w5 w5.heap.size 1 (some ⟨w4.heap.size,0,none⟩) 1 (cv [g8]):=fj sl.blk
 clear sl
 refine(cj hst [g8] _ 1 1 _ hsl rfl (by first | exact Nat.le_trans hle (by omega) | (simp only;omega)) (by omega) (by intro x hx;simp at hx;subst hx;exact hp2)).mono ?_;clear hst;rintro e w6 ⟨rfl,⟨C6,aG,hst⟩,hf⟩
 revert ag fr sb;refine kx hf aG (ej c s) fW ?_;clear hf aG;intro ag fr sb
 go_wp2_with fail
 refine NoPanic.normal ?_
 go_wp2_with fail
 go_end0
 exact⟨rfl,⟨_,ag,by rw[HST.out];exact hst,sb⟩,fr⟩
theorem yM {f:bj} {pf pc pp:Value} (hst:al w C s sg L me t) (sb:fw w C c sg b pf pc pp f) (hle:t.ret.length≤99000) (hpp:0≤f.plan.pops∧f.plan.pops≤1000):Calls Tryz.prog 120 #[.pointer (some ⟨b,0,none⟩)] w (OW C (dK c s) qb (.tuple #[]) (fun w' C'=>al w' C' s sg L me (t.did f.task f.plan)∧fw w' C' c sg b pf pc pp { f with res:=f.plan.res }) w):=by
 by_cases hp:f.plan.pops=0
 ·cases hl:f.task.links with
  | true=>exact nI hst sb hle hl hp
  | false=>exact mJ hst sb hle hl hp
 ·cases hl:f.task.links with
  | true=>exact nJ hst sb hle hl ⟨hp,hpp⟩
  | false=>exact mK hst sb hle hl ⟨hp,hpp⟩
theorem cP {t:bq} {p:Pos} {spare:Int} (hp:p.Ok) (_:(aw t p spare).now=false):0≤(aw t p spare).old∧(aw t p spare).old<18446744073709551616:=by
 unfold aw
 split
 ·exact hp.pw
 ·split
  ·exact hp.cw
  ·split
   ·unfold Pos.take
    split
    ·simp[told]
    ·split
     ·exact hp.pw
     ·exact hp.cw
   ·simp[told]
theorem mL {f:bj} (_:L.Ok) (hcs:c≠s) (hst:al w C s sg L me t) (h:cO w C c sg b L f) (h0:f.at_=0) (hok:f.Ok 400000) (hfo:f.find.Ok 100000) (hle:t.ret.length≤99000) (ho:f.over f.find.tries=true):Calls Tryz.prog 114 #[.pointer (some ⟨b,0,none⟩)] w (OW C (dK c s) qb (.bool (f.sought t).1) (fun w' C'=>al w' C' s sg L me (f.sought t).2.1∧cO w' C' c sg b L (f.sought t).2.2) w):=by
 obtain⟨pf,pc,pp,sb,h1,h2,h3⟩:=h.ex
 obtain⟨bf,rfl,hfi⟩:=h1 h0
 obtain⟨hmay,htr,hmo⟩:=hok
 unfold fw at sb
 obtain⟨⟨rc,ro,rv⟩,failed,tries,⟨sh,kind,key⟩,most,at_,⟨g0,⟨g1,g2,g3⟩,g4,g5,g6,g7,g8⟩,bT,cl,aD⟩:=f
 simp only at sb h0 hfi hmay htr hmo hfo ho⊢
 subst h0
 obtain⟨pc1,hfc,-⟩:=hfi.ex
 obtain⟨A1,n1,cap1,hn1,fi,hrow1⟩:=hfc.ex
 have eV:=hfo.aQ
 have hft:=hfo.tries
 have HSL:=Lib.hid hrow1
 have uw:=Lib.hid hn1
 have yN:=Lib.hid eV.1
 have ic:n1≤100000:=by omega
 have hK:¬ K0 s c:=fun e=>hcs e
 have HST:Hid (bj.sought t (⟨⟨rc,ro,rv⟩,failed,tries,⟨sh,kind,key⟩,most,0,⟨g0,⟨g1,g2,g3⟩,g4,g5,g6,g7,g8⟩,bT,cl,aD⟩:bj)=(true,t.retire bT.aQ,bj.aU (⟨⟨rc,ro,rv⟩,failed,tries,⟨sh,kind,key⟩,most,0,⟨g0,⟨g1,g2,g3⟩,g4,g5,g6,g7,g8⟩,bT,cl,aD⟩:bj) bT.tries)):=Lib.hid (by unfold bj.sought;simp only;rw[if_pos ho])
 have MS:Hid (bj.aU (⟨⟨rc,ro,rv⟩,failed,tries,⟨sh,kind,key⟩,most,0,⟨g0,⟨g1,g2,g3⟩,g4,g5,g6,g7,g8⟩,bT,cl,aD⟩:bj) bT.tries=(⟨⟨rc,ro,rv⟩,true,tries+bT.tries,⟨sh,kind,key⟩,most,0,⟨g0,⟨g1,g2,g3⟩,g4,g5,g6,g7,g8⟩,bT,cl,aD⟩:bj)):=Lib.hid (by unfold bj.aU;rw[ho])
 have oQ:=fun W C' (k:fw W C' c sg b (.pointer (some ⟨bf,0,none⟩)) pc pp (⟨⟨rc,ro,rv⟩,failed,tries,⟨sh,kind,key⟩,most,0,⟨g0,⟨g1,g2,g3⟩,g4,g5,g6,g7,g8⟩,bT,cl,aD⟩:bj))=>ib k bT.tries (by omega) (by simp only;omega)
 rw[ho] at oQ
 have Dj:Hid (bj.over (⟨⟨rc,ro,rv⟩,failed,tries,⟨sh,kind,key⟩,most,0,⟨g0,⟨g1,g2,g3⟩,g4,g5,g6,g7,g8⟩,bT,cl,aD⟩:bj) bT.tries=true):=Lib.hid ho
 clear ho hfo eV hn1 hrow1 h h1 h2 h3 hfc
 go_enter Tryz.func114,Tryz.ntmps114
 have fr:=Fr.refl C (dK c s) qb w
 have ag:=aB.refl w.heap.size C
 go_wp2_with fail
 revert fi;revert hfi;revert hst;revert sb;revert fr;refine bD ?_;intro fr sb hst hfi fi
 obtain⟨q1,q2,qi⟩:=bl sb fi
 refine aA sb fi 11 [] [0,1,2,3,4,5,6,7,8,9,10] [11] (by kernel_rfl) (by kernel_rfl) ?_
 refine af ?_;try simp only[ox]
 repeat(go_big_quiet_step (fail))
 refine wpQuiet_nil ?_
 refine ae _ _ _ (by kernel_rfl) ?_;try simp only[ox]
 clear qi q1 q2
 go_wp2_with fail
 have hsl:=(Sl.cB HSL.out.own).step (Nat.le_refl _) (Below.refl w.heap.size w).drew
 refine(cj hst bT.aQ A1 n1 cap1 _ hsl uw.out (by omega) ic yN.out).mono ?_;clear hst;rintro e w1 ⟨rfl,⟨C1,aG,hst⟩,hf⟩
 replace hfi:=hfi.mv hf aG (.inl hK)
 revert ag fr sb fi;refine kx hf aG (ej c s) fW ?_;clear hf aG;intro ag fr sb fi
 clear hsl
 go_wp2_with fail
 refine NoPanic.normal ?_
 go_wp2_with fail
 refine(oQ _ _ sb).mono ?_
 rintro e w2 ⟨rfl,⟨C9,-,xP,nK⟩,bU⟩
 try rw[xP] at nK
 clear xP
 replace fr:=fr.trans (bU.mono (aR c s) (by decide)) ag
 replace hst:=hst.fr bU (.inr (by decide))
 replace hfi:=hfi.fr bU (.inr (by decide))
 replace fi:=fi.fr bU (.inr (by decide))
 have xQ:SB w2 C1 c b 187 #[.pointer (some ⟨sg,0,none⟩),.int .i64 rc,.bool ro,.int .i64 rv,.bool true,.int .i64 (tries+bT.tries),.int .i64 sh,.int .i64 kind,.int .i64 key,.int .i64 most,.int .i64 0,.bool g0,.int .i64 g1,.bool g2,.int .i64 g3,.int .i64 g4,.int .u64 g5,.int .i64 g6,.bool g7,.int .i64 g8,.pointer (some ⟨bf,0,none⟩),pc,pp]:=by
  have:=nK
  unfold fw bj.aU at this
  simpa [Dj.out] using this
 replace sb:=xQ
 clear nK xQ bU
 go_wp2_with fail
 go_ret
 exact⟨by rw[HST.out];rfl,⟨_,ag,by rw[HST.out,MS.out];exact⟨hst,⟨_,_,_,sb,fun _=>⟨bf,rfl,hfi⟩,fun h=>by simp at h,fun h=>by simp at h⟩⟩⟩,fr⟩
theorem nL {f:bj} (_:L.Ok) (hcs:c≠s) (hst:al w C s sg L me t) (h:cO w C c sg b L f) (h0:f.at_=0) (hok:f.Ok 400000) (hfo:f.find.Ok 100000) (hle:t.ret.length≤99000) (ho:f.over f.find.tries=false) (hn0:(aw f.task f.find.pos t.spare).now=true):Calls Tryz.prog 114 #[.pointer (some ⟨b,0,none⟩)] w (OW C (dK c s) qb (.bool (f.sought t).1) (fun w' C'=>al w' C' s sg L me (f.sought t).2.1∧cO w' C' c sg b L (f.sought t).2.2) w):=by
 obtain⟨pf,pc,pp,sb,h1,h2,h3⟩:=h.ex
 obtain⟨bf,rfl,hfi⟩:=h1 h0
 obtain⟨hmay,htr,hmo⟩:=hok
 unfold fw at sb
 obtain⟨⟨rc,ro,rv⟩,failed,tries,⟨sh,kind,key⟩,most,at_,⟨g0,⟨g1,g2,g3⟩,g4,g5,g6,g7,g8⟩,bT,cl,aD⟩:=f
 simp only at sb h0 hfi hmay htr hmo hfo ho hn0⊢
 subst h0
 obtain⟨pc1,hfc,-⟩:=hfi.ex
 obtain⟨A1,n1,cap1,hn1,fi,hrow1⟩:=hfc.ex
 have eV:=hfo.aQ
 have hft:=hfo.tries
 have HSL:=Lib.hid hrow1
 have uw:=Lib.hid hn1
 have yN:=Lib.hid eV.1
 have ic:n1≤100000:=by omega
 have hK:¬ K0 s c:=fun e=>hcs e
 have hp:bT.pos.Ok:=⟨hfo.pw,hfo.cw⟩
 have dP:=fun W=>fV ⟨sh,kind,key⟩ bT.pos t.spare hp hmay W
 have hold:=fun (h:(aw ⟨sh,kind,key⟩ bT.pos t.spare).now=false)=>cP (t:=⟨sh,kind,key⟩) (spare:=t.spare) hp h
 obtain⟨P,hP⟩:∃ P,aw ⟨sh,kind,key⟩ bT.pos t.spare=P:=⟨_,rfl⟩
 simp only[hP] at dP hn0 hold
 have HST:Hid (bj.sought t (⟨⟨rc,ro,rv⟩,failed,tries,⟨sh,kind,key⟩,most,0,⟨g0,⟨g1,g2,g3⟩,g4,g5,g6,g7,g8⟩,bT,cl,aD⟩:bj)=(true,t.retire bT.aQ,(⟨P.res,false,tries+bT.tries,⟨sh,kind,key⟩,most,0,P,bT,cl,aD⟩:bj))):=Lib.hid (by unfold bj.sought;simp only[hP];rw[if_neg (by rw[ho];decide)];rw[if_pos hn0];simp only[bj.aU,ho])
 clear hP hold
 obtain⟨p0,⟨p1,p2,p3⟩,p4,p5,p6,p7,p8⟩:=P
 simp only at hn0
 subst hn0
 simp only[dw.val] at dP
 have oQ:=fun W C' (k:fw W C' c sg b (.pointer (some ⟨bf,0,none⟩)) pc pp (⟨⟨rc,ro,rv⟩,failed,tries,⟨sh,kind,key⟩,most,0,⟨g0,⟨g1,g2,g3⟩,g4,g5,g6,g7,g8⟩,bT,cl,aD⟩:bj))=>ib k bT.tries (by omega) (by simp only;omega)
 rw[ho] at oQ
 have Dj:Hid (bj.over (⟨⟨rc,ro,rv⟩,failed,tries,⟨sh,kind,key⟩,most,0,⟨g0,⟨g1,g2,g3⟩,g4,g5,g6,g7,g8⟩,bT,cl,aD⟩:bj) bT.tries=false):=Lib.hid ho
 clear ho hfo eV hn1 hrow1 h h1 h2 h3 hfc
 go_enter Tryz.func114,Tryz.ntmps114
 have fr:=Fr.refl C (dK c s) qb w
 have ag:=aB.refl w.heap.size C
 go_wp2_with fail
 revert fi;revert hfi;revert hst;revert sb;revert fr;refine bD ?_;intro fr sb hst hfi fi
 obtain⟨q1,q2,qi⟩:=bl sb fi
 refine aA sb fi 11 [] [0,1,2,3,4,5,6,7,8,9,10] [11] (by kernel_rfl) (by kernel_rfl) ?_
 refine af ?_;try simp only[ox]
 repeat(go_big_quiet_step (fail))
 refine wpQuiet_nil ?_
 refine ae _ _ _ (by kernel_rfl) ?_;try simp only[ox]
 clear qi q1 q2
 go_wp2_with fail
 have hsl:=(Sl.cB HSL.out.own).step (Nat.le_refl _) (Below.refl w.heap.size w).drew
 refine(cj hst bT.aQ A1 n1 cap1 _ hsl uw.out (by omega) ic yN.out).mono ?_;clear hst;rintro e w1 ⟨rfl,⟨C1,aG,hst⟩,hf⟩
 replace hfi:=hfi.mv hf aG (.inl hK)
 revert ag fr sb fi;refine kx hf aG (ej c s) fW ?_;clear hf aG;intro ag fr sb fi
 clear hsl
 go_wp2_with fail
 refine NoPanic.normal ?_
 go_wp2_with fail
 refine(oQ _ _ sb).mono ?_
 rintro e w2 ⟨rfl,⟨C9,-,xP,nK⟩,bU⟩
 try rw[xP] at nK
 clear xP
 replace fr:=fr.trans (bU.mono (aR c s) (by decide)) ag
 replace hst:=hst.fr bU (.inr (by decide))
 replace hfi:=hfi.fr bU (.inr (by decide))
 replace fi:=fi.fr bU (.inr (by decide))
 have xQ:SB w2 C1 c b 187 #[.pointer (some ⟨sg,0,none⟩),.int .i64 rc,.bool ro,.int .i64 rv,.bool false,.int .i64 (tries+bT.tries),.int .i64 sh,.int .i64 kind,.int .i64 key,.int .i64 most,.int .i64 0,.bool g0,.int .i64 g1,.bool g2,.int .i64 g3,.int .i64 g4,.int .u64 g5,.int .i64 g6,.bool g7,.int .i64 g8,.pointer (some ⟨bf,0,none⟩),pc,pp]:=by
  have:=nK
  unfold fw bj.aU at this
  simpa [Dj.out] using this
 replace sb:=xQ
 clear nK xQ bU
 go_wp2_with fail
 obtain⟨A,n,cap,hn,st,hrow⟩:=hst.ex
 clear hn hrow
 revert st;revert fi;revert hfi;revert hst;revert sb;revert fr;refine bD ?_;intro fr sb hst hfi fi st
 obtain⟨q1,q2,q3,qi⟩:=cF sb fi st
 refine aY sb fi st 19 [] [0,1,2,3,4,5,6,7,8,9,10,11,12,13,14,15,16,17,18] [19,20,21,22] (by kernel_rfl) (by kernel_rfl) ?_
 refine af ?_;try simp only[ox]
 repeat(go_big_quiet_step (fail))
 refine wpQuiet_nil ?_
 refine ae _ _ _ (by kernel_rfl) ?_;try simp only[ox]
 clear qi q1 q2 q3
 go_wp2_with fail
 revert fr sb hst hfi fi st;refine bk (dP _) ?_;rintro e w3 rfl fr sb hst hfi fi st
 have z1:=And.intro sb (And.intro fi st)
 have hR:=ko
 revert fr hst hfi fi st;refine yH sb [(11,.bool true),(12,.int .i64 p1),(13,.bool p2),(14,.int .i64 p3),(15,.int .i64 p4),(16,.int .u64 p5),(17,.int .i64 p6),(18,.bool p7),(19,.int .i64 p8)] (aR c s) ag ?_;clear sb;rintro w4 e1 fr sb hst hfi fi st
 simp only[stx,sx] at e1 sb
 go_wp2_with fail
 refine NoPanic.normal ?_
 go_wp2_with fail
 clear z1 e1 hR
 have z2:=And.intro sb (And.intro fi st)
 revert fr hst hfi fi st;refine st1 sb 1 (.int .i64 p1) (aR c s) ag ?_;clear sb;rintro w5 e1 fr sb hst hfi fi st
 simp only[sx] at sb
 have z3:=And.intro sb (And.intro fi st)
 revert fr hst hfi fi st;refine st1 sb 2 (.bool p2) (aR c s) ag ?_;clear sb;rintro w6 e2 fr sb hst hfi fi st
 simp only[sx] at sb
 have z4:=And.intro sb (And.intro fi st)
 revert fr hst hfi fi st;refine st1 sb 3 (.int .i64 p3) (aR c s) ag ?_;clear sb;rintro w7 e3 fr sb hst hfi fi st
 simp only[sx] at sb
 go_wp2_with fail
 simp only[e1,e2,e3]
 clear z2 e1 z3 e2 z4 e3
 go_ret
 exact⟨by rw[HST.out];rfl,⟨_,ag,by rw[HST.out];exact⟨hst,⟨_,_,_,sb,fun _=>⟨bf,rfl,hfi⟩,fun h=>by simp at h,fun h=>by simp at h⟩⟩⟩,fr⟩
theorem oR {f:bj} (_:L.Ok) (hcs:c≠s) (hst:al w C s sg L me t) (h:cO w C c sg b L f) (h0:f.at_=0) (hok:f.Ok 400000) (hfo:f.find.Ok 100000) (hle:t.ret.length≤99000) (ho:f.over f.find.tries=false) (hn0:(aw f.task f.find.pos t.spare).now=false) (hcl:(aw f.task f.find.pos t.spare).claimed=true):Calls Tryz.prog 114 #[.pointer (some ⟨b,0,none⟩)] w (OW C (dK c s) qb (.bool (f.sought t).1) (fun w' C'=>al w' C' s sg L me (f.sought t).2.1∧cO w' C' c sg b L (f.sought t).2.2) w):=by
 obtain⟨pf,pc,pp,sb,h1,h2,h3⟩:=h.ex
 obtain⟨bf,rfl,hfi⟩:=h1 h0
 obtain⟨hmay,htr,hmo⟩:=hok
 unfold fw at sb
 obtain⟨⟨rc,ro,rv⟩,failed,tries,⟨sh,kind,key⟩,most,at_,⟨g0,⟨g1,g2,g3⟩,g4,g5,g6,g7,g8⟩,bT,cl,aD⟩:=f
 simp only at sb h0 hfi hmay htr hmo hfo ho hn0 hcl⊢
 subst h0
 obtain⟨pc1,hfc,-⟩:=hfi.ex
 obtain⟨A1,n1,cap1,hn1,fi,hrow1⟩:=hfc.ex
 have eV:=hfo.aQ
 have hft:=hfo.tries
 have HSL:=Lib.hid hrow1
 have uw:=Lib.hid hn1
 have yN:=Lib.hid eV.1
 have ic:n1≤100000:=by omega
 have hK:¬ K0 s c:=fun e=>hcs e
 have hp:bT.pos.Ok:=⟨hfo.pw,hfo.cw⟩
 have dP:=fun W=>fV ⟨sh,kind,key⟩ bT.pos t.spare hp hmay W
 have hold:=fun (h:(aw ⟨sh,kind,key⟩ bT.pos t.spare).now=false)=>cP (t:=⟨sh,kind,key⟩) (spare:=t.spare) hp h
 obtain⟨P,hP⟩:∃ P,aw ⟨sh,kind,key⟩ bT.pos t.spare=P:=⟨_,rfl⟩
 simp only[hP] at dP hn0 hcl hold
 have HST:Hid (bj.sought t (⟨⟨rc,ro,rv⟩,failed,tries,⟨sh,kind,key⟩,most,0,⟨g0,⟨g1,g2,g3⟩,g4,g5,g6,g7,g8⟩,bT,cl,aD⟩:bj)=(false,t.retire bT.aQ,(⟨⟨rc,ro,rv⟩,false,tries+bT.tries,⟨sh,kind,key⟩,most,1,P,bT,.new P.addr,aD⟩:bj))):=Lib.hid (by unfold bj.sought;simp only[hP];rw[if_neg (by rw[ho];decide)];rw[if_neg (by rw[hn0];decide),if_pos hcl];simp only[bj.aU,ho])
 have gG:=hold hn0
 have gn:=fun W=>dW P gG W
 rw[hcl] at gn
 clear hP hold
 obtain⟨p0,⟨p1,p2,p3⟩,p4,p5,p6,p7,p8⟩:=P
 simp only at hn0
 subst hn0
 simp only[dw.val] at dP gn
 have oQ:=fun W C' (k:fw W C' c sg b (.pointer (some ⟨bf,0,none⟩)) pc pp (⟨⟨rc,ro,rv⟩,failed,tries,⟨sh,kind,key⟩,most,0,⟨g0,⟨g1,g2,g3⟩,g4,g5,g6,g7,g8⟩,bT,cl,aD⟩:bj))=>ib k bT.tries (by omega) (by simp only;omega)
 rw[ho] at oQ
 have Dj:Hid (bj.over (⟨⟨rc,ro,rv⟩,failed,tries,⟨sh,kind,key⟩,most,0,⟨g0,⟨g1,g2,g3⟩,g4,g5,g6,g7,g8⟩,bT,cl,aD⟩:bj) bT.tries=false):=Lib.hid ho
 clear ho hfo eV hn1 hrow1 h h1 h2 h3 hfc hcl
 go_enter Tryz.func114,Tryz.ntmps114
 have fr:=Fr.refl C (dK c s) qb w
 have ag:=aB.refl w.heap.size C
 go_wp2_with fail
 revert fi;revert hfi;revert hst;revert sb;revert fr;refine bD ?_;intro fr sb hst hfi fi
 obtain⟨q1,q2,qi⟩:=bl sb fi
 refine aA sb fi 11 [] [0,1,2,3,4,5,6,7,8,9,10] [11] (by kernel_rfl) (by kernel_rfl) ?_
 refine af ?_;try simp only[ox]
 repeat(go_big_quiet_step (fail))
 refine wpQuiet_nil ?_
 refine ae _ _ _ (by kernel_rfl) ?_;try simp only[ox]
 clear qi q1 q2
 go_wp2_with fail
 have hsl:=(Sl.cB HSL.out.own).step (Nat.le_refl _) (Below.refl w.heap.size w).drew
 refine(cj hst bT.aQ A1 n1 cap1 _ hsl uw.out (by omega) ic yN.out).mono ?_;clear hst;rintro e w1 ⟨rfl,⟨C1,aG,hst⟩,hf⟩
 replace hfi:=hfi.mv hf aG (.inl hK)
 revert ag fr sb fi;refine kx hf aG (ej c s) fW ?_;clear hf aG;intro ag fr sb fi
 clear hsl
 go_wp2_with fail
 refine NoPanic.normal ?_
 go_wp2_with fail
 refine(oQ _ _ sb).mono ?_
 rintro e w2 ⟨rfl,⟨C9,-,xP,nK⟩,bU⟩
 try rw[xP] at nK
 clear xP
 replace fr:=fr.trans (bU.mono (aR c s) (by decide)) ag
 replace hst:=hst.fr bU (.inr (by decide))
 replace hfi:=hfi.fr bU (.inr (by decide))
 replace fi:=fi.fr bU (.inr (by decide))
 have xQ:SB w2 C1 c b 187 #[.pointer (some ⟨sg,0,none⟩),.int .i64 rc,.bool ro,.int .i64 rv,.bool false,.int .i64 (tries+bT.tries),.int .i64 sh,.int .i64 kind,.int .i64 key,.int .i64 most,.int .i64 0,.bool g0,.int .i64 g1,.bool g2,.int .i64 g3,.int .i64 g4,.int .u64 g5,.int .i64 g6,.bool g7,.int .i64 g8,.pointer (some ⟨bf,0,none⟩),pc,pp]:=by
  have:=nK
  unfold fw bj.aU at this
  simpa [Dj.out] using this
 replace sb:=xQ
 clear nK xQ bU
 go_wp2_with fail
 obtain⟨A,n,cap,hn,st,hrow⟩:=hst.ex
 clear hn hrow
 revert st;revert fi;revert hfi;revert hst;revert sb;revert fr;refine bD ?_;intro fr sb hst hfi fi st
 obtain⟨q1,q2,q3,qi⟩:=cF sb fi st
 refine aY sb fi st 19 [] [0,1,2,3,4,5,6,7,8,9,10,11,12,13,14,15,16,17,18] [19,20,21,22] (by kernel_rfl) (by kernel_rfl) ?_
 refine af ?_;try simp only[ox]
 repeat(go_big_quiet_step (fail))
 refine wpQuiet_nil ?_
 refine ae _ _ _ (by kernel_rfl) ?_;try simp only[ox]
 clear qi q1 q2 q3
 go_wp2_with fail
 revert fr sb hst hfi fi st;refine bk (dP _) ?_;rintro e w3 rfl fr sb hst hfi fi st
 have z1:=And.intro sb (And.intro fi st)
 have hR:=ko
 revert fr hst hfi fi st;refine yH sb [(11,.bool false),(12,.int .i64 p1),(13,.bool p2),(14,.int .i64 p3),(15,.int .i64 p4),(16,.int .u64 p5),(17,.int .i64 p6),(18,.bool p7),(19,.int .i64 p8)] (aR c s) ag ?_;clear sb;rintro w4 e1 fr sb hst hfi fi st
 simp only[stx,sx] at e1 sb
 go_wp2_with fail
 refine NoPanic.normal ?_
 go_wp2_with fail
 clear z1 e1 hR
 revert fr hst hfi fi st sb;refine bk (gn _) ?_;rintro e w5 rfl fr hst hfi fi st sb
 go_wp2_with fail
 revert fr hst hfi fi st sb;refine bD ?_;intro fr hst hfi fi st sb
 obtain⟨q1,q2,q3,qi⟩:=cF sb fi st
 refine aY sb fi st 14 [] [0,1,2,3,4,5,6,7,8,9,10,11,12,13] [14,15,16,17,18,19,20] (by kernel_rfl) (by kernel_rfl) ?_
 refine af ?_;try simp only[ox]
 repeat(go_big_quiet_step (fail))
 refine wpQuiet_nil ?_
 refine ae _ _ _ (by kernel_rfl) ?_;try simp only[ox]
 clear qi q1 q2 q3
 go_wp2_with fail
 revert ag fr hst hfi fi st sb;refine fL (j4 L p4 C1 c _) ?_;rintro w6 bc C6 ag fr hcl hst hfi fi st sb
 have z2:=And.intro sb (And.intro fi st)
 revert fr hcl hst hfi fi st;refine st1 sb 10 (.int .i64 1) (aR c s) ag ?_;clear sb;rintro w7 e1 fr sb hcl hst hfi fi st
 simp only[sx] at sb
 have z3:=And.intro sb (And.intro fi st)
 revert fr hcl hst hfi fi st;refine st1 sb 21 (.pointer (some ⟨bc,0,none⟩)) (aR c s) ag ?_;clear sb;rintro w8 e2 fr sb hcl hst hfi fi st
 simp only[sx] at sb
 go_wp2_with fail
 refine NoPanic.normal ?_
 go_wp2_with fail
 clear z2 e1 z3 e2
 go_ret
 exact⟨by rw[HST.out];rfl,⟨_,ag,by rw[HST.out];exact⟨hst,⟨_,_,_,sb,fun h=>by simp at h,fun _=>⟨bc,rfl,hcl⟩,fun h=>by simp at h⟩⟩⟩,fr⟩
theorem oS {f:bj} (_:L.Ok) (hcs:c≠s) (hst:al w C s sg L me t) (h:cO w C c sg b L f) (h0:f.at_=0) (hok:f.Ok 400000) (hfo:f.find.Ok 100000) (hle:t.ret.length≤99000) (ho:f.over f.find.tries=false) (hn0:(aw f.task f.find.pos t.spare).now=false) (hcl:(aw f.task f.find.pos t.spare).claimed=false) (hlk:f.task.links=true):Calls Tryz.prog 114 #[.pointer (some ⟨b,0,none⟩)] w (OW C (dK c s) qb (.bool (f.sought t).1) (fun w' C'=>al w' C' s sg L me (f.sought t).2.1∧cO w' C' c sg b L (f.sought t).2.2) w):=by
 obtain⟨pf,pc,pp,sb,h1,h2,h3⟩:=h.ex
 obtain⟨bf,rfl,hfi⟩:=h1 h0
 obtain⟨hmay,htr,hmo⟩:=hok
 unfold fw at sb
 obtain⟨⟨rc,ro,rv⟩,failed,tries,⟨sh,kind,key⟩,most,at_,⟨g0,⟨g1,g2,g3⟩,g4,g5,g6,g7,g8⟩,bT,cl,aD⟩:=f
 simp only at sb h0 hfi hmay htr hmo hfo ho hn0 hcl hlk⊢
 subst h0
 obtain⟨pc1,hfc,-⟩:=hfi.ex
 obtain⟨A1,n1,cap1,hn1,fi,hrow1⟩:=hfc.ex
 have eV:=hfo.aQ
 have hft:=hfo.tries
 have HSL:=Lib.hid hrow1
 have uw:=Lib.hid hn1
 have yN:=Lib.hid eV.1
 have ic:n1≤100000:=by omega
 have hK:¬ K0 s c:=fun e=>hcs e
 have hp:bT.pos.Ok:=⟨hfo.pw,hfo.cw⟩
 have dP:=fun W=>fV ⟨sh,kind,key⟩ bT.pos t.spare hp hmay W
 have hold:=fun (h:(aw ⟨sh,kind,key⟩ bT.pos t.spare).now=false)=>cP (t:=⟨sh,kind,key⟩) (spare:=t.spare) hp h
 obtain⟨P,hP⟩:∃ P,aw ⟨sh,kind,key⟩ bT.pos t.spare=P:=⟨_,rfl⟩
 simp only[hP] at dP hn0 hcl hold
 have HST:Hid (bj.sought t (⟨⟨rc,ro,rv⟩,failed,tries,⟨sh,kind,key⟩,most,0,⟨g0,⟨g1,g2,g3⟩,g4,g5,g6,g7,g8⟩,bT,cl,aD⟩:bj)=(false,t.retire bT.aQ,(⟨⟨rc,ro,rv⟩,false,tries+bT.tries,⟨sh,kind,key⟩,most,2,P,bT,cl,.new key bT.pos.curr⟩:bj))):=Lib.hid (by unfold bj.sought;simp only[hP];rw[if_neg (by rw[ho];decide)];rw[if_neg (by rw[hn0];decide),if_neg (by rw[hcl];decide),if_pos hlk];simp only[bj.aU,ho])
 have gG:=hold hn0
 have gn:=fun W=>dW P gG W
 rw[hcl] at gn
 have fJ:∀ W,Calls Tryz.prog 104 #[.agg #[.int .i64 sh,.int .i64 kind,.int .i64 key]] W fun e w'=>e= .returned (.bool true)∧Below W.heap.size W w':=fun W=>(a4 ⟨sh,kind,key⟩ W).mono fun e w' h=>⟨h.1.trans (by rw[hlk]),h.2⟩
 clear hP hold
 obtain⟨p0,⟨p1,p2,p3⟩,p4,p5,p6,p7,p8⟩:=P
 simp only at hn0
 subst hn0
 simp only[dw.val] at dP gn
 have oQ:=fun W C' (k:fw W C' c sg b (.pointer (some ⟨bf,0,none⟩)) pc pp (⟨⟨rc,ro,rv⟩,failed,tries,⟨sh,kind,key⟩,most,0,⟨g0,⟨g1,g2,g3⟩,g4,g5,g6,g7,g8⟩,bT,cl,aD⟩:bj))=>ib k bT.tries (by omega) (by simp only;omega)
 rw[ho] at oQ
 have Dj:Hid (bj.over (⟨⟨rc,ro,rv⟩,failed,tries,⟨sh,kind,key⟩,most,0,⟨g0,⟨g1,g2,g3⟩,g4,g5,g6,g7,g8⟩,bT,cl,aD⟩:bj) bT.tries=false):=Lib.hid ho
 clear ho hfo eV hn1 hrow1 h h1 h2 h3 hfc hcl hlk
 go_enter Tryz.func114,Tryz.ntmps114
 have fr:=Fr.refl C (dK c s) qb w
 have ag:=aB.refl w.heap.size C
 go_wp2_with fail
 revert fi;revert hfi;revert hst;revert sb;revert fr;refine bD ?_;intro fr sb hst hfi fi
 obtain⟨q1,q2,qi⟩:=bl sb fi
 refine aA sb fi 11 [] [0,1,2,3,4,5,6,7,8,9,10] [11] (by kernel_rfl) (by kernel_rfl) ?_
 refine af ?_;try simp only[ox]
 repeat(go_big_quiet_step (fail))
 refine wpQuiet_nil ?_
 refine ae _ _ _ (by kernel_rfl) ?_;try simp only[ox]
 clear qi q1 q2
 go_wp2_with fail
 have hsl:=(Sl.cB HSL.out.own).step (Nat.le_refl _) (Below.refl w.heap.size w).drew
 refine(cj hst bT.aQ A1 n1 cap1 _ hsl uw.out (by omega) ic yN.out).mono ?_;clear hst;rintro e w1 ⟨rfl,⟨C1,aG,hst⟩,hf⟩
 replace hfi:=hfi.mv hf aG (.inl hK)
 revert ag fr sb fi;refine kx hf aG (ej c s) fW ?_;clear hf aG;intro ag fr sb fi
 clear hsl
 go_wp2_with fail
 refine NoPanic.normal ?_
 go_wp2_with fail
 refine(oQ _ _ sb).mono ?_
 rintro e w2 ⟨rfl,⟨C9,-,xP,nK⟩,bU⟩
 try rw[xP] at nK
 clear xP
 replace fr:=fr.trans (bU.mono (aR c s) (by decide)) ag
 replace hst:=hst.fr bU (.inr (by decide))
 replace hfi:=hfi.fr bU (.inr (by decide))
 replace fi:=fi.fr bU (.inr (by decide))
 have xQ:SB w2 C1 c b 187 #[.pointer (some ⟨sg,0,none⟩),.int .i64 rc,.bool ro,.int .i64 rv,.bool false,.int .i64 (tries+bT.tries),.int .i64 sh,.int .i64 kind,.int .i64 key,.int .i64 most,.int .i64 0,.bool g0,.int .i64 g1,.bool g2,.int .i64 g3,.int .i64 g4,.int .u64 g5,.int .i64 g6,.bool g7,.int .i64 g8,.pointer (some ⟨bf,0,none⟩),pc,pp]:=by
  have:=nK
  unfold fw bj.aU at this
  simpa [Dj.out] using this
 replace sb:=xQ
 clear nK xQ bU
 go_wp2_with fail
 obtain⟨A,n,cap,hn,st,hrow⟩:=hst.ex
 clear hn hrow
 revert st;revert fi;revert hfi;revert hst;revert sb;revert fr;refine bD ?_;intro fr sb hst hfi fi st
 obtain⟨q1,q2,q3,qi⟩:=cF sb fi st
 refine aY sb fi st 19 [] [0,1,2,3,4,5,6,7,8,9,10,11,12,13,14,15,16,17,18] [19,20,21,22] (by kernel_rfl) (by kernel_rfl) ?_
 refine af ?_;try simp only[ox]
 repeat(go_big_quiet_step (fail))
 refine wpQuiet_nil ?_
 refine ae _ _ _ (by kernel_rfl) ?_;try simp only[ox]
 clear qi q1 q2 q3
 go_wp2_with fail
 revert fr sb hst hfi fi st;refine bk (dP _) ?_;rintro e w3 rfl fr sb hst hfi fi st
 have z1:=And.intro sb (And.intro fi st)
 have hR:=ko
 revert fr hst hfi fi st;refine yH sb [(11,.bool false),(12,.int .i64 p1),(13,.bool p2),(14,.int .i64 p3),(15,.int .i64 p4),(16,.int .u64 p5),(17,.int .i64 p6),(18,.bool p7),(19,.int .i64 p8)] (aR c s) ag ?_;clear sb;rintro w4 e1 fr sb hst hfi fi st
 simp only[stx,sx] at e1 sb
 go_wp2_with fail
 refine NoPanic.normal ?_
 go_wp2_with fail
 clear z1 e1 hR
 revert fr hst hfi fi st sb;refine bk (gn _) ?_;rintro e w5 rfl fr hst hfi fi st sb
 go_wp2_with fail
 revert fr hst hfi fi st sb;refine bk (fJ _) ?_;rintro e w6 rfl fr hst hfi fi st sb
 go_wp2_with fail
 revert fr hst hfi fi st sb;refine bD ?_;intro fr hst hfi fi st sb
 obtain⟨q1,q2,q3,qi⟩:=cF sb fi st
 refine aY sb fi st 20 [] [0,1,2,3,4,5,6,7,8,9,10,11,12,13,14,15,16,17,18,19] [20,21,22,23,24,25,26] (by kernel_rfl) (by kernel_rfl) ?_
 refine af ?_;try simp only[ox]
 repeat(go_big_quiet_step (fail))
 refine wpQuiet_nil ?_
 refine ae _ _ _ (by kernel_rfl) ?_;try simp only[ox]
 clear qi q1 q2 q3
 go_wp2_with fail
 revert ag fr hst hfi fi st sb;refine fL (ky sg key bT.pos.curr C1 c _) ?_;rintro w7 bp C7 ag fr hpr hst hfi fi st sb
 have z2:=And.intro sb (And.intro fi st)
 revert fr hpr hst hfi fi st;refine st1 sb 10 (.int .i64 2) (aR c s) ag ?_;clear sb;rintro w8 e1 fr sb hpr hst hfi fi st
 simp only[sx] at sb
 have z3:=And.intro sb (And.intro fi st)
 revert fr hpr hst hfi fi st;refine st1 sb 22 (.pointer (some ⟨bp,0,none⟩)) (aR c s) ag ?_;clear sb;rintro w9 e2 fr sb hpr hst hfi fi st
 simp only[sx] at sb
 go_wp2_with fail
 refine NoPanic.normal ?_
 go_wp2_with fail
 clear z2 e1 z3 e2
 go_ret
 exact⟨by rw[HST.out];rfl,⟨_,ag,by rw[HST.out];exact⟨hst,⟨_,_,_,sb,fun h=>by simp at h,fun h=>by simp at h,fun _=>⟨bp,rfl,hpr⟩⟩⟩⟩,fr⟩
theorem oT {f:bj} (_:L.Ok) (hcs:c≠s) (hst:al w C s sg L me t) (h:cO w C c sg b L f) (h0:f.at_=0) (hok:f.Ok 400000) (hfo:f.find.Ok 100000) (hle:t.ret.length≤99000) (ho:f.over f.find.tries=false) (hn0:(aw f.task f.find.pos t.spare).now=false) (hcl:(aw f.task f.find.pos t.spare).claimed=false) (hlk:f.task.links=false):Calls Tryz.prog 114 #[.pointer (some ⟨b,0,none⟩)] w (OW C (dK c s) qb (.bool (f.sought t).1) (fun w' C'=>al w' C' s sg L me (f.sought t).2.1∧cO w' C' c sg b L (f.sought t).2.2) w):=by
 obtain⟨pf,pc,pp,sb,h1,h2,h3⟩:=h.ex
 obtain⟨bf,rfl,hfi⟩:=h1 h0
 obtain⟨hmay,htr,hmo⟩:=hok
 unfold fw at sb
 obtain⟨⟨rc,ro,rv⟩,failed,tries,⟨sh,kind,key⟩,most,at_,⟨g0,⟨g1,g2,g3⟩,g4,g5,g6,g7,g8⟩,bT,cl,aD⟩:=f
 simp only at sb h0 hfi hmay htr hmo hfo ho hn0 hcl hlk⊢
 subst h0
 obtain⟨pc1,hfc,-⟩:=hfi.ex
 obtain⟨A1,n1,cap1,hn1,fi,hrow1⟩:=hfc.ex
 have eV:=hfo.aQ
 have hft:=hfo.tries
 have HSL:=Lib.hid hrow1
 have uw:=Lib.hid hn1
 have yN:=Lib.hid eV.1
 have ic:n1≤100000:=by omega
 have hK:¬ K0 s c:=fun e=>hcs e
 have hp:bT.pos.Ok:=⟨hfo.pw,hfo.cw⟩
 have dP:=fun W=>fV ⟨sh,kind,key⟩ bT.pos t.spare hp hmay W
 have hold:=fun (h:(aw ⟨sh,kind,key⟩ bT.pos t.spare).now=false)=>cP (t:=⟨sh,kind,key⟩) (spare:=t.spare) hp h
 obtain⟨P,hP⟩:∃ P,aw ⟨sh,kind,key⟩ bT.pos t.spare=P:=⟨_,rfl⟩
 simp only[hP] at dP hn0 hcl hold
 have HST:Hid (bj.sought t (⟨⟨rc,ro,rv⟩,failed,tries,⟨sh,kind,key⟩,most,0,⟨g0,⟨g1,g2,g3⟩,g4,g5,g6,g7,g8⟩,bT,cl,aD⟩:bj)=(false,t.retire bT.aQ,(⟨⟨rc,ro,rv⟩,false,tries+bT.tries,⟨sh,kind,key⟩,most,3,P,bT,cl,aD⟩:bj))):=Lib.hid (by unfold bj.sought;simp only[hP];rw[if_neg (by rw[ho];decide)];rw[if_neg (by rw[hn0];decide),if_neg (by rw[hcl];decide),if_neg (by rw[hlk];decide)];simp only[bj.aU,ho])
 have gG:=hold hn0
 have gn:=fun W=>dW P gG W
 rw[hcl] at gn
 have fJ:∀ W,Calls Tryz.prog 104 #[.agg #[.int .i64 sh,.int .i64 kind,.int .i64 key]] W fun e w'=>e= .returned (.bool false)∧Below W.heap.size W w':=fun W=>(a4 ⟨sh,kind,key⟩ W).mono fun e w' h=>⟨h.1.trans (by rw[hlk]),h.2⟩
 clear hP hold
 obtain⟨p0,⟨p1,p2,p3⟩,p4,p5,p6,p7,p8⟩:=P
 simp only at hn0
 subst hn0
 simp only[dw.val] at dP gn
 have oQ:=fun W C' (k:fw W C' c sg b (.pointer (some ⟨bf,0,none⟩)) pc pp (⟨⟨rc,ro,rv⟩,failed,tries,⟨sh,kind,key⟩,most,0,⟨g0,⟨g1,g2,g3⟩,g4,g5,g6,g7,g8⟩,bT,cl,aD⟩:bj))=>ib k bT.tries (by omega) (by simp only;omega)
 rw[ho] at oQ
 have Dj:Hid (bj.over (⟨⟨rc,ro,rv⟩,failed,tries,⟨sh,kind,key⟩,most,0,⟨g0,⟨g1,g2,g3⟩,g4,g5,g6,g7,g8⟩,bT,cl,aD⟩:bj) bT.tries=false):=Lib.hid ho
 clear ho hfo eV hn1 hrow1 h h1 h2 h3 hfc hcl hlk
 go_enter Tryz.func114,Tryz.ntmps114
 have fr:=Fr.refl C (dK c s) qb w
 have ag:=aB.refl w.heap.size C
 go_wp2_with fail
 revert fi;revert hfi;revert hst;revert sb;revert fr;refine bD ?_;intro fr sb hst hfi fi
 obtain⟨q1,q2,qi⟩:=bl sb fi
 refine aA sb fi 11 [] [0,1,2,3,4,5,6,7,8,9,10] [11] (by kernel_rfl) (by kernel_rfl) ?_
 refine af ?_;try simp only[ox]
 repeat(go_big_quiet_step (fail))
 refine wpQuiet_nil ?_
 refine ae _ _ _ (by kernel_rfl) ?_;try simp only[ox]
 clear qi q1 q2
 go_wp2_with fail
 have hsl:=(Sl.cB HSL.out.own).step (Nat.le_refl _) (Below.refl w.heap.size w).drew
 refine(cj hst bT.aQ A1 n1 cap1 _ hsl uw.out (by omega) ic yN.out).mono ?_;clear hst;rintro e w1 ⟨rfl,⟨C1,aG,hst⟩,hf⟩
 replace hfi:=hfi.mv hf aG (.inl hK)
 revert ag fr sb fi;refine kx hf aG (ej c s) fW ?_;clear hf aG;intro ag fr sb fi
 clear hsl
 go_wp2_with fail
 refine NoPanic.normal ?_
 go_wp2_with fail
 refine(oQ _ _ sb).mono ?_
 rintro e w2 ⟨rfl,⟨C9,-,xP,nK⟩,bU⟩
 try rw[xP] at nK
 clear xP
 replace fr:=fr.trans (bU.mono (aR c s) (by decide)) ag
 replace hst:=hst.fr bU (.inr (by decide))
 replace hfi:=hfi.fr bU (.inr (by decide))
 replace fi:=fi.fr bU (.inr (by decide))
 have xQ:SB w2 C1 c b 187 #[.pointer (some ⟨sg,0,none⟩),.int .i64 rc,.bool ro,.int .i64 rv,.bool false,.int .i64 (tries+bT.tries),.int .i64 sh,.int .i64 kind,.int .i64 key,.int .i64 most,.int .i64 0,.bool g0,.int .i64 g1,.bool g2,.int .i64 g3,.int .i64 g4,.int .u64 g5,.int .i64 g6,.bool g7,.int .i64 g8,.pointer (some ⟨bf,0,none⟩),pc,pp]:=by
  have:=nK
  unfold fw bj.aU at this
  simpa [Dj.out] using this
 replace sb:=xQ
 clear nK xQ bU
 go_wp2_with fail
 obtain⟨A,n,cap,hn,st,hrow⟩:=hst.ex
 clear hn hrow
 revert st;revert fi;revert hfi;revert hst;revert sb;revert fr;refine bD ?_;intro fr sb hst hfi fi st
 obtain⟨q1,q2,q3,qi⟩:=cF sb fi st
 refine aY sb fi st 19 [] [0,1,2,3,4,5,6,7,8,9,10,11,12,13,14,15,16,17,18] [19,20,21,22] (by kernel_rfl) (by kernel_rfl) ?_
 refine af ?_;try simp only[ox]
 repeat(go_big_quiet_step (fail))
 refine wpQuiet_nil ?_
 refine ae _ _ _ (by kernel_rfl) ?_;try simp only[ox]
 clear qi q1 q2 q3
 go_wp2_with fail
 revert fr sb hst hfi fi st;refine bk (dP _) ?_;rintro e w3 rfl fr sb hst hfi fi st
 have z1:=And.intro sb (And.intro fi st)
 have hR:=ko
 revert fr hst hfi fi st;refine yH sb [(11,.bool false),(12,.int .i64 p1),(13,.bool p2),(14,.int .i64 p3),(15,.int .i64 p4),(16,.int .u64 p5),(17,.int .i64 p6),(18,.bool p7),(19,.int .i64 p8)] (aR c s) ag ?_;clear sb;rintro w4 e1 fr sb hst hfi fi st
 simp only[stx,sx] at e1 sb
 go_wp2_with fail
 refine NoPanic.normal ?_
 go_wp2_with fail
 clear z1 e1 hR
 revert fr hst hfi fi st sb;refine bk (gn _) ?_;rintro e w5 rfl fr hst hfi fi st sb
 go_wp2_with fail
 revert fr hst hfi fi st sb;refine bk (fJ _) ?_;rintro e w6 rfl fr hst hfi fi st sb
 have z2:=And.intro sb (And.intro fi st)
 revert fr hst hfi fi st;refine st1 sb 10 (.int .i64 3) (aR c s) ag ?_;clear sb;rintro w7 e1 fr sb hst hfi fi st
 simp only[sx] at sb
 go_wp2_with fail
 clear z2 e1
 go_ret
 exact⟨by rw[HST.out];rfl,⟨_,ag,by rw[HST.out];exact⟨hst,⟨_,_,_,sb,fun h=>by simp at h,fun h=>by simp at h,fun h=>by simp at h⟩⟩⟩,fr⟩
end Go.Proofs.YtbcnnhlpilmmbaaGreat
