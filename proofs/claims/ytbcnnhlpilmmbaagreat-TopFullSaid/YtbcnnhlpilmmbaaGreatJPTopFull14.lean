/- Texts that are wanted for PTopFull.
   Conditions: none. -/
import Derived.Test.YtbcnnhlpilmmbaaGreatJPTopFull13
set_option maxRecDepth 100000
set_option maxHeartbeats 6400000
namespace Go.Proofs.YtbcnnhlpilmmbaaGreat
open Go Go.RowKit
variable {w:World} {C:Nat→Nat} {c b:Nat} {M:ML} {m:Mm}
theorem qJ {x:bL} (hm:aj w C M m) (h:fN w C c b M.L x) (hq:(getD' (ld M m (M.L.desc x.u))).aM≠x.aM):Calls Tryz.prog 180 #[.pointer (some ⟨b,0,none⟩),.pointer (some ⟨M.b,0,none⟩)] w (Dr C c b M ((x.load (ld M m (M.L.desc x.u))).1,m,(x.load (ld M m (M.L.desc x.u))).2) w):=by
 obtain⟨popped,gave,u,⟨sh,kind,key⟩,aM,at_,found,word⟩:=x
 obtain⟨sb,hfd,hwd,hu,hpop⟩:=h
 simp only at sb hfd hwd hu hpop hq
 have cr:=bJ hm (M.L.desc u)
 obtain⟨v,hv⟩:∃ v,ld M m (M.L.desc u)=v:=⟨_,rfl⟩
 simp only[hv] at cr hq  ⊢
 have HV:=Lib.hid hv
 have HD:=fun (W:World) (k:SB W C c b 224 #[.int .i64 M.L.th,.int .i64 M.L.nd,.int .i64 popped,.int .i64 gave,.int .i64 u,.int .i64 sh,.int .i64 kind,.int .i64 key,.bool true,.int .i64 aM,.int .i64 at_,.int .u64 v,.int .u64 word])=>cg (x:=(⟨popped,gave,u,⟨sh,kind,key⟩,aM,at_,v,word⟩:bL)) ⟨k,cr,hwd,hu,hpop⟩
 obtain⟨D,hD⟩:∃ D,getD' v=D:=⟨_,rfl⟩
 simp only[hD] at HD hq
 obtain⟨da,dd,dv,dn,dm,ds,dl⟩:=D
 simp only at hq
 have HST:Hid ((⟨popped,gave,u,⟨sh,kind,key⟩,aM,at_,found,word⟩:bL).load v=(true,(⟨popped,gave,u,⟨sh,kind,key⟩,aM,at_,v,word⟩:bL))):=Lib.hid (by unfold bL.load;simp only[hD];rw[if_pos hq])
 have hf0:∀ W,(Instr.field 161 (Ds.vals ⟨da,dd,dv,dn,dm,ds,dl⟩) 0).run Tryz.prog W= .ok (.int .i64 da) W:=fun W=>js _ _ _ _ _ _ _ W
 have hf5:∀ W,(Instr.field 161 (Ds.vals ⟨da,dd,dv,dn,dm,ds,dl⟩) 5).run Tryz.prog W= .ok (.int .i64 ds) W:=fun W=>uE _ _ _ _ _ _ _ W
 have dq:(da !=aM)=true:=bne_iff_ne.2 hq
 clear hq hD hv
 go_enter Tryz.func180,Tryz.ntmps180
 have fr:=Fr.refl C (Kc c) vE w
 have ag:=aB.refl w.heap.size C
 go_wp2_with fail
 revert hm;revert sb;revert fr;refine bD ?_;intro fr sb hm
 obtain⟨q1,qi⟩:=aV sb
 refine ar sb 10 [] [0,1,2,3,4,5,6,7,8,9] [10,11,12,13,14] (by kernel_rfl) (by kernel_rfl) ?_
 refine af ?_;try simp only[ox]
 repeat(go_big_quiet_step (fail))
 refine wpQuiet_nil ?_
 refine ae _ _ _ (by kernel_rfl) ?_;try simp only[ox]
 clear qi q1
 go_wp2_with fail
 refine(cC M.L hm.ok u (by omega) _).mono ?_;rintro e w1 ⟨rfl,hb1⟩
 revert fr sb hm;refine dX hb1 ?_;intro fr sb hm
 go_wp2_with fail
 refine(aP hm (M.L.desc u)).mono ?_;clear hm;rintro e w2 ⟨rfl,hm,hf⟩
 rw[HV.out]
 revert fr sb;refine dS hf (aS c) fO ag ?_;clear hf;intro fr sb
 have z1:=sb
 revert hm;revert fr;refine st1 sb 11 (.int .u64 v) (aL c) ag ?_;clear sb;rintro w3 e1 fr sb hm
 simp only[sx] at sb
 go_wp2_with fail
 refine NoPanic.normal ?_
 go_wp2_with fail
 clear z1 e1
 revert fr hm sb;refine bD ?_;intro fr hm sb
 obtain⟨q1,qi⟩:=aV sb
 refine ar sb 13 [([0,1,2,3,4,5,8,9,10,11],6)] [7,12] [13] (by kernel_rfl) (by kernel_rfl) ?_
 refine ai ?_;simp only[ox];repeat(go_big_quiet_step (fail))
 refine di rfl (fun K' hK'=> ?_);go_simp
 ((with_reducible refine(HD _ sb).mono ?_);rintro e w4 ⟨rfl,hb4⟩)
 revert fr hm sb;refine dX hb4 ?_;intro fr hm sb
 refine hK' _ _ (bZ sb) ?_;clear hK' K'
 refine af ?_;try simp only[ox]
 repeat(go_big_quiet_step (fail))
 refine wpQuiet_nil ?_
 refine ae _ _ _ (by kernel_rfl) ?_;try simp only[ox]
 clear qi q1
 go_wp2_with fail
 refine NoPanic.normal ?_
 go_wp2_with fail
 go_ret
 exact⟨by rw[HST.out];rfl,hm,by rw[HST.out];exact⟨sb,cr,hwd,hu,hpop⟩,fr⟩
theorem uG {x:bL} (hm:aj w C M m) (h:fN w C c b M.L x) (hq:(getD' (ld M m (M.L.desc x.u))).aM=x.aM) (hs:(getD' (ld M m (M.L.desc x.u))).status=2):Calls Tryz.prog 180 #[.pointer (some ⟨b,0,none⟩),.pointer (some ⟨M.b,0,none⟩)] w (Dr C c b M ((x.load (ld M m (M.L.desc x.u))).1,m,(x.load (ld M m (M.L.desc x.u))).2) w):=by
 obtain⟨popped,gave,u,⟨sh,kind,key⟩,aM,at_,found,word⟩:=x
 obtain⟨sb,hfd,hwd,hu,hpop⟩:=h
 simp only at sb hfd hwd hu hpop hq hs
 have cr:=bJ hm (M.L.desc u)
 obtain⟨v,hv⟩:∃ v,ld M m (M.L.desc u)=v:=⟨_,rfl⟩
 simp only[hv] at cr hq hs⊢
 have HV:=Lib.hid hv
 have HD:=fun (W:World) (k:SB W C c b 224 #[.int .i64 M.L.th,.int .i64 M.L.nd,.int .i64 popped,.int .i64 gave,.int .i64 u,.int .i64 sh,.int .i64 kind,.int .i64 key,.bool true,.int .i64 aM,.int .i64 at_,.int .u64 v,.int .u64 word])=>cg (x:=(⟨popped,gave,u,⟨sh,kind,key⟩,aM,at_,v,word⟩:bL)) ⟨k,cr,hwd,hu,hpop⟩
 obtain⟨D,hD⟩:∃ D,getD' v=D:=⟨_,rfl⟩
 simp only[hD] at HD hq hs
 obtain⟨da,dd,dv,dn,dm,ds,dl⟩:=D
 simp only at hq hs
 have HST:Hid ((⟨popped,gave,u,⟨sh,kind,key⟩,aM,at_,found,word⟩:bL).load v=(false,(⟨popped,gave,u,⟨sh,kind,key⟩,aM,1,v,word⟩:bL))):=Lib.hid (by unfold bL.load;simp only[hD];rw[if_neg (by simp[hq]),if_pos hs])
 have hf0:∀ W,(Instr.field 161 (Ds.vals ⟨da,dd,dv,dn,dm,ds,dl⟩) 0).run Tryz.prog W= .ok (.int .i64 da) W:=fun W=>js _ _ _ _ _ _ _ W
 have hf5:∀ W,(Instr.field 161 (Ds.vals ⟨da,dd,dv,dn,dm,ds,dl⟩) 5).run Tryz.prog W= .ok (.int .i64 ds) W:=fun W=>uE _ _ _ _ _ _ _ W
 have dq:(da !=aM)=false:=by rw[hq];simp
 subst hs
 clear hq hD hv
 go_enter Tryz.func180,Tryz.ntmps180
 have fr:=Fr.refl C (Kc c) vE w
 have ag:=aB.refl w.heap.size C
 go_wp2_with fail
 revert hm;revert sb;revert fr;refine bD ?_;intro fr sb hm
 obtain⟨q1,qi⟩:=aV sb
 refine ar sb 10 [] [0,1,2,3,4,5,6,7,8,9] [10,11,12,13,14] (by kernel_rfl) (by kernel_rfl) ?_
 refine af ?_;try simp only[ox]
 repeat(go_big_quiet_step (fail))
 refine wpQuiet_nil ?_
 refine ae _ _ _ (by kernel_rfl) ?_;try simp only[ox]
 clear qi q1
 go_wp2_with fail
 refine(cC M.L hm.ok u (by omega) _).mono ?_;rintro e w1 ⟨rfl,hb1⟩
 revert fr sb hm;refine dX hb1 ?_;intro fr sb hm
 go_wp2_with fail
 refine(aP hm (M.L.desc u)).mono ?_;clear hm;rintro e w2 ⟨rfl,hm,hf⟩
 rw[HV.out]
 revert fr sb;refine dS hf (aS c) fO ag ?_;clear hf;intro fr sb
 have z1:=sb
 revert hm;revert fr;refine st1 sb 11 (.int .u64 v) (aL c) ag ?_;clear sb;rintro w3 e1 fr sb hm
 simp only[sx] at sb
 go_wp2_with fail
 refine NoPanic.normal ?_
 go_wp2_with fail
 clear z1 e1
 revert fr hm sb;refine bD ?_;intro fr hm sb
 obtain⟨q1,qi⟩:=aV sb
 refine ar sb 13 [([0,1,2,3,4,5,8,9,10,11],6)] [7,12] [13] (by kernel_rfl) (by kernel_rfl) ?_
 refine ai ?_;simp only[ox];repeat(go_big_quiet_step (fail))
 refine di rfl (fun K' hK'=> ?_);go_simp
 ((with_reducible refine(HD _ sb).mono ?_);rintro e w4 ⟨rfl,hb4⟩)
 revert fr hm sb;refine dX hb4 ?_;intro fr hm sb
 refine hK' _ _ (bZ sb) ?_;clear hK' K'
 refine af ?_;try simp only[ox]
 repeat(go_big_quiet_step (fail))
 refine wpQuiet_nil ?_
 refine ae _ _ _ (by kernel_rfl) ?_;try simp only[ox]
 clear qi q1
 go_wp2_with fail
 refine NoPanic.normal ?_
 go_wp2_with fail
 refine(HD _ sb).mono ?_;rintro e w5 ⟨rfl,hb5⟩
 revert fr hm sb;refine dX hb5 ?_;intro fr hm sb
 have z2:=sb
 revert fr hm;refine st1 sb 10 (.int .i64 1) (aL c) ag ?_;clear sb;rintro w6 e1 fr sb hm
 simp only[sx] at sb
 go_wp2_with fail
 clear z2 e1
 go_ret
 exact⟨by rw[HST.out];rfl,hm,by rw[HST.out];exact⟨sb,cr,hwd,hu,hpop⟩,fr⟩
theorem uH {x:bL} (hm:aj w C M m) (h:fN w C c b M.L x) (hq:(getD' (ld M m (M.L.desc x.u))).aM=x.aM) (hs:(getD' (ld M m (M.L.desc x.u))).status=3):Calls Tryz.prog 180 #[.pointer (some ⟨b,0,none⟩),.pointer (some ⟨M.b,0,none⟩)] w (Dr C c b M ((x.load (ld M m (M.L.desc x.u))).1,m,(x.load (ld M m (M.L.desc x.u))).2) w):=by
 obtain⟨popped,gave,u,⟨sh,kind,key⟩,aM,at_,found,word⟩:=x
 obtain⟨sb,hfd,hwd,hu,hpop⟩:=h
 simp only at sb hfd hwd hu hpop hq hs
 have cr:=bJ hm (M.L.desc u)
 obtain⟨v,hv⟩:∃ v,ld M m (M.L.desc u)=v:=⟨_,rfl⟩
 simp only[hv] at cr hq hs⊢
 have HV:=Lib.hid hv
 have HD:=fun (W:World) (k:SB W C c b 224 #[.int .i64 M.L.th,.int .i64 M.L.nd,.int .i64 popped,.int .i64 gave,.int .i64 u,.int .i64 sh,.int .i64 kind,.int .i64 key,.bool true,.int .i64 aM,.int .i64 at_,.int .u64 v,.int .u64 word])=>cg (x:=(⟨popped,gave,u,⟨sh,kind,key⟩,aM,at_,v,word⟩:bL)) ⟨k,cr,hwd,hu,hpop⟩
 obtain⟨D,hD⟩:∃ D,getD' v=D:=⟨_,rfl⟩
 simp only[hD] at HD hq hs
 obtain⟨da,dd,dv,dn,dm,ds,dl⟩:=D
 simp only at hq hs
 have HST:Hid ((⟨popped,gave,u,⟨sh,kind,key⟩,aM,at_,found,word⟩:bL).load v=(false,(⟨popped,gave,u,⟨sh,kind,key⟩,aM,5,v,word⟩:bL))):=Lib.hid (by unfold bL.load;simp only[hD];rw[if_neg (by simp[hq]),if_neg (by omega),if_pos hs])
 have hf0:∀ W,(Instr.field 161 (Ds.vals ⟨da,dd,dv,dn,dm,ds,dl⟩) 0).run Tryz.prog W= .ok (.int .i64 da) W:=fun W=>js _ _ _ _ _ _ _ W
 have hf5:∀ W,(Instr.field 161 (Ds.vals ⟨da,dd,dv,dn,dm,ds,dl⟩) 5).run Tryz.prog W= .ok (.int .i64 ds) W:=fun W=>uE _ _ _ _ _ _ _ W
 have dq:(da !=aM)=false:=by rw[hq];simp
 subst hs
 clear hq hD hv
 go_enter Tryz.func180,Tryz.ntmps180
 have fr:=Fr.refl C (Kc c) vE w
 have ag:=aB.refl w.heap.size C
 go_wp2_with fail
 revert hm;revert sb;revert fr;refine bD ?_;intro fr sb hm
 obtain⟨q1,qi⟩:=aV sb
 refine ar sb 10 [] [0,1,2,3,4,5,6,7,8,9] [10,11,12,13,14] (by kernel_rfl) (by kernel_rfl) ?_
 refine af ?_;try simp only[ox]
 repeat(go_big_quiet_step (fail))
 refine wpQuiet_nil ?_
 refine ae _ _ _ (by kernel_rfl) ?_;try simp only[ox]
 clear qi q1
 go_wp2_with fail
 refine(cC M.L hm.ok u (by omega) _).mono ?_;rintro e w1 ⟨rfl,hb1⟩
 revert fr sb hm;refine dX hb1 ?_;intro fr sb hm
 go_wp2_with fail
 refine(aP hm (M.L.desc u)).mono ?_;clear hm;rintro e w2 ⟨rfl,hm,hf⟩
 rw[HV.out]
 revert fr sb;refine dS hf (aS c) fO ag ?_;clear hf;intro fr sb
 have z1:=sb
 revert hm;revert fr;refine st1 sb 11 (.int .u64 v) (aL c) ag ?_;clear sb;rintro w3 e1 fr sb hm
 simp only[sx] at sb
 go_wp2_with fail
 refine NoPanic.normal ?_
 go_wp2_with fail
 clear z1 e1
 revert fr hm sb;refine bD ?_;intro fr hm sb
 obtain⟨q1,qi⟩:=aV sb
 refine ar sb 13 [([0,1,2,3,4,5,8,9,10,11],6)] [7,12] [13] (by kernel_rfl) (by kernel_rfl) ?_
 refine ai ?_;simp only[ox];repeat(go_big_quiet_step (fail))
 refine di rfl (fun K' hK'=> ?_);go_simp
 ((with_reducible refine(HD _ sb).mono ?_);rintro e w4 ⟨rfl,hb4⟩)
 revert fr hm sb;refine dX hb4 ?_;intro fr hm sb
 refine hK' _ _ (bZ sb) ?_;clear hK' K'
 refine af ?_;try simp only[ox]
 repeat(go_big_quiet_step (fail))
 refine wpQuiet_nil ?_
 refine ae _ _ _ (by kernel_rfl) ?_;try simp only[ox]
 clear qi q1
 go_wp2_with fail
 refine NoPanic.normal ?_
 go_wp2_with fail
 refine(HD _ sb).mono ?_;rintro e w5 ⟨rfl,hb5⟩
 revert fr hm sb;refine dX hb5 ?_;intro fr hm sb
 have z2:=sb
 revert fr hm;refine st1 sb 10 (.int .i64 5) (aL c) ag ?_;clear sb;rintro w6 e1 fr sb hm
 simp only[sx] at sb
 go_wp2_with fail
 clear z2 e1
 go_ret
 exact⟨by rw[HST.out];rfl,hm,by rw[HST.out];exact⟨sb,cr,hwd,hu,hpop⟩,fr⟩
theorem uI {x:bL} (hm:aj w C M m) (h:fN w C c b M.L x) (hq:(getD' (ld M m (M.L.desc x.u))).aM=x.aM) (hs:(getD' (ld M m (M.L.desc x.u))).status=4):Calls Tryz.prog 180 #[.pointer (some ⟨b,0,none⟩),.pointer (some ⟨M.b,0,none⟩)] w (Dr C c b M ((x.load (ld M m (M.L.desc x.u))).1,m,(x.load (ld M m (M.L.desc x.u))).2) w):=by
 obtain⟨popped,gave,u,⟨sh,kind,key⟩,aM,at_,found,word⟩:=x
 obtain⟨sb,hfd,hwd,hu,hpop⟩:=h
 simp only at sb hfd hwd hu hpop hq hs
 have cr:=bJ hm (M.L.desc u)
 obtain⟨v,hv⟩:∃ v,ld M m (M.L.desc u)=v:=⟨_,rfl⟩
 simp only[hv] at cr hq hs⊢
 have HV:=Lib.hid hv
 have HD:=fun (W:World) (k:SB W C c b 224 #[.int .i64 M.L.th,.int .i64 M.L.nd,.int .i64 popped,.int .i64 gave,.int .i64 u,.int .i64 sh,.int .i64 kind,.int .i64 key,.bool true,.int .i64 aM,.int .i64 at_,.int .u64 v,.int .u64 word])=>cg (x:=(⟨popped,gave,u,⟨sh,kind,key⟩,aM,at_,v,word⟩:bL)) ⟨k,cr,hwd,hu,hpop⟩
 obtain⟨D,hD⟩:∃ D,getD' v=D:=⟨_,rfl⟩
 simp only[hD] at HD hq hs
 obtain⟨da,dd,dv,dn,dm,ds,dl⟩:=D
 simp only at hq hs
 have HST:Hid ((⟨popped,gave,u,⟨sh,kind,key⟩,aM,at_,found,word⟩:bL).load v=(false,(⟨popped,gave,u,⟨sh,kind,key⟩,aM,8,v,word⟩:bL))):=Lib.hid (by unfold bL.load;simp only[hD];rw[if_neg (by simp[hq]),if_neg (by omega),if_neg (by omega),if_pos hs])
 have hf0:∀ W,(Instr.field 161 (Ds.vals ⟨da,dd,dv,dn,dm,ds,dl⟩) 0).run Tryz.prog W= .ok (.int .i64 da) W:=fun W=>js _ _ _ _ _ _ _ W
 have hf5:∀ W,(Instr.field 161 (Ds.vals ⟨da,dd,dv,dn,dm,ds,dl⟩) 5).run Tryz.prog W= .ok (.int .i64 ds) W:=fun W=>uE _ _ _ _ _ _ _ W
 have dq:(da !=aM)=false:=by rw[hq];simp
 subst hs
 clear hq hD hv
 go_enter Tryz.func180,Tryz.ntmps180
 have fr:=Fr.refl C (Kc c) vE w
 have ag:=aB.refl w.heap.size C
 go_wp2_with fail
 revert hm;revert sb;revert fr;refine bD ?_;intro fr sb hm
 obtain⟨q1,qi⟩:=aV sb
 refine ar sb 10 [] [0,1,2,3,4,5,6,7,8,9] [10,11,12,13,14] (by kernel_rfl) (by kernel_rfl) ?_
 refine af ?_;try simp only[ox]
 repeat(go_big_quiet_step (fail))
 refine wpQuiet_nil ?_
 refine ae _ _ _ (by kernel_rfl) ?_;try simp only[ox]
 clear qi q1
 go_wp2_with fail
 refine(cC M.L hm.ok u (by omega) _).mono ?_;rintro e w1 ⟨rfl,hb1⟩
 revert fr sb hm;refine dX hb1 ?_;intro fr sb hm
 go_wp2_with fail
 refine(aP hm (M.L.desc u)).mono ?_;clear hm;rintro e w2 ⟨rfl,hm,hf⟩
 rw[HV.out]
 revert fr sb;refine dS hf (aS c) fO ag ?_;clear hf;intro fr sb
 have z1:=sb
 revert hm;revert fr;refine st1 sb 11 (.int .u64 v) (aL c) ag ?_;clear sb;rintro w3 e1 fr sb hm
 simp only[sx] at sb
 go_wp2_with fail
 refine NoPanic.normal ?_
 go_wp2_with fail
 clear z1 e1
 revert fr hm sb;refine bD ?_;intro fr hm sb
 obtain⟨q1,qi⟩:=aV sb
 refine ar sb 13 [([0,1,2,3,4,5,8,9,10,11],6)] [7,12] [13] (by kernel_rfl) (by kernel_rfl) ?_
 refine ai ?_;simp only[ox];repeat(go_big_quiet_step (fail))
 refine di rfl (fun K' hK'=> ?_);go_simp
 ((with_reducible refine(HD _ sb).mono ?_);rintro e w4 ⟨rfl,hb4⟩)
 revert fr hm sb;refine dX hb4 ?_;intro fr hm sb
 refine hK' _ _ (bZ sb) ?_;clear hK' K'
 refine af ?_;try simp only[ox]
 repeat(go_big_quiet_step (fail))
 refine wpQuiet_nil ?_
 refine ae _ _ _ (by kernel_rfl) ?_;try simp only[ox]
 clear qi q1
 go_wp2_with fail
 refine NoPanic.normal ?_
 go_wp2_with fail
 refine(HD _ sb).mono ?_;rintro e w5 ⟨rfl,hb5⟩
 revert fr hm sb;refine dX hb5 ?_;intro fr hm sb
 have z2:=sb
 revert fr hm;refine st1 sb 10 (.int .i64 8) (aL c) ag ?_;clear sb;rintro w6 e1 fr sb hm
 simp only[sx] at sb
 go_wp2_with fail
 clear z2 e1
 go_ret
 exact⟨by rw[HST.out];rfl,hm,by rw[HST.out];exact⟨sb,cr,hwd,hu,hpop⟩,fr⟩
theorem uJ {x:bL} (hm:aj w C M m) (h:fN w C c b M.L x) (hq:(getD' (ld M m (M.L.desc x.u))).aM=x.aM) (hs:(getD' (ld M m (M.L.desc x.u))).status≠2∧(getD' (ld M m (M.L.desc x.u))).status≠3∧(getD' (ld M m (M.L.desc x.u))).status≠4):Calls Tryz.prog 180 #[.pointer (some ⟨b,0,none⟩),.pointer (some ⟨M.b,0,none⟩)] w (Dr C c b M ((x.load (ld M m (M.L.desc x.u))).1,m,(x.load (ld M m (M.L.desc x.u))).2) w):=by
 obtain⟨popped,gave,u,⟨sh,kind,key⟩,aM,at_,found,word⟩:=x
 obtain⟨sb,hfd,hwd,hu,hpop⟩:=h
 simp only at sb hfd hwd hu hpop hq hs
 have cr:=bJ hm (M.L.desc u)
 obtain⟨v,hv⟩:∃ v,ld M m (M.L.desc u)=v:=⟨_,rfl⟩
 simp only[hv] at cr hq hs⊢
 have HV:=Lib.hid hv
 have HD:=fun (W:World) (k:SB W C c b 224 #[.int .i64 M.L.th,.int .i64 M.L.nd,.int .i64 popped,.int .i64 gave,.int .i64 u,.int .i64 sh,.int .i64 kind,.int .i64 key,.bool true,.int .i64 aM,.int .i64 at_,.int .u64 v,.int .u64 word])=>cg (x:=(⟨popped,gave,u,⟨sh,kind,key⟩,aM,at_,v,word⟩:bL)) ⟨k,cr,hwd,hu,hpop⟩
 obtain⟨D,hD⟩:∃ D,getD' v=D:=⟨_,rfl⟩
 simp only[hD] at HD hq hs
 obtain⟨da,dd,dv,dn,dm,ds,dl⟩:=D
 simp only at hq hs
 have HST:Hid ((⟨popped,gave,u,⟨sh,kind,key⟩,aM,at_,found,word⟩:bL).load v=(true,(⟨popped,gave,u,⟨sh,kind,key⟩,aM,at_,v,word⟩:bL))):=Lib.hid (by unfold bL.load;simp only[hD];rw[if_neg (by simp[hq]),if_neg hs.1,if_neg hs.2.1,if_neg hs.2.2])
 have hf0:∀ W,(Instr.field 161 (Ds.vals ⟨da,dd,dv,dn,dm,ds,dl⟩) 0).run Tryz.prog W= .ok (.int .i64 da) W:=fun W=>js _ _ _ _ _ _ _ W
 have hf5:∀ W,(Instr.field 161 (Ds.vals ⟨da,dd,dv,dn,dm,ds,dl⟩) 5).run Tryz.prog W= .ok (.int .i64 ds) W:=fun W=>uE _ _ _ _ _ _ _ W
 have dq:(da !=aM)=false:=by rw[hq];simp
 have k2:(ds==2)=false:=beq_eq_false_iff_ne.2 hs.1
 have k3:(ds==3)=false:=beq_eq_false_iff_ne.2 hs.2.1
 have k4:(ds==4)=false:=beq_eq_false_iff_ne.2 hs.2.2
 clear hq hD hv hs
 go_enter Tryz.func180,Tryz.ntmps180
 have fr:=Fr.refl C (Kc c) vE w
 have ag:=aB.refl w.heap.size C
 go_wp2_with fail
 revert hm;revert sb;revert fr;refine bD ?_;intro fr sb hm
 obtain⟨q1,qi⟩:=aV sb
 refine ar sb 10 [] [0,1,2,3,4,5,6,7,8,9] [10,11,12,13,14] (by kernel_rfl) (by kernel_rfl) ?_
 refine af ?_;try simp only[ox]
 repeat(go_big_quiet_step (fail))
 refine wpQuiet_nil ?_
 refine ae _ _ _ (by kernel_rfl) ?_;try simp only[ox]
 clear qi q1
 go_wp2_with fail
 refine(cC M.L hm.ok u (by omega) _).mono ?_;rintro e w1 ⟨rfl,hb1⟩
 revert fr sb hm;refine dX hb1 ?_;intro fr sb hm
 go_wp2_with fail
 refine(aP hm (M.L.desc u)).mono ?_;clear hm;rintro e w2 ⟨rfl,hm,hf⟩
 rw[HV.out]
 revert fr sb;refine dS hf (aS c) fO ag ?_;clear hf;intro fr sb
 have z1:=sb
 revert hm;revert fr;refine st1 sb 11 (.int .u64 v) (aL c) ag ?_;clear sb;rintro w3 e1 fr sb hm
 simp only[sx] at sb
 go_wp2_with fail
 refine NoPanic.normal ?_
 go_wp2_with fail
 clear z1 e1
 revert fr hm sb;refine bD ?_;intro fr hm sb
 obtain⟨q1,qi⟩:=aV sb
 refine ar sb 13 [([0,1,2,3,4,5,8,9,10,11],6)] [7,12] [13] (by kernel_rfl) (by kernel_rfl) ?_
 refine ai ?_;simp only[ox];repeat(go_big_quiet_step (fail))
 refine di rfl (fun K' hK'=> ?_);go_simp
 ((with_reducible refine(HD _ sb).mono ?_);rintro e w4 ⟨rfl,hb4⟩)
 revert fr hm sb;refine dX hb4 ?_;intro fr hm sb
 refine hK' _ _ (bZ sb) ?_;clear hK' K'
 refine af ?_;try simp only[ox]
 repeat(go_big_quiet_step (fail))
 refine wpQuiet_nil ?_
 refine ae _ _ _ (by kernel_rfl) ?_;try simp only[ox]
 clear qi q1
 go_wp2_with fail
 refine NoPanic.normal ?_
 go_wp2_with fail
 refine(HD _ sb).mono ?_;rintro e w5 ⟨rfl,hb5⟩
 revert fr hm sb;refine dX hb5 ?_;intro fr hm sb
 go_wp2_with fail
 go_ret
 exact⟨by rw[HST.out];rfl,hm,by rw[HST.out];exact⟨sb,cr,hwd,hu,hpop⟩,fr⟩
theorem yQ {x:bL} (hm:aj w C M m) (h:fN w C c b M.L x):Calls Tryz.prog 180 #[.pointer (some ⟨b,0,none⟩),.pointer (some ⟨M.b,0,none⟩)] w (Dr C c b M ((x.load (ld M m (M.L.desc x.u))).1,m,(x.load (ld M m (M.L.desc x.u))).2) w):=by
 by_cases hq:(getD' (ld M m (M.L.desc x.u))).aM=x.aM
 ·by_cases h2:(getD' (ld M m (M.L.desc x.u))).status=2
  ·exact uG hm h hq h2
  ·by_cases h3:(getD' (ld M m (M.L.desc x.u))).status=3
   ·exact uH hm h hq h3
   ·by_cases h4:(getD' (ld M m (M.L.desc x.u))).status=4
    ·exact uI hm h hq h4
    ·exact uJ hm h hq ⟨h2,h3,h4⟩
 ·exact qJ hm h hq
structure Bd (C:Nat→Nat) (c b:Nat) (M:ML) (m':Mm) (x':bL) (w:World) (e:Ending) (w':World):Prop where
 ret:e= .returned (.tuple #[])
 mem:aj w' C M m'
 own:fN w' C c b M.L x'
 fr:Fr C (Kc c) vE w w'
theorem uK {x:bL} (hm:aj w C M m) (h:fN w C c b M.L x) (a1 a2 a3:Int) (hq:(aE (ld M m (getD' x.found).addr)).ver=(getD' x.found).ver) (hc0:(aE (ld M m (getD' x.found).addr)).claim=0):Calls Tryz.prog 181 #[.pointer (some ⟨b,0,none⟩),.pointer (some ⟨M.b,0,none⟩),.int .i64 a1,.int .i64 a2,.int .i64 a3] w (Bd C c b M m (x.look (ld M m (getD' x.found).addr) a1 a2 a3) w):=by
 obtain⟨popped,gave,u,⟨sh,kind,key⟩,aM,at_,found,word⟩:=x
 obtain⟨sb,hfd,hwd,hu,hpop⟩:=h
 simp only at sb hfd hwd hu hpop hq hc0
 have HD:=fun (W:World) (k:SB W C c b 224 #[.int .i64 M.L.th,.int .i64 M.L.nd,.int .i64 popped,.int .i64 gave,.int .i64 u,.int .i64 sh,.int .i64 kind,.int .i64 key,.bool true,.int .i64 aM,.int .i64 at_,.int .u64 found,.int .u64 word])=>cg (x:=(⟨popped,gave,u,⟨sh,kind,key⟩,aM,at_,found,word⟩:bL)) ⟨k,hfd,hwd,hu,hpop⟩
 obtain⟨D,hD⟩:∃ D,getD' found=D:=⟨_,rfl⟩
 have HD2:=fun (W:World) (v:Int) (hv:0≤v∧v<18446744073709551616) (k:SB W C c b 224 #[.int .i64 M.L.th,.int .i64 M.L.nd,.int .i64 popped,.int .i64 gave,.int .i64 u,.int .i64 sh,.int .i64 kind,.int .i64 key,.bool true,.int .i64 aM,.int .i64 at_,.int .u64 found,.int .u64 v])=>cg (x:=(⟨popped,gave,u,⟨sh,kind,key⟩,aM,at_,found,v⟩:bL)) ⟨k,hfd,hv,hu,hpop⟩
 simp only[hD] at HD HD2 hq hc0⊢
 have cr:=bJ hm D.addr
 obtain⟨v,hv⟩:∃ v,ld M m D.addr=v:=⟨_,rfl⟩
 simp only[hv] at cr hq hc0⊢
 replace HD2:=fun W=>HD2 W v cr
 have HV:=Lib.hid hv
 have HG:=fun W=>aT v W cr
 obtain⟨W0,hW0⟩:∃ W0,aE v=W0:=⟨_,rfl⟩
 simp only[hW0] at HG hq hc0
 obtain⟨k1,k2,k3,k4,k5⟩:=W0
 simp only at hq hc0
 have HST:Hid ((⟨popped,gave,u,⟨sh,kind,key⟩,aM,at_,found,word⟩:bL).look v a1 a2 a3=(⟨popped,gave,u,⟨sh,kind,key⟩,aM,a1,found,v⟩:bL)):=Lib.hid (by unfold bL.look;simp only[hD,hW0];rw[if_pos ⟨hq,hc0⟩])
 have hf1:∀ W,(Instr.field 161 D.vals 1).run Tryz.prog W= .ok (.int .i64 D.addr) W:=fun W=>uD _ _ _ _ _ _ _ W
 have hf2:∀ W,(Instr.field 161 D.vals 2).run Tryz.prog W= .ok (.int .i64 D.ver) W:=fun W=>xW _ _ _ _ _ _ _ W
 simp only[Wd.val] at HG
 have e6:wrap64 (u+1)=u+1:=IntWalk.wrap64_in _ (by omega)
 have dq:(k5==D.ver)=true:=beq_iff_eq.2 hq
 have dc:(k4==0)=true:=beq_iff_eq.2 hc0
 clear hq hc0 hD hv hW0
 go_enter Tryz.func181,Tryz.ntmps181
 have fr:=Fr.refl C (Kc c) vE w
 have ag:=aB.refl w.heap.size C
 go_wp2_with fail
 refine(HD _ sb).mono ?_;rintro e w1 ⟨rfl,hb1⟩
 revert hm;revert sb;revert fr;refine dX hb1 ?_;intro fr sb hm
 go_wp2_with fail
 refine(aP hm D.addr).mono ?_;clear hm;rintro e w2 ⟨rfl,hm,hf⟩
 rw[HV.out]
 revert fr sb;refine dS hf (aS c) fO ag ?_;clear hf;intro fr sb
 have z1:=sb
 revert hm;revert fr;refine st1 sb 12 (.int .u64 v) (aL c) ag ?_;clear sb;rintro w3 e1 fr sb hm
 simp only[sx] at sb
 go_wp2_with fail
 clear z1 e1
 revert fr hm sb;refine bk (HG _) ?_;rintro e w4 rfl fr hm sb
 have z2:=sb
 revert fr hm sb;refine bx1 198 #[.int .i64 k1,.int .i64 k2,.bool k3,.int .i64 k4,.int .i64 k5] ?_;rintro w5 qz Ct fr nb hm sb
 go_wp2_with fail
 clear qz z2
 revert fr nb hm sb;refine bD ?_;intro fr nb hm sb
 obtain⟨q1,q2,qi⟩:=bl sb nb
 refine aA sb nb 11 [([0,1,2],3)] [4,5,6,7,8,9,10] [11] (by kernel_rfl) (by kernel_rfl) ?_
 refine ai ?_;simp only[ox];repeat(go_big_quiet_step (fail))
 refine di rfl (fun K' hK'=> ?_);go_simp
 ((with_reducible refine(HD2 _ sb).mono ?_);rintro e w6 ⟨rfl,hb6⟩)
 revert fr nb hm sb;refine dX hb6 ?_;intro fr nb hm sb
 refine hK' _ _ (eJ sb nb) ?_;clear hK' K'
 refine af ?_;try simp only[ox]
 repeat(go_big_quiet_step (fail))
 refine wpQuiet_nil ?_
 refine ae _ _ _ (by kernel_rfl) ?_;try simp only[ox]
 clear qi q1 q2
 go_wp2_with fail
 refine NoPanic.normal ?_
 have z3:=And.intro sb nb
 revert fr nb hm;refine st1 sb 10 (.int .i64 a1) (aL c) ag ?_;clear sb;rintro w7 e1 fr sb nb hm
 simp only[sx] at sb
 go_wp2_with fail
 clear z3 e1
 go_end0
 exact⟨rfl,hm,by rw[HST.out];exact⟨sb,hfd,cr,hu,hpop⟩,fr⟩
theorem uL {x:bL} (hm:aj w C M m) (h:fN w C c b M.L x) (a1 a2 a3:Int) (hq:(aE (ld M m (getD' x.found).addr)).ver=(getD' x.found).ver) (hc0:¬ (aE (ld M m (getD' x.found).addr)).claim=0) (hc1:(aE (ld M m (getD' x.found).addr)).claim=x.u+1):Calls Tryz.prog 181 #[.pointer (some ⟨b,0,none⟩),.pointer (some ⟨M.b,0,none⟩),.int .i64 a1,.int .i64 a2,.int .i64 a3] w (Bd C c b M m (x.look (ld M m (getD' x.found).addr) a1 a2 a3) w):=by
 obtain⟨popped,gave,u,⟨sh,kind,key⟩,aM,at_,found,word⟩:=x
 obtain⟨sb,hfd,hwd,hu,hpop⟩:=h
 simp only at sb hfd hwd hu hpop hq hc0 hc1
 have HD:=fun (W:World) (k:SB W C c b 224 #[.int .i64 M.L.th,.int .i64 M.L.nd,.int .i64 popped,.int .i64 gave,.int .i64 u,.int .i64 sh,.int .i64 kind,.int .i64 key,.bool true,.int .i64 aM,.int .i64 at_,.int .u64 found,.int .u64 word])=>cg (x:=(⟨popped,gave,u,⟨sh,kind,key⟩,aM,at_,found,word⟩:bL)) ⟨k,hfd,hwd,hu,hpop⟩
 obtain⟨D,hD⟩:∃ D,getD' found=D:=⟨_,rfl⟩
 have HD2:=fun (W:World) (v:Int) (hv:0≤v∧v<18446744073709551616) (k:SB W C c b 224 #[.int .i64 M.L.th,.int .i64 M.L.nd,.int .i64 popped,.int .i64 gave,.int .i64 u,.int .i64 sh,.int .i64 kind,.int .i64 key,.bool true,.int .i64 aM,.int .i64 at_,.int .u64 found,.int .u64 v])=>cg (x:=(⟨popped,gave,u,⟨sh,kind,key⟩,aM,at_,found,v⟩:bL)) ⟨k,hfd,hv,hu,hpop⟩
 simp only[hD] at HD HD2 hq hc0 hc1⊢
 have cr:=bJ hm D.addr
 obtain⟨v,hv⟩:∃ v,ld M m D.addr=v:=⟨_,rfl⟩
 simp only[hv] at cr hq hc0 hc1⊢
 replace HD2:=fun W=>HD2 W v cr
 have HV:=Lib.hid hv
 have HG:=fun W=>aT v W cr
 obtain⟨W0,hW0⟩:∃ W0,aE v=W0:=⟨_,rfl⟩
 simp only[hW0] at HG hq hc0 hc1
 obtain⟨k1,k2,k3,k4,k5⟩:=W0
 simp only at hq hc0 hc1
 have HST:Hid ((⟨popped,gave,u,⟨sh,kind,key⟩,aM,at_,found,word⟩:bL).look v a1 a2 a3=(⟨popped,gave,u,⟨sh,kind,key⟩,aM,a2,found,v⟩:bL)):=Lib.hid (by unfold bL.look;simp only[hD,hW0];rw[if_neg (fun h=>hc0 h.2),if_pos ⟨hq,hc1⟩])
 have hf1:∀ W,(Instr.field 161 D.vals 1).run Tryz.prog W= .ok (.int .i64 D.addr) W:=fun W=>uD _ _ _ _ _ _ _ W
 have hf2:∀ W,(Instr.field 161 D.vals 2).run Tryz.prog W= .ok (.int .i64 D.ver) W:=fun W=>xW _ _ _ _ _ _ _ W
 simp only[Wd.val] at HG
 have e6:wrap64 (u+1)=u+1:=IntWalk.wrap64_in _ (by omega)
 have dq:(k5==D.ver)=true:=beq_iff_eq.2 hq
 have dc:(k4==0)=false:=beq_eq_false_iff_ne.2 hc0
 have dd:(k4==u+1)=true:=beq_iff_eq.2 hc1
 clear hq hc0 hc1 hD hv hW0
 go_enter Tryz.func181,Tryz.ntmps181
 have fr:=Fr.refl C (Kc c) vE w
 have ag:=aB.refl w.heap.size C
 go_wp2_with fail
 refine(HD _ sb).mono ?_;rintro e w1 ⟨rfl,hb1⟩
 revert hm;revert sb;revert fr;refine dX hb1 ?_;intro fr sb hm
 go_wp2_with fail
 refine(aP hm D.addr).mono ?_;clear hm;rintro e w2 ⟨rfl,hm,hf⟩
 rw[HV.out]
 revert fr sb;refine dS hf (aS c) fO ag ?_;clear hf;intro fr sb
 have z1:=sb
 revert hm;revert fr;refine st1 sb 12 (.int .u64 v) (aL c) ag ?_;clear sb;rintro w3 e1 fr sb hm
 simp only[sx] at sb
 go_wp2_with fail
 clear z1 e1
 revert fr hm sb;refine bk (HG _) ?_;rintro e w4 rfl fr hm sb
 have z2:=sb
 revert fr hm sb;refine bx1 198 #[.int .i64 k1,.int .i64 k2,.bool k3,.int .i64 k4,.int .i64 k5] ?_;rintro w5 qz Ct fr nb hm sb
 go_wp2_with fail
 clear qz z2
 revert fr nb hm sb;refine bD ?_;intro fr nb hm sb
 obtain⟨q1,q2,qi⟩:=bl sb nb
 refine aA sb nb 11 [([0,1,2],3)] [4,5,6,7,8,9,10] [11] (by kernel_rfl) (by kernel_rfl) ?_
 refine ai ?_;simp only[ox];repeat(go_big_quiet_step (fail))
 refine di rfl (fun K' hK'=> ?_);go_simp
 ((with_reducible refine(HD2 _ sb).mono ?_);rintro e w6 ⟨rfl,hb6⟩)
 revert fr nb hm sb;refine dX hb6 ?_;intro fr nb hm sb
 refine hK' _ _ (eJ sb nb) ?_;clear hK' K'
 refine af ?_;try simp only[ox]
 repeat(go_big_quiet_step (fail))
 refine wpQuiet_nil ?_
 refine ae _ _ _ (by kernel_rfl) ?_;try simp only[ox]
 clear qi q1 q2
 go_wp2_with fail
 refine NoPanic.normal ?_
 go_wp2_with fail
 revert fr nb hm sb;refine bD ?_;intro fr nb hm sb
 obtain⟨q1,q2,qi⟩:=bl sb nb
 refine aA sb nb 16 [([0,1,2],3)] [4,5,6,7,8,9,10,11,12,13,14,15] [16] (by kernel_rfl) (by kernel_rfl) ?_
 refine ai ?_;simp only[ox];repeat(go_big_quiet_step (fail))
 refine di rfl (fun K' hK'=> ?_);go_simp
 ((with_reducible refine(HD2 _ sb).mono ?_);rintro e w7 ⟨rfl,hb7⟩)
 revert fr nb hm sb;refine dX hb7 ?_;intro fr nb hm sb
 refine hK' _ _ (eJ sb nb) ?_;clear hK' K'
 refine af ?_;try simp only[ox]
 repeat(go_big_quiet_step (fail))
 refine wpQuiet_nil ?_
 refine ae _ _ _ (by kernel_rfl) ?_;try simp only[ox]
 clear qi q1 q2
 go_wp2_with fail
 refine NoPanic.normal ?_
 have z3:=And.intro sb nb
 revert fr nb hm;refine st1 sb 10 (.int .i64 a2) (aL c) ag ?_;clear sb;rintro w8 e1 fr sb nb hm
 simp only[sx] at sb
 go_wp2_with fail
 clear z3 e1
 go_end0
 exact⟨rfl,hm,by rw[HST.out];exact⟨sb,hfd,cr,hu,hpop⟩,fr⟩
theorem uM {x:bL} (hm:aj w C M m) (h:fN w C c b M.L x) (a1 a2 a3:Int) (hq:(aE (ld M m (getD' x.found).addr)).ver=(getD' x.found).ver) (hc0:¬ (aE (ld M m (getD' x.found).addr)).claim=0) (hc1:¬ (aE (ld M m (getD' x.found).addr)).claim=x.u+1):Calls Tryz.prog 181 #[.pointer (some ⟨b,0,none⟩),.pointer (some ⟨M.b,0,none⟩),.int .i64 a1,.int .i64 a2,.int .i64 a3] w (Bd C c b M m (x.look (ld M m (getD' x.found).addr) a1 a2 a3) w):=by
 obtain⟨popped,gave,u,⟨sh,kind,key⟩,aM,at_,found,word⟩:=x
 obtain⟨sb,hfd,hwd,hu,hpop⟩:=h
 simp only at sb hfd hwd hu hpop hq hc0 hc1
 have HD:=fun (W:World) (k:SB W C c b 224 #[.int .i64 M.L.th,.int .i64 M.L.nd,.int .i64 popped,.int .i64 gave,.int .i64 u,.int .i64 sh,.int .i64 kind,.int .i64 key,.bool true,.int .i64 aM,.int .i64 at_,.int .u64 found,.int .u64 word])=>cg (x:=(⟨popped,gave,u,⟨sh,kind,key⟩,aM,at_,found,word⟩:bL)) ⟨k,hfd,hwd,hu,hpop⟩
 obtain⟨D,hD⟩:∃ D,getD' found=D:=⟨_,rfl⟩
 have HD2:=fun (W:World) (v:Int) (hv:0≤v∧v<18446744073709551616) (k:SB W C c b 224 #[.int .i64 M.L.th,.int .i64 M.L.nd,.int .i64 popped,.int .i64 gave,.int .i64 u,.int .i64 sh,.int .i64 kind,.int .i64 key,.bool true,.int .i64 aM,.int .i64 at_,.int .u64 found,.int .u64 v])=>cg (x:=(⟨popped,gave,u,⟨sh,kind,key⟩,aM,at_,found,v⟩:bL)) ⟨k,hfd,hv,hu,hpop⟩
 simp only[hD] at HD HD2 hq hc0 hc1⊢
 have cr:=bJ hm D.addr
 obtain⟨v,hv⟩:∃ v,ld M m D.addr=v:=⟨_,rfl⟩
 simp only[hv] at cr hq hc0 hc1⊢
 replace HD2:=fun W=>HD2 W v cr
 have HV:=Lib.hid hv
 have HG:=fun W=>aT v W cr
 obtain⟨W0,hW0⟩:∃ W0,aE v=W0:=⟨_,rfl⟩
 simp only[hW0] at HG hq hc0 hc1
 obtain⟨k1,k2,k3,k4,k5⟩:=W0
 simp only at hq hc0 hc1
 have HST:Hid ((⟨popped,gave,u,⟨sh,kind,key⟩,aM,at_,found,word⟩:bL).look v a1 a2 a3=(⟨popped,gave,u,⟨sh,kind,key⟩,aM,a3,found,v⟩:bL)):=Lib.hid (by unfold bL.look;simp only[hD,hW0];rw[if_neg (fun h=>hc0 h.2),if_neg (fun h=>hc1 h.2)])
 have hf1:∀ W,(Instr.field 161 D.vals 1).run Tryz.prog W= .ok (.int .i64 D.addr) W:=fun W=>uD _ _ _ _ _ _ _ W
 have hf2:∀ W,(Instr.field 161 D.vals 2).run Tryz.prog W= .ok (.int .i64 D.ver) W:=fun W=>xW _ _ _ _ _ _ _ W
 simp only[Wd.val] at HG
 have e6:wrap64 (u+1)=u+1:=IntWalk.wrap64_in _ (by omega)
 have dq:(k5==D.ver)=true:=beq_iff_eq.2 hq
 have dc:(k4==0)=false:=beq_eq_false_iff_ne.2 hc0
 have dd:(k4==u+1)=false:=beq_eq_false_iff_ne.2 hc1
 clear hq hc0 hc1 hD hv hW0
 go_enter Tryz.func181,Tryz.ntmps181
 have fr:=Fr.refl C (Kc c) vE w
 have ag:=aB.refl w.heap.size C
 go_wp2_with fail
 refine(HD _ sb).mono ?_;rintro e w1 ⟨rfl,hb1⟩
 revert hm;revert sb;revert fr;refine dX hb1 ?_;intro fr sb hm
 go_wp2_with fail
 refine(aP hm D.addr).mono ?_;clear hm;rintro e w2 ⟨rfl,hm,hf⟩
 rw[HV.out]
 revert fr sb;refine dS hf (aS c) fO ag ?_;clear hf;intro fr sb
 have z1:=sb
 revert hm;revert fr;refine st1 sb 12 (.int .u64 v) (aL c) ag ?_;clear sb;rintro w3 e1 fr sb hm
 simp only[sx] at sb
 go_wp2_with fail
 clear z1 e1
 revert fr hm sb;refine bk (HG _) ?_;rintro e w4 rfl fr hm sb
 have z2:=sb
 revert fr hm sb;refine bx1 198 #[.int .i64 k1,.int .i64 k2,.bool k3,.int .i64 k4,.int .i64 k5] ?_;rintro w5 qz Ct fr nb hm sb
 go_wp2_with fail
 clear qz z2
 revert fr nb hm sb;refine bD ?_;intro fr nb hm sb
 obtain⟨q1,q2,qi⟩:=bl sb nb
 refine aA sb nb 11 [([0,1,2],3)] [4,5,6,7,8,9,10] [11] (by kernel_rfl) (by kernel_rfl) ?_
 refine ai ?_;simp only[ox];repeat(go_big_quiet_step (fail))
 refine di rfl (fun K' hK'=> ?_);go_simp
 ((with_reducible refine(HD2 _ sb).mono ?_);rintro e w6 ⟨rfl,hb6⟩)
 revert fr nb hm sb;refine dX hb6 ?_;intro fr nb hm sb
 refine hK' _ _ (eJ sb nb) ?_;clear hK' K'
 refine af ?_;try simp only[ox]
 repeat(go_big_quiet_step (fail))
 refine wpQuiet_nil ?_
 refine ae _ _ _ (by kernel_rfl) ?_;try simp only[ox]
 clear qi q1 q2
 go_wp2_with fail
 refine NoPanic.normal ?_
 go_wp2_with fail
 revert fr nb hm sb;refine bD ?_;intro fr nb hm sb
 obtain⟨q1,q2,qi⟩:=bl sb nb
 refine aA sb nb 16 [([0,1,2],3)] [4,5,6,7,8,9,10,11,12,13,14,15] [16] (by kernel_rfl) (by kernel_rfl) ?_
 refine ai ?_;simp only[ox];repeat(go_big_quiet_step (fail))
 refine di rfl (fun K' hK'=> ?_);go_simp
 ((with_reducible refine(HD2 _ sb).mono ?_);rintro e w7 ⟨rfl,hb7⟩)
 revert fr nb hm sb;refine dX hb7 ?_;intro fr nb hm sb
 refine hK' _ _ (eJ sb nb) ?_;clear hK' K'
 refine af ?_;try simp only[ox]
 repeat(go_big_quiet_step (fail))
 refine wpQuiet_nil ?_
 refine ae _ _ _ (by kernel_rfl) ?_;try simp only[ox]
 clear qi q1 q2
 go_wp2_with fail
 refine NoPanic.normal ?_
 have z3:=And.intro sb nb
 revert fr nb hm;refine st1 sb 10 (.int .i64 a3) (aL c) ag ?_;clear sb;rintro w8 e1 fr sb nb hm
 simp only[sx] at sb
 go_wp2_with fail
 clear z3 e1
 go_end0
 exact⟨rfl,hm,by rw[HST.out];exact⟨sb,hfd,cr,hu,hpop⟩,fr⟩
theorem uN {x:bL} (hm:aj w C M m) (h:fN w C c b M.L x) (a1 a2 a3:Int) (hq:¬ (aE (ld M m (getD' x.found).addr)).ver=(getD' x.found).ver):Calls Tryz.prog 181 #[.pointer (some ⟨b,0,none⟩),.pointer (some ⟨M.b,0,none⟩),.int .i64 a1,.int .i64 a2,.int .i64 a3] w (Bd C c b M m (x.look (ld M m (getD' x.found).addr) a1 a2 a3) w):=by
 obtain⟨popped,gave,u,⟨sh,kind,key⟩,aM,at_,found,word⟩:=x
 obtain⟨sb,hfd,hwd,hu,hpop⟩:=h
 simp only at sb hfd hwd hu hpop hq
 have HD:=fun (W:World) (k:SB W C c b 224 #[.int .i64 M.L.th,.int .i64 M.L.nd,.int .i64 popped,.int .i64 gave,.int .i64 u,.int .i64 sh,.int .i64 kind,.int .i64 key,.bool true,.int .i64 aM,.int .i64 at_,.int .u64 found,.int .u64 word])=>cg (x:=(⟨popped,gave,u,⟨sh,kind,key⟩,aM,at_,found,word⟩:bL)) ⟨k,hfd,hwd,hu,hpop⟩
 obtain⟨D,hD⟩:∃ D,getD' found=D:=⟨_,rfl⟩
 have HD2:=fun (W:World) (v:Int) (hv:0≤v∧v<18446744073709551616) (k:SB W C c b 224 #[.int .i64 M.L.th,.int .i64 M.L.nd,.int .i64 popped,.int .i64 gave,.int .i64 u,.int .i64 sh,.int .i64 kind,.int .i64 key,.bool true,.int .i64 aM,.int .i64 at_,.int .u64 found,.int .u64 v])=>cg (x:=(⟨popped,gave,u,⟨sh,kind,key⟩,aM,at_,found,v⟩:bL)) ⟨k,hfd,hv,hu,hpop⟩
 simp only[hD] at HD HD2 hq⊢
 have cr:=bJ hm D.addr
 obtain⟨v,hv⟩:∃ v,ld M m D.addr=v:=⟨_,rfl⟩
 simp only[hv] at cr hq⊢
 replace HD2:=fun W=>HD2 W v cr
 have HV:=Lib.hid hv
 have HG:=fun W=>aT v W cr
 obtain⟨W0,hW0⟩:∃ W0,aE v=W0:=⟨_,rfl⟩
 simp only[hW0] at HG hq
 obtain⟨k1,k2,k3,k4,k5⟩:=W0
 simp only at hq
 have HST:Hid ((⟨popped,gave,u,⟨sh,kind,key⟩,aM,at_,found,word⟩:bL).look v a1 a2 a3=(⟨popped,gave,u,⟨sh,kind,key⟩,aM,a3,found,v⟩:bL)):=Lib.hid (by unfold bL.look;simp only[hD,hW0];rw[if_neg (fun h=>hq h.1),if_neg (fun h=>hq h.1)])
 have hf1:∀ W,(Instr.field 161 D.vals 1).run Tryz.prog W= .ok (.int .i64 D.addr) W:=fun W=>uD _ _ _ _ _ _ _ W
 have hf2:∀ W,(Instr.field 161 D.vals 2).run Tryz.prog W= .ok (.int .i64 D.ver) W:=fun W=>xW _ _ _ _ _ _ _ W
 simp only[Wd.val] at HG
 have e6:wrap64 (u+1)=u+1:=IntWalk.wrap64_in _ (by omega)
 have dq:(k5==D.ver)=false:=beq_eq_false_iff_ne.2 hq
 clear hq hD hv hW0
 go_enter Tryz.func181,Tryz.ntmps181
 have fr:=Fr.refl C (Kc c) vE w
 have ag:=aB.refl w.heap.size C
 go_wp2_with fail
 refine(HD _ sb).mono ?_;rintro e w1 ⟨rfl,hb1⟩
 revert hm;revert sb;revert fr;refine dX hb1 ?_;intro fr sb hm
 go_wp2_with fail
 refine(aP hm D.addr).mono ?_;clear hm;rintro e w2 ⟨rfl,hm,hf⟩
 rw[HV.out]
 revert fr sb;refine dS hf (aS c) fO ag ?_;clear hf;intro fr sb
 have z1:=sb
 revert hm;revert fr;refine st1 sb 12 (.int .u64 v) (aL c) ag ?_;clear sb;rintro w3 e1 fr sb hm
 simp only[sx] at sb
 go_wp2_with fail
 clear z1 e1
 revert fr hm sb;refine bk (HG _) ?_;rintro e w4 rfl fr hm sb
 have z2:=sb
 revert fr hm sb;refine bx1 198 #[.int .i64 k1,.int .i64 k2,.bool k3,.int .i64 k4,.int .i64 k5] ?_;rintro w5 qz Ct fr nb hm sb
 go_wp2_with fail
 clear qz z2
 revert fr nb hm sb;refine bD ?_;intro fr nb hm sb
 obtain⟨q1,q2,qi⟩:=bl sb nb
 refine aA sb nb 11 [([0,1,2],3)] [4,5,6,7,8,9,10] [11] (by kernel_rfl) (by kernel_rfl) ?_
 refine ai ?_;simp only[ox];repeat(go_big_quiet_step (fail))
 refine di rfl (fun K' hK'=> ?_);go_simp
 ((with_reducible refine(HD2 _ sb).mono ?_);rintro e w6 ⟨rfl,hb6⟩)
 revert fr nb hm sb;refine dX hb6 ?_;intro fr nb hm sb
 refine hK' _ _ (eJ sb nb) ?_;clear hK' K'
 refine af ?_;try simp only[ox]
 repeat(go_big_quiet_step (fail))
 refine wpQuiet_nil ?_
 refine ae _ _ _ (by kernel_rfl) ?_;try simp only[ox]
 clear qi q1 q2
 go_wp2_with fail
 refine NoPanic.normal ?_
 go_wp2_with fail
 revert fr nb hm sb;refine bD ?_;intro fr nb hm sb
 obtain⟨q1,q2,qi⟩:=bl sb nb
 refine aA sb nb 16 [([0,1,2],3)] [4,5,6,7,8,9,10,11,12,13,14,15] [16] (by kernel_rfl) (by kernel_rfl) ?_
 refine ai ?_;simp only[ox];repeat(go_big_quiet_step (fail))
 refine di rfl (fun K' hK'=> ?_);go_simp
 ((with_reducible refine(HD2 _ sb).mono ?_);rintro e w7 ⟨rfl,hb7⟩)
 revert fr nb hm sb;refine dX hb7 ?_;intro fr nb hm sb
 refine hK' _ _ (eJ sb nb) ?_;clear hK' K'
 refine af ?_;try simp only[ox]
 repeat(go_big_quiet_step (fail))
 refine wpQuiet_nil ?_
 refine ae _ _ _ (by kernel_rfl) ?_;try simp only[ox]
 clear qi q1 q2
 go_wp2_with fail
 refine NoPanic.normal ?_
 have z3:=And.intro sb nb
 revert fr nb hm;refine st1 sb 10 (.int .i64 a3) (aL c) ag ?_;clear sb;rintro w8 e1 fr sb nb hm
 simp only[sx] at sb
 go_wp2_with fail
 clear z3 e1
 go_end0
 exact⟨rfl,hm,by rw[HST.out];exact⟨sb,hfd,cr,hu,hpop⟩,fr⟩
theorem rG {x:bL} (hm:aj w C M m) (h:fN w C c b M.L x) (a1 a2 a3:Int):Calls Tryz.prog 181 #[.pointer (some ⟨b,0,none⟩),.pointer (some ⟨M.b,0,none⟩),.int .i64 a1,.int .i64 a2,.int .i64 a3] w (Bd C c b M m (x.look (ld M m (getD' x.found).addr) a1 a2 a3) w):=by
 by_cases hq:(aE (ld M m (getD' x.found).addr)).ver=(getD' x.found).ver
 ·by_cases hc0:(aE (ld M m (getD' x.found).addr)).claim=0
  ·exact uK hm h a1 a2 a3 hq hc0
  ·by_cases hc1:(aE (ld M m (getD' x.found).addr)).claim=x.u+1
   ·exact uL hm h a1 a2 a3 hq hc0 hc1
   ·exact uM hm h a1 a2 a3 hq hc0 hc1
 ·exact uN hm h a1 a2 a3 hq
section
variable {P:Program} {ops:Array Oper} {Q:Exit→Act→World→Prop} {md:Region.Mode} {S:World→Prop} {n:Nat}
theorem oW (hs:Region.noSelect ops=true) (hc:Region.chainB md ops n=true)
  (hQ:∀ c a d v w,Q (.panic c) (Act.put a d v) w→Q (.panic c) a w) (is:List Nat) (I:Nat→Array Bool→Act→World→Prop)
  (hstep:∀ r listed a w,I (r+1) listed a w→Region.ready md ops listed≠[]∧∀ i∈Region.ready md ops listed,wpOp P ops Q i (fun a' w'=>S w'∧I r (listed.setIfInBounds i true) a' w') a w)
  (hend:∀ listed a w,I 0 listed a w→fR md ops is listed=true∧cH P ops Q S n is a w):
  ∀ (r:Nat) (listed:Array Bool) (a:Act) (w:World),gK md ops listed→S w→I r listed a w→eW P md ops Q S n (r+is.length) listed a w
 | 0,listed,a,w,inv,hS,h=>by
  obtain⟨h1,h2⟩:=hend listed a w h
  have:=jZ (S:=S) hs hc hQ [] is [] listed a w inv (by rfl) (by rfl) (by simpa [fB,bV] using h1) hS h2
  simpa [gX] using this
 | r+1,listed,a,w,inv,hS,h=>by
  obtain⟨h1,h2⟩:=hstep r listed a w h
  have e:r+1+is.length=(r+is.length)+1:=by omega
  rw[e]
  refine⟨fun hr=>absurd hr h1,fun i hi=> ?_⟩
  refine wpOp_mono (fun a' w' h'=>⟨fun _=>h'.1,?_⟩) (h2 i hi)
  exact oW hs hc hQ is I hstep hend r _ a' w' (inv.set hi) h'.1 h'.2
end
variable {P:Program} {Q:Exit→Act→World→Prop}
theorem bo {ops:Array Oper} {K:Act→World→Prop} {i:Nat} {o:Oper} {a:Act} {w:World} (ho:ops[i]? =some o)
  (h:∀ K':Act→World→Prop,(∀ a' w',K a' w'→K' a' w')→if Region.wanted o (yielded ops a.tmps)=true then Oper.wp P o a w K' Q else K' (a.put o.dst undef) w):wpOp P ops Q i K a w:=by
 have:=h K (fun _ _ h=>h)
 simp only[wpOp,ho]
 split
 ·rename_i hw;rw[if_pos hw] at this;exact .inl this
 ·rename_i hw;rw[if_neg hw] at this;exact this
theorem kA {id:Nat} {l:List Oper} {a:Act} {w:World} (S:World→Prop) (n:Nat) (ls:List Nat) (r:Nat) (is:List Nat) (I:Nat→Array Bool→Act→World→Prop) (hm:P.follows .mixedOrders=true)
  (hB:(Region.noSelect l.toArray && Region.chainB .any l.toArray n && decide (ls.length+(r+is.length)=l.length) &&
   gD .any l.toArray n (cG .any l.toArray n [n]) ls (Array.replicate l.toArray.size false))=true)
  (hS:S w.drew)
  (h:wpQuiet P l.toArray S (fun a'=>I r (bV ls (Array.replicate l.toArray.size false)) a' w.drew) (au l.toArray ls) a)
  (hstep:∀ r listed a w,I (r+1) listed a w→Region.ready .any l.toArray listed≠[]∧∀ i∈Region.ready .any l.toArray listed,wpOp P l.toArray (NoPanic Q) i (fun a' w'=>S w'∧I r (listed.setIfInBounds i true) a' w') a w)
  (hend:∀ listed a w,I 0 listed a w→fR .any l.toArray is listed=true∧cH P l.toArray (NoPanic Q) S n is a w):(Code.region id l.toArray true).wp P Q a w:=by
 refine wp_region_noPanic ?_
 simp only[Bool.and_eq_true,decide_eq_true_eq] at hB
 obtain⟨⟨⟨h1,h2⟩,h3⟩,h4⟩:=hB
 refine wp_region_any hm (gi (S:=S) (n:=n) _ _ _ _ ?_)
 have hQ:∀ c a d v w,NoPanic Q (.panic c) (Act.put a d v) w→NoPanic Q (.panic c) a w:=fun _ _ _ _ _ h=>h
 have fin:=fU (P:=P) (ops:=l.toArray) (Q:=NoPanic Q) (S:=S) h1 h2 hQ (r+is.length) ls _ a w.drew (gK.start .any l.toArray) h4 hS
  (eM (fun a' h' hv=>oW h1 h2 hQ is I hstep hend r _ a' w.drew hv hS h') _ _ h)
 rw[h3] at fin
 simpa using fin
end Go.Proofs.YtbcnnhlpilmmbaaGreat
