/- Texts that are wanted for PTopFull.
   Conditions: none. -/
import Derived.Test.YtbcnnhlpilmmbaaGreatJPTopFull15
set_option maxRecDepth 100000
set_option maxHeartbeats 6400000
namespace Go.Proofs.YtbcnnhlpilmmbaaGreat
open Go Go.RowKit
variable {w:World} {C:Nat→Nat} {c s sg b:Nat} {L:Ly} {me:Int} {t:cV}
theorem oX {h:aK} {pe pn pf pc pp:Value} (_:L.Ok) (hst:al w C s sg L me t) (sb:dT w C c sg b pe pn pf pc pp h) (h0:h.at_=2) (hok:h.Ok 1000000) (x:Int) (hx:0≤x∧x<18446744073709551616) (_:c≠s) (hq:gC x=false):Calls Tryz.prog 98 #[.pointer (some ⟨b,0,none⟩),.int .u64 x] w (OW C (K0 c) [some 171] (.bool (h.begin_ L me t x).1) (fun w' C'=>br w' C' c s sg b L (h.begin_ L me t x).2) w):=by
 obtain⟨⟨A,n,cap,hn,st,hrow⟩,hme,hsp,hsm⟩:=id hst
 obtain⟨hfd,hu,-⟩:=hok
 have eL:=fun W C' (k:dT W C' c sg b pe pn pf pc pp { h with task:=eA x })=>dI k hfd
 unfold dT at sb eL
 obtain⟨u,no,rounds,limit,at_,found,⟨sh,kind,key⟩,⟨g0,⟨g1,g2,g3⟩,g4,g5,g6,g7,g8⟩,exec,a5,find,cl,aD⟩:=h
 simp only at sb h0 hfd hu eL
 subst h0
 have yS:∀ W,Calls Tryz.prog 142 #[.int .u64 x] W fun e w'=>e= .returned (.tuple #[.agg #[.int .i64 0,.int .i64 0,.int .i64 0],.int .i64 3])∧Below W.heap.size W w':=fun W=>(jI x W hx).mono fun e w' h=>⟨h.1.trans (by simp only[hq];rfl),h.2⟩
 have HST:Hid (aK.begin_ L me t (⟨u,no,rounds,limit,2,found,⟨sh,kind,key⟩,⟨g0,⟨g1,g2,g3⟩,g4,g5,g6,g7,g8⟩,exec,a5,find,cl,aD⟩:aK) x=(true,(⟨u,no,rounds,limit,2,found,⟨0,0,0⟩,⟨g0,⟨g1,g2,g3⟩,g4,g5,g6,g7,g8⟩,exec,a5,find,cl,aD⟩:aK))):=Lib.hid (by unfold aK.begin_;rw[if_pos hq];rfl)
 clear hq eL hn hrow hsm
 go_enter Tryz.func98,Tryz.ntmps98
 have fr:=Fr.refl C (K0 c) [some 171] w
 have ag:=aB.refl w.heap.size C
 go_wp2_with fail
 revert st;revert hst;revert sb;revert fr;refine bk (yS _) ?_;rintro e w1 rfl fr sb hst st
 have z1:=And.intro sb st
 revert fr sb hst st;refine bx1 85 #[.int .i64 0,.int .i64 0,.int .i64 0] ?_;rintro w2 Be H9 fr tb sb hst st
 have z2:=And.intro sb (And.intro st tb)
 revert fr sb hst st;refine vX tb 0 (.int .i64 0) ?_;clear tb;rintro w3 e1 fr tb sb hst st
 simp only[sx] at tb
 have z3:=And.intro sb (And.intro st tb)
 revert fr sb hst st;refine vX tb 1 (.int .i64 0) ?_;clear tb;rintro w4 e2 fr tb sb hst st
 simp only[sx] at tb
 have z4:=And.intro sb (And.intro st tb)
 revert fr sb hst st;refine vX tb 2 (.int .i64 0) ?_;clear tb;rintro w5 e3 fr tb sb hst st
 simp only[sx] at tb
 have z5:=And.intro sb (And.intro st tb)
 revert fr hst st tb;refine st1 sb 7 (.int .i64 0) (fun _ h=>h) ag ?_;clear sb;rintro w6 e4 fr sb hst st tb
 simp only[sx] at sb
 have z6:=And.intro sb (And.intro st tb)
 revert fr hst st tb;refine st1 sb 8 (.int .i64 0) (fun _ h=>h) ag ?_;clear sb;rintro w7 e5 fr sb hst st tb
 simp only[sx] at sb
 have z7:=And.intro sb (And.intro st tb)
 revert fr hst st tb;refine st1 sb 9 (.int .i64 0) (fun _ h=>h) ag ?_;clear sb;rintro w8 e6 fr sb hst st tb
 simp only[sx] at sb
 go_wp2_with fail
 clear Be z1 z2 e1 z3 e2 z4 e3 z5 e4 z6 e5 z7 e6
 go_ret
 exact⟨by rw[HST.out];rfl,⟨_,ag,by rw[HST.out];exact⟨_,_,_,_,_,sb,fun h=>by simp at h,fun h=>by simp at h,fun h=>by simp at h,fun h=>by simp at h,fun h=>by simp at h⟩⟩,fr⟩
theorem qK {h:aK} {pe pn pf pc pp:Value} (_:L.Ok) (hst:al w C s sg L me t) (sb:dT w C c sg b pe pn pf pc pp h) (h0:h.at_=2) (hok:h.Ok 1000000) (x:Int) (hx:0≤x∧x<18446744073709551616) (_:c≠s) (hq:gC x=true) (hs:(getD' h.found).status≠1):Calls Tryz.prog 98 #[.pointer (some ⟨b,0,none⟩),.int .u64 x] w (OW C (K0 c) [some 171] (.bool (h.begin_ L me t x).1) (fun w' C'=>br w' C' c s sg b L (h.begin_ L me t x).2) w):=by
 obtain⟨⟨A,n,cap,hn,st,hrow⟩,hme,hsp,hsm⟩:=id hst
 obtain⟨hfd,hu,-⟩:=hok
 have eL:=fun W C' (k:dT W C' c sg b pe pn pf pc pp { h with task:=eA x })=>dI k hfd
 unfold dT at sb eL
 obtain⟨u,no,rounds,limit,at_,found,⟨sh,kind,key⟩,⟨g0,⟨g1,g2,g3⟩,g4,g5,g6,g7,g8⟩,exec,a5,find,cl,aD⟩:=h
 simp only at sb h0 hfd hu eL hs
 subst h0
 have hmay:(eA x).may=true:=by
  unfold gC at hq
  simp only[Bool.and_eq_true] at hq
  exact hq.2
 obtain⟨T,hT⟩:∃ T,eA x=T:=⟨_,rfl⟩
 have yS:∀ W,Calls Tryz.prog 142 #[.int .u64 x] W fun e w'=>e= .returned (.tuple #[T.val,.int .i64 0])∧Below W.heap.size W w':=fun W=>(jI x W hx).mono fun e w' h=>⟨h.1.trans (by rw[hq];simp only[if_true];rw[hT]),h.2⟩
 obtain⟨D,hD⟩:∃ D,getD' found=D:=⟨_,rfl⟩
 have fJ:=fun W=>a4 T W
 rw[hD] at hs
 simp only[hT] at hmay eL
 simp only[hD] at eL
 have HST:Hid (aK.begin_ L me t (⟨u,no,rounds,limit,2,found,⟨sh,kind,key⟩,⟨g0,⟨g1,g2,g3⟩,g4,g5,g6,g7,g8⟩,exec,a5,find,cl,aD⟩:aK) x=(false,(⟨u,no,rounds,limit,3,found,T,⟨g0,⟨g1,g2,g3⟩,g4,g5,g6,g7,g8⟩,bL.new u T D.aM,a5,find,cl,aD⟩:aK))):=Lib.hid (by unfold aK.begin_;rw[if_neg (by rw[hq];decide)];simp only;rw[if_pos (by rw[hD];exact hs)];simp only[hT,hD])
 have HIS:=fun (W:World) (B:Nat) (A:Option Addr) (k:Sl W B 1 A 1 (cv [1])) (hB:B≤W.heap.size)=>j0 D A 1 1 B [1] W k hB rfl (by omega)
 rw[show jx [1] D.status=false by unfold jx;simp[hs]] at HIS
 clear hq hT hD hs  hn hrow hsm
 obtain⟨s2,k2,y2⟩:=T
 obtain⟨da,dd,dv,dn,dm,ds,dl⟩:=D
 simp only[bq.val] at yS fJ
 simp only[Ds.vals] at eL HIS
 have hf0:=js (.int .i64 da) (.int .i64 dd) (.int .i64 dv) (.int .i64 dn) (.bool dm) (.int .i64 ds) (.int .i64 dl)
 go_enter Tryz.func98,Tryz.ntmps98
 have fr:=Fr.refl C (K0 c) [some 171] w
 have ag:=aB.refl w.heap.size C
 go_wp2_with fail
 revert st;revert hst;revert sb;revert fr;refine bk (yS _) ?_;rintro e w1 rfl fr sb hst st
 have z1:=And.intro sb st
 revert fr sb hst st;refine bx1 85 #[.int .i64 s2,.int .i64 k2,.int .i64 y2] ?_;rintro w2 Be H9 fr tb sb hst st
 have z2:=And.intro sb (And.intro st tb)
 revert fr tb hst st;refine st1 sb 7 (.int .i64 s2) (fun _ h=>h) ag ?_;clear sb;rintro w3 e1 fr sb tb hst st
 simp only[sx] at sb
 have z3:=And.intro sb (And.intro st tb)
 revert fr tb hst st;refine st1 sb 8 (.int .i64 k2) (fun _ h=>h) ag ?_;clear sb;rintro w4 e2 fr sb tb hst st
 simp only[sx] at sb
 have z4:=And.intro sb (And.intro st tb)
 revert fr tb hst st;refine st1 sb 9 (.int .i64 y2) (fun _ h=>h) ag ?_;clear sb;rintro w5 e3 fr sb tb hst st
 simp only[sx] at sb
 go_wp2_with fail
 clear Be z1 z2 e1 z3 e2 z4 e3
 refine(eL _ _ sb).mono ?_;rintro e w6 ⟨rfl,hb6⟩
 revert fr tb hst st sb;refine dX hb6 ?_;intro fr tb hst st sb
 have z5:=And.intro sb (And.intro st tb)
 revert fr tb hst st sb;refine bx1 3 #[.int .i64 1] ?_;rintro w7 xX EA fr sl tb hst st sb
 go_wp2_with fail
 clear xX z5
 have hsl:=fj sl.blk
 skip
 revert fr sl tb hst st sb;refine bk (HIS _ _ _ hsl (Nat.le_refl _)) ?_;rintro e w8 rfl fr sl tb hst st sb
 clear hsl
 clear sl
 go_wp2_with fail
 revert tb;revert st;revert hst;revert sb;revert fr;refine bD ?_;intro fr sb hst st tb
 obtain⟨q1,q2,q3,qi⟩:=cF sb st tb
 refine aY sb st tb 17 [([0,1,2,3,4,5,6,7,8,9,10,11,12,13,14],15)] [16] [17,18,19,20,21,22,23] (by kernel_rfl) (by kernel_rfl) ?_
 refine ai ?_;simp only[ox];repeat(go_big_quiet_step (fail))
 refine di rfl (fun K' hK'=> ?_);go_simp
 ((with_reducible refine(eL _ _ sb).mono ?_);rintro e w9 ⟨rfl,Ia⟩)
 revert fr sb hst st tb;refine dX Ia ?_;intro fr sb hst st tb
 refine hK' _ _ (jz sb st tb) ?_;clear hK' K'
 refine af ?_;try simp only[ox]
 repeat(go_big_quiet_step (fail))
 refine wpQuiet_nil ?_
 refine ae _ _ _ (by kernel_rfl) ?_;try simp only[ox]
 clear qi q1 q2 q3
 go_wp2_with fail
 revert ag fr sb hst st tb;refine fL (Dt L u ⟨s2,k2,y2⟩ da hu C c _) ?_;rintro w10 be C10 ag fr hex sb hst st tb
 have z6:=And.intro sb (And.intro st tb)
 revert fr hex hst st tb;refine st1 sb 5 (.int .i64 3) (fun _ h=>h) ag ?_;clear sb;rintro Ib e1 fr sb hex hst st tb
 simp only[sx] at sb
 have z7:=And.intro sb (And.intro st tb)
 revert fr hex hst st tb;refine st1 sb 19 (.pointer (some ⟨be,0,none⟩)) (fun _ h=>h) ag ?_;clear sb;rintro w12 e2 fr sb hex hst st tb
 simp only[sx] at sb
 go_wp2_with fail
 refine NoPanic.normal ?_
 go_wp2_with fail
 clear z6 e1 z7 e2
 go_ret
 exact⟨by rw[HST.out];rfl,⟨_,ag,by rw[HST.out];exact⟨_,_,_,_,_,sb,fun _=>⟨be,rfl,hex⟩,fun h=>by simp at h,fun h=>by simp at h,fun h=>by simp at h,fun h=>by simp at h⟩⟩,fr⟩
theorem qL {h:aK} {pe pn pf pc pp:Value} (_:L.Ok) (hst:al w C s sg L me t) (sb:dT w C c sg b pe pn pf pc pp h) (h0:h.at_=2) (hok:h.Ok 1000000) (x:Int) (hx:0≤x∧x<18446744073709551616) (_:c≠s) (hq:gC x=true) (hs:(getD' h.found).status=1) (hlk:(eA x).links=true) (hz:t.spare=0):Calls Tryz.prog 98 #[.pointer (some ⟨b,0,none⟩),.int .u64 x] w (OW C (K0 c) [some 171] (.bool (h.begin_ L me t x).1) (fun w' C'=>br w' C' c s sg b L (h.begin_ L me t x).2) w):=by
 obtain⟨⟨A,n,cap,hn,st,hrow⟩,hme,hsp,hsm⟩:=id hst
 obtain⟨hfd,hu,-⟩:=hok
 have eL:=fun W C' (k:dT W C' c sg b pe pn pf pc pp { h with task:=eA x })=>dI k hfd
 unfold dT at sb eL
 obtain⟨u,no,rounds,limit,at_,found,⟨sh,kind,key⟩,⟨g0,⟨g1,g2,g3⟩,g4,g5,g6,g7,g8⟩,exec,a5,find,cl,aD⟩:=h
 simp only at sb h0 hfd hu eL hs
 subst h0
 have hmay:(eA x).may=true:=by
  unfold gC at hq
  simp only[Bool.and_eq_true] at hq
  exact hq.2
 obtain⟨T,hT⟩:∃ T,eA x=T:=⟨_,rfl⟩
 have yS:∀ W,Calls Tryz.prog 142 #[.int .u64 x] W fun e w'=>e= .returned (.tuple #[T.val,.int .i64 0])∧Below W.heap.size W w':=fun W=>(jI x W hx).mono fun e w' h=>⟨h.1.trans (by rw[hq];simp only[if_true];rw[hT]),h.2⟩
 obtain⟨D,hD⟩:∃ D,getD' found=D:=⟨_,rfl⟩
 have fJ:=fun W=>a4 T W
 rw[hD] at hs
 simp only[hT] at hmay eL hlk
 simp only[hD] at eL
 rw[hlk] at fJ
 have HST:Hid (aK.begin_ L me t (⟨u,no,rounds,limit,2,found,⟨sh,kind,key⟩,⟨g0,⟨g1,g2,g3⟩,g4,g5,g6,g7,g8⟩,exec,a5,find,cl,aD⟩:aK) x=(false,(⟨u,no,rounds,limit,4,found,T,⟨g0,⟨g1,g2,g3⟩,g4,g5,g6,g7,g8⟩,exec,.new,find,cl,aD⟩:aK))):=Lib.hid (by unfold aK.begin_;rw[if_neg (by rw[hq];decide)];simp only;rw[if_neg (by rw[hD];simpa using hs),if_pos (by rw[hT,hlk,hz];rfl)];simp only[hT])
 have HIS:=fun (W:World) (B:Nat) (A:Option Addr) (k:Sl W B 1 A 1 (cv [1])) (hB:B≤W.heap.size)=>j0 D A 1 1 B [1] W k hB rfl (by omega)
 rw[show jx [1] D.status=true by rw[hs];rfl] at HIS
 have dz:(t.spare==0)=true:=by rw[hz];rfl
 clear hq hT hD hs hlk hz hn hrow hsm
 obtain⟨s2,k2,y2⟩:=T
 obtain⟨da,dd,dv,dn,dm,ds,dl⟩:=D
 simp only[bq.val] at yS fJ
 simp only[Ds.vals] at eL HIS
 have hf0:=js (.int .i64 da) (.int .i64 dd) (.int .i64 dv) (.int .i64 dn) (.bool dm) (.int .i64 ds) (.int .i64 dl)
 go_enter Tryz.func98,Tryz.ntmps98
 have fr:=Fr.refl C (K0 c) [some 171] w
 have ag:=aB.refl w.heap.size C
 go_wp2_with fail
 revert st;revert hst;revert sb;revert fr;refine bk (yS _) ?_;rintro e w1 rfl fr sb hst st
 have z1:=And.intro sb st
 revert fr sb hst st;refine bx1 85 #[.int .i64 s2,.int .i64 k2,.int .i64 y2] ?_;rintro w2 Be H9 fr tb sb hst st
 have z2:=And.intro sb (And.intro st tb)
 revert fr tb hst st;refine st1 sb 7 (.int .i64 s2) (fun _ h=>h) ag ?_;clear sb;rintro w3 e1 fr sb tb hst st
 simp only[sx] at sb
 have z3:=And.intro sb (And.intro st tb)
 revert fr tb hst st;refine st1 sb 8 (.int .i64 k2) (fun _ h=>h) ag ?_;clear sb;rintro w4 e2 fr sb tb hst st
 simp only[sx] at sb
 have z4:=And.intro sb (And.intro st tb)
 revert fr tb hst st;refine st1 sb 9 (.int .i64 y2) (fun _ h=>h) ag ?_;clear sb;rintro w5 e3 fr sb tb hst st
 simp only[sx] at sb
 go_wp2_with fail
 clear Be z1 z2 e1 z3 e2 z4 e3
 refine(eL _ _ sb).mono ?_;rintro e w6 ⟨rfl,hb6⟩
 revert fr tb hst st sb;refine dX hb6 ?_;intro fr tb hst st sb
 have z5:=And.intro sb (And.intro st tb)
 revert fr tb hst st sb;refine bx1 3 #[.int .i64 1] ?_;rintro w7 xX EA fr sl tb hst st sb
 go_wp2_with fail
 clear xX z5
 have hsl:=fj sl.blk
 skip
 revert fr sl tb hst st sb;refine bk (HIS _ _ _ hsl (Nat.le_refl _)) ?_;rintro e w8 rfl fr sl tb hst st sb
 clear hsl
 clear sl
 go_wp2_with fail
 revert tb;revert st;revert hst;revert sb;revert fr;refine bk (fJ _) ?_;rintro e w9 rfl fr sb hst st tb
 go_wp2_with fail
 revert ag fr sb hst st tb;refine fL (lF sg L s C c _) ?_;rintro w10 bn C10 ag fr hen sb hst st tb
 have z6:=And.intro sb (And.intro st tb)
 revert fr hen hst st tb;refine st1 sb 5 (.int .i64 4) (fun _ h=>h) ag ?_;clear sb;rintro Ib e1 fr sb hen hst st tb
 simp only[sx] at sb
 have z7:=And.intro sb (And.intro st tb)
 revert fr hen hst st tb;refine st1 sb 20 (.pointer (some ⟨bn,0,none⟩)) (fun _ h=>h) ag ?_;clear sb;rintro w12 e2 fr sb hen hst st tb
 simp only[sx] at sb
 go_wp2_with fail
 clear z6 e1 z7 e2
 go_ret
 exact⟨by rw[HST.out];rfl,⟨_,ag,by rw[HST.out];exact⟨_,_,_,_,_,sb,fun h=>by simp at h,fun _=>⟨bn,rfl,hen⟩,fun h=>by simp at h,fun h=>by simp at h,fun h=>by simp at h⟩⟩,fr⟩
theorem qM {h:aK} {pe pn pf pc pp:Value} (hL:L.Ok) (hst:al w C s sg L me t) (sb:dT w C c sg b pe pn pf pc pp h) (h0:h.at_=2) (hok:h.Ok 1000000) (x:Int) (hx:0≤x∧x<18446744073709551616) (_:c≠s) (hq:gC x=true) (hs:(getD' h.found).status=1) (hlk:(eA x).links=false):Calls Tryz.prog 98 #[.pointer (some ⟨b,0,none⟩),.int .u64 x] w (OW C (K0 c) [some 171] (.bool (h.begin_ L me t x).1) (fun w' C'=>br w' C' c s sg b L (h.begin_ L me t x).2) w):=by
 obtain⟨⟨A,n,cap,hn,st,hrow⟩,hme,hsp,hsm⟩:=id hst
 obtain⟨hfd,hu,-⟩:=hok
 have eL:=fun W C' (k:dT W C' c sg b pe pn pf pc pp { h with task:=eA x })=>dI k hfd
 unfold dT at sb eL
 obtain⟨u,no,rounds,limit,at_,found,⟨sh,kind,key⟩,⟨g0,⟨g1,g2,g3⟩,g4,g5,g6,g7,g8⟩,exec,a5,find,cl,aD⟩:=h
 simp only at sb h0 hfd hu eL hs
 subst h0
 have hmay:(eA x).may=true:=by
  unfold gC at hq
  simp only[Bool.and_eq_true] at hq
  exact hq.2
 obtain⟨T,hT⟩:∃ T,eA x=T:=⟨_,rfl⟩
 have yS:∀ W,Calls Tryz.prog 142 #[.int .u64 x] W fun e w'=>e= .returned (.tuple #[T.val,.int .i64 0])∧Below W.heap.size W w':=fun W=>(jI x W hx).mono fun e w' h=>⟨h.1.trans (by rw[hq];simp only[if_true];rw[hT]),h.2⟩
 obtain⟨D,hD⟩:∃ D,getD' found=D:=⟨_,rfl⟩
 have fJ:=fun W=>a4 T W
 rw[hD] at hs
 simp only[hT] at hmay eL hlk
 simp only[hD] at eL
 rw[hlk] at fJ
 have HST:Hid (aK.begin_ L me t (⟨u,no,rounds,limit,2,found,⟨sh,kind,key⟩,⟨g0,⟨g1,g2,g3⟩,g4,g5,g6,g7,g8⟩,exec,a5,find,cl,aD⟩:aK) x=(false,aK.search L me (⟨u,no,rounds,limit,2,found,T,⟨g0,⟨g1,g2,g3⟩,g4,g5,g6,g7,g8⟩,exec,a5,find,cl,aD⟩:aK))):=Lib.hid (by unfold aK.begin_;rw[if_neg (by rw[hq];decide)];simp only;rw[if_neg (by rw[hD];simpa using hs),if_neg (by rw[hT,hlk];simp)];simp only[hT])
 have HIS:=fun (W:World) (B:Nat) (A:Option Addr) (k:Sl W B 1 A 1 (cv [1])) (hB:B≤W.heap.size)=>j0 D A 1 1 B [1] W k hB rfl (by omega)
 rw[show jx [1] D.status=true by rw[hs];rfl] at HIS
 have Ew:=fun W C' (k1:al W C' s sg L me t) (k2:dT W C' c sg b pe pn pf pc pp (⟨u,no,rounds,limit,2,found,T,⟨g0,⟨g1,g2,g3⟩,g4,g5,g6,g7,g8⟩,exec,a5,find,cl,aD⟩:aK))=>jO hL k1 k2 hmay
 clear hq hT hD hs hlk hn hrow hsm
 obtain⟨s2,k2,y2⟩:=T
 obtain⟨da,dd,dv,dn,dm,ds,dl⟩:=D
 simp only[bq.val] at yS fJ
 simp only[Ds.vals] at eL HIS
 have hf0:=js (.int .i64 da) (.int .i64 dd) (.int .i64 dv) (.int .i64 dn) (.bool dm) (.int .i64 ds) (.int .i64 dl)
 go_enter Tryz.func98,Tryz.ntmps98
 have fr:=Fr.refl C (K0 c) [some 171] w
 have ag:=aB.refl w.heap.size C
 go_wp2_with fail
 revert st;revert hst;revert sb;revert fr;refine bk (yS _) ?_;rintro e w1 rfl fr sb hst st
 have z1:=And.intro sb st
 revert fr sb hst st;refine bx1 85 #[.int .i64 s2,.int .i64 k2,.int .i64 y2] ?_;rintro w2 Be H9 fr tb sb hst st
 have z2:=And.intro sb (And.intro st tb)
 revert fr tb hst st;refine st1 sb 7 (.int .i64 s2) (fun _ h=>h) ag ?_;clear sb;rintro w3 e1 fr sb tb hst st
 simp only[sx] at sb
 have z3:=And.intro sb (And.intro st tb)
 revert fr tb hst st;refine st1 sb 8 (.int .i64 k2) (fun _ h=>h) ag ?_;clear sb;rintro w4 e2 fr sb tb hst st
 simp only[sx] at sb
 have z4:=And.intro sb (And.intro st tb)
 revert fr tb hst st;refine st1 sb 9 (.int .i64 y2) (fun _ h=>h) ag ?_;clear sb;rintro w5 e3 fr sb tb hst st
 simp only[sx] at sb
 go_wp2_with fail
 clear Be z1 z2 e1 z3 e2 z4 e3
 refine(eL _ _ sb).mono ?_;rintro e w6 ⟨rfl,hb6⟩
 revert fr tb hst st sb;refine dX hb6 ?_;intro fr tb hst st sb
 have z5:=And.intro sb (And.intro st tb)
 revert fr tb hst st sb;refine bx1 3 #[.int .i64 1] ?_;rintro w7 xX EA fr sl tb hst st sb
 go_wp2_with fail
 clear xX z5
 have hsl:=fj sl.blk
 skip
 revert fr sl tb hst st sb;refine bk (HIS _ _ _ hsl (Nat.le_refl _)) ?_;rintro e w8 rfl fr sl tb hst st sb
 clear hsl
 clear sl
 go_wp2_with fail
 revert tb;revert st;revert hst;revert sb;revert fr;refine bk (fJ _) ?_;rintro e w9 rfl fr sb hst st tb
 go_wp2_with fail
 refine(Ew _ _ hst sb).mono ?_
 rintro e w9 ⟨rfl,⟨C9,dC,bN⟩,bU⟩
 have fX:=ag.trans dC fr.size
 replace fr:=fr.trans (bU.mono (fun _ h=>h) (fun _ h=>h)) ag
 go_wp2_with fail
 go_ret
 exact⟨by rw[HST.out];rfl,⟨_,fX,by rw[HST.out];exact bN⟩,fr⟩
theorem qN {h:aK} {pe pn pf pc pp:Value} (hL:L.Ok) (hst:al w C s sg L me t) (sb:dT w C c sg b pe pn pf pc pp h) (h0:h.at_=2) (hok:h.Ok 1000000) (x:Int) (hx:0≤x∧x<18446744073709551616) (_:c≠s) (hq:gC x=true) (hs:(getD' h.found).status=1) (hlk:(eA x).links=true) (hz:t.spare≠0):Calls Tryz.prog 98 #[.pointer (some ⟨b,0,none⟩),.int .u64 x] w (OW C (K0 c) [some 171] (.bool (h.begin_ L me t x).1) (fun w' C'=>br w' C' c s sg b L (h.begin_ L me t x).2) w):=by
 obtain⟨⟨A,n,cap,hn,st,hrow⟩,hme,hsp,hsm⟩:=id hst
 obtain⟨hfd,hu,-⟩:=hok
 have eL:=fun W C' (k:dT W C' c sg b pe pn pf pc pp { h with task:=eA x })=>dI k hfd
 unfold dT at sb eL
 obtain⟨u,no,rounds,limit,at_,found,⟨sh,kind,key⟩,⟨g0,⟨g1,g2,g3⟩,g4,g5,g6,g7,g8⟩,exec,a5,find,cl,aD⟩:=h
 simp only at sb h0 hfd hu eL hs
 subst h0
 have hmay:(eA x).may=true:=by
  unfold gC at hq
  simp only[Bool.and_eq_true] at hq
  exact hq.2
 obtain⟨T,hT⟩:∃ T,eA x=T:=⟨_,rfl⟩
 have yS:∀ W,Calls Tryz.prog 142 #[.int .u64 x] W fun e w'=>e= .returned (.tuple #[T.val,.int .i64 0])∧Below W.heap.size W w':=fun W=>(jI x W hx).mono fun e w' h=>⟨h.1.trans (by rw[hq];simp only[if_true];rw[hT]),h.2⟩
 obtain⟨D,hD⟩:∃ D,getD' found=D:=⟨_,rfl⟩
 have fJ:=fun W=>a4 T W
 rw[hD] at hs
 simp only[hT] at hmay eL hlk
 simp only[hD] at eL
 rw[hlk] at fJ
 have HST:Hid (aK.begin_ L me t (⟨u,no,rounds,limit,2,found,⟨sh,kind,key⟩,⟨g0,⟨g1,g2,g3⟩,g4,g5,g6,g7,g8⟩,exec,a5,find,cl,aD⟩:aK) x=(false,aK.search L me (⟨u,no,rounds,limit,2,found,T,⟨g0,⟨g1,g2,g3⟩,g4,g5,g6,g7,g8⟩,exec,a5,find,cl,aD⟩:aK))):=Lib.hid (by unfold aK.begin_;rw[if_neg (by rw[hq];decide)];simp only;rw[if_neg (by rw[hD];simpa using hs),if_neg (by rw[hT,hlk];simp[hz])];simp only[hT])
 have HIS:=fun (W:World) (B:Nat) (A:Option Addr) (k:Sl W B 1 A 1 (cv [1])) (hB:B≤W.heap.size)=>j0 D A 1 1 B [1] W k hB rfl (by omega)
 rw[show jx [1] D.status=true by rw[hs];rfl] at HIS
 have Ew:=fun W C' (k1:al W C' s sg L me t) (k2:dT W C' c sg b pe pn pf pc pp (⟨u,no,rounds,limit,2,found,T,⟨g0,⟨g1,g2,g3⟩,g4,g5,g6,g7,g8⟩,exec,a5,find,cl,aD⟩:aK))=>jO hL k1 k2 hmay
 have dz:(t.spare==0)=false:=beq_false_of_ne hz
 clear hq hT hD hs hlk hz hn hrow hsm
 obtain⟨s2,k2,y2⟩:=T
 obtain⟨da,dd,dv,dn,dm,ds,dl⟩:=D
 simp only[bq.val] at yS fJ
 simp only[Ds.vals] at eL HIS
 have hf0:=js (.int .i64 da) (.int .i64 dd) (.int .i64 dv) (.int .i64 dn) (.bool dm) (.int .i64 ds) (.int .i64 dl)
 go_enter Tryz.func98,Tryz.ntmps98
 have fr:=Fr.refl C (K0 c) [some 171] w
 have ag:=aB.refl w.heap.size C
 go_wp2_with fail
 revert st;revert hst;revert sb;revert fr;refine bk (yS _) ?_;rintro e w1 rfl fr sb hst st
 have z1:=And.intro sb st
 revert fr sb hst st;refine bx1 85 #[.int .i64 s2,.int .i64 k2,.int .i64 y2] ?_;rintro w2 Be H9 fr tb sb hst st
 have z2:=And.intro sb (And.intro st tb)
 revert fr tb hst st;refine st1 sb 7 (.int .i64 s2) (fun _ h=>h) ag ?_;clear sb;rintro w3 e1 fr sb tb hst st
 simp only[sx] at sb
 have z3:=And.intro sb (And.intro st tb)
 revert fr tb hst st;refine st1 sb 8 (.int .i64 k2) (fun _ h=>h) ag ?_;clear sb;rintro w4 e2 fr sb tb hst st
 simp only[sx] at sb
 have z4:=And.intro sb (And.intro st tb)
 revert fr tb hst st;refine st1 sb 9 (.int .i64 y2) (fun _ h=>h) ag ?_;clear sb;rintro w5 e3 fr sb tb hst st
 simp only[sx] at sb
 go_wp2_with fail
 clear Be z1 z2 e1 z3 e2 z4 e3
 refine(eL _ _ sb).mono ?_;rintro e w6 ⟨rfl,hb6⟩
 revert fr tb hst st sb;refine dX hb6 ?_;intro fr tb hst st sb
 have z5:=And.intro sb (And.intro st tb)
 revert fr tb hst st sb;refine bx1 3 #[.int .i64 1] ?_;rintro w7 xX EA fr sl tb hst st sb
 go_wp2_with fail
 clear xX z5
 have hsl:=fj sl.blk
 skip
 revert fr sl tb hst st sb;refine bk (HIS _ _ _ hsl (Nat.le_refl _)) ?_;rintro e w8 rfl fr sl tb hst st sb
 clear hsl
 clear sl
 go_wp2_with fail
 revert tb;revert st;revert hst;revert sb;revert fr;refine bk (fJ _) ?_;rintro e w9 rfl fr sb hst st tb
 go_wp2_with fail
 refine(Ew _ _ hst sb).mono ?_
 rintro e w9 ⟨rfl,⟨C9,dC,bN⟩,bU⟩
 have fX:=ag.trans dC fr.size
 replace fr:=fr.trans (bU.mono (fun _ h=>h) (fun _ h=>h)) ag
 go_wp2_with fail
 go_ret
 exact⟨by rw[HST.out];rfl,⟨_,fX,by rw[HST.out];exact bN⟩,fr⟩
theorem wI {h:aK} {pe pn pf pc pp:Value} (hL:L.Ok) (hst:al w C s sg L me t) (sb:dT w C c sg b pe pn pf pc pp h) (h0:h.at_=2) (hok:h.Ok 1000000) (x:Int) (hx:0≤x∧x<18446744073709551616) (hcs:c≠s):Calls Tryz.prog 98 #[.pointer (some ⟨b,0,none⟩),.int .u64 x] w (OW C (K0 c) [some 171] (.bool (h.begin_ L me t x).1) (fun w' C'=>br w' C' c s sg b L (h.begin_ L me t x).2) w):=by
 cases hq:gC x with
 | false=>exact oX hL hst sb h0 hok x hx hcs hq
 | true=>
  by_cases hs:(getD' h.found).status=1
  ·cases hlk:(eA x).links with
   | false=>exact qM hL hst sb h0 hok x hx hcs hq hs hlk
   | true=>
    by_cases hz:t.spare=0
    ·exact qL hL hst sb h0 hok x hx hcs hq hs hlk hz
    ·exact qN hL hst sb h0 hok x hx hcs hq hs hlk hz
  ·exact qK hL hst sb h0 hok x hx hcs hq hs
def aK.bP (spare:Int) (h:aK):aK:=
 let p:=aw h.task h.find.pos spare
 let g:aK:={ h with plan:=p }
 if h.find.ab then { g with at_:=0 }
 else if p.now then { g with at_:=6 }
 else if p.claimed then { g with at_:=7,cl:= .new p.addr }
 else if h.task.links then { g with at_:=8,aD:= .new h.task.key h.find.pos.curr }
 else { g with at_:=9 }
theorem aK.rI (t:cV) (h:aK):h.sought t=(t.retire h.find.aQ,h.bP t.spare):=by
 unfold aK.sought aK.bP
 simp only
 split
 ·rfl
 ·split
  ·rfl
  ·split
   ·rfl
   ·split<;>rfl
theorem oY {h:aK} (hst:al w C s sg L me t) (h':br w C c s sg b L h) (h0:h.at_=5) (hmay:h.task.may=true) (hfo:h.find.Ok 100000) (ha:h.find.ab=true):Calls Tryz.prog 149 #[.pointer (some ⟨b,0,none⟩)] w (OW C (K0 c) [some 171] (.tuple #[]) (fun w' C'=>br w' C' c s sg b L (h.bP t.spare)) w):=by
 obtain⟨pe,pn,pf,pc,pp,sb,h1,h2,h3,h4,h5⟩:=h'.ex
 obtain⟨bf,rfl,hfi⟩:=h3 h0
 unfold dT at sb
 obtain⟨u,no,rounds,limit,at_,found,⟨sh,kind,key⟩,⟨g0,⟨g1,g2,g3⟩,g4,g5,g6,g7,g8⟩,exec,a5,bT,cl,aD⟩:=h
 simp only at sb h0 hfi hmay hfo ha⊢
 subst h0
 obtain⟨pc1,hfc,-⟩:=hfi.ex
 obtain⟨A1,n1,cap1,hn1,fi,hrow1⟩:=hfc.ex
 obtain⟨A,n,cap,hn,st,hrow⟩:=hst.ex
 have hp:bT.pos.Ok:=⟨hfo.pw,hfo.cw⟩
 have dP:=fun W=>fV ⟨sh,kind,key⟩ bT.pos t.spare hp hmay W
 have hold:=fun (h:(aw ⟨sh,kind,key⟩ bT.pos t.spare).now=false)=>cP (t:=⟨sh,kind,key⟩) (spare:=t.spare) hp h
 have HAB:=Lib.hid ha
 obtain⟨P,hP⟩:∃ P,aw ⟨sh,kind,key⟩ bT.pos t.spare=P:=⟨_,rfl⟩
 simp only[hP] at dP  hold
 have HST:Hid (aK.bP t.spare (⟨u,no,rounds,limit,5,found,⟨sh,kind,key⟩,⟨g0,⟨g1,g2,g3⟩,g4,g5,g6,g7,g8⟩,exec,a5,bT,cl,aD⟩:aK)=(⟨u,no,rounds,limit,0,found,⟨sh,kind,key⟩,P,exec,a5,bT,cl,aD⟩:aK)):=Lib.hid (by unfold aK.bP;simp only[hP];rw[if_pos ha])
 clear hP hold
 obtain⟨p0,⟨p1,p2,p3⟩,p4,p5,p6,p7,p8⟩:=P
 simp only[dw.val] at dP
 clear ha hfo hn1 hrow1 hn hrow h' h1 h2 h3 h4 h5 hfc hmay hp
 go_enter Tryz.func149,Tryz.ntmps149
 rw[HAB.out] at fi
 have fr:=Fr.refl C (K0 c) [some 171] w
 have ag:=aB.refl w.heap.size C
 go_wp2_with fail
 revert st;revert fi;revert hfi;revert sb;revert fr;refine bD ?_;intro fr sb hfi fi st
 obtain⟨q1,q2,q3,qi⟩:=cF sb fi st
 refine aY sb fi st 19 [] [0,1,2,3,4,5,6,7,8,9,10,11,12,13,14,15,16,17,18] [19,20,21,22] (by kernel_rfl) (by kernel_rfl) ?_
 refine af ?_;try simp only[ox]
 repeat(go_big_quiet_step (fail))
 refine wpQuiet_nil ?_
 refine ae _ _ _ (by kernel_rfl) ?_;try simp only[ox]
 clear qi q1 q2 q3
 go_wp2_with fail
 revert fr sb hfi fi st;refine bk (dP _) ?_;rintro e w1 rfl fr sb hfi fi st
 have z1:=And.intro sb (And.intro fi st)
 have hR:=ko
 revert fr hfi fi st;refine yH sb [(10,.bool p0),(11,.int .i64 p1),(12,.bool p2),(13,.int .i64 p3),(14,.int .i64 p4),(15,.int .u64 p5),(16,.int .i64 p6),(17,.bool p7),(18,.int .i64 p8)] (fun _ h=>h) ag ?_;clear sb;rintro w2 e1 fr sb hfi fi st
 simp only[stx,sx] at e1 sb
 go_wp2_with fail
 refine NoPanic.normal ?_
 go_wp2_with fail
 clear z1 e1 hR
 skip
 have z2:=And.intro sb (And.intro fi st)
 revert fr hfi fi st;refine st1 sb 5 (.int .i64 0) (fun _ h=>h) ag ?_;clear sb;rintro w3 e1 fr sb hfi fi st
 simp only[sx] at sb
 go_wp2_with fail
 try simp only[e1]
 clear z2 e1
 go_end0
 exact⟨rfl,⟨_,ag,by rw[HST.out];exact⟨_,_,_,_,_,sb,fun h=>by simp at h,fun h=>by simp at h,fun h=>by simp at h,fun h=>by simp at h,fun h=>by simp at h⟩⟩,fr⟩
theorem nN {h:aK} (hst:al w C s sg L me t) (h':br w C c s sg b L h) (h0:h.at_=5) (hmay:h.task.may=true) (hfo:h.find.Ok 100000) (ha:h.find.ab=false) (hn0:(aw h.task h.find.pos t.spare).now=true):Calls Tryz.prog 149 #[.pointer (some ⟨b,0,none⟩)] w (OW C (K0 c) [some 171] (.tuple #[]) (fun w' C'=>br w' C' c s sg b L (h.bP t.spare)) w):=by
 obtain⟨pe,pn,pf,pc,pp,sb,h1,h2,h3,h4,h5⟩:=h'.ex
 obtain⟨bf,rfl,hfi⟩:=h3 h0
 unfold dT at sb
 obtain⟨u,no,rounds,limit,at_,found,⟨sh,kind,key⟩,⟨g0,⟨g1,g2,g3⟩,g4,g5,g6,g7,g8⟩,exec,a5,bT,cl,aD⟩:=h
 simp only at sb h0 hfi hmay hfo ha hn0⊢
 subst h0
 obtain⟨pc1,hfc,-⟩:=hfi.ex
 obtain⟨A1,n1,cap1,hn1,fi,hrow1⟩:=hfc.ex
 obtain⟨A,n,cap,hn,st,hrow⟩:=hst.ex
 have hp:bT.pos.Ok:=⟨hfo.pw,hfo.cw⟩
 have dP:=fun W=>fV ⟨sh,kind,key⟩ bT.pos t.spare hp hmay W
 have hold:=fun (h:(aw ⟨sh,kind,key⟩ bT.pos t.spare).now=false)=>cP (t:=⟨sh,kind,key⟩) (spare:=t.spare) hp h
 have HAB:=Lib.hid ha
 obtain⟨P,hP⟩:∃ P,aw ⟨sh,kind,key⟩ bT.pos t.spare=P:=⟨_,rfl⟩
 simp only[hP] at dP  hn0 hold
 have HST:Hid (aK.bP t.spare (⟨u,no,rounds,limit,5,found,⟨sh,kind,key⟩,⟨g0,⟨g1,g2,g3⟩,g4,g5,g6,g7,g8⟩,exec,a5,bT,cl,aD⟩:aK)=(⟨u,no,rounds,limit,6,found,⟨sh,kind,key⟩,P,exec,a5,bT,cl,aD⟩:aK)):=Lib.hid (by unfold aK.bP;simp only[hP];rw[if_neg (by rw[ha];decide),if_pos hn0])
 clear hP hold
 obtain⟨p0,⟨p1,p2,p3⟩,p4,p5,p6,p7,p8⟩:=P
 simp only at hn0
 subst hn0
 simp only[dw.val] at dP
 clear ha hfo hn1 hrow1 hn hrow h' h1 h2 h3 h4 h5 hfc hmay hp
 go_enter Tryz.func149,Tryz.ntmps149
 rw[HAB.out] at fi
 have fr:=Fr.refl C (K0 c) [some 171] w
 have ag:=aB.refl w.heap.size C
 go_wp2_with fail
 revert st;revert fi;revert hfi;revert sb;revert fr;refine bD ?_;intro fr sb hfi fi st
 obtain⟨q1,q2,q3,qi⟩:=cF sb fi st
 refine aY sb fi st 19 [] [0,1,2,3,4,5,6,7,8,9,10,11,12,13,14,15,16,17,18] [19,20,21,22] (by kernel_rfl) (by kernel_rfl) ?_
 refine af ?_;try simp only[ox]
 repeat(go_big_quiet_step (fail))
 refine wpQuiet_nil ?_
 refine ae _ _ _ (by kernel_rfl) ?_;try simp only[ox]
 clear qi q1 q2 q3
 go_wp2_with fail
 revert fr sb hfi fi st;refine bk (dP _) ?_;rintro e w1 rfl fr sb hfi fi st
 have z1:=And.intro sb (And.intro fi st)
 have hR:=ko
 revert fr hfi fi st;refine yH sb [(10,.bool true),(11,.int .i64 p1),(12,.bool p2),(13,.int .i64 p3),(14,.int .i64 p4),(15,.int .u64 p5),(16,.int .i64 p6),(17,.bool p7),(18,.int .i64 p8)] (fun _ h=>h) ag ?_;clear sb;rintro w2 e1 fr sb hfi fi st
 simp only[stx,sx] at e1 sb
 go_wp2_with fail
 refine NoPanic.normal ?_
 go_wp2_with fail
 clear z1 e1 hR
 skip
 have z2:=And.intro sb (And.intro fi st)
 revert fr hfi fi st;refine st1 sb 5 (.int .i64 6) (fun _ h=>h) ag ?_;clear sb;rintro w3 e1 fr sb hfi fi st
 simp only[sx] at sb
 go_wp2_with fail
 try simp only[e1]
 clear z2 e1
 go_end0
 exact⟨rfl,⟨_,ag,by rw[HST.out];exact⟨_,_,_,_,_,sb,fun h=>by simp at h,fun h=>by simp at h,fun h=>by simp at h,fun h=>by simp at h,fun h=>by simp at h⟩⟩,fr⟩
theorem oZ {h:aK} (hst:al w C s sg L me t) (h':br w C c s sg b L h) (h0:h.at_=5) (hmay:h.task.may=true) (hfo:h.find.Ok 100000) (ha:h.find.ab=false) (hn0:(aw h.task h.find.pos t.spare).now=false) (hcl:(aw h.task h.find.pos t.spare).claimed=true):Calls Tryz.prog 149 #[.pointer (some ⟨b,0,none⟩)] w (OW C (K0 c) [some 171] (.tuple #[]) (fun w' C'=>br w' C' c s sg b L (h.bP t.spare)) w):=by
 obtain⟨pe,pn,pf,pc,pp,sb,h1,h2,h3,h4,h5⟩:=h'.ex
 obtain⟨bf,rfl,hfi⟩:=h3 h0
 unfold dT at sb
 obtain⟨u,no,rounds,limit,at_,found,⟨sh,kind,key⟩,⟨g0,⟨g1,g2,g3⟩,g4,g5,g6,g7,g8⟩,exec,a5,bT,cl,aD⟩:=h
 simp only at sb h0 hfi hmay hfo ha hn0 hcl⊢
 subst h0
 obtain⟨pc1,hfc,-⟩:=hfi.ex
 obtain⟨A1,n1,cap1,hn1,fi,hrow1⟩:=hfc.ex
 obtain⟨A,n,cap,hn,st,hrow⟩:=hst.ex
 have hp:bT.pos.Ok:=⟨hfo.pw,hfo.cw⟩
 have dP:=fun W=>fV ⟨sh,kind,key⟩ bT.pos t.spare hp hmay W
 have hold:=fun (h:(aw ⟨sh,kind,key⟩ bT.pos t.spare).now=false)=>cP (t:=⟨sh,kind,key⟩) (spare:=t.spare) hp h
 have HAB:=Lib.hid ha
 obtain⟨P,hP⟩:∃ P,aw ⟨sh,kind,key⟩ bT.pos t.spare=P:=⟨_,rfl⟩
 simp only[hP] at dP  hn0 hcl hold
 have HST:Hid (aK.bP t.spare (⟨u,no,rounds,limit,5,found,⟨sh,kind,key⟩,⟨g0,⟨g1,g2,g3⟩,g4,g5,g6,g7,g8⟩,exec,a5,bT,cl,aD⟩:aK)=(⟨u,no,rounds,limit,7,found,⟨sh,kind,key⟩,P,exec,a5,bT,.new P.addr,aD⟩:aK)):=Lib.hid (by unfold aK.bP;simp only[hP];rw[if_neg (by rw[ha];decide),if_neg (by rw[hn0];decide),if_pos hcl])
 have gG:=hold hn0
 have gn:=fun W=>dW P gG W
 rw[hcl] at gn
 clear hP hold
 obtain⟨p0,⟨p1,p2,p3⟩,p4,p5,p6,p7,p8⟩:=P
 simp only at hn0
 subst hn0
 simp only[dw.val] at dP gn
 clear ha hfo hn1 hrow1 hn hrow h' h1 h2 h3 h4 h5 hfc hmay hp hcl gG
 go_enter Tryz.func149,Tryz.ntmps149
 rw[HAB.out] at fi
 have fr:=Fr.refl C (K0 c) [some 171] w
 have ag:=aB.refl w.heap.size C
 go_wp2_with fail
 revert st;revert fi;revert hfi;revert sb;revert fr;refine bD ?_;intro fr sb hfi fi st
 obtain⟨q1,q2,q3,qi⟩:=cF sb fi st
 refine aY sb fi st 19 [] [0,1,2,3,4,5,6,7,8,9,10,11,12,13,14,15,16,17,18] [19,20,21,22] (by kernel_rfl) (by kernel_rfl) ?_
 refine af ?_;try simp only[ox]
 repeat(go_big_quiet_step (fail))
 refine wpQuiet_nil ?_
 refine ae _ _ _ (by kernel_rfl) ?_;try simp only[ox]
 clear qi q1 q2 q3
 go_wp2_with fail
 revert fr sb hfi fi st;refine bk (dP _) ?_;rintro e w1 rfl fr sb hfi fi st
 have z1:=And.intro sb (And.intro fi st)
 have hR:=ko
 revert fr hfi fi st;refine yH sb [(10,.bool false),(11,.int .i64 p1),(12,.bool p2),(13,.int .i64 p3),(14,.int .i64 p4),(15,.int .u64 p5),(16,.int .i64 p6),(17,.bool p7),(18,.int .i64 p8)] (fun _ h=>h) ag ?_;clear sb;rintro w2 e1 fr sb hfi fi st
 simp only[stx,sx] at e1 sb
 go_wp2_with fail
 refine NoPanic.normal ?_
 go_wp2_with fail
 clear z1 e1 hR
 skip
 revert fr hfi fi st sb;refine bk (gn _) ?_;rintro e w3 rfl fr hfi fi st sb
 go_wp2_with fail
 revert fr hfi fi st sb;refine bD ?_;intro fr hfi fi st sb
 obtain⟨q1,q2,q3,qi⟩:=cF sb fi st
 refine aY sb fi st 14 [] [0,1,2,3,4,5,6,7,8,9,10,11,12,13] [14,15,16,17,18,19,20] (by kernel_rfl) (by kernel_rfl) ?_
 refine af ?_;try simp only[ox]
 repeat(go_big_quiet_step (fail))
 refine wpQuiet_nil ?_
 refine ae _ _ _ (by kernel_rfl) ?_;try simp only[ox]
 clear qi q1 q2 q3
 go_wp2_with fail
 revert ag fr hfi fi st sb;refine fL (j4 L p4 C c _) ?_;rintro w4 bc C4 ag fr hcl hfi fi st sb
 have z2:=And.intro sb (And.intro fi st)
 revert fr hcl hfi fi st;refine st1 sb 5 (.int .i64 7) (fun _ h=>h) ag ?_;clear sb;rintro w5 e1 fr sb hcl hfi fi st
 simp only[sx] at sb
 have z3:=And.intro sb (And.intro fi st)
 revert fr hcl hfi fi st;refine st1 sb 22 (.pointer (some ⟨bc,0,none⟩)) (fun _ h=>h) ag ?_;clear sb;rintro w6 e2 fr sb hcl hfi fi st
 simp only[sx] at sb
 go_wp2_with fail
 refine NoPanic.normal ?_
 go_wp2_with fail
 clear z2 e1 z3 e2
 go_end0
 exact⟨rfl,⟨_,ag,by rw[HST.out];exact⟨_,_,_,_,_,sb,fun h=>by simp at h,fun h=>by simp at h,fun h=>by simp at h,fun _=>⟨bc,rfl,hcl⟩,fun h=>by simp at h⟩⟩,fr⟩
theorem o0 {h:aK} (hst:al w C s sg L me t) (h':br w C c s sg b L h) (h0:h.at_=5) (hmay:h.task.may=true) (hfo:h.find.Ok 100000) (ha:h.find.ab=false) (hn0:(aw h.task h.find.pos t.spare).now=false) (hcl:(aw h.task h.find.pos t.spare).claimed=false) (hlk:h.task.links=true):Calls Tryz.prog 149 #[.pointer (some ⟨b,0,none⟩)] w (OW C (K0 c) [some 171] (.tuple #[]) (fun w' C'=>br w' C' c s sg b L (h.bP t.spare)) w):=by
 obtain⟨pe,pn,pf,pc,pp,sb,h1,h2,h3,h4,h5⟩:=h'.ex
 obtain⟨bf,rfl,hfi⟩:=h3 h0
 unfold dT at sb
 obtain⟨u,no,rounds,limit,at_,found,⟨sh,kind,key⟩,⟨g0,⟨g1,g2,g3⟩,g4,g5,g6,g7,g8⟩,exec,a5,bT,cl,aD⟩:=h
 simp only at sb h0 hfi hmay hfo ha hn0 hcl hlk⊢
 subst h0
 obtain⟨pc1,hfc,-⟩:=hfi.ex
 obtain⟨A1,n1,cap1,hn1,fi,hrow1⟩:=hfc.ex
 obtain⟨A,n,cap,hn,st,hrow⟩:=hst.ex
 have hp:bT.pos.Ok:=⟨hfo.pw,hfo.cw⟩
 have dP:=fun W=>fV ⟨sh,kind,key⟩ bT.pos t.spare hp hmay W
 have hold:=fun (h:(aw ⟨sh,kind,key⟩ bT.pos t.spare).now=false)=>cP (t:=⟨sh,kind,key⟩) (spare:=t.spare) hp h
 have HAB:=Lib.hid ha
 obtain⟨P,hP⟩:∃ P,aw ⟨sh,kind,key⟩ bT.pos t.spare=P:=⟨_,rfl⟩
 simp only[hP] at dP  hn0 hcl hold
 have HST:Hid (aK.bP t.spare (⟨u,no,rounds,limit,5,found,⟨sh,kind,key⟩,⟨g0,⟨g1,g2,g3⟩,g4,g5,g6,g7,g8⟩,exec,a5,bT,cl,aD⟩:aK)=(⟨u,no,rounds,limit,8,found,⟨sh,kind,key⟩,P,exec,a5,bT,cl,.new key bT.pos.curr⟩:aK)):=Lib.hid (by unfold aK.bP;simp only[hP];rw[if_neg (by rw[ha];decide),if_neg (by rw[hn0];decide),if_neg (by rw[hcl];decide),if_pos hlk])
 have gG:=hold hn0
 have gn:=fun W=>dW P gG W
 rw[hcl] at gn
 have fJ:∀ W,Calls Tryz.prog 104 #[.agg #[.int .i64 sh,.int .i64 kind,.int .i64 key]] W fun e w'=>e= .returned (.bool true)∧Below W.heap.size W w':=fun W=>(a4 ⟨sh,kind,key⟩ W).mono fun e w' h=>⟨h.1.trans (by rw[hlk]),h.2⟩
 clear hP hold
 obtain⟨p0,⟨p1,p2,p3⟩,p4,p5,p6,p7,p8⟩:=P
 simp only at hn0
 subst hn0
 simp only[dw.val] at dP gn
 clear ha hfo hn1 hrow1 hn hrow h' h1 h2 h3 h4 h5 hfc hmay hp hcl hlk gG
 go_enter Tryz.func149,Tryz.ntmps149
 rw[HAB.out] at fi
 have fr:=Fr.refl C (K0 c) [some 171] w
 have ag:=aB.refl w.heap.size C
 go_wp2_with fail
 revert st;revert fi;revert hfi;revert sb;revert fr;refine bD ?_;intro fr sb hfi fi st
 obtain⟨q1,q2,q3,qi⟩:=cF sb fi st
 refine aY sb fi st 19 [] [0,1,2,3,4,5,6,7,8,9,10,11,12,13,14,15,16,17,18] [19,20,21,22] (by kernel_rfl) (by kernel_rfl) ?_
 refine af ?_;try simp only[ox]
 repeat(go_big_quiet_step (fail))
 refine wpQuiet_nil ?_
 refine ae _ _ _ (by kernel_rfl) ?_;try simp only[ox]
 clear qi q1 q2 q3
 go_wp2_with fail
 revert fr sb hfi fi st;refine bk (dP _) ?_;rintro e w1 rfl fr sb hfi fi st
 have z1:=And.intro sb (And.intro fi st)
 have hR:=ko
 revert fr hfi fi st;refine yH sb [(10,.bool false),(11,.int .i64 p1),(12,.bool p2),(13,.int .i64 p3),(14,.int .i64 p4),(15,.int .u64 p5),(16,.int .i64 p6),(17,.bool p7),(18,.int .i64 p8)] (fun _ h=>h) ag ?_;clear sb;rintro w2 e1 fr sb hfi fi st
 simp only[stx,sx] at e1 sb
 go_wp2_with fail
 refine NoPanic.normal ?_
 go_wp2_with fail
 clear z1 e1 hR
 skip
 revert fr hfi fi st sb;refine bk (gn _) ?_;rintro e w3 rfl fr hfi fi st sb
 go_wp2_with fail
 revert fr hfi fi st sb;refine bk (fJ _) ?_;rintro e w4 rfl fr hfi fi st sb
 go_wp2_with fail
 revert fr hfi fi st sb;refine bD ?_;intro fr hfi fi st sb
 obtain⟨q1,q2,q3,qi⟩:=cF sb fi st
 refine aY sb fi st 20 [] [0,1,2,3,4,5,6,7,8,9,10,11,12,13,14,15,16,17,18,19] [20,21,22,23,24,25,26] (by kernel_rfl) (by kernel_rfl) ?_
 refine af ?_;try simp only[ox]
 repeat(go_big_quiet_step (fail))
 refine wpQuiet_nil ?_
 refine ae _ _ _ (by kernel_rfl) ?_;try simp only[ox]
 clear qi q1 q2 q3
 go_wp2_with fail
 revert ag fr hfi fi st sb;refine fL (ky sg key bT.pos.curr C c _) ?_;rintro w5 bp C5 ag fr hpr hfi fi st sb
 have z2:=And.intro sb (And.intro fi st)
 revert fr hpr hfi fi st;refine st1 sb 5 (.int .i64 8) (fun _ h=>h) ag ?_;clear sb;rintro w6 e1 fr sb hpr hfi fi st
 simp only[sx] at sb
 have z3:=And.intro sb (And.intro fi st)
 revert fr hpr hfi fi st;refine st1 sb 23 (.pointer (some ⟨bp,0,none⟩)) (fun _ h=>h) ag ?_;clear sb;rintro w7 e2 fr sb hpr hfi fi st
 simp only[sx] at sb
 go_wp2_with fail
 refine NoPanic.normal ?_
 go_wp2_with fail
 clear z2 e1 z3 e2
 go_end0
 exact⟨rfl,⟨_,ag,by rw[HST.out];exact⟨_,_,_,_,_,sb,fun h=>by simp at h,fun h=>by simp at h,fun h=>by simp at h,fun h=>by simp at h,fun _=>⟨bp,rfl,hpr⟩⟩⟩,fr⟩
theorem o3 {h:aK} (hst:al w C s sg L me t) (h':br w C c s sg b L h) (h0:h.at_=5) (hmay:h.task.may=true) (hfo:h.find.Ok 100000) (ha:h.find.ab=false) (hn0:(aw h.task h.find.pos t.spare).now=false) (hcl:(aw h.task h.find.pos t.spare).claimed=false) (hlk:h.task.links=false):Calls Tryz.prog 149 #[.pointer (some ⟨b,0,none⟩)] w (OW C (K0 c) [some 171] (.tuple #[]) (fun w' C'=>br w' C' c s sg b L (h.bP t.spare)) w):=by
 obtain⟨pe,pn,pf,pc,pp,sb,h1,h2,h3,h4,h5⟩:=h'.ex
 obtain⟨bf,rfl,hfi⟩:=h3 h0
 unfold dT at sb
 obtain⟨u,no,rounds,limit,at_,found,⟨sh,kind,key⟩,⟨g0,⟨g1,g2,g3⟩,g4,g5,g6,g7,g8⟩,exec,a5,bT,cl,aD⟩:=h
 simp only at sb h0 hfi hmay hfo ha hn0 hcl hlk⊢
 subst h0
 obtain⟨pc1,hfc,-⟩:=hfi.ex
 obtain⟨A1,n1,cap1,hn1,fi,hrow1⟩:=hfc.ex
 obtain⟨A,n,cap,hn,st,hrow⟩:=hst.ex
 have hp:bT.pos.Ok:=⟨hfo.pw,hfo.cw⟩
 have dP:=fun W=>fV ⟨sh,kind,key⟩ bT.pos t.spare hp hmay W
 have hold:=fun (h:(aw ⟨sh,kind,key⟩ bT.pos t.spare).now=false)=>cP (t:=⟨sh,kind,key⟩) (spare:=t.spare) hp h
 have HAB:=Lib.hid ha
 obtain⟨P,hP⟩:∃ P,aw ⟨sh,kind,key⟩ bT.pos t.spare=P:=⟨_,rfl⟩
 simp only[hP] at dP  hn0 hcl hold
 have HST:Hid (aK.bP t.spare (⟨u,no,rounds,limit,5,found,⟨sh,kind,key⟩,⟨g0,⟨g1,g2,g3⟩,g4,g5,g6,g7,g8⟩,exec,a5,bT,cl,aD⟩:aK)=(⟨u,no,rounds,limit,9,found,⟨sh,kind,key⟩,P,exec,a5,bT,cl,aD⟩:aK)):=Lib.hid (by unfold aK.bP;simp only[hP];rw[if_neg (by rw[ha];decide),if_neg (by rw[hn0];decide),if_neg (by rw[hcl];decide),if_neg (by rw[hlk];decide)])
 have gG:=hold hn0
 have gn:=fun W=>dW P gG W
 rw[hcl] at gn
 have fJ:∀ W,Calls Tryz.prog 104 #[.agg #[.int .i64 sh,.int .i64 kind,.int .i64 key]] W fun e w'=>e= .returned (.bool false)∧Below W.heap.size W w':=fun W=>(a4 ⟨sh,kind,key⟩ W).mono fun e w' h=>⟨h.1.trans (by rw[hlk]),h.2⟩
 clear hP hold
 obtain⟨p0,⟨p1,p2,p3⟩,p4,p5,p6,p7,p8⟩:=P
 simp only at hn0
 subst hn0
 simp only[dw.val] at dP gn
 clear ha hfo hn1 hrow1 hn hrow h' h1 h2 h3 h4 h5 hfc hmay hp hcl hlk gG
 go_enter Tryz.func149,Tryz.ntmps149
 rw[HAB.out] at fi
 have fr:=Fr.refl C (K0 c) [some 171] w
 have ag:=aB.refl w.heap.size C
 go_wp2_with fail
 revert st;revert fi;revert hfi;revert sb;revert fr;refine bD ?_;intro fr sb hfi fi st
 obtain⟨q1,q2,q3,qi⟩:=cF sb fi st
 refine aY sb fi st 19 [] [0,1,2,3,4,5,6,7,8,9,10,11,12,13,14,15,16,17,18] [19,20,21,22] (by kernel_rfl) (by kernel_rfl) ?_
 refine af ?_;try simp only[ox]
 repeat(go_big_quiet_step (fail))
 refine wpQuiet_nil ?_
 refine ae _ _ _ (by kernel_rfl) ?_;try simp only[ox]
 clear qi q1 q2 q3
 go_wp2_with fail
 revert fr sb hfi fi st;refine bk (dP _) ?_;rintro e w1 rfl fr sb hfi fi st
 have z1:=And.intro sb (And.intro fi st)
 have hR:=ko
 revert fr hfi fi st;refine yH sb [(10,.bool false),(11,.int .i64 p1),(12,.bool p2),(13,.int .i64 p3),(14,.int .i64 p4),(15,.int .u64 p5),(16,.int .i64 p6),(17,.bool p7),(18,.int .i64 p8)] (fun _ h=>h) ag ?_;clear sb;rintro w2 e1 fr sb hfi fi st
 simp only[stx,sx] at e1 sb
 go_wp2_with fail
 refine NoPanic.normal ?_
 go_wp2_with fail
 clear z1 e1 hR
 skip
 revert fr hfi fi st sb;refine bk (gn _) ?_;rintro e w3 rfl fr hfi fi st sb
 go_wp2_with fail
 revert fr hfi fi st sb;refine bk (fJ _) ?_;rintro e w4 rfl fr hfi fi st sb
 have z2:=And.intro sb (And.intro fi st)
 revert fr hfi fi st;refine st1 sb 5 (.int .i64 9) (fun _ h=>h) ag ?_;clear sb;rintro w5 e1 fr sb hfi fi st
 simp only[sx] at sb
 go_wp2_with fail
 clear z2 e1
 go_end0
 exact⟨rfl,⟨_,ag,by rw[HST.out];exact⟨_,_,_,_,_,sb,fun h=>by simp at h,fun h=>by simp at h,fun h=>by simp at h,fun h=>by simp at h,fun h=>by simp at h⟩⟩,fr⟩
theorem uP {h:aK} (hst:al w C s sg L me t) (h':br w C c s sg b L h) (h0:h.at_=5) (hmay:h.task.may=true) (hfo:h.find.Ok 100000):Calls Tryz.prog 149 #[.pointer (some ⟨b,0,none⟩)] w (OW C (K0 c) [some 171] (.tuple #[]) (fun w' C'=>br w' C' c s sg b L (h.bP t.spare)) w):=by
 cases ha:h.find.ab with
 | true=>exact oY hst h' h0 hmay hfo ha
 | false=>
  cases hn0:(aw h.task h.find.pos t.spare).now with
  | true=>exact nN hst h' h0 hmay hfo ha hn0
  | false=>
   cases hcl:(aw h.task h.find.pos t.spare).claimed with
   | true=>exact oZ hst h' h0 hmay hfo ha hn0 hcl
   | false=>
    cases hlk:h.task.links with
    | true=>exact o0 hst h' h0 hmay hfo ha hn0 hcl hlk
    | false=>exact o3 hst h' h0 hmay hfo ha hn0 hcl hlk
def aK.ensured (L:Ly) (me:Int) (h:aK):aK:=if h.a5.short then { h with at_:=6,plan:=dM } else h.search L me
theorem lN {h:aK} (_:L.Ok) (hst:al w C s sg L me t) (h':br w C c s sg b L h) (h0:h.at_=4) (hmay:h.task.may=true) (hq:h.a5.short=true):Calls Tryz.prog 148 #[.pointer (some ⟨b,0,none⟩)] w (OW C (K0 c) [some 171] (.tuple #[]) (fun w' C'=>br w' C' c s sg b L (h.ensured L me)) w):=by
 obtain⟨pe,pn,pf,pc,pp,sb,h1,h2,h3,h4,h5⟩:=h'.ex
 obtain⟨bn,rfl,hen⟩:=h2 h0
 obtain⟨pa,pw,en,-,-⟩:=hen.ex
 rw[hq] at en
 unfold dT at sb
 obtain⟨u,no,rounds,limit,at_,found,⟨sh,kind,key⟩,⟨g0,⟨g1,g2,g3⟩,g4,g5,g6,g7,g8⟩,exec,a5,find,cl,aD⟩:=h
 simp only at sb h0 hq en
 subst h0
 have HST:Hid (aK.ensured L me (⟨u,no,rounds,limit,4,found,⟨sh,kind,key⟩,⟨g0,⟨g1,g2,g3⟩,g4,g5,g6,g7,g8⟩,exec,a5,find,cl,aD⟩:aK)=(⟨u,no,rounds,limit,6,found,⟨sh,kind,key⟩,dM,exec,a5,find,cl,aD⟩:aK)):=Lib.hid (by unfold aK.ensured;rw[if_pos hq])
 clear hq h' h1 h2 h3 h4 h5 hen
 go_enter Tryz.func148,Tryz.ntmps148
 have fr:=Fr.refl C (K0 c) [some 171] w
 have ag:=aB.refl w.heap.size C
 go_wp2_with fail
 have z1:=And.intro sb en
 have hR:=ko
 revert en;revert hst;revert fr;refine yH sb [(5,.int .i64 6),(10,.bool true),(11,.int .i64 4),(12,.bool false),(13,.int .i64 0),(14,.int .i64 0),(15,.int .u64 0),(16,.int .i64 0),(17,.bool false),(18,.int .i64 0)] (fun _ h=>h) ag ?_;clear sb;rintro w1 e1 fr sb hst en
 simp only[stx,sx] at e1 sb
 go_wp2_with fail
 try simp only[e1]
 clear z1 e1 hR
 go_end0
 exact⟨rfl,⟨_,ag,by rw[HST.out];exact⟨_,_,_,_,_,sb,fun h=>by simp at h,fun h=>by simp at h,fun h=>by simp at h,fun h=>by simp at h,fun h=>by simp at h⟩⟩,fr⟩
theorem kY {h:aK} (hL:L.Ok) (hst:al w C s sg L me t) (h':br w C c s sg b L h) (h0:h.at_=4) (hmay:h.task.may=true) (hq:h.a5.short=false):Calls Tryz.prog 148 #[.pointer (some ⟨b,0,none⟩)] w (OW C (K0 c) [some 171] (.tuple #[]) (fun w' C'=>br w' C' c s sg b L (h.ensured L me)) w):=by
 obtain⟨pe,pn,pf,pc,pp,sb,h1,h2,h3,h4,h5⟩:=h'.ex
 obtain⟨bn,rfl,hen⟩:=h2 h0
 obtain⟨pa,pw,en,-,-⟩:=hen.ex
 rw[hq] at en
 have HST:Hid (h.ensured L me=h.search L me):=Lib.hid (by unfold aK.ensured;rw[if_neg (by rw[hq];decide)])
 have Ew:=fun W C' (k1:al W C' s sg L me t) (k2:dT W C' c sg b pe (.pointer (some ⟨bn,0,none⟩)) pf pc pp h)=>jO hL k1 k2 hmay
 unfold dT at sb
 obtain⟨u,no,rounds,limit,at_,found,⟨sh,kind,key⟩,⟨g0,⟨g1,g2,g3⟩,g4,g5,g6,g7,g8⟩,exec,a5,find,cl,aD⟩:=h
 simp only at sb h0 Ew HST en
 subst h0
 clear hq h' h1 h2 h3 h4 h5 hen
 go_enter Tryz.func148,Tryz.ntmps148
 have fr:=Fr.refl C (K0 c) [some 171] w
 have ag:=aB.refl w.heap.size C
 go_wp2_with fail
 refine(Ew _ _ hst sb).mono ?_
 rintro e w9 ⟨rfl,⟨C9,dC,bN⟩,bU⟩
 have fX:=ag.trans dC fr.size
 replace fr:=fr.trans (bU.mono (fun _ h=>h) (fun _ h=>h)) ag
 go_wp2_with fail
 go_end0
 exact⟨rfl,⟨_,fX,by rw[HST.out];exact bN⟩,fr⟩
theorem sZ {h:aK} (hL:L.Ok) (hst:al w C s sg L me t) (h':br w C c s sg b L h) (h0:h.at_=4) (hmay:h.task.may=true):Calls Tryz.prog 148 #[.pointer (some ⟨b,0,none⟩)] w (OW C (K0 c) [some 171] (.tuple #[]) (fun w' C'=>br w' C' c s sg b L (h.ensured L me)) w):=by
 cases hq:h.a5.short with
 | true=>exact lN hL hst h' h0 hmay hq
 | false=>exact kY hL hst h' h0 hmay hq
def FE:List (Option TypeId):=[some 171,some 137,some 3]
theorem Du:∀ x,x∈AN→x∈FE:=by decide
theorem qO {h:aK} {pe pn pf pc pp:Value} (hst:al w C s sg L me t) (sb:dT w C c sg b pe pn pf pc pp h) (_:t.ret.length≤99000) (k:Int) (hk:k=0):Calls Tryz.prog 147 #[.pointer (some ⟨b,0,none⟩),.int .i64 k] w (OW C (dK c s) FE (.tuple #[]) (fun w' C'=>al w' C' s sg L me (if k≠0 then t.retire [k] else t)∧dT w' C' c sg b pe pn pf pc pp { h with at_:=0 }) w):=by
 unfold dT at sb
 obtain⟨u,no,rounds,limit,at_,found,⟨sh,kind,key⟩,⟨g0,⟨g1,g2,g3⟩,g4,g5,g6,g7,g8⟩,exec,a5,find,cl,aD⟩:=h
 simp only at sb⊢
 subst hk
 rw[if_neg (by simp)]
 go_enter Tryz.func147,Tryz.ntmps147
 have fr:=Fr.refl C (dK c s) FE w
 have ag:=aB.refl w.heap.size C
 have z1:=sb
 revert hst;revert fr;refine st1 sb 5 (.int .i64 0) (aR c s) ag ?_;clear sb;rintro w1 e1 fr sb hst
 simp only[sx] at sb
 go_wp2_with fail
 clear z1 e1
 go_end0
 exact⟨rfl,⟨_,ag,hst,sb⟩,fr⟩
theorem qP {h:aK} {pe pn pf pc pp:Value} (hst:al w C s sg L me t) (sb:dT w C c sg b pe pn pf pc pp h) (hle:t.ret.length≤99000) (k:Int) (hk:k≠0) (hkr:0≤k∧k≤1000):Calls Tryz.prog 147 #[.pointer (some ⟨b,0,none⟩),.int .i64 k] w (OW C (dK c s) FE (.tuple #[]) (fun w' C'=>al w' C' s sg L me (if k≠0 then t.retire [k] else t)∧dT w' C' c sg b pe pn pf pc pp { h with at_:=0 }) w):=by
 unfold dT at sb
 obtain⟨u,no,rounds,limit,at_,found,⟨sh,kind,key⟩,⟨g0,⟨g1,g2,g3⟩,g4,g5,g6,g7,g8⟩,exec,a5,find,cl,aD⟩:=h
 simp only at sb⊢
 rw[if_pos hk]
 have dk:(k !=0)=true:=bne_iff_ne.2 hk
 clear hk
 go_enter Tryz.func147,Tryz.ntmps147
 have fr:=Fr.refl C (dK c s) FE w
 have ag:=aB.refl w.heap.size C
 go_wp2_with fail
 have z1:=sb
 revert hst;revert sb;revert fr;refine bx1 3 #[.int .i64 k] ?_;rintro w1 xX EA fr sl sb hst
 go_wp2_with fail
 try simp only[xX]
 clear xX z1
 have hsl:Sl w1 w1.heap.size 1 (some ⟨w.heap.size,0,none⟩) 1 (cv [k]):=fj sl.blk
 clear sl
 refine(cj hst [k] _ 1 1 _ hsl rfl (by omega) (by omega) (by intro x hx;simp at hx;subst hx;exact hkr)).mono ?_;clear hst;rintro e w2 ⟨rfl,⟨C2,aG,hst⟩,hf⟩
 revert ag fr sb;refine kx hf aG (ej c s) Du ?_;clear hf aG;intro ag fr sb
 have z2:=sb
 revert hst;revert fr;refine st1 sb 5 (.int .i64 0) (aR c s) ag ?_;clear sb;rintro w3 e1 fr sb hst
 simp only[sx] at sb
 go_wp2_with fail
 clear z2 e1
 go_end0
 exact⟨rfl,⟨_,ag,hst,sb⟩,fr⟩
theorem uQ {h:aK} {pe pn pf pc pp:Value} (hst:al w C s sg L me t) (sb:dT w C c sg b pe pn pf pc pp h) (hle:t.ret.length≤99000) (k:Int) (hkr:0≤k∧k≤1000):Calls Tryz.prog 147 #[.pointer (some ⟨b,0,none⟩),.int .i64 k] w (OW C (dK c s) FE (.tuple #[]) (fun w' C'=>al w' C' s sg L me (if k≠0 then t.retire [k] else t)∧dT w' C' c sg b pe pn pf pc pp { h with at_:=0 }) w):=by
 by_cases hk:k=0
 ·exact qO hst sb hle k hk
 ·exact qP hst sb hle k hk hkr
end Go.Proofs.YtbcnnhlpilmmbaaGreat
