/- Texts that are wanted for PTopFull.
   Conditions: none. -/
import Derived.Test.YtbcnnhlpilmmbaaGreatJPTopFull08
set_option maxRecDepth 100000
set_option maxHeartbeats 6400000
namespace Go.Proofs.YtbcnnhlpilmmbaaGreat
open Go Go.RowKit
structure j9 (w:World) (C:Nat→Nat) (c b:Nat) (L:Ly) (pc:Value) (f:aC):Prop where
 ex:∃ (A:Option Addr) (n cap:Nat),f.aQ.length=n∧SB w C c b 157 #[.int .i64 L.th,.int .i64 L.nd,.int .i64 f.pos.pred,.int .u64 f.pos.pw,.int .i64 f.pos.curr,.int .u64 f.pos.cw,.int .i64 f.tries,.slice A n cap,.bool f.ab,.int .i64 f.me,.int .i64 f.from_,.int .i64 f.key,.int .i64 f.limit,.int .i64 f.at_,.int .i64 f.moved,pc]∧Row w C c 3 1 (.slice A n cap) n (cv f.aQ)
def MP:List (Option TypeId):=[some 157,some 3]
variable {w w':World} {C C':Nat→Nat} {K:Nat→Prop} {T:List (Option TypeId)} {c b:Nat} {L:Ly}
theorem j9.mv {pc:Value} {f:aC} (h:j9 w C c b L pc f) (k:Fr C K T w w') (a:aB w.heap.size C C') (hk:¬ K c∨dr MP T):j9 w' C' c b L pc f:=by
 obtain⟨A,n,cap,h1,h2,h3⟩:=h.ex
 exact⟨A,n,cap,h1,h2.mv k a (hk.imp id (fun h=>h _ (by decide))),h3.mv k a (hk.imp id (fun h=>h _ (by decide)))⟩
structure eK (w:World) (C:Nat→Nat) (c b:Nat) (L:Ly) (f:aC):Prop where
 ex:∃ pc,j9 w C c b L pc f∧(f.at_=4→∃ bc,pc= .pointer (some ⟨bc,0,none⟩)∧gl w C c bc L f.cl)
def Ka:List (Option TypeId):=[some 157,some 3,some 230]
theorem eK.mv {f:aC} (h:eK w C c b L f) (k:Fr C K T w w') (a:aB w.heap.size C C') (hk:¬ K c∨dr Ka T):eK w' C' c b L f:=by
 obtain⟨pc,h1,h2⟩:=h.ex
 refine⟨pc,h1.mv k a (hk.imp id (fun h x hx=>h x (by revert x;decide))),fun h4=> ?_⟩
 obtain⟨bc,h5,h6⟩:=h2 h4
 exact⟨bc,h5,h6.mv k a (hk.imp id (fun h=>h _ (by decide)))⟩
theorem eK.fr {f:aC} (h:eK w C c b L f) (k:Fr C K T w w') (hk:¬ K c∨dr Ka T):eK w' C c b L f:=h.mv k (aB.refl _ _) hk
instance {w:World} {C:Nat→Nat} {c b:Nat} {L:Ly} {f:aC}:Mv (eK w C c b L f) w C Ka (fun w' C'=>eK w' C' c b L f):=⟨fun h k a hk=>h.mv k a (.inr hk)⟩
structure aC.Ok (f:aC) (N:Int):Prop where
 pw:0≤f.pos.pw∧f.pos.pw<18446744073709551616
 cw:0≤f.pos.cw∧f.pos.cw<18446744073709551616
 curr:0≤f.pos.curr∧f.pos.curr≤1000
 tries:0≤f.tries∧f.tries≤N
 moved:0≤f.moved∧f.moved≤N
 me:0≤f.me∧f.me≤7
 aQ:Small f.aQ∧(f.aQ.length:Int)≤N
structure AZ (C:Nat→Nat) (c b:Nat) (L:Ly) (pc:Value) (v:Value) (f:aC) (w:World) (e:Ending) (w':World):Prop where
 ret:e= .returned v
 own:j9 w' C c b L pc f
 fr:Fr C (K0 c) [some 157] w w'
theorem rz {pc:Value} {f:aC} (h:j9 w C c b L pc f):Calls Tryz.prog 171 #[.pointer (some ⟨b,0,none⟩)] w (AZ C c b L pc (.tuple #[]) (f.anew) w):=by
 obtain⟨A,n,cap,hn,sb,hrow⟩:=h.ex
 obtain⟨⟨pred,pw,curr,cw⟩,tries,aQ,ab,me,from_,key,limit,at_,moved,cl⟩:=f
 simp only at hn sb hrow
 have HN:=Lib.hid hn
 clear hn h
 have HST:Hid ((⟨⟨pred,pw,curr,cw⟩,tries,aQ,ab,me,from_,key,limit,at_,moved,cl⟩:aC).anew=⟨⟨from_,pw,curr,cw⟩,tries,aQ,ab,me,from_,key,limit,0,0,cl⟩):=Lib.hid rfl
 go_enter Tryz.func171,Tryz.ntmps171
 have fr:=Fr.refl C (K0 c) [some 157] w
 have ag:=aB.refl w.heap.size C
 have z1:=sb
 revert hrow;revert fr;refine st1 sb 2 (.int .i64 from_) (fun _ h=>h) ag ?_;clear sb;rintro w1 e1 fr sb hrow
 simp only[sx] at sb
 have z2:=sb
 revert fr hrow;refine st1 sb 14 (.int .i64 0) (fun _ h=>h) ag ?_;clear sb;rintro w2 e2 fr sb hrow
 simp only[sx] at sb
 have z3:=sb
 revert fr hrow;refine st1 sb 13 (.int .i64 0) (fun _ h=>h) ag ?_;clear sb;rintro w3 e3 fr sb hrow
 simp only[sx] at sb
 go_wp2_with fail
 clear z1 e1 z2 e2 z3 e3
 go_end0
 exact⟨rfl,by rw[HST.out];exact⟨A,n,cap,HN.out,sb,hrow⟩,fr⟩
theorem jL {pc:Value} {f:aC} (h:j9 w C c b L pc f) (ht:0≤f.tries∧f.tries≤1000000) (ho:f.over=false):Calls Tryz.prog 130 #[.pointer (some ⟨b,0,none⟩)] w (AZ C c b L pc (.bool false) (f.aU) w):=by
 obtain⟨A,n,cap,hn,sb,hrow⟩:=h.ex
 obtain⟨⟨pred,pw,curr,cw⟩,tries,aQ,ab,me,from_,key,limit,at_,moved,cl⟩:=f
 simp only at hn sb hrow
 have HN:=Lib.hid hn
 clear hn h
 have HST:Hid ((⟨⟨pred,pw,curr,cw⟩,tries,aQ,ab,me,from_,key,limit,at_,moved,cl⟩:aC).aU=⟨⟨pred,pw,curr,cw⟩,tries+1,aQ,false,me,from_,key,limit,at_,moved,cl⟩):=Lib.hid (by unfold aC.aU;rw[ho];rfl)
 have e6:wrap64 (tries+1)=tries+1:=IntWalk.wrap64_in _ (by simp only at ht;omega)
 have d2:decide (tries+1>limit)=false:=ho
 clear ho ht
 go_enter Tryz.func130,Tryz.ntmps130
 have fr:=Fr.refl C (K0 c) [some 157] w
 have ag:=aB.refl w.heap.size C
 have z1:=sb
 revert hrow;revert fr;refine st1 sb 6 (.int .i64 (tries+1)) (fun _ h=>h) ag ?_;clear sb;rintro w1 e1 fr sb hrow
 simp only[sx] at sb
 go_wp2_with fail
 clear z1 e1
 revert fr hrow sb;refine bD ?_;intro fr hrow sb
 obtain⟨q1,qi⟩:=aV sb
 refine ar sb 12 [] [0,1,2,3,4,5,6,7,8,9,10,11] [12] (by kernel_rfl) (by kernel_rfl) ?_
 refine af ?_;try simp only[ox]
 repeat(go_big_quiet_step (fail))
 refine wpQuiet_nil ?_
 refine ae _ _ _ (by kernel_rfl) ?_;try simp only[ox]
 clear qi q1
 have z2:=sb
 revert fr hrow;refine kT sb 8 (.bool false) (fun _ h=>h) ag ?_;clear sb;rintro w2 e1 fr sb hrow
 simp only[sx] at sb
 go_wp2_with fail
 try rw[e1]
 refine NoPanic.normal ?_
 go_wp2_with fail
 clear z2 e1
 go_ret
 exact⟨rfl,by rw[HST.out];exact⟨A,n,cap,HN.out,sb,hrow⟩,fr⟩
theorem kz {pc:Value} {f:aC} (h:j9 w C c b L pc f) (ht:0≤f.tries∧f.tries≤1000000) (ho:f.over=true):Calls Tryz.prog 130 #[.pointer (some ⟨b,0,none⟩)] w (AZ C c b L pc (.bool true) (f.aU) w):=by
 obtain⟨A,n,cap,hn,sb,hrow⟩:=h.ex
 obtain⟨⟨pred,pw,curr,cw⟩,tries,aQ,ab,me,from_,key,limit,at_,moved,cl⟩:=f
 simp only at hn sb hrow
 have HN:=Lib.hid hn
 clear hn h
 have HST:Hid ((⟨⟨pred,pw,curr,cw⟩,tries,aQ,ab,me,from_,key,limit,at_,moved,cl⟩:aC).aU=⟨⟨0,0,0,0⟩,tries+1,aQ,true,me,from_,key,limit,at_,moved,cl⟩):=Lib.hid (by unfold aC.aU;rw[ho];rfl)
 have e6:wrap64 (tries+1)=tries+1:=IntWalk.wrap64_in _ (by simp only at ht;omega)
 have d2:decide (tries+1>limit)=true:=ho
 clear ho ht
 go_enter Tryz.func130,Tryz.ntmps130
 have fr:=Fr.refl C (K0 c) [some 157] w
 have ag:=aB.refl w.heap.size C
 have z1:=sb
 revert hrow;revert fr;refine st1 sb 6 (.int .i64 (tries+1)) (fun _ h=>h) ag ?_;clear sb;rintro w1 e1 fr sb hrow
 simp only[sx] at sb
 go_wp2_with fail
 clear z1 e1
 revert fr hrow sb;refine bD ?_;intro fr hrow sb
 obtain⟨q1,qi⟩:=aV sb
 refine ar sb 12 [] [0,1,2,3,4,5,6,7,8,9,10,11] [12] (by kernel_rfl) (by kernel_rfl) ?_
 refine af ?_;try simp only[ox]
 repeat(go_big_quiet_step (fail))
 refine wpQuiet_nil ?_
 refine ae _ _ _ (by kernel_rfl) ?_;try simp only[ox]
 clear qi q1
 have z2:=sb
 revert fr hrow;refine kT sb 8 (.bool true) (fun _ h=>h) ag ?_;clear sb;rintro w2 e1 fr sb hrow
 simp only[sx] at sb
 have z3:=sb
 revert fr hrow;refine st1 sb 2 (.int .i64 0) (fun _ h=>h) ag ?_;clear sb;rintro w3 e2 fr sb hrow
 simp only[sx] at sb
 have z4:=sb
 revert fr hrow;refine st1 sb 3 (.int .u64 0) (fun _ h=>h) ag ?_;clear sb;rintro w4 e3 fr sb hrow
 simp only[sx] at sb
 have z5:=sb
 revert fr hrow;refine st1 sb 4 (.int .i64 0) (fun _ h=>h) ag ?_;clear sb;rintro w5 e4 fr sb hrow
 simp only[sx] at sb
 have z6:=sb
 revert fr hrow;refine st1 sb 5 (.int .u64 0) (fun _ h=>h) ag ?_;clear sb;rintro w6 e5 fr sb hrow
 simp only[sx] at sb
 go_wp2_with fail
 try rw[e1]
 refine NoPanic.normal ?_
 go_wp2_with fail
 clear z2 e1 z3 e2 z4 e3 z5 e4 z6 e5
 go_ret
 exact⟨rfl,by rw[HST.out];exact⟨A,n,cap,HN.out,sb,hrow⟩,fr⟩
theorem oB {pc:Value} {f:aC} (h:j9 w C c b L pc f) (x:Int) (hx:0≤x∧x<18446744073709551616) (ho:(aE x).mark=true):Calls Tryz.prog 131 #[.pointer (some ⟨b,0,none⟩),.int .u64 x] w (AZ C c b L pc (.bool (f.take x).1) ((f.take x).2) w):=by
 obtain⟨A,n,cap,hn,sb,hrow⟩:=h.ex
 obtain⟨⟨pred,pw,curr,cw⟩,tries,aQ,ab,me,from_,key,limit,at_,moved,cl⟩:=f
 simp only at hn sb hrow
 have HN:=Lib.hid hn
 clear hn h
 have HG:=fun W=>aT x W hx
 obtain⟨W0,hW0⟩:∃ W0,aE x=W0:=⟨_,rfl⟩
 rw[hW0] at HG ho
 obtain⟨k,nx,mk,zD,v⟩:=W0
 simp only at ho
 subst ho
 have HST:Hid ((⟨⟨pred,pw,curr,cw⟩,tries,aQ,ab,me,from_,key,limit,at_,moved,cl⟩:aC).take x=(false,⟨⟨from_,pw,curr,cw⟩,tries,aQ,ab,me,from_,key,limit,0,0,cl⟩)):=Lib.hid (by unfold aC.take;rw[hW0];rfl)
 simp only[Wd.val] at HG
 clear hW0
 go_enter Tryz.func131,Tryz.ntmps131
 have fr:=Fr.refl C (K0 c) [some 157] w
 have ag:=aB.refl w.heap.size C
 go_wp2_with fail
 revert hrow;revert sb;revert fr;refine bk (HG _) ?_;rintro e w1 rfl fr sb hrow
 have z1:=sb
 revert fr sb hrow;refine bx1 198 #[.int .i64 k,.int .i64 nx,.bool true,.int .i64 zD,.int .i64 v] ?_;rintro w2 qz Ct fr nb sb hrow
 go_wp2_with fail
 clear qz z1
 refine(rz (f:=⟨⟨pred,pw,curr,cw⟩,tries,aQ,ab,me,from_,key,limit,at_,moved,cl⟩) ⟨A,n,cap,HN.out,sb,hrow⟩).mono ?_
 rintro e w9 ⟨rfl,own,hf⟩
 go_wp2_with fail
 go_ret
 exact⟨by rw[HST.out];rfl,by rw[HST.out];exact own,fr.trans hf ag⟩
theorem nC {pc:Value} {f:aC} (h:j9 w C c b L pc f) (x:Int) (hx:0≤x∧x<18446744073709551616) (ho:(aE x).mark=false):Calls Tryz.prog 131 #[.pointer (some ⟨b,0,none⟩),.int .u64 x] w (AZ C c b L pc (.bool (f.take x).1) ((f.take x).2) w):=by
 obtain⟨A,n,cap,hn,sb,hrow⟩:=h.ex
 obtain⟨⟨pred,pw,curr,cw⟩,tries,aQ,ab,me,from_,key,limit,at_,moved,cl⟩:=f
 simp only at hn sb hrow
 have HN:=Lib.hid hn
 clear hn h
 have HG:=fun W=>aT x W hx
 obtain⟨W0,hW0⟩:∃ W0,aE x=W0:=⟨_,rfl⟩
 rw[hW0] at HG ho
 obtain⟨k,nx,mk,zD,v⟩:=W0
 simp only at ho
 subst ho
 have HST:Hid ((⟨⟨pred,pw,curr,cw⟩,tries,aQ,ab,me,from_,key,limit,at_,moved,cl⟩:aC).take x=(decide (nx=0),⟨⟨pred,x,nx,0⟩,tries,aQ,ab,me,from_,key,limit,1,moved,cl⟩)):=Lib.hid (by unfold aC.take;rw[hW0];rfl)
 simp only[Wd.val] at HG
 clear hW0
 go_enter Tryz.func131,Tryz.ntmps131
 have fr:=Fr.refl C (K0 c) [some 157] w
 have ag:=aB.refl w.heap.size C
 go_wp2_with fail
 revert hrow;revert sb;revert fr;refine bk (HG _) ?_;rintro e w1 rfl fr sb hrow
 have z1:=sb
 revert fr sb hrow;refine bx1 198 #[.int .i64 k,.int .i64 nx,.bool false,.int .i64 zD,.int .i64 v] ?_;rintro w2 qz Ct fr nb sb hrow
 go_wp2_with fail
 clear qz z1
 revert fr nb sb hrow;refine bD ?_;intro fr nb sb hrow
 obtain⟨q1,qi⟩:=aV nb
 refine ar nb 14 [([0,1,2,3,4,5,6,7,8,9],10)] [11,12,13] [14,15,16,17,18,19,20,21] (by kernel_rfl) (by kernel_rfl) ?_
 refine ai ?_;simp only[ox];repeat(go_big_quiet_step (fail))
 refine di rfl (fun K' hK'=> ?_);go_simp
 revert fr nb hrow;refine kT sb 3 (.int .u64 x) (fun _ h=>h) ag ?_;clear sb;rintro w3 e1 fr sb nb hrow;rw[e1];simp only[sx] at sb
 refine hK' _ _ (bZ nb) ?_;clear hK' K' e1
 refine af ?_;try simp only[ox]
 repeat(go_big_quiet_step (fail))
 refine wpQuiet_nil ?_
 refine ae _ _ _ (by kernel_rfl) ?_;try simp only[ox]
 clear qi q1
 have z2:=And.intro sb nb
 revert fr nb hrow;refine st1 sb 4 (.int .i64 nx) (fun _ h=>h) ag ?_;clear sb;rintro w4 e1 fr sb nb hrow
 simp only[sx] at sb
 have z3:=And.intro sb nb
 revert fr nb hrow;refine st1 sb 5 (.int .u64 0) (fun _ h=>h) ag ?_;clear sb;rintro w5 e2 fr sb nb hrow
 simp only[sx] at sb
 have z4:=And.intro sb nb
 revert fr nb hrow;refine st1 sb 13 (.int .i64 1) (fun _ h=>h) ag ?_;clear sb;rintro w6 e3 fr sb nb hrow
 simp only[sx] at sb
 go_wp2_with fail
 refine NoPanic.normal ?_
 go_wp2_with fail
 clear z2 e1 z3 e2 z4 e3
 have hd:(nx==0)=decide (nx=0):=rfl
 go_ret
 exact⟨by rw[HST.out];rfl,by rw[HST.out];exact⟨A,n,cap,HN.out,sb,hrow⟩,fr⟩
theorem sF {pc:Value} {f:aC} (h:j9 w C c b L pc f) (ht:0≤f.tries∧f.tries≤1000000) (hm:0≤f.moved∧f.moved≤1000000) (hq:f.moved+1≤L.nd):Calls Tryz.prog 134 #[.pointer (some ⟨b,0,none⟩)] w (AZ C c b L pc (.tuple #[.bool (f.move L).1,.bool (f.move L).2.1]) ((f.move L).2.2) w):=by
 obtain⟨A,n,cap,hn,sb,hrow⟩:=h.ex
 obtain⟨⟨pred,pw,curr,cw⟩,tries,aQ,ab,me,from_,key,limit,at_,moved,cl⟩:=f
 simp only at hn sb hrow
 have HN:=Lib.hid hn
 clear hn h
 have HST:Hid ((⟨⟨pred,pw,curr,cw⟩,tries,aQ,ab,me,from_,key,limit,at_,moved,cl⟩:aC).move L=(false,true,⟨⟨pred,pw,curr,cw⟩,tries,aQ,ab,me,from_,key,limit,at_,moved+1,cl⟩)):=Lib.hid (by unfold aC.move;rw[if_pos hq])
 have e6:wrap64 (moved+1)=moved+1:=IntWalk.wrap64_in _ (by simp only at hm;omega)
 have d2:decide (moved+1≤L.nd)=true:=decide_eq_true hq
 clear hq
 go_enter Tryz.func134,Tryz.ntmps134
 have fr:=Fr.refl C (K0 c) [some 157] w
 have ag:=aB.refl w.heap.size C
 have z1:=sb
 revert hrow;revert fr;refine st1 sb 14 (.int .i64 (moved+1)) (fun _ h=>h) ag ?_;clear sb;rintro w1 e1 fr sb hrow
 simp only[sx] at sb
 go_wp2_with fail
 clear z1 e1
 revert fr hrow sb;refine bD ?_;intro fr hrow sb
 obtain⟨q1,qi⟩:=aV sb
 refine ar sb 9 [] [0,1,2,3,4,5,6,7,8] [9] (by kernel_rfl) (by kernel_rfl) ?_
 refine af ?_;try simp only[ox]
 repeat(go_big_quiet_step (fail))
 refine wpQuiet_nil ?_
 refine ae _ _ _ (by kernel_rfl) ?_;try simp only[ox]
 clear qi q1
 go_wp2_with fail
 refine NoPanic.normal ?_
 go_wp2_with fail
 go_ret2
 exact⟨by rw[HST.out];rfl,by rw[HST.out];exact⟨A,n,cap,HN.out,sb,hrow⟩,fr⟩
theorem qA {pc:Value} {f:aC} (h:j9 w C c b L pc f) (ht:0≤f.tries∧f.tries≤1000000) (hm:0≤f.moved∧f.moved≤1000000) (hq:¬ f.moved+1≤L.nd) (ho:f.over=true):Calls Tryz.prog 134 #[.pointer (some ⟨b,0,none⟩)] w (AZ C c b L pc (.tuple #[.bool (f.move L).1,.bool (f.move L).2.1]) ((f.move L).2.2) w):=by
 obtain⟨A,n,cap,hn,sb,hrow⟩:=h.ex
 obtain⟨⟨pred,pw,curr,cw⟩,tries,aQ,ab,me,from_,key,limit,at_,moved,cl⟩:=f
 simp only at hn sb hrow
 have HN:=Lib.hid hn
 clear hn h
 have HST:Hid ((⟨⟨pred,pw,curr,cw⟩,tries,aQ,ab,me,from_,key,limit,at_,moved,cl⟩:aC).move L=(true,false,(⟨⟨pred,pw,curr,cw⟩,tries,aQ,ab,me,from_,key,limit,at_,moved+1,cl⟩:aC).aU)):=Lib.hid (by unfold aC.move;rw[if_neg hq,if_pos ho])
 have e6:wrap64 (moved+1)=moved+1:=IntWalk.wrap64_in _ (by simp only at hm;omega)
 have d2:decide (moved+1≤L.nd)=false:=decide_eq_false hq
 clear hq
 go_enter Tryz.func134,Tryz.ntmps134
 have fr:=Fr.refl C (K0 c) [some 157] w
 have ag:=aB.refl w.heap.size C
 have z1:=sb
 revert hrow;revert fr;refine st1 sb 14 (.int .i64 (moved+1)) (fun _ h=>h) ag ?_;clear sb;rintro w1 e1 fr sb hrow
 simp only[sx] at sb
 go_wp2_with fail
 clear z1 e1
 revert fr hrow sb;refine bD ?_;intro fr hrow sb
 obtain⟨q1,qi⟩:=aV sb
 refine ar sb 9 [] [0,1,2,3,4,5,6,7,8] [9] (by kernel_rfl) (by kernel_rfl) ?_
 refine af ?_;try simp only[ox]
 repeat(go_big_quiet_step (fail))
 refine wpQuiet_nil ?_
 refine ae _ _ _ (by kernel_rfl) ?_;try simp only[ox]
 clear qi q1
 go_wp2_with fail
 refine NoPanic.normal ?_
 go_wp2_with fail
 refine(kz (f:=⟨⟨pred,pw,curr,cw⟩,tries,aQ,ab,me,from_,key,limit,at_,moved+1,cl⟩) ⟨A,n,cap,HN.out,sb,hrow⟩ ht ho).mono ?_
 rintro e w8 ⟨rfl,own,hf⟩
 replace fr:=fr.trans hf ag
 go_wp2_with fail
 go_ret2
 exact⟨by rw[HST.out];rfl,by rw[HST.out];exact own,fr⟩
theorem oC {pc:Value} {f:aC} (h:j9 w C c b L pc f) (ht:0≤f.tries∧f.tries≤1000000) (hm:0≤f.moved∧f.moved≤1000000) (hq:¬ f.moved+1≤L.nd) (ho:f.over=false):Calls Tryz.prog 134 #[.pointer (some ⟨b,0,none⟩)] w (AZ C c b L pc (.tuple #[.bool (f.move L).1,.bool (f.move L).2.1]) ((f.move L).2.2) w):=by
 obtain⟨A,n,cap,hn,sb,hrow⟩:=h.ex
 obtain⟨⟨pred,pw,curr,cw⟩,tries,aQ,ab,me,from_,key,limit,at_,moved,cl⟩:=f
 simp only at hn sb hrow
 have HN:=Lib.hid hn
 clear hn h
 have HST:Hid ((⟨⟨pred,pw,curr,cw⟩,tries,aQ,ab,me,from_,key,limit,at_,moved,cl⟩:aC).move L=(false,false,(⟨⟨pred,pw,curr,cw⟩,tries,aQ,ab,me,from_,key,limit,at_,moved+1,cl⟩:aC).aU.anew)):=Lib.hid (by unfold aC.move;rw[if_neg hq,if_neg (by rw[ho];decide)])
 have e6:wrap64 (moved+1)=moved+1:=IntWalk.wrap64_in _ (by simp only at hm;omega)
 have d2:decide (moved+1≤L.nd)=false:=decide_eq_false hq
 clear hq
 go_enter Tryz.func134,Tryz.ntmps134
 have fr:=Fr.refl C (K0 c) [some 157] w
 have ag:=aB.refl w.heap.size C
 have z1:=sb
 revert hrow;revert fr;refine st1 sb 14 (.int .i64 (moved+1)) (fun _ h=>h) ag ?_;clear sb;rintro w1 e1 fr sb hrow
 simp only[sx] at sb
 go_wp2_with fail
 clear z1 e1
 revert fr hrow sb;refine bD ?_;intro fr hrow sb
 obtain⟨q1,qi⟩:=aV sb
 refine ar sb 9 [] [0,1,2,3,4,5,6,7,8] [9] (by kernel_rfl) (by kernel_rfl) ?_
 refine af ?_;try simp only[ox]
 repeat(go_big_quiet_step (fail))
 refine wpQuiet_nil ?_
 refine ae _ _ _ (by kernel_rfl) ?_;try simp only[ox]
 clear qi q1
 go_wp2_with fail
 refine NoPanic.normal ?_
 go_wp2_with fail
 refine(jL (f:=⟨⟨pred,pw,curr,cw⟩,tries,aQ,ab,me,from_,key,limit,at_,moved+1,cl⟩) ⟨A,n,cap,HN.out,sb,hrow⟩ ht ho).mono ?_
 rintro e w8 ⟨rfl,own,hf⟩
 replace fr:=fr.trans hf ag
 go_wp2_with fail
 refine(rz own).mono ?_
 rintro e w9 ⟨rfl,jM,hf2⟩
 replace fr:=fr.trans hf2 ag
 go_wp2_with fail
 go_ret2
 exact⟨by rw[HST.out];rfl,by rw[HST.out];exact jM,fr⟩
theorem hY {pc:Value} {f:aC} (h:j9 w C c b L pc f) (ht:0≤f.tries∧f.tries≤1000000):Calls Tryz.prog 130 #[.pointer (some ⟨b,0,none⟩)] w (AZ C c b L pc (.bool f.over) (f.aU) w):=by
 cases ho:f.over with
 | true=>exact kz h ht ho
 | false=>exact jL h ht ho
theorem ka {pc:Value} {f:aC} (h:j9 w C c b L pc f) (x:Int) (hx:0≤x∧x<18446744073709551616):Calls Tryz.prog 131 #[.pointer (some ⟨b,0,none⟩),.int .u64 x] w (AZ C c b L pc (.bool (f.take x).1) ((f.take x).2) w):=by
 cases ho:(aE x).mark with
 | true=>exact oB h x hx ho
 | false=>exact nC h x hx ho
theorem rA {pc:Value} {f:aC} (h:j9 w C c b L pc f) (ht:0≤f.tries∧f.tries≤1000000) (hm:0≤f.moved∧f.moved≤1000000):Calls Tryz.prog 134 #[.pointer (some ⟨b,0,none⟩)] w (AZ C c b L pc (.tuple #[.bool (f.move L).1,.bool (f.move L).2.1]) ((f.move L).2.2) w):=by
 by_cases hq:f.moved+1≤L.nd
 ·exact sF h ht hm hq
 ·cases ho:f.over with
  | true=>exact qA h ht hm hq ho
  | false=>exact oC h ht hm hq ho
theorem oD (L:Ly) (hL:L.Ok) (me head key limit:Int) (hh:0≤head∧head≤1000) (C:Nat→Nat) (c:Nat) (w:World):Calls Tryz.prog 128 #[L.val,.int .i64 me,.int .i64 head,.int .i64 key,.int .i64 limit] w (kH C c (fun w' C' b=>eK w' C' c b L (aC.new L me head key limit)) w):=by
 have HH:=fun W=>Aa L hL head (by omega) W
 obtain⟨hd,hhd⟩:∃ hd,L.head head=hd:=⟨_,rfl⟩
 simp only[hhd] at HH
 have HST:Hid (aC.new L me head key limit=⟨⟨hd,0,0,0⟩,0,[],false,me,hd,key,limit,0,0,.new 0⟩):=Lib.hid (by unfold aC.new;rw[hhd])
 obtain⟨th,nd⟩:=L
 clear hhd
 go_enter Tryz.func128,Tryz.ntmps128
 refine Lx C w 31 #[.int .i64 th,.int .i64 nd] ?_;rintro w0 e0 ag fr sb
 go_wp2_with fail
 clear e0
 revert fr sb;refine bD ?_;intro fr sb
 obtain⟨q1,qi⟩:=aV sb
 refine ar sb 12 [([0,1,2,5,6,7,9,10],3),([4],8)] [11] [12,13] (by kernel_rfl) (by kernel_rfl) ?_
 refine ai ?_;simp only[ox];repeat(go_big_quiet_step (fail))
 refine di rfl (fun K' hK'=> ?_);go_simp
 revert fr sb;with_reducible refine bk (HH _) ?_;rintro e w1 rfl fr sb
 refine hK' _ _ (bZ sb) ?_;clear hK' K'
 refine ai ?_;simp only[ox];repeat(go_big_quiet_step (fail))
 refine di rfl (fun K' hK'=> ?_);go_simp
 revert fr sb;with_reducible refine bk (HH _) ?_;rintro e w2 rfl fr sb
 refine hK' _ _ (bZ sb) ?_;clear hK' K'
 refine af ?_;try simp only[ox]
 repeat(go_big_quiet_step (fail))
 refine wpQuiet_nil ?_
 refine ae _ _ _ (by kernel_rfl) ?_;try simp only[ox]
 clear qi q1
 go_wp2_with fail
 refine NoPanic.normal ?_
 go_wp2_with fail
 go_ret
 have hbw:=fr.b4
 refine⟨⟨w2.heap.size,rfl,hbw.size,⟨.pointer none,⟨none,0,0,by rw[HST.out];rfl,by rw[HST.out];exact SB.new _ _ (aO C c hbw.size) _ _ rfl,by rw[HST.out];exact Row.nil_ _ _ _ _ _⟩,fun h=>by rw[HST.out] at h;simp at h⟩⟩,hbw.alloc hbw.size _⟩
def oE:List (Option TypeId):=[some 157,some 3,some 230,some 75,some 34]
theorem eD:∀ x,x∈LM→x∈oE:=by decide
theorem Df:∀ x,x∈zB→x∈oE:=by decide
theorem dD:∀ x,x∈[some 157]→x∈oE:=by decide
structure qB (C:Nat→Nat) (c b:Nat) (M:ML) (r:Bool×Mm×aC) (w:World) (e:Ending) (w':World):Prop where
 ret:e= .returned (.bool r.1)
 own:∃ C',aB w.heap.size C C'∧aj w' C' M r.2.1∧eK w' C' c b M.L r.2.2
 fr:Fr C (Kc c) oE w w'
theorem j9.at_ {pc:Value} {f:aC} (h:j9 w C c b L pc f) (h4:f.at_≠4):eK w C c b L f:=⟨pc,h,fun h5=>absurd h5 h4⟩
theorem sG {f:aC} (h:f.at_≠4):f.aU.at_≠4:=h
theorem take_at {f:aC} {x:Int}:(f.take x).2.at_≠4:=by
 unfold aC.take aC.anew
 split<;>simp
theorem xM {f:aC} {L:Ly} (h:f.at_≠4):(f.move L).2.2.at_≠4:=by
 unfold aC.move
 split
 ·exact h
 ·split
  ·exact h
  ·simp[aC.anew]
variable {M:ML} {m:Mm}
theorem uo {pc:Value} {f:aC} (hm:aj w C M m) (h:j9 w C c b M.L pc f) (h3:f.at_=3) (hpw:0≤f.pos.pw∧f.pos.pw<18446744073709551616) (ho:(aE (ld M m f.pos.curr)).mark=false∧f.key≤(aE (ld M m f.pos.curr)).key):Calls Tryz.prog 132 #[.pointer (some ⟨b,0,none⟩),.pointer (some ⟨M.b,0,none⟩)] w (qB C c b M ((f.look (ld M m f.pos.curr)).1,m,(f.look (ld M m f.pos.curr)).2) w):=by
 obtain⟨A,n,cap,hn,sb,hrow⟩:=h.ex
 obtain⟨⟨pred,pw,curr,cw⟩,tries,aQ,ab,me,from_,key,limit,at_,moved,cl⟩:=f
 simp only at hn sb hrow h3 hpw
 subst h3
 have HN:=Lib.hid hn
 have cr:=bJ hm curr
 obtain⟨x,hx⟩:∃ x,ld M m curr=x:=⟨_,rfl⟩
 rw[hx] at cr ho
 have HX:=Lib.hid hx
 have HG:=fun W=>aT x W cr
 obtain⟨W0,hW0⟩:∃ W0,aE x=W0:=⟨_,rfl⟩
 rw[hW0] at HG ho
 obtain⟨k,nx,mk,zD,v⟩:=W0
 simp only at ho
 obtain⟨ho1,ho2⟩:=ho
 subst ho1
 have HST:Hid ((⟨⟨pred,pw,curr,cw⟩,tries,aQ,ab,me,from_,key,limit,3,moved,cl⟩:aC).look x=(true,(⟨⟨pred,pw,curr,x⟩,tries,aQ,ab,me,from_,key,limit,3,moved,cl⟩:aC))):=Lib.hid (by unfold aC.look;simp only[hW0];rw[if_pos trivial,if_pos ho2])
 have xN:Hid ((⟨⟨pred,pw,curr,cw⟩,tries,aQ,ab,me,from_,key,limit,3,moved,cl⟩:aC).look (ld M m curr)=(true,(⟨⟨pred,pw,curr,x⟩,tries,aQ,ab,me,from_,key,limit,3,moved,cl⟩:aC))):=Lib.hid (by rw[hx];exact HST.out)
 have d1:decide (k≥key)=true:=decide_eq_true ho2
 simp only[Wd.val] at HG
 clear hn h hx hW0 HST
 clear ho2
 go_enter Tryz.func132,Tryz.ntmps132
 have fr:=Fr.refl C (Kc c) oE w
 have ag:=aB.refl w.heap.size C
 go_wp2_with fail
 refine(aP hm curr).mono ?_;clear hm;rintro e w1 ⟨rfl,hm,hf⟩
 rw[HX.out]
 revert hrow;revert sb;revert fr;refine dS hf (aS c) eD ag ?_;clear hf;intro fr sb hrow
 have z1:=sb
 revert hm hrow;revert fr;refine st1 sb 5 (.int .u64 x) (aL c) ag ?_;clear sb;rintro w2 e1 fr sb hm hrow
 simp only[sx] at sb
 go_wp2_with fail
 clear z1 e1
 revert fr hm hrow sb;refine bk (HG _) ?_;rintro e w3 rfl fr hm hrow sb
 have z2:=sb
 revert fr hm hrow sb;refine bx1 198 #[.int .i64 k,.int .i64 nx,.bool false,.int .i64 zD,.int .i64 v] ?_;rintro w4 qz Ct fr nb hm hrow sb
 go_wp2_with fail
 clear qz z2
 revert fr nb hm hrow sb;refine bD ?_;intro fr nb hm hrow sb
 obtain⟨q1,q2,qi⟩:=bl sb nb
 refine aA sb nb 12 [] [0,1,2,3,4,5,6,7,8,9,10,11] [12] (by kernel_rfl) (by kernel_rfl) ?_
 refine af ?_;try simp only[ox]
 repeat(go_big_quiet_step (fail))
 refine wpQuiet_nil ?_
 refine ae _ _ _ (by kernel_rfl) ?_;try simp only[ox]
 clear qi q1 q2
 go_wp2_with fail
 refine NoPanic.normal ?_
 go_wp2_with fail
 go_ret
 exact⟨by rw[xN.out];rfl,⟨_,ag,hm,by rw[xN.out];exact j9.at_ (pc:=pc) ⟨A,n,cap,HN.out,sb,hrow⟩ (by simp)⟩,fr⟩
theorem uq {pc:Value} {f:aC} (hm:aj w C M m) (h:j9 w C c b M.L pc f) (h3:f.at_=3) (hpw:0≤f.pos.pw∧f.pos.pw<18446744073709551616) (ho:(aE (ld M m f.pos.curr)).mark=false∧¬ f.key≤(aE (ld M m f.pos.curr)).key):Calls Tryz.prog 132 #[.pointer (some ⟨b,0,none⟩),.pointer (some ⟨M.b,0,none⟩)] w (qB C c b M ((f.look (ld M m f.pos.curr)).1,m,(f.look (ld M m f.pos.curr)).2) w):=by
 obtain⟨A,n,cap,hn,sb,hrow⟩:=h.ex
 obtain⟨⟨pred,pw,curr,cw⟩,tries,aQ,ab,me,from_,key,limit,at_,moved,cl⟩:=f
 simp only at hn sb hrow h3 hpw
 subst h3
 have HN:=Lib.hid hn
 have cr:=bJ hm curr
 obtain⟨x,hx⟩:∃ x,ld M m curr=x:=⟨_,rfl⟩
 rw[hx] at cr ho
 have HX:=Lib.hid hx
 have HG:=fun W=>aT x W cr
 obtain⟨W0,hW0⟩:∃ W0,aE x=W0:=⟨_,rfl⟩
 rw[hW0] at HG ho
 obtain⟨k,nx,mk,zD,v⟩:=W0
 simp only at ho
 obtain⟨ho1,ho2⟩:=ho
 subst ho1
 have HST:Hid ((⟨⟨pred,pw,curr,cw⟩,tries,aQ,ab,me,from_,key,limit,3,moved,cl⟩:aC).look x=(false,(⟨⟨pred,pw,curr,x⟩,tries,aQ,ab,me,from_,key,limit,6,moved,cl⟩:aC))):=Lib.hid (by unfold aC.look;simp only[hW0];rw[if_pos trivial,if_neg ho2])
 have xN:Hid ((⟨⟨pred,pw,curr,cw⟩,tries,aQ,ab,me,from_,key,limit,3,moved,cl⟩:aC).look (ld M m curr)=(false,(⟨⟨pred,pw,curr,x⟩,tries,aQ,ab,me,from_,key,limit,6,moved,cl⟩:aC))):=Lib.hid (by rw[hx];exact HST.out)
 have d1:decide (k≥key)=false:=decide_eq_false ho2
 simp only[Wd.val] at HG
 clear hn h hx hW0 HST
 clear ho2
 go_enter Tryz.func132,Tryz.ntmps132
 have fr:=Fr.refl C (Kc c) oE w
 have ag:=aB.refl w.heap.size C
 go_wp2_with fail
 refine(aP hm curr).mono ?_;clear hm;rintro e w1 ⟨rfl,hm,hf⟩
 rw[HX.out]
 revert hrow;revert sb;revert fr;refine dS hf (aS c) eD ag ?_;clear hf;intro fr sb hrow
 have z1:=sb
 revert hm hrow;revert fr;refine st1 sb 5 (.int .u64 x) (aL c) ag ?_;clear sb;rintro w2 e1 fr sb hm hrow
 simp only[sx] at sb
 go_wp2_with fail
 clear z1 e1
 revert fr hm hrow sb;refine bk (HG _) ?_;rintro e w3 rfl fr hm hrow sb
 have z2:=sb
 revert fr hm hrow sb;refine bx1 198 #[.int .i64 k,.int .i64 nx,.bool false,.int .i64 zD,.int .i64 v] ?_;rintro w4 qz Ct fr nb hm hrow sb
 go_wp2_with fail
 clear qz z2
 revert fr nb hm hrow sb;refine bD ?_;intro fr nb hm hrow sb
 obtain⟨q1,q2,qi⟩:=bl sb nb
 refine aA sb nb 12 [] [0,1,2,3,4,5,6,7,8,9,10,11] [12] (by kernel_rfl) (by kernel_rfl) ?_
 refine af ?_;try simp only[ox]
 repeat(go_big_quiet_step (fail))
 refine wpQuiet_nil ?_
 refine ae _ _ _ (by kernel_rfl) ?_;try simp only[ox]
 clear qi q1 q2
 go_wp2_with fail
 refine NoPanic.normal ?_
 go_wp2_with fail
 have z3:=And.intro sb nb
 revert fr nb hm hrow;refine kT sb 13 (.int .i64 6) (aL c) ag ?_;clear sb;rintro w5 e1 fr sb nb hm hrow
 simp only[sx] at sb
 go_wp2_with fail
 try rw[e1]
 clear z3 e1
 go_ret
 exact⟨by rw[xN.out];rfl,⟨_,ag,hm,by rw[xN.out];exact j9.at_ (pc:=pc) ⟨A,n,cap,HN.out,sb,hrow⟩ (by simp)⟩,fr⟩
theorem ur {pc:Value} {f:aC} (hm:aj w C M m) (h:j9 w C c b M.L pc f) (h3:f.at_=3) (hpw:0≤f.pos.pw∧f.pos.pw<18446744073709551616) (ho:(aE (ld M m f.pos.curr)).mark=true∧(aE (ld M m f.pos.curr)).claim≠0):Calls Tryz.prog 132 #[.pointer (some ⟨b,0,none⟩),.pointer (some ⟨M.b,0,none⟩)] w (qB C c b M ((f.look (ld M m f.pos.curr)).1,m,(f.look (ld M m f.pos.curr)).2) w):=by
 obtain⟨A,n,cap,hn,sb,hrow⟩:=h.ex
 obtain⟨⟨pred,pw,curr,cw⟩,tries,aQ,ab,me,from_,key,limit,at_,moved,cl⟩:=f
 simp only at hn sb hrow h3 hpw
 subst h3
 have HN:=Lib.hid hn
 have cr:=bJ hm curr
 obtain⟨x,hx⟩:∃ x,ld M m curr=x:=⟨_,rfl⟩
 rw[hx] at cr ho
 have HX:=Lib.hid hx
 have HG:=fun W=>aT x W cr
 obtain⟨W0,hW0⟩:∃ W0,aE x=W0:=⟨_,rfl⟩
 rw[hW0] at HG ho
 obtain⟨k,nx,mk,zD,v⟩:=W0
 simp only at ho
 obtain⟨ho1,ho2⟩:=ho
 subst ho1
 have HST:Hid ((⟨⟨pred,pw,curr,cw⟩,tries,aQ,ab,me,from_,key,limit,3,moved,cl⟩:aC).look x=(false,(⟨⟨pred,pw,curr,x⟩,tries,aQ,ab,me,from_,key,limit,4,moved,.new curr⟩:aC))):=Lib.hid (by unfold aC.look;simp only[hW0];rw[if_neg (by simp),if_pos ho2])
 have xN:Hid ((⟨⟨pred,pw,curr,cw⟩,tries,aQ,ab,me,from_,key,limit,3,moved,cl⟩:aC).look (ld M m curr)=(false,(⟨⟨pred,pw,curr,x⟩,tries,aQ,ab,me,from_,key,limit,4,moved,.new curr⟩:aC))):=Lib.hid (by rw[hx];exact HST.out)
 have d1:(zD !=0)=true:=bne_iff_ne.2 ho2
 simp only[Wd.val] at HG
 clear hn h hx hW0 HST
 clear ho2
 go_enter Tryz.func132,Tryz.ntmps132
 have fr:=Fr.refl C (Kc c) oE w
 have ag:=aB.refl w.heap.size C
 go_wp2_with fail
 refine(aP hm curr).mono ?_;clear hm;rintro e w1 ⟨rfl,hm,hf⟩
 rw[HX.out]
 revert hrow;revert sb;revert fr;refine dS hf (aS c) eD ag ?_;clear hf;intro fr sb hrow
 have z1:=sb
 revert hm hrow;revert fr;refine st1 sb 5 (.int .u64 x) (aL c) ag ?_;clear sb;rintro w2 e1 fr sb hm hrow
 simp only[sx] at sb
 go_wp2_with fail
 clear z1 e1
 revert fr hm hrow sb;refine bk (HG _) ?_;rintro e w3 rfl fr hm hrow sb
 have z2:=sb
 revert fr hm hrow sb;refine bx1 198 #[.int .i64 k,.int .i64 nx,.bool true,.int .i64 zD,.int .i64 v] ?_;rintro w4 qz Ct fr nb hm hrow sb
 go_wp2_with fail
 clear qz z2
 revert fr nb hm hrow sb;refine bD ?_;intro fr nb hm hrow sb
 obtain⟨q1,q2,qi⟩:=bl sb nb
 refine aA sb nb 12 [] [0,1,2,3,4,5,6,7,8,9,10,11] [12] (by kernel_rfl) (by kernel_rfl) ?_
 refine af ?_;try simp only[ox]
 repeat(go_big_quiet_step (fail))
 refine wpQuiet_nil ?_
 refine ae _ _ _ (by kernel_rfl) ?_;try simp only[ox]
 clear qi q1 q2
 go_wp2_with fail
 refine NoPanic.normal ?_
 go_wp2_with fail
 revert fr nb hm hrow sb;refine bD ?_;intro fr nb hm hrow sb
 obtain⟨q1,q2,qi⟩:=bl sb nb
 refine aA sb nb 11 [] [0,1,2,3,4,5,6,7,8,9,10] [11,12,13,14,15,16,17] (by kernel_rfl) (by kernel_rfl) ?_
 refine af ?_;try simp only[ox]
 repeat(go_big_quiet_step (fail))
 refine wpQuiet_nil ?_
 refine ae _ _ _ (by kernel_rfl) ?_;try simp only[ox]
 clear qi q1 q2
 go_wp2_with fail
 revert ag fr nb hm hrow sb;refine fL (j4 M.L curr C c _) ?_;rintro w5 bc C5 ag fr hcl nb hm hrow sb
 have z3:=And.intro sb nb
 revert fr hcl nb hm hrow;refine st1 sb 13 (.int .i64 4) (aL c) ag ?_;clear sb;rintro w6 e1 fr sb hcl nb hm hrow
 simp only[sx] at sb
 have z4:=And.intro sb nb
 revert fr hcl nb hm hrow;refine st1 sb 15 (.pointer (some ⟨bc,0,none⟩)) (aL c) ag ?_;clear sb;rintro w7 e2 fr sb hcl nb hm hrow
 simp only[sx] at sb
 go_wp2_with fail
 refine NoPanic.normal ?_
 go_wp2_with fail
 clear z3 e1 z4 e2
 go_ret
 exact⟨by rw[xN.out];rfl,⟨_,ag,hm,by rw[xN.out];exact⟨_,⟨A,n,cap,HN.out,sb,hrow⟩,fun _=>⟨bc,rfl,hcl⟩⟩⟩,fr⟩
theorem uu {pc:Value} {f:aC} (hm:aj w C M m) (h:j9 w C c b M.L pc f) (h3:f.at_=3) (hpw:0≤f.pos.pw∧f.pos.pw<18446744073709551616) (ho:(aE (ld M m f.pos.curr)).mark=true∧(aE (ld M m f.pos.curr)).claim=0) (hp:(aE f.pos.pw).claim≠0):Calls Tryz.prog 132 #[.pointer (some ⟨b,0,none⟩),.pointer (some ⟨M.b,0,none⟩)] w (qB C c b M ((f.look (ld M m f.pos.curr)).1,m,(f.look (ld M m f.pos.curr)).2) w):=by
 obtain⟨A,n,cap,hn,sb,hrow⟩:=h.ex
 obtain⟨⟨pred,pw,curr,cw⟩,tries,aQ,ab,me,from_,key,limit,at_,moved,cl⟩:=f
 simp only at hn sb hrow h3 hpw
 subst h3
 have HN:=Lib.hid hn
 have cr:=bJ hm curr
 obtain⟨x,hx⟩:∃ x,ld M m curr=x:=⟨_,rfl⟩
 rw[hx] at cr ho
 have HX:=Lib.hid hx
 have HG:=fun W=>aT x W cr
 obtain⟨W0,hW0⟩:∃ W0,aE x=W0:=⟨_,rfl⟩
 rw[hW0] at HG ho
 obtain⟨k,nx,mk,zD,v⟩:=W0
 simp only at ho
 obtain⟨ho1,ho2⟩:=ho
 subst ho1
 have HST:Hid ((⟨⟨pred,pw,curr,cw⟩,tries,aQ,ab,me,from_,key,limit,3,moved,cl⟩:aC).look x=(false,(⟨⟨pred,pw,curr,x⟩,tries,aQ,ab,me,from_,key,limit,4,moved,.new pred⟩:aC))):=Lib.hid (by unfold aC.look;simp only[hW0];rw[if_neg (by simp),if_neg (by rw[ho2];simp),if_pos hp])
 have xN:Hid ((⟨⟨pred,pw,curr,cw⟩,tries,aQ,ab,me,from_,key,limit,3,moved,cl⟩:aC).look (ld M m curr)=(false,(⟨⟨pred,pw,curr,x⟩,tries,aQ,ab,me,from_,key,limit,4,moved,.new pred⟩:aC))):=Lib.hid (by rw[hx];exact HST.out)
 have HG2:=fun W=>aT pw W hpw
 obtain⟨W2,hW2⟩:∃ W2,aE pw=W2:=⟨_,rfl⟩
 simp only[hW2] at HG2 hp
 have hfl:∀ W,(Instr.field 198 W2.val 3).run Tryz.prog W= .ok (.int .i64 W2.claim) W:=fun W=>xF _ _ _ _ _ W
 have dp:(W2.claim !=0)=true:=bne_iff_ne.2 hp
 clear hp hW2
 subst ho2
 simp only[Wd.val] at HG
 clear hn h hx hW0 HST
 go_enter Tryz.func132,Tryz.ntmps132
 have fr:=Fr.refl C (Kc c) oE w
 have ag:=aB.refl w.heap.size C
 go_wp2_with fail
 refine(aP hm curr).mono ?_;clear hm;rintro e w1 ⟨rfl,hm,hf⟩
 rw[HX.out]
 revert hrow;revert sb;revert fr;refine dS hf (aS c) eD ag ?_;clear hf;intro fr sb hrow
 have z1:=sb
 revert hm hrow;revert fr;refine st1 sb 5 (.int .u64 x) (aL c) ag ?_;clear sb;rintro w2 e1 fr sb hm hrow
 simp only[sx] at sb
 go_wp2_with fail
 clear z1 e1
 revert fr hm hrow sb;refine bk (HG _) ?_;rintro e w3 rfl fr hm hrow sb
 have z2:=sb
 revert fr hm hrow sb;refine bx1 198 #[.int .i64 k,.int .i64 nx,.bool true,.int .i64 0,.int .i64 v] ?_;rintro w4 qz Ct fr nb hm hrow sb
 go_wp2_with fail
 clear qz z2
 revert fr nb hm hrow sb;refine bD ?_;intro fr nb hm hrow sb
 obtain⟨q1,q2,qi⟩:=bl sb nb
 refine aA sb nb 12 [] [0,1,2,3,4,5,6,7,8,9,10,11] [12] (by kernel_rfl) (by kernel_rfl) ?_
 refine af ?_;try simp only[ox]
 repeat(go_big_quiet_step (fail))
 refine wpQuiet_nil ?_
 refine ae _ _ _ (by kernel_rfl) ?_;try simp only[ox]
 clear qi q1 q2
 go_wp2_with fail
 refine NoPanic.normal ?_
 go_wp2_with fail
 revert fr nb hm hrow sb;refine bk (HG2 _) ?_;rintro e w5 rfl fr nb hm hrow sb
 go_wp2_with fail
 revert fr nb hm hrow sb;refine bD ?_;intro fr nb hm hrow sb
 obtain⟨q1,q2,qi⟩:=bl sb nb
 refine aA sb nb 11 [] [0,1,2,3,4,5,6,7,8,9,10] [11,12,13,14,15,16,17] (by kernel_rfl) (by kernel_rfl) ?_
 refine af ?_;try simp only[ox]
 repeat(go_big_quiet_step (fail))
 refine wpQuiet_nil ?_
 refine ae _ _ _ (by kernel_rfl) ?_;try simp only[ox]
 clear qi q1 q2
 go_wp2_with fail
 revert ag fr nb hm hrow sb;refine fL (j4 M.L pred C c _) ?_;rintro w6 bc C6 ag fr hcl nb hm hrow sb
 have z3:=And.intro sb nb
 revert fr hcl nb hm hrow;refine st1 sb 13 (.int .i64 4) (aL c) ag ?_;clear sb;rintro w7 e1 fr sb hcl nb hm hrow
 simp only[sx] at sb
 have z4:=And.intro sb nb
 revert fr hcl nb hm hrow;refine st1 sb 15 (.pointer (some ⟨bc,0,none⟩)) (aL c) ag ?_;clear sb;rintro w8 e2 fr sb hcl nb hm hrow
 simp only[sx] at sb
 go_wp2_with fail
 refine NoPanic.normal ?_
 go_wp2_with fail
 clear z3 e1 z4 e2
 go_ret
 exact⟨by rw[xN.out];rfl,⟨_,ag,hm,by rw[xN.out];exact⟨_,⟨A,n,cap,HN.out,sb,hrow⟩,fun _=>⟨bc,rfl,hcl⟩⟩⟩,fr⟩
theorem uv {pc:Value} {f:aC} (hm:aj w C M m) (h:j9 w C c b M.L pc f) (h3:f.at_=3) (hpw:0≤f.pos.pw∧f.pos.pw<18446744073709551616) (ho:(aE (ld M m f.pos.curr)).mark=true∧(aE (ld M m f.pos.curr)).claim=0) (hp:(aE f.pos.pw).claim=0):Calls Tryz.prog 132 #[.pointer (some ⟨b,0,none⟩),.pointer (some ⟨M.b,0,none⟩)] w (qB C c b M ((f.look (ld M m f.pos.curr)).1,m,(f.look (ld M m f.pos.curr)).2) w):=by
 obtain⟨A,n,cap,hn,sb,hrow⟩:=h.ex
 obtain⟨⟨pred,pw,curr,cw⟩,tries,aQ,ab,me,from_,key,limit,at_,moved,cl⟩:=f
 simp only at hn sb hrow h3 hpw
 subst h3
 have HN:=Lib.hid hn
 have cr:=bJ hm curr
 obtain⟨x,hx⟩:∃ x,ld M m curr=x:=⟨_,rfl⟩
 rw[hx] at cr ho
 have HX:=Lib.hid hx
 have HG:=fun W=>aT x W cr
 obtain⟨W0,hW0⟩:∃ W0,aE x=W0:=⟨_,rfl⟩
 rw[hW0] at HG ho
 obtain⟨k,nx,mk,zD,v⟩:=W0
 simp only at ho
 obtain⟨ho1,ho2⟩:=ho
 subst ho1
 have HST:Hid ((⟨⟨pred,pw,curr,cw⟩,tries,aQ,ab,me,from_,key,limit,3,moved,cl⟩:aC).look x=(false,(⟨⟨pred,pw,curr,x⟩,tries,aQ,ab,me,from_,key,limit,5,moved,cl⟩:aC))):=Lib.hid (by unfold aC.look;simp only[hW0];rw[if_neg (by simp),if_neg (by rw[ho2];simp),if_neg (by rw[hp];simp)])
 have xN:Hid ((⟨⟨pred,pw,curr,cw⟩,tries,aQ,ab,me,from_,key,limit,3,moved,cl⟩:aC).look (ld M m curr)=(false,(⟨⟨pred,pw,curr,x⟩,tries,aQ,ab,me,from_,key,limit,5,moved,cl⟩:aC))):=Lib.hid (by rw[hx];exact HST.out)
 have HG2:=fun W=>aT pw W hpw
 obtain⟨W2,hW2⟩:∃ W2,aE pw=W2:=⟨_,rfl⟩
 simp only[hW2] at HG2 hp
 have hfl:∀ W,(Instr.field 198 W2.val 3).run Tryz.prog W= .ok (.int .i64 W2.claim) W:=fun W=>xF _ _ _ _ _ W
 have dp:(W2.claim !=0)=false:=by rw[hp];rfl
 clear hp hW2
 subst ho2
 simp only[Wd.val] at HG
 clear hn h hx hW0 HST
 go_enter Tryz.func132,Tryz.ntmps132
 have fr:=Fr.refl C (Kc c) oE w
 have ag:=aB.refl w.heap.size C
 go_wp2_with fail
 refine(aP hm curr).mono ?_;clear hm;rintro e w1 ⟨rfl,hm,hf⟩
 rw[HX.out]
 revert hrow;revert sb;revert fr;refine dS hf (aS c) eD ag ?_;clear hf;intro fr sb hrow
 have z1:=sb
 revert hm hrow;revert fr;refine st1 sb 5 (.int .u64 x) (aL c) ag ?_;clear sb;rintro w2 e1 fr sb hm hrow
 simp only[sx] at sb
 go_wp2_with fail
 clear z1 e1
 revert fr hm hrow sb;refine bk (HG _) ?_;rintro e w3 rfl fr hm hrow sb
 have z2:=sb
 revert fr hm hrow sb;refine bx1 198 #[.int .i64 k,.int .i64 nx,.bool true,.int .i64 0,.int .i64 v] ?_;rintro w4 qz Ct fr nb hm hrow sb
 go_wp2_with fail
 clear qz z2
 revert fr nb hm hrow sb;refine bD ?_;intro fr nb hm hrow sb
 obtain⟨q1,q2,qi⟩:=bl sb nb
 refine aA sb nb 12 [] [0,1,2,3,4,5,6,7,8,9,10,11] [12] (by kernel_rfl) (by kernel_rfl) ?_
 refine af ?_;try simp only[ox]
 repeat(go_big_quiet_step (fail))
 refine wpQuiet_nil ?_
 refine ae _ _ _ (by kernel_rfl) ?_;try simp only[ox]
 clear qi q1 q2
 go_wp2_with fail
 refine NoPanic.normal ?_
 go_wp2_with fail
 revert fr nb hm hrow sb;refine bk (HG2 _) ?_;rintro e w5 rfl fr nb hm hrow sb
 have z3:=And.intro sb nb
 revert fr nb hm hrow;refine st1 sb 13 (.int .i64 5) (aL c) ag ?_;clear sb;rintro w6 e1 fr sb nb hm hrow
 simp only[sx] at sb
 go_wp2_with fail
 clear z3 e1
 go_ret
 exact⟨by rw[xN.out];rfl,⟨_,ag,hm,by rw[xN.out];exact j9.at_ (pc:=pc) ⟨A,n,cap,HN.out,sb,hrow⟩ (by simp)⟩,fr⟩
theorem yK {pc:Value} {f:aC} (hm:aj w C M m) (h:j9 w C c b M.L pc f) (h3:f.at_=3) (hpw:0≤f.pos.pw∧f.pos.pw<18446744073709551616):Calls Tryz.prog 132 #[.pointer (some ⟨b,0,none⟩),.pointer (some ⟨M.b,0,none⟩)] w (qB C c b M ((f.look (ld M m f.pos.curr)).1,m,(f.look (ld M m f.pos.curr)).2) w):=by
 cases hmk:(aE (ld M m f.pos.curr)).mark with
 | false=>
  by_cases hk:f.key≤(aE (ld M m f.pos.curr)).key
  ·exact uo hm h h3 hpw ⟨hmk,hk⟩
  ·exact uq hm h h3 hpw ⟨hmk,hk⟩
 | true=>
  by_cases hc:(aE (ld M m f.pos.curr)).claim=0
  ·by_cases hp:(aE f.pos.pw).claim=0
   ·exact uv hm h h3 hpw ⟨hmk,hc⟩ hp
   ·exact uu hm h h3 hpw ⟨hmk,hc⟩ hp
  ·exact ur hm h h3 hpw ⟨hmk,hc⟩
theorem A4 {a o x:Int} (h:bS M m a o=false):cas M m a o x=m:=by unfold cas;rw[if_neg (by rw[h];simp)]
def aC.unlink (M:ML) (m:Mm) (f:aC):Bool×Mm×aC:=
 if bS M m f.pos.pred f.pos.pw then
  let m':=cas M m f.pos.pred f.pos.pw f.cut
  let r:=({ f with aQ:=f.aQ++[f.pos.curr] }:aC).move M.L
  if r.2.1 then ((r.2.2.take f.cut).1,m',(r.2.2.take f.cut).2) else (r.1,m',r.2.2)
 else (f.over,m,({ f with at_:=0 }:aC).aU)
theorem A5 (v0 v1 v2 v3 v4:Value) (W:World):(Instr.field 198 (.agg #[v0,v1,v2,v3,v4]) 1).run Tryz.prog W= .ok v1 W:=by kernel_rfl
theorem lJ {pc:Value} {f:aC} (hm:aj w C M m) (h:j9 w C c b M.L pc f) (h5:f.at_=5) (hok:f.Ok 100000) (hq:bS M m f.pos.pred f.pos.pw=false):Calls Tryz.prog 133 #[.pointer (some ⟨b,0,none⟩),.pointer (some ⟨M.b,0,none⟩)] w (qB C c b M (f.unlink M m) w):=by
 obtain⟨A,n,cap,hn,sb,hrow⟩:=h.ex
 obtain⟨⟨pred,pw,curr,cw⟩,tries,aQ,ab,me,from_,key,limit,at_,moved,cl⟩:=f
 obtain⟨hpw,hcw,hcurr,htr,hmv,hme,hsm,hln⟩:=hok
 simp only at hn sb hrow h5 hpw hcw hcurr htr hmv hme hsm hln hq
 subst h5
 have HN:=Lib.hid hn
 have hnn:n≤100000:=by omega
 obtain⟨W1,hW1⟩:∃ W1,aE pw=W1:=⟨_,rfl⟩
 obtain⟨W2,hW2⟩:∃ W2,aE cw=W2:=⟨_,rfl⟩
 have Ht:=fun W=>aT pw W hpw
 have HG2:=fun W=>aT cw W hcw
 have lG:=(bG pw).ver
 rw[hW1] at Ht lG
 rw[hW2] at HG2
 have hfl:∀ W,(Instr.field 198 W2.val 1).run Tryz.prog W= .ok (.int .i64 W2.next) W:=fun W=>A5 _ _ _ _ _ W
 have sk:=fun W=>mi W1 W2.next W lG
 obtain⟨W3,hW3⟩:∃ W3,W1.link W2.next=W3:=⟨_,rfl⟩
 rw[hW3] at sk
 have hxr:=fA W3
 obtain⟨x,hx⟩:∃ x,eU W3=x:=⟨_,rfl⟩
 have HP:=hU W3 x hx
 have CT:Hid (aC.cut ⟨⟨pred,pw,curr,cw⟩,tries,aQ,ab,me,from_,key,limit,5,moved,cl⟩=x):=Lib.hid (by unfold aC.cut;simp only[hW1,hW2,hW3,hx])
 rw[hx] at hxr
 have qu:0≤x∧x<18446744073709551616:=by omega
 have HST:Hid (aC.unlink M m ⟨⟨pred,pw,curr,cw⟩,tries,aQ,ab,me,from_,key,limit,5,moved,cl⟩=(aC.over ⟨⟨pred,pw,curr,cw⟩,tries,aQ,ab,me,from_,key,limit,0,moved,cl⟩,m,((⟨⟨pred,pw,curr,cw⟩,tries,aQ,ab,me,from_,key,limit,0,moved,cl⟩:aC)).aU)):=Lib.hid (by unfold aC.unlink;simp only;rw[if_neg (by rw[hq];simp)];rfl)
 have MQ:=Lib.hid (A4 (x:=x) hq)
 have HQ:=Lib.hid hq
 clear hn h hW1 hW2 hW3 hx hq hsm hln
 go_enter Tryz.func133,Tryz.ntmps133
 have fr:=Fr.refl C (Kc c) oE w
 have ag:=aB.refl w.heap.size C
 go_wp2_with fail
 revert hrow;revert hm;revert sb;revert fr;refine bD ?_;intro fr sb hm hrow
 obtain⟨q1,qi⟩:=aV sb
 refine ar sb 19 [([0,1,2,3,4,6,7,8,9,10],5),([],11),([12],13),([],14)] [15,16,17,18] [19] (by kernel_rfl) (by kernel_rfl) ?_
 refine ai ?_;simp only[ox];repeat(go_big_quiet_step (fail))
 refine di rfl (fun K' hK'=> ?_);go_simp
 revert fr sb hm hrow;with_reducible refine bk (Ht _) ?_;rintro e w1 rfl fr sb hm hrow
 refine hK' _ _ (bZ sb) ?_;clear hK' K'
 refine ai ?_;simp only[ox];repeat(go_big_quiet_step (fail))
 refine di rfl (fun K' hK'=> ?_);go_simp
 revert fr sb hm hrow;with_reducible refine bk (HG2 _) ?_;rintro e w2 rfl fr sb hm hrow
 refine hK' _ _ (bZ sb) ?_;clear hK' K'
 refine ai ?_;simp only[ox];repeat(go_big_quiet_step (fail))
 refine di rfl (fun K' hK'=> ?_);go_simp
 revert fr sb hm hrow;with_reducible refine bk (sk _) ?_;rintro e w3 rfl fr sb hm hrow
 refine hK' _ _ (bZ sb) ?_;clear hK' K'
 refine ai ?_;simp only[ox];repeat(go_big_quiet_step (fail))
 refine di rfl (fun K' hK'=> ?_);go_simp
 revert fr sb hm hrow;with_reducible refine bk (HP _) ?_;rintro e w4 ⟨ec,rfl⟩ fr sb hm hrow
 refine hK' _ _ (bZ sb) ?_;clear hK' K'
 refine af ?_;try simp only[ox]
 repeat(go_big_quiet_step (fail))
 refine wpQuiet_nil ?_
 refine ae _ _ _ (by kernel_rfl) ?_;try simp only[ox]
 clear qi q1
 go_wp2_with fail
 refine NoPanic.normal ?_
 go_wp2_with fail
 revert fr sb hm hrow;refine bD ?_;intro fr sb hm hrow
 obtain⟨q1,qi⟩:=aV sb
 refine ar sb 12 [] [0,1,2,3,4,5,6,7,8,9,10,11] [12,13] (by kernel_rfl) (by kernel_rfl) ?_
 refine af ?_;try simp only[ox]
 repeat(go_big_quiet_step (fail))
 refine wpQuiet_nil ?_
 refine ae _ _ _ (by kernel_rfl) ?_;try simp only[ox]
 clear qi q1
 go_wp2_with fail
 refine(fq hm pred pw x qu).mono ?_;clear hm;rintro e w5 ⟨rfl,hm,hf⟩
 rw[HQ.out]
 revert fr sb hrow;refine dS hf (aS c) eD ag ?_;clear hf;intro fr sb hrow
 rw[MQ.out] at hm
 have z1:=sb
 revert hrow;revert hm;revert fr;refine st1 sb 13 (.int .i64 0) (aL c) ag ?_;clear sb;rintro w6 e1 fr sb hm hrow
 simp only[sx] at sb
 go_wp2_with fail
 refine NoPanic.normal ?_
 go_wp2_with fail
 clear z1 e1
 refine(hY (f:=(⟨⟨pred,pw,curr,cw⟩,tries,aQ,ab,me,from_,key,limit,0,moved,cl⟩:aC)) ⟨A,n,cap,HN.out,sb,hrow⟩ (by simp only;omega)).mono ?_
 rintro e w9 ⟨rfl,own,hf⟩
 replace fr:=fr.trans (hf.mono (aL c) dD) ag
 replace hm:=hm.fr hf (.inr ⟨by decide,by decide⟩)
 go_wp2_with fail
 go_ret
 exact⟨by rw[HST.out];rfl,⟨_,ag,by rw[HST.out];exact hm,by rw[HST.out];exact own.at_ (sG (by simp))⟩,fr⟩
theorem mG {pc:Value} {f:aC} (hm:aj w C M m) (h:j9 w C c b M.L pc f) (h5:f.at_=5) (hok:f.Ok 100000) (hq:bS M m f.pos.pred f.pos.pw=true):Calls Tryz.prog 133 #[.pointer (some ⟨b,0,none⟩),.pointer (some ⟨M.b,0,none⟩)] w (qB C c b M (f.unlink M m) w):=by
 obtain⟨A,n,cap,hn,sb,hrow⟩:=h.ex
 obtain⟨⟨pred,pw,curr,cw⟩,tries,aQ,ab,me,from_,key,limit,at_,moved,cl⟩:=f
 obtain⟨hpw,hcw,hcurr,htr,hmv,hme,hsm,hln⟩:=hok
 simp only at hn sb hrow h5 hpw hcw hcurr htr hmv hme hsm hln hq
 subst h5
 have HN:=Lib.hid hn
 have hnn:n≤100000:=by omega
 obtain⟨W1,hW1⟩:∃ W1,aE pw=W1:=⟨_,rfl⟩
 obtain⟨W2,hW2⟩:∃ W2,aE cw=W2:=⟨_,rfl⟩
 have Ht:=fun W=>aT pw W hpw
 have HG2:=fun W=>aT cw W hcw
 have lG:=(bG pw).ver
 rw[hW1] at Ht lG
 rw[hW2] at HG2
 have hfl:∀ W,(Instr.field 198 W2.val 1).run Tryz.prog W= .ok (.int .i64 W2.next) W:=fun W=>A5 _ _ _ _ _ W
 have sk:=fun W=>mi W1 W2.next W lG
 obtain⟨W3,hW3⟩:∃ W3,W1.link W2.next=W3:=⟨_,rfl⟩
 rw[hW3] at sk
 have hxr:=fA W3
 obtain⟨x,hx⟩:∃ x,eU W3=x:=⟨_,rfl⟩
 have HP:=hU W3 x hx
 have CT:Hid (aC.cut ⟨⟨pred,pw,curr,cw⟩,tries,aQ,ab,me,from_,key,limit,5,moved,cl⟩=x):=Lib.hid (by unfold aC.cut;simp only[hW1,hW2,hW3,hx])
 rw[hx] at hxr
 have qu:0≤x∧x<18446744073709551616:=by omega
 obtain⟨i0,hi,hz0,hz1,hz2⟩:=info_parts gZ
 obtain⟨r,hr⟩:∃ r,aC.move M.L ⟨⟨pred,pw,curr,cw⟩,tries,aQ++[curr],ab,me,from_,key,limit,5,moved,cl⟩=r:=⟨_,rfl⟩
 have HST:Hid (aC.unlink M m ⟨⟨pred,pw,curr,cw⟩,tries,aQ,ab,me,from_,key,limit,5,moved,cl⟩=if r.2.1 then ((r.2.2.take x).1,cas M m pred pw x,(r.2.2.take x).2) else (r.1,cas M m pred pw x,r.2.2)):=Lib.hid (by unfold aC.unlink;simp only;rw[if_pos hq,CT.out,hr])
 have h4:r.2.2.at_≠4:=by rw[←hr];exact xM (by simp)
 have H4:=Lib.hid h4
 have Hu:=fun W C' (k:j9 W C' c b M.L pc ⟨⟨pred,pw,curr,cw⟩,tries,aQ++[curr],ab,me,from_,key,limit,5,moved,cl⟩)=>rA k (by simp only;omega) (by simp only;omega)
 simp only[hr] at Hu
 obtain⟨r1,r2,g⟩:=r
 have uw:Hid ((aQ++[curr]).length=n+1):=Lib.hid (by simp[hn])
 have Fm:Hid (cv (aQ++[curr])=cv aQ++[.int .i64 curr]):=Lib.hid (by simp[cv])
 clear hr h4
 have HQ:=Lib.hid hq
 clear hn h hW1 hW2 hW3 hx hq hsm hln
 go_enter Tryz.func133,Tryz.ntmps133
 have fr:=Fr.refl C (Kc c) oE w
 have ag:=aB.refl w.heap.size C
 go_wp2_with fail
 revert hrow;revert hm;revert sb;revert fr;refine bD ?_;intro fr sb hm hrow
 obtain⟨q1,qi⟩:=aV sb
 refine ar sb 19 [([0,1,2,3,4,6,7,8,9,10],5),([],11),([12],13),([],14)] [15,16,17,18] [19] (by kernel_rfl) (by kernel_rfl) ?_
 refine ai ?_;simp only[ox];repeat(go_big_quiet_step (fail))
 refine di rfl (fun K' hK'=> ?_);go_simp
 revert fr sb hm hrow;with_reducible refine bk (Ht _) ?_;rintro e w1 rfl fr sb hm hrow
 refine hK' _ _ (bZ sb) ?_;clear hK' K'
 refine ai ?_;simp only[ox];repeat(go_big_quiet_step (fail))
 refine di rfl (fun K' hK'=> ?_);go_simp
 revert fr sb hm hrow;with_reducible refine bk (HG2 _) ?_;rintro e w2 rfl fr sb hm hrow
 refine hK' _ _ (bZ sb) ?_;clear hK' K'
 refine ai ?_;simp only[ox];repeat(go_big_quiet_step (fail))
 refine di rfl (fun K' hK'=> ?_);go_simp
 revert fr sb hm hrow;with_reducible refine bk (sk _) ?_;rintro e w3 rfl fr sb hm hrow
 refine hK' _ _ (bZ sb) ?_;clear hK' K'
 refine ai ?_;simp only[ox];repeat(go_big_quiet_step (fail))
 refine di rfl (fun K' hK'=> ?_);go_simp
 revert fr sb hm hrow;with_reducible refine bk (HP _) ?_;rintro e w4 ⟨ec,rfl⟩ fr sb hm hrow
 refine hK' _ _ (bZ sb) ?_;clear hK' K'
 refine af ?_;try simp only[ox]
 repeat(go_big_quiet_step (fail))
 refine wpQuiet_nil ?_
 refine ae _ _ _ (by kernel_rfl) ?_;try simp only[ox]
 clear qi q1
 go_wp2_with fail
 refine NoPanic.normal ?_
 go_wp2_with fail
 revert fr sb hm hrow;refine bD ?_;intro fr sb hm hrow
 obtain⟨q1,qi⟩:=aV sb
 refine ar sb 12 [] [0,1,2,3,4,5,6,7,8,9,10,11] [12,13] (by kernel_rfl) (by kernel_rfl) ?_
 refine af ?_;try simp only[ox]
 repeat(go_big_quiet_step (fail))
 refine wpQuiet_nil ?_
 refine ae _ _ _ (by kernel_rfl) ?_;try simp only[ox]
 clear qi q1
 go_wp2_with fail
 refine(fq hm pred pw x qu).mono ?_;clear hm;rintro e w5 ⟨rfl,hm,hf⟩
 rw[HQ.out]
 revert fr sb hrow;refine dS hf (aS c) eD ag ?_;clear hf;intro fr sb hrow
 go_wp2_with fail
 refine NoPanic.normal ?_
 go_wp2_with fail
 revert hm sb hrow;revert fr;refine bD ?_;intro fr hm sb hrow
 obtain⟨q1,qi⟩:=aV sb
 refine ar sb 11 [] [0,1,2,3,4,5,6,7,8,9] [10,11,12,13,14] (by kernel_rfl) (by kernel_rfl) ?_
 refine af ?_;try simp only[ox]
 repeat(go_big_quiet_step (fail))
 refine wpQuiet_nil ?_
 refine ay rfl (fun K' hK'=> ?_);go_simp
 revert fr hm sb hrow;refine yI 3 #[.int .i64 curr] ?_;rintro w6 e1 JA fr ns hm sb hrow;rw[e1]
 refine hK' _ _ (bZ sb) ?_;clear hK' K' e1
 refine ae _ _ _ (by kernel_rfl) ?_;try simp only[ox]
 clear qi q1
 go_wp2_with (at_builtin;refine wpList_append_lies _ rfl _ _ _ rfl 0 3 i0 _ 1 8 Tryz.underlying89 hi hz0 hz1 hz2 rfl (by omega) (.slice A n cap) n (cv aQ) rfl hrow.own ⟨w5.heap.size,0,none⟩ 1 1 [.int .i64 curr] rfl rfl (World.news_of_block ns.blk) (gE [curr]) (by omega) (by unfold maxLen;omega) (by omega) (Nat.zero_le _) (w6.heap.size) rfl ?_;intro g cap2 wA hownA eP lK Dg;have hfA:Fr C (K0 c) [some 3] w6 wA:=(Fr.refl C (K0 c) [some 3] w6).app hrow eP (eO c) (by decide);have sA:=sb.fr hfA (.inr (by decide)))
 refine NoPanic.normal ?_
 go_wp2_with fail
 have sH:=hrow.app hownA (lK.elim (fun e=> .inl e.symm) (fun e=> .inr (by rw[e];rfl)))
 obtain⟨CA,sI⟩:∃ C',C'=a9 C w6.heap.size c:=⟨_,rfl⟩
 rw[←sI] at sH
 have aG:aB w6.heap.size C CA:=by rw[sI];exact aB.a9 _ _ _
 clear hrow ns sA sI;revert hm;revert sb;revert fr;revert ag;refine kx hfA aG (aL c) (by decide) ?_;intro ag fr sb hm
 have hrow:=sH
 clear sH aG hfA eP lK hownA
 have lL:=own_ne hrow.own sb.blk (by decide)
 revert fr hm hrow;refine st1 sb 7 (.slice (some ⟨g,0,none⟩) (n+1) cap2) (aL c) ag ?_;clear sb;rintro w7 e1 fr sb hm hrow
 simp only[sx] at sb
 rw[e1]
 clear e1
 clear lL
 rw[←Fm.out] at hrow
 refine(Hu _ _ ⟨_,n+1,_,uw.out,sb,hrow⟩).mono ?_
 rintro e w9 ⟨rfl,own,hf⟩
 replace fr:=fr.trans (hf.mono (aL c) dD) ag
 replace hm:=hm.fr hf (.inr ⟨by decide,by decide⟩)
 try dsimp only at own
 cases r2
 ·skip
  go_wp2_with fail
  go_ret
  exact⟨by rw[HST.out];rfl,⟨_,ag,by rw[HST.out];exact hm,by rw[HST.out];exact own.at_ H4.out⟩,fr⟩
 ·skip
  go_wp2_with fail
  refine(ka own x qu).mono ?_
  rintro e w10 ⟨rfl,jM,hf2⟩
  replace fr:=fr.trans (hf2.mono (aL c) dD) ag
  replace hm:=hm.fr hf2 (.inr ⟨by decide,by decide⟩)
  go_wp2_with fail
  go_ret
  exact⟨by rw[HST.out];rfl,⟨_,ag,by rw[HST.out];exact hm,by rw[HST.out];exact jM.at_ take_at⟩,fr⟩
theorem ux {pc:Value} {f:aC} (hm:aj w C M m) (h:j9 w C c b M.L pc f) (h5:f.at_=5) (hok:f.Ok 100000):Calls Tryz.prog 133 #[.pointer (some ⟨b,0,none⟩),.pointer (some ⟨M.b,0,none⟩)] w (qB C c b M (f.unlink M m) w):=by
 cases hq:bS M m f.pos.pred f.pos.pw with
 | false=>exact lJ hm h h5 hok hq
 | true=>exact mG hm h h5 hok hq
end Go.Proofs.YtbcnnhlpilmmbaaGreat
