/- Texts that are wanted for PTopClaims.
   Conditions: none. -/
import Derived.Test.YtbcnnhlpilmmbaaGreatJPTopClaims08
set_option maxRecDepth 100000
set_option maxHeartbeats 6400000
namespace Go.Proofs.YtbcnnhlpilmmbaaGreat
open Go Go.RowKit
structure kE (w:World) (C:Nat→Nat) (c b:Nat) (L:Ly) (pc:Value) (f:aB):Prop where
 ex:∃ (A:Option Addr) (n cap:Nat),f.aO.length=n∧SB w C c b 157 #[.int .i64 L.th,.int .i64 L.nd,.int .i64 f.pos.pred,.int .u64 f.pos.pw,.int .i64 f.pos.curr,.int .u64 f.pos.cw,.int .i64 f.tries,.slice A n cap,.bool f.ab,.int .i64 f.me,.int .i64 f.from_,.int .i64 f.key,.int .i64 f.limit,.int .i64 f.at_,.int .i64 f.moved,pc]∧Row w C c 3 1 (.slice A n cap) n (cJ f.aO)
def Nv:List (Option TypeId):=[some 157,some 3]
variable {w w':World} {C C':Nat→Nat} {K:Nat→Prop} {T:List (Option TypeId)} {c b:Nat} {L:Ly}
theorem kE.mv {pc:Value} {f:aB} (h:kE w C c b L pc f) (k:Fr C K T w w') (a:aF w.heap.size C C') (hk:¬ K c∨dJ Nv T):kE w' C' c b L pc f:=by
 obtain⟨A,n,cap,h1,h2,h3⟩:=h.ex
 exact⟨A,n,cap,h1,h2.mv k a (hk.imp id (fun h=>h _ (by decide))),h3.mv k a (hk.imp id (fun h=>h _ (by decide)))⟩
structure ff (w:World) (C:Nat→Nat) (c b:Nat) (L:Ly) (f:aB):Prop where
 ex:∃ pc,kE w C c b L pc f∧(f.at_=4→∃ bc,pc= .pointer (some ⟨bc,0,none⟩)∧gD w C c bc L f.cl)
def KW:List (Option TypeId):=[some 157,some 3,some 230]
theorem ff.mv {f:aB} (h:ff w C c b L f) (k:Fr C K T w w') (a:aF w.heap.size C C') (hk:¬ K c∨dJ KW T):ff w' C' c b L f:=by
 obtain⟨pc,h1,h2⟩:=h.ex
 refine⟨pc,h1.mv k a (hk.imp id (fun h x hx=>h x (by revert x;decide))),fun h4=> ?_⟩
 obtain⟨bc,h5,h6⟩:=h2 h4
 exact⟨bc,h5,h6.mv k a (hk.imp id (fun h=>h _ (by decide)))⟩
theorem ff.fr {f:aB} (h:ff w C c b L f) (k:Fr C K T w w') (hk:¬ K c∨dJ KW T):ff w' C c b L f:=h.mv k (aF.refl _ _) hk
instance {w:World} {C:Nat→Nat} {c b:Nat} {L:Ly} {f:aB}:Mv (ff w C c b L f) w C KW (fun w' C'=>ff w' C' c b L f):=⟨fun h k a hk=>h.mv k a (.inr hk)⟩
structure aB.Ok (f:aB) (N:Int):Prop where
 pw:0≤f.pos.pw∧f.pos.pw<18446744073709551616
 cw:0≤f.pos.cw∧f.pos.cw<18446744073709551616
 curr:0≤f.pos.curr∧f.pos.curr≤1000
 tries:0≤f.tries∧f.tries≤N
 moved:0≤f.moved∧f.moved≤N
 me:0≤f.me∧f.me≤7
 aO:Small f.aO∧(f.aO.length:Int)≤N
structure BS (C:Nat→Nat) (c b:Nat) (L:Ly) (pc:Value) (v:Value) (f:aB) (w:World) (e:Ending) (w':World):Prop where
 ret:e= .returned v
 own:kE w' C c b L pc f
 fr:Fr C (K0 c) [some 157] w w'
theorem r5 {pc:Value} {f:aB} (h:kE w C c b L pc f):Calls Tryz.prog 171 #[.pointer (some ⟨b,0,none⟩)] w (BS C c b L pc (.tuple #[]) (f.anew) w):=by
 obtain⟨A,n,cap,hn,sb,hrow⟩:=h.ex
 obtain⟨⟨pred,pw,curr,cw⟩,tries,aO,ab,me,from_,key,limit,at_,moved,cl⟩:=f
 simp only at hn sb hrow
 have HN:=Lib.hid hn
 clear hn h
 have HST:Hid ((⟨⟨pred,pw,curr,cw⟩,tries,aO,ab,me,from_,key,limit,at_,moved,cl⟩:aB).anew=⟨⟨from_,pw,curr,cw⟩,tries,aO,ab,me,from_,key,limit,0,0,cl⟩):=Lib.hid rfl
 go_enter Tryz.func171,Tryz.ntmps171
 have fr:=Fr.refl C (K0 c) [some 157] w
 have ag:=aF.refl w.heap.size C
 have z1:=sb
 revert hrow;revert fr;refine st1 sb 2 (.int .i64 from_) (fun _ h=>h) ag ?_;clear sb;rintro w1 e1 fr sb hrow
 simp only[sx] at sb
 have z2:=sb
 revert fr hrow;refine st1 sb 14 (.int .i64 0) (fun _ h=>h) ag ?_;clear sb;rintro w2 e2 fr sb hrow
 simp only[sx] at sb
 have z3:=sb
 revert fr hrow;refine st1 sb 13 (.int .i64 0) (fun _ h=>h) ag ?_;clear sb;rintro w3 e3 fr sb hrow
 simp only[sx] at sb
 go_wp2_with fail
 clear z1 e1 z2 e2 z3 e3
 go_end0
 exact⟨rfl,by rw[HST.out];exact⟨A,n,cap,HN.out,sb,hrow⟩,fr⟩
theorem jW {pc:Value} {f:aB} (h:kE w C c b L pc f) (ht:0≤f.tries∧f.tries≤1000000) (ho:f.over=false):Calls Tryz.prog 130 #[.pointer (some ⟨b,0,none⟩)] w (BS C c b L pc (.bool false) (f.aR) w):=by
 obtain⟨A,n,cap,hn,sb,hrow⟩:=h.ex
 obtain⟨⟨pred,pw,curr,cw⟩,tries,aO,ab,me,from_,key,limit,at_,moved,cl⟩:=f
 simp only at hn sb hrow
 have HN:=Lib.hid hn
 clear hn h
 have HST:Hid ((⟨⟨pred,pw,curr,cw⟩,tries,aO,ab,me,from_,key,limit,at_,moved,cl⟩:aB).aR=⟨⟨pred,pw,curr,cw⟩,tries+1,aO,false,me,from_,key,limit,at_,moved,cl⟩):=Lib.hid (by unfold aB.aR;rw[ho];rfl)
 have e6:wrap64 (tries+1)=tries+1:=IntWalk.wrap64_in _ (by simp only at ht;omega)
 have d2:decide (tries+1>limit)=false:=ho
 clear ho ht
 go_enter Tryz.func130,Tryz.ntmps130
 have fr:=Fr.refl C (K0 c) [some 157] w
 have ag:=aF.refl w.heap.size C
 have z1:=sb
 revert hrow;revert fr;refine st1 sb 6 (.int .i64 (tries+1)) (fun _ h=>h) ag ?_;clear sb;rintro w1 e1 fr sb hrow
 simp only[sx] at sb
 go_wp2_with fail
 clear z1 e1
 revert fr hrow sb;refine bK ?_;intro fr hrow sb
 obtain⟨q1,qi⟩:=aY sb
 refine ax sb 12 [] [0,1,2,3,4,5,6,7,8,9,10,11] [12] (by kernel_rfl) (by kernel_rfl) ?_
 refine af ?_;try simp only[ox]
 repeat(go_big_quiet_step (fail))
 refine wpQuiet_nil ?_
 refine ae _ _ _ (by kernel_rfl) ?_;try simp only[ox]
 clear qi q1
 have z2:=sb
 revert fr hrow;refine lC sb 8 (.bool false) (fun _ h=>h) ag ?_;clear sb;rintro w2 e1 fr sb hrow
 simp only[sx] at sb
 go_wp2_with fail
 try rw[e1]
 refine NoPanic.normal ?_
 go_wp2_with fail
 clear z2 e1
 go_ret
 exact⟨rfl,by rw[HST.out];exact⟨A,n,cap,HN.out,sb,hrow⟩,fr⟩
theorem kX {pc:Value} {f:aB} (h:kE w C c b L pc f) (ht:0≤f.tries∧f.tries≤1000000) (ho:f.over=true):Calls Tryz.prog 130 #[.pointer (some ⟨b,0,none⟩)] w (BS C c b L pc (.bool true) (f.aR) w):=by
 obtain⟨A,n,cap,hn,sb,hrow⟩:=h.ex
 obtain⟨⟨pred,pw,curr,cw⟩,tries,aO,ab,me,from_,key,limit,at_,moved,cl⟩:=f
 simp only at hn sb hrow
 have HN:=Lib.hid hn
 clear hn h
 have HST:Hid ((⟨⟨pred,pw,curr,cw⟩,tries,aO,ab,me,from_,key,limit,at_,moved,cl⟩:aB).aR=⟨⟨0,0,0,0⟩,tries+1,aO,true,me,from_,key,limit,at_,moved,cl⟩):=Lib.hid (by unfold aB.aR;rw[ho];rfl)
 have e6:wrap64 (tries+1)=tries+1:=IntWalk.wrap64_in _ (by simp only at ht;omega)
 have d2:decide (tries+1>limit)=true:=ho
 clear ho ht
 go_enter Tryz.func130,Tryz.ntmps130
 have fr:=Fr.refl C (K0 c) [some 157] w
 have ag:=aF.refl w.heap.size C
 have z1:=sb
 revert hrow;revert fr;refine st1 sb 6 (.int .i64 (tries+1)) (fun _ h=>h) ag ?_;clear sb;rintro w1 e1 fr sb hrow
 simp only[sx] at sb
 go_wp2_with fail
 clear z1 e1
 revert fr hrow sb;refine bK ?_;intro fr hrow sb
 obtain⟨q1,qi⟩:=aY sb
 refine ax sb 12 [] [0,1,2,3,4,5,6,7,8,9,10,11] [12] (by kernel_rfl) (by kernel_rfl) ?_
 refine af ?_;try simp only[ox]
 repeat(go_big_quiet_step (fail))
 refine wpQuiet_nil ?_
 refine ae _ _ _ (by kernel_rfl) ?_;try simp only[ox]
 clear qi q1
 have z2:=sb
 revert fr hrow;refine lC sb 8 (.bool true) (fun _ h=>h) ag ?_;clear sb;rintro w2 e1 fr sb hrow
 simp only[sx] at sb
 have z3:=sb
 revert fr hrow;refine st1 sb 2 (.int .i64 0) (fun _ h=>h) ag ?_;clear sb;rintro w3 e2 fr sb hrow
 simp only[sx] at sb
 have z4:=sb
 revert fr hrow;refine st1 sb 3 (.int .u64 0) (fun _ h=>h) ag ?_;clear sb;rintro w4 e3 fr sb hrow
 simp only[sx] at sb
 have z5:=sb
 revert fr hrow;refine st1 sb 4 (.int .i64 0) (fun _ h=>h) ag ?_;clear sb;rintro w5 e4 fr sb hrow
 simp only[sx] at sb
 have z6:=sb
 revert fr hrow;refine st1 sb 5 (.int .u64 0) (fun _ h=>h) ag ?_;clear sb;rintro w6 e5 fr sb hrow
 simp only[sx] at sb
 go_wp2_with fail
 try rw[e1]
 refine NoPanic.normal ?_
 go_wp2_with fail
 clear z2 e1 z3 e2 z4 e3 z5 e4 z6 e5
 go_ret
 exact⟨rfl,by rw[HST.out];exact⟨A,n,cap,HN.out,sb,hrow⟩,fr⟩
theorem o5 {pc:Value} {f:aB} (h:kE w C c b L pc f) (x:Int) (hx:0≤x∧x<18446744073709551616) (ho:(ao x).mark=true):Calls Tryz.prog 131 #[.pointer (some ⟨b,0,none⟩),.int .u64 x] w (BS C c b L pc (.bool (f.take x).1) ((f.take x).2) w):=by
 obtain⟨A,n,cap,hn,sb,hrow⟩:=h.ex
 obtain⟨⟨pred,pw,curr,cw⟩,tries,aO,ab,me,from_,key,limit,at_,moved,cl⟩:=f
 simp only at hn sb hrow
 have HN:=Lib.hid hn
 clear hn h
 have HG:=fun W=>aW x W hx
 obtain⟨W0,hW0⟩:∃ W0,ao x=W0:=⟨_,rfl⟩
 rw[hW0] at HG ho
 obtain⟨k,nx,mk,AI,v⟩:=W0
 simp only at ho
 subst ho
 have HST:Hid ((⟨⟨pred,pw,curr,cw⟩,tries,aO,ab,me,from_,key,limit,at_,moved,cl⟩:aB).take x=(false,⟨⟨from_,pw,curr,cw⟩,tries,aO,ab,me,from_,key,limit,0,0,cl⟩)):=Lib.hid (by unfold aB.take;rw[hW0];rfl)
 simp only[Wd.val] at HG
 clear hW0
 go_enter Tryz.func131,Tryz.ntmps131
 have fr:=Fr.refl C (K0 c) [some 157] w
 have ag:=aF.refl w.heap.size C
 go_wp2_with fail
 revert hrow;revert sb;revert fr;refine bB (HG _) ?_;rintro e w1 rfl fr sb hrow
 have z1:=sb
 revert fr sb hrow;refine bx1 198 #[.int .i64 k,.int .i64 nx,.bool true,.int .i64 AI,.int .i64 v] ?_;rintro w2 q8 Du fr nb sb hrow
 go_wp2_with fail
 clear q8 z1
 refine(r5 (f:=⟨⟨pred,pw,curr,cw⟩,tries,aO,ab,me,from_,key,limit,at_,moved,cl⟩) ⟨A,n,cap,HN.out,sb,hrow⟩).mono ?_
 rintro e w9 ⟨rfl,own,hf⟩
 go_wp2_with fail
 go_ret
 exact⟨by rw[HST.out];rfl,by rw[HST.out];exact own,fr.trans hf ag⟩
theorem n5 {pc:Value} {f:aB} (h:kE w C c b L pc f) (x:Int) (hx:0≤x∧x<18446744073709551616) (ho:(ao x).mark=false):Calls Tryz.prog 131 #[.pointer (some ⟨b,0,none⟩),.int .u64 x] w (BS C c b L pc (.bool (f.take x).1) ((f.take x).2) w):=by
 obtain⟨A,n,cap,hn,sb,hrow⟩:=h.ex
 obtain⟨⟨pred,pw,curr,cw⟩,tries,aO,ab,me,from_,key,limit,at_,moved,cl⟩:=f
 simp only at hn sb hrow
 have HN:=Lib.hid hn
 clear hn h
 have HG:=fun W=>aW x W hx
 obtain⟨W0,hW0⟩:∃ W0,ao x=W0:=⟨_,rfl⟩
 rw[hW0] at HG ho
 obtain⟨k,nx,mk,AI,v⟩:=W0
 simp only at ho
 subst ho
 have HST:Hid ((⟨⟨pred,pw,curr,cw⟩,tries,aO,ab,me,from_,key,limit,at_,moved,cl⟩:aB).take x=(decide (nx=0),⟨⟨pred,x,nx,0⟩,tries,aO,ab,me,from_,key,limit,1,moved,cl⟩)):=Lib.hid (by unfold aB.take;rw[hW0];rfl)
 simp only[Wd.val] at HG
 clear hW0
 go_enter Tryz.func131,Tryz.ntmps131
 have fr:=Fr.refl C (K0 c) [some 157] w
 have ag:=aF.refl w.heap.size C
 go_wp2_with fail
 revert hrow;revert sb;revert fr;refine bB (HG _) ?_;rintro e w1 rfl fr sb hrow
 have z1:=sb
 revert fr sb hrow;refine bx1 198 #[.int .i64 k,.int .i64 nx,.bool false,.int .i64 AI,.int .i64 v] ?_;rintro w2 q8 Du fr nb sb hrow
 go_wp2_with fail
 clear q8 z1
 revert fr nb sb hrow;refine bK ?_;intro fr nb sb hrow
 obtain⟨q1,qi⟩:=aY nb
 refine ax nb 14 [([0,1,2,3,4,5,6,7,8,9],10)] [11,12,13] [14,15,16,17,18,19,20,21] (by kernel_rfl) (by kernel_rfl) ?_
 refine ai ?_;simp only[ox];repeat(go_big_quiet_step (fail))
 refine dI rfl (fun K' hK'=> ?_);go_simp
 revert fr nb hrow;refine lC sb 3 (.int .u64 x) (fun _ h=>h) ag ?_;clear sb;rintro w3 e1 fr sb nb hrow;rw[e1];simp only[sx] at sb
 refine hK' _ _ (cj nb) ?_;clear hK' K' e1
 refine af ?_;try simp only[ox]
 repeat(go_big_quiet_step (fail))
 refine wpQuiet_nil ?_
 refine ae _ _ _ (by kernel_rfl) ?_;try simp only[ox]
 clear qi q1
 have z2:=And.intro sb nb
 revert fr nb hrow;refine st1 sb 4 (.int .i64 nx) (fun _ h=>h) ag ?_;clear sb;rintro w4 e1 fr sb nb hrow
 simp only[sx] at sb
 have z3:=And.intro sb nb
 revert fr nb hrow;refine st1 sb 5 (.int .u64 0) (fun _ h=>h) ag ?_;clear sb;rintro w5 e2 fr sb nb hrow
 simp only[sx] at sb
 have z4:=And.intro sb nb
 revert fr nb hrow;refine st1 sb 13 (.int .i64 1) (fun _ h=>h) ag ?_;clear sb;rintro w6 e3 fr sb nb hrow
 simp only[sx] at sb
 go_wp2_with fail
 refine NoPanic.normal ?_
 go_wp2_with fail
 clear z2 e1 z3 e2 z4 e3
 have hd:(nx==0)=decide (nx=0):=rfl
 go_ret
 exact⟨by rw[HST.out];rfl,by rw[HST.out];exact⟨A,n,cap,HN.out,sb,hrow⟩,fr⟩
theorem tq {pc:Value} {f:aB} (h:kE w C c b L pc f) (ht:0≤f.tries∧f.tries≤1000000) (hm:0≤f.moved∧f.moved≤1000000) (hq:f.moved+1≤L.nd):Calls Tryz.prog 134 #[.pointer (some ⟨b,0,none⟩)] w (BS C c b L pc (.tuple #[.bool (f.move L).1,.bool (f.move L).2.1]) ((f.move L).2.2) w):=by
 obtain⟨A,n,cap,hn,sb,hrow⟩:=h.ex
 obtain⟨⟨pred,pw,curr,cw⟩,tries,aO,ab,me,from_,key,limit,at_,moved,cl⟩:=f
 simp only at hn sb hrow
 have HN:=Lib.hid hn
 clear hn h
 have HST:Hid ((⟨⟨pred,pw,curr,cw⟩,tries,aO,ab,me,from_,key,limit,at_,moved,cl⟩:aB).move L=(false,true,⟨⟨pred,pw,curr,cw⟩,tries,aO,ab,me,from_,key,limit,at_,moved+1,cl⟩)):=Lib.hid (by unfold aB.move;rw[if_pos hq])
 have e6:wrap64 (moved+1)=moved+1:=IntWalk.wrap64_in _ (by simp only at hm;omega)
 have d2:decide (moved+1≤L.nd)=true:=decide_eq_true hq
 clear hq
 go_enter Tryz.func134,Tryz.ntmps134
 have fr:=Fr.refl C (K0 c) [some 157] w
 have ag:=aF.refl w.heap.size C
 have z1:=sb
 revert hrow;revert fr;refine st1 sb 14 (.int .i64 (moved+1)) (fun _ h=>h) ag ?_;clear sb;rintro w1 e1 fr sb hrow
 simp only[sx] at sb
 go_wp2_with fail
 clear z1 e1
 revert fr hrow sb;refine bK ?_;intro fr hrow sb
 obtain⟨q1,qi⟩:=aY sb
 refine ax sb 9 [] [0,1,2,3,4,5,6,7,8] [9] (by kernel_rfl) (by kernel_rfl) ?_
 refine af ?_;try simp only[ox]
 repeat(go_big_quiet_step (fail))
 refine wpQuiet_nil ?_
 refine ae _ _ _ (by kernel_rfl) ?_;try simp only[ox]
 clear qi q1
 go_wp2_with fail
 refine NoPanic.normal ?_
 go_wp2_with fail
 go_ret2
 exact⟨by rw[HST.out];rfl,by rw[HST.out];exact⟨A,n,cap,HN.out,sb,hrow⟩,fr⟩
theorem q9 {pc:Value} {f:aB} (h:kE w C c b L pc f) (ht:0≤f.tries∧f.tries≤1000000) (hm:0≤f.moved∧f.moved≤1000000) (hq:¬ f.moved+1≤L.nd) (ho:f.over=true):Calls Tryz.prog 134 #[.pointer (some ⟨b,0,none⟩)] w (BS C c b L pc (.tuple #[.bool (f.move L).1,.bool (f.move L).2.1]) ((f.move L).2.2) w):=by
 obtain⟨A,n,cap,hn,sb,hrow⟩:=h.ex
 obtain⟨⟨pred,pw,curr,cw⟩,tries,aO,ab,me,from_,key,limit,at_,moved,cl⟩:=f
 simp only at hn sb hrow
 have HN:=Lib.hid hn
 clear hn h
 have HST:Hid ((⟨⟨pred,pw,curr,cw⟩,tries,aO,ab,me,from_,key,limit,at_,moved,cl⟩:aB).move L=(true,false,(⟨⟨pred,pw,curr,cw⟩,tries,aO,ab,me,from_,key,limit,at_,moved+1,cl⟩:aB).aR)):=Lib.hid (by unfold aB.move;rw[if_neg hq,if_pos ho])
 have e6:wrap64 (moved+1)=moved+1:=IntWalk.wrap64_in _ (by simp only at hm;omega)
 have d2:decide (moved+1≤L.nd)=false:=decide_eq_false hq
 clear hq
 go_enter Tryz.func134,Tryz.ntmps134
 have fr:=Fr.refl C (K0 c) [some 157] w
 have ag:=aF.refl w.heap.size C
 have z1:=sb
 revert hrow;revert fr;refine st1 sb 14 (.int .i64 (moved+1)) (fun _ h=>h) ag ?_;clear sb;rintro w1 e1 fr sb hrow
 simp only[sx] at sb
 go_wp2_with fail
 clear z1 e1
 revert fr hrow sb;refine bK ?_;intro fr hrow sb
 obtain⟨q1,qi⟩:=aY sb
 refine ax sb 9 [] [0,1,2,3,4,5,6,7,8] [9] (by kernel_rfl) (by kernel_rfl) ?_
 refine af ?_;try simp only[ox]
 repeat(go_big_quiet_step (fail))
 refine wpQuiet_nil ?_
 refine ae _ _ _ (by kernel_rfl) ?_;try simp only[ox]
 clear qi q1
 go_wp2_with fail
 refine NoPanic.normal ?_
 go_wp2_with fail
 refine(kX (f:=⟨⟨pred,pw,curr,cw⟩,tries,aO,ab,me,from_,key,limit,at_,moved+1,cl⟩) ⟨A,n,cap,HN.out,sb,hrow⟩ ht ho).mono ?_
 rintro e w8 ⟨rfl,own,hf⟩
 replace fr:=fr.trans hf ag
 go_wp2_with fail
 go_ret2
 exact⟨by rw[HST.out];rfl,by rw[HST.out];exact own,fr⟩
theorem o6 {pc:Value} {f:aB} (h:kE w C c b L pc f) (ht:0≤f.tries∧f.tries≤1000000) (hm:0≤f.moved∧f.moved≤1000000) (hq:¬ f.moved+1≤L.nd) (ho:f.over=false):Calls Tryz.prog 134 #[.pointer (some ⟨b,0,none⟩)] w (BS C c b L pc (.tuple #[.bool (f.move L).1,.bool (f.move L).2.1]) ((f.move L).2.2) w):=by
 obtain⟨A,n,cap,hn,sb,hrow⟩:=h.ex
 obtain⟨⟨pred,pw,curr,cw⟩,tries,aO,ab,me,from_,key,limit,at_,moved,cl⟩:=f
 simp only at hn sb hrow
 have HN:=Lib.hid hn
 clear hn h
 have HST:Hid ((⟨⟨pred,pw,curr,cw⟩,tries,aO,ab,me,from_,key,limit,at_,moved,cl⟩:aB).move L=(false,false,(⟨⟨pred,pw,curr,cw⟩,tries,aO,ab,me,from_,key,limit,at_,moved+1,cl⟩:aB).aR.anew)):=Lib.hid (by unfold aB.move;rw[if_neg hq,if_neg (by rw[ho];decide)])
 have e6:wrap64 (moved+1)=moved+1:=IntWalk.wrap64_in _ (by simp only at hm;omega)
 have d2:decide (moved+1≤L.nd)=false:=decide_eq_false hq
 clear hq
 go_enter Tryz.func134,Tryz.ntmps134
 have fr:=Fr.refl C (K0 c) [some 157] w
 have ag:=aF.refl w.heap.size C
 have z1:=sb
 revert hrow;revert fr;refine st1 sb 14 (.int .i64 (moved+1)) (fun _ h=>h) ag ?_;clear sb;rintro w1 e1 fr sb hrow
 simp only[sx] at sb
 go_wp2_with fail
 clear z1 e1
 revert fr hrow sb;refine bK ?_;intro fr hrow sb
 obtain⟨q1,qi⟩:=aY sb
 refine ax sb 9 [] [0,1,2,3,4,5,6,7,8] [9] (by kernel_rfl) (by kernel_rfl) ?_
 refine af ?_;try simp only[ox]
 repeat(go_big_quiet_step (fail))
 refine wpQuiet_nil ?_
 refine ae _ _ _ (by kernel_rfl) ?_;try simp only[ox]
 clear qi q1
 go_wp2_with fail
 refine NoPanic.normal ?_
 go_wp2_with fail
 refine(jW (f:=⟨⟨pred,pw,curr,cw⟩,tries,aO,ab,me,from_,key,limit,at_,moved+1,cl⟩) ⟨A,n,cap,HN.out,sb,hrow⟩ ht ho).mono ?_
 rintro e w8 ⟨rfl,own,hf⟩
 replace fr:=fr.trans hf ag
 go_wp2_with fail
 refine(r5 own).mono ?_
 rintro e w9 ⟨rfl,jX,hf2⟩
 replace fr:=fr.trans hf2 ag
 go_wp2_with fail
 go_ret2
 exact⟨by rw[HST.out];rfl,by rw[HST.out];exact jX,fr⟩
theorem iB {pc:Value} {f:aB} (h:kE w C c b L pc f) (ht:0≤f.tries∧f.tries≤1000000):Calls Tryz.prog 130 #[.pointer (some ⟨b,0,none⟩)] w (BS C c b L pc (.bool f.over) (f.aR) w):=by
 cases ho:f.over with
 | true=>exact kX h ht ho
 | false=>exact jW h ht ho
theorem kF {pc:Value} {f:aB} (h:kE w C c b L pc f) (x:Int) (hx:0≤x∧x<18446744073709551616):Calls Tryz.prog 131 #[.pointer (some ⟨b,0,none⟩),.int .u64 x] w (BS C c b L pc (.bool (f.take x).1) ((f.take x).2) w):=by
 cases ho:(ao x).mark with
 | true=>exact o5 h x hx ho
 | false=>exact n5 h x hx ho
theorem r6 {pc:Value} {f:aB} (h:kE w C c b L pc f) (ht:0≤f.tries∧f.tries≤1000000) (hm:0≤f.moved∧f.moved≤1000000):Calls Tryz.prog 134 #[.pointer (some ⟨b,0,none⟩)] w (BS C c b L pc (.tuple #[.bool (f.move L).1,.bool (f.move L).2.1]) ((f.move L).2.2) w):=by
 by_cases hq:f.moved+1≤L.nd
 ·exact tq h ht hm hq
 ·cases ho:f.over with
  | true=>exact q9 h ht hm hq ho
  | false=>exact o6 h ht hm hq ho
theorem o7 (L:Ly) (hL:L.Ok) (me head key limit:Int) (hh:0≤head∧head≤1000) (C:Nat→Nat) (c:Nat) (w:World):Calls Tryz.prog 128 #[L.val,.int .i64 me,.int .i64 head,.int .i64 key,.int .i64 limit] w (ln C c (fun w' C' b=>ff w' C' c b L (aB.new L me head key limit)) w):=by
 have HH:=fun W=>Ba L hL head (by omega) W
 obtain⟨hd,hhd⟩:∃ hd,L.head head=hd:=⟨_,rfl⟩
 simp only[hhd] at HH
 have HST:Hid (aB.new L me head key limit=⟨⟨hd,0,0,0⟩,0,[],false,me,hd,key,limit,0,0,.new 0⟩):=Lib.hid (by unfold aB.new;rw[hhd])
 obtain⟨th,nd⟩:=L
 clear hhd
 go_enter Tryz.func128,Tryz.ntmps128
 refine Mh C w 31 #[.int .i64 th,.int .i64 nd] ?_;rintro w0 e0 ag fr sb
 go_wp2_with fail
 clear e0
 revert fr sb;refine bK ?_;intro fr sb
 obtain⟨q1,qi⟩:=aY sb
 refine ax sb 12 [([0,1,2,5,6,7,9,10],3),([4],8)] [11] [12,13] (by kernel_rfl) (by kernel_rfl) ?_
 refine ai ?_;simp only[ox];repeat(go_big_quiet_step (fail))
 refine dI rfl (fun K' hK'=> ?_);go_simp
 revert fr sb;with_reducible refine bB (HH _) ?_;rintro e w1 rfl fr sb
 refine hK' _ _ (cj sb) ?_;clear hK' K'
 refine ai ?_;simp only[ox];repeat(go_big_quiet_step (fail))
 refine dI rfl (fun K' hK'=> ?_);go_simp
 revert fr sb;with_reducible refine bB (HH _) ?_;rintro e w2 rfl fr sb
 refine hK' _ _ (cj sb) ?_;clear hK' K'
 refine af ?_;try simp only[ox]
 repeat(go_big_quiet_step (fail))
 refine wpQuiet_nil ?_
 refine ae _ _ _ (by kernel_rfl) ?_;try simp only[ox]
 clear qi q1
 go_wp2_with fail
 refine NoPanic.normal ?_
 go_wp2_with fail
 go_ret
 have hbw:=fr.cr
 refine⟨⟨w2.heap.size,rfl,hbw.size,⟨.pointer none,⟨none,0,0,by rw[HST.out];rfl,by rw[HST.out];exact SB.new _ _ (aT C c hbw.size) _ _ rfl,by rw[HST.out];exact Row.nil_ _ _ _ _ _⟩,fun h=>by rw[HST.out] at h;simp at h⟩⟩,hbw.alloc hbw.size _⟩
def o8:List (Option TypeId):=[some 157,some 3,some 230,some 75,some 34]
theorem eU:∀ x,x∈LM→x∈o8:=by decide
theorem D6:∀ x,x∈AH→x∈o8:=by decide
theorem dT:∀ x,x∈[some 157]→x∈o8:=by decide
structure ra (C:Nat→Nat) (c b:Nat) (M:ML) (r:Bool×Mm×aB) (w:World) (e:Ending) (w':World):Prop where
 ret:e= .returned (.bool r.1)
 own:∃ C',aF w.heap.size C C'∧aj w' C' M r.2.1∧ff w' C' c b M.L r.2.2
 fr:Fr C (Kc c) o8 w w'
theorem kE.at_ {pc:Value} {f:aB} (h:kE w C c b L pc f) (h4:f.at_≠4):ff w C c b L f:=⟨pc,h,fun h5=>absurd h5 h4⟩
theorem ts {f:aB} (h:f.at_≠4):f.aR.at_≠4:=h
theorem take_at {f:aB} {x:Int}:(f.take x).2.at_≠4:=by
 unfold aB.take aB.anew
 split<;>simp
theorem yy {f:aB} {L:Ly} (h:f.at_≠4):(f.move L).2.2.at_≠4:=by
 unfold aB.move
 split
 ·exact h
 ·split
  ·exact h
  ·simp[aB.anew]
variable {M:ML} {m:Mm}
theorem uX {pc:Value} {f:aB} (hm:aj w C M m) (h:kE w C c b M.L pc f) (h3:f.at_=3) (hpw:0≤f.pos.pw∧f.pos.pw<18446744073709551616) (ho:(ao (ld M m f.pos.curr)).mark=false∧f.key≤(ao (ld M m f.pos.curr)).key):Calls Tryz.prog 132 #[.pointer (some ⟨b,0,none⟩),.pointer (some ⟨M.b,0,none⟩)] w (ra C c b M ((f.look (ld M m f.pos.curr)).1,m,(f.look (ld M m f.pos.curr)).2) w):=by
 obtain⟨A,n,cap,hn,sb,hrow⟩:=h.ex
 obtain⟨⟨pred,pw,curr,cw⟩,tries,aO,ab,me,from_,key,limit,at_,moved,cl⟩:=f
 simp only at hn sb hrow h3 hpw
 subst h3
 have HN:=Lib.hid hn
 have cF:=bN hm curr
 obtain⟨x,hx⟩:∃ x,ld M m curr=x:=⟨_,rfl⟩
 rw[hx] at cF ho
 have HX:=Lib.hid hx
 have HG:=fun W=>aW x W cF
 obtain⟨W0,hW0⟩:∃ W0,ao x=W0:=⟨_,rfl⟩
 rw[hW0] at HG ho
 obtain⟨k,nx,mk,AI,v⟩:=W0
 simp only at ho
 obtain⟨ho1,ho2⟩:=ho
 subst ho1
 have HST:Hid ((⟨⟨pred,pw,curr,cw⟩,tries,aO,ab,me,from_,key,limit,3,moved,cl⟩:aB).look x=(true,(⟨⟨pred,pw,curr,x⟩,tries,aO,ab,me,from_,key,limit,3,moved,cl⟩:aB))):=Lib.hid (by unfold aB.look;simp only[hW0];rw[if_pos trivial,if_pos ho2])
 have yz:Hid ((⟨⟨pred,pw,curr,cw⟩,tries,aO,ab,me,from_,key,limit,3,moved,cl⟩:aB).look (ld M m curr)=(true,(⟨⟨pred,pw,curr,x⟩,tries,aO,ab,me,from_,key,limit,3,moved,cl⟩:aB))):=Lib.hid (by rw[hx];exact HST.out)
 have d1:decide (k≥key)=true:=decide_eq_true ho2
 simp only[Wd.val] at HG
 clear hn h hx hW0 HST
 clear ho2
 go_enter Tryz.func132,Tryz.ntmps132
 have fr:=Fr.refl C (Kc c) o8 w
 have ag:=aF.refl w.heap.size C
 go_wp2_with fail
 refine(aS hm curr).mono ?_;clear hm;rintro e w1 ⟨rfl,hm,hf⟩
 rw[HX.out]
 revert hrow;revert sb;revert fr;refine eA hf (aV c) eU ag ?_;clear hf;intro fr sb hrow
 have z1:=sb
 revert hm hrow;revert fr;refine st1 sb 5 (.int .u64 x) (aN c) ag ?_;clear sb;rintro w2 e1 fr sb hm hrow
 simp only[sx] at sb
 go_wp2_with fail
 clear z1 e1
 revert fr hm hrow sb;refine bB (HG _) ?_;rintro e w3 rfl fr hm hrow sb
 have z2:=sb
 revert fr hm hrow sb;refine bx1 198 #[.int .i64 k,.int .i64 nx,.bool false,.int .i64 AI,.int .i64 v] ?_;rintro w4 q8 Du fr nb hm hrow sb
 go_wp2_with fail
 clear q8 z2
 revert fr nb hm hrow sb;refine bK ?_;intro fr nb hm hrow sb
 obtain⟨q1,q2,qi⟩:=bD sb nb
 refine aC sb nb 12 [] [0,1,2,3,4,5,6,7,8,9,10,11] [12] (by kernel_rfl) (by kernel_rfl) ?_
 refine af ?_;try simp only[ox]
 repeat(go_big_quiet_step (fail))
 refine wpQuiet_nil ?_
 refine ae _ _ _ (by kernel_rfl) ?_;try simp only[ox]
 clear qi q1 q2
 go_wp2_with fail
 refine NoPanic.normal ?_
 go_wp2_with fail
 go_ret
 exact⟨by rw[yz.out];rfl,⟨_,ag,hm,by rw[yz.out];exact kE.at_ (pc:=pc) ⟨A,n,cap,HN.out,sb,hrow⟩ (by simp)⟩,fr⟩
theorem uY {pc:Value} {f:aB} (hm:aj w C M m) (h:kE w C c b M.L pc f) (h3:f.at_=3) (hpw:0≤f.pos.pw∧f.pos.pw<18446744073709551616) (ho:(ao (ld M m f.pos.curr)).mark=false∧¬ f.key≤(ao (ld M m f.pos.curr)).key):Calls Tryz.prog 132 #[.pointer (some ⟨b,0,none⟩),.pointer (some ⟨M.b,0,none⟩)] w (ra C c b M ((f.look (ld M m f.pos.curr)).1,m,(f.look (ld M m f.pos.curr)).2) w):=by
 obtain⟨A,n,cap,hn,sb,hrow⟩:=h.ex
 obtain⟨⟨pred,pw,curr,cw⟩,tries,aO,ab,me,from_,key,limit,at_,moved,cl⟩:=f
 simp only at hn sb hrow h3 hpw
 subst h3
 have HN:=Lib.hid hn
 have cF:=bN hm curr
 obtain⟨x,hx⟩:∃ x,ld M m curr=x:=⟨_,rfl⟩
 rw[hx] at cF ho
 have HX:=Lib.hid hx
 have HG:=fun W=>aW x W cF
 obtain⟨W0,hW0⟩:∃ W0,ao x=W0:=⟨_,rfl⟩
 rw[hW0] at HG ho
 obtain⟨k,nx,mk,AI,v⟩:=W0
 simp only at ho
 obtain⟨ho1,ho2⟩:=ho
 subst ho1
 have HST:Hid ((⟨⟨pred,pw,curr,cw⟩,tries,aO,ab,me,from_,key,limit,3,moved,cl⟩:aB).look x=(false,(⟨⟨pred,pw,curr,x⟩,tries,aO,ab,me,from_,key,limit,6,moved,cl⟩:aB))):=Lib.hid (by unfold aB.look;simp only[hW0];rw[if_pos trivial,if_neg ho2])
 have yz:Hid ((⟨⟨pred,pw,curr,cw⟩,tries,aO,ab,me,from_,key,limit,3,moved,cl⟩:aB).look (ld M m curr)=(false,(⟨⟨pred,pw,curr,x⟩,tries,aO,ab,me,from_,key,limit,6,moved,cl⟩:aB))):=Lib.hid (by rw[hx];exact HST.out)
 have d1:decide (k≥key)=false:=decide_eq_false ho2
 simp only[Wd.val] at HG
 clear hn h hx hW0 HST
 clear ho2
 go_enter Tryz.func132,Tryz.ntmps132
 have fr:=Fr.refl C (Kc c) o8 w
 have ag:=aF.refl w.heap.size C
 go_wp2_with fail
 refine(aS hm curr).mono ?_;clear hm;rintro e w1 ⟨rfl,hm,hf⟩
 rw[HX.out]
 revert hrow;revert sb;revert fr;refine eA hf (aV c) eU ag ?_;clear hf;intro fr sb hrow
 have z1:=sb
 revert hm hrow;revert fr;refine st1 sb 5 (.int .u64 x) (aN c) ag ?_;clear sb;rintro w2 e1 fr sb hm hrow
 simp only[sx] at sb
 go_wp2_with fail
 clear z1 e1
 revert fr hm hrow sb;refine bB (HG _) ?_;rintro e w3 rfl fr hm hrow sb
 have z2:=sb
 revert fr hm hrow sb;refine bx1 198 #[.int .i64 k,.int .i64 nx,.bool false,.int .i64 AI,.int .i64 v] ?_;rintro w4 q8 Du fr nb hm hrow sb
 go_wp2_with fail
 clear q8 z2
 revert fr nb hm hrow sb;refine bK ?_;intro fr nb hm hrow sb
 obtain⟨q1,q2,qi⟩:=bD sb nb
 refine aC sb nb 12 [] [0,1,2,3,4,5,6,7,8,9,10,11] [12] (by kernel_rfl) (by kernel_rfl) ?_
 refine af ?_;try simp only[ox]
 repeat(go_big_quiet_step (fail))
 refine wpQuiet_nil ?_
 refine ae _ _ _ (by kernel_rfl) ?_;try simp only[ox]
 clear qi q1 q2
 go_wp2_with fail
 refine NoPanic.normal ?_
 go_wp2_with fail
 have z3:=And.intro sb nb
 revert fr nb hm hrow;refine lC sb 13 (.int .i64 6) (aN c) ag ?_;clear sb;rintro w5 e1 fr sb nb hm hrow
 simp only[sx] at sb
 go_wp2_with fail
 try rw[e1]
 clear z3 e1
 go_ret
 exact⟨by rw[yz.out];rfl,⟨_,ag,hm,by rw[yz.out];exact kE.at_ (pc:=pc) ⟨A,n,cap,HN.out,sb,hrow⟩ (by simp)⟩,fr⟩
theorem uZ {pc:Value} {f:aB} (hm:aj w C M m) (h:kE w C c b M.L pc f) (h3:f.at_=3) (hpw:0≤f.pos.pw∧f.pos.pw<18446744073709551616) (ho:(ao (ld M m f.pos.curr)).mark=true∧(ao (ld M m f.pos.curr)).claim≠0):Calls Tryz.prog 132 #[.pointer (some ⟨b,0,none⟩),.pointer (some ⟨M.b,0,none⟩)] w (ra C c b M ((f.look (ld M m f.pos.curr)).1,m,(f.look (ld M m f.pos.curr)).2) w):=by
 obtain⟨A,n,cap,hn,sb,hrow⟩:=h.ex
 obtain⟨⟨pred,pw,curr,cw⟩,tries,aO,ab,me,from_,key,limit,at_,moved,cl⟩:=f
 simp only at hn sb hrow h3 hpw
 subst h3
 have HN:=Lib.hid hn
 have cF:=bN hm curr
 obtain⟨x,hx⟩:∃ x,ld M m curr=x:=⟨_,rfl⟩
 rw[hx] at cF ho
 have HX:=Lib.hid hx
 have HG:=fun W=>aW x W cF
 obtain⟨W0,hW0⟩:∃ W0,ao x=W0:=⟨_,rfl⟩
 rw[hW0] at HG ho
 obtain⟨k,nx,mk,AI,v⟩:=W0
 simp only at ho
 obtain⟨ho1,ho2⟩:=ho
 subst ho1
 have HST:Hid ((⟨⟨pred,pw,curr,cw⟩,tries,aO,ab,me,from_,key,limit,3,moved,cl⟩:aB).look x=(false,(⟨⟨pred,pw,curr,x⟩,tries,aO,ab,me,from_,key,limit,4,moved,.new curr⟩:aB))):=Lib.hid (by unfold aB.look;simp only[hW0];rw[if_neg (by simp),if_pos ho2])
 have yz:Hid ((⟨⟨pred,pw,curr,cw⟩,tries,aO,ab,me,from_,key,limit,3,moved,cl⟩:aB).look (ld M m curr)=(false,(⟨⟨pred,pw,curr,x⟩,tries,aO,ab,me,from_,key,limit,4,moved,.new curr⟩:aB))):=Lib.hid (by rw[hx];exact HST.out)
 have d1:(AI !=0)=true:=bne_iff_ne.2 ho2
 simp only[Wd.val] at HG
 clear hn h hx hW0 HST
 clear ho2
 go_enter Tryz.func132,Tryz.ntmps132
 have fr:=Fr.refl C (Kc c) o8 w
 have ag:=aF.refl w.heap.size C
 go_wp2_with fail
 refine(aS hm curr).mono ?_;clear hm;rintro e w1 ⟨rfl,hm,hf⟩
 rw[HX.out]
 revert hrow;revert sb;revert fr;refine eA hf (aV c) eU ag ?_;clear hf;intro fr sb hrow
 have z1:=sb
 revert hm hrow;revert fr;refine st1 sb 5 (.int .u64 x) (aN c) ag ?_;clear sb;rintro w2 e1 fr sb hm hrow
 simp only[sx] at sb
 go_wp2_with fail
 clear z1 e1
 revert fr hm hrow sb;refine bB (HG _) ?_;rintro e w3 rfl fr hm hrow sb
 have z2:=sb
 revert fr hm hrow sb;refine bx1 198 #[.int .i64 k,.int .i64 nx,.bool true,.int .i64 AI,.int .i64 v] ?_;rintro w4 q8 Du fr nb hm hrow sb
 go_wp2_with fail
 clear q8 z2
 revert fr nb hm hrow sb;refine bK ?_;intro fr nb hm hrow sb
 obtain⟨q1,q2,qi⟩:=bD sb nb
 refine aC sb nb 12 [] [0,1,2,3,4,5,6,7,8,9,10,11] [12] (by kernel_rfl) (by kernel_rfl) ?_
 refine af ?_;try simp only[ox]
 repeat(go_big_quiet_step (fail))
 refine wpQuiet_nil ?_
 refine ae _ _ _ (by kernel_rfl) ?_;try simp only[ox]
 clear qi q1 q2
 go_wp2_with fail
 refine NoPanic.normal ?_
 go_wp2_with fail
 revert fr nb hm hrow sb;refine bK ?_;intro fr nb hm hrow sb
 obtain⟨q1,q2,qi⟩:=bD sb nb
 refine aC sb nb 11 [] [0,1,2,3,4,5,6,7,8,9,10] [11,12,13,14,15,16,17] (by kernel_rfl) (by kernel_rfl) ?_
 refine af ?_;try simp only[ox]
 repeat(go_big_quiet_step (fail))
 refine wpQuiet_nil ?_
 refine ae _ _ _ (by kernel_rfl) ?_;try simp only[ox]
 clear qi q1 q2
 go_wp2_with fail
 revert ag fr nb hm hrow sb;refine gd (kA M.L curr C c _) ?_;rintro w5 bc C5 ag fr hcl nb hm hrow sb
 have z3:=And.intro sb nb
 revert fr hcl nb hm hrow;refine st1 sb 13 (.int .i64 4) (aN c) ag ?_;clear sb;rintro w6 e1 fr sb hcl nb hm hrow
 simp only[sx] at sb
 have z4:=And.intro sb nb
 revert fr hcl nb hm hrow;refine st1 sb 15 (.pointer (some ⟨bc,0,none⟩)) (aN c) ag ?_;clear sb;rintro w7 e2 fr sb hcl nb hm hrow
 simp only[sx] at sb
 go_wp2_with fail
 refine NoPanic.normal ?_
 go_wp2_with fail
 clear z3 e1 z4 e2
 go_ret
 exact⟨by rw[yz.out];rfl,⟨_,ag,hm,by rw[yz.out];exact⟨_,⟨A,n,cap,HN.out,sb,hrow⟩,fun _=>⟨bc,rfl,hcl⟩⟩⟩,fr⟩
theorem u0 {pc:Value} {f:aB} (hm:aj w C M m) (h:kE w C c b M.L pc f) (h3:f.at_=3) (hpw:0≤f.pos.pw∧f.pos.pw<18446744073709551616) (ho:(ao (ld M m f.pos.curr)).mark=true∧(ao (ld M m f.pos.curr)).claim=0) (hp:(ao f.pos.pw).claim≠0):Calls Tryz.prog 132 #[.pointer (some ⟨b,0,none⟩),.pointer (some ⟨M.b,0,none⟩)] w (ra C c b M ((f.look (ld M m f.pos.curr)).1,m,(f.look (ld M m f.pos.curr)).2) w):=by
 obtain⟨A,n,cap,hn,sb,hrow⟩:=h.ex
 obtain⟨⟨pred,pw,curr,cw⟩,tries,aO,ab,me,from_,key,limit,at_,moved,cl⟩:=f
 simp only at hn sb hrow h3 hpw
 subst h3
 have HN:=Lib.hid hn
 have cF:=bN hm curr
 obtain⟨x,hx⟩:∃ x,ld M m curr=x:=⟨_,rfl⟩
 rw[hx] at cF ho
 have HX:=Lib.hid hx
 have HG:=fun W=>aW x W cF
 obtain⟨W0,hW0⟩:∃ W0,ao x=W0:=⟨_,rfl⟩
 rw[hW0] at HG ho
 obtain⟨k,nx,mk,AI,v⟩:=W0
 simp only at ho
 obtain⟨ho1,ho2⟩:=ho
 subst ho1
 have HST:Hid ((⟨⟨pred,pw,curr,cw⟩,tries,aO,ab,me,from_,key,limit,3,moved,cl⟩:aB).look x=(false,(⟨⟨pred,pw,curr,x⟩,tries,aO,ab,me,from_,key,limit,4,moved,.new pred⟩:aB))):=Lib.hid (by unfold aB.look;simp only[hW0];rw[if_neg (by simp),if_neg (by rw[ho2];simp),if_pos hp])
 have yz:Hid ((⟨⟨pred,pw,curr,cw⟩,tries,aO,ab,me,from_,key,limit,3,moved,cl⟩:aB).look (ld M m curr)=(false,(⟨⟨pred,pw,curr,x⟩,tries,aO,ab,me,from_,key,limit,4,moved,.new pred⟩:aB))):=Lib.hid (by rw[hx];exact HST.out)
 have HG2:=fun W=>aW pw W hpw
 obtain⟨W2,hW2⟩:∃ W2,ao pw=W2:=⟨_,rfl⟩
 simp only[hW2] at HG2 hp
 have hfl:∀ W,(Instr.field 198 W2.val 3).run Tryz.prog W= .ok (.int .i64 W2.claim) W:=fun W=>yq _ _ _ _ _ W
 have dp:(W2.claim !=0)=true:=bne_iff_ne.2 hp
 clear hp hW2
 subst ho2
 simp only[Wd.val] at HG
 clear hn h hx hW0 HST
 go_enter Tryz.func132,Tryz.ntmps132
 have fr:=Fr.refl C (Kc c) o8 w
 have ag:=aF.refl w.heap.size C
 go_wp2_with fail
 refine(aS hm curr).mono ?_;clear hm;rintro e w1 ⟨rfl,hm,hf⟩
 rw[HX.out]
 revert hrow;revert sb;revert fr;refine eA hf (aV c) eU ag ?_;clear hf;intro fr sb hrow
 have z1:=sb
 revert hm hrow;revert fr;refine st1 sb 5 (.int .u64 x) (aN c) ag ?_;clear sb;rintro w2 e1 fr sb hm hrow
 simp only[sx] at sb
 go_wp2_with fail
 clear z1 e1
 revert fr hm hrow sb;refine bB (HG _) ?_;rintro e w3 rfl fr hm hrow sb
 have z2:=sb
 revert fr hm hrow sb;refine bx1 198 #[.int .i64 k,.int .i64 nx,.bool true,.int .i64 0,.int .i64 v] ?_;rintro w4 q8 Du fr nb hm hrow sb
 go_wp2_with fail
 clear q8 z2
 revert fr nb hm hrow sb;refine bK ?_;intro fr nb hm hrow sb
 obtain⟨q1,q2,qi⟩:=bD sb nb
 refine aC sb nb 12 [] [0,1,2,3,4,5,6,7,8,9,10,11] [12] (by kernel_rfl) (by kernel_rfl) ?_
 refine af ?_;try simp only[ox]
 repeat(go_big_quiet_step (fail))
 refine wpQuiet_nil ?_
 refine ae _ _ _ (by kernel_rfl) ?_;try simp only[ox]
 clear qi q1 q2
 go_wp2_with fail
 refine NoPanic.normal ?_
 go_wp2_with fail
 revert fr nb hm hrow sb;refine bB (HG2 _) ?_;rintro e w5 rfl fr nb hm hrow sb
 go_wp2_with fail
 revert fr nb hm hrow sb;refine bK ?_;intro fr nb hm hrow sb
 obtain⟨q1,q2,qi⟩:=bD sb nb
 refine aC sb nb 11 [] [0,1,2,3,4,5,6,7,8,9,10] [11,12,13,14,15,16,17] (by kernel_rfl) (by kernel_rfl) ?_
 refine af ?_;try simp only[ox]
 repeat(go_big_quiet_step (fail))
 refine wpQuiet_nil ?_
 refine ae _ _ _ (by kernel_rfl) ?_;try simp only[ox]
 clear qi q1 q2
 go_wp2_with fail
 revert ag fr nb hm hrow sb;refine gd (kA M.L pred C c _) ?_;rintro w6 bc C6 ag fr hcl nb hm hrow sb
 have z3:=And.intro sb nb
 revert fr hcl nb hm hrow;refine st1 sb 13 (.int .i64 4) (aN c) ag ?_;clear sb;rintro w7 e1 fr sb hcl nb hm hrow
 simp only[sx] at sb
 have z4:=And.intro sb nb
 revert fr hcl nb hm hrow;refine st1 sb 15 (.pointer (some ⟨bc,0,none⟩)) (aN c) ag ?_;clear sb;rintro w8 e2 fr sb hcl nb hm hrow
 simp only[sx] at sb
 go_wp2_with fail
 refine NoPanic.normal ?_
 go_wp2_with fail
 clear z3 e1 z4 e2
 go_ret
 exact⟨by rw[yz.out];rfl,⟨_,ag,hm,by rw[yz.out];exact⟨_,⟨A,n,cap,HN.out,sb,hrow⟩,fun _=>⟨bc,rfl,hcl⟩⟩⟩,fr⟩
theorem u3 {pc:Value} {f:aB} (hm:aj w C M m) (h:kE w C c b M.L pc f) (h3:f.at_=3) (hpw:0≤f.pos.pw∧f.pos.pw<18446744073709551616) (ho:(ao (ld M m f.pos.curr)).mark=true∧(ao (ld M m f.pos.curr)).claim=0) (hp:(ao f.pos.pw).claim=0):Calls Tryz.prog 132 #[.pointer (some ⟨b,0,none⟩),.pointer (some ⟨M.b,0,none⟩)] w (ra C c b M ((f.look (ld M m f.pos.curr)).1,m,(f.look (ld M m f.pos.curr)).2) w):=by
 obtain⟨A,n,cap,hn,sb,hrow⟩:=h.ex
 obtain⟨⟨pred,pw,curr,cw⟩,tries,aO,ab,me,from_,key,limit,at_,moved,cl⟩:=f
 simp only at hn sb hrow h3 hpw
 subst h3
 have HN:=Lib.hid hn
 have cF:=bN hm curr
 obtain⟨x,hx⟩:∃ x,ld M m curr=x:=⟨_,rfl⟩
 rw[hx] at cF ho
 have HX:=Lib.hid hx
 have HG:=fun W=>aW x W cF
 obtain⟨W0,hW0⟩:∃ W0,ao x=W0:=⟨_,rfl⟩
 rw[hW0] at HG ho
 obtain⟨k,nx,mk,AI,v⟩:=W0
 simp only at ho
 obtain⟨ho1,ho2⟩:=ho
 subst ho1
 have HST:Hid ((⟨⟨pred,pw,curr,cw⟩,tries,aO,ab,me,from_,key,limit,3,moved,cl⟩:aB).look x=(false,(⟨⟨pred,pw,curr,x⟩,tries,aO,ab,me,from_,key,limit,5,moved,cl⟩:aB))):=Lib.hid (by unfold aB.look;simp only[hW0];rw[if_neg (by simp),if_neg (by rw[ho2];simp),if_neg (by rw[hp];simp)])
 have yz:Hid ((⟨⟨pred,pw,curr,cw⟩,tries,aO,ab,me,from_,key,limit,3,moved,cl⟩:aB).look (ld M m curr)=(false,(⟨⟨pred,pw,curr,x⟩,tries,aO,ab,me,from_,key,limit,5,moved,cl⟩:aB))):=Lib.hid (by rw[hx];exact HST.out)
 have HG2:=fun W=>aW pw W hpw
 obtain⟨W2,hW2⟩:∃ W2,ao pw=W2:=⟨_,rfl⟩
 simp only[hW2] at HG2 hp
 have hfl:∀ W,(Instr.field 198 W2.val 3).run Tryz.prog W= .ok (.int .i64 W2.claim) W:=fun W=>yq _ _ _ _ _ W
 have dp:(W2.claim !=0)=false:=by rw[hp];rfl
 clear hp hW2
 subst ho2
 simp only[Wd.val] at HG
 clear hn h hx hW0 HST
 go_enter Tryz.func132,Tryz.ntmps132
 have fr:=Fr.refl C (Kc c) o8 w
 have ag:=aF.refl w.heap.size C
 go_wp2_with fail
 refine(aS hm curr).mono ?_;clear hm;rintro e w1 ⟨rfl,hm,hf⟩
 rw[HX.out]
 revert hrow;revert sb;revert fr;refine eA hf (aV c) eU ag ?_;clear hf;intro fr sb hrow
 have z1:=sb
 revert hm hrow;revert fr;refine st1 sb 5 (.int .u64 x) (aN c) ag ?_;clear sb;rintro w2 e1 fr sb hm hrow
 simp only[sx] at sb
 go_wp2_with fail
 clear z1 e1
 revert fr hm hrow sb;refine bB (HG _) ?_;rintro e w3 rfl fr hm hrow sb
 have z2:=sb
 revert fr hm hrow sb;refine bx1 198 #[.int .i64 k,.int .i64 nx,.bool true,.int .i64 0,.int .i64 v] ?_;rintro w4 q8 Du fr nb hm hrow sb
 go_wp2_with fail
 clear q8 z2
 revert fr nb hm hrow sb;refine bK ?_;intro fr nb hm hrow sb
 obtain⟨q1,q2,qi⟩:=bD sb nb
 refine aC sb nb 12 [] [0,1,2,3,4,5,6,7,8,9,10,11] [12] (by kernel_rfl) (by kernel_rfl) ?_
 refine af ?_;try simp only[ox]
 repeat(go_big_quiet_step (fail))
 refine wpQuiet_nil ?_
 refine ae _ _ _ (by kernel_rfl) ?_;try simp only[ox]
 clear qi q1 q2
 go_wp2_with fail
 refine NoPanic.normal ?_
 go_wp2_with fail
 revert fr nb hm hrow sb;refine bB (HG2 _) ?_;rintro e w5 rfl fr nb hm hrow sb
 have z3:=And.intro sb nb
 revert fr nb hm hrow;refine st1 sb 13 (.int .i64 5) (aN c) ag ?_;clear sb;rintro w6 e1 fr sb nb hm hrow
 simp only[sx] at sb
 go_wp2_with fail
 clear z3 e1
 go_ret
 exact⟨by rw[yz.out];rfl,⟨_,ag,hm,by rw[yz.out];exact kE.at_ (pc:=pc) ⟨A,n,cap,HN.out,sb,hrow⟩ (by simp)⟩,fr⟩
theorem zr {pc:Value} {f:aB} (hm:aj w C M m) (h:kE w C c b M.L pc f) (h3:f.at_=3) (hpw:0≤f.pos.pw∧f.pos.pw<18446744073709551616):Calls Tryz.prog 132 #[.pointer (some ⟨b,0,none⟩),.pointer (some ⟨M.b,0,none⟩)] w (ra C c b M ((f.look (ld M m f.pos.curr)).1,m,(f.look (ld M m f.pos.curr)).2) w):=by
 cases hmk:(ao (ld M m f.pos.curr)).mark with
 | false=>
  by_cases hk:f.key≤(ao (ld M m f.pos.curr)).key
  ·exact uX hm h h3 hpw ⟨hmk,hk⟩
  ·exact uY hm h h3 hpw ⟨hmk,hk⟩
 | true=>
  by_cases hc:(ao (ld M m f.pos.curr)).claim=0
  ·by_cases hp:(ao f.pos.pw).claim=0
   ·exact u3 hm h h3 hpw ⟨hmk,hc⟩ hp
   ·exact u0 hm h h3 hpw ⟨hmk,hc⟩ hp
  ·exact uZ hm h h3 hpw ⟨hmk,hc⟩
theorem BT {a o x:Int} (h:bA M m a o=false):cas M m a o x=m:=by unfold cas;rw[if_neg (by rw[h];simp)]
def aB.unlink (M:ML) (m:Mm) (f:aB):Bool×Mm×aB:=
 if bA M m f.pos.pred f.pos.pw then
  let m':=cas M m f.pos.pred f.pos.pw f.cut
  let r:=({ f with aO:=f.aO++[f.pos.curr] }:aB).move M.L
  if r.2.1 then ((r.2.2.take f.cut).1,m',(r.2.2.take f.cut).2) else (r.1,m',r.2.2)
 else (f.over,m,({ f with at_:=0 }:aB).aR)
theorem BU (v0 v1 v2 v3 v4:Value) (W:World):(Instr.field 198 (.agg #[v0,v1,v2,v3,v4]) 1).run Tryz.prog W= .ok v1 W:=by kernel_rfl
theorem mh {pc:Value} {f:aB} (hm:aj w C M m) (h:kE w C c b M.L pc f) (h5:f.at_=5) (hok:f.Ok 100000) (hq:bA M m f.pos.pred f.pos.pw=false):Calls Tryz.prog 133 #[.pointer (some ⟨b,0,none⟩),.pointer (some ⟨M.b,0,none⟩)] w (ra C c b M (f.unlink M m) w):=by
 obtain⟨A,n,cap,hn,sb,hrow⟩:=h.ex
 obtain⟨⟨pred,pw,curr,cw⟩,tries,aO,ab,me,from_,key,limit,at_,moved,cl⟩:=f
 obtain⟨hpw,hcw,hcurr,htr,hmv,hme,hsm,hln⟩:=hok
 simp only at hn sb hrow h5 hpw hcw hcurr htr hmv hme hsm hln hq
 subst h5
 have HN:=Lib.hid hn
 have hnn:n≤100000:=by omega
 obtain⟨W1,hW1⟩:∃ W1,ao pw=W1:=⟨_,rfl⟩
 obtain⟨W2,hW2⟩:∃ W2,ao cw=W2:=⟨_,rfl⟩
 have IJ:=fun W=>aW pw W hpw
 have HG2:=fun W=>aW cw W hcw
 have mf:=(aQ pw).ver
 rw[hW1] at IJ mf
 rw[hW2] at HG2
 have hfl:∀ W,(Instr.field 198 W2.val 1).run Tryz.prog W= .ok (.int .i64 W2.next) W:=fun W=>BU _ _ _ _ _ W
 have s9:=fun W=>mR W1 W2.next W mf
 obtain⟨W3,hW3⟩:∃ W3,W1.link W2.next=W3:=⟨_,rfl⟩
 rw[hW3] at s9
 have hxr:=fR W3
 obtain⟨x,hx⟩:∃ x,dS W3=x:=⟨_,rfl⟩
 have HP:=iA W3 x hx
 have DQ:Hid (aB.cut ⟨⟨pred,pw,curr,cw⟩,tries,aO,ab,me,from_,key,limit,5,moved,cl⟩=x):=Lib.hid (by unfold aB.cut;simp only[hW1,hW2,hW3,hx])
 rw[hx] at hxr
 have qZ:0≤x∧x<18446744073709551616:=by omega
 have HST:Hid (aB.unlink M m ⟨⟨pred,pw,curr,cw⟩,tries,aO,ab,me,from_,key,limit,5,moved,cl⟩=(aB.over ⟨⟨pred,pw,curr,cw⟩,tries,aO,ab,me,from_,key,limit,0,moved,cl⟩,m,((⟨⟨pred,pw,curr,cw⟩,tries,aO,ab,me,from_,key,limit,0,moved,cl⟩:aB)).aR)):=Lib.hid (by unfold aB.unlink;simp only;rw[if_neg (by rw[hq];simp)];rfl)
 have Nx:=Lib.hid (BT (x:=x) hq)
 have HQ:=Lib.hid hq
 clear hn h hW1 hW2 hW3 hx hq hsm hln
 go_enter Tryz.func133,Tryz.ntmps133
 have fr:=Fr.refl C (Kc c) o8 w
 have ag:=aF.refl w.heap.size C
 go_wp2_with fail
 revert hrow;revert hm;revert sb;revert fr;refine bK ?_;intro fr sb hm hrow
 obtain⟨q1,qi⟩:=aY sb
 refine ax sb 19 [([0,1,2,3,4,6,7,8,9,10],5),([],11),([12],13),([],14)] [15,16,17,18] [19] (by kernel_rfl) (by kernel_rfl) ?_
 refine ai ?_;simp only[ox];repeat(go_big_quiet_step (fail))
 refine dI rfl (fun K' hK'=> ?_);go_simp
 revert fr sb hm hrow;with_reducible refine bB (IJ _) ?_;rintro e w1 rfl fr sb hm hrow
 refine hK' _ _ (cj sb) ?_;clear hK' K'
 refine ai ?_;simp only[ox];repeat(go_big_quiet_step (fail))
 refine dI rfl (fun K' hK'=> ?_);go_simp
 revert fr sb hm hrow;with_reducible refine bB (HG2 _) ?_;rintro e w2 rfl fr sb hm hrow
 refine hK' _ _ (cj sb) ?_;clear hK' K'
 refine ai ?_;simp only[ox];repeat(go_big_quiet_step (fail))
 refine dI rfl (fun K' hK'=> ?_);go_simp
 revert fr sb hm hrow;with_reducible refine bB (s9 _) ?_;rintro e w3 rfl fr sb hm hrow
 refine hK' _ _ (cj sb) ?_;clear hK' K'
 refine ai ?_;simp only[ox];repeat(go_big_quiet_step (fail))
 refine dI rfl (fun K' hK'=> ?_);go_simp
 revert fr sb hm hrow;with_reducible refine bB (HP _) ?_;rintro e w4 ⟨ec,rfl⟩ fr sb hm hrow
 refine hK' _ _ (cj sb) ?_;clear hK' K'
 refine af ?_;try simp only[ox]
 repeat(go_big_quiet_step (fail))
 refine wpQuiet_nil ?_
 refine ae _ _ _ (by kernel_rfl) ?_;try simp only[ox]
 clear qi q1
 go_wp2_with fail
 refine NoPanic.normal ?_
 go_wp2_with fail
 revert fr sb hm hrow;refine bK ?_;intro fr sb hm hrow
 obtain⟨q1,qi⟩:=aY sb
 refine ax sb 12 [] [0,1,2,3,4,5,6,7,8,9,10,11] [12,13] (by kernel_rfl) (by kernel_rfl) ?_
 refine af ?_;try simp only[ox]
 repeat(go_big_quiet_step (fail))
 refine wpQuiet_nil ?_
 refine ae _ _ _ (by kernel_rfl) ?_;try simp only[ox]
 clear qi q1
 go_wp2_with fail
 refine(fM hm pred pw x qZ).mono ?_;clear hm;rintro e w5 ⟨rfl,hm,hf⟩
 rw[HQ.out]
 revert fr sb hrow;refine eA hf (aV c) eU ag ?_;clear hf;intro fr sb hrow
 rw[Nx.out] at hm
 have z1:=sb
 revert hrow;revert hm;revert fr;refine st1 sb 13 (.int .i64 0) (aN c) ag ?_;clear sb;rintro w6 e1 fr sb hm hrow
 simp only[sx] at sb
 go_wp2_with fail
 refine NoPanic.normal ?_
 go_wp2_with fail
 clear z1 e1
 refine(iB (f:=(⟨⟨pred,pw,curr,cw⟩,tries,aO,ab,me,from_,key,limit,0,moved,cl⟩:aB)) ⟨A,n,cap,HN.out,sb,hrow⟩ (by simp only;omega)).mono ?_
 rintro e w9 ⟨rfl,own,hf⟩
 replace fr:=fr.trans (hf.mono (aN c) dT) ag
 replace hm:=hm.fr hf (.inr ⟨by decide,by decide⟩)
 go_wp2_with fail
 go_ret
 exact⟨by rw[HST.out];rfl,⟨_,ag,by rw[HST.out];exact hm,by rw[HST.out];exact own.at_ (ts (by simp))⟩,fr⟩
theorem m7 {pc:Value} {f:aB} (hm:aj w C M m) (h:kE w C c b M.L pc f) (h5:f.at_=5) (hok:f.Ok 100000) (hq:bA M m f.pos.pred f.pos.pw=true):Calls Tryz.prog 133 #[.pointer (some ⟨b,0,none⟩),.pointer (some ⟨M.b,0,none⟩)] w (ra C c b M (f.unlink M m) w):=by
 obtain⟨A,n,cap,hn,sb,hrow⟩:=h.ex
 obtain⟨⟨pred,pw,curr,cw⟩,tries,aO,ab,me,from_,key,limit,at_,moved,cl⟩:=f
 obtain⟨hpw,hcw,hcurr,htr,hmv,hme,hsm,hln⟩:=hok
 simp only at hn sb hrow h5 hpw hcw hcurr htr hmv hme hsm hln hq
 subst h5
 have HN:=Lib.hid hn
 have hnn:n≤100000:=by omega
 obtain⟨W1,hW1⟩:∃ W1,ao pw=W1:=⟨_,rfl⟩
 obtain⟨W2,hW2⟩:∃ W2,ao cw=W2:=⟨_,rfl⟩
 have IJ:=fun W=>aW pw W hpw
 have HG2:=fun W=>aW cw W hcw
 have mf:=(aQ pw).ver
 rw[hW1] at IJ mf
 rw[hW2] at HG2
 have hfl:∀ W,(Instr.field 198 W2.val 1).run Tryz.prog W= .ok (.int .i64 W2.next) W:=fun W=>BU _ _ _ _ _ W
 have s9:=fun W=>mR W1 W2.next W mf
 obtain⟨W3,hW3⟩:∃ W3,W1.link W2.next=W3:=⟨_,rfl⟩
 rw[hW3] at s9
 have hxr:=fR W3
 obtain⟨x,hx⟩:∃ x,dS W3=x:=⟨_,rfl⟩
 have HP:=iA W3 x hx
 have DQ:Hid (aB.cut ⟨⟨pred,pw,curr,cw⟩,tries,aO,ab,me,from_,key,limit,5,moved,cl⟩=x):=Lib.hid (by unfold aB.cut;simp only[hW1,hW2,hW3,hx])
 rw[hx] at hxr
 have qZ:0≤x∧x<18446744073709551616:=by omega
 obtain⟨i0,hi,hz0,hz1,hz2⟩:=info_parts iu
 obtain⟨r,hr⟩:∃ r,aB.move M.L ⟨⟨pred,pw,curr,cw⟩,tries,aO++[curr],ab,me,from_,key,limit,5,moved,cl⟩=r:=⟨_,rfl⟩
 have HST:Hid (aB.unlink M m ⟨⟨pred,pw,curr,cw⟩,tries,aO,ab,me,from_,key,limit,5,moved,cl⟩=if r.2.1 then ((r.2.2.take x).1,cas M m pred pw x,(r.2.2.take x).2) else (r.1,cas M m pred pw x,r.2.2)):=Lib.hid (by unfold aB.unlink;simp only;rw[if_pos hq,DQ.out,hr])
 have h4:r.2.2.at_≠4:=by rw[←hr];exact yy (by simp)
 have H4:=Lib.hid h4
 have IK:=fun W C' (k:kE W C' c b M.L pc ⟨⟨pred,pw,curr,cw⟩,tries,aO++[curr],ab,me,from_,key,limit,5,moved,cl⟩)=>r6 k (by simp only;omega) (by simp only;omega)
 simp only[hr] at IK
 obtain⟨r1,r2,g⟩:=r
 have u4:Hid ((aO++[curr]).length=n+1):=Lib.hid (by simp[hn])
 have F7:Hid (cJ (aO++[curr])=cJ aO++[.int .i64 curr]):=Lib.hid (by simp[cJ])
 clear hr h4
 have HQ:=Lib.hid hq
 clear hn h hW1 hW2 hW3 hx hq hsm hln
 go_enter Tryz.func133,Tryz.ntmps133
 have fr:=Fr.refl C (Kc c) o8 w
 have ag:=aF.refl w.heap.size C
 go_wp2_with fail
 revert hrow;revert hm;revert sb;revert fr;refine bK ?_;intro fr sb hm hrow
 obtain⟨q1,qi⟩:=aY sb
 refine ax sb 19 [([0,1,2,3,4,6,7,8,9,10],5),([],11),([12],13),([],14)] [15,16,17,18] [19] (by kernel_rfl) (by kernel_rfl) ?_
 refine ai ?_;simp only[ox];repeat(go_big_quiet_step (fail))
 refine dI rfl (fun K' hK'=> ?_);go_simp
 revert fr sb hm hrow;with_reducible refine bB (IJ _) ?_;rintro e w1 rfl fr sb hm hrow
 refine hK' _ _ (cj sb) ?_;clear hK' K'
 refine ai ?_;simp only[ox];repeat(go_big_quiet_step (fail))
 refine dI rfl (fun K' hK'=> ?_);go_simp
 revert fr sb hm hrow;with_reducible refine bB (HG2 _) ?_;rintro e w2 rfl fr sb hm hrow
 refine hK' _ _ (cj sb) ?_;clear hK' K'
 refine ai ?_;simp only[ox];repeat(go_big_quiet_step (fail))
 refine dI rfl (fun K' hK'=> ?_);go_simp
 revert fr sb hm hrow;with_reducible refine bB (s9 _) ?_;rintro e w3 rfl fr sb hm hrow
 refine hK' _ _ (cj sb) ?_;clear hK' K'
 refine ai ?_;simp only[ox];repeat(go_big_quiet_step (fail))
 refine dI rfl (fun K' hK'=> ?_);go_simp
 revert fr sb hm hrow;with_reducible refine bB (HP _) ?_;rintro e w4 ⟨ec,rfl⟩ fr sb hm hrow
 refine hK' _ _ (cj sb) ?_;clear hK' K'
 refine af ?_;try simp only[ox]
 repeat(go_big_quiet_step (fail))
 refine wpQuiet_nil ?_
 refine ae _ _ _ (by kernel_rfl) ?_;try simp only[ox]
 clear qi q1
 go_wp2_with fail
 refine NoPanic.normal ?_
 go_wp2_with fail
 revert fr sb hm hrow;refine bK ?_;intro fr sb hm hrow
 obtain⟨q1,qi⟩:=aY sb
 refine ax sb 12 [] [0,1,2,3,4,5,6,7,8,9,10,11] [12,13] (by kernel_rfl) (by kernel_rfl) ?_
 refine af ?_;try simp only[ox]
 repeat(go_big_quiet_step (fail))
 refine wpQuiet_nil ?_
 refine ae _ _ _ (by kernel_rfl) ?_;try simp only[ox]
 clear qi q1
 go_wp2_with fail
 refine(fM hm pred pw x qZ).mono ?_;clear hm;rintro e w5 ⟨rfl,hm,hf⟩
 rw[HQ.out]
 revert fr sb hrow;refine eA hf (aV c) eU ag ?_;clear hf;intro fr sb hrow
 go_wp2_with fail
 refine NoPanic.normal ?_
 go_wp2_with fail
 revert hm sb hrow;revert fr;refine bK ?_;intro fr hm sb hrow
 obtain⟨q1,qi⟩:=aY sb
 refine ax sb 11 [] [0,1,2,3,4,5,6,7,8,9] [10,11,12,13,14] (by kernel_rfl) (by kernel_rfl) ?_
 refine af ?_;try simp only[ox]
 repeat(go_big_quiet_step (fail))
 refine wpQuiet_nil ?_
 refine aA rfl (fun K' hK'=> ?_);go_simp
 revert fr hm sb hrow;refine zo 3 #[.int .i64 curr] ?_;rintro w6 e1 Kb fr ns hm sb hrow;rw[e1]
 refine hK' _ _ (cj sb) ?_;clear hK' K' e1
 refine ae _ _ _ (by kernel_rfl) ?_;try simp only[ox]
 clear qi q1
 go_wp2_with (at_builtin;refine wpList_append_lies _ rfl _ _ _ rfl 0 3 i0 _ 1 8 Tryz.underlying89 hi hz0 hz1 hz2 rfl (by omega) (.slice A n cap) n (cJ aO) rfl hrow.own ⟨w5.heap.size,0,none⟩ 1 1 [.int .i64 curr] rfl rfl (World.news_of_block ns.blk) (gS [curr]) (by omega) (by unfold maxLen;omega) (by omega) (Nat.zero_le _) (w6.heap.size) rfl ?_;intro g cap2 wA hownA fl mi D7;have hfA:Fr C (K0 c) [some 3] w6 wA:=(Fr.refl C (K0 c) [some 3] w6).app hrow fl (fk c) (by decide);have sA:=sb.fr hfA (.inr (by decide)))
 refine NoPanic.normal ?_
 go_wp2_with fail
 have tt:=hrow.app hownA (mi.elim (fun e=> .inl e.symm) (fun e=> .inr (by rw[e];rfl)))
 obtain⟨CA,tu⟩:∃ C',C'=br C w6.heap.size c:=⟨_,rfl⟩
 rw[←tu] at tt
 have aG:aF w6.heap.size C CA:=by rw[tu];exact aF.br _ _ _
 clear hrow ns sA tu;revert hm;revert sb;revert fr;revert ag;refine kV hfA aG (aN c) (by decide) ?_;intro ag fr sb hm
 have hrow:=tt
 clear tt aG hfA fl mi hownA
 have mj:=own_ne hrow.own sb.blk (by decide)
 revert fr hm hrow;refine st1 sb 7 (.slice (some ⟨g,0,none⟩) (n+1) cap2) (aN c) ag ?_;clear sb;rintro w7 e1 fr sb hm hrow
 simp only[sx] at sb
 rw[e1]
 clear e1
 clear mj
 rw[←F7.out] at hrow
 refine(IK _ _ ⟨_,n+1,_,u4.out,sb,hrow⟩).mono ?_
 rintro e w9 ⟨rfl,own,hf⟩
 replace fr:=fr.trans (hf.mono (aN c) dT) ag
 replace hm:=hm.fr hf (.inr ⟨by decide,by decide⟩)
 try dsimp only at own
 cases r2
 ·skip
  go_wp2_with fail
  go_ret
  exact⟨by rw[HST.out];rfl,⟨_,ag,by rw[HST.out];exact hm,by rw[HST.out];exact own.at_ H4.out⟩,fr⟩
 ·skip
  go_wp2_with fail
  refine(kF own x qZ).mono ?_
  rintro e w10 ⟨rfl,jX,hf2⟩
  replace fr:=fr.trans (hf2.mono (aN c) dT) ag
  replace hm:=hm.fr hf2 (.inr ⟨by decide,by decide⟩)
  go_wp2_with fail
  go_ret
  exact⟨by rw[HST.out];rfl,⟨_,ag,by rw[HST.out];exact hm,by rw[HST.out];exact jX.at_ take_at⟩,fr⟩
theorem u5 {pc:Value} {f:aB} (hm:aj w C M m) (h:kE w C c b M.L pc f) (h5:f.at_=5) (hok:f.Ok 100000):Calls Tryz.prog 133 #[.pointer (some ⟨b,0,none⟩),.pointer (some ⟨M.b,0,none⟩)] w (ra C c b M (f.unlink M m) w):=by
 cases hq:bA M m f.pos.pred f.pos.pw with
 | false=>exact mh hm h h5 hok hq
 | true=>exact m7 hm h h5 hok hq
end Go.Proofs.YtbcnnhlpilmmbaaGreat
