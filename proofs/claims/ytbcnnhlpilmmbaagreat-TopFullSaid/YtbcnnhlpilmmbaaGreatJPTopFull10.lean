/- Texts that are wanted for PTopFull.
   Conditions: none. -/
import Derived.Test.YtbcnnhlpilmmbaaGreatJPTopFull09
set_option maxRecDepth 100000
set_option maxHeartbeats 6400000
namespace Go.Proofs.YtbcnnhlpilmmbaaGreat
open Go Go.RowKit
theorem xO (v0 v1 v2 v3 v4:Value) (W:World):(Instr.field 198 (.agg #[v0,v1,v2,v3,v4]) 2).run Tryz.prog W= .ok v2 W:=by kernel_rfl
variable {w:World} {C:Nat→Nat} {c b:Nat} {M:ML} {m:Mm}
theorem nD {f:aC} (hm:aj w C M m) (h:eK w C c b M.L f) (hok:f.Ok 100000) (h0:f.at_=0) (hq:(aE (ld M m f.pos.pred)).mark=false):Calls Tryz.prog 82 #[.pointer (some ⟨b,0,none⟩),.pointer (some ⟨M.b,0,none⟩)] w (qB C c b M (ax M m f) w):=by
 obtain⟨pc,hfc,hcl⟩:=h.ex
 obtain⟨A,n,cap,hn,sb,hrow⟩:=hfc.ex
 obtain⟨⟨pred,pw,curr,cw⟩,tries,aQ,ab,me,from_,key,limit,at_,moved,cl⟩:=f
 obtain⟨hpw,hcw,hcurr,htr,hmv,hme,hsm,hln⟩:=hok
 simp only at hn sb hrow h0 hpw hcw hcurr htr hmv hme hsm hln hcl hq
 subst h0
 have HN:=Lib.hid hn
 have cr:=bJ hm pred
 obtain⟨x,hx⟩:∃ x,ld M m pred=x:=⟨_,rfl⟩
 rw[hx] at cr hq
 have HX:=Lib.hid hx
 obtain⟨W0,hW0⟩:∃ W0,aE x=W0:=⟨_,rfl⟩
 have HG:=fun W=>aT x W cr
 have hq2:=hq
 rw[hW0] at HG hq2
 have hfl:∀ W,(Instr.field 198 W0.val 2).run Tryz.prog W= .ok (.bool false) W:=fun W=>by rw[←hq2];exact xO _ _ _ _ _ W
 have HST:Hid (ax M m (⟨⟨pred,pw,curr,cw⟩,tries,aQ,ab,me,from_,key,limit,0,moved,cl⟩:aC)=(((⟨⟨pred,pw,curr,cw⟩,tries,aQ,ab,me,from_,key,limit,0,moved,cl⟩:aC).take x).1,m,((⟨⟨pred,pw,curr,cw⟩,tries,aQ,ab,me,from_,key,limit,0,moved,cl⟩:aC).take x).2)):=Lib.hid (by unfold ax;simp only;rw[if_pos (by decide)];simp only[hx];rw[if_neg (by rw[hq];decide)])
 clear hn h hcl hx hsm hln hq hW0 hq2
 go_enter Tryz.func82,Tryz.ntmps82
 have fr:=Fr.refl C (Kc c) oE w
 have ag:=aB.refl w.heap.size C
 go_wp2_with fail
 refine(aP hm pred).mono ?_;clear hm;rintro e w1 ⟨rfl,hm,hf⟩
 rw[HX.out]
 revert hrow;revert sb;revert fr;refine dS hf (aS c) eD ag ?_;clear hf;intro fr sb hrow
 go_wp2_with fail
 revert hm sb hrow;revert fr;refine bk (HG _) ?_;rintro e w2 rfl fr hm sb hrow
 go_wp2_with fail
 refine(ka (f:=(⟨⟨pred,pw,curr,cw⟩,tries,aQ,ab,me,from_,key,limit,0,moved,cl⟩:aC)) ⟨A,n,cap,HN.out,sb,hrow⟩ x cr).mono ?_
 rintro e w9 ⟨rfl,own,hf⟩
 replace fr:=fr.trans (hf.mono (aL c) dD) ag
 replace hm:=hm.fr hf (.inr ⟨by decide,by decide⟩)
 clear hf
 go_wp2_with fail
 go_ret
 exact⟨by rw[HST.out];rfl,⟨_,ag,by rw[HST.out];exact hm,by rw[HST.out];exact own.at_ take_at⟩,fr⟩
theorem oF {f:aC} (hm:aj w C M m) (h:eK w C c b M.L f) (hok:f.Ok 100000) (h0:f.at_=0) (hq:(aE (ld M m f.pos.pred)).mark=true) (ho:f.over=true):Calls Tryz.prog 82 #[.pointer (some ⟨b,0,none⟩),.pointer (some ⟨M.b,0,none⟩)] w (qB C c b M (ax M m f) w):=by
 obtain⟨pc,hfc,hcl⟩:=h.ex
 obtain⟨A,n,cap,hn,sb,hrow⟩:=hfc.ex
 obtain⟨⟨pred,pw,curr,cw⟩,tries,aQ,ab,me,from_,key,limit,at_,moved,cl⟩:=f
 obtain⟨hpw,hcw,hcurr,htr,hmv,hme,hsm,hln⟩:=hok
 simp only at hn sb hrow h0 hpw hcw hcurr htr hmv hme hsm hln hcl hq
 subst h0
 have HN:=Lib.hid hn
 have cr:=bJ hm pred
 obtain⟨x,hx⟩:∃ x,ld M m pred=x:=⟨_,rfl⟩
 rw[hx] at cr hq
 have HX:=Lib.hid hx
 obtain⟨W0,hW0⟩:∃ W0,aE x=W0:=⟨_,rfl⟩
 have HG:=fun W=>aT x W cr
 have hq2:=hq
 rw[hW0] at HG hq2
 have hfl:∀ W,(Instr.field 198 W0.val 2).run Tryz.prog W= .ok (.bool true) W:=fun W=>by rw[←hq2];exact xO _ _ _ _ _ W
 have HST:Hid (ax M m (⟨⟨pred,pw,curr,cw⟩,tries,aQ,ab,me,from_,key,limit,0,moved,cl⟩:aC)=(((true,(⟨⟨pred,pw,curr,cw⟩,tries,aQ,ab,me,from_,key,limit,0,moved,cl⟩:aC).aU)).1,m,((true,(⟨⟨pred,pw,curr,cw⟩,tries,aQ,ab,me,from_,key,limit,0,moved,cl⟩:aC).aU)).2)):=Lib.hid (by unfold ax;simp only;rw[if_pos (by decide)];simp only[hx];rw[if_pos hq];unfold aC.cN;rw[if_pos ho])
 clear hn h hcl hx hsm hln hq hW0 hq2
 go_enter Tryz.func82,Tryz.ntmps82
 have fr:=Fr.refl C (Kc c) oE w
 have ag:=aB.refl w.heap.size C
 go_wp2_with fail
 refine(aP hm pred).mono ?_;clear hm;rintro e w1 ⟨rfl,hm,hf⟩
 rw[HX.out]
 revert hrow;revert sb;revert fr;refine dS hf (aS c) eD ag ?_;clear hf;intro fr sb hrow
 go_wp2_with fail
 revert hm sb hrow;revert fr;refine bk (HG _) ?_;rintro e w2 rfl fr hm sb hrow
 go_wp2_with fail
 refine(hY (f:=(⟨⟨pred,pw,curr,cw⟩,tries,aQ,ab,me,from_,key,limit,0,moved,cl⟩:aC)) ⟨A,n,cap,HN.out,sb,hrow⟩ (by simp only;omega)).mono ?_
 rintro e w9 ⟨rfl,own,hf⟩
 replace fr:=fr.trans (hf.mono (aL c) dD) ag
 replace hm:=hm.fr hf (.inr ⟨by decide,by decide⟩)
 clear hf
 rw[ho]
 go_wp2_with fail
 go_ret
 exact⟨by rw[HST.out];rfl,⟨_,ag,by rw[HST.out];exact hm,by rw[HST.out];exact own.at_ (sG (by simp))⟩,fr⟩
theorem qC {f:aC} (hm:aj w C M m) (h:eK w C c b M.L f) (hok:f.Ok 100000) (h0:f.at_=0) (hq:(aE (ld M m f.pos.pred)).mark=true) (ho:f.over=false):Calls Tryz.prog 82 #[.pointer (some ⟨b,0,none⟩),.pointer (some ⟨M.b,0,none⟩)] w (qB C c b M (ax M m f) w):=by
 obtain⟨pc,hfc,hcl⟩:=h.ex
 obtain⟨A,n,cap,hn,sb,hrow⟩:=hfc.ex
 obtain⟨⟨pred,pw,curr,cw⟩,tries,aQ,ab,me,from_,key,limit,at_,moved,cl⟩:=f
 obtain⟨hpw,hcw,hcurr,htr,hmv,hme,hsm,hln⟩:=hok
 simp only at hn sb hrow h0 hpw hcw hcurr htr hmv hme hsm hln hcl hq
 subst h0
 have HN:=Lib.hid hn
 have cr:=bJ hm pred
 obtain⟨x,hx⟩:∃ x,ld M m pred=x:=⟨_,rfl⟩
 rw[hx] at cr hq
 have HX:=Lib.hid hx
 obtain⟨W0,hW0⟩:∃ W0,aE x=W0:=⟨_,rfl⟩
 have HG:=fun W=>aT x W cr
 have hq2:=hq
 rw[hW0] at HG hq2
 have hfl:∀ W,(Instr.field 198 W0.val 2).run Tryz.prog W= .ok (.bool true) W:=fun W=>by rw[←hq2];exact xO _ _ _ _ _ W
 have HST:Hid (ax M m (⟨⟨pred,pw,curr,cw⟩,tries,aQ,ab,me,from_,key,limit,0,moved,cl⟩:aC)=(((⟨⟨pred,pw,curr,cw⟩,tries,aQ,ab,me,from_,key,limit,0,moved,cl⟩:aC).aU.take x).1,m,((⟨⟨pred,pw,curr,cw⟩,tries,aQ,ab,me,from_,key,limit,0,moved,cl⟩:aC).aU.take x).2)):=Lib.hid (by unfold ax;simp only;rw[if_pos (by decide)];simp only[hx];rw[if_pos hq];unfold aC.cN;rw[if_neg (by rw[ho];decide)])
 clear hn h hcl hx hsm hln hq hW0 hq2
 go_enter Tryz.func82,Tryz.ntmps82
 have fr:=Fr.refl C (Kc c) oE w
 have ag:=aB.refl w.heap.size C
 go_wp2_with fail
 refine(aP hm pred).mono ?_;clear hm;rintro e w1 ⟨rfl,hm,hf⟩
 rw[HX.out]
 revert hrow;revert sb;revert fr;refine dS hf (aS c) eD ag ?_;clear hf;intro fr sb hrow
 go_wp2_with fail
 revert hm sb hrow;revert fr;refine bk (HG _) ?_;rintro e w2 rfl fr hm sb hrow
 go_wp2_with fail
 refine(hY (f:=(⟨⟨pred,pw,curr,cw⟩,tries,aQ,ab,me,from_,key,limit,0,moved,cl⟩:aC)) ⟨A,n,cap,HN.out,sb,hrow⟩ (by simp only;omega)).mono ?_
 rintro e w9 ⟨rfl,own,hf⟩
 replace fr:=fr.trans (hf.mono (aL c) dD) ag
 replace hm:=hm.fr hf (.inr ⟨by decide,by decide⟩)
 clear hf
 rw[ho]
 go_wp2_with fail
 refine(ka own x cr).mono ?_
 rintro e w10 ⟨rfl,jM,hf⟩
 replace fr:=fr.trans (hf.mono (aL c) dD) ag
 replace hm:=hm.fr hf (.inr ⟨by decide,by decide⟩)
 clear hf
 go_wp2_with fail
 go_ret
 exact⟨by rw[HST.out];rfl,⟨_,ag,by rw[HST.out];exact hm,by rw[HST.out];exact jM.at_ take_at⟩,fr⟩
theorem nE {f:aC} (hm:aj w C M m) (h:eK w C c b M.L f) (hok:f.Ok 100000) (h0:f.at_=2) (hq:ld M m f.pos.pred=f.pos.pw):Calls Tryz.prog 82 #[.pointer (some ⟨b,0,none⟩),.pointer (some ⟨M.b,0,none⟩)] w (qB C c b M (ax M m f) w):=by
 obtain⟨pc,hfc,hcl⟩:=h.ex
 obtain⟨A,n,cap,hn,sb,hrow⟩:=hfc.ex
 obtain⟨⟨pred,pw,curr,cw⟩,tries,aQ,ab,me,from_,key,limit,at_,moved,cl⟩:=f
 obtain⟨hpw,hcw,hcurr,htr,hmv,hme,hsm,hln⟩:=hok
 simp only at hn sb hrow h0 hpw hcw hcurr htr hmv hme hsm hln hcl hq
 subst h0
 have HN:=Lib.hid hn
 have cr:=bJ hm pred
 obtain⟨x,hx⟩:∃ x,ld M m pred=x:=⟨_,rfl⟩
 rw[hx] at cr hq
 have HX:=Lib.hid hx
 subst hq
 have HST:Hid (ax M m (⟨⟨pred,x,curr,cw⟩,tries,aQ,ab,me,from_,key,limit,2,moved,cl⟩:aC)=(false,m,(⟨⟨pred,x,curr,cw⟩,tries,aQ,ab,me,from_,key,limit,3,moved,cl⟩:aC))):=Lib.hid (by unfold ax;simp only;rw[if_neg (by decide)];rw[if_neg (by decide)];rw[if_pos (by decide)];rw[hx];simp)
 have dq:(x !=x)=false:=by simp
 clear hn h hcl hx hsm hln
 go_enter Tryz.func82,Tryz.ntmps82
 have fr:=Fr.refl C (Kc c) oE w
 have ag:=aB.refl w.heap.size C
 go_wp2_with fail
 refine(aP hm pred).mono ?_;clear hm;rintro e w1 ⟨rfl,hm,hf⟩
 rw[HX.out]
 revert hrow;revert sb;revert fr;refine dS hf (aS c) eD ag ?_;clear hf;intro fr sb hrow
 have z1:=sb
 revert hm hrow;revert fr;refine st1 sb 13 (.int .i64 3) (aL c) ag ?_;clear sb;rintro w2 e1 fr sb hm hrow
 simp only[sx] at sb
 go_wp2_with fail
 clear z1 e1
 go_ret
 exact⟨by rw[HST.out];rfl,⟨_,ag,by rw[HST.out];exact hm,by rw[HST.out];exact j9.at_ (pc:=pc) ⟨A,n,cap,HN.out,sb,hrow⟩ (by simp)⟩,fr⟩
theorem oG {f:aC} (hm:aj w C M m) (h:eK w C c b M.L f) (hok:f.Ok 100000) (h0:f.at_=2) (hq:¬ ld M m f.pos.pred=f.pos.pw) (ho:f.over=true):Calls Tryz.prog 82 #[.pointer (some ⟨b,0,none⟩),.pointer (some ⟨M.b,0,none⟩)] w (qB C c b M (ax M m f) w):=by
 obtain⟨pc,hfc,hcl⟩:=h.ex
 obtain⟨A,n,cap,hn,sb,hrow⟩:=hfc.ex
 obtain⟨⟨pred,pw,curr,cw⟩,tries,aQ,ab,me,from_,key,limit,at_,moved,cl⟩:=f
 obtain⟨hpw,hcw,hcurr,htr,hmv,hme,hsm,hln⟩:=hok
 simp only at hn sb hrow h0 hpw hcw hcurr htr hmv hme hsm hln hcl hq
 subst h0
 have HN:=Lib.hid hn
 have cr:=bJ hm pred
 obtain⟨x,hx⟩:∃ x,ld M m pred=x:=⟨_,rfl⟩
 rw[hx] at cr hq
 have HX:=Lib.hid hx
 have HST:Hid (ax M m (⟨⟨pred,pw,curr,cw⟩,tries,aQ,ab,me,from_,key,limit,2,moved,cl⟩:aC)=(((true,(⟨⟨pred,pw,curr,cw⟩,tries,aQ,ab,me,from_,key,limit,2,moved,cl⟩:aC).aU)).1,m,((true,(⟨⟨pred,pw,curr,cw⟩,tries,aQ,ab,me,from_,key,limit,2,moved,cl⟩:aC).aU)).2)):=Lib.hid (by unfold ax;simp only;rw[if_neg (by decide)];rw[if_neg (by decide)];rw[if_pos (by decide)];rw[hx,if_pos hq];unfold aC.cN;rw[if_pos ho])
 have dq:(x !=pw)=true:=bne_iff_ne.2 hq
 clear hn h hcl hx hsm hln hq
 go_enter Tryz.func82,Tryz.ntmps82
 have fr:=Fr.refl C (Kc c) oE w
 have ag:=aB.refl w.heap.size C
 go_wp2_with fail
 refine(aP hm pred).mono ?_;clear hm;rintro e w1 ⟨rfl,hm,hf⟩
 rw[HX.out]
 revert hrow;revert sb;revert fr;refine dS hf (aS c) eD ag ?_;clear hf;intro fr sb hrow
 go_wp2_with fail
 refine(hY (f:=(⟨⟨pred,pw,curr,cw⟩,tries,aQ,ab,me,from_,key,limit,2,moved,cl⟩:aC)) ⟨A,n,cap,HN.out,sb,hrow⟩ (by simp only;omega)).mono ?_
 rintro e w9 ⟨rfl,own,hf⟩
 replace fr:=fr.trans (hf.mono (aL c) dD) ag
 replace hm:=hm.fr hf (.inr ⟨by decide,by decide⟩)
 clear hf
 rw[ho]
 go_wp2_with fail
 go_ret
 exact⟨by rw[HST.out];rfl,⟨_,ag,by rw[HST.out];exact hm,by rw[HST.out];exact own.at_ (sG (by simp))⟩,fr⟩
theorem qD {f:aC} (hm:aj w C M m) (h:eK w C c b M.L f) (hok:f.Ok 100000) (h0:f.at_=2) (hq:¬ ld M m f.pos.pred=f.pos.pw) (ho:f.over=false):Calls Tryz.prog 82 #[.pointer (some ⟨b,0,none⟩),.pointer (some ⟨M.b,0,none⟩)] w (qB C c b M (ax M m f) w):=by
 obtain⟨pc,hfc,hcl⟩:=h.ex
 obtain⟨A,n,cap,hn,sb,hrow⟩:=hfc.ex
 obtain⟨⟨pred,pw,curr,cw⟩,tries,aQ,ab,me,from_,key,limit,at_,moved,cl⟩:=f
 obtain⟨hpw,hcw,hcurr,htr,hmv,hme,hsm,hln⟩:=hok
 simp only at hn sb hrow h0 hpw hcw hcurr htr hmv hme hsm hln hcl hq
 subst h0
 have HN:=Lib.hid hn
 have cr:=bJ hm pred
 obtain⟨x,hx⟩:∃ x,ld M m pred=x:=⟨_,rfl⟩
 rw[hx] at cr hq
 have HX:=Lib.hid hx
 have HST:Hid (ax M m (⟨⟨pred,pw,curr,cw⟩,tries,aQ,ab,me,from_,key,limit,2,moved,cl⟩:aC)=(((⟨⟨pred,pw,curr,cw⟩,tries,aQ,ab,me,from_,key,limit,2,moved,cl⟩:aC).aU.take x).1,m,((⟨⟨pred,pw,curr,cw⟩,tries,aQ,ab,me,from_,key,limit,2,moved,cl⟩:aC).aU.take x).2)):=Lib.hid (by unfold ax;simp only;rw[if_neg (by decide)];rw[if_neg (by decide)];rw[if_pos (by decide)];rw[hx,if_pos hq];unfold aC.cN;rw[if_neg (by rw[ho];decide)])
 have dq:(x !=pw)=true:=bne_iff_ne.2 hq
 clear hn h hcl hx hsm hln hq
 go_enter Tryz.func82,Tryz.ntmps82
 have fr:=Fr.refl C (Kc c) oE w
 have ag:=aB.refl w.heap.size C
 go_wp2_with fail
 refine(aP hm pred).mono ?_;clear hm;rintro e w1 ⟨rfl,hm,hf⟩
 rw[HX.out]
 revert hrow;revert sb;revert fr;refine dS hf (aS c) eD ag ?_;clear hf;intro fr sb hrow
 go_wp2_with fail
 refine(hY (f:=(⟨⟨pred,pw,curr,cw⟩,tries,aQ,ab,me,from_,key,limit,2,moved,cl⟩:aC)) ⟨A,n,cap,HN.out,sb,hrow⟩ (by simp only;omega)).mono ?_
 rintro e w9 ⟨rfl,own,hf⟩
 replace fr:=fr.trans (hf.mono (aL c) dD) ag
 replace hm:=hm.fr hf (.inr ⟨by decide,by decide⟩)
 clear hf
 rw[ho]
 go_wp2_with fail
 refine(ka own x cr).mono ?_
 rintro e w10 ⟨rfl,jM,hf⟩
 replace fr:=fr.trans (hf.mono (aL c) dD) ag
 replace hm:=hm.fr hf (.inr ⟨by decide,by decide⟩)
 clear hf
 go_wp2_with fail
 go_ret
 exact⟨by rw[HST.out];rfl,⟨_,ag,by rw[HST.out];exact hm,by rw[HST.out];exact jM.at_ take_at⟩,fr⟩
theorem wo {f:aC} (hm:aj w C M m) (h:eK w C c b M.L f) (hok:f.Ok 100000) (h0:f.at_=1):Calls Tryz.prog 82 #[.pointer (some ⟨b,0,none⟩),.pointer (some ⟨M.b,0,none⟩)] w (qB C c b M (ax M m f) w):=by
 obtain⟨pc,hfc,hcl⟩:=h.ex
 obtain⟨A,n,cap,hn,sb,hrow⟩:=hfc.ex
 obtain⟨⟨pred,pw,curr,cw⟩,tries,aQ,ab,me,from_,key,limit,at_,moved,cl⟩:=f
 obtain⟨hpw,hcw,hcurr,htr,hmv,hme,hsm,hln⟩:=hok
 simp only at hn sb hrow h0 hpw hcw hcurr htr hmv hme hsm hln hcl
 subst h0
 have HN:=Lib.hid hn
 have HST:Hid (ax M m (⟨⟨pred,pw,curr,cw⟩,tries,aQ,ab,me,from_,key,limit,1,moved,cl⟩:aC)=(false,Proofs.YtbcnnhlpilmmbaaGreat.st M m (M.L.slot me 1) curr,(⟨⟨pred,pw,curr,cw⟩,tries,aQ,ab,me,from_,key,limit,2,moved,cl⟩:aC))):=Lib.hid (by unfold ax;simp only;rw[if_neg (by decide)];rw[if_pos (by decide)])
 have hcv:curr % 18446744073709551616=curr:=Int.emod_eq_of_lt (by omega) (by omega)
 clear hn h hcl hsm hln
 go_enter Tryz.func82,Tryz.ntmps82
 have fr:=Fr.refl C (Kc c) oE w
 have ag:=aB.refl w.heap.size C
 go_wp2_with fail
 revert hrow;revert hm;revert sb;revert fr;refine bD ?_;intro fr sb hm hrow
 obtain⟨q1,qi⟩:=aV sb
 refine ar sb 16 [] [0,1,2,3,4,5,6,7,8,10,11,12,13,14,15] [9,16] (by kernel_rfl) (by kernel_rfl) ?_
 refine af ?_;try simp only[ox]
 repeat(go_big_quiet_step (fail))
 refine wpQuiet_nil ?_
 refine ay rfl (fun K' hK'=> ?_);go_simp
 ((with_reducible refine(jG M.L hm.ok me 1 (by omega) (by omega) _).mono ?_);rintro e w1 ⟨rfl,hb1⟩)
 revert fr sb hm hrow;refine dX hb1 ?_;intro fr sb hm hrow
 refine hK' _ _ (bZ sb) ?_;clear hK' K'
 refine ae _ _ _ (by kernel_rfl) ?_;try simp only[ox]
 clear qi q1
 go_wp2_with fail
 refine(fa hm (M.L.slot me 1) curr (by omega)).mono ?_;clear hm;rintro e w2 ⟨rfl,hm,hf⟩
 revert fr sb hrow;refine dS hf (aS c) eD ag ?_;clear hf;intro fr sb hrow
 have z1:=sb
 revert hm hrow;revert fr;refine st1 sb 13 (.int .i64 2) (aL c) ag ?_;clear sb;rintro w3 e1 fr sb hm hrow
 simp only[sx] at sb
 go_wp2_with fail
 refine NoPanic.normal ?_
 go_wp2_with fail
 clear z1 e1
 go_ret
 exact⟨by rw[HST.out];rfl,⟨_,ag,by rw[HST.out];exact hm,by rw[HST.out];exact j9.at_ (pc:=pc) ⟨A,n,cap,HN.out,sb,hrow⟩ (by simp)⟩,fr⟩
theorem wq {f:aC} (hm:aj w C M m) (h:eK w C c b M.L f) (hok:f.Ok 100000) (h0:f.at_=3):Calls Tryz.prog 82 #[.pointer (some ⟨b,0,none⟩),.pointer (some ⟨M.b,0,none⟩)] w (qB C c b M (ax M m f) w):=by
 obtain⟨pc,hfc,hcl⟩:=h.ex
 have Kb:=yK hm hfc h0 hok.pw
 have HST:ax M m f=((f.look (ld M m f.pos.curr)).1,m,(f.look (ld M m f.pos.curr)).2):=by unfold ax;rw[h0];simp only;rw[if_neg (by decide),if_neg (by decide),if_neg (by decide),if_pos trivial]
 rw[HST]
 obtain⟨A,n,cap,hn,sb,hrow⟩:=hfc.ex
 rw[h0] at sb
 have hc:=sb.blk.cells
 generalize(((f.look (ld M m f.pos.curr)).1,m,(f.look (ld M m f.pos.curr)).2):Bool×Mm×aC)=r at *
 clear hn hcl h0 hrow HST hok
 go_enter Tryz.func82,Tryz.ntmps82
 go_wp2_with fail
 refine Kb.mono ?_
 rintro e w2 ⟨rfl,own,fr⟩
 go_wp2_with fail
 go_ret
 exact⟨rfl,own,fr⟩
theorem wu {f:aC} (hm:aj w C M m) (h:eK w C c b M.L f) (hok:f.Ok 100000) (h0:f.at_=5):Calls Tryz.prog 82 #[.pointer (some ⟨b,0,none⟩),.pointer (some ⟨M.b,0,none⟩)] w (qB C c b M (ax M m f) w):=by
 obtain⟨pc,hfc,hcl⟩:=h.ex
 have Kb:=ux hm hfc h0 hok
 have HST:ax M m f=f.unlink M m:=by unfold ax aC.unlink;rw[h0];simp only;rw[if_neg (by decide),if_neg (by decide),if_neg (by decide),if_neg (by decide),if_neg (by decide),if_pos trivial]
 rw[HST]
 obtain⟨A,n,cap,hn,sb,hrow⟩:=hfc.ex
 rw[h0] at sb
 have hc:=sb.blk.cells
 generalize f.unlink M m=r at *
 clear hn hcl h0 hrow HST hok
 go_enter Tryz.func82,Tryz.ntmps82
 go_wp2_with fail
 refine Kb.mono ?_
 rintro e w2 ⟨rfl,own,fr⟩
 go_wp2_with fail
 go_ret
 exact⟨rfl,own,fr⟩
theorem wx {f:aC} (hm:aj w C M m) (h:eK w C c b M.L f) (hok:f.Ok 100000) (h0:f.at_=4):Calls Tryz.prog 82 #[.pointer (some ⟨b,0,none⟩),.pointer (some ⟨M.b,0,none⟩)] w (qB C c b M (ax M m f) w):=by
 obtain⟨pc,hfc,hcl⟩:=h.ex
 obtain⟨A,n,cap,hn,sb,hrow⟩:=hfc.ex
 obtain⟨⟨pred,pw,curr,cw⟩,tries,aQ,ab,me,from_,key,limit,at_,moved,cl⟩:=f
 obtain⟨hpw,hcw,hcurr,htr,hmv,hme,hsm,hln⟩:=hok
 simp only at hn sb hrow h0 hpw hcw hcurr htr hmv hme hsm hln hcl
 subst h0
 have HN:=Lib.hid hn
 obtain⟨bc,rfl,Hv⟩:=hcl rfl
 replace hcl:=Hv
 clear Hv
 obtain⟨r,hr⟩:∃ r,bz M m cl=r:=⟨_,rfl⟩
 have zF:=fun W C' (h1:aj W C' M m) (h2:gl W C' c bc M.L cl)=>kL h1 h2
 simp only[hr] at zF
 obtain⟨r1,m',cl'⟩:=r
 have HST:Hid (ax M m (⟨⟨pred,pw,curr,cw⟩,tries,aQ,ab,me,from_,key,limit,4,moved,cl⟩:aC)=if r1 then (aC.over (⟨⟨pred,pw,curr,cw⟩,tries,aQ,ab,me,from_,key,limit,0,moved,cl'⟩:aC),m',(⟨⟨pred,pw,curr,cw⟩,tries,aQ,ab,me,from_,key,limit,0,moved,cl'⟩:aC).aU) else (false,m',(⟨⟨pred,pw,curr,cw⟩,tries,aQ,ab,me,from_,key,limit,4,moved,cl'⟩:aC))):=Lib.hid (by unfold ax;simp only;rw[if_neg (by decide)];rw[if_neg (by decide)];rw[if_neg (by decide)];rw[if_neg (by decide)];rw[if_pos (by decide)];simp only[hr];rfl)
 clear hn h hsm hln hr
 go_enter Tryz.func82,Tryz.ntmps82
 have fr:=Fr.refl C (Kc c) oE w
 have ag:=aB.refl w.heap.size C
 go_wp2_with fail
 refine(zF _ _ hm hcl).mono ?_;clear hm hcl;rintro e w1 ⟨rfl,hm,hcl,hf⟩
 revert hrow;revert sb;revert fr;refine dS hf (fun _ h=>h) Df ag ?_;clear hf;intro fr sb hrow
 try dsimp only at hm hcl
 cases r1
 ·skip
  go_wp2_with fail
  go_ret
  exact⟨by rw[HST.out];rfl,⟨_,ag,by rw[HST.out];exact hm,by rw[HST.out];exact⟨_,⟨A,n,cap,HN.out,sb,hrow⟩,fun _=>⟨bc,rfl,hcl⟩⟩⟩,fr⟩
 ·skip
  have z1:=sb
  revert hcl;revert hrow;revert hm;revert fr;refine st1 sb 13 (.int .i64 0) (aL c) ag ?_;clear sb;rintro w2 e1 fr sb hm hrow hcl
  simp only[sx] at sb
  go_wp2_with fail
  clear z1 e1
  refine(hY (f:=(⟨⟨pred,pw,curr,cw⟩,tries,aQ,ab,me,from_,key,limit,0,moved,cl'⟩:aC)) ⟨A,n,cap,HN.out,sb,hrow⟩ (by simp only;omega)).mono ?_
  rintro e w9 ⟨rfl,own,hf⟩
  replace fr:=fr.trans (hf.mono (aL c) dD) ag
  replace hm:=hm.fr hf (.inr ⟨by decide,by decide⟩)
  clear hf
  go_wp2_with fail
  go_ret
  exact⟨by rw[HST.out];rfl,⟨_,ag,by rw[HST.out];exact hm,by rw[HST.out];exact own.at_ (sG (by simp))⟩,fr⟩
theorem wy {f:aC} (hm:aj w C M m) (h:eK w C c b M.L f) (hok:f.Ok 100000) (h0:f.at_=6):Calls Tryz.prog 82 #[.pointer (some ⟨b,0,none⟩),.pointer (some ⟨M.b,0,none⟩)] w (qB C c b M (ax M m f) w):=by
 obtain⟨pc,hfc,hcl⟩:=h.ex
 obtain⟨A,n,cap,hn,sb,hrow⟩:=hfc.ex
 obtain⟨⟨pred,pw,curr,cw⟩,tries,aQ,ab,me,from_,key,limit,at_,moved,cl⟩:=f
 obtain⟨hpw,hcw,hcurr,htr,hmv,hme,hsm,hln⟩:=hok
 simp only at hn sb hrow h0 hpw hcw hcurr htr hmv hme hsm hln hcl
 subst h0
 have HN:=Lib.hid hn
 obtain⟨r,hr⟩:∃ r,aC.move M.L (⟨⟨curr,pw,curr,cw⟩,tries,aQ,ab,me,from_,key,limit,0,moved,cl⟩:aC)=r:=⟨_,rfl⟩
 have HST:Hid (ax M m (⟨⟨pred,pw,curr,cw⟩,tries,aQ,ab,me,from_,key,limit,6,moved,cl⟩:aC)=(r.1,Proofs.YtbcnnhlpilmmbaaGreat.st M m (M.L.slot me 0) curr,r.2.2)):=Lib.hid (by unfold ax;simp only;rw[if_neg (by decide)];rw[if_neg (by decide)];rw[if_neg (by decide)];rw[if_neg (by decide)];rw[if_neg (by decide)];rw[if_neg (by decide)];skip;simp only[hr])
 have H4:=Lib.hid (show r.2.2.at_≠4 by rw[←hr];exact xM (by simp))
 have Hu:=fun W C' (k:j9 W C' c b M.L pc (⟨⟨curr,pw,curr,cw⟩,tries,aQ,ab,me,from_,key,limit,0,moved,cl⟩:aC))=>rA k (by simp only;omega) (by simp only;omega)
 simp only[hr] at Hu
 obtain⟨r1,r2,g⟩:=r
 have hcv:curr % 18446744073709551616=curr:=Int.emod_eq_of_lt (by omega) (by omega)
 clear hn h hcl hsm hln hr
 go_enter Tryz.func82,Tryz.ntmps82
 have fr:=Fr.refl C (Kc c) oE w
 have ag:=aB.refl w.heap.size C
 go_wp2_with fail
 revert hrow;revert hm;revert sb;revert fr;refine bD ?_;intro fr sb hm hrow
 obtain⟨q1,qi⟩:=aV sb
 refine ar sb 16 [] [0,1,2,3,4,5,6,7,8,10,11,12,13,14,15] [9,16] (by kernel_rfl) (by kernel_rfl) ?_
 refine af ?_;try simp only[ox]
 repeat(go_big_quiet_step (fail))
 refine wpQuiet_nil ?_
 refine ay rfl (fun K' hK'=> ?_);go_simp
 ((with_reducible refine(jG M.L hm.ok me 0 (by omega) (by omega) _).mono ?_);rintro e w1 ⟨rfl,hb1⟩)
 revert fr sb hm hrow;refine dX hb1 ?_;intro fr sb hm hrow
 refine hK' _ _ (bZ sb) ?_;clear hK' K'
 refine ae _ _ _ (by kernel_rfl) ?_;try simp only[ox]
 clear qi q1
 go_wp2_with fail
 refine(fa hm (M.L.slot me 0) curr (by omega)).mono ?_;clear hm;rintro e w2 ⟨rfl,hm,hf⟩
 revert fr sb hrow;refine dS hf (aS c) eD ag ?_;clear hf;intro fr sb hrow
 have z1:=sb
 revert hm hrow;revert fr;refine st1 sb 2 (.int .i64 curr) (aL c) ag ?_;clear sb;rintro w3 e1 fr sb hm hrow
 simp only[sx] at sb
 have z2:=sb
 revert fr hm hrow;refine st1 sb 13 (.int .i64 0) (aL c) ag ?_;clear sb;rintro w4 e2 fr sb hm hrow
 simp only[sx] at sb
 go_wp2_with fail
 refine NoPanic.normal ?_
 go_wp2_with fail
 clear z1 e1 z2 e2
 refine(Hu _ _ ⟨A,n,cap,HN.out,sb,hrow⟩).mono ?_
 rintro e w9 ⟨rfl,own,hf⟩
 replace fr:=fr.trans (hf.mono (aL c) dD) ag
 replace hm:=hm.fr hf (.inr ⟨by decide,by decide⟩)
 clear hf
 go_wp2_with fail
 go_ret
 exact⟨by rw[HST.out];rfl,⟨_,ag,by rw[HST.out];exact hm,by rw[HST.out];exact own.at_ H4.out⟩,fr⟩
theorem mH {f:aC} (hm:aj w C M m) (h:eK w C c b M.L f) (hok:f.Ok 100000) (hat:0≤f.at_∧f.at_≤6):Calls Tryz.prog 82 #[.pointer (some ⟨b,0,none⟩),.pointer (some ⟨M.b,0,none⟩)] w (qB C c b M (ax M m f) w):=by
 rcases(by omega:f.at_=0∨f.at_=1∨f.at_=2∨f.at_=3∨f.at_=4∨f.at_=5∨f.at_=6) with h0 | h0 | h0 | h0 | h0 | h0 | h0
 ·cases hq:(aE (ld M m f.pos.pred)).mark with
  | false=>exact nD hm h hok h0 hq
  | true=>
   cases ho:f.over with
   | true=>exact oF hm h hok h0 hq ho
   | false=>exact qC hm h hok h0 hq ho
 ·exact wo hm h hok h0
 ·by_cases hq:ld M m f.pos.pred=f.pos.pw
  ·exact nE hm h hok h0 hq
  ·cases ho:f.over with
   | true=>exact oG hm h hok h0 hq ho
   | false=>exact qD hm h hok h0 hq ho
 ·exact wq hm h hok h0
 ·exact wx hm h hok h0
 ·exact wu hm h hok h0
 ·exact wy hm h hok h0
def dw.val (p:dw):Value:= .agg #[.bool p.now,.int .i64 p.res.code,.bool p.res.ok,.int .i64 p.res.val,.int .i64 p.addr,.int .u64 p.old,.int .i64 p.next,.bool p.mark,.int .i64 p.pops]
abbrev iZ (t:bq) (p:Pos):Value:= .agg #[.int .i64 t.sh,.int .i64 t.kind,.int .i64 t.key,.int .i64 p.pred,.int .u64 p.pw,.int .i64 p.curr,.int .u64 p.cw]
abbrev Pos.val (p:Pos):Value:= .agg #[.int .i64 p.pred,.int .u64 p.pw,.int .i64 p.curr,.int .u64 p.cw]
structure Pos.Ok (p:Pos):Prop where
 pw:0≤p.pw∧p.pw<18446744073709551616
 cw:0≤p.cw∧p.cw<18446744073709551616
theorem A6 (v0 v1 v2 v3 v4:Value) (W:World):(Instr.field 198 (.agg #[v0,v1,v2,v3,v4]) 0).run Tryz.prog W= .ok v0 W:=by kernel_rfl
theorem jN (ok:Bool) (w:World):Calls Tryz.prog 189 #[.bool ok] w fun e w'=>e= .returned (told ok).val∧Below w.heap.size w w':=by
 go_enter Tryz.func189,Tryz.ntmps189
 go_wp2_with fail
 refine bodyPost_ret (v:= .agg #[.bool true,.int .i64 0,.bool ok,.int .i64 0,.int .i64 0,.int .u64 0,.int .i64 0,.bool false,.int .i64 0]) (by simp[results,Tryz.results189,go_sem]) rfl ⟨rfl,?_⟩
 exact by repeat(first | exact Below.refl _ _ | refine Below.alloc ?_ (by simp<;>omega) _ | refine Below.setCell ?_ (by simp<;>omega) _)
theorem qE (t:bq) (p:Pos) (hp:p.Ok) (w:World) (h0:p.curr=0):Calls Tryz.prog 185 #[iZ t p] w fun e w'=>e= .returned (.bool (p.found t))∧Below w.heap.size w w':=by
 obtain⟨sh,kind,key⟩:=t
 obtain⟨pred,pw,curr,cw⟩:=p
 obtain⟨hpw,hcw⟩:=hp
 simp only at hpw hcw
 simp only at h0
 subst h0
 have HST:Hid (Pos.found ⟨pred,pw,0,cw⟩ ⟨sh,kind,key⟩=false):=Lib.hid rfl
 go_enter Tryz.func185,Tryz.ntmps185
 refine bx0 w 250 #[.int .i64 sh,.int .i64 kind,.int .i64 key,.int .i64 pred,.int .u64 pw,.int .i64 0,.int .u64 cw] ?_;rintro C w0 e0 ag fr sb
 go_wp2_with fail
 clear e0
 revert fr sb;refine bD ?_;intro fr sb
 obtain⟨q1,qi⟩:=aV sb
 refine ar sb 16 [([0,1,2,3,4,5,6,7,10,11,12,13],8)] [9,14,15] [16] (by kernel_rfl) (by kernel_rfl) ?_
 refine ai ?_;simp only[ox];repeat(go_big_quiet_step (fail))
 refine di rfl (fun K' hK'=> ?_);go_simp
 refine hK' _ _ (bZ sb) ?_;clear hK' K'
 refine af ?_;try simp only[ox]
 repeat(go_big_quiet_step (fail))
 refine wpQuiet_nil ?_
 refine ae _ _ _ (by kernel_rfl) ?_;try simp only[ox]
 clear qi q1
 go_wp2_with fail
 refine NoPanic.normal ?_
 go_wp2_with fail
 go_ret
 exact⟨by rw[HST.out];rfl,fr.b4⟩
theorem qF (t:bq) (p:Pos) (hp:p.Ok) (w:World) (h0:p.curr≠0):Calls Tryz.prog 185 #[iZ t p] w fun e w'=>e= .returned (.bool (p.found t))∧Below w.heap.size w w':=by
 obtain⟨sh,kind,key⟩:=t
 obtain⟨pred,pw,curr,cw⟩:=p
 obtain⟨hpw,hcw⟩:=hp
 simp only at hpw hcw
 simp only at h0
 have HG:=fun W=>aT cw W hcw
 obtain⟨W0,hW0⟩:∃ W0,aE cw=W0:=⟨_,rfl⟩
 rw[hW0] at HG
 have hfl:∀ W,(Instr.field 198 W0.val 0).run Tryz.prog W= .ok (.int .i64 W0.key) W:=fun W=>A6 _ _ _ _ _ W
 have HST:Hid (Pos.found ⟨pred,pw,curr,cw⟩ ⟨sh,kind,key⟩=(W0.key==key)):=Lib.hid (by unfold Pos.found;simp only[hW0];rw[decide_eq_true h0];rfl)
 have d0:(curr !=0)=true:=bne_iff_ne.2 h0
 clear hW0 h0
 go_enter Tryz.func185,Tryz.ntmps185
 refine bx0 w 250 #[.int .i64 sh,.int .i64 kind,.int .i64 key,.int .i64 pred,.int .u64 pw,.int .i64 curr,.int .u64 cw] ?_;rintro C w0 e0 ag fr sb
 go_wp2_with fail
 clear e0
 revert fr sb;refine bD ?_;intro fr sb
 obtain⟨q1,qi⟩:=aV sb
 refine ar sb 16 [([0,1,2,3,4,5,6,7,10,11,12,13],8)] [9,14,15] [16] (by kernel_rfl) (by kernel_rfl) ?_
 refine ai ?_;simp only[ox];repeat(go_big_quiet_step (fail))
 refine di rfl (fun K' hK'=> ?_);go_simp
 revert fr sb;with_reducible refine bk (HG _) ?_;rintro e w1 rfl fr sb
 refine hK' _ _ (bZ sb) ?_;clear hK' K'
 refine af ?_;try simp only[ox]
 repeat(go_big_quiet_step (fail))
 refine wpQuiet_nil ?_
 refine ae _ _ _ (by kernel_rfl) ?_;try simp only[ox]
 clear qi q1
 go_wp2_with fail
 refine NoPanic.normal ?_
 go_wp2_with fail
 go_ret
 exact⟨by rw[HST.out];rfl,fr.b4⟩
theorem eF (t:bq) (p:Pos) (hp:p.Ok) (w:World):Calls Tryz.prog 185 #[iZ t p] w fun e w'=>e= .returned (.bool (p.found t))∧Below w.heap.size w w':=by
 by_cases h0:p.curr=0
 ·exact qE t p hp w h0
 ·exact qF t p hp w h0
theorem kV (t:bq) (p:Pos) (next:Int) (hp:p.Ok) (w:World):Calls Tryz.prog 186 #[iZ t p,.int .i64 next] w fun e w'=>e= .returned (p.link next).val∧Below w.heap.size w w':=by
 obtain⟨sh,kind,key⟩:=t
 obtain⟨pred,pw,curr,cw⟩:=p
 obtain⟨hpw,hcw⟩:=hp
 simp only at hpw hcw
 have HG:=fun W=>aT pw W hpw
 obtain⟨W0,hW0⟩:∃ W0,aE pw=W0:=⟨_,rfl⟩
 rw[hW0] at HG
 have hfl:∀ W,(Instr.field 198 W0.val 2).run Tryz.prog W= .ok (.bool W0.mark) W:=fun W=>xO _ _ _ _ _ W
 have HST:Hid ((Pos.link ⟨pred,pw,curr,cw⟩ next).val= .agg #[.bool false,.int .i64 0,.bool true,.int .i64 0,.int .i64 pred,.int .u64 pw,.int .i64 next,.bool W0.mark,.int .i64 0]):=Lib.hid (by unfold Pos.link dw.val;simp only[hW0])
 clear hW0
 go_enter Tryz.func186,Tryz.ntmps186
 refine bx0 w 250 #[.int .i64 sh,.int .i64 kind,.int .i64 key,.int .i64 pred,.int .u64 pw,.int .i64 curr,.int .u64 cw] ?_;rintro C w0 e0 ag fr sb
 have z1:=sb
 revert fr sb;refine bx1 167 #[.bool false,.int .i64 0,.bool false,.int .i64 0,.int .i64 0,.int .u64 0,.int .i64 0,.bool false,.int .i64 0] ?_;rintro w1 nF zG fr pl sb
 go_wp2_with fail
 clear e0 nF z1
 revert fr pl sb;refine bD ?_;intro fr pl sb
 obtain⟨q1,qi⟩:=aV sb
 refine ar sb 14 [([0,1,2,3,4,5,6,7,8,9,10],11)] [12,13] [14] (by kernel_rfl) (by kernel_rfl) ?_
 refine ai ?_;simp only[ox];repeat(go_big_quiet_step (fail))
 refine di rfl (fun K' hK'=> ?_);go_simp
 revert fr pl sb;with_reducible refine bk (HG _) ?_;rintro e w2 rfl fr pl sb
 refine hK' _ _ (bZ sb) ?_;clear hK' K'
 refine af ?_;try simp only[ox]
 repeat(go_big_quiet_step (fail))
 refine wpQuiet_nil ?_
 refine ae _ _ _ (by kernel_rfl) ?_;try simp only[ox]
 clear qi q1
 have z2:=And.intro sb pl
 have hR:=ko
 revert fr sb;refine gO pl [(0,.bool false),(1,.int .i64 0),(2,.bool true),(3,.int .i64 0),(4,.int .i64 pred),(5,.int .u64 pw),(6,.int .i64 next),(7,.bool W0.mark),(8,.int .i64 0)] ?_;clear pl;rintro w3 e1 fr pl sb
 simp only[stx,sx] at e1 pl
 go_wp2_with fail
 refine NoPanic.normal ?_
 go_wp2_with fail
 clear z2 e1 hR
 refine bodyPost_ret (v:= .agg #[.bool false,.int .i64 0,.bool true,.int .i64 0,.int .i64 pred,.int .u64 pw,.int .i64 next,.bool W0.mark,.int .i64 0]) (by simp[results,Tryz.results186,go_sem,pl.1]) rfl ⟨HST.out.symm ▸ rfl,fr.b4⟩
theorem kW (t:bq) (p:Pos) (hp:p.Ok) (w:World):Calls Tryz.prog 187 #[iZ t p] w fun e w'=>e= .returned p.mark.val∧Below w.heap.size w w':=by
 obtain⟨sh,kind,key⟩:=t
 obtain⟨pred,pw,curr,cw⟩:=p
 obtain⟨hpw,hcw⟩:=hp
 simp only at hpw hcw
 have HG:=fun W=>aT cw W hcw
 obtain⟨W0,hW0⟩:∃ W0,aE cw=W0:=⟨_,rfl⟩
 rw[hW0] at HG
 have hfl:∀ W,(Instr.field 198 W0.val 1).run Tryz.prog W= .ok (.int .i64 W0.next) W:=fun W=>A5 _ _ _ _ _ W
 have HST:Hid ((Pos.mark ⟨pred,pw,curr,cw⟩).val= .agg #[.bool false,.int .i64 0,.bool true,.int .i64 0,.int .i64 curr,.int .u64 cw,.int .i64 W0.next,.bool true,.int .i64 0]):=Lib.hid (by unfold Pos.mark dw.val;simp only[hW0])
 clear hW0
 go_enter Tryz.func187,Tryz.ntmps187
 refine bx0 w 250 #[.int .i64 sh,.int .i64 kind,.int .i64 key,.int .i64 pred,.int .u64 pw,.int .i64 curr,.int .u64 cw] ?_;rintro C w0 e0 ag fr sb
 have z1:=sb
 revert fr sb;refine bx1 167 #[.bool false,.int .i64 0,.bool false,.int .i64 0,.int .i64 0,.int .u64 0,.int .i64 0,.bool false,.int .i64 0] ?_;rintro w1 nF zG fr pl sb
 go_wp2_with fail
 clear e0 nF z1
 revert fr pl sb;refine bD ?_;intro fr pl sb
 obtain⟨q1,qi⟩:=aV sb
 refine ar sb 13 [([0,1,2,3,4,5,6,7,8,9],10)] [11,12] [13] (by kernel_rfl) (by kernel_rfl) ?_
 refine ai ?_;simp only[ox];repeat(go_big_quiet_step (fail))
 refine di rfl (fun K' hK'=> ?_);go_simp
 revert fr pl sb;with_reducible refine bk (HG _) ?_;rintro e w2 rfl fr pl sb
 refine hK' _ _ (bZ sb) ?_;clear hK' K'
 refine af ?_;try simp only[ox]
 repeat(go_big_quiet_step (fail))
 refine wpQuiet_nil ?_
 refine ae _ _ _ (by kernel_rfl) ?_;try simp only[ox]
 clear qi q1
 have z2:=And.intro sb pl
 have hR:=ko
 revert fr sb;refine gO pl [(0,.bool false),(1,.int .i64 0),(2,.bool true),(3,.int .i64 0),(4,.int .i64 curr),(5,.int .u64 cw),(6,.int .i64 W0.next),(7,.bool true),(8,.int .i64 0)] ?_;clear pl;rintro w3 e1 fr pl sb
 simp only[stx,sx] at e1 pl
 go_wp2_with fail
 refine NoPanic.normal ?_
 go_wp2_with fail
 clear z2 e1 hR
 refine bodyPost_ret (v:= .agg #[.bool false,.int .i64 0,.bool true,.int .i64 0,.int .i64 curr,.int .u64 cw,.int .i64 W0.next,.bool true,.int .i64 0]) (by simp[results,Tryz.results187,go_sem,pl.1]) rfl ⟨HST.out.symm ▸ rfl,fr.b4⟩
theorem sJ (t:bq) (p:Pos) (hp:p.Ok) (w:World) (h0:p.curr=0):Calls Tryz.prog 188 #[iZ t p] w fun e w'=>e= .returned (p.take t).val∧Below w.heap.size w w':=by
 have HST:Hid (p.take t=told false):=Lib.hid (by unfold Pos.take;rw[if_pos h0])
 obtain⟨sh,kind,key⟩:=t
 obtain⟨pred,pw,curr,cw⟩:=p
 obtain⟨hpw,hcw⟩:=hp
 simp only at hpw hcw
 simp only at h0
 subst h0
 simp only[told] at HST
 go_enter Tryz.func188,Tryz.ntmps188
 refine bx0 w 250 #[.int .i64 sh,.int .i64 kind,.int .i64 key,.int .i64 pred,.int .u64 pw,.int .i64 0,.int .u64 cw] ?_;rintro C w0 e0 ag fr sb
 have z1:=sb
 revert fr sb;refine bx1 167 #[.bool false,.int .i64 0,.bool false,.int .i64 0,.int .i64 0,.int .u64 0,.int .i64 0,.bool false,.int .i64 0] ?_;rintro w1 nF zG fr pl sb
 go_wp2_with fail
 clear e0 nF z1
 revert fr pl sb;refine bk (jN false _) ?_;rintro e w2 rfl fr pl sb
 simp only[dw.val,told]
 have z2:=And.intro sb pl
 have hR:=ko
 revert fr sb;refine gO pl [(0,.bool true),(1,.int .i64 0),(2,.bool false),(3,.int .i64 0),(4,.int .i64 0),(5,.int .u64 0),(6,.int .i64 0),(7,.bool false),(8,.int .i64 0)] ?_;clear pl;rintro w3 e1 fr pl sb
 simp only[stx,sx] at e1 pl
 go_wp2_with fail
 clear z2 e1 hR
 refine bodyPost_ret (v:= .agg #[.bool true,.int .i64 0,.bool false,.int .i64 0,.int .i64 0,.int .u64 0,.int .i64 0,.bool false,.int .i64 0]) (by simp[results,Tryz.results188,go_sem,pl.1]) rfl ⟨by rw[HST.out];rfl,fr.b4⟩
theorem qG (t:bq) (p:Pos) (hp:p.Ok) (w:World) (h0:p.curr≠0) (h1:t.pops=false):Calls Tryz.prog 188 #[iZ t p] w fun e w'=>e= .returned (p.take t).val∧Below w.heap.size w w':=by
 have HST:Hid (p.take t={ p.mark with res:=⟨0,true,(aE p.cw).key⟩ }):=Lib.hid (by unfold Pos.take;rw[if_neg h0,if_neg (by rw[h1];decide)])
 have ja:=fun W=>kW t p hp W
 have sK:=fun W=>mx t W
 rw[h1] at sK
 have hmn:p.mark.next=(aE p.cw).next:=rfl
 obtain⟨sh,kind,key⟩:=t
 obtain⟨pred,pw,curr,cw⟩:=p
 obtain⟨hpw,hcw⟩:=hp
 simp only at hpw hcw
 simp only at h0 HST ja sK hmn
 have HG:=fun W=>aT cw W hcw
 obtain⟨W0,hW0⟩:∃ W0,aE cw=W0:=⟨_,rfl⟩
 simp only[hW0] at HG HST hmn
 have hfl:∀ W,(Instr.field 198 W0.val 0).run Tryz.prog W= .ok (.int .i64 W0.key) W:=fun W=>A6 _ _ _ _ _ W
 have d0:(curr==0)=false:=beq_eq_false_iff_ne.2 h0
 clear h0 hW0
 have hr1:(Pos.mark ⟨pred,pw,curr,cw⟩).res.code=0:=rfl
 have hr2:(Pos.mark ⟨pred,pw,curr,cw⟩).res.ok=true:=rfl
 obtain⟨P,hP⟩:∃ P,Pos.mark ⟨pred,pw,curr,cw⟩=P:=⟨_,rfl⟩
 rw[hP] at ja hmn hr1 hr2 HST
 clear hP
 obtain⟨g0,⟨g1,g2,g3⟩,g4,g5,g6,g7,g8⟩:=P
 simp only at hmn hr1 hr2
 subst hmn hr1 hr2
 simp only[dw.val] at ja
 go_enter Tryz.func188,Tryz.ntmps188
 refine bx0 w 250 #[.int .i64 sh,.int .i64 kind,.int .i64 key,.int .i64 pred,.int .u64 pw,.int .i64 curr,.int .u64 cw] ?_;rintro C w0 e0 ag fr sb
 have z1:=sb
 revert fr sb;refine bx1 167 #[.bool false,.int .i64 0,.bool false,.int .i64 0,.int .i64 0,.int .u64 0,.int .i64 0,.bool false,.int .i64 0] ?_;rintro w1 nF zG fr pl sb
 go_wp2_with fail
 clear e0 nF z1
 revert fr pl sb;refine bk (ja _) ?_;rintro e w2 rfl fr pl sb
 have LB:=fr.size
 have Ey:=sb.lt
 have Hw:=pl.lt
 have z2:=And.intro sb pl
 revert fr pl sb;refine bx1 167 #[.bool g0,.int .i64 0,.bool true,.int .i64 g3,.int .i64 g4,.int .u64 g5,.int .i64 W0.next,.bool g7,.int .i64 g8] ?_;rintro w3 Kd lot fr ot pl sb
 go_wp2_with fail
 clear Kd z2
 generalize w2.heap.size=JB at *
 revert ot;revert pl;revert sb;revert fr;refine bk (sK _) ?_;rintro e w4 rfl fr sb pl ot
 go_wp2_with fail
 revert fr sb pl ot;refine bk (HG _) ?_;rintro e w5 rfl fr sb pl ot
 have z3:=And.intro sb (And.intro pl ot)
 replace pl:=pl.far (p:=⟨JB,3,none⟩) (by first | omega | (simp<;>omega)) (.int .i64 W0.key)
 revert fr sb;refine vX ot 3 (.int .i64 W0.key) ?_;clear ot;rintro w6 e1 fr ot sb
 rw[e1] at pl
 simp only[sx] at ot
 have z4:=And.intro sb (And.intro pl ot)
 have hR:=ko
 replace ot:=ot.yG (b:=w0.heap.size) (by first | omega | (simp<;>omega)) [(0,.bool g0),(1,.int .i64 0),(2,.bool true),(3,.int .i64 W0.key),(4,.int .i64 g4),(5,.int .u64 g5),(6,.int .i64 W0.next),(7,.bool g7),(8,.int .i64 g8)]
 revert fr sb;refine gO pl [(0,.bool g0),(1,.int .i64 0),(2,.bool true),(3,.int .i64 W0.key),(4,.int .i64 g4),(5,.int .u64 g5),(6,.int .i64 W0.next),(7,.bool g7),(8,.int .i64 g8)] ?_;clear pl;rintro w7 e2 fr pl sb
 rw[e2] at ot
 simp only[stx,sx] at e2 pl
 go_wp2_with fail
 clear z3 e1 z4 e2 hR
 refine bodyPost_ret (v:= .agg #[.bool g0,.int .i64 0,.bool true,.int .i64 W0.key,.int .i64 g4,.int .u64 g5,.int .i64 W0.next,.bool g7,.int .i64 g8]) (by simp[results,Tryz.results188,go_sem,pl.1]) rfl ⟨by rw[HST.out];rfl,fr.b4⟩
theorem sL (t:bq) (p:Pos) (hp:p.Ok) (w:World) (h0:p.curr≠0) (h1:t.pops=true):Calls Tryz.prog 188 #[iZ t p] w fun e w'=>e= .returned (p.take t).val∧Below w.heap.size w w':=by
 have HST:Hid (p.take t={ p.link (aE p.cw).next with pops:=p.curr,res:=⟨0,true,(aE p.cw).key⟩ }):=Lib.hid (by unfold Pos.take;rw[if_neg h0,if_pos h1])
 have ja:=fun W=>kW t p hp W
 have sK:=fun W=>mx t W
 rw[h1] at sK
 have hmn:p.mark.next=(aE p.cw).next:=rfl
 have sk:=fun W=>kV t p (aE p.cw).next hp W
 obtain⟨sh,kind,key⟩:=t
 obtain⟨pred,pw,curr,cw⟩:=p
 obtain⟨hpw,hcw⟩:=hp
 simp only at hpw hcw
 simp only at h0 HST ja sK hmn sk
 have HG:=fun W=>aT cw W hcw
 obtain⟨W0,hW0⟩:∃ W0,aE cw=W0:=⟨_,rfl⟩
 simp only[hW0] at HG HST hmn sk
 have hfl:∀ W,(Instr.field 198 W0.val 0).run Tryz.prog W= .ok (.int .i64 W0.key) W:=fun W=>A6 _ _ _ _ _ W
 have d0:(curr==0)=false:=beq_eq_false_iff_ne.2 h0
 clear h0 hW0
 have hr1:(Pos.mark ⟨pred,pw,curr,cw⟩).res.code=0:=rfl
 have hr2:(Pos.mark ⟨pred,pw,curr,cw⟩).res.ok=true:=rfl
 obtain⟨P,hP⟩:∃ P,Pos.mark ⟨pred,pw,curr,cw⟩=P:=⟨_,rfl⟩
 rw[hP] at ja hmn hr1 hr2
 clear hP
 obtain⟨g0,⟨g1,g2,g3⟩,g4,g5,g6,g7,g8⟩:=P
 simp only at hmn hr1 hr2
 subst hmn hr1 hr2
 simp only[dw.val] at ja
 have hs1:(Pos.link ⟨pred,pw,curr,cw⟩ W0.next).res.code=0:=rfl
 have hs2:(Pos.link ⟨pred,pw,curr,cw⟩ W0.next).res.ok=true:=rfl
 obtain⟨Q,hQ⟩:∃ Q,Pos.link ⟨pred,pw,curr,cw⟩ W0.next=Q:=⟨_,rfl⟩
 rw[hQ] at sk HST hs1 hs2
 clear hQ
 obtain⟨k0,⟨k1,k2,k3⟩,k4,k5,k6,k7,k8⟩:=Q
 simp only at hs1 hs2
 subst hs1 hs2
 simp only[dw.val] at sk
 go_enter Tryz.func188,Tryz.ntmps188
 refine bx0 w 250 #[.int .i64 sh,.int .i64 kind,.int .i64 key,.int .i64 pred,.int .u64 pw,.int .i64 curr,.int .u64 cw] ?_;rintro C w0 e0 ag fr sb
 have z1:=sb
 revert fr sb;refine bx1 167 #[.bool false,.int .i64 0,.bool false,.int .i64 0,.int .i64 0,.int .u64 0,.int .i64 0,.bool false,.int .i64 0] ?_;rintro w1 nF zG fr pl sb
 go_wp2_with fail
 clear e0 nF z1
 revert fr pl sb;refine bk (ja _) ?_;rintro e w2 rfl fr pl sb
 have LB:=fr.size
 have Ey:=sb.lt
 have Hw:=pl.lt
 have z2:=And.intro sb pl
 revert fr pl sb;refine bx1 167 #[.bool g0,.int .i64 0,.bool true,.int .i64 g3,.int .i64 g4,.int .u64 g5,.int .i64 W0.next,.bool g7,.int .i64 g8] ?_;rintro w3 Kd lot fr ot pl sb
 go_wp2_with fail
 clear Kd z2
 generalize w2.heap.size=JB at *
 revert ot;revert pl;revert sb;revert fr;refine bk (sK _) ?_;rintro e w4 rfl fr sb pl ot
 go_wp2_with fail
 revert fr sb pl ot;refine bk (sk _) ?_;rintro e w5 rfl fr sb pl ot
 have z3:=And.intro sb (And.intro pl ot)
 have hR:=ko
 replace pl:=pl.yG (b:=JB) (by first | omega | (simp<;>omega)) [(0,.bool k0),(1,.int .i64 0),(2,.bool true),(3,.int .i64 k3),(4,.int .i64 k4),(5,.int .u64 k5),(6,.int .i64 k6),(7,.bool k7),(8,.int .i64 k8),(8,.int .i64 curr)]
 revert fr sb;refine gO ot [(0,.bool k0),(1,.int .i64 0),(2,.bool true),(3,.int .i64 k3),(4,.int .i64 k4),(5,.int .u64 k5),(6,.int .i64 k6),(7,.bool k7),(8,.int .i64 k8),(8,.int .i64 curr)] ?_;clear ot;rintro w6 e1 fr ot sb
 rw[e1] at pl
 simp only[stx,sx] at e1 ot
 go_wp2_with fail
 clear z3 e1 hR
 revert pl sb ot;revert fr;refine bk (HG _) ?_;rintro e w7 rfl fr pl sb ot
 have z4:=And.intro sb (And.intro pl ot)
 replace pl:=pl.far (p:=⟨JB,3,none⟩) (by first | omega | (simp<;>omega)) (.int .i64 W0.key)
 revert fr sb;refine vX ot 3 (.int .i64 W0.key) ?_;clear ot;rintro w8 e1 fr ot sb
 rw[e1] at pl
 simp only[sx] at ot
 have z5:=And.intro sb (And.intro pl ot)
 have hR:=ko
 replace ot:=ot.yG (b:=w0.heap.size) (by first | omega | (simp<;>omega)) [(0,.bool k0),(1,.int .i64 0),(2,.bool true),(3,.int .i64 W0.key),(4,.int .i64 k4),(5,.int .u64 k5),(6,.int .i64 k6),(7,.bool k7),(8,.int .i64 curr)]
 revert fr sb;refine gO pl [(0,.bool k0),(1,.int .i64 0),(2,.bool true),(3,.int .i64 W0.key),(4,.int .i64 k4),(5,.int .u64 k5),(6,.int .i64 k6),(7,.bool k7),(8,.int .i64 curr)] ?_;clear pl;rintro w9 e2 fr pl sb
 rw[e2] at ot
 simp only[stx,sx] at e2 pl
 go_wp2_with fail
 clear z4 e1 z5 e2 hR
 refine bodyPost_ret (v:= .agg #[.bool k0,.int .i64 0,.bool true,.int .i64 W0.key,.int .i64 k4,.int .u64 k5,.int .i64 k6,.bool k7,.int .i64 curr]) (by simp[results,Tryz.results188,go_sem,pl.1]) rfl ⟨by rw[HST.out];rfl,fr.b4⟩
theorem wz (t:bq) (p:Pos) (hp:p.Ok) (w:World):Calls Tryz.prog 188 #[iZ t p] w fun e w'=>e= .returned (p.take t).val∧Below w.heap.size w w':=by
 by_cases h0:p.curr=0
 ·exact sJ t p hp w h0
 ·cases h1:t.pops with
  | false=>exact qG t p hp w h0 h1
  | true=>exact sL t p hp w h0 h1
end Go.Proofs.YtbcnnhlpilmmbaaGreat
