/- Texts that are wanted for PTopFull.
   Conditions: none. -/
import Derived.Test.YtbcnnhlpilmmbaaGreatJPTopFull07
set_option maxRecDepth 100000
set_option maxHeartbeats 6400000
namespace Go.Proofs.YtbcnnhlpilmmbaaGreat
open Go Go.RowKit
def GJ:List (Option TypeId):=[some 236,some 75,some 34]
theorem AO:∀ x,x∈LM→x∈GJ:=by decide
structure J8 (C:Nat→Nat) (c sg b:Nat) (M:ML) (r:Bool×Mm×nB) (w:World) (e:Ending) (w':World):Prop where
 ret:e= .returned (.bool r.1)
 mem:aj w' C M r.2.1
 own:jK w' C c sg b r.2.2
 fr:Fr C (Kc c) GJ w w'
variable {w:World} {C:Nat→Nat} {c s sg b:Nat} {M:ML} {m:Mm} {me:Int} {t:cV}
theorem qs {p:nB} (hm:aj w C M m) (hst:al w C s sg M.L me t) (h:jK w C c sg b p) (h0:p.loaded=false):Calls Tryz.prog 117 #[.pointer (some ⟨b,0,none⟩),.pointer (some ⟨M.b,0,none⟩)] w (J8 C c sg b M (dh M m t p) w):=by
 obtain⟨sb,hfd⟩:=h
 obtain⟨key,next,found,loaded⟩:=p
 obtain⟨⟨A,n,cap,hn,st,hrow⟩,hme,hsp,hsm⟩:=hst
 simp only at sb hfd h0
 subst h0
 have cr:=bJ hm t.spare
 obtain⟨v,hv⟩:∃ v,ld M m t.spare=v:=⟨_,rfl⟩
 have HST:Hid (dh M m t ⟨key,next,found,false⟩=(false,m,⟨key,next,v,true⟩)):=Lib.hid (by unfold dh;rw[if_pos rfl,hv])
 rw[hv] at cr
 have HV:=Lib.hid hv
 clear hv hn hrow hsm
 go_enter Tryz.func117,Tryz.ntmps117
 have fr:=Fr.refl C (Kc c) GJ w
 have ag:=aB.refl w.heap.size C
 go_wp2_with fail
 refine(aP hm t.spare).mono ?_;clear hm;rintro e w1 ⟨rfl,hm,hf⟩
 rw[HV.out]
 revert st;revert sb;revert fr;refine dS hf (aS c) AO ag ?_;clear hf;intro fr sb st
 have z1:=And.intro sb st
 revert hm st;revert fr;refine st1 sb 3 (.int .u64 v) (aL c) ag ?_;clear sb;rintro w2 e1 fr sb hm st
 simp only[sx] at sb
 have z2:=And.intro sb st
 revert fr hm st;refine st1 sb 4 (.bool true) (aL c) ag ?_;clear sb;rintro w3 e2 fr sb hm st
 simp only[sx] at sb
 go_wp2_with fail
 clear z1 e1 z2 e2
 go_ret
 exact⟨by rw[HST.out];rfl,by rw[HST.out];exact hm,by rw[HST.out];exact⟨sb,cr⟩,fr⟩
theorem qt {p:nB} (hm:aj w C M m) (hst:al w C s sg M.L me t) (h:jK w C c sg b p) (h0:p.loaded=true) (hk:0≤p.key):Calls Tryz.prog 117 #[.pointer (some ⟨b,0,none⟩),.pointer (some ⟨M.b,0,none⟩)] w (J8 C c sg b M (dh M m t p) w):=by
 obtain⟨sb,hfd⟩:=h
 obtain⟨key,next,found,loaded⟩:=p
 obtain⟨⟨A,n,cap,hn,st,hrow⟩,hme,hsp,hsm⟩:=hst
 simp only at sb hfd h0
 subst h0
 obtain⟨W0,hW0⟩:∃ W0,aE found=W0:=⟨_,rfl⟩
 have lG:0≤W0.ver∧W0.ver<262144:=by rw[←hW0];exact(bG found).ver
 have HG:=fun W=>aT found W hfd
 rw[hW0] at HG
 have hfld:∀ W,(Instr.field 198 W0.val 4).run Tryz.prog W= .ok (.int .i64 W0.ver) W:=fun W=>As _ _ _ _ _ W
 have sk:=fun W=>(show Calls Tryz.prog 164 #[.agg #[.int .i64 key,.int .i64 0,.bool false,.int .i64 0,.int .i64 W0.ver],.int .i64 next] W _ from mi ⟨key,0,false,0,W0.ver⟩ next W lG)
 obtain⟨W1,hW1⟩:∃ W1,(⟨key,0,false,0,W0.ver⟩:Wd).link next=W1:=⟨_,rfl⟩
 rw[hW1] at sk
 have hxr:=fA W1
 obtain⟨x,hx⟩:∃ x,eU W1=x:=⟨_,rfl⟩
 have HP:=hU W1 x hx
 have HST:Hid (dh M m t ⟨key,next,found,true⟩=(true,Proofs.YtbcnnhlpilmmbaaGreat.st M m t.spare x,⟨key,next,found,true⟩)):=Lib.hid (by unfold dh nB.word;rw[if_neg (by simp)];simp only[hW0,hW1,hx])
 rw[hx] at hxr
 have qu:0≤x∧x<18446744073709551616:=by omega
 clear hn hrow hsm hW0 hW1 hx
 go_enter Tryz.func117,Tryz.ntmps117
 have fr:=Fr.refl C (Kc c) GJ w
 have ag:=aB.refl w.heap.size C
 go_wp2_with fail
 revert st;revert hm;revert sb;revert fr;refine bD ?_;intro fr sb hm st
 obtain⟨q1,q2,qi⟩:=bl sb st
 refine aA sb st 21 [([0,1,2,3,4,5,6,7,11,12,13,14],8),([9,10],15),([],16)] [17,18,19,20] [21] (by kernel_rfl) (by kernel_rfl) ?_
 refine ai ?_;simp only[ox];repeat(go_big_quiet_step (fail))
 refine di rfl (fun K' hK'=> ?_);go_simp
 revert fr sb hm st;with_reducible refine bk (HG _) ?_;rintro e w1 rfl fr sb hm st
 refine hK' _ _ (eJ sb st) ?_;clear hK' K'
 refine ai ?_;simp only[ox];repeat(go_big_quiet_step (fail))
 refine di rfl (fun K' hK'=> ?_);go_simp
 revert fr sb hm st;with_reducible refine bk (sk _) ?_;rintro e w2 rfl fr sb hm st
 refine hK' _ _ (eJ sb st) ?_;clear hK' K'
 refine ai ?_;simp only[ox];repeat(go_big_quiet_step (fail))
 refine di rfl (fun K' hK'=> ?_);go_simp
 revert fr sb hm st;with_reducible refine bk (HP _) ?_;rintro e w3 ⟨ec,rfl⟩ fr sb hm st
 refine hK' _ _ (eJ sb st) ?_;clear hK' K'
 refine af ?_;try simp only[ox]
 repeat(go_big_quiet_step (fail))
 refine wpQuiet_nil ?_
 refine ae _ _ _ (by kernel_rfl) ?_;try simp only[ox]
 clear qi q1 q2
 go_wp2_with fail
 refine NoPanic.normal ?_
 go_wp2_with fail
 refine(fa hm t.spare x qu).mono ?_;clear hm;rintro e w4 ⟨rfl,hm,hf⟩
 revert fr sb st;refine dS hf (aS c) AO ag ?_;clear hf;intro fr sb st
 go_wp2_with fail
 go_ret
 exact⟨by rw[HST.out];rfl,by rw[HST.out];exact hm,by rw[HST.out];exact⟨sb,hfd⟩,fr⟩
theorem lH {p:nB} (hm:aj w C M m) (hst:al w C s sg M.L me t) (h:jK w C c sg b p) (hk:0≤p.key):Calls Tryz.prog 117 #[.pointer (some ⟨b,0,none⟩),.pointer (some ⟨M.b,0,none⟩)] w (J8 C c sg b M (dh M m t p) w):=by
 cases h0:p.loaded
 ·exact qs hm hst h h0
 ·exact qt hm hst h h0 hk
structure MW (C:Nat→Nat) (c s:Nat) (LX:List (Option TypeId)) (M:ML) (r1:Bool) (m':Mm) (P:World→(Nat→Nat)→Prop) (w:World) (e:Ending) (w':World):Prop where
 ret:e= .returned (.bool r1)
 own:∃ C',aB w.heap.size C C'∧aj w' C' M m'∧P w' C'
 fr:Fr C (dK c s) LX w w'
def C8:List (Option TypeId):=some 207::some 137::Cs
theorem xH:∀ x,x∈Cs→x∈C8:=by decide
theorem AP (L:Ly) (hL:L.Ok) (l:List Int) (A:Option Addr) (n cap B:Nat) (C:Nat→Nat) (c s:Nat) (w:World) (hr:Sl w B 1 A n (cv l)) (hB:B≤w.heap.size) (hl:l.length=n) (hn:n≤100000) (hnil:A=none→n=0∧cap=0) (hsm:Small l):
  Calls Tryz.prog 136 #[L.val,.slice A n cap] w (kH C c (fun w' C' b=>lE w' C' c s b L (iH.new l)) w):=by
 refine(yz L A n cap B (cv l) w hr hB (gE l) hn hnil).mono ?_
 rintro e w' ⟨⟨b,mb,v,rfl,hb,hmb,hne,hvb,hbk,how,hse⟩,hbel⟩
 obtain⟨A2,c2,rfl,hc2,-,-⟩:=bF how
 have hth:=hL.th
 refine⟨⟨b,rfl,hb,⟨fun _=>⟨A2,n,c2,mb,0,hl,SB.mk hbk (aO C c hb),Sr.si ⟨eh how (Nat.zero_le _),fun g hg=>aO C c (bH how g hg).1⟩,hc2,hse,aO C c hmb,by simp[iH.new]⟩,fun h=>by simp only[iH.new] at h;omega,by simp only[iH.new];omega,hsm,fun x hx=>by simp[iH.new] at hx,by simp only[iH.new,hl];simp;omega⟩⟩,hbel⟩
theorem kU {x:iH} (_:1≤M.L.th) (h:(cI M m x).1=true):2*M.L.th≤(cI M m x).2.2.at_:=by
 unfold cI at h⊢
 split
 ·assumption
 ·split
  ·rename_i h2;simp only[iH.part,iH.look];omega
  ·rename_i h1 h2;rw[if_neg h1,if_neg h2] at h;cases h
theorem uh {y:iH} {x:tY} (hm:aj w C M m) (hst:al w C s sg M.L me t) (h:jJ w C c s sg b M.L x) (h0:x=some y):Calls Tryz.prog 88 #[.pointer (some ⟨b,0,none⟩),.pointer (some ⟨M.b,0,none⟩)] w (MW C c s C8 M (bK M m t x).1 (bK M m t x).2.1 (fun w' C'=>al w' C' s sg M.L me (bK M m t x).2.2.1∧jJ w' C' c s sg b M.L (bK M m t x).2.2.2) w):=by
 subst h0
 obtain⟨p,sb,bs,rfl,hsc⟩:=h.ex
 obtain⟨⟨A,n,cap,hn,st,hrow⟩,hme,hsp,hsm⟩:=hst
 have hth:=hm.ok.th
 obtain⟨r,hr⟩:∃ r,cI M m y=r:=⟨_,rfl⟩
 have hend:=fun h=>(kU (M:=M) (m:=m) (x:=y) hth.1 h)
 have Fp:=fun W C' (h1:aj W C' M m) (h2:lE W C' c s bs M.L y)=>rr h1 h2
 rw[hr] at hend
 simp only[hr] at Fp
 obtain⟨r1,m',y'⟩:=r
 have HST:Hid (bK M m t (some y)=(r1,m',if r1 then { t with ret:=y'.kept } else t,some y')):=Lib.hid (by unfold bK;simp only[Option.getD,hr])
 have AQ:=Lib.hid hend
 have HN:=Lib.hid hn
 have mC:=Lib.hid hsm
 clear hn hsm hr hend h
 go_enter Tryz.func88,Tryz.ntmps88
 have fr:=Fr.refl C (dK c s) C8 w
 have ag:=aB.refl w.heap.size C
 go_wp2_with fail
 refine(Fp _ _ hm hsc).mono ?_;clear hm hsc;rintro e w1 ⟨rfl,⟨C1,aG,hm,hsc⟩,hf⟩
 revert st;revert hrow;revert sb;revert fr;revert ag;refine kx hf aG (eE c s) xH ?_;clear hf aG;intro ag fr sb hrow st
 try dsimp only at hm hsc
 cases r1
 ·skip
  go_wp2_with fail
  go_ret
  exact⟨by rw[HST.out];rfl,⟨_,ag,by rw[HST.out];exact hm,by rw[HST.out];exact⟨⟨⟨A,n,cap,HN.out,st,hrow⟩,hme,hsp,mC.out⟩,⟨_,sb,bs,rfl,hsc⟩⟩⟩,fr⟩
 ·skip
  have hat:=AQ.out rfl
  have hsk:=Lib.hid hsc.vY
  obtain⟨Ak,Af,nk,nf,ck,cf,bg,vn,vm,hnk,hnf,ss,hrk,hgv⟩:=hsc.give hat
  have CW:=Lib.hid hnk
  clear hnk
  clear hrow hgv
  go_wp2_with fail
  revert ss;revert st;revert hrk;revert hsc;revert hm;revert sb;revert fr;refine bD ?_;intro fr sb hm hsc hrk st ss
  obtain⟨q1,q2,q3,qi⟩:=cF sb st ss
  refine aY sb st ss 13 [] [0,1,2,3,4,5,6,7,8,9,10,11,12] [13] (by kernel_rfl) (by kernel_rfl) ?_
  refine af ?_;try simp only[ox]
  repeat(go_big_quiet_step (fail))
  refine wpQuiet_nil ?_
  refine ae _ _ _ (by kernel_rfl) ?_;try simp only[ox]
  clear qi q1 q2 q3
  have z1:=And.intro sb (And.intro st ss)
  revert fr sb hm hsc hrk ss;refine kT st 4 (.slice Ak nk ck) (ej c s) ag ?_;clear st;rintro w2 e1 fr st sb hm hsc hrk ss
  simp only[sx] at st
  go_wp2_with fail
  try rw[e1]
  refine NoPanic.normal ?_
  go_wp2_with fail
  clear z1 e1
  go_ret
  exact⟨by rw[HST.out];rfl,⟨_,ag,by rw[HST.out];exact hm,by rw[HST.out];exact⟨⟨⟨Ak,nk,ck,CW.out,st,hrk⟩,hme,hsp,hsk.out⟩,⟨_,sb,bs,rfl,hsc⟩⟩⟩,fr⟩
theorem ui {x:tY} (hm:aj w C M m) (hst:al w C s sg M.L me t) (h:jJ w C c s sg b M.L x) (hle:t.ret.length≤100000) (h0:x=none):Calls Tryz.prog 88 #[.pointer (some ⟨b,0,none⟩),.pointer (some ⟨M.b,0,none⟩)] w (MW C c s C8 M (bK M m t x).1 (bK M m t x).2.1 (fun w' C'=>al w' C' s sg M.L me (bK M m t x).2.2.1∧jJ w' C' c s sg b M.L (bK M m t x).2.2.2) w):=by
 subst h0
 obtain⟨p,sb,hp⟩:=h.ex
 have hp':p= .pointer none:=hp
 subst hp'
 have He:=Lib.hid (fun (W:World) (C':Nat→Nat) (A:Option Addr) (n cap:Nat) (hl:t.ret.length=n) (hrow:Row W C' s 3 1 (.slice A n cap) n (cv t.ret))=>AP M.L hm.ok t.ret A n cap W.heap.size C' c s W (Sl.cB hrow.own) (Nat.le_refl _) hl (by omega) (by obtain⟨A',c',h1,-,h2,-⟩:=hrow.form;injection h1 with e1 _ e2;subst e1 e2;exact h2) hst.small)
 clear hle hp
 obtain⟨⟨A,n,cap,hn,st,hrow⟩,hme,hsp,hsm⟩:=hst
 have hth:=hm.ok.th
 obtain⟨r,hr⟩:∃ r,cI M m (.new t.ret)=r:=⟨_,rfl⟩
 have hend:=fun h=>(kU (M:=M) (m:=m) (x:=(.new t.ret)) hth.1 h)
 have Fp:=fun bs W C' (h1:aj W C' M m) (h2:lE W C' c s bs M.L (.new t.ret))=>rr h1 h2
 rw[hr] at hend
 simp only[hr] at Fp
 obtain⟨r1,m',y'⟩:=r
 have HST:Hid (bK M m t none=(r1,m',if r1 then { t with ret:=y'.kept } else t,some y')):=Lib.hid (by unfold bK;simp only[Option.getD,hr])
 have AQ:=Lib.hid hend
 have HN:=Lib.hid hn
 have mC:=Lib.hid hsm
 clear hsm hr hend h
 go_enter Tryz.func88,Tryz.ntmps88
 have fr:=Fr.refl C (dK c s) C8 w
 have ag:=aB.refl w.heap.size C
 go_wp2_with fail
 revert st;revert hrow;revert hm;revert sb;revert fr;refine bD ?_;intro fr sb hm hrow st
 obtain⟨q1,q2,qi⟩:=bl sb st
 refine aA sb st 15 [] [0,1,2,3,4,5,6,7,8,9,10,11,12,13,14] [15,16,17,18] (by kernel_rfl) (by kernel_rfl) ?_
 refine af ?_;try simp only[ox]
 repeat(go_big_quiet_step (fail))
 refine wpQuiet_nil ?_
 refine ae _ _ _ (by kernel_rfl) ?_;try simp only[ox]
 clear qi q1 q2
 go_wp2_with fail
 have hk:=He.out _ _ A n cap hn hrow;revert ag fr sb hm hrow st;refine fL hk ?_;clear hk;rintro w1 bs C1 ag fr hsc sb hm hrow st
 clear hn He
 replace Fp:=Fp bs
 have z1:=And.intro sb st
 revert fr hsc hm hrow st;refine st1 sb 1 (.pointer (some ⟨bs,0,none⟩)) (aR c s) ag ?_;clear sb;rintro w2 e1 fr sb hsc hm hrow st
 simp only[sx] at sb
 go_wp2_with fail
 refine NoPanic.normal ?_
 go_wp2_with fail
 clear z1 e1
 go_wp2_with fail
 refine(Fp _ _ hm hsc).mono ?_;clear hm hsc;rintro e w3 ⟨rfl,⟨C3,aG,hm,hsc⟩,hf⟩
 revert ag fr hrow st sb;refine kx hf aG (eE c s) xH ?_;clear hf aG;intro ag fr hrow st sb
 try dsimp only at hm hsc
 cases r1
 ·skip
  go_wp2_with fail
  go_ret
  exact⟨by rw[HST.out];rfl,⟨_,ag,by rw[HST.out];exact hm,by rw[HST.out];exact⟨⟨⟨A,n,cap,HN.out,st,hrow⟩,hme,hsp,mC.out⟩,⟨_,sb,bs,rfl,hsc⟩⟩⟩,fr⟩
 ·skip
  have hat:=AQ.out rfl
  have hsk:=Lib.hid hsc.vY
  obtain⟨Ak,Af,nk,nf,ck,cf,bg,vn,vm,hnk,hnf,ss,hrk,hgv⟩:=hsc.give hat
  have CW:=Lib.hid hnk
  clear hnk
  clear hrow hgv
  go_wp2_with fail
  revert ss;revert st;revert hrk;revert hsc;revert hm;revert sb;revert fr;refine bD ?_;intro fr sb hm hsc hrk st ss
  obtain⟨q1,q2,q3,qi⟩:=cF sb st ss
  refine aY sb st ss 13 [] [0,1,2,3,4,5,6,7,8,9,10,11,12] [13] (by kernel_rfl) (by kernel_rfl) ?_
  refine af ?_;try simp only[ox]
  repeat(go_big_quiet_step (fail))
  refine wpQuiet_nil ?_
  refine ae _ _ _ (by kernel_rfl) ?_;try simp only[ox]
  clear qi q1 q2 q3
  have z2:=And.intro sb (And.intro st ss)
  revert fr sb hm hsc hrk ss;refine kT st 4 (.slice Ak nk ck) (ej c s) ag ?_;clear st;rintro w4 e1 fr st sb hm hsc hrk ss
  simp only[sx] at st
  go_wp2_with fail
  try rw[e1]
  refine NoPanic.normal ?_
  go_wp2_with fail
  clear z2 e1
  go_ret
  exact⟨by rw[HST.out];rfl,⟨_,ag,by rw[HST.out];exact hm,by rw[HST.out];exact⟨⟨⟨Ak,nk,ck,CW.out,st,hrk⟩,hme,hsp,hsk.out⟩,⟨_,sb,bs,rfl,hsc⟩⟩⟩,fr⟩
theorem oz {x:tY} (hm:aj w C M m) (hst:al w C s sg M.L me t) (h:jJ w C c s sg b M.L x) (hle:t.ret.length≤100000):Calls Tryz.prog 88 #[.pointer (some ⟨b,0,none⟩),.pointer (some ⟨M.b,0,none⟩)] w (MW C c s C8 M (bK M m t x).1 (bK M m t x).2.1 (fun w' C'=>al w' C' s sg M.L me (bK M m t x).2.2.1∧jJ w' C' c s sg b M.L (bK M m t x).2.2.2) w):=by
 cases h0:x with
 | none=>exact h0 ▸ ui hm hst h hle h0
 | some y=>exact h0 ▸ uh hm hst h h0
def wa:List (Option TypeId):=some 182::some 185::C8
theorem Fq:∀ x,x∈LM→x∈wa:=by decide
theorem Da:∀ x,x∈C8→x∈wa:=by decide
theorem xI:∀ x,x∈E5→x∈wa:=by decide
theorem we {x:tY} (hth:1≤M.L.th) (h:(bK M m t x).1=true):∃ y,(bK M m t x).2.2.2=some y∧2*M.L.th≤y.at_:=
 ⟨_,rfl,kU hth h⟩
def j5.Live (e:j5):Prop:=∀ a,e.scan=none→e.alloc=some a→0≤a.left∧a.got=0
theorem AR {a:gL} (hL:M.L.Ok) (hg:a.got=0) (hat:1≤a.at_∧a.at_≤M.L.nd):0≤(cp M m a).2.2.got∧(cp M m a).2.2.got≤1000:=by
 have hnd:=hL.nd
 obtain⟨got,at_,left,found,free⟩:=a
 simp only at hg hat
 subst hg
 unfold cp
 simp only[gL.on]
 split
 ·split
  ·exact⟨by simp only;omega,by simp only;omega⟩
  ·exact⟨by simp,by simp⟩
 ·split
  ·exact⟨by simp,by simp⟩
  ·exact⟨by simp,by simp⟩
theorem sm {e:j5} {x:tY} (hm:aj w C M m) (hst:al w C s sg M.L me t) (h:fh w C c s sg b M.L e) (hle:t.ret.length≤100000) (h0:e.scan=some x):Calls Tryz.prog 109 #[.pointer (some ⟨b,0,none⟩),.pointer (some ⟨M.b,0,none⟩)] w (MW C c s wa M (aF M me m t e).1 (aF M me m t e).2.1 (fun w' C'=>al w' C' s sg M.L me (aF M me m t e).2.2.1∧fh w' C' c s sg b M.L (aF M me m t e).2.2.2) w):=by
 obtain⟨short,alloc,scan,done⟩:=e
 simp only at h0
 subst h0
 obtain⟨pa,pw,sb,⟨bw,rfl,hsw⟩,-⟩:=h.ex
 simp only at sb
 have hth:=hm.ok.th
 obtain⟨r,hr⟩:∃ r,bK M m t x=r:=⟨_,rfl⟩
 have hend:=fun h=>(we (M:=M) (m:=m) (t:=t) (x:=x) hth.1 h)
 have Ex:=fun W C' (h1:aj W C' M m) (h2:al W C' s sg M.L me t) (h3:jJ W C' c s sg bw M.L x)=>oz h1 h2 h3 hle
 rw[hr] at hend
 simp only[hr] at Ex
 obtain⟨r1,m',t',x'⟩:=r
 have HST:Hid (aF M me m t ⟨short,alloc,some x,done⟩=if r1=false then (false,m',t',⟨short,alloc,some x',done⟩) else (((x'.getD (.new [])).freed).isEmpty,m',t',⟨((x'.getD (.new [])).freed).isEmpty,none,none,true⟩)):=Lib.hid (by unfold aF;simp only[hr])
 have AQ:=Lib.hid hend
 clear hr hend h
 go_enter Tryz.func109,Tryz.ntmps109
 have fr:=Fr.refl C (dK c s) wa w
 have ag:=aB.refl w.heap.size C
 go_wp2_with fail
 refine(Ex _ _ hm hst hsw).mono ?_;clear hm hst hsw;rintro e w1 ⟨rfl,⟨C1,aG,hm,hst,hsw⟩,hf⟩
 revert sb;revert fr;revert ag;refine kx hf aG (fun _ h=>h) Da ?_;clear hf aG;intro ag fr sb
 try dsimp only at hm hst hsw
 cases r1
 ·skip
  go_wp2_with fail
  go_ret
  exact⟨by rw[HST.out];rfl,⟨_,ag,by rw[HST.out];exact hm,by rw[HST.out];exact⟨hst,⟨_,_,sb,⟨bw,rfl,hsw⟩,fun h=>by cases h⟩⟩⟩,fr⟩
 ·skip
  obtain⟨y,hy,hat⟩:=AQ.out rfl
  subst hy
  obtain⟨p,sw,bs,rfl,hsc⟩:=hsw.ex
  obtain⟨Ak,Af,nk,nf,ck,cf,bg,vn,vm,hnk,hnf,ss,hrk,hgv⟩:=hsc.give hat
  have hie:((nf:Int)==0)=y.freed.isEmpty:=by
   rw[←hnf]
   cases y.freed with
   | nil=>rfl
   | cons z zs=>exact beq_eq_false_iff_ne.2 (by simp only[List.length_cons];omega)
  obtain⟨q,hq⟩:∃ q,((nf:Int)==0)=q:=⟨_,rfl⟩
  rw[hq] at hie
  have Js:=Lib.hid hie
  clear hie hnf hnk hrk hgv hsc hsw
  have z1:=And.intro sb (And.intro sw ss)
  revert ss;revert sw;revert hst;revert hm;revert fr;refine st1 sb 1 (.bool q) (aR c s) ag ?_;clear sb;rintro w2 e1 fr sb hm hst sw ss
  simp only[sx] at sb
  have z2:=And.intro sb (And.intro sw ss)
  revert fr hm hst sw ss;refine st1 sb 4 (.bool true) (aR c s) ag ?_;clear sb;rintro w3 e2 fr sb hm hst sw ss
  simp only[sx] at sb
  have z3:=And.intro sb (And.intro sw ss)
  revert fr hm hst sw ss;refine st1 sb 3 (.pointer none) (aR c s) ag ?_;clear sb;rintro w4 e3 fr sb hm hst sw ss
  simp only[sx] at sb
  have z4:=And.intro sb (And.intro sw ss)
  revert fr hm hst sw ss;refine st1 sb 2 (.pointer none) (aR c s) ag ?_;clear sb;rintro w5 e4 fr sb hm hst sw ss
  simp only[sx] at sb
  go_wp2_with fail
  clear z1 e1 z2 e2 z3 e3 z4 e4
  go_ret
  exact⟨by rw[HST.out,Js.out];rfl,⟨_,ag,by rw[HST.out];exact hm,by rw[HST.out];exact⟨hst,⟨_,_,by rw[Js.out] at sb;exact sb,rfl,fun _=>rfl⟩⟩⟩,fr⟩
theorem sn {e:j5} {x:tY} (hm:aj w C M m) (hst:al w C s sg M.L me t) (h:fh w C c s sg b M.L e) (hle:t.ret.length≤100000) (h0:e.scan=some x):Calls Tryz.prog 73 #[.pointer (some ⟨b,0,none⟩),.pointer (some ⟨M.b,0,none⟩)] w (MW C c s wa M (aF M me m t e).1 (aF M me m t e).2.1 (fun w' C'=>al w' C' s sg M.L me (aF M me m t e).2.2.1∧fh w' C' c s sg b M.L (aF M me m t e).2.2.2) w):=by
 have Ex:=fun W C' (h1:aj W C' M m) (h2:al W C' s sg M.L me t) (h3:fh W C' c s sg b M.L e)=>sm h1 h2 h3 hle h0
 obtain⟨pa,pw,sb,hpw,hpa⟩:=h.ex
 rw[h0] at hpw
 obtain⟨bw,rfl,hsw⟩:=hpw
 have hc:=sb.blk.cells
 clear hpa hsw h0
 generalize aF M me m t e=r at *
 go_enter Tryz.func73,Tryz.ntmps73
 go_wp2_with fail
 refine(Ex _ _ hm hst h).mono ?_
 rintro e w2 ⟨rfl,own,fr⟩
 go_wp2_with fail
 go_ret
 exact⟨rfl,own,fr⟩
theorem sq {e:j5} {a:gL} (hm:aj w C M m) (hst:al w C s sg M.L me t) (h:fh w C c s sg b M.L e) (_:t.ret.length≤100000) (hlive:e.Live) (h0:e.scan=none) (h1:e.alloc=some a):Calls Tryz.prog 73 #[.pointer (some ⟨b,0,none⟩),.pointer (some ⟨M.b,0,none⟩)] w (MW C c s wa M (aF M me m t e).1 (aF M me m t e).2.1 (fun w' C'=>al w' C' s sg M.L me (aF M me m t e).2.2.1∧fh w' C' c s sg b M.L (aF M me m t e).2.2.2) w):=by
 have hl:=hlive a h0 h1
 obtain⟨short,alloc,scan,done⟩:=e
 simp only at h0 h1
 subst h0 h1
 obtain⟨pa,pw,sb,hpw,hpa⟩:=h.ex
 have AS:pw= .pointer none:=hpw
 subst AS
 obtain⟨ba,rfl,hal,Hq⟩:=hpa rfl
 have hat:=hal.at_
 simp only at sb
 obtain⟨⟨A,n,cap,hn,st,hrow⟩,hme,hsp,hsm⟩:=hst
 obtain⟨r,hr⟩:∃ r,cp M m a=r:=⟨_,rfl⟩
 have oA:=AR (m:=m) hm.ok hl.2 hat
 rw[hr] at oA
 have Fs:=fun W C' (h1:aj W C' M m) (h2:mo W C' c ba M.L a)=>n9 h1 h2 hl.1
 simp only[hr] at Fs
 obtain⟨r1,m',a2⟩:=r
 have HST:Hid (aF M me m t ⟨short,some a,none,done⟩=if r1=false then (false,m',t,⟨short,some a2,none,done⟩) else if a2.got≠0 then (true,m',{ t with spare:=a2.got },⟨short,some a2,none,done⟩) else (done || t.ret.isEmpty,m',{ t with spare:=0 },⟨done || t.ret.isEmpty,some a2,some none,done⟩)):=Lib.hid (by unfold aF;simp only;unfold km;simp only[hr])
 have HN:=Lib.hid hn
 have mC:=Lib.hid hsm
 clear hn hsm hr h hpa hl hlive Hq
 go_enter Tryz.func73,Tryz.ntmps73
 have fr:=Fr.refl C (dK c s) wa w
 have ag:=aB.refl w.heap.size C
 go_wp2_with fail
 refine(Fs _ _ hm hal).mono ?_;clear hm hal;rintro e w1 ⟨rfl,hm,hal,hf⟩
 revert st;revert hrow;revert sb;revert fr;refine dS hf (eE c s) xI ag ?_;clear hf;intro fr sb hrow st
 try dsimp only at hm hal
 cases r1
 ·skip
  go_wp2_with fail
  go_ret
  exact⟨by rw[HST.out];rfl,⟨_,ag,by rw[HST.out];exact hm,by rw[HST.out];exact⟨⟨⟨A,n,cap,HN.out,st,hrow⟩,hme,hsp,mC.out⟩,⟨_,_,sb,rfl,fun _=>⟨ba,rfl,hal,oA⟩⟩⟩⟩,fr⟩
 ·skip
  obtain⟨got,at2,Hr,Ft,Hs⟩:=a2
  have Fu:=Lib.hid hal
  obtain⟨eC,AT,AU,AV⟩:=hal
  simp only at eC AT AU AV oA
  clear Fu
  go_wp2_with fail
  revert eC;revert st;revert hrow;revert hm;revert sb;revert fr;refine bD ?_;intro fr sb hm hrow st eC
  obtain⟨q1,q2,q3,qi⟩:=cF sb st eC
  refine aY sb st eC 13 [] [0,1,2,3,4,5,6,7,8,9,10,11,12] [13] (by kernel_rfl) (by kernel_rfl) ?_
  refine af ?_;try simp only[ox]
  repeat(go_big_quiet_step (fail))
  refine wpQuiet_nil ?_
  refine ae _ _ _ (by kernel_rfl) ?_;try simp only[ox]
  clear qi q1 q2 q3
  by_cases hg0:got=0
  ·skip
   subst hg0
   obtain⟨q,hq⟩:∃ q,((n:Int)==0)=q:=⟨_,rfl⟩
   have HQ:Hid (t.ret.isEmpty=q):=Lib.hid (by
    rw[←hq,←HN.out]
    cases t.ret with
    | nil=>rfl
    | cons z zs=>exact(beq_eq_false_iff_ne.2 (by simp only[List.length_cons];omega)).symm)
   cases done
   ·skip
    have z1:=And.intro sb (And.intro st eC)
    revert eC;revert hrow;revert hm;revert sb;revert fr;refine kT st 3 (.int .i64 0) (ej c s) ag ?_;clear st;rintro w2 e1 fr st sb hm hrow eC
    simp only[sx] at st
    have z2:=And.intro sb (And.intro st eC)
    revert fr hm hrow eC st;refine st1 sb 1 (.bool q) (aR c s) ag ?_;clear sb;rintro w3 e2 fr sb hm hrow eC st
    simp only[sx] at sb
    go_wp2_with fail
    try rw[e1]
    refine NoPanic.normal ?_
    go_wp2_with fail
    clear z1 e1 z2 e2
    revert ag fr hm hrow eC st sb;refine fL (fE sg M.L s C c _) ?_;rintro w4 bw C4 ag fr hsw hm hrow eC st sb
    have z3:=And.intro sb (And.intro st eC)
    revert fr hsw hm hrow eC st;refine st1 sb 3 (.pointer (some ⟨bw,0,none⟩)) (aR c s) ag ?_;clear sb;rintro w5 e1 fr sb hsw hm hrow eC st
    simp only[sx] at sb
    go_wp2_with fail
    clear z3 e1
    go_ret
    exact⟨by rw[HST.out,HQ.out];rfl,⟨_,ag,by rw[HST.out];exact hm,by rw[HST.out,HQ.out];exact⟨⟨⟨A,n,cap,HN.out,st,hrow⟩,hme,by simp,mC.out⟩,⟨_,_,sb,⟨bw,rfl,hsw⟩,fun h=>by cases h⟩⟩⟩,fr⟩
   ·skip
    have z1:=And.intro sb (And.intro st eC)
    revert eC;revert hrow;revert hm;revert sb;revert fr;refine kT st 3 (.int .i64 0) (ej c s) ag ?_;clear st;rintro w2 e1 fr st sb hm hrow eC
    simp only[sx] at st
    have z2:=And.intro sb (And.intro st eC)
    revert fr hm hrow eC st;refine st1 sb 1 (.bool true) (aR c s) ag ?_;clear sb;rintro w3 e2 fr sb hm hrow eC st
    simp only[sx] at sb
    go_wp2_with fail
    try rw[e1]
    refine NoPanic.normal ?_
    go_wp2_with fail
    clear z1 e1 z2 e2
    revert ag fr hm hrow eC st sb;refine fL (fE sg M.L s C c _) ?_;rintro w4 bw C4 ag fr hsw hm hrow eC st sb
    have z3:=And.intro sb (And.intro st eC)
    revert fr hsw hm hrow eC st;refine st1 sb 3 (.pointer (some ⟨bw,0,none⟩)) (aR c s) ag ?_;clear sb;rintro w5 e1 fr sb hsw hm hrow eC st
    simp only[sx] at sb
    go_wp2_with fail
    clear z3 e1
    go_ret
    exact⟨by rw[HST.out,HQ.out];rfl,⟨_,ag,by rw[HST.out];exact hm,by rw[HST.out,HQ.out];exact⟨⟨⟨A,n,cap,HN.out,st,hrow⟩,hme,by simp,mC.out⟩,⟨_,_,sb,⟨bw,rfl,hsw⟩,fun h=>by cases h⟩⟩⟩,fr⟩
  ·skip
   have dg:(got !=0)=true:=bne_iff_ne.2 hg0
   have z1:=And.intro sb (And.intro st eC)
   revert fr sb hm hrow eC;refine kT st 3 (.int .i64 got) (ej c s) ag ?_;clear st;rintro w2 e1 fr st sb hm hrow eC
   simp only[sx] at st
   go_wp2_with fail
   try rw[e1]
   refine NoPanic.normal ?_
   go_wp2_with fail
   clear z1 e1
   go_ret
   have sr:=HST.out
   simp only[if_neg (show ¬ true=false by decide),if_pos hg0] at sr
   exact⟨by rw[sr];rfl,⟨_,ag,by rw[sr];exact hm,by rw[sr];exact⟨⟨⟨A,n,cap,HN.out,st,hrow⟩,hme,oA,mC.out⟩,⟨_,_,sb,rfl,fun _=>⟨ba,rfl,⟨eC,AT,AU,AV⟩,oA⟩⟩⟩⟩,fr⟩
variable {L:Ly}
theorem uj (hL:L.Ok) (x:Int):(0≤(hM L x).left∧(hM L x).got=0)∧1≤(hM L x).at_∧(hM L x).at_≤L.nd:=by
 have hnd:=hL.nd
 unfold hM
 refine⟨⟨by simp only;omega,rfl⟩,?_⟩
 simp only
 split
 ·rename_i h
  unfold Ly.node at h
  simp only[Bool.and_eq_true,decide_eq_true_eq] at h
  exact h
 ·omega
theorem su {e:j5}  (hm:aj w C M m) (hst:al w C s sg M.L me t) (h:fh w C c s sg b M.L e) (_:t.ret.length≤100000) (h0:e.scan=none) (h1:e.alloc=none) (h2:t.spare=0):Calls Tryz.prog 73 #[.pointer (some ⟨b,0,none⟩),.pointer (some ⟨M.b,0,none⟩)] w (MW C c s wa M (aF M me m t e).1 (aF M me m t e).2.1 (fun w' C'=>al w' C' s sg M.L me (aF M me m t e).2.2.1∧fh w' C' c s sg b M.L (aF M me m t e).2.2.2) w):=by
 obtain⟨short,alloc,scan,done⟩:=e
 simp only at h0 h1
 subst h0 h1
 obtain⟨pa,pw,sb,hpw,hpa⟩:=h.ex
 have AS:pw= .pointer none:=hpw
 have Fv:pa= .pointer none:=hpa rfl
 subst AS Fv
 obtain⟨a,ha⟩:∃ a,hM M.L (iV M.L me)=a:=⟨_,rfl⟩
 have hok:=uj hm.ok (iV M.L me)
 have MO:=fun (C':Nat→Nat) (W:World)=>(show Calls Tryz.prog 110 #[M.L.val,.int .i64 (iV M.L me)] W (Es C' c M.L a W) from ha ▸ Ai M.L hm.ok (iV M.L me) C' c W)
 rw[ha] at hok
 obtain⟨hl,hat⟩:=hok
 have Fb:=Lib.hid h2
 simp only at sb
 obtain⟨⟨A,n,cap,hn,st,hrow⟩,hme,hsp,hsm⟩:=hst
 obtain⟨r,hr⟩:∃ r,cp M m a=r:=⟨_,rfl⟩
 have oA:=AR (m:=m) hm.ok hl.2 hat
 rw[hr] at oA
 have Fs:=fun ba W C' (h1:aj W C' M m) (h2:mo W C' c ba M.L a)=>n9 h1 h2 hl.1
 simp only[hr] at Fs
 obtain⟨r1,m',a2⟩:=r
 have HST:Hid (aF M me m t ⟨short,none,none,done⟩=if r1=false then (false,m',t,⟨short,some a2,none,done⟩) else if a2.got≠0 then (true,m',{ t with spare:=a2.got },⟨short,some a2,none,done⟩) else (done || t.ret.isEmpty,m',{ t with spare:=0 },⟨done || t.ret.isEmpty,some a2,some none,done⟩)):=Lib.hid (by unfold aF;simp only;rw[if_neg (by rw[Fb.out];simp),ha];unfold km;simp only[hr])
 have HN:=Lib.hid hn
 have mC:=Lib.hid hsm
 rw[h2] at st
 have hsp':(0:Int)≤0∧(0:Int)≤1000:=by omega
 clear hn hsm hr h hpa hl ha hpw h2
 go_enter Tryz.func73,Tryz.ntmps73
 have fr:=Fr.refl C (dK c s) wa w
 have ag:=aB.refl w.heap.size C
 go_wp2_with fail
 revert st;revert hrow;revert hm;revert sb;revert fr;refine bD ?_;intro fr sb hm hrow st
 obtain⟨q1,q2,qi⟩:=bl sb st
 refine aA sb st 13 [] [0,1,2,3,4,5,6,7,8,9,10,11] [12,13,14,15,16] (by kernel_rfl) (by kernel_rfl) ?_
 refine af ?_;try simp only[ox]
 repeat(go_big_quiet_step (fail))
 refine wpQuiet_nil ?_
 refine ay rfl (fun K' hK'=> ?_);go_simp
 ((with_reducible refine(ug hm.ok (t:=t) (me:=me) ⟨⟨A,n,cap,HN.out,by rw[Fb.out];exact st,hrow⟩,hme,hsp,mC.out⟩).mono ?_);rintro e w1 ⟨rfl,hb1⟩)
 revert fr sb hm hrow st;refine dX hb1 ?_;intro fr sb hm hrow st
 refine hK' _ _ (eJ sb st) ?_;clear hK' K'
 refine ae _ _ _ (by kernel_rfl) ?_;try simp only[ox]
 clear qi q1 q2
 go_wp2_with fail
 revert ag fr sb hm hrow st;refine fL (MO C _) ?_;rintro w2 ba C2 ag fr hal sb hm hrow st
 replace Fs:=Fs ba
 have z1:=And.intro sb st
 revert fr hal hm hrow st;refine st1 sb 2 (.pointer (some ⟨ba,0,none⟩)) (aR c s) ag ?_;clear sb;rintro w3 e1 fr sb hal hm hrow st
 simp only[sx] at sb
 go_wp2_with fail
 refine NoPanic.normal ?_
 go_wp2_with fail
 clear z1 e1
 go_wp2_with fail
 refine(Fs _ _ hm hal).mono ?_;clear hm hal;rintro e w4 ⟨rfl,hm,hal,hf⟩
 revert fr hrow st sb;refine dS hf (eE c s) xI ag ?_;clear hf;intro fr hrow st sb
 try dsimp only at hm hal
 cases r1
 ·skip
  go_wp2_with fail
  go_ret
  exact⟨by rw[HST.out];rfl,⟨_,ag,by rw[HST.out];exact hm,by rw[HST.out];exact⟨⟨⟨A,n,cap,HN.out,by rw[←Fb.out] at st;exact st,hrow⟩,hme,hsp,mC.out⟩,⟨_,_,sb,rfl,fun _=>⟨ba,rfl,hal,oA⟩⟩⟩⟩,fr⟩
 ·skip
  obtain⟨got,at2,Hr,Ft,Hs⟩:=a2
  have Fu:=Lib.hid hal
  obtain⟨eC,AT,AU,AV⟩:=hal
  simp only at eC AT AU AV oA
  clear Fu
  go_wp2_with fail
  revert eC;revert st;revert hrow;revert hm;revert sb;revert fr;refine bD ?_;intro fr sb hm hrow st eC
  obtain⟨q1,q2,q3,qi⟩:=cF sb st eC
  refine aY sb st eC 13 [] [0,1,2,3,4,5,6,7,8,9,10,11,12] [13] (by kernel_rfl) (by kernel_rfl) ?_
  refine af ?_;try simp only[ox]
  repeat(go_big_quiet_step (fail))
  refine wpQuiet_nil ?_
  refine ae _ _ _ (by kernel_rfl) ?_;try simp only[ox]
  clear qi q1 q2 q3
  by_cases hg0:got=0
  ·skip
   subst hg0
   obtain⟨q,hq⟩:∃ q,((n:Int)==0)=q:=⟨_,rfl⟩
   have HQ:Hid (t.ret.isEmpty=q):=Lib.hid (by
    rw[←hq,←HN.out]
    cases t.ret with
    | nil=>rfl
    | cons z zs=>exact(beq_eq_false_iff_ne.2 (by simp only[List.length_cons];omega)).symm)
   cases done
   ·skip
    have z2:=And.intro sb (And.intro st eC)
    revert eC;revert hrow;revert hm;revert sb;revert fr;refine kT st 3 (.int .i64 0) (ej c s) ag ?_;clear st;rintro w5 e1 fr st sb hm hrow eC
    simp only[sx] at st
    have z3:=And.intro sb (And.intro st eC)
    revert fr hm hrow eC st;refine st1 sb 1 (.bool q) (aR c s) ag ?_;clear sb;rintro w6 e2 fr sb hm hrow eC st
    simp only[sx] at sb
    go_wp2_with fail
    try rw[e1]
    refine NoPanic.normal ?_
    go_wp2_with fail
    clear z2 e1 z3 e2
    revert ag fr hm hrow eC st sb;refine fL (fE sg M.L s C2 c _) ?_;rintro w7 bw C7 ag fr hsw hm hrow eC st sb
    have z4:=And.intro sb (And.intro st eC)
    revert fr hsw hm hrow eC st;refine st1 sb 3 (.pointer (some ⟨bw,0,none⟩)) (aR c s) ag ?_;clear sb;rintro w8 e1 fr sb hsw hm hrow eC st
    simp only[sx] at sb
    go_wp2_with fail
    clear z4 e1
    go_ret
    exact⟨by rw[HST.out,HQ.out];rfl,⟨_,ag,by rw[HST.out];exact hm,by rw[HST.out,HQ.out];exact⟨⟨⟨A,n,cap,HN.out,st,hrow⟩,hme,by simp,mC.out⟩,⟨_,_,sb,⟨bw,rfl,hsw⟩,fun h=>by cases h⟩⟩⟩,fr⟩
   ·skip
    have z2:=And.intro sb (And.intro st eC)
    revert eC;revert hrow;revert hm;revert sb;revert fr;refine kT st 3 (.int .i64 0) (ej c s) ag ?_;clear st;rintro w5 e1 fr st sb hm hrow eC
    simp only[sx] at st
    have z3:=And.intro sb (And.intro st eC)
    revert fr hm hrow eC st;refine st1 sb 1 (.bool true) (aR c s) ag ?_;clear sb;rintro w6 e2 fr sb hm hrow eC st
    simp only[sx] at sb
    go_wp2_with fail
    try rw[e1]
    refine NoPanic.normal ?_
    go_wp2_with fail
    clear z2 e1 z3 e2
    revert ag fr hm hrow eC st sb;refine fL (fE sg M.L s C2 c _) ?_;rintro w7 bw C7 ag fr hsw hm hrow eC st sb
    have z4:=And.intro sb (And.intro st eC)
    revert fr hsw hm hrow eC st;refine st1 sb 3 (.pointer (some ⟨bw,0,none⟩)) (aR c s) ag ?_;clear sb;rintro w8 e1 fr sb hsw hm hrow eC st
    simp only[sx] at sb
    go_wp2_with fail
    clear z4 e1
    go_ret
    exact⟨by rw[HST.out,HQ.out];rfl,⟨_,ag,by rw[HST.out];exact hm,by rw[HST.out,HQ.out];exact⟨⟨⟨A,n,cap,HN.out,st,hrow⟩,hme,by simp,mC.out⟩,⟨_,_,sb,⟨bw,rfl,hsw⟩,fun h=>by cases h⟩⟩⟩,fr⟩
  ·skip
   have dg:(got !=0)=true:=bne_iff_ne.2 hg0
   have z2:=And.intro sb (And.intro st eC)
   revert fr sb hm hrow eC;refine kT st 3 (.int .i64 got) (ej c s) ag ?_;clear st;rintro w5 e1 fr st sb hm hrow eC
   simp only[sx] at st
   go_wp2_with fail
   try rw[e1]
   refine NoPanic.normal ?_
   go_wp2_with fail
   clear z2 e1
   go_ret
   have sr:=HST.out
   simp only[if_neg (show ¬ true=false by decide),if_pos hg0] at sr
   exact⟨by rw[sr];rfl,⟨_,ag,by rw[sr];exact hm,by rw[sr];exact⟨⟨⟨A,n,cap,HN.out,st,hrow⟩,hme,oA,mC.out⟩,⟨_,_,sb,rfl,fun _=>⟨ba,rfl,⟨eC,AT,AU,AV⟩,oA⟩⟩⟩⟩,fr⟩
theorem sv {e:j5}  (hm:aj w C M m) (hst:al w C s sg M.L me t) (h:fh w C c s sg b M.L e) (_:t.ret.length≤100000) (h0:e.scan=none) (h1:e.alloc=none) (h2:t.spare≠0):Calls Tryz.prog 73 #[.pointer (some ⟨b,0,none⟩),.pointer (some ⟨M.b,0,none⟩)] w (MW C c s wa M (aF M me m t e).1 (aF M me m t e).2.1 (fun w' C'=>al w' C' s sg M.L me (aF M me m t e).2.2.1∧fh w' C' c s sg b M.L (aF M me m t e).2.2.2) w):=by
 have HE:=Lib.hid h
 have J9:=Lib.hid hst
 obtain⟨short,alloc,scan,done⟩:=e
 simp only at h0 h1
 subst h0 h1
 obtain⟨pa,pw,sb,hpw,hpa⟩:=h.ex
 have AS:pw= .pointer none:=hpw
 have Fv:pa= .pointer none:=hpa rfl
 subst AS Fv
 obtain⟨⟨A,n,cap,hn,st,hrow⟩,-,-,-⟩:=hst
 have HST:Hid (aF M me m t ⟨short,none,none,done⟩=(true,m,t,⟨short,none,none,done⟩)):=Lib.hid (by unfold aF;simp only;rw[if_pos h2])
 have dg:(t.spare !=0)=true:=bne_iff_ne.2 h2
 simp only at sb
 have hc:=sb.blk.cells
 have hc2:=st.blk.cells
 clear hn h hpa hpw h2 hrow
 go_enter Tryz.func73,Tryz.ntmps73
 go_wp2_with fail
 refine(aP hm 0).mono ?_
 rintro e w2 ⟨rfl,hm2,hf2⟩
 go_wp2_with fail
 go_ret
 exact⟨by rw[HST.out];rfl,⟨C,aB.refl _ _,by rw[HST.out];exact hm2,by rw[HST.out];exact⟨J9.out.fr hf2 (.inr (by decide)),HE.out.fr hf2 (.inr (by decide))⟩⟩,hf2.mono (iY c s) Fq⟩
theorem m8 {e:j5}  (hm:aj w C M m) (hst:al w C s sg M.L me t) (h:fh w C c s sg b M.L e) (hle:t.ret.length≤100000) (hlive:e.Live):Calls Tryz.prog 73 #[.pointer (some ⟨b,0,none⟩),.pointer (some ⟨M.b,0,none⟩)] w (MW C c s wa M (aF M me m t e).1 (aF M me m t e).2.1 (fun w' C'=>al w' C' s sg M.L me (aF M me m t e).2.2.1∧fh w' C' c s sg b M.L (aF M me m t e).2.2.2) w):=by
 cases h0:e.scan with
 | some x=>exact sn hm hst h hle h0
 | none=>
  cases h1:e.alloc with
  | some a=>exact sq hm hst h hle hlive h0 h1
  | none=>
   by_cases h2:t.spare=0
   ·exact su hm hst h hle h0 h1 h2
   ·exact sv hm hst h hle h0 h1 h2
def Nodes (L:Ly) (l:List Int):Prop:=∀ x∈l,1≤x∧x≤L.nd
theorem Nodes.app {a b:List Int} (h:Nodes L a) (k:Nodes L b):Nodes L (a++b):=fun x hx=>(List.mem_append.1 hx).elim (h x) (k x)
theorem Nodes.filter {a:List Int} (h:Nodes L a) (p:Int→Bool):Nodes L (a.filter p):=fun x hx=>h x (List.mem_filter.1 hx).1
structure qy (L:Ly) (a:gL):Prop where
 at_:1≤a.at_∧a.at_≤L.nd
 left:0≤a.left
 got:a.got=0
theorem sy (hL:L.Ok) (x:Int):qy L (hM L x):=by
 have h:=uj hL x
 exact⟨h.2,h.1.1,h.1.2⟩
theorem Db {a:gL} (hL:M.L.Ok) (hm:ff M m) (h:qy M.L a):Safe M m (cp M m a).2.1∧((cp M m a).1=false→qy M.L (cp M m a).2.2)∧(0≤(cp M m a).2.2.got∧(cp M m a).2.2.got≤M.L.nd):=by
 obtain⟨h1,h2,h3⟩:=h
 have hnd:=hL.nd
 have hmod:=Int.emod_lt_of_pos a.at_ (show 0<M.L.nd by omega)
 have LA:=Int.emod_nonneg a.at_ (show M.L.nd≠0 by omega)
 unfold cp
 split
 ·split
  ·exact⟨yx hm hL h1,fun h=>by simp at h,by simp only;omega⟩
  ·refine⟨.refl hm,fun h=> ?_,by simp only[gL.on];omega⟩
   simp only[decide_eq_false_iff_not] at h
   exact⟨by simp only[gL.on];omega,by simp only[gL.on];omega,h3⟩
 ·split
  ·exact⟨.refl hm,fun _=>⟨h1,h2,h3⟩,by simp only;omega⟩
  ·refine⟨.refl hm,fun h=> ?_,by simp only[gL.on];omega⟩
   simp only[decide_eq_false_iff_not] at h
   exact⟨by simp only[gL.on];omega,by simp only[gL.on];omega,h3⟩
theorem Dc {l:List Int} (hL:M.L.Ok) (hm:ff M m) (h:Nodes M.L l):Safe M m (ez M m l).2.1∧Nodes M.L (ez M m l).2.2:=by
 cases l with
 | nil=>exact⟨.refl hm,h⟩
 | cons x r=>exact⟨ua hm hL (h x (List.mem_cons_self ..)),fun y hy=>h y (List.mem_cons_of_mem _ hy)⟩
structure wh (L:Ly) (s:iH):Prop where
 nodes:Nodes L s.nodes
 kept:Nodes L s.kept
 give:Nodes L s.give
 len:s.kept.length≤s.nodes.length
theorem AW {l:List Int} (h:Nodes L l):wh L (.new l):=⟨h,fun x hx=>by simp[iH.new] at hx,fun x hx=>by simp[iH.new] at hx,by simp[iH.new]⟩
theorem Dd {s:iH} (hL:M.L.Ok) (hm:ff M m) (h:wh M.L s):Safe M m (cI M m s).2.1∧wh M.L (cI M m s).2.2∧(cI M m s).2.2.nodes=s.nodes:=by
 obtain⟨h1,h2,h3,h4⟩:=h
 unfold cI
 split
 ·have:=Dc hL hm h3
  exact⟨this.1,⟨h1,h2,this.2,h4⟩,rfl⟩
 ·split
  ·exact⟨.refl hm,⟨h1,h1.filter _,h1.filter _,List.length_filter_le _ _⟩,rfl⟩
  ·exact⟨.refl hm,⟨h1,h2,h3,h4⟩,rfl⟩
structure bM (L:Ly) (t:cV) (N:Int):Prop where
 spare:0≤t.spare∧t.spare≤L.nd
 ret:Nodes L t.ret
 len:(t.ret.length:Int)≤N
theorem bM.mono {N N':Int} (h:bM L t N) (hN:N≤N'):bM L t N':=⟨h.spare,h.ret,Int.le_trans h.len hN⟩
def uk (L:Ly) (x:tY) (N:Int):Prop:=∀ s,x=some s→wh L s∧(s.nodes.length:Int)≤N
theorem xJ {x:tY} {N:Int} (hL:M.L.Ok) (hm:ff M m) (ht:bM M.L t N) (h:uk M.L x N):Safe M m (bK M m t x).2.1∧bM M.L (bK M m t x).2.2.1 N∧uk M.L (bK M m t x).2.2.2 N∧(bK M m t x).2.2.1.spare=t.spare:=by
 have key:wh M.L (x.getD (.new t.ret))∧((x.getD (.new t.ret)).nodes.length:Int)≤N:=by
  cases x with
  | none=>exact⟨AW ht.ret,ht.len⟩
  | some s=>exact h s rfl
 have hs:=Dd hL hm key.1
 unfold bK
 simp only
 refine⟨hs.1,?_,fun s hs2=> ?_,?_⟩
 ·split
  ·refine⟨ht.spare,hs.2.1.kept,?_⟩
   have h1:=hs.2.1.len
   rw[hs.2.2] at h1
   have h2:=key.2
   simp only
   omega
  ·exact ht
 ·injection hs2 with hs2
  subst hs2
  exact⟨hs.2.1,by rw[hs.2.2];exact key.2⟩
 ·split<;>rfl
structure lI (L:Ly) (e:j5) (N:Int):Prop where
 alloc:∀ a,e.scan=none→e.alloc=some a→qy L a
 scan:∀ x,e.scan=some x→uk L x N
theorem lI.live {e:j5} {N:Int} (h:lI L e N):e.Live:=fun a h1 h2=>⟨(h.alloc a h1 h2).left,(h.alloc a h1 h2).got⟩
theorem uk.mono {x:tY} {N N':Int} (h:uk L x N) (hN:N≤N'):uk L x N':=fun s hs=>⟨(h s hs).1,Int.le_trans (h s hs).2 hN⟩
theorem lI.mono {e:j5} {N N':Int} (h:lI L e N) (hN:N≤N'):lI L e N':=⟨h.alloc,fun x hx=>(h.scan x hx).mono hN⟩
theorem AX (L:Ly) (N:Int):lI L .new N:=⟨fun a _ h=>by simp[j5.new] at h,fun x h=>by simp[j5.new] at h⟩
theorem ru {e:j5} {a:gL} {N:Int} (hL:M.L.Ok) (hm:ff M m) (ht:bM M.L t N) (hs:e.scan=none) (h:qy M.L a):Safe M m (km M m t e a).2.1∧bM M.L (km M m t e a).2.2.1 N∧((km M m t e a).1=false→lI M.L (km M m t e a).2.2.2 N):=by
 have hn:=hL.nd
 have ha:=Db hL hm h
 unfold km
 simp only
 split
 ·rename_i h1
  exact⟨ha.1,ht,fun _=>⟨fun b _ hb=>by injection hb with hb;subst hb;exact ha.2.1 h1,fun x hx=>by rw[hs] at hx;cases hx⟩⟩
 ·split
  ·exact⟨ha.1,⟨ha.2.2,ht.ret,ht.len⟩,fun h=>by simp at h⟩
  ·exact⟨ha.1,⟨by simp only;omega,ht.ret,ht.len⟩,fun _=>⟨fun b hb _=>by simp at hb,fun x hx=>by injection hx with hx;subst hx;exact fun s h=>by cases h⟩⟩
theorem xK {e:j5} {N:Int} (hL:M.L.Ok) (hm:ff M m) (ht:bM M.L t N) (h:lI M.L e N):Safe M m (aF M me m t e).2.1∧bM M.L (aF M me m t e).2.2.1 N∧((aF M me m t e).1=false→lI M.L (aF M me m t e).2.2.2 N):=by
 unfold aF
 cases hs:e.scan with
 | some x=>
  have hw:=xJ hL hm ht (h.scan x hs)
  simp only
  split
  ·exact⟨hw.1,hw.2.1,fun _=>⟨fun a h1=>by simp at h1,fun y hy=>by injection hy with hy;subst hy;exact hw.2.2.1⟩⟩
  ·exact⟨hw.1,hw.2.1,fun _=>⟨fun a _ h1=>by simp at h1,fun y hy=>by simp at hy⟩⟩
 | none=>
  simp only
  cases ha:e.alloc with
  | none=>
   simp only
   split
   ·exact⟨.refl hm,ht,fun h=>by simp at h⟩
   ·exact ru hL hm ht hs (sy hL _)
  | some a=>exact ru hL hm ht hs (h.alloc a hs ha)
structure AY (L:Ly) (p:nB):Prop where
 key:0≤p.key∧p.key≤1023
 next:0≤p.next∧p.next≤L.nd
theorem De {p:nB} (hL:L.Ok) (h:AY L p):(aE p.word).next≤L.nd:=by
 have hn:=hL.nd
 have hk:=h.key
 have hx:=h.next
 have hv:=(bG p.found).ver
 unfold nB.word
 have hf:(⟨p.key,0,false,0,(aE p.found).ver⟩:Wd).Fit:=⟨by simp only;omega,by simp,by simp,hv⟩
 rw[gU (Wd.tz hf (by omega))]
 exact hx.2
theorem xL {p:nB} {N:Int} (hL:M.L.Ok) (hm:ff M m) (ht:bM M.L t N) (h:AY M.L p):Safe M m (dh M m t p).2.1∧AY M.L (dh M m t p).2.2:=by
 have hn:=hL.nd
 have hsp:=ht.spare
 unfold dh
 split
 ·exact⟨.refl hm,h.key,h.next⟩
 ·exact⟨rj hm (dO _) hL (by omega) (De hL h),h⟩
structure um (L:Ly) (c:gR):Prop where
 addr:1≤c.addr∧c.addr≤L.nd+4
 at_:0≤c.at_∧c.at_≤3
 qj:1≤c.at_→0≤qj c.word∧qj c.word<L.th
 next:1≤c.at_→(aE c.word).next≤L.nd
 prop:c.at_=2→(getD' c.found).status=2∧yw L c.found
theorem sB {a:Int} (h:1≤a∧a≤L.nd+4):um L (.new a):=⟨h,by simp[gR.new],fun h=>by simp[gR.new] at h,fun h=>by simp[gR.new] at h,fun h=>by simp[gR.new] at h⟩
theorem ry (x:Int):(aE (eU (aE x).free)).next=(aE x).next:=by rw[gU (Wd.tA (bG x))];rfl
theorem sD {c:gR} (hL:M.L.Ok) (hm:ff M m) (h:um M.L c):Safe M m (bz M m c).2.1∧((bz M m c).1=false→um M.L (bz M m c).2.2):=by
 have hn:=hL.nd
 obtain⟨h1,h2,h3,h4,h5⟩:=h
 unfold bz
 split
 ·refine⟨.refl hm,fun h=> ?_⟩
  simp only[Bool.or_eq_false_iff,decide_eq_false_iff_not] at h
  exact⟨h1,by simp,fun _=>by simp only;omega,fun _=>hm.word _ h1.1 h1.2,fun e=>by simp at e⟩
 ·split
  ·rename_i h0 h6
   have ht:=h3 (by omega)
   refine⟨.refl hm,fun _=>⟨h1,by simp only;split<;>omega,fun _=>ht,fun _=>h4 (by omega),fun e=> ?_⟩⟩
   refine⟨?_,hm.desc _ ht.1 ht.2⟩
   simp only at e⊢
   split at e
   ·rename_i ho
    unfold gR.open_ at ho
    simp only[Bool.and_eq_true,decide_eq_true_eq] at ho
    omega
   ·omega
  ·split
   ·rename_i h0 h6 h7
    have ht:=h3 (by omega)
    have hp:=h5 h7
    exact⟨fg hm (dN _) hL ht (kQ hp.2 hp.1 3 (.inl rfl)),fun _=>⟨h1,by simp,fun _=>ht,fun _=>h4 (by omega),fun e=>by simp at e⟩⟩
   ·refine⟨gd hm (dO _) hL (by omega) ?_,fun h=>by simp at h⟩
    rw[ry]
    exact h4 (by omega)
end Go.Proofs.YtbcnnhlpilmmbaaGreat
