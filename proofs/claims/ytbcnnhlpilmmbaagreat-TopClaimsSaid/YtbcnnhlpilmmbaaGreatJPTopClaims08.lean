/- Texts that are wanted for PTopClaims.
   Conditions: none. -/
import Derived.Test.YtbcnnhlpilmmbaaGreatJPTopClaims07
set_option maxRecDepth 100000
set_option maxHeartbeats 6400000
namespace Go.Proofs.YtbcnnhlpilmmbaaGreat
open Go Go.RowKit
def Ht:List (Option TypeId):=[some 236,some 75,some 34]
theorem BJ:∀ x,x∈LM→x∈Ht:=by decide
structure KU (C:Nat→Nat) (c sg b:Nat) (M:ML) (r:Bool×Mm×kP) (w:World) (e:Ending) (w':World):Prop where
 ret:e= .returned (.bool r.1)
 mem:aj w' C M r.2.1
 own:jV w' C c sg b r.2.2
 fr:Fr C (Kc c) Ht w w'
variable {w:World} {C:Nat→Nat} {c s sg b:Nat} {M:ML} {m:Mm} {me:Int} {t:cg}
theorem qX {p:kP} (hm:aj w C M m) (hst:aq w C s sg M.L me t) (h:jV w C c sg b p) (h0:p.loaded=false):Calls Tryz.prog 117 #[.pointer (some ⟨b,0,none⟩),.pointer (some ⟨M.b,0,none⟩)] w (KU C c sg b M (ch M m t p) w):=by
 obtain⟨sb,hfd⟩:=h
 obtain⟨key,next,found,loaded⟩:=p
 obtain⟨⟨A,n,cap,hn,st,hrow⟩,hme,hsp,hsm⟩:=hst
 simp only at sb hfd h0
 subst h0
 have cF:=bN hm t.spare
 obtain⟨v,hv⟩:∃ v,ld M m t.spare=v:=⟨_,rfl⟩
 have HST:Hid (ch M m t ⟨key,next,found,false⟩=(false,m,⟨key,next,v,true⟩)):=Lib.hid (by unfold ch;rw[if_pos rfl,hv])
 rw[hv] at cF
 have HV:=Lib.hid hv
 clear hv hn hrow hsm
 go_enter Tryz.func117,Tryz.ntmps117
 have fr:=Fr.refl C (Kc c) Ht w
 have ag:=aF.refl w.heap.size C
 go_wp2_with fail
 refine(aS hm t.spare).mono ?_;clear hm;rintro e w1 ⟨rfl,hm,hf⟩
 rw[HV.out]
 revert st;revert sb;revert fr;refine eA hf (aV c) BJ ag ?_;clear hf;intro fr sb st
 have z1:=And.intro sb st
 revert hm st;revert fr;refine st1 sb 3 (.int .u64 v) (aN c) ag ?_;clear sb;rintro w2 e1 fr sb hm st
 simp only[sx] at sb
 have z2:=And.intro sb st
 revert fr hm st;refine st1 sb 4 (.bool true) (aN c) ag ?_;clear sb;rintro w3 e2 fr sb hm st
 simp only[sx] at sb
 go_wp2_with fail
 clear z1 e1 z2 e2
 go_ret
 exact⟨by rw[HST.out];rfl,by rw[HST.out];exact hm,by rw[HST.out];exact⟨sb,cF⟩,fr⟩
theorem qY {p:kP} (hm:aj w C M m) (hst:aq w C s sg M.L me t) (h:jV w C c sg b p) (h0:p.loaded=true) (hk:0≤p.key):Calls Tryz.prog 117 #[.pointer (some ⟨b,0,none⟩),.pointer (some ⟨M.b,0,none⟩)] w (KU C c sg b M (ch M m t p) w):=by
 obtain⟨sb,hfd⟩:=h
 obtain⟨key,next,found,loaded⟩:=p
 obtain⟨⟨A,n,cap,hn,st,hrow⟩,hme,hsp,hsm⟩:=hst
 simp only at sb hfd h0
 subst h0
 obtain⟨W0,hW0⟩:∃ W0,ao found=W0:=⟨_,rfl⟩
 have mf:0≤W0.ver∧W0.ver<262144:=by rw[←hW0];exact(aQ found).ver
 have HG:=fun W=>aW found W hfd
 rw[hW0] at HG
 have hfld:∀ W,(Instr.field 198 W0.val 4).run Tryz.prog W= .ok (.int .i64 W0.ver) W:=fun W=>Bo _ _ _ _ _ W
 have s9:=fun W=>(show Calls Tryz.prog 164 #[.agg #[.int .i64 key,.int .i64 0,.bool false,.int .i64 0,.int .i64 W0.ver],.int .i64 next] W _ from mR ⟨key,0,false,0,W0.ver⟩ next W mf)
 obtain⟨W1,hW1⟩:∃ W1,(⟨key,0,false,0,W0.ver⟩:Wd).link next=W1:=⟨_,rfl⟩
 rw[hW1] at s9
 have hxr:=fR W1
 obtain⟨x,hx⟩:∃ x,dS W1=x:=⟨_,rfl⟩
 have HP:=iA W1 x hx
 have HST:Hid (ch M m t ⟨key,next,found,true⟩=(true,Proofs.YtbcnnhlpilmmbaaGreat.st M m t.spare x,⟨key,next,found,true⟩)):=Lib.hid (by unfold ch kP.word;rw[if_neg (by simp)];simp only[hW0,hW1,hx])
 rw[hx] at hxr
 have qZ:0≤x∧x<18446744073709551616:=by omega
 clear hn hrow hsm hW0 hW1 hx
 go_enter Tryz.func117,Tryz.ntmps117
 have fr:=Fr.refl C (Kc c) Ht w
 have ag:=aF.refl w.heap.size C
 go_wp2_with fail
 revert st;revert hm;revert sb;revert fr;refine bK ?_;intro fr sb hm st
 obtain⟨q1,q2,qi⟩:=bD sb st
 refine aC sb st 21 [([0,1,2,3,4,5,6,7,11,12,13,14],8),([9,10],15),([],16)] [17,18,19,20] [21] (by kernel_rfl) (by kernel_rfl) ?_
 refine ai ?_;simp only[ox];repeat(go_big_quiet_step (fail))
 refine dI rfl (fun K' hK'=> ?_);go_simp
 revert fr sb hm st;with_reducible refine bB (HG _) ?_;rintro e w1 rfl fr sb hm st
 refine hK' _ _ (fa sb st) ?_;clear hK' K'
 refine ai ?_;simp only[ox];repeat(go_big_quiet_step (fail))
 refine dI rfl (fun K' hK'=> ?_);go_simp
 revert fr sb hm st;with_reducible refine bB (s9 _) ?_;rintro e w2 rfl fr sb hm st
 refine hK' _ _ (fa sb st) ?_;clear hK' K'
 refine ai ?_;simp only[ox];repeat(go_big_quiet_step (fail))
 refine dI rfl (fun K' hK'=> ?_);go_simp
 revert fr sb hm st;with_reducible refine bB (HP _) ?_;rintro e w3 ⟨ec,rfl⟩ fr sb hm st
 refine hK' _ _ (fa sb st) ?_;clear hK' K'
 refine af ?_;try simp only[ox]
 repeat(go_big_quiet_step (fail))
 refine wpQuiet_nil ?_
 refine ae _ _ _ (by kernel_rfl) ?_;try simp only[ox]
 clear qi q1 q2
 go_wp2_with fail
 refine NoPanic.normal ?_
 go_wp2_with fail
 refine(fB hm t.spare x qZ).mono ?_;clear hm;rintro e w4 ⟨rfl,hm,hf⟩
 revert fr sb st;refine eA hf (aV c) BJ ag ?_;clear hf;intro fr sb st
 go_wp2_with fail
 go_ret
 exact⟨by rw[HST.out];rfl,by rw[HST.out];exact hm,by rw[HST.out];exact⟨sb,hfd⟩,fr⟩
theorem mg {p:kP} (hm:aj w C M m) (hst:aq w C s sg M.L me t) (h:jV w C c sg b p) (hk:0≤p.key):Calls Tryz.prog 117 #[.pointer (some ⟨b,0,none⟩),.pointer (some ⟨M.b,0,none⟩)] w (KU C c sg b M (ch M m t p) w):=by
 cases h0:p.loaded
 ·exact qX hm hst h h0
 ·exact qY hm hst h h0 hk
structure MW (C:Nat→Nat) (c s:Nat) (LX:List (Option TypeId)) (M:ML) (r1:Bool) (m':Mm) (P:World→(Nat→Nat)→Prop) (w:World) (e:Ending) (w':World):Prop where
 ret:e= .returned (.bool r1)
 own:∃ C',aF w.heap.size C C'∧aj w' C' M m'∧P w' C'
 fr:Fr C (ef c s) LX w w'
def DZ:List (Option TypeId):=some 207::some 137::Dt
theorem yt:∀ x,x∈Dt→x∈DZ:=by decide
theorem BK (L:Ly) (hL:L.Ok) (l:List Int) (A:Option Addr) (n cap B:Nat) (C:Nat→Nat) (c s:Nat) (w:World) (hr:Sl w B 1 A n (cJ l)) (hB:B≤w.heap.size) (hl:l.length=n) (hn:n≤100000) (hnil:A=none→n=0∧cap=0) (hsm:Small l):
  Calls Tryz.prog 136 #[L.val,.slice A n cap] w (ln C c (fun w' C' b=>l9 w' C' c s b L (fY.new l)) w):=by
 refine(zg L A n cap B (cJ l) w hr hB (gS l) hn hnil).mono ?_
 rintro e w' ⟨⟨b,mb,v,rfl,hb,hmb,hne,hvb,hbk,how,hse⟩,hbel⟩
 obtain⟨A2,c2,rfl,hc2,-,-⟩:=bT how
 have hth:=hL.th
 refine⟨⟨b,rfl,hb,⟨fun _=>⟨A2,n,c2,mb,0,hl,SB.mk hbk (aT C c hb),Sr.s6 ⟨eL how (Nat.zero_le _),fun g hg=>aT C c (bM how g hg).1⟩,hc2,hse,aT C c hmb,by simp[fY.new]⟩,fun h=>by simp only[fY.new] at h;omega,by simp only[fY.new];omega,hsm,fun x hx=>by simp[fY.new] at hx,by simp only[fY.new,hl];simp;omega⟩⟩,hbel⟩
theorem lD {x:fY} (_:1≤M.L.th) (h:(ct M m x).1=true):2*M.L.th≤(ct M m x).2.2.at_:=by
 unfold ct at h⊢
 split
 ·assumption
 ·split
  ·rename_i h2;simp only[fY.part,fY.look];omega
  ·rename_i h1 h2;rw[if_neg h1,if_neg h2] at h;cases h
theorem uT {y:fY} {x:qV} (hm:aj w C M m) (hst:aq w C s sg M.L me t) (h:jU w C c s sg b M.L x) (h0:x=some y):Calls Tryz.prog 88 #[.pointer (some ⟨b,0,none⟩),.pointer (some ⟨M.b,0,none⟩)] w (MW C c s DZ M (a7 M m t x).1 (a7 M m t x).2.1 (fun w' C'=>aq w' C' s sg M.L me (a7 M m t x).2.2.1∧jU w' C' c s sg b M.L (a7 M m t x).2.2.2) w):=by
 subst h0
 obtain⟨p,sb,bs,rfl,hsc⟩:=h.ex
 obtain⟨⟨A,n,cap,hn,st,hrow⟩,hme,hsp,hsm⟩:=hst
 have hth:=hm.ok.th
 obtain⟨r,hr⟩:∃ r,ct M m y=r:=⟨_,rfl⟩
 have hend:=fun h=>(lD (M:=M) (m:=m) (x:=y) hth.1 h)
 have F9:=fun W C' (h1:aj W C' M m) (h2:l9 W C' c s bs M.L y)=>rZ h1 h2
 rw[hr] at hend
 simp only[hr] at F9
 obtain⟨r1,m',y'⟩:=r
 have HST:Hid (a7 M m t (some y)=(r1,m',if r1 then { t with ret:=y'.kept } else t,some y')):=Lib.hid (by unfold a7;simp only[Option.getD,hr])
 have BL:=Lib.hid hend
 have HN:=Lib.hid hn
 have m0:=Lib.hid hsm
 clear hn hsm hr hend h
 go_enter Tryz.func88,Tryz.ntmps88
 have fr:=Fr.refl C (ef c s) DZ w
 have ag:=aF.refl w.heap.size C
 go_wp2_with fail
 refine(F9 _ _ hm hsc).mono ?_;clear hm hsc;rintro e w1 ⟨rfl,⟨C1,aG,hm,hsc⟩,hf⟩
 revert st;revert hrow;revert sb;revert fr;revert ag;refine kV hf aG (eW c s) yt ?_;clear hf aG;intro ag fr sb hrow st
 try dsimp only at hm hsc
 cases r1
 ·skip
  go_wp2_with fail
  go_ret
  exact⟨by rw[HST.out];rfl,⟨_,ag,by rw[HST.out];exact hm,by rw[HST.out];exact⟨⟨⟨A,n,cap,HN.out,st,hrow⟩,hme,hsp,m0.out⟩,⟨_,sb,bs,rfl,hsc⟩⟩⟩,fr⟩
 ·skip
  have hat:=BL.out rfl
  have hsk:=Lib.hid hsc.xc
  obtain⟨Ak,Af,nk,nf,ck,cf,bg,vn,vm,hnk,hnf,ss,hrk,hgv⟩:=hsc.give hat
  have DV:=Lib.hid hnk
  clear hnk
  clear hrow hgv
  go_wp2_with fail
  revert ss;revert st;revert hrk;revert hsc;revert hm;revert sb;revert fr;refine bK ?_;intro fr sb hm hsc hrk st ss
  obtain⟨q1,q2,q3,qi⟩:=db sb st ss
  refine a8 sb st ss 13 [] [0,1,2,3,4,5,6,7,8,9,10,11,12] [13] (by kernel_rfl) (by kernel_rfl) ?_
  refine af ?_;try simp only[ox]
  repeat(go_big_quiet_step (fail))
  refine wpQuiet_nil ?_
  refine ae _ _ _ (by kernel_rfl) ?_;try simp only[ox]
  clear qi q1 q2 q3
  have z1:=And.intro sb (And.intro st ss)
  revert fr sb hm hsc hrk ss;refine lC st 4 (.slice Ak nk ck) (eP c s) ag ?_;clear st;rintro w2 e1 fr st sb hm hsc hrk ss
  simp only[sx] at st
  go_wp2_with fail
  try rw[e1]
  refine NoPanic.normal ?_
  go_wp2_with fail
  clear z1 e1
  go_ret
  exact⟨by rw[HST.out];rfl,⟨_,ag,by rw[HST.out];exact hm,by rw[HST.out];exact⟨⟨⟨Ak,nk,ck,DV.out,st,hrk⟩,hme,hsp,hsk.out⟩,⟨_,sb,bs,rfl,hsc⟩⟩⟩,fr⟩
theorem uU {x:qV} (hm:aj w C M m) (hst:aq w C s sg M.L me t) (h:jU w C c s sg b M.L x) (hle:t.ret.length≤100000) (h0:x=none):Calls Tryz.prog 88 #[.pointer (some ⟨b,0,none⟩),.pointer (some ⟨M.b,0,none⟩)] w (MW C c s DZ M (a7 M m t x).1 (a7 M m t x).2.1 (fun w' C'=>aq w' C' s sg M.L me (a7 M m t x).2.2.1∧jU w' C' c s sg b M.L (a7 M m t x).2.2.2) w):=by
 subst h0
 obtain⟨p,sb,hp⟩:=h.ex
 have hp':p= .pointer none:=hp
 subst hp'
 have Iv:=Lib.hid (fun (W:World) (C':Nat→Nat) (A:Option Addr) (n cap:Nat) (hl:t.ret.length=n) (hrow:Row W C' s 3 1 (.slice A n cap) n (cJ t.ret))=>BK M.L hm.ok t.ret A n cap W.heap.size C' c s W (Sl.de hrow.own) (Nat.le_refl _) hl (by omega) (by obtain⟨A',c',h1,-,h2,-⟩:=hrow.form;injection h1 with e1 _ e2;subst e1 e2;exact h2) hst.small)
 clear hle hp
 obtain⟨⟨A,n,cap,hn,st,hrow⟩,hme,hsp,hsm⟩:=hst
 have hth:=hm.ok.th
 obtain⟨r,hr⟩:∃ r,ct M m (.new t.ret)=r:=⟨_,rfl⟩
 have hend:=fun h=>(lD (M:=M) (m:=m) (x:=(.new t.ret)) hth.1 h)
 have F9:=fun bs W C' (h1:aj W C' M m) (h2:l9 W C' c s bs M.L (.new t.ret))=>rZ h1 h2
 rw[hr] at hend
 simp only[hr] at F9
 obtain⟨r1,m',y'⟩:=r
 have HST:Hid (a7 M m t none=(r1,m',if r1 then { t with ret:=y'.kept } else t,some y')):=Lib.hid (by unfold a7;simp only[Option.getD,hr])
 have BL:=Lib.hid hend
 have HN:=Lib.hid hn
 have m0:=Lib.hid hsm
 clear hsm hr hend h
 go_enter Tryz.func88,Tryz.ntmps88
 have fr:=Fr.refl C (ef c s) DZ w
 have ag:=aF.refl w.heap.size C
 go_wp2_with fail
 revert st;revert hrow;revert hm;revert sb;revert fr;refine bK ?_;intro fr sb hm hrow st
 obtain⟨q1,q2,qi⟩:=bD sb st
 refine aC sb st 15 [] [0,1,2,3,4,5,6,7,8,9,10,11,12,13,14] [15,16,17,18] (by kernel_rfl) (by kernel_rfl) ?_
 refine af ?_;try simp only[ox]
 repeat(go_big_quiet_step (fail))
 refine wpQuiet_nil ?_
 refine ae _ _ _ (by kernel_rfl) ?_;try simp only[ox]
 clear qi q1 q2
 go_wp2_with fail
 have hk:=Iv.out _ _ A n cap hn hrow;revert ag fr sb hm hrow st;refine gd hk ?_;clear hk;rintro w1 bs C1 ag fr hsc sb hm hrow st
 clear hn Iv
 replace F9:=F9 bs
 have z1:=And.intro sb st
 revert fr hsc hm hrow st;refine st1 sb 1 (.pointer (some ⟨bs,0,none⟩)) (aU c s) ag ?_;clear sb;rintro w2 e1 fr sb hsc hm hrow st
 simp only[sx] at sb
 go_wp2_with fail
 refine NoPanic.normal ?_
 go_wp2_with fail
 clear z1 e1
 go_wp2_with fail
 refine(F9 _ _ hm hsc).mono ?_;clear hm hsc;rintro e w3 ⟨rfl,⟨C3,aG,hm,hsc⟩,hf⟩
 revert ag fr hrow st sb;refine kV hf aG (eW c s) yt ?_;clear hf aG;intro ag fr hrow st sb
 try dsimp only at hm hsc
 cases r1
 ·skip
  go_wp2_with fail
  go_ret
  exact⟨by rw[HST.out];rfl,⟨_,ag,by rw[HST.out];exact hm,by rw[HST.out];exact⟨⟨⟨A,n,cap,HN.out,st,hrow⟩,hme,hsp,m0.out⟩,⟨_,sb,bs,rfl,hsc⟩⟩⟩,fr⟩
 ·skip
  have hat:=BL.out rfl
  have hsk:=Lib.hid hsc.xc
  obtain⟨Ak,Af,nk,nf,ck,cf,bg,vn,vm,hnk,hnf,ss,hrk,hgv⟩:=hsc.give hat
  have DV:=Lib.hid hnk
  clear hnk
  clear hrow hgv
  go_wp2_with fail
  revert ss;revert st;revert hrk;revert hsc;revert hm;revert sb;revert fr;refine bK ?_;intro fr sb hm hsc hrk st ss
  obtain⟨q1,q2,q3,qi⟩:=db sb st ss
  refine a8 sb st ss 13 [] [0,1,2,3,4,5,6,7,8,9,10,11,12] [13] (by kernel_rfl) (by kernel_rfl) ?_
  refine af ?_;try simp only[ox]
  repeat(go_big_quiet_step (fail))
  refine wpQuiet_nil ?_
  refine ae _ _ _ (by kernel_rfl) ?_;try simp only[ox]
  clear qi q1 q2 q3
  have z2:=And.intro sb (And.intro st ss)
  revert fr sb hm hsc hrk ss;refine lC st 4 (.slice Ak nk ck) (eP c s) ag ?_;clear st;rintro w4 e1 fr st sb hm hsc hrk ss
  simp only[sx] at st
  go_wp2_with fail
  try rw[e1]
  refine NoPanic.normal ?_
  go_wp2_with fail
  clear z2 e1
  go_ret
  exact⟨by rw[HST.out];rfl,⟨_,ag,by rw[HST.out];exact hm,by rw[HST.out];exact⟨⟨⟨Ak,nk,ck,DV.out,st,hrk⟩,hme,hsp,hsk.out⟩,⟨_,sb,bs,rfl,hsc⟩⟩⟩,fr⟩
theorem o3 {x:qV} (hm:aj w C M m) (hst:aq w C s sg M.L me t) (h:jU w C c s sg b M.L x) (hle:t.ret.length≤100000):Calls Tryz.prog 88 #[.pointer (some ⟨b,0,none⟩),.pointer (some ⟨M.b,0,none⟩)] w (MW C c s DZ M (a7 M m t x).1 (a7 M m t x).2.1 (fun w' C'=>aq w' C' s sg M.L me (a7 M m t x).2.2.1∧jU w' C' c s sg b M.L (a7 M m t x).2.2.2) w):=by
 cases h0:x with
 | none=>exact h0 ▸ uU hm hst h hle h0
 | some y=>exact h0 ▸ uT hm hst h h0
def xh:List (Option TypeId):=some 182::some 185::DZ
theorem Ga:∀ x,x∈LM→x∈xh:=by decide
theorem D0:∀ x,x∈DZ→x∈xh:=by decide
theorem yu:∀ x,x∈FQ→x∈xh:=by decide
theorem xi {x:qV} (hth:1≤M.L.th) (h:(a7 M m t x).1=true):∃ y,(a7 M m t x).2.2.2=some y∧2*M.L.th≤y.at_:=
 ⟨_,rfl,lD hth h⟩
def jL.Live (e:jL):Prop:=∀ a,e.scan=none→e.alloc=some a→0≤a.left∧a.got=0
theorem BM {a:iq} (hL:M.L.Ok) (hg:a.got=0) (hat:1≤a.at_∧a.at_≤M.L.nd):0≤(ca M m a).2.2.got∧(ca M m a).2.2.got≤1000:=by
 have hnd:=hL.nd
 obtain⟨got,at_,left,found,free⟩:=a
 simp only at hg hat
 subst hg
 unfold ca
 simp only[iq.on]
 split
 ·split
  ·exact⟨by simp only;omega,by simp only;omega⟩
  ·exact⟨by simp,by simp⟩
 ·split
  ·exact⟨by simp,by simp⟩
  ·exact⟨by simp,by simp⟩
theorem ta {e:jL} {x:qV} (hm:aj w C M m) (hst:aq w C s sg M.L me t) (h:fE w C c s sg b M.L e) (hle:t.ret.length≤100000) (h0:e.scan=some x):Calls Tryz.prog 109 #[.pointer (some ⟨b,0,none⟩),.pointer (some ⟨M.b,0,none⟩)] w (MW C c s xh M (aK M me m t e).1 (aK M me m t e).2.1 (fun w' C'=>aq w' C' s sg M.L me (aK M me m t e).2.2.1∧fE w' C' c s sg b M.L (aK M me m t e).2.2.2) w):=by
 obtain⟨short,alloc,scan,done⟩:=e
 simp only at h0
 subst h0
 obtain⟨pa,pw,sb,⟨bw,rfl,hsw⟩,-⟩:=h.ex
 simp only at sb
 have hth:=hm.ok.th
 obtain⟨r,hr⟩:∃ r,a7 M m t x=r:=⟨_,rfl⟩
 have hend:=fun h=>(xi (M:=M) (m:=m) (t:=t) (x:=x) hth.1 h)
 have Fk:=fun W C' (h1:aj W C' M m) (h2:aq W C' s sg M.L me t) (h3:jU W C' c s sg bw M.L x)=>o3 h1 h2 h3 hle
 rw[hr] at hend
 simp only[hr] at Fk
 obtain⟨r1,m',t',x'⟩:=r
 have HST:Hid (aK M me m t ⟨short,alloc,some x,done⟩=if r1=false then (false,m',t',⟨short,alloc,some x',done⟩) else (((x'.getD (.new [])).freed).isEmpty,m',t',⟨((x'.getD (.new [])).freed).isEmpty,none,none,true⟩)):=Lib.hid (by unfold aK;simp only[hr])
 have BL:=Lib.hid hend
 clear hr hend h
 go_enter Tryz.func109,Tryz.ntmps109
 have fr:=Fr.refl C (ef c s) xh w
 have ag:=aF.refl w.heap.size C
 go_wp2_with fail
 refine(Fk _ _ hm hst hsw).mono ?_;clear hm hst hsw;rintro e w1 ⟨rfl,⟨C1,aG,hm,hst,hsw⟩,hf⟩
 revert sb;revert fr;revert ag;refine kV hf aG (fun _ h=>h) D0 ?_;clear hf aG;intro ag fr sb
 try dsimp only at hm hst hsw
 cases r1
 ·skip
  go_wp2_with fail
  go_ret
  exact⟨by rw[HST.out];rfl,⟨_,ag,by rw[HST.out];exact hm,by rw[HST.out];exact⟨hst,⟨_,_,sb,⟨bw,rfl,hsw⟩,fun h=>by cases h⟩⟩⟩,fr⟩
 ·skip
  obtain⟨y,hy,hat⟩:=BL.out rfl
  subst hy
  obtain⟨p,sw,bs,rfl,hsc⟩:=hsw.ex
  obtain⟨Ak,Af,nk,nf,ck,cf,bg,vn,vm,hnk,hnf,ss,hrk,hgv⟩:=hsc.give hat
  have hie:((nf:Int)==0)=y.freed.isEmpty:=by
   rw[←hnf]
   cases y.freed with
   | nil=>rfl
   | cons z zs=>exact beq_eq_false_iff_ne.2 (by simp only[List.length_cons];omega)
  obtain⟨q,hq⟩:∃ q,((nf:Int)==0)=q:=⟨_,rfl⟩
  rw[hq] at hie
  have J3:=Lib.hid hie
  clear hie hnf hnk hrk hgv hsc hsw
  have z1:=And.intro sb (And.intro sw ss)
  revert ss;revert sw;revert hst;revert hm;revert fr;refine st1 sb 1 (.bool q) (aU c s) ag ?_;clear sb;rintro w2 e1 fr sb hm hst sw ss
  simp only[sx] at sb
  have z2:=And.intro sb (And.intro sw ss)
  revert fr hm hst sw ss;refine st1 sb 4 (.bool true) (aU c s) ag ?_;clear sb;rintro w3 e2 fr sb hm hst sw ss
  simp only[sx] at sb
  have z3:=And.intro sb (And.intro sw ss)
  revert fr hm hst sw ss;refine st1 sb 3 (.pointer none) (aU c s) ag ?_;clear sb;rintro w4 e3 fr sb hm hst sw ss
  simp only[sx] at sb
  have z4:=And.intro sb (And.intro sw ss)
  revert fr hm hst sw ss;refine st1 sb 2 (.pointer none) (aU c s) ag ?_;clear sb;rintro w5 e4 fr sb hm hst sw ss
  simp only[sx] at sb
  go_wp2_with fail
  clear z1 e1 z2 e2 z3 e3 z4 e4
  go_ret
  exact⟨by rw[HST.out,J3.out];rfl,⟨_,ag,by rw[HST.out];exact hm,by rw[HST.out];exact⟨hst,⟨_,_,by rw[J3.out] at sb;exact sb,rfl,fun _=>rfl⟩⟩⟩,fr⟩
theorem tc {e:jL} {x:qV} (hm:aj w C M m) (hst:aq w C s sg M.L me t) (h:fE w C c s sg b M.L e) (hle:t.ret.length≤100000) (h0:e.scan=some x):Calls Tryz.prog 73 #[.pointer (some ⟨b,0,none⟩),.pointer (some ⟨M.b,0,none⟩)] w (MW C c s xh M (aK M me m t e).1 (aK M me m t e).2.1 (fun w' C'=>aq w' C' s sg M.L me (aK M me m t e).2.2.1∧fE w' C' c s sg b M.L (aK M me m t e).2.2.2) w):=by
 have Fk:=fun W C' (h1:aj W C' M m) (h2:aq W C' s sg M.L me t) (h3:fE W C' c s sg b M.L e)=>ta h1 h2 h3 hle h0
 obtain⟨pa,pw,sb,hpw,hpa⟩:=h.ex
 rw[h0] at hpw
 obtain⟨bw,rfl,hsw⟩:=hpw
 have hc:=sb.blk.cells
 clear hpa hsw h0
 generalize aK M me m t e=r at *
 go_enter Tryz.func73,Tryz.ntmps73
 go_wp2_with fail
 refine(Fk _ _ hm hst h).mono ?_
 rintro e w2 ⟨rfl,own,fr⟩
 go_wp2_with fail
 go_ret
 exact⟨rfl,own,fr⟩
theorem td {e:jL} {a:iq} (hm:aj w C M m) (hst:aq w C s sg M.L me t) (h:fE w C c s sg b M.L e) (_:t.ret.length≤100000) (hlive:e.Live) (h0:e.scan=none) (h1:e.alloc=some a):Calls Tryz.prog 73 #[.pointer (some ⟨b,0,none⟩),.pointer (some ⟨M.b,0,none⟩)] w (MW C c s xh M (aK M me m t e).1 (aK M me m t e).2.1 (fun w' C'=>aq w' C' s sg M.L me (aK M me m t e).2.2.1∧fE w' C' c s sg b M.L (aK M me m t e).2.2.2) w):=by
 have hl:=hlive a h0 h1
 obtain⟨short,alloc,scan,done⟩:=e
 simp only at h0 h1
 subst h0 h1
 obtain⟨pa,pw,sb,hpw,hpa⟩:=h.ex
 have BN:pw= .pointer none:=hpw
 subst BN
 obtain⟨ba,rfl,hal,IG⟩:=hpa rfl
 have hat:=hal.at_
 simp only at sb
 obtain⟨⟨A,n,cap,hn,st,hrow⟩,hme,hsp,hsm⟩:=hst
 obtain⟨r,hr⟩:∃ r,ca M m a=r:=⟨_,rfl⟩
 have o4:=BM (m:=m) hm.ok hl.2 hat
 rw[hr] at o4
 have Gb:=fun W C' (h1:aj W C' M m) (h2:mT W C' c ba M.L a)=>oN h1 h2 hl.1
 simp only[hr] at Gb
 obtain⟨r1,m',a2⟩:=r
 have HST:Hid (aK M me m t ⟨short,some a,none,done⟩=if r1=false then (false,m',t,⟨short,some a2,none,done⟩) else if a2.got≠0 then (true,m',{ t with spare:=a2.got },⟨short,some a2,none,done⟩) else (done || t.ret.isEmpty,m',{ t with spare:=0 },⟨done || t.ret.isEmpty,some a2,some none,done⟩)):=Lib.hid (by unfold aK;simp only;unfold mX;simp only[hr])
 have HN:=Lib.hid hn
 have m0:=Lib.hid hsm
 clear hn hsm hr h hpa hl hlive IG
 go_enter Tryz.func73,Tryz.ntmps73
 have fr:=Fr.refl C (ef c s) xh w
 have ag:=aF.refl w.heap.size C
 go_wp2_with fail
 refine(Gb _ _ hm hal).mono ?_;clear hm hal;rintro e w1 ⟨rfl,hm,hal,hf⟩
 revert st;revert hrow;revert sb;revert fr;refine eA hf (eW c s) yu ag ?_;clear hf;intro fr sb hrow st
 try dsimp only at hm hal
 cases r1
 ·skip
  go_wp2_with fail
  go_ret
  exact⟨by rw[HST.out];rfl,⟨_,ag,by rw[HST.out];exact hm,by rw[HST.out];exact⟨⟨⟨A,n,cap,HN.out,st,hrow⟩,hme,hsp,m0.out⟩,⟨_,_,sb,rfl,fun _=>⟨ba,rfl,hal,o4⟩⟩⟩⟩,fr⟩
 ·skip
  obtain⟨got,at2,IH,Gc,II⟩:=a2
  have Gd:=Lib.hid hal
  obtain⟨eT,BO,BP,BQ⟩:=hal
  simp only at eT BO BP BQ o4
  clear Gd
  go_wp2_with fail
  revert eT;revert st;revert hrow;revert hm;revert sb;revert fr;refine bK ?_;intro fr sb hm hrow st eT
  obtain⟨q1,q2,q3,qi⟩:=db sb st eT
  refine a8 sb st eT 13 [] [0,1,2,3,4,5,6,7,8,9,10,11,12] [13] (by kernel_rfl) (by kernel_rfl) ?_
  refine af ?_;try simp only[ox]
  repeat(go_big_quiet_step (fail))
  refine wpQuiet_nil ?_
  refine ae _ _ _ (by kernel_rfl) ?_;try simp only[ox]
  clear qi q1 q2 q3
  by_cases hg0:got=0
  ·skip
   subst hg0
   obtain⟨q,hq⟩:∃ q,((n:Int)==0)=q:=⟨_,rfl⟩
   have HQ:Hid (t.ret.isEmpty=q):=Lib.hid (by
    rw[←hq,←HN.out]
    cases t.ret with
    | nil=>rfl
    | cons z zs=>exact(beq_eq_false_iff_ne.2 (by simp only[List.length_cons];omega)).symm)
   cases done
   ·skip
    have z1:=And.intro sb (And.intro st eT)
    revert eT;revert hrow;revert hm;revert sb;revert fr;refine lC st 3 (.int .i64 0) (eP c s) ag ?_;clear st;rintro w2 e1 fr st sb hm hrow eT
    simp only[sx] at st
    have z2:=And.intro sb (And.intro st eT)
    revert fr hm hrow eT st;refine st1 sb 1 (.bool q) (aU c s) ag ?_;clear sb;rintro w3 e2 fr sb hm hrow eT st
    simp only[sx] at sb
    go_wp2_with fail
    try rw[e1]
    refine NoPanic.normal ?_
    go_wp2_with fail
    clear z1 e1 z2 e2
    revert ag fr hm hrow eT st sb;refine gd (fV sg M.L s C c _) ?_;rintro w4 bw C4 ag fr hsw hm hrow eT st sb
    have z3:=And.intro sb (And.intro st eT)
    revert fr hsw hm hrow eT st;refine st1 sb 3 (.pointer (some ⟨bw,0,none⟩)) (aU c s) ag ?_;clear sb;rintro w5 e1 fr sb hsw hm hrow eT st
    simp only[sx] at sb
    go_wp2_with fail
    clear z3 e1
    go_ret
    exact⟨by rw[HST.out,HQ.out];rfl,⟨_,ag,by rw[HST.out];exact hm,by rw[HST.out,HQ.out];exact⟨⟨⟨A,n,cap,HN.out,st,hrow⟩,hme,by simp,m0.out⟩,⟨_,_,sb,⟨bw,rfl,hsw⟩,fun h=>by cases h⟩⟩⟩,fr⟩
   ·skip
    have z1:=And.intro sb (And.intro st eT)
    revert eT;revert hrow;revert hm;revert sb;revert fr;refine lC st 3 (.int .i64 0) (eP c s) ag ?_;clear st;rintro w2 e1 fr st sb hm hrow eT
    simp only[sx] at st
    have z2:=And.intro sb (And.intro st eT)
    revert fr hm hrow eT st;refine st1 sb 1 (.bool true) (aU c s) ag ?_;clear sb;rintro w3 e2 fr sb hm hrow eT st
    simp only[sx] at sb
    go_wp2_with fail
    try rw[e1]
    refine NoPanic.normal ?_
    go_wp2_with fail
    clear z1 e1 z2 e2
    revert ag fr hm hrow eT st sb;refine gd (fV sg M.L s C c _) ?_;rintro w4 bw C4 ag fr hsw hm hrow eT st sb
    have z3:=And.intro sb (And.intro st eT)
    revert fr hsw hm hrow eT st;refine st1 sb 3 (.pointer (some ⟨bw,0,none⟩)) (aU c s) ag ?_;clear sb;rintro w5 e1 fr sb hsw hm hrow eT st
    simp only[sx] at sb
    go_wp2_with fail
    clear z3 e1
    go_ret
    exact⟨by rw[HST.out,HQ.out];rfl,⟨_,ag,by rw[HST.out];exact hm,by rw[HST.out,HQ.out];exact⟨⟨⟨A,n,cap,HN.out,st,hrow⟩,hme,by simp,m0.out⟩,⟨_,_,sb,⟨bw,rfl,hsw⟩,fun h=>by cases h⟩⟩⟩,fr⟩
  ·skip
   have dg:(got !=0)=true:=bne_iff_ne.2 hg0
   have z1:=And.intro sb (And.intro st eT)
   revert fr sb hm hrow eT;refine lC st 3 (.int .i64 got) (eP c s) ag ?_;clear st;rintro w2 e1 fr st sb hm hrow eT
   simp only[sx] at st
   go_wp2_with fail
   try rw[e1]
   refine NoPanic.normal ?_
   go_wp2_with fail
   clear z1 e1
   go_ret
   have te:=HST.out
   simp only[if_neg (show ¬ true=false by decide),if_pos hg0] at te
   exact⟨by rw[te];rfl,⟨_,ag,by rw[te];exact hm,by rw[te];exact⟨⟨⟨A,n,cap,HN.out,st,hrow⟩,hme,o4,m0.out⟩,⟨_,_,sb,rfl,fun _=>⟨ba,rfl,⟨eT,BO,BP,BQ⟩,o4⟩⟩⟩⟩,fr⟩
variable {L:Ly}
theorem uV (hL:L.Ok) (x:Int):(0≤(l7 L x).left∧(l7 L x).got=0)∧1≤(l7 L x).at_∧(l7 L x).at_≤L.nd:=by
 have hnd:=hL.nd
 unfold l7
 refine⟨⟨by simp only;omega,rfl⟩,?_⟩
 simp only
 split
 ·rename_i h
  unfold Ly.node at h
  simp only[Bool.and_eq_true,decide_eq_true_eq] at h
  exact h
 ·omega
theorem tf {e:jL}  (hm:aj w C M m) (hst:aq w C s sg M.L me t) (h:fE w C c s sg b M.L e) (_:t.ret.length≤100000) (h0:e.scan=none) (h1:e.alloc=none) (h2:t.spare=0):Calls Tryz.prog 73 #[.pointer (some ⟨b,0,none⟩),.pointer (some ⟨M.b,0,none⟩)] w (MW C c s xh M (aK M me m t e).1 (aK M me m t e).2.1 (fun w' C'=>aq w' C' s sg M.L me (aK M me m t e).2.2.1∧fE w' C' c s sg b M.L (aK M me m t e).2.2.2) w):=by
 obtain⟨short,alloc,scan,done⟩:=e
 simp only at h0 h1
 subst h0 h1
 obtain⟨pa,pw,sb,hpw,hpa⟩:=h.ex
 have BN:pw= .pointer none:=hpw
 have Ge:pa= .pointer none:=hpa rfl
 subst BN Ge
 obtain⟨a,ha⟩:∃ a,l7 M.L (jk M.L me)=a:=⟨_,rfl⟩
 have hok:=uV hm.ok (jk M.L me)
 have Nu:=fun (C':Nat→Nat) (W:World)=>(show Calls Tryz.prog 110 #[M.L.val,.int .i64 (jk M.L me)] W (Fg C' c M.L a W) from ha ▸ Bh M.L hm.ok (jk M.L me) C' c W)
 rw[ha] at hok
 obtain⟨hl,hat⟩:=hok
 have FW:=Lib.hid h2
 simp only at sb
 obtain⟨⟨A,n,cap,hn,st,hrow⟩,hme,hsp,hsm⟩:=hst
 obtain⟨r,hr⟩:∃ r,ca M m a=r:=⟨_,rfl⟩
 have o4:=BM (m:=m) hm.ok hl.2 hat
 rw[hr] at o4
 have Gb:=fun ba W C' (h1:aj W C' M m) (h2:mT W C' c ba M.L a)=>oN h1 h2 hl.1
 simp only[hr] at Gb
 obtain⟨r1,m',a2⟩:=r
 have HST:Hid (aK M me m t ⟨short,none,none,done⟩=if r1=false then (false,m',t,⟨short,some a2,none,done⟩) else if a2.got≠0 then (true,m',{ t with spare:=a2.got },⟨short,some a2,none,done⟩) else (done || t.ret.isEmpty,m',{ t with spare:=0 },⟨done || t.ret.isEmpty,some a2,some none,done⟩)):=Lib.hid (by unfold aK;simp only;rw[if_neg (by rw[FW.out];simp),ha];unfold mX;simp only[hr])
 have HN:=Lib.hid hn
 have m0:=Lib.hid hsm
 rw[h2] at st
 have hsp':(0:Int)≤0∧(0:Int)≤1000:=by omega
 clear hn hsm hr h hpa hl ha hpw h2
 go_enter Tryz.func73,Tryz.ntmps73
 have fr:=Fr.refl C (ef c s) xh w
 have ag:=aF.refl w.heap.size C
 go_wp2_with fail
 revert st;revert hrow;revert hm;revert sb;revert fr;refine bK ?_;intro fr sb hm hrow st
 obtain⟨q1,q2,qi⟩:=bD sb st
 refine aC sb st 13 [] [0,1,2,3,4,5,6,7,8,9,10,11] [12,13,14,15,16] (by kernel_rfl) (by kernel_rfl) ?_
 refine af ?_;try simp only[ox]
 repeat(go_big_quiet_step (fail))
 refine wpQuiet_nil ?_
 refine aA rfl (fun K' hK'=> ?_);go_simp
 ((with_reducible refine(uS hm.ok (t:=t) (me:=me) ⟨⟨A,n,cap,HN.out,by rw[FW.out];exact st,hrow⟩,hme,hsp,m0.out⟩).mono ?_);rintro e w1 ⟨rfl,hb1⟩)
 revert fr sb hm hrow st;refine eH hb1 ?_;intro fr sb hm hrow st
 refine hK' _ _ (fa sb st) ?_;clear hK' K'
 refine ae _ _ _ (by kernel_rfl) ?_;try simp only[ox]
 clear qi q1 q2
 go_wp2_with fail
 revert ag fr sb hm hrow st;refine gd (Nu C _) ?_;rintro w2 ba C2 ag fr hal sb hm hrow st
 replace Gb:=Gb ba
 have z1:=And.intro sb st
 revert fr hal hm hrow st;refine st1 sb 2 (.pointer (some ⟨ba,0,none⟩)) (aU c s) ag ?_;clear sb;rintro w3 e1 fr sb hal hm hrow st
 simp only[sx] at sb
 go_wp2_with fail
 refine NoPanic.normal ?_
 go_wp2_with fail
 clear z1 e1
 go_wp2_with fail
 refine(Gb _ _ hm hal).mono ?_;clear hm hal;rintro e w4 ⟨rfl,hm,hal,hf⟩
 revert fr hrow st sb;refine eA hf (eW c s) yu ag ?_;clear hf;intro fr hrow st sb
 try dsimp only at hm hal
 cases r1
 ·skip
  go_wp2_with fail
  go_ret
  exact⟨by rw[HST.out];rfl,⟨_,ag,by rw[HST.out];exact hm,by rw[HST.out];exact⟨⟨⟨A,n,cap,HN.out,by rw[←FW.out] at st;exact st,hrow⟩,hme,hsp,m0.out⟩,⟨_,_,sb,rfl,fun _=>⟨ba,rfl,hal,o4⟩⟩⟩⟩,fr⟩
 ·skip
  obtain⟨got,at2,IH,Gc,II⟩:=a2
  have Gd:=Lib.hid hal
  obtain⟨eT,BO,BP,BQ⟩:=hal
  simp only at eT BO BP BQ o4
  clear Gd
  go_wp2_with fail
  revert eT;revert st;revert hrow;revert hm;revert sb;revert fr;refine bK ?_;intro fr sb hm hrow st eT
  obtain⟨q1,q2,q3,qi⟩:=db sb st eT
  refine a8 sb st eT 13 [] [0,1,2,3,4,5,6,7,8,9,10,11,12] [13] (by kernel_rfl) (by kernel_rfl) ?_
  refine af ?_;try simp only[ox]
  repeat(go_big_quiet_step (fail))
  refine wpQuiet_nil ?_
  refine ae _ _ _ (by kernel_rfl) ?_;try simp only[ox]
  clear qi q1 q2 q3
  by_cases hg0:got=0
  ·skip
   subst hg0
   obtain⟨q,hq⟩:∃ q,((n:Int)==0)=q:=⟨_,rfl⟩
   have HQ:Hid (t.ret.isEmpty=q):=Lib.hid (by
    rw[←hq,←HN.out]
    cases t.ret with
    | nil=>rfl
    | cons z zs=>exact(beq_eq_false_iff_ne.2 (by simp only[List.length_cons];omega)).symm)
   cases done
   ·skip
    have z2:=And.intro sb (And.intro st eT)
    revert eT;revert hrow;revert hm;revert sb;revert fr;refine lC st 3 (.int .i64 0) (eP c s) ag ?_;clear st;rintro w5 e1 fr st sb hm hrow eT
    simp only[sx] at st
    have z3:=And.intro sb (And.intro st eT)
    revert fr hm hrow eT st;refine st1 sb 1 (.bool q) (aU c s) ag ?_;clear sb;rintro w6 e2 fr sb hm hrow eT st
    simp only[sx] at sb
    go_wp2_with fail
    try rw[e1]
    refine NoPanic.normal ?_
    go_wp2_with fail
    clear z2 e1 z3 e2
    revert ag fr hm hrow eT st sb;refine gd (fV sg M.L s C2 c _) ?_;rintro w7 bw C7 ag fr hsw hm hrow eT st sb
    have z4:=And.intro sb (And.intro st eT)
    revert fr hsw hm hrow eT st;refine st1 sb 3 (.pointer (some ⟨bw,0,none⟩)) (aU c s) ag ?_;clear sb;rintro w8 e1 fr sb hsw hm hrow eT st
    simp only[sx] at sb
    go_wp2_with fail
    clear z4 e1
    go_ret
    exact⟨by rw[HST.out,HQ.out];rfl,⟨_,ag,by rw[HST.out];exact hm,by rw[HST.out,HQ.out];exact⟨⟨⟨A,n,cap,HN.out,st,hrow⟩,hme,by simp,m0.out⟩,⟨_,_,sb,⟨bw,rfl,hsw⟩,fun h=>by cases h⟩⟩⟩,fr⟩
   ·skip
    have z2:=And.intro sb (And.intro st eT)
    revert eT;revert hrow;revert hm;revert sb;revert fr;refine lC st 3 (.int .i64 0) (eP c s) ag ?_;clear st;rintro w5 e1 fr st sb hm hrow eT
    simp only[sx] at st
    have z3:=And.intro sb (And.intro st eT)
    revert fr hm hrow eT st;refine st1 sb 1 (.bool true) (aU c s) ag ?_;clear sb;rintro w6 e2 fr sb hm hrow eT st
    simp only[sx] at sb
    go_wp2_with fail
    try rw[e1]
    refine NoPanic.normal ?_
    go_wp2_with fail
    clear z2 e1 z3 e2
    revert ag fr hm hrow eT st sb;refine gd (fV sg M.L s C2 c _) ?_;rintro w7 bw C7 ag fr hsw hm hrow eT st sb
    have z4:=And.intro sb (And.intro st eT)
    revert fr hsw hm hrow eT st;refine st1 sb 3 (.pointer (some ⟨bw,0,none⟩)) (aU c s) ag ?_;clear sb;rintro w8 e1 fr sb hsw hm hrow eT st
    simp only[sx] at sb
    go_wp2_with fail
    clear z4 e1
    go_ret
    exact⟨by rw[HST.out,HQ.out];rfl,⟨_,ag,by rw[HST.out];exact hm,by rw[HST.out,HQ.out];exact⟨⟨⟨A,n,cap,HN.out,st,hrow⟩,hme,by simp,m0.out⟩,⟨_,_,sb,⟨bw,rfl,hsw⟩,fun h=>by cases h⟩⟩⟩,fr⟩
  ·skip
   have dg:(got !=0)=true:=bne_iff_ne.2 hg0
   have z2:=And.intro sb (And.intro st eT)
   revert fr sb hm hrow eT;refine lC st 3 (.int .i64 got) (eP c s) ag ?_;clear st;rintro w5 e1 fr st sb hm hrow eT
   simp only[sx] at st
   go_wp2_with fail
   try rw[e1]
   refine NoPanic.normal ?_
   go_wp2_with fail
   clear z2 e1
   go_ret
   have te:=HST.out
   simp only[if_neg (show ¬ true=false by decide),if_pos hg0] at te
   exact⟨by rw[te];rfl,⟨_,ag,by rw[te];exact hm,by rw[te];exact⟨⟨⟨A,n,cap,HN.out,st,hrow⟩,hme,o4,m0.out⟩,⟨_,_,sb,rfl,fun _=>⟨ba,rfl,⟨eT,BO,BP,BQ⟩,o4⟩⟩⟩⟩,fr⟩
theorem tg {e:jL}  (hm:aj w C M m) (hst:aq w C s sg M.L me t) (h:fE w C c s sg b M.L e) (_:t.ret.length≤100000) (h0:e.scan=none) (h1:e.alloc=none) (h2:t.spare≠0):Calls Tryz.prog 73 #[.pointer (some ⟨b,0,none⟩),.pointer (some ⟨M.b,0,none⟩)] w (MW C c s xh M (aK M me m t e).1 (aK M me m t e).2.1 (fun w' C'=>aq w' C' s sg M.L me (aK M me m t e).2.2.1∧fE w' C' c s sg b M.L (aK M me m t e).2.2.2) w):=by
 have HE:=Lib.hid h
 have KV:=Lib.hid hst
 obtain⟨short,alloc,scan,done⟩:=e
 simp only at h0 h1
 subst h0 h1
 obtain⟨pa,pw,sb,hpw,hpa⟩:=h.ex
 have BN:pw= .pointer none:=hpw
 have Ge:pa= .pointer none:=hpa rfl
 subst BN Ge
 obtain⟨⟨A,n,cap,hn,st,hrow⟩,-,-,-⟩:=hst
 have HST:Hid (aK M me m t ⟨short,none,none,done⟩=(true,m,t,⟨short,none,none,done⟩)):=Lib.hid (by unfold aK;simp only;rw[if_pos h2])
 have dg:(t.spare !=0)=true:=bne_iff_ne.2 h2
 simp only at sb
 have hc:=sb.blk.cells
 have hc2:=st.blk.cells
 clear hn h hpa hpw h2 hrow
 go_enter Tryz.func73,Tryz.ntmps73
 go_wp2_with fail
 refine(aS hm 0).mono ?_
 rintro e w2 ⟨rfl,hm2,hf2⟩
 go_wp2_with fail
 go_ret
 exact⟨by rw[HST.out];rfl,⟨C,aF.refl _ _,by rw[HST.out];exact hm2,by rw[HST.out];exact⟨KV.out.fr hf2 (.inr (by decide)),HE.out.fr hf2 (.inr (by decide))⟩⟩,hf2.mono (jl c s) Ga⟩
theorem nL {e:jL}  (hm:aj w C M m) (hst:aq w C s sg M.L me t) (h:fE w C c s sg b M.L e) (hle:t.ret.length≤100000) (hlive:e.Live):Calls Tryz.prog 73 #[.pointer (some ⟨b,0,none⟩),.pointer (some ⟨M.b,0,none⟩)] w (MW C c s xh M (aK M me m t e).1 (aK M me m t e).2.1 (fun w' C'=>aq w' C' s sg M.L me (aK M me m t e).2.2.1∧fE w' C' c s sg b M.L (aK M me m t e).2.2.2) w):=by
 cases h0:e.scan with
 | some x=>exact tc hm hst h hle h0
 | none=>
  cases h1:e.alloc with
  | some a=>exact td hm hst h hle hlive h0 h1
  | none=>
   by_cases h2:t.spare=0
   ·exact tf hm hst h hle h0 h1 h2
   ·exact tg hm hst h hle h0 h1 h2
def Nodes (L:Ly) (l:List Int):Prop:=∀ x∈l,1≤x∧x≤L.nd
theorem Nodes.app {a b:List Int} (h:Nodes L a) (k:Nodes L b):Nodes L (a++b):=fun x hx=>(List.mem_append.1 hx).elim (h x) (k x)
theorem Nodes.filter {a:List Int} (h:Nodes L a) (p:Int→Bool):Nodes L (a.filter p):=fun x hx=>h x (List.mem_filter.1 hx).1
structure uW (L:Ly) (a:iq):Prop where
 at_:1≤a.at_∧a.at_≤L.nd
 left:0≤a.left
 got:a.got=0
theorem xj (hL:L.Ok) (x:Int):uW L (l7 L x):=by
 have h:=uV hL x
 exact⟨h.2,h.1.1,h.1.2⟩
theorem D1 {a:iq} (hL:M.L.Ok) (hm:dY M m) (h:uW M.L a):Safe M m (ca M m a).2.1∧((ca M m a).1=false→uW M.L (ca M m a).2.2)∧(0≤(ca M m a).2.2.got∧(ca M m a).2.2.got≤M.L.nd):=by
 obtain⟨h1,h2,h3⟩:=h
 have hnd:=hL.nd
 have hmod:=Int.emod_lt_of_pos a.at_ (show 0<M.L.nd by omega)
 have Mj:=Int.emod_nonneg a.at_ (show M.L.nd≠0 by omega)
 unfold ca
 split
 ·split
  ·exact⟨zf hm hL h1,fun h=>by simp at h,by simp only;omega⟩
  ·refine⟨.refl hm,fun h=> ?_,by simp only[iq.on];omega⟩
   simp only[decide_eq_false_iff_not] at h
   exact⟨by simp only[iq.on];omega,by simp only[iq.on];omega,h3⟩
 ·split
  ·exact⟨.refl hm,fun _=>⟨h1,h2,h3⟩,by simp only;omega⟩
  ·refine⟨.refl hm,fun h=> ?_,by simp only[iq.on];omega⟩
   simp only[decide_eq_false_iff_not] at h
   exact⟨by simp only[iq.on];omega,by simp only[iq.on];omega,h3⟩
theorem D3 {l:List Int} (hL:M.L.Ok) (hm:dY M m) (h:Nodes M.L l):Safe M m (dH M m l).2.1∧Nodes M.L (dH M m l).2.2:=by
 cases l with
 | nil=>exact⟨.refl hm,h⟩
 | cons x r=>exact⟨uO hm hL (h x (List.mem_cons_self ..)),fun y hy=>h y (List.mem_cons_of_mem _ hy)⟩
structure ti (L:Ly) (s:fY):Prop where
 nodes:Nodes L s.nodes
 kept:Nodes L s.kept
 give:Nodes L s.give
 len:s.kept.length≤s.nodes.length
theorem xk {l:List Int} (h:Nodes L l):ti L (.new l):=⟨h,fun x hx=>by simp[fY.new] at hx,fun x hx=>by simp[fY.new] at hx,by simp[fY.new]⟩
theorem D4 {s:fY} (hL:M.L.Ok) (hm:dY M m) (h:ti M.L s):Safe M m (ct M m s).2.1∧ti M.L (ct M m s).2.2∧(ct M m s).2.2.nodes=s.nodes:=by
 obtain⟨h1,h2,h3,h4⟩:=h
 unfold ct
 split
 ·have:=D3 hL hm h3
  exact⟨this.1,⟨h1,h2,this.2,h4⟩,rfl⟩
 ·split
  ·exact⟨.refl hm,⟨h1,h1.filter _,h1.filter _,List.length_filter_le _ _⟩,rfl⟩
  ·exact⟨.refl hm,⟨h1,h2,h3,h4⟩,rfl⟩
structure bL (L:Ly) (t:cg) (N:Int):Prop where
 spare:0≤t.spare∧t.spare≤L.nd
 ret:Nodes L t.ret
 len:(t.ret.length:Int)≤N
theorem bL.mono {N N':Int} (h:bL L t N) (hN:N≤N'):bL L t N':=⟨h.spare,h.ret,Int.le_trans h.len hN⟩
def tj (L:Ly) (x:qV) (N:Int):Prop:=∀ s,x=some s→ti L s∧(s.nodes.length:Int)≤N
theorem yv {x:qV} {N:Int} (hL:M.L.Ok) (hm:dY M m) (ht:bL M.L t N) (h:tj M.L x N):Safe M m (a7 M m t x).2.1∧bL M.L (a7 M m t x).2.2.1 N∧tj M.L (a7 M m t x).2.2.2 N∧(a7 M m t x).2.2.1.spare=t.spare:=by
 have key:ti M.L (x.getD (.new t.ret))∧((x.getD (.new t.ret)).nodes.length:Int)≤N:=by
  cases x with
  | none=>exact⟨xk ht.ret,ht.len⟩
  | some s=>exact h s rfl
 have hs:=D4 hL hm key.1
 unfold a7
 simp only
 refine⟨hs.1,?_,fun s hs2=> ?_,?_⟩
 ·split
  ·refine⟨ht.spare,hs.2.1.kept,?_⟩
   have h1:=hs.2.1.len
   rw[hs.2.2] at h1
   have h2:=key.2
   simp only
   omega
  ·exact ht
 ·injection hs2 with hs2
  subst hs2
  exact⟨hs.2.1,by rw[hs.2.2];exact key.2⟩
 ·split<;>rfl
structure m6 (L:Ly) (e:jL) (N:Int):Prop where
 alloc:∀ a,e.scan=none→e.alloc=some a→uW L a
 scan:∀ x,e.scan=some x→tj L x N
theorem m6.live {e:jL} {N:Int} (h:m6 L e N):e.Live:=fun a h1 h2=>⟨(h.alloc a h1 h2).left,(h.alloc a h1 h2).got⟩
theorem tj.mono {x:qV} {N N':Int} (h:tj L x N) (hN:N≤N'):tj L x N':=fun s hs=>⟨(h s hs).1,Int.le_trans (h s hs).2 hN⟩
theorem m6.mono {e:jL} {N N':Int} (h:m6 L e N) (hN:N≤N'):m6 L e N':=⟨h.alloc,fun x hx=>(h.scan x hx).mono hN⟩
theorem BR (L:Ly) (N:Int):m6 L .new N:=⟨fun a _ h=>by simp[jL.new] at h,fun x h=>by simp[jL.new] at h⟩
theorem r3 {e:jL} {a:iq} {N:Int} (hL:M.L.Ok) (hm:dY M m) (ht:bL M.L t N) (hs:e.scan=none) (h:uW M.L a):Safe M m (mX M m t e a).2.1∧bL M.L (mX M m t e a).2.2.1 N∧((mX M m t e a).1=false→m6 M.L (mX M m t e a).2.2.2 N):=by
 have hn:=hL.nd
 have ha:=D1 hL hm h
 unfold mX
 simp only
 split
 ·rename_i h1
  exact⟨ha.1,ht,fun _=>⟨fun b _ hb=>by injection hb with hb;subst hb;exact ha.2.1 h1,fun x hx=>by rw[hs] at hx;cases hx⟩⟩
 ·split
  ·exact⟨ha.1,⟨ha.2.2,ht.ret,ht.len⟩,fun h=>by simp at h⟩
  ·exact⟨ha.1,⟨by simp only;omega,ht.ret,ht.len⟩,fun _=>⟨fun b hb _=>by simp at hb,fun x hx=>by injection hx with hx;subst hx;exact fun s h=>by cases h⟩⟩
theorem yw {e:jL} {N:Int} (hL:M.L.Ok) (hm:dY M m) (ht:bL M.L t N) (h:m6 M.L e N):Safe M m (aK M me m t e).2.1∧bL M.L (aK M me m t e).2.2.1 N∧((aK M me m t e).1=false→m6 M.L (aK M me m t e).2.2.2 N):=by
 unfold aK
 cases hs:e.scan with
 | some x=>
  have hw:=yv hL hm ht (h.scan x hs)
  simp only
  split
  ·exact⟨hw.1,hw.2.1,fun _=>⟨fun a h1=>by simp at h1,fun y hy=>by injection hy with hy;subst hy;exact hw.2.2.1⟩⟩
  ·exact⟨hw.1,hw.2.1,fun _=>⟨fun a _ h1=>by simp at h1,fun y hy=>by simp at hy⟩⟩
 | none=>
  simp only
  cases ha:e.alloc with
  | none=>
   simp only
   split
   ·exact⟨.refl hm,ht,fun h=>by simp at h⟩
   ·exact r3 hL hm ht hs (xj hL _)
  | some a=>exact r3 hL hm ht hs (h.alloc a hs ha)
structure zq (L:Ly) (p:kP):Prop where
 key:0≤p.key∧p.key≤1023
 next:0≤p.next∧p.next≤L.nd
theorem D5 {p:kP} (hL:L.Ok) (h:zq L p):(ao p.word).next≤L.nd:=by
 have hn:=hL.nd
 have hk:=h.key
 have hx:=h.next
 have hv:=(aQ p.found).ver
 unfold kP.word
 have hf:(⟨p.key,0,false,0,(ao p.found).ver⟩:Wd).Fit:=⟨by simp only;omega,by simp,by simp,hv⟩
 rw[dA (Wd.lT hf (by omega))]
 exact hx.2
theorem yx {p:kP} {N:Int} (hL:M.L.Ok) (hm:dY M m) (ht:bL M.L t N) (h:zq M.L p):Safe M m (ch M m t p).2.1∧zq M.L (ch M m t p).2.2:=by
 have hn:=hL.nd
 have hsp:=ht.spare
 unfold ch
 split
 ·exact⟨.refl hm,h.key,h.next⟩
 ·exact⟨rT hm (eo _) hL (by omega) (D5 hL h),h⟩
structure tl (L:Ly) (c:fo):Prop where
 addr:1≤c.addr∧c.addr≤L.nd+4
 at_:0≤c.at_∧c.at_≤3
 ji:1≤c.at_→0≤ji c.word∧ji c.word<L.th
 next:1≤c.at_→(ao c.word).next≤L.nd
 prop:c.at_=2→(getD' c.found).status=2∧nZ L c.found
theorem tn {a:Int} (h:1≤a∧a≤L.nd+4):tl L (.new a):=⟨h,by simp[fo.new],fun h=>by simp[fo.new] at h,fun h=>by simp[fo.new] at h,fun h=>by simp[fo.new] at h⟩
theorem r4 (x:Int):(ao (dS (ao x).free)).next=(ao x).next:=by rw[dA (Wd.jO (aQ x))];rfl
theorem tp {c:fo} (hL:M.L.Ok) (hm:dY M m) (h:tl M.L c):Safe M m (a9 M m c).2.1∧((a9 M m c).1=false→tl M.L (a9 M m c).2.2):=by
 have hn:=hL.nd
 obtain⟨h1,h2,h3,h4,h5⟩:=h
 unfold a9
 split
 ·refine⟨.refl hm,fun h=> ?_⟩
  simp only[Bool.or_eq_false_iff,decide_eq_false_iff_not] at h
  exact⟨h1,by simp,fun _=>by simp only;omega,fun _=>hm.word _ h1.1 h1.2,fun e=>by simp at e⟩
 ·split
  ·rename_i h0 h6
   have ht:=h3 (by omega)
   refine⟨.refl hm,fun _=>⟨h1,by simp only;split<;>omega,fun _=>ht,fun _=>h4 (by omega),fun e=> ?_⟩⟩
   refine⟨?_,hm.desc _ ht.1 ht.2⟩
   simp only at e⊢
   split at e
   ·rename_i ho
    unfold fo.open_ at ho
    simp only[Bool.and_eq_true,decide_eq_true_eq] at ho
    omega
   ·omega
  ·split
   ·rename_i h0 h6 h7
    have ht:=h3 (by omega)
    have hp:=h5 h7
    exact⟨fC hm (ej _) hL ht (fD hp.2 hp.1 3 (.inl rfl)),fun _=>⟨h1,by simp,fun _=>ht,fun _=>h4 (by omega),fun e=>by simp at e⟩⟩
   ·refine⟨gy hm (eo _) hL (by omega) ?_,fun h=>by simp at h⟩
    rw[r4]
    exact h4 (by omega)
end Go.Proofs.YtbcnnhlpilmmbaaGreat
