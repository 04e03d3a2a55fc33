/- Texts that are wanted for PTopFull.
   Conditions: none. -/
import Derived.Test.YtbcnnhlpilmmbaaGreatRows
import Derived.WalkKit
import Derived.WalkSpells
import Derived.WalkLawsBesides
import Derived.Lib.Hide
import Derived.Test.YtbcnnhlpilmmbaaGreatJPTopFull04
set_option maxRecDepth 100000
set_option maxHeartbeats 6400000
namespace Go.Proofs.YtbcnnhlpilmmbaaGreat
open Go Go.RowKit
variable {w:World} {C:Nat→Nat} {c b:Nat} {M:ML} {m:Nat→Int}
theorem tS {a:gR} (hm:aj w C M m) (h:gl w C c b M.L a) (h0:a.at_=0):Calls Tryz.prog 115 #[.pointer (some ⟨b,0,none⟩),.pointer (some ⟨M.b,0,none⟩)] w (G4 C c b M (bz M m a) w):=by
 obtain⟨hb,hwd,hfd,hat⟩:=h
 obtain⟨addr,at_,word,found⟩:=a
 simp only at hb hwd hfd hat h0
 subst h0
 have cr:=bJ hm addr
 obtain⟨v,hv⟩:∃ v,ld M m addr=v:=⟨_,rfl⟩
 have HST:Hid (bz M m ⟨addr,0,word,found⟩=(decide (qj v<0) || decide (M.L.th≤qj v),m,⟨addr,1,v,found⟩)):=Lib.hid (by unfold bz;rw[if_pos rfl];simp only[hv])
 rw[hv] at cr
 have HV:=Lib.hid hv
 have htr:=sd v
 have hth:=fun W=>iU v W cr
 obtain⟨u,hu⟩:∃ u,qj v=u:=⟨_,rfl⟩
 rw[hu] at hth htr
 have HU:=Lib.hid hu
 have G5:=Lib.hid hth
 clear hv hu hth
 have hc:=hb.blk.cells
 have h3:=hm.ok.th
 go_enter Tryz.func115,Tryz.ntmps115
 go_wp2_with fail
 refine(aP hm addr).mono ?_
 rintro e w2 ⟨rfl,hm2,hf2⟩
 rw[HV.out]
 have tk:=(hb.tk (Kc c) zB).call hf2 (aS c) se (.inr (by decide))
 clear hc
 have hc:=tk.sb.blk.cells
 have hfz:=tk.sb.blk.frees
 go_wp2_with fail
 have tk1:=(tk.set (fK c) (by decide) 4 (.int .u64 v)).set (fK c) (by decide) 3 (.int .i64 1)
 have CP:=(hm2.ao tk.sb (by decide) (by decide) 4 (.int .u64 v)).ao (tk.sb.ao 4 _) (by decide) (by decide) 3 (.int .i64 1)
 generalize((w2.setCell ⟨b,4,none⟩ (.int .u64 v)).setCell ⟨b,3,none⟩ (.int .i64 1))=w3 at *
 have tk2:Tk C (Kc c) zB w w3 c b 230 #[.int .i64 M.L.th,.int .i64 M.L.nd,.int .i64 addr,.int .i64 1,.int .u64 v,.int .u64 found]:=tk1
 clear tk tk1 hm2 hc hfz
 have hc:=tk2.sb.blk.cells
 refine(G5.out w3).mono ?_
 rintro e w4 ⟨rfl,hb4⟩
 have tk4:=tk2.step hb4
 have hm4:=CP.step hb4
 clear hc
 have hc:=tk4.sb.blk.cells
 have hown:gl w4 C c b M.L ⟨addr,1,v,found⟩:=⟨tk4.sb,cr,hfd,by simp⟩
 by_cases hlo:u<0
 ·have d0:decide (u<0)=true:=decide_eq_true hlo
  go_wp2_with fail
  go_ret
  exact⟨by rw[HST.out,HU.out,d0];rfl,by rw[HST.out];exact hm4,by rw[HST.out];exact hown,tk4.fr⟩
 ·have d0:decide (u<0)=false:=decide_eq_false hlo
  obtain⟨f,hf⟩:∃ f,decide (M.L.th≤u)=f:=⟨_,rfl⟩
  have HF:=Lib.hid hf
  go_wp2_with fail
  go_ret
  exact⟨by rw[HST.out,HU.out,d0,HF.out];rfl,by rw[HST.out];exact hm4,by rw[HST.out];exact hown,tk4.fr⟩
theorem tT {a:gR} (hm:aj w C M m) (h:gl w C c b M.L a) (h0:a.at_=1):Calls Tryz.prog 115 #[.pointer (some ⟨b,0,none⟩),.pointer (some ⟨M.b,0,none⟩)] w (G4 C c b M (bz M m a) w):=by
 obtain⟨hb,hwd,hfd,hat⟩:=h
 obtain⟨addr,at_,word,found⟩:=a
 simp only at hb hwd hfd hat h0
 subst h0
 have htr:=sd word
 have hth:=fun W=>iU word W hwd
 obtain⟨u,hu⟩:∃ u,qj word=u:=⟨_,rfl⟩
 rw[hu] at hth htr
 have cr:=bJ hm (M.L.desc u)
 obtain⟨v,hv⟩:∃ v,ld M m (M.L.desc u)=v:=⟨_,rfl⟩
 obtain⟨op,hop⟩:∃ op,(⟨addr,3,word,v⟩:gR).open_=op:=⟨_,rfl⟩
 have HST:Hid (bz M m ⟨addr,1,word,found⟩=(false,m,⟨addr,if op then 2 else 3,word,v⟩)):=Lib.hid (by simp only[bz];rw[hu,hv,hop];rfl)
 rw[hv] at cr
 have HV:=Lib.hid hv
 have G5:=Lib.hid hth
 have MC:=Lib.hid hop
 clear hv hu hth hop
 have hc:=hb.blk.cells
 have hl:=hb.lt
 go_enter Tryz.func115,Tryz.ntmps115
 go_wp2_with fail
 clear hc
 have q:=Later.cells (B:=w.heap.size) hb.blk hl
 refine az (fun w'=>∃ q:Later w.heap.size w,w'=q.val) 11 [] [0,1,2,3,4,5,6,7,8,9] [10,11,12,13,14,15] (by kernel_rfl) (by kernel_rfl) (Later.bI (Below.refl _ _).drew) ?_
 refine af ?_
 try simp only[au,List.map_cons,List.map_nil,List.getD_cons_zero,List.getD_cons_succ]
 repeat(go_big_quiet_step (fail))
 refine wpQuiet_nil ?_
 refine ay rfl (fun K' hK'=> ?_)
 go_simp
 ((with_reducible refine(G5.out _).mono ?_);rintro e w1 ⟨rfl,hb1⟩)
 refine hK' _ _ (Later.bI ((Below.refl w.heap.size w).drew.trans hb1)) ?_
 clear hK' K'
 refine ae _ _ _ (by kernel_rfl) ?_
 try simp only[au,List.map_cons,List.map_nil,List.getD_cons_zero,List.getD_cons_succ]
 clear q
 have tU:=(Below.refl w.heap.size w).drew.trans hb1
 go_wp2_with fail
 refine(cC M.L hm.ok u (by omega) _).mono ?_
 rintro e w2 ⟨rfl,hb2⟩
 have de:=tU.trans (hb2.mono tU.size)
 go_wp2_with fail
 refine(aP (hm.step de) (M.L.desc u)).mono ?_
 rintro e w3 ⟨rfl,CP,hf3⟩
 rw[HV.out]
 have tk:=((hb.tk (Kc c) zB).step de).call hf3 (aS c) se (.inr (by decide))
 have hc:=tk.sb.blk.cells
 have hfz:=tk.sb.blk.frees
 go_wp2_with fail
 refine NoPanic.normal ?_
 have tk1:=tk.set (fK c) (by decide) 5 (.int .u64 v)
 have hm4:=CP.ao tk.sb (by decide) (by decide) 5 (.int .u64 v)
 clear hc hfz
 generalize w3.setCell ⟨b,5,none⟩ (.int .u64 v)=w4 at *
 have tk2:Tk C (Kc c) zB w w4 c b 230 #[.int .i64 M.L.th,.int .i64 M.L.nd,.int .i64 addr,.int .i64 1,.int .u64 word,.int .u64 v]:=tk1
 clear tk tk1 CP
 have hc:=tk2.sb.blk.cells
 have hfz:=tk2.sb.blk.frees
 go_wp2_with fail
 have tk3:=tk2.set (fK c) (by decide) 3 (.int .i64 3)
 have Fc:=hm4.ao tk2.sb (by decide) (by decide) 3 (.int .i64 3)
 generalize w4.setCell ⟨b,3,none⟩ (.int .i64 3)=w5 at *
 have tk4:Tk C (Kc c) zB w w5 c b 230 #[.int .i64 M.L.th,.int .i64 M.L.nd,.int .i64 addr,.int .i64 3,.int .u64 word,.int .u64 v]:=tk3
 clear tk2 tk3 hm4 hc hfz
 refine(vP (a:=⟨addr,3,word,v⟩) ⟨tk4.sb,hwd,cr,by simp⟩).mono ?_
 rintro e w6 ⟨rfl,hb6⟩
 have GG:=tk4.step hb6
 have GH:=Fc.step hb6
 rw[MC.out]
 have hc:=GG.sb.blk.cells
 have hfz:=GG.sb.blk.frees
 cases op
 ·go_wp2_with fail
  go_ret
  exact⟨by rw[HST.out];rfl,by rw[HST.out];exact GH,by rw[HST.out];exact⟨GG.sb,hwd,cr,by simp⟩,GG.fr⟩
 ·have Et:=GG.set (fK c) (by decide) 3 (.int .i64 2)
  have At:=GH.ao GG.sb (by decide) (by decide) 3 (.int .i64 2)
  go_wp2_with fail
  go_ret
  exact⟨by rw[HST.out];rfl,by rw[HST.out];exact At,by rw[HST.out];exact⟨Et.sb,hwd,cr,by simp⟩,Et.fr⟩
theorem tV {a:gR} (hm:aj w C M m) (h:gl w C c b M.L a) (h0:a.at_=2):Calls Tryz.prog 115 #[.pointer (some ⟨b,0,none⟩),.pointer (some ⟨M.b,0,none⟩)] w (G4 C c b M (bz M m a) w):=by
 obtain⟨hb,hwd,hfd,hat⟩:=h
 obtain⟨addr,at_,word,found⟩:=a
 simp only at hb hwd hfd hat h0
 subst h0
 have htr:=sd word
 have hth:=fun W=>iU word W hwd
 obtain⟨u,hu⟩:∃ u,qj word=u:=⟨_,rfl⟩
 rw[hu] at hth htr
 have hget:=fun W=>fC found W hfd
 obtain⟨D,hD⟩:∃ D,getD' found=D:=⟨_,rfl⟩
 rw[hD] at hget
 have hxr:=gV (D.with_ 3)
 obtain⟨x,hx⟩:∃ x,cL (D.with_ 3)=x:=⟨_,rfl⟩
 have hput:=fun W=>tQ (D.with_ 3) W
 unfold G3 at hput
 rw[hx] at hput hxr
 obtain⟨er,her⟩:∃ er:Int,(if (D.with_ 3).fit then (0:Int) else 2)=er:=⟨_,rfl⟩
 rw[her] at hput
 have HST:Hid (bz M m ⟨addr,2,word,found⟩=(false,cas M m (M.L.desc u) found x,⟨addr,3,word,found⟩)):=Lib.hid (by simp only[bz];rw[hu,hD,hx];rfl)
 have G5:=Lib.hid hth
 have Fe:=Lib.hid hget
 have Ff:=Lib.hid hput
 have G6:=Lib.hid (fun W=>mq D 3 W)
 clear hu hth hget hput hx hD her
 have hc:=hb.blk.cells
 have hl:=hb.lt
 go_enter Tryz.func115,Tryz.ntmps115
 go_wp2_with fail
 refine(Fe.out w).mono ?_
 rintro e w1 ⟨rfl,hb1⟩
 go_wp2_with fail
 refine(G6.out w1).mono ?_
 rintro e w2 ⟨rfl,hb2⟩
 go_wp2_with fail
 refine(Ff.out w2).mono ?_
 rintro e w3 ⟨rfl,hb3⟩
 have kJ:=(hb1.trans (hb2.mono hb1.size)).trans (hb3.mono (Nat.le_trans hb1.size hb2.size))
 have hb':=hb.step kJ
 have hm':=hm.step kJ
 clear hc
 go_wp2_with fail
 have q:=Later.cells (B:=w3.heap.size) hb'.blk hb'.lt
 refine az (fun w'=>∃ q:Later w3.heap.size w3,w'=q.val) 16 [] [0,1,2,3,4,5,6,7,8,11,12,13,14,15] [9,10,16] (by kernel_rfl) (by kernel_rfl) (Later.bI (Below.refl _ _).drew) ?_
 refine af ?_
 try simp only[au,List.map_cons,List.map_nil,List.getD_cons_zero,List.getD_cons_succ]
 repeat(go_big_quiet_step (fail))
 refine wpQuiet_nil ?_
 refine ay rfl (fun K' hK'=> ?_)
 go_simp
 ((with_reducible refine(G5.out _).mono ?_);rintro e w4 ⟨rfl,hb4⟩)
 have gM:=(Below.refl w3.heap.size w3).drew.trans hb4
 refine hK' _ _ (Later.bI ((Below.refl w3.heap.size w3).drew.trans hb4)) ?_
 clear hK' K'
 refine ay rfl (fun K' hK'=> ?_)
 go_simp
 ((with_reducible refine(cC M.L hm.ok u (by omega) _).mono ?_);rintro e w5 ⟨rfl,hb5⟩)
 refine hK' _ _ (Later.bI (gM.trans (hb5.mono gM.size))) ?_
 clear hK' K'
 refine ae _ _ _ (by kernel_rfl) ?_
 try simp only[au,List.map_cons,List.map_nil,List.getD_cons_zero,List.getD_cons_succ]
 clear q
 have G7:=gM.trans (hb5.mono gM.size)
 go_wp2_with fail
 refine(fq (hm'.step G7) (M.L.desc u) found x (by omega)).mono ?_
 rintro e w6 ⟨rfl,GH,JX⟩
 have tk:=((hb.tk (Kc c) zB).step (kJ.trans (G7.mono kJ.size))).call JX (aS c) se (.inr (by decide))
 have hc:=tk.sb.blk.cells
 have hfz:=tk.sb.blk.frees
 have Et:=tk.set (fK c) (by decide) 3 (.int .i64 3)
 have At:=GH.ao tk.sb (by decide) (by decide) 3 (.int .i64 3)
 go_wp2_with fail
 refine NoPanic.normal ?_
 go_wp2_with fail
 go_ret
 exact⟨by rw[HST.out];rfl,by rw[HST.out];exact At,by rw[HST.out];exact⟨Et.sb,hwd,hfd,by simp⟩,Et.fr⟩
theorem tW {a:gR} (hm:aj w C M m) (h:gl w C c b M.L a) (h0:a.at_=3):Calls Tryz.prog 115 #[.pointer (some ⟨b,0,none⟩),.pointer (some ⟨M.b,0,none⟩)] w (G4 C c b M (bz M m a) w):=by
 obtain⟨hb,hwd,hfd,hat⟩:=h
 obtain⟨addr,at_,word,found⟩:=a
 simp only at hb hwd hfd hat h0
 subst h0
 have hget:=fun W=>aT word W hwd
 have hfit:=bG word
 obtain⟨D,hD⟩:∃ D,aE word=D:=⟨_,rfl⟩
 rw[hD] at hget hfit
 have hxr:=fA D.free
 obtain⟨x,hx⟩:∃ x,eU D.free=x:=⟨_,rfl⟩
 have hput:=fun W=>tP D.free W
 unfold GZ at hput
 rw[hx] at hput hxr
 obtain⟨er,her⟩:∃ er:Int,(if D.free.fit then (0:Int) else 2)=er:=⟨_,rfl⟩
 rw[her] at hput
 have HST:Hid (bz M m ⟨addr,3,word,found⟩=(true,cas M m addr word x,⟨addr,3,word,found⟩)):=Lib.hid (by simp only[bz];rw[hD,hx];rfl)
 have Fe:=Lib.hid hget
 have Ff:=Lib.hid hput
 have G8:=Lib.hid (fun W=>mj D W hfit.ver)
 clear hget hput hx hD her hfit
 have hc:=hb.blk.cells
 have hl:=hb.lt
 go_enter Tryz.func115,Tryz.ntmps115
 go_wp2_with fail
 refine(Fe.out w).mono ?_
 rintro e w1 ⟨rfl,hb1⟩
 go_wp2_with fail
 refine(G8.out w1).mono ?_
 rintro e w2 ⟨rfl,hb2⟩
 go_wp2_with fail
 refine(Ff.out w2).mono ?_
 rintro e w3 ⟨rfl,hb3⟩
 have kJ:=(hb1.trans (hb2.mono hb1.size)).trans (hb3.mono (Nat.le_trans hb1.size hb2.size))
 have hb':=hb.step kJ
 have hm':=hm.step kJ
 clear hc
 go_wp2_with fail
 have q:=Later.cells (B:=w3.heap.size) hb'.blk hb'.lt
 refine az (fun w'=>∃ q:Later w3.heap.size w3,w'=q.val) 10 [] [0,1,2,3,4,5,6,7,8,9] [10] (by kernel_rfl) (by kernel_rfl) (Later.bI (Below.refl _ _).drew) ?_
 refine af ?_
 try simp only[au,List.map_cons,List.map_nil,List.getD_cons_zero,List.getD_cons_succ]
 repeat(go_big_quiet_step (fail))
 refine wpQuiet_nil ?_
 refine ae _ _ _ (by kernel_rfl) ?_
 try simp only[au,List.map_cons,List.map_nil,List.getD_cons_zero,List.getD_cons_succ]
 clear q
 go_wp2_with fail
 refine(fq hm'.drew addr word x (by omega)).mono ?_
 rintro e w6 ⟨rfl,GH,JX⟩
 have tk:=((hb.tk (Kc c) zB).step (kJ.trans ((Below.refl w3.heap.size w3).drew.mono kJ.size))).call JX (aS c) se (.inr (by decide))
 go_wp2_with fail
 refine NoPanic.normal ?_
 go_wp2_with fail
 go_ret
 exact⟨by rw[HST.out];rfl,by rw[HST.out];exact GH,by rw[HST.out];exact⟨tk.sb,hwd,hfd,by simp⟩,tk.fr⟩
theorem kL {a:gR} (hm:aj w C M m) (h:gl w C c b M.L a):Calls Tryz.prog 115 #[.pointer (some ⟨b,0,none⟩),.pointer (some ⟨M.b,0,none⟩)] w (G4 C c b M (bz M m a) w):=by
 have h1:=h.at_
 have h2:a.at_=0∨a.at_=1∨a.at_=2∨a.at_=3:=by omega
 rcases h2 with h2 | h2 | h2 | h2
 ·exact tS hm h h2
 ·exact tT hm h h2
 ·exact tV hm h h2
 ·exact tW hm h h2
structure CR where
 thread:Int
 at_:Int
structure oe (w:World) (C:Nat→Nat) (c b:Nat) (L:Ly) (a:CR):Prop where
 blk:SB w C c b 204 #[.int .i64 L.th,.int .i64 L.nd,.int .i64 a.thread,.int .i64 a.at_]
 thread:0≤a.thread∧a.thread≤100
 at_:0≤a.at_∧a.at_≤100
def ey (M:ML) (m:Nat→Int) (a:CR):Bool×(Nat→Int)×CR:=(decide (2≤a.at_+1),st M m (M.L.slot a.thread a.at_) 0,{ a with at_:=a.at_+1 })
def Jq:List (Option TypeId):=[some 204,some 75,some 34]
theorem Fg:∀ x,x∈LM→x∈Jq:=by decide
structure MD (C:Nat→Nat) (c b:Nat) (M:ML) (r:Bool×(Nat→Int)×CR) (w:World) (e:Ending) (w':World):Prop where
 ret:e= .returned (.bool r.1)
 mem:aj w' C M r.2.1
 own:oe w' C c b M.L r.2.2
 fr:Fr C (Kc c) Jq w w'
theorem vQ (L:Ly) (thread:Int) (ht:0≤thread∧thread≤100) (C:Nat→Nat) (c:Nat) (w:World):Calls Tryz.prog 135 #[L.val,.int .i64 thread] w (kH C c (fun w' C' b=>oe w' C' c b L ⟨thread,0⟩) w):=by
 obtain⟨th,nd⟩:=L
 simp only[Ly.val]
 go_enter Tryz.func135,Tryz.ntmps135
 go_wp2_with fail
 have hb0:Below w.heap.size w (w.alloc (.cells #[.int .i64 th,.int .i64 nd] 31)):=(Below.refl _ _).alloc (Nat.le_refl _) _
 go_ret
 exact⟨⟨w.heap.size+1,rfl,by omega,SB.new _ _ (aO C c (by omega)) _ _ (by simp),ht,by simp⟩,hb0.alloc (by simp) _⟩
theorem nz {a:CR} (hm:aj w C M m) (h:oe w C c b M.L a) (hat:a.at_≤50):Calls Tryz.prog 85 #[.pointer (some ⟨b,0,none⟩),.pointer (some ⟨M.b,0,none⟩)] w (MD C c b M (ey M m a) w):=by
 obtain⟨hb,hth,gN⟩:=h
 obtain⟨thread,at_⟩:=a
 simp only at hb hth hat gN
 have HST:Hid (ey M m ⟨thread,at_⟩=(decide (2≤at_+1),st M m (M.L.slot thread at_) 0,⟨thread,at_+1⟩)):=Lib.hid rfl
 have hl:=hb.lt
 go_enter Tryz.func85,Tryz.ntmps85
 go_wp2_with fail
 have q:=Later.cells (B:=w.heap.size) hb.blk hl
 refine az (fun w'=>∃ q:Later w.heap.size w,w'=q.val) 13 [] [0,1,2,3,4,5,6,7,8,9,10,11,12] [13,14] (by kernel_rfl) (by kernel_rfl) (Later.bI (Below.refl _ _).drew) ?_
 refine af ?_
 try simp only[au,List.map_cons,List.map_nil,List.getD_cons_zero,List.getD_cons_succ]
 repeat(go_big_quiet_step (fail))
 refine wpQuiet_nil ?_
 refine ae _ _ _ (by kernel_rfl) ?_
 try simp only[au,List.map_cons,List.map_nil,List.getD_cons_zero,List.getD_cons_succ]
 clear q
 go_wp2_with fail
 refine(jG M.L hm.ok thread at_ (by omega) (by omega) _).mono ?_
 rintro e w1 ⟨rfl,hb1⟩
 go_wp2_with fail
 refine(fa (hm.drew.step hb1) (M.L.slot thread at_) 0 (by omega)).mono ?_
 rintro e w2 ⟨rfl,hm2,hf2⟩
 have tk:=((hb.tk (Kc c) Jq).drew.step hb1).call hf2 (aS c) Fg (.inr (by decide))
 have hc:=tk.sb.blk.cells
 have hfz:=tk.sb.blk.frees
 have Et:=tk.set (fK c) (by decide) 3 (.int .i64 (at_+1))
 have At:=hm2.ao tk.sb (by decide) (by decide) 3 (.int .i64 (at_+1))
 go_wp2_with fail
 refine NoPanic.normal ?_
 go_wp2_with fail
 go_ret
 exact⟨by rw[HST.out];rfl,by rw[HST.out];exact At,by rw[HST.out];exact⟨Et.sb,hth,by simp only;omega⟩,Et.fr⟩
theorem gZ:(Tryz.prog.info? 3).map (fun i=>(i.zero,i.size,i.bytes))=some (some (.int .i64 0),1,8):=by kernel_rfl
theorem rh (A:Option Addr) (n c B:Nat) (xs:List Value) (w:World) (hr:Sl w B 1 A n xs) (hB:B≤w.heap.size) (h1:∀ u∈xs,u.oneCell'=true) (hn:n≤100000) (hnil:A=none→n=0∧c=0):
  Calls Tryz.prog 172 #[.slice A n c] w fun e w'=>∃ v,e= .returned v∧w'.ownsRow w.heap.size 3 1 v n xs∧Below w.heap.size w w':=by
 obtain⟨i0,hi,hz0,hz1,hz2⟩:=info_parts gZ
 cases A with
 | none=>
  obtain⟨rfl,rfl⟩:=hnil rfl
  have hx:xs=[]:=List.eq_nil_of_length_eq_zero (by simpa using hr.len)
  subst hx
  have hq:=fun w:World=>Lib.run_eql_slice_nil (P:=Tryz.prog) w 89 3 none 0 0 0 0 Tryz.underlying89
  go_enter Tryz.func172,Tryz.ntmps172
  go_wp2
  go_ret
  exact⟨_,rfl,World.ownsRow_nil _ _ _ _,Below.refl _ _⟩
 | some a=>
  have hq:=fun w:World=>Lib.run_eql_slice_nil (P:=Tryz.prog) w 89 3 (some a) n c 0 0 Tryz.underlying89
  have ho:=n5 w 3 1 (Nat.le_refl _) rfl
  have hs:Sl (w.alloc (.cells #[] 3)) B 1 (some a) n xs:=hr.step hB ((Below.refl _ _).alloc (Nat.le_refl _) _)
  go_enter Tryz.func172,Tryz.ntmps172
  go_wp2_with (at_builtin;refine dU _ rfl _ _ _ rfl w.heap.size 3 i0 _ 1 8 Tryz.underlying89 hi hz0 hz1 hz2 rfl (by omega) (.slice (some ⟨w.heap.size,0,none⟩) 0 0) 0 [] rfl ho B (some a) n c xs rfl hs h1 (by unfold maxLen;omega) (by omega) (by simp) ?_;intro v1 w1 hown1 hg1 CS)
  go_ret
  exact⟨_,rfl,by simpa using hown1,((Below.refl _ _).alloc (Nat.le_refl _) _).grown hg1 (by simp) (by simp[Value.ownBlock])⟩
structure Sr (w:World) (C:Nat→Nat) (c:Nat) (e:TypeId) (sz:Nat) (A:Option Addr) (n:Nat) (xs:List Value):Prop where
 sl:Sl w w.heap.size sz A n xs
 blk:0<n→∃ cs,a8 w (bt A) e cs∧C (bt A)=c
section
variable {w w':World} {C C':Nat→Nat} {c:Nat} {e:TypeId} {sz n:Nat} {A:Option Addr} {xs:List Value} {K:Nat→Prop} {T:List (Option TypeId)}
theorem Sr.fr (h:Sr w C c e sz A n xs) (k:Fr C K T w w') (hk:¬ K c∨some e∉T):Sr w' C c e sz A n xs:=by
 refine⟨⟨h.sl.len,h.sl.CF,fun hn=>Nat.lt_of_lt_of_le (h.sl.blt hn) k.size,fun j hj=> ?_⟩,fun hn=> ?_⟩
 ·obtain⟨cs,hb,kM⟩:=h.blk (h.sl.pos hj)
  have h1:=h.sl.cell j hj
  rw[hb.cell] at h1
  rw[(hb.fr k (by rw[kM];exact hk)).cell];exact h1
 ·obtain⟨cs,hb,kM⟩:=h.blk hn
  exact⟨cs,hb.fr k (by rw[kM];exact hk),kM⟩
theorem Sr.nv (h:Sr w C c e sz A n xs) (k:aB w.heap.size C C'):Sr w C' c e sz A n xs:=⟨h.sl,fun hn=>by
 obtain⟨cs,hb,kM⟩:=h.blk hn
 exact⟨cs,hb,(k _ hb.lt).trans kM⟩⟩
theorem Sr.step (h:Sr w C c e sz A n xs) (k:Below w.heap.size w w'):Sr w' C c e sz A n xs:=⟨(h.sl.step (Nat.le_refl _) k).more k.size,fun hn=>by
 obtain⟨cs,hb,kM⟩:=h.blk hn
 exact⟨cs,hb.step k,kM⟩⟩
theorem Sr.si {m:Nat} (h:Row w C c e sz (.slice A n m) n xs):Sr w C c e sz A n xs:=by
 have hs:=Sl.cB h.own
 refine⟨hs,fun hn=> ?_⟩
 have ha:=hs.CF hn
 have h1:Value.ownBlock (.slice A n m)=some (bt A):=by rw[ha];rfl
 obtain⟨-,cs,hb⟩:=bH h.own _ h1
 exact⟨cs,hb,h.col _ h1⟩
theorem Sr.nil_ (w:World) (C:Nat→Nat) (c:Nat) (e:TypeId) (sz:Nat) (A:Option Addr):Sr w C c e sz A 0 []:=⟨Sl.empty _ _ _ _,fun h=>absurd h (by omega)⟩
theorem Sr.cut (h:Sr w C c e sz A n xs) {k cap:Nat} (hk:k≤n) (hc:n≤cap):Sr w C c e sz (if cap=k then A else A.map (·.add (k*sz))) (n - k) (xs.drop (k*sz)):=by
 refine⟨h.sl.cut hk hc,fun hn=> ?_⟩
 obtain⟨cs,hb,kM⟩:=h.blk (by omega)
 rw[if_neg (by omega)]
 have ha:=h.sl.CF (by omega)
 have e1:bt (A.map (·.add (k*sz)))=bt A:=by
  rw[ha]
  simp only[bt,Option.map_some,Option.getD_some]
  unfold Addr.add
  split<;>rfl
 rw[e1];exact⟨cs,hb,kM⟩
end
def Small (l:List Int):Prop:=∀ x∈l,0≤x∧x≤1000
structure lB (w:World) (C:Nat→Nat) (c b:Nat) (L:Ly) (l:List Int):Prop where
 ex:∃ A m,SB w C c b 259 #[.int .i64 L.th,.int .i64 L.nd,.slice A l.length m]∧Sr w C c 3 1 A l.length (cv l)∧l.length≤m
 small:Small l
def ez (M:ML) (m:Nat→Int):List Int→Bool×(Nat→Int)×List Int
 | []=>(true,m,[])
 | x::r=>(r.isEmpty,add M m (M.L.life x) 1,r)
section
variable {w w':World} {C C':Nat→Nat} {c b:Nat} {L:Ly} {l:List Int}
theorem lB.fr {K:Nat→Prop} {T:List (Option TypeId)} (h:lB w C c b L l) (k:Fr C K T w w') (hk:¬ K c∨(some 259∉T∧some 3∉T)):lB w' C c b L l:=by
 obtain⟨A,m,h1,h2,h3⟩:=h.ex
 exact⟨⟨A,m,h1.fr k (hk.imp id (·.1)),h2.fr k (hk.imp id (·.2)),h3⟩,h.small⟩
end
def Jr:List (Option TypeId):=[some 259,some 75,some 34]
theorem Au:∀ x,x∈LM→x∈Jr:=by decide
structure ME (C:Nat→Nat) (c b:Nat) (M:ML) (r:Bool×(Nat→Int)×List Int) (w:World) (e:Ending) (w':World):Prop where
 ret:e= .returned (.bool r.1)
 mem:aj w' C M r.2.1
 own:lB w' C c b M.L r.2.2
 fr:Fr C (Kc c) Jr w w'
theorem Av (x:Int) (l:List Int):cv (x::l)= .int .i64 x::cv l:=rfl
theorem yt {l:List Int} (hm:aj w C M m) (h:lB w C c b M.L l) (hlen:l.length≤100000):Calls Tryz.prog 174 #[.pointer (some ⟨b,0,none⟩),.pointer (some ⟨M.b,0,none⟩)] w (ME C c b M (ez M m l) w):=by
 have hL:=hm.ok
 obtain⟨A,cap,hb,hsr,hcap⟩:=h.ex
 have hsm:=Lib.hid h.small
 have hc:=hb.blk.cells
 have hl:=hb.lt
 cases l with
 | nil=>
  simp only[List.length_nil] at hb hc
  have HST:Hid (ez M m []=(true,m,[])):=Lib.hid rfl
  go_enter Tryz.func174,Tryz.ntmps174
  go_wp2_with fail
  refine(aP hm 0).mono ?_
  rintro e w2 ⟨rfl,hm2,hf2⟩
  go_wp2_with fail
  go_ret
  exact⟨by rw[HST.out];rfl,by rw[HST.out];exact hm2,by rw[HST.out];exact h.fr hf2 (.inr ⟨by decide,by decide⟩),hf2.mono (aS c) Au⟩
 | cons x r=>
  have HST:Hid (ez M m (x::r)=(r.isEmpty,add M m (M.L.life x) 1,r)):=Lib.hid rfl
  obtain⟨n,hn⟩:∃ n,r.length=n:=⟨_,rfl⟩
  rw[List.length_cons,hn] at hb hc hsr hcap hlen
  have hx:=hsm.out x (List.mem_cons_self ..)
  have hie:r.isEmpty=decide (n=0):=by rw[←hn];cases r<;>simp
  have Js:=Lib.hid hie
  have HN:=Lib.hid hn
  clear hie hn h
  have hcx:=hsr.sl.cell 0 (by omega)
  have hblt:=hsr.sl.blt (by omega)
  simp only[Av,List.getElem?_cons_zero,Nat.add_zero] at hcx
  have hidx:∀ W:World,(Instr.indexAt 89 (.slice A (n+1) cap) (.int .i64 0)).run Tryz.prog W= .ok (.pointer (some ⟨bt A,bY A,none⟩)) W:=fun W=>by
   have:=hsr.sl.idx (P:=Tryz.prog) (c:=cap) Tryz.underlying89 iL (show 0<n+1 by omega) W
   simpa using this
  have hcut:=CG (P:=Tryz.prog) Tryz.underlying89 iL A (n+1) cap 1 1 rfl (by omega)
  have vR:=hsr.cut (k:=1) (cap:=cap) (by omega) (by omega)
  obtain⟨A',hA'⟩:∃ A',(if cap=1 then A else A.map (·.add (1*1)))=A':=⟨_,rfl⟩
  rw[hA'] at hcut vR
  have Fh:Sr w C c 3 1 A' n (cv r):=by
   have e1:n+1 - 1=n:=by omega
   rw[e1] at vR
   exact vR
  rw[show n+1 - 1=n by omega] at hcut
  clear vR hA'
  have MF:=Lib.hid Fh
  have MG:=Lib.hid hcx
  have JY:=Lib.hid hidx
  have CT:=Lib.hid hcut
  clear Fh hcx hidx hcut
  go_enter Tryz.func174,Tryz.ntmps174
  go_wp2_with fail
  have q:=Later.cells (B:=w.heap.size) hb.blk hl
  have qx:=Later.cell (B:=w.heap.size) MG.out hblt
  have hidx:=JY.out
  have hidx':=fun q:Later w.heap.size w=>hidx q.val
  clear hc
  refine az (fun w'=>∃ q:Later w.heap.size w,w'=q.val) 11 [] [0,1,2,3,4,5,6,7,8,9,10] [11,12] (by kernel_rfl) (by kernel_rfl) (Later.bI (Below.refl _ _).drew) ?_
  refine af ?_
  try simp only[au,List.map_cons,List.map_nil,List.getD_cons_zero,List.getD_cons_succ]
  repeat(go_big_quiet_step (fail))
  refine wpQuiet_nil ?_
  refine ae _ _ _ (by kernel_rfl) ?_
  try simp only[au,List.map_cons,List.map_nil,List.getD_cons_zero,List.getD_cons_succ]
  clear q qx hidx hidx'
  go_wp2_with fail
  refine(jF M.L hL x (by omega) _).mono ?_
  rintro e w1 ⟨rfl,hb1⟩
  go_wp2_with fail
  refine(r9 (hm.drew.step hb1) (M.L.life x) 1).mono ?_
  rintro e w2 ⟨rfl,hm2,hf2⟩
  have tk:=((hb.tk (Kc c) Jr).drew.step hb1).call hf2 (aS c) Au (.inr (by decide))
  have vR:=(MF.out.step ((Below.refl _ _).drew.trans hb1)).fr hf2 (.inr (by decide))
  have hc2:=tk.sb.blk.cells
  have hfz:=tk.sb.blk.frees
  go_wp2_with fail
  refine NoPanic.normal ?_
  have tk2:=tk.set (fK c) (by decide) 2 (.slice A' n (cap - 1))
  have CP:=hm2.ao tk.sb (by decide) (by decide) 2 (.slice A' n (cap - 1))
  have Fh:=vR
  have hcut:=CT.out
  have JZ:=vR.fr (tk.sb.qh 2 (.slice A' n (cap - 1))) (.inr (by decide))
  have hbq:((n:Int)==0)=r.isEmpty:=by
   rw[Js.out]
   by_cases h0:n=0
   ·subst h0;rfl
   ·rw[decide_eq_false h0];exact beq_eq_false_iff_ne.2 (by omega)
  have E7:=Lib.hid hbq
  clear hbq
  go_wp2_with fail
  go_ret
  exact⟨by rw[HST.out];exact congrArg (fun q=>Ending.returned (.bool q)) E7.out,by rw[HST.out];exact CP,by
   rw[HST.out]
   exact⟨⟨A',cap - 1,by rw[HN.out];exact tk2.sb,by rw[HN.out];exact JZ,by rw[HN.out];omega⟩,fun y hy=>hsm.out y (List.mem_cons_of_mem _ hy)⟩,tk2.fr⟩
structure G9 (C:Nat→Nat) (c:Nat) (L:Ly) (l:List Int) (w:World) (e:Ending) (w':World):Prop where
 ex:∃ b,e= .returned (.pointer (some ⟨b,0,none⟩))∧w.heap.size≤b∧lB w' (a9 C w.heap.size c) c b L l
 bel:Below w.heap.size w w'
theorem yu (L:Ly) (l:List Int) (A:Option Addr) (n cap B:Nat) (C:Nat→Nat) (c:Nat) (w:World) (hs:Sl w B 1 A n (cv l)) (hB:B≤w.heap.size) (hn:l.length=n) (hn':n≤100000) (hnil:A=none→n=0∧cap=0) (hsm:Small l):
  Calls Tryz.prog 193 #[L.val,.slice A n cap] w (G9 C c L l w):=by
 have HS:=Lib.hid hsm
 have HN:=Lib.hid hn
 obtain⟨th,nd⟩:=L
 clear hsm hn
 simp only[Ly.val]
 go_enter Tryz.func193,Tryz.ntmps193
 go_wp2_with fail
 have hx:=a8.new w 31 #[.int .i64 th,.int .i64 nd]
 have hb0:Below w.heap.size w (w.alloc (.cells #[.int .i64 th,.int .i64 nd] 31)):=(Below.refl _ _).alloc (Nat.le_refl _) _
 generalize(w.alloc (.cells #[.int .i64 th,.int .i64 nd] 31))=w1 at *
 have hcl:=fun (W:World) (hW:Below w1.heap.size w1 W)=>rh A n cap B (cv l) W (hs.step hB (hb0.trans (hW.mono hb0.size))) (Nat.le_trans hB (Nat.le_trans hb0.size hW.size)) (gE l) hn' hnil
 have q:=Later.cells (B:=w1.heap.size) hx hx.lt
 refine az (fun w'=>∃ q:Later w1.heap.size w1,w'=q.val) 4 [([0,1],2)] [3] [4,5] (by kernel_rfl) (by kernel_rfl) (Later.bI (Below.refl _ _).drew) ?_
 refine ai ?_
 simp only[au,List.map_cons,List.map_nil,List.getD_cons_zero,List.getD_cons_succ]
 repeat(go_big_quiet_step (fail))
 refine wpQuiet_nil ?_
 refine bm rfl (fun K' hK'=> ?_)
 go_simp
 ((with_reducible refine(hcl _ ((Below.refl w1.heap.size w1).drew)).mono ?_);rintro e w2 ⟨v,rfl,hown,hb2⟩)
 obtain⟨A2,c2,rfl,hc2,-,-⟩:=bF hown
 refine hK' _ _ (Later.bI ((Below.refl w1.heap.size w1).drew.trans hb2)) ?_
 clear hK' K'
 refine af ?_
 try simp only[au,List.map_cons,List.map_nil,List.getD_cons_zero,List.getD_cons_succ]
 repeat(go_big_quiet_step (fail))
 refine wpQuiet_nil ?_
 refine ae _ _ _ (by kernel_rfl) ?_
 try simp only[au,List.map_cons,List.map_nil,List.getD_cons_zero,List.getD_cons_succ]
 clear q
 have iN:=(Below.refl w1.heap.size w1).drew.trans hb2
 have de:=hb0.trans (iN.mono hb0.size)
 go_wp2_with fail
 refine NoPanic.normal ?_
 go_wp2_with fail
 go_ret
 have hrow:Row w2 (a9 C w.heap.size c) c 3 1 (.slice A2 n c2) n (cv l):=⟨eh hown (Nat.zero_le _),fun g hg=>aO C c (Nat.le_trans hb0.size (bH hown g hg).1)⟩
 exact⟨⟨w2.heap.size,rfl,de.size,⟨A2,c2,by rw[HN.out];exact SB.new w2 _ (aO C c de.size) _ _ rfl,by rw[HN.out];exact(Sr.si hrow).step ((Below.refl _ _).alloc (Nat.le_refl _) _),by rw[HN.out];exact hc2⟩,HS.out⟩,de.alloc de.size _⟩
def dJ (sh:Int):List Int:=if sh=1∨sh=2 then [1,2,3] else if sh=3∨sh=4 then [4,5] else []
theorem hG (sh:Int) (w:World):Calls Tryz.prog 90 #[.int .i64 sh] w fun e w'=>e= .returned (.bool (decide (sh=1∨sh=2)))∧w'=w:=by
 by_cases h1:sh=1
 ·subst h1
  go_enter Tryz.func90,Tryz.ntmps90
  go_wp2
  go_ret
  exact⟨rfl,rfl⟩
 ·by_cases h2:sh=2
  ·subst h2
   go_enter Tryz.func90,Tryz.ntmps90
   go_wp2
   go_ret
   exact⟨rfl,rfl⟩
  ·have e1:(sh==1)=false:=by simpa using h1
   have e2:(sh==2)=false:=by simpa using h2
   have H:=Lib.hid (show decide (sh=1∨sh=2)=false by simp[h1,h2])
   clear h1 h2
   go_enter Tryz.func90,Tryz.ntmps90
   go_wp2
   go_ret
   exact⟨by rw[H.out];rfl,rfl⟩
theorem ri (sh:Int) (w:World):Calls Tryz.prog 91 #[.int .i64 sh] w fun e w'=>e= .returned (.bool (decide (sh=3∨sh=4)))∧w'=w:=by
 by_cases h1:sh=3
 ·subst h1
  go_enter Tryz.func91,Tryz.ntmps91
  go_wp2
  go_ret
  exact⟨rfl,rfl⟩
 ·by_cases h2:sh=4
  ·subst h2
   go_enter Tryz.func91,Tryz.ntmps91
   go_wp2
   go_ret
   exact⟨rfl,rfl⟩
  ·have e1:(sh==3)=false:=by simpa using h1
   have e2:(sh==4)=false:=by simpa using h2
   have H:=Lib.hid (show decide (sh=3∨sh=4)=false by simp[h1,h2])
   clear h1 h2
   go_enter Tryz.func91,Tryz.ntmps91
   go_wp2
   go_ret
   exact⟨by rw[H.out];rfl,rfl⟩
theorem vS (sh:Int) (w:World):Calls Tryz.prog 65 #[.int .i64 sh] w fun e w'=>
  ∃ A,e= .returned (.slice A (dJ sh).length (dJ sh).length)∧Sl w' w'.heap.size 1 A (dJ sh).length (cv (dJ sh))∧Below w.heap.size w w':=by
 by_cases h1:sh=1∨sh=2
 ·have hk:dJ sh=[1,2,3]:=if_pos h1
  have H:=Lib.hid (show decide (sh=1∨sh=2)=true by simpa using h1)
  rw[hk]
  clear hk h1
  go_enter Tryz.func65,Tryz.ntmps65
  go_wp2_with (go_at_call 90;refine(hG _ _).mono ?_;rw[H.out];rintro e w' ⟨rfl,rfl⟩)
  go_ret
  exact⟨_,rfl,(kF _ [1,2,3] 3 rfl).more (by simp),(Below.refl _ _).alloc (Nat.le_refl _) _⟩
 ·have H:=Lib.hid (show decide (sh=1∨sh=2)=false by simpa using h1)
  by_cases h2:sh=3∨sh=4
  ·have hk:dJ sh=[4,5]:=by rw[dJ,if_neg h1,if_pos h2]
   have H2:=Lib.hid (show decide (sh=3∨sh=4)=true by simpa using h2)
   rw[hk]
   clear hk h1 h2
   go_enter Tryz.func65,Tryz.ntmps65
   go_wp2_with (first | (go_at_call 90;refine(hG _ _).mono ?_;rw[H.out];rintro e w' ⟨rfl,rfl⟩) | (go_at_call 91;refine(ri _ _).mono ?_;rw[H2.out];rintro e w' ⟨rfl,rfl⟩))
   go_ret
   exact⟨_,rfl,(kF _ [4,5] 2 rfl).more (by simp),(Below.refl _ _).alloc (Nat.le_refl _) _⟩
  ·have hk:dJ sh=[]:=by rw[dJ,if_neg h1,if_neg h2]
   have H2:=Lib.hid (show decide (sh=3∨sh=4)=false by simpa using h2)
   rw[hk]
   clear hk h1 h2
   go_enter Tryz.func65,Tryz.ntmps65
   go_wp2_with (first | (go_at_call 90;refine(hG _ _).mono ?_;rw[H.out];rintro e w' ⟨rfl,rfl⟩) | (go_at_call 91;refine(ri _ _).mono ?_;rw[H2.out];rintro e w' ⟨rfl,rfl⟩))
   go_ret
   exact⟨none,rfl,Sl.nil_ _ _ _,Below.refl _ _⟩
theorem MH (k:Int):([1,2,3]:List Int).contains k=true↔1≤k∧k≤3:=by
 rw[List.contains_iff_mem]
 simp only[List.mem_cons,List.not_mem_nil,or_false]
 omega
theorem in2 (k:Int):([4,5]:List Int).contains k=true↔4≤k∧k≤5:=by
 rw[List.contains_iff_mem]
 simp only[List.mem_cons,List.not_mem_nil,or_false]
 omega
theorem Fi (sh kind key:Int):may sh ⟨kind,key⟩=((dJ sh).contains kind && decide (0≤key) && decide (key≤if kind=5 then 0 else 999)):=by
 have e:may sh ⟨kind,key⟩=decide (ly sh kind key):=rfl
 rw[e,Bool.eq_iff_iff,decide_eq_true_eq,Bool.and_eq_true,Bool.and_eq_true,decide_eq_true_eq,decide_eq_true_eq]
 unfold ly dJ
 by_cases h1:sh=1∨sh=2
 ·rw[if_pos h1,MH]
  by_cases h5:kind=5
  ·rw[if_pos h5];omega
  ·rw[if_neg h5];omega
 ·rw[if_neg h1]
  by_cases h2:sh=3∨sh=4
  ·rw[if_pos h2,in2]
   by_cases h5:kind=5
   ·rw[if_pos h5];omega
   ·rw[if_neg h5];omega
  ·rw[if_neg h2]
   simp only[List.contains_nil,Bool.false_eq_true,false_and,iff_false]
   omega
theorem bW (sh kind key:Int) (w:World):Calls Tryz.prog 57 #[.int .i64 sh,.agg #[.int .i64 kind,.int .i64 key]] w fun e w'=>
  e= .returned (.bool (may sh ⟨kind,key⟩))∧Below w.heap.size w w':=by
 rw[Fi]
 obtain⟨m,hm⟩:∃ m:Int,m=if kind=5 then 0 else 999:=⟨_,rfl⟩
 obtain⟨c,hc⟩:∃ c,c=(dJ sh).contains kind:=⟨_,rfl⟩
 rw[←hm,←hc]
 have hs:∀ (A:Option Addr) (W:World),Sl W W.heap.size 1 A (dJ sh).length (cv (dJ sh))→Calls Tryz.prog 64 #[.slice A (dJ sh).length (dJ sh).length,.int .i64 kind] W fun e w'=>e= .returned (.bool c)∧W=w':=fun A W hS=>by
  rw[hc]
  exact slices_Contains A _ _ _ _ _ _ hS rfl (by unfold dJ;split<;>(try split)<;>simp)
 have hk:=vS sh
 have h5:((kind==5)=true∧m=0)∨((kind==5)=false∧m=999):=by
  by_cases h:kind=5
  ·exact .inl ⟨by simpa using h,by rw[hm,if_pos h]⟩
  ·exact .inr ⟨by simpa using h,by rw[hm,if_neg h]⟩
 have HS:=Lib.hid hs
 have HK:=Lib.hid hk
 clear hs hk hc hm
 generalize dJ sh=L at *
 have h0:decide (0≤key)=true∨decide (0≤key)=false:=by cases decide (0≤key)<;>simp
 rcases h5 with ⟨e5,rfl⟩ | ⟨e5,rfl⟩<;>rcases c with _ | _<;>rcases h0 with h0 | h0
 all_goals
  go_enter Tryz.func57,Tryz.ntmps57
  go_wp2_with fail
  have hx:=a8.new w 46 #[.int .i64 kind,.int .i64 key]
  have k0:Below w.heap.size w (w.alloc (.cells #[.int .i64 kind,.int .i64 key] 46)):=(Below.refl _ _).alloc (Nat.le_refl _) _
  generalize(w.alloc (.cells #[.int .i64 kind,.int .i64 key] 46))=W at *
  have hws:=k0.size
  have qx:=Later.cells hx hx.lt
  refine az (fun w'=>∃ q:Later W.heap.size W,w'=q.val) 16 [([0,2,3],1),([],4)] [5,6,7,8,9,10,11,12,13,14,15] [16] (by kernel_rfl) (by kernel_rfl) (Later.bI (Below.refl _ _).drew) ?_
  refine ai ?_
  simp only[au,List.map_cons,List.map_nil,List.getD_cons_zero,List.getD_cons_succ]
  repeat(go_big_quiet_step (fail))
  refine wpQuiet_nil ?_
  refine bm rfl (fun K hK=> ?_)
  go_simp
  refine(HK.out _).mono ?_
  rintro e w1 ⟨A,rfl,hS,hb⟩
  have hb1:Below W.heap.size W w1:=(Below.refl _ _).drew.trans hb
  refine hK _ _ (Later.bI hb1) ?_
  clear hK K
  refine ai ?_
  refine wpQuiet_nil ?_
  refine bm rfl (fun K hK=> ?_)
  go_simp
  refine(HS.out A _ hS).mono ?_
  rintro e w2 ⟨rfl,rfl⟩
  refine hK _ _ (Later.bI hb1) ?_
  clear hK K
  refine af ?_
  repeat(go_big_quiet_step (fail))
  refine wpQuiet_nil ?_
  refine ae _ _ _ (by kernel_rfl) ?_
  simp only[au,List.map_cons,List.map_nil,List.getD_cons_zero,List.getD_cons_succ]
  go_wp2_with fail
  refine NoPanic.normal ?_
  go_wp2_with fail
  go_ret
  exact⟨by first | rfl | (rw[h0];simp) | simp[h0],k0.trans (hb1.mono hws)⟩
structure bq where
 sh:Int
 kind:Int
 key:Int
abbrev bq.val (t:bq):Value:= .agg #[.int .i64 t.sh,.int .i64 t.kind,.int .i64 t.key]
def bq.links (t:bq):Bool:=decide (t.kind=1) || decide (t.kind=4)
def bq.marks (t:bq):Bool:=decide (t.kind=2) || (decide (t.kind=5) && decide (t.sh=3))
def bq.pops (t:bq):Bool:=decide (t.kind=5) && decide (t.sh=4)
theorem a4 (t:bq) (w:World):Calls Tryz.prog 104 #[t.val] w fun e w'=>e= .returned (.bool t.links)∧Below w.heap.size w w':=by
 have HL:Hid (t.links=(decide (t.kind=1) || decide (t.kind=4))):=Lib.hid rfl
 obtain⟨sh,kind,key⟩:=t
 simp only[bq.val] at HL⊢
 obtain⟨p,hp⟩:∃ p,(kind==1)=p:=⟨_,rfl⟩
 obtain⟨q,hq⟩:∃ q,(kind==4)=q:=⟨_,rfl⟩
 have HV:Hid ((⟨sh,kind,key⟩:bq).links=(p || q)):=Lib.hid (by rw[HL.out,←hp,←hq];rfl)
 cases p
 all_goals
  go_enter Tryz.func104,Tryz.ntmps104
  go_wp2_with fail
  go_ret
  exact⟨by rw[HV.out];rfl,(Below.refl _ _).alloc (Nat.le_refl _) _⟩
theorem mx (t:bq) (w:World):Calls Tryz.prog 183 #[t.val] w fun e w'=>e= .returned (.bool t.pops)∧Below w.heap.size w w':=by
 have HL:Hid (t.pops=(decide (t.kind=5) && decide (t.sh=4))):=Lib.hid rfl
 obtain⟨sh,kind,key⟩:=t
 simp only[bq.val] at HL⊢
 obtain⟨p,hp⟩:∃ p,(kind==5)=p:=⟨_,rfl⟩
 obtain⟨q,hq⟩:∃ q,(sh==4)=q:=⟨_,rfl⟩
 have HV:Hid ((⟨sh,kind,key⟩:bq).pops=(p && q)):=Lib.hid (by rw[HL.out,←hp,←hq];rfl)
 cases p
 all_goals
  go_enter Tryz.func183,Tryz.ntmps183
  go_wp2_with fail
  go_ret
  exact⟨by rw[HV.out];rfl,(Below.refl _ _).alloc (Nat.le_refl _) _⟩
theorem og (t:bq) (w:World):Calls Tryz.prog 126 #[t.val] w fun e w'=>e= .returned (.bool t.marks)∧Below w.heap.size w w':=by
 have HL:Hid (t.marks=(decide (t.kind=2) || (decide (t.kind=5) && decide (t.sh=3)))):=Lib.hid rfl
 obtain⟨sh,kind,key⟩:=t
 simp only[bq.val] at HL⊢
 obtain⟨p,hp⟩:∃ p,(kind==2)=p:=⟨_,rfl⟩
 obtain⟨q,hq⟩:∃ q,(kind==5)=q:=⟨_,rfl⟩
 obtain⟨r,hr⟩:∃ r,(sh==3)=r:=⟨_,rfl⟩
 have HV:Hid ((⟨sh,kind,key⟩:bq).marks=(p || (q && r))):=Lib.hid (by rw[HL.out,←hp,←hq,←hr];rfl)
 cases p<;>cases q
 all_goals
  go_enter Tryz.func126,Tryz.ntmps126
  go_wp2_with fail
  go_ret
  exact⟨by rw[HV.out];rfl,(Below.refl _ _).alloc (Nat.le_refl _) _⟩
def bq.head (t:bq):Int:=if t.sh=2 then t.key % 4 else 0
def bq.lC (t:bq):Int:=if t.sh=1∨t.sh=2 then t.key else if t.sh=3∧t.links=true then 1024 else -1
def Aw (t:bq) (w:World) (e:Ending) (w':World):Prop:=e= .returned (.agg #[.int .i64 t.head,.int .i64 t.lC])∧Below w.heap.size w w'
theorem hJ {t:bq} {w w':World} {a b:Int} (h1:t.head=a) (h2:t.lC=b) (hb:Below w.heap.size w w'):Aw t w (.returned (.agg #[.int .i64 a,.int .i64 b])) w':=by subst h1 h2;exact⟨rfl,hb⟩
theorem kN (t:bq) (hk:0≤t.key∧t.key≤1000) (w:World):Calls Tryz.prog 127 #[t.val] w (Aw t w):=by
 have Jt:=fun W=>a4 t W
 obtain⟨li,hl⟩:∃ li,t.links=li:=⟨_,rfl⟩
 rw[hl] at Jt
 have HL:=Lib.hid hl
 clear hl
 obtain⟨sh,kind,key⟩:=t
 simp only at hk
 have HAND:=Lib.hid (show bits .and .i64 key 3=key % 4 from n7 key 2 (by omega) (by omega))
 simp only[bq.val] at Jt⊢
 have fJ:=Lib.hid Jt
 clear Jt
 have hb0:Below w.heap.size w ((w.alloc (.cells #[.int .i64 sh,.int .i64 kind,.int .i64 key] 85)).alloc (.cells #[.int .i64 0,.int .i64 0] 195)):=((Below.refl _ _).alloc (Nat.le_refl _) _).alloc (by simp) _
 by_cases h2:sh=2
 ·have hq:(sh==2)=true:=beq_iff_eq.2 h2
  have H2:=Lib.hid h2
  clear h2
  go_enter Tryz.func127,Tryz.ntmps127
  go_wp2_with fail
  rw[HAND.out]
  refine bodyPost_ret (v:= .agg #[.int .i64 (key % 4),.int .i64 key]) (by simp[results,Tryz.results127,go_sem]) rfl (hJ (if_pos H2.out) (if_pos (.inr H2.out)) ?_)
  exact by repeat(first | with_reducible exact Below.refl _ _ | refine Below.alloc ?_ (by simp<;>omega) _ | refine Below.setCell ?_ (by simp<;>omega) _)
 ·have hq:(sh==2)=false:=beq_eq_false_iff_ne.2 h2
  by_cases h1:sh=1
  ·have hs:=Lib.hid (show decide (sh=1∨sh=2)=true by simp[h1])
   have H2:=Lib.hid h2
   have H1:=Lib.hid h1
   clear h1 h2
   go_enter Tryz.func127,Tryz.ntmps127
   go_wp2_with fail
   refine(hG sh _).mono ?_
   rw[hs.out]
   rintro e w1 ⟨rfl,rfl⟩
   go_wp2_with fail
   refine bodyPost_ret (v:= .agg #[.int .i64 0,.int .i64 key]) (by simp[results,Tryz.results127,go_sem]) rfl (hJ (if_neg H2.out) (if_pos (.inl H1.out)) ?_)
   exact by repeat(first | with_reducible exact Below.refl _ _ | refine Below.alloc ?_ (by simp<;>omega) _ | refine Below.setCell ?_ (by simp<;>omega) _)
  ·have hs:=Lib.hid (show decide (sh=1∨sh=2)=false by simp[h1,h2])
   have J0:=Lib.hid (show ¬ (sh=1∨sh=2) by omega)
   have H2:=Lib.hid h2
   by_cases h3:sh=3
   ·have hq3:(sh==3)=true:=beq_iff_eq.2 h3
    have H3:=Lib.hid h3
    clear h1 h2 h3
    have hR:=a8.newAt (w.alloc (.cells #[.int .i64 sh,.int .i64 kind,.int .i64 key] 85)) 195 #[.int .i64 0,.int .i64 0] (g:=w.heap.size+1) (by simp)
    go_enter Tryz.func127,Tryz.ntmps127
    go_wp2_with fail
    refine(hG sh _).mono ?_
    rw[hs.out]
    rintro e w1 ⟨rfl,rfl⟩
    go_wp2_with fail
    refine(fJ.out _).mono ?_
    rintro e w2 ⟨rfl,hb2⟩
    have hR2:=hR.step hb2
    have de:=hb0.trans (hb2.mono hb0.size)
    have hcR:=hR2.cells
    have E2:=hR2.frees
    have E3:=hR2.lt
    cases li
    ·go_wp2_with fail
     refine bodyPost_ret (v:= .agg #[.int .i64 0,.int .i64 (-1)]) (by simp[results,Tryz.results127,go_sem,hcR]) rfl (hJ (if_neg H2.out) ((if_neg J0.out).trans (if_neg (fun h=>by rw[HL.out] at h;cases h.2))) ?_)
     exact(de.setCell (by simp) _).setCell (by simp) _
    ·go_wp2_with fail
     refine bodyPost_ret (v:= .agg #[.int .i64 0,.int .i64 1024]) (by simp[results,Tryz.results127,go_sem,hcR]) rfl (hJ (if_neg H2.out) ((if_neg J0.out).trans (if_pos ⟨H3.out,HL.out⟩)) ?_)
     exact(de.setCell (by simp) _).setCell (by simp) _
   ·have hq3:(sh==3)=false:=beq_eq_false_iff_ne.2 h3
    have H3:=Lib.hid h3
    clear h1 h2 h3
    go_enter Tryz.func127,Tryz.ntmps127
    go_wp2_with fail
    refine(hG sh _).mono ?_
    rw[hs.out]
    rintro e w1 ⟨rfl,rfl⟩
    go_wp2_with fail
    refine bodyPost_ret (v:= .agg #[.int .i64 0,.int .i64 (-1)]) (by simp[results,Tryz.results127,go_sem]) rfl (hJ (if_neg H2.out) ((if_neg J0.out).trans (if_neg (fun h=>H3.out h.1))) ?_)
    exact by repeat(first | with_reducible exact Below.refl _ _ | refine Below.alloc ?_ (by simp<;>omega) _ | refine Below.setCell ?_ (by simp<;>omega) _)
theorem Ax (x n p q:Int) (a m:Nat) (hp:2 ^ a=p) (hq:2 ^ m=q) (hx:0≤x∧x<p) (hn:0≤n∧n<q) (ham:a+m≤62):bits .or .i64 x (n*p)=x+n*p:=by
 subst hp hq
 obtain⟨x,rfl⟩:=Int.eq_ofNat_of_zero_le hx.1
 obtain⟨n,rfl⟩:=Int.eq_ofNat_of_zero_le hn.1
 have hx':x<2 ^ a:=by have:=hx.2;exact_mod_cast this
 have hn':n<2 ^ m:=by have:=hn.2;exact_mod_cast this
 have h1:n*2 ^ a<2 ^ 62:=by
  have h2:n*2 ^ a<2 ^ m*2 ^ a:=Nat.mul_lt_mul_of_pos_right hn' (Nat.two_pow_pos _)
  rw[←Nat.pow_add] at h2
  exact Nat.lt_of_lt_of_le h2 (Nat.pow_le_pow_right (by omega) (by omega))
 have h3:x<2 ^ 62:=Nat.lt_of_lt_of_le hx' (Nat.pow_le_pow_right (by omega) (by omega))
 have e:((n:Int)*2 ^ a)=((n*2 ^ a:Nat):Int):=by simp
 have e3:bits .or .i64 (x:Int) ((n*2 ^ a:Nat):Int)=IntKind.i64.wrap ((BitVec.ofInt 64 (x:Int) ||| BitVec.ofInt 64 ((n*2 ^ a:Nat):Int)).toNat:Int):=rfl
 have e4:(BitVec.ofInt 64 (x:Int) ||| BitVec.ofInt 64 ((n*2 ^ a:Nat):Int)).toNat=x+n*2 ^ a:=by
  rw[BitVec.toNat_or,BitVec.ofInt_natCast,BitVec.ofInt_natCast,BitVec.toNat_ofNat,BitVec.toNat_ofNat,Nat.mod_eq_of_lt (by omega:x<2 ^ 64),Nat.mod_eq_of_lt (by omega:n*2 ^ a<2 ^ 64),Nat.or_comm,Nat.mul_comm,←Nat.two_pow_add_eq_or_of_lt hx']
  omega
 rw[e,e3,e4,IntKind.wrap_i64]
 omega
def bq.num (t:bq):Int:=t.sh+t.kind*8+t.key*64
def bq.may (t:bq):Bool:=Proofs.YtbcnnhlpilmmbaaGreat.may t.sh ⟨t.kind,t.key⟩
def eA (x:Int):bq:=⟨x % 8,x / 8 % 8,x / 64 % 1024⟩
def gC (x:Int):Bool:=decide (x / 65536=0) && (eA x).may
def bq.zero:bq:=⟨0,0,0⟩
structure bq.yv (t:bq):Prop where
 sh:1≤t.sh∧t.sh≤4
 kind:1≤t.kind∧t.kind≤5
 key:0≤t.key∧t.key≤999
theorem bq.rng {t:bq} (h:t.may=true):t.yv:=by
 have h':ly t.sh t.kind t.key:=of_decide_eq_true h
 unfold ly at h'
 exact⟨by omega,by omega,by omega⟩
theorem tX {t:bq} (h:t.may=true):eA t.num=t:=by
 obtain⟨h1,h2,h3⟩:=t.rng h
 obtain⟨a,b,c⟩:=t
 simp only at *
 unfold eA bq.num
 simp only
 congr 1<;>omega
def Ha (t:bq) (w:World) (e:Ending) (w':World):Prop:=e= .returned (.tuple #[.int .u64 (if t.may then t.num else 0),.int .i64 (if t.may then 0 else 1)])∧Below w.heap.size w w'
theorem Ay (t:bq) (w:World):Calls Tryz.prog 167 #[t.val] w (Ha t w):=by
 obtain⟨m,hm⟩:∃ m,t.may=m:=⟨_,rfl⟩
 have hR:=fun W=>bW t.sh t.kind t.key W
 have hm':Proofs.YtbcnnhlpilmmbaaGreat.may t.sh ⟨t.kind,t.key⟩=m:=hm
 rw[hm'] at hR
 have HM:=Lib.hid hm
 have HG:=Lib.hid (show m=true→t.yv from fun h=>t.rng (by rw[hm,h]))
 clear hm hm'
 obtain⟨sh,kind,key⟩:=t
 simp only[bq.val] at hR HG⊢
 have HR:=Lib.hid hR
 clear hR
 have hb0:Below w.heap.size w (w.alloc (.cells #[.int .i64 sh,.int .i64 kind,.int .i64 key] 85)):=(Below.refl _ _).alloc (Nat.le_refl _) _
 have hX:=a8.new w 85 #[.int .i64 sh,.int .i64 kind,.int .i64 key]
 go_enter Tryz.func167,Tryz.ntmps167
 go_wp2_with fail
 refine(HR.out _).mono ?_
 rintro e w1 ⟨rfl,hb1⟩
 have tU:=hb0.trans (hb1.mono hb0.size)
 have hX1:=hX.step hb1
 have Nu:=hX1.cells
 have Nv:=hX1.lt
 cases m
 ·go_wp2_with fail
  go_ret2
  exact⟨by rw[HM.out];rfl,tU⟩
 ·obtain⟨g1,g2,g3⟩:=HG.out rfl
  simp only at g1 g2 g3
  have e1:bits .or .i64 sh (kind*8)=sh+kind*8:=Ax sh kind 8 8 3 3 (by decide) (by decide) (by omega) (by omega) (by omega)
  have e2:bits .or .i64 (sh+kind*8) (key*64)=sh+kind*8+key*64:=Ax _ key 64 1024 6 10 (by decide) (by decide) (by omega) (by omega) (by omega)
  have e3:wrap64 (kind*8)=kind*8:=IntWalk.wrap64_in _ (by omega)
  have e4:wrap64 (key*64)=key*64:=IntWalk.wrap64_in _ (by omega)
  have e5:IntKind.u64.wrap (sh+kind*8+key*64)=sh+kind*8+key*64:=IntWalk.u64_in _ ⟨by omega,by omega⟩
  go_wp2_with fail
  go_ret2
  exact⟨by rw[HM.out];rfl,tU⟩
def Hb (x:Int) (w:World) (e:Ending) (w':World):Prop:=e= .returned (.tuple #[(if gC x then eA x else bq.zero).val,.int .i64 (if gC x then 0 else 3)])∧Below w.heap.size w w'
theorem jI (x:Int) (w:World) (hx:0≤x∧x<18446744073709551616):Calls Tryz.prog 142 #[.int .u64 x] w (Hb x w):=by
 obtain⟨a,ha⟩:∃ a,x % 8=a:=⟨_,rfl⟩
 obtain⟨b,hb⟩:∃ b,x / 8 % 8=b:=⟨_,rfl⟩
 obtain⟨c,hc⟩:∃ c,x / 64 % 1024=c:=⟨_,rfl⟩
 obtain⟨d,hd⟩:∃ d,x / 65536=d:=⟨_,rfl⟩
 obtain⟨m,hm⟩:∃ m,Proofs.YtbcnnhlpilmmbaaGreat.may a ⟨b,c⟩=m:=⟨_,rfl⟩
 have hR:=fun W=>bW a b c W
 rw[hm] at hR
 have HR:=Lib.hid hR
 clear hR
 have HK:Hid (gC x=(decide (d=0) && m)):=Lib.hid (by unfold gC eA;rw[ha,hb,hc,hd,←hm];rfl)
 have HT:Hid (eA x=⟨a,b,c⟩):=Lib.hid (by unfold eA;rw[ha,hb,hc])
 have e1:wrap64 (bits .and .u64 x 7)=a:=by rw[←ha];have:=ft x 1 8 7 0 3 hx (by omega) (by decide) (by decide) (by decide);rwa [Int.ediv_one] at this
 have e2:wrap64 (bits .and .u64 (x / 8) 7)=b:=by rw[←hb];exact ft x 8 8 7 3 3 hx (by omega) (by decide) (by decide) (by decide)
 have e3:wrap64 (bits .and .u64 (x / 64) 1023)=c:=by rw[←hc];exact ft x 64 1024 1023 6 10 hx (by omega) (by decide) (by decide) (by decide)
 clear ha hb hc hm
 have H1:=a8.new w 85 #[.int .i64 0,.int .i64 0,.int .i64 0]
 have hb0:Below w.heap.size w (w.alloc (.cells #[.int .i64 0,.int .i64 0,.int .i64 0] 85)):=(Below.refl _ _).alloc (Nat.le_refl _) _
 go_enter Tryz.func142,Tryz.ntmps142
 go_wp2_with fail
 ·have hd0:d=0:=by assumption
  have Lu:=Lib.hid (show gC x=m by rw[HK.out,hd0];exact Bool.true_and m)
  have Hc:=hb0.alloc (by simp) (.cells #[.int .i64 a,.int .i64 b,.int .i64 c] 85)
  have H2:=a8.newAt (w.alloc (.cells #[.int .i64 0,.int .i64 0,.int .i64 0] 85)) 85 #[.int .i64 a,.int .i64 b,.int .i64 c] (g:=w.heap.size+1) (by simp)
  have MI:=H1.alloc (.cells #[.int .i64 a,.int .i64 b,.int .i64 c] 85)
  refine(HR.out _).mono ?_
  rintro e w1 ⟨rfl,hb1⟩
  have tU:=Hc.trans (hb1.mono Hc.size)
  have J1:=MI.step (hb1.mono (by simp))
  have Lv:=H2.step hb1
  have hc1:=J1.cells
  have hl1:=J1.lt
  have hf1:=J1.frees
  have hc2:=Lv.cells
  have hl2:=Lv.lt
  cases m
  ·go_wp2_with fail
   refine bodyPost_ret (v:= .tuple #[.agg #[.int .i64 0,.int .i64 0,.int .i64 0],.int .i64 3]) (by simp[results,Tryz.results142,go_sem,hc1]) rfl ⟨by rw[Lu.out];rfl,?_⟩
   exact by repeat(first | with_reducible exact tU | refine Below.setCell ?_ (by simp) _)
  ·go_wp2_with fail
   refine bodyPost_ret (v:= .tuple #[(⟨a,b,c⟩:bq).val,.int .i64 0]) (by simp[results,Tryz.results142,go_sem,hc1]) rfl ⟨by rw[Lu.out,HT.out];rfl,?_⟩
   exact by repeat(first | with_reducible exact tU | refine Below.setCell ?_ (by simp) _)
 ·have hd0:¬ d=0:=by assumption
  have hK2:gC x=false:=by rw[HK.out,decide_eq_false hd0];rfl
  refine bodyPost_ret (v:= .tuple #[.agg #[.int .i64 0,.int .i64 0,.int .i64 0],.int .i64 3]) (by simp[results,Tryz.results142,go_sem]) rfl ⟨by rw[hK2];rfl,?_⟩
  exact hb0.alloc (by simp) _
end Go.Proofs.YtbcnnhlpilmmbaaGreat
