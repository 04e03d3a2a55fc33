/- Texts that are wanted for PTopFull.
   Conditions: none. -/
import Derived.Test.YtbcnnhlpilmmbaaGreatJPTopFull25
set_option maxRecDepth 100000
set_option maxHeartbeats 6400000
namespace Go.Proofs.YtbcnnhlpilmmbaaGreat
open Go Go.RowKit
theorem D6:(Tryz.prog.info? 80).map (fun i=>(i.zero,i.size,i.bytes))=some (some (.pointer none),1,8):=by kernel_rfl
def eT (shape:Int) (l:List Opn):List bq:=l.map fun o=>⟨shape,o.kind,o.key⟩
theorem qX (shape:Int) (l:List Opn):(eT shape l).flatMap bq.cells=l.flatMap (eS shape):=by
 unfold eT
 induction l with
 | nil=>rfl
 | cons o l ih=>simp only[List.map_cons,List.flatMap_cons,ih];rfl
def dy (shape:Int) (ops:List (List Opn)) (u:Nat):cy:=⟨⟨0,[]⟩,eT shape (ops.getD u []),0,none⟩
def aZ.init (shape tries:Int) (ops:List (List Opn)):aZ:=⟨shape,tries,fun _=>0,HS.new,dy shape ops,0⟩
abbrev vk (L:Ly) (hb:Nat) (wb sg:Nat→Nat):fP:=⟨⟨0,0,L⟩,hb,wb,sg,0⟩
structure IH (w0:World) (C0:Nat→Nat) (shape tries th nd:Int) (ops:List (List Opn)) (cb lb hb eb:Nat) (k:Nat) (wr:World):Prop where
 bel:Below w0.heap.size w0 wr
 ex:∃ (C:Nat→Nat) (wb sg:Nat→Nat) (A:Option Addr) (cap:Nat),aB w0.heap.size C0 C∧SB wr C 3 cb 65 #[.int .i64 shape,.int .i64 th,.int .i64 nd,.int .i64 tries]∧SB wr C 3 lb 31 #[.int .i64 th,.int .i64 nd]∧
  SB wr C 3 eb 79 #[.int .i64 shape,.int .i64 th,.int .i64 nd,.int .i64 tries,.pointer none,.pointer (some ⟨hb,0,none⟩),.slice A k cap,.int .i64 0]∧Row wr C 3 80 1 (.slice A k cap) k (l5 (vk ⟨th,nd⟩ hb wb sg) k)∧gP wr w0.heap.size hb HS.new∧dR wr C (vk ⟨th,nd⟩ hb wb sg) (dy shape ops) (fun v=>v<k)
 ge:w0.heap.size≤eb∧w0.heap.size≤cb∧w0.heap.size≤lb
structure II (L:Ly) (C:Nat→Nat) (s0:aZ) (w:World) (e:Ending) (w':World):Prop where
 ex:∃ b E C',e= .returned (.tuple #[.pointer (some ⟨b,0,none⟩),.int .i64 0])∧E.M.L=L∧E.B=w.heap.size∧aB w.heap.size C C'∧dx w' C' b E s0
 bel:Below w.heap.size w w'
theorem pR (L:Ly) (hb k bw GN:Nat) (wb sg:Nat→Nat):l5 (vk L hb (fun v=>if v=k then bw else wb v) (fun v=>if v=k then GN else sg v)) (k+1)=l5 (vk L hb wb sg) k++[.pointer (some ⟨bw,0,none⟩)]:=by
 unfold l5
 rw[List.range_succ,List.map_append]
 congr 1
 ·apply List.map_congr_left
  intro v hv
  have:=List.mem_range.1 hv
  simp only[if_neg (show ¬ v=k by omega)]
 ·simp
variable {w:World} {C:Nat→Nat} {L:Ly}
theorem vo {hb k bw GN:Nat} {wb sg:Nat→Nat} {ws:Nat→cy} (h:dR w C (vk L hb wb sg) ws (fun v=>v<k)) (hk:ji w C (cM k) (cS k) (cK k) (cQ k) GN bw L k (ws k)):dR w C (vk L hb (fun v=>if v=k then bw else wb v) (fun v=>if v=k then GN else sg v)) ws (fun v=>v<k+1):=by
 refine⟨fun v hv hp=> ?_⟩
 by_cases e:v=k
 ·subst e;simp only[zK,if_true];exact hk
 ·have:=h.at_ v hv (by omega)
  simp only[zK,if_neg e];exact this
theorem ye (b:Nat):∀ u∈[Value.pointer (some ⟨b,0,none⟩)],u.oneCell'=true:=by intro u hu;simp at hu;subst hu;rfl
theorem pS (shape tries:Int) (L:Ly) (hc:vi shape tries L) (A:Option Addr) (n cap B:Nat) (ops:List (List Opn)) (w:World) (hs:dF w B A n ops) (hB:B≤w.heap.size) (xw:∀ l∈ops,l.length≤40) (hn:(n:Int)≤L.th) (hmay:∀ l∈ops,l.all (may shape)=true) (C:Nat→Nat) (hC0:∀ g,g<w.heap.size→C g=0):Calls Tryz.prog 24 #[.agg #[.int .i64 shape,.int .i64 L.th,.int .i64 L.nd,.int .i64 tries],.slice A n cap] w (II L C (.init shape tries ops) w):=by
 have Jo:=fun W=>tg shape tries L hc W
 have L8:=fun W (h:dF W B A n ops) (hB':B≤W.heap.size)=>vj shape tries L hc.lay A n cap B ops W h hB' xw hn
 have hL:=hc.lay
 have L9:=fun C' W=>D5 L hL C' W
 obtain⟨th,nd⟩:=L
 simp only at Jo L8 hn⊢
 simp only[Ly.val] at L9
 have hth:=hL.th
 simp only at hth
 obtain⟨i0,hi,hz0,hz1,hz2⟩:=info_parts D6
 obtain⟨C1,tt⟩:∃ C1,C1=a9 C w.heap.size 3:=⟨_,rfl⟩
 have hnew:∀ g,w.heap.size≤g→C1 g=3:=fun g hg=>by rw[tt];exact aO C 3 hg
 have nT:aB w.heap.size C C1:=by rw[tt];exact aB.a9 _ _ _
 have sb:SB (w.alloc (.cells #[.int .i64 shape,.int .i64 th,.int .i64 nd,.int .i64 tries] 65)) C1 3 w.heap.size 65 #[.int .i64 shape,.int .i64 th,.int .i64 nd,.int .i64 tries]:=SB.new w C1 (hnew _ (Nat.le_refl _)) _ _ rfl
 have Fo:Below w.heap.size w (w.alloc (.cells #[.int .i64 shape,.int .i64 th,.int .i64 nd,.int .i64 tries] 65)):=(Below.refl _ _).alloc (Nat.le_refl _) _
 have HW0:=Lib.hid hs
 clear tt hc hs
 go_enter Tryz.func24,Tryz.ntmps24
 have fr:=Fr.refl C1 (fun _=>False) [] (w.alloc (.cells #[.int .i64 shape,.int .i64 th,.int .i64 nd,.int .i64 tries] 65))
 have ag:=aB.refl (w.alloc (.cells #[.int .i64 shape,.int .i64 th,.int .i64 nd,.int .i64 tries] 65)).heap.size C1
 go_wp2_with fail
 refine(Jo _).mono ?_;rintro e w1 ⟨rfl,hb1⟩
 skip
 revert sb;revert fr;refine dX hb1 ?_;intro fr sb
 go_wp2_with fail
 have hbl:=Fo.trans ((fr.below (fun _ _ h=>h) (Nat.le_refl _)).mono (by simp))
 refine(L8 _ (HW0.out.below (hbl.mono hB)) (Nat.le_trans hB hbl.size)).mono ?_;rintro e w2 ⟨rfl,hb2⟩
 skip
 revert fr sb;refine dX hb2 ?_;intro fr sb
 go_wp2_with fail
 clear hbl
 have z1:=sb
 revert fr sb;refine bx1 31 #[.int .i64 th,.int .i64 nd] ?_;rintro w3 elb NI fr lb sb
 go_wp2_with fail
 try simp only[elb]
 clear elb z1
 revert fr lb sb;refine bD ?_;intro fr lb sb
 obtain⟨q1,q2,qi⟩:=bl sb lb
 refine aA sb lb 3 [([0],1)] [2] [3,4] (by kernel_rfl) (by kernel_rfl) ?_
 refine ai ?_;simp only[ox];repeat(go_big_quiet_step (fail))
 refine di rfl (fun K' hK'=> ?_);go_simp
 ((with_reducible refine(BM _).mono ?_);rintro e w4 ⟨rfl,hh,hb4⟩)
 have Ma:=fr.size
 revert fr lb sb;refine dX hb4 ?_;intro fr lb sb
 refine hK' _ _ (eJ sb lb) ?_;clear hK' K'
 refine af ?_;try simp only[ox]
 repeat(go_big_quiet_step (fail))
 refine wpQuiet_nil ?_
 refine ae _ _ _ (by kernel_rfl) ?_;try simp only[ox]
 clear qi q1 q2
 have CV:=Fo.trans ((fr.below (fun _ _ h=>h) (Nat.le_refl _)).mono (by simp))
 have szA:=CV.size
 have ef:SB w4 C1 3 w.heap.size 65 #[.int .i64 shape,.int .i64 th,.int .i64 nd,.int .i64 tries]:=sb
 have eb:=SB.new w4 C1 (hnew w4.heap.size szA) 79 #[.int .i64 shape,.int .i64 th,.int .i64 nd,.int .i64 tries,.pointer none,.pointer (some ⟨w3.heap.size,0,none⟩),.slice none 0 0,.int .i64 0] rfl
 have hl2:w.heap.size≤w2.heap.size:=Nat.le_trans (Nat.le_trans (by simp) hb1.size) hb2.size
 have gT:SB w4 C1 3 w2.heap.size 31 #[.int .i64 th,.int .i64 nd]:=SB.mk lb.blk (hnew _ hl2)
 have hh0:gP w4 w.heap.size w3.heap.size HS.new:=⟨hh.mono (Nat.le_trans Fo.size Ma)⟩
 have hal:Below w4.heap.size w4 (w4.alloc (.cells #[.int .i64 shape,.int .i64 th,.int .i64 nd,.int .i64 tries,.pointer none,.pointer (some ⟨w3.heap.size,0,none⟩),.slice none 0 0,.int .i64 0] 79)):=(Below.refl _ _).alloc (Nat.le_refl _) _
 replace ef:=ef.step hal
 replace gT:=gT.step hal
 replace hh0:=hh0.step hal
 replace CV:=CV.trans (hal.mono szA)
 have hcc:=ef.blk.cells
 have hcl:=gT.blk.cells
 clear hal fr hh hb1 hb2 hb4 Ma lb sb
 go_wp2_with fail
 refine NoPanic.normal ?_
 go_wp2_with fail
 clear hcc hcl
 generalize(w4.alloc (.cells #[.int .i64 shape,.int .i64 th,.int .i64 nd,.int .i64 tries,.pointer none,.pointer (some ⟨w3.heap.size,0,none⟩),.slice none 0 0,.int .i64 0] 79))=w5 at *
 have hge:w.heap.size≤w4.heap.size∧w.heap.size≤w.heap.size∧w.heap.size≤w2.heap.size:=⟨szA,Nat.le_refl _,hl2⟩
 obtain⟨hb,hhb⟩:∃ hb,w3.heap.size=hb:=⟨_,rfl⟩
 simp only[hhb] at eb hh0
 obtain⟨GQ,IJ⟩:∃ GQ,w4.heap.size=GQ:=⟨_,rfl⟩
 simp only[IJ] at eb hge⊢
 obtain⟨IK,IL⟩:∃ IK,w2.heap.size=IK:=⟨_,rfl⟩
 simp only[IL] at gT hge⊢
 obtain⟨F1,BX⟩:∃ F1,F1=w.heap.size:=⟨_,rfl⟩
 have KS:w.heap.size≤GQ∧w.heap.size≤F1∧w.heap.size≤IK:=by rw[BX];exact hge
 have IM:SB w5 C1 3 F1 65 #[.int .i64 shape,.int .i64 th,.int .i64 nd,.int .i64 tries]:=by rw[BX];exact ef
 have NJ:=Lib.hid BX
 have hI0:IH w C shape tries th nd ops F1 IK hb GQ 0 w5:=⟨CV,⟨C1,fun _=>0,fun _=>0,none,0,nT,IM,gT,eb,Row.nil_ _ _ _ _ _,hh0,⟨fun v _ hp=>absurd hp (by omega)⟩⟩,KS⟩
 rw[←BX]
 clear hhb IJ IL ef IM gT eb hh0 CV hge hl2 szA nT ag BX
 go_loopw [34] (fun i wr=>∃ k:Nat,(k:Int)≤th∧i= .int .i64 k∧IH w C shape tries th nd ops F1 IK hb GQ k wr) (fun i _=>th.toNat - (intOf i).toNat)
 case atStart=>exact⟨0,by omega,rfl,hI0⟩
 case round=>
  clear hI0
  obtain⟨k,hk,rfl,hI⟩:=hrel
  obtain⟨hbel,⟨C2,wb,sg,A2,cap2,Bc,ef,gT,sb,hrow,hh,hws⟩,IN⟩:=hI
  have hk9:k≤1000:=by omega
  by_cases hlt:(k:Int)<th
  ·have dk:decide ((k:Int)<th)=true:=decide_eq_true hlt
   have F2:=fun C' W A3 n3 c3 (h:Sr W C' (cK k) 85 3 A3 n3 ((dy shape ops k).tasks.flatMap bq.cells)) (h1:(dy shape ops k).tasks.length=n3) (h2:n3≤1000)=>mY ⟨th,nd⟩ (k:Int) (by omega) C' (cM k) (cS k) (cK k) (cQ k) A3 n3 c3 (dy shape ops k).tasks W h h1 h2
   simp only[Ly.val] at F2
   have hcc:=ef.blk.cells
   have hcl:=gT.blk.cells
   have hce:=sb.blk.cells
   have hlc:=ef.lt
   have hll:=gT.lt
   by_cases hkn:k<n
   ·have Nd:decide ((k:Int)<(n:Int))=true:=decide_eq_true (by omega)
    obtain⟨l,hl⟩:∃ l,ops[k]? =some l:=⟨_,List.getElem?_eq_getElem (by rw[HW0.out.len];exact hkn)⟩
    have hsw:=HW0.out.below (hbel.mono hB)
    obtain⟨A',n',c',f0,hsl,rfl⟩:=hsw.at_ hl
    have hidx:=hsw.idx (cap:=cap) hkn
    have EH:=hsw.lt hkn
    have hlm:=List.mem_of_getElem? hl
    have Nf:=xw l hlm
    have Mc:∀ W,Sl W B 2 A' l.length (l.flatMap Opn.cells)→B≤W.heap.size→Calls Tryz.prog 46 #[.int .i64 shape,.slice A' l.length c'] W fun e w'=>(∃ v,e= .returned (.tuple #[v,.int .i64 0])∧w'.ownsRow W.heap.size 85 3 v l.length (l.flatMap (eS shape)))∧Below W.heap.size W w':=
     fun W h1 h2=>(DX shape A' l.length c' B l W h1 h2 rfl (by omega)).mono fun e w' h=>⟨by have:=h.1;rw[if_pos (hmay l hlm)] at this;exact this,h.2⟩
    have hBw:B≤wr.heap.size:=Nat.le_trans hB hbel.size
    have hBd:B≤wr.drew.heap.size:=hBw
    have q0:=Later.cell (B:=wr.heap.size) (w:=wr) (show wr.cell? ⟨F1,0,none⟩=some (.int .i64 shape) from ef.blk.cell 0) hlc
    have q1:=Later.cell (B:=wr.heap.size) (w:=wr) f0 (Nat.lt_of_lt_of_le EH hBw)
    have htk:(dy shape ops k).tasks=eT shape l:=by unfold dy;simp only[List.getD_eq_getElem?_getD,hl,Option.getD_some]
    go_wp2_with fail
    refine az (fun w'=>∃ q:Later wr.heap.size wr,w'=q.val) 11 [([0,1,2,3,4,5],6)] [7,8,9,10] [11] (by kernel_rfl) (by kernel_rfl) (Later.bI (Below.refl _ _).drew) ?_
    refine ai ?_
    simp only[au,List.map_cons,List.map_nil,List.getD_cons_zero,List.getD_cons_succ]
    repeat(go_big_quiet_step (fail))
    refine wpQuiet_nil ?_
    refine bm rfl (fun K' hK'=> ?_)
    go_simp
    ((with_reducible refine(Mc _ (hsl.below (Below.refl _ _).drew) hBd).mono ?_);rintro e w2 ⟨⟨v,rfl,hown⟩,hb2⟩)
    refine hK' _ _ (Later.bI ((Below.refl _ _).drew.trans hb2)) ?_
    clear hK' K'
    refine af ?_
    try simp only[au,List.map_cons,List.map_nil,List.getD_cons_zero,List.getD_cons_succ]
    repeat(go_big_quiet_step (fail))
    refine wpQuiet_nil ?_
    refine ae _ _ _ (by kernel_rfl) ?_
    try simp only[au,List.map_cons,List.map_nil,List.getD_cons_zero,List.getD_cons_succ]
    have hb3:Below wr.heap.size wr w2:=(Below.refl _ _).drew.trans hb2
    have hsz2:=hb3.size
    obtain⟨C3,KT⟩:∃ C3,C3=a9 C2 wr.heap.size (cK k):=⟨_,rfl⟩
    have Cv:aB wr.heap.size C2 C3:=by rw[KT];exact aB.a9 _ _ _
    have kM:∀ g,v.ownBlock=some g→C3 g=cK k:=fun g hg=>by rw[KT];exact aO _ _ (bH hown g hg).1
    have hrw:Row w2 C3 (cK k) 85 3 v l.length (l.flatMap (eS shape)):=⟨eh hown (Nat.zero_le _),kM⟩
    obtain⟨A3,c3,rfl,-,-,-⟩:=hrw.form
    have hsr:=Sr.si hrw
    rw[←qX,←htk] at hsr
    have BY:(dy shape ops k).tasks.length=l.length:=by rw[htk];simp[eT]
    replace F2:=fun C' W h=>F2 C' W A3 l.length c3 h BY (by omega)
    replace ef:=(ef.nv Cv).step hb3
    replace gT:=(gT.nv Cv).step hb3
    replace sb:=(sb.nv Cv).step hb3
    replace hrow:=(hrow.nv Cv).step hb3
    replace hh:=hh.step hb3
    replace hws:=(hws.nv Cv).step hb3
    have BZ:=hbel.trans (hb3.mono hbel.size)
    clear hb2 hb3 hown kM hrw KT q0 q1 Mc hcc hcl hce f0 hsl hidx hsw BY htk hlc hll EH
    go_wp2_with fail
    refine NoPanic.normal ?_
    have hbw:Below w.heap.size w w2:=BZ
    replace hh:=l4.bI C3 hh
    have fr:=Fr.refl C3 (K0 3) [some 79,some 80] w2
    have ag:=aB.refl w2.heap.size C3
    go_wp2_with fail
    revert gT;revert hsr;revert ef;revert hws;revert hh;revert hrow;revert sb;revert fr;refine bD ?_;intro fr sb hrow hh hws ef hsr gT
    obtain⟨q1,q2,qi⟩:=bl sb gT
    refine aA sb gT 10 [] [0,1,2,3,4,5,6,7] [8,9,10,11,12,13] (by kernel_rfl) (by kernel_rfl) ?_
    refine af ?_;try simp only[ox]
    repeat(go_big_quiet_step (fail))
    refine wpQuiet_nil ?_
    refine ay rfl (fun K' hK'=> ?_);go_simp
    ((with_reducible refine(F2 _ _ hsr).mono ?_);rintro e w1 ⟨⟨F3,GN,C1,rfl,aG,hwk⟩,hb1⟩)
    revert ag fr sb hrow hh hws ef hsr gT;refine kx (Fr.of_below hb1 C3 (fun _=>False) []) aG (fun _ h=>h.elim) (by decide) ?_;clear aG hb1;intro ag fr sb hrow hh hws ef hsr gT
    refine hK' _ _ (eJ sb gT) ?_;clear hK' K'
    refine ay rfl (fun K' hK'=> ?_);go_simp
    revert hwk sb hrow hh hws ef hsr gT;revert fr;refine bx1 80 #[.pointer (some ⟨F3,0,none⟩)] ?_;rintro w2 e1 JA fr ns hwk sb hrow hh hws ef hsr gT;rw[e1]
    refine hK' _ _ (eJ sb gT) ?_;clear hK' K' e1
    refine ae _ _ _ (by kernel_rfl) ?_;try simp only[ox]
    clear qi q1 q2
    go_wp2_with (at_builtin;refine wpList_append_lies _ rfl _ _ _ rfl 0 80 i0 _ 1 8 Tryz.underlying77 hi hz0 hz1 hz2 rfl (by omega) (.slice A2 k cap2) k (l5 (vk ⟨th,nd⟩ hb wb sg) k) rfl hrow.own ⟨w1.heap.size,0,none⟩ 1 1 [.pointer (some ⟨F3,0,none⟩)] rfl rfl (World.news_of_block ns.blk) (ye F3) (by omega) (by unfold maxLen;omega) (by omega) (Nat.zero_le _) (w2.heap.size) rfl ?_;intro g9 B1 wA hownA eP lK Dg;have hfA:Fr C1 (K0 3) [some 80] w2 wA:=(Fr.refl C1 (K0 3) [some 80] w2).app hrow eP (eO 3) (by decide);have sA:=sb.fr hfA (.inr (by decide)))
    have sH:=hrow.app hownA (lK.elim (fun e=> .inl e.symm) (fun e=> .inr (by rw[e];rfl)))
    obtain⟨CA,sI⟩:∃ C',C'=a9 C1 w2.heap.size 3:=⟨_,rfl⟩
    rw[←sI] at sH
    have aG:aB w2.heap.size C1 CA:=by rw[sI];exact aB.a9 _ _ _
    clear hrow ns sA sI;revert gT;revert hwk;revert hsr;revert ef;revert hws;revert hh;revert sb;revert fr;revert ag;refine kx hfA aG (fun _ h=>h) (by decide) ?_;intro ag fr sb hh hws ef hsr hwk gT
    have hrow:=sH
    clear sH aG hfA eP lK hownA
    have lL:=own_ne hrow.own sb.blk (by decide)
    revert fr hh hws ef hsr hwk gT hrow;refine st1 sb 6 (.slice (some ⟨g9,0,none⟩) (k+1) B1) (fun _ h=>h) ag ?_;clear sb;rintro w3 e1 fr sb hh hws ef hsr hwk gT hrow
    simp only[sx] at sb
    rw[e1]
    clear e1
    clear lL
    refine NoPanic.normal ?_
    go_wp2_with fail
    refine⟨?_,?measure⟩
    (repeat apply Exists.intro)
    refine⟨?rel,rfl⟩
    case rel=>
     refine⟨k+1,by omega,by go_num,⟨hbw.trans (fr.below (fun g hg=> ?_) hbw.size),⟨CA,_,_,_,_,(Bc.trans Cv hbel.size).trans ag hbw.size,ef,gT,sb,?_,hh,vo hws hwk⟩,IN⟩⟩
     ·rw[Cv g (Nat.lt_of_lt_of_le hg hbel.size),Bc g hg,hC0 g hg];unfold K0;omega
     ·rw[pR];exact hrow
    case measure=>simp[intOf]<;>omega
   ·have Nd:decide ((k:Int)<(n:Int))=false:=decide_eq_false (by omega)
    have htk:(dy shape ops k).tasks=[]:=by
     unfold dy
     simp only[List.getD_eq_getElem?_getD,List.getElem?_eq_none (show ops.length≤k by rw[HW0.out.len];omega),Option.getD_none]
     rfl
    have hsr:Sr wr C2 (cK k) 85 3 none 0 ((dy shape ops k).tasks.flatMap bq.cells):=by rw[htk];exact Sr.nil_ _ _ _ _ _ _
    have BY:(dy shape ops k).tasks.length=0:=by rw[htk];rfl
    replace F2:=fun C' W h=>F2 C' W none 0 0 h BY (by omega)
    have Cv:aB wr.heap.size C2 C2:=aB.refl _ _
    have BZ:=hbel
    clear hcc hcl hce hlc hll BY htk
    have hbw:Below w.heap.size w wr:=BZ
    replace hh:=l4.bI C2 hh
    have fr:=Fr.refl C2 (K0 3) [some 79,some 80] wr
    have ag:=aB.refl wr.heap.size C2
    go_wp2_with fail
    revert gT;revert hsr;revert ef;revert hws;revert hh;revert hrow;revert sb;revert fr;refine bD ?_;intro fr sb hrow hh hws ef hsr gT
    obtain⟨q1,q2,qi⟩:=bl sb gT
    refine aA sb gT 10 [] [0,1,2,3,4,5,6,7] [8,9,10,11,12,13] (by kernel_rfl) (by kernel_rfl) ?_
    refine af ?_;try simp only[ox]
    repeat(go_big_quiet_step (fail))
    refine wpQuiet_nil ?_
    refine ay rfl (fun K' hK'=> ?_);go_simp
    ((with_reducible refine(F2 _ _ hsr).mono ?_);rintro e w1 ⟨⟨F3,GN,C1,rfl,aG,hwk⟩,hb1⟩)
    revert ag fr sb hrow hh hws ef hsr gT;refine kx (Fr.of_below hb1 C2 (fun _=>False) []) aG (fun _ h=>h.elim) (by decide) ?_;clear aG hb1;intro ag fr sb hrow hh hws ef hsr gT
    refine hK' _ _ (eJ sb gT) ?_;clear hK' K'
    refine ay rfl (fun K' hK'=> ?_);go_simp
    revert hwk sb hrow hh hws ef hsr gT;revert fr;refine bx1 80 #[.pointer (some ⟨F3,0,none⟩)] ?_;rintro w2 e1 JA fr ns hwk sb hrow hh hws ef hsr gT;rw[e1]
    refine hK' _ _ (eJ sb gT) ?_;clear hK' K' e1
    refine ae _ _ _ (by kernel_rfl) ?_;try simp only[ox]
    clear qi q1 q2
    go_wp2_with (at_builtin;refine wpList_append_lies _ rfl _ _ _ rfl 0 80 i0 _ 1 8 Tryz.underlying77 hi hz0 hz1 hz2 rfl (by omega) (.slice A2 k cap2) k (l5 (vk ⟨th,nd⟩ hb wb sg) k) rfl hrow.own ⟨w1.heap.size,0,none⟩ 1 1 [.pointer (some ⟨F3,0,none⟩)] rfl rfl (World.news_of_block ns.blk) (ye F3) (by omega) (by unfold maxLen;omega) (by omega) (Nat.zero_le _) (w2.heap.size) rfl ?_;intro g9 B1 wA hownA eP lK Dg;have hfA:Fr C1 (K0 3) [some 80] w2 wA:=(Fr.refl C1 (K0 3) [some 80] w2).app hrow eP (eO 3) (by decide);have sA:=sb.fr hfA (.inr (by decide)))
    have sH:=hrow.app hownA (lK.elim (fun e=> .inl e.symm) (fun e=> .inr (by rw[e];rfl)))
    obtain⟨CA,sI⟩:∃ C',C'=a9 C1 w2.heap.size 3:=⟨_,rfl⟩
    rw[←sI] at sH
    have aG:aB w2.heap.size C1 CA:=by rw[sI];exact aB.a9 _ _ _
    clear hrow ns sA sI;revert gT;revert hwk;revert hsr;revert ef;revert hws;revert hh;revert sb;revert fr;revert ag;refine kx hfA aG (fun _ h=>h) (by decide) ?_;intro ag fr sb hh hws ef hsr hwk gT
    have hrow:=sH
    clear sH aG hfA eP lK hownA
    have lL:=own_ne hrow.own sb.blk (by decide)
    revert fr hh hws ef hsr hwk gT hrow;refine st1 sb 6 (.slice (some ⟨g9,0,none⟩) (k+1) B1) (fun _ h=>h) ag ?_;clear sb;rintro w3 e1 fr sb hh hws ef hsr hwk gT hrow
    simp only[sx] at sb
    rw[e1]
    clear e1
    clear lL
    refine NoPanic.normal ?_
    go_wp2_with fail
    refine⟨?_,?measure⟩
    (repeat apply Exists.intro)
    refine⟨?rel,rfl⟩
    case rel=>
     refine⟨k+1,by omega,by go_num,⟨hbw.trans (fr.below (fun g hg=> ?_) hbw.size),⟨CA,_,_,_,_,(Bc.trans Cv hbel.size).trans ag hbw.size,ef,gT,sb,?_,hh,vo hws hwk⟩,IN⟩⟩
     ·rw[Cv g (Nat.lt_of_lt_of_le hg hbel.size),Bc g hg,hC0 g hg];unfold K0;omega
     ·rw[pR];exact hrow
    case measure=>simp[intOf]<;>omega
  ·have dk:decide ((k:Int)<th)=false:=decide_eq_false hlt
   have hkt:(⟨th,nd⟩:Ly).th.toNat=k:=by simp only;omega
   have hcl:=gT.blk.cells
   go_wp2_with fail
   refine(L9 C2 _).mono ?_
   rintro e w6 ⟨⟨M,rfl,GR,hmem⟩,hb6⟩
   have IP:aB wr.heap.size C2 (a9 C2 wr.heap.size 1):=aB.a9 _ _ _
   replace sb:=(sb.nv IP).step hb6
   replace hrow:=(hrow.nv IP).step hb6
   replace hh:=hh.step hb6
   replace hws:=(hws.nv IP).step hb6
   have hbw:=hbel.trans (hb6.mono hbel.size)
   obtain⟨C7,Ng⟩:∃ C7,C7=a9 C2 wr.heap.size 1:=⟨_,rfl⟩
   rw[←Ng] at sb hrow hws hmem IP
   have Md:=Bc.trans IP hbel.size
   have hf':=sb.qh 4 (.pointer (some ⟨M.b,0,none⟩))
   have Ho:=sb.ao 4 (.pointer (some ⟨M.b,0,none⟩))
   have hce:=sb.blk.cells
   have hfe:=sb.blk.frees
   clear hcl
   go_wp2_with fail
   go_ret2
   refine⟨⟨GQ,⟨M,hb,wb,sg,w.heap.size⟩,C7,rfl,GR,rfl,Md,⟨⟨A2,cap2,?_,?_⟩,hmem.fr hf' (.inr ⟨by decide,by decide⟩),hh.fr hf' (.inr (by decide)),⟨fun v hv _=> ?_⟩⟩⟩,hbw.trans (hf'.below (fun g hg=> ?_) hbw.size)⟩
   ·simp only[fP.n,GR,hkt];exact Ho
   ·simp only[fP.n,GR,hkt];exact Sr.si (hrow.fr hf' (.inr (by decide)))
   ·have h1:=(hws.fr hf' (.inr (by decide))).at_ v (by simp only[fP.n,GR] at hv;exact hv) (by simp only[fP.n,GR,hkt] at hv;exact hv)
    simp only[zK] at h1⊢
    rw[GR]
    exact h1
   ·rw[Md g hg,hC0 g hg];unfold K0;omega
def nP:Nat→(Nat→Nat)→Nat
 | 0,_=>0
 | n+1,f=>nP n f+f n
theorem rR {f g:Nat→Nat}:∀ n,(∀ v,v<n→f v=g v)→nP n f=nP n g
 | 0,_=>rfl
 | n+1,h=>by simp only[nP,rR n (fun v hv=>h v (by omega)),h n (by omega)]
theorem vp {f g:Nat→Nat} {u:Nat}:∀ n,u<n→(∀ v,v≠u→f v=g v)→nP n f+g u=nP n g+f u
 | 0,h,_=>by omega
 | n+1,h,hs=>by
  by_cases e:u=n
  ·subst e
   have:=rR (f:=f) (g:=g) u (fun v hv=>hs v (by omega))
   simp only[nP];omega
  ·have h1:=vp n (by omega) hs
   have h2:=hs n (fun e2=>e e2.symm)
   simp only[nP];omega
theorem yf {f:Nat→Nat} {B:Nat}:∀ n,(∀ v,v<n→f v≤B)→nP n f≤n*B
 | 0,_=>by simp[nP]
 | n+1,h=>by
  have h1:=yf n (fun v hv=>h v (by omega))
  have h2:=h n (by omega)
  have h3:(n+1)*B=n*B+B:=by rw[Nat.add_mul,Nat.one_mul]
  simp only[nP];omega
def cy.evs (x:cy):Nat:=2*x.ended+(if x.now.isSome then 1 else 0)
structure F4 (M:ML) (m:Mm) (u:Int) (N:Int) (x:cy):Prop where
 st:bM M.L x.st N
 may:∀ t∈x.tasks,t.may=true
 few:x.tasks.length≤40
 le:x.ended≤x.tasks.length
 idle:x.now=none→Idle M m u
 now:∀ d,x.now=some d→eR M.L u x.st d N∧Own M u m d∧x.tasks[x.ended]? =some d.task
structure dG (M:ML) (e:aZ):Prop where
 lay:M.L.Ok
 mem:ff M e.m
 tries:0≤e.tries∧e.tries≤50
 ws:∀ u,u<M.L.th.toNat→F4 M e.m u e.steps (e.ws u)
 steps:e.steps≤60000
 evs:e.hist.evs.length≤nP M.L.th.toNat (fun u=>(e.ws u).evs)
 cR:∀ u,u<M.L.th.toNat→(0<e.hist.now u↔(e.ws u).now≠none)
variable {M:ML} {m:Mm}
theorem F4.evs_le {u N:Int} {x:cy} (h:F4 M m u N x):x.evs≤80:=by
 have h1:=h.few
 have h2:=h.le
 unfold cy.evs
 cases hn:x.now with
 | none=>simp only[Option.isSome_none];simp;omega
 | some d=>
  have:=(List.getElem?_eq_some_iff.1 (h.now d hn).2.2).1
  simp;omega
theorem dG.len {e:aZ} (h:dG M e):e.hist.evs.length≤640:=by
 have h1:=yf M.L.th.toNat (fun v hv=>(h.ws v hv).evs_le)
 have h2:=h.lay.th
 have h3:=h.evs
 have h4:M.L.th.toNat*80≤8*80:=Nat.mul_le_mul_right _ (by omega)
 omega
variable {me:Int} {t:cV}
theorem dE.mono {h:aK} {N N':Int} (hh:dE L me t h N) (hN:N≤N'):dE L me t h N':=
 ⟨hh.u,by have:=hh.rounds;omega,hh.found,hh.at_,hh.may,hh.pend,hh.st1,hh.exec,fun e=>(hh.a5 e).mono hN,fun e=>⟨⟨(hh.find e).1.1.mono hN,(hh.find e).1.2⟩,by have:=(hh.find e).2;omega⟩,hh.plan,hh.now,hh.cl,hh.aD⟩
theorem mO.mono {f:bj} {N N':Int} (h:mO L me t f N) (hN:N≤N'):mO L me t f N':=
 ⟨h.may,h.most,h.at_,by have:=h.tries;omega,fun e=>⟨by have:=(h.sum e).1;omega,(h.sum e).2.1,by have:=(h.sum e).2.2;omega⟩,fun e=>⟨(h.find e).1.mono hN,(h.find e).2⟩,h.plan,h.cl,h.aD,h.code⟩
theorem eR.mono {d:aH} {N N':Int} (h:eR L me t d N) (hN:N≤N'):eR L me t d N':=
 ⟨h.may,h.lim,h.at_,h.head,fun e=>(h.help e).mono hN,fun e=>(h.a5 e).mono hN,fun e=>(h.fast e).mono hN,h.ann,fun e=>⟨⟨(h.find e).1.1.mono hN,(h.find e).1.2⟩,by have:=(h.find e).2;omega⟩,h.drop,fun e=>(h.sweep e).mono hN⟩
variable {m':Mm}
theorem F4.rel {u v N N':Int} {x:cy} (h:F4 M m v N x) (hr:Rel M u m m') (hm:ff M m) (hv:0≤v∧v<M.L.th) (hne:v≠u) (hN:N≤N'):F4 M m' v N' x:=by
 refine⟨h.st.mono hN,h.may,h.few,h.le,fun e=> ?_,fun d hd=> ?_⟩
 ·have hi:=h.idle e
  rcases hr.desc v hv.1 hv.2 with e2 | e2 | e2
  ·unfold Idle stt at hi⊢;rw[e2];exact hi
  ·have:=gp e2
   unfold Idle stt at hi
   omega
  ·exact absurd e2.1 hne
 ·obtain⟨h1,h2,h3⟩:=h.now d hd
  exact⟨h1.mono hN,h2.rel hr hv hne hm,h3⟩
theorem zo {k:bq} {lim N:Int} (hL:M.L.Ok) (hk:k.may=true) (hl:0≤lim∧lim≤1000) (hi:Idle M m me):eR M.L me t (.new M.L k lim) N∧Own M me m (.new M.L k lim):=by
 have hth:=hL.th
 refine⟨⟨hk,hl,by simp[aH.new],fun _=>⟨by simp only[aH.new,oh.new];omega,by simp only[aH.new,oh.new];omega⟩,?_,?_,?_,?_,?_,?_,?_⟩,cT hi (by simp[aH.new])⟩<;>(intro e;simp[aH.new] at e)
theorem yg (M:ML) (me:Int) (m:Mm) (t:cV) (d:aH):(ak M me m t d).2.2.2.task=d.task:=by
 have hl:∀ (x:aH),(x.leave me).task=x.task:=fun _=>rfl
 have ht:∀ (x:aH),(x.aU M.L me).task=x.task:=fun _=>rfl
 have hw:∀ (x:aH) (t:cV),(x.want M.L me t).task=x.task:=fun x t=>by unfold aH.want;split<;>rfl
 have hto:∀ (x:aH) (r:ku),(x.told M.L me r).task=x.task:=fun x r=>by unfold aH.told;simp only;split<;>rfl
 by_cases h0:d.at_=0
 ·rw[iy h0];simp only;split
  ·unfold aH.looked;split
   ·exact hw _ _
   ·rfl
  ·rfl
 by_cases h1:d.at_=1
 ·rw[fF h1];simp only;split
  ·exact hw _ _
  ·rfl
 by_cases h2:d.at_=2
 ·rw[iz h2];simp only;split
  ·unfold aH.ensured;split
   ·rfl
   ·exact ht _
  ·rfl
 by_cases h3:d.at_=3
 ·rw[gq h3];simp only;split
  ·unfold aH.tried;split
   ·exact hto _ _
   ·rfl
  ·rfl
 by_cases h4:d.at_=4
 ·rw[gu h4];simp only;split<;>rfl
 by_cases h5:d.at_=5
 ·rw[fG h5];simp only;split<;>rfl
 by_cases h6:d.at_=6
 ·rw[gv h6];exact hto _ _
 by_cases h7:d.at_=7
 ·rw[fH h7];split
  ·rfl
  ·rfl
 by_cases h8:d.at_=8
 ·rw[gw h8];split<;>rfl
 ·unfold ak
  simp only
  rw[if_neg h0,if_neg h1,if_neg h2,if_neg h3,if_neg h4,if_neg h5,if_neg h6,if_neg h7,if_neg h8]
structure Now (M:ML) (e:aZ) (u:Nat):Prop where
 ok:eR M.L u (e.ws u).st (e.a7 M.L u) e.steps
 own:Own M u e.m (e.a7 M.L u)
 task:(e.ws u).tasks[(e.ws u).ended]? =some (e.a7 M.L u).task
theorem dG.now {e:aZ} (h:dG M e) {u:Nat} (hu:u<M.L.th.toNat) (hl:(e.ws u).left≠0):Now M e u:=by
 have hw:=h.ws u hu
 cases hn:(e.ws u).now with
 | some d=>
  have hd:e.a7 M.L u=d:=by unfold aZ.a7;rw[hn];rfl
  exact⟨by rw[hd];exact(hw.now d hn).1,by rw[hd];exact(hw.now d hn).2.1,by rw[hd];exact(hw.now d hn).2.2⟩
 | none=>
  have hd:e.a7 M.L u= .new M.L ((e.ws u).tasks.getD (e.ws u).ended .zero) e.tries:=by unfold aZ.a7;rw[hn];rfl
  have hlt:(e.ws u).ended<(e.ws u).tasks.length:=by
   have:=hw.le
   unfold cy.left at hl
   omega
  have hg:(e.ws u).tasks.getD (e.ws u).ended .zero=(e.ws u).tasks[(e.ws u).ended]:=by simp[List.getD_eq_getElem?_getD,List.getElem?_eq_getElem hlt]
  have hk:((e.ws u).tasks[(e.ws u).ended]).may=true:=hw.may _ (List.getElem_mem hlt)
  have:=zo (t:=(e.ws u).st) (N:=e.steps) (k:=(e.ws u).tasks.getD (e.ws u).ended .zero) (lim:=e.tries) h.lay (by rw[hg];exact hk) (by have:=h.tries;omega) (hw.idle hn)
  refine⟨by rw[hd];exact this.1,by rw[hd];exact this.2,?_⟩
  rw[hd]
  simp only[aH.new]
  rw[List.getElem?_eq_getElem hlt,hg]
theorem vq {e:aZ} {u:Int} (h:e.can M u=true):0≤u∧u<M.L.th∧(e.ws u.toNat).left≠0∧e.steps<60000:=by
 unfold aZ.can at h
 simp only[Bool.and_eq_true,decide_eq_true_eq] at h
 exact⟨h.1.1.1,h.1.1.2,h.1.2,h.2⟩
theorem dG.fine {e:aZ} (h:dG M e) {u:Int} (hc:e.can M u=true):(e.a7 M.L u.toNat).Fine M e.m (e.ws u.toNat).st:=by
 obtain⟨h0,h1,h2,h3⟩:=vq hc
 have hu:u.toNat<M.L.th.toNat:=by omega
 have hn:=h.now hu h2
 exact hn.ok.fine h.lay h.mem (by omega) (h.ws _ hu).st (by omega) (by have:=h.steps;omega)
theorem vr {e:aZ} (h:dG M e) {u:Nat} (hu:u<M.L.th.toNat):(e.cU M.L u).evs.length=e.hist.evs.length+(if (e.ws u).now.isNone then 1 else 0)∧0<(e.cU M.L u).now u∧∀ v,v<M.L.th.toNat→v≠u→(e.cU M.L u).now v=e.hist.now v:=by
 have hth:=h.lay.th
 unfold aZ.cU
 cases hn:(e.ws u).now with
 | some d=>
  have:=(h.cR u hu).2 (by rw[hn];simp)
  exact⟨by simp,by simpa using this,fun v _ _=>by simp⟩
 | none=>
  have h0:¬ 0<e.hist.now u:=fun e2=>(h.cR u hu).1 e2 hn
  have he:e.hist.qg (u:Int)=0:=by
   unfold HS.qg
   rw[if_neg (by omega),Int.toNat_natCast,if_neg h0]
  simp only[Option.isNone_none,if_true]
  unfold HS.begin_
  rw[if_pos he,Int.toNat_natCast]
  refine⟨by simp[HS.zU],by simp only[HS.zU,if_true];omega,fun v _ hv=>by simp[HS.zU,hv]⟩
theorem dG.next {e:aZ} (h:dG M e) {u:Nat} (hu:u<M.L.th.toNat) (hl:(e.ws u).left≠0) (hs:e.steps<60000):dG M (e.next M u)∧Rel M u e.m (e.next M u).m:=by
 have hn:=h.now hu hl
 have hw:=h.ws u hu
 have hth:=h.lay.th
 have hgo:mP M u e.m e.steps (e.did M u):=ya h.lay h.mem (by omega) (by omega) hw.st hn.ok hn.own
 have htk:(e.did M u).2.2.2.task=(e.a7 M.L u).task:=yg M u e.m (e.ws u).st (e.a7 M.L u)
 have hhm:=vr h hu
 have hlt:=(List.getElem?_eq_some_iff.1 hn.task).1
 have hws:∀ v,v≠u→(e.next M u).ws v=e.ws v:=fun v hv=>by simp only[aZ.next,fI,if_neg hv]
 have b7:(e.next M u).ws u=cy.stop ((e.ws u).with_ (e.a7 M.L u)) (e.did M u):=by simp only[aZ.next,fI,if_true]
 have hmm:(e.next M u).m=(e.did M u).2.1:=rfl
 have hst:(e.next M u).steps=e.steps+1:=rfl
 have KU:((e.next M u).ws u).evs=(e.ws u).evs+(if (e.ws u).now.isNone then 1 else 0)+(if (e.did M u).1 then 1 else 0):=by
  rw[b7]
  unfold cy.stop cy.evs
  cases hr:(e.did M u).1 with
  | true=>cases hnn:(e.ws u).now<;>simp<;>omega
  | false=>cases hnn:(e.ws u).now<;>simp<;>omega
 have hsum:=vp (f:=fun v=>((e.next M u).ws v).evs) (g:=fun v=>(e.ws v).evs) (u:=u) M.L.th.toNat hu (fun v hv=>by simp only[hws v hv])
 have hH:(e.next M u).hist=if (e.did M u).1 then (e.cU M.L u).end_ (u:Int) (e.did M u).2.2.2.res.code (e.did M u).2.2.2.res.ok (e.did M u).2.2.2.res.val else e.cU M.L u:=rfl
 have herr:(e.cU M.L u).ny (u:Int)=0:=by
  unfold HS.ny
  rw[if_neg (by omega),Int.toNat_natCast,if_pos hhm.2.1]
 refine⟨⟨h.lay,hgo.rel.ok h.mem,h.tries,fun v hv=> ?_,by rw[hst];omega,?_,fun v hv=> ?_⟩,hgo.rel⟩
 ·by_cases hvu:v=u
  ·subst hvu
   rw[b7,hmm,hst]
   have hc:((e.steps+1:Nat):Int)=(e.steps:Int)+1:=by omega
   rw[hc]
   unfold cy.stop
   cases hr:(e.did M v).1 with
   | true=>
    simp only[if_true]
    exact⟨hgo.st,hw.may,hw.few,by simp only;omega,fun _=>hgo.fin hr,fun d hd=>by simp at hd⟩
   | false=>
    simp only[Bool.false_eq_true,if_false]
    exact⟨hgo.st,hw.may,hw.few,hw.le,fun hd=>by simp at hd,fun d hd=>by
     injection hd with hd
     subst hd
     exact⟨(hgo.ok hr).1,(hgo.ok hr).2,by rw[htk];exact hn.task⟩⟩
  ·rw[hws v hvu,hmm,hst]
   exact(h.ws v hv).rel hgo.rel h.mem (by omega) (by omega) (by omega)
 ·have h1:=h.evs
  have h2:=hhm.1
  rw[hH]
  rw[KU] at hsum
  split
  ·rename_i hr
   rw[if_pos hr] at hsum
   unfold HS.end_
   rw[if_pos herr]
   have:((e.cU M.L u).xE (u:Int).toNat (e.did M u).2.2.2.res.code (e.did M u).2.2.2.res.ok (e.did M u).2.2.2.res.val).evs.length=(e.cU M.L u).evs.length+1:=by simp[HS.xE]
   omega
  ·rename_i hr
   rw[if_neg hr] at hsum
   omega
 ·rw[hH]
  by_cases hvu:v=u
  ·subst hvu
   rw[b7]
   unfold cy.stop
   cases hr:(e.did M v).1 with
   | true=>
    simp only[if_true]
    unfold HS.end_
    rw[if_pos herr,Int.toNat_natCast]
    simp[HS.xE]
   | false=>
    simp only[Bool.false_eq_true,if_false]
    simp[hhm.2.1]
  ·rw[hws v hvu,←h.cR v hv]
   have h3:=hhm.2.2 v hv hvu
   split
   ·unfold HS.end_
    rw[if_pos herr,Int.toNat_natCast]
    simp only[HS.xE,if_neg hvu,h3]
   ·rw[h3]
theorem dG.pick {e:aZ} (h:dG M e) (u:Int):dG M (e.pick M u)∧(e.can M u=true→Rel M u e.m (e.pick M u).m):=by
 unfold aZ.pick
 split
 ·rename_i hc
  obtain⟨h0,h1,h2,h3⟩:=vq hc
  have:=h.next (u:=u.toNat) (by omega) h2 h3
  refine⟨this.1,fun _=> ?_⟩
  have e1:((u.toNat:Nat):Int)=u:=by omega
  rw[←e1];exact this.2
 ·rename_i hc
  exact⟨h,fun e2=>absurd e2 hc⟩
theorem dG.init {shape tries:Int} {ops:List (List Opn)} (hc:vi shape tries M.L) (xw:∀ l∈ops,l.length≤40) (hmay:∀ l∈ops,l.all (may shape)=true):dG M (.init shape tries ops):=by
 have hL:=hc.lay
 have hz:∀ a,ld M (fun _=>0) a=0:=fun a=>by unfold ld;split<;>rfl
 have hg:∀ u,∀ l,l=ops.getD u []→l.length≤40∧l.all (may shape)=true:=fun u l hl=>by
  subst hl
  by_cases hu:u<ops.length
  ·rw[List.getD_eq_getElem?_getD,List.getElem?_eq_getElem hu]
   exact⟨xw _ (List.getElem_mem hu),hmay _ (List.getElem_mem hu)⟩
  ·rw[List.getD_eq_getElem?_getD,List.getElem?_eq_none (by omega)]
   exact⟨by simp,rfl⟩
 refine⟨hL,⟨fun i=>by simp[aZ.init],fun a _ _=> ?_,fun v _ _=> ?_⟩,hc.tries,fun u hu=>⟨⟨?_,fun x hx=>by simp[aZ.init,dy] at hx,?_⟩,fun t ht=> ?_,?_,by simp[aZ.init,dy],fun _=> .inl ?_,fun d hd=>by simp[aZ.init,dy] at hd⟩,by simp[aZ.init],by simp[aZ.init,HS.new],fun u hu=> ?_⟩
 ·have:=hL.nd
  rw[show (aZ.init shape tries ops).m=fun _=>0 from rfl,hz]
  exact ia M.L hL
 ·rw[show (aZ.init shape tries ops).m=fun _=>0 from rfl,hz]
  exact⟨by simp[getD'],fun h5=>by simp[getD'] at h5⟩
 ·have:=hL.nd
  simp only[aZ.init,dy];omega
 ·simp[aZ.init,dy]
 ·simp only[aZ.init,dy,eT,List.mem_map] at ht
  obtain⟨o,ho,rfl⟩:=ht
  exact List.all_eq_true.1 (hg u _ rfl).2 o ho
 ·simp only[aZ.init,dy,eT,List.length_map]
  exact(hg u _ rfl).1
 ·unfold stt
  rw[show (aZ.init shape tries ops).m=fun _=>0 from rfl,hz]
  simp[getD']
 ·simp[aZ.init,dy,HS.new]
def age (x:Int):Int:=8*(getD' x).aM+(getD' x).status
def Cw (s:Int):Int:=if s=0 then 0 else if s=1 then 1 else if s=2 then 2 else if s=5 then 2 else 3
def ti (x:Int):Int:=3*(getD' x).aM+Cw (getD' x).status
def cy.ann (x:cy):Int:=(x.ended:Int)+(match x.now with | none=>0 | some d=>if 5≤d.at_ then 1 else 0)
theorem D7 (s:Int):0≤Cw s∧Cw s≤3:=by unfold Cw;repeat' split<;>omega
theorem zp {x y:Int} (h:gF L x y) (ha:(getD' x).aM<4095):age x<age y∧ti y≤ti x+1:=by
 have h0:=(cX x).aM
 unfold age ti
 rcases h.path with ⟨h1,h2,h3⟩ | ⟨h1,h2⟩ | ⟨h1,h2⟩ | ⟨h1,h2⟩
 ·rcases h3 with h3 | ⟨h3,-⟩<;>(rw[h2,h1,h3];simp[Cw];omega)
 ·rcases h2 with h2 | h2<;>(rw[h2,h1];simp[Ds.with_,Cw];omega)
 ·rw[h2,h1];simp[Cw];omega
 ·rw[h2,h1]
  simp only[Ds.cm]
  have:((getD' x).aM+1) % 4096=(getD' x).aM+1:=Int.emod_eq_of_lt (by omega) (by omega)
  rw[this];simp[Cw];omega
theorem zq {x y:Int} (h:getD' y=(getD' x).cm) (hi:(getD' x).status=0∨(getD' x).status=5) (ha:(getD' x).aM<4095):age x<age y∧ti y≤ti x+4:=by
 have h0:=(cX x).aM
 unfold age ti
 rw[h]
 simp only[Ds.cm]
 have:((getD' x).aM+1) % 4096=(getD' x).aM+1:=Int.emod_eq_of_lt (by omega) (by omega)
 rw[this]
 rcases hi with hi | hi<;>(rw[hi];simp[Cw];omega)
theorem yh {d:aH} {N:Int} (hL:M.L.Ok) (hm:ff M m) (hu:0≤me∧me<M.L.th) (hN:0≤N) (ht:bM M.L t N) (hd:eR M.L me t d N) (hne:¬ (d.at_=4∧d.ann.at_=4)) (ho:d.at_=4→d.ann.at_=4→d.ann.found=ld M m (M.L.desc me)) (v:Int) (h0:0≤v) (h1:v<M.L.th):
  ld M (ak M me m t d).2.1 (M.L.desc v)=ld M m (M.L.desc v)∨gF M.L (ld M m (M.L.desc v)) (ld M (ak M me m t d).2.1 (M.L.desc v)):=by
 have hs:=xj (m:=m) hL hu ht hd ho
 have quiet:d.bX me=[]→ld M (ak M me m t d).2.1 (M.L.desc v)=ld M m (M.L.desc v)∨gF M.L (ld M m (M.L.desc v)) (ld M (ak M me m t d).2.1 (M.L.desc v)):=fun e=>by
  rcases hs.desc v h0 h1 with h | h
  ·exact .inl h
  ·rw[e] at h;cases h
 rcases(by have:=hd.at_;omega:d.at_=0∨d.at_=1∨d.at_=2∨d.at_=3∨d.at_=4∨d.at_=5∨d.at_=6∨d.at_=7∨8≤d.at_) with a | a | a | a | a | a | a | a | a
 ·exact quiet (bA (.inl a))
 ·rw[fF a];exact(lT hL hm hu hN ht (hd.help (.inl a))).1.desc v h0 h1
 ·exact quiet (bA (.inr (.inl a)))
 ·rw[gq a];exact(s9 hL hm hu hN ht (hd.fast a)).1.desc v h0 h1
 ·exact quiet (bA (.inr (.inr (.inl ⟨a,fun e=>hne ⟨a,e⟩⟩))))
 ·rw[fG a];exact(lT hL hm hu hN ht (hd.help (.inr a))).1.desc v h0 h1
 ·exact quiet (bA (.inr (.inr (.inr (.inl a)))))
 ·rw[fH a]
  have:=(jc hL hm hu hN (hd.find a).1.1 (hd.find a).1.2).1.desc v h0 h1
  split<;>exact this
 ·exact quiet (bA (.inr (.inr (.inr (.inr a)))))
theorem nX {d:aH} (h0:d.at_=4) (h4:d.ann.at_=4):ak M me m t d=(false,st M m (M.L.desc me) (cL (getD' d.ann.found).cm),t,{ d with ann:={ d.ann with at_:=5 },at_:=5,help:= .new M.L me d.ann.no d.limit }):=by
 rw[gu h0]
 have e:aW M me m d.ann=(true,st M m (M.L.desc me) (cL (getD' d.ann.found).cm),{ d.ann with at_:=5 }):=by unfold aW;rw[if_neg (by omega),if_neg (by omega),if_neg (by omega),if_neg (by omega)]
 rw[e];rfl
theorem F5 {d:aH} (h:5≤d.at_) (h9:d.at_≤9):5≤(ak M me m t d).2.2.2.at_:=by
 have ht:∀ (x:aH) (r:ku),5≤(x.told M.L me r).at_:=fun x r=>by unfold aH.told;simp only;split<;>simp[aH.leave]
 rcases(by omega:d.at_=5∨d.at_=6∨d.at_=7∨d.at_=8∨d.at_=9) with a | a | a | a | a
 ·rw[fG a];simp only;split<;>(simp only;omega)
 ·rw[gv a];exact ht _ _
 ·rw[fH a];split
  ·simp[aH.leave]
  ·simp only;omega
 ·rw[gw a];split<;>(simp only;omega)
 ·rw[iA a];simp only;omega
structure np (M:ML) (e:aZ):Prop where
 ti:∀ u:Nat,u<M.L.th.toNat→2*(ti (ld M e.m (M.L.desc u)) - 3*(e.ws u).ann)≤e.steps
 bX:∀ v:Nat,v<M.L.th.toNat→∀ d,(e.ws v).now=some d→∀ p,p∈d.bX v→(0≤p.1∧p.1<M.L.th)∧age p.2≤age (ld M e.m (M.L.desc p.1))∧(p.2=ld M e.m (M.L.desc p.1)→2*(Proofs.YtbcnnhlpilmmbaaGreat.ti p.2 - 3*(e.ws p.1.toNat).ann)+1≤e.steps)
def pT (M:ML) (m m':Mm):Prop:=∀ v:Int,0≤v→v<M.L.th→ld M m' (M.L.desc v)=ld M m (M.L.desc v)∨age (ld M m (M.L.desc v))<age (ld M m' (M.L.desc v))
theorem cy.F6 {u N:Int} {x:cy} (h:F4 M m u N x):0≤x.ann∧x.ann≤40:=by
 have h1:=h.few
 have h2:=h.le
 unfold cy.ann
 cases hn:x.now with
 | none=>simp only;omega
 | some d=>
  have:=(List.getElem?_eq_some_iff.1 (h.now d hn).2.2).1
  simp only
  split<;>omega
theorem np.small {e:aZ} (h:np M e) (ho:dG M e) (hs:e.steps≤18000) {v:Int} (h0:0≤v) (h1:v<M.L.th):(getD' (ld M e.m (M.L.desc v))).aM<4095:=by
 obtain⟨u,rfl⟩:∃ u:Nat,v=u:=⟨v.toNat,by omega⟩
 have hp:=h.ti u (by omega)
 have ha:=cy.F6 (ho.ws u (by omega))
 have hq:=(D7 (getD' (ld M e.m (M.L.desc u))).status).1
 unfold Proofs.YtbcnnhlpilmmbaaGreat.ti at hp
 omega
theorem np.next {e:aZ} (h:np M e) (ho:dG M e) (hs:e.steps≤18000) {u:Nat} (hu:u<M.L.th.toNat) (hl:(e.ws u).left≠0):np M (e.next M u)∧pT M e.m (e.next M u).m:=by
 have hn:=ho.now hu hl
 have hw:=ho.ws u hu
 have hth:=ho.lay.th
 have KV:(e.a7 M.L u).at_=4→(e.a7 M.L u).ann.at_=4→(e.a7 M.L u).ann.found=ld M e.m (M.L.desc u):=hn.own.ED
 have hds:jV M e.m (e.did M u).2.1 ((e.a7 M.L u).bX u) (if (e.did M u).1 then [] else (e.did M u).2.2.2.bX u):=xj ho.lay (by omega) hw.st hn.ok KV
 have hws:∀ v,v≠u→(e.next M u).ws v=e.ws v:=fun v hv=>by simp only[aZ.next,fI,if_neg hv]
 have b7:(e.next M u).ws u=cy.stop ((e.ws u).with_ (e.a7 M.L u)) (e.did M u):=by simp only[aZ.next,fI,if_true]
 have hmm:(e.next M u).m=(e.did M u).2.1:=rfl
 have hst:(e.next M u).steps=e.steps+1:=rfl
 have hF:∀ p,p∈(e.a7 M.L u).bX u→(0≤p.1∧p.1<M.L.th)∧age p.2≤age (ld M e.m (M.L.desc p.1))∧(p.2=ld M e.m (M.L.desc p.1)→2*(Proofs.YtbcnnhlpilmmbaaGreat.ti p.2 - 3*(e.ws p.1.toNat).ann)+1≤e.steps):=by
  cases hnw:(e.ws u).now with
  | none=>
   have hd:e.a7 M.L u= .new M.L ((e.ws u).tasks.getD (e.ws u).ended .zero) e.tries:=by unfold aZ.a7;rw[hnw];rfl
   rw[hd,bA (.inl rfl)]
   exact DO
  | some d=>
   have hd:e.a7 M.L u=d:=by unfold aZ.a7;rw[hnw];rfl
   rw[hd]
   exact h.bX u hu d hnw
 have EI:(e.ws u).ann≤((e.next M u).ws u).ann∧((e.a7 M.L u).at_=4→(e.a7 M.L u).ann.at_=4→(e.ws u).ann+1≤((e.next M u).ws u).ann):=by
  have hE:∀ x:cy,x=(e.ws u)→x.ann=(x.ended:Int)+if (e.ws u).now.isSome∧5≤(e.a7 M.L u).at_ then 1 else 0:=fun x hx=>by
   subst hx
   unfold cy.ann
   cases hnw:(e.ws u).now with
   | none=>simp
   | some d=>
    have hd:e.a7 M.L u=d:=by unfold aZ.a7;rw[hnw];rfl
    rw[hd];simp
  rw[hE _ rfl,b7]
  have h9:=hn.ok.at_
  have h5:5≤(e.a7 M.L u).at_→5≤(e.did M u).2.2.2.at_:=fun a=>F5 a h9.2
  have jY:(e.a7 M.L u).at_=4→(e.a7 M.L u).ann.at_=4→(e.did M u).1=false∧(e.did M u).2.2.2.at_=5:=fun a b=>by
   unfold aZ.did
   rw[nX a b]
   exact⟨rfl,rfl⟩
  have hle:(0:Int)≤(if (e.ws u).now.isSome∧5≤(e.a7 M.L u).at_ then (1:Int) else 0)∧(if (e.ws u).now.isSome∧5≤(e.a7 M.L u).at_ then (1:Int) else 0)≤1∧(¬ 5≤(e.a7 M.L u).at_→(if (e.ws u).now.isSome∧5≤(e.a7 M.L u).at_ then (1:Int) else 0)=0):=by
   refine⟨by split<;>omega,by split<;>omega,fun a=>if_neg (fun b=>a b.2)⟩
  generalize(if (e.ws u).now.isSome∧5≤(e.a7 M.L u).at_ then (1:Int) else 0)=c at hle
  cases hr:(e.did M u).1 with
  | true=>
   have hx:(cy.stop ((e.ws u).with_ (e.a7 M.L u)) (e.did M u)).ann=((e.ws u).ended:Int)+1:=by
    unfold cy.stop
    rw[if_pos hr]
    simp[cy.ann]
   rw[hx]
   exact⟨by omega,fun a b=>by have:=(jY a b).1;rw[hr] at this;cases this⟩
  | false=>
   have hx:(cy.stop ((e.ws u).with_ (e.a7 M.L u)) (e.did M u)).ann=((e.ws u).ended:Int)+if 5≤(e.did M u).2.2.2.at_ then 1 else 0:=by
    unfold cy.stop
    rw[if_neg (by rw[hr];decide)]
    simp[cy.ann]
   rw[hx]
   refine⟨?_,fun a b=> ?_⟩
   ·by_cases a:5≤(e.a7 M.L u).at_
    ·rw[if_pos (h5 a)];omega
    ·have:=hle.2.2 a
     split<;>omega
   ·rw[(jY a b).2,hle.2.2 (by omega)]
    simp
 have D8:∀ v:Nat,(e.ws v).ann≤((e.next M u).ws v).ann:=fun v=>by
  by_cases hv:v=u
  ·subst hv;exact EI.1
  ·rw[hws v hv];omega
 have F7:∀ v:Int,0≤v→v<M.L.th→ld M (e.next M u).m (M.L.desc v)=ld M e.m (M.L.desc v)∨((v,ld M e.m (M.L.desc v))∈(e.a7 M.L u).bX u∧age (ld M e.m (M.L.desc v))<age (ld M (e.next M u).m (M.L.desc v))∧Proofs.YtbcnnhlpilmmbaaGreat.ti (ld M (e.next M u).m (M.L.desc v)) - 3*((e.next M u).ws v.toNat).ann≤Proofs.YtbcnnhlpilmmbaaGreat.ti (ld M e.m (M.L.desc v)) - 3*(e.ws v.toNat).ann+1):=fun v h0 h1=>by
  have hsm:=h.small ho hs h0 h1
  by_cases hq:ld M (e.next M u).m (M.L.desc v)=ld M e.m (M.L.desc v)
  ·exact .inl hq
  ·right
   have hmem:=(hds.desc v h0 h1).resolve_left hq
   refine⟨hmem,?_⟩
   by_cases jY:(e.a7 M.L u).at_=4∧(e.a7 M.L u).ann.at_=4
   ·have EJ:=hmem
    rw[pE jY.1 jY.2] at EJ
    have hv:v=(u:Int):=congrArg Prod.fst (List.mem_singleton.1 EJ)
    subst hv
    have hid:=hn.own.idle (.inl (by omega))
    have hval:ld M (e.next M u).m (M.L.desc u)=cL (getD' (ld M e.m (M.L.desc u))).cm:=by
     rw[hmm];unfold aZ.did
     rw[nX jY.1 jY.2,hn.own.ED jY.1 jY.2]
     exact cD _ _ (by have:=ho.lay.nd;simp only[Ly.desc,Ly.size];omega)
    have:=zq (x:=ld M e.m (M.L.desc u)) (y:=ld M (e.next M u).m (M.L.desc u)) (by rw[hval];exact dH (hO _)) hid hsm
    have h3:=EI.2 jY.1 jY.2
    rw[Int.toNat_natCast]
    omega
   ·have hp:=(yh ho.lay ho.mem (by omega) (by omega) hw.st hn.ok jY hn.own.ED v h0 h1).resolve_left hq
    have:=zp hp hsm
    have h3:=D8 v.toNat
    exact⟨this.1,by have:=this.2;rw[hmm];unfold aZ.did;omega⟩
 refine⟨⟨fun v hv=> ?_,fun v hv d hd p hp=> ?_⟩,fun v h0 h1=>(F7 v h0 h1).imp id (·.2.1)⟩
 ·have hv0:=h.ti v hv
  have h3:=D8 v
  rcases F7 v (by omega) (by omega) with e1 | ⟨e1,-,e2⟩
  ·rw[e1,hst];omega
  ·have:=(hF _ e1).2.2 rfl
   simp only[Int.toNat_natCast] at this e2
   rw[hst];omega
 ·
  have old:∀ p:Int×Int,(0≤p.1∧p.1<M.L.th)→age p.2≤age (ld M e.m (M.L.desc p.1))→(p.2=ld M e.m (M.L.desc p.1)→2*(Proofs.YtbcnnhlpilmmbaaGreat.ti p.2 - 3*(e.ws p.1.toNat).ann)+1≤e.steps)→(0≤p.1∧p.1<M.L.th)∧age p.2≤age (ld M (e.next M u).m (M.L.desc p.1))∧(p.2=ld M (e.next M u).m (M.L.desc p.1)→2*(Proofs.YtbcnnhlpilmmbaaGreat.ti p.2 - 3*((e.next M u).ws p.1.toNat).ann)+1≤(e.next M u).steps):=fun p h0 h1 h2=>by
   have h3:=D8 p.1.toNat
   rcases F7 p.1 h0.1 h0.2 with e1 | ⟨-,e1,-⟩
   ·rw[e1]
    exact⟨h0,h1,fun hh=>by have:=h2 hh;rw[hst];omega⟩
   ·exact⟨h0,by omega,fun hh=>by rw[←hh] at e1;omega⟩
  by_cases hvu:v=u
  ·subst hvu
   rw[b7] at hd
   unfold cy.stop at hd
   split at hd
   ·simp at hd
   ·rename_i hr
    simp only[Option.some.injEq] at hd
    subst hd
    rw[if_neg hr] at hds
    rcases hds.next p hp with h1 | ⟨h1,h2,h3⟩
    ·have:=hF p h1
     exact old p this.1 this.2.1 this.2.2
    ·have hpt:=h.ti p.1.toNat (by omega)
     rw[show ((p.1.toNat:Nat):Int)=p.1 by omega] at hpt
     have h4:=D8 p.1.toNat
     refine⟨h3,?_,fun _=> ?_⟩
     ·rw[hmm,h2,h1];omega
     ·rw[h1,hst];omega
  ·rw[hws v hvu] at hd
   have:=h.bX v hv d hd p hp
   exact old p this.1 this.2.1 this.2.2
theorem np.init {shape tries:Int} {ops:List (List Opn)}:np M (.init shape tries ops):=by
 have hz:∀ a,ld M (fun _=>0) a=0:=fun a=>by unfold ld;split<;>rfl
 refine⟨fun u _=> ?_,fun v _ d hd=>by simp[aZ.init,dy] at hd⟩
 rw[show (aZ.init shape tries ops).m=fun _=>0 from rfl,hz]
 simp[aZ.init,dy,cy.ann,Proofs.YtbcnnhlpilmmbaaGreat.ti,getD',Cw]
end Go.Proofs.YtbcnnhlpilmmbaaGreat
