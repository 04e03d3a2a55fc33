/- Texts that are wanted for PTopClaims.
   Conditions: none. -/
import Derived.KernelRfl
import Derived.Deep.LoopGhost
import Derived.Deep.AppendLies
import Derived.Test.YtbcnnhlpilmmbaaGreatJPTopClaims21
import Derived.Test.YtbcnnhlpilmmbaaGreatJPTopClaims25
set_option maxRecDepth 100000
set_option maxHeartbeats 6400000
namespace Go.Proofs.YtbcnnhlpilmmbaaGreat
open Go Go.RowKit
theorem EW:(Tryz.prog.info? 80).map (fun i=>(i.zero,i.size,i.bytes))=some (some (.pointer none),1,8):=by kernel_rfl
def gZ (shape:Int) (l:List Opn):List bl:=l.map fun o=>⟨shape,o.kind,o.key⟩
theorem rI (shape:Int) (l:List Opn):(gZ shape l).flatMap bl.cells=l.flatMap (fm shape):=by
 unfold gZ
 induction l with
 | nil=>rfl
 | cons o l ih=>simp only[List.map_cons,List.flatMap_cons,ih];rfl
def dM (shape:Int) (ops:List (List Opn)) (u:Nat):dw:=⟨⟨0,[]⟩,gZ shape (ops.getD u []),0,none⟩
def bu.init (shape tries:Int) (ops:List (List Opn)):bu:=⟨shape,tries,fun _=>0,HS.new,dM shape ops,0⟩
abbrev vS (L:Ly) (hb:Nat) (wb sg:Nat→Nat):gJ:=⟨⟨0,0,L⟩,hb,wb,sg,0⟩
structure Jo (w0:World) (C0:Nat→Nat) (shape tries th nd:Int) (ops:List (List Opn)) (cb lb hb eb:Nat) (k:Nat) (wr:World):Prop where
 bel:Below w0.heap.size w0 wr
 ex:∃ (C:Nat→Nat) (wb sg:Nat→Nat) (A:Option Addr) (cap:Nat),aF w0.heap.size C0 C∧SB wr C 3 cb 65 #[.int .i64 shape,.int .i64 th,.int .i64 nd,.int .i64 tries]∧SB wr C 3 lb 31 #[.int .i64 th,.int .i64 nd]∧
  SB wr C 3 eb 79 #[.int .i64 shape,.int .i64 th,.int .i64 nd,.int .i64 tries,.pointer none,.pointer (some ⟨hb,0,none⟩),.slice A k cap,.int .i64 0]∧Row wr C 3 80 1 (.slice A k cap) k (mG (vS ⟨th,nd⟩ hb wb sg) k)∧ib wr w0.heap.size hb HS.new∧ey wr C (vS ⟨th,nd⟩ hb wb sg) (dM shape ops) (fun v=>v<k)
 ge:w0.heap.size≤eb∧w0.heap.size≤cb∧w0.heap.size≤lb
structure Jp (L:Ly) (C:Nat→Nat) (s0:bu) (w:World) (e:Ending) (w':World):Prop where
 ex:∃ b E C',e= .returned (.tuple #[.pointer (some ⟨b,0,none⟩),.int .i64 0])∧E.M.L=L∧E.B=w.heap.size∧aF w.heap.size C C'∧dQ w' C' b E s0
 bel:Below w.heap.size w w'
theorem qs (L:Ly) (hb k bw Hx:Nat) (wb sg:Nat→Nat):mG (vS L hb (fun v=>if v=k then bw else wb v) (fun v=>if v=k then Hx else sg v)) (k+1)=mG (vS L hb wb sg) k++[.pointer (some ⟨bw,0,none⟩)]:=by
 unfold mG
 rw[List.range_succ,List.map_append]
 congr 1
 ·apply List.map_congr_left
  intro v hv
  have:=List.mem_range.1 hv
  simp only[if_neg (show ¬ v=k by omega)]
 ·simp
variable {w:World} {C:Nat→Nat} {L:Ly}
theorem vT {hb k bw Hx:Nat} {wb sg:Nat→Nat} {ws:Nat→dw} (h:ey w C (vS L hb wb sg) ws (fun v=>v<k)) (hk:jq w C (cM k) (cS k) (cK k) (cQ k) Hx bw L k (ws k)):ey w C (vS L hb (fun v=>if v=k then bw else wb v) (fun v=>if v=k then Hx else sg v)) ws (fun v=>v<k+1):=by
 refine⟨fun v hv hp=> ?_⟩
 by_cases e:v=k
 ·subst e;simp only[AQ,if_true];exact hk
 ·have:=h.at_ v hv (by omega)
  simp only[AQ,if_neg e];exact this
theorem yU (b:Nat):∀ u∈[Value.pointer (some ⟨b,0,none⟩)],u.oneCell'=true:=by intro u hu;simp at hu;subst hu;rfl
theorem qt (shape tries:Int) (L:Ly) (hc:vQ shape tries L) (A:Option Addr) (n cap B:Nat) (ops:List (List Opn)) (w:World) (hs:dU w B A n ops) (hB:B≤w.heap.size) (Ad:∀ l∈ops,l.length≤40) (hn:(n:Int)≤L.th) (hmay:∀ l∈ops,l.all (may shape)=true) (C:Nat→Nat) (hC0:∀ g,g<w.heap.size→C g=0):Calls Tryz.prog 24 #[.agg #[.int .i64 shape,.int .i64 L.th,.int .i64 L.nd,.int .i64 tries],.slice A n cap] w (Jp L C (.init shape tries ops) w):=by
 have JZ:=fun W=>tX shape tries L hc W
 have MO:=fun W (h:dU W B A n ops) (hB':B≤W.heap.size)=>vR shape tries L hc.lay A n cap B ops W h hB' Ad hn
 have hL:=hc.lay
 have MP:=fun C' W=>EV L hL C' W
 obtain⟨th,nd⟩:=L
 simp only at JZ MO hn⊢
 simp only[Ly.val] at MP
 have hth:=hL.th
 simp only at hth
 obtain⟨i0,hi,hz0,hz1,hz2⟩:=info_parts EW
 obtain⟨C1,uk⟩:∃ C1,C1=br C w.heap.size 3:=⟨_,rfl⟩
 have hnew:∀ g,w.heap.size≤g→C1 g=3:=fun g hg=>by rw[uk];exact aT C 3 hg
 have oC:aF w.heap.size C C1:=by rw[uk];exact aF.br _ _ _
 have sb:SB (w.alloc (.cells #[.int .i64 shape,.int .i64 th,.int .i64 nd,.int .i64 tries] 65)) C1 3 w.heap.size 65 #[.int .i64 shape,.int .i64 th,.int .i64 nd,.int .i64 tries]:=SB.new w C1 (hnew _ (Nat.le_refl _)) _ _ rfl
 have F8:Below w.heap.size w (w.alloc (.cells #[.int .i64 shape,.int .i64 th,.int .i64 nd,.int .i64 tries] 65)):=(Below.refl _ _).alloc (Nat.le_refl _) _
 have HW0:=Lib.hid hs
 clear uk hc hs
 go_enter Tryz.func24,Tryz.ntmps24
 have fr:=Fr.refl C1 (fun _=>False) [] (w.alloc (.cells #[.int .i64 shape,.int .i64 th,.int .i64 nd,.int .i64 tries] 65))
 have ag:=aF.refl (w.alloc (.cells #[.int .i64 shape,.int .i64 th,.int .i64 nd,.int .i64 tries] 65)).heap.size C1
 go_wp2_with fail
 refine(JZ _).mono ?_;rintro e w1 ⟨rfl,hb1⟩
 skip
 revert sb;revert fr;refine eH hb1 ?_;intro fr sb
 go_wp2_with fail
 have hbl:=F8.trans ((fr.below (fun _ _ h=>h) (Nat.le_refl _)).mono (by simp))
 refine(MO _ (HW0.out.below (hbl.mono hB)) (Nat.le_trans hB hbl.size)).mono ?_;rintro e w2 ⟨rfl,hb2⟩
 skip
 revert fr sb;refine eH hb2 ?_;intro fr sb
 go_wp2_with fail
 clear hbl
 have z1:=sb
 revert fr sb;refine bx1 31 #[.int .i64 th,.int .i64 nd] ?_;rintro w3 elb Ow fr lb sb
 go_wp2_with fail
 try simp only[elb]
 clear elb z1
 revert fr lb sb;refine bK ?_;intro fr lb sb
 obtain⟨q1,q2,qi⟩:=bD sb lb
 refine aC sb lb 3 [([0],1)] [2] [3,4] (by kernel_rfl) (by kernel_rfl) ?_
 refine ai ?_;simp only[ox];repeat(go_big_quiet_step (fail))
 refine dI rfl (fun K' hK'=> ?_);go_simp
 ((with_reducible refine(Cv _).mono ?_);rintro e w4 ⟨rfl,hh,hb4⟩)
 have MQ:=fr.size
 revert fr lb sb;refine eH hb4 ?_;intro fr lb sb
 refine hK' _ _ (fa sb lb) ?_;clear hK' K'
 refine af ?_;try simp only[ox]
 repeat(go_big_quiet_step (fail))
 refine wpQuiet_nil ?_
 refine ae _ _ _ (by kernel_rfl) ?_;try simp only[ox]
 clear qi q1 q2
 have DU:=F8.trans ((fr.below (fun _ _ h=>h) (Nat.le_refl _)).mono (by simp))
 have szA:=DU.size
 have eK:SB w4 C1 3 w.heap.size 65 #[.int .i64 shape,.int .i64 th,.int .i64 nd,.int .i64 tries]:=sb
 have eb:=SB.new w4 C1 (hnew w4.heap.size szA) 79 #[.int .i64 shape,.int .i64 th,.int .i64 nd,.int .i64 tries,.pointer none,.pointer (some ⟨w3.heap.size,0,none⟩),.slice none 0 0,.int .i64 0] rfl
 have hl2:w.heap.size≤w2.heap.size:=Nat.le_trans (Nat.le_trans (by simp) hb1.size) hb2.size
 have ie:SB w4 C1 3 w2.heap.size 31 #[.int .i64 th,.int .i64 nd]:=SB.mk lb.blk (hnew _ hl2)
 have hh0:ib w4 w.heap.size w3.heap.size HS.new:=⟨hh.mono (Nat.le_trans F8.size MQ)⟩
 have hal:Below w4.heap.size w4 (w4.alloc (.cells #[.int .i64 shape,.int .i64 th,.int .i64 nd,.int .i64 tries,.pointer none,.pointer (some ⟨w3.heap.size,0,none⟩),.slice none 0 0,.int .i64 0] 79)):=(Below.refl _ _).alloc (Nat.le_refl _) _
 replace eK:=eK.step hal
 replace ie:=ie.step hal
 replace hh0:=hh0.step hal
 replace DU:=DU.trans (hal.mono szA)
 have hcc:=eK.blk.cells
 have hcl:=ie.blk.cells
 clear hal fr hh hb1 hb2 hb4 MQ lb sb
 go_wp2_with fail
 refine NoPanic.normal ?_
 go_wp2_with fail
 clear hcc hcl
 generalize(w4.alloc (.cells #[.int .i64 shape,.int .i64 th,.int .i64 nd,.int .i64 tries,.pointer none,.pointer (some ⟨w3.heap.size,0,none⟩),.slice none 0 0,.int .i64 0] 79))=w5 at *
 have hge:w.heap.size≤w4.heap.size∧w.heap.size≤w.heap.size∧w.heap.size≤w2.heap.size:=⟨szA,Nat.le_refl _,hl2⟩
 obtain⟨hb,hhb⟩:∃ hb,w3.heap.size=hb:=⟨_,rfl⟩
 simp only[hhb] at eb hh0
 obtain⟨Hy,Jq⟩:∃ Hy,w4.heap.size=Hy:=⟨_,rfl⟩
 simp only[Jq] at eb hge⊢
 obtain⟨Jr,Js⟩:∃ Jr,w2.heap.size=Jr:=⟨_,rfl⟩
 simp only[Js] at ie hge⊢
 obtain⟨GR,CJ⟩:∃ GR,GR=w.heap.size:=⟨_,rfl⟩
 have LI:w.heap.size≤Hy∧w.heap.size≤GR∧w.heap.size≤Jr:=by rw[CJ];exact hge
 have Jt:SB w5 C1 3 GR 65 #[.int .i64 shape,.int .i64 th,.int .i64 nd,.int .i64 tries]:=by rw[CJ];exact eK
 have Ox:=Lib.hid CJ
 have hI0:Jo w C shape tries th nd ops GR Jr hb Hy 0 w5:=⟨DU,⟨C1,fun _=>0,fun _=>0,none,0,oC,Jt,ie,eb,Row.nil_ _ _ _ _ _,hh0,⟨fun v _ hp=>absurd hp (by omega)⟩⟩,LI⟩
 rw[←CJ]
 clear hhb Jq Js eK Jt ie eb hh0 DU hge hl2 szA oC ag CJ
 go_loopw [34] (fun i wr=>∃ k:Nat,(k:Int)≤th∧i= .int .i64 k∧Jo w C shape tries th nd ops GR Jr hb Hy k wr) (fun i _=>th.toNat - (intOf i).toNat)
 case atStart=>exact⟨0,by omega,rfl,hI0⟩
 case round=>
  clear hI0
  obtain⟨k,hk,rfl,hI⟩:=hrel
  obtain⟨hbel,⟨C2,wb,sg,A2,cap2,B1,eK,ie,sb,hrow,hh,hws⟩,Ju⟩:=hI
  have hk9:k≤1000:=by omega
  by_cases hlt:(k:Int)<th
  ·have dk:decide ((k:Int)<th)=true:=decide_eq_true hlt
   have GU:=fun C' W A3 n3 c3 (h:Sr W C' (cK k) 85 3 A3 n3 ((dM shape ops k).tasks.flatMap bl.cells)) (h1:(dM shape ops k).tasks.length=n3) (h2:n3≤1000)=>nu ⟨th,nd⟩ (k:Int) (by omega) C' (cM k) (cS k) (cK k) (cQ k) A3 n3 c3 (dM shape ops k).tasks W h h1 h2
   simp only[Ly.val] at GU
   have hcc:=eK.blk.cells
   have hcl:=ie.blk.cells
   have hce:=sb.blk.cells
   have hlc:=eK.lt
   have hll:=ie.lt
   by_cases hkn:k<n
   ·have NS:decide ((k:Int)<(n:Int))=true:=decide_eq_true (by omega)
    obtain⟨l,hl⟩:∃ l,ops[k]? =some l:=⟨_,List.getElem?_eq_getElem (by rw[HW0.out.len];exact hkn)⟩
    have hsw:=HW0.out.below (hbel.mono hB)
    obtain⟨A',n',c',f0,hsl,rfl⟩:=hsw.at_ hl
    have hidx:=hsw.idx (cap:=cap) hkn
    have Fv:=hsw.lt hkn
    have hlm:=List.mem_of_getElem? hl
    have NT:=Ad l hlm
    have MR:∀ W,Sl W B 2 A' l.length (l.flatMap Opn.cells)→B≤W.heap.size→Calls Tryz.prog 46 #[.int .i64 shape,.slice A' l.length c'] W fun e w'=>(∃ v,e= .returned (.tuple #[v,.int .i64 0])∧w'.ownsRow W.heap.size 85 3 v l.length (l.flatMap (fm shape)))∧Below W.heap.size W w':=
     fun W h1 h2=>(EN shape A' l.length c' B l W h1 h2 rfl (by omega)).mono fun e w' h=>⟨by have:=h.1;rw[if_pos (hmay l hlm)] at this;exact this,h.2⟩
    have hBw:B≤wr.heap.size:=Nat.le_trans hB hbel.size
    have hBd:B≤wr.drew.heap.size:=hBw
    have q0:=Later.cell (B:=wr.heap.size) (w:=wr) (show wr.cell? ⟨GR,0,none⟩=some (.int .i64 shape) from eK.blk.cell 0) hlc
    have q1:=Later.cell (B:=wr.heap.size) (w:=wr) f0 (Nat.lt_of_lt_of_le Fv hBw)
    have htk:(dM shape ops k).tasks=gZ shape l:=by unfold dM;simp only[List.getD_eq_getElem?_getD,hl,Option.getD_some]
    go_wp2_with fail
    refine aD (fun w'=>∃ q:Later wr.heap.size wr,w'=q.val) 11 [([0,1,2,3,4,5],6)] [7,8,9,10] [11] (by kernel_rfl) (by kernel_rfl) (Later.bW (Below.refl _ _).drew) ?_
    refine ai ?_
    simp only[ay,List.map_cons,List.map_nil,List.getD_cons_zero,List.getD_cons_succ]
    repeat(go_big_quiet_step (fail))
    refine wpQuiet_nil ?_
    refine bG rfl (fun K' hK'=> ?_)
    go_simp
    ((with_reducible refine(MR _ (hsl.below (Below.refl _ _).drew) hBd).mono ?_);rintro e w2 ⟨⟨v,rfl,hown⟩,hb2⟩)
    refine hK' _ _ (Later.bW ((Below.refl _ _).drew.trans hb2)) ?_
    clear hK' K'
    refine af ?_
    try simp only[ay,List.map_cons,List.map_nil,List.getD_cons_zero,List.getD_cons_succ]
    repeat(go_big_quiet_step (fail))
    refine wpQuiet_nil ?_
    refine ae _ _ _ (by kernel_rfl) ?_
    try simp only[ay,List.map_cons,List.map_nil,List.getD_cons_zero,List.getD_cons_succ]
    have hb3:Below wr.heap.size wr w2:=(Below.refl _ _).drew.trans hb2
    have hsz2:=hb3.size
    obtain⟨C3,LJ⟩:∃ C3,C3=br C2 wr.heap.size (cK k):=⟨_,rfl⟩
    have Dw:aF wr.heap.size C2 C3:=by rw[LJ];exact aF.br _ _ _
    have lx:∀ g,v.ownBlock=some g→C3 g=cK k:=fun g hg=>by rw[LJ];exact aT _ _ (bM hown g hg).1
    have hrw:Row w2 C3 (cK k) 85 3 v l.length (l.flatMap (fm shape)):=⟨eL hown (Nat.zero_le _),lx⟩
    obtain⟨A3,c3,rfl,-,-,-⟩:=hrw.form
    have hsr:=Sr.s6 hrw
    rw[←rI,←htk] at hsr
    have CK:(dM shape ops k).tasks.length=l.length:=by rw[htk];simp[gZ]
    replace GU:=fun C' W h=>GU C' W A3 l.length c3 h CK (by omega)
    replace eK:=(eK.oK Dw).step hb3
    replace ie:=(ie.oK Dw).step hb3
    replace sb:=(sb.oK Dw).step hb3
    replace hrow:=(hrow.oK Dw).step hb3
    replace hh:=hh.step hb3
    replace hws:=(hws.oK Dw).step hb3
    have CL:=hbel.trans (hb3.mono hbel.size)
    clear hb2 hb3 hown lx hrw LJ q0 q1 MR hcc hcl hce f0 hsl hidx hsw CK htk hlc hll Fv
    go_wp2_with fail
    refine NoPanic.normal ?_
    have hbw:Below w.heap.size w w2:=CL
    replace hh:=mF.bW C3 hh
    have fr:=Fr.refl C3 (K0 3) [some 79,some 80] w2
    have ag:=aF.refl w2.heap.size C3
    go_wp2_with fail
    revert ie;revert hsr;revert eK;revert hws;revert hh;revert hrow;revert sb;revert fr;refine bK ?_;intro fr sb hrow hh hws eK hsr ie
    obtain⟨q1,q2,qi⟩:=bD sb ie
    refine aC sb ie 10 [] [0,1,2,3,4,5,6,7] [8,9,10,11,12,13] (by kernel_rfl) (by kernel_rfl) ?_
    refine af ?_;try simp only[ox]
    repeat(go_big_quiet_step (fail))
    refine wpQuiet_nil ?_
    refine aA rfl (fun K' hK'=> ?_);go_simp
    ((with_reducible refine(GU _ _ hsr).mono ?_);rintro e w1 ⟨⟨GV,Hx,C1,rfl,aG,hwk⟩,hb1⟩)
    revert ag fr sb hrow hh hws eK hsr ie;refine kV (Fr.of_below hb1 C3 (fun _=>False) []) aG (fun _ h=>h.elim) (by decide) ?_;clear aG hb1;intro ag fr sb hrow hh hws eK hsr ie
    refine hK' _ _ (fa sb ie) ?_;clear hK' K'
    refine aA rfl (fun K' hK'=> ?_);go_simp
    revert hwk sb hrow hh hws eK hsr ie;revert fr;refine bx1 80 #[.pointer (some ⟨GV,0,none⟩)] ?_;rintro w2 e1 Kb fr ns hwk sb hrow hh hws eK hsr ie;rw[e1]
    refine hK' _ _ (fa sb ie) ?_;clear hK' K' e1
    refine ae _ _ _ (by kernel_rfl) ?_;try simp only[ox]
    clear qi q1 q2
    go_wp2_with (at_builtin;refine wpList_append_lies _ rfl _ _ _ rfl 0 80 i0 _ 1 8 Tryz.underlying77 hi hz0 hz1 hz2 rfl (by omega) (.slice A2 k cap2) k (mG (vS ⟨th,nd⟩ hb wb sg) k) rfl hrow.own ⟨w1.heap.size,0,none⟩ 1 1 [.pointer (some ⟨GV,0,none⟩)] rfl rfl (World.news_of_block ns.blk) (yU GV) (by omega) (by unfold maxLen;omega) (by omega) (Nat.zero_le _) (w2.heap.size) rfl ?_;intro g9 CM wA hownA fl mi D7;have hfA:Fr C1 (K0 3) [some 80] w2 wA:=(Fr.refl C1 (K0 3) [some 80] w2).app hrow fl (fk 3) (by decide);have sA:=sb.fr hfA (.inr (by decide)))
    have tt:=hrow.app hownA (mi.elim (fun e=> .inl e.symm) (fun e=> .inr (by rw[e];rfl)))
    obtain⟨CA,tu⟩:∃ C',C'=br C1 w2.heap.size 3:=⟨_,rfl⟩
    rw[←tu] at tt
    have aG:aF w2.heap.size C1 CA:=by rw[tu];exact aF.br _ _ _
    clear hrow ns sA tu;revert ie;revert hwk;revert hsr;revert eK;revert hws;revert hh;revert sb;revert fr;revert ag;refine kV hfA aG (fun _ h=>h) (by decide) ?_;intro ag fr sb hh hws eK hsr hwk ie
    have hrow:=tt
    clear tt aG hfA fl mi hownA
    have mj:=own_ne hrow.own sb.blk (by decide)
    revert fr hh hws eK hsr hwk ie hrow;refine st1 sb 6 (.slice (some ⟨g9,0,none⟩) (k+1) CM) (fun _ h=>h) ag ?_;clear sb;rintro w3 e1 fr sb hh hws eK hsr hwk ie hrow
    simp only[sx] at sb
    rw[e1]
    clear e1
    clear mj
    refine NoPanic.normal ?_
    go_wp2_with fail
    refine⟨?_,?measure⟩
    (repeat apply Exists.intro)
    refine⟨?rel,rfl⟩
    case rel=>
     refine⟨k+1,by omega,by go_num,⟨hbw.trans (fr.below (fun g hg=> ?_) hbw.size),⟨CA,_,_,_,_,(B1.trans Dw hbel.size).trans ag hbw.size,eK,ie,sb,?_,hh,vT hws hwk⟩,Ju⟩⟩
     ·rw[Dw g (Nat.lt_of_lt_of_le hg hbel.size),B1 g hg,hC0 g hg];unfold K0;omega
     ·rw[qs];exact hrow
    case measure=>simp[intOf]<;>omega
   ·have NS:decide ((k:Int)<(n:Int))=false:=decide_eq_false (by omega)
    have htk:(dM shape ops k).tasks=[]:=by
     unfold dM
     simp only[List.getD_eq_getElem?_getD,List.getElem?_eq_none (show ops.length≤k by rw[HW0.out.len];omega),Option.getD_none]
     rfl
    have hsr:Sr wr C2 (cK k) 85 3 none 0 ((dM shape ops k).tasks.flatMap bl.cells):=by rw[htk];exact Sr.nil_ _ _ _ _ _ _
    have CK:(dM shape ops k).tasks.length=0:=by rw[htk];rfl
    replace GU:=fun C' W h=>GU C' W none 0 0 h CK (by omega)
    have Dw:aF wr.heap.size C2 C2:=aF.refl _ _
    have CL:=hbel
    clear hcc hcl hce hlc hll CK htk
    have hbw:Below w.heap.size w wr:=CL
    replace hh:=mF.bW C2 hh
    have fr:=Fr.refl C2 (K0 3) [some 79,some 80] wr
    have ag:=aF.refl wr.heap.size C2
    go_wp2_with fail
    revert ie;revert hsr;revert eK;revert hws;revert hh;revert hrow;revert sb;revert fr;refine bK ?_;intro fr sb hrow hh hws eK hsr ie
    obtain⟨q1,q2,qi⟩:=bD sb ie
    refine aC sb ie 10 [] [0,1,2,3,4,5,6,7] [8,9,10,11,12,13] (by kernel_rfl) (by kernel_rfl) ?_
    refine af ?_;try simp only[ox]
    repeat(go_big_quiet_step (fail))
    refine wpQuiet_nil ?_
    refine aA rfl (fun K' hK'=> ?_);go_simp
    ((with_reducible refine(GU _ _ hsr).mono ?_);rintro e w1 ⟨⟨GV,Hx,C1,rfl,aG,hwk⟩,hb1⟩)
    revert ag fr sb hrow hh hws eK hsr ie;refine kV (Fr.of_below hb1 C2 (fun _=>False) []) aG (fun _ h=>h.elim) (by decide) ?_;clear aG hb1;intro ag fr sb hrow hh hws eK hsr ie
    refine hK' _ _ (fa sb ie) ?_;clear hK' K'
    refine aA rfl (fun K' hK'=> ?_);go_simp
    revert hwk sb hrow hh hws eK hsr ie;revert fr;refine bx1 80 #[.pointer (some ⟨GV,0,none⟩)] ?_;rintro w2 e1 Kb fr ns hwk sb hrow hh hws eK hsr ie;rw[e1]
    refine hK' _ _ (fa sb ie) ?_;clear hK' K' e1
    refine ae _ _ _ (by kernel_rfl) ?_;try simp only[ox]
    clear qi q1 q2
    go_wp2_with (at_builtin;refine wpList_append_lies _ rfl _ _ _ rfl 0 80 i0 _ 1 8 Tryz.underlying77 hi hz0 hz1 hz2 rfl (by omega) (.slice A2 k cap2) k (mG (vS ⟨th,nd⟩ hb wb sg) k) rfl hrow.own ⟨w1.heap.size,0,none⟩ 1 1 [.pointer (some ⟨GV,0,none⟩)] rfl rfl (World.news_of_block ns.blk) (yU GV) (by omega) (by unfold maxLen;omega) (by omega) (Nat.zero_le _) (w2.heap.size) rfl ?_;intro g9 CM wA hownA fl mi D7;have hfA:Fr C1 (K0 3) [some 80] w2 wA:=(Fr.refl C1 (K0 3) [some 80] w2).app hrow fl (fk 3) (by decide);have sA:=sb.fr hfA (.inr (by decide)))
    have tt:=hrow.app hownA (mi.elim (fun e=> .inl e.symm) (fun e=> .inr (by rw[e];rfl)))
    obtain⟨CA,tu⟩:∃ C',C'=br C1 w2.heap.size 3:=⟨_,rfl⟩
    rw[←tu] at tt
    have aG:aF w2.heap.size C1 CA:=by rw[tu];exact aF.br _ _ _
    clear hrow ns sA tu;revert ie;revert hwk;revert hsr;revert eK;revert hws;revert hh;revert sb;revert fr;revert ag;refine kV hfA aG (fun _ h=>h) (by decide) ?_;intro ag fr sb hh hws eK hsr hwk ie
    have hrow:=tt
    clear tt aG hfA fl mi hownA
    have mj:=own_ne hrow.own sb.blk (by decide)
    revert fr hh hws eK hsr hwk ie hrow;refine st1 sb 6 (.slice (some ⟨g9,0,none⟩) (k+1) CM) (fun _ h=>h) ag ?_;clear sb;rintro w3 e1 fr sb hh hws eK hsr hwk ie hrow
    simp only[sx] at sb
    rw[e1]
    clear e1
    clear mj
    refine NoPanic.normal ?_
    go_wp2_with fail
    refine⟨?_,?measure⟩
    (repeat apply Exists.intro)
    refine⟨?rel,rfl⟩
    case rel=>
     refine⟨k+1,by omega,by go_num,⟨hbw.trans (fr.below (fun g hg=> ?_) hbw.size),⟨CA,_,_,_,_,(B1.trans Dw hbel.size).trans ag hbw.size,eK,ie,sb,?_,hh,vT hws hwk⟩,Ju⟩⟩
     ·rw[Dw g (Nat.lt_of_lt_of_le hg hbel.size),B1 g hg,hC0 g hg];unfold K0;omega
     ·rw[qs];exact hrow
    case measure=>simp[intOf]<;>omega
  ·have dk:decide ((k:Int)<th)=false:=decide_eq_false hlt
   have hkt:(⟨th,nd⟩:Ly).th.toNat=k:=by simp only;omega
   have hcl:=ie.blk.cells
   go_wp2_with fail
   refine(MP C2 _).mono ?_
   rintro e w6 ⟨⟨M,rfl,Hz,hmem⟩,hb6⟩
   have Jv:aF wr.heap.size C2 (br C2 wr.heap.size 1):=aF.br _ _ _
   replace sb:=(sb.oK Jv).step hb6
   replace hrow:=(hrow.oK Jv).step hb6
   replace hh:=hh.step hb6
   replace hws:=(hws.oK Jv).step hb6
   have hbw:=hbel.trans (hb6.mono hbel.size)
   obtain⟨C7,NU⟩:∃ C7,C7=br C2 wr.heap.size 1:=⟨_,rfl⟩
   rw[←NU] at sb hrow hws hmem Jv
   have MS:=B1.trans Jv hbel.size
   have hf':=sb.sV 4 (.pointer (some ⟨M.b,0,none⟩))
   have IE:=sb.ar 4 (.pointer (some ⟨M.b,0,none⟩))
   have hce:=sb.blk.cells
   have hfe:=sb.blk.frees
   clear hcl
   go_wp2_with fail
   go_ret2
   refine⟨⟨Hy,⟨M,hb,wb,sg,w.heap.size⟩,C7,rfl,Hz,rfl,MS,⟨⟨A2,cap2,?_,?_⟩,hmem.fr hf' (.inr ⟨by decide,by decide⟩),hh.fr hf' (.inr (by decide)),⟨fun v hv _=> ?_⟩⟩⟩,hbw.trans (hf'.below (fun g hg=> ?_) hbw.size)⟩
   ·simp only[gJ.n,Hz,hkt];exact IE
   ·simp only[gJ.n,Hz,hkt];exact Sr.s6 (hrow.fr hf' (.inr (by decide)))
   ·have h1:=(hws.fr hf' (.inr (by decide))).at_ v (by simp only[gJ.n,Hz] at hv;exact hv) (by simp only[gJ.n,Hz,hkt] at hv;exact hv)
    simp only[AQ] at h1⊢
    rw[Hz]
    exact h1
   ·rw[MS g hg,hC0 g hg];unfold K0;omega
def oy:Nat→(Nat→Nat)→Nat
 | 0,_=>0
 | n+1,f=>oy n f+f n
theorem sy {f g:Nat→Nat}:∀ n,(∀ v,v<n→f v=g v)→oy n f=oy n g
 | 0,_=>rfl
 | n+1,h=>by simp only[oy,sy n (fun v hv=>h v (by omega)),h n (by omega)]
theorem vU {f g:Nat→Nat} {u:Nat}:∀ n,u<n→(∀ v,v≠u→f v=g v)→oy n f+g u=oy n g+f u
 | 0,h,_=>by omega
 | n+1,h,hs=>by
  by_cases e:u=n
  ·subst e
   have:=sy (f:=f) (g:=g) u (fun v hv=>hs v (by omega))
   simp only[oy];omega
  ·have h1:=vU n (by omega) hs
   have h2:=hs n (fun e2=>e e2.symm)
   simp only[oy];omega
theorem yV {f:Nat→Nat} {B:Nat}:∀ n,(∀ v,v<n→f v≤B)→oy n f≤n*B
 | 0,_=>by simp[oy]
 | n+1,h=>by
  have h1:=yV n (fun v hv=>h v (by omega))
  have h2:=h n (by omega)
  have h3:(n+1)*B=n*B+B:=by rw[Nat.add_mul,Nat.one_mul]
  simp only[oy];omega
def dw.evs (x:dw):Nat:=2*x.ended+(if x.now.isSome then 1 else 0)
structure GX (M:ML) (m:Mm) (u:Int) (N:Int) (x:dw):Prop where
 st:bL M.L x.st N
 may:∀ t∈x.tasks,t.may=true
 few:x.tasks.length≤40
 le:x.ended≤x.tasks.length
 idle:x.now=none→Idle M m u
 now:∀ d,x.now=some d→fq M.L u x.st d N∧Own M u m d∧x.tasks[x.ended]? =some d.task
structure fI (M:ML) (e:bu):Prop where
 lay:M.L.Ok
 mem:dY M e.m
 tries:0≤e.tries∧e.tries≤50
 ws:∀ u,u<M.L.th.toNat→GX M e.m u e.steps (e.ws u)
 steps:e.steps≤60000
 evs:e.hist.evs.length≤oy M.L.th.toNat (fun u=>(e.ws u).evs)
 b8:∀ u,u<M.L.th.toNat→(0<e.hist.now u↔(e.ws u).now≠none)
variable {M:ML} {m:Mm}
theorem GX.evs_le {u N:Int} {x:dw} (h:GX M m u N x):x.evs≤80:=by
 have h1:=h.few
 have h2:=h.le
 unfold dw.evs
 cases hn:x.now with
 | none=>simp only[Option.isSome_none];simp;omega
 | some d=>
  have:=(List.getElem?_eq_some_iff.1 (h.now d hn).2.2).1
  simp;omega
theorem fI.len {e:bu} (h:fI M e):e.hist.evs.length≤640:=by
 have h1:=yV M.L.th.toNat (fun v hv=>(h.ws v hv).evs_le)
 have h2:=h.lay.th
 have h3:=h.evs
 have h4:M.L.th.toNat*80≤8*80:=Nat.mul_le_mul_right _ (by omega)
 omega
variable {me:Int} {t:cg}
theorem dX.mono {h:aM} {N N':Int} (hh:dX L me t h N) (hN:N≤N'):dX L me t h N':=
 ⟨hh.u,by have:=hh.rounds;omega,hh.found,hh.at_,hh.may,hh.pend,hh.st1,hh.exec,fun e=>(hh.bm e).mono hN,fun e=>⟨⟨(hh.find e).1.1.mono hN,(hh.find e).1.2⟩,by have:=(hh.find e).2;omega⟩,hh.plan,hh.now,hh.cl,hh.az⟩
theorem mr.mono {f:bq} {N N':Int} (h:mr L me t f N) (hN:N≤N'):mr L me t f N':=
 ⟨h.may,h.most,h.at_,by have:=h.tries;omega,fun e=>⟨by have:=(h.sum e).1;omega,(h.sum e).2.1,by have:=(h.sum e).2.2;omega⟩,fun e=>⟨(h.find e).1.mono hN,(h.find e).2⟩,h.plan,h.cl,h.az,h.code⟩
theorem fq.mono {d:aI} {N N':Int} (h:fq L me t d N) (hN:N≤N'):fq L me t d N':=
 ⟨h.may,h.lim,h.at_,h.head,fun e=>(h.help e).mono hN,fun e=>(h.bm e).mono hN,fun e=>(h.fast e).mono hN,h.ann,fun e=>⟨⟨(h.find e).1.1.mono hN,(h.find e).1.2⟩,by have:=(h.find e).2;omega⟩,h.drop,fun e=>(h.sweep e).mono hN⟩
variable {m':Mm}
theorem GX.rel {u v N N':Int} {x:dw} (h:GX M m v N x) (hr:Rel M u m m') (hm:dY M m) (hv:0≤v∧v<M.L.th) (hne:v≠u) (hN:N≤N'):GX M m' v N' x:=by
 refine⟨h.st.mono hN,h.may,h.few,h.le,fun e=> ?_,fun d hd=> ?_⟩
 ·have hi:=h.idle e
  rcases hr.desc v hv.1 hv.2 with e2 | e2 | e2
  ·unfold Idle stt at hi⊢;rw[e2];exact hi
  ·have:=fH e2
   unfold Idle stt at hi
   omega
  ·exact absurd e2.1 hne
 ·obtain⟨h1,h2,h3⟩:=h.now d hd
  exact⟨h1.mono hN,h2.rel hr hv hne hm,h3⟩
theorem Ae {k:bl} {lim N:Int} (hL:M.L.Ok) (hk:k.may=true) (hl:0≤lim∧lim≤1000) (hi:Idle M m me):fq M.L me t (.new M.L k lim) N∧Own M me m (.new M.L k lim):=by
 have hth:=hL.th
 refine⟨⟨hk,hl,by simp[aI.new],fun _=>⟨by simp only[aI.new,oT.new];omega,by simp only[aI.new,oT.new];omega⟩,?_,?_,?_,?_,?_,?_,?_⟩,du hi (by simp[aI.new])⟩<;>(intro e;simp[aI.new] at e)
theorem EX (M:ML) (me:Int) (m:Mm) (t:cg) (d:aI):(al M me m t d).2.2.2.task=d.task:=by
 have hl:∀ (x:aI),(x.leave me).task=x.task:=fun _=>rfl
 have ht:∀ (x:aI),(x.aR M.L me).task=x.task:=fun _=>rfl
 have hw:∀ (x:aI) (t:cg),(x.want M.L me t).task=x.task:=fun x t=>by unfold aI.want;split<;>rfl
 have hto:∀ (x:aI) (r:lQ),(x.told M.L me r).task=x.task:=fun x r=>by unfold aI.told;simp only;split<;>rfl
 by_cases h0:d.at_=0
 ·rw[my h0];simp only;split
  ·unfold aI.looked;split
   ·exact hw _ _
   ·rfl
  ·rfl
 by_cases h1:d.at_=1
 ·rw[iK h1];simp only;split
  ·exact hw _ _
  ·rfl
 by_cases h2:d.at_=2
 ·rw[mA h2];simp only;split
  ·unfold aI.ensured;split
   ·rfl
   ·exact ht _
  ·rfl
 by_cases h3:d.at_=3
 ·rw[kf h3];simp only;split
  ·unfold aI.tried;split
   ·exact hto _ _
   ·rfl
  ·rfl
 by_cases h4:d.at_=4
 ·rw[kg h4];simp only;split<;>rfl
 by_cases h5:d.at_=5
 ·rw[gI h5];simp only;split<;>rfl
 by_cases h6:d.at_=6
 ·rw[kh h6];exact hto _ _
 by_cases h7:d.at_=7
 ·rw[iL h7];split
  ·rfl
  ·rfl
 by_cases h8:d.at_=8
 ·rw[ki h8];split<;>rfl
 ·unfold al
  simp only
  rw[if_neg h0,if_neg h1,if_neg h2,if_neg h3,if_neg h4,if_neg h5,if_neg h6,if_neg h7,if_neg h8]
structure Now (M:ML) (e:bu) (u:Nat):Prop where
 ok:fq M.L u (e.ws u).st (e.bJ M.L u) e.steps
 own:Own M u e.m (e.bJ M.L u)
 task:(e.ws u).tasks[(e.ws u).ended]? =some (e.bJ M.L u).task
theorem fI.now {e:bu} (h:fI M e) {u:Nat} (hu:u<M.L.th.toNat) (hl:(e.ws u).left≠0):Now M e u:=by
 have hw:=h.ws u hu
 cases hn:(e.ws u).now with
 | some d=>
  have hd:e.bJ M.L u=d:=by unfold bu.bJ;rw[hn];rfl
  exact⟨by rw[hd];exact(hw.now d hn).1,by rw[hd];exact(hw.now d hn).2.1,by rw[hd];exact(hw.now d hn).2.2⟩
 | none=>
  have hd:e.bJ M.L u= .new M.L ((e.ws u).tasks.getD (e.ws u).ended .zero) e.tries:=by unfold bu.bJ;rw[hn];rfl
  have hlt:(e.ws u).ended<(e.ws u).tasks.length:=by
   have:=hw.le
   unfold dw.left at hl
   omega
  have hg:(e.ws u).tasks.getD (e.ws u).ended .zero=(e.ws u).tasks[(e.ws u).ended]:=by simp[List.getD_eq_getElem?_getD,List.getElem?_eq_getElem hlt]
  have hk:((e.ws u).tasks[(e.ws u).ended]).may=true:=hw.may _ (List.getElem_mem hlt)
  have:=Ae (t:=(e.ws u).st) (N:=e.steps) (k:=(e.ws u).tasks.getD (e.ws u).ended .zero) (lim:=e.tries) h.lay (by rw[hg];exact hk) (by have:=h.tries;omega) (hw.idle hn)
  refine⟨by rw[hd];exact this.1,by rw[hd];exact this.2,?_⟩
  rw[hd]
  simp only[aI.new]
  rw[List.getElem?_eq_getElem hlt,hg]
theorem qu {e:bu} {u:Int} (h:e.can M u=true):0≤u∧u<M.L.th∧(e.ws u.toNat).left≠0∧e.steps<60000:=by
 unfold bu.can at h
 simp only[Bool.and_eq_true,decide_eq_true_eq] at h
 exact⟨h.1.1.1,h.1.1.2,h.1.2,h.2⟩
theorem fI.fine {e:bu} (h:fI M e) {u:Int} (hc:e.can M u=true):(e.bJ M.L u.toNat).Fine M e.m (e.ws u.toNat).st:=by
 obtain⟨h0,h1,h2,h3⟩:=qu hc
 have hu:u.toNat<M.L.th.toNat:=by omega
 have hn:=h.now hu h2
 exact hn.ok.fine h.lay h.mem (by omega) (h.ws _ hu).st (by omega) (by have:=h.steps;omega)
theorem CN {e:bu} (h:fI M e) {u:Nat} (hu:u<M.L.th.toNat):(e.ez M.L u).evs.length=e.hist.evs.length+(if (e.ws u).now.isNone then 1 else 0)∧0<(e.ez M.L u).now u∧∀ v,v<M.L.th.toNat→v≠u→(e.ez M.L u).now v=e.hist.now v:=by
 have hth:=h.lay.th
 unfold bu.ez
 cases hn:(e.ws u).now with
 | some d=>
  have:=(h.b8 u hu).2 (by rw[hn];simp)
  exact⟨by simp,by simpa using this,fun v _ _=>by simp⟩
 | none=>
  have h0:¬ 0<e.hist.now u:=fun e2=>(h.b8 u hu).1 e2 hn
  have he:e.hist.qT (u:Int)=0:=by
   unfold HS.qT
   rw[if_neg (by omega),Int.toNat_natCast,if_neg h0]
  simp only[Option.isNone_none,if_true]
  unfold HS.begin_
  rw[if_pos he,Int.toNat_natCast]
  refine⟨by simp[HS.AX],by simp only[HS.AX,if_true];omega,fun v _ hv=>by simp[HS.AX,hv]⟩
theorem fI.next {e:bu} (h:fI M e) {u:Nat} (hu:u<M.L.th.toNat) (hl:(e.ws u).left≠0) (hs:e.steps<60000):fI M (e.next M u)∧Rel M u e.m (e.next M u).m:=by
 have hn:=h.now hu hl
 have hw:=h.ws u hu
 have hth:=h.lay.th
 have hgo:ou M u e.m e.steps (e.did M u):=EF h.lay h.mem (by omega) (by omega) hw.st hn.ok hn.own
 have htk:(e.did M u).2.2.2.task=(e.bJ M.L u).task:=EX M u e.m (e.ws u).st (e.bJ M.L u)
 have hhm:=CN h hu
 have hlt:=(List.getElem?_eq_some_iff.1 hn.task).1
 have hws:∀ v,v≠u→(e.next M u).ws v=e.ws v:=fun v hv=>by simp only[bu.next,js,if_neg hv]
 have cG:(e.next M u).ws u=dw.stop ((e.ws u).with_ (e.bJ M.L u)) (e.did M u):=by simp only[bu.next,js,if_true]
 have hmm:(e.next M u).m=(e.did M u).2.1:=rfl
 have hst:(e.next M u).steps=e.steps+1:=rfl
 have LK:((e.next M u).ws u).evs=(e.ws u).evs+(if (e.ws u).now.isNone then 1 else 0)+(if (e.did M u).1 then 1 else 0):=by
  rw[cG]
  unfold dw.stop dw.evs
  cases hr:(e.did M u).1 with
  | true=>cases hnn:(e.ws u).now<;>simp<;>omega
  | false=>cases hnn:(e.ws u).now<;>simp<;>omega
 have hsum:=vU (f:=fun v=>((e.next M u).ws v).evs) (g:=fun v=>(e.ws v).evs) (u:=u) M.L.th.toNat hu (fun v hv=>by simp only[hws v hv])
 have hH:(e.next M u).hist=if (e.did M u).1 then (e.ez M.L u).end_ (u:Int) (e.did M u).2.2.2.res.code (e.did M u).2.2.2.res.ok (e.did M u).2.2.2.res.val else e.ez M.L u:=rfl
 have herr:(e.ez M.L u).qU (u:Int)=0:=by
  unfold HS.qU
  rw[if_neg (by omega),Int.toNat_natCast,if_pos hhm.2.1]
 refine⟨⟨h.lay,hgo.rel.ok h.mem,h.tries,fun v hv=> ?_,by rw[hst];omega,?_,fun v hv=> ?_⟩,hgo.rel⟩
 ·by_cases hvu:v=u
  ·subst hvu
   rw[cG,hmm,hst]
   have hc:((e.steps+1:Nat):Int)=(e.steps:Int)+1:=by omega
   rw[hc]
   unfold dw.stop
   cases hr:(e.did M v).1 with
   | true=>
    simp only[if_true]
    exact⟨hgo.st,hw.may,hw.few,by simp only;omega,fun _=>hgo.fin hr,fun d hd=>by simp at hd⟩
   | false=>
    simp only[Bool.false_eq_true,if_false]
    exact⟨hgo.st,hw.may,hw.few,hw.le,fun hd=>by simp at hd,fun d hd=>by
     injection hd with hd
     subst hd
     exact⟨(hgo.ok hr).1,(hgo.ok hr).2,by rw[htk];exact hn.task⟩⟩
  ·rw[hws v hvu,hmm,hst]
   exact(h.ws v hv).rel hgo.rel h.mem (by omega) (by omega) (by omega)
 ·have h1:=h.evs
  have h2:=hhm.1
  rw[hH]
  rw[LK] at hsum
  split
  ·rename_i hr
   rw[if_pos hr] at hsum
   unfold HS.end_
   rw[if_pos herr]
   have:((e.ez M.L u).y9 (u:Int).toNat (e.did M u).2.2.2.res.code (e.did M u).2.2.2.res.ok (e.did M u).2.2.2.res.val).evs.length=(e.ez M.L u).evs.length+1:=by simp[HS.y9]
   omega
  ·rename_i hr
   rw[if_neg hr] at hsum
   omega
 ·rw[hH]
  by_cases hvu:v=u
  ·subst hvu
   rw[cG]
   unfold dw.stop
   cases hr:(e.did M v).1 with
   | true=>
    simp only[if_true]
    unfold HS.end_
    rw[if_pos herr,Int.toNat_natCast]
    simp[HS.y9]
   | false=>
    simp only[Bool.false_eq_true,if_false]
    simp[hhm.2.1]
  ·rw[hws v hvu,←h.b8 v hv]
   have h3:=hhm.2.2 v hv hvu
   split
   ·unfold HS.end_
    rw[if_pos herr,Int.toNat_natCast]
    simp only[HS.y9,if_neg hvu,h3]
   ·rw[h3]
theorem fI.pick {e:bu} (h:fI M e) (u:Int):fI M (e.pick M u)∧(e.can M u=true→Rel M u e.m (e.pick M u).m):=by
 unfold bu.pick
 split
 ·rename_i hc
  obtain⟨h0,h1,h2,h3⟩:=qu hc
  have:=h.next (u:=u.toNat) (by omega) h2 h3
  refine⟨this.1,fun _=> ?_⟩
  have e1:((u.toNat:Nat):Int)=u:=by omega
  rw[←e1];exact this.2
 ·rename_i hc
  exact⟨h,fun e2=>absurd e2 hc⟩
theorem fI.init {shape tries:Int} {ops:List (List Opn)} (hc:vQ shape tries M.L) (Ad:∀ l∈ops,l.length≤40) (hmay:∀ l∈ops,l.all (may shape)=true):fI M (.init shape tries ops):=by
 have hL:=hc.lay
 have hz:∀ a,ld M (fun _=>0) a=0:=fun a=>by unfold ld;split<;>rfl
 have hg:∀ u,∀ l,l=ops.getD u []→l.length≤40∧l.all (may shape)=true:=fun u l hl=>by
  subst hl
  by_cases hu:u<ops.length
  ·rw[List.getD_eq_getElem?_getD,List.getElem?_eq_getElem hu]
   exact⟨Ad _ (List.getElem_mem hu),hmay _ (List.getElem_mem hu)⟩
  ·rw[List.getD_eq_getElem?_getD,List.getElem?_eq_none (by omega)]
   exact⟨by simp,rfl⟩
 refine⟨hL,⟨fun i=>by simp[bu.init],fun a _ _=> ?_,fun v _ _=> ?_⟩,hc.tries,fun u hu=>⟨⟨?_,fun x hx=>by simp[bu.init,dM] at hx,?_⟩,fun t ht=> ?_,?_,by simp[bu.init,dM],fun _=> .inl ?_,fun d hd=>by simp[bu.init,dM] at hd⟩,by simp[bu.init],by simp[bu.init,HS.new],fun u hu=> ?_⟩
 ·have:=hL.nd
  rw[show (bu.init shape tries ops).m=fun _=>0 from rfl,hz]
  exact iD M.L hL
 ·rw[show (bu.init shape tries ops).m=fun _=>0 from rfl,hz]
  exact⟨by simp[getD'],fun h5=>by simp[getD'] at h5⟩
 ·have:=hL.nd
  simp only[bu.init,dM];omega
 ·simp[bu.init,dM]
 ·simp only[bu.init,dM,gZ,List.mem_map] at ht
  obtain⟨o,ho,rfl⟩:=ht
  exact List.all_eq_true.1 (hg u _ rfl).2 o ho
 ·simp only[bu.init,dM,gZ,List.length_map]
  exact(hg u _ rfl).1
 ·unfold stt
  rw[show (bu.init shape tries ops).m=fun _=>0 from rfl,hz]
  simp[getD']
 ·simp[bu.init,dM,HS.new]
def bu.turns (M:ML) (e:bu) (u:Int):Nat→bu
 | 0=>e
 | k+1=>(bu.turns M e u k).pick M u
def CO:List (List Opn):=[[⟨4,5⟩],[⟨5,0⟩]]
abbrev tY:bu:= .init 3 0 CO
def sB (M:ML) (e:bu) (u:Int):Nat→Bool
 | 0=>true
 | k+1=>sB M e u k && ((bu.turns M e u k).can M u && decide ((bu.turns M e u k).fW M.L u=e.fW M.L u))
theorem vV {e:bu} {u:Int}:∀ {k:Nat},sB M e u k=true→∀ i,i<k→(bu.turns M e u i).can M u=true∧(bu.turns M e u i).fW M.L u=e.fW M.L u
 | 0,_,i,hi=>absurd hi (by omega)
 | k+1,h,i,hi=>by
  unfold sB at h
  simp only[Bool.and_eq_true,decide_eq_true_eq] at h
  by_cases e2:i=k
  ·subst e2;exact h.2
  ·exact vV h.1 i (by omega)
abbrev nv (b wb:Nat):ML:=⟨b,wb,⟨2,6⟩⟩
def rJ (M:ML):bu:=bu.turns M tY 0 10
def tZ (M:ML):bu:=bu.turns M (rJ M) 1 14
theorem GY (b wb:Nat):sB (nv b wb) tY 0 10=true:=by kernel_rfl
theorem vW (b wb:Nat):(rJ (nv b wb)).fW ⟨2,6⟩ 0=0∧tY.fW ⟨2,6⟩ 0=1:=⟨by kernel_rfl,by kernel_rfl⟩
theorem GZ (b wb:Nat):sB (nv b wb) (rJ (nv b wb)) 1 14=true:=by kernel_rfl
theorem vX (b wb:Nat):(tZ (nv b wb)).fW ⟨2,6⟩ 1=0∧(rJ (nv b wb)).fW ⟨2,6⟩ 1=1:=⟨by kernel_rfl,by kernel_rfl⟩
theorem CP (b wb:Nat):(tZ (nv b wb)).hist.calls=[⟨0,1,0,0,4,5,0,true,0⟩,⟨2,3,1,1,5,0,0,true,5⟩]:=by kernel_rfl
theorem mH {e:bu} (h:fI M e) (u:Int):∀ k,fI M (bu.turns M e u k)
 | 0=>h
 | k+1=>((mH h u k).pick u).1
variable {b:Nat}
theorem sD {E:gJ} {e:bu} (h:dQ w C b E e) (hok:fI E.M e) (u:Int) (k:Nat) (hk:sB E.M e u k=true) (hl:(bu.turns E.M e u k).fW E.M.L u≠e.fW E.M.L u):
  Calls Tryz.prog 39 #[.pointer (some ⟨b,0,none⟩),.int .i64 u] w (z0 C b E (.tuple #[]) (bu.turns E.M e u k) w):=by
 have MT:=fun W C' e' (h:dQ W C' b E e')=>vN h u
 have NV:=fun W C' (i:Nat) (h:dQ W C' b E (bu.turns E.M e u i))=>nP h u (by have:=(mH hok u i).len;omega) (fun hc=>(mH hok u i).fine hc)
 have HAT:=Lib.hid (vV hk)
 obtain⟨lf,hlf⟩:∃ lf,e.fW E.M.L u=lf:=⟨_,rfl⟩
 have MU:=MT w C e h
 rw[hlf] at MU hl
 have F3:=Lib.hid hlf
 have HL:=Lib.hid hl
 clear hk hlf hl
 go_enter Tryz.func39,Tryz.ntmps39
 go_wp2_with fail
 refine MU.mono ?_
 rintro r w1 ⟨rfl,hb1⟩
 go_wp2_with fail
 go_loopg [] (k+1) (fun g wr=>∃ (i:Nat) (C':Nat→Nat),(i+g=k+1∧i≤k)∧aF w.heap.size C C'∧dQ wr C' b E (bu.turns E.M e u i)∧iM E.B C w wr)
 case atStart=>exact⟨0,C,⟨by omega,by omega⟩,aF.refl _ _,h.step hb1,(iM.refl E.B C w).step hb1⟩
 case round=>
  obtain⟨i,C',⟨hig,hik⟩,hag,hE,hfr⟩:=hrel
  go_wp2_with fail
  refine(MT wr C' _ hE).mono ?_
  rintro r w2 ⟨rfl,hb2⟩
  have hE2:=hE.step hb2
  have hfr2:=hfr.step hb2
  by_cases hlt:i<k
  ·obtain⟨hc,hle⟩:=HAT.out i hlt
   rw[F3.out] at hle
   rw[hle]
   clear hE hfr hb2
   go_wp2_with fail
   have HP:=NV w2 C' i hE2
   rw[hc] at HP
   refine HP.mono ?_
   rintro r w3 ⟨rfl,⟨C3,r9,NW⟩,hf3⟩
   have F5:=hag.trans r9 hfr2.size
   have hfr3:=hfr2.comp hf3 hag
   clear hE2 hf3 r9 HP hfr2
   go_wp2_with fail
   go_roundg (k - i)
   case measure=>omega
   case rel=>exact⟨i+1,C3,⟨by omega,by omega⟩,F5,NW,hfr3⟩
  ·obtain rfl:i=k:=by omega
   have hne:=HL.out
   have Oy:((bu.turns E.M e u i).fW E.M.L u==lf)=false:=beq_false_of_ne hne
   clear hE hfr hb2
   go_wp2_with fail
   go_end0
   exact⟨rfl,⟨C',hag,hE2⟩,hfr2⟩
theorem CQ:(Tryz.prog.info? 46).map (fun i=>(i.zero,i.size,i.bytes))=some (some (.agg #[.int .i64 0,.int .i64 0]),2,16):=by kernel_rfl
theorem ua:(Tryz.prog.info? 67).map (·.size)=some 3:=by kernel_rfl
theorem CR:(Tryz.prog.info? 52).map (fun i=>(i.zero,i.size,i.bytes))=some (some (.slice none 0 0),1,24):=by kernel_rfl
theorem Ag (W:World):(Instr.makeSlice 22 (.int .i64 2) (.int .i64 2)).run Tryz.prog W= .ok (.slice (some ⟨W.heap.size,0,none⟩) 2 2) (W.alloc (.cells #[.slice none 0 0,.slice none 0 0] 52)):=by
 obtain⟨i0,hi,hz0,hz1,hz2⟩:=info_parts CR
 rw[run_make W 22 52 i0 _ Tryz.underlying22 hi hz0 .i64 .i64 2 2 (by omega) (Int.le_refl _) (by rw[hz2];decide) (by omega),hz1]
 rw[show madeCells (Value.slice none 0 0).cells (Int.toNat 2*1)= #[.slice none 0 0,.slice none 0 0] by kernel_rfl]
 rfl
abbrev gv:Array Value:= #[.int .i64 0,.int .i64 4,.int .i64 5,.int .i64 1,.int .i64 5,.int .i64 0]
abbrev mI:Array Value:= #[.int .i64 3,.int .i64 2,.int .i64 6,.int .i64 0]
structure Got (w:World) (ob:Nat) (v:Value) (k x:Int):Prop where
 ex:∃ g c cur,v= .slice (some ⟨g,0,none⟩) 1 c∧g≠ob∧bo w g 46 cur∧cur[0]? =some (.int .i64 k)∧cur[1]? =some (.int .i64 x)
variable {w':World}
theorem Got.step {ob:Nat} {v:Value} {k x:Int} (h:Got w ob v k x) (hb:Below w.heap.size w w'):Got w' ob v k x:=by
 obtain⟨g,c,cur,h1,h2,h3,h4⟩:=h.ex
 exact⟨g,c,cur,h1,h2,h3.step hb,h4⟩
theorem Got.set {ob:Nat} {v:Value} {k x:Int} (h:Got w ob v k x) (i:Nat) (u:Value):Got (w.setCell ⟨ob,i,none⟩ u) ob v k x:=by
 obtain⟨g,c,cur,h1,h2,h3,h4⟩:=h.ex
 exact⟨g,c,cur,h1,h2,h3.far h2 _,h4⟩
theorem Got.de {base ob g0 cap:Nat} {k x:Int} (h:w.ownsRow base 46 2 (.slice (some ⟨g0,0,none⟩) 1 cap) 1 [.int .i64 k,.int .i64 x]) (hb:ob<base):Got w ob (.slice (some ⟨g0,0,none⟩) 1 cap) k x:=by
 rcases h.2 with ⟨h0,h1⟩ | ⟨g,c,cur,hv,hbg,hg,hnc,hcm,hcs,htake⟩
 ·cases h1
 ·have e1:cur.toList[0]? =some (.int .i64 k):=by
   have:=congrArg (fun l=>l[0]?) htake
   simpa [List.getElem?_take] using this
  have e2:cur.toList[1]? =some (.int .i64 x):=by
   have:=congrArg (fun l=>l[1]?) htake
   simpa [List.getElem?_take] using this
  exact⟨g,c,cur,hv,by omega,hg,by simpa using e1,by simpa using e2⟩
theorem Got.sl {ob:Nat} {v:Value} {k x:Int} (h:Got w ob v k x):∃ A c,v= .slice A 1 c∧Sl w w.heap.size 2 A 1 [.int .i64 k,.int .i64 x]:=by
 obtain⟨g,c,cur,rfl,h2,h3,h4,h5⟩:=h.ex
 refine⟨_,_,rfl,rfl,fun _=>rfl,fun _=>h3.lt,fun j hj=> ?_⟩
 rw[show bZ (some (⟨g,0,none⟩:Addr))=g from rfl,show cP (some (⟨g,0,none⟩:Addr))=0 from rfl,Nat.zero_add,h3.cell]
 match j,hj with
 | 0,_=>rw[h4];rfl
 | 1,_=>rw[h5];rfl
structure Jw (w0:World) (cb ob:Nat) (k:Nat) (wr:World):Prop where
 bel:Below w0.heap.size w0 wr
 cfg:bo wr cb 65 mI
 ex:∃ v0 v1,bo wr ob 52 #[v0,v1]∧(if k=0 then v0= .slice none 0 0 else Got wr ob v0 4 5)∧(if k≤1 then v1= .slice none 0 0 else Got wr ob v1 5 0)
 ob:w0.heap.size≤ob∧cb≠ob
theorem oH:vQ 3 0 ⟨2,6⟩:=⟨by omega,by omega,⟨by simp,by simp⟩⟩
structure LL (w:World) (e:Ending) (w':World):Prop where
 ex:∃ b E C',e= .returned (.tuple #[.pointer (some ⟨b,0,none⟩),.int .i64 0])∧E.M.L=⟨2,6⟩∧w.heap.size≤E.B∧(∀ g,g<w.heap.size→C' g=0)∧dQ w' C' b E tY
 bel:Below w.heap.size w w'
theorem yd (w:World) (tb:Nat) (ht:bo w tb 67 gv):Calls Tryz.prog 38 #[.agg mI,.slice (some ⟨tb,0,none⟩) 2 2] w (LL w):=by
 have HN:=fun (A:Option Addr) (n cap B:Nat) (ops:List (List Opn)) (W:World) (hs:dU W B A n ops) (hB:B≤W.heap.size) (Ad:∀ l∈ops,l.length≤40) (hn:(n:Int)≤2) (hmay:∀ l∈ops,l.all (may 3)=true)=>qt 3 0 ⟨2,6⟩ oH A n cap B ops W hs hB Ad hn hmay (fun _=>0) (fun _ _=>rfl)
 have hmk:=Ag
 obtain⟨iO,Kl,zO,sO,bO⟩:=info_parts CQ
 have hb1:Below w.heap.size w (w.alloc (.cells mI 65)):=(Below.refl _ _).alloc (Nat.le_refl _) _
 have hcb:=bo.new w 65 mI
 have hc:=hcb.cells
 obtain⟨cb,EY⟩:∃ cb,w.heap.size=cb:=⟨_,rfl⟩
 have HC:=Lib.hid EY
 simp only[EY] at hcb hc hb1
 go_enter Tryz.func38,Tryz.ntmps38
 go_wp2_with fail
 try simp only[EY]
 clear EY
 generalize(w.alloc (.cells mI 65))=w1 at *
 refine(HN none 0 0 0 [] w1 ⟨rfl,[],Sl.nil_ _ _ _,fun i l hl=>by simp at hl⟩ (Nat.zero_le _) (by simp) (by omega) (by simp)).mono ?_
 rintro r w2 ⟨⟨b0,E0,C0,rfl,-,-,-,-⟩,hb2⟩
 replace hcb:=hcb.step hb2
 replace hb1:=hb1.trans (hb2.mono (by have:=HC.out;have:=hb1.size;omega))
 clear hb2 hc
 have hc:=hcb.cells
 go_wp2_with fail
 have hob:=bo.new w2 52 #[.slice none 0 0,.slice none 0 0]
 have hal:Below w2.heap.size w2 (w2.alloc (.cells #[.slice none 0 0,.slice none 0 0] 52)):=(Below.refl _ _).alloc (Nat.le_refl _) _
 have hlt:=hcb.lt
 replace hcb:=hcb.step hal
 have hsz:cb≤w2.heap.size:=by have:=HC.out;have:=hb1.size;omega
 replace hb1:=hb1.trans (hal.mono hsz)
 clear hc
 generalize(w2.alloc (.cells #[.slice none 0 0,.slice none 0 0] 52))=w3 at *
 obtain⟨ob,Jx⟩:∃ ob,w2.heap.size=ob:=⟨_,rfl⟩
 simp only[Jx] at *
 have hI0:Jw w cb ob 0 w3:=⟨by rw[HC.out];exact hb1,hcb,⟨_,_,hob,rfl,rfl⟩,by rw[HC.out];exact hsz,by omega⟩
 clear hal hlt hcb hsz hb1 hob Jx
 go_loopw [24] (fun i wr=>∃ k:Nat,k≤2∧i= .int .i64 k∧Jw w cb ob k wr) (fun i _=>2 - (intOf i).toNat)
 case atStart=>exact⟨0,by omega,rfl,hI0⟩
 case round=>
  clear hI0
  obtain⟨k,hk,rfl,hI⟩:=hrel
  obtain⟨hbel,hcb,⟨v0,v1,hob,hv0,hv1⟩,Jy,hne⟩:=hI
  have htb:=ht.step hbel
  have htc:=htb.cells
  have hcc:=hcb.cells
  have hlt:=hcb.lt
  by_cases hlt2:k<2
  ·rcases Nat.lt_or_ge k 1 with h01 | h01
   ·obtain rfl:k=0:=by omega
    have dk:decide (((0:Nat):Int)<2)=true:=decide_eq_true (by omega)
    rw [if_pos (by omega)] at hv0 hv1
    subst hv0
    have hix:=(show Sl wr wr.heap.size 3 (some ⟨tb,0,none⟩) 2 gv.toList from ⟨rfl,fun _=>rfl,fun _=>htb.lt,fun j hj=>by rw[show bZ (some (⟨tb,0,none⟩:Addr))=tb from rfl,show cP (some (⟨tb,0,none⟩:Addr))=0 from rfl,Nat.zero_add,htb.cell];simp⟩).idx (P:=Tryz.prog) (c:=2) Tryz.underlying102 ua (k:=0) (by omega)
    go_wp2_with fail
    have htx:=bo.new wr 67 #[.int .i64 0,.int .i64 4,.int .i64 5]
    have hal:Below wr.heap.size wr (wr.alloc (.cells #[.int .i64 0,.int .i64 4,.int .i64 5] 67)):=(Below.refl _ _).alloc (Nat.le_refl _) _
    replace hbel:=hbel.trans (hal.mono hbel.size)
    replace hob:=hob.step hal
    replace hcb:=hcb.step hal
    skip
    clear hal htb htc hcc
    have htc:=htx.cells
    have hcc:=hcb.cells
    have hoc:=hob.cells
    go_wp2_with fail
    generalize(wr.alloc (.cells #[.int .i64 0,.int .i64 4,.int .i64 5] 67))=w4 at *
    obtain⟨xb,hxb⟩:∃ xb,wr.heap.size=xb:=⟨_,rfl⟩
    simp only[hxb] at htx htc⊢
    clear hxb htc hcc hoc
    have q1:=Later.cells (B:=w4.heap.size) htx htx.lt
    have q2:=Later.cells (B:=w4.heap.size) hob hob.lt
    refine aD (fun w'=>∃ q:Later w4.heap.size w4,w'=q.val) 13 [([0,1,2,3,4,5,6,7,8,9],10),([],11)] [12] [13] (by kernel_rfl) (by kernel_rfl) (Later.bW (Below.refl _ _).drew) ?_
    refine ai ?_
    simp only[ay,List.map_cons,List.map_nil,List.getD_cons_zero,List.getD_cons_succ]
    repeat(go_big_quiet_step (fail))
    refine wpQuiet_nil ?_
    refine bG rfl (fun K' hK'=> ?_)
    go_simp
    have hal:Below w4.heap.size w4 (w4.alloc (.cells #[.int .i64 4,.int .i64 5] 46)).drew:=((Below.refl _ _).alloc (Nat.le_refl _) _).drew
    refine hK' _ _ (Later.bW hal) ?_
    clear hK' K'
    refine ai ?_
    simp only[ay,List.map_nil]
    refine wpQuiet_nil ?_
    refine bG rfl (fun K' hK'=> ?_)
    have hnb:=bo.new w4 46 #[.int .i64 4,.int .i64 5]
    have hs4:=hal.size
    refine wp_append_lies _ _ _ _ rfl w4.heap.size 46 iO _ 2 16 Tryz.underlying52 Kl zO sO bO rfl (by omega) (.slice none 0 0) 0 [] rfl ⟨rfl,.inl ⟨rfl,rfl⟩⟩ ⟨w4.heap.size,0,none⟩ 1 1 [.int .i64 4,.int .i64 5] rfl rfl (World.news_of_block (w:=(w4.alloc (.cells #[.int .i64 4,.int .i64 5] 46)).drew) hnb) (fun u hu=>by simp at hu;rcases hu with rfl | rfl<;>rfl) (by omega) (by decide) (by omega) hs4 _ rfl ?_
    intro g9 CM w6 hown hgrow _ LN
    have hb6:Below w4.heap.size w4 w6:=hal.trans (((Below.refl _ _).grown hgrow hs4 (fun k e=>by cases e)).mono (Nat.le_refl _))
    go_simp
    refine hK' _ _ (Later.bW hb6) ?_
    clear hK' K'
    refine af ?_
    try simp only[ay,List.map_cons,List.map_nil,List.getD_cons_zero,List.getD_cons_succ]
    repeat(go_big_quiet_step (fail))
    refine wpQuiet_nil ?_
    refine ae _ _ _ (by kernel_rfl) ?_
    try simp only[ay,List.map_cons,List.map_nil,List.getD_cons_zero,List.getD_cons_succ]
    clear q1 q2
    have hg:=Got.de (ob:=ob) hown hob.lt
    have hbl:=hbel.trans (hb6.mono hbel.size)
    replace hob:=hob.step hb6
    replace hcb:=hcb.step hb6
    skip
    have hoc:=hob.cells
    have hof:=hob.frees
    clear hb6 hal hgrow hnb hown
    go_wp2_with fail
    refine NoPanic.normal ?_
    go_wp2_with fail
    go_roundw
    case rel=>exact⟨1,by omega,by go_num,hbl.trans ((Below.refl _ _).setCell (by omega) _),hcb.far hne _,⟨_,_,hob.ar 0 _,hg.set _ _,hv1⟩,Jy,hne⟩
    case measure=>simp[intOf]
   ·obtain rfl:k=1:=by omega
    have dk:decide (((1:Nat):Int)<2)=true:=decide_eq_true (by omega)
    rw [if_neg (by omega)] at hv0; rw [if_pos (by omega)] at hv1
    subst hv1
    have hix:=(show Sl wr wr.heap.size 3 (some ⟨tb,0,none⟩) 2 gv.toList from ⟨rfl,fun _=>rfl,fun _=>htb.lt,fun j hj=>by rw[show bZ (some (⟨tb,0,none⟩:Addr))=tb from rfl,show cP (some (⟨tb,0,none⟩:Addr))=0 from rfl,Nat.zero_add,htb.cell];simp⟩).idx (P:=Tryz.prog) (c:=2) Tryz.underlying102 ua (k:=1) (by omega)
    go_wp2_with fail
    have htx:=bo.new wr 67 #[.int .i64 1,.int .i64 5,.int .i64 0]
    have hal:Below wr.heap.size wr (wr.alloc (.cells #[.int .i64 1,.int .i64 5,.int .i64 0] 67)):=(Below.refl _ _).alloc (Nat.le_refl _) _
    replace hbel:=hbel.trans (hal.mono hbel.size)
    replace hob:=hob.step hal
    replace hcb:=hcb.step hal
    replace hv0:=Got.step hv0 hal
    clear hal htb htc hcc
    have htc:=htx.cells
    have hcc:=hcb.cells
    have hoc:=hob.cells
    go_wp2_with fail
    generalize(wr.alloc (.cells #[.int .i64 1,.int .i64 5,.int .i64 0] 67))=w4 at *
    obtain⟨xb,hxb⟩:∃ xb,wr.heap.size=xb:=⟨_,rfl⟩
    simp only[hxb] at htx htc⊢
    clear hxb htc hcc hoc
    have q1:=Later.cells (B:=w4.heap.size) htx htx.lt
    have q2:=Later.cells (B:=w4.heap.size) hob hob.lt
    refine aD (fun w'=>∃ q:Later w4.heap.size w4,w'=q.val) 13 [([0,1,2,3,4,5,6,7,8,9],10),([],11)] [12] [13] (by kernel_rfl) (by kernel_rfl) (Later.bW (Below.refl _ _).drew) ?_
    refine ai ?_
    simp only[ay,List.map_cons,List.map_nil,List.getD_cons_zero,List.getD_cons_succ]
    repeat(go_big_quiet_step (fail))
    refine wpQuiet_nil ?_
    refine bG rfl (fun K' hK'=> ?_)
    go_simp
    have hal:Below w4.heap.size w4 (w4.alloc (.cells #[.int .i64 5,.int .i64 0] 46)).drew:=((Below.refl _ _).alloc (Nat.le_refl _) _).drew
    refine hK' _ _ (Later.bW hal) ?_
    clear hK' K'
    refine ai ?_
    simp only[ay,List.map_nil]
    refine wpQuiet_nil ?_
    refine bG rfl (fun K' hK'=> ?_)
    have hnb:=bo.new w4 46 #[.int .i64 5,.int .i64 0]
    have hs4:=hal.size
    refine wp_append_lies _ _ _ _ rfl w4.heap.size 46 iO _ 2 16 Tryz.underlying52 Kl zO sO bO rfl (by omega) (.slice none 0 0) 0 [] rfl ⟨rfl,.inl ⟨rfl,rfl⟩⟩ ⟨w4.heap.size,0,none⟩ 1 1 [.int .i64 5,.int .i64 0] rfl rfl (World.news_of_block (w:=(w4.alloc (.cells #[.int .i64 5,.int .i64 0] 46)).drew) hnb) (fun u hu=>by simp at hu;rcases hu with rfl | rfl<;>rfl) (by omega) (by decide) (by omega) hs4 _ rfl ?_
    intro g9 CM w6 hown hgrow _ LN
    have hb6:Below w4.heap.size w4 w6:=hal.trans (((Below.refl _ _).grown hgrow hs4 (fun k e=>by cases e)).mono (Nat.le_refl _))
    go_simp
    refine hK' _ _ (Later.bW hb6) ?_
    clear hK' K'
    refine af ?_
    try simp only[ay,List.map_cons,List.map_nil,List.getD_cons_zero,List.getD_cons_succ]
    repeat(go_big_quiet_step (fail))
    refine wpQuiet_nil ?_
    refine ae _ _ _ (by kernel_rfl) ?_
    try simp only[ay,List.map_cons,List.map_nil,List.getD_cons_zero,List.getD_cons_succ]
    clear q1 q2
    have hg:=Got.de (ob:=ob) hown hob.lt
    have hbl:=hbel.trans (hb6.mono hbel.size)
    replace hob:=hob.step hb6
    replace hcb:=hcb.step hb6
    replace hv0:=hv0.step hb6
    have hoc:=hob.cells
    have hof:=hob.frees
    clear hb6 hal hgrow hnb hown
    go_wp2_with fail
    refine NoPanic.normal ?_
    go_wp2_with fail
    go_roundw
    case rel=>exact⟨2,by omega,by go_num,hbl.trans ((Below.refl _ _).setCell (by omega) _),hcb.far hne _,⟨_,_,hob.ar 1 _,hv0.set _ _,hg.set _ _⟩,Jy,hne⟩
    case measure=>simp[intOf]
  ·have dk:decide ((k:Int)<2)=false:=decide_eq_false (by omega)
   obtain rfl:k=2:=by omega
   rw [if_neg (by omega)] at hv0 hv1
   obtain⟨A0,c0,rfl,s0⟩:=hv0.sl
   obtain⟨A1,c1,rfl,s1⟩:=hv1.sl
   have hops:dU wr wr.heap.size (some ⟨ob,0,none⟩) 2 CO:=by
    refine⟨rfl,[.slice A0 1 c0,.slice A1 1 c1],⟨rfl,fun _=>rfl,fun _=>hob.lt,fun j hj=>by rw[show bZ (some (⟨ob,0,none⟩:Addr))=ob from rfl,show cP (some (⟨ob,0,none⟩:Addr))=0 from rfl,Nat.zero_add,hob.cell];simp⟩,fun i l hl=> ?_⟩
    match i,hl with
    | 0,hl=>cases hl;exact⟨A0,1,c0,rfl,s0,rfl⟩
    | 1,hl=>cases hl;exact⟨A1,1,c1,rfl,s1,rfl⟩
   clear hv0 hv1 s0 s1 htb htc
   go_wp2_with fail
   refine(HN _ 2 2 wr.heap.size CO wr hops (Nat.le_refl _) (by decide) (by decide) (by decide)).mono ?_
   rintro r w5 ⟨⟨b1,E1,C1,rfl,hL,hEB,hag,hE⟩,hb5⟩
   go_wp2_with fail
   go_ret2
   exact⟨⟨b1,E1,C1,rfl,hL,by rw[hEB];exact hbel.size,fun g hg=>hag g (by have:=hbel.size;omega),hE⟩,hbel.trans (hb5.mono hbel.size)⟩
end Go.Proofs.YtbcnnhlpilmmbaaGreat
