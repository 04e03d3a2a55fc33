/- Texts that are wanted for PTopFull.
   Conditions: none. -/
import Derived.Test.YtbcnnhlpilmmbaaGreatJPTopFull20
set_option maxRecDepth 100000
set_option maxHeartbeats 6400000
namespace Go.Proofs.YtbcnnhlpilmmbaaGreat
open Go Go.RowKit
theorem FN (M:ML) (m:Mm) (h:oh):(cq M m h).2.1=m:=by
 unfold cq
 split
 ·split<;>rfl
 ·rfl
variable {M:ML} {me:Int} {m:Mm} {t:cV}
theorem iy {d:aH} (h0:d.at_=0):ak M me m t d=(false,m,t,if (cq M m d.head).1 then aH.looked M.L me t { d with head:=(cq M m d.head).2.2 } else { d with head:=(cq M m d.head).2.2 }):=by
 unfold ak;simp only;rw[if_pos h0];simp only[FN]
theorem fF {d:aH} (h0:d.at_=1):ak M me m t d=(false,(ah M me m t d.help).2.1,(ah M me m t d.help).2.2.1,if (ah M me m t d.help).1 then aH.want M.L me (ah M me m t d.help).2.2.1 { d with help:=(ah M me m t d.help).2.2.2 } else { d with help:=(ah M me m t d.help).2.2.2 }):=by
 unfold ak;simp only;rw[if_neg (by rw[h0];decide)];rw[if_pos h0]
theorem iz {d:aH} (h0:d.at_=2):ak M me m t d=(false,(aF M me m t d.a5).2.1,(aF M me m t d.a5).2.2.1,if (aF M me m t d.a5).1 then aH.ensured M.L me { d with a5:=(aF M me m t d.a5).2.2.2 } else { d with a5:=(aF M me m t d.a5).2.2.2 }):=by
 unfold ak;simp only;rw[if_neg (by rw[h0];decide)];rw[if_neg (by rw[h0];decide)];rw[if_pos h0]
theorem gq {d:aH} (h0:d.at_=3):ak M me m t d=(false,(aJ M me m t d.fast).2.1,(aJ M me m t d.fast).2.2.1,if (aJ M me m t d.fast).1 then aH.tried M.L me { d with fast:=(aJ M me m t d.fast).2.2.2 } else { d with fast:=(aJ M me m t d.fast).2.2.2 }):=by
 unfold ak;simp only;rw[if_neg (by rw[h0];decide)];rw[if_neg (by rw[h0];decide)];rw[if_neg (by rw[h0];decide)];rw[if_pos h0]
theorem gu {d:aH} (h0:d.at_=4):ak M me m t d=(false,(aW M me m d.ann).2.1,t,if (aW M me m d.ann).1 then { d with ann:=(aW M me m d.ann).2.2,at_:=5,help:= .new M.L me (aW M me m d.ann).2.2.no d.limit } else { d with ann:=(aW M me m d.ann).2.2 }):=by
 unfold ak;simp only;rw[if_neg (by rw[h0];decide)];rw[if_neg (by rw[h0];decide)];rw[if_neg (by rw[h0];decide)];rw[if_neg (by rw[h0];decide)];rw[if_pos h0]
theorem fG {d:aH} (h0:d.at_=5):ak M me m t d=(false,(ah M me m t d.help).2.1,(ah M me m t d.help).2.2.1,if (ah M me m t d.help).1 then { d with help:=(ah M me m t d.help).2.2.2,at_:=6 } else { d with help:=(ah M me m t d.help).2.2.2 }):=by
 unfold ak;simp only;rw[if_neg (by rw[h0];decide)];rw[if_neg (by rw[h0];decide)];rw[if_neg (by rw[h0];decide)];rw[if_neg (by rw[h0];decide)];rw[if_neg (by rw[h0];decide)];rw[if_pos h0]
theorem gv {d:aH} (h0:d.at_=6):ak M me m t d=(false,m,t,d.told M.L me (getD' (ld M m (M.L.desc me))).res):=by
 unfold ak;simp only;rw[if_neg (by rw[h0];decide)];rw[if_neg (by rw[h0];decide)];rw[if_neg (by rw[h0];decide)];rw[if_neg (by rw[h0];decide)];rw[if_neg (by rw[h0];decide)];rw[if_neg (by rw[h0];decide)];rw[if_pos h0]
theorem fH {d:aH} (h0:d.at_=7):ak M me m t d=if (ax M m d.find).1 then (false,(ax M m d.find).2.1,t.retire (ax M m d.find).2.2.aQ,aH.leave me { d with find:=(ax M m d.find).2.2 }) else (false,(ax M m d.find).2.1,t,{ d with find:=(ax M m d.find).2.2 }):=by
 unfold ak;simp only;rw[if_neg (by rw[h0];decide)];rw[if_neg (by rw[h0];decide)];rw[if_neg (by rw[h0];decide)];rw[if_neg (by rw[h0];decide)];rw[if_neg (by rw[h0];decide)];rw[if_neg (by rw[h0];decide)];rw[if_neg (by rw[h0];decide)];rw[if_pos h0]
theorem gw {d:aH} (h0:d.at_=8):ak M me m t d=if (ey M m d.drop).1 then (!tZ M.L t,(ey M m d.drop).2.1,t,{ d with drop:=(ey M m d.drop).2.2,at_:=9,sweep:=none }) else (false,(ey M m d.drop).2.1,t,{ d with drop:=(ey M m d.drop).2.2 }):=by
 unfold ak;simp only;rw[if_neg (by rw[h0];decide)];rw[if_neg (by rw[h0];decide)];rw[if_neg (by rw[h0];decide)];rw[if_neg (by rw[h0];decide)];rw[if_neg (by rw[h0];decide)];rw[if_neg (by rw[h0];decide)];rw[if_neg (by rw[h0];decide)];rw[if_neg (by rw[h0];decide)];rw[if_pos h0]
theorem iA {d:aH} (h0:d.at_=9):ak M me m t d=((bK M m t d.sweep).1,(bK M m t d.sweep).2.1,(bK M m t d.sweep).2.2.1,{ d with sweep:=(bK M m t d.sweep).2.2.2 }):=by
 unfold ak;simp only;rw[if_neg (by rw[h0];decide)];rw[if_neg (by rw[h0];decide)];rw[if_neg (by rw[h0];decide)];rw[if_neg (by rw[h0];decide)];rw[if_neg (by rw[h0];decide)];rw[if_neg (by rw[h0];decide)];rw[if_neg (by rw[h0];decide)];rw[if_neg (by rw[h0];decide)];rw[if_neg (by rw[h0];decide)]
structure mP (M:ML) (me:Int) (m:Mm) (N:Int) (r:Bool×Mm×cV×aH):Prop where
 rel:Rel M me m r.2.1
 st:bM M.L r.2.2.1 (N+1)
 ok:r.1=false→eR M.L me r.2.2.1 r.2.2.2 (N+1)∧Own M me r.2.1 r.2.2.2
 fin:r.1=true→Idle M r.2.1 me
structure Base (L:Ly) (t:cV) (d:aH) (N:Int):Prop where
 may:d.task.may=true
 lim:0≤d.limit∧d.limit≤1000
 len:(t.ret.length:Int)≤N
 N0:0≤N
theorem cT {d:aH} (hi:Idle M m me) (h:d.at_≤3∨7≤d.at_):Own M me m d:=
 ⟨fun _=>hi,fun e=>by omega,fun e=>by omega,fun e=>by omega,fun e=>by omega,fun e=>by omega,fun e=>by omega⟩
theorem rL {d:aH} {N:Int} (hL:M.L.Ok) (hd:Base M.L t d N) (hi:Idle M m me):eR M.L me t (d.aU M.L me) N∧Own M me m (d.aU M.L me):=
 ⟨⟨hd.may,hd.lim,by simp[aH.aU],fun e=>by simp[aH.aU] at e,fun e=>by simp[aH.aU] at e,fun e=>by simp[aH.aU] at e,fun _=>FK hL hd.may hd.lim hd.len hd.N0,fun e=>by simp[aH.aU] at e,fun e=>by simp[aH.aU] at e,fun e=>by simp[aH.aU] at e,fun e=>by simp[aH.aU] at e⟩,cT hi (by simp[aH.aU])⟩
theorem jU {d:aH} {N:Int} (hd:Base M.L t d N) (hi:Idle M m me):eR M.L me t (d.leave me) N∧Own M me m (d.leave me):=
 ⟨⟨hd.may,hd.lim,by simp[aH.leave],fun e=>by simp[aH.leave] at e,fun e=>by simp[aH.leave] at e,fun e=>by simp[aH.leave] at e,fun e=>by simp[aH.leave] at e,fun e=>by simp[aH.leave] at e,fun e=>by simp[aH.leave] at e,fun _=>⟨rfl,by simp[aH.leave]⟩,fun e=>by simp[aH.leave] at e⟩,cT hi (by simp[aH.leave])⟩
theorem pv {d:aH} {N:Int} (hL:M.L.Ok) (hd:Base M.L t d N) (hi:Idle M m me):eR M.L me t (d.want M.L me t) N∧Own M me m (d.want M.L me t):=by
 unfold aH.want
 split
 ·exact⟨⟨hd.may,hd.lim,by simp,fun e=>by simp at e,fun e=>by simp at e,fun _=>AX M.L N,fun e=>by simp at e,fun e=>by simp at e,fun e=>by simp at e,fun e=>by simp at e,fun e=>by simp at e⟩,cT hi (by simp)⟩
 ·exact rL hL hd hi
theorem px {d:aH} {N:Int} (hL:M.L.Ok) (hd:Base M.L t d N) (hi:Idle M m me) (r:ku):eR M.L me t (d.told M.L me r) N∧Own M me m (d.told M.L me r):=by
 unfold aH.told
 simp only
 split
 ·exact jU (d:={ d with res:=r }) ⟨hd.may,hd.lim,hd.len,hd.N0⟩ hi
 ·have hf:=wD hL me hd.may d.limit
  have hl:=hd.len
  exact⟨⟨hd.may,hd.lim,by simp,fun e=>by simp at e,fun e=>by simp at e,fun e=>by simp at e,fun e=>by simp at e,fun e=>by simp at e,fun _=>⟨⟨hf.1.mono hd.N0,hf.2⟩,by simp[aC.new];exact hl⟩,fun e=>by simp at e,fun e=>by simp at e⟩,cT hi (by simp)⟩
theorem Bu {d:aH} {N:Int} (hL:M.L.Ok) (hm:ff M m) (_:0≤me∧me<M.L.th) (hN:0≤N) (ht:bM M.L t N) (hd:eR M.L me t d N) (ho:Own M me m d) (h0:d.at_=0):mP M me m N (ak M me m t d):=by
 have htl:=ht.len
 rw[iy h0]
 have hi:=ho.idle (by omega)
 have hs:=DM (m:=m) (hd.head h0)
 refine⟨(Safe.refl hm).rel me,ht.mono (by omega),fun _=> ?_,fun e=>by simp at e⟩
 simp only
 have hb:Base M.L t { d with head:=(cq M m d.head).2.2 } (N+1):=⟨hd.may,hd.lim,by omega,by omega⟩
 split
 ·unfold aH.looked
  split
  ·exact pv hL hb hi
  ·rename_i hq
   have h2:=hs.2.2
   exact⟨⟨hd.may,hd.lim,by simp,fun e=>by simp at e,fun _=>Bh hL me t (by have h3:=h2;simp only at hq⊢;omega) _ _ (by omega),fun e=>by simp at e,fun e=>by simp at e,fun e=>by simp at e,fun e=>by simp at e,fun e=>by simp at e,fun e=>by simp at e⟩,cT hi (by simp)⟩
 ·rename_i hq
  exact⟨⟨hd.may,hd.lim,hd.at_,fun _=>hs.2.1 (by simpa using hq),fun e=>by simp only at e;omega,fun e=>by simp only at e;omega,fun e=>by simp only at e;omega,fun e=>by simp only at e;omega,fun e=>by simp only at e;omega,fun e=>by simp only at e;omega,fun e=>by simp only at e;omega⟩,cT hi (by simp only;omega)⟩
theorem Bv {d:aH} {N:Int} (hL:M.L.Ok) (hm:ff M m) (hu:0≤me∧me<M.L.th) (hN:0≤N) (ht:bM M.L t N) (hd:eR M.L me t d N) (ho:Own M me m d) (h0:d.at_=1):mP M me m N (ak M me m t d):=by
 have htl:=ht.len
 rw[fF h0]
 have hs:=lT hL hm hu hN ht (hd.help (.inl h0))
 have hi':Idle M (ah M me m t d.help).2.1 me:=by
  have hi:=ho.idle (by omega)
  unfold Idle stt at hi⊢
  rw[hs.1.idle hu (ho.idle (by omega))];exact hi
 have hl2:=hs.2.1.len
 refine⟨hs.1.rel me,hs.2.1,fun _=> ?_,fun e=>by simp at e⟩
 simp only
 split
 ·exact pv hL (d:={ d with help:=(ah M me m t d.help).2.2.2 }) ⟨hd.may,hd.lim,by omega,by omega⟩ hi'
 ·rename_i hq
  exact⟨⟨hd.may,hd.lim,hd.at_,fun e=>by simp only at e;omega,fun _=>hs.2.2 (by simpa using hq),fun e=>by simp only at e;omega,fun e=>by simp only at e;omega,fun e=>by simp only at e;omega,fun e=>by simp only at e;omega,fun e=>by simp only at e;omega,fun e=>by simp only at e;omega⟩,cT hi' (by simp only;omega)⟩
theorem Bw {d:aH} {N:Int} (hL:M.L.Ok) (hm:ff M m) (hu:0≤me∧me<M.L.th) (hN:0≤N) (ht:bM M.L t N) (hd:eR M.L me t d N) (ho:Own M me m d) (h0:d.at_=2):mP M me m N (ak M me m t d):=by
 have htl:=ht.len
 rw[iz h0]
 have hs:=xK (me:=me) hL hm ht (hd.a5 h0)
 have hi':Idle M (aF M me m t d.a5).2.1 me:=by
  have hi:=ho.idle (by omega)
  unfold Idle stt at hi⊢
  rw[hs.1.idle hu (ho.idle (by omega))];exact hi
 have hl2:=hs.2.1.len
 refine⟨hs.1.rel me,hs.2.1.mono (by omega),fun _=> ?_,fun e=>by simp at e⟩
 simp only
 split
 ·unfold aH.ensured
  split
  ·exact jU (d:={ d with a5:=(aF M me m t d.a5).2.2.2,res:=⟨4,false,0⟩ }) ⟨hd.may,hd.lim,by omega,by omega⟩ hi'
  ·exact rL hL (d:={ d with a5:=(aF M me m t d.a5).2.2.2 }) ⟨hd.may,hd.lim,by omega,by omega⟩ hi'
 ·rename_i hq
  exact⟨⟨hd.may,hd.lim,hd.at_,fun e=>by simp only at e;omega,fun e=>by simp only at e;omega,fun _=>(hs.2.2 (by simpa using hq)).mono (by omega),fun e=>by simp only at e;omega,fun e=>by simp only at e;omega,fun e=>by simp only at e;omega,fun e=>by simp only at e;omega,fun e=>by simp only at e;omega⟩,cT hi' (by simp only;omega)⟩
theorem Bx {d:aH} {N:Int} (hL:M.L.Ok) (hm:ff M m) (hu:0≤me∧me<M.L.th) (hN:0≤N) (ht:bM M.L t N) (hd:eR M.L me t d N) (ho:Own M me m d) (h0:d.at_=3):mP M me m N (ak M me m t d):=by
 have htl:=ht.len
 rw[gq h0]
 have hs:=s9 hL hm hu hN ht (hd.fast h0)
 have hi':Idle M (aJ M me m t d.fast).2.1 me:=by
  have hi:=ho.idle (by omega)
  unfold Idle stt at hi⊢
  rw[hs.1.idle hu (ho.idle (by omega))];exact hi
 have hl2:=hs.2.1.len
 refine⟨hs.1.rel me,hs.2.1,fun _=> ?_,fun e=>by simp at e⟩
 simp only
 split
 ·unfold aH.tried
  split
  ·exact px hL (d:={ d with fast:=(aJ M me m t d.fast).2.2.2 }) ⟨hd.may,hd.lim,by omega,by omega⟩ hi' _
  ·refine⟨⟨hd.may,hd.lim,by simp,fun e=>by simp at e,fun e=>by simp at e,fun e=>by simp at e,fun e=>by simp at e,fun _=>by simp[kO.new],fun e=>by simp at e,fun e=>by simp at e,fun e=>by simp at e⟩,fun _=>hi',fun e=>by simp at e,fun e=>by simp at e,fun _=>rfl,fun _ e=>by simp[kO.new] at e,fun _ e=>by simp[kO.new] at e,fun _ e=>by simp[kO.new] at e⟩
 ·rename_i hq
  exact⟨⟨hd.may,hd.lim,hd.at_,fun e=>by simp only at e;omega,fun e=>by simp only at e;omega,fun e=>by simp only at e;omega,fun _=>hs.2.2.1 (by simpa using hq),fun e=>by simp only at e;omega,fun e=>by simp only at e;omega,fun e=>by simp only at e;omega,fun e=>by simp only at e;omega⟩,cT hi' (by simp only;omega)⟩
theorem By {d:aH} {N:Int} (hL:M.L.Ok) (hm:ff M m) (hu:0≤me∧me<M.L.th) (hN:0≤N) (ht:bM M.L t N) (hd:eR M.L me t d N) (ho:Own M me m d) (h0:d.at_=4):mP M me m N (ak M me m t d):=by
 have htl:=ht.len
 rw[gu h0]
 obtain⟨han,hno⟩:=hd.ann h0
 have hn:=hL.nd
 have hth:=hL.th
 have hb:=ho.bits h0
 have hnum:=Bt hd.may
 have hi:=ho.idle (by omega)
 have hlt:0≤M.L.task me∧M.L.task me<M.L.size:=by simp only[Ly.task,Ly.size];omega
 have hlk:0≤M.L.ticket me∧M.L.ticket me<M.L.size:=by simp only[Ly.ticket,Ly.size];omega
 have hld:0≤M.L.desc me∧M.L.desc me<M.L.size:=by simp only[Ly.desc,Ly.size];omega
 rcases(by omega:d.ann.at_=0∨d.ann.at_=1∨d.ann.at_=2∨d.ann.at_=3∨d.ann.at_=4) with a0 | a0 | a0 | a0 | a0
 ·have e1:aW M me m d.ann=(false,st M m (M.L.task me) d.ann.bits,{ d.ann with at_:=1 }):=by unfold aW;rw[if_pos a0]
  rw[e1]
  have hbr:0≤d.ann.bits∧d.ann.bits<18446744073709551616:=by rw[hb];exact hnum.2
  have ed:ld M (st M m (M.L.task me) d.ann.bits) (M.L.desc me)=ld M m (M.L.desc me):=aq _ _ (by simp only[Ly.task,Ly.desc];omega)
  refine⟨⟨kP hm.rng _ _ hbr,fun a h1 h2=> ?_,fun v h1 h2=> .inl (aq _ _ ?_),fun v h1 h2 h3=>aq _ _ ?_,fun v h1 h2 h3=>aq _ _ ?_,fun n h1 h2=> .inl (aq _ _ ?_)⟩,ht.mono (by omega),fun _=>⟨⟨hd.may,hd.lim,by simp only[Bool.false_eq_true,if_false];omega,fun e=>by simp only[Bool.false_eq_true,if_false] at e;omega,fun e=>by simp only[Bool.false_eq_true,if_false] at e;omega,fun e=>by simp only[Bool.false_eq_true,if_false] at e;omega,fun e=>by simp only[Bool.false_eq_true,if_false] at e;omega,fun _=>by simp only[Bool.false_eq_true,if_false];exact⟨by omega,hno⟩,fun e=>by simp only[Bool.false_eq_true,if_false] at e;omega,fun e=>by simp only[Bool.false_eq_true,if_false] at e;omega,fun e=>by simp only[Bool.false_eq_true,if_false] at e;omega⟩,?_⟩,fun e=>by simp at e⟩
  ·rw[aq _ _ (by simp only[Ly.task];omega)];exact hm.word a h1 h2
  ·simp only[Ly.task,Ly.desc];omega
  ·simp only[Ly.task];omega
  ·simp only[Ly.task,Ly.ticket];omega
  ·simp only[Ly.task,Ly.life];omega
  ·refine⟨fun _=> ?_,fun e=>by simp only[Bool.false_eq_true,if_false] at e;omega,fun e=>by simp only[Bool.false_eq_true,if_false] at e;omega,fun _=>hb,fun _ _=> ?_,fun _ e=> ?_,fun _ e=> ?_⟩
   ·unfold Idle stt at hi⊢;simp only;rw[ed];exact hi
   ·simp only[Bool.false_eq_true,if_false];rw[cD _ _ hlt];exact hb
   ·simp only[Bool.false_eq_true,if_false] at e;omega
   ·simp only[Bool.false_eq_true,if_false] at e;omega
 ·have e1:aW M me m d.ann=(false,add M m M.L.counter 1,{ d.ann with no:=(ld M m M.L.counter+1) % 18446744073709551616,at_:=2 }):=by unfold aW;rw[if_neg (by omega),if_pos a0]
  rw[e1]
  have hbr:0≤(ld M m M.L.counter+1) % 18446744073709551616∧(ld M m M.L.counter+1) % 18446744073709551616<18446744073709551616:=by omega
  have hS:Safe M m (add M m M.L.counter 1):=by
   unfold add
   refine xG hm hbr (.inr (by simp only[Ly.counter];omega)) (fun n h1 h2=>by simp only[Ly.counter,Ly.life];omega) (fun v h1 h2=>by simp only[Ly.counter,Ly.desc,Ly.task,Ly.ticket];omega)
  have ho2:=ho.safe hS hu
  refine⟨hS.rel me,ht.mono (by omega),fun _=>⟨⟨hd.may,hd.lim,by simp only[Bool.false_eq_true,if_false];omega,fun e=>by simp only[Bool.false_eq_true,if_false] at e;omega,fun e=>by simp only[Bool.false_eq_true,if_false] at e;omega,fun e=>by simp only[Bool.false_eq_true,if_false] at e;omega,fun e=>by simp only[Bool.false_eq_true,if_false] at e;omega,fun _=>by simp only[Bool.false_eq_true,if_false];exact⟨by omega,hbr⟩,fun e=>by simp only[Bool.false_eq_true,if_false] at e;omega,fun e=>by simp only[Bool.false_eq_true,if_false] at e;omega,fun e=>by simp only[Bool.false_eq_true,if_false] at e;omega⟩,?_⟩,fun e=>by simp at e⟩
  refine⟨fun _=>ho2.idle (by omega),fun e=>by simp only[Bool.false_eq_true,if_false] at e;omega,fun e=>by simp only[Bool.false_eq_true,if_false] at e;omega,fun _=>hb,fun _ _=>ho2.EC h0 (by omega),fun _ e=> ?_,fun _ e=> ?_⟩
  ·simp only[Bool.false_eq_true,if_false] at e;omega
  ·simp only[Bool.false_eq_true,if_false] at e;omega
 ·have e1:aW M me m d.ann=(false,st M m (M.L.ticket me) d.ann.no,{ d.ann with at_:=3 }):=by unfold aW;rw[if_neg (by omega),if_neg (by omega),if_pos a0]
  rw[e1]
  have ed:ld M (st M m (M.L.ticket me) d.ann.no) (M.L.desc me)=ld M m (M.L.desc me):=aq _ _ (by simp only[Ly.ticket,Ly.desc];omega)
  have et:ld M (st M m (M.L.ticket me) d.ann.no) (M.L.task me)=ld M m (M.L.task me):=aq _ _ (by simp only[Ly.ticket,Ly.task];omega)
  refine⟨⟨kP hm.rng _ _ hno,fun a h1 h2=> ?_,fun v h1 h2=> .inl (aq _ _ ?_),fun v h1 h2 h3=>aq _ _ ?_,fun v h1 h2 h3=>aq _ _ ?_,fun n h1 h2=> .inl (aq _ _ ?_)⟩,ht.mono (by omega),fun _=>⟨⟨hd.may,hd.lim,by simp only[Bool.false_eq_true,if_false];omega,fun e=>by simp only[Bool.false_eq_true,if_false] at e;omega,fun e=>by simp only[Bool.false_eq_true,if_false] at e;omega,fun e=>by simp only[Bool.false_eq_true,if_false] at e;omega,fun e=>by simp only[Bool.false_eq_true,if_false] at e;omega,fun _=>by simp only[Bool.false_eq_true,if_false];exact⟨by omega,hno⟩,fun e=>by simp only[Bool.false_eq_true,if_false] at e;omega,fun e=>by simp only[Bool.false_eq_true,if_false] at e;omega,fun e=>by simp only[Bool.false_eq_true,if_false] at e;omega⟩,?_⟩,fun e=>by simp at e⟩
  ·rw[aq _ _ (by simp only[Ly.ticket];omega)];exact hm.word a h1 h2
  ·simp only[Ly.ticket,Ly.desc];omega
  ·simp only[Ly.ticket,Ly.task];omega
  ·simp only[Ly.ticket];omega
  ·simp only[Ly.ticket,Ly.life];omega
  ·refine⟨fun _=> ?_,fun e=>by simp only[Bool.false_eq_true,if_false] at e;omega,fun e=>by simp only[Bool.false_eq_true,if_false] at e;omega,fun _=>hb,fun _ _=> ?_,fun _ _=> ?_,fun _ e=> ?_⟩
   ·unfold Idle stt at hi⊢;simp only;rw[ed];exact hi
   ·simp only[Bool.false_eq_true,if_false];rw[et];exact ho.EC h0 (by omega)
   ·simp only[Bool.false_eq_true,if_false];exact cD _ _ hlk
   ·simp only[Bool.false_eq_true,if_false] at e;omega
 ·have e1:aW M me m d.ann=(false,m,{ d.ann with found:=ld M m (M.L.desc me),at_:=4 }):=by unfold aW;rw[if_neg (by omega),if_neg (by omega),if_neg (by omega),if_pos a0]
  rw[e1]
  refine⟨(Safe.refl hm).rel me,ht.mono (by omega),fun _=>⟨⟨hd.may,hd.lim,by simp only[Bool.false_eq_true,if_false];omega,fun e=>by simp only[Bool.false_eq_true,if_false] at e;omega,fun e=>by simp only[Bool.false_eq_true,if_false] at e;omega,fun e=>by simp only[Bool.false_eq_true,if_false] at e;omega,fun e=>by simp only[Bool.false_eq_true,if_false] at e;omega,fun _=>by simp only[Bool.false_eq_true,if_false];exact⟨by omega,hno⟩,fun e=>by simp only[Bool.false_eq_true,if_false] at e;omega,fun e=>by simp only[Bool.false_eq_true,if_false] at e;omega,fun e=>by simp only[Bool.false_eq_true,if_false] at e;omega⟩,?_⟩,fun e=>by simp at e⟩
  exact⟨fun _=>hi,fun e=>by simp only[Bool.false_eq_true,if_false] at e;omega,fun e=>by simp only[Bool.false_eq_true,if_false] at e;omega,fun _=>hb,fun _ _=>ho.EC h0 (by omega),fun _ _=>ho.JG h0 (by omega),fun _ _=>rfl⟩
 ·have e1:aW M me m d.ann=(true,st M m (M.L.desc me) (cL (getD' d.ann.found).cm),{ d.ann with at_:=5 }):=by unfold aW;rw[if_neg (by omega),if_neg (by omega),if_neg (by omega),if_neg (by omega)]
  rw[e1]
  have hf:=ho.ED h0 a0
  have eg:=dH (hO d.ann.found)
  have es:ld M (st M m (M.L.desc me) (cL (getD' d.ann.found).cm)) (M.L.desc me)=cL (getD' d.ann.found).cm:=cD _ _ hld
  have et:ld M (st M m (M.L.desc me) (cL (getD' d.ann.found).cm)) (M.L.task me)=ld M m (M.L.task me):=aq _ _ (by simp only[Ly.desc,Ly.task];omega)
  have ek:ld M (st M m (M.L.desc me) (cL (getD' d.ann.found).cm)) (M.L.ticket me)=ld M m (M.L.ticket me):=aq _ _ (by simp only[Ly.desc,Ly.ticket];omega)
  refine⟨⟨kP hm.rng _ _ (dN _),fun a h1 h2=> ?_,fun v h1 h2=> ?_,fun v h1 h2 h3=>aq _ _ ?_,fun v h1 h2 h3=>aq _ _ ?_,fun n h1 h2=> .inl (aq _ _ ?_)⟩,ht.mono (by omega),fun _=>⟨⟨hd.may,hd.lim,by simp,fun e=>by simp at e,fun _=>Bh hL me t hu _ _ (by omega),fun e=>by simp at e,fun e=>by simp at e,fun e=>by simp at e,fun e=>by simp at e,fun e=>by simp at e,fun e=>by simp at e⟩,?_⟩,fun e=>by simp at e⟩
  ·rw[aq _ _ (by simp only[Ly.desc];omega)];exact hm.word a h1 h2
  ·by_cases e:v=me
   ·subst e
    refine .inr (.inr ⟨rfl,hi,?_⟩)
    simp only
    rw[es,eg,hf]
   ·exact .inl (aq _ _ (by simp only[Ly.desc];omega))
  ·simp only[Ly.desc,Ly.task];omega
  ·simp only[Ly.desc,Ly.ticket];omega
  ·simp only[Ly.desc,Ly.life];omega
  ·refine⟨fun e=>by simp at e,fun e=>by simp at e,fun _=>⟨?_,?_,rfl,?_⟩,fun e=>by simp at e,fun e=>by simp at e,fun e=>by simp at e,fun e=>by simp at e⟩
   ·unfold stt;simp only;rw[es,eg];simp[Ds.cm]
   ·simp only[if_true];rw[et];exact ho.EC h0 (by omega)
   ·simp only[if_true];rw[ek];exact(ho.JG h0 (by omega)).symm
theorem py (M:ML) (me:Int) (m:Mm) (t:cV) (h:aK):(ah M me m t h).2.2.2.u=h.u∧(ah M me m t h).2.2.2.no=h.no:=by
 by_cases h0:h.at_=0
 ·rw[jT h0];exact⟨rfl,rfl⟩
 by_cases h1:h.at_=1
 ·rw[ij h1];exact⟨rfl,rfl⟩
 by_cases h2:h.at_=2
 ·rw[ik h2]
  unfold aK.begin_
  simp only
  split
  ·exact⟨rfl,rfl⟩
  ·split
   ·exact⟨rfl,rfl⟩
   ·split<;>exact⟨rfl,rfl⟩
 by_cases h3:h.at_=3
 ·rw[il h3];exact⟨rfl,rfl⟩
 by_cases h4:h.at_=4
 ·rw[iq h4]
  simp only
  split
  ·exact⟨rfl,rfl⟩
  ·split<;>exact⟨rfl,rfl⟩
 by_cases h5:h.at_=5
 ·rw[iu h5]
  split
  ·unfold aK.bP
   simp only
   split
   ·exact⟨rfl,rfl⟩
   ·split
    ·exact⟨rfl,rfl⟩
    ·split
     ·exact⟨rfl,rfl⟩
     ·split<;>exact⟨rfl,rfl⟩
  ·exact⟨rfl,rfl⟩
 by_cases h6:h.at_=6
 ·rw[iv h6];exact⟨rfl,rfl⟩
 by_cases h7:h.at_=7
 ·rw[iw h7];exact⟨rfl,rfl⟩
 by_cases h8:h.at_=8
 ·rw[ix h8];exact⟨rfl,rfl⟩
 ·unfold ah
  simp only
  rw[if_neg h0,if_neg h1,if_neg h2,if_neg h3,if_neg h4,if_neg h5,if_neg h6,if_neg h7,if_neg h8]
  exact⟨rfl,rfl⟩
theorem DN {h:aK} (hq:(ah M me m t h).1=true) (hu:h.u=me) (h1:1≤stt M m me) (hk:gC (ld M m (M.L.task me))=true) (hno:h.no=ld M m (M.L.ticket me)) (h5:stt M m me≤5):stt M m me=5:=by
 by_cases h0:h.at_=0
 ·rw[jT h0,hu] at hq
  simp only[Bool.not_eq_true'] at hq
  unfold Ds.pend at hq
  simp only[Bool.and_eq_false_iff,decide_eq_false_iff_not] at hq
  unfold stt at h1 h5⊢
  omega
 by_cases h1':h.at_=1
 ·rw[ij h1',hu] at hq
  simp only[decide_eq_true_eq] at hq
  exact absurd hno.symm hq
 by_cases h2:h.at_=2
 ·rw[ik h2,hu] at hq
  unfold aK.begin_ at hq
  simp only at hq
  rw[if_neg (by rw[hk];decide)] at hq
  split at hq
  ·simp at hq
  ·split at hq<;>simp at hq
 by_cases h3:h.at_=3
 ·rw[il h3] at hq;simp at hq
 by_cases h4:h.at_=4
 ·rw[iq h4] at hq;simp at hq
 by_cases h5':h.at_=5
 ·rw[iu h5'] at hq
  split at hq<;>simp at hq
 by_cases h6:h.at_=6
 ·rw[iv h6] at hq;simp at hq
 by_cases h7:h.at_=7
 ·rw[iw h7] at hq;simp at hq
 by_cases h8:h.at_=8
 ·rw[ix h8] at hq;simp at hq
 ·unfold ah at hq
  simp only at hq
  rw[if_neg h0,if_neg h1',if_neg h2,if_neg h3,if_neg h4,if_neg h5',if_neg h6,if_neg h7,if_neg h8] at hq
  simp at hq
theorem Bz {d:aH} {N:Int} (hL:M.L.Ok) (hm:ff M m) (hu:0≤me∧me<M.L.th) (hN:0≤N) (ht:bM M.L t N) (hd:eR M.L me t d N) (ho:Own M me m d) (h0:d.at_=5):mP M me m N (ak M me m t d):=by
 have htl:=ht.len
 rw[fG h0]
 have hw:=ho.owns h0
 have hs:=lT hL hm hu hN ht (hd.help (.inr h0))
 have hl2:=hs.2.1.len
 have ho2:=ho.safe hs.1 hu
 have hu2:(ah M me m t d.help).2.2.2.u=d.help.u∧(ah M me m t d.help).2.2.2.no=d.help.no:=py M me m t d.help
 refine⟨hs.1.rel me,hs.2.1,fun _=> ?_,fun e=>by simp at e⟩
 simp only
 split
 ·rename_i hq
  have hend:=DN hq hw.2.2.1 hw.1 (by rw[hw.2.1];exact(Bt hd.may).1) hw.2.2.2
  refine⟨⟨hd.may,hd.lim,by simp,fun e=>by simp at e,fun e=>by simp at e,fun e=>by simp at e,fun e=>by simp at e,fun e=>by simp at e,fun e=>by simp at e,fun e=>by simp at e,fun e=>by simp at e⟩,fun e=>by simp at e,fun _=> ?_,fun e=>by simp at e,fun e=>by simp at e,fun e=>by simp at e,fun e=>by simp at e,fun e=>by simp at e⟩
  exact hs.1.done hu (hend (hm.desc me hu.1 hu.2).MJ)
 ·rename_i hq
  have hw2:=ho2.owns h0
  exact⟨⟨hd.may,hd.lim,hd.at_,fun e=>by simp only at e;omega,fun _=>hs.2.2 (by simpa using hq),fun e=>by simp only at e;omega,fun e=>by simp only at e;omega,fun e=>by simp only at e;omega,fun e=>by simp only at e;omega,fun e=>by simp only at e;omega,fun e=>by simp only at e;omega⟩,fun e=>by simp only at e;omega,fun e=>by simp only at e;omega,fun _=>⟨hw2.1,hw2.2.1,hu2.1.trans hw2.2.2.1,hu2.2.trans hw2.2.2.2⟩,fun e=>by simp only at e;omega,fun e=>by simp only at e;omega,fun e=>by simp only at e;omega,fun e=>by simp only at e;omega⟩
theorem BA {d:aH} {N:Int} (hL:M.L.Ok) (hm:ff M m) (_:0≤me∧me<M.L.th) (hN:0≤N) (ht:bM M.L t N) (hd:eR M.L me t d N) (ho:Own M me m d) (h0:d.at_=6):mP M me m N (ak M me m t d):=by
 have htl:=ht.len
 rw[gv h0]
 have hi:Idle M m me:= .inr (ho.done h0)
 exact⟨(Safe.refl hm).rel me,ht.mono (by omega),fun _=>px (N:=N+1) hL (show Base M.L t d (N+1) from ⟨hd.may,hd.lim,by omega,by omega⟩) hi _,fun e=>by simp at e⟩
theorem BC {d:aH} {N:Int} (hL:M.L.Ok) (hm:ff M m) (hu:0≤me∧me<M.L.th) (hN:0≤N) (ht:bM M.L t N) (hd:eR M.L me t d N) (ho:Own M me m d) (h0:d.at_=7):mP M me m N (ak M me m t d):=by
 have htl:=ht.len
 rw[fH h0]
 have hi:=ho.idle (by omega)
 have hf:=(hd.find h0).1
 have hsum:=(hd.find h0).2
 have hs:=jc hL hm hu hN hf.1 hf.2
 have hok:=hs.2.ok
 have hct:=ke M m d.find
 simp only at hok
 have hi':Idle M (ax M m d.find).2.1 me:=by
  unfold Idle stt at hi⊢
  rw[hs.1.idle hu (ho.idle (by omega))];exact hi
 split
 ·have hrt:bM M.L (t.retire (ax M m d.find).2.2.aQ) (N+1):=ig ht hok.aQ.1 (by omega)
  exact⟨hs.1.rel me,hrt,fun _=>jU (d:={ d with find:=(ax M m d.find).2.2 }) ⟨hd.may,hd.lim,hrt.len,by omega⟩ hi',fun e=>by simp at e⟩
 ·rename_i hq
  exact⟨hs.1.rel me,ht.mono (by omega),fun _=>⟨⟨hd.may,hd.lim,hd.at_,fun e=>by simp only at e;omega,fun e=>by simp only at e;omega,fun e=>by simp only at e;omega,fun e=>by simp only at e;omega,fun e=>by simp only at e;omega,fun _=>⟨⟨hok,hs.2.live (by simpa using hq)⟩,by simp only;omega⟩,fun e=>by simp only at e;omega,fun e=>by simp only at e;omega⟩,cT hi' (by simp only;omega)⟩,fun e=>by simp at e⟩
theorem BD {d:aH} {N:Int} (hL:M.L.Ok) (hm:ff M m) (hu:0≤me∧me<M.L.th) (_:0≤N) (ht:bM M.L t N) (hd:eR M.L me t d N) (ho:Own M me m d) (h0:d.at_=8):mP M me m N (ak M me m t d):=by
 have htl:=ht.len
 rw[gw h0]
 have hi:=ho.idle (by omega)
 have hdr:=hd.drop h0
 have hS:Safe M m (ey M m d.drop).2.1:=by
  unfold ey
  simp only
  rw[hdr.1]
  exact my hm (by omega) hL hu hdr.2
 have hi':Idle M (ey M m d.drop).2.1 me:=by
  unfold Idle stt at hi⊢
  rw[hS.idle hu (ho.idle (by omega))];exact hi
 split
 ·exact⟨hS.rel me,ht.mono (by omega),fun _=>⟨⟨hd.may,hd.lim,by simp,fun e=>by simp at e,fun e=>by simp at e,fun e=>by simp at e,fun e=>by simp at e,fun e=>by simp at e,fun e=>by simp at e,fun e=>by simp at e,fun _ s e=>by simp at e⟩,cT hi' (by simp)⟩,fun _=>hi'⟩
 ·rename_i hq
  have hat:(ey M m d.drop).2.2.at_=d.drop.at_+1:=rfl
  have hq':¬ 2≤d.drop.at_+1:=by
   intro e
   exact hq (decide_eq_true e)
  exact⟨hS.rel me,ht.mono (by omega),fun _=>⟨⟨hd.may,hd.lim,hd.at_,fun e=>by simp only at e;omega,fun e=>by simp only at e;omega,fun e=>by simp only at e;omega,fun e=>by simp only at e;omega,fun e=>by simp only at e;omega,fun e=>by simp only at e;omega,fun _=>⟨hdr.1,by simp only;omega⟩,fun e=>by simp only at e;omega⟩,cT hi' (by simp only;omega)⟩,fun e=>by simp at e⟩
theorem BE {d:aH} {N:Int} (hL:M.L.Ok) (hm:ff M m) (hu:0≤me∧me<M.L.th) (_:0≤N) (ht:bM M.L t N) (hd:eR M.L me t d N) (ho:Own M me m d) (h0:d.at_=9):mP M me m N (ak M me m t d):=by
 have htl:=ht.len
 rw[iA h0]
 have hi:=ho.idle (by omega)
 have hs:=xJ hL hm ht (hd.sweep h0)
 have hi':Idle M (bK M m t d.sweep).2.1 me:=by
  unfold Idle stt at hi⊢
  rw[hs.1.idle hu (ho.idle (by omega))];exact hi
 exact⟨hs.1.rel me,hs.2.1.mono (by omega),fun _=>⟨⟨hd.may,hd.lim,hd.at_,fun e=>by simp only at e;omega,fun e=>by simp only at e;omega,fun e=>by simp only at e;omega,fun e=>by simp only at e;omega,fun e=>by simp only at e;omega,fun e=>by simp only at e;omega,fun e=>by simp only at e;omega,fun _=>hs.2.2.1.mono (by omega)⟩,cT hi' (by simp only;omega)⟩,fun _=>hi'⟩
theorem ya {d:aH} {N:Int} (hL:M.L.Ok) (hm:ff M m) (hu:0≤me∧me<M.L.th) (hN:0≤N) (ht:bM M.L t N) (hd:eR M.L me t d N) (ho:Own M me m d):mP M me m N (ak M me m t d):=by
 rcases(by have:=hd.at_;omega:d.at_=0∨d.at_=1∨d.at_=2∨d.at_=3∨d.at_=4∨d.at_=5∨d.at_=6∨d.at_=7∨d.at_=8∨d.at_=9) with h0 | h0 | h0 | h0 | h0 | h0 | h0 | h0 | h0 | h0
 ·exact Bu hL hm hu hN ht hd ho h0
 ·exact Bv hL hm hu hN ht hd ho h0
 ·exact Bw hL hm hu hN ht hd ho h0
 ·exact Bx hL hm hu hN ht hd ho h0
 ·exact By hL hm hu hN ht hd ho h0
 ·exact Bz hL hm hu hN ht hd ho h0
 ·exact BA hL hm hu hN ht hd ho h0
 ·exact BC hL hm hu hN ht hd ho h0
 ·exact BD hL hm hu hN ht hd ho h0
 ·exact BE hL hm hu hN ht hd ho h0
end Go.Proofs.YtbcnnhlpilmmbaaGreat
