/- Texts that are wanted for PTopClaims.
   Conditions: none. -/
import Derived.Test.YtbcnnhlpilmmbaaGreatJPTopClaims20
set_option maxRecDepth 100000
set_option maxHeartbeats 6400000
namespace Go.Proofs.YtbcnnhlpilmmbaaGreat
open Go Go.RowKit
theorem GC (M:ML) (m:Mm) (h:oT):(cB M m h).2.1=m:=by
 unfold cB
 split
 ·split<;>rfl
 ·rfl
variable {M:ML} {me:Int} {m:Mm} {t:cg}
theorem my {d:aI} (h0:d.at_=0):al M me m t d=(false,m,t,if (cB M m d.head).1 then aI.looked M.L me t { d with head:=(cB M m d.head).2.2 } else { d with head:=(cB M m d.head).2.2 }):=by
 unfold al;simp only;rw[if_pos h0];simp only[GC]
theorem iK {d:aI} (h0:d.at_=1):al M me m t d=(false,(ah M me m t d.help).2.1,(ah M me m t d.help).2.2.1,if (ah M me m t d.help).1 then aI.want M.L me (ah M me m t d.help).2.2.1 { d with help:=(ah M me m t d.help).2.2.2 } else { d with help:=(ah M me m t d.help).2.2.2 }):=by
 unfold al;simp only;rw[if_neg (by rw[h0];decide)];rw[if_pos h0]
theorem mA {d:aI} (h0:d.at_=2):al M me m t d=(false,(aK M me m t d.bm).2.1,(aK M me m t d.bm).2.2.1,if (aK M me m t d.bm).1 then aI.ensured M.L me { d with bm:=(aK M me m t d.bm).2.2.2 } else { d with bm:=(aK M me m t d.bm).2.2.2 }):=by
 unfold al;simp only;rw[if_neg (by rw[h0];decide)];rw[if_neg (by rw[h0];decide)];rw[if_pos h0]
theorem kf {d:aI} (h0:d.at_=3):al M me m t d=(false,(aH M me m t d.fast).2.1,(aH M me m t d.fast).2.2.1,if (aH M me m t d.fast).1 then aI.tried M.L me { d with fast:=(aH M me m t d.fast).2.2.2 } else { d with fast:=(aH M me m t d.fast).2.2.2 }):=by
 unfold al;simp only;rw[if_neg (by rw[h0];decide)];rw[if_neg (by rw[h0];decide)];rw[if_neg (by rw[h0];decide)];rw[if_pos h0]
theorem kg {d:aI} (h0:d.at_=4):al M me m t d=(false,(aZ M me m d.ann).2.1,t,if (aZ M me m d.ann).1 then { d with ann:=(aZ M me m d.ann).2.2,at_:=5,help:= .new M.L me (aZ M me m d.ann).2.2.no d.limit } else { d with ann:=(aZ M me m d.ann).2.2 }):=by
 unfold al;simp only;rw[if_neg (by rw[h0];decide)];rw[if_neg (by rw[h0];decide)];rw[if_neg (by rw[h0];decide)];rw[if_neg (by rw[h0];decide)];rw[if_pos h0]
theorem gI {d:aI} (h0:d.at_=5):al M me m t d=(false,(ah M me m t d.help).2.1,(ah M me m t d.help).2.2.1,if (ah M me m t d.help).1 then { d with help:=(ah M me m t d.help).2.2.2,at_:=6 } else { d with help:=(ah M me m t d.help).2.2.2 }):=by
 unfold al;simp only;rw[if_neg (by rw[h0];decide)];rw[if_neg (by rw[h0];decide)];rw[if_neg (by rw[h0];decide)];rw[if_neg (by rw[h0];decide)];rw[if_neg (by rw[h0];decide)];rw[if_pos h0]
theorem kh {d:aI} (h0:d.at_=6):al M me m t d=(false,m,t,d.told M.L me (getD' (ld M m (M.L.desc me))).res):=by
 unfold al;simp only;rw[if_neg (by rw[h0];decide)];rw[if_neg (by rw[h0];decide)];rw[if_neg (by rw[h0];decide)];rw[if_neg (by rw[h0];decide)];rw[if_neg (by rw[h0];decide)];rw[if_neg (by rw[h0];decide)];rw[if_pos h0]
theorem iL {d:aI} (h0:d.at_=7):al M me m t d=if (aw M m d.find).1 then (false,(aw M m d.find).2.1,t.retire (aw M m d.find).2.2.aO,aI.leave me { d with find:=(aw M m d.find).2.2 }) else (false,(aw M m d.find).2.1,t,{ d with find:=(aw M m d.find).2.2 }):=by
 unfold al;simp only;rw[if_neg (by rw[h0];decide)];rw[if_neg (by rw[h0];decide)];rw[if_neg (by rw[h0];decide)];rw[if_neg (by rw[h0];decide)];rw[if_neg (by rw[h0];decide)];rw[if_neg (by rw[h0];decide)];rw[if_neg (by rw[h0];decide)];rw[if_pos h0]
theorem ki {d:aI} (h0:d.at_=8):al M me m t d=if (ei M m d.drop).1 then (!uM M.L t,(ei M m d.drop).2.1,t,{ d with drop:=(ei M m d.drop).2.2,at_:=9,sweep:=none }) else (false,(ei M m d.drop).2.1,t,{ d with drop:=(ei M m d.drop).2.2 }):=by
 unfold al;simp only;rw[if_neg (by rw[h0];decide)];rw[if_neg (by rw[h0];decide)];rw[if_neg (by rw[h0];decide)];rw[if_neg (by rw[h0];decide)];rw[if_neg (by rw[h0];decide)];rw[if_neg (by rw[h0];decide)];rw[if_neg (by rw[h0];decide)];rw[if_neg (by rw[h0];decide)];rw[if_pos h0]
theorem mB {d:aI} (h0:d.at_=9):al M me m t d=((a7 M m t d.sweep).1,(a7 M m t d.sweep).2.1,(a7 M m t d.sweep).2.2.1,{ d with sweep:=(a7 M m t d.sweep).2.2.2 }):=by
 unfold al;simp only;rw[if_neg (by rw[h0];decide)];rw[if_neg (by rw[h0];decide)];rw[if_neg (by rw[h0];decide)];rw[if_neg (by rw[h0];decide)];rw[if_neg (by rw[h0];decide)];rw[if_neg (by rw[h0];decide)];rw[if_neg (by rw[h0];decide)];rw[if_neg (by rw[h0];decide)];rw[if_neg (by rw[h0];decide)]
structure ou (M:ML) (me:Int) (m:Mm) (N:Int) (r:Bool×Mm×cg×aI):Prop where
 rel:Rel M me m r.2.1
 st:bL M.L r.2.2.1 (N+1)
 ok:r.1=false→fq M.L me r.2.2.1 r.2.2.2 (N+1)∧Own M me r.2.1 r.2.2.2
 fin:r.1=true→Idle M r.2.1 me
structure Base (L:Ly) (t:cg) (d:aI) (N:Int):Prop where
 may:d.task.may=true
 lim:0≤d.limit∧d.limit≤1000
 len:(t.ret.length:Int)≤N
 N0:0≤N
theorem du {d:aI} (hi:Idle M m me) (h:d.at_≤3∨7≤d.at_):Own M me m d:=
 ⟨fun _=>hi,fun e=>by omega,fun e=>by omega,fun e=>by omega,fun e=>by omega,fun e=>by omega,fun e=>by omega⟩
theorem sm {d:aI} {N:Int} (hL:M.L.Ok) (hd:Base M.L t d N) (hi:Idle M m me):fq M.L me t (d.aR M.L me) N∧Own M me m (d.aR M.L me):=
 ⟨⟨hd.may,hd.lim,by simp[aI.aR],fun e=>by simp[aI.aR] at e,fun e=>by simp[aI.aR] at e,fun e=>by simp[aI.aR] at e,fun _=>Gw hL hd.may hd.lim hd.len hd.N0,fun e=>by simp[aI.aR] at e,fun e=>by simp[aI.aR] at e,fun e=>by simp[aI.aR] at e,fun e=>by simp[aI.aR] at e⟩,du hi (by simp[aI.aR])⟩
theorem kj {d:aI} {N:Int} (hd:Base M.L t d N) (hi:Idle M m me):fq M.L me t (d.leave me) N∧Own M me m (d.leave me):=
 ⟨⟨hd.may,hd.lim,by simp[aI.leave],fun e=>by simp[aI.leave] at e,fun e=>by simp[aI.leave] at e,fun e=>by simp[aI.leave] at e,fun e=>by simp[aI.leave] at e,fun e=>by simp[aI.leave] at e,fun e=>by simp[aI.leave] at e,fun _=>⟨rfl,by simp[aI.leave]⟩,fun e=>by simp[aI.leave] at e⟩,du hi (by simp[aI.leave])⟩
theorem pY {d:aI} {N:Int} (hL:M.L.Ok) (hd:Base M.L t d N) (hi:Idle M m me):fq M.L me t (d.want M.L me t) N∧Own M me m (d.want M.L me t):=by
 unfold aI.want
 split
 ·exact⟨⟨hd.may,hd.lim,by simp,fun e=>by simp at e,fun e=>by simp at e,fun _=>BR M.L N,fun e=>by simp at e,fun e=>by simp at e,fun e=>by simp at e,fun e=>by simp at e,fun e=>by simp at e⟩,du hi (by simp)⟩
 ·exact sm hL hd hi
theorem pZ {d:aI} {N:Int} (hL:M.L.Ok) (hd:Base M.L t d N) (hi:Idle M m me) (r:lQ):fq M.L me t (d.told M.L me r) N∧Own M me m (d.told M.L me r):=by
 unfold aI.told
 simp only
 split
 ·exact kj (d:={ d with res:=r }) ⟨hd.may,hd.lim,hd.len,hd.N0⟩ hi
 ·have hf:=xu hL me hd.may d.limit
  have hl:=hd.len
  exact⟨⟨hd.may,hd.lim,by simp,fun e=>by simp at e,fun e=>by simp at e,fun e=>by simp at e,fun e=>by simp at e,fun e=>by simp at e,fun _=>⟨⟨hf.1.mono hd.N0,hf.2⟩,by simp[aB.new];exact hl⟩,fun e=>by simp at e,fun e=>by simp at e⟩,du hi (by simp)⟩
theorem Cj {d:aI} {N:Int} (hL:M.L.Ok) (hm:dY M m) (_:0≤me∧me<M.L.th) (hN:0≤N) (ht:bL M.L t N) (hd:fq M.L me t d N) (ho:Own M me m d) (h0:d.at_=0):ou M me m N (al M me m t d):=by
 have htl:=ht.len
 rw[my h0]
 have hi:=ho.idle (by omega)
 have hs:=ED (m:=m) (hd.head h0)
 refine⟨(Safe.refl hm).rel me,ht.mono (by omega),fun _=> ?_,fun e=>by simp at e⟩
 simp only
 have hb:Base M.L t { d with head:=(cB M m d.head).2.2 } (N+1):=⟨hd.may,hd.lim,by omega,by omega⟩
 split
 ·unfold aI.looked
  split
  ·exact pY hL hb hi
  ·rename_i hq
   have h2:=hs.2.2
   exact⟨⟨hd.may,hd.lim,by simp,fun e=>by simp at e,fun _=>B6 hL me t (by have h3:=h2;simp only at hq⊢;omega) _ _ (by omega),fun e=>by simp at e,fun e=>by simp at e,fun e=>by simp at e,fun e=>by simp at e,fun e=>by simp at e,fun e=>by simp at e⟩,du hi (by simp)⟩
 ·rename_i hq
  exact⟨⟨hd.may,hd.lim,hd.at_,fun _=>hs.2.1 (by simpa using hq),fun e=>by simp only at e;omega,fun e=>by simp only at e;omega,fun e=>by simp only at e;omega,fun e=>by simp only at e;omega,fun e=>by simp only at e;omega,fun e=>by simp only at e;omega,fun e=>by simp only at e;omega⟩,du hi (by simp only;omega)⟩
theorem Ck {d:aI} {N:Int} (hL:M.L.Ok) (hm:dY M m) (hu:0≤me∧me<M.L.th) (hN:0≤N) (ht:bL M.L t N) (hd:fq M.L me t d N) (ho:Own M me m d) (h0:d.at_=1):ou M me m N (al M me m t d):=by
 have htl:=ht.len
 rw[iK h0]
 have hs:=oF hL hm hu hN ht (hd.help (.inl h0))
 have hi':Idle M (ah M me m t d.help).2.1 me:=by
  have hi:=ho.idle (by omega)
  unfold Idle stt at hi⊢
  rw[hs.1.idle hu (ho.idle (by omega))];exact hi
 have hl2:=hs.2.1.len
 refine⟨hs.1.rel me,hs.2.1,fun _=> ?_,fun e=>by simp at e⟩
 simp only
 split
 ·exact pY hL (d:={ d with help:=(ah M me m t d.help).2.2.2 }) ⟨hd.may,hd.lim,by omega,by omega⟩ hi'
 ·rename_i hq
  exact⟨⟨hd.may,hd.lim,hd.at_,fun e=>by simp only at e;omega,fun _=>hs.2.2 (by simpa using hq),fun e=>by simp only at e;omega,fun e=>by simp only at e;omega,fun e=>by simp only at e;omega,fun e=>by simp only at e;omega,fun e=>by simp only at e;omega,fun e=>by simp only at e;omega⟩,du hi' (by simp only;omega)⟩
theorem Cl {d:aI} {N:Int} (hL:M.L.Ok) (hm:dY M m) (hu:0≤me∧me<M.L.th) (hN:0≤N) (ht:bL M.L t N) (hd:fq M.L me t d N) (ho:Own M me m d) (h0:d.at_=2):ou M me m N (al M me m t d):=by
 have htl:=ht.len
 rw[mA h0]
 have hs:=yw (me:=me) hL hm ht (hd.bm h0)
 have hi':Idle M (aK M me m t d.bm).2.1 me:=by
  have hi:=ho.idle (by omega)
  unfold Idle stt at hi⊢
  rw[hs.1.idle hu (ho.idle (by omega))];exact hi
 have hl2:=hs.2.1.len
 refine⟨hs.1.rel me,hs.2.1.mono (by omega),fun _=> ?_,fun e=>by simp at e⟩
 simp only
 split
 ·unfold aI.ensured
  split
  ·exact kj (d:={ d with bm:=(aK M me m t d.bm).2.2.2,res:=⟨4,false,0⟩ }) ⟨hd.may,hd.lim,by omega,by omega⟩ hi'
  ·exact sm hL (d:={ d with bm:=(aK M me m t d.bm).2.2.2 }) ⟨hd.may,hd.lim,by omega,by omega⟩ hi'
 ·rename_i hq
  exact⟨⟨hd.may,hd.lim,hd.at_,fun e=>by simp only at e;omega,fun e=>by simp only at e;omega,fun _=>(hs.2.2 (by simpa using hq)).mono (by omega),fun e=>by simp only at e;omega,fun e=>by simp only at e;omega,fun e=>by simp only at e;omega,fun e=>by simp only at e;omega,fun e=>by simp only at e;omega⟩,du hi' (by simp only;omega)⟩
theorem Cm {d:aI} {N:Int} (hL:M.L.Ok) (hm:dY M m) (hu:0≤me∧me<M.L.th) (hN:0≤N) (ht:bL M.L t N) (hd:fq M.L me t d N) (ho:Own M me m d) (h0:d.at_=3):ou M me m N (al M me m t d):=by
 have htl:=ht.len
 rw[kf h0]
 have hs:=yR hL hm hu hN ht (hd.fast h0)
 have hi':Idle M (aH M me m t d.fast).2.1 me:=by
  have hi:=ho.idle (by omega)
  unfold Idle stt at hi⊢
  rw[hs.1.idle hu (ho.idle (by omega))];exact hi
 have hl2:=hs.2.1.len
 refine⟨hs.1.rel me,hs.2.1,fun _=> ?_,fun e=>by simp at e⟩
 simp only
 split
 ·unfold aI.tried
  split
  ·exact pZ hL (d:={ d with fast:=(aH M me m t d.fast).2.2.2 }) ⟨hd.may,hd.lim,by omega,by omega⟩ hi' _
  ·refine⟨⟨hd.may,hd.lim,by simp,fun e=>by simp at e,fun e=>by simp at e,fun e=>by simp at e,fun e=>by simp at e,fun _=>by simp[lz.new],fun e=>by simp at e,fun e=>by simp at e,fun e=>by simp at e⟩,fun _=>hi',fun e=>by simp at e,fun e=>by simp at e,fun _=>rfl,fun _ e=>by simp[lz.new] at e,fun _ e=>by simp[lz.new] at e,fun _ e=>by simp[lz.new] at e⟩
 ·rename_i hq
  exact⟨⟨hd.may,hd.lim,hd.at_,fun e=>by simp only at e;omega,fun e=>by simp only at e;omega,fun e=>by simp only at e;omega,fun _=>hs.2.2.1 (by simpa using hq),fun e=>by simp only at e;omega,fun e=>by simp only at e;omega,fun e=>by simp only at e;omega,fun e=>by simp only at e;omega⟩,du hi' (by simp only;omega)⟩
theorem Cn {d:aI} {N:Int} (hL:M.L.Ok) (hm:dY M m) (hu:0≤me∧me<M.L.th) (hN:0≤N) (ht:bL M.L t N) (hd:fq M.L me t d N) (ho:Own M me m d) (h0:d.at_=4):ou M me m N (al M me m t d):=by
 have htl:=ht.len
 rw[kg h0]
 obtain⟨han,hno⟩:=hd.ann h0
 have hn:=hL.nd
 have hth:=hL.th
 have hb:=ho.bits h0
 have hnum:=Ci hd.may
 have hi:=ho.idle (by omega)
 have hlt:0≤M.L.task me∧M.L.task me<M.L.size:=by simp only[Ly.task,Ly.size];omega
 have hlk:0≤M.L.ticket me∧M.L.ticket me<M.L.size:=by simp only[Ly.ticket,Ly.size];omega
 have hld:0≤M.L.desc me∧M.L.desc me<M.L.size:=by simp only[Ly.desc,Ly.size];omega
 rcases(by omega:d.ann.at_=0∨d.ann.at_=1∨d.ann.at_=2∨d.ann.at_=3∨d.ann.at_=4) with a0 | a0 | a0 | a0 | a0
 ·have e1:aZ M me m d.ann=(false,st M m (M.L.task me) d.ann.bits,{ d.ann with at_:=1 }):=by unfold aZ;rw[if_pos a0]
  rw[e1]
  have hbr:0≤d.ann.bits∧d.ann.bits<18446744073709551616:=by rw[hb];exact hnum.2
  have ed:ld M (st M m (M.L.task me) d.ann.bits) (M.L.desc me)=ld M m (M.L.desc me):=ak _ _ (by simp only[Ly.task,Ly.desc];omega)
  refine⟨⟨lA hm.rng _ _ hbr,fun a h1 h2=> ?_,fun v h1 h2=> .inl (ak _ _ ?_),fun v h1 h2 h3=>ak _ _ ?_,fun v h1 h2 h3=>ak _ _ ?_,fun n h1 h2=> .inl (ak _ _ ?_)⟩,ht.mono (by omega),fun _=>⟨⟨hd.may,hd.lim,by simp only[Bool.false_eq_true,if_false];omega,fun e=>by simp only[Bool.false_eq_true,if_false] at e;omega,fun e=>by simp only[Bool.false_eq_true,if_false] at e;omega,fun e=>by simp only[Bool.false_eq_true,if_false] at e;omega,fun e=>by simp only[Bool.false_eq_true,if_false] at e;omega,fun _=>by simp only[Bool.false_eq_true,if_false];exact⟨by omega,hno⟩,fun e=>by simp only[Bool.false_eq_true,if_false] at e;omega,fun e=>by simp only[Bool.false_eq_true,if_false] at e;omega,fun e=>by simp only[Bool.false_eq_true,if_false] at e;omega⟩,?_⟩,fun e=>by simp at e⟩
  ·rw[ak _ _ (by simp only[Ly.task];omega)];exact hm.word a h1 h2
  ·simp only[Ly.task,Ly.desc];omega
  ·simp only[Ly.task];omega
  ·simp only[Ly.task,Ly.ticket];omega
  ·simp only[Ly.task,Ly.life];omega
  ·refine⟨fun _=> ?_,fun e=>by simp only[Bool.false_eq_true,if_false] at e;omega,fun e=>by simp only[Bool.false_eq_true,if_false] at e;omega,fun _=>hb,fun _ _=> ?_,fun _ e=> ?_,fun _ e=> ?_⟩
   ·unfold Idle stt at hi⊢;simp only;rw[ed];exact hi
   ·simp only[Bool.false_eq_true,if_false];rw[cL _ _ hlt];exact hb
   ·simp only[Bool.false_eq_true,if_false] at e;omega
   ·simp only[Bool.false_eq_true,if_false] at e;omega
 ·have e1:aZ M me m d.ann=(false,add M m M.L.counter 1,{ d.ann with no:=(ld M m M.L.counter+1) % 18446744073709551616,at_:=2 }):=by unfold aZ;rw[if_neg (by omega),if_pos a0]
  rw[e1]
  have hbr:0≤(ld M m M.L.counter+1) % 18446744073709551616∧(ld M m M.L.counter+1) % 18446744073709551616<18446744073709551616:=by omega
  have hS:Safe M m (add M m M.L.counter 1):=by
   unfold add
   refine yr hm hbr (.inr (by simp only[Ly.counter];omega)) (fun n h1 h2=>by simp only[Ly.counter,Ly.life];omega) (fun v h1 h2=>by simp only[Ly.counter,Ly.desc,Ly.task,Ly.ticket];omega)
  have ho2:=ho.safe hS hu
  refine⟨hS.rel me,ht.mono (by omega),fun _=>⟨⟨hd.may,hd.lim,by simp only[Bool.false_eq_true,if_false];omega,fun e=>by simp only[Bool.false_eq_true,if_false] at e;omega,fun e=>by simp only[Bool.false_eq_true,if_false] at e;omega,fun e=>by simp only[Bool.false_eq_true,if_false] at e;omega,fun e=>by simp only[Bool.false_eq_true,if_false] at e;omega,fun _=>by simp only[Bool.false_eq_true,if_false];exact⟨by omega,hbr⟩,fun e=>by simp only[Bool.false_eq_true,if_false] at e;omega,fun e=>by simp only[Bool.false_eq_true,if_false] at e;omega,fun e=>by simp only[Bool.false_eq_true,if_false] at e;omega⟩,?_⟩,fun e=>by simp at e⟩
  refine⟨fun _=>ho2.idle (by omega),fun e=>by simp only[Bool.false_eq_true,if_false] at e;omega,fun e=>by simp only[Bool.false_eq_true,if_false] at e;omega,fun _=>hb,fun _ _=>ho2.Fq h0 (by omega),fun _ e=> ?_,fun _ e=> ?_⟩
  ·simp only[Bool.false_eq_true,if_false] at e;omega
  ·simp only[Bool.false_eq_true,if_false] at e;omega
 ·have e1:aZ M me m d.ann=(false,st M m (M.L.ticket me) d.ann.no,{ d.ann with at_:=3 }):=by unfold aZ;rw[if_neg (by omega),if_neg (by omega),if_pos a0]
  rw[e1]
  have ed:ld M (st M m (M.L.ticket me) d.ann.no) (M.L.desc me)=ld M m (M.L.desc me):=ak _ _ (by simp only[Ly.ticket,Ly.desc];omega)
  have et:ld M (st M m (M.L.ticket me) d.ann.no) (M.L.task me)=ld M m (M.L.task me):=ak _ _ (by simp only[Ly.ticket,Ly.task];omega)
  refine⟨⟨lA hm.rng _ _ hno,fun a h1 h2=> ?_,fun v h1 h2=> .inl (ak _ _ ?_),fun v h1 h2 h3=>ak _ _ ?_,fun v h1 h2 h3=>ak _ _ ?_,fun n h1 h2=> .inl (ak _ _ ?_)⟩,ht.mono (by omega),fun _=>⟨⟨hd.may,hd.lim,by simp only[Bool.false_eq_true,if_false];omega,fun e=>by simp only[Bool.false_eq_true,if_false] at e;omega,fun e=>by simp only[Bool.false_eq_true,if_false] at e;omega,fun e=>by simp only[Bool.false_eq_true,if_false] at e;omega,fun e=>by simp only[Bool.false_eq_true,if_false] at e;omega,fun _=>by simp only[Bool.false_eq_true,if_false];exact⟨by omega,hno⟩,fun e=>by simp only[Bool.false_eq_true,if_false] at e;omega,fun e=>by simp only[Bool.false_eq_true,if_false] at e;omega,fun e=>by simp only[Bool.false_eq_true,if_false] at e;omega⟩,?_⟩,fun e=>by simp at e⟩
  ·rw[ak _ _ (by simp only[Ly.ticket];omega)];exact hm.word a h1 h2
  ·simp only[Ly.ticket,Ly.desc];omega
  ·simp only[Ly.ticket,Ly.task];omega
  ·simp only[Ly.ticket];omega
  ·simp only[Ly.ticket,Ly.life];omega
  ·refine⟨fun _=> ?_,fun e=>by simp only[Bool.false_eq_true,if_false] at e;omega,fun e=>by simp only[Bool.false_eq_true,if_false] at e;omega,fun _=>hb,fun _ _=> ?_,fun _ _=> ?_,fun _ e=> ?_⟩
   ·unfold Idle stt at hi⊢;simp only;rw[ed];exact hi
   ·simp only[Bool.false_eq_true,if_false];rw[et];exact ho.Fq h0 (by omega)
   ·simp only[Bool.false_eq_true,if_false];exact cL _ _ hlk
   ·simp only[Bool.false_eq_true,if_false] at e;omega
 ·have e1:aZ M me m d.ann=(false,m,{ d.ann with found:=ld M m (M.L.desc me),at_:=4 }):=by unfold aZ;rw[if_neg (by omega),if_neg (by omega),if_neg (by omega),if_pos a0]
  rw[e1]
  refine⟨(Safe.refl hm).rel me,ht.mono (by omega),fun _=>⟨⟨hd.may,hd.lim,by simp only[Bool.false_eq_true,if_false];omega,fun e=>by simp only[Bool.false_eq_true,if_false] at e;omega,fun e=>by simp only[Bool.false_eq_true,if_false] at e;omega,fun e=>by simp only[Bool.false_eq_true,if_false] at e;omega,fun e=>by simp only[Bool.false_eq_true,if_false] at e;omega,fun _=>by simp only[Bool.false_eq_true,if_false];exact⟨by omega,hno⟩,fun e=>by simp only[Bool.false_eq_true,if_false] at e;omega,fun e=>by simp only[Bool.false_eq_true,if_false] at e;omega,fun e=>by simp only[Bool.false_eq_true,if_false] at e;omega⟩,?_⟩,fun e=>by simp at e⟩
  exact⟨fun _=>hi,fun e=>by simp only[Bool.false_eq_true,if_false] at e;omega,fun e=>by simp only[Bool.false_eq_true,if_false] at e;omega,fun _=>hb,fun _ _=>ho.Fq h0 (by omega),fun _ _=>ho.Kj h0 (by omega),fun _ _=>rfl⟩
 ·have e1:aZ M me m d.ann=(true,st M m (M.L.desc me) (cv (getD' d.ann.found).cp),{ d.ann with at_:=5 }):=by unfold aZ;rw[if_neg (by omega),if_neg (by omega),if_neg (by omega),if_neg (by omega)]
  rw[e1]
  have hf:=ho.Gy h0 a0
  have eg:=dB (iz d.ann.found)
  have es:ld M (st M m (M.L.desc me) (cv (getD' d.ann.found).cp)) (M.L.desc me)=cv (getD' d.ann.found).cp:=cL _ _ hld
  have et:ld M (st M m (M.L.desc me) (cv (getD' d.ann.found).cp)) (M.L.task me)=ld M m (M.L.task me):=ak _ _ (by simp only[Ly.desc,Ly.task];omega)
  have ek:ld M (st M m (M.L.desc me) (cv (getD' d.ann.found).cp)) (M.L.ticket me)=ld M m (M.L.ticket me):=ak _ _ (by simp only[Ly.desc,Ly.ticket];omega)
  refine⟨⟨lA hm.rng _ _ (ej _),fun a h1 h2=> ?_,fun v h1 h2=> ?_,fun v h1 h2 h3=>ak _ _ ?_,fun v h1 h2 h3=>ak _ _ ?_,fun n h1 h2=> .inl (ak _ _ ?_)⟩,ht.mono (by omega),fun _=>⟨⟨hd.may,hd.lim,by simp,fun e=>by simp at e,fun _=>B6 hL me t hu _ _ (by omega),fun e=>by simp at e,fun e=>by simp at e,fun e=>by simp at e,fun e=>by simp at e,fun e=>by simp at e,fun e=>by simp at e⟩,?_⟩,fun e=>by simp at e⟩
  ·rw[ak _ _ (by simp only[Ly.desc];omega)];exact hm.word a h1 h2
  ·by_cases e:v=me
   ·subst e
    refine .inr (.inr ⟨rfl,hi,?_⟩)
    simp only
    rw[es,eg,hf]
   ·exact .inl (ak _ _ (by simp only[Ly.desc];omega))
  ·simp only[Ly.desc,Ly.task];omega
  ·simp only[Ly.desc,Ly.ticket];omega
  ·simp only[Ly.desc,Ly.life];omega
  ·refine⟨fun e=>by simp at e,fun e=>by simp at e,fun _=>⟨?_,?_,rfl,?_⟩,fun e=>by simp at e,fun e=>by simp at e,fun e=>by simp at e,fun e=>by simp at e⟩
   ·unfold stt;simp only;rw[es,eg];simp[Ds.cp]
   ·simp only[if_true];rw[et];exact ho.Fq h0 (by omega)
   ·simp only[if_true];rw[ek];exact(ho.Kj h0 (by omega)).symm
theorem Co (M:ML) (me:Int) (m:Mm) (t:cg) (h:aM):(ah M me m t h).2.2.2.u=h.u∧(ah M me m t h).2.2.2.no=h.no:=by
 by_cases h0:h.at_=0
 ·rw[j6 h0];exact⟨rfl,rfl⟩
 by_cases h1:h.at_=1
 ·rw[j7 h1];exact⟨rfl,rfl⟩
 by_cases h2:h.at_=2
 ·rw[j8 h2]
  unfold aM.begin_
  simp only
  split
  ·exact⟨rfl,rfl⟩
  ·split
   ·exact⟨rfl,rfl⟩
   ·split<;>exact⟨rfl,rfl⟩
 by_cases h3:h.at_=3
 ·rw[j9 h3];exact⟨rfl,rfl⟩
 by_cases h4:h.at_=4
 ·rw[ka h4]
  simp only
  split
  ·exact⟨rfl,rfl⟩
  ·split<;>exact⟨rfl,rfl⟩
 by_cases h5:h.at_=5
 ·rw[kb h5]
  split
  ·unfold aM.bQ
   simp only
   split
   ·exact⟨rfl,rfl⟩
   ·split
    ·exact⟨rfl,rfl⟩
    ·split
     ·exact⟨rfl,rfl⟩
     ·split<;>exact⟨rfl,rfl⟩
  ·exact⟨rfl,rfl⟩
 by_cases h6:h.at_=6
 ·rw[kc h6];exact⟨rfl,rfl⟩
 by_cases h7:h.at_=7
 ·rw[kd h7];exact⟨rfl,rfl⟩
 by_cases h8:h.at_=8
 ·rw[ke h8];exact⟨rfl,rfl⟩
 ·unfold ah
  simp only
  rw[if_neg h0,if_neg h1,if_neg h2,if_neg h3,if_neg h4,if_neg h5,if_neg h6,if_neg h7,if_neg h8]
  exact⟨rfl,rfl⟩
theorem EE {h:aM} (hq:(ah M me m t h).1=true) (hu:h.u=me) (h1:1≤stt M m me) (hk:gb (ld M m (M.L.task me))=true) (hno:h.no=ld M m (M.L.ticket me)) (h5:stt M m me≤5):stt M m me=5:=by
 by_cases h0:h.at_=0
 ·rw[j6 h0,hu] at hq
  simp only[Bool.not_eq_true'] at hq
  unfold Ds.pend at hq
  simp only[Bool.and_eq_false_iff,decide_eq_false_iff_not] at hq
  unfold stt at h1 h5⊢
  omega
 by_cases h1':h.at_=1
 ·rw[j7 h1',hu] at hq
  simp only[decide_eq_true_eq] at hq
  exact absurd hno.symm hq
 by_cases h2:h.at_=2
 ·rw[j8 h2,hu] at hq
  unfold aM.begin_ at hq
  simp only at hq
  rw[if_neg (by rw[hk];decide)] at hq
  split at hq
  ·simp at hq
  ·split at hq<;>simp at hq
 by_cases h3:h.at_=3
 ·rw[j9 h3] at hq;simp at hq
 by_cases h4:h.at_=4
 ·rw[ka h4] at hq;simp at hq
 by_cases h5':h.at_=5
 ·rw[kb h5'] at hq
  split at hq<;>simp at hq
 by_cases h6:h.at_=6
 ·rw[kc h6] at hq;simp at hq
 by_cases h7:h.at_=7
 ·rw[kd h7] at hq;simp at hq
 by_cases h8:h.at_=8
 ·rw[ke h8] at hq;simp at hq
 ·unfold ah at hq
  simp only at hq
  rw[if_neg h0,if_neg h1',if_neg h2,if_neg h3,if_neg h4,if_neg h5',if_neg h6,if_neg h7,if_neg h8] at hq
  simp at hq
theorem Cp {d:aI} {N:Int} (hL:M.L.Ok) (hm:dY M m) (hu:0≤me∧me<M.L.th) (hN:0≤N) (ht:bL M.L t N) (hd:fq M.L me t d N) (ho:Own M me m d) (h0:d.at_=5):ou M me m N (al M me m t d):=by
 have htl:=ht.len
 rw[gI h0]
 have hw:=ho.owns h0
 have hs:=oF hL hm hu hN ht (hd.help (.inr h0))
 have hl2:=hs.2.1.len
 have ho2:=ho.safe hs.1 hu
 have hu2:(ah M me m t d.help).2.2.2.u=d.help.u∧(ah M me m t d.help).2.2.2.no=d.help.no:=Co M me m t d.help
 refine⟨hs.1.rel me,hs.2.1,fun _=> ?_,fun e=>by simp at e⟩
 simp only
 split
 ·rename_i hq
  have hend:=EE hq hw.2.2.1 hw.1 (by rw[hw.2.1];exact(Ci hd.may).1) hw.2.2.2
  refine⟨⟨hd.may,hd.lim,by simp,fun e=>by simp at e,fun e=>by simp at e,fun e=>by simp at e,fun e=>by simp at e,fun e=>by simp at e,fun e=>by simp at e,fun e=>by simp at e,fun e=>by simp at e⟩,fun e=>by simp at e,fun _=> ?_,fun e=>by simp at e,fun e=>by simp at e,fun e=>by simp at e,fun e=>by simp at e,fun e=>by simp at e⟩
  exact hs.1.done hu (hend (hm.desc me hu.1 hu.2).Nq)
 ·rename_i hq
  have hw2:=ho2.owns h0
  exact⟨⟨hd.may,hd.lim,hd.at_,fun e=>by simp only at e;omega,fun _=>hs.2.2 (by simpa using hq),fun e=>by simp only at e;omega,fun e=>by simp only at e;omega,fun e=>by simp only at e;omega,fun e=>by simp only at e;omega,fun e=>by simp only at e;omega,fun e=>by simp only at e;omega⟩,fun e=>by simp only at e;omega,fun e=>by simp only at e;omega,fun _=>⟨hw2.1,hw2.2.1,hu2.1.trans hw2.2.2.1,hu2.2.trans hw2.2.2.2⟩,fun e=>by simp only at e;omega,fun e=>by simp only at e;omega,fun e=>by simp only at e;omega,fun e=>by simp only at e;omega⟩
theorem Cq {d:aI} {N:Int} (hL:M.L.Ok) (hm:dY M m) (_:0≤me∧me<M.L.th) (hN:0≤N) (ht:bL M.L t N) (hd:fq M.L me t d N) (ho:Own M me m d) (h0:d.at_=6):ou M me m N (al M me m t d):=by
 have htl:=ht.len
 rw[kh h0]
 have hi:Idle M m me:= .inr (ho.done h0)
 exact⟨(Safe.refl hm).rel me,ht.mono (by omega),fun _=>pZ (N:=N+1) hL (show Base M.L t d (N+1) from ⟨hd.may,hd.lim,by omega,by omega⟩) hi _,fun e=>by simp at e⟩
theorem Cr {d:aI} {N:Int} (hL:M.L.Ok) (hm:dY M m) (hu:0≤me∧me<M.L.th) (hN:0≤N) (ht:bL M.L t N) (hd:fq M.L me t d N) (ho:Own M me m d) (h0:d.at_=7):ou M me m N (al M me m t d):=by
 have htl:=ht.len
 rw[iL h0]
 have hi:=ho.idle (by omega)
 have hf:=(hd.find h0).1
 have hsum:=(hd.find h0).2
 have hs:=gm hL hm hu hN hf.1 hf.2
 have hok:=hs.2.ok
 have hct:=iI M m d.find
 simp only at hok
 have hi':Idle M (aw M m d.find).2.1 me:=by
  unfold Idle stt at hi⊢
  rw[hs.1.idle hu (ho.idle (by omega))];exact hi
 split
 ·have hrt:bL M.L (t.retire (aw M m d.find).2.2.aO) (N+1):=iJ ht hok.aO.1 (by omega)
  exact⟨hs.1.rel me,hrt,fun _=>kj (d:={ d with find:=(aw M m d.find).2.2 }) ⟨hd.may,hd.lim,hrt.len,by omega⟩ hi',fun e=>by simp at e⟩
 ·rename_i hq
  exact⟨hs.1.rel me,ht.mono (by omega),fun _=>⟨⟨hd.may,hd.lim,hd.at_,fun e=>by simp only at e;omega,fun e=>by simp only at e;omega,fun e=>by simp only at e;omega,fun e=>by simp only at e;omega,fun e=>by simp only at e;omega,fun _=>⟨⟨hok,hs.2.live (by simpa using hq)⟩,by simp only;omega⟩,fun e=>by simp only at e;omega,fun e=>by simp only at e;omega⟩,du hi' (by simp only;omega)⟩,fun e=>by simp at e⟩
theorem Cs {d:aI} {N:Int} (hL:M.L.Ok) (hm:dY M m) (hu:0≤me∧me<M.L.th) (_:0≤N) (ht:bL M.L t N) (hd:fq M.L me t d N) (ho:Own M me m d) (h0:d.at_=8):ou M me m N (al M me m t d):=by
 have htl:=ht.len
 rw[ki h0]
 have hi:=ho.idle (by omega)
 have hdr:=hd.drop h0
 have hS:Safe M m (ei M m d.drop).2.1:=by
  unfold ei
  simp only
  rw[hdr.1]
  exact mY hm (by omega) hL hu hdr.2
 have hi':Idle M (ei M m d.drop).2.1 me:=by
  unfold Idle stt at hi⊢
  rw[hS.idle hu (ho.idle (by omega))];exact hi
 split
 ·exact⟨hS.rel me,ht.mono (by omega),fun _=>⟨⟨hd.may,hd.lim,by simp,fun e=>by simp at e,fun e=>by simp at e,fun e=>by simp at e,fun e=>by simp at e,fun e=>by simp at e,fun e=>by simp at e,fun e=>by simp at e,fun _ s e=>by simp at e⟩,du hi' (by simp)⟩,fun _=>hi'⟩
 ·rename_i hq
  have hat:(ei M m d.drop).2.2.at_=d.drop.at_+1:=rfl
  have hq':¬ 2≤d.drop.at_+1:=by
   intro e
   exact hq (decide_eq_true e)
  exact⟨hS.rel me,ht.mono (by omega),fun _=>⟨⟨hd.may,hd.lim,hd.at_,fun e=>by simp only at e;omega,fun e=>by simp only at e;omega,fun e=>by simp only at e;omega,fun e=>by simp only at e;omega,fun e=>by simp only at e;omega,fun e=>by simp only at e;omega,fun _=>⟨hdr.1,by simp only;omega⟩,fun e=>by simp only at e;omega⟩,du hi' (by simp only;omega)⟩,fun e=>by simp at e⟩
theorem Ct {d:aI} {N:Int} (hL:M.L.Ok) (hm:dY M m) (hu:0≤me∧me<M.L.th) (_:0≤N) (ht:bL M.L t N) (hd:fq M.L me t d N) (ho:Own M me m d) (h0:d.at_=9):ou M me m N (al M me m t d):=by
 have htl:=ht.len
 rw[mB h0]
 have hi:=ho.idle (by omega)
 have hs:=yv hL hm ht (hd.sweep h0)
 have hi':Idle M (a7 M m t d.sweep).2.1 me:=by
  unfold Idle stt at hi⊢
  rw[hs.1.idle hu (ho.idle (by omega))];exact hi
 exact⟨hs.1.rel me,hs.2.1.mono (by omega),fun _=>⟨⟨hd.may,hd.lim,hd.at_,fun e=>by simp only at e;omega,fun e=>by simp only at e;omega,fun e=>by simp only at e;omega,fun e=>by simp only at e;omega,fun e=>by simp only at e;omega,fun e=>by simp only at e;omega,fun e=>by simp only at e;omega,fun _=>hs.2.2.1.mono (by omega)⟩,du hi' (by simp only;omega)⟩,fun _=>hi'⟩
theorem EF {d:aI} {N:Int} (hL:M.L.Ok) (hm:dY M m) (hu:0≤me∧me<M.L.th) (hN:0≤N) (ht:bL M.L t N) (hd:fq M.L me t d N) (ho:Own M me m d):ou M me m N (al M me m t d):=by
 rcases(by have:=hd.at_;omega:d.at_=0∨d.at_=1∨d.at_=2∨d.at_=3∨d.at_=4∨d.at_=5∨d.at_=6∨d.at_=7∨d.at_=8∨d.at_=9) with h0 | h0 | h0 | h0 | h0 | h0 | h0 | h0 | h0 | h0
 ·exact Cj hL hm hu hN ht hd ho h0
 ·exact Ck hL hm hu hN ht hd ho h0
 ·exact Cl hL hm hu hN ht hd ho h0
 ·exact Cm hL hm hu hN ht hd ho h0
 ·exact Cn hL hm hu hN ht hd ho h0
 ·exact Cp hL hm hu hN ht hd ho h0
 ·exact Cq hL hm hu hN ht hd ho h0
 ·exact Cr hL hm hu hN ht hd ho h0
 ·exact Cs hL hm hu hN ht hd ho h0
 ·exact Ct hL hm hu hN ht hd ho h0
end Go.Proofs.YtbcnnhlpilmmbaaGreat
