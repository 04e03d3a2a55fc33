/- Texts that are wanted for PTopClaims.
   Conditions: none. -/
import Derived.Test.YtbcnnhlpilmmbaaGreatJPTopClaims19
set_option maxRecDepth 100000
set_option maxHeartbeats 6400000
namespace Go.Proofs.YtbcnnhlpilmmbaaGreat
open Go Go.RowKit
variable {L:Ly}
theorem Nodes.small (hL:L.Ok) {l:List Int} (h:Nodes L l):Small l:=fun x hx=>by have:=h x hx;have:=hL.nd;omega
theorem eV.fine (hL:L.Ok) {u:Int} {f:aB} {N:Int} (h:eV L u f N) (hu:0≤u∧u≤7) (hN:N≤100000):f.Ok 100000:=by
 have hn:=hL.nd
 have h1:=h.tries;have h2:=h.moved;have h3:=h.aO
 cases ha:f.ab with
 | false=>
  have hp:=h.pos ha
  exact⟨hp.pw.1,hp.cw.1,by have:=hp.curr;omega,by omega,by omega,by rw[h.me];exact hu,h3.1.small hL,by omega⟩
 | true=>
  have hp:=(h.ab ha).2
  exact⟨by rw[hp];simp,by rw[hp];simp,by rw[hp];simp,by omega,by omega,by rw[h.me];exact hu,h3.1.small hL,by omega⟩
theorem tT {t:bl} {p:Pos} {n:Int}:(au t p n).res.code=0:=by
 unfold au
 split
 ·rfl
 ·split
  ·rfl
  ·split
   ·unfold Pos.take
    split
    ·rfl
    ·split<;>rfl
   ·rfl
structure mr (L:Ly) (me:Int) (t:cg) (f:bq) (N:Int):Prop where
 may:f.task.may=true
 most:0≤f.most∧f.most≤1000
 at_:0≤f.at_∧f.at_≤3
 tries:0≤f.tries∧f.tries≤N
 sum:f.at_=0→f.tries+f.find.tries≤N∧f.find.limit=f.most - f.tries∧(t.ret.length:Int)+f.find.aO.length≤N
 find:f.at_=0→eV L me f.find N∧fF L f.find
 plan:1≤f.at_→pG L f.plan∧f.plan.now=false∧f.plan.res.code=0
 cl:f.at_=1→tl L f.cl
 az:f.at_=2→zq L f.az
 code:f.res.code=0
variable {M:ML} {me:Int} {m:Mm} {t:cg}
theorem mr.fine {f:bq} {N:Int} (hL:M.L.Ok) (hm:dY M m) (hu:0≤me∧me<M.L.th) (h:mr M.L me t f N) (hN0:0≤N) (hN:N≤90000):f.Fine M m t:=by
 have hth:=hL.th;have hn:=hL.nd
 refine⟨⟨h.may,by have:=h.tries;omega,h.most⟩,h.at_,fun h0 _=> ?_,fun h2=>(h.az h2).key.1,fun h3=> ?_⟩
 ·have hf:=h.find h0
  have hs:=gm hL hm hu hN0 hf.1 hf.2
  exact⟨hf.1.fine hL (by omega) (by omega),hf.1.at_,hs.2.ok.fine hL (by omega) (by omega)⟩
 ·have hp:=h.plan (by omega)
  exact⟨(hp.1.old hp.2.1).1,by have:=hp.1.pops;omega⟩
theorem gU (f:aB) (x:Int):(f.take x).2.limit=f.limit∧(f.take x).2.tries=f.tries∧(f.take x).2.aO=f.aO:=by
 unfold aB.take
 split<;>exact⟨rfl,rfl,rfl⟩
theorem gG (f:aB) (x:Int):(f.cI x).2.limit=f.limit∧(f.cI x).2.tries=f.tries+1∧(f.cI x).2.aO=f.aO:=by
 unfold aB.cI
 split
 ·exact⟨rfl,rfl,rfl⟩
 ·have:=gU f.aR x
  exact⟨this.1,this.2.1,this.2.2⟩
theorem gV (L:Ly) (f:aB):(f.move L).2.2.limit=f.limit∧(f.move L).2.2.tries≤f.tries+1∧(f.move L).2.2.aO=f.aO:=by
 unfold aB.move
 split
 ·exact⟨rfl,by simp only;omega,rfl⟩
 ·split<;>exact⟨rfl,by simp only[aB.aR,aB.anew];omega,rfl⟩
theorem nN (f:aB) (x:Int):(f.look x).2.limit=f.limit∧(f.look x).2.tries=f.tries∧(f.look x).2.aO=f.aO:=by
 unfold aB.look
 simp only
 split
 ·split<;>exact⟨rfl,rfl,rfl⟩
 ·split
  ·exact⟨rfl,rfl,rfl⟩
  ·split<;>exact⟨rfl,rfl,rfl⟩
theorem iI (M:ML) (m:Mm) (f:aB):(aw M m f).2.2.limit=f.limit∧(aw M m f).2.2.tries≤f.tries+1∧((aw M m f).2.2.aO.length:Int)≤f.aO.length+1:=by
 unfold aw
 split
 ·simp only
  split
  ·have:=gG f (ld M m f.pos.pred)
   exact⟨this.1,by omega,by rw[this.2.2];omega⟩
  ·have:=gU f (ld M m f.pos.pred)
   exact⟨this.1,by omega,by rw[this.2.2];omega⟩
 ·split
  ·exact⟨rfl,by simp only;omega,by simp only;omega⟩
  ·split
   ·simp only
    split
    ·have:=gG f (ld M m f.pos.pred)
     exact⟨this.1,by simp only;omega,by simp only;rw[this.2.2];omega⟩
    ·exact⟨rfl,by simp only;omega,by simp only;omega⟩
   ·split
    ·have:=nN f (ld M m f.pos.curr)
     exact⟨this.1,by simp only;omega,by simp only;rw[this.2.2];omega⟩
    ·split
     ·simp only
      split<;>exact⟨rfl,by simp only[aB.aR];omega,by simp only[aB.aR];omega⟩
     ·split
      ·split
       ·have:=gV M.L { f with aO:=f.aO++[f.pos.curr] }
        have hl:(f.aO++[f.pos.curr]).length=f.aO.length+1:=by simp
        simp only
        split
        ·have h2:=gU (({ f with aO:=f.aO++[f.pos.curr] }:aB).move M.L).2.2 f.cut
         have hq:=h2.2.1
         have hq2:=this.2.1
         exact⟨h2.1.trans this.1,by simp only at hq2⊢;rw[hq];exact hq2,by simp only;rw[h2.2.2,this.2.2,hl];omega⟩
        ·exact⟨this.1,this.2.1,by simp only;rw[this.2.2,hl];omega⟩
       ·exact⟨rfl,by simp only[aB.aR];omega,by simp only[aB.aR];omega⟩
      ·have:=gV M.L { f with pos:={ f.pos with pred:=f.pos.curr },at_:=0 }
       have hq:=congrArg List.length this.2.2
       exact⟨this.1,this.2.1,by simp only at hq⊢;omega⟩
theorem yQ (hL:L.Ok) {me:Int} {t:cg} {f:bq} {N:Int} (h1:f.task.may=true) (h2:0≤f.most∧f.most≤1000) (h3:0≤f.tries∧f.tries≤N) (h4:f.res.code=0) (h5:(t.ret.length:Int)≤N) (hN:0≤N):mr L me t (f.hZ L me) N:=by
 have hf:=xu hL me h1 (f.most - f.tries)
 refine⟨h1,h2,by simp[bq.hZ],h3,fun _=>⟨by simp only[bq.hZ,aB.new];omega,rfl,by simp[bq.hZ,aB.new];omega⟩,fun _=>⟨hf.1.mono hN,hf.2⟩,fun e=>by simp[bq.hZ] at e,fun e=>by simp[bq.hZ] at e,fun e=>by simp[bq.hZ] at e,h4⟩
theorem Gw (hL:L.Ok) {me:Int} {t:cg} {k:bl} {most N:Int} (h1:k.may=true) (h2:0≤most∧most≤1000) (h5:(t.ret.length:Int)≤N) (hN:0≤N):mr L me t (.new L me k most) N:=
 yQ hL h1 h2 (by simp only;omega) rfl h5 hN
theorem vC (hL:L.Ok) {me:Int} {t:cg} {f:bq} {N:Int} (h1:f.task.may=true) (h2:0≤f.most∧f.most≤1000) (h3:0≤f.tries∧f.tries≤N) (h4:f.res.code=0) (h5:(t.ret.length:Int)≤N) (hN:0≤N):((f.again L me).1=false→mr L me t (f.again L me).2 (N+1))∧(f.again L me).2.res.code=0:=by
 unfold bq.again
 split
 ·exact⟨fun e=>by simp at e,h4⟩
 ·exact⟨fun _=>yQ hL h1 h2 (by simp only[bq.aR];omega) h4 (by omega) (by omega),h4⟩
variable {N:Int}
theorem iJ (h:bL L t N) {l:List Int} {N':Int} (hl:Nodes L l) (hn:(t.ret.length:Int)+l.length≤N'):bL L (t.retire l) N':=
 ⟨h.spare,h.ret.app hl,by simp only[cg.retire,List.length_append];omega⟩
theorem Gx (hL:L.Ok) {t:cg} {N:Int} (h:bL L t N) {k:bl} {p:cY} (hp:pG L p):bL L (t.did k p) (N+1):=by
 have hn:=hL.nd
 have h1:bL L (if k.links then { t with spare:=0 } else t) N:=by
  split
  ·exact⟨by simp only;omega,h.ret,h.len⟩
  ·exact h
 unfold cg.did
 simp only
 split
 ·rename_i hz
  refine iJ h1 (fun x hx=> ?_) (by have:=h1.len;simp;omega)
  simp at hx
  subst hx
  have:=hp.pops
  omega
 ·exact h1.mono (by omega)
theorem yR {f:bq} {N:Int} (hL:M.L.Ok) (hm:dY M m) (hu:0≤me∧me<M.L.th) (hN:0≤N) (ht:bL M.L t N) (h:mr M.L me t f N):
  Safe M m (aH M me m t f).2.1∧bL M.L (aH M me m t f).2.2.1 (N+1)∧((aH M me m t f).1=false→mr M.L me (aH M me m t f).2.2.1 (aH M me m t f).2.2.2 (N+1))∧(aH M me m t f).2.2.2.res.code=0:=by
 have hn:=hL.nd
 have htl:=ht.len
 have htr:=h.tries
 unfold aH
 split
 ·rename_i h0
  have hsum:=h.sum h0
  have hf:=h.find h0
  split
  ·exact⟨.refl hm,ht.mono (by omega),fun e=>by simp at e,h.code⟩
  ·have hs:=gm hL hm hu hN hf.1 hf.2
   simp only
   split
   ·rename_i hr
    refine⟨hs.1,?_⟩
    have hok:=hs.2.ok
    simp only at hok
    have key:(aw M m f.find).2.2.limit=f.find.limit∧(aw M m f.find).2.2.tries≤f.find.tries+1∧((aw M m f.find).2.2.aO.length:Int)≤f.find.aO.length+1:=iI M m f.find
    unfold bq.sought
    simp only
    have hrt:bL M.L (t.retire (aw M m f.find).2.2.aO) (N+1):=iJ ht hok.aO.1 (by omega)
    have hnt:=hok.tries
    split
    ·exact⟨hrt,fun e=>by simp at e,h.code⟩
    ·rename_i ho
     have ho':¬ f.most<f.tries+(aw M m f.find).2.2.tries:=by
      intro e
      exact ho (decide_eq_true e)
     have hab:(aw M m f.find).2.2.ab=false:=by
      cases ha:(aw M m f.find).2.2.ab with
      | false=>rfl
      | true=>
       have:=(hok.ab ha).1
       omega
     have hpl:=yG hL (hok.pos hab) f.task ht.spare
     have hcd:=tT (t:=f.task) (p:=(aw M m f.find).2.2.pos) (n:=t.spare)
     split
     ·exact⟨hrt,fun e=>by simp at e,hcd⟩
     ·rename_i b8
      have gH:(au f.task (aw M m f.find).2.2.pos t.spare).now=false:=by simpa using b8
      split
      ·exact⟨hrt,fun _=>⟨h.may,h.most,by simp,by simp only[bq.aR];omega,fun e=>by simp at e,fun e=>by simp at e,fun _=>⟨hpl,gH,hcd⟩,fun _=>tn (hpl.addr gH),fun e=>by simp at e,h.code⟩,h.code⟩
      ·split
       ·have hkey:=(bl.rng h.may).key
        exact⟨hrt,fun _=>⟨h.may,h.most,by simp,by simp only[bq.aR];omega,fun e=>by simp at e,fun e=>by simp at e,fun _=>⟨hpl,gH,hcd⟩,fun e=>by simp at e,fun _=>⟨by simp only[kP.new];omega,(hok.pos hab).curr⟩,h.code⟩,h.code⟩
       ·exact⟨hrt,fun _=>⟨h.may,h.most,by simp,by simp only[bq.aR];omega,fun e=>by simp at e,fun e=>by simp at e,fun _=>⟨hpl,gH,hcd⟩,fun e=>by simp at e,fun e=>by simp at e,h.code⟩,h.code⟩
   ·rename_i hr
    have key:(aw M m f.find).2.2.limit=f.find.limit∧(aw M m f.find).2.2.tries≤f.find.tries+1∧((aw M m f.find).2.2.aO.length:Int)≤f.find.aO.length+1:=iI M m f.find
    exact⟨hs.1,ht.mono (by omega),fun _=>⟨h.may,h.most,h.at_,by simp only;omega,fun _=>⟨by simp only;omega,by rw[←hsum.2.1];exact key.1,by simp only;omega⟩,fun _=>⟨hs.2.ok,hs.2.live (by simpa using hr)⟩,fun e=>by simp only at e;omega,fun e=>by simp only at e;omega,fun e=>by simp only at e;omega,h.code⟩,h.code⟩
 ·split
  ·rename_i h0 h1
   have hc:=tp hL hm (h.cl h1)
   simp only
   split
   ·have:=vC (L:=M.L) hL (me:=me) (t:=t) (f:={ f with cl:=(a9 M m f.cl).2.2 }) (N:=N) h.may h.most htr h.code htl hN
    exact⟨hc.1,ht.mono (by omega),this.1,this.2⟩
   ·rename_i hr
    exact⟨hc.1,ht.mono (by omega),fun _=>⟨h.may,h.most,h.at_,by simp only;omega,fun e=>absurd e h0,fun e=>absurd e h0,h.plan,fun _=>hc.2 (by simpa using hr),h.az,h.code⟩,h.code⟩
  ·split
   ·rename_i h0 h1 h2
    have hp:=yx hL hm ht (h.az h2)
    simp only
    refine⟨hp.1,ht.mono (by omega),fun _=>⟨h.may,h.most,by simp only;split<;>omega,by simp only;omega,fun e=> ?_,fun e=> ?_,fun _=>h.plan (by omega),fun e=> ?_,fun _=>hp.2,h.code⟩,h.code⟩
    ·simp only at e;split at e<;>omega
    ·simp only at e;split at e<;>omega
    ·simp only at e;split at e<;>omega
   ·rename_i h0 h1 h2
    have hat:=h.at_
    have hpl:=h.plan (by omega)
    have hw:=zw hL hpl.1
    split
    ·exact⟨gy hm hw.2 hL (by have:=hpl.1.addr hpl.2.1;omega) hw.1,Gx hL ht hpl.1,fun e=>by simp at e,hpl.2.2⟩
    ·have:=vC (L:=M.L) hL (me:=me) (t:=t) (f:=f) (N:=N) h.may h.most htr h.code htl hN
     exact⟨.refl hm,ht.mono (by omega),this.1,this.2⟩
structure dX (L:Ly) (me:Int) (t:cg) (h:aM) (N:Int):Prop where
 u:0≤h.u∧h.u<L.th
 rounds:0≤h.rounds∧h.rounds≤N
 found:0≤h.found∧h.found<18446744073709551616
 at_:0≤h.at_∧h.at_≤9
 may:3≤h.at_→h.task.may=true
 pend:1≤h.at_→h.at_≤2→(getD' h.found).pend=true
 st1:4≤h.at_→(getD' h.found).status=1
 exec:h.at_=3→jZ L h.exec∧(0≤h.exec.popped∧h.exec.popped≤L.nd)
 bm:h.at_=4→m6 L h.bm N
 find:h.at_=5→(eV L me h.find N∧fF L h.find)∧(t.ret.length:Int)+h.find.aO.length≤N
 plan:6≤h.at_→pG L h.plan
 now:7≤h.at_→h.plan.now=false
 cl:h.at_=7→tl L h.cl
 az:h.at_=8→zq L h.az
theorem dX.fine {h:aM} {N:Int} (hL:M.L.Ok) (hm:dY M m) (hu:0≤me∧me<M.L.th) (hh:dX M.L me t h N) (hN0:0≤N) (hN:N≤90000):h.Fine M m:=by
 have hth:=hL.th
 refine⟨⟨hh.found,by have:=hh.u;omega,by have:=hh.rounds;omega⟩,hh.at_,fun e=>hh.may (by omega),fun e=>(hh.exec e).1.at_,fun e=>(hh.bm e).live,fun e=> ?_,fun e=>(hh.az e).key.1,fun e=>((hh.plan (by omega)).old (hh.now (by omega))).1⟩
 have hf:=(hh.find e).1
 have hs:=gm hL hm hu hN0 hf.1 hf.2
 exact⟨hf.1.fine hL (by omega) (by omega),hf.1.at_,hs.2.ok.fine hL (by omega) (by omega)⟩
theorem B6 (_:L.Ok) (me:Int) (t:cg) {u:Int} (hu:0≤u∧u<L.th) (no limit:Int) {N:Int} (hN:0≤N):dX L me t (.new L u no limit) N:=by
 refine⟨hu,by simp only[aM.new];omega,by simp[aM.new],by simp[aM.new],?_,?_,?_,?_,?_,?_,?_,?_,?_,?_⟩<;>(intro e;simp[aM.new] at e)
theorem sj (hL:L.Ok) {me:Int} {t:cg} {h:aM} {N:Int} (h1:0≤h.u∧h.u<L.th) (h2:0≤h.rounds∧h.rounds≤N) (h3:0≤h.found∧h.found<18446744073709551616) (h4:h.task.may=true) (h5:(getD' h.found).status=1) (h6:(t.ret.length:Int)≤N) (hN:0≤N):dX L me t (h.search L me) N:=by
 have hf:=xu hL me h4 h.limit
 exact⟨h1,h2,h3,by simp[aM.search],fun _=>h4,fun _ e=>by simp[aM.search] at e,fun _=>h5,fun e=>by simp[aM.search] at e,fun e=>by simp[aM.search] at e,fun _=>⟨⟨hf.1.mono hN,hf.2⟩,by simp[aM.search,aB.new];omega⟩,fun e=>by simp[aM.search] at e,fun e=>by simp[aM.search] at e,fun e=>by simp[aM.search] at e,fun e=>by simp[aM.search] at e⟩
theorem mx {h:aM} {N:Int} (h1:0≤h.u∧h.u<L.th) (h2:0≤h.rounds∧h.rounds≤N) (h3:0≤h.found∧h.found<18446744073709551616) (h0:h.at_=0):dX L me t h N:=by
 refine⟨h1,h2,h3,by omega,?_,?_,?_,?_,?_,?_,?_,?_,?_,?_⟩<;>(intro e;omega)
theorem vD (hL:L.Ok):pG L eO:=by
 have:=hL.nd
 exact⟨fun h=>by simp[eO] at h,fun h=>by simp[eO] at h,fun h=>by simp[eO] at h,by simp[eO],by simp only[eO];omega,.inr rfl⟩
theorem B7 (hL:L.Ok) {me:Int} {t:cg} {h:aM} {N:Int} (hh:dX L me t h N) (_:h.at_=2) (x:Int) (h6:(t.ret.length:Int)≤N) (hN:0≤N):(h.begin_ L me t x).1=false→dX L me t (h.begin_ L me t x).2 N:=by
 intro e
 unfold aM.begin_ at e⊢
 split at e
 ·simp at e
 ·rename_i hk
  rw[if_neg hk]
  have hmay:(eN x).may=true:=by
   have hk':gb x=true:=by simpa using hk
   unfold gb at hk'
   simp only[Bool.and_eq_true] at hk'
   exact hk'.2
  simp only at e⊢
  split at e
  ·rename_i hs
   rw[if_pos hs]
   have:=Gg (L:=L) hh.u (eN x) (getD' h.found).aJ
   have hn:=hL.nd
   refine⟨hh.u,hh.rounds,hh.found,by simp,fun _=>hmay,fun _ e=>by simp at e,fun e=>by simp at e,fun _=>⟨this.1,?_⟩,fun e=>by simp at e,fun e=>by simp at e,fun e=>by simp at e,fun e=>by simp at e,fun e=>by simp at e,fun e=>by simp at e⟩
   have h3:=this.2
   simp only
   omega
  ·rename_i hs
   rw[if_neg hs]
   have hs':(getD' h.found).status=1:=by simpa using hs
   split
   ·exact⟨hh.u,hh.rounds,hh.found,by simp,fun _=>hmay,fun _ e=>by simp at e,fun _=>hs',fun e=>by simp at e,fun _=>BR L N,fun e=>by simp at e,fun e=>by simp at e,fun e=>by simp at e,fun e=>by simp at e,fun e=>by simp at e⟩
   ·exact sj hL hh.u hh.rounds hh.found hmay hs' h6 hN
theorem j6 {h:aM} (h0:h.at_=0):ah M me m t h=(!(getD' (ld M m (M.L.desc h.u))).pend,m,t,{ h with found:=ld M m (M.L.desc h.u),rounds:=h.rounds+1,at_:=1 }):=by
 unfold ah;simp only;rw[if_pos h0]
theorem j7 {h:aM} (h0:h.at_=1):ah M me m t h=(decide (ld M m (M.L.ticket h.u)≠h.no),m,t,{ h with at_:=2 }):=by
 unfold ah;simp only;rw[if_neg (by rw[h0];decide)];rw[if_pos h0]
theorem j8 {h:aM} (h0:h.at_=2):ah M me m t h=((h.begin_ M.L me t (ld M m (M.L.task h.u))).1,m,t,(h.begin_ M.L me t (ld M m (M.L.task h.u))).2):=by
 unfold ah;simp only;rw[if_neg (by rw[h0];decide)];rw[if_neg (by rw[h0];decide)];rw[if_pos h0]
theorem j9 {h:aM} (h0:h.at_=3):ah M me m t h=(false,(bz M m h.exec).2.1,if (bz M m h.exec).1∧(bz M m h.exec).2.2.popped≠0 then t.retire [(bz M m h.exec).2.2.popped] else t,{ h with exec:=(bz M m h.exec).2.2,at_:=if (bz M m h.exec).1 then 0 else 3 }):=by
 unfold ah;simp only;rw[if_neg (by rw[h0];decide)];rw[if_neg (by rw[h0];decide)];rw[if_neg (by rw[h0];decide)];rw[if_pos h0]
theorem ka {h:aM} (h0:h.at_=4):ah M me m t h=(false,(aK M me m t h.bm).2.1,(aK M me m t h.bm).2.2.1,if (aK M me m t h.bm).1=false then { h with bm:=(aK M me m t h.bm).2.2.2 } else if (aK M me m t h.bm).2.2.2.short then { h with bm:=(aK M me m t h.bm).2.2.2,at_:=6,plan:=eO } else aM.search M.L me { h with bm:=(aK M me m t h.bm).2.2.2 }):=by
 unfold ah;simp only;rw[if_neg (by rw[h0];decide)];rw[if_neg (by rw[h0];decide)];rw[if_neg (by rw[h0];decide)];rw[if_neg (by rw[h0];decide)];rw[if_pos h0]
theorem kb {h:aM} (h0:h.at_=5):ah M me m t h=if (aw M m h.find).1 then (false,(aw M m h.find).2.1,t.retire (aw M m h.find).2.2.aO,aM.bQ t.spare { h with find:=(aw M m h.find).2.2 }) else (false,(aw M m h.find).2.1,t,{ h with find:=(aw M m h.find).2.2 }):=by
 unfold ah;simp only;rw[if_neg (by rw[h0];decide)];rw[if_neg (by rw[h0];decide)];rw[if_neg (by rw[h0];decide)];rw[if_neg (by rw[h0];decide)];rw[if_neg (by rw[h0];decide)];rw[if_pos h0];simp only[aM.sf]
theorem kc {h:aM} (h0:h.at_=6):ah M me m t h=(false,cas M m (M.L.desc h.u) h.found (cv ((getD' h.found).ended h.plan.res.code h.plan.res.ok h.plan.res.val)),t,{ h with at_:=0 }):=by
 unfold ah;simp only;rw[if_neg (by rw[h0];decide)];rw[if_neg (by rw[h0];decide)];rw[if_neg (by rw[h0];decide)];rw[if_neg (by rw[h0];decide)];rw[if_neg (by rw[h0];decide)];rw[if_neg (by rw[h0];decide)];rw[if_pos h0]
theorem kd {h:aM} (h0:h.at_=7):ah M me m t h=(false,(a9 M m h.cl).2.1,t,{ h with cl:=(a9 M m h.cl).2.2,at_:=if (a9 M m h.cl).1 then 0 else 7 }):=by
 unfold ah;simp only;rw[if_neg (by rw[h0];decide)];rw[if_neg (by rw[h0];decide)];rw[if_neg (by rw[h0];decide)];rw[if_neg (by rw[h0];decide)];rw[if_neg (by rw[h0];decide)];rw[if_neg (by rw[h0];decide)];rw[if_neg (by rw[h0];decide)];rw[if_pos h0]
theorem ke {h:aM} (h0:h.at_=8):ah M me m t h=(false,(ch M m t h.az).2.1,t,{ h with az:=(ch M m t h.az).2.2,at_:=if (ch M m t h.az).1 then 9 else 8 }):=by
 unfold ah;simp only;rw[if_neg (by rw[h0];decide)];rw[if_neg (by rw[h0];decide)];rw[if_neg (by rw[h0];decide)];rw[if_neg (by rw[h0];decide)];rw[if_neg (by rw[h0];decide)];rw[if_neg (by rw[h0];decide)];rw[if_neg (by rw[h0];decide)];rw[if_neg (by rw[h0];decide)];rw[if_pos h0]
theorem pX {h:aM} (h0:h.at_=9):ah M me m t h=(false,cas M m (M.L.desc h.u) h.found (h.plan.desc (getD' h.found).aJ),if bA M m (M.L.desc h.u) h.found && h.task.links then { t with spare:=0 } else t,{ h with at_:=0 }):=by
 unfold ah;simp only;rw[if_neg (by rw[h0];decide)];rw[if_neg (by rw[h0];decide)];rw[if_neg (by rw[h0];decide)];rw[if_neg (by rw[h0];decide)];rw[if_neg (by rw[h0];decide)];rw[if_neg (by rw[h0];decide)];rw[if_neg (by rw[h0];decide)];rw[if_neg (by rw[h0];decide)];rw[if_neg (by rw[h0];decide)]
theorem B8 {h:aM} {N:Int} (hL:M.L.Ok) (hm:dY M m) (_:0≤me∧me<M.L.th) (_:0≤N) (ht:bL M.L t N) (hh:dX M.L me t h N) (h0:h.at_=0):Safe M m (ah M me m t h).2.1∧bL M.L (ah M me m t h).2.2.1 (N+1)∧((ah M me m t h).1=false→dX M.L me (ah M me m t h).2.2.1 (ah M me m t h).2.2.2 (N+1)):=by
 have hn:=hL.nd
 have htl:=ht.len
 have hr:=hh.rounds
 rw[j6 h0]
 refine⟨.refl hm,ht.mono (by omega),fun e=> ?_⟩
 have cF:=oB (M:=M) hm.rng (M.L.desc h.u)
 have e':(getD' (ld M m (M.L.desc h.u))).pend=true:=by
  cases hp:(getD' (ld M m (M.L.desc h.u))).pend with
  | true=>rfl
  | false=>simp only[hp] at e;cases e
 exact⟨hh.u,by simp only;omega,cF,by simp,fun e=>by simp at e,fun _ _=>e',fun e=>by simp at e,fun e=>by simp at e,fun e=>by simp at e,fun e=>by simp at e,fun e=>by simp at e,fun e=>by simp at e,fun e=>by simp at e,fun e=>by simp at e⟩
theorem B9 {h:aM} {N:Int} (hL:M.L.Ok) (hm:dY M m) (_:0≤me∧me<M.L.th) (_:0≤N) (ht:bL M.L t N) (hh:dX M.L me t h N) (h0:h.at_=1):Safe M m (ah M me m t h).2.1∧bL M.L (ah M me m t h).2.2.1 (N+1)∧((ah M me m t h).1=false→dX M.L me (ah M me m t h).2.2.1 (ah M me m t h).2.2.2 (N+1)):=by
 have hn:=hL.nd
 have htl:=ht.len
 have hr:=hh.rounds
 rw[j7 h0]
 exact⟨.refl hm,ht.mono (by omega),fun _=>⟨hh.u,(by omega:(0:Int)≤h.rounds∧h.rounds≤N+1),hh.found,by simp,fun e=>by simp at e,fun _ _=>hh.pend (by omega) (by omega),fun e=>by simp at e,fun e=>by simp at e,fun e=>by simp at e,fun e=>by simp at e,fun e=>by simp at e,fun e=>by simp at e,fun e=>by simp at e,fun e=>by simp at e⟩⟩
theorem Ca {h:aM} {N:Int} (hL:M.L.Ok) (hm:dY M m) (_:0≤me∧me<M.L.th) (hN:0≤N) (ht:bL M.L t N) (hh:dX M.L me t h N) (h0:h.at_=2):Safe M m (ah M me m t h).2.1∧bL M.L (ah M me m t h).2.2.1 (N+1)∧((ah M me m t h).1=false→dX M.L me (ah M me m t h).2.2.1 (ah M me m t h).2.2.2 (N+1)):=by
 have hn:=hL.nd
 have htl:=ht.len
 have hr:=hh.rounds
 rw[j8 h0]
 refine⟨.refl hm,ht.mono (by omega),fun e=> ?_⟩
 have hup:dX M.L me t h (N+1):=⟨hh.u,by omega,hh.found,hh.at_,hh.may,hh.pend,hh.st1,hh.exec,fun e=>(hh.bm e).mono (by omega),fun e=>⟨⟨(hh.find e).1.1.mono (by omega),(hh.find e).1.2⟩,by have:=(hh.find e).2;omega⟩,hh.plan,hh.now,hh.cl,hh.az⟩
 exact B7 hL hup h0 _ (by omega) (by omega) e
theorem Cb {h:aM} {N:Int} (hL:M.L.Ok) (hm:dY M m) (_:0≤me∧me<M.L.th) (_:0≤N) (ht:bL M.L t N) (hh:dX M.L me t h N) (h0:h.at_=3):Safe M m (ah M me m t h).2.1∧bL M.L (ah M me m t h).2.2.1 (N+1)∧((ah M me m t h).1=false→dX M.L me (ah M me m t h).2.2.1 (ah M me m t h).2.2.2 (N+1)):=by
 have hn:=hL.nd
 have htl:=ht.len
 have hr:=hh.rounds
 rw[j9 h0]
 have hx:=hh.exec h0
 have hs:=Ec hL hm hx.1 hx.2
 refine⟨hs.1,?_,fun _=> ?_⟩
 ·simp only
  split
  ·rename_i hp
   refine iJ ht (fun x hx=> ?_) (by simp;omega)
   simp at hx
   subst hx
   have h9:=hs.2.2
   have h8:=hp.2
   omega
  ·exact ht.mono (by omega)
 ·cases hq:(bz M m h.exec).1 with
  | true=>exact mx hh.u (by omega:(0:Int)≤h.rounds∧h.rounds≤N+1) hh.found (by simp)
  | false=>exact⟨hh.u,(by omega:(0:Int)≤h.rounds∧h.rounds≤N+1),hh.found,by simp,fun _=>hh.may (by omega),fun _ e=>by simp at e,fun e=>by simp at e,fun _=>⟨hs.2.1 hq,hs.2.2⟩,fun e=>by simp at e,fun e=>by simp at e,fun e=>by simp at e,fun e=>by simp at e,fun e=>by simp at e,fun e=>by simp at e⟩
theorem Cc {h:aM} {N:Int} (hL:M.L.Ok) (hm:dY M m) (_:0≤me∧me<M.L.th) (hN:0≤N) (ht:bL M.L t N) (hh:dX M.L me t h N) (h0:h.at_=4):Safe M m (ah M me m t h).2.1∧bL M.L (ah M me m t h).2.2.1 (N+1)∧((ah M me m t h).1=false→dX M.L me (ah M me m t h).2.2.1 (ah M me m t h).2.2.2 (N+1)):=by
 have hn:=hL.nd
 have htl:=ht.len
 have hr:=hh.rounds
 rw[ka h0]
 have hs:=yw (me:=me) hL hm ht (hh.bm h0)
 have hst:=hh.st1 (by omega)
 have hmay:=hh.may (by omega)
 have hrl:=hs.2.1.len
 refine⟨hs.1,hs.2.1.mono (by omega),fun _=> ?_⟩
 simp only
 split
 ·rename_i hq
  exact⟨hh.u,(by omega:(0:Int)≤h.rounds∧h.rounds≤N+1),hh.found,hh.at_,fun _=>hmay,fun e1 e2=>by simp only at e1 e2;omega,fun _=>hst,fun e=>by simp only at e;omega,fun _=>(hs.2.2 hq).mono (by omega),fun e=>by simp only at e;omega,fun e=>by simp only at e;omega,fun e=>by simp only at e;omega,fun e=>by simp only at e;omega,fun e=>by simp only at e;omega⟩
 ·split
  ·exact⟨hh.u,(by omega:(0:Int)≤h.rounds∧h.rounds≤N+1),hh.found,by simp,fun _=>hmay,fun _ e=>by simp at e,fun _=>hst,fun e=>by simp at e,fun e=>by simp at e,fun e=>by simp at e,fun _=>vD hL,fun e=>by simp at e,fun e=>by simp at e,fun e=>by simp at e⟩
  ·exact sj hL hh.u (by omega:(0:Int)≤h.rounds∧h.rounds≤N+1) hh.found hmay hst (by omega) (by omega)
theorem Cd {h:aM} {N:Int} (hL:M.L.Ok) (hm:dY M m) (hu:0≤me∧me<M.L.th) (hN:0≤N) (ht:bL M.L t N) (hh:dX M.L me t h N) (h0:h.at_=5):Safe M m (ah M me m t h).2.1∧bL M.L (ah M me m t h).2.2.1 (N+1)∧((ah M me m t h).1=false→dX M.L me (ah M me m t h).2.2.1 (ah M me m t h).2.2.2 (N+1)):=by
 have hn:=hL.nd
 have htl:=ht.len
 have hr:=hh.rounds
 rw[kb h0]
 have hf:=(hh.find h0).1
 have hsum:=(hh.find h0).2
 have hs:=gm hL hm hu hN hf.1 hf.2
 have hok:=hs.2.ok
 have hct:=iI M m h.find
 have hst:=hh.st1 (by omega)
 have hmay:=hh.may (by omega)
 simp only at hok
 split
 ·rename_i hq
  refine⟨hs.1,?_⟩
  have hrt:bL M.L (t.retire (aw M m h.find).2.2.aO) (N+1):=iJ ht hok.aO.1 (by omega)
  refine⟨hrt,fun _=> ?_⟩
  unfold aM.bQ
  simp only
  split
  ·exact mx hh.u (by omega:(0:Int)≤h.rounds∧h.rounds≤N+1) hh.found (by simp)
  ·rename_i hab
   have hab':(aw M m h.find).2.2.ab=false:=by simpa using hab
   have hpl:=yG hL (hok.pos hab') h.task ht.spare
   split
   ·exact⟨hh.u,(by omega:(0:Int)≤h.rounds∧h.rounds≤N+1),hh.found,by simp,fun _=>hmay,fun _ e=>by simp at e,fun _=>hst,fun e=>by simp at e,fun e=>by simp at e,fun e=>by simp at e,fun _=>hpl,fun e=>by simp at e,fun e=>by simp at e,fun e=>by simp at e⟩
   ·rename_i b8
    have gH:(au h.task (aw M m h.find).2.2.pos t.spare).now=false:=by simpa using b8
    split
    ·exact⟨hh.u,(by omega:(0:Int)≤h.rounds∧h.rounds≤N+1),hh.found,by simp,fun _=>hmay,fun _ e=>by simp at e,fun _=>hst,fun e=>by simp at e,fun e=>by simp at e,fun e=>by simp at e,fun _=>hpl,fun _=>gH,fun _=>tn (hpl.addr gH),fun e=>by simp at e⟩
    ·split
     ·have hkey:=(bl.rng hmay).key
      exact⟨hh.u,(by omega:(0:Int)≤h.rounds∧h.rounds≤N+1),hh.found,by simp,fun _=>hmay,fun _ e=>by simp at e,fun _=>hst,fun e=>by simp at e,fun e=>by simp at e,fun e=>by simp at e,fun _=>hpl,fun _=>gH,fun e=>by simp at e,fun _=>⟨by simp only[kP.new];omega,(hok.pos hab').curr⟩⟩
     ·exact⟨hh.u,(by omega:(0:Int)≤h.rounds∧h.rounds≤N+1),hh.found,by simp,fun _=>hmay,fun _ e=>by simp at e,fun _=>hst,fun e=>by simp at e,fun e=>by simp at e,fun e=>by simp at e,fun _=>hpl,fun _=>gH,fun e=>by simp at e,fun e=>by simp at e⟩
 ·rename_i hq
  exact⟨hs.1,ht.mono (by omega),fun _=>⟨hh.u,(by omega:(0:Int)≤h.rounds∧h.rounds≤N+1),hh.found,hh.at_,fun _=>hmay,fun e1 e2=>by simp only at e1 e2;omega,fun _=>hst,fun e=>by simp only at e;omega,fun e=>by simp only at e;omega,fun _=>⟨⟨hok,hs.2.live (by simpa using hq)⟩,by simp only;omega⟩,fun e=>by simp only at e;omega,fun e=>by simp only at e;omega,fun e=>by simp only at e;omega,fun e=>by simp only at e;omega⟩⟩
theorem Ce {h:aM} {N:Int} (hL:M.L.Ok) (hm:dY M m) (_:0≤me∧me<M.L.th) (_:0≤N) (ht:bL M.L t N) (hh:dX M.L me t h N) (h0:h.at_=6):Safe M m (ah M me m t h).2.1∧bL M.L (ah M me m t h).2.2.1 (N+1)∧((ah M me m t h).1=false→dX M.L me (ah M me m t h).2.2.1 (ah M me m t h).2.2.2 (N+1)):=by
 have hn:=hL.nd
 have htl:=ht.len
 have hr:=hh.rounds
 rw[kc h0]
 have hp:=hh.plan (by omega)
 exact⟨fC hm (ej _) hL hh.u (nK (hh.st1 (by omega)) _ _ _ hp.val),ht.mono (by omega),fun _=>mx hh.u (by omega:(0:Int)≤h.rounds∧h.rounds≤N+1) hh.found (by simp)⟩
theorem Cf {h:aM} {N:Int} (hL:M.L.Ok) (hm:dY M m) (_:0≤me∧me<M.L.th) (_:0≤N) (ht:bL M.L t N) (hh:dX M.L me t h N) (h0:h.at_=7):Safe M m (ah M me m t h).2.1∧bL M.L (ah M me m t h).2.2.1 (N+1)∧((ah M me m t h).1=false→dX M.L me (ah M me m t h).2.2.1 (ah M me m t h).2.2.2 (N+1)):=by
 have hn:=hL.nd
 have htl:=ht.len
 have hr:=hh.rounds
 rw[kd h0]
 have hc:=tp hL hm (hh.cl h0)
 refine⟨hc.1,ht.mono (by omega),fun _=> ?_⟩
 cases hq:(a9 M m h.cl).1 with
 | true=>exact mx hh.u (by omega:(0:Int)≤h.rounds∧h.rounds≤N+1) hh.found (by simp)
 | false=>exact⟨hh.u,(by omega:(0:Int)≤h.rounds∧h.rounds≤N+1),hh.found,by simp,fun _=>hh.may (by omega),fun _ e=>by simp at e,fun _=>hh.st1 (by omega),fun e=>by simp at e,fun e=>by simp at e,fun e=>by simp at e,fun _=>hh.plan (by omega),fun _=>hh.now (by omega),fun _=>hc.2 hq,fun e=>by simp at e⟩
theorem Cg {h:aM} {N:Int} (hL:M.L.Ok) (hm:dY M m) (_:0≤me∧me<M.L.th) (_:0≤N) (ht:bL M.L t N) (hh:dX M.L me t h N) (h0:h.at_=8):Safe M m (ah M me m t h).2.1∧bL M.L (ah M me m t h).2.2.1 (N+1)∧((ah M me m t h).1=false→dX M.L me (ah M me m t h).2.2.1 (ah M me m t h).2.2.2 (N+1)):=by
 have hn:=hL.nd
 have htl:=ht.len
 have hr:=hh.rounds
 rw[ke h0]
 have hp:=yx hL hm ht (hh.az h0)
 refine⟨hp.1,ht.mono (by omega),fun _=> ?_⟩
 cases hq:(ch M m t h.az).1 with
 | true=>exact⟨hh.u,(by omega:(0:Int)≤h.rounds∧h.rounds≤N+1),hh.found,by simp,fun _=>hh.may (by omega),fun _ e=>by simp at e,fun _=>hh.st1 (by omega),fun e=>by simp at e,fun e=>by simp at e,fun e=>by simp at e,fun _=>hh.plan (by omega),fun _=>hh.now (by omega),fun e=>by simp at e,fun e=>by simp at e⟩
 | false=>exact⟨hh.u,(by omega:(0:Int)≤h.rounds∧h.rounds≤N+1),hh.found,by simp,fun _=>hh.may (by omega),fun _ e=>by simp at e,fun _=>hh.st1 (by omega),fun e=>by simp at e,fun e=>by simp at e,fun e=>by simp at e,fun _=>hh.plan (by omega),fun _=>hh.now (by omega),fun e=>by simp at e,fun _=>hp.2⟩
theorem Ch {h:aM} {N:Int} (hL:M.L.Ok) (hm:dY M m) (_:0≤me∧me<M.L.th) (_:0≤N) (ht:bL M.L t N) (hh:dX M.L me t h N) (h0:h.at_=9):Safe M m (ah M me m t h).2.1∧bL M.L (ah M me m t h).2.2.1 (N+1)∧((ah M me m t h).1=false→dX M.L me (ah M me m t h).2.2.1 (ah M me m t h).2.2.2 (N+1)):=by
 have hn:=hL.nd
 have htl:=ht.len
 have hr:=hh.rounds
 rw[pX h0]
 have hp:=hh.plan (by omega)
 have hd:=sa hL hp (hh.now (by omega)) (hh.st1 (by omega))
 refine⟨fC hm hd.2.1 hL hh.u hd.1,?_,fun _=>mx hh.u (by omega:(0:Int)≤h.rounds∧h.rounds≤N+1) hh.found (by simp)⟩
 simp only
 split
 ·exact⟨by simp only;omega,ht.ret,by simp only;omega⟩
 ·exact ht.mono (by omega)
theorem oF {h:aM} {N:Int} (hL:M.L.Ok) (hm:dY M m) (hu:0≤me∧me<M.L.th) (hN:0≤N) (ht:bL M.L t N) (hh:dX M.L me t h N):Safe M m (ah M me m t h).2.1∧bL M.L (ah M me m t h).2.2.1 (N+1)∧((ah M me m t h).1=false→dX M.L me (ah M me m t h).2.2.1 (ah M me m t h).2.2.2 (N+1)):=by
 rcases(by have:=hh.at_;omega:h.at_=0∨h.at_=1∨h.at_=2∨h.at_=3∨h.at_=4∨h.at_=5∨h.at_=6∨h.at_=7∨h.at_=8∨h.at_=9) with h0 | h0 | h0 | h0 | h0 | h0 | h0 | h0 | h0 | h0
 ·exact B8 hL hm hu hN ht hh h0
 ·exact B9 hL hm hu hN ht hh h0
 ·exact Ca hL hm hu hN ht hh h0
 ·exact Cb hL hm hu hN ht hh h0
 ·exact Cc hL hm hu hN ht hh h0
 ·exact Cd hL hm hu hN ht hh h0
 ·exact Ce hL hm hu hN ht hh h0
 ·exact Cf hL hm hu hN ht hh h0
 ·exact Cg hL hm hu hN ht hh h0
 ·exact Ch hL hm hu hN ht hh h0
abbrev stt (M:ML) (m:Mm) (u:Int):Int:=(getD' (ld M m (M.L.desc u))).status
def Idle (M:ML) (m:Mm) (u:Int):Prop:=stt M m u=0∨stt M m u=5
structure Rel (M:ML) (me:Int) (m m':Mm):Prop where
 rng:DS m'
 word:∀ a,1≤a→a≤M.L.nd+4→(ao (ld M m' a)).next≤M.L.nd
 desc:∀ v,0≤v→v<M.L.th→ld M m' (M.L.desc v)=ld M m (M.L.desc v)∨ix M.L (ld M m (M.L.desc v)) (ld M m' (M.L.desc v))∨(v=me∧Idle M m me∧getD' (ld M m' (M.L.desc v))=(getD' (ld M m (M.L.desc v))).cp)
 task:∀ v,0≤v→v<M.L.th→v≠me→ld M m' (M.L.task v)=ld M m (M.L.task v)
 tick:∀ v,0≤v→v<M.L.th→v≠me→ld M m' (M.L.ticket v)=ld M m (M.L.ticket v)
 life:∀ n,1≤n→n≤M.L.nd→ld M m' (M.L.life n)=ld M m (M.L.life n)∨ld M m' (M.L.life n)=(ld M m (M.L.life n)+1) % 18446744073709551616
variable {m':Mm}
theorem Safe.rel (h:Safe M m m') (me:Int):Rel M me m m':=⟨h.rng,h.word,fun v h0 h1=>(h.desc v h0 h1).imp id .inl,fun v h0 h1 _=>h.task v h0 h1,fun v h0 h1 _=>h.tick v h0 h1,h.life⟩
theorem sk (L:Ly) {x y:Int} (h:getD' y=(getD' x).cp):nZ L y:=⟨by rw[h];simp[Ds.cp],fun h5=>by rw[h] at h5;simp[Ds.cp] at h5⟩
theorem Rel.ok (h:Rel M me m m') (hm:dY M m):dY M m':=
 ⟨h.rng,h.word,fun v h0 h1=>(h.desc v h0 h1).elim (fun e=>by rw[e];exact hm.desc v h0 h1) (fun e=>e.elim (·.ok) (fun e=>sk _ e.2.2))⟩
theorem fH {x y:Int} (h:ix L x y):1≤(getD' x).status∧(getD' x).status≤4∧1≤(getD' y).status:=by
 rcases h.path with ⟨h1,-,h2⟩ | ⟨h1,h2⟩ | ⟨h1,h2⟩ | ⟨h1,h2⟩
 ·omega
 ·rcases h2 with h2 | h2<;>(rw[h2];simp only[Ds.with_];omega)
 ·rw[h2];simp only;omega
 ·rw[h2];simp only[Ds.cp];omega
theorem Safe.idle (h:Safe M m m') {u:Int} (hu:0≤u∧u<M.L.th) (hi:Idle M m u):ld M m' (M.L.desc u)=ld M m (M.L.desc u):=by
 rcases h.desc u hu.1 hu.2 with e | e
 ·exact e
 ·have:=fH e
  unfold Idle stt at hi
  omega
theorem Safe.stay (h:Safe M m m') {u:Int} (hu:0≤u∧u<M.L.th) (hi:1≤stt M m u):1≤stt M m' u:=by
 rcases h.desc u hu.1 hu.2 with e | e
 ·unfold stt at hi⊢;rw[e];exact hi
 ·exact(fH e).2.2
theorem Safe.done (h:Safe M m m') {u:Int} (hu:0≤u∧u<M.L.th) (hi:stt M m u=5):stt M m' u=5:=by
 unfold stt
 rw[h.idle hu (.inr hi)]
 exact hi
structure Own (M:ML) (me:Int) (m:Mm) (d:aI):Prop where
 idle:d.at_≤4∨7≤d.at_→Idle M m me
 done:d.at_=6→stt M m me=5
 owns:d.at_=5→1≤stt M m me∧ld M m (M.L.task me)=d.task.num∧d.help.u=me∧d.help.no=ld M m (M.L.ticket me)
 bits:d.at_=4→d.ann.bits=d.task.num
 Fq:d.at_=4→1≤d.ann.at_→ld M m (M.L.task me)=d.task.num
 Kj:d.at_=4→3≤d.ann.at_→ld M m (M.L.ticket me)=d.ann.no
 Gy:d.at_=4→d.ann.at_=4→d.ann.found=ld M m (M.L.desc me)
theorem Own.safe {d:aI} (h:Own M me m d) (hs:Safe M m m') (hu:0≤me∧me<M.L.th):Own M me m' d:=by
 have ht:=hs.task me hu.1 hu.2
 have hk:=hs.tick me hu.1 hu.2
 refine⟨fun e=> ?_,fun e=>hs.done hu (h.done e),fun e=> ?_,h.bits,fun e e1=>by rw[ht];exact h.Fq e e1,fun e e1=>by rw[hk];exact h.Kj e e1,fun e e1=> ?_⟩
 ·have hi:=h.idle e
  unfold Idle stt at hi⊢
  rw[hs.idle hu (h.idle e)];exact hi
 ·have ho:=h.owns e
  exact⟨hs.stay hu ho.1,by rw[ht];exact ho.2.1,ho.2.2.1,by rw[hk];exact ho.2.2.2⟩
 ·rw[hs.idle hu (h.idle (.inl (by omega)))];exact h.Gy e e1
theorem Own.rel {me u:Int} {m m':Mm} {d:aI} (h:Own M me m d) (hs:Rel M u m m') (hu:0≤me∧me<M.L.th) (hne:me≠u) (_:dY M m):Own M me m' d:=by
 have ht:=hs.task me hu.1 hu.2 hne
 have hk:=hs.tick me hu.1 hu.2 hne
 have hd:ld M m' (M.L.desc me)=ld M m (M.L.desc me)∨ix M.L (ld M m (M.L.desc me)) (ld M m' (M.L.desc me)):=by
  rcases hs.desc me hu.1 hu.2 with e | e | e
  ·exact .inl e
  ·exact .inr e
  ·exact absurd e.1 hne
 have hidle:Idle M m me→ld M m' (M.L.desc me)=ld M m (M.L.desc me):=fun hi=>by
  rcases hd with e | e
  ·exact e
  ·have:=fH e
   unfold Idle stt at hi
   omega
 refine⟨fun e=> ?_,fun e=> ?_,fun e=> ?_,h.bits,fun e e1=>by rw[ht];exact h.Fq e e1,fun e e1=>by rw[hk];exact h.Kj e e1,fun e e1=> ?_⟩
 ·have hi:=h.idle e
  unfold Idle stt at hi⊢
  rw[hidle (h.idle e)];exact hi
 ·have h5:=h.done e
  unfold stt
  rw[hidle (.inr h5)];exact h5
 ·have ho:=h.owns e
  refine⟨?_,by rw[ht];exact ho.2.1,ho.2.2.1,by rw[hk];exact ho.2.2.2⟩
  rcases hd with e2 | e2
  ·have h1:=ho.1
   unfold stt at h1⊢
   rw[e2];exact h1
  ·exact(fH e2).2.2
 ·rw[hidle (h.idle (.inl (by omega)))];exact h.Gy e e1
structure Gz (L:Ly) (h:oT):Prop where
 at_:0≤h.at_∧h.at_<L.th
 u: -1≤h.u∧h.u<L.th
theorem ED {h:oT} (hh:Gz M.L h):(cB M m h).2.1=m∧((cB M m h).1=false→Gz M.L (cB M m h).2.2)∧(-1≤(cB M m h).2.2.u∧(cB M m h).2.2.u<M.L.th):=by
 obtain⟨h1,h2⟩:=hh
 unfold cB
 split
 ·split
  ·exact⟨rfl,fun _=>⟨h1,h2⟩,h2⟩
  ·refine⟨rfl,fun e=>⟨?_,h2⟩,h2⟩
   simp only[decide_eq_false_iff_not] at e
   simp only;omega
 ·refine⟨rfl,fun e=>⟨?_,?_⟩,?_⟩
  ·simp only[decide_eq_false_iff_not] at e
   simp only;omega
  ·simp only;split<;>omega
  ·simp only;split<;>omega
structure fq (L:Ly) (me:Int) (t:cg) (d:aI) (N:Int):Prop where
 may:d.task.may=true
 lim:0≤d.limit∧d.limit≤1000
 at_:0≤d.at_∧d.at_≤9
 head:d.at_=0→Gz L d.head
 help:d.at_=1∨d.at_=5→dX L me t d.help N
 bm:d.at_=2→m6 L d.bm N
 fast:d.at_=3→mr L me t d.fast N
 ann:d.at_=4→(0≤d.ann.at_∧d.ann.at_≤4)∧(0≤d.ann.no∧d.ann.no<18446744073709551616)
 find:d.at_=7→(eV L me d.find N∧fF L d.find)∧(t.ret.length:Int)+d.find.aO.length≤N
 drop:d.at_=8→d.drop.thread=me∧(0≤d.drop.at_∧d.drop.at_≤1)
 sweep:d.at_=9→tj L d.sweep N
theorem fq.fine {d:aI} {N:Int} (hL:M.L.Ok) (hm:dY M m) (hu:0≤me∧me<M.L.th) (ht:bL M.L t N) (h:fq M.L me t d N) (hN0:0≤N) (hN:N≤90000):d.Fine M m t:=by
 have hth:=hL.th
 refine⟨h.may,h.lim,by have:=ht.len;omega,h.at_,fun e=>(h.head e).at_.2,fun e=>(h.help e).fine hL hm hu hN0 hN,fun e=>(h.bm e).live,fun e=>(h.fast e).fine hL hm hu hN0 hN,fun e=>(h.ann e).1,fun e=>by have:=(h.drop e).2;omega,fun e=> ?_⟩
 have hf:=(h.find e).1
 have hs:=gm hL hm hu hN0 hf.1 hf.2
 exact⟨hf.1.fine hL (by omega) (by omega),hf.1.at_,hs.2.ok.fine hL (by omega) (by omega)⟩
theorem Ci {t:bl} (h:t.may=true):gb t.num=true∧(0≤t.num∧t.num<18446744073709551616):=by
 obtain⟨h1,h2,h3⟩:=bl.rng h
 unfold gb
 rw[uL h,h]
 have:t.num / 65536=0:=by unfold bl.num;omega
 refine⟨by simp[this],?_⟩
 unfold bl.num;omega
end Go.Proofs.YtbcnnhlpilmmbaaGreat
