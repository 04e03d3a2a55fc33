/- Texts that are wanted for PTopFull.
   Conditions: none. -/
import Derived.Test.YtbcnnhlpilmmbaaGreatJPTopFull19
set_option maxRecDepth 100000
set_option maxHeartbeats 6400000
namespace Go.Proofs.YtbcnnhlpilmmbaaGreat
open Go Go.RowKit
variable {L:Ly}
theorem Nodes.small (hL:L.Ok) {l:List Int} (h:Nodes L l):Small l:=fun x hx=>by have:=h x hx;have:=hL.nd;omega
theorem eQ.fine (hL:L.Ok) {u:Int} {f:aC} {N:Int} (h:eQ L u f N) (hu:0≤u∧u≤7) (hN:N≤100000):f.Ok 100000:=by
 have hn:=hL.nd
 have h1:=h.tries;have h2:=h.moved;have h3:=h.aQ
 cases ha:f.ab with
 | false=>
  have hp:=h.pos ha
  exact⟨hp.pw.1,hp.cw.1,by have:=hp.curr;omega,by omega,by omega,by rw[h.me];exact hu,h3.1.small hL,by omega⟩
 | true=>
  have hp:=(h.ab ha).2
  exact⟨by rw[hp];simp,by rw[hp];simp,by rw[hp];simp,by omega,by omega,by rw[h.me];exact hu,h3.1.small hL,by omega⟩
theorem lP {t:bq} {p:Pos} {n:Int}:(aw t p n).res.code=0:=by
 unfold aw
 split
 ·rfl
 ·split
  ·rfl
  ·split
   ·unfold Pos.take
    split
    ·rfl
    ·split<;>rfl
   ·rfl
structure mO (L:Ly) (me:Int) (t:cV) (f:bj) (N:Int):Prop where
 may:f.task.may=true
 most:0≤f.most∧f.most≤1000
 at_:0≤f.at_∧f.at_≤3
 tries:0≤f.tries∧f.tries≤N
 sum:f.at_=0→f.tries+f.find.tries≤N∧f.find.limit=f.most - f.tries∧(t.ret.length:Int)+f.find.aQ.length≤N
 find:f.at_=0→eQ L me f.find N∧fM L f.find
 plan:1≤f.at_→oU L f.plan∧f.plan.now=false∧f.plan.res.code=0
 cl:f.at_=1→um L f.cl
 aD:f.at_=2→AY L f.aD
 code:f.res.code=0
variable {M:ML} {me:Int} {m:Mm} {t:cV}
theorem mO.fine {f:bj} {N:Int} (hL:M.L.Ok) (hm:ff M m) (hu:0≤me∧me<M.L.th) (h:mO M.L me t f N) (hN0:0≤N) (hN:N≤90000):f.Fine M m t:=by
 have hth:=hL.th;have hn:=hL.nd
 refine⟨⟨h.may,by have:=h.tries;omega,h.most⟩,h.at_,fun h0 _=> ?_,fun h2=>(h.aD h2).key.1,fun h3=> ?_⟩
 ·have hf:=h.find h0
  have hs:=jc hL hm hu hN0 hf.1 hf.2
  exact⟨hf.1.fine hL (by omega) (by omega),hf.1.at_,hs.2.ok.fine hL (by omega) (by omega)⟩
 ·have hp:=h.plan (by omega)
  exact⟨(hp.1.old hp.2.1).1,by have:=hp.1.pops;omega⟩
theorem jR (f:aC) (x:Int):(f.take x).2.limit=f.limit∧(f.take x).2.tries=f.tries∧(f.take x).2.aQ=f.aQ:=by
 unfold aC.take
 split<;>exact⟨rfl,rfl,rfl⟩
theorem jS (f:aC) (x:Int):(f.cN x).2.limit=f.limit∧(f.cN x).2.tries=f.tries+1∧(f.cN x).2.aQ=f.aQ:=by
 unfold aC.cN
 split
 ·exact⟨rfl,rfl,rfl⟩
 ·have:=jR f.aU x
  exact⟨this.1,this.2.1,this.2.2⟩
theorem m9 (L:Ly) (f:aC):(f.move L).2.2.limit=f.limit∧(f.move L).2.2.tries≤f.tries+1∧(f.move L).2.2.aQ=f.aQ:=by
 unfold aC.move
 split
 ·exact⟨rfl,by simp only;omega,rfl⟩
 ·split<;>exact⟨rfl,by simp only[aC.aU,aC.anew];omega,rfl⟩
theorem uZ (f:aC) (x:Int):(f.look x).2.limit=f.limit∧(f.look x).2.tries=f.tries∧(f.look x).2.aQ=f.aQ:=by
 unfold aC.look
 simp only
 split
 ·split<;>exact⟨rfl,rfl,rfl⟩
 ·split
  ·exact⟨rfl,rfl,rfl⟩
  ·split<;>exact⟨rfl,rfl,rfl⟩
theorem ke (M:ML) (m:Mm) (f:aC):(ax M m f).2.2.limit=f.limit∧(ax M m f).2.2.tries≤f.tries+1∧((ax M m f).2.2.aQ.length:Int)≤f.aQ.length+1:=by
 unfold ax
 split
 ·simp only
  split
  ·have:=jS f (ld M m f.pos.pred)
   exact⟨this.1,by omega,by rw[this.2.2];omega⟩
  ·have:=jR f (ld M m f.pos.pred)
   exact⟨this.1,by omega,by rw[this.2.2];omega⟩
 ·split
  ·exact⟨rfl,by simp only;omega,by simp only;omega⟩
  ·split
   ·simp only
    split
    ·have:=jS f (ld M m f.pos.pred)
     exact⟨this.1,by simp only;omega,by simp only;rw[this.2.2];omega⟩
    ·exact⟨rfl,by simp only;omega,by simp only;omega⟩
   ·split
    ·have:=uZ f (ld M m f.pos.curr)
     exact⟨this.1,by simp only;omega,by simp only;rw[this.2.2];omega⟩
    ·split
     ·simp only
      split<;>exact⟨rfl,by simp only[aC.aU];omega,by simp only[aC.aU];omega⟩
     ·split
      ·split
       ·have:=m9 M.L { f with aQ:=f.aQ++[f.pos.curr] }
        have hl:(f.aQ++[f.pos.curr]).length=f.aQ.length+1:=by simp
        simp only
        split
        ·have h2:=jR (({ f with aQ:=f.aQ++[f.pos.curr] }:aC).move M.L).2.2 f.cut
         have hq:=h2.2.1
         have hq2:=this.2.1
         exact⟨h2.1.trans this.1,by simp only at hq2⊢;rw[hq];exact hq2,by simp only;rw[h2.2.2,this.2.2,hl];omega⟩
        ·exact⟨this.1,this.2.1,by simp only;rw[this.2.2,hl];omega⟩
       ·exact⟨rfl,by simp only[aC.aU];omega,by simp only[aC.aU];omega⟩
      ·have:=m9 M.L { f with pos:={ f.pos with pred:=f.pos.curr },at_:=0 }
       have hq:=congrArg List.length this.2.2
       exact⟨this.1,this.2.1,by simp only at hq⊢;omega⟩
theorem x9 (hL:L.Ok) {me:Int} {t:cV} {f:bj} {N:Int} (h1:f.task.may=true) (h2:0≤f.most∧f.most≤1000) (h3:0≤f.tries∧f.tries≤N) (h4:f.res.code=0) (h5:(t.ret.length:Int)≤N) (hN:0≤N):mO L me t (f.kn L me) N:=by
 have hf:=wD hL me h1 (f.most - f.tries)
 refine⟨h1,h2,by simp[bj.kn],h3,fun _=>⟨by simp only[bj.kn,aC.new];omega,rfl,by simp[bj.kn,aC.new];omega⟩,fun _=>⟨hf.1.mono hN,hf.2⟩,fun e=>by simp[bj.kn] at e,fun e=>by simp[bj.kn] at e,fun e=>by simp[bj.kn] at e,h4⟩
theorem FK (hL:L.Ok) {me:Int} {t:cV} {k:bq} {most N:Int} (h1:k.may=true) (h2:0≤most∧most≤1000) (h5:(t.ret.length:Int)≤N) (hN:0≤N):mO L me t (.new L me k most) N:=
 x9 hL h1 h2 (by simp only;omega) rfl h5 hN
theorem u0 (hL:L.Ok) {me:Int} {t:cV} {f:bj} {N:Int} (h1:f.task.may=true) (h2:0≤f.most∧f.most≤1000) (h3:0≤f.tries∧f.tries≤N) (h4:f.res.code=0) (h5:(t.ret.length:Int)≤N) (hN:0≤N):((f.again L me).1=false→mO L me t (f.again L me).2 (N+1))∧(f.again L me).2.res.code=0:=by
 unfold bj.again
 split
 ·exact⟨fun e=>by simp at e,h4⟩
 ·exact⟨fun _=>x9 hL h1 h2 (by simp only[bj.aU];omega) h4 (by omega) (by omega),h4⟩
variable {N:Int}
theorem ig (h:bM L t N) {l:List Int} {N':Int} (hl:Nodes L l) (hn:(t.ret.length:Int)+l.length≤N'):bM L (t.retire l) N':=
 ⟨h.spare,h.ret.app hl,by simp only[cV.retire,List.length_append];omega⟩
theorem FL (hL:L.Ok) {t:cV} {N:Int} (h:bM L t N) {k:bq} {p:dw} (hp:oU L p):bM L (t.did k p) (N+1):=by
 have hn:=hL.nd
 have h1:bM L (if k.links then { t with spare:=0 } else t) N:=by
  split
  ·exact⟨by simp only;omega,h.ret,h.len⟩
  ·exact h
 unfold cV.did
 simp only
 split
 ·rename_i hz
  refine ig h1 (fun x hx=> ?_) (by have:=h1.len;simp;omega)
  simp at hx
  subst hx
  have:=hp.pops
  omega
 ·exact h1.mono (by omega)
theorem s9 {f:bj} {N:Int} (hL:M.L.Ok) (hm:ff M m) (hu:0≤me∧me<M.L.th) (hN:0≤N) (ht:bM M.L t N) (h:mO M.L me t f N):
  Safe M m (aJ M me m t f).2.1∧bM M.L (aJ M me m t f).2.2.1 (N+1)∧((aJ M me m t f).1=false→mO M.L me (aJ M me m t f).2.2.1 (aJ M me m t f).2.2.2 (N+1))∧(aJ M me m t f).2.2.2.res.code=0:=by
 have hn:=hL.nd
 have htl:=ht.len
 have htr:=h.tries
 unfold aJ
 split
 ·rename_i h0
  have hsum:=h.sum h0
  have hf:=h.find h0
  split
  ·exact⟨.refl hm,ht.mono (by omega),fun e=>by simp at e,h.code⟩
  ·have hs:=jc hL hm hu hN hf.1 hf.2
   simp only
   split
   ·rename_i hr
    refine⟨hs.1,?_⟩
    have hok:=hs.2.ok
    simp only at hok
    have key:(ax M m f.find).2.2.limit=f.find.limit∧(ax M m f.find).2.2.tries≤f.find.tries+1∧((ax M m f.find).2.2.aQ.length:Int)≤f.find.aQ.length+1:=ke M m f.find
    unfold bj.sought
    simp only
    have hrt:bM M.L (t.retire (ax M m f.find).2.2.aQ) (N+1):=ig ht hok.aQ.1 (by omega)
    have hnt:=hok.tries
    split
    ·exact⟨hrt,fun e=>by simp at e,h.code⟩
    ·rename_i ho
     have ho':¬ f.most<f.tries+(ax M m f.find).2.2.tries:=by
      intro e
      exact ho (decide_eq_true e)
     have hab:(ax M m f.find).2.2.ab=false:=by
      cases ha:(ax M m f.find).2.2.ab with
      | false=>rfl
      | true=>
       have:=(hok.ab ha).1
       omega
     have hpl:=xU hL (hok.pos hab) f.task ht.spare
     have hcd:=lP (t:=f.task) (p:=(ax M m f.find).2.2.pos) (n:=t.spare)
     split
     ·exact⟨hrt,fun e=>by simp at e,hcd⟩
     ·rename_i cR
      have lQ:(aw f.task (ax M m f.find).2.2.pos t.spare).now=false:=by simpa using cR
      split
      ·exact⟨hrt,fun _=>⟨h.may,h.most,by simp,by simp only[bj.aU];omega,fun e=>by simp at e,fun e=>by simp at e,fun _=>⟨hpl,lQ,hcd⟩,fun _=>sB (hpl.addr lQ),fun e=>by simp at e,h.code⟩,h.code⟩
      ·split
       ·have hkey:=(bq.rng h.may).key
        exact⟨hrt,fun _=>⟨h.may,h.most,by simp,by simp only[bj.aU];omega,fun e=>by simp at e,fun e=>by simp at e,fun _=>⟨hpl,lQ,hcd⟩,fun e=>by simp at e,fun _=>⟨by simp only[nB.new];omega,(hok.pos hab).curr⟩,h.code⟩,h.code⟩
       ·exact⟨hrt,fun _=>⟨h.may,h.most,by simp,by simp only[bj.aU];omega,fun e=>by simp at e,fun e=>by simp at e,fun _=>⟨hpl,lQ,hcd⟩,fun e=>by simp at e,fun e=>by simp at e,h.code⟩,h.code⟩
   ·rename_i hr
    have key:(ax M m f.find).2.2.limit=f.find.limit∧(ax M m f.find).2.2.tries≤f.find.tries+1∧((ax M m f.find).2.2.aQ.length:Int)≤f.find.aQ.length+1:=ke M m f.find
    exact⟨hs.1,ht.mono (by omega),fun _=>⟨h.may,h.most,h.at_,by simp only;omega,fun _=>⟨by simp only;omega,by rw[←hsum.2.1];exact key.1,by simp only;omega⟩,fun _=>⟨hs.2.ok,hs.2.live (by simpa using hr)⟩,fun e=>by simp only at e;omega,fun e=>by simp only at e;omega,fun e=>by simp only at e;omega,h.code⟩,h.code⟩
 ·split
  ·rename_i h0 h1
   have hc:=sD hL hm (h.cl h1)
   simp only
   split
   ·have:=u0 (L:=M.L) hL (me:=me) (t:=t) (f:={ f with cl:=(bz M m f.cl).2.2 }) (N:=N) h.may h.most htr h.code htl hN
    exact⟨hc.1,ht.mono (by omega),this.1,this.2⟩
   ·rename_i hr
    exact⟨hc.1,ht.mono (by omega),fun _=>⟨h.may,h.most,h.at_,by simp only;omega,fun e=>absurd e h0,fun e=>absurd e h0,h.plan,fun _=>hc.2 (by simpa using hr),h.aD,h.code⟩,h.code⟩
  ·split
   ·rename_i h0 h1 h2
    have hp:=xL hL hm ht (h.aD h2)
    simp only
    refine⟨hp.1,ht.mono (by omega),fun _=>⟨h.may,h.most,by simp only;split<;>omega,by simp only;omega,fun e=> ?_,fun e=> ?_,fun _=>h.plan (by omega),fun e=> ?_,fun _=>hp.2,h.code⟩,h.code⟩
    ·simp only at e;split at e<;>omega
    ·simp only at e;split at e<;>omega
    ·simp only at e;split at e<;>omega
   ·rename_i h0 h1 h2
    have hat:=h.at_
    have hpl:=h.plan (by omega)
    have hw:=yO hL hpl.1
    split
    ·exact⟨gd hm hw.2 hL (by have:=hpl.1.addr hpl.2.1;omega) hw.1,FL hL ht hpl.1,fun e=>by simp at e,hpl.2.2⟩
    ·have:=u0 (L:=M.L) hL (me:=me) (t:=t) (f:=f) (N:=N) h.may h.most htr h.code htl hN
     exact⟨.refl hm,ht.mono (by omega),this.1,this.2⟩
structure dE (L:Ly) (me:Int) (t:cV) (h:aK) (N:Int):Prop where
 u:0≤h.u∧h.u<L.th
 rounds:0≤h.rounds∧h.rounds≤N
 found:0≤h.found∧h.found<18446744073709551616
 at_:0≤h.at_∧h.at_≤9
 may:3≤h.at_→h.task.may=true
 pend:1≤h.at_→h.at_≤2→(getD' h.found).pend=true
 st1:4≤h.at_→(getD' h.found).status=1
 exec:h.at_=3→yP L h.exec∧(0≤h.exec.popped∧h.exec.popped≤L.nd)
 a5:h.at_=4→lI L h.a5 N
 find:h.at_=5→(eQ L me h.find N∧fM L h.find)∧(t.ret.length:Int)+h.find.aQ.length≤N
 plan:6≤h.at_→oU L h.plan
 now:7≤h.at_→h.plan.now=false
 cl:h.at_=7→um L h.cl
 aD:h.at_=8→AY L h.aD
theorem dE.fine {h:aK} {N:Int} (hL:M.L.Ok) (hm:ff M m) (hu:0≤me∧me<M.L.th) (hh:dE M.L me t h N) (hN0:0≤N) (hN:N≤90000):h.Fine M m:=by
 have hth:=hL.th
 refine⟨⟨hh.found,by have:=hh.u;omega,by have:=hh.rounds;omega⟩,hh.at_,fun e=>hh.may (by omega),fun e=>(hh.exec e).1.at_,fun e=>(hh.a5 e).live,fun e=> ?_,fun e=>(hh.aD e).key.1,fun e=>((hh.plan (by omega)).old (hh.now (by omega))).1⟩
 have hf:=(hh.find e).1
 have hs:=jc hL hm hu hN0 hf.1 hf.2
 exact⟨hf.1.fine hL (by omega) (by omega),hf.1.at_,hs.2.ok.fine hL (by omega) (by omega)⟩
theorem Bh (_:L.Ok) (me:Int) (t:cV) {u:Int} (hu:0≤u∧u<L.th) (no limit:Int) {N:Int} (hN:0≤N):dE L me t (.new L u no limit) N:=by
 refine⟨hu,by simp only[aK.new];omega,by simp[aK.new],by simp[aK.new],?_,?_,?_,?_,?_,?_,?_,?_,?_,?_⟩<;>(intro e;simp[aK.new] at e)
theorem rK (hL:L.Ok) {me:Int} {t:cV} {h:aK} {N:Int} (h1:0≤h.u∧h.u<L.th) (h2:0≤h.rounds∧h.rounds≤N) (h3:0≤h.found∧h.found<18446744073709551616) (h4:h.task.may=true) (h5:(getD' h.found).status=1) (h6:(t.ret.length:Int)≤N) (hN:0≤N):dE L me t (h.search L me) N:=by
 have hf:=wD hL me h4 h.limit
 exact⟨h1,h2,h3,by simp[aK.search],fun _=>h4,fun _ e=>by simp[aK.search] at e,fun _=>h5,fun e=>by simp[aK.search] at e,fun e=>by simp[aK.search] at e,fun _=>⟨⟨hf.1.mono hN,hf.2⟩,by simp[aK.search,aC.new];omega⟩,fun e=>by simp[aK.search] at e,fun e=>by simp[aK.search] at e,fun e=>by simp[aK.search] at e,fun e=>by simp[aK.search] at e⟩
theorem lR {h:aK} {N:Int} (h1:0≤h.u∧h.u<L.th) (h2:0≤h.rounds∧h.rounds≤N) (h3:0≤h.found∧h.found<18446744073709551616) (h0:h.at_=0):dE L me t h N:=by
 refine⟨h1,h2,h3,by omega,?_,?_,?_,?_,?_,?_,?_,?_,?_,?_⟩<;>(intro e;omega)
theorem u3 (hL:L.Ok):oU L dM:=by
 have:=hL.nd
 exact⟨fun h=>by simp[dM] at h,fun h=>by simp[dM] at h,fun h=>by simp[dM] at h,by simp[dM],by simp only[dM];omega,.inr rfl⟩
theorem Bi (hL:L.Ok) {me:Int} {t:cV} {h:aK} {N:Int} (hh:dE L me t h N) (_:h.at_=2) (x:Int) (h6:(t.ret.length:Int)≤N) (hN:0≤N):(h.begin_ L me t x).1=false→dE L me t (h.begin_ L me t x).2 N:=by
 intro e
 unfold aK.begin_ at e⊢
 split at e
 ·simp at e
 ·rename_i hk
  rw[if_neg hk]
  have hmay:(eA x).may=true:=by
   have hk':gC x=true:=by simpa using hk
   unfold gC at hk'
   simp only[Bool.and_eq_true] at hk'
   exact hk'.2
  simp only at e⊢
  split at e
  ·rename_i hs
   rw[if_pos hs]
   have:=Fx (L:=L) hh.u (eA x) (getD' h.found).aM
   have hn:=hL.nd
   refine⟨hh.u,hh.rounds,hh.found,by simp,fun _=>hmay,fun _ e=>by simp at e,fun e=>by simp at e,fun _=>⟨this.1,?_⟩,fun e=>by simp at e,fun e=>by simp at e,fun e=>by simp at e,fun e=>by simp at e,fun e=>by simp at e,fun e=>by simp at e⟩
   have h3:=this.2
   simp only
   omega
  ·rename_i hs
   rw[if_neg hs]
   have hs':(getD' h.found).status=1:=by simpa using hs
   split
   ·exact⟨hh.u,hh.rounds,hh.found,by simp,fun _=>hmay,fun _ e=>by simp at e,fun _=>hs',fun e=>by simp at e,fun _=>AX L N,fun e=>by simp at e,fun e=>by simp at e,fun e=>by simp at e,fun e=>by simp at e,fun e=>by simp at e⟩
   ·exact rK hL hh.u hh.rounds hh.found hmay hs' h6 hN
theorem jT {h:aK} (h0:h.at_=0):ah M me m t h=(!(getD' (ld M m (M.L.desc h.u))).pend,m,t,{ h with found:=ld M m (M.L.desc h.u),rounds:=h.rounds+1,at_:=1 }):=by
 unfold ah;simp only;rw[if_pos h0]
theorem ij {h:aK} (h0:h.at_=1):ah M me m t h=(decide (ld M m (M.L.ticket h.u)≠h.no),m,t,{ h with at_:=2 }):=by
 unfold ah;simp only;rw[if_neg (by rw[h0];decide)];rw[if_pos h0]
theorem ik {h:aK} (h0:h.at_=2):ah M me m t h=((h.begin_ M.L me t (ld M m (M.L.task h.u))).1,m,t,(h.begin_ M.L me t (ld M m (M.L.task h.u))).2):=by
 unfold ah;simp only;rw[if_neg (by rw[h0];decide)];rw[if_neg (by rw[h0];decide)];rw[if_pos h0]
theorem il {h:aK} (h0:h.at_=3):ah M me m t h=(false,(bu M m h.exec).2.1,if (bu M m h.exec).1∧(bu M m h.exec).2.2.popped≠0 then t.retire [(bu M m h.exec).2.2.popped] else t,{ h with exec:=(bu M m h.exec).2.2,at_:=if (bu M m h.exec).1 then 0 else 3 }):=by
 unfold ah;simp only;rw[if_neg (by rw[h0];decide)];rw[if_neg (by rw[h0];decide)];rw[if_neg (by rw[h0];decide)];rw[if_pos h0]
theorem iq {h:aK} (h0:h.at_=4):ah M me m t h=(false,(aF M me m t h.a5).2.1,(aF M me m t h.a5).2.2.1,if (aF M me m t h.a5).1=false then { h with a5:=(aF M me m t h.a5).2.2.2 } else if (aF M me m t h.a5).2.2.2.short then { h with a5:=(aF M me m t h.a5).2.2.2,at_:=6,plan:=dM } else aK.search M.L me { h with a5:=(aF M me m t h.a5).2.2.2 }):=by
 unfold ah;simp only;rw[if_neg (by rw[h0];decide)];rw[if_neg (by rw[h0];decide)];rw[if_neg (by rw[h0];decide)];rw[if_neg (by rw[h0];decide)];rw[if_pos h0]
theorem iu {h:aK} (h0:h.at_=5):ah M me m t h=if (ax M m h.find).1 then (false,(ax M m h.find).2.1,t.retire (ax M m h.find).2.2.aQ,aK.bP t.spare { h with find:=(ax M m h.find).2.2 }) else (false,(ax M m h.find).2.1,t,{ h with find:=(ax M m h.find).2.2 }):=by
 unfold ah;simp only;rw[if_neg (by rw[h0];decide)];rw[if_neg (by rw[h0];decide)];rw[if_neg (by rw[h0];decide)];rw[if_neg (by rw[h0];decide)];rw[if_neg (by rw[h0];decide)];rw[if_pos h0];simp only[aK.rI]
theorem iv {h:aK} (h0:h.at_=6):ah M me m t h=(false,cas M m (M.L.desc h.u) h.found (cL ((getD' h.found).ended h.plan.res.code h.plan.res.ok h.plan.res.val)),t,{ h with at_:=0 }):=by
 unfold ah;simp only;rw[if_neg (by rw[h0];decide)];rw[if_neg (by rw[h0];decide)];rw[if_neg (by rw[h0];decide)];rw[if_neg (by rw[h0];decide)];rw[if_neg (by rw[h0];decide)];rw[if_neg (by rw[h0];decide)];rw[if_pos h0]
theorem iw {h:aK} (h0:h.at_=7):ah M me m t h=(false,(bz M m h.cl).2.1,t,{ h with cl:=(bz M m h.cl).2.2,at_:=if (bz M m h.cl).1 then 0 else 7 }):=by
 unfold ah;simp only;rw[if_neg (by rw[h0];decide)];rw[if_neg (by rw[h0];decide)];rw[if_neg (by rw[h0];decide)];rw[if_neg (by rw[h0];decide)];rw[if_neg (by rw[h0];decide)];rw[if_neg (by rw[h0];decide)];rw[if_neg (by rw[h0];decide)];rw[if_pos h0]
theorem ix {h:aK} (h0:h.at_=8):ah M me m t h=(false,(dh M m t h.aD).2.1,t,{ h with aD:=(dh M m t h.aD).2.2,at_:=if (dh M m t h.aD).1 then 9 else 8 }):=by
 unfold ah;simp only;rw[if_neg (by rw[h0];decide)];rw[if_neg (by rw[h0];decide)];rw[if_neg (by rw[h0];decide)];rw[if_neg (by rw[h0];decide)];rw[if_neg (by rw[h0];decide)];rw[if_neg (by rw[h0];decide)];rw[if_neg (by rw[h0];decide)];rw[if_neg (by rw[h0];decide)];rw[if_pos h0]
theorem lS {h:aK} (h0:h.at_=9):ah M me m t h=(false,cas M m (M.L.desc h.u) h.found (h.plan.desc (getD' h.found).aM),if bS M m (M.L.desc h.u) h.found && h.task.links then { t with spare:=0 } else t,{ h with at_:=0 }):=by
 unfold ah;simp only;rw[if_neg (by rw[h0];decide)];rw[if_neg (by rw[h0];decide)];rw[if_neg (by rw[h0];decide)];rw[if_neg (by rw[h0];decide)];rw[if_neg (by rw[h0];decide)];rw[if_neg (by rw[h0];decide)];rw[if_neg (by rw[h0];decide)];rw[if_neg (by rw[h0];decide)];rw[if_neg (by rw[h0];decide)]
theorem Bj {h:aK} {N:Int} (hL:M.L.Ok) (hm:ff M m) (_:0≤me∧me<M.L.th) (_:0≤N) (ht:bM M.L t N) (hh:dE M.L me t h N) (h0:h.at_=0):Safe M m (ah M me m t h).2.1∧bM M.L (ah M me m t h).2.2.1 (N+1)∧((ah M me m t h).1=false→dE M.L me (ah M me m t h).2.2.1 (ah M me m t h).2.2.2 (N+1)):=by
 have hn:=hL.nd
 have htl:=ht.len
 have hr:=hh.rounds
 rw[jT h0]
 refine⟨.refl hm,ht.mono (by omega),fun e=> ?_⟩
 have cr:=nR (M:=M) hm.rng (M.L.desc h.u)
 have e':(getD' (ld M m (M.L.desc h.u))).pend=true:=by
  cases hp:(getD' (ld M m (M.L.desc h.u))).pend with
  | true=>rfl
  | false=>simp only[hp] at e;cases e
 exact⟨hh.u,by simp only;omega,cr,by simp,fun e=>by simp at e,fun _ _=>e',fun e=>by simp at e,fun e=>by simp at e,fun e=>by simp at e,fun e=>by simp at e,fun e=>by simp at e,fun e=>by simp at e,fun e=>by simp at e,fun e=>by simp at e⟩
theorem Bk {h:aK} {N:Int} (hL:M.L.Ok) (hm:ff M m) (_:0≤me∧me<M.L.th) (_:0≤N) (ht:bM M.L t N) (hh:dE M.L me t h N) (h0:h.at_=1):Safe M m (ah M me m t h).2.1∧bM M.L (ah M me m t h).2.2.1 (N+1)∧((ah M me m t h).1=false→dE M.L me (ah M me m t h).2.2.1 (ah M me m t h).2.2.2 (N+1)):=by
 have hn:=hL.nd
 have htl:=ht.len
 have hr:=hh.rounds
 rw[ij h0]
 exact⟨.refl hm,ht.mono (by omega),fun _=>⟨hh.u,(by omega:(0:Int)≤h.rounds∧h.rounds≤N+1),hh.found,by simp,fun e=>by simp at e,fun _ _=>hh.pend (by omega) (by omega),fun e=>by simp at e,fun e=>by simp at e,fun e=>by simp at e,fun e=>by simp at e,fun e=>by simp at e,fun e=>by simp at e,fun e=>by simp at e,fun e=>by simp at e⟩⟩
theorem Bl {h:aK} {N:Int} (hL:M.L.Ok) (hm:ff M m) (_:0≤me∧me<M.L.th) (hN:0≤N) (ht:bM M.L t N) (hh:dE M.L me t h N) (h0:h.at_=2):Safe M m (ah M me m t h).2.1∧bM M.L (ah M me m t h).2.2.1 (N+1)∧((ah M me m t h).1=false→dE M.L me (ah M me m t h).2.2.1 (ah M me m t h).2.2.2 (N+1)):=by
 have hn:=hL.nd
 have htl:=ht.len
 have hr:=hh.rounds
 rw[ik h0]
 refine⟨.refl hm,ht.mono (by omega),fun e=> ?_⟩
 have hup:dE M.L me t h (N+1):=⟨hh.u,by omega,hh.found,hh.at_,hh.may,hh.pend,hh.st1,hh.exec,fun e=>(hh.a5 e).mono (by omega),fun e=>⟨⟨(hh.find e).1.1.mono (by omega),(hh.find e).1.2⟩,by have:=(hh.find e).2;omega⟩,hh.plan,hh.now,hh.cl,hh.aD⟩
 exact Bi hL hup h0 _ (by omega) (by omega) e
theorem Bm {h:aK} {N:Int} (hL:M.L.Ok) (hm:ff M m) (_:0≤me∧me<M.L.th) (_:0≤N) (ht:bM M.L t N) (hh:dE M.L me t h N) (h0:h.at_=3):Safe M m (ah M me m t h).2.1∧bM M.L (ah M me m t h).2.2.1 (N+1)∧((ah M me m t h).1=false→dE M.L me (ah M me m t h).2.2.1 (ah M me m t h).2.2.2 (N+1)):=by
 have hn:=hL.nd
 have htl:=ht.len
 have hr:=hh.rounds
 rw[il h0]
 have hx:=hh.exec h0
 have hs:=Dl hL hm hx.1 hx.2
 refine⟨hs.1,?_,fun _=> ?_⟩
 ·simp only
  split
  ·rename_i hp
   refine ig ht (fun x hx=> ?_) (by simp;omega)
   simp at hx
   subst hx
   have h9:=hs.2.2
   have h8:=hp.2
   omega
  ·exact ht.mono (by omega)
 ·cases hq:(bu M m h.exec).1 with
  | true=>exact lR hh.u (by omega:(0:Int)≤h.rounds∧h.rounds≤N+1) hh.found (by simp)
  | false=>exact⟨hh.u,(by omega:(0:Int)≤h.rounds∧h.rounds≤N+1),hh.found,by simp,fun _=>hh.may (by omega),fun _ e=>by simp at e,fun e=>by simp at e,fun _=>⟨hs.2.1 hq,hs.2.2⟩,fun e=>by simp at e,fun e=>by simp at e,fun e=>by simp at e,fun e=>by simp at e,fun e=>by simp at e,fun e=>by simp at e⟩
theorem Bn {h:aK} {N:Int} (hL:M.L.Ok) (hm:ff M m) (_:0≤me∧me<M.L.th) (hN:0≤N) (ht:bM M.L t N) (hh:dE M.L me t h N) (h0:h.at_=4):Safe M m (ah M me m t h).2.1∧bM M.L (ah M me m t h).2.2.1 (N+1)∧((ah M me m t h).1=false→dE M.L me (ah M me m t h).2.2.1 (ah M me m t h).2.2.2 (N+1)):=by
 have hn:=hL.nd
 have htl:=ht.len
 have hr:=hh.rounds
 rw[iq h0]
 have hs:=xK (me:=me) hL hm ht (hh.a5 h0)
 have hst:=hh.st1 (by omega)
 have hmay:=hh.may (by omega)
 have hrl:=hs.2.1.len
 refine⟨hs.1,hs.2.1.mono (by omega),fun _=> ?_⟩
 simp only
 split
 ·rename_i hq
  exact⟨hh.u,(by omega:(0:Int)≤h.rounds∧h.rounds≤N+1),hh.found,hh.at_,fun _=>hmay,fun e1 e2=>by simp only at e1 e2;omega,fun _=>hst,fun e=>by simp only at e;omega,fun _=>(hs.2.2 hq).mono (by omega),fun e=>by simp only at e;omega,fun e=>by simp only at e;omega,fun e=>by simp only at e;omega,fun e=>by simp only at e;omega,fun e=>by simp only at e;omega⟩
 ·split
  ·exact⟨hh.u,(by omega:(0:Int)≤h.rounds∧h.rounds≤N+1),hh.found,by simp,fun _=>hmay,fun _ e=>by simp at e,fun _=>hst,fun e=>by simp at e,fun e=>by simp at e,fun e=>by simp at e,fun _=>u3 hL,fun e=>by simp at e,fun e=>by simp at e,fun e=>by simp at e⟩
  ·exact rK hL hh.u (by omega:(0:Int)≤h.rounds∧h.rounds≤N+1) hh.found hmay hst (by omega) (by omega)
theorem Bo {h:aK} {N:Int} (hL:M.L.Ok) (hm:ff M m) (hu:0≤me∧me<M.L.th) (hN:0≤N) (ht:bM M.L t N) (hh:dE M.L me t h N) (h0:h.at_=5):Safe M m (ah M me m t h).2.1∧bM M.L (ah M me m t h).2.2.1 (N+1)∧((ah M me m t h).1=false→dE M.L me (ah M me m t h).2.2.1 (ah M me m t h).2.2.2 (N+1)):=by
 have hn:=hL.nd
 have htl:=ht.len
 have hr:=hh.rounds
 rw[iu h0]
 have hf:=(hh.find h0).1
 have hsum:=(hh.find h0).2
 have hs:=jc hL hm hu hN hf.1 hf.2
 have hok:=hs.2.ok
 have hct:=ke M m h.find
 have hst:=hh.st1 (by omega)
 have hmay:=hh.may (by omega)
 simp only at hok
 split
 ·rename_i hq
  refine⟨hs.1,?_⟩
  have hrt:bM M.L (t.retire (ax M m h.find).2.2.aQ) (N+1):=ig ht hok.aQ.1 (by omega)
  refine⟨hrt,fun _=> ?_⟩
  unfold aK.bP
  simp only
  split
  ·exact lR hh.u (by omega:(0:Int)≤h.rounds∧h.rounds≤N+1) hh.found (by simp)
  ·rename_i hab
   have hab':(ax M m h.find).2.2.ab=false:=by simpa using hab
   have hpl:=xU hL (hok.pos hab') h.task ht.spare
   split
   ·exact⟨hh.u,(by omega:(0:Int)≤h.rounds∧h.rounds≤N+1),hh.found,by simp,fun _=>hmay,fun _ e=>by simp at e,fun _=>hst,fun e=>by simp at e,fun e=>by simp at e,fun e=>by simp at e,fun _=>hpl,fun e=>by simp at e,fun e=>by simp at e,fun e=>by simp at e⟩
   ·rename_i cR
    have lQ:(aw h.task (ax M m h.find).2.2.pos t.spare).now=false:=by simpa using cR
    split
    ·exact⟨hh.u,(by omega:(0:Int)≤h.rounds∧h.rounds≤N+1),hh.found,by simp,fun _=>hmay,fun _ e=>by simp at e,fun _=>hst,fun e=>by simp at e,fun e=>by simp at e,fun e=>by simp at e,fun _=>hpl,fun _=>lQ,fun _=>sB (hpl.addr lQ),fun e=>by simp at e⟩
    ·split
     ·have hkey:=(bq.rng hmay).key
      exact⟨hh.u,(by omega:(0:Int)≤h.rounds∧h.rounds≤N+1),hh.found,by simp,fun _=>hmay,fun _ e=>by simp at e,fun _=>hst,fun e=>by simp at e,fun e=>by simp at e,fun e=>by simp at e,fun _=>hpl,fun _=>lQ,fun e=>by simp at e,fun _=>⟨by simp only[nB.new];omega,(hok.pos hab').curr⟩⟩
     ·exact⟨hh.u,(by omega:(0:Int)≤h.rounds∧h.rounds≤N+1),hh.found,by simp,fun _=>hmay,fun _ e=>by simp at e,fun _=>hst,fun e=>by simp at e,fun e=>by simp at e,fun e=>by simp at e,fun _=>hpl,fun _=>lQ,fun e=>by simp at e,fun e=>by simp at e⟩
 ·rename_i hq
  exact⟨hs.1,ht.mono (by omega),fun _=>⟨hh.u,(by omega:(0:Int)≤h.rounds∧h.rounds≤N+1),hh.found,hh.at_,fun _=>hmay,fun e1 e2=>by simp only at e1 e2;omega,fun _=>hst,fun e=>by simp only at e;omega,fun e=>by simp only at e;omega,fun _=>⟨⟨hok,hs.2.live (by simpa using hq)⟩,by simp only;omega⟩,fun e=>by simp only at e;omega,fun e=>by simp only at e;omega,fun e=>by simp only at e;omega,fun e=>by simp only at e;omega⟩⟩
theorem Bp {h:aK} {N:Int} (hL:M.L.Ok) (hm:ff M m) (_:0≤me∧me<M.L.th) (_:0≤N) (ht:bM M.L t N) (hh:dE M.L me t h N) (h0:h.at_=6):Safe M m (ah M me m t h).2.1∧bM M.L (ah M me m t h).2.2.1 (N+1)∧((ah M me m t h).1=false→dE M.L me (ah M me m t h).2.2.1 (ah M me m t h).2.2.2 (N+1)):=by
 have hn:=hL.nd
 have htl:=ht.len
 have hr:=hh.rounds
 rw[iv h0]
 have hp:=hh.plan (by omega)
 exact⟨fg hm (dN _) hL hh.u (ub (hh.st1 (by omega)) _ _ _ hp.val),ht.mono (by omega),fun _=>lR hh.u (by omega:(0:Int)≤h.rounds∧h.rounds≤N+1) hh.found (by simp)⟩
theorem Bq {h:aK} {N:Int} (hL:M.L.Ok) (hm:ff M m) (_:0≤me∧me<M.L.th) (_:0≤N) (ht:bM M.L t N) (hh:dE M.L me t h N) (h0:h.at_=7):Safe M m (ah M me m t h).2.1∧bM M.L (ah M me m t h).2.2.1 (N+1)∧((ah M me m t h).1=false→dE M.L me (ah M me m t h).2.2.1 (ah M me m t h).2.2.2 (N+1)):=by
 have hn:=hL.nd
 have htl:=ht.len
 have hr:=hh.rounds
 rw[iw h0]
 have hc:=sD hL hm (hh.cl h0)
 refine⟨hc.1,ht.mono (by omega),fun _=> ?_⟩
 cases hq:(bz M m h.cl).1 with
 | true=>exact lR hh.u (by omega:(0:Int)≤h.rounds∧h.rounds≤N+1) hh.found (by simp)
 | false=>exact⟨hh.u,(by omega:(0:Int)≤h.rounds∧h.rounds≤N+1),hh.found,by simp,fun _=>hh.may (by omega),fun _ e=>by simp at e,fun _=>hh.st1 (by omega),fun e=>by simp at e,fun e=>by simp at e,fun e=>by simp at e,fun _=>hh.plan (by omega),fun _=>hh.now (by omega),fun _=>hc.2 hq,fun e=>by simp at e⟩
theorem Br {h:aK} {N:Int} (hL:M.L.Ok) (hm:ff M m) (_:0≤me∧me<M.L.th) (_:0≤N) (ht:bM M.L t N) (hh:dE M.L me t h N) (h0:h.at_=8):Safe M m (ah M me m t h).2.1∧bM M.L (ah M me m t h).2.2.1 (N+1)∧((ah M me m t h).1=false→dE M.L me (ah M me m t h).2.2.1 (ah M me m t h).2.2.2 (N+1)):=by
 have hn:=hL.nd
 have htl:=ht.len
 have hr:=hh.rounds
 rw[ix h0]
 have hp:=xL hL hm ht (hh.aD h0)
 refine⟨hp.1,ht.mono (by omega),fun _=> ?_⟩
 cases hq:(dh M m t h.aD).1 with
 | true=>exact⟨hh.u,(by omega:(0:Int)≤h.rounds∧h.rounds≤N+1),hh.found,by simp,fun _=>hh.may (by omega),fun _ e=>by simp at e,fun _=>hh.st1 (by omega),fun e=>by simp at e,fun e=>by simp at e,fun e=>by simp at e,fun _=>hh.plan (by omega),fun _=>hh.now (by omega),fun e=>by simp at e,fun e=>by simp at e⟩
 | false=>exact⟨hh.u,(by omega:(0:Int)≤h.rounds∧h.rounds≤N+1),hh.found,by simp,fun _=>hh.may (by omega),fun _ e=>by simp at e,fun _=>hh.st1 (by omega),fun e=>by simp at e,fun e=>by simp at e,fun e=>by simp at e,fun _=>hh.plan (by omega),fun _=>hh.now (by omega),fun e=>by simp at e,fun _=>hp.2⟩
theorem Bs {h:aK} {N:Int} (hL:M.L.Ok) (hm:ff M m) (_:0≤me∧me<M.L.th) (_:0≤N) (ht:bM M.L t N) (hh:dE M.L me t h N) (h0:h.at_=9):Safe M m (ah M me m t h).2.1∧bM M.L (ah M me m t h).2.2.1 (N+1)∧((ah M me m t h).1=false→dE M.L me (ah M me m t h).2.2.1 (ah M me m t h).2.2.2 (N+1)):=by
 have hn:=hL.nd
 have htl:=ht.len
 have hr:=hh.rounds
 rw[lS h0]
 have hp:=hh.plan (by omega)
 have hd:=rE hL hp (hh.now (by omega)) (hh.st1 (by omega))
 refine⟨fg hm hd.2.1 hL hh.u hd.1,?_,fun _=>lR hh.u (by omega:(0:Int)≤h.rounds∧h.rounds≤N+1) hh.found (by simp)⟩
 simp only
 split
 ·exact⟨by simp only;omega,ht.ret,by simp only;omega⟩
 ·exact ht.mono (by omega)
theorem lT {h:aK} {N:Int} (hL:M.L.Ok) (hm:ff M m) (hu:0≤me∧me<M.L.th) (hN:0≤N) (ht:bM M.L t N) (hh:dE M.L me t h N):Safe M m (ah M me m t h).2.1∧bM M.L (ah M me m t h).2.2.1 (N+1)∧((ah M me m t h).1=false→dE M.L me (ah M me m t h).2.2.1 (ah M me m t h).2.2.2 (N+1)):=by
 rcases(by have:=hh.at_;omega:h.at_=0∨h.at_=1∨h.at_=2∨h.at_=3∨h.at_=4∨h.at_=5∨h.at_=6∨h.at_=7∨h.at_=8∨h.at_=9) with h0 | h0 | h0 | h0 | h0 | h0 | h0 | h0 | h0 | h0
 ·exact Bj hL hm hu hN ht hh h0
 ·exact Bk hL hm hu hN ht hh h0
 ·exact Bl hL hm hu hN ht hh h0
 ·exact Bm hL hm hu hN ht hh h0
 ·exact Bn hL hm hu hN ht hh h0
 ·exact Bo hL hm hu hN ht hh h0
 ·exact Bp hL hm hu hN ht hh h0
 ·exact Bq hL hm hu hN ht hh h0
 ·exact Br hL hm hu hN ht hh h0
 ·exact Bs hL hm hu hN ht hh h0
abbrev stt (M:ML) (m:Mm) (u:Int):Int:=(getD' (ld M m (M.L.desc u))).status
def Idle (M:ML) (m:Mm) (u:Int):Prop:=stt M m u=0∨stt M m u=5
structure Rel (M:ML) (me:Int) (m m':Mm):Prop where
 rng:yv m'
 word:∀ a,1≤a→a≤M.L.nd+4→(aE (ld M m' a)).next≤M.L.nd
 desc:∀ v,0≤v→v<M.L.th→ld M m' (M.L.desc v)=ld M m (M.L.desc v)∨gF M.L (ld M m (M.L.desc v)) (ld M m' (M.L.desc v))∨(v=me∧Idle M m me∧getD' (ld M m' (M.L.desc v))=(getD' (ld M m (M.L.desc v))).cm)
 task:∀ v,0≤v→v<M.L.th→v≠me→ld M m' (M.L.task v)=ld M m (M.L.task v)
 tick:∀ v,0≤v→v<M.L.th→v≠me→ld M m' (M.L.ticket v)=ld M m (M.L.ticket v)
 life:∀ n,1≤n→n≤M.L.nd→ld M m' (M.L.life n)=ld M m (M.L.life n)∨ld M m' (M.L.life n)=(ld M m (M.L.life n)+1) % 18446744073709551616
variable {m':Mm}
theorem Safe.rel (h:Safe M m m') (me:Int):Rel M me m m':=⟨h.rng,h.word,fun v h0 h1=>(h.desc v h0 h1).imp id .inl,fun v h0 h1 _=>h.task v h0 h1,fun v h0 h1 _=>h.tick v h0 h1,h.life⟩
theorem zb (L:Ly) {x y:Int} (h:getD' y=(getD' x).cm):yw L y:=⟨by rw[h];simp[Ds.cm],fun h5=>by rw[h] at h5;simp[Ds.cm] at h5⟩
theorem Rel.ok (h:Rel M me m m') (hm:ff M m):ff M m':=
 ⟨h.rng,h.word,fun v h0 h1=>(h.desc v h0 h1).elim (fun e=>by rw[e];exact hm.desc v h0 h1) (fun e=>e.elim (·.ok) (fun e=>zb _ e.2.2))⟩
theorem gp {x y:Int} (h:gF L x y):1≤(getD' x).status∧(getD' x).status≤4∧1≤(getD' y).status:=by
 rcases h.path with ⟨h1,-,h2⟩ | ⟨h1,h2⟩ | ⟨h1,h2⟩ | ⟨h1,h2⟩
 ·omega
 ·rcases h2 with h2 | h2<;>(rw[h2];simp only[Ds.with_];omega)
 ·rw[h2];simp only;omega
 ·rw[h2];simp only[Ds.cm];omega
theorem Safe.idle (h:Safe M m m') {u:Int} (hu:0≤u∧u<M.L.th) (hi:Idle M m u):ld M m' (M.L.desc u)=ld M m (M.L.desc u):=by
 rcases h.desc u hu.1 hu.2 with e | e
 ·exact e
 ·have:=gp e
  unfold Idle stt at hi
  omega
theorem Safe.stay (h:Safe M m m') {u:Int} (hu:0≤u∧u<M.L.th) (hi:1≤stt M m u):1≤stt M m' u:=by
 rcases h.desc u hu.1 hu.2 with e | e
 ·unfold stt at hi⊢;rw[e];exact hi
 ·exact(gp e).2.2
theorem Safe.done (h:Safe M m m') {u:Int} (hu:0≤u∧u<M.L.th) (hi:stt M m u=5):stt M m' u=5:=by
 unfold stt
 rw[h.idle hu (.inr hi)]
 exact hi
structure Own (M:ML) (me:Int) (m:Mm) (d:aH):Prop where
 idle:d.at_≤4∨7≤d.at_→Idle M m me
 done:d.at_=6→stt M m me=5
 owns:d.at_=5→1≤stt M m me∧ld M m (M.L.task me)=d.task.num∧d.help.u=me∧d.help.no=ld M m (M.L.ticket me)
 bits:d.at_=4→d.ann.bits=d.task.num
 EC:d.at_=4→1≤d.ann.at_→ld M m (M.L.task me)=d.task.num
 JG:d.at_=4→3≤d.ann.at_→ld M m (M.L.ticket me)=d.ann.no
 ED:d.at_=4→d.ann.at_=4→d.ann.found=ld M m (M.L.desc me)
theorem Own.safe {d:aH} (h:Own M me m d) (hs:Safe M m m') (hu:0≤me∧me<M.L.th):Own M me m' d:=by
 have ht:=hs.task me hu.1 hu.2
 have hk:=hs.tick me hu.1 hu.2
 refine⟨fun e=> ?_,fun e=>hs.done hu (h.done e),fun e=> ?_,h.bits,fun e e1=>by rw[ht];exact h.EC e e1,fun e e1=>by rw[hk];exact h.JG e e1,fun e e1=> ?_⟩
 ·have hi:=h.idle e
  unfold Idle stt at hi⊢
  rw[hs.idle hu (h.idle e)];exact hi
 ·have ho:=h.owns e
  exact⟨hs.stay hu ho.1,by rw[ht];exact ho.2.1,ho.2.2.1,by rw[hk];exact ho.2.2.2⟩
 ·rw[hs.idle hu (h.idle (.inl (by omega)))];exact h.ED e e1
theorem Own.rel {me u:Int} {m m':Mm} {d:aH} (h:Own M me m d) (hs:Rel M u m m') (hu:0≤me∧me<M.L.th) (hne:me≠u) (_:ff M m):Own M me m' d:=by
 have ht:=hs.task me hu.1 hu.2 hne
 have hk:=hs.tick me hu.1 hu.2 hne
 have hd:ld M m' (M.L.desc me)=ld M m (M.L.desc me)∨gF M.L (ld M m (M.L.desc me)) (ld M m' (M.L.desc me)):=by
  rcases hs.desc me hu.1 hu.2 with e | e | e
  ·exact .inl e
  ·exact .inr e
  ·exact absurd e.1 hne
 have hidle:Idle M m me→ld M m' (M.L.desc me)=ld M m (M.L.desc me):=fun hi=>by
  rcases hd with e | e
  ·exact e
  ·have:=gp e
   unfold Idle stt at hi
   omega
 refine⟨fun e=> ?_,fun e=> ?_,fun e=> ?_,h.bits,fun e e1=>by rw[ht];exact h.EC e e1,fun e e1=>by rw[hk];exact h.JG e e1,fun e e1=> ?_⟩
 ·have hi:=h.idle e
  unfold Idle stt at hi⊢
  rw[hidle (h.idle e)];exact hi
 ·have h5:=h.done e
  unfold stt
  rw[hidle (.inr h5)];exact h5
 ·have ho:=h.owns e
  refine⟨?_,by rw[ht];exact ho.2.1,ho.2.2.1,by rw[hk];exact ho.2.2.2⟩
  rcases hd with e2 | e2
  ·have h1:=ho.1
   unfold stt at h1⊢
   rw[e2];exact h1
  ·exact(gp e2).2.2
 ·rw[hidle (h.idle (.inl (by omega)))];exact h.ED e e1
structure FM (L:Ly) (h:oh):Prop where
 at_:0≤h.at_∧h.at_<L.th
 u: -1≤h.u∧h.u<L.th
theorem DM {h:oh} (hh:FM M.L h):(cq M m h).2.1=m∧((cq M m h).1=false→FM M.L (cq M m h).2.2)∧(-1≤(cq M m h).2.2.u∧(cq M m h).2.2.u<M.L.th):=by
 obtain⟨h1,h2⟩:=hh
 unfold cq
 split
 ·split
  ·exact⟨rfl,fun _=>⟨h1,h2⟩,h2⟩
  ·refine⟨rfl,fun e=>⟨?_,h2⟩,h2⟩
   simp only[decide_eq_false_iff_not] at e
   simp only;omega
 ·refine⟨rfl,fun e=>⟨?_,?_⟩,?_⟩
  ·simp only[decide_eq_false_iff_not] at e
   simp only;omega
  ·simp only;split<;>omega
  ·simp only;split<;>omega
structure eR (L:Ly) (me:Int) (t:cV) (d:aH) (N:Int):Prop where
 may:d.task.may=true
 lim:0≤d.limit∧d.limit≤1000
 at_:0≤d.at_∧d.at_≤9
 head:d.at_=0→FM L d.head
 help:d.at_=1∨d.at_=5→dE L me t d.help N
 a5:d.at_=2→lI L d.a5 N
 fast:d.at_=3→mO L me t d.fast N
 ann:d.at_=4→(0≤d.ann.at_∧d.ann.at_≤4)∧(0≤d.ann.no∧d.ann.no<18446744073709551616)
 find:d.at_=7→(eQ L me d.find N∧fM L d.find)∧(t.ret.length:Int)+d.find.aQ.length≤N
 drop:d.at_=8→d.drop.thread=me∧(0≤d.drop.at_∧d.drop.at_≤1)
 sweep:d.at_=9→uk L d.sweep N
theorem eR.fine {d:aH} {N:Int} (hL:M.L.Ok) (hm:ff M m) (hu:0≤me∧me<M.L.th) (ht:bM M.L t N) (h:eR M.L me t d N) (hN0:0≤N) (hN:N≤90000):d.Fine M m t:=by
 have hth:=hL.th
 refine⟨h.may,h.lim,by have:=ht.len;omega,h.at_,fun e=>(h.head e).at_.2,fun e=>(h.help e).fine hL hm hu hN0 hN,fun e=>(h.a5 e).live,fun e=>(h.fast e).fine hL hm hu hN0 hN,fun e=>(h.ann e).1,fun e=>by have:=(h.drop e).2;omega,fun e=> ?_⟩
 have hf:=(h.find e).1
 have hs:=jc hL hm hu hN0 hf.1 hf.2
 exact⟨hf.1.fine hL (by omega) (by omega),hf.1.at_,hs.2.ok.fine hL (by omega) (by omega)⟩
theorem Bt {t:bq} (h:t.may=true):gC t.num=true∧(0≤t.num∧t.num<18446744073709551616):=by
 obtain⟨h1,h2,h3⟩:=bq.rng h
 unfold gC
 rw[tX h,h]
 have:t.num / 65536=0:=by unfold bq.num;omega
 refine⟨by simp[this],?_⟩
 unfold bq.num;omega
end Go.Proofs.YtbcnnhlpilmmbaaGreat
