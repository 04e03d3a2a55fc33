/- Texts that are wanted for PTopClaims.
   Conditions: none. -/
import Derived.Test.YtbcnnhlpilmmbaaGreatJPTopClaims29
set_option maxRecDepth 100000
set_option maxHeartbeats 6400000
namespace Go.Proofs.YtbcnnhlpilmmbaaGreat
open Go Go.RowKit
structure Sx (M:ML) (sh u:Int) (m m':Mm) (P P':Gh):Prop where
 lay:M.L.Ok
 nU:dY M m
 N3:dY M m'
 g:GI M sh m P
 g':GI M sh m' P'
 s:St M sh u m m' P P'
 r:Rel M u m m'
 old:y4 M m m'
 small:∀ v,0≤v→v<M.L.th→(aX M m v).aJ<4095
structure KL (M:ML) (sh:Int) (m:Mm) (P:Gh) (a x:Int):Prop where
 rng:1≤a∧a≤M.L.nd+4
 kn:Kn M m a x
 um:(ao x).mark=false
 lk:ld M m a=x→Lk M P a
 h4:sh=4→M.L.nd<a
def iV (M:ML) (m:Mm) (P:Gh) (v i n:Int):Prop:=ld M m (M.L.slot v i)=n∧(P n= .linked∨∃ t k,P n= .out t k∧k≤2*v+i)
def cU (P:Gh) (me:Int) (l:List Int):Prop:=l.Nodup∧∀ n∈l,∃ k,0≤k∧P n= .out me k
structure wy (M:ML) (m:Mm) (c:fo):Prop where
 kn:1≤c.at_→Kn M m c.addr c.word∧(ao c.word).claim≠0
 s2:c.at_=2→(getD' c.found).addr=c.addr∧(getD' c.found).ver=(ao c.word).ver∧(ld M m c.addr=c.word→ld M m (M.L.desc (ji c.word))=c.found∨(aX M m (ji c.word)).status=3)
 s3:c.at_=3→ld M m c.addr=c.word→(aX M m (ji c.word)).status=3
structure qK (M:ML) (sh me:Int) (m:Mm) (P:Gh) (f:aB):Prop where
 from_:M.L.nd<f.from_
 key:sh=4→f.key≤0
 p0:f.at_=0→M.L.nd<f.pos.pred∨(sh≠4∧ld M m (M.L.slot me 0)=f.pos.pred∧(iV M m P me 0 f.pos.pred∨iV M m P me 1 f.pos.pred))
 p1:1≤f.at_→KL M sh m P f.pos.pred f.pos.pw∧f.pos.curr=(ao f.pos.pw).next∧(M.L.nd<f.pos.pred∨(sh≠4∧iV M m P me 0 f.pos.pred))
 s1:f.at_=2→ld M m (M.L.slot me 1)=f.pos.curr
 p3:f.at_=3∨f.at_=6→iV M m P me 1 f.pos.curr
 p5:f.at_=5→sh≠4∧(ao f.pos.cw).mark=true∧(ao f.pos.cw).claim=0∧(ao f.pos.pw).claim=0∧(ld M m f.pos.pred=f.pos.pw→ld M m f.pos.curr=f.pos.cw)
 p6:f.at_=6→sh≠4
 cl:f.at_=4→wy M m f.cl
structure JK (M:ML) (sh:Int) (m:Mm) (P:Gh) (p:Pos):Prop where
 kl:KL M sh m P p.pred p.pw
 cu:p.curr=(ao p.pw).next
 cw:p.curr≠0→(ao p.cw).mark=false∧(sh≠4→KL M sh m P p.curr p.cw)∧(sh=4→ld M m p.pred=p.pw→ld M m p.curr=p.cw)
structure kS (M:ML) (sh me:Int) (m:Mm) (P:Gh) (k:bl) (p:cY):Prop where
 kl:KL M sh m P p.addr p.old
 link:k.links=true→p.mark=false∧p.pops=0∧(1≤p.next∧p.next≤M.L.nd)∧P p.next= .spare me
 pop:k.pops=true→p.mark=false∧sh=4∧(ao p.old).next≠0∧p.pops=(ao p.old).next∧(ld M m p.addr=p.old→p.next=(wd M m (ao p.old).next).next)
 mark:k.links=false→k.pops=false→p.mark=true∧p.pops=0∧p.next=(ao p.old).next∧p.addr≤M.L.nd∧sh≠4
def Ready (M:ML) (m:Mm) (k:bl) (p:cY):Prop:=k.links=true→(wd M m p.next).next=(ao p.old).next
structure ym (M:ML) (m:Mm) (t:cg) (p:kP) (old:Int):Prop where
 next:p.next=(ao old).next
 found:p.loaded=true→p.found=ld M m t.spare
structure kt (M:ML) (me:Int) (m:Mm) (P:Gh) (x:bt):Prop where
 t0:x.at_=0→x.aJ≤(aX M m x.u).aJ∧((aX M m x.u).aJ=x.aJ→1≤stt M m x.u→stt M m x.u≤4→x.task=tk M m x.u)
 d2:1≤x.at_→x.at_≤4→2*(getD' x.found).ver≤rk (ld M m (getD' x.found).addr)
 e2:1≤x.at_→x.at_≤2→ld M m (M.L.desc x.u)=x.found∨2*(getD' x.found).ver<rk (ld M m (getD' x.found).addr)
 t2:(1≤x.at_∧x.at_≤2)∨x.at_=8→ld M m (M.L.desc x.u)=x.found→x.task=tk M m x.u
 w:2≤x.at_→x.at_≤4→Kn M m (getD' x.found).addr x.word
 w2:x.at_=2→(ao x.word).ver=(getD' x.found).ver∧(ao x.word).claim=0
 w3:x.at_=3→(ao x.word).ver=(getD' x.found).ver∧(ao x.word).claim=x.u+1
 w4:x.at_=4→2*(getD' x.found).ver+1≤rk x.word∧¬ ((ao x.word).ver=(getD' x.found).ver∧(ao x.word).claim=x.u+1)
 e5:5≤x.at_→x.at_≤6→ld M m (M.L.desc x.u)=x.found∨2*(getD' x.found).ver+2≤rk (ld M m (getD' x.found).addr)
 w6:x.at_=6→Kn M m (getD' x.found).addr x.word∧(ao x.word).ver=(getD' x.found).ver∧(ao x.word).claim=x.u+1
 w7:x.at_=7→2*(getD' x.found).ver+2≤rk (ld M m (getD' x.found).addr)
 g9:x.at_=9→P (getD' x.found).next= .give me
def Fa (a:iq):Prop:=a.free=true→a.found % 2=0
structure uh (M:ML) (me:Int) (P:Gh) (s:fY):Prop where
 nodup:s.nodes.Nodup
 at_:0≤s.at_
 look:s.at_<2*M.L.th→∀ n∈s.nodes,∃ k,0≤k∧P n= .out me k∧(s.seen.contains n=false→s.at_≤k)
 give:2*M.L.th≤s.at_→cU P me (s.kept++s.give)∧∀ n∈s.give,∃ k,P n= .out me k∧2*M.L.th≤k
def yn (M:ML) (me:Int) (P:Gh) (t:cg) (x:qV):Prop:=match x with | none=>cU P me t.ret | some s=>uh M me P s
structure wz (M:ML) (me:Int) (P:Gh) (t:cg) (e:jL):Prop where
 scan:∀ x,e.scan=some x→yn M me P t x
 ret:e.scan=none→cU P me t.ret
 alloc:e.scan=none→∀ a,e.alloc=some a→Fa a
structure wB (M:ML) (sh me:Int) (m:Mm) (P:Gh) (t:cg) (f:bq):Prop where
 iS:f.task.sh=sh
 outs:cU P me (t.ret++(if f.at_=0 then f.find.aO else []))
 find:f.at_=0→qK M sh me m P f.find
 cl:f.at_=1→wy M m f.cl
 plan:2≤f.at_→kS M sh me m P f.task f.plan∧(ao f.plan.old).claim=0∧(f.task.links=true→f.plan.next=t.spare)
 az:f.at_=2→f.task.links=true∧ym M m t f.az f.plan.old
 ready:f.at_=3→Ready M m f.task f.plan
structure rL (M:ML) (sh me:Int) (m:Mm) (P:Gh) (t:cg) (h:aM):Prop where
 iS:3≤h.at_→h.task.sh=sh
 LZ:4≤h.at_→ld M m (M.L.desc h.u)=h.found→h.task=tk M m h.u
 outs:h.at_≠4→cU P me (t.ret++(if h.at_=5 then h.find.aO else []))
 exec:h.at_=3→kt M me m P h.exec∧h.exec.popped=0
 bm:h.at_=4→wz M me P t h.bm
 find:h.at_=5→qK M sh me m P h.find
 spare:5≤h.at_→h.at_≠6→h.task.links=true→t.spare≠0
 cl:h.at_=7→wy M m h.cl
 plan:8≤h.at_→kS M sh me m P h.task h.plan∧(ao h.plan.old).claim=0∧(h.task.links=true→h.plan.next=t.spare)
 az:h.at_=8→h.task.links=true∧ym M m t h.az h.plan.old
 ready:h.at_=9→Ready M m h.task h.plan
structure mM (M:ML) (sh me:Int) (m:Mm) (P:Gh) (t:cg) (d:aI):Prop where
 iS:d.task.sh=sh
 spare:t.spare≠0→P t.spare= .spare me
 outs:d.at_=0∨d.at_=4∨d.at_=6∨d.at_=8→cU P me t.ret
 help:d.at_=1∨d.at_=5→rL M sh me m P t d.help
 bm:d.at_=2→wz M me P t d.bm
 fast:d.at_=3→wB M sh me m P t d.fast
 find:d.at_=7→qK M sh me m P d.find∧cU P me (t.ret++d.find.aO)
 sweep:d.at_=9→yn M me P t d.sweep
section
variable {M:ML} {sh u v:Int} {m m':Mm} {P P':Gh}
theorem St.rk (h:St M sh u m m' P P') {a:Int} (ha:1≤a∧a≤M.L.nd+4):rk (ld M m a)≤rk (ld M m' a):=by
 rcases h.up a ha.1 ha.2 with e | e
 ·rw[e];omega
 ·omega
theorem Kn.st (h:St M sh u m m' P P') {a x:Int} (ha:1≤a∧a≤M.L.nd+4) (k:Kn M m a x):Kn M m' a x:=by
 rcases h.up a ha.1 ha.2 with e | e
 ·unfold Kn;rw[e];exact k
 ·have:=k.1
  exact⟨by omega,fun e2=>by omega⟩
theorem Kn.back (h:St M sh u m m' P P') {a x:Int} (ha:1≤a∧a≤M.L.nd+4) (k:Kn M m a x) (e:ld M m' a=x):ld M m a=x:=by
 rcases h.up a ha.1 ha.2 with e2 | e2
 ·rw[←e2];exact e
 ·have:=k.1
  rw[e] at e2;omega
theorem KL.st (h:St M sh u m m' P P') {a x:Int} (k:KL M sh m P a x):KL M sh m' P' a x:=by
 refine⟨k.rng,k.kn.st h k.rng,k.um,fun e=> ?_,k.h4⟩
 have e2:=k.kn.back h k.rng e
 rcases k.lk e2 with h1 | h1
 ·exact .inl h1
 ·rcases h.lk a h1 with h2 | ⟨-,h2⟩
  ·exact .inr h2
  ·by_cases h3:sh=4
   ·exact .inl (k.h4 h3)
   ·have:=h2 h3
    simp only[wd,e2,k.um] at this
    cases this
theorem KL.now (_:GI M sh m P) {a:Int} (ha:1≤a∧a≤M.L.nd+4) (Kt:(wd M m a).mark=false) (hl:Lk M P a) (h4:sh=4→M.L.nd<a):KL M sh m P a (ld M m a):=⟨ha,.refl ..,Kt,fun _=>hl,h4⟩
theorem iV.st (h:St M sh u m m' P P') {i n:Int} (hv:0≤v∧v<M.L.th) (hi:0≤i∧i≤1) (hne:v≠u) (k:iV M m P v i n):iV M m' P' v i n:=by
 obtain⟨k1,k2⟩:=k
 refine⟨by rw[h.slot v i hv.1 hv.2 hi.1 hi.2 hne];exact k1,?_⟩
 rcases k2 with k2 | ⟨t,k,k2,k3⟩
 ·rcases h.lk n k2 with h1 | ⟨h1,-⟩
  ·exact .inl h1
  ·exact .inr ⟨u,0,h1,by omega⟩
 ·rcases h.out n t k k2 with h1 | ⟨rfl,⟨k',h1,h2⟩ | ⟨h1,h2⟩⟩
  ·exact .inr ⟨t,k,h1,k3⟩
  ·refine .inr ⟨t,k',h1,?_⟩
   rcases h2 with h2 | ⟨h2,h4⟩
   ·omega
   ·by_cases e:k=2*v+i
    ·exfalso
     apply h4
     rw[←k1,e]
     congr 1
     simp only[Ly.slot];omega
    ·omega
  ·omega
theorem cU.st (h:St M sh u m m' P P') {l:List Int} (hne:v≠u) (k:cU P v l):cU P' v l:=by
 refine⟨k.1,fun n hn=> ?_⟩
 obtain⟨j,h0,h1⟩:=k.2 n hn
 rcases h.out n v j h1 with h2 | ⟨h2,-⟩
 ·exact⟨j,h0,h2⟩
 ·exact absurd h2 hne
theorem Dh (h:St M sh u m m' P P') {n k:Int} (hne:v≠u) (hk:P n= .out v k):P' n= .out v k:=by
 rcases h.out n v k hk with h2 | ⟨h2,-⟩
 ·exact h2
 ·exact absurd h2 hne
theorem sJ (h:Sx M sh u m m' P P') {a w:Int} (ha:1≤a∧a≤M.L.nd+4) (hw:0≤w∧w<M.L.th) (hc:(wd M m' a).claim=w+1) (h3:(aX M m w).status=3):(aX M m' w).status=3:=by
 have hf:=(h.g'.cl a ha.1 ha.2 (by omega)).2.1.st
 rw[show (wd M m' a).claim - 1=w by omega] at hf
 rcases h.r.desc w hw.1 hw.2 with e | e | ⟨e0,e,-⟩
 ·simp only[aX,e];exact h3
 ·rcases e.path with ⟨e1,-⟩ | ⟨e1,-⟩ | ⟨-,e1⟩ | ⟨e1,-⟩
  ·simp only[aX] at h3;omega
  ·simp only[aX] at h3;omega
  ·simp only[aX,e1] at hf;omega
  ·simp only[aX] at h3;omega
 ·unfold Idle stt at e
  subst e0;simp only[aX] at h3;omega
theorem yo (h:Sx M sh u m m' P P') {a w:Int} (ha:1≤a∧a≤M.L.nd+4) (hw:0≤w∧w<M.L.th) (hc:(wd M m' a).claim=w+1) (h2:(aX M m w).status=2):ld M m' (M.L.desc w)=ld M m (M.L.desc w)∨(aX M m' w).status=3:=by
 have hf:=(h.g'.cl a ha.1 ha.2 (by omega)).2.1.st
 rw[show (wd M m' a).claim - 1=w by omega] at hf
 rcases h.r.desc w hw.1 hw.2 with e | e | ⟨e0,e,-⟩
 ·exact .inl e
 ·rcases e.path with ⟨e1,-⟩ | ⟨-,e1⟩ | ⟨e1,-⟩ | ⟨e1,-⟩
  ·simp only[aX] at h2;omega
  ·rcases e1 with e1 | e1
   ·right;simp only[aX,e1,Ds.with_]
   ·simp only[aX,e1,Ds.with_] at hf;omega
  ·simp only[aX] at h2;omega
  ·simp only[aX] at h2;omega
 ·unfold Idle stt at e
  subst e0;simp only[aX] at h2;omega
end
section
variable {M:ML} {sh u v:Int} {m m':Mm} {P P':Gh}
theorem wy.st (h:Sx M sh u m m' P P') {c:fo} (hc:tl M.L c) (k:wy M m c):wy M m' c:=by
 have cl:1≤c.at_→ld M m' c.addr=c.word→(wd M m' c.addr).claim=ji c.word+1:=fun _ e=>by simp only[wd,e,ji];omega
 refine⟨fun a=>⟨(k.kn a).1.st h.s hc.addr,(k.kn a).2⟩,fun a=>⟨(k.s2 a).1,(k.s2 a).2.1,fun e=> ?_⟩,fun a e=> ?_⟩
 ·have h1:=(k.s2 a).2.2 ((k.kn (by omega)).1.back h.s hc.addr e)
  rcases h1 with h1 | h1
  ·rcases yo h hc.addr (hc.ji (by omega)) (cl (by omega) e) (by simp only[aX,h1];exact(hc.prop a).1) with h2 | h2
   ·exact .inl (h2.trans h1)
   ·exact .inr h2
  ·exact .inr (sJ h hc.addr (hc.ji (by omega)) (cl (by omega) e) h1)
 ·exact sJ h hc.addr (hc.ji (by omega)) (cl (by omega) e) (k.s3 a ((k.kn (by omega)).1.back h.s hc.addr e))
theorem qK.st (h:Sx M sh u m m' P P') {f:aB} {N:Int} (hv:0≤v∧v<M.L.th) (hne:v≠u) (hf:eV M.L v f N) (hl:fF M.L f) (k:qK M sh v m P f):qK M sh v m' P' f:=by
 have hpos:=hf.pos hl.ab
 have hs:∀ i,0≤i→i≤1→ld M m' (M.L.slot v i)=ld M m (M.L.slot v i):=fun i h0 h1=>h.s.slot v i hv.1 hv.2 h0 h1 hne
 have pr:∀ {i n},0≤i∧i≤1→iV M m P v i n→iV M m' P' v i n:=fun hi k=>k.st h.s hv hi hne
 refine⟨k.from_,k.key,fun a=> ?_,fun a=> ?_,fun a=>by rw[hs 1 (by omega) (by omega)];exact k.s1 a,fun a=>pr (by omega) (k.p3 a),fun a=> ?_,k.p6,fun a=>(k.cl a).st h (hl.cl a)⟩
 ·rcases k.p0 a with h1 | ⟨h1,h2,h3⟩
  ·exact .inl h1
  ·exact .inr ⟨h1,by rw[hs 0 (by omega) (by omega)];exact h2,h3.imp (pr (by omega)) (pr (by omega))⟩
 ·obtain⟨h1,h2,h3⟩:=k.p1 a
  exact⟨h1.st h.s,h2,h3.imp id (fun h4=>⟨h4.1,pr (by omega) h4.2⟩)⟩
 ·obtain⟨h1,h2,h3,h4,h5⟩:=k.p5 a
  refine⟨h1,h2,h3,h4,fun e=> ?_⟩
  obtain⟨g1,g2,-⟩:=k.p1 (by omega)
  have e2:=g1.kn.back h.s g1.rng e
  have e3:=h5 e2
  have hc:=hl.curr (by omega)
  have hlk:=h.g.str.next f.pos.pred g1.rng.1 g1.rng.2 (g1.lk e2) (by simp only[wd,e2];omega)
  simp only[wd,e2,←g2] at hlk
  rw[h.s.LV f.pos.curr hc hpos.curr.2 hlk (by simp only[wd,e3];exact h2) (by simp only[wd,e3];exact h3)]
  exact e3
theorem kS.st (h:Sx M sh u m m' P P') {k:bl} {p:cY} (hne:v≠u) (hp:kS M sh v m P k p):kS M sh v m' P' k p:=by
 refine⟨hp.kl.st h.s,fun a=> ?_,fun a=> ?_,hp.mark⟩
 ·obtain⟨h1,h2,h3,h4⟩:=hp.link a
  exact⟨h1,h2,h3,(h.s.Fx _ v h3.1 h3.2 hne h4).1⟩
 ·obtain⟨h1,h2,h3,h4,h5⟩:=hp.pop a
  refine⟨h1,h2,h3,h4,fun e=> ?_⟩
  have g1:=hp.kl
  have e2:=g1.kn.back h.s g1.rng e
  have hn:=e9 h.nU g1.rng.1 g1.rng.2 (by simp only[wd,e2];exact h3)
  have hlk:=h.g.str.next p.addr g1.rng.1 g1.rng.2 (g1.lk e2) (by simp only[wd,e2];exact h3)
  simp only[wd,e2] at hn hlk
  rw[h5 e2]
  simp only[wd,h.s.LU h2 _ hn.1 hn.2 hlk]
theorem Ready.st (h:Sx M sh u m m' P P') {k:bl} {p:cY} (hne:v≠u) (hp:kS M sh v m P k p) (hr:Ready M m k p):Ready M m' k p:=fun a=>by
 obtain⟨h1,h2,h3,h4⟩:=hp.link a
 have:=(h.s.Fx _ v h3.1 h3.2 hne h4).2
 simp only[wd,this];exact hr a
theorem ym.st (h:Sx M sh u m m' P P') {k:bl} {p:cY} {t:cg} {q:kP} {old:Int} (hne:v≠u) (hp:kS M sh v m P k p) (hk:k.links=true) (hn:p.next=t.spare) (hq:ym M m t q old):ym M m' t q old:=by
 obtain⟨h1,h2,h3,h4⟩:=hp.link hk
 have:=(h.s.Fx _ v h3.1 h3.2 hne h4).2
 rw[hn] at this
 exact⟨hq.next,fun a=>by rw[this];exact hq.found a⟩
theorem mN (h:Sx M sh u m m' P P') {w:Int} (hw:0≤w∧w<M.L.th) (h1:1≤stt M m w) (h4:stt M m w≤4):tk M m' w=tk M m w:=by
 simp only[tk,h.s.task w hw.1 hw.2 h1 h4]
theorem nV (h:Sx M sh u m m' P P') {w x:Int} (hw:0≤w∧w<M.L.th) (ha:age x≤age (ld M m (M.L.desc w))) (e:ld M m' (M.L.desc w)=x):ld M m (M.L.desc w)=x:=by
 rcases h.old w hw.1 hw.2 with h1 | h1
 ·rw[←h1];exact e
 ·rw[e] at h1;omega
theorem kt.st (h:Sx M sh u m m' P P') {x:bt} (hne:v≠u) (hx:jZ M.L x) (ha:1≤x.at_→x.at_≤8→age x.found≤age (ld M m (M.L.desc x.u))) (k:kt M v m P x):kt M v m' P' x:=by
 have hu:=hx.u
 have eG:1≤x.at_→1≤(getD' x.found).addr∧(getD' x.found).addr≤M.L.nd+4:=fun a=>by
  have hd:=(hx.val a).at_
  rcases(by have:=hx.at_;omega:x.at_≤4∨(5≤x.at_∧x.at_≤7)∨8≤x.at_) with b | b | b
  ·have:=hx.s2 a b;exact(hd (by omega) (by omega)).1
  ·have:=hx.s3 b.1 b.2;exact(hd (by omega) (by omega)).1
  ·have:=hx.s4 b;exact(hd (by omega) (by omega)).1
 refine⟨fun a=> ?_,fun a b=> ?_,fun a b=> ?_,fun a e=> ?_,fun a b=>(k.w a b).st h.s (eG (by omega)),k.w2,k.w3,k.w4,fun a b=> ?_,fun a=>⟨(k.w6 a).1.st h.s (eG (by omega)),(k.w6 a).2⟩,fun a=> ?_,fun a=>h.s.Ks _ v hne (k.g9 a)⟩
 ·obtain⟨h1,h2⟩:=k.t0 a
  have hsm:=h.small x.u hu.1 hu.2
  rcases h.r.desc x.u hu.1 hu.2 with e | e | ⟨-,e,e2⟩
  ·have e3:aX M m' x.u=aX M m x.u:=by simp only[aX,e]
   have e4:stt M m' x.u=stt M m x.u:=by simp only[stt,e]
   rw[e3,e4]
   refine⟨h1,fun h3 h4 h5=> ?_⟩
   rw[mN h hu h4 h5];exact h2 h3 h4 h5
  ·have hfr:=fH e
   have N4:(aX M m' x.u).aJ=(aX M m x.u).aJ∨(aX M m' x.u).aJ=(aX M m x.u).aJ+1:=by
    rcases e.path with ⟨-,e1,-⟩ | ⟨-,e1⟩ | ⟨-,e1⟩ | ⟨-,e1⟩
    ·exact .inl e1
    ·left;rcases e1 with e1 | e1<;>(simp only[aX,e1,Ds.with_])
    ·left;simp only[aX,e1]
    ·right
     have h0:=(b7 (ld M m (M.L.desc x.u))).aJ
     simp only[aX,e1,Ds.cp]
     exact Int.emod_eq_of_lt (by omega) (by simp only[aX] at hsm;omega)
   refine⟨by omega,fun h3 h4 h5=> ?_⟩
   rw[mN h hu (by simp only[stt];omega) (by simp only[stt];omega)]
   exact h2 (by omega) (by simp only[stt];omega) (by simp only[stt];omega)
  ·have h0:=(b7 (ld M m (M.L.desc x.u))).aJ
   have:(aX M m' x.u).aJ=(aX M m x.u).aJ+1:=by
    simp only[aX,e2,Ds.cp]
    exact Int.emod_eq_of_lt (by omega) (by simp only[aX] at hsm;omega)
   exact⟨by omega,fun h3=>by omega⟩
 ·have:=h.s.rk (eG a)
  have:=k.d2 a b
  omega
 ·have hup:=h.s.rk (eG a)
  rcases k.e2 a b with h1 | h1
  ·have hst:=hx.s2 a (by omega)
   rcases h.r.desc x.u hu.1 hu.2 with e | e | ⟨e0,e,-⟩
   ·exact .inl (e.trans h1)
   ·rw[h1] at e
    rcases e.path with ⟨e1,-⟩ | ⟨-,e1⟩ | ⟨e1,-⟩ | ⟨e1,-⟩
    ·omega
    ·rcases e1 with e1 | e1
     ·have:=(h.g'.won x.u hu.1 hu.2 (by simp only[aX,e1,Ds.with_])).1
      simp only[aX,e1,Ds.with_] at this
      right;omega
     ·have:=(h.g'.lost x.u hu.1 hu.2 (by simp only[aX,e1,Ds.with_])).1
      simp only[aX,e1,Ds.with_] at this
      right;omega
    ·omega
    ·omega
   ·unfold Idle stt at e
    rw[←e0,h1] at e
    omega
  ·right;omega
 ·have e2:=nV h hu (ha (by omega) (by omega)) e
  have hst:1≤stt M m x.u∧stt M m x.u≤4:=by
   simp only[stt,e2]
   rcases a with a | a
   ·have:=hx.s2 a.1 (by omega);omega
   ·have:=hx.s4 (by omega);omega
  rw[mN h hu hst.1 hst.2]
  exact k.t2 a e2
 ·have hup:=h.s.rk (eG (by omega))
  rcases k.e5 a b with h1 | h1
  ·by_cases e:ld M m' (M.L.desc x.u)=ld M m (M.L.desc x.u)
   ·exact .inl (e.trans h1)
   ·right
    have:=h.s.LW x.u hu.1 hu.2 (by simp only[aX,h1];exact hx.s3 a (by omega)) e
    simp only[aX,h1] at this
    exact this
  ·right;omega
 ·have:=h.s.rk (eG (by omega))
  have:=k.w7 a
  omega
theorem uh.st (h:St M sh u m m' P P') {s:fY} (hne:v≠u) (k:uh M v P s):uh M v P' s:=by
 refine⟨k.nodup,k.at_,fun a n hn=> ?_,fun a=>⟨(k.give a).1.st h hne,fun n hn=> ?_⟩⟩
 ·obtain⟨j,h0,h1,h2⟩:=k.look a n hn
  exact⟨j,h0,Dh h hne h1,h2⟩
 ·obtain⟨j,h1,h2⟩:=(k.give a).2 n hn
  exact⟨j,Dh h hne h1,h2⟩
theorem yn.st (h:St M sh u m m' P P') {t:cg} {x:qV} (hne:v≠u) (k:yn M v P t x):yn M v P' t x:=by
 cases x with
 | none=>exact cU.st h hne k
 | some s=>exact uh.st h hne k
theorem wz.st (h:St M sh u m m' P P') {t:cg} {e:jL} (hne:v≠u) (k:wz M v P t e):wz M v P' t e:=
 ⟨fun x hx=>(k.scan x hx).st h hne,fun a=>(k.ret a).st h hne,k.alloc⟩
theorem wB.st (h:Sx M sh u m m' P P') {t:cg} {f:bq} {N:Int} (hv:0≤v∧v<M.L.th) (hne:v≠u) (hf:mr M.L v t f N) (k:wB M sh v m P t f):wB M sh v m' P' t f:=
 ⟨k.iS,k.outs.st h.s hne,fun a=>(k.find a).st h hv hne (hf.find a).1 (hf.find a).2,fun a=>(k.cl a).st h (hf.cl a),fun a=>⟨(k.plan a).1.st h hne,(k.plan a).2⟩,
  fun a=>⟨(k.az a).1,(k.az a).2.st h hne (k.plan (by omega)).1 (k.az a).1 ((k.plan (by omega)).2.2 (k.az a).1)⟩,fun a=>(k.ready a).st h hne (k.plan (by omega)).1⟩
theorem rL.st (h:Sx M sh u m m' P P') {t:cg} {x:aM} {N:Int} (hv:0≤v∧v<M.L.th) (hne:v≠u) (hx:dX M.L v t x N) (ha:∀ p,p∈x.cm→age p.2≤age (ld M m (M.L.desc p.1))) (k:rL M sh v m P t x):rL M sh v m' P' t x:=by
 refine⟨k.iS,fun a e=> ?_,fun a=>(k.outs a).st h.s hne,fun a=>⟨(k.exec a).1.st h hne (hx.exec a).1 (fun b c=> ?_),(k.exec a).2⟩,fun a=>(k.bm a).st h.s hne,fun a=>(k.find a).st h hv hne (hx.find a).1.1 (hx.find a).1.2,k.spare,fun a=>(k.cl a).st h (hx.cl a),fun a=>⟨(k.plan a).1.st h hne,(k.plan a).2⟩,
  fun a=>⟨(k.az a).1,(k.az a).2.st h hne (k.plan (by omega)).1 (k.az a).1 ((k.plan (by omega)).2.2 (k.az a).1)⟩,fun a=>(k.ready a).st h hne (k.plan (by omega)).1⟩
 ·have hst:=hx.st1 a
  have e2:=nV h hx.u (ha (x.u,x.found) (e7 (by omega))) e
  rw[mN h hx.u (by simp only[stt,e2];omega) (by simp only[stt,e2];omega)]
  exact k.LZ a e2
 ·refine ha (x.exec.u,x.exec.found) (gL _ ?_)
  unfold aM.sub bt.cm
  rw[if_pos a,if_pos ⟨b,c⟩]
  exact List.mem_singleton_self _
theorem mM.st (h:Sx M sh u m m' P P') {t:cg} {d:aI} {N:Int} (hv:0≤v∧v<M.L.th) (hne:v≠u) (ht:bL M.L t N) (hd:fq M.L v t d N) (ha:∀ p,p∈d.cm v→age p.2≤age (ld M m (M.L.desc p.1))) (k:mM M sh v m P t d):mM M sh v m' P' t d:=by
 refine⟨k.iS,fun a=> ?_,fun a=>(k.outs a).st h.s hne,fun a=>(k.help a).st h hv hne (hd.help a) (fun p hp=>ha p ?_),fun a=>(k.bm a).st h.s hne,fun a=>(k.fast a).st h hv hne (hd.fast a),fun a=>⟨(k.find a).1.st h hv hne (hd.find a).1.1 (hd.find a).1.2,(k.find a).2.st h.s hne⟩,fun a=>(k.sweep a).st h.s hne⟩
 ·have:=ht.spare
  exact(h.s.Fx _ v (by omega) (by omega) hne (k.spare a)).1
 ·unfold aI.cm
  rw[if_pos a];exact hp
end
structure Cx (M:ML) (sh:Int) (m:Mm) (P:Gh):Prop where
 lay:M.L.Ok
 nU:dY M m
 g:GI M sh m P
 ver:∀ a,1≤a→a≤M.L.nd+4→(wd M m a).ver<262143
structure Act (M:ML) (sh u:Int) (m m':Mm) (P P':Gh):Prop where
 g:GI M sh m' P'
 s:St M sh u m m' P P'
def Hj (M:ML) (m m':Mm):Prop:=∀ v i,0≤v→v<M.L.th→0≤i→i≤1→ld M m' (M.L.slot v i)=ld M m (M.L.slot v i)
section
variable {M:ML} {sh me:Int} {m:Mm} {P:Gh}
theorem Cx.stay (h:Cx M sh m P) (u:Int):Act M sh u m m P P:=⟨h.g,.refl ..⟩
theorem Di (hx:Cx M sh m P) {c:fo} (hc:tl M.L c) (k:wy M m c):Act M sh me m (a9 M m c).2.1 P P∧Hj M m (a9 M m c).2.1∧((a9 M m c).1=false→wy M (a9 M m c).2.1 (a9 M m c).2.2):=by
 have hL:=hx.lay
 have hn:=hL.nd
 unfold a9
 split
 ·refine⟨hx.stay me,fun _ _ _ _ _ _=>rfl,fun h=> ?_⟩
  simp only[Bool.or_eq_false_iff,decide_eq_false_iff_not] at h
  have h1:=h.1
  unfold ji at h1
  have h2:(ao (ld M m c.addr)).claim≠0:=by omega
  exact⟨fun _=>⟨.refl ..,h2⟩,fun e=>by simp at e,fun e=>by simp at e⟩
 ·split
  ·rename_i h0 h1
   have ht:=hc.ji (by omega)
   have hk:=k.kn (by omega)
   refine⟨hx.stay me,fun _ _ _ _ _ _=>rfl,fun _=>⟨fun _=>hk,fun e=> ?_,fun e e2=> ?_⟩⟩
   ·simp only at e⊢
    split at e
    ·rename_i ho
     unfold fo.open_ at ho
     simp only[Bool.and_eq_true,decide_eq_true_eq] at ho
     exact⟨ho.2.1,ho.2.2,fun _=> .inl (by trivial)⟩
    ·omega
   ·simp only at e e2⊢
    split at e
    ·omega
    ·rename_i ho
     have hf:=(hx.g.cl c.addr hc.addr.1 hc.addr.2 (by simp only[wd,e2];exact hk.2)).2.1
     rw[show (wd M m c.addr).claim - 1=ji c.word by simp only[wd,e2,ji]] at hf
     rcases hf.st with h2 | h2
     ·exfalso
      apply ho
      unfold fo.open_
      have h3:=hf.addr
      have h4:=hf.ver
      simp only[aX,wd,e2] at h2 h3 h4
      simp[h2,h3,h4]
     ·exact h2
  ·split
   ·rename_i h0 h1 h2
    have ht:=hc.ji (by omega)
    have hk:=k.kn (by omega)
    have hp:=hc.prop h2
    obtain⟨s1,s2,s3⟩:=k.s2 h2
    have hod:=kr hk.2
    cases hq:bA M m (M.L.desc (ji c.word)) c.found with
    | true=>
     rw[cZ _ hq]
     have he:=cO hq
     have hd:aX M m (ji c.word)=getD' c.found:=by simp only[aX,he]
     have hr:=hk.1.1
     have ha:=y0 (me:=me) hL hx.nU hx.g (u:=ji c.word) (y:=cv ((getD' c.found).with_ 3)) ht (by rw[hd];exact hp.1) (by rw[hd];exact iy 3 (by omega)) (fD hp.2 hp.1 3 (.inl rfl)).ok
      (by rw[hd,s1,s2];omega) (fun e=>by
       rw[hd,s1,s2] at e
       rw[hd,s1]
       have:=hk.1.2 (by omega)
       simp only[wd,this,ji];omega)
     obtain⟨f1,f2,f3,f4,f5,f6⟩:=iU (m:=m) (x:=cv ((getD' c.found).with_ 3)) hL ht
     refine⟨⟨ha.1,ha.2⟩,fun v i a b c d=>f3 v i a b c d,fun _=>⟨fun _=>⟨hk.1.st ha.2 hc.addr,hk.2⟩,fun e=>by simp at e,fun _ _=> ?_⟩⟩
     simp only[aX,f6]
     rw[iy 3 (by omega)];rfl
    | false=>
     rw[dP _ hq]
     refine⟨hx.stay me,fun _ _ _ _ _ _=>rfl,fun _=>⟨fun _=>hk,fun e=>by simp at e,fun _ e=> ?_⟩⟩
     rcases s3 e with h3 | h3
     ·rw[uN (by have:=hL.th;simp only[Ly.desc,Ly.size];omega),h3] at hq
      simp at hq
     ·exact h3
   ·rename_i h0 h1 h2
    have hat:=hc.at_
    have ht:=hc.ji (by omega)
    have hk:=k.kn (by omega)
    cases hq:bA M m c.addr c.word with
    | true=>
     rw[cZ _ hq]
     have he:=cO hq
     have h3:=k.s3 (by omega) he
     have ha:=wq (u:=me) hL hx.nU hx.g (y:=dS (ao c.word).free) hc.addr (by simp only[wd,he];exact hk.2) (by simp only[wd,he];exact h3) (by simp only[wd,he];exact dA (Wd.jO (aQ _))) (hx.ver _ hc.addr.1 hc.addr.2)
     obtain⟨f1,f2,f3,f4,f5,f6⟩:=fX (m:=m) (x:=dS (ao c.word).free) hL hc.addr
     exact⟨⟨ha.1,ha.2⟩,f3,fun h=>by simp at h⟩
    | false=>
     rw[dP _ hq]
     exact⟨hx.stay me,fun _ _ _ _ _ _=>rfl,fun h=>by simp at h⟩
theorem jy {f:aB} (h1:M.L.nd<f.from_) (h2:sh=4→f.key≤0) (h3:f.at_=0) (h4:M.L.nd<f.pos.pred∨(sh≠4∧ld M m (M.L.slot me 0)=f.pos.pred∧(iV M m P me 0 f.pos.pred∨iV M m P me 1 f.pos.pred))):qK M sh me m P f:=
 ⟨h1,h2,fun _=>h4,fun e=>by omega,fun e=>by omega,fun e=>by omega,fun e=>by omega,fun e=>by omega,fun e=>by omega⟩
theorem nC (_:M.L.Ok) {k:bl} (hk:k.may=true) (hs:k.sh=sh) (limit:Int):qK M sh me m P (.new M.L me k.head k.kO limit):=by
 have hh:=(bl.rng hk).key
 have h0:0≤k.head:=by unfold bl.head;split<;>omega
 have hf:M.L.nd<M.L.head k.head:=by simp only[Ly.head];omega
 refine jy hf (fun e=> ?_) rfl (.inl hf)
 simp only[aB.new,bl.kO]
 rw[if_neg (by omega),if_neg (by omega)]
 decide
theorem qL {f:aB} (h1:M.L.nd<f.from_) (h2:sh=4→f.key≤0):qK M sh me m P f.anew:=jy h1 h2 rfl (.inl h1)
structure wC (M:ML) (sh me:Int) (m:Mm) (P:Gh) (r:Bool×aB):Prop where
 on:r.1=false→qK M sh me m P r.2
 found:r.1=true→r.2.ab=false→JK M sh m P r.2.pos
theorem lN {f:aB} (h1:M.L.nd<f.from_) (h2:sh=4→f.key≤0) {x:Int} (hk:(ao x).mark=false→KL M sh m P f.pos.pred x∧(M.L.nd<f.pos.pred∨(sh≠4∧iV M m P me 0 f.pos.pred))):wC M sh me m P (f.take x):=by
 unfold aB.take
 split
 ·exact⟨fun _=>qL h1 h2,fun e=>by simp at e⟩
 ·rename_i hm
  have hkl:=hk (by simpa using hm)
  refine⟨fun e=>⟨h1,h2,fun e=>by simp at e,fun _=>⟨hkl.1,rfl,hkl.2⟩,fun e=>by simp at e,fun e=>by simp at e,fun e=>by simp at e,fun e=>by simp at e,fun e=>by simp at e⟩,fun e _=>⟨hkl.1,rfl,fun h=> ?_⟩⟩
  simp only[decide_eq_true_eq] at e h
  exact absurd e h
theorem la {f:aB} (h1:M.L.nd<f.from_) (h2:sh=4→f.key≤0) {x:Int} (hk:(ao x).mark=false→KL M sh m P f.pos.pred x∧(M.L.nd<f.pos.pred∨(sh≠4∧iV M m P me 0 f.pos.pred))):wC M sh me m P (f.cI x):=by
 unfold aB.cI
 split
 ·rename_i ho
  exact⟨fun e=>by simp at e,fun _ e=>by simp[aB.aR,ho] at e⟩
 ·rename_i ho
  have e:f.aR.pos=f.pos:=by simp only[aB.aR];rw[if_neg ho]
  exact lN (f:=f.aR) h1 h2 (by rw[e];exact hk)
theorem qM {f:aB} (h1:M.L.nd<f.from_) (h2:sh=4→f.key≤0):((f.move M.L).2.1=true→(f.move M.L).2.2={ f with moved:=f.moved+1 }∧(f.move M.L).1=false)∧((f.move M.L).2.1=false→wC M sh me m P ((f.move M.L).1,(f.move M.L).2.2)):=by
 unfold aB.move
 split
 ·exact⟨fun _=>⟨rfl,rfl⟩,fun e=>by simp at e⟩
 ·split
  ·rename_i ho
   exact⟨fun e=>by simp at e,fun _=>⟨fun e=>by simp at e,fun _ e=>by
    have ho':({ f with moved:=f.moved+1 }:aB).over=true:=ho
    simp[aB.aR,ho'] at e⟩⟩
  ·exact⟨fun e=>by simp at e,fun _=>⟨fun _=>qL h1 h2,fun e=>by simp at e⟩⟩
theorem sK {f:aB} (h1:M.L.nd<f.from_) (h2:sh=4→f.key≤0) (h3:f.at_=0) (h4:M.L.nd<f.pos.pred∨(sh≠4∧iV M m P me 0 f.pos.pred)):wC M sh me m P (f.over,f.aR):=by
 refine⟨fun e=> ?_,fun e e2=> ?_⟩
 ·have e':f.over=false:=e
  have hp:f.aR.pos=f.pos:=by simp only[aB.aR];rw[if_neg (by rw[e'];decide)]
  refine jy (f:=f.aR) h1 h2 h3 ?_
  rw[hp]
  exact h4.imp id (fun h=>⟨h.1,h.2.1,.inl h.2⟩)
 ·have e':f.over=true:=e
  simp[aB.aR,e'] at e2
theorem ui (hx:Cx M sh m P) (hs:sh≠4) {i n:Int} (h1:1≤n) (h2:n≤M.L.nd) (hp:iV M m P me i n) (hm:(wd M m n).mark=false):P n= .linked:=by
 rcases hp.2 with h | ⟨t,k,h,-⟩
 ·exact h
 ·have:=hx.g.str.Db hs n t k h1 h2 h
  rw[hm] at this;cases this
structure JL (M:ML) (sh me:Int) (m:Mm) (P:Gh) (l:List Int) (r:Bool×Mm×aB):Prop where
 ex:∃ P',Act M sh me m r.2.1 P P'∧(∀ n,P n≠.linked→P' n=P n)∧cU P' me (l++r.2.2.aO)∧wC M sh me r.2.1 P' (r.1,r.2.2)
theorem Dj {l:List Int} {c:Int} {P':Gh} (hO:cU P me l) (hc:P c= .linked) (hk:∀ n,n≠c→P' n=P n) (hc':P' c= .out me 0):cU P' me (l++[c]):=by
 have hn:c∉l:=fun h=>by
  obtain⟨k,-,e⟩:=hO.2 c h
  rw[hc] at e;cases e
 refine⟨?_,fun n h=> ?_⟩
 ·rw[List.nodup_append]
  refine⟨hO.1,by simp,fun a ha b hb e=> ?_⟩
  simp only[List.mem_singleton] at hb
  subst e hb
  exact hn ha
 ·rcases List.mem_append.1 h with h | h
  ·obtain⟨k,h0,e⟩:=hO.2 n h
   exact⟨k,h0,by rw[hk n (fun e=>hn (e ▸ h))];exact e⟩
  ·simp only[List.mem_singleton] at h
   subst h
   exact⟨0,by omega,hc'⟩
theorem Dk (hx:Cx M sh m P) (hu:0≤me∧me<M.L.th) {f:aB} {N:Int} (hf:eV M.L me f N) (hl:fF M.L f) (k:qK M sh me m P f) {l:List Int} (hO:cU P me (l++f.aO)):JL M sh me m P l (aw M m f):=by
 have hL:=hx.lay
 have hp:=hf.pos hl.ab
 have hfm:=hf.me
 subst hfm
 have b8:M.L.nd<f.pos.pred∨(sh≠4∧ld M m (M.L.slot f.me 0)=f.pos.pred∧(iV M m P f.me 0 f.pos.pred∨iV M m P f.me 1 f.pos.pred))→(wd M m f.pos.pred).mark=false→KL M sh m P f.pos.pred (ld M m f.pos.pred)∧(M.L.nd<f.pos.pred∨(sh≠4∧iV M m P f.me 0 f.pos.pred)):=fun h hm=>by
  rcases h with h | ⟨h1,h2,h3⟩
  ·exact⟨.now hx.g hp.pred hm (.inl h) (fun _=>h),.inl h⟩
  ·by_cases hh:M.L.nd<f.pos.pred
   ·exact⟨.now hx.g hp.pred hm (.inl hh) (fun _=>hh),.inl hh⟩
   ·have hlk:P f.pos.pred= .linked:=h3.elim (fun h=>ui hx h1 hp.pred.1 (by omega) h hm) (fun h=>ui hx h1 hp.pred.1 (by omega) h hm)
    exact⟨.now hx.g hp.pred hm (.inr hlk) (fun e=>absurd e h1),.inr ⟨h1,h2,.inl hlk⟩⟩
 have hun:∀ (g:aB) (x:Int),(g.take x).2.aO=g.aO∧(g.cI x).2.aO=g.aO:=fun g x=>⟨(gU g x).2.2,(gG g x).2.2⟩
 unfold aw
 split
 ·
  rename_i h0
  have hk:=b8 (k.p0 h0)
  simp only
  split
  ·exact⟨P,hx.stay f.me,fun _ _=>rfl,by simp only;rw[(hun _ _).2];exact hO,la k.from_ k.key hk⟩
  ·exact⟨P,hx.stay f.me,fun _ _=>rfl,by simp only;rw[(hun _ _).1];exact hO,lN k.from_ k.key hk⟩
 ·split
  ·
   rename_i h0 h1
   obtain⟨q1,q2,q3⟩:=k.p1 (by omega)
   obtain⟨a1,a2,a3,a4,a5⟩:=qJ (x:=f.pos.curr) hL hx.nU hx.g hu (i:=1) (by omega)
   refine⟨P,⟨a1,a2⟩,fun _ _=>rfl,hO,⟨fun _=>⟨k.from_,k.key,fun e=>by simp at e,fun _=>⟨q1.st a2,q2,q3.imp id (fun h=>⟨h.1,?_⟩)⟩,fun _=>a3,fun e=>by simp at e,fun e=>by simp at e,fun e=>by simp at e,fun e=>by simp at e⟩,fun e=>by simp at e⟩⟩
   exact⟨by rw[a4 0 (by omega)];exact h.2.1,h.2.2⟩
  ·split
   ·
    rename_i h0 h1 h2
    obtain⟨q1,q2,q3⟩:=k.p1 (by omega)
    simp only
    split
    ·have hk:=b8 (q3.imp id (fun h=>⟨h.1,h.2.1,.inl h.2⟩))
     exact⟨P,hx.stay f.me,fun _ _=>rfl,by simp only;rw[(hun _ _).2];exact hO,la k.from_ k.key hk⟩
    ·rename_i hne
     have he:ld M m f.pos.pred=f.pos.pw:=Classical.byContradiction hne
     have hc:=hl.curr (by omega)
     have hlk:=hx.g.str.next f.pos.pred q1.rng.1 q1.rng.2 (q1.lk he) (by simp only[wd,he];omega)
     simp only[wd,he,←q2] at hlk
     exact⟨P,hx.stay f.me,fun _ _=>rfl,hO,⟨fun _=>⟨k.from_,k.key,fun e=>by simp at e,fun _=>⟨q1,q2,q3⟩,fun e=>by simp at e,fun _=>⟨k.s1 h2,.inl hlk⟩,fun e=>by simp at e,fun e=>by simp at e,fun e=>by simp at e⟩,fun e=>by simp at e⟩⟩
   ·split
    ·
     rename_i h0 h1 h2 h3
     obtain⟨q1,q2,q3⟩:=k.p1 (by omega)
     have hc:=hl.curr (by omega)
     have hpr:=k.p3 (.inl h3)
     refine⟨P,hx.stay f.me,fun _ _=>rfl,by simp only;rw[(nN f _).2.2];exact hO,?_⟩
     unfold aB.look
     simp only
     split
     ·rename_i hm
      split
      ·refine⟨fun e=>by simp at e,fun _ _=>⟨q1,q2,fun _=>⟨hm,fun hs=> ?_,fun _ _=>rfl⟩⟩⟩
       exact .now hx.g ⟨hc,by have:=hp.curr;simp only;omega⟩ hm (.inr (ui hx hs hc hp.curr.2 hpr hm)) (fun e=>absurd e hs)
      ·rename_i hkey
       refine⟨fun _=>⟨k.from_,k.key,fun e=>by simp at e,fun _=>⟨q1,q2,q3⟩,fun e=>by simp at e,fun _=>hpr,fun e=>by simp at e,fun _ e=> ?_,fun e=>by simp at e⟩,fun e=>by simp at e⟩
       have h5:=k.key e
       have h6:=(aQ (ld M m f.pos.curr)).key
       omega
     ·rename_i hm
      have hs:sh≠4:=fun e=>by
       have:=(hx.g.str.Hc e f.pos.curr hc hp.curr.2).1
       exact hm this
      split
      ·exact⟨fun _=>⟨k.from_,k.key,fun e=>by simp at e,fun _=>⟨q1,q2,q3⟩,fun e=>by simp at e,fun e=>by simp at e,fun e=>by simp at e,fun e=>by simp at e,fun _=>⟨fun e=>by simp[fo.new] at e,fun e=>by simp[fo.new] at e,fun e=>by simp[fo.new] at e⟩⟩,fun e=>by simp at e⟩
      ·rename_i hcw
       split
       ·exact⟨fun _=>⟨k.from_,k.key,fun e=>by simp at e,fun _=>⟨q1,q2,q3⟩,fun e=>by simp at e,fun e=>by simp at e,fun e=>by simp at e,fun e=>by simp at e,fun _=>⟨fun e=>by simp[fo.new] at e,fun e=>by simp[fo.new] at e,fun e=>by simp[fo.new] at e⟩⟩,fun e=>by simp at e⟩
       ·rename_i hpw
        exact⟨fun _=>⟨k.from_,k.key,fun e=>by simp at e,fun _=>⟨q1,q2,q3⟩,fun e=>by simp at e,fun e=>by simp at e,fun _=>⟨hs,by simpa using hm,by simpa using hcw,by simpa using hpw,fun _=>rfl⟩,fun e=>by simp at e,fun e=>by simp at e⟩,fun e=>by simp at e⟩
    ·split
     ·
      rename_i h0 h1 h2 h3 h4
      obtain⟨q1,q2,q3⟩:=k.p1 (by omega)
      obtain⟨a1,a2,a3⟩:=Di (me:=f.me) hx (hl.cl h4) (k.cl h4)
      have hpr:iV M m P f.me 0 f.pos.pred→iV M (a9 M m f.cl).2.1 P f.me 0 f.pos.pred:=fun h=>⟨by rw[a2 f.me 0 hu.1 hu.2 (by omega) (by omega)];exact h.1,h.2⟩
      simp only
      split
      ·exact⟨P,a1,fun _ _=>rfl,hO,sK (f:={ f with cl:=(a9 M m f.cl).2.2,at_:=0 }) k.from_ k.key rfl (q3.imp id (fun h=>⟨h.1,hpr h.2⟩))⟩
      ·rename_i hr
       exact⟨P,a1,fun _ _=>rfl,hO,⟨fun _=>⟨k.from_,k.key,fun e=>by simp only at e;omega,fun _=>⟨q1.st a1.s,q2,q3.imp id (fun h=>⟨h.1,hpr h.2⟩)⟩,fun e=>by simp only at e;omega,fun e=>by simp only at e;omega,fun e=>by simp only at e;omega,fun e=>by simp only at e;omega,fun _=>a3 (by simpa using hr)⟩,fun e=>by simp at e⟩⟩
     ·split
      ·
       rename_i h0 h1 h2 h3 h4 h5
       obtain⟨q1,q2,q3⟩:=k.p1 (by omega)
       obtain⟨p1,p2,p3,p4,p5⟩:=k.p5 h5
       have hc:=hl.curr (by omega)
       split
       ·rename_i hq
        have he:=cO hq
        have Ku:=p5 he
        rw[cZ _ hq]
        have hcn:f.pos.curr<512:=by have:=hp.curr;have:=hL.nd;omega
        have hcut:ao f.cut=(ao f.pos.pw).link (ao f.pos.cw).next:=by
         unfold aB.cut
         exact dA (Wd.lT (aQ _) (aQ _).next)
        obtain⟨c1,c2,c3⟩:=E5 (u:=f.me) hL hx.nU hx.g (y:=f.cut) q1.rng p1 (q1.lk he) (by simp only[wd,he];exact q1.um) (by simp only[wd,he];exact p4) (c:=f.pos.curr) (by simp only[wd,he];exact q2.symm) (by omega) (by simp only[wd,Ku];exact p2) (by simp only[wd,Ku];exact p3) (by simp only[wd,he,Ku];exact hcut) (hx.ver _ q1.rng.1 q1.rng.2)
        obtain⟨f1,f2,f3,f4,f5,f6⟩:=fX (m:=m) (x:=f.cut) hL q1.rng
        have hne:f.pos.pred≠f.pos.curr:=fun e=>by
         have h6:=q1.um
         rw[←he,e,Ku,p2] at h6
         cases h6
        have hlk:Lk M (P.put f.pos.curr (.out f.me 0)) f.pos.pred:=by
         rcases q1.lk he with h | h
         ·exact .inl h
         ·exact .inr (by rw[Gh.aE _ _ hne];exact h)
        have hkeep:∀ n,P n≠.linked→P.put f.pos.curr (.out f.me 0) n=P n:=fun n h=>Gh.aE _ _ (fun e=>h (by rw[e];exact c1))
        have hG:cU (P.put f.pos.curr (.out f.me 0)) f.me (l++(f.aO++[f.pos.curr])):=by
         rw[←List.append_assoc]
         exact Dj hO c1 (fun n e=>Gh.aE _ _ e) (Gh.bF _ _ _)
        have hmv:=qM (M:=M) (sh:=sh) (me:=f.me) (m:=st M m f.pos.pred f.cut) (P:=P.put f.pos.curr (.out f.me 0)) (f:={ f with aO:=f.aO++[f.pos.curr] }) k.from_ k.key
        have hmu:=(gV M.L { f with aO:=f.aO++[f.pos.curr] }).2.2
        simp only
        split
        ·rename_i hr
         refine⟨_,⟨c2,c3⟩,hkeep,?_,?_⟩
         ·simp only;rw[(hun _ _).1,hmu];exact hG
         ·obtain⟨hr1,hr2⟩:=hmv.1 hr
          rw[hr1]
          refine lN (f:={ f with aO:=f.aO++[f.pos.curr],moved:=f.moved+1 }) k.from_ k.key (fun hm=>⟨?_,?_⟩)
          ·have:=KL.now c2 q1.rng (by simp only[wd,f6];exact hm) hlk q1.h4
           rw[f6] at this
           exact this
          ·by_cases hh:M.L.nd<f.pos.pred
           ·exact .inl hh
           ·exact .inr ⟨p1,by rw[f3 f.me 0 hu.1 hu.2 (by omega) (by omega)];exact(q3.resolve_left hh).2.1,.inl (hlk.resolve_left hh)⟩
        ·rename_i hr
         exact⟨_,⟨c2,c3⟩,hkeep,by simp only;rw[hmu];exact hG,hmv.2 (by simpa using hr)⟩
       ·exact⟨P,hx.stay f.me,fun _ _=>rfl,hO,sK (f:={ f with at_:=0 }) k.from_ k.key rfl q3⟩
      ·
       rename_i h0 h1 h2 h3 h4 h5
       have hat:=hf.at_
       have h6:f.at_=6:=by omega
       have hs:=k.p6 h6
       have hpr:=k.p3 (.inr h6)
       obtain⟨a1,a2,a3,a4,a5⟩:=qJ (x:=f.pos.curr) hL hx.nU hx.g hu (i:=0) (by omega)
       have hmv:=qM (M:=M) (sh:=sh) (me:=f.me) (m:=st M m (M.L.slot f.me 0) f.pos.curr) (P:=P) (f:={ f with pos:={ f.pos with pred:=f.pos.curr },at_:=0 }) k.from_ k.key
       have hmu:=(gV M.L { f with pos:={ f.pos with pred:=f.pos.curr },at_:=0 }).2.2
       refine⟨P,⟨a1,a2⟩,fun _ _=>rfl,by simp only at hmu⊢;rw[hmu];exact hO,?_⟩
       simp only
       cases hq:(({ f with pos:={ f.pos with pred:=f.pos.curr },at_:=0 }:aB).move M.L).2.1 with
       | false=>exact hmv.2 hq
       | true=>
        obtain⟨hr1,hr2⟩:=hmv.1 hq
        rw[hr1,hr2]
        exact⟨fun _=>jy k.from_ k.key rfl (.inr ⟨hs,a3,.inr ⟨by rw[a4 1 (by omega)];exact hpr.1,hpr.2⟩⟩),fun e=>by simp at e⟩
end
section
variable {M:ML} {sh me:Int} {m:Mm} {P:Gh}
theorem kS.own {m':Mm} {k:bl} {p:cY} (h:St M sh me m m' P P) (hp:kS M sh me m P k p) (hk:k.pops=false):kS M sh me m' P k p:=
 ⟨hp.kl.st h,hp.link,(fun e=>by rw[hk] at e;cases e),hp.mark⟩
theorem lO {k:bl} (h:k.links=true):k.pops=false:=by
 unfold bl.links at h
 unfold bl.pops
 simp only[Bool.or_eq_true,decide_eq_true_eq] at h
 rw[decide_eq_false (by omega)];rfl
theorem FA (hx:Cx M sh m P) {k:bl} {p:cY} {t:cg} {q:kP} (hq0:zq M.L q) (hp:kS M sh me m P k p) (hk:k.links=true) (hn:p.next=t.spare) (hq:ym M m t q p.old):
  Act M sh me m (ch M m t q).2.1 P P∧kS M sh me (ch M m t q).2.1 P k p∧((ch M m t q).1=false→ym M (ch M m t q).2.1 t (ch M m t q).2.2 p.old)∧((ch M m t q).1=true→Ready M (ch M m t q).2.1 k p):=by
 have hL:=hx.lay
 have hnd:=hL.nd
 obtain⟨l1,l2,l3,l4⟩:=hp.link hk
 rw[hn] at l3 l4
 unfold ch
 split
 ·exact⟨hx.stay me,hp,fun _=>⟨hq.next,fun _=>rfl⟩,fun e=>by simp at e⟩
 ·rename_i hl
  have hf:=hq.found (by simpa using hl)
  have hk1:=hq0.key
  have hk2:=hq0.next
  have hv0:=(aQ (ld M m t.spare)).ver
  have hv1:=hx.ver t.spare l3.1 (by omega)
  simp only[wd] at hv1
  have e:ao q.word=⟨q.key,q.next,false,0,(ao (ld M m t.spare)).ver+1⟩:=by
   unfold kP.word
   have hfit:(⟨q.key,0,false,0,(ao q.found).ver⟩:Wd).Fit:=⟨by simp only;omega,by simp,by simp,(aQ _).ver⟩
   rw[dA (Wd.lT hfit (by omega)),hf]
   simp only[Wd.link]
   congr 1
   exact Int.emod_eq_of_lt (by omega) (by omega)
  obtain⟨a1,a2⟩:=Dd hL hx.nU hx.g (y:=q.word) l3 l4 (by rw[e]) (by rw[e]) (by rw[e])
  obtain⟨f1,f2,f3,f4,f5,f6⟩:=fX (m:=m) (x:=q.word) hL (a:=t.spare) (by omega)
  refine⟨⟨a1,a2⟩,hp.own a2 (lO hk),fun e=>by simp at e,fun _ _=> ?_⟩
  simp only[wd]
  rw[hn,f6,e]
  exact hq.next
def dx (me:Int) (P P':Gh):Prop:=∀ n,P n= .spare me→P' n= .spare me
theorem wD {l:List Int} (h:l.Nodup) (p:Int→Bool):(l.filter p++l.filter (fun x=> !p x)).Nodup:=((List.filter_append_perm p l).nodup_iff).2 h
theorem JM (hx:Cx M sh m P) {l r:List Int} (hl:Nodes M.L l) (hO:cU P me (r++l)) (hg:∀ n∈l,∃ k,P n= .out me k∧2*M.L.th≤k):
  ∃ P',Act M sh me m (dH M m l).2.1 P P'∧dx me P P'∧cU P' me (r++(dH M m l).2.2)∧(∀ n∈(dH M m l).2.2,∃ k,P' n= .out me k∧2*M.L.th≤k)∧((dH M m l).1=true→(dH M m l).2.2=[]):=by
 cases l with
 | nil=>exact⟨P,hx.stay me,fun _ h=>h,hO,hg,fun _=>rfl⟩
 | cons x l=>
  obtain⟨a1,a2⟩:=wx (u:=me) (y:=(ld M m (M.L.life x)+1) % 18446744073709551616) hx.lay hx.nU hx.g (hl x (List.mem_cons_self ..)) (.inr (hg x (List.mem_cons_self ..))) rfl
  have hnd:=hO.1
  rw[List.nodup_append] at hnd
  have hxr:x∉r:=fun h=>hnd.2.2 x h x (List.mem_cons_self ..) rfl
  have hxl:x∉l:=(List.nodup_cons.1 hnd.2.1).1
  have hne:∀ n,n∈r∨n∈l→P.put x .free n=P n:=fun n h=>Gh.aE _ _ (fun e=>by subst e;exact h.elim hxr hxl)
  refine⟨P.put x .free,⟨a1,a2⟩,fun n h=> ?_,⟨?_,fun n h=> ?_⟩,fun n h=> ?_,fun h=> ?_⟩
  ·obtain⟨k,h1,-⟩:=hg x (List.mem_cons_self ..)
   rw[Gh.aE _ _ (fun e=>by subst e;rw[h] at h1;cases h1)];exact h
  ·show (r++l).Nodup
   rw[List.nodup_append]
   exact⟨hnd.1,(List.nodup_cons.1 hnd.2.1).2,fun a ha b hb=>hnd.2.2 a ha b (List.mem_cons_of_mem _ hb)⟩
  ·have h':n∈r++l:=h
   rcases List.mem_append.1 h' with h2 | h2
   ·rw[hne n (.inl h2)];exact hO.2 n (List.mem_append_left _ h2)
   ·rw[hne n (.inr h2)];exact hO.2 n (List.mem_append_right _ (List.mem_cons_of_mem _ h2))
  ·have h':n∈l:=h
   rw[hne n (.inr h')];exact hg n (List.mem_cons_of_mem _ h')
  ·have h':l.isEmpty=true:=h
   exact List.isEmpty_iff.1 h'
theorem JN (hx:Cx M sh m P) (_:0≤me∧me<M.L.th) {s:fY} (hs:ti M.L s) (k:uh M me P s):
  ∃ P',Act M sh me m (ct M m s).2.1 P P'∧dx me P P'∧uh M me P' (ct M m s).2.2∧((ct M m s).1=true→cU P' me (ct M m s).2.2.kept):=by
 have hL:=hx.lay
 have hnd:=hL.nd
 unfold ct
 split
 ·rename_i ha
  obtain⟨h1,h2⟩:=k.give ha
  obtain⟨P',a1,a2,a3,a4,a5⟩:=JM hx hs.give h1 h2
  refine⟨P',a1,a2,⟨k.nodup,k.at_,fun e=>by simp only at e;omega,fun _=>⟨a3,a4⟩⟩,fun e=> ?_⟩
  have h5:=a5 e
  rw[h5,List.append_nil] at a3
  exact a3
 ·rename_i ha
  obtain⟨b1,b2⟩:=Dg (u:=me) hx.g hx.nU s.at_ s.nodes
  obtain⟨x,hxx⟩:∃ x,ld M m (M.L.slot 0 s.at_)=x:=⟨_,rfl⟩
  rw[hxx] at b1 b2
  have hk0:=k.at_
  have key:∀ n∈s.nodes,∃ j,0≤j∧P.pass me s.at_ x s.nodes n= .out me j∧((wrap64 x::s.seen).contains n=false→s.at_+1≤j):=fun n hn=>by
   obtain⟨j,h0,h1,h2⟩:=k.look (by omega) n hn
   have hnr:=hs.nodes n hn
   unfold Gh.pass
   split
   ·rename_i hc
    exact⟨s.at_+1,by omega,rfl,fun _=>by omega⟩
   ·rename_i hc
    refine⟨j,h0,h1,fun h3=> ?_⟩
    simp only[List.contains_cons,Bool.or_eq_false_iff] at h3
    have h4:=h2 h3.2
    by_cases hj:j=s.at_
    ·exfalso
     apply hc
     subst hj
     simp only[Bool.and_eq_true,decide_eq_true_eq]
     refine⟨⟨Pl.sI.2 h1,fun e=> ?_⟩,by simpa using hn⟩
     have h5:=h3.1
     rw[←e,IntWalk.wrap64_in n (by omega)] at h5
     simp at h5
    ·omega
  have hkeep:dx me P (P.pass me s.at_ x s.nodes):=fun n h=>by
   unfold Gh.pass
   rw[h];simp[Pl.y1]
  split
  ·rename_i he
   have hL2:∀ n,n∈s.nodes→∃ j,0≤j∧P.pass me s.at_ x s.nodes n= .out me j:=fun n hn=>by obtain⟨j,h0,h1,-⟩:=key n hn;exact⟨j,h0,h1⟩
   refine⟨_,⟨b1,b2⟩,hkeep,⟨k.nodup,by simp only[fY.look,fY.part];omega,fun e=>by simp only[fY.look,fY.part] at e;omega,fun _=>⟨⟨wD k.nodup _,fun n hn=> ?_⟩,fun n hn=> ?_⟩⟩,fun _=>⟨k.nodup.filter _,fun n hn=> ?_⟩⟩
   ·rcases List.mem_append.1 hn with h | h
    ·exact hL2 n (List.mem_filter.1 h).1
    ·exact hL2 n (List.mem_filter.1 h).1
   ·have h:=List.mem_filter.1 hn
    obtain⟨j,h0,h1,h2⟩:=key n h.1
    refine⟨j,h1,?_⟩
    have h3:=h.2
    rw[hxx] at h3
    simp only[fY.look,Bool.not_eq_true'] at h3
    have:=h2 h3
    omega
   ·exact hL2 n (List.mem_filter.1 hn).1
  ·rename_i he
   rw[hxx]
   refine⟨_,⟨b1,b2⟩,hkeep,⟨k.nodup,by simp only[fY.look];omega,fun _=>key,fun e=> ?_⟩,fun e=>by simp at e⟩
   simp only[fY.look] at e
   omega
theorem As {l:List Int} (hL:M.L.Ok) (h:cU P me l):uh M me P (.new l):=by
 have:=hL.th
 refine⟨h.1,by simp[fY.new],fun _ n hn=> ?_,fun e=>by simp only[fY.new] at e;omega⟩
 obtain⟨k,h0,h1⟩:=h.2 n hn
 exact⟨k,h0,h1,fun _=>h0⟩
theorem FB (hx:Cx M sh m P) (hu:0≤me∧me<M.L.th) {t:cg} {x:qV} {N:Int} (ht:bL M.L t N) (hw:tj M.L x N) (k:yn M me P t x):
  ∃ P',Act M sh me m (a7 M m t x).2.1 P P'∧dx me P P'∧((a7 M m t x).1=false→yn M me P' (a7 M m t x).2.2.1 (a7 M m t x).2.2.2)∧((a7 M m t x).1=true→cU P' me (a7 M m t x).2.2.1.ret):=by
 have key:ti M.L (x.getD (.new t.ret))∧uh M me P (x.getD (.new t.ret)):=by
  cases x with
  | none=>exact⟨xk ht.ret,As hx.lay k⟩
  | some s=>exact⟨(hw s rfl).1,k⟩
 obtain⟨P',a1,a2,a3,a4⟩:=JN hx hu key.1 key.2
 unfold a7
 refine⟨P',a1,a2,fun _=>a3,fun e=> ?_⟩
 have e':(ct M m (x.getD (.new t.ret))).1=true:=e
 simp only
 rw[if_pos e']
 exact a4 e'
theorem wE (M:ML) (m:Mm) (t:cg) (x:qV):(a7 M m t x).2.2.1.spare=t.spare:=by
 unfold a7
 simp only
 split<;>rfl
theorem JO (hx:Cx M sh m P) {a:iq} (ha:uW M.L a) (k:Fa a):
  ((ca M m a).2.2.got=0∧(ca M m a).2.1=m∧((ca M m a).1=false→Fa (ca M m a).2.2))∨
  ((ca M m a).1=true∧(ca M m a).2.2.got≠0∧P (ca M m a).2.2.got= .free∧Act M sh me m (ca M m a).2.1 P (P.put (ca M m a).2.2.got (.spare me))):=by
 have hat:=ha.at_
 unfold ca
 split
 ·rename_i hf
  split
  ·rename_i hq
   right
   rw[cZ _ hq]
   have he:=cO hq
   obtain⟨b1,b2⟩:=Df (u:=me) (y:=(a.found+1) % 18446744073709551616) hx.lay hx.nU hx.g hat (by rw[he];exact k hf) (by rw[he])
   exact⟨rfl,by simp only;omega,(hx.g.life _ hat.1 hat.2).2 (by rw[he];exact k hf),⟨b1,b2⟩⟩
  ·exact .inl ⟨ha.got,rfl,fun _ h=>by simp[iq.on] at h⟩
 ·split
  ·rename_i he
   exact .inl ⟨ha.got,rfl,fun _ _=>he⟩
  ·exact .inl ⟨ha.got,rfl,fun _ h=>by simp[iq.on] at h⟩
structure FC (M:ML) (sh me:Int) (m:Mm) (P:Gh) (r:Bool×Mm×cg×jL):Prop where
 ex:∃ P',Act M sh me m r.2.1 P P'∧(r.2.2.1.spare≠0→P' r.2.2.1.spare= .spare me)∧(r.1=false→wz M me P' r.2.2.1 r.2.2.2)∧(r.1=true→cU P' me r.2.2.1.ret∧(r.2.2.2.short=true∨r.2.2.1.spare≠0))
theorem y5 (hx:Cx M sh m P) {t:cg} {e:jL} {a:iq} (hs:e.scan=none) (ha:uW M.L a) (k:Fa a) (hsp:t.spare≠0→P t.spare= .spare me) (hO:cU P me t.ret):FC M sh me m P (mX M m t e a):=by
 have hc:=JO (me:=me) hx ha k
 unfold mX
 simp only
 rcases hc with ⟨h1,h2,h3⟩ | ⟨h1,h2,h3,h4⟩
 ·split
  ·rename_i hr
   refine⟨P,by simp only;rw[h2];exact hx.stay me,hsp,fun _=>⟨(fun x e=>by simp only at e;rw[hs] at e;cases e),fun _=>hO,fun _ b e=> ?_⟩,fun e=>by simp at e⟩
   simp only[Option.some.injEq] at e
   subst e
   exact h3 hr
  ·rw[if_neg (by simp[h1])]
   refine⟨P,by simp only;rw[h2];exact hx.stay me,fun e=>by simp at e,fun _=>⟨fun x e=> ?_,fun e=>by simp at e,fun e=>by simp at e⟩,fun e=>⟨hO,.inl e⟩⟩
   simp only[Option.some.injEq] at e
   subst e
   exact hO
 ·rw[if_neg (by rw[h1];decide),if_pos h2]
  refine⟨_,h4,fun _=>Gh.bF _ _ _,fun e=>by simp at e,fun _=>⟨⟨hO.1,fun n hn=> ?_⟩,.inr h2⟩⟩
  obtain⟨j,h5,h6⟩:=hO.2 n hn
  exact⟨j,h5,by rw[Gh.aE _ _ (fun e=>by rw[e,h3] at h6;cases h6)];exact h6⟩
theorem FD (hx:Cx M sh m P) (hu:0≤me∧me<M.L.th) {t:cg} {e:jL} {N:Int} (ht:bL M.L t N) (he:m6 M.L e N) (k:wz M me P t e) (hsp:t.spare≠0→P t.spare= .spare me):FC M sh me m P (aK M me m t e):=by
 unfold aK
 cases hs:e.scan with
 | some x=>
  obtain⟨P',a1,a2,a3,a4⟩:=FB hx hu ht (he.scan x hs) (k.scan x hs)
  have hsp':(a7 M m t x).2.2.1.spare≠0→P' (a7 M m t x).2.2.1.spare= .spare me:=fun h=>by
   rw[wE] at h⊢;exact a2 _ (hsp h)
  simp only
  split
  ·rename_i hr
   refine⟨P',a1,hsp',fun _=>⟨fun y e=> ?_,fun e=>by simp at e,fun e=>by simp at e⟩,fun e=>by simp at e⟩
   simp only[Option.some.injEq] at e
   subst e
   exact a3 hr
  ·rename_i hr
   have hO:=a4 (by simpa using hr)
   exact⟨P',a1,hsp',fun _=>⟨fun y e=>by simp at e,fun _=>hO,fun _ a e=>by simp at e⟩,fun e=>⟨hO,.inl e⟩⟩
 | none=>
  simp only
  cases ha:e.alloc with
  | none=>
   simp only
   split
   ·rename_i h0
    exact⟨P,hx.stay me,hsp,fun e=>by simp at e,fun _=>⟨k.ret hs,.inr h0⟩⟩
   ·exact y5 hx hs (xj hx.lay _) (fun h=>by simp[l7] at h) hsp (k.ret hs)
  | some a=>exact y5 hx hs (he.alloc a hs ha) (k.alloc hs a ha) hsp (k.ret hs)
theorem sL {t:cg} (h:cU P me t.ret):wz M me P t .new:=⟨fun x e=>by simp[jL.new] at e,fun _=>h,fun _ a e=>by simp[jL.new] at e⟩
end
end Go.Proofs.YtbcnnhlpilmmbaaGreat
