/- Texts that are wanted for PTopFull.
   Conditions: none. -/
import Derived.KernelRfl
import Derived.Deep.LoopGhost
import Derived.Deep.AppendLies
import Derived.Test.YtbcnnhlpilmmbaaGreatJPTopFull26
set_option maxRecDepth 100000
set_option maxHeartbeats 6400000
namespace Go.Proofs.YtbcnnhlpilmmbaaGreat
open Go Go.RowKit
def pU (L:Ly) (Q:Int→Prop):Prop:=∀ n,1≤n→n≤L.nd→Q n
def qY (M:ML) (m:Mm) (Q:Int→Prop):Prop:=∀ n,1≤n→n≤M.L.nd→ld M m (M.L.life n) % 2≠0→Q n
def l6 (M:ML) (m m':Mm):Prop:=∀ n,1≤n→n≤M.L.nd→ld M m' (M.L.life n)=ld M m (M.L.life n)∨ld M m' (M.L.life n)=(ld M m (M.L.life n)+1) % 18446744073709551616
structure jm (M:ML) (m:Mm) (Q:Int→Prop) (a:gL):Prop where
 pass:∀ n,1≤n→n≤M.L.nd→Q n∨∃ j,0≤j∧j<a.left∧n=(a.at_ - 1+j) % M.L.nd+1
 free:a.free=true→a.found % 2=0∧(ld M m (M.L.life a.at_)=a.found∨Q a.at_)
variable {M:ML} {m:Mm}
theorem vt {Q:Int→Prop} (hL:M.L.Ok) (x:Int):jm M m Q (hM M.L x):=by
 have hn:=hL.nd
 have ha:=(sy hL x).at_
 refine⟨fun n h1 h2=> .inr ⟨(n - (hM M.L x).at_) % M.L.nd,Int.emod_nonneg _ (by omega),Int.emod_lt_of_pos _ (by omega),?_⟩,fun h=>by simp[hM] at h⟩
 have h3:((hM M.L x).at_ - 1+(n - (hM M.L x).at_) % M.L.nd) % M.L.nd=(n - 1) % M.L.nd:=by
  rw[Int.add_emod,Int.emod_emod,←Int.add_emod]
  congr 1;omega
 rw[h3,Int.emod_eq_of_lt (by omega) (by omega)]
 omega
theorem EK {Q:Int→Prop} {a:gL} (hL:M.L.Ok) (ha:qy M.L a) (h:∀ n,1≤n→n≤M.L.nd→Q n∨∃ j,0≤j∧j<a.left∧n=(a.at_ - 1+j) % M.L.nd+1) (hq:Q a.at_):jm M m Q (a.on M.L)∧(a.left - 1≤0→pU M.L Q):=by
 have hn:=hL.nd
 have hat:=ha.at_
 have key:∀ n,1≤n→n≤M.L.nd→Q n∨∃ j,0≤j∧j<a.left - 1∧n=(a.at_ % M.L.nd+j) % M.L.nd+1:=fun n h1 h2=>by
  rcases h n h1 h2 with h3 | ⟨j,h3,h4,h5⟩
  ·exact .inl h3
  ·by_cases hj:j=0
   ·subst hj
    rw[Int.add_zero,Int.emod_eq_of_lt (by omega) (by omega)] at h5
    left
    rw[show n=a.at_ by omega];exact hq
   ·refine .inr ⟨j - 1,by omega,by omega,?_⟩
    rw[h5,Int.add_emod (a.at_ % M.L.nd),Int.emod_emod,←Int.add_emod]
    congr 2;omega
 refine⟨⟨fun n h1 h2=> ?_,fun h=>by simp[gL.on] at h⟩,fun h0 n h1 h2=> ?_⟩
 ·rcases key n h1 h2 with h3 | ⟨j,h3,h4,h5⟩
  ·exact .inl h3
  ·exact .inr ⟨j,h3,h4,by simp only[gL.on];rw[h5];congr 2;omega⟩
 ·rcases key n h1 h2 with h3 | ⟨j,h3,h4,h5⟩
  ·exact h3
  ·omega
theorem D9 {Q:Int→Prop} {a:gL} (hL:M.L.Ok) (ho:qY M m Q) (ha:qy M.L a) (h:jm M m Q a):((cp M m a).1=false→(cp M m a).2.1=m∧jm M m Q (cp M m a).2.2)∧((cp M m a).1=true→(cp M m a).2.2.got=0→pU M.L Q):=by
 have hn:=hL.nd
 have hat:=ha.at_
 have hth:=hL.th
 unfold cp
 split
 ·rename_i hf
  split
  ·exact⟨fun h=>by simp at h,fun _ h=>by simp only at h;omega⟩
  ·rename_i hc
   have hq:Q a.at_:=by
    rcases(h.free hf).2 with h1 | h1
    ·rw[Az (by simp only[Ly.life,Ly.size];omega),h1] at hc
     simp at hc
    ·exact h1
   have:=EK (m:=m) hL ha h.pass hq
   exact⟨fun _=>⟨rfl,this.1⟩,fun h1 _=>this.2 (of_decide_eq_true h1)⟩
 ·split
  ·rename_i he
   exact⟨fun _=>⟨rfl,h.pass,fun _=>⟨he,.inl rfl⟩⟩,fun h=>by simp at h⟩
  ·rename_i he
   have hq:Q a.at_:=ho _ hat.1 hat.2 he
   have:=EK (m:=m) (a:={ a with found:=ld M m (M.L.life a.at_),free:=false }) hL ⟨hat,ha.left,ha.got⟩ h.pass hq
   exact⟨fun _=>⟨rfl,this.1⟩,fun h1 _=>this.2 (of_decide_eq_true h1)⟩
variable {m':Mm}
theorem jm.stay {Q Q':Int→Prop} {a:gL} (_:M.L.Ok) (hm:yv m) (ha:qy M.L a) (h:jm M m Q a) (hl:l6 M m m') (hq:∀ n,Q n→Q' n) (ho:qY M m' Q'):jm M m' Q' a:=by
 refine⟨fun n h1 h2=>(h.pass n h1 h2).imp (hq n) id,fun hf=>⟨(h.free hf).1,?_⟩⟩
 have hat:=ha.at_
 rcases(h.free hf).2 with h1 | h1
 ·have he:=(h.free hf).1
  have hr:=nR (M:=M) hm (M.L.life a.at_)
  rcases hl a.at_ hat.1 hat.2 with h2 | h2
  ·exact .inl (h2.trans h1)
  ·refine .inr (ho _ hat.1 hat.2 ?_)
   rw[h2,h1]
   rw[h1] at hr
   omega
 ·exact .inr (hq _ h1)
def gQ (M:ML) (m:Mm) (Q:Int→Prop) (e:j5):Prop:=pU M.L Q∨(e.scan=none∧e.done=false∧e.short=false∧∀ a,e.alloc=some a→jm M m Q a)
theorem nq (M:ML) (m:Mm) (Q:Int→Prop):gQ M m Q .new:= .inr ⟨rfl,rfl,rfl,fun a h=>by simp[j5.new] at h⟩
theorem gQ.stay {Q Q':Int→Prop} {e:j5} {N:Int} (hL:M.L.Ok) (hm:yv m) (he:lI M.L e N) (h:gQ M m Q e) (hl:l6 M m m') (hq:∀ n,Q n→Q' n) (ho:qY M m' Q'):gQ M m' Q' e:=
 h.imp (fun h n h1 h2=>hq n (h n h1 h2)) (fun ⟨h1,h2,h3,h4⟩=>⟨h1,h2,h3,fun a ha=>(h4 a ha).stay hL hm (he.alloc a h1 ha) hl hq ho⟩)
variable {t:cV}
theorem rS {Q:Int→Prop} {e:j5} {a:gL} (hL:M.L.Ok) (ho:qY M m Q) (ha:qy M.L a) (h:jm M m Q a) (hs:e.scan=none) (hd:e.done=false) (hsh:e.short=false):((km M m t e a).1=false→gQ M (km M m t e a).2.1 Q (km M m t e a).2.2.2)∧((km M m t e a).2.2.2.short=true→pU M.L Q):=by
 have hx:=D9 hL ho ha h
 unfold km
 simp only
 split
 ·rename_i hr
  have:=hx.1 hr
  refine⟨fun _=> .inr ⟨hs,hd,hsh,fun b hb=> ?_⟩,fun h=>by simp only at h;rw[hsh] at h;cases h⟩
  injection hb with hb
  subst hb
  simp only
  rw[this.1];exact this.2
 ·rename_i hr
  split
  ·exact⟨fun h=>by simp at h,fun h=>by simp only at h;rw[hsh] at h;cases h⟩
  ·rename_i hg
   have hA:=hx.2 (by simpa using hr) (by simpa using hg)
   exact⟨fun _=> .inl hA,fun _=>hA⟩
variable {me:Int}
theorem yi {Q:Int→Prop} {e:j5} {N:Int} (hL:M.L.Ok) (ho:qY M m Q) (he:lI M.L e N) (h:gQ M m Q e):((aF M me m t e).1=false→gQ M (aF M me m t e).2.1 Q (aF M me m t e).2.2.2)∧((aF M me m t e).2.2.2.short=true→pU M.L Q):=by
 rcases h with h | ⟨h1,h2,h3,h4⟩
 ·exact⟨fun _=> .inl h,fun _=>h⟩
 ·unfold aF
  rw[h1]
  simp only
  cases ha:e.alloc with
  | none=>
   simp only
   split
   ·exact⟨fun h=>by simp at h,fun h=>by simp only at h;rw[h3] at h;cases h⟩
   ·exact rS hL ho (sy hL _) (vt hL _) h1 h2 h3
  | some a=>exact rS hL ho (he.alloc a h1 ha) (h4 a ha) h1 h2 h3
structure ll (M:ML) (m:Mm) (Q:Int→Prop) (K:Prop) (h:aK):Prop where
 full:h.at_=6→h.plan.res.code=4→h.plan=dM
 a5:h.at_=4→ld M m (M.L.desc h.u)=h.found→K∧gQ M m Q h.a5
 all:h.at_=6→h.plan.res.code=4→ld M m (M.L.desc h.u)=h.found→K∧pU M.L Q
theorem bB {Q:Int→Prop} {K:Prop} {h:aK} (h4:h.at_≠4) (h6:h.at_≠6∨h.plan.res.code≠4):ll M m Q K h:=
 ⟨fun a b=>by omega,fun a=>absurd a h4,fun a b=>by omega⟩
theorem yj {Q:Int→Prop} {K:Prop} {h:aK} {N:Int} (hL:M.L.Ok) (ht:bM M.L t N) (hh:dE M.L me t h N)
  (ho:1≤stt M m h.u→stt M m h.u≤4→qY M m Q) (hk:1≤stt M m h.u→stt M m h.u≤4→(eA (ld M m (M.L.task h.u))).links=true→K) (hf:ll M m Q K h):
  (ah M me m t h).1=false→ll M (ah M me m t h).2.1 Q K (ah M me m t h).2.2.2:=by
 rcases(by have:=hh.at_;omega:h.at_=0∨h.at_=1∨h.at_=2∨h.at_=3∨h.at_=4∨h.at_=5∨h.at_=6∨h.at_=7∨h.at_=8∨h.at_=9) with h0 | h0 | h0 | h0 | h0 | h0 | h0 | h0 | h0 | h0
 ·rw[jT h0];exact fun _=>bB (by simp) (.inl (by simp))
 ·rw[ij h0];exact fun _=>bB (by simp) (.inl (by simp))
 ·rw[ik h0]
  unfold aK.begin_
  split
  ·exact fun h=>by simp at h
  ·simp only
   split
   ·exact fun _=>bB (by simp) (.inl (by simp))
   ·rename_i hst
    split
    ·rename_i hlk
     simp only[Bool.and_eq_true,decide_eq_true_eq] at hlk
     refine fun _=>⟨fun a=>by simp at a,fun _ hd=>⟨?_,nq M m Q⟩,fun a=>by simp at a⟩
     have hs:stt M m h.u=1:=by unfold stt;rw[show ld M m (M.L.desc h.u)=h.found from hd];simpa using hst
     exact hk (by omega) (by omega) hlk.1
    ·exact fun _=>bB (by simp[aK.search]) (.inl (by simp[aK.search]))
 ·rw[il h0]
  exact fun _=>bB (by simp only;split<;>omega) (.inl (by simp only;split<;>omega))
 ·rw[iq h0]
  intro _
  have hst:=hh.st1 (by omega)
  have hq:∀ v,0≤v→v<M.L.th→ld M (aF M me m t h.a5).2.1 (M.L.desc v)=ld M m (M.L.desc v):=lU hL ht (hh.a5 h0)
  have hx:ld M m (M.L.desc h.u)=h.found→K∧((aF M me m t h.a5).1=false→gQ M (aF M me m t h.a5).2.1 Q (aF M me m t h.a5).2.2.2)∧((aF M me m t h.a5).2.2.2.short=true→pU M.L Q):=fun hd=>by
   have hs:stt M m h.u=1:=by unfold stt;rw[hd];exact hst
   have:=hf.a5 h0 hd
   have h2:=yi (me:=me) (t:=t) hL (ho (by omega) (by omega)) (hh.a5 h0) this.2
   exact⟨this.1,h2⟩
  simp only
  split
  ·rename_i hr
   refine⟨fun a=>by simp only at a;omega,fun _ hd=> ?_,fun a=>by simp only at a;omega⟩
   simp only at hd
   rw[hq _ hh.u.1 hh.u.2] at hd
   exact⟨(hx hd).1,(hx hd).2.1 hr⟩
  ·split
   ·rename_i hsh
    refine⟨fun _ _=>rfl,fun a=>by simp at a,fun _ _ hd=> ?_⟩
    simp only at hd
    rw[hq _ hh.u.1 hh.u.2] at hd
    exact⟨(hx hd).1,(hx hd).2.2 hsh⟩
   ·exact bB (by simp[aK.search]) (.inl (by simp[aK.search]))
 ·rw[iu h0]
  split
  ·intro _
   unfold aK.bP
   simp only
   split
   ·exact bB (by simp) (.inl (by simp))
   ·split
    ·exact bB (by simp) (.inr (by simp only;rw[lP];decide))
    ·split
     ·exact bB (by simp) (.inl (by simp))
     ·split<;>exact bB (by simp) (.inl (by simp))
  ·exact fun _=>bB (by simp only;omega) (.inl (by simp only;omega))
 ·rw[iv h0];exact fun _=>bB (by simp) (.inl (by simp))
 ·rw[iw h0];exact fun _=>bB (by simp only;split<;>omega) (.inl (by simp only;split<;>omega))
 ·rw[ix h0];exact fun _=>bB (by simp only;split<;>omega) (.inl (by simp only;split<;>omega))
 ·rw[lS h0];exact fun _=>bB (by simp) (.inl (by simp))
theorem ll.stay {Q Q':Int→Prop} {K K':Prop} {h:aK} {N:Int} (hL:M.L.Ok) (hm:yv m) (hh:dE M.L me t h N) (hf:ll M m Q K h) (hl:l6 M m m') (hol:pT M m m') (hag:age h.found≤age (ld M m (M.L.desc h.u))∨h.at_=0)
  (hq:ld M m (M.L.desc h.u)=h.found→(getD' h.found).status=1→(∀ n,Q n→Q' n)∧qY M m' Q'∧(K→K')):ll M m' Q' K' h:=by
 have key:h.at_=4∨h.at_=6→ld M m' (M.L.desc h.u)=h.found→ld M m (M.L.desc h.u)=h.found:=fun a e=>by
  rcases hol h.u hh.u.1 hh.u.2 with h1 | h1
  ·rw[←h1];exact e
  ·rw[e] at h1;omega
 refine⟨hf.full,fun a e=> ?_,fun a b e=> ?_⟩
 ·have e2:=key (.inl a) e
  have h1:=hf.a5 a e2
  have h2:=hq e2 (hh.st1 (by omega))
  exact⟨h2.2.2 h1.1,h1.2.stay hL hm (hh.a5 a) hl h2.1 h2.2.1⟩
 ·have e2:=key (.inr a) e
  have h1:=hf.all a b e2
  have h2:=hq e2 (hh.st1 (by omega))
  exact⟨h2.2.2 h1.1,fun n h3 h4=>h2.1 n (h1.2 n h3 h4)⟩
def rT (x:Int):Prop:=(getD' x).status=5∧(getD' x).next=1
variable {L:Ly}
theorem pV {x y:Int} (h:gF L x y) (h1:(getD' x).status≠1):¬ rT y:=by
 rintro ⟨h5,hn⟩
 rcases h.path with ⟨h2,-⟩ | ⟨-,h2⟩ | ⟨-,h2⟩ | ⟨-,h2⟩
 ·exact h1 h2
 ·rcases h2 with h2 | h2<;>(rw[h2] at h5;simp[Ds.with_] at h5)
 ·rw[h2] at hn;simp at hn
 ·rw[h2] at h5;simp[Ds.cm] at h5
theorem kh {c:gR} (h:um L c):∀ p,p∈c.bX→(getD' p.2).status≠1:=fun p hp=>by
 unfold gR.bX at hp
 split at hp
 ·rename_i h2
  rw[List.mem_singleton.1 hp]
  have:=(h.prop h2).1
  simp only;omega
 ·cases hp
theorem ki {f:aC} (h:fM L f):∀ p,p∈f.bX→(getD' p.2).status≠1:=fun p hp=>by
 unfold aC.bX at hp
 split at hp
 ·rename_i h4;exact kh (h.cl h4) p hp
 ·cases hp
theorem rU {x:bL} (h:yP L x):∀ p,p∈x.bX→(getD' p.2).status≠1:=fun p hp=>by
 unfold bL.bX at hp
 split at hp
 ·rename_i ha
  rw[List.mem_singleton.1 hp]
  simp only
  rcases(by omega:x.at_≤4∨(5≤x.at_∧x.at_≤7)∨8≤x.at_) with a | a | a
  ·have:=h.s2 ha.1 a;omega
  ·have:=h.s3 a.1 a.2;omega
  ·have:=h.s4 a;omega
 ·cases hp
theorem vu {h:aK} {N:Int} (hL:M.L.Ok) (hm:ff M m) (hu:0≤me∧me<M.L.th) (hN:0≤N) (ht:bM M.L t N) (hh:dE M.L me t h N) {v:Int} (h0:0≤v∧v<M.L.th) (hne:ld M (ah M me m t h).2.1 (M.L.desc v)≠ld M m (M.L.desc v)) (h4:rT (ld M (ah M me m t h).2.1 (M.L.desc v))):
  h.at_=6∧h.plan.res.code=4∧v=h.u∧ld M m (M.L.desc v)=h.found:=by
 have hL2:=hL.th
 have hnd:=hL.nd
 have hds:=xh (me:=me) (m:=m) hL hu ht hh
 have hmem:=(hds.desc v h0.1 h0.2).resolve_left hne
 have hpa:=((lT hL hm hu hN ht hh).1.desc v h0.1 h0.2).resolve_left hne
 have hs1:(getD' (ld M m (M.L.desc v))).status=1:=Classical.byContradiction fun hc=>pV hpa hc h4
 have hsub:(v,ld M m (M.L.desc v))∉h.sub:=fun hp=>by
  unfold aK.sub at hp
  split at hp
  ·rename_i a;exact rU (hh.exec a).1 _ hp hs1
  ·split at hp
   ·rename_i a;exact ki (hh.find a).1.2 _ hp hs1
   ·split at hp
    ·rename_i a;exact kh (hh.cl a) _ hp hs1
    ·cases hp
 obtain⟨h1,he⟩:=(gf hmem).resolve_right hsub
 have hv:v=h.u:=congrArg Prod.fst he
 have hx:ld M m (M.L.desc v)=h.found:=congrArg Prod.snd he
 rcases(by have:=hh.at_;omega:h.at_=1∨h.at_=2∨h.at_=3∨h.at_=4∨h.at_=5∨h.at_=6∨h.at_=7∨h.at_=8∨h.at_=9) with a | a | a | a | a | a | a | a | a
 ·rw[ij a] at hne;exact absurd rfl hne
 ·rw[ik a] at hne;exact absurd rfl hne
 ·rw[il a] at hne
  have:=(BF (m:=m) hL (hh.exec a).1).out.desc v h0.1 h0.2
  exact absurd hs1 (rU (hh.exec a).1 _ (this.resolve_left hne))
 ·rw[iq a] at hne;exact absurd (lU hL ht (hh.a5 a) v h0.1 h0.2) hne
 ·have hf:=(hh.find a).1
  have:=(tc (m:=m) hL hu hf.1 hf.2).out.desc v h0.1 h0.2
  rw[iu a] at hne
  have hne2:ld M (ax M m h.find).2.1 (M.L.desc v)≠ld M m (M.L.desc v):=by
   split at hne<;>exact hne
  exact absurd hs1 (ki hf.2 _ (this.resolve_left hne2))
 ·refine⟨a,?_,hv,hx⟩
  rw[iv a] at hne h4
  simp only at hne h4
  cases hq:bS M m (M.L.desc h.u) h.found with
  | false=>rw[iX _ hq] at hne;exact absurd rfl hne
  | true=>
   rw[iW _ hq,hv,cD _ _ (by have:=hh.u;simp only[Ly.desc,Ly.size];omega)] at h4
   have hp:=(hh.plan (by omega))
   have:=h4.2
   rw[dH (mA _ _ _ _ hp.val)] at this
   rcases hp.code with hc | hc
   ·rw[hc] at this;simp[Ds.ended] at this
   ·exact hc
 ·rw[iw a] at hne
  have:=(ta (m:=m) hL (hh.cl a)).desc v h0.1 h0.2
  exact absurd hs1 (kh (hh.cl a) _ (this.resolve_left hne))
 ·rw[ix a] at hne;exact absurd (pA hL ht.spare.2 v h0.1 h0.2) hne
 ·rw[lS a] at h4 hne
  simp only at hne h4
  cases hq:bS M m (M.L.desc h.u) h.found with
  | false=>rw[iX _ hq] at hne;exact absurd rfl hne
  | true=>
   rw[iW _ hq,hv,cD _ _ (by have:=hh.u;simp only[Ly.desc,Ly.size];omega)] at h4
   have hp:=rE hL (hh.plan (by omega)) (hh.now (by omega)) (hh.st1 (by omega))
   have:=h4.1
   rw[hp.2.2] at this
   simp at this
theorem B2 {d:aH} {N:Int} (hL:M.L.Ok) (hm:ff M m) (hu:0≤me∧me<M.L.th) (hN:0≤N) (ht:bM M.L t N) (hd:eR M.L me t d N) (ho:Own M me m d) {v:Int} (h0:0≤v∧v<M.L.th) (hne:ld M (ak M me m t d).2.1 (M.L.desc v)≠ld M m (M.L.desc v)) (h4:rT (ld M (ak M me m t d).2.1 (M.L.desc v))):
  (d.at_=1∨d.at_=5)∧d.help.at_=6∧d.help.plan.res.code=4∧v=d.help.u∧ld M m (M.L.desc v)=d.help.found:=by
 have hds:=xj (m:=m) hL hu ht hd ho.ED
 have hmem:=(hds.desc v h0.1 h0.2).resolve_left hne
 by_cases jY:d.at_=4∧d.ann.at_=4
 ·rw[nX jY.1 jY.2] at hne h4
  simp only at hne h4
  have hth:=hL.th
  have hnd:=hL.nd
  by_cases e:v=me
  ·subst e
   rw[cD _ _ (by simp only[Ly.desc,Ly.size];omega)] at h4
   have:=h4.1
   rw[dH (hO _)] at this
   simp[Ds.cm] at this
  ·rw[aq _ _ (by simp only[Ly.desc];omega)] at hne
   exact absurd rfl hne
 ·have hpa:=(yh hL hm hu hN ht hd jY ho.ED v h0.1 h0.2).resolve_left hne
  have hs1:(getD' (ld M m (M.L.desc v))).status=1:=Classical.byContradiction fun hc=>pV hpa hc h4
  have no:d.bX me=[]→False:=fun e=>by rw[e] at hmem;cases hmem
  rcases(by have:=hd.at_;omega:d.at_=0∨d.at_=1∨d.at_=2∨d.at_=3∨d.at_=4∨d.at_=5∨d.at_=6∨d.at_=7∨8≤d.at_) with a | a | a | a | a | a | a | a | a
  ·exact(no (bA (.inl a))).elim
  ·rw[fF a] at hne h4;exact⟨.inl a,vu hL hm hu hN ht (hd.help (.inl a)) h0 hne h4⟩
  ·exact(no (bA (.inr (.inl a)))).elim
  ·rw[lW a] at hmem
   have hf:=hd.fast a
   exfalso
   unfold bj.bX at hmem
   split at hmem
   ·rename_i b;exact ki (hf.find b).2 _ hmem hs1
   ·split at hmem
    ·rename_i b;exact kh (hf.cl b) _ hmem hs1
    ·cases hmem
  ·exact(no (bA (.inr (.inr (.inl ⟨a,fun e=>jY ⟨a,e⟩⟩))))).elim
  ·rw[fG a] at hne h4;exact⟨.inr a,vu hL hm hu hN ht (hd.help (.inr a)) h0 hne h4⟩
  ·exact(no (bA (.inr (.inr (.inr (.inl a)))))).elim
  ·rw[lX a] at hmem
   exact absurd hs1 (ki (hd.find a).1.2 _ hmem)
  ·exact(no (bA (.inr (.inr (.inr (.inr a)))))).elim
structure kj (L:Ly) (Q:Int→Prop) (t:bq) (r:ku):Prop where
 res:r.code≠0→r=⟨4,false,0⟩∧t.links=true∧pU L Q
structure fQ (M:ML) (m:Mm) (S:Int→Int→Prop) (K:Int→Prop) (u:Int) (d:aH):Prop where
 help:d.at_=1∨d.at_=5→ll M m (S d.help.u) (K d.help.u) d.help
 a5:d.at_=2→d.task.links=true∧gQ M m (S u) d.a5
 res:7≤d.at_→kj M.L (S u) d.task d.res
theorem eI {S:Int→Int→Prop} {K:Int→Prop} {u:Int} {d:aH} (h:d.at_=0∨d.at_=3∨d.at_=4∨d.at_=6):fQ M m S K u d:=
 ⟨fun e=>by omega,fun e=>by omega,fun e=>by omega⟩
theorem dA {S:Int→Int→Prop} {K:Int→Prop} {u:Int} {d:aH} (h:7≤d.at_) (hr:kj M.L (S u) d.task d.res):fQ M m S K u d:=
 ⟨fun e=>by omega,fun e=>by omega,fun _=>hr⟩
theorem rV {S:Int→Int→Prop} {K:Int→Prop} {u:Int} {d:aH} {r:ku} (hr:kj M.L (S u) d.task r):fQ M m S K u (d.told M.L u r):=by
 unfold aH.told
 simp only
 split
 ·exact dA (by simp[aH.leave]) hr
 ·exact dA (by simp) hr
theorem rW {S:Int→Int→Prop} {K:Int→Prop} {u:Int} {t:cV} {d:aH}:fQ M m S K u (d.want M.L u t):=by
 unfold aH.want
 split
 ·rename_i h
  simp only[Bool.and_eq_true] at h
  exact⟨fun e=>by simp at e,fun _=>⟨h.1,nq M m _⟩,fun e=>by simp at e⟩
 ·exact eI (by simp[aH.aU])
theorem Ea {f:bj} {N:Int} (hL:M.L.Ok) (hm:ff M m) (hu:0≤me∧me<M.L.th) (hN:0≤N) (ht:bM M.L t N) (h:mO M.L me t f N):(aJ M me m t f).2.2.2.res.code=0:=(s9 hL hm hu hN ht h).2.2.2
theorem Eb {S:Int→Int→Prop} {K:Int→Prop} {d:aH} {N:Int} (hL:M.L.Ok) (hm:ff M m) (hu:0≤me∧me<M.L.th) (hN:0≤N) (ht:bM M.L t N) (hd:eR M.L me t d N) (hown:Own M me m d)
  (hme:qY M m (S me)) (ho:∀ v,0≤v→v<M.L.th→1≤stt M m v→stt M m v≤4→qY M m (S v)) (hk:∀ v,0≤v→v<M.L.th→1≤stt M m v→stt M m v≤4→(eA (ld M m (M.L.task v))).links=true→K v)
  (hdn:d.at_=6→rT (ld M m (M.L.desc me))→d.task.links=true∧pU M.L (S me)) (hf:fQ M m S K me d):
  fQ M (ak M me m t d).2.1 S K me (ak M me m t d).2.2.2:=by
 rcases(by have:=hd.at_;omega:d.at_=0∨d.at_=1∨d.at_=2∨d.at_=3∨d.at_=4∨d.at_=5∨d.at_=6∨d.at_=7∨d.at_=8∨d.at_=9) with a | a | a | a | a | a | a | a | a | a
 ·rw[iy a]
  simp only
  split
  ·unfold aH.looked
   split
   ·exact rW
   ·exact⟨fun _=>bB (by simp[aK.new]) (.inl (by simp[aK.new])),fun e=>by simp at e,fun e=>by simp at e⟩
  ·exact eI (.inl a)
 ·have hh:=hd.help (.inl a)
  have h1:=yj (me:=me) (t:=t) hL ht hh (ho _ hh.u.1 hh.u.2) (hk _ hh.u.1 hh.u.2) (hf.help (.inl a))
  have hu2:=(py M me m t d.help).1
  rw[fF a]
  simp only
  split
  ·exact rW
  ·rename_i hr
   exact⟨fun _=>by simp only;rw[hu2];exact h1 (by simpa using hr),fun e=>by simp only at e;omega,fun e=>by simp only at e;omega⟩
 ·have hx:=hf.a5 a
  have h1:=yi (me:=me) (t:=t) hL hme (hd.a5 a) hx.2
  rw[iz a]
  simp only
  split
  ·unfold aH.ensured
   split
   ·rename_i hsh
    exact dA (by simp[aH.leave]) ⟨fun _=>⟨rfl,hx.1,h1.2 hsh⟩⟩
   ·exact eI (by simp[aH.aU])
  ·rename_i hr
   exact⟨fun e=>by simp only at e;omega,fun _=>⟨hx.1,h1.1 (by simpa using hr)⟩,fun e=>by simp only at e;omega⟩
 ·have hc:=Ea hL hm hu hN ht (hd.fast a)
  rw[gq a]
  simp only
  split
  ·unfold aH.tried
   split
   ·exact rV ⟨fun h=>absurd hc h⟩
   ·exact eI (by simp)
  ·exact eI (.inr (.inl a))
 ·rw[gu a]
  simp only
  split
  ·exact⟨fun _=>bB (by simp[aK.new]) (.inl (by simp[aK.new])),fun e=>by simp at e,fun e=>by simp at e⟩
  ·exact eI (.inr (.inr (.inl a)))
 ·have hh:=hd.help (.inr a)
  have h1:=yj (me:=me) (t:=t) hL ht hh (ho _ hh.u.1 hh.u.2) (hk _ hh.u.1 hh.u.2) (hf.help (.inr a))
  have hu2:=(py M me m t d.help).1
  rw[fG a]
  simp only
  split
  ·exact eI (by simp)
  ·rename_i hr
   exact⟨fun _=>by simp only;rw[hu2];exact h1 (by simpa using hr),fun e=>by simp only at e;omega,fun e=>by simp only at e;omega⟩
 ·rw[gv a]
  refine rV ⟨fun h=> ?_⟩
  have h5:(getD' (ld M m (M.L.desc me))).status=5:=hown.done a
  unfold Ds.res at h⊢
  rw[if_pos h5] at h⊢
  split at h
  ·rename_i hn
   have:=hdn a ⟨h5,hn⟩
   rw[if_pos hn]
   exact⟨rfl,this⟩
  ·simp at h
 ·rw[fH a]
  split
  ·exact dA (by simp[aH.leave]) (hf.res (by omega))
  ·exact dA (by simp only;omega) (hf.res (by omega))
 ·rw[gw a]
  split
  ·exact dA (by simp) (hf.res (by omega))
  ·exact dA (by simp only;omega) (hf.res (by omega))
 ·rw[iA a]
  exact dA (by simp only;omega) (hf.res (by omega))
theorem fQ.stay {S S':Int→Int→Prop} {K K':Int→Prop} {d:aH} {N:Int} (hL:M.L.Ok) (hm:yv m) (hd:eR M.L me t d N) (hf:fQ M m S K me d) (hl:l6 M m m') (hol:pT M m m')
  (hag:∀ p,p∈d.bX me→age p.2≤age (ld M m (M.L.desc p.1))) (hme:(∀ n,S me n→S' me n)∧qY M m' (S' me)) (hq:∀ v,0≤v→v<M.L.th→stt M m v=1→(∀ n,S v n→S' v n)∧qY M m' (S' v)∧(K v→K' v)):fQ M m' S' K' me d:=by
 refine⟨fun a=> ?_,fun a=>⟨(hf.a5 a).1,(hf.a5 a).2.stay hL hm (hd.a5 a) hl hme.1 hme.2⟩,fun a=>⟨fun hc=> ?_⟩⟩
 ·have hh:=hd.help a
  refine(hf.help a).stay hL hm hh hl hol ?_ fun e hs=>hq _ hh.u.1 hh.u.2 (by unfold stt;rw[e];exact hs)
  by_cases h1:1≤d.help.at_
  ·exact .inl (hag (d.help.u,d.help.found) (by rw[gA a];exact fo h1))
  ·exact .inr (by have:=hh.at_;omega)
 ·have:=(hf.res a).res hc
  exact⟨this.1,this.2.1,fun n h1 h2=>hme.1 n (this.2.2 n h1 h2)⟩
theorem l6.refl (M:ML) (m:Mm):l6 M m m:=fun _ _ _=> .inl rfl
theorem pT.refl (M:ML) (m:Mm):pT M m m:=fun _ _ _=> .inl rfl
theorem rX {d:aH} (h9:0≤d.at_∧d.at_≤9) (h:(ak M me m t d).1=true):8≤d.at_∧7≤(ak M me m t d).2.2.2.at_:=by
 rcases(by omega:d.at_=0∨d.at_=1∨d.at_=2∨d.at_=3∨d.at_=4∨d.at_=5∨d.at_=6∨d.at_=7∨d.at_=8∨d.at_=9) with a | a | a | a | a | a | a | a | a | a
 ·rw[iy a] at h;simp at h
 ·rw[fF a] at h;simp at h
 ·rw[iz a] at h;simp at h
 ·rw[gq a] at h;simp at h
 ·rw[gu a] at h;simp at h
 ·rw[fG a] at h;simp at h
 ·rw[gv a] at h;simp at h
 ·rw[fH a] at h;split at h<;>simp at h
 ·rw[gw a]
  refine⟨by omega,?_⟩
  split<;>(simp only;omega)
 ·rw[iA a]
  exact⟨by omega,by simp only;omega⟩
theorem F8 {d:aH} (h9:0≤d.at_∧d.at_≤9) (h4:d.at_=4→0≤d.ann.at_∧d.ann.at_≤4) (h:(ak M me m t d).2.2.2.at_=5∨(ak M me m t d).2.2.2.at_=6):d.at_=5∨(d.at_=4∧d.ann.at_=4):=by
 have no:∀ {x:Int} {P:Prop},(x=5∨x=6)→(x<5∨6<x)→P:=fun a b=>by omega
 have ht:∀ (x:aH) (r:ku),6<(x.told M.L me r).at_:=fun x r=>by unfold aH.told;simp only;split<;>simp[aH.leave]
 have hw:∀ (x:aH) (t:cV),(x.want M.L me t).at_<5:=fun x t=>by unfold aH.want;split<;>simp[aH.aU]
 rcases(by omega:d.at_=0∨d.at_=1∨d.at_=2∨d.at_=3∨d.at_=4∨d.at_=5∨d.at_=6∨d.at_=7∨d.at_=8∨d.at_=9) with a | a | a | a | a | a | a | a | a | a
 ·rw[iy a] at h
  refine no h (.inl ?_)
  simp only
  split
  ·unfold aH.looked
   split
   ·exact hw _ _
   ·simp
  ·simp only;omega
 ·rw[fF a] at h
  refine no h (.inl ?_)
  simp only
  split
  ·exact hw _ _
  ·simp only;omega
 ·rw[iz a] at h
  refine no h ?_
  simp only
  split
  ·unfold aH.ensured
   split
   ·exact .inr (by simp[aH.leave])
   ·exact .inl (by simp[aH.aU])
  ·exact .inl (by simp only;omega)
 ·rw[gq a] at h
  refine no h ?_
  simp only
  split
  ·unfold aH.tried
   split
   ·exact .inr (ht _ _)
   ·exact .inl (by simp)
  ·exact .inl (by simp only;omega)
 ·by_cases h5:d.ann.at_=4
  ·exact .inr ⟨a,h5⟩
  ·have hr:=h4 a
   have e:(aW M me m d.ann).1=false:=by
    unfold aW
    rcases(by omega:d.ann.at_=0∨d.ann.at_=1∨d.ann.at_=2∨d.ann.at_=3) with b | b | b | b
    ·rw[if_pos b]
    ·rw[if_neg (by omega),if_pos b]
    ·rw[if_neg (by omega),if_neg (by omega),if_pos b]
    ·rw[if_neg (by omega),if_neg (by omega),if_neg (by omega),if_pos b]
   rw[gu a] at h
   refine no h (.inl ?_)
   simp only
   rw[if_neg (by rw[e];decide)]
   simp only;omega
 ·exact .inl a
 ·rw[gv a] at h
  exact no h (.inr (ht _ _))
 ·rw[fH a] at h
  refine no h (.inr ?_)
  split
  ·simp[aH.leave]
  ·simp only;omega
 ·rw[gw a] at h
  refine no h (.inr ?_)
  split<;>(simp only;omega)
 ·rw[iA a] at h
  exact no h (.inr (by simp only;omega))
def Lk (e:aZ) (v:Int):Prop:=∃ d,(e.ws v.toNat).now=some d∧d.task.links=true
structure jn (M:ML) (e:aZ) (S:Int→Int→Prop):Prop where
 age:np M e
 odd:∀ u:Nat,u<M.L.th.toNat→(e.ws u).now≠none→qY M e.m (S u)
 ops:∀ u:Nat,u<M.L.th.toNat→∀ d,(e.ws u).now=some d→fQ M e.m S (Lk e) u d
 KW:∀ u:Nat,u<M.L.th.toNat→∀ d,(e.ws u).now=some d→d.at_=5∨d.at_=6→rT (ld M e.m (M.L.desc u))→d.task.links=true∧pU M.L (S u)
theorem dG.waits {e:aZ} (ho:dG M e) {u:Nat} (hu:u<M.L.th.toNat) (h1:1≤stt M e.m u) (h4:stt M e.m u≤4):∃ d,(e.ws u).now=some d∧d.at_=5:=by
 have hw:=ho.ws u hu
 cases hn:(e.ws u).now with
 | none=>
  have:=hw.idle hn
  unfold Idle at this
  omega
 | some d=>
  obtain⟨hd,hown,-⟩:=hw.now d hn
  refine⟨d,rfl,?_⟩
  have hat:=hd.at_
  by_cases a:d.at_≤4∨7≤d.at_
  ·have:=hown.idle a
   unfold Idle at this
   omega
  ·by_cases b:d.at_=6
   ·have:=hown.done b
    omega
   ·omega
theorem jn.next {e:aZ} {S S':Int→Int→Prop} (h:jn M e S) (ho:dG M e) (hs:e.steps≤18000) {u:Nat} (hu:u<M.L.th.toNat) (hl:(e.ws u).left≠0) (hme:qY M e.m (S u))
  (hS:∀ v:Nat,v<M.L.th.toNat→v=u∨(e.ws v).now≠none→(∀ n,S v n→S' v n)∧qY M (e.next M u).m (S' v)):
  jn M (e.next M u) S'∧((e.did M u).1=true→kj M.L (S' u) (e.a7 M.L u).task (e.did M u).2.2.2.res):=by
 have hn:=ho.now hu hl
 have hw:=ho.ws u hu
 have hth:=ho.lay.th
 have hag:=h.age.next ho hs hu hl
 have ho2:=ho.next hu hl (by omega)
 have hws:∀ v,v≠u→(e.next M u).ws v=e.ws v:=fun v hv=>by simp only[aZ.next,fI,if_neg hv]
 have b7:(e.next M u).ws u=cy.stop ((e.ws u).with_ (e.a7 M.L u)) (e.did M u):=by simp only[aZ.next,fI,if_true]
 have hmm:(e.next M u).m=(e.did M u).2.1:=rfl
 have hlv:l6 M e.m (e.next M u).m:=ho2.2.life
 have hgo:mP M u e.m e.steps (e.did M u):=ya ho.lay ho.mem (by omega) (by omega) hw.st hn.ok hn.own
 have htk:(e.did M u).2.2.2.task=(e.a7 M.L u).task:=yg M u e.m (e.ws u).st (e.a7 M.L u)
 have vw:∀ d,(e.ws u).now=some d→e.a7 M.L u=d:=fun d hd=>by unfold aZ.a7;rw[hd];rfl
 have B3:∀ d',((e.next M u).ws u).now=some d'→(e.did M u).1=false∧d'=(e.did M u).2.2.2:=fun d' hd'=>by
  rw[b7] at hd'
  unfold cy.stop at hd'
  split at hd'
  ·simp at hd'
  ·rename_i hr
   simp only[Option.some.injEq] at hd'
   exact⟨by simpa using hr,hd'.symm⟩
 have hlk:∀ v:Nat,v<M.L.th.toNat→stt M e.m v=1∨stt M (e.next M u).m v=1→Lk e v→Lk (e.next M u) v:=fun v hv h1 ⟨d,hd,B4⟩=>by
  rw[Int.toNat_natCast] at hd
  unfold Lk
  rw[Int.toNat_natCast]
  by_cases hvu:v=u
  ·subst hvu
   have hr:(e.did M v).1=false:=by
    cases hr:(e.did M v).1 with
    | false=>rfl
    | true=>
     exfalso
     rcases h1 with h1 | h1
     ·obtain⟨d2,hd2,h5⟩:=ho.waits hv (by omega) (by omega)
      have:=(rX hn.ok.at_ hr).1
      rw[vw _ hd2] at this
      omega
     ·have:=hgo.fin hr
      rw[←hmm] at this
      unfold Idle at this
      omega
   refine⟨(e.did M v).2.2.2,?_,?_⟩
   ·rw[b7];unfold cy.stop;rw[if_neg (by rw[hr];decide)]
   ·rw[htk,vw _ hd];exact B4
  ·exact⟨d,by rw[hws v hvu];exact hd,B4⟩
 have KX:∀ v:Nat,v<M.L.th.toNat→stt M e.m v=1→(e.ws v).now≠none:=fun v hv h1=>by
  obtain⟨d,hd,-⟩:=ho.waits hv (by omega) (by omega)
  rw[hd];simp
 have Me:fQ M e.m S (Lk e) u (e.a7 M.L u):=by
  cases hnw:(e.ws u).now with
  | none=>
   have hd:e.a7 M.L u= .new M.L ((e.ws u).tasks.getD (e.ws u).ended .zero) e.tries:=by unfold aZ.a7;rw[hnw];rfl
   rw[hd]
   exact eI (.inl rfl)
  | some d=>rw[vw d hnw];exact h.ops u hu d hnw
 have hdn:(e.a7 M.L u).at_=5∨(e.a7 M.L u).at_=6→rT (ld M e.m (M.L.desc u))→(e.a7 M.L u).task.links=true∧pU M.L (S u):=fun a b=>by
  cases hnw:(e.ws u).now with
  | none=>
   have hd:e.a7 M.L u= .new M.L ((e.ws u).tasks.getD (e.ws u).ended .zero) e.tries:=by unfold aZ.a7;rw[hnw];rfl
   rw[hd] at a
   simp[aH.new] at a
  | some d=>rw[vw d hnw] at a⊢;exact h.KW u hu d hnw a b
 have hD2:fQ M (e.did M u).2.1 S (Lk e) u (e.did M u).2.2.2:=by
  refine Eb ho.lay ho.mem (by omega) (by omega) hw.st hn.ok hn.own hme (fun v h0 h1 h2 h3=> ?_) (fun v h0 h1 h2 h3 h4=> ?_) (fun a=>hdn (.inr a)) Me
  ·obtain⟨k,rfl⟩:∃ k:Nat,v=k:=⟨v.toNat,by omega⟩
   obtain⟨d,hd,-⟩:=ho.waits (u:=k) (by omega) h2 h3
   exact h.odd k (by omega) (by rw[hd];simp)
  ·obtain⟨k,rfl⟩:∃ k:Nat,v=k:=⟨v.toNat,by omega⟩
   obtain⟨d,hd,h5⟩:=ho.waits (u:=k) (by omega) h2 h3
   obtain⟨hdk,hok,-⟩:=(ho.ws k (by omega)).now d hd
   refine⟨d,by rw[Int.toNat_natCast];exact hd,?_⟩
   rw[(hok.owns h5).2.1,tX hdk.may] at h4
   exact h4
 have JK:=hS u hu (.inl rfl)
 refine⟨⟨hag.1,fun v hv Mf=> ?_,fun v hv d' hd'=> ?_,fun v hv d' hd' hat Ec=> ?_⟩,fun hr=> ?_⟩
 ·by_cases hvu:v=u
  ·subst hvu;exact JK.2
  ·rw[hws v hvu] at Mf
   exact(hS v hv (.inr Mf)).2
 ·have hq:∀ (mm:Mm),(mm=e.m∨mm=(e.next M u).m)→∀ w:Int,0≤w→w<M.L.th→stt M mm w=1→(∀ n,S w n→S' w n)∧qY M (e.next M u).m (S' w)∧(Lk e w→Lk (e.next M u) w):=fun mm IQ w h0 h1 h2=>by
   obtain⟨k,rfl⟩:∃ k:Nat,w=k:=⟨w.toNat,by omega⟩
   have hk1:k=u∨(e.ws k).now≠none:=by
    rcases IQ with rfl | rfl
    ·exact .inr (KX k (by omega) h2)
    ·by_cases Mg:k=u
     ·exact .inl Mg
     ·obtain⟨d,hd,-⟩:=ho2.1.waits (u:=k) (by omega) (by omega) (by omega)
      rw[hws k Mg] at hd
      exact .inr (by rw[hd];simp)
   have h3:=hS k (by omega) hk1
   exact⟨h3.1,h3.2,hlk k (by omega) (by rcases IQ with rfl | rfl;exact .inl h2;exact .inr h2)⟩
  have hok2:=((ho2.1.ws v hv).now d' hd').1
  by_cases hvu:v=u
  ·subst hvu
   obtain⟨hr,rfl⟩:=B3 d' hd'
   refine hD2.stay ho.lay ho2.1.mem.rng hok2 (l6.refl M _) (pT.refl M _) (fun p hp=>(hag.1.bX v hv _ hd' p hp).2.1) JK (hq _ (.inr rfl))
  ·have hd2:=hd'
   rw[hws v hvu] at hd2
   exact(h.ops v hv d' hd2).stay ho.lay ho.mem.rng ((ho.ws v hv).now d' hd2).1 hlv hag.2 (fun p hp=>(h.age.bX v hv _ hd2 p hp).2.1) (hS v hv (.inr (by rw[hd2];simp))) (hq _ (.inl rfl))
 ·have F9:(0:Int)≤(v:Int)∧(v:Int)<M.L.th:=by omega
  by_cases hch:ld M (e.next M u).m (M.L.desc v)=ld M e.m (M.L.desc v)
  ·rw[hch] at Ec
   by_cases hvu:v=u
   ·subst hvu
    obtain⟨hr,rfl⟩:=B3 d' hd'
    rcases F8 hn.ok.at_ (fun a=>(hn.ok.ann a).1) hat with a | ⟨a,b⟩
    ·have:=hdn (.inl a) Ec
     rw[htk]
     exact⟨this.1,fun n h1 h2=>JK.1 n (this.2 n h1 h2)⟩
    ·exfalso
     rw[←hch,hmm] at Ec
     unfold aZ.did at Ec
     rw[nX a b] at Ec
     have hnd:=ho.lay.nd
     rw[cD _ _ (by simp only[Ly.desc,Ly.size];omega)] at Ec
     have:=Ec.1
     rw[dH (hO _)] at this
     simp[Ds.cm] at this
   ·rw[hws v hvu] at hd'
    have:=h.KW v hv d' hd' hat Ec
    exact⟨this.1,fun n h1 h2=>(hS v hv (.inr (by rw[hd'];simp))).1 n (this.2 n h1 h2)⟩
  ·have ht:=B2 ho.lay ho.mem (by omega) (by omega) hw.st hn.ok hn.own F9 hch Ec
   have hx:=(Me.help ht.1).all ht.2.1 ht.2.2.1 (by rw[←ht.2.2.2.1];exact ht.2.2.2.2)
   rw[←ht.2.2.2.1] at hx
   obtain⟨⟨dv,hdv,B4⟩,hall⟩:=hx
   rw[Int.toNat_natCast] at hdv
   refine⟨?_,fun n h1 h2=>(hS v hv (.inr (by rw[hdv];simp))).1 n (hall n h1 h2)⟩
   by_cases hvu:v=u
   ·subst hvu
    obtain⟨hr,rfl⟩:=B3 d' hd'
    rw[htk,vw _ hdv];exact B4
   ·rw[hws v hvu,hdv] at hd'
    injection hd' with hd'
    subst hd';exact B4
 ·have h7:=(rX hn.ok.at_ hr).2
  refine⟨fun hc=> ?_⟩
  have:=(hD2.res h7).res hc
  exact⟨this.1,by rw[←htk];exact this.2.1,fun n h1 h2=>JK.1 n (this.2.2 n h1 h2)⟩
theorem jn.init {shape tries:Int} {ops:List (List Opn)} {S:Int→Int→Prop}:jn M (.init shape tries ops) S:=
 ⟨.init,fun u _ hn=>absurd (by simp[aZ.init,dy]) hn,fun u _ d hd=>by simp[aZ.init,dy] at hd,fun u _ d hd=>by simp[aZ.init,dy] at hd⟩
def aZ.turns (M:ML) (e:aZ) (u:Int):Nat→aZ
 | 0=>e
 | k+1=>(aZ.turns M e u k).pick M u
def B5:List (List Opn):=[[⟨4,5⟩],[⟨5,0⟩]]
abbrev tj:aZ:= .init 3 0 B5
def rY (M:ML) (e:aZ) (u:Int):Nat→Bool
 | 0=>true
 | k+1=>rY M e u k && ((aZ.turns M e u k).can M u && decide ((aZ.turns M e u k).dY M.L u=e.dY M.L u))
theorem vx {e:aZ} {u:Int}:∀ {k:Nat},rY M e u k=true→∀ i,i<k→(aZ.turns M e u i).can M u=true∧(aZ.turns M e u i).dY M.L u=e.dY M.L u
 | 0,_,i,hi=>absurd hi (by omega)
 | k+1,h,i,hi=>by
  unfold rY at h
  simp only[Bool.and_eq_true,decide_eq_true_eq] at h
  by_cases e2:i=k
  ·subst e2;exact h.2
  ·exact vx h.1 i (by omega)
abbrev mZ (b wb:Nat):ML:=⟨b,wb,⟨2,6⟩⟩
def qZ (M:ML):aZ:=aZ.turns M tj 0 10
def tl (M:ML):aZ:=aZ.turns M (qZ M) 1 14
theorem Ga (b wb:Nat):rY (mZ b wb) tj 0 10=true:=by kernel_rfl
theorem vy (b wb:Nat):(qZ (mZ b wb)).dY ⟨2,6⟩ 0=0∧tj.dY ⟨2,6⟩ 0=1:=⟨by kernel_rfl,by kernel_rfl⟩
theorem Gb (b wb:Nat):rY (mZ b wb) (qZ (mZ b wb)) 1 14=true:=by kernel_rfl
theorem vz (b wb:Nat):(tl (mZ b wb)).dY ⟨2,6⟩ 1=0∧(qZ (mZ b wb)).dY ⟨2,6⟩ 1=1:=⟨by kernel_rfl,by kernel_rfl⟩
theorem B6 (b wb:Nat):(tl (mZ b wb)).hist.calls=[⟨0,1,0,0,4,5,0,true,0⟩,⟨2,3,1,1,5,0,0,true,5⟩]:=by kernel_rfl
theorem l7 {e:aZ} (h:dG M e) (u:Int):∀ k,dG M (aZ.turns M e u k)
 | 0=>h
 | k+1=>((l7 h u k).pick u).1
variable {w:World} {C:Nat→Nat} {b:Nat}
theorem rZ {E:fP} {e:aZ} (h:dx w C b E e) (hok:dG E.M e) (u:Int) (k:Nat) (hk:rY E.M e u k=true) (hl:(aZ.turns E.M e u k).dY E.M.L u≠e.dY E.M.L u):
  Calls Tryz.prog 39 #[.pointer (some ⟨b,0,none⟩),.int .i64 u] w (zi C b E (.tuple #[]) (aZ.turns E.M e u k) w):=by
 have Mh:=fun W C' e' (h:dx W C' b E e')=>nj h u
 have Nh:=fun W C' (i:Nat) (h:dx W C' b E (aZ.turns E.M e u i))=>ni h u (by have:=(l7 hok u i).len;omega) (fun hc=>(l7 hok u i).fine hc)
 have HAT:=Lib.hid (vx hk)
 obtain⟨lf,hlf⟩:∃ lf,e.dY E.M.L u=lf:=⟨_,rfl⟩
 have Mi:=Mh w C e h
 rw[hlf] at Mi hl
 have yC:=Lib.hid hlf
 have HL:=Lib.hid hl
 clear hk hlf hl
 go_enter Tryz.func39,Tryz.ntmps39
 go_wp2_with fail
 refine Mi.mono ?_
 rintro r w1 ⟨rfl,hb1⟩
 go_wp2_with fail
 go_loopg [] (k+1) (fun g wr=>∃ (i:Nat) (C':Nat→Nat),(i+g=k+1∧i≤k)∧aB w.heap.size C C'∧dx wr C' b E (aZ.turns E.M e u i)∧iB E.B C w wr)
 case atStart=>exact⟨0,C,⟨by omega,by omega⟩,aB.refl _ _,h.step hb1,(iB.refl E.B C w).step hb1⟩
 case round=>
  obtain⟨i,C',⟨hig,hik⟩,hag,hE,hfr⟩:=hrel
  go_wp2_with fail
  refine(Mh wr C' _ hE).mono ?_
  rintro r w2 ⟨rfl,hb2⟩
  have hE2:=hE.step hb2
  have hfr2:=hfr.step hb2
  by_cases hlt:i<k
  ·obtain⟨hc,hle⟩:=HAT.out i hlt
   rw[yC.out] at hle
   rw[hle]
   clear hE hfr hb2
   go_wp2_with fail
   have HP:=Nh w2 C' i hE2
   rw[hc] at HP
   refine HP.mono ?_
   rintro r w3 ⟨rfl,⟨C3,rD,Ni⟩,hf3⟩
   have Fk:=hag.trans rD hfr2.size
   have hfr3:=hfr2.comp hf3 hag
   clear hE2 hf3 rD HP hfr2
   go_wp2_with fail
   go_roundg (k - i)
   case measure=>omega
   case rel=>exact⟨i+1,C3,⟨by omega,by omega⟩,Fk,Ni,hfr3⟩
  ·obtain rfl:i=k:=by omega
   have hne:=HL.out
   have NK:((aZ.turns E.M e u i).dY E.M.L u==lf)=false:=beq_false_of_ne hne
   clear hE hfr hb2
   go_wp2_with fail
   go_end0
   exact⟨rfl,⟨C',hag,hE2⟩,hfr2⟩
theorem B7:(Tryz.prog.info? 46).map (fun i=>(i.zero,i.size,i.bytes))=some (some (.agg #[.int .i64 0,.int .i64 0]),2,16):=by kernel_rfl
theorem tn:(Tryz.prog.info? 67).map (·.size)=some 3:=by kernel_rfl
theorem B8:(Tryz.prog.info? 52).map (fun i=>(i.zero,i.size,i.bytes))=some (some (.slice none 0 0),1,24):=by kernel_rfl
theorem zr (W:World):(Instr.makeSlice 22 (.int .i64 2) (.int .i64 2)).run Tryz.prog W= .ok (.slice (some ⟨W.heap.size,0,none⟩) 2 2) (W.alloc (.cells #[.slice none 0 0,.slice none 0 0] 52)):=by
 obtain⟨i0,hi,hz0,hz1,hz2⟩:=info_parts B8
 rw[run_make W 22 52 i0 _ Tryz.underlying22 hi hz0 .i64 .i64 2 2 (by omega) (Int.le_refl _) (by rw[hz2];decide) (by omega),hz1]
 rw[show madeCells (Value.slice none 0 0).cells (Int.toNat 2*1)= #[.slice none 0 0,.slice none 0 0] by kernel_rfl]
 rfl
abbrev ga:Array Value:= #[.int .i64 0,.int .i64 4,.int .i64 5,.int .i64 1,.int .i64 5,.int .i64 0]
abbrev l8:Array Value:= #[.int .i64 3,.int .i64 2,.int .i64 6,.int .i64 0]
structure Got (w:World) (ob:Nat) (v:Value) (k x:Int):Prop where
 ex:∃ g c cur,v= .slice (some ⟨g,0,none⟩) 1 c∧g≠ob∧a8 w g 46 cur∧cur[0]? =some (.int .i64 k)∧cur[1]? =some (.int .i64 x)
variable {w':World}
theorem Got.step {ob:Nat} {v:Value} {k x:Int} (h:Got w ob v k x) (hb:Below w.heap.size w w'):Got w' ob v k x:=by
 obtain⟨g,c,cur,h1,h2,h3,h4⟩:=h.ex
 exact⟨g,c,cur,h1,h2,h3.step hb,h4⟩
theorem Got.set {ob:Nat} {v:Value} {k x:Int} (h:Got w ob v k x) (i:Nat) (u:Value):Got (w.setCell ⟨ob,i,none⟩ u) ob v k x:=by
 obtain⟨g,c,cur,h1,h2,h3,h4⟩:=h.ex
 exact⟨g,c,cur,h1,h2,h3.far h2 _,h4⟩
theorem Got.cB {base ob g0 cap:Nat} {k x:Int} (h:w.ownsRow base 46 2 (.slice (some ⟨g0,0,none⟩) 1 cap) 1 [.int .i64 k,.int .i64 x]) (hb:ob<base):Got w ob (.slice (some ⟨g0,0,none⟩) 1 cap) k x:=by
 rcases h.2 with ⟨h0,h1⟩ | ⟨g,c,cur,hv,hbg,hg,hnc,hcm,hcs,htake⟩
 ·cases h1
 ·have e1:cur.toList[0]? =some (.int .i64 k):=by
   have:=congrArg (fun l=>l[0]?) htake
   simpa [List.getElem?_take] using this
  have e2:cur.toList[1]? =some (.int .i64 x):=by
   have:=congrArg (fun l=>l[1]?) htake
   simpa [List.getElem?_take] using this
  exact⟨g,c,cur,hv,by omega,hg,by simpa using e1,by simpa using e2⟩
theorem Got.sl {ob:Nat} {v:Value} {k x:Int} (h:Got w ob v k x):∃ A c,v= .slice A 1 c∧Sl w w.heap.size 2 A 1 [.int .i64 k,.int .i64 x]:=by
 obtain⟨g,c,cur,rfl,h2,h3,h4,h5⟩:=h.ex
 refine⟨_,_,rfl,rfl,fun _=>rfl,fun _=>h3.lt,fun j hj=> ?_⟩
 rw[show bt (some (⟨g,0,none⟩:Addr))=g from rfl,show bY (some (⟨g,0,none⟩:Addr))=0 from rfl,Nat.zero_add,h3.cell]
 match j,hj with
 | 0,_=>rw[h4];rfl
 | 1,_=>rw[h5];rfl
structure IS (w0:World) (cb ob:Nat) (k:Nat) (wr:World):Prop where
 bel:Below w0.heap.size w0 wr
 cfg:a8 wr cb 65 l8
 ex:∃ v0 v1,a8 wr ob 52 #[v0,v1]∧(if k=0 then v0= .slice none 0 0 else Got wr ob v0 4 5)∧(if k≤1 then v1= .slice none 0 0 else Got wr ob v1 5 0)
 ob:w0.heap.size≤ob∧cb≠ob
theorem nY:vi 3 0 ⟨2,6⟩:=⟨by omega,by omega,⟨by simp,by simp⟩⟩
structure KY (w:World) (e:Ending) (w':World):Prop where
 ex:∃ b E C',e= .returned (.tuple #[.pointer (some ⟨b,0,none⟩),.int .i64 0])∧E.M.L=⟨2,6⟩∧w.heap.size≤E.B∧(∀ g,g<w.heap.size→C' g=0)∧dx w' C' b E tj
 bel:Below w.heap.size w w'
theorem xy (w:World) (tb:Nat) (ht:a8 w tb 67 ga):Calls Tryz.prog 38 #[.agg l8,.slice (some ⟨tb,0,none⟩) 2 2] w (KY w):=by
 have HN:=fun (A:Option Addr) (n cap B:Nat) (ops:List (List Opn)) (W:World) (hs:dF W B A n ops) (hB:B≤W.heap.size) (xw:∀ l∈ops,l.length≤40) (hn:(n:Int)≤2) (hmay:∀ l∈ops,l.all (may 3)=true)=>pS 3 0 ⟨2,6⟩ nY A n cap B ops W hs hB xw hn hmay (fun _=>0) (fun _ _=>rfl)
 have hmk:=zr
 obtain⟨iO,JI,zO,sO,bO⟩:=info_parts B7
 have hb1:Below w.heap.size w (w.alloc (.cells l8 65)):=(Below.refl _ _).alloc (Nat.le_refl _) _
 have hcb:=a8.new w 65 l8
 have hc:=hcb.cells
 obtain⟨cb,Ed⟩:∃ cb,w.heap.size=cb:=⟨_,rfl⟩
 have HC:=Lib.hid Ed
 simp only[Ed] at hcb hc hb1
 go_enter Tryz.func38,Tryz.ntmps38
 go_wp2_with fail
 try simp only[Ed]
 clear Ed
 generalize(w.alloc (.cells l8 65))=w1 at *
 refine(HN none 0 0 0 [] w1 ⟨rfl,[],Sl.nil_ _ _ _,fun i l hl=>by simp at hl⟩ (Nat.zero_le _) (by simp) (by omega) (by simp)).mono ?_
 rintro r w2 ⟨⟨b0,E0,C0,rfl,-,-,-,-⟩,hb2⟩
 replace hcb:=hcb.step hb2
 replace hb1:=hb1.trans (hb2.mono (by have:=HC.out;have:=hb1.size;omega))
 clear hb2 hc
 have hc:=hcb.cells
 go_wp2_with fail
 have hob:=a8.new w2 52 #[.slice none 0 0,.slice none 0 0]
 have hal:Below w2.heap.size w2 (w2.alloc (.cells #[.slice none 0 0,.slice none 0 0] 52)):=(Below.refl _ _).alloc (Nat.le_refl _) _
 have hlt:=hcb.lt
 replace hcb:=hcb.step hal
 have hsz:cb≤w2.heap.size:=by have:=HC.out;have:=hb1.size;omega
 replace hb1:=hb1.trans (hal.mono hsz)
 clear hc
 generalize(w2.alloc (.cells #[.slice none 0 0,.slice none 0 0] 52))=w3 at *
 obtain⟨ob,B9⟩:∃ ob,w2.heap.size=ob:=⟨_,rfl⟩
 simp only[B9] at *
 have hI0:IS w cb ob 0 w3:=⟨by rw[HC.out];exact hb1,hcb,⟨_,_,hob,rfl,rfl⟩,by rw[HC.out];exact hsz,by omega⟩
 clear hal hlt hcb hsz hb1 hob B9
 go_loopw [24] (fun i wr=>∃ k:Nat,k≤2∧i= .int .i64 k∧IS w cb ob k wr) (fun i _=>2 - (intOf i).toNat)
 case atStart=>exact⟨0,by omega,rfl,hI0⟩
 case round=>
  clear hI0
  obtain⟨k,hk,rfl,hI⟩:=hrel
  obtain⟨hbel,hcb,⟨v0,v1,hob,hv0,hv1⟩,IT,hne⟩:=hI
  have htb:=ht.step hbel
  have htc:=htb.cells
  have hcc:=hcb.cells
  have hlt:=hcb.lt
  by_cases hlt2:k<2
  ·rcases Nat.lt_or_ge k 1 with h01 | h01
   ·obtain rfl:k=0:=by omega
    have dk:decide (((0:Nat):Int)<2)=true:=decide_eq_true (by omega)
    rw [if_pos (by omega)] at hv0 hv1
    subst hv0
    have hix:=(show Sl wr wr.heap.size 3 (some ⟨tb,0,none⟩) 2 ga.toList from ⟨rfl,fun _=>rfl,fun _=>htb.lt,fun j hj=>by rw[show bt (some (⟨tb,0,none⟩:Addr))=tb from rfl,show bY (some (⟨tb,0,none⟩:Addr))=0 from rfl,Nat.zero_add,htb.cell];simp⟩).idx (P:=Tryz.prog) (c:=2) Tryz.underlying102 tn (k:=0) (by omega)
    go_wp2_with fail
    have htx:=a8.new wr 67 #[.int .i64 0,.int .i64 4,.int .i64 5]
    have hal:Below wr.heap.size wr (wr.alloc (.cells #[.int .i64 0,.int .i64 4,.int .i64 5] 67)):=(Below.refl _ _).alloc (Nat.le_refl _) _
    replace hbel:=hbel.trans (hal.mono hbel.size)
    replace hob:=hob.step hal
    replace hcb:=hcb.step hal
    skip
    clear hal htb htc hcc
    have htc:=htx.cells
    have hcc:=hcb.cells
    have hoc:=hob.cells
    go_wp2_with fail
    generalize(wr.alloc (.cells #[.int .i64 0,.int .i64 4,.int .i64 5] 67))=w4 at *
    obtain⟨xb,hxb⟩:∃ xb,wr.heap.size=xb:=⟨_,rfl⟩
    simp only[hxb] at htx htc⊢
    clear hxb htc hcc hoc
    have q1:=Later.cells (B:=w4.heap.size) htx htx.lt
    have q2:=Later.cells (B:=w4.heap.size) hob hob.lt
    refine az (fun w'=>∃ q:Later w4.heap.size w4,w'=q.val) 13 [([0,1,2,3,4,5,6,7,8,9],10),([],11)] [12] [13] (by kernel_rfl) (by kernel_rfl) (Later.bI (Below.refl _ _).drew) ?_
    refine ai ?_
    simp only[au,List.map_cons,List.map_nil,List.getD_cons_zero,List.getD_cons_succ]
    repeat(go_big_quiet_step (fail))
    refine wpQuiet_nil ?_
    refine bm rfl (fun K' hK'=> ?_)
    go_simp
    have hal:Below w4.heap.size w4 (w4.alloc (.cells #[.int .i64 4,.int .i64 5] 46)).drew:=((Below.refl _ _).alloc (Nat.le_refl _) _).drew
    refine hK' _ _ (Later.bI hal) ?_
    clear hK' K'
    refine ai ?_
    simp only[au,List.map_nil]
    refine wpQuiet_nil ?_
    refine bm rfl (fun K' hK'=> ?_)
    have hnb:=a8.new w4 46 #[.int .i64 4,.int .i64 5]
    have hs4:=hal.size
    refine wp_append_lies _ _ _ _ rfl w4.heap.size 46 iO _ 2 16 Tryz.underlying52 JI zO sO bO rfl (by omega) (.slice none 0 0) 0 [] rfl ⟨rfl,.inl ⟨rfl,rfl⟩⟩ ⟨w4.heap.size,0,none⟩ 1 1 [.int .i64 4,.int .i64 5] rfl rfl (World.news_of_block (w:=(w4.alloc (.cells #[.int .i64 4,.int .i64 5] 46)).drew) hnb) (fun u hu=>by simp at hu;rcases hu with rfl | rfl<;>rfl) (by omega) (by decide) (by omega) hs4 _ rfl ?_
    intro g9 B1 w6 hown hgrow _ KZ
    have hb6:Below w4.heap.size w4 w6:=hal.trans (((Below.refl _ _).grown hgrow hs4 (fun k e=>by cases e)).mono (Nat.le_refl _))
    go_simp
    refine hK' _ _ (Later.bI hb6) ?_
    clear hK' K'
    refine af ?_
    try simp only[au,List.map_cons,List.map_nil,List.getD_cons_zero,List.getD_cons_succ]
    repeat(go_big_quiet_step (fail))
    refine wpQuiet_nil ?_
    refine ae _ _ _ (by kernel_rfl) ?_
    try simp only[au,List.map_cons,List.map_nil,List.getD_cons_zero,List.getD_cons_succ]
    clear q1 q2
    have hg:=Got.cB (ob:=ob) hown hob.lt
    have hbl:=hbel.trans (hb6.mono hbel.size)
    replace hob:=hob.step hb6
    replace hcb:=hcb.step hb6
    skip
    have hoc:=hob.cells
    have hof:=hob.frees
    clear hb6 hal hgrow hnb hown
    go_wp2_with fail
    refine NoPanic.normal ?_
    go_wp2_with fail
    go_roundw
    case rel=>exact⟨1,by omega,by go_num,hbl.trans ((Below.refl _ _).setCell (by omega) _),hcb.far hne _,⟨_,_,hob.ao 0 _,hg.set _ _,hv1⟩,IT,hne⟩
    case measure=>simp[intOf]
   ·obtain rfl:k=1:=by omega
    have dk:decide (((1:Nat):Int)<2)=true:=decide_eq_true (by omega)
    rw [if_neg (by omega)] at hv0; rw [if_pos (by omega)] at hv1
    subst hv1
    have hix:=(show Sl wr wr.heap.size 3 (some ⟨tb,0,none⟩) 2 ga.toList from ⟨rfl,fun _=>rfl,fun _=>htb.lt,fun j hj=>by rw[show bt (some (⟨tb,0,none⟩:Addr))=tb from rfl,show bY (some (⟨tb,0,none⟩:Addr))=0 from rfl,Nat.zero_add,htb.cell];simp⟩).idx (P:=Tryz.prog) (c:=2) Tryz.underlying102 tn (k:=1) (by omega)
    go_wp2_with fail
    have htx:=a8.new wr 67 #[.int .i64 1,.int .i64 5,.int .i64 0]
    have hal:Below wr.heap.size wr (wr.alloc (.cells #[.int .i64 1,.int .i64 5,.int .i64 0] 67)):=(Below.refl _ _).alloc (Nat.le_refl _) _
    replace hbel:=hbel.trans (hal.mono hbel.size)
    replace hob:=hob.step hal
    replace hcb:=hcb.step hal
    replace hv0:=Got.step hv0 hal
    clear hal htb htc hcc
    have htc:=htx.cells
    have hcc:=hcb.cells
    have hoc:=hob.cells
    go_wp2_with fail
    generalize(wr.alloc (.cells #[.int .i64 1,.int .i64 5,.int .i64 0] 67))=w4 at *
    obtain⟨xb,hxb⟩:∃ xb,wr.heap.size=xb:=⟨_,rfl⟩
    simp only[hxb] at htx htc⊢
    clear hxb htc hcc hoc
    have q1:=Later.cells (B:=w4.heap.size) htx htx.lt
    have q2:=Later.cells (B:=w4.heap.size) hob hob.lt
    refine az (fun w'=>∃ q:Later w4.heap.size w4,w'=q.val) 13 [([0,1,2,3,4,5,6,7,8,9],10),([],11)] [12] [13] (by kernel_rfl) (by kernel_rfl) (Later.bI (Below.refl _ _).drew) ?_
    refine ai ?_
    simp only[au,List.map_cons,List.map_nil,List.getD_cons_zero,List.getD_cons_succ]
    repeat(go_big_quiet_step (fail))
    refine wpQuiet_nil ?_
    refine bm rfl (fun K' hK'=> ?_)
    go_simp
    have hal:Below w4.heap.size w4 (w4.alloc (.cells #[.int .i64 5,.int .i64 0] 46)).drew:=((Below.refl _ _).alloc (Nat.le_refl _) _).drew
    refine hK' _ _ (Later.bI hal) ?_
    clear hK' K'
    refine ai ?_
    simp only[au,List.map_nil]
    refine wpQuiet_nil ?_
    refine bm rfl (fun K' hK'=> ?_)
    have hnb:=a8.new w4 46 #[.int .i64 5,.int .i64 0]
    have hs4:=hal.size
    refine wp_append_lies _ _ _ _ rfl w4.heap.size 46 iO _ 2 16 Tryz.underlying52 JI zO sO bO rfl (by omega) (.slice none 0 0) 0 [] rfl ⟨rfl,.inl ⟨rfl,rfl⟩⟩ ⟨w4.heap.size,0,none⟩ 1 1 [.int .i64 5,.int .i64 0] rfl rfl (World.news_of_block (w:=(w4.alloc (.cells #[.int .i64 5,.int .i64 0] 46)).drew) hnb) (fun u hu=>by simp at hu;rcases hu with rfl | rfl<;>rfl) (by omega) (by decide) (by omega) hs4 _ rfl ?_
    intro g9 B1 w6 hown hgrow _ KZ
    have hb6:Below w4.heap.size w4 w6:=hal.trans (((Below.refl _ _).grown hgrow hs4 (fun k e=>by cases e)).mono (Nat.le_refl _))
    go_simp
    refine hK' _ _ (Later.bI hb6) ?_
    clear hK' K'
    refine af ?_
    try simp only[au,List.map_cons,List.map_nil,List.getD_cons_zero,List.getD_cons_succ]
    repeat(go_big_quiet_step (fail))
    refine wpQuiet_nil ?_
    refine ae _ _ _ (by kernel_rfl) ?_
    try simp only[au,List.map_cons,List.map_nil,List.getD_cons_zero,List.getD_cons_succ]
    clear q1 q2
    have hg:=Got.cB (ob:=ob) hown hob.lt
    have hbl:=hbel.trans (hb6.mono hbel.size)
    replace hob:=hob.step hb6
    replace hcb:=hcb.step hb6
    replace hv0:=hv0.step hb6
    have hoc:=hob.cells
    have hof:=hob.frees
    clear hb6 hal hgrow hnb hown
    go_wp2_with fail
    refine NoPanic.normal ?_
    go_wp2_with fail
    go_roundw
    case rel=>exact⟨2,by omega,by go_num,hbl.trans ((Below.refl _ _).setCell (by omega) _),hcb.far hne _,⟨_,_,hob.ao 1 _,hv0.set _ _,hg.set _ _⟩,IT,hne⟩
    case measure=>simp[intOf]
  ·have dk:decide ((k:Int)<2)=false:=decide_eq_false (by omega)
   obtain rfl:k=2:=by omega
   rw [if_neg (by omega)] at hv0 hv1
   obtain⟨A0,c0,rfl,s0⟩:=hv0.sl
   obtain⟨A1,c1,rfl,s1⟩:=hv1.sl
   have hops:dF wr wr.heap.size (some ⟨ob,0,none⟩) 2 B5:=by
    refine⟨rfl,[.slice A0 1 c0,.slice A1 1 c1],⟨rfl,fun _=>rfl,fun _=>hob.lt,fun j hj=>by rw[show bt (some (⟨ob,0,none⟩:Addr))=ob from rfl,show bY (some (⟨ob,0,none⟩:Addr))=0 from rfl,Nat.zero_add,hob.cell];simp⟩,fun i l hl=> ?_⟩
    match i,hl with
    | 0,hl=>cases hl;exact⟨A0,1,c0,rfl,s0,rfl⟩
    | 1,hl=>cases hl;exact⟨A1,1,c1,rfl,s1,rfl⟩
   clear hv0 hv1 s0 s1 htb htc
   go_wp2_with fail
   refine(HN _ 2 2 wr.heap.size B5 wr hops (Nat.le_refl _) (by decide) (by decide) (by decide)).mono ?_
   rintro r w5 ⟨⟨b1,E1,C1,rfl,hL,hEB,hag,hE⟩,hb5⟩
   go_wp2_with fail
   go_ret2
   exact⟨⟨b1,E1,C1,rfl,hL,by rw[hEB];exact hbel.size,fun g hg=>hag g (by have:=hbel.size;omega),hE⟩,hbel.trans (hb5.mono hbel.size)⟩
end Go.Proofs.YtbcnnhlpilmmbaaGreat
