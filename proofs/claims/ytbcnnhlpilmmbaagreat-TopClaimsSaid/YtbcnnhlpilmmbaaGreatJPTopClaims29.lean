/- Texts that are wanted for PTopClaims.
   Conditions: none. -/
import Derived.Test.YtbcnnhlpilmmbaaGreatJPTopClaims26
import Derived.Test.YtbcnnhlpilmmbaaGreatJPTopClaims28
set_option maxRecDepth 100000
set_option maxHeartbeats 6400000
namespace Go.Proofs.YtbcnnhlpilmmbaaGreat
open Go Go.RowKit
structure St (M:ML) (sh u:Int) (m m':Mm) (P P':Gh):Prop where
 up:∀ a,1≤a→a≤M.L.nd+4→ld M m' a=ld M m a∨rk (ld M m a)<rk (ld M m' a)
 ver:∀ a,1≤a→a≤M.L.nd+4→(wd M m' a).ver≤(wd M m a).ver+1
 lk:∀ n,P n= .linked→P' n= .linked∨(P' n= .out u 0∧(sh≠4→(wd M m n).mark=true))
 Fx:∀ n v,1≤n→n≤M.L.nd→v≠u→P n= .spare v→P' n= .spare v∧ld M m' n=ld M m n
 Ks:∀ n v,v≠u→P n= .give v→P' n= .give v
 out:∀ n t k,P n= .out t k→P' n= .out t k∨(t=u∧((∃ k',P' n= .out u k'∧(k'≤k∨(k'=k+1∧ld M m (M.L.slot 0 k)≠n)))∨(P' n= .free∧2*M.L.th≤k)))
 slot:∀ v i,0≤v→v<M.L.th→0≤i→i≤1→v≠u→ld M m' (M.L.slot v i)=ld M m (M.L.slot v i)
 LU:sh=4→∀ n,1≤n→n≤M.L.nd→P n= .linked→ld M m' n=ld M m n
 LV:∀ n,1≤n→n≤M.L.nd→P n= .linked→(wd M m n).mark=true→(wd M m n).claim=0→ld M m' n=ld M m n
 task:∀ w,0≤w→w<M.L.th→1≤stt M m w→stt M m w≤4→ld M m' (M.L.task w)=ld M m (M.L.task w)
 LW:∀ w,0≤w→w<M.L.th→(aX M m w).status=3→ld M m' (M.L.desc w)≠ld M m (M.L.desc w)→2*(aX M m w).ver+2≤rk (ld M m' (aX M m w).addr)
def Goes (M:ML) (sh u:Int) (m:Mm) (P:Gh) (n:Int) (p:Pl):Prop:=
 P n= .free∨P n= .spare u∨(∃ w,P n= .prop w)∨P n= .give u∨(P n= .linked∧p= .out u 0∧(sh≠4→(wd M m n).mark=true))∨(∃ k,P n= .out u k∧2*M.L.th≤k∧p= .free)
def uf (M:ML) (sh u:Int) (m:Mm) (P P':Gh):Prop:=P'=P∨∃ n p,P'=P.put n p∧Goes M sh u m P n p
section
variable {M:ML} {sh u:Int} {m m':Mm} {P P':Gh}
theorem uf.lk (h:uf M sh u m P P') (n:Int) (hn:P n= .linked):P' n= .linked∨(P' n= .out u 0∧(sh≠4→(wd M m n).mark=true)):=by
 rcases h with rfl | ⟨k,p,rfl,hg⟩
 ·exact .inl hn
 ·by_cases e:n=k
  ·subst e
   rw[Gh.bF]
   rcases hg with h | h | ⟨w,h⟩ | h | ⟨-,h1,h2⟩ | ⟨k,h,-,-⟩
   ·rw[hn] at h;cases h
   ·rw[hn] at h;cases h
   ·rw[hn] at h;cases h
   ·rw[hn] at h;cases h
   ·exact .inr ⟨h1,h2⟩
   ·rw[hn] at h;cases h
  ·rw[Gh.aE _ _ e];exact .inl hn
theorem uf.Fx (h:uf M sh u m P P') (n v:Int) (hv:v≠u) (hn:P n= .spare v):P' n= .spare v:=by
 rcases h with rfl | ⟨k,p,rfl,hg⟩
 ·exact hn
 ·by_cases e:n=k
  ·subst e
   exfalso
   rcases hg with h | h | ⟨w,h⟩ | h | ⟨h,h1,h2⟩ | ⟨k,h,-,-⟩<;>rw[hn] at h
   ·cases h
   ·injection h with h;exact hv h
   ·cases h
   ·cases h
   ·cases h
   ·cases h
  ·rw[Gh.aE _ _ e];exact hn
theorem uf.Ks (h:uf M sh u m P P') (n v:Int) (hv:v≠u) (hn:P n= .give v):P' n= .give v:=by
 rcases h with rfl | ⟨k,p,rfl,hg⟩
 ·exact hn
 ·by_cases e:n=k
  ·subst e
   exfalso
   rcases hg with h | h | ⟨w,h⟩ | h | ⟨h,h1,h2⟩ | ⟨k,h,-,-⟩<;>rw[hn] at h
   ·cases h
   ·cases h
   ·cases h
   ·injection h with h;exact hv h
   ·cases h
   ·cases h
  ·rw[Gh.aE _ _ e];exact hn
theorem uf.out (h:uf M sh u m P P') (n t k:Int) (hn:P n= .out t k):P' n= .out t k∨(t=u∧((∃ k',P' n= .out u k'∧(k'≤k∨(k'=k+1∧ld M m (M.L.slot 0 k)≠n)))∨(P' n= .free∧2*M.L.th≤k))):=by
 rcases h with rfl | ⟨j,p,rfl,hg⟩
 ·exact .inl hn
 ·by_cases e:n=j
  ·subst e
   right
   rw[Gh.bF]
   rcases hg with h | h | ⟨w,h⟩ | h | ⟨h,h1,h2⟩ | ⟨j,h,h3,h4⟩<;>rw[hn] at h
   ·cases h
   ·cases h
   ·cases h
   ·cases h
   ·cases h
   ·injection h with h5 h6
    subst h5 h6
    exact⟨rfl,.inr ⟨h4,h3⟩⟩
  ·rw[Gh.aE _ _ e];exact .inl hn
theorem uf.refl (M:ML) (sh u:Int) (m:Mm) (P:Gh):uf M sh u m P P:= .inl rfl
theorem uf.put (n:Int) (p:Pl) (h:Goes M sh u m P n p):uf M sh u m P (P.put n p):= .inr ⟨n,p,rfl,h⟩
theorem St.word {a:Int} (hg:uf M sh u m P P')
  (hw:∀ b,1≤b→b≤M.L.nd+4→b≠a→ld M m' b=ld M m b)
  (hr:rk (ld M m a)<rk (ld M m' a)) (hv:(wd M m' a).ver≤(wd M m a).ver+1)
  (hd:∀ w,0≤w→w<M.L.th→ld M m' (M.L.desc w)=ld M m (M.L.desc w))
  (ht:∀ w,0≤w→w<M.L.th→ld M m' (M.L.task w)=ld M m (M.L.task w))
  (hs:∀ v i,0≤v→v<M.L.th→0≤i→i≤1→ld M m' (M.L.slot v i)=ld M m (M.L.slot v i))
  (has:a≤M.L.nd→∀ v,v≠u→P a≠.spare v) (uj:sh=4→a≤M.L.nd→P a≠.linked) (ham:a≤M.L.nd→P a= .linked→(wd M m a).mark=true→(wd M m a).claim=0→False):St M sh u m m' P P':=by
 refine⟨fun b h1 h2=> ?_,fun b h1 h2=> ?_,hg.lk,fun n v h1 h2 hne hn=>⟨hg.Fx n v hne hn,?_⟩,hg.Ks,hg.out,fun v i h1 h2 h3 h4 _=>hs v i h1 h2 h3 h4,fun h n h1 h2 hn=> ?_,fun n h1 h2 hn hm hc=> ?_,fun w h1 h2 _ _=>ht w h1 h2,fun w h1 h2 _ h4=>absurd (hd w h1 h2) h4⟩
 ·by_cases e:b=a
  ·subst e;exact .inr hr
  ·exact .inl (hw b h1 h2 e)
 ·by_cases e:b=a
  ·subst e;exact hv
  ·unfold wd;rw[hw b h1 h2 e];omega
 ·refine hw n h1 (by omega) fun e=> ?_
  subst e;exact has h2 v hne hn
 ·refine hw n h1 (by omega) fun e=> ?_
  subst e;exact uj h h2 hn
 ·refine hw n h1 (by omega) fun e=> ?_
  subst e;exact ham h2 hn hm hc
theorem St.still (hg:uf M sh u m P P')
  (hw:∀ b,1≤b→b≤M.L.nd+4→ld M m' b=ld M m b)
  (hs:∀ v i,0≤v→v<M.L.th→0≤i→i≤1→v≠u→ld M m' (M.L.slot v i)=ld M m (M.L.slot v i))
  (ht:∀ w,0≤w→w<M.L.th→1≤stt M m w→stt M m w≤4→ld M m' (M.L.task w)=ld M m (M.L.task w))
  (hd:∀ w,0≤w→w<M.L.th→(aX M m w).status=3→ld M m' (M.L.desc w)≠ld M m (M.L.desc w)→2*(aX M m w).ver+2≤rk (ld M m' (aX M m w).addr)):St M sh u m m' P P':=
 ⟨fun b h1 h2=> .inl (hw b h1 h2),fun b h1 h2=>by unfold wd;rw[hw b h1 h2];omega,hg.lk,fun n v h1 h2 hne hn=>⟨hg.Fx n v hne hn,hw n h1 (by omega)⟩,hg.Ks,hg.out,hs,fun _ n h1 h2 _=>hw n h1 (by omega),fun n h1 h2 _ _ _=>hw n h1 (by omega),ht,hd⟩
theorem St.refl (M:ML) (sh u:Int) (m:Mm) (P:Gh):St M sh u m m P P:= .still (.refl ..) (fun _ _ _=>rfl) (fun _ _ _ _ _ _ _=>rfl) (fun _ _ _ _ _=>rfl) (fun _ _ _ _ h=>absurd rfl h)
theorem fX (hL:M.L.Ok) {a x:Int} (ha:1≤a∧a≤M.L.nd+4):
  (∀ w,0≤w→w<M.L.th→ld M (st M m a x) (M.L.desc w)=ld M m (M.L.desc w))∧(∀ w,0≤w→w<M.L.th→ld M (st M m a x) (M.L.task w)=ld M m (M.L.task w))∧
  (∀ v i,0≤v→v<M.L.th→0≤i→i≤1→ld M (st M m a x) (M.L.slot v i)=ld M m (M.L.slot v i))∧(∀ n,1≤n→n≤M.L.nd→ld M (st M m a x) (M.L.life n)=ld M m (M.L.life n))∧
  (∀ b,1≤b→b≤M.L.nd+4→b≠a→ld M (st M m a x) b=ld M m b)∧ld M (st M m a x) a=x:=by
 have h1:=hL.th;have h2:=hL.nd
 refine⟨fun w _ _=>ak _ _ ?_,fun w _ _=>ak _ _ ?_,fun v i _ _ _ _=>ak _ _ ?_,fun n _ _=>ak _ _ ?_,fun b _ _ h=>ak _ _ (Ne.symm h),cL _ _ (by simp only[Ly.size];omega)⟩
 ·simp only[Ly.desc];omega
 ·simp only[Ly.task];omega
 ·simp only[Ly.slot];omega
 ·simp only[Ly.life];omega
theorem iU (hL:M.L.Ok) {u x:Int} (hu:0≤u∧u<M.L.th):
  (∀ w,0≤w→w<M.L.th→w≠u→ld M (st M m (M.L.desc u) x) (M.L.desc w)=ld M m (M.L.desc w))∧(∀ w,0≤w→w<M.L.th→ld M (st M m (M.L.desc u) x) (M.L.task w)=ld M m (M.L.task w))∧
  (∀ v i,0≤v→v<M.L.th→0≤i→i≤1→ld M (st M m (M.L.desc u) x) (M.L.slot v i)=ld M m (M.L.slot v i))∧(∀ n,1≤n→n≤M.L.nd→ld M (st M m (M.L.desc u) x) (M.L.life n)=ld M m (M.L.life n))∧
  (∀ b,1≤b→b≤M.L.nd+4→ld M (st M m (M.L.desc u) x) b=ld M m b)∧ld M (st M m (M.L.desc u) x) (M.L.desc u)=x:=by
 have h1:=hL.th;have h2:=hL.nd
 refine⟨fun w _ _ _=>ak _ _ ?_,fun w _ _=>ak _ _ ?_,fun v i _ _ _ _=>ak _ _ ?_,fun n _ _=>ak _ _ ?_,fun b _ _=>ak _ _ ?_,cL _ _ (by simp only[Ly.size,Ly.desc];omega)⟩
 ·simp only[Ly.desc];omega
 ·simp only[Ly.task,Ly.desc];omega
 ·simp only[Ly.slot,Ly.desc];omega
 ·simp only[Ly.life,Ly.desc];omega
 ·simp only[Ly.desc];omega
theorem wo (hL:M.L.Ok) {k x:Int} (hk:1≤k∧k≤M.L.nd):
  (∀ w,0≤w→w<M.L.th→ld M (st M m (M.L.life k) x) (M.L.desc w)=ld M m (M.L.desc w))∧(∀ w,0≤w→w<M.L.th→ld M (st M m (M.L.life k) x) (M.L.task w)=ld M m (M.L.task w))∧
  (∀ v i,0≤v→v<M.L.th→0≤i→i≤1→ld M (st M m (M.L.life k) x) (M.L.slot v i)=ld M m (M.L.slot v i))∧(∀ n,1≤n→n≤M.L.nd→n≠k→ld M (st M m (M.L.life k) x) (M.L.life n)=ld M m (M.L.life n))∧
  (∀ b,1≤b→b≤M.L.nd+4→ld M (st M m (M.L.life k) x) b=ld M m b)∧ld M (st M m (M.L.life k) x) (M.L.life k)=x:=by
 have h1:=hL.th;have h2:=hL.nd
 refine⟨fun w _ _=>ak _ _ ?_,fun w _ _=>ak _ _ ?_,fun v i _ _ _ _=>ak _ _ ?_,fun n _ _ _=>ak _ _ ?_,fun b _ _=>ak _ _ ?_,cL _ _ (by simp only[Ly.size,Ly.life];omega)⟩
 ·simp only[Ly.desc,Ly.life];omega
 ·simp only[Ly.task,Ly.life];omega
 ·simp only[Ly.slot,Ly.life];omega
 ·simp only[Ly.life];omega
 ·simp only[Ly.life];omega
theorem Dc (hL:M.L.Ok) (hm:dY M m) (h:GI M sh m P) {k:bl} {a n y:Int} {mk:Bool} (ha:1≤a∧a≤M.L.nd+4) (hF:Fits M sh m P k a n mk) (hc0:(wd M m a).claim=0)
  (hyn:(ao y).next=n) (hym:(ao y).mark=mk) (hr:rk (ld M m a)<rk y) (hv:(ao y).ver≤(wd M m a).ver+1)
  (hc:(ao y).claim≠0→(ao y).claim≤M.L.th∧∃ d,d=aX M m ((ao y).claim - 1)∧(d.status=2∨d.status=3)∧d.addr=a∧d.ver=(ao y).ver∧d.next=n∧d.mark=mk)
  (hn:k.links=true→P n= .spare u∨∃ w,P n= .prop w∧(ao y).claim=w+1∧(aX M m w).status=2∧(aX M m w).addr=a):
  ∃ P',GI M sh (st M m a y) P'∧St M sh u m (st M m a y) P P'∧(k.links=true→P'=P.put n .linked)∧(k.pops=true→P (wd M m a).next= .linked∧P'=P.put (wd M m a).next (.out u 0))∧(k.links=false→k.pops=false→P'=P):=by
 obtain⟨f1,f2,f3,f4,f5,f6⟩:=fX (m:=m) (x:=y) hL ha
 have hnd:=hL.nd
 have hlp:k.links=true→k.pops=true→False:=fun h1 h2=>by
  unfold bl.links at h1;unfold bl.pops at h2
  simp only[Bool.or_eq_true,Bool.and_eq_true,decide_eq_true_eq] at h1 h2
  omega
 have hfit:∀ P',(Lk M P a→Lk M P' a)→(wd M (st M m a y) a).claim≠0→(wd M (st M m a y) a).claim≤M.L.th∧Fit M (st M m a y) a ((wd M (st M m a y) a).claim - 1)∧Lk M P' a:=fun P' hl h0=>by
  simp only[wd,f6] at h0⊢
  obtain⟨h1,d,rfl,h2,h3,h4,h5,h6⟩:=hc h0
  have hp:=kL h0
  have e:aX M (st M m a y) ((ao y).claim - 1)=aX M m ((ao y).claim - 1):=by simp only[aX,f1 ((ao y).claim - 1) (by omega) (by omega)]
  refine⟨h1,⟨by rw[e];exact h2,by rw[e];exact h3,?_,?_,?_⟩,hl hF.lk⟩<;>rw[e]<;>simp only[wd,f6]
  ·exact h4
  ·rw[h5,hyn]
  ·rw[h6,hym]
 have hr':rk (ld M m a)<rk (ld M (st M m a y) a):=by rw[f6];exact hr
 have hv':(wd M (st M m a y) a).ver≤(wd M m a).ver+1:=by simp only[wd,f6];exact hv
 have hnf:(wd M m a).claim≠0→(aX M m ((wd M m a).claim - 1)).status=3:=fun h=>absurd hc0 h
 have hln:a≤M.L.nd→P a= .linked:=fun h=>hF.lk.resolve_left (by omega)
 have hap:a≤M.L.nd→∀ w,P a≠.prop w:=fun h w e=>by rw[hln h] at e;cases e
 have has:a≤M.L.nd→∀ v,v≠u→P a≠.spare v:=fun h v _ e=>by rw[hln h] at e;cases e
 have uj:sh=4→a≤M.L.nd→P a≠.linked:=fun h1 h2=>by have:=hF.h4 h1;omega
 have ham:a≤M.L.nd→P a= .linked→(wd M m a).mark=true→(wd M m a).claim=0→False:=fun _ _ h _=>by rw[hF.um] at h;cases h
 have Hd:(wd M (st M m a y) a).mark=mk:=by simp only[wd,f6];exact hym
 have He:(wd M (st M m a y) a).next=n:=by simp only[wd,f6];exact hyn
 cases hk:k.links with
 | true=>
  obtain⟨q1,q2,q3⟩:=hF.link hk
  have hpn:P n≠.linked∧P n≠.free:=by
   rcases hn hk with e | ⟨w,e,-⟩<;>rw[e]<;>exact⟨(fun e=>by cases e),(fun e=>by cases e)⟩
  have hgo:uf M sh u m P (P.put n .linked):= .put n _ (by
   rcases hn hk with e | ⟨w,e,-⟩
   ·exact .inr (.inl e)
   ·exact .inr (.inr (.inl ⟨w,e⟩)))
  have hlk:∀ b,Lk M P b→Lk M (P.put n .linked) b:=fun b hb=>by
   rcases hb with hb | hb
   ·exact .inl hb
   ·right
    by_cases e:b=n
    ·subst e;exact Gh.bF _ _ _
    ·rw[Gh.aE _ _ e];exact hb
  refine⟨P.put n .linked,?_,St.word hgo f5 hr' hv' f1 f2 f3 has uj ham,fun _=>rfl,fun h=>absurd h (fun h=>hlp hk h),fun h=>by cases h⟩
  refine GI.word hm h ha f5 f1 f2 f4 (h.str.link ha q2 hF.lk hpn.1 q3 f5 He (by rw[Hd,q1,hF.um]) hF.h4) hr' (hfit _ (hlk a)) hnf (fun x h1 h2=> ?_) (fun x w hx=> ?_) (fun b _ _ hb=> .inl (hlk b hb)) hap uj
  ·by_cases e:x=n
   ·subst e;rw[Gh.bF]
    exact⟨(fun e=>by cases e),fun e=>absurd e hpn.2⟩
   ·rw[Gh.aE _ _ e]
  ·by_cases e:x=n
   ·subst e
    right
    rcases hn hk with e | ⟨w',e,e2,e3,e4⟩
    ·rw[hx] at e;cases e
    ·rw[hx] at e;injection e with e
     subst e
     exact⟨by simp only[wd,f6];exact e2,e3,e4⟩
   ·left;rw[Gh.aE _ _ e];exact hx
 | false=>
  cases hp:k.pops with
  | true=>
   obtain⟨q1,q2,q3,q4⟩:=hF.pop hp
   obtain⟨c,hcx⟩:∃ c,(wd M m a).next=c:=⟨_,rfl⟩
   have hcn:=e9 hm ha.1 ha.2 q3
   have hcl:=h.str.next a ha.1 ha.2 hF.lk q3
   rw[hcx] at q3 q4 hcn hcl⊢
   have h4:=hF.h4 q2
   have hac:a≠c:=by omega
   have hgo:uf M sh u m P (P.put c (.out u 0)):= .put c _ (.inr (.inr (.inr (.inr (.inl ⟨hcl,rfl,fun e=>absurd q2 e⟩)))))
   refine⟨P.put c (.out u 0),?_,St.word hgo f5 hr' hv' f1 f2 f3 has uj ham,(fun h=>by cases h),fun _=>⟨hcl,rfl⟩,fun _ h=>by cases h⟩
   refine GI.word hm h ha f5 f1 f2 f4 (h.str.cut hm ha hF.lk hcx q3 hac (fun e=>absurd q2 e) f5 (by rw[He];exact q4) (by rw[Hd,q1,hF.um]) hF.h4) hr' (hfit _ (fun _=> .inl h4)) hnf (fun x h1 h2=> ?_) (fun x w hx=> .inl ?_) (fun b h1 h2 hb=> ?_) hap uj
   ·by_cases e:x=c
    ·subst e;rw[Gh.bF,hcl]
     exact⟨(fun e=>by cases e),(fun e=>by cases e)⟩
    ·rw[Gh.aE _ _ e]
   ·by_cases e:x=c
    ·subst e;rw[hcl] at hx;cases hx
    ·rw[Gh.aE _ _ e];exact hx
   ·by_cases e:b=c
    ·subst e
     exact .inr ⟨hcn.2,fun e=>absurd q2 e,(h.str.Hc q2 b h1 hcn.2).2⟩
    ·left
     rcases hb with hb | hb
     ·exact .inl hb
     ·exact .inr (by rw[Gh.aE _ _ e];exact hb)
  | false=>
   obtain⟨q1,q2,q3,q4⟩:=hF.mark hk hp
   refine⟨P,?_,St.word (.refl ..) f5 hr' hv' f1 f2 f3 has uj ham,(fun h=>by cases h),(fun h=>by cases h),fun _ _=>rfl⟩
   refine GI.word hm h ha f5 f1 f2 f4 (h.str.same hm (fun b h1 h2=> ?_) (fun _ _ _=>Iff.rfl) (fun n t k _ _ h=>⟨t,k,h⟩)) hr' (hfit _ id) hnf (fun x h1 h2=>Iff.rfl) (fun x w hx=> .inl hx) (fun b h1 h2 hb=> .inl hb) hap uj
   by_cases e:b=a
   ·subst e
    exact⟨by rw[He,q2],fun _=>by rw[Hd,q1],fun e=>absurd e q4⟩
   ·unfold wd;rw[f5 b h1 h2 e];exact⟨rfl,id,fun _ _=>rfl⟩
theorem E5 (hL:M.L.Ok) (hm:dY M m) (h:GI M sh m P) {a c y:Int} (ha:1≤a∧a≤M.L.nd+4) (hs:sh≠4) (hk:Lk M P a) (Kt:(wd M m a).mark=false) (hc0:(wd M m a).claim=0)
  (hc:(wd M m a).next=c) (hcz:c≠0) (hcm:(wd M m c).mark=true) (hcc:(wd M m c).claim=0) (hy:ao y=(wd M m a).link (wd M m c).next) (hv:(wd M m a).ver<262143):
  P c= .linked∧GI M sh (st M m a y) (P.put c (.out u 0))∧St M sh u m (st M m a y) P (P.put c (.out u 0)):=by
 obtain⟨f1,f2,f3,f4,f5,f6⟩:=fX (m:=m) (x:=y) hL ha
 have hv0:=(aQ (ld M m a)).ver
 have e1:((wd M m a).ver+1) % 262144=(wd M m a).ver+1:=Int.emod_eq_of_lt (by simp only[wd];omega) (by omega)
 have hw:wd M (st M m a y) a=(wd M m a).link (wd M m c).next:=by simp only[wd,f6];exact hy
 have hcy:(ao y).claim=0:=by rw[hy];exact hc0
 have H8:(ao y).ver=(wd M m a).ver+1:=by rw[hy];exact e1
 have hr':rk (ld M m a)<rk (ld M (st M m a y) a):=by
  rw[f6,gw hc0,gw hcy,H8];simp only[wd];omega
 have hcn:=e9 hm ha.1 ha.2 (by rw[hc];exact hcz)
 have hcl:=h.str.next a ha.1 ha.2 hk (by rw[hc];exact hcz)
 rw[hc] at hcn hcl
 have hac:a≠c:=fun e=>by rw[←e,Kt] at hcm;cases hcm
 have hln:a≤M.L.nd→P a= .linked:=fun h=>hk.resolve_left (by omega)
 have hap:a≤M.L.nd→∀ w,P a≠.prop w:=fun h w e=>by rw[hln h] at e;cases e
 have has:a≤M.L.nd→∀ v,v≠u→P a≠.spare v:=fun h v _ e=>by rw[hln h] at e;cases e
 have hgo:uf M sh u m P (P.put c (.out u 0)):= .put c _ (.inr (.inr (.inr (.inr (.inl ⟨hcl,rfl,fun _=>hcm⟩)))))
 refine⟨hcl,?_,St.word hgo f5 hr' (by rw[hw];exact Int.le_of_eq e1) f1 f2 f3 has (fun e=>absurd e hs) (fun _ _ h _=>by rw[Kt] at h;cases h)⟩
 refine GI.word hm h ha f5 f1 f2 f4 (h.str.cut hm ha hk hc hcz hac (fun _=>hcm) f5 (by rw[hw];rfl) (by rw[hw];rfl) (fun e=>absurd e hs)) hr' (fun e=>absurd (by rw[hw];exact hc0) e) (fun e=>absurd hc0 e) (fun x h1 h2=> ?_) (fun x w hx=> .inl ?_) (fun b h1 h2 hb=> ?_) hap (fun e=>absurd e hs)
 ·by_cases e:x=c
  ·subst e;rw[Gh.bF,hcl]
   exact⟨(fun e=>by cases e),(fun e=>by cases e)⟩
  ·rw[Gh.aE _ _ e]
 ·by_cases e:x=c
  ·subst e;rw[hcl] at hx;cases hx
  ·rw[Gh.aE _ _ e];exact hx
 ·by_cases e:b=c
  ·subst e
   exact .inr ⟨hcn.2,fun _=>hcm,hcc⟩
  ·left
   rcases hb with hb | hb
   ·exact .inl hb
   ·exact .inr (by rw[Gh.aE _ _ e];exact hb)
theorem wq (hL:M.L.Ok) (hm:dY M m) (h:GI M sh m P) {a y:Int} (ha:1≤a∧a≤M.L.nd+4) (hc:(wd M m a).claim≠0) (hst:(aX M m ((wd M m a).claim - 1)).status=3) (hy:ao y=(wd M m a).free) (hv:(wd M m a).ver<262143):
  GI M sh (st M m a y) P∧St M sh u m (st M m a y) P P:=by
 obtain⟨f1,f2,f3,f4,f5,f6⟩:=fX (m:=m) (x:=y) hL ha
 have hv0:=(aQ (ld M m a)).ver
 have e1:((wd M m a).ver+1) % 262144=(wd M m a).ver+1:=Int.emod_eq_of_lt (by simp only[wd];omega) (by omega)
 have hw:wd M (st M m a y) a=(wd M m a).free:=by simp only[wd,f6];exact hy
 have hcy:(ao y).claim=0:=by rw[hy];rfl
 have H8:(ao y).ver=(wd M m a).ver+1:=by rw[hy];exact e1
 have hr':rk (ld M m a)<rk (ld M (st M m a y) a):=by
  rw[f6,kr hc,gw hcy,H8];simp only[wd];omega
 have hk:=(h.cl a ha.1 ha.2 hc).2.2
 have hln:a≤M.L.nd→P a= .linked:=fun h=>hk.resolve_left (by omega)
 have hap:a≤M.L.nd→∀ w,P a≠.prop w:=fun h w e=>by rw[hln h] at e;cases e
 have has:a≤M.L.nd→∀ v,v≠u→P a≠.spare v:=fun h v _ e=>by rw[hln h] at e;cases e
 have h4:sh=4→a≤M.L.nd→False:=fun e e2=>hc (h.str.Hc e a ha.1 e2).2
 refine⟨?_,St.word (.refl ..) f5 hr' (by rw[hw];exact Int.le_of_eq e1) f1 f2 f3 has (fun e e2=>(h4 e e2).elim) (fun _ _ _ h=>hc h)⟩
 refine GI.word hm h ha f5 f1 f2 f4 (h.str.same hm (fun b h1 h2=> ?_) (fun _ _ _=>Iff.rfl) (fun n t k _ _ h=>⟨t,k,h⟩)) hr' (fun e=>absurd (by rw[hw];rfl) e) (fun _=>hst) (fun x h1 h2=>Iff.rfl) (fun x w hx=> .inl hx) (fun b h1 h2 hb=> .inl hb) hap (fun e e2=>(h4 e e2).elim)
 by_cases e:b=a
 ·subst e
  refine⟨by rw[hw];rfl,fun e=>by rw[hw];exact e,fun e e2=>(h4 e e2).elim⟩
 ·unfold wd;rw[f5 b h1 h2 e];exact⟨rfl,id,fun _ _=>rfl⟩
theorem Dd (hL:M.L.Ok) (hm:dY M m) (h:GI M sh m P) {a y:Int} (ha:1≤a∧a≤M.L.nd) (hp:P a= .spare u) (hcy:(ao y).claim=0) (N1:(ao y).mark=false) (H8:(ao y).ver=(wd M m a).ver+1):
  GI M sh (st M m a y) P∧St M sh u m (st M m a y) P P:=by
 obtain⟨f1,f2,f3,f4,f5,f6⟩:=fX (m:=m) (x:=y) hL (a:=a) (by omega)
 have hr':rk (ld M m a)<rk (ld M (st M m a y) a):=by
  have:=(yk (ld M m a)).2
  rw[f6,gw hcy,H8];simp only[wd];omega
 have hw:wd M (st M m a y) a=ao y:=by simp only[wd,f6]
 refine⟨?_,St.word (.refl ..) f5 hr' (by rw[hw,H8];omega) f1 f2 f3 (fun _ v hv e=>by rw[hp] at e;injection e with e;exact hv e.symm) (fun _ _ e=>by rw[hp] at e;cases e) (fun _ e=>by rw[hp] at e;cases e)⟩
 refine GI.word hm h (by omega) f5 f1 f2 f4 (h.str.az ha (fun e=>by rw[hp] at e;cases e) (fun t k e=>by rw[hp] at e;cases e) f5 (by rw[hw];exact⟨N1,hcy⟩)) hr' (fun e=>absurd (by rw[hw];exact hcy) e) (fun e=> ?_) (fun x h1 h2=>Iff.rfl) (fun x w hx=> .inl hx) (fun b h1 h2 hb=> .inl hb) (fun _ w e=>by rw[hp] at e;cases e) (fun _ _ e=>by rw[hp] at e;cases e)
 have hk:=(h.cl a ha.1 (by omega) e).2.2
 rcases hk with hk | hk
 ·omega
 ·rw[hp] at hk;cases hk
end
def Kn (M:ML) (m:Mm) (a x:Int):Prop:=rk x≤rk (ld M m a)∧(rk (ld M m a)=rk x→ld M m a=x)
theorem Kn.refl (M:ML) (m:Mm) (a:Int):Kn M m a (ld M m a):=⟨Int.le_refl _,fun _=>rfl⟩
section
variable {M:ML} {sh u me:Int} {m m':Mm} {P P':Gh}
theorem sG {n:Int} {p:Pl} (h1:P n≠.linked) (h2:P n≠.free) (q1:p≠.linked) (q2:p≠.free) (q3:∀ t k,p≠.out t k):
  (∀ x,P.put n p x= .linked↔P x= .linked)∧(∀ x t k,P.put n p x= .out t k→P x= .out t k)∧(∀ x,P.put n p x= .free↔P x= .free):=by
 refine⟨fun x=> ?_,fun x t k=> ?_,fun x=> ?_⟩<;>by_cases e:x=n
 ·subst e;rw[Gh.bF];exact⟨fun e=>absurd e q1,fun e=>absurd e h1⟩
 ·rw[Gh.aE _ _ e]
 ·subst e;rw[Gh.bF];exact fun e=>absurd e (q3 t k)
 ·rw[Gh.aE _ _ e];exact id
 ·subst e;rw[Gh.bF];exact⟨fun e=>absurd e q2,fun e=>absurd e h2⟩
 ·rw[Gh.aE _ _ e]
theorem mL {y:Int} (h:ld M m' (M.L.desc u)=y):aX M m' u=getD' y:=by simp only[aX,h]
theorem y0 (hL:M.L.Ok) (hm:dY M m) (h:GI M sh m P) {y:Int} (hu:0≤u∧u<M.L.th) (h2:(aX M m u).status=2) (hy:getD' y=(aX M m u).with_ 3) (hv:nZ M.L y)
  (hr:2*(aX M m u).ver+1≤rk (ld M m (aX M m u).addr)) (hc:rk (ld M m (aX M m u).addr)=2*(aX M m u).ver+1→(wd M m (aX M m u).addr).claim=u+1):
  GI M sh (st M m (M.L.desc u) y) P∧St M sh me m (st M m (M.L.desc u) y) P P:=by
 obtain⟨f1,f2,f3,f4,f5,f6⟩:=iU (m:=m) (x:=y) hL hu
 have e:=mL f6
 have hD:aX M (st M m (M.L.desc u) y) u=(aX M m u).with_ 3:=e.trans hy
 refine⟨GI.desc hm h hu f5 f1 f2 f4 (fun _=>Iff.rfl) (fun _ _ _ h=>h) (fun _ _ _=>Iff.rfl) (fun _ _ _ _ _ h=>h) (fun a h3 h4 h5=> ?_) (fun h=> ?_) (fun _=> ?_) (fun h=> ?_) (by rw[f6];exact hv),St.still (.refl ..) f5 (fun v i a b c d _=>f3 v i a b c d) (fun w a b _ _=>f2 w a b) (fun w a b c d=> ?_)⟩
 ·have h6:=(h.cl a h3 h4 (by omega)).2.1
  rw[show (wd M m a).claim - 1=u by omega] at h6
  exact⟨by rw[hD];exact .inr rfl,by rw[hD];exact h6.addr,by rw[hD];simp only[wd,f5 a h3 h4];exact h6.ver,by rw[hD];simp only[wd,f5 a h3 h4];exact h6.next,by rw[hD];simp only[wd,f5 a h3 h4];exact h6.mark⟩
 ·rw[hD] at h;simp[Ds.with_] at h
 ·rw[hD];exact⟨hr,hc⟩
 ·rw[hD] at h;simp[Ds.with_] at h
 ·by_cases e:w=u
  ·subst e;omega
  ·exact absurd (f1 w a b e) d
theorem De (hL:M.L.Ok) (hm:dY M m) (h:GI M sh m P) {y:Int} (hu:0≤u∧u<M.L.th) (h2:(aX M m u).status=2) (hy:getD' y=(aX M m u).with_ 4) (hv:nZ M.L y)
  (hr:2*(aX M m u).ver+1≤rk (ld M m (aX M m u).addr)) (hc:(wd M m (aX M m u).addr).claim≠u+1):
  GI M sh (st M m (M.L.desc u) y) P∧St M sh me m (st M m (M.L.desc u) y) P P:=by
 obtain⟨f1,f2,f3,f4,f5,f6⟩:=iU (m:=m) (x:=y) hL hu
 have e:=mL f6
 have hD:aX M (st M m (M.L.desc u) y) u=(aX M m u).with_ 4:=e.trans hy
 refine⟨GI.desc hm h hu f5 f1 f2 f4 (fun _=>Iff.rfl) (fun _ _ _ h=>h) (fun _ _ _=>Iff.rfl) (fun _ _ _ _ _ h=>h) (fun a h3 h4 h5=> ?_) (fun h=> ?_) (fun h=> ?_) (fun _=> ?_) (by rw[f6];exact hv),St.still (.refl ..) f5 (fun v i a b c d _=>f3 v i a b c d) (fun w a b _ _=>f2 w a b) (fun w a b c d=> ?_)⟩
 ·have h6:=(h.cl a h3 h4 (by omega)).2.1
  rw[show (wd M m a).claim - 1=u by omega] at h6
  rw[h6.addr] at hc
  exact absurd h5 hc
 ·rw[hD] at h;simp[Ds.with_] at h
 ·rw[hD] at h;simp[Ds.with_] at h
 ·rw[hD];exact⟨hr,fun hk=>((h.H7 u hu.1 hu.2 h2).2.2 hk).resolve_left hc⟩
 ·by_cases e:w=u
  ·subst e;omega
  ·exact absurd (f1 w a b e) d
theorem E6 (hL:M.L.Ok) (hm:dY M m) (h:GI M sh m P) {y:Int} (hu:0≤u∧u<M.L.th) (h2:(aX M m u).status=3) (hy:(getD' y).status=5) (hv:nZ M.L y)
  (hr:2*(aX M m u).ver+2≤rk (ld M m (aX M m u).addr)):
  GI M sh (st M m (M.L.desc u) y) P∧St M sh me m (st M m (M.L.desc u) y) P P:=by
 obtain⟨f1,f2,f3,f4,f5,f6⟩:=iU (m:=m) (x:=y) hL hu
 have e:=mL f6
 have eG:=((hm.desc u hu.1 hu.2).at_ (by simp only[aX] at h2;omega) (by simp only[aX] at h2;omega)).1
 refine⟨GI.desc hm h hu f5 f1 f2 f4 (fun _=>Iff.rfl) (fun _ _ _ h=>h) (fun _ _ _=>Iff.rfl) (fun _ _ _ _ _ h=>h) (fun a h3 h4 h5=> ?_) (fun h=> ?_) (fun h=> ?_) (fun h=> ?_) (by rw[f6];exact hv),St.still (.refl ..) f5 (fun v i a b c d _=>f3 v i a b c d) (fun w a b _ _=>f2 w a b) (fun w a b c d=> ?_)⟩
 ·have h6:=(h.cl a h3 h4 (by omega)).2.1
  rw[show (wd M m a).claim - 1=u by omega] at h6
  have h7:=kr (x:=ld M m a) (by simp only[wd] at h5;omega)
  rw[h6.addr,h6.ver] at hr
  simp only[wd] at hr
  omega
 ·rw[e,hy] at h;omega
 ·rw[e,hy] at h;omega
 ·rw[e,hy] at h;omega
 ·by_cases e:w=u
  ·subst e;rw[f5 _ eG.1 eG.2];exact hr
  ·exact absurd (f1 w a b e) d
theorem nB (hL:M.L.Ok) (hm:dY M m) (h:GI M sh m P) {y:Int} (hu:0≤u∧u<M.L.th) (h2:(aX M m u).status≠2) (h3:(aX M m u).status≠3) (hy:(getD' y).status≤1∨(getD' y).status=5) (hv:nZ M.L y)
  (hp:P'=P∨∃ n,P n= .prop u∧P'=P.put n (.give me)):
  GI M sh (st M m (M.L.desc u) y) P'∧St M sh me m (st M m (M.L.desc u) y) P P':=by
 obtain⟨f1,f2,f3,f4,f5,f6⟩:=iU (m:=m) (x:=y) hL hu
 have e:=mL f6
 have key:(∀ x,P' x= .linked↔P x= .linked)∧(∀ x t k,P' x= .out t k→P x= .out t k)∧(∀ x,P' x= .free↔P x= .free)∧(∀ x w,w≠u→P x= .prop w→P' x= .prop w)∧uf M sh me m P P':=by
  rcases hp with rfl | ⟨n,hn,rfl⟩
  ·exact⟨fun _=>Iff.rfl,fun _ _ _ h=>h,fun _=>Iff.rfl,fun _ _ _ h=>h,.refl ..⟩
  ·obtain⟨a,b,c⟩:=sG (P:=P) (n:=n) (p:= .give me) (by rw[hn];exact fun e=>by cases e) (by rw[hn];exact fun e=>by cases e) (fun e=>by cases e) (fun e=>by cases e) (fun t k e=>by cases e)
   refine⟨a,b,c,fun x w hw hx=> ?_,.put n _ (.inr (.inr (.inl ⟨u,hn⟩)))⟩
   by_cases e:x=n
   ·subst e;rw[hn] at hx;injection hx with hx;exact absurd hx.symm hw
   ·rw[Gh.aE _ _ e];exact hx
 obtain⟨k1,k2,k3,k4,k5⟩:=key
 refine⟨GI.desc hm h hu f5 f1 f2 f4 k1 k2 (fun n _ _=>k3 n) (fun n w _ _ hw=>k4 n w hw) (fun a h4 h5 h6=> ?_) (fun h=> ?_) (fun h=> ?_) (fun h=> ?_) (by rw[f6];exact hv),St.still k5 f5 (fun v i a b c d _=>f3 v i a b c d) (fun w a b _ _=>f2 w a b) (fun w a b c d=> ?_)⟩
 ·have h7:=(h.cl a h4 h5 (by omega)).2.1
  rw[show (wd M m a).claim - 1=u by omega] at h7
  rcases h7.st with h8 | h8
  ·exact absurd h8 h2
  ·exact absurd h8 h3
 ·rw[e] at h;omega
 ·rw[e] at h;omega
 ·rw[e] at h;omega
 ·by_cases e:w=u
  ·subst e;exact absurd c h3
  ·exact absurd (f1 w a b e) d
theorem wu (hL:M.L.Ok) (hm:dY M m) (h:GI M sh m P) {y a n old aJ val:Int} {mk:Bool} (hu:0≤u∧u<M.L.th) (h2:(aX M m u).status=1) (hy:getD' y=⟨aJ,a,(ao old).ver,n,mk,2,val⟩) (hv:nZ M.L y)
  (hk:Kn M m a old) (hc:(ao old).claim=0) (hF:ld M m a=old→Fits M sh m P (tk M m u) a n mk) (hn:(tk M m u).links=true→P n= .spare me)
  (hp:P'=if (tk M m u).links then P.put n (.prop u) else P):
  GI M sh (st M m (M.L.desc u) y) P'∧St M sh me m (st M m (M.L.desc u) y) P P':=by
 obtain⟨f1,f2,f3,f4,f5,f6⟩:=iU (m:=m) (x:=y) hL hu
 have e:=mL f6
 have hD:aX M (st M m (M.L.desc u) y) u=⟨aJ,a,(ao old).ver,n,mk,2,val⟩:=e.trans hy
 have key:(∀ x,P' x= .linked↔P x= .linked)∧(∀ x t k,P' x= .out t k→P x= .out t k)∧(∀ x,P' x= .free↔P x= .free)∧(∀ x w,w≠u→P x= .prop w→P' x= .prop w)∧uf M sh me m P P'∧((tk M m u).links=true→P' n= .prop u):=by
  subst hp
  cases hl:(tk M m u).links with
  | false=>exact⟨fun _=>Iff.rfl,fun _ _ _ h=>h,fun _=>Iff.rfl,fun _ _ _ h=>h,.refl ..,fun h=>by cases h⟩
  | true=>
   have hs:=hn hl
   obtain⟨a,b,c⟩:=sG (P:=P) (n:=n) (p:= .prop u) (by rw[hs];exact fun e=>by cases e) (by rw[hs];exact fun e=>by cases e) (fun e=>by cases e) (fun e=>by cases e) (fun t k e=>by cases e)
   simp only[if_true]
   refine⟨a,b,c,fun x w hw hx=> ?_,.put n _ (.inr (.inl hs)),fun _=>Gh.bF _ _ _⟩
   by_cases e:x=n
   ·subst e;rw[hs] at hx;cases hx
   ·rw[Gh.aE _ _ e];exact hx
 obtain⟨k1,k2,k3,k4,k5,k6⟩:=key
 have hrk:=gw hc
 refine⟨GI.desc hm h hu f5 f1 f2 f4 k1 k2 (fun n _ _=>k3 n) (fun n w _ _ hw=>k4 n w hw) (fun a h4 h5 h6=> ?_) (fun _=> ?_) (fun h=> ?_) (fun h=> ?_) (by rw[f6];exact hv),St.still k5 f5 (fun v i a b c d _=>f3 v i a b c d) (fun w a b _ _=>f2 w a b) (fun w a b c d=> ?_)⟩
 ·have h7:=(h.cl a h4 h5 (by omega)).2.1
  rw[show (wd M m a).claim - 1=u by omega] at h7
  have:=h7.st
  omega
 ·rw[hD]
  simp only
  have h1:=hk.1
  exact⟨by omega,fun e=>hF (hk.2 (by omega)),fun hl=> .inr (k6 hl)⟩
 ·rw[hD] at h;simp at h
 ·rw[hD] at h;simp at h
 ·by_cases e:w=u
  ·subst e;omega
  ·exact absurd (f1 w a b e) d
theorem Df (hL:M.L.Ok) (hm:dY M m) (h:GI M sh m P) {n y:Int} (hn:1≤n∧n≤M.L.nd) (hp:ld M m (M.L.life n) % 2=0) (hy:y=(ld M m (M.L.life n)+1) % 18446744073709551616):
  GI M sh (st M m (M.L.life n) y) (P.put n (.spare u))∧St M sh u m (st M m (M.L.life n) y) P (P.put n (.spare u)):=by
 obtain⟨f1,f2,f3,f4,f5,f6⟩:=wo (m:=m) (x:=y) hL hn
 have hf:=(h.life n hn.1 hn.2).2 hp
 refine⟨GI.rest hm h f5 f1 (fun w a b _ _=>f2 w a b) (fun w a b=> .inl (f2 w a b)) (fun x h1 h2=> ?_) (fun x h1 h2=> ?_) (fun x t k h1 h2 hx=> ?_) (fun x w hx=> ?_),St.still (.put n _ (.inl hf)) f5 (fun v i a b c d _=>f3 v i a b c d) (fun w a b _ _=>f2 w a b) (fun w a b c d=>absurd (f1 w a b) d)⟩<;>by_cases e:x=n
 ·subst e
  rw[Gh.bF,f6]
  exact⟨(fun e=>by cases e),fun e=>by omega⟩
 ·rw[Gh.aE _ _ e,f4 x h1 h2 e];exact h.life x h1 h2
 ·subst e
  rw[Gh.bF,hf]
  exact⟨(fun e=>by cases e),fun e=>by cases e⟩
 ·rw[Gh.aE _ _ e]
 ·subst e
  rw[Gh.bF] at hx;cases hx
 ·rw[Gh.aE _ _ e] at hx;exact⟨t,k,hx⟩
 ·subst e
  rw[hf] at hx;cases hx
 ·rw[Gh.aE _ _ e];exact hx
theorem wx (hL:M.L.Ok) (hm:dY M m) (h:GI M sh m P) {n y:Int} (hn:1≤n∧n≤M.L.nd) (hp:P n= .give u∨∃ k,P n= .out u k∧2*M.L.th≤k) (hy:y=(ld M m (M.L.life n)+1) % 18446744073709551616):
  GI M sh (st M m (M.L.life n) y) (P.put n .free)∧St M sh u m (st M m (M.L.life n) y) P (P.put n .free):=by
 obtain⟨f1,f2,f3,f4,f5,f6⟩:=wo (m:=m) (x:=y) hL hn
 have hnf:P n≠.free∧P n≠.linked∧∀ w,P n≠.prop w:=by
  rcases hp with e | ⟨k,e,-⟩<;>rw[e]<;>exact⟨(fun e=>by cases e),(fun e=>by cases e),(fun w e=>by cases e)⟩
 have hodd:ld M m (M.L.life n) % 2≠0:=fun e=>hnf.1 ((h.life n hn.1 hn.2).2 e)
 refine⟨GI.rest hm h f5 f1 (fun w a b _ _=>f2 w a b) (fun w a b=> .inl (f2 w a b)) (fun x h1 h2=> ?_) (fun x h1 h2=> ?_) (fun x t k h1 h2 hx=> ?_) (fun x w hx=> ?_),St.still (.put n _ ?_) f5 (fun v i a b c d _=>f3 v i a b c d) (fun w a b _ _=>f2 w a b) (fun w a b c d=>absurd (f1 w a b) d)⟩
 ·by_cases e:x=n
  ·subst e
   rw[Gh.bF,f6]
   exact⟨fun _=>by omega,fun _=>rfl⟩
  ·rw[Gh.aE _ _ e,f4 x h1 h2 e];exact h.life x h1 h2
 ·by_cases e:x=n
  ·subst e
   rw[Gh.bF]
   exact⟨(fun e=>by cases e),fun e=>absurd e hnf.2.1⟩
  ·rw[Gh.aE _ _ e]
 ·by_cases e:x=n
  ·subst e
   rw[Gh.bF] at hx;cases hx
  ·rw[Gh.aE _ _ e] at hx;exact⟨t,k,hx⟩
 ·by_cases e:x=n
  ·subst e
   exact absurd hx (hnf.2.2 w)
  ·rw[Gh.aE _ _ e];exact hx
 ·rcases hp with e | ⟨k,e,e2⟩
  ·exact .inr (.inr (.inr (.inl e)))
  ·exact .inr (.inr (.inr (.inr (.inr ⟨k,e,e2,rfl⟩))))
theorem sH (hm:dY M m) (h:GI M sh m P)
  (hw:∀ b,1≤b→b≤M.L.nd+4→ld M m' b=ld M m b) (hd:∀ w,0≤w→w<M.L.th→ld M m' (M.L.desc w)=ld M m (M.L.desc w))
  (hl:∀ n,1≤n→n≤M.L.nd→ld M m' (M.L.life n)=ld M m (M.L.life n))
  (hs:∀ v i,0≤v→v<M.L.th→0≤i→i≤1→v≠u→ld M m' (M.L.slot v i)=ld M m (M.L.slot v i))
  (ht:∀ w,0≤w→w<M.L.th→1≤stt M m w→stt M m w≤4→ld M m' (M.L.task w)=ld M m (M.L.task w))
  (hts:∀ w,0≤w→w<M.L.th→ld M m' (M.L.task w)=ld M m (M.L.task w)∨(tk M m' w).sh=sh):GI M sh m' P∧St M sh u m m' P P:=
 ⟨GI.rest hm h hw hd ht hts (fun n h1 h2=>by rw[hl n h1 h2];exact h.life n h1 h2) (fun _ _ _=>Iff.rfl) (fun _ t k _ _ h=>⟨t,k,h⟩) (fun _ _ h=>h),St.still (.refl ..) hw hs ht (fun w a b _ d=>absurd (hd w a b) d)⟩
theorem qJ (hL:M.L.Ok) (hm:dY M m) (h:GI M sh m P) {i x:Int} (hu:0≤u∧u<M.L.th) (hi:0≤i∧i≤1):
  GI M sh (st M m (M.L.slot u i) x) P∧St M sh u m (st M m (M.L.slot u i) x) P P∧ld M (st M m (M.L.slot u i) x) (M.L.slot u i)=x∧(∀ j,j≠i→ld M (st M m (M.L.slot u i) x) (M.L.slot u j)=ld M m (M.L.slot u j))∧∀ b,1≤b→b≤M.L.nd+4→ld M (st M m (M.L.slot u i) x) b=ld M m b:=by
 have h1:=hL.th;have h2:=hL.nd
 have hw:∀ b,1≤b→b≤M.L.nd+4→ld M (st M m (M.L.slot u i) x) b=ld M m b:=fun b _ _=>ak _ _ (by simp only[Ly.slot];omega)
 have ht:∀ w,0≤w→w<M.L.th→ld M (st M m (M.L.slot u i) x) (M.L.task w)=ld M m (M.L.task w):=fun w _ _=>ak _ _ (by simp only[Ly.slot,Ly.task];omega)
 have:=sH (u:=u) hm h hw (fun w _ _=>ak _ _ (by simp only[Ly.slot,Ly.desc];omega)) (fun n _ _=>ak _ _ (by simp only[Ly.slot,Ly.life];omega)) (fun v j _ _ _ _ hne=>ak _ _ (by simp only[Ly.slot];omega)) (fun w a b _ _=>ht w a b) (fun w a b=> .inl (ht w a b))
 exact⟨this.1,this.2,cL _ _ (by simp only[Ly.slot,Ly.size];omega),fun j hj=>ak _ _ (by simp only[Ly.slot];omega),hw⟩
def Pl.y1 (p:Pl) (t k:Int):Bool:=match p with | .out t' k'=>decide (t'=t) && decide (k'=k) | _=>false
theorem Pl.sI {p:Pl} {t k:Int}:p.y1 t k=true↔p= .out t k:=by
 cases p<;>simp[Pl.y1]
def Gh.pass (P:Gh) (u k x:Int) (l:List Int):Gh:=fun n=>if (P n).y1 u k && decide (n≠x) && l.contains n then .out u (k+1) else P n
theorem Dg (h:GI M sh m P) (hm:dY M m) (k:Int) (l:List Int):GI M sh m (P.pass u k (ld M m (M.L.slot 0 k)) l)∧St M sh u m m P (P.pass u k (ld M m (M.L.slot 0 k)) l):=by
 have key:∀ n,P.pass u k (ld M m (M.L.slot 0 k)) l n=P n∨(P n= .out u k∧ld M m (M.L.slot 0 k)≠n∧P.pass u k (ld M m (M.L.slot 0 k)) l n= .out u (k+1)):=fun n=>by
  unfold Gh.pass
  split
  ·rename_i hc
   simp only[Bool.and_eq_true,decide_eq_true_eq] at hc
   exact .inr ⟨Pl.sI.1 hc.1.1,fun e=>hc.1.2 e.symm,rfl⟩
  ·exact .inl rfl
 have k1:∀ n p,(∀ t k,p≠.out t k)→(P.pass u k (ld M m (M.L.slot 0 k)) l n=p↔P n=p):=fun n p hp=>by
  rcases key n with e | ⟨e1,e2,e3⟩
  ·rw[e]
  ·rw[e1,e3];exact⟨fun e=>absurd e.symm (hp _ _),fun e=>absurd e.symm (hp _ _)⟩
 refine⟨GI.rest hm h (fun _ _ _=>rfl) (fun _ _ _=>rfl) (fun _ _ _ _ _=>rfl) (fun _ _ _=> .inl rfl) (fun n h1 h2=>by rw[k1 n .free (fun _ _ e=>by cases e)];exact h.life n h1 h2) (fun n _ _=>k1 n _ (fun _ _ e=>by cases e)) (fun n t j _ _ hn=> ?_) (fun n w hn=>(k1 n _ (fun _ _ e=>by cases e)).2 hn),?_⟩
 ·rcases key n with e | ⟨e1,-,-⟩
  ·rw[e] at hn;exact⟨t,j,hn⟩
  ·exact⟨_,_,e1⟩
 ·refine⟨fun _ _ _=> .inl rfl,fun _ _ _=>by omega,fun n hn=> .inl ((k1 n _ (fun _ _ e=>by cases e)).2 hn),fun n v _ _ _ hn=>⟨(k1 n _ (fun _ _ e=>by cases e)).2 hn,rfl⟩,fun n v _ hn=>(k1 n _ (fun _ _ e=>by cases e)).2 hn,fun n t j hn=> ?_,fun _ _ _ _ _ _ _=>rfl,fun _ _ _ _ _=>rfl,fun _ _ _ _ _ _=>rfl,fun _ _ _ _ _=>rfl,fun _ _ _ _ d=>absurd rfl d⟩
  rcases key n with e | ⟨e1,e2,e3⟩
  ·exact .inl (e.trans hn)
  ·rw[hn] at e1
   injection e1 with e4 e5
   subst e4 e5
   exact .inr ⟨rfl,.inl ⟨_,e3,.inr ⟨rfl,e2⟩⟩⟩
end
def age (x:Int):Int:=8*(getD' x).aJ+(getD' x).status
def DA (s:Int):Int:=if s=0 then 0 else if s=1 then 1 else if s=2 then 2 else if s=5 then 2 else 3
def ug (x:Int):Int:=3*(getD' x).aJ+DA (getD' x).status
def dw.ann (x:dw):Int:=(x.ended:Int)+(match x.now with | none=>0 | some d=>if 5≤d.at_ then 1 else 0)
theorem E7 (s:Int):0≤DA s∧DA s≤3:=by unfold DA;repeat' split<;>omega
variable {L:Ly}
theorem Aq {x y:Int} (h:ix L x y) (ha:(getD' x).aJ<4095):age x<age y∧ug y≤ug x+1:=by
 have h0:=(b7 x).aJ
 unfold age ug
 rcases h.path with ⟨h1,h2,h3⟩ | ⟨h1,h2⟩ | ⟨h1,h2⟩ | ⟨h1,h2⟩
 ·rcases h3 with h3 | ⟨h3,-⟩<;>(rw[h2,h1,h3];simp[DA];omega)
 ·rcases h2 with h2 | h2<;>(rw[h2,h1];simp[Ds.with_,DA];omega)
 ·rw[h2,h1];simp[DA];omega
 ·rw[h2,h1]
  simp only[Ds.cp]
  have:((getD' x).aJ+1) % 4096=(getD' x).aJ+1:=Int.emod_eq_of_lt (by omega) (by omega)
  rw[this];simp[DA];omega
theorem Ar {x y:Int} (h:getD' y=(getD' x).cp) (hi:(getD' x).status=0∨(getD' x).status=5) (ha:(getD' x).aJ<4095):age x<age y∧ug y≤ug x+4:=by
 have h0:=(b7 x).aJ
 unfold age ug
 rw[h]
 simp only[Ds.cp]
 have:((getD' x).aJ+1) % 4096=(getD' x).aJ+1:=Int.emod_eq_of_lt (by omega) (by omega)
 rw[this]
 rcases hi with hi | hi<;>(rw[hi];simp[DA];omega)
variable {M:ML} {me:Int} {m:Mm} {t:cg}
theorem E8 {d:aI} {N:Int} (hL:M.L.Ok) (hm:dY M m) (hu:0≤me∧me<M.L.th) (hN:0≤N) (ht:bL M.L t N) (hd:fq M.L me t d N) (hne:¬ (d.at_=4∧d.ann.at_=4)) (ho:d.at_=4→d.ann.at_=4→d.ann.found=ld M m (M.L.desc me)) (v:Int) (h0:0≤v) (h1:v<M.L.th):
  ld M (al M me m t d).2.1 (M.L.desc v)=ld M m (M.L.desc v)∨ix M.L (ld M m (M.L.desc v)) (ld M (al M me m t d).2.1 (M.L.desc v)):=by
 have hs:=Da (m:=m) hL hu ht hd ho
 have quiet:d.cm me=[]→ld M (al M me m t d).2.1 (M.L.desc v)=ld M m (M.L.desc v)∨ix M.L (ld M m (M.L.desc v)) (ld M (al M me m t d).2.1 (M.L.desc v)):=fun e=>by
  rcases hs.desc v h0 h1 with h | h
  ·exact .inl h
  ·rw[e] at h;cases h
 rcases(by have:=hd.at_;omega:d.at_=0∨d.at_=1∨d.at_=2∨d.at_=3∨d.at_=4∨d.at_=5∨d.at_=6∨d.at_=7∨8≤d.at_) with a | a | a | a | a | a | a | a | a
 ·exact quiet (cq (.inl a))
 ·rw[iK a];exact(oF hL hm hu hN ht (hd.help (.inl a))).1.desc v h0 h1
 ·exact quiet (cq (.inr (.inl a)))
 ·rw[kf a];exact(yR hL hm hu hN ht (hd.fast a)).1.desc v h0 h1
 ·exact quiet (cq (.inr (.inr (.inl ⟨a,fun e=>hne ⟨a,e⟩⟩))))
 ·rw[gI a];exact(oF hL hm hu hN ht (hd.help (.inr a))).1.desc v h0 h1
 ·exact quiet (cq (.inr (.inr (.inr (.inl a)))))
 ·rw[iL a]
  have:=(gm hL hm hu hN (hd.find a).1.1 (hd.find a).1.2).1.desc v h0 h1
  split<;>exact this
 ·exact quiet (cq (.inr (.inr (.inr (.inr a)))))
theorem y3 {d:aI} (h0:d.at_=4) (h4:d.ann.at_=4):al M me m t d=(false,st M m (M.L.desc me) (cv (getD' d.ann.found).cp),t,{ d with ann:={ d.ann with at_:=5 },at_:=5,help:= .new M.L me d.ann.no d.limit }):=by
 rw[kg h0]
 have e:aZ M me m d.ann=(true,st M m (M.L.desc me) (cv (getD' d.ann.found).cp),{ d.ann with at_:=5 }):=by unfold aZ;rw[if_neg (by omega),if_neg (by omega),if_neg (by omega),if_neg (by omega)]
 rw[e];rfl
theorem Hf {d:aI} (h:5≤d.at_) (h9:d.at_≤9):5≤(al M me m t d).2.2.2.at_:=by
 have ht:∀ (x:aI) (r:lQ),5≤(x.told M.L me r).at_:=fun x r=>by unfold aI.told;simp only;split<;>simp[aI.leave]
 rcases(by omega:d.at_=5∨d.at_=6∨d.at_=7∨d.at_=8∨d.at_=9) with a | a | a | a | a
 ·rw[gI a];simp only;split<;>(simp only;omega)
 ·rw[kh a];exact ht _ _
 ·rw[iL a];split
  ·simp[aI.leave]
  ·simp only;omega
 ·rw[ki a];split<;>(simp only;omega)
 ·rw[mB a];simp only;omega
structure nT (M:ML) (e:bu):Prop where
 ug:∀ u:Nat,u<M.L.th.toNat→2*(ug (ld M e.m (M.L.desc u)) - 3*(e.ws u).ann)≤e.steps
 cm:∀ v:Nat,v<M.L.th.toNat→∀ d,(e.ws v).now=some d→∀ p,p∈d.cm v→(0≤p.1∧p.1<M.L.th)∧age p.2≤age (ld M e.m (M.L.desc p.1))∧(p.2=ld M e.m (M.L.desc p.1)→2*(Proofs.YtbcnnhlpilmmbaaGreat.ug p.2 - 3*(e.ws p.1.toNat).ann)+1≤e.steps)
def y4 (M:ML) (m m':Mm):Prop:=∀ v:Int,0≤v→v<M.L.th→ld M m' (M.L.desc v)=ld M m (M.L.desc v)∨age (ld M m (M.L.desc v))<age (ld M m' (M.L.desc v))
theorem dw.Hg {u N:Int} {x:dw} (h:GX M m u N x):0≤x.ann∧x.ann≤40:=by
 have h1:=h.few
 have h2:=h.le
 unfold dw.ann
 cases hn:x.now with
 | none=>simp only;omega
 | some d=>
  have:=(List.getElem?_eq_some_iff.1 (h.now d hn).2.2).1
  simp only
  split<;>omega
theorem nT.small {e:bu} (h:nT M e) (ho:fI M e) (hs:e.steps≤18000) {v:Int} (h0:0≤v) (h1:v<M.L.th):(getD' (ld M e.m (M.L.desc v))).aJ<4095:=by
 obtain⟨u,rfl⟩:∃ u:Nat,v=u:=⟨v.toNat,by omega⟩
 have hp:=h.ug u (by omega)
 have ha:=dw.Hg (ho.ws u (by omega))
 have hq:=(E7 (getD' (ld M e.m (M.L.desc u))).status).1
 unfold Proofs.YtbcnnhlpilmmbaaGreat.ug at hp
 omega
theorem nT.next {e:bu} (h:nT M e) (ho:fI M e) (hs:e.steps≤18000) {u:Nat} (hu:u<M.L.th.toNat) (hl:(e.ws u).left≠0):nT M (e.next M u)∧y4 M e.m (e.next M u).m:=by
 have hn:=ho.now hu hl
 have hw:=ho.ws u hu
 have hth:=ho.lay.th
 have LY:(e.bJ M.L u).at_=4→(e.bJ M.L u).ann.at_=4→(e.bJ M.L u).ann.found=ld M e.m (M.L.desc u):=hn.own.Gy
 have hds:kp M e.m (e.did M u).2.1 ((e.bJ M.L u).cm u) (if (e.did M u).1 then [] else (e.did M u).2.2.2.cm u):=Da ho.lay (by omega) hw.st hn.ok LY
 have hws:∀ v,v≠u→(e.next M u).ws v=e.ws v:=fun v hv=>by simp only[bu.next,js,if_neg hv]
 have cG:(e.next M u).ws u=dw.stop ((e.ws u).with_ (e.bJ M.L u)) (e.did M u):=by simp only[bu.next,js,if_true]
 have hmm:(e.next M u).m=(e.did M u).2.1:=rfl
 have hst:(e.next M u).steps=e.steps+1:=rfl
 have hF:∀ p,p∈(e.bJ M.L u).cm u→(0≤p.1∧p.1<M.L.th)∧age p.2≤age (ld M e.m (M.L.desc p.1))∧(p.2=ld M e.m (M.L.desc p.1)→2*(Proofs.YtbcnnhlpilmmbaaGreat.ug p.2 - 3*(e.ws p.1.toNat).ann)+1≤e.steps):=by
  cases hnw:(e.ws u).now with
  | none=>
   have hd:e.bJ M.L u= .new M.L ((e.ws u).tasks.getD (e.ws u).ended .zero) e.tries:=by unfold bu.bJ;rw[hnw];rfl
   rw[hd,cq (.inl rfl)]
   exact yY
  | some d=>
   have hd:e.bJ M.L u=d:=by unfold bu.bJ;rw[hnw];rfl
   rw[hd]
   exact h.cm u hu d hnw
 have Fy:(e.ws u).ann≤((e.next M u).ws u).ann∧((e.bJ M.L u).at_=4→(e.bJ M.L u).ann.at_=4→(e.ws u).ann+1≤((e.next M u).ws u).ann):=by
  have hE:∀ x:dw,x=(e.ws u)→x.ann=(x.ended:Int)+if (e.ws u).now.isSome∧5≤(e.bJ M.L u).at_ then 1 else 0:=fun x hx=>by
   subst hx
   unfold dw.ann
   cases hnw:(e.ws u).now with
   | none=>simp
   | some d=>
    have hd:e.bJ M.L u=d:=by unfold bu.bJ;rw[hnw];rfl
    rw[hd];simp
  rw[hE _ rfl,cG]
  have h9:=hn.ok.at_
  have h5:5≤(e.bJ M.L u).at_→5≤(e.did M u).2.2.2.at_:=fun a=>Hf a h9.2
  have oz:(e.bJ M.L u).at_=4→(e.bJ M.L u).ann.at_=4→(e.did M u).1=false∧(e.did M u).2.2.2.at_=5:=fun a b=>by
   unfold bu.did
   rw[y3 a b]
   exact⟨rfl,rfl⟩
  have hle:(0:Int)≤(if (e.ws u).now.isSome∧5≤(e.bJ M.L u).at_ then (1:Int) else 0)∧(if (e.ws u).now.isSome∧5≤(e.bJ M.L u).at_ then (1:Int) else 0)≤1∧(¬ 5≤(e.bJ M.L u).at_→(if (e.ws u).now.isSome∧5≤(e.bJ M.L u).at_ then (1:Int) else 0)=0):=by
   refine⟨by split<;>omega,by split<;>omega,fun a=>if_neg (fun b=>a b.2)⟩
  generalize(if (e.ws u).now.isSome∧5≤(e.bJ M.L u).at_ then (1:Int) else 0)=c at hle
  cases hr:(e.did M u).1 with
  | true=>
   have hx:(dw.stop ((e.ws u).with_ (e.bJ M.L u)) (e.did M u)).ann=((e.ws u).ended:Int)+1:=by
    unfold dw.stop
    rw[if_pos hr]
    simp[dw.ann]
   rw[hx]
   exact⟨by omega,fun a b=>by have:=(oz a b).1;rw[hr] at this;cases this⟩
  | false=>
   have hx:(dw.stop ((e.ws u).with_ (e.bJ M.L u)) (e.did M u)).ann=((e.ws u).ended:Int)+if 5≤(e.did M u).2.2.2.at_ then 1 else 0:=by
    unfold dw.stop
    rw[if_neg (by rw[hr];decide)]
    simp[dw.ann]
   rw[hx]
   refine⟨?_,fun a b=> ?_⟩
   ·by_cases a:5≤(e.bJ M.L u).at_
    ·rw[if_pos (h5 a)];omega
    ·have:=hle.2.2 a
     split<;>omega
   ·rw[(oz a b).2,hle.2.2 (by omega)]
    simp
 have E9:∀ v:Nat,(e.ws v).ann≤((e.next M u).ws v).ann:=fun v=>by
  by_cases hv:v=u
  ·subst hv;exact Fy.1
  ·rw[hws v hv];omega
 have Hh:∀ v:Int,0≤v→v<M.L.th→ld M (e.next M u).m (M.L.desc v)=ld M e.m (M.L.desc v)∨((v,ld M e.m (M.L.desc v))∈(e.bJ M.L u).cm u∧age (ld M e.m (M.L.desc v))<age (ld M (e.next M u).m (M.L.desc v))∧Proofs.YtbcnnhlpilmmbaaGreat.ug (ld M (e.next M u).m (M.L.desc v)) - 3*((e.next M u).ws v.toNat).ann≤Proofs.YtbcnnhlpilmmbaaGreat.ug (ld M e.m (M.L.desc v)) - 3*(e.ws v.toNat).ann+1):=fun v h0 h1=>by
  have hsm:=h.small ho hs h0 h1
  by_cases hq:ld M (e.next M u).m (M.L.desc v)=ld M e.m (M.L.desc v)
  ·exact .inl hq
  ·right
   have hmem:=(hds.desc v h0 h1).resolve_left hq
   refine⟨hmem,?_⟩
   by_cases oz:(e.bJ M.L u).at_=4∧(e.bJ M.L u).ann.at_=4
   ·have Fz:=hmem
    rw[qF oz.1 oz.2] at Fz
    have hv:v=(u:Int):=congrArg Prod.fst (List.mem_singleton.1 Fz)
    subst hv
    have hid:=hn.own.idle (.inl (by omega))
    have hval:ld M (e.next M u).m (M.L.desc u)=cv (getD' (ld M e.m (M.L.desc u))).cp:=by
     rw[hmm];unfold bu.did
     rw[y3 oz.1 oz.2,hn.own.Gy oz.1 oz.2]
     exact cL _ _ (by have:=ho.lay.nd;simp only[Ly.desc,Ly.size];omega)
    have:=Ar (x:=ld M e.m (M.L.desc u)) (y:=ld M (e.next M u).m (M.L.desc u)) (by rw[hval];exact dB (iz _)) hid hsm
    have h3:=Fy.2 oz.1 oz.2
    rw[Int.toNat_natCast]
    omega
   ·have hp:=(E8 ho.lay ho.mem (by omega) (by omega) hw.st hn.ok oz hn.own.Gy v h0 h1).resolve_left hq
    have:=Aq hp hsm
    have h3:=E9 v.toNat
    exact⟨this.1,by have:=this.2;rw[hmm];unfold bu.did;omega⟩
 refine⟨⟨fun v hv=> ?_,fun v hv d hd p hp=> ?_⟩,fun v h0 h1=>(Hh v h0 h1).imp id (·.2.1)⟩
 ·have hv0:=h.ug v hv
  have h3:=E9 v
  rcases Hh v (by omega) (by omega) with e1 | ⟨e1,-,e2⟩
  ·rw[e1,hst];omega
  ·have:=(hF _ e1).2.2 rfl
   simp only[Int.toNat_natCast] at this e2
   rw[hst];omega
 ·
  have old:∀ p:Int×Int,(0≤p.1∧p.1<M.L.th)→age p.2≤age (ld M e.m (M.L.desc p.1))→(p.2=ld M e.m (M.L.desc p.1)→2*(Proofs.YtbcnnhlpilmmbaaGreat.ug p.2 - 3*(e.ws p.1.toNat).ann)+1≤e.steps)→(0≤p.1∧p.1<M.L.th)∧age p.2≤age (ld M (e.next M u).m (M.L.desc p.1))∧(p.2=ld M (e.next M u).m (M.L.desc p.1)→2*(Proofs.YtbcnnhlpilmmbaaGreat.ug p.2 - 3*((e.next M u).ws p.1.toNat).ann)+1≤(e.next M u).steps):=fun p h0 h1 h2=>by
   have h3:=E9 p.1.toNat
   rcases Hh p.1 h0.1 h0.2 with e1 | ⟨-,e1,-⟩
   ·rw[e1]
    exact⟨h0,h1,fun hh=>by have:=h2 hh;rw[hst];omega⟩
   ·exact⟨h0,by omega,fun hh=>by rw[←hh] at e1;omega⟩
  by_cases hvu:v=u
  ·subst hvu
   rw[cG] at hd
   unfold dw.stop at hd
   split at hd
   ·simp at hd
   ·rename_i hr
    simp only[Option.some.injEq] at hd
    subst hd
    rw[if_neg hr] at hds
    rcases hds.next p hp with h1 | ⟨h1,h2,h3⟩
    ·have:=hF p h1
     exact old p this.1 this.2.1 this.2.2
    ·have hpt:=h.ug p.1.toNat (by omega)
     rw[show ((p.1.toNat:Nat):Int)=p.1 by omega] at hpt
     have h4:=E9 p.1.toNat
     refine⟨h3,?_,fun _=> ?_⟩
     ·rw[hmm,h2,h1];omega
     ·rw[h1,hst];omega
  ·rw[hws v hvu] at hd
   have:=h.cm v hv d hd p hp
   exact old p this.1 this.2.1 this.2.2
theorem nT.init {shape tries:Int} {ops:List (List Opn)}:nT M (.init shape tries ops):=by
 have hz:∀ a,ld M (fun _=>0) a=0:=fun a=>by unfold ld;split<;>rfl
 refine⟨fun u _=> ?_,fun v _ d hd=>by simp[bu.init,dM] at hd⟩
 rw[show (bu.init shape tries ops).m=fun _=>0 from rfl,hz]
 simp[bu.init,dM,dw.ann,Proofs.YtbcnnhlpilmmbaaGreat.ug,getD',DA]
end Go.Proofs.YtbcnnhlpilmmbaaGreat
