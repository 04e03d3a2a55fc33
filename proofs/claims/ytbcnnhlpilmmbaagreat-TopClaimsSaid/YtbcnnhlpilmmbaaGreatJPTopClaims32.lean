/- Texts that are wanted for PTopClaims.
   Conditions: none. -/
import Derived.Test.YtbcnnhlpilmmbaaGreatJPTopClaims27
import Derived.Test.YtbcnnhlpilmmbaaGreatJPTopClaims31
set_option maxRecDepth 100000
set_option maxHeartbeats 6400000
namespace Go.Proofs.YtbcnnhlpilmmbaaGreat
open Go Go.RowKit
section
variable {M:ML} {sh me:Int} {m:Mm} {P:Gh}
theorem nE (hL:M.L.Ok) (hx:Cx M sh m P) {a y:Int} (ha:2*M.L.nd+5+2*M.L.th≤a) (hd:∀ w,0≤w→w<M.L.th→a≠M.L.desc w)
  (ht:∀ w,0≤w→w<M.L.th→a=M.L.task w→(stt M m w=0∨stt M m w=5)∧∃ k:bl,k.may=true∧k.sh=sh∧y=k.num) (hin:a<M.L.size):Act M sh me m (st M m a y) P P:=by
 have hn:=hL.nd
 have hth:=hL.th
 obtain⟨a1,a2⟩:=sH (u:=me) (m':=st M m a y) hx.nU hx.g (fun b h1 h2=>ak _ _ (by omega)) (fun w h1 h2=>ak _ _ (hd w h1 h2)) (fun n h1 h2=>ak _ _ (by simp only[Ly.life];omega)) (fun v i h1 h2 h3 h4 _=>ak _ _ (by simp only[Ly.slot];omega))
  (fun w h1 h2 h3 h4=>ak _ _ fun e=>by
   have:=(ht w h1 h2 e).1
   omega)
  (fun w h1 h2=>by
   by_cases e:a=M.L.task w
   ·obtain⟨-,k,k1,k2,rfl⟩:=ht w h1 h2 e
    right
    subst e
    simp only[tk]
    rw[cL _ _ (by simp only[Ly.task] at hin ha⊢;omega),uL k1];exact k2
   ·exact .inl (ak _ _ e))
 exact⟨a1,a2⟩
theorem JT (hx:Cx M sh m P) (hu:0≤me∧me<M.L.th) {d:aI} (hd:d.task.may=true) (hs:d.task.sh=sh) (hat:0≤d.ann.at_∧d.ann.at_≤4) (h0:d.at_=4) (ho:Own M me m d):Act M sh me m (aZ M me m d.ann).2.1 P P:=by
 have hL:=hx.lay
 have hn:=hL.nd
 have hth:=hL.th
 have hi:=ho.idle (by omega)
 unfold aZ
 split
 ·refine nE hL hx (by simp only[Ly.task];omega) (fun w h1 h2=>by simp only[Ly.task,Ly.desc];omega) (fun w h1 h2 e=> ?_) (by simp only[Ly.task,Ly.size];omega)
  have e2:w=me:=by simp only[Ly.task] at e;omega
  subst e2
  exact⟨hi,d.task,hd,hs,ho.bits h0⟩
 ·split
  ·exact nE hL hx (by simp only[Ly.counter];omega) (fun w h1 h2=>by simp only[Ly.counter,Ly.desc];omega) (fun w h1 h2 e=>by simp only[Ly.counter,Ly.task] at e;omega) (by simp only[Ly.counter,Ly.size];omega)
  ·split
   ·exact nE hL hx (by simp only[Ly.ticket];omega) (fun w h1 h2=>by simp only[Ly.ticket,Ly.desc];omega) (fun w h1 h2 e=>by simp only[Ly.ticket,Ly.task] at e;omega) (by simp only[Ly.ticket,Ly.size];omega)
   ·split
    ·exact hx.stay me
    ·have hf:=ho.Gy h0 (by omega)
     have hy:=dB (iz d.ann.found)
     have hi':(aX M m me).status=0∨(aX M m me).status=5:=hi
     obtain⟨a1,a2⟩:=nB (me:=me) hL hx.nU hx.g (y:=cv (getD' d.ann.found).cp) (P':=P) hu (by omega) (by omega) (by rw[hy];simp[Ds.cp]) (sk _ hy) (.inl rfl)
     exact⟨a1,a2⟩
theorem sM {m':Mm} {P':Gh} (hL:M.L.Ok) {t:cg} {d:aI} (hm:d.task.may=true) (hs:d.task.sh=sh) (hsp:t.spare≠0→P' t.spare= .spare me) (hO:cU P' me t.ret):mM M sh me m' P' t (d.aR M.L me):=
 ⟨hs,hsp,fun e=>by simp[aI.aR] at e,fun e=>by simp[aI.aR] at e,fun e=>by simp[aI.aR] at e,fun _=>qN hL hm hs hO,fun e=>by simp[aI.aR] at e,fun e=>by simp[aI.aR] at e⟩
theorem ku {m':Mm} {P':Gh} {t:cg} {d:aI} (hs:d.task.sh=sh) (hsp:t.spare≠0→P' t.spare= .spare me) (hO:cU P' me t.ret):mM M sh me m' P' t (d.leave me):=
 ⟨hs,hsp,fun _=>hO,fun e=>by simp[aI.leave] at e,fun e=>by simp[aI.leave] at e,fun e=>by simp[aI.leave] at e,fun e=>by simp[aI.leave] at e,fun e=>by simp[aI.leave] at e⟩
theorem qO {m':Mm} {P':Gh} (hL:M.L.Ok) {t:cg} {d:aI} (hm:d.task.may=true) (hs:d.task.sh=sh) (hsp:t.spare≠0→P' t.spare= .spare me) (hO:cU P' me t.ret):mM M sh me m' P' t (d.want M.L me t):=by
 unfold aI.want
 split
 ·exact⟨hs,hsp,fun e=>by simp at e,fun e=>by simp at e,fun _=>sL hO,fun e=>by simp at e,fun e=>by simp at e,fun e=>by simp at e⟩
 ·exact sM hL hm hs hsp hO
theorem qP {m':Mm} {P':Gh} (hL:M.L.Ok) {t:cg} {d:aI} (hm:d.task.may=true) (hs:d.task.sh=sh) (hsp:t.spare≠0→P' t.spare= .spare me) (hO:cU P' me t.ret) (r:lQ):mM M sh me m' P' t (d.told M.L me r):=by
 unfold aI.told
 simp only
 split
 ·exact ku (d:={ d with res:=r }) hs hsp hO
 ·exact⟨hs,hsp,fun e=>by simp at e,fun e=>by simp at e,fun e=>by simp at e,fun e=>by simp at e,fun _=>⟨nC hL hm hs _,b9 hO⟩,fun e=>by simp at e⟩
theorem jz {m':Mm} {P':Gh} {t:cg} {d:aI} (h1:d.at_=1∨d.at_=5) (hs:d.task.sh=sh) (hsp:t.spare≠0→P' t.spare= .spare me) (h:rL M sh me m' P' t d.help):mM M sh me m' P' t d:=
 ⟨hs,hsp,fun e=>by omega,fun _=>h,fun e=>by omega,fun e=>by omega,fun e=>by omega,fun e=>by omega⟩
theorem fK {m':Mm} {P':Gh} {t:cg} {d:aI} (h1:d.at_=0∨d.at_=4∨d.at_=6∨d.at_=8) (hs:d.task.sh=sh) (hsp:t.spare≠0→P' t.spare= .spare me) (hO:cU P' me t.ret):mM M sh me m' P' t d:=
 ⟨hs,hsp,fun _=>hO,fun e=>by omega,fun e=>by omega,fun e=>by omega,fun e=>by omega,fun e=>by omega⟩
theorem JU (hx:Cx M sh m P) (hu:0≤me∧me<M.L.th) {t:cg} {d:aI} {N:Int} (_:0≤N) (ht:bL M.L t N) (hd:fq M.L me t d N) (ho:Own M me m d) (k:mM M sh me m P t d)
  (Fb:∀ p,p∈d.cm me→age p.2≤age (ld M m (M.L.desc p.1))) (hold:y4 M m (al M me m t d).2.1):
  y7 M sh me m (al M me m t d).2.1 P (al M me m t d).2.2.1 (al M me m t d).1 (fun P'=>mM M sh me (al M me m t d).2.1 P' (al M me m t d).2.2.1 (al M me m t d).2.2.2):=by
 have hL:=hx.lay
 have hmay:=hd.may
 have hs:=k.iS
 have hsp:=k.spare
 have jN:d.at_=1∨d.at_=5→1≤d.help.at_→age d.help.found≤age (ld M m (M.L.desc d.help.u)):=fun a b=>Fb (d.help.u,d.help.found) (by rw[gN a];exact e7 b)
 rcases(by have:=hd.at_;omega:d.at_=0∨d.at_=1∨d.at_=2∨d.at_=3∨d.at_=4∨d.at_=5∨d.at_=6∨d.at_=7∨d.at_=8∨d.at_=9) with h0 | h0 | h0 | h0 | h0 | h0 | h0 | h0 | h0 | h0
 ·have hO:=k.outs (by omega)
  rw[my h0]
  refine⟨P,hx.stay me,hsp,fun _=> ?_,fun e=>by simp at e⟩
  simp only
  split
  ·unfold aI.looked
   split
   ·exact qO (d:={ d with head:=(cB M m d.head).2.2 }) hL hmay hs hsp hO
   ·exact jz (.inl rfl) hs hsp (di rfl hO)
  ·exact fK (.inl h0) hs hsp hO
 ·have hh:=FE hx hu ht (hd.help (.inl h0)) (k.help (.inl h0)) hsp (jN (.inl h0)) (by rw[iK h0] at hold;exact hold)
  obtain⟨P',a1,a2,a3,a4⟩:=hh.ex
  rw[iK h0]
  refine⟨P',a1,a2,fun _=> ?_,fun e=>by simp at e⟩
  simp only
  split
  ·rename_i hr
   exact qO (d:={ d with help:=(ah M me m t d.help).2.2.2 }) hL hmay hs a2 (a4 hr)
  ·rename_i hr
   exact jz (.inl h0) hs a2 (a3 (by simpa using hr))
 ·obtain⟨P',a1,a2,a3,a4⟩:=(FD hx hu ht (hd.bm h0) (k.bm h0) hsp).ex
  rw[mA h0]
  refine⟨P',a1,a2,fun _=> ?_,fun e=>by simp at e⟩
  simp only
  split
  ·rename_i hr
   unfold aI.ensured
   split
   ·exact ku (d:={ d with bm:=(aK M me m t d.bm).2.2.2,res:=⟨4,false,0⟩ }) hs a2 (a4 hr).1
   ·exact sM (d:={ d with bm:=(aK M me m t d.bm).2.2.2 }) hL hmay hs a2 (a4 hr).1
  ·rename_i hr
   exact⟨hs,a2,fun e=>by simp only at e;omega,fun e=>by simp only at e;omega,fun _=>a3 (by simpa using hr),fun e=>by simp only at e;omega,fun e=>by simp only at e;omega,fun e=>by simp only at e;omega⟩
 ·obtain⟨P',a1,a2,a3,a4⟩:=(JR hx hu ht (hd.fast h0) (k.fast h0) hsp).ex
  rw[kf h0]
  refine⟨P',a1,a2,fun _=> ?_,fun e=>by simp at e⟩
  simp only
  split
  ·rename_i hr
   unfold aI.tried
   split
   ·exact qP (d:={ d with fast:=(aH M me m t d.fast).2.2.2 }) hL hmay hs a2 (a4 hr) _
   ·exact fK (.inr (.inl rfl)) hs a2 (a4 hr)
  ·rename_i hr
   exact⟨hs,a2,fun e=>by simp only at e;omega,fun e=>by simp only at e;omega,fun e=>by simp only at e;omega,fun _=>a3 (by simpa using hr),fun e=>by simp only at e;omega,fun e=>by simp only at e;omega⟩
 ·have hO:=k.outs (by omega)
  have ha:=JT hx hu hmay hs (hd.ann h0).1 h0 ho
  rw[kg h0]
  refine⟨P,ha,hsp,fun _=> ?_,fun e=>by simp at e⟩
  simp only
  split
  ·exact jz (.inr rfl) hs hsp (di rfl hO)
  ·exact fK (.inr (.inl h0)) hs hsp hO
 ·have hh:=FE hx hu ht (hd.help (.inr h0)) (k.help (.inr h0)) hsp (jN (.inr h0)) (by rw[gI h0] at hold;exact hold)
  obtain⟨P',a1,a2,a3,a4⟩:=hh.ex
  rw[gI h0]
  refine⟨P',a1,a2,fun _=> ?_,fun e=>by simp at e⟩
  simp only
  split
  ·rename_i hr
   exact fK (.inr (.inr (.inl rfl))) hs a2 (a4 hr)
  ·rename_i hr
   exact jz (.inr h0) hs a2 (a3 (by simpa using hr))
 ·have hO:=k.outs (by omega)
  rw[kh h0]
  exact⟨P,hx.stay me,hsp,fun _=>qP hL hmay hs hsp hO _,fun e=>by simp at e⟩
 ·obtain⟨k1,k2⟩:=k.find h0
  have hf:=hd.find h0
  obtain⟨P',a1,a2,a3,a4⟩:=(Dk hx hu hf.1.1 hf.1.2 k1 k2).ex
  have hsp':=dN hsp (lP (me:=me) a2)
  rw[iL h0]
  split
  ·exact⟨P',a1,hsp',fun _=>ku (t:=t.retire (aw M m d.find).2.2.aO) (d:={ d with find:=(aw M m d.find).2.2 }) hs hsp' a3,fun e=>by simp at e⟩
  ·rename_i hr
   exact⟨P',a1,hsp',fun _=>⟨hs,hsp',fun e=>by simp only at e;omega,fun e=>by simp only at e;omega,fun e=>by simp only at e;omega,fun e=>by simp only at e;omega,fun _=>⟨a4.on (by simpa using hr),a3⟩,fun e=>by simp only at e;omega⟩,fun e=>by simp at e⟩
 ·have hO:=k.outs (by omega)
  have hdr:=hd.drop h0
  have hg:Act M sh me m (ei M m d.drop).2.1 P P:=by
   unfold ei
   rw[hdr.1]
   obtain⟨a1,a2,-⟩:=qJ (x:=0) hL hx.nU hx.g hu (i:=d.drop.at_) hdr.2
   exact⟨a1,a2⟩
  rw[ki h0]
  split
  ·exact⟨P,hg,hsp,fun _=>⟨hs,hsp,fun e=>by simp at e,fun e=>by simp at e,fun e=>by simp at e,fun e=>by simp at e,fun e=>by simp at e,fun _=>hO⟩,fun _=>hO⟩
  ·exact⟨P,hg,hsp,fun _=>fK (.inr (.inr (.inr h0))) hs hsp hO,fun e=>by simp at e⟩
 ·obtain⟨P',a1,a2,a3,a4⟩:=FB hx hu ht (hd.sweep h0) (k.sweep h0)
  have hsp':(a7 M m t d.sweep).2.2.1.spare≠0→P' (a7 M m t d.sweep).2.2.1.spare= .spare me:=fun h=>by
   rw[wE] at h⊢;exact a2 _ (hsp h)
  rw[mB h0]
  exact⟨P',a1,hsp',fun e=>⟨hs,hsp',fun e=>by simp only at e;omega,fun e=>by simp only at e;omega,fun e=>by simp only at e;omega,fun e=>by simp only at e;omega,fun e=>by simp only at e;omega,fun _=>a3 e⟩,a4⟩
theorem AF {m':Mm} {P':Gh} (_:M.L.Ok) {t:cg} {k:bl} {lim:Int} (hs:k.sh=sh) (hsp:t.spare≠0→P' t.spare= .spare me) (hO:cU P' me t.ret):mM M sh me m' P' t (.new M.L k lim):=fK (.inl rfl) hs hsp hO
end
structure hJ (M:ML) (sh:Int) (e:bu) (P:Gh):Prop where
 age:nT M e
 ver:∀ a,1≤a→a≤M.L.nd+4→(wd M e.m a).ver≤e.steps
 g:GI M sh e.m P
 idle:∀ u:Nat,u<M.L.th.toNat→(e.ws u).now=none→((e.ws u).st.spare≠0→P (e.ws u).st.spare= .spare u)∧cU P u (e.ws u).st.ret
 ops:∀ u:Nat,u<M.L.th.toNat→∀ d,(e.ws u).now=some d→mM M sh u e.m P (e.ws u).st d
 iS:∀ u:Nat,u<M.L.th.toNat→∀ k∈(e.ws u).tasks,k.sh=sh
variable {M:ML} {sh:Int}
theorem hJ.next {e:bu} {P:Gh} (h:hJ M sh e P) (ho:fI M e) (hs:e.steps≤18000) {u:Nat} (hu:u<M.L.th.toNat) (hl:(e.ws u).left≠0) (hs6:e.steps<60000):∃ P',hJ M sh (e.next M u) P':=by
 have hn:=ho.now hu hl
 have hw:=ho.ws u hu
 have hth:=ho.lay.th
 have hnx:=ho.next hu hl hs6
 have hag:=h.age.next ho hs hu hl
 have hws:∀ v,v≠u→(e.next M u).ws v=e.ws v:=fun v hv=>by simp only[bu.next,js,if_neg hv]
 have cG:(e.next M u).ws u=dw.stop ((e.ws u).with_ (e.bJ M.L u)) (e.did M u):=by simp only[bu.next,js,if_true]
 have hmm:(e.next M u).m=(e.did M u).2.1:=rfl
 have hst:(e.next M u).steps=e.steps+1:=rfl
 have hcx:Cx M sh e.m P:=⟨ho.lay,ho.mem,h.g,fun a h1 h2=>by have:=h.ver a h1 h2;omega⟩
 have hk:mM M sh u e.m P (e.ws u).st (e.bJ M.L u)∧∀ p,p∈(e.bJ M.L u).cm u→Proofs.YtbcnnhlpilmmbaaGreat.age p.2≤Proofs.YtbcnnhlpilmmbaaGreat.age (ld M e.m (M.L.desc p.1)):=by
  cases hnw:(e.ws u).now with
  | none=>
   have hd:e.bJ M.L u= .new M.L ((e.ws u).tasks.getD (e.ws u).ended .zero) e.tries:=by unfold bu.bJ;rw[hnw];rfl
   have htk:=hn.task
   rw[hd] at htk⊢
   have hi:=h.idle u hu hnw
   refine⟨AF ho.lay ?_ hi.1 hi.2,by rw[cq (.inl rfl)];exact yY⟩
   exact h.iS u hu _ (List.mem_of_getElem? htk)
  | some d=>
   have hd:e.bJ M.L u=d:=by unfold bu.bJ;rw[hnw];rfl
   rw[hd]
   exact⟨h.ops u hu d hnw,fun p hp=>(h.age.cm u hu d hnw p hp).2.1⟩
 obtain⟨P',a1,a2,a3,a4⟩:=(JU hcx (me:=(u:Int)) (by omega) (N:=e.steps) (by omega) hw.st hn.ok hn.own hk.1 hk.2 hag.2).ex
 have hsx:Sx M sh u e.m (e.next M u).m P P':=⟨ho.lay,ho.mem,hnx.1.mem,h.g,a1.g,a1.s,hnx.2,hag.2,fun v h0 h1=>h.age.small ho hs h0 h1⟩
 refine⟨P',hag.1,fun a h1 h2=> ?_,a1.g,fun v hv H9=> ?_,fun v hv d hd=> ?_,fun v hv k hkm=> ?_⟩
 ·have h3:=a1.s.ver a h1 h2
  have h4:=h.ver a h1 h2
  have h5:(wd M (e.next M u).m a).ver≤(wd M e.m a).ver+1:=h3
  rw[hst];omega
 ·by_cases hvu:v=u
  ·subst hvu
   rw[cG] at H9⊢
   unfold dw.stop at H9⊢
   by_cases hr:(e.did M v).1=true
   ·rw[if_pos hr]
    exact⟨a2,a4 hr⟩
   ·rw[if_neg hr] at H9
    simp at H9
  ·rw[hws v hvu] at H9⊢
   have hi:=h.idle v hv H9
   have hvw:=(ho.ws v hv).st.spare
   exact⟨fun e0=>(a1.s.Fx _ v (by omega) hvw.2 (by omega) (hi.1 e0)).1,hi.2.st a1.s (by omega)⟩
 ·by_cases hvu:v=u
  ·subst hvu
   rw[cG] at hd⊢
   unfold dw.stop at hd⊢
   by_cases hr:(e.did M v).1=true
   ·rw[if_pos hr] at hd
    simp at hd
   ·rw[if_neg hr] at hd⊢
    simp only[Option.some.injEq] at hd
    subst hd
    have hr':(e.did M v).1=false:=by simpa using hr
    exact a3 hr'
  ·rw[hws v hvu] at hd⊢
   obtain⟨d1,d2,d3⟩:=(ho.ws v hv).now d hd
   exact(h.ops v hv d hd).st hsx (by omega) (by omega) (ho.ws v hv).st d1 (fun p hp=>(h.age.cm v hv d hd p hp).2.1)
 ·by_cases hvu:v=u
  ·subst hvu
   rw[cG] at hkm
   unfold dw.stop at hkm
   refine h.iS v hv k ?_
   revert hkm
   split<;>exact id
  ·rw[hws v hvu] at hkm;exact h.iS v hv k hkm
theorem hJ.init {shape tries:Int} {ops:List (List Opn)} (_:M.L.Ok):hJ M shape (.init shape tries ops) (fun _=> .free):=by
 have hz:∀ a,ld M (bu.init shape tries ops).m a=0:=fun a=>by unfold ld;split<;>rfl
 have hw:∀ a,wd M (bu.init shape tries ops).m a=⟨0,0,false,0,0⟩:=fun a=>by simp only[wd,hz];simp[ao]
 have hd:∀ w,(aX M (bu.init shape tries ops).m w).status=0:=fun w=>by simp only[aX,hz];simp[getD']
 refine⟨.init,fun a _ _=>by rw[hw];simp,⟨⟨fun a _ _ _ h=> ?_,fun a b _ _ _ _ _ _ _ h=> ?_,(fun _ n t k _ _ h=>by cases h),fun _ n _ _=>by rw[hw];exact⟨rfl,rfl⟩⟩,fun n _ _=>by rw[hz];simp,fun a _ _ h=> ?_,fun w _ _ h=>by rw[hd] at h;omega,fun w _ _ h=>by rw[hd] at h;omega,fun w _ _ h=>by rw[hd] at h;omega,fun w _ _ h=> ?_⟩,fun u _ _=> ?_,fun u _ d hd=>by simp[bu.init,dM] at hd,fun u _ k hk=> ?_⟩
 ·rw[hw] at h;simp at h
 ·rw[hw] at h;simp at h
 ·rw[hw] at h;simp at h
 ·rw[hz] at h
  exact absurd h (by decide)
 ·refine⟨fun e=>by simp[bu.init,dM] at e,List.nodup_nil,fun n hn=>by simp[bu.init,dM] at hn⟩
 ·simp only[bu.init,dM,gZ,List.mem_map] at hk
  obtain⟨o,-,rfl⟩:=hk
  rfl
theorem hJ.says {e:bu} {P:Gh} (h:hJ M sh e P) {a:Int} (h1:1≤a) (h2:a≤M.L.nd+4) (hc:(wd M e.m a).claim≠0):(wd M e.m a).claim≤M.L.th∧Fit M e.m a ((wd M e.m a).claim - 1):=⟨(h.g.cl a h1 h2 hc).1,(h.g.cl a h1 h2 hc).2.1⟩
theorem AG {e:bu} {u:Int} (h:e.can M u=true):e.pick M u=e.next M u.toNat:=by unfold bu.pick;rw[if_pos h]
theorem wH (sh th nd tr:Int) (A:Option Addr) (n cap B:Nat) (ops:List (List Opn)) (AL:Option Addr) (m cl:Nat) (ps:List yg) (w:World) (hs:dU w B A n ops) (hl:Sl w B 2 AL m (ps.flatMap yg.cells)) (hpl:ps.length=m) (hB:B≤w.heap.size):
  Calls Tryz.prog 4 #[.agg #[.int .i64 sh,.int .i64 th,.int .i64 nd,.int .i64 tr,.slice A n cap],.slice AL m cl] w fun e w'=>e= .returned (.bool true)∧Below w.heap.size w w':=by
 obtain⟨jb,hjb⟩:∃ jb,w.heap.size=jb:=⟨_,rfl⟩
 have hb1:Below w.heap.size w (w.alloc (.cells #[.int .i64 sh,.int .i64 th,.int .i64 nd,.int .i64 tr,.slice A n cap] 24)):=(Below.refl _ _).alloc (Nat.le_refl _) _
 have x1:=bo.newAt w 24 #[.int .i64 sh,.int .i64 th,.int .i64 nd,.int .i64 tr,.slice A n cap] hjb.symm
 go_enter Tryz.func4,Tryz.ntmps4
 go_wp2_with fail
 try simp only[hjb]
 generalize(w.alloc (.cells #[.int .i64 sh,.int .i64 th,.int .i64 nd,.int .i64 tr,.slice A n cap] 24))=w1 at *
 refine(ye _).mono ?_
 rintro r w2 ⟨rfl,hb2⟩
 replace hb1:=hb1.trans (hb2.mono hb1.size)
 replace x1:=x1.step hb2
 clear hb2
 have hc:=x1.cells
 go_wp2_with fail
 refine(Ai sh th nd tr A n cap B ops AL m cl _ (hs.below (hb1.mono hB)) (Nat.le_trans hB hb1.size)).mono ?_
 rintro r w3 ⟨⟨g,rfl,hg⟩,hb3⟩
 have HG:=Lib.hid hg
 replace hb1:=hb1.trans (hb3.mono hb1.size)
 replace x1:=x1.step hb3
 clear hb3 hc hg
 have hc:=x1.cells
 cases g with
 | true=>
  go_wp2_with fail
  go_ret
  exact⟨rfl,hb1⟩
 | false=>
 obtain⟨N5,hj⟩:m≤60∧yW sh th nd tr n ops:=by have:=HG.out;simpa using this
 clear HG
 go_wp2_with fail
 refine(Aj sh th nd tr A n cap B ops _ (hs.below (hb1.mono hB)) (Nat.le_trans hB hb1.size) hj).mono ?_
 rintro r w4 ⟨⟨b,E,C4,rfl,G7,hEB,hlow,hE⟩,hb4⟩
 have hI:ud w b E (.init sh tr ops) [⟨jb,24,#[.int .i64 sh,.int .i64 th,.int .i64 nd,.int .i64 tr,.slice A n cap]⟩] w4:=
  ⟨hb1.trans (hb4.mono hb1.size),fI.init (by rw[G7];exact hj.cfg) hj.Ad hj.may,Nat.le_trans hb1.size hEB,fun x hx=>by obtain rfl:=List.mem_singleton.1 hx;exact⟨by simp only;omega,show some 24∉AP from by decide⟩,C4,hE,fun g hg=>hlow g (Nat.lt_of_lt_of_le hg hb1.size),fun x hx=>by obtain rfl:=List.mem_singleton.1 hx;exact SB.mk (x1.step hb4) (hlow jb x1.lt)⟩
 clear hb4 hE hlow hEB hc x1 hb1
 have hc:=(hI.blk (List.mem_cons_self ..)).cells
 go_wp2_with fail
 refine(Am hI).mono ?_
 rintro r w5 ⟨rfl,hb5⟩
 replace hI:=hI.step hb5
 rw[G7]
 simp only[Ly.val]
 clear hc hb5
 have hth:=hj.cfg.lay.th
 have hnd:=hj.cfg.lay.nd
 simp only at hth hnd
 have L0:=hI.blk (List.mem_cons_self ..)
 have hc:=L0.cells
 have hjl:=L0.lt
 go_wp2_with fail
 replace hI:=hI.alloc 31 #[.int .i64 th,.int .i64 nd] (by decide)
 obtain⟨lb,hlb⟩:∃ lb,w5.heap.size=lb:=⟨_,rfl⟩
 clear hc L0 hjl
 generalize(w5.alloc (.cells #[.int .i64 th,.int .i64 nd] 31))=w6 at *
 simp only[hlb] at hI⊢
 obtain⟨K,hK⟩:∃ K:List Ob,K=[⟨lb,31,#[.int .i64 th,.int .i64 nd]⟩,⟨jb,24,#[.int .i64 sh,.int .i64 th,.int .i64 nd,.int .i64 tr,.slice A n cap]⟩]:=⟨_,rfl⟩
 have M1:(⟨lb,31,#[.int .i64 th,.int .i64 nd]⟩:Ob)∈K:=by rw[hK];exact List.mem_cons_self ..
 have M3:(⟨jb,24,#[.int .i64 sh,.int .i64 th,.int .i64 nd,.int .i64 tr,.slice A n cap]⟩:Ob)∈K:=by rw[hK];exact List.mem_cons_of_mem _ (List.mem_cons_self ..)
 rw[←hK] at hI
 have JV:=hj.cfg.lay
 have HC:Hid (∃ P,hJ E.M sh (bu.init sh tr ops) P∧(bu.init sh tr ops).steps≤300*0):=Lib.hid ⟨_,hJ.init (by rw[G7];exact JV),Nat.le_refl _⟩
 have M4:=Lib.hid M1
 have N6:=Lib.hid M3
 have L1:=Lib.hid G7
 clear hK hlb M1 M3 G7
 go_loopw [25] (fun i wr=>∃ k:Nat,k≤m∧i= .int .i64 k∧∃ e,ud w b E e K wr∧Hid (∃ P,hJ E.M sh e P∧e.steps≤300*k)) (fun i _=>m - (intOf i).toNat)
 case atStart=>exact⟨0,by omega,rfl,_,hI,HC⟩
 case round=>
  clear hI HC
  obtain⟨k,hk,rfl,e,hI,HC⟩:=hrel
  by_cases hlt:k<m
  ·have dk:decide ((k:Int)<(m:Int))=true:=decide_eq_true (by omega)
   obtain⟨p,hp⟩:∃ p,ps[k]? =some p:=⟨_,List.getElem?_eq_getElem (by omega)⟩
   have FM:=hl.below (hI.bel.mono hB)
   have hix:=FM.idx (P:=Tryz.prog) (c:=cl) Tryz.underlying25 JJ hlt
   obtain⟨f1,f2⟩:=G8 FM hlt hp
   obtain⟨u,tm⟩:=p
   simp only at f1 f2
   clear FM hp
   go_wp2_with fail
   have hI2:=hI.alloc 39 #[.int .i64 u,.int .i64 tm] (by decide)
   obtain⟨pb,hpb⟩:∃ pb,wr.heap.size=pb:=⟨_,rfl⟩
   generalize wr.alloc (.cells #[.int .i64 u,.int .i64 tm] 39)=w7 at *
   simp only[hpb] at hI2⊢
   clear hI f1 f2 hix hpb
   go_loopw [9] (fun x wi=>∃ (i:Nat) (e2:bu),i≤300∧x= .int .i64 i∧ud w b E e2 (⟨pb,39,#[.int .i64 u,.int .i64 tm]⟩::K) wi∧Hid (∃ P,hJ E.M sh e2 P∧e2.steps≤300*k+i)) (fun x _=>300 - (intOf x).toNat)
   case atStart=>exact⟨0,_,by omega,rfl,hI2,HC⟩
   case round=>
    clear hI2 HC e
    obtain⟨i,e,hi3,rfl,hI,HC⟩:=hrel
    have hpc:=(hI.blk (List.mem_cons_self ..)).cells
    by_cases L2:(i:Int)<tm∧i<300
    ·have d1:decide ((i:Int)<tm)=true:=decide_eq_true L2.1
     have d2:decide ((i:Int)<300)=true:=decide_eq_true (by omega)
     go_wp2_with fail
     refine(E4 hI u).mono ?_
     rintro r w8 ⟨rfl,Hl⟩
     clear hpc
     by_cases hcan:e.can E.M u=true
     ·rw[hcan]
      have hrg2:=Hl.ok.mem.rng
      have HC2:Hid (∃ P,hJ E.M sh (e.pick E.M u) P∧(e.pick E.M u).steps≤300*k+i+1):=Lib.hid (by
       obtain⟨P,h1,h2⟩:=HC.out
       obtain⟨c0,c1,c2,c3⟩:=qu hcan
       obtain⟨P',h3⟩:=h1.next hI.ok (by omega) (u:=u.toNat) (by omega) c2 c3
       rw[AG hcan]
       exact⟨P',h3,by show e.steps+1≤_;omega⟩)
      obtain⟨e3,he3⟩:∃ e3,e.pick E.M u=e3:=⟨_,rfl⟩
      rw[he3] at Hl hrg2 HC2
      clear hI hcan he3 HC
      go_wp2_with fail
      go_loopw [10] (fun y wj=>∃ v:Nat,1≤v∧(v:Int)≤nd+5∧y= .int .i64 (v:Int)∧ud w b E e3 (⟨pb,39,#[.int .i64 u,.int .i64 tm]⟩::K) wj) (fun y _=>(nd+5).toNat - (intOf y).toNat)
      case atStart=>exact⟨1,by omega,by omega,rfl,Hl⟩
      case round=>
       clear Hl
       obtain⟨v,hv1,hv2,rfl,hI⟩:=hrel
       have hlc:=(hI.blk (List.mem_cons_of_mem _ M4.out)).cells
       have e4:wrap64 (nd+4)=nd+4:=IntWalk.wrap64_in _ (by omega)
       by_cases hv:(v:Int)≤nd+4
       ·have dv:decide ((v:Int)≤nd+4)=true:=decide_eq_true hv
        go_wp2_with fail
        refine(yX hI _).mono ?_
        rintro r w' ⟨rfl,rfl⟩
        have hr:=oB (M:=E.M) hrg2 (v:Int)
        have HS:Hid ((ao (ld E.M e3.m (v:Int))).claim≠0→(ao (ld E.M e3.m (v:Int))).claim≤th∧Fit E.M e3.m (v:Int) ((ao (ld E.M e3.m (v:Int))).claim - 1)):=Lib.hid (fun h=>by
         obtain⟨P,h1,-⟩:=HC2.out
         have hL:=congrArg Ly.th L1.out
         have hN:=congrArg Ly.nd L1.out
         simp only at hL hN
         have:=h1.says (a:=(v:Int)) (by omega) (by omega) h
         rw[hL] at this
         exact this)
        clear hlc
        go_wp2_with fail
        refine(CV _ _ hr).mono ?_
        rintro r w9 ⟨rfl,Kf⟩
        replace hI:=hI.step Kf
        clear Kf
        obtain⟨⟨wk,wn,wm,wc,wv⟩,hx⟩:∃ x,ao (ld E.M e3.m (v:Int))=x:=⟨_,rfl⟩
        have hwf:=aQ (ld E.M e3.m (v:Int))
        rw[hx] at hwf HS
        simp only[hx,Wd.val]
        have HX:=Lib.hid hx
        have hwc:=hwf.claim
        simp only at hwc
        clear hx hwf hr
        have hjb2:=hI.blk (List.mem_cons_of_mem _ N6.out)
        have Hm:=hI.blk (List.mem_cons_of_mem _ M4.out)
        have hjc:=hjb2.cells
        have hlc:=Hm.cells
        have hjl:=hjb2.lt
        have hll:=Hm.lt
        simp only at hjl hll
        clear hjb2 Hm
        by_cases h0:wc=0
        ·subst h0
         go_wp2_with fail
         have hI2:=hI.alloc 54 #[.int .i64 wk,.int .i64 wn,.bool wm,.int .i64 0,.int .i64 wv] (by decide)
         go_roundw
         case rel=>exact⟨v+1,by omega,by omega,by go_num,hI2.drop⟩
         case measure=>simp[intOf]<;>omega
        ·have d0:decide (wc=0)=false:=decide_eq_false h0
         have b0:(wc==0)=false:=by simp[h0]
         obtain⟨hle,hfit⟩:=HS.out h0
         simp only at hle
         have dg:decide (wc>th)=false:=decide_eq_false (by omega)
         have OA:decide (th<wc)=false:=decide_eq_false (by omega)
         have e1:wrap64 (wc - 1)=wc - 1:=IntWalk.wrap64_in _ (by omega)
         have HF:=Lib.hid hfit
         clear hfit
         go_wp2_with fail
         have hI2:=hI.alloc 54 #[.int .i64 wk,.int .i64 wn,.bool wm,.int .i64 wc,.int .i64 wv] (by decide)
         obtain⟨ub,hub⟩:∃ ub,w9.heap.size=ub:=⟨_,rfl⟩
         generalize w9.alloc (.cells #[.int .i64 wk,.int .i64 wn,.bool wm,.int .i64 wc,.int .i64 wv] 54)=w10 at *
         simp only[hub] at hI2⊢
         clear hI hub hjc hlc hjl hll
         refine(cN ⟨th,nd⟩ JV (wc - 1) (by omega) _).mono ?_
         rintro r Mq ⟨rfl,JW⟩
         replace hI2:=hI2.step JW
         clear JW
         go_wp2_with fail
         refine(yX hI2 _).mono ?_
         rintro r w' ⟨rfl,rfl⟩
         have hr2:=oB (M:=E.M) hrg2 ((⟨th,nd⟩:Ly).desc (wc - 1))
         go_wp2_with fail
         refine(Al _ _ hr2).mono ?_
         rintro r w12 ⟨rfl,gP⟩
         replace hI2:=hI2.step gP
         clear gP
         obtain⟨⟨da,dd,M5,dn,dm,ds,dl⟩,hd⟩:∃ d,getD' (ld E.M e3.m ((⟨th,nd⟩:Ly).desc (wc - 1)))=d:=⟨_,rfl⟩
         have hfit:=HF.out
         have M6:=L1.out
         obtain⟨g1,g2,g3,g4,g5⟩:=hfit
         simp only[aX,wd,M6,hd,HX.out] at g1 g2 g3 g4 g5
         simp only[hd,Ds.vals]
         subst g2 g3 g4 g5
         have Hn:=hI2.blk (List.mem_cons_self ..)
         have huc:=Hn.cells
         have N7:=Hn.lt
         simp only at N7
         clear Hn hd M6 hr2 HF HX HS
         rcases g1 with rfl | rfl
         ·go_wp2_with fail
          have L3:=(hI2.alloc 57 #[.int .i64 da,.int .i64 (v:Int),.int .i64 M5,.int .i64 dn,.bool dm,.int .i64 2,.int .i64 dl] (by decide)).drop.drop
          go_roundw
          case rel=>exact⟨v+1,by omega,by omega,by go_num,L3⟩
          case measure=>simp[intOf]<;>omega
         ·go_wp2_with fail
          have L3:=(hI2.alloc 57 #[.int .i64 da,.int .i64 (v:Int),.int .i64 M5,.int .i64 dn,.bool dm,.int .i64 3,.int .i64 dl] (by decide)).drop.drop
          go_roundw
          case rel=>exact⟨v+1,by omega,by omega,by go_num,L3⟩
          case measure=>simp[intOf]<;>omega
       ·have dv:decide ((v:Int)≤nd+4)=false:=decide_eq_false hv
        go_wp2_with fail
        go_roundw
        case rel=>exact⟨i+1,_,by omega,by go_num,hI,HC2⟩
        case measure=>simp[intOf]<;>omega
     ·have hcf:e.can E.M u=false:=by simpa using hcan
      rw[hcf]
      rw[show e.pick E.M u=e by unfold bu.pick;rw[hcf];rfl] at Hl
      have Kv:=Hl.drop
      have Kx:Hid (∃ P,hJ E.M sh e P∧e.steps≤300*(k+1)):=Lib.hid (by obtain⟨P,h1,h2⟩:=HC.out;exact⟨P,h1,by omega⟩)
      clear hI Hl hcan hcf
      go_wp2_with fail
      go_roundw
      case rel=>exact⟨k+1,by omega,by go_num,_,Kv,Kx⟩
      case measure=>simp[intOf]<;>omega
    ·have Kv:=hI.drop
     have Kx:Hid (∃ P,hJ E.M sh e P∧e.steps≤300*(k+1)):=Lib.hid (by obtain⟨P,h1,h2⟩:=HC.out;exact⟨P,h1,by omega⟩)
     by_cases d1:(i:Int)<tm
     ·have d1':decide ((i:Int)<tm)=true:=decide_eq_true d1
      have d2:decide ((i:Int)<300)=false:=decide_eq_false (by omega)
      clear L2 d1 hI
      go_wp2_with fail
      go_roundw
      case rel=>exact⟨k+1,by omega,by go_num,_,Kv,Kx⟩
      case measure=>simp[intOf]<;>omega
     ·have d1':decide ((i:Int)<tm)=false:=decide_eq_false d1
      clear L2 d1 hI
      go_wp2_with fail
      go_roundw
      case rel=>exact⟨k+1,by omega,by go_num,_,Kv,Kx⟩
      case measure=>simp[intOf]<;>omega
  ·have dk:decide ((k:Int)<(m:Int))=false:=decide_eq_false (by omega)
   have hbel:=hI.bel
   go_wp2_with fail
   go_ret
   exact⟨rfl,hbel⟩
open Go Go.RowKit Go.ChangeShapes Go.WideShapes Go.ChangeAt Go.Deep
theorem sN:∀ rows:List (List Value),(∀ r∈rows,dK [some .i64,some .i64] r)→∃ ps:List yg,ps.length=rows.length∧rows.flatten=ps.flatMap yg.cells
 | [],_=>⟨[],rfl,rfl⟩
 | r::rows,h=>by
  obtain⟨a,b,rfl⟩:=(h r (List.mem_cons_self ..)).two
  obtain⟨ps,h1,h2⟩:=sN rows (fun x hx=>h x (List.mem_cons_of_mem _ hx))
  exact⟨⟨a,b⟩::ps,by simp[h1],by simp[h2,yg.cells]⟩
section
variable {H:Type} {enc:TypeId×Value→H} {w:World} {base:Nat} {held:Bool}
theorem yp {v:Value} {A:Option Addr} {n cap:Nat} {d:DataW H} {ps:List MemPlace} (hv:v= .slice A n cap)
  (h:DataW.Trod enc Tryz.prog w base (fun _=>true) held 22 v d ps):∃ ops,dU w w.heap.size A n ops:=by
 subst hv
 obtain⟨fuel,hf⟩:=h
 rcases open_slice Tryz.underlying22 hf with ⟨hcs,_⟩ | ⟨a,l,c,m,k,D,Pl,hcs,hb,hl,hm,hmm,hx,hi⟩
 ·simp[Value.cells] at hcs
  obtain⟨rfl,rfl,rfl⟩:=hcs
  exact⟨[],rfl,[],Sl.nil_ _ _ _,fun i l hl=>by simp at hl⟩
 ·simp[Value.cells] at hcs
  obtain⟨rfl,rfl,rfl⟩:=hcs
  rw[show Tryz.prog.cellsOf 52=1 by kernel_rfl] at hi hx
  have hml:n≤m:=by rw[hmm];exact hl
  have hrow:∀ i,i<n→∃ (l:List Opn) (A':Option Addr) (c':Nat),w.cell? (a.add i)=some (.slice A' l.length c')∧Sl w w.heap.size 2 A' l.length (l.flatMap Opn.cells):=fun i hil=>by
   obtain⟨cs',h1,h2⟩:=hi i (by omega)
   rw[Nat.mul_one] at h1
   obtain⟨_,hcl,hat⟩:=World.cells?_some h1
   have hc0:=hat 0 (by omega)
   have hsl:∃ A' n' c',cs'=[.slice A' n' c']:=by
    rcases open_slice Tryz.underlying52 h2 with ⟨e,_⟩ | ⟨a2,l2,c2,_,_,_,_,e,_⟩
    ·exact⟨none,0,0,e⟩
    ·exact⟨some a2,l2,c2,e⟩
   obtain⟨A',n',c',rfl⟩:=hsl
   obtain⟨rows,rl,rk,sl,-,-⟩:=sn (f:=6) (sz:=2) (ks:=[some .i64,some .i64]) (A:=A') (len:=n') (cap:=c') Tryz.underlying52 (by kernel_rfl) (by kernel_rfl) (by omega) ⟨_,h2⟩ (DataW.trod_lt _ _ _ _ h2)
   obtain⟨ops,ho1,ho2⟩:=sq rows rk
   rw[ho2] at sl
   have hln:ops.length=n':=ho1.trans rl
   subst hln
   exact⟨ops,A',c',by simpa [Addr.add] using hc0,sl⟩
  obtain⟨R,hR⟩:∃ R:Nat→List Opn×Option Addr×Nat,∀ i,i<n→w.cell? (a.add i)=some (.slice (R i).2.1 (R i).1.length (R i).2.2)∧Sl w w.heap.size 2 (R i).2.1 (R i).1.length ((R i).1.flatMap Opn.cells):=by
   refine⟨fun i=>if h:i<n then ⟨(hrow i h).choose,(hrow i h).choose_spec.choose,(hrow i h).choose_spec.choose_spec.choose⟩ else ⟨[],none,0⟩,fun i hil=> ?_⟩
   simp only[hil,dif_pos]
   exact(hrow i hil).choose_spec.choose_spec.choose_spec
  have hpl:0<n→a.block<w.heap.size∧a.spot=none:=fun h0=>by
   obtain⟨h1,_⟩:=hR 0 h0
   have h6:a.add 0=a:=by simp[Addr.add]
   rw[h6] at h1
   refine⟨World.block_lt_of_cell? w a h1,?_⟩
   unfold World.cell? at h1
   cases hs:a.spot with
   | none=>rfl
   | some x=>rw[hs] at h1;split at h1<;>simp at h1
  have hadd:0<n→∀ j,a.add j=⟨bZ (some a),cP (some a)+j,none⟩:=fun h0 j=>by
   obtain⟨_,hsp⟩:=hpl h0
   obtain⟨b,o,sp⟩:=a
   simp only at hsp
   subst hsp
   unfold Addr.add
   split
   ·rename_i h;subst h;simp[bZ,cP]
   ·simp[bZ,cP]
  refine⟨(List.range n).map (fun i=>(R i).1),by simp,(List.range n).map (fun i=> .slice (R i).2.1 (R i).1.length (R i).2.2),⟨by simp,fun h0=> ?_,fun h0=> ?_,fun j hj=> ?_⟩,fun i l hl=> ?_⟩
  ·have:=hadd h0 0
   rw[show a.add 0=a by simp[Addr.add]] at this
   simpa using this
  ·simpa [bZ] using (hpl h0).1
  ·have hj':j<n:=by simpa using hj
   rw[←hadd (by omega) j,(hR j hj').1]
   simp[hj']
  ·rw[List.getElem?_map] at hl
   obtain⟨i',hi',e⟩:=Option.map_eq_some_iff.1 hl
   have hin:i<n:=by simpa using (List.getElem?_eq_some_iff.1 hi').1
   rw[List.getElem?_range hin] at hi'
   injection hi' with hi'
   subst hi' e
   exact⟨(R i).2.1,(R i).1.length,(R i).2.2,by rw[List.getElem?_map,List.getElem?_range hin];rfl,(hR i hin).2,rfl⟩
theorem Dm {r:Reach} {b0:Nat} {v:Value} {d:DataW H} {ps:List MemPlace} (hw:Value.okWide Tryz.prog w r b0 24 v)
  (h:DataW.Trod enc Tryz.prog w base (fun _=>true) held 24 v d ps):∃ (sh th nd tr:Int) (A:Option Addr) (n cap:Nat) (ops:List (List Opn)),v= .agg #[.int .i64 sh,.int .i64 th,.int .i64 nd,.int .i64 tr,.slice A n cap]∧dU w w.heap.size A n ops:=by
 obtain⟨cs,rfl,hsz⟩:=okWide_struct Tryz.underlying24 hw
 rw[show Tryz.prog.cellsOf 24=5 by kernel_rfl] at hsz
 obtain⟨c0,c1,c2,c3,c4,rfl⟩:∃ c0 c1 c2 c3 c4,cs= #[c0,c1,c2,c3,c4]:=by
  obtain⟨l⟩:=cs
  match l,hsz with
  | [a,b,c,d,e],_=>exact⟨a,b,c,d,e,rfl⟩
 obtain⟨fuel,hf⟩:=h
 obtain⟨xs,m,-,-,-,hxl,hfs⟩:=DataW.trod_struct Tryz.underlying24 hf
 have N8:xs.length=5:=hxl
 have get:∀ i,i<5→∃ x,xs[i]? =some x:=fun i hi=>⟨_,List.getElem?_eq_getElem (by omega)⟩
 have h0:=hfs 0 _ rfl
 have h1:=hfs 1 _ rfl
 have h2:=hfs 2 _ rfl
 have h3:=hfs 3 _ rfl
 have h4:=hfs 4 _ rfl
 obtain⟨x0,e0⟩:=get 0 (by omega)
 obtain⟨x1,e1⟩:=get 1 (by omega)
 obtain⟨x2,e2⟩:=get 2 (by omega)
 obtain⟨x3,e3⟩:=get 3 (by omega)
 obtain⟨x4,e4⟩:=get 4 (by omega)
 rw[e0] at h0
 rw[e1] at h1
 rw[e2] at h2
 rw[e3] at h3
 rw[e4] at h4
 replace h0:DataW.trod enc Tryz.prog w base (fun _=>true) held m 3 (([c0,c1,c2,c3,c4].drop 0).take (Tryz.prog.cellsOf 3))=some x0:=h0
 rw[show Tryz.prog.cellsOf 3=1 by kernel_rfl] at h0
 replace h1:DataW.trod enc Tryz.prog w base (fun _=>true) held m 3 (([c0,c1,c2,c3,c4].drop 1).take (Tryz.prog.cellsOf 3))=some x1:=h1
 rw[show Tryz.prog.cellsOf 3=1 by kernel_rfl] at h1
 replace h2:DataW.trod enc Tryz.prog w base (fun _=>true) held m 3 (([c0,c1,c2,c3,c4].drop 2).take (Tryz.prog.cellsOf 3))=some x2:=h2
 rw[show Tryz.prog.cellsOf 3=1 by kernel_rfl] at h2
 replace h3:DataW.trod enc Tryz.prog w base (fun _=>true) held m 3 (([c0,c1,c2,c3,c4].drop 3).take (Tryz.prog.cellsOf 3))=some x3:=h3
 rw[show Tryz.prog.cellsOf 3=1 by kernel_rfl] at h3
 replace h4:DataW.trod enc Tryz.prog w base (fun _=>true) held m 22 (([c0,c1,c2,c3,c4].drop 4).take (Tryz.prog.cellsOf 22))=some x4:=h4
 rw[show Tryz.prog.cellsOf 22=1 by kernel_rfl] at h4
 simp only[List.drop_succ_cons,List.drop_zero,List.take_succ_cons,List.take_zero] at h0 h1 h2 h3 h4
 obtain⟨sh,i0,-⟩:=DataW.trod_int Tryz.underlying3 h0
 obtain⟨th,i1,-⟩:=DataW.trod_int Tryz.underlying3 h1
 obtain⟨nd,i2,-⟩:=DataW.trod_int Tryz.underlying3 h2
 obtain⟨tr,i3,-⟩:=DataW.trod_int Tryz.underlying3 h3
 have hsl:∃ A n c,c4= .slice A n c:=by
  rcases open_slice Tryz.underlying22 h4 with ⟨e,_⟩ | ⟨a2,l2,cc,_,_,_,_,e,_⟩
  ·exact⟨none,0,0,by simpa using e⟩
  ·exact⟨some a2,l2,cc,by simpa using e⟩
 obtain⟨A,n,c,rfl⟩:=hsl
 obtain⟨ops,ho⟩:=yp (enc:=enc) (held:=held) (base:=base) (d:=x4.1) (ps:=x4.2) rfl ⟨m,h4⟩
 refine⟨sh,th,nd,tr,A,n,c,ops,?_,ho⟩
 injection i0 with i0 _
 injection i1 with i1 _
 injection i2 with i2 _
 injection i3 with i3 _
 rw[i0,i1,i2,i3]
end
end Go.Proofs.YtbcnnhlpilmmbaaGreat
