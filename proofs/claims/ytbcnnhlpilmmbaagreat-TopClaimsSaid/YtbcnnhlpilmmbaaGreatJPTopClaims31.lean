/- Texts that are wanted for PTopClaims.
   Conditions: none. -/
import Derived.Test.YtbcnnhlpilmmbaaGreatJPTopClaims30
set_option maxRecDepth 100000
set_option maxHeartbeats 6400000
namespace Go.Proofs.YtbcnnhlpilmmbaaGreat
open Go Go.RowKit
def iW (me:Int) (P P':Gh):Prop:=∀ n k,P n= .out me k→P' n= .out me k
structure jF (M:ML) (sh me:Int) (m:Mm) (P:Gh) (r:Bool×Mm×bt):Prop where
 ex:∃ P',Act M sh me m r.2.1 P P'∧dx me P P'∧iW me P P'∧(r.1=false→kt M me r.2.1 P' r.2.2∧r.2.2.popped=0)∧(r.1=true→r.2.2.popped=0∨(P r.2.2.popped= .linked∧P' r.2.2.popped= .out me 0))
section
variable {M:ML} {sh me:Int} {m:Mm} {P:Gh}
theorem iX {n:Int} {p:Pl} (h1:P n≠.spare me) (h2:∀ k,P n≠.out me k):dx me P (P.put n p)∧iW me P (P.put n p):=
 ⟨fun x hx=>by rw[Gh.aE _ _ (fun e=>by subst e;exact h1 hx)];exact hx,fun x k hx=>by rw[Gh.aE _ _ (fun e=>by subst e;exact h2 k hx)];exact hx⟩
theorem dZ {x:bt} {m':Mm} {P':Gh} (ha:Act M sh me m m' P P') (h1:dx me P P') (h2:iW me P P') (h0:x.popped=0):jF M sh me m P (true,m',x):=
 ⟨P',ha,h1,h2,fun e=>by simp at e,fun _=> .inl h0⟩
theorem cV (me:Int) (P:Gh):dx me P P:=fun _ h=>h
theorem cW (me:Int) (P:Gh):iW me P P:=fun _ _ h=>h
theorem At (hx:Cx M sh m P) {x:bt} (ho:jZ M.L x) (k:kt M me m P x) (hp:x.popped=0) (h0:x.at_=0):jF M sh me m P ((x.load (ld M m (M.L.desc x.u))).1,m,(x.load (ld M m (M.L.desc x.u))).2):=by
 obtain⟨t1,t2⟩:=k.t0 h0
 have hu:=ho.u
 unfold bt.load
 split
 ·exact dZ (hx.stay me) (cV _ _) (cW _ _) hp
 ·rename_i ha
  have ha':(aX M m x.u).aJ=x.aJ:=by simpa using ha
  split
  ·rename_i hs
   have hs':(aX M m x.u).status=2:=hs
   have htk:=t2 ha' (by simp only[stt];omega) (by simp only[stt];omega)
   have:=(hx.g.H7 x.u hu.1 hu.2 hs').1
   exact⟨P,hx.stay me,cV _ _,cW _ _,fun _=>⟨⟨fun e=>by simp at e,fun _ _=>this,fun _ _=> .inl rfl,fun _ _=>htk,fun e=>by simp at e,fun e=>by simp at e,fun e=>by simp at e,fun e=>by simp at e,fun e=>by simp at e,fun e=>by simp at e,fun e=>by simp at e,fun e=>by simp at e⟩,hp⟩,fun e=>by simp at e⟩
  ·split
   ·exact⟨P,hx.stay me,cV _ _,cW _ _,fun _=>⟨⟨fun e=>by simp at e,fun _ e=>by simp at e,fun _ e=>by simp at e,fun e=>by simp at e,fun _ e=>by simp at e,fun e=>by simp at e,fun e=>by simp at e,fun e=>by simp at e,fun _ _=> .inl rfl,fun e=>by simp at e,fun e=>by simp at e,fun e=>by simp at e⟩,hp⟩,fun e=>by simp at e⟩
   ·split
    ·rename_i hs
     have htk:=t2 ha' (by simp only[stt];omega) (by simp only[stt];omega)
     exact⟨P,hx.stay me,cV _ _,cW _ _,fun _=>⟨⟨fun e=>by simp at e,fun _ e=>by simp at e,fun _ e=>by simp at e,fun _ _=>htk,fun _ e=>by simp at e,fun e=>by simp at e,fun e=>by simp at e,fun e=>by simp at e,fun _ e=>by simp at e,fun e=>by simp at e,fun e=>by simp at e,fun e=>by simp at e⟩,hp⟩,fun e=>by simp at e⟩
    ·exact dZ (hx.stay me) (cV _ _) (cW _ _) hp
theorem Au (hx:Cx M sh m P) {x:bt} (_:jZ M.L x) (k:kt M me m P x) (hp:x.popped=0) (h1:x.at_=1):jF M sh me m P (false,m,x.look (ld M m (getD' x.found).addr) 2 3 4):=by
 refine⟨P,hx.stay me,cV _ _,cW _ _,fun _=>⟨?_,hp⟩,fun e=>by simp at e⟩
 have hd:=k.d2 (by omega) (by omega)
 have he:=k.e2 (by omega) (by omega)
 have ht:=k.t2 (.inl (by omega))
 have hr:=yk (ld M m (getD' x.found).addr)
 unfold bt.look
 split
 ·rename_i hc
  exact⟨fun e=>by simp at e,fun _ _=>hd,fun _ _=>he,fun _=>ht,fun _ _=> .refl ..,fun _=>hc,fun e=>by simp at e,fun e=>by simp at e,fun e=>by simp at e,fun e=>by simp at e,fun e=>by simp at e,fun e=>by simp at e⟩
 ·rename_i hc
  split
  ·rename_i hc2
   exact⟨fun e=>by simp at e,fun _ _=>hd,fun _ e=>by simp at e,fun e=>by simp at e,fun _ _=> .refl ..,fun e=>by simp at e,fun _=>hc2,fun e=>by simp at e,fun e=>by simp at e,fun e=>by simp at e,fun e=>by simp at e,fun e=>by simp at e⟩
  ·rename_i hc2
   refine⟨fun e=>by simp at e,fun _ _=>hd,fun _ e=>by simp at e,fun e=>by simp at e,fun _ _=> .refl ..,fun e=>by simp at e,fun e=>by simp at e,fun _=>⟨?_,hc2⟩,fun e=>by simp at e,fun e=>by simp at e,fun e=>by simp at e,fun e=>by simp at e⟩
   simp only
   by_cases e:(ao (ld M m (getD' x.found).addr)).ver=(getD' x.found).ver
   ·rw[kr (fun e2=>hc ⟨e,e2⟩),e];omega
   ·omega
theorem Av (hx:Cx M sh m P) (_:0≤me∧me<M.L.th) {x:bt} (ho:jZ M.L x) (k:kt M me m P x) (hp:x.popped=0) (h2:x.at_=2):
  jF M sh me m P (true,cas M m (getD' x.found).addr x.word (dS ((ao x.word).claimed x.u (getD' x.found).next (getD' x.found).mark)),if bA M m (getD' x.found).addr x.word && x.task.pops then { x with popped:=(ao x.word).next } else x):=by
 have hL:=hx.lay
 have hth:=hL.th
 have hnd:=hL.nd
 have hxu:=ho.u
 have hst:=ho.s2 (by omega) (by omega)
 have hat:=(ho.val (by omega)).at_ (by omega) (by omega)
 have hfd:=b7 x.found
 cases hq:bA M m (getD' x.found).addr x.word with
 | false=>
  rw[dP _ hq]
  exact dZ (hx.stay me) (cV _ _) (cW _ _) hp
 | true=>
  rw[cZ _ hq]
  have hw:=cO hq
  obtain⟨w1,w2⟩:=k.w2 h2
  have hrk:rk (ld M m (getD' x.found).addr)=2*(getD' x.found).ver:=by rw[hw,gw w2,w1]
  have hde:=(k.e2 (by omega) (by omega)).resolve_right (by omega)
  have htk:=k.t2 (.inl (by omega)) hde
  have hD:aX M m x.u=getD' x.found:=by simp only[aX,hde]
  obtain⟨p1,p2,p3⟩:=hx.g.H7 x.u hxu.1 hxu.2 (by rw[hD];exact hst)
  rw[hD] at p1 p2 p3
  have hF:=p2 hrk
  have hy:ao (dS ((ao x.word).claimed x.u (getD' x.found).next (getD' x.found).mark))=(ao x.word).claimed x.u (getD' x.found).next (getD' x.found).mark:=dA (Wd.gQ (aQ _) (by omega) hfd.next)
  have JP:((ao x.word).claimed x.u (getD' x.found).next (getD' x.found).mark).claim=x.u+1:=rfl
  have hyv:((ao x.word).claimed x.u (getD' x.found).next (getD' x.found).mark).ver=(ao x.word).ver:=rfl
  have hF2:=hF
  rw[←htk] at hF2 p3
  obtain⟨P',a1,a2,a3,a4,a5⟩:=Dc (u:=me) hL hx.nU hx.g (k:=x.task) (y:=dS ((ao x.word).claimed x.u (getD' x.found).next (getD' x.found).mark)) hat.1 hF2 (by simp only[wd,hw];exact w2) (by rw[hy];rfl) (by rw[hy];rfl)
   (by rw[hrk,kr (by rw[hy,JP];omega),hy,hyv,w1];omega) (by rw[hy,hyv];simp only[wd,hw];omega)
   (fun _=>by
    rw[hy,JP,show x.u+1 - 1=x.u by omega]
    exact⟨by omega,_,rfl,by rw[hD];exact .inl hst,by rw[hD],by rw[hD,hyv,w1],by rw[hD],by rw[hD]⟩)
   (fun hk=> .inr ⟨x.u,(p3 hk).resolve_left (by simp only[wd,hw,w2];omega),by rw[hy];rfl,by rw[hD];exact hst,by rw[hD]⟩)
  have hact:Act M sh me m (st M m (getD' x.found).addr (dS ((ao x.word).claimed x.u (getD' x.found).next (getD' x.found).mark))) P P':=⟨a1,a2⟩
  cases hl:x.task.links with
  | true=>
   have hpp:=lO hl
   have hpn:=(p3 hl).resolve_left (by simp only[wd,hw,w2];omega)
   have hkp:=iX (me:=me) (P:=P) (n:=(getD' x.found).next) (p:= .linked) (by rw[hpn];exact fun e=>by cases e) (fun j=>by rw[hpn];exact fun e=>by cases e)
   have he:=a3 hl
   subst he
   rw[hpp]
   simp only[Bool.and_false,Bool.false_eq_true,if_false]
   exact dZ hact hkp.1 hkp.2 hp
  | false=>
   cases hpp:x.task.pops with
   | true=>
    obtain⟨b1,b2⟩:=a4 hpp
    simp only[wd,hw] at b1 b2
    have hkp:=iX (me:=me) (P:=P) (n:=(ao x.word).next) (p:= .out me 0) (by rw[b1];exact fun e=>by cases e) (fun j=>by rw[b1];exact fun e=>by cases e)
    subst b2
    simp only[Bool.and_self,if_true]
    exact⟨_,hact,hkp.1,hkp.2,fun e=>by simp at e,fun _=> .inr ⟨b1,Gh.bF _ _ _⟩⟩
   | false=>
    have he:=a5 hl hpp
    subst he
    simp only[Bool.and_false,Bool.false_eq_true,if_false]
    exact dZ hact (cV _ _) (cW _ _) hp
theorem Aw (hx:Cx M sh m P) {x:bt} (ho:jZ M.L x) (k:kt M me m P x) (hp:x.popped=0) (h3:x.at_=3):jF M sh me m P (true,cas M m (M.L.desc x.u) x.found (cv ((getD' x.found).with_ 3)),x):=by
 have hxu:=ho.u
 have hst:=ho.s2 (by omega) (by omega)
 cases hq:bA M m (M.L.desc x.u) x.found with
 | false=>
  rw[dP _ hq]
  exact dZ (hx.stay me) (cV _ _) (cW _ _) hp
 | true=>
  rw[cZ _ hq]
  have hD:aX M m x.u=getD' x.found:=by simp only[aX,cO hq]
  have hk:=k.w (by omega) (by omega)
  obtain⟨w1,w2⟩:=k.w3 h3
  have hod:=kr (x:=x.word) (by omega)
  have h1:=hk.1
  obtain⟨a1,a2⟩:=y0 (me:=me) hx.lay hx.nU hx.g (y:=cv ((getD' x.found).with_ 3)) hxu (by rw[hD];exact hst) (by rw[hD];exact iy 3 (by omega)) (fD (ho.val (by omega)) hst 3 (.inl rfl)).ok
   (by rw[hD];omega) (fun e=>by
    rw[hD] at e⊢
    have:=hk.2 (by omega)
    simp only[wd,this];exact w2)
  exact dZ ⟨a1,a2⟩ (cV _ _) (cW _ _) hp
theorem Ax (hx:Cx M sh m P) {x:bt} (ho:jZ M.L x) (k:kt M me m P x) (hp:x.popped=0) (h4:x.at_=4):jF M sh me m P (true,cas M m (M.L.desc x.u) x.found (cv ((getD' x.found).with_ 4)),x):=by
 have hxu:=ho.u
 have hst:=ho.s2 (by omega) (by omega)
 have hat:=(ho.val (by omega)).at_ (by omega) (by omega)
 cases hq:bA M m (M.L.desc x.u) x.found with
 | false=>
  rw[dP _ hq]
  exact dZ (hx.stay me) (cV _ _) (cW _ _) hp
 | true=>
  rw[cZ _ hq]
  have hD:aX M m x.u=getD' x.found:=by simp only[aX,cO hq]
  have hk:=k.w (by omega) (by omega)
  obtain⟨w1,w2⟩:=k.w4 h4
  have h1:=hk.1
  obtain⟨a1,a2⟩:=De (me:=me) hx.lay hx.nU hx.g (y:=cv ((getD' x.found).with_ 4)) hxu (by rw[hD];exact hst) (by rw[hD];exact iy 4 (by omega)) (fD (ho.val (by omega)) hst 4 (.inr rfl)).ok
   (by rw[hD];omega) (fun e=>by
    rw[hD] at e
    have hf:=(hx.g.cl _ hat.1.1 hat.1.2 (by omega)).2.1.ver
    rw[e,show x.u+1 - 1=x.u by omega,hD] at hf
    simp only[wd] at e hf
    have hod:=kr (x:=ld M m (getD' x.found).addr) (by omega)
    have:=hk.2 (by omega)
    rw[this] at e hf
    exact w2 ⟨hf.symm,e⟩)
  exact dZ ⟨a1,a2⟩ (cV _ _) (cW _ _) hp
theorem Ay (hx:Cx M sh m P) {x:bt} (ho:jZ M.L x) (k:kt M me m P x) (hp:x.popped=0) (h5:x.at_=5):jF M sh me m P (false,m,x.look (ld M m (getD' x.found).addr) 7 6 7):=by
 refine⟨P,hx.stay me,cV _ _,cW _ _,fun _=>⟨?_,hp⟩,fun e=>by simp at e⟩
 have he:=k.e5 (by omega) (by omega)
 have hst:=ho.s3 (by omega) (by omega)
 have hxu:=ho.u
 have hr:=yk (ld M m (getD' x.found).addr)
 have h7:¬ ((ao (ld M m (getD' x.found).addr)).ver=(getD' x.found).ver∧(ao (ld M m (getD' x.found).addr)).claim=x.u+1)→2*(getD' x.found).ver+2≤rk (ld M m (getD' x.found).addr):=fun hn=>by
  rcases he with e | e
  ·have hD:aX M m x.u=getD' x.found:=by simp only[aX,e]
   obtain⟨v1,v2⟩:=hx.g.won x.u hxu.1 hxu.2 (by rw[hD];exact hst)
   rw[hD] at v1 v2
   by_cases e2:rk (ld M m (getD' x.found).addr)=2*(getD' x.found).ver+1
   ·exact absurd ⟨(Ap e2).2,v2 e2⟩ hn
   ·omega
  ·exact e
 unfold bt.look
 split
 ·rename_i hc
  exact⟨fun e=>by simp at e,fun _ e=>by simp at e,fun _ e=>by simp at e,fun e=>by simp at e,fun _ e=>by simp at e,fun e=>by simp at e,fun e=>by simp at e,fun e=>by simp at e,fun _ e=>by simp at e,fun e=>by simp at e,fun _=>h7 (fun e=>by omega),fun e=>by simp at e⟩
 ·split
  ·rename_i hc hc2
   exact⟨fun e=>by simp at e,fun _ e=>by simp at e,fun _ e=>by simp at e,fun e=>by simp at e,fun _ e=>by simp at e,fun e=>by simp at e,fun e=>by simp at e,fun e=>by simp at e,fun _ _=>he,fun _=>⟨.refl ..,hc2⟩,fun e=>by simp at e,fun e=>by simp at e⟩
  ·rename_i hc hc2
   exact⟨fun e=>by simp at e,fun _ e=>by simp at e,fun _ e=>by simp at e,fun e=>by simp at e,fun _ e=>by simp at e,fun e=>by simp at e,fun e=>by simp at e,fun e=>by simp at e,fun _ e=>by simp at e,fun e=>by simp at e,fun _=>h7 hc2,fun e=>by simp at e⟩
theorem Az (hx:Cx M sh m P) {x:bt} (ho:jZ M.L x) (k:kt M me m P x) (hp:x.popped=0) (h6:x.at_=6):jF M sh me m P (false,cas M m (getD' x.found).addr x.word (dS (ao x.word).free),{ x with at_:=7 }):=by
 have hst:=ho.s3 (by omega) (by omega)
 have hat:=(ho.val (by omega)).at_ (by omega) (by omega)
 have hxu:=ho.u
 obtain⟨k1,w1,w2⟩:=k.w6 h6
 have hod:=kr (x:=x.word) (by omega)
 have he:=k.e5 (by omega) (by omega)
 have fin:∀ m',2*(getD' x.found).ver+2≤rk (ld M m' (getD' x.found).addr)→kt M me m' P { x with at_:=7 }:=fun m' hr=>
  ⟨fun e=>by simp at e,fun _ e=>by simp at e,fun _ e=>by simp at e,fun e=>by simp at e,fun _ e=>by simp at e,fun e=>by simp at e,fun e=>by simp at e,fun e=>by simp at e,fun _ e=>by simp at e,fun e=>by simp at e,fun _=>hr,fun e=>by simp at e⟩
 cases hq:bA M m (getD' x.found).addr x.word with
 | false=>
  rw[dP _ hq]
  refine⟨P,hx.stay me,cV _ _,cW _ _,fun _=>⟨fin m ?_,hp⟩,fun e=>by simp at e⟩
  have h1:=k1.1
  by_cases e:rk (ld M m (getD' x.found).addr)=rk x.word
  ·have:=k1.2 e
   rw[uN (by have:=hx.lay.th;have:=hx.lay.nd;simp only[Ly.size];omega),this] at hq
   simp at hq
  ·omega
 | true=>
  rw[cZ _ hq]
  have hw:=cO hq
  have hde:=he.resolve_right (by rw[hw];omega)
  have hD:aX M m x.u=getD' x.found:=by simp only[aX,hde]
  obtain⟨f1,f2,f3,f4,f5,f6⟩:=fX (m:=m) (x:=dS (ao x.word).free) hx.lay hat.1
  have hy:ao (dS (ao x.word).free)=(ao x.word).free:=dA (Wd.jO (aQ _))
  have hv:=hx.ver _ hat.1.1 hat.1.2
  have hv0:=(aQ x.word).ver
  simp only[wd,hw] at hv
  obtain⟨a1,a2⟩:=wq (u:=me) hx.lay hx.nU hx.g (y:=dS (ao x.word).free) hat.1 (by simp only[wd,hw];omega) (by simp only[wd,hw,w2];rw[show x.u+1 - 1=x.u by omega,hD];exact hst) (by simp only[wd,hw];exact hy) (by simp only[wd,hw];exact hv)
  refine⟨P,⟨a1,a2⟩,cV _ _,cW _ _,fun _=>⟨fin _ ?_,hp⟩,fun e=>by simp at e⟩
  rw[f6,gw (by rw[hy];rfl),hy]
  simp only[Wd.free]
  rw[Int.emod_eq_of_lt (by omega) (by omega),w1];omega
theorem AA (hx:Cx M sh m P) {x:bt} (ho:jZ M.L x) (k:kt M me m P x) (hp:x.popped=0) (h7:x.at_=7):jF M sh me m P (true,cas M m (M.L.desc x.u) x.found (cv ((getD' x.found).ended 0 true (getD' x.found).val)),x):=by
 have hxu:=ho.u
 have hst:=ho.s3 (by omega) (by omega)
 cases hq:bA M m (M.L.desc x.u) x.found with
 | false=>
  rw[dP _ hq]
  exact dZ (hx.stay me) (cV _ _) (cW _ _) hp
 | true=>
  rw[cZ _ hq]
  have hD:aX M m x.u=getD' x.found:=by simp only[aX,cO hq]
  have hy:=dB (kB x.found 0 true (getD' x.found).val (b7 x.found).val)
  obtain⟨a1,a2⟩:=E6 (me:=me) hx.lay hx.nU hx.g (y:=cv ((getD' x.found).ended 0 true (getD' x.found).val)) hxu (by rw[hD];exact hst) (by rw[hy];rfl) (oU hst).ok (by rw[hD];exact k.w7 h7)
  exact dZ ⟨a1,a2⟩ (cV _ _) (cW _ _) hp
theorem AB (hx:Cx M sh m P) {x:bt} (ho:jZ M.L x) (k:kt M me m P x) (hp:x.popped=0) (h8:x.at_=8):jF M sh me m P (!bA M m (M.L.desc x.u) x.found || (!x.task.links || !M.L.node (getD' x.found).next),cas M m (M.L.desc x.u) x.found (cv (getD' x.found).cp),{ x with at_:=9 }):=by
 have hxu:=ho.u
 have hst:=ho.s4 (by omega)
 cases hq:bA M m (M.L.desc x.u) x.found with
 | false=>
  rw[dP _ hq]
  exact dZ (x:={ x with at_:=9 }) (hx.stay me) (cV _ _) (cW _ _) hp
 | true=>
  rw[cZ _ hq]
  have hde:=cO hq
  have hD:aX M m x.u=getD' x.found:=by simp only[aX,hde]
  have hy:=dB (iz x.found)
  have htk:=k.t2 (.inr h8) hde
  have act:=fun P' (h:P'=P∨∃ n,P n= .prop x.u∧P'=P.put n (.give me))=>nB (me:=me) hx.lay hx.nU hx.g (y:=cv (getD' x.found).cp) (P':=P') hxu (by rw[hD];omega) (by rw[hD];omega) (by rw[hy];simp[Ds.cp]) (oV hst).ok h
  cases hl:x.task.links && M.L.node (getD' x.found).next with
  | false=>
   obtain⟨a1,a2⟩:=act P (.inl rfl)
   have e:(!true || (!x.task.links || !M.L.node (getD' x.found).next))=true:=by
    rw[←Bool.not_and,hl];rfl
   rw[e]
   exact dZ (x:={ x with at_:=9 }) ⟨a1,a2⟩ (cV _ _) (cW _ _) hp
  | true=>
   have e:(!true || (!x.task.links || !M.L.node (getD' x.found).next))=false:=by
    rw[←Bool.not_and,hl];rfl
   rw[e]
   rw[Bool.and_eq_true] at hl
   have hpn:=(hx.g.lost x.u hxu.1 hxu.2 (by rw[hD];exact hst)).2 (by rw[←htk];exact hl.1)
   rw[hD] at hpn
   obtain⟨a1,a2⟩:=act _ (.inr ⟨_,hpn,rfl⟩)
   have hkp:=iX (me:=me) (P:=P) (n:=(getD' x.found).next) (p:= .give me) (by rw[hpn];exact fun e=>by cases e) (fun j=>by rw[hpn];exact fun e=>by cases e)
   exact⟨_,⟨a1,a2⟩,hkp.1,hkp.2,fun _=>⟨⟨fun e=>by simp at e,fun _ e=>by simp at e,fun _ e=>by simp at e,fun e=>by simp at e,fun _ e=>by simp at e,fun e=>by simp at e,fun e=>by simp at e,fun e=>by simp at e,fun _ e=>by simp at e,fun e=>by simp at e,fun e=>by simp at e,fun _=>Gh.bF _ _ _⟩,hp⟩,fun e=>by simp at e⟩
theorem AD (hx:Cx M sh m P) {x:bt} (ho:jZ M.L x) (k:kt M me m P x) (hp:x.popped=0) (h9:x.at_=9):jF M sh me m P (true,add M m (M.L.life (getD' x.found).next) 1,{ x with gave:=(getD' x.found).next }):=by
 have hg:=k.g9 h9
 obtain⟨a1,a2⟩:=wx (u:=me) (y:=(ld M m (M.L.life (getD' x.found).next)+1) % 18446744073709551616) hx.lay hx.nU hx.g (ho.gives h9) (.inl hg) rfl
 have hkp:=iX (me:=me) (P:=P) (n:=(getD' x.found).next) (p:= .free) (by rw[hg];exact fun e=>by cases e) (fun j=>by rw[hg];exact fun e=>by cases e)
 exact dZ (x:={ x with gave:=(getD' x.found).next }) ⟨a1,a2⟩ hkp.1 hkp.2 hp
theorem JQ (hx:Cx M sh m P) (hu:0≤me∧me<M.L.th) {x:bt} (ho:jZ M.L x) (k:kt M me m P x) (hp:x.popped=0):jF M sh me m P (bz M m x):=by
 have hat:=ho.at_
 unfold bz
 simp only
 split
 ·rename_i h;exact At hx ho k hp h
 ·split
  ·rename_i h;exact Au hx ho k hp h
  ·split
   ·rename_i h;exact Av hx hu ho k hp h
   ·split
    ·rename_i h;exact Aw hx ho k hp h
    ·split
     ·rename_i h;exact Ax hx ho k hp h
     ·split
      ·rename_i h;exact Ay hx ho k hp h
      ·split
       ·rename_i h;exact Az hx ho k hp h
       ·split
        ·rename_i h;exact AA hx ho k hp h
        ·split
         ·rename_i h;exact AB hx ho k hp h
         ·exact AD hx ho k hp (by omega)
end
section
variable {M:ML} {sh me:Int} {m:Mm} {P:Gh}
theorem AE {a b:List Int} (h:cU P me (a++b)):cU P me a:=by
 have h1:=h.1
 rw[List.nodup_append] at h1
 exact⟨h1.1,fun n hn=>h.2 n (List.mem_append_left _ hn)⟩
theorem b9 {a:List Int} (h:cU P me a):cU P me (a++[]):=by rw[List.append_nil];exact h
theorem nD {P':Gh} {a:List Int} (h:cU P me a) (hk:iW me P P'):cU P' me a:=⟨h.1,fun n hn=>by obtain⟨k,h0,h1⟩:=h.2 n hn;exact⟨k,h0,hk n k h1⟩⟩
theorem wF {P':Gh} {l:List Int} {c:Int} (hO:cU P me l) (hk:iW me P P') (hc:P c= .linked) (hc':P' c= .out me 0):cU P' me (l++[c]):=by
 have hn:c∉l:=fun h=>by
  obtain⟨k,-,e⟩:=hO.2 c h
  rw[hc] at e;cases e
 refine⟨?_,fun n h=> ?_⟩
 ·rw[List.nodup_append]
  refine⟨hO.1,by simp,fun a ha b hb e=> ?_⟩
  simp only[List.mem_singleton] at hb
  subst e hb
  exact hn ha
 ·rcases List.mem_append.1 h with h | h
  ·obtain⟨k,h0,e⟩:=hO.2 n h
   exact⟨k,h0,hk n k e⟩
  ·simp only[List.mem_singleton] at h
   subst h
   exact⟨0,by omega,hc'⟩
theorem Dl {k:bl} (h:k.may=true):(k.kind=2→k.sh≠4)∧(k.kind=5→k.pops=false→k.sh≠4):=by
 refine⟨fun e e2=> ?_,fun e e2 e3=> ?_⟩
 ·have h':kM k.sh k.kind k.key:=of_decide_eq_true h
  unfold kM at h'
  omega
 ·unfold bl.pops at e2
  rw[decide_eq_true e,decide_eq_true e3] at e2
  cases e2
theorem y6 {k:bl} {p:Pos} {n:Int} (hk:k.may=true) (hs:k.sh=sh) (hp:nM M.L p) (hf:JK M sh m P p) (hn:k.links=true→(1≤n∧n≤M.L.nd)∧P n= .spare me) (b8:(au k p n).now=false):
  kS M sh me m P k (au k p n)∧(k.links=true→(au k p n).old=p.pw∧(au k p n).next=n):=by
 unfold au at b8⊢
 split
 ·rename_i hc
  have hl:k.links=true:=by
   unfold bl.links
   rcases hc with h | h
   ·rw[decide_eq_true h,Bool.or_true]
   ·rw[decide_eq_true h.1,Bool.true_or]
  obtain⟨h1,h2⟩:=hn hl
  have hpp:=lO hl
  exact⟨⟨hf.kl,fun _=>⟨hf.kl.um,rfl,h1,h2⟩,fun e=>(by rw[hpp] at e;cases e),fun e=>(by rw[hl] at e;cases e)⟩,fun _=>⟨rfl,rfl⟩⟩
 ·rename_i hc
  rw[if_neg hc] at b8
  have mk:p.curr≠0→k.links=false→k.pops=false→sh≠4→kS M sh me m P k p.mark:=fun h1 h2 h3 h4=>by
   obtain⟨c1,c2,c3⟩:=hf.cw h1
   exact⟨c2 h4,fun e=>(by rw[h2] at e;cases e),fun e=>(by rw[h3] at e;cases e),fun _ _=>⟨rfl,rfl,rfl,hp.curr.2,h4⟩⟩
  split
  ·rename_i hc2
   rw[if_pos hc2] at b8
   have hl:k.links=false:=by unfold bl.links;rw[decide_eq_false (by omega),decide_eq_false (by omega)];rfl
   have hpp:k.pops=false:=by unfold bl.pops;rw[decide_eq_false (by omega)];rfl
   have hfd:=hc2.2
   unfold Pos.found at hfd
   simp only[Bool.and_eq_true,decide_eq_true_eq] at hfd
   exact⟨mk hfd.1 hl hpp (by rw[←hs];exact(Dl hk).1 hc2.1),fun e=>by rw[hl] at e;cases e⟩
  ·rename_i hc2
   rw[if_neg hc2] at b8
   split
   ·rename_i hc3
    rw[if_pos hc3] at b8
    have hl:k.links=false:=by unfold bl.links;rw[decide_eq_false (by omega),decide_eq_false (by omega)];rfl
    unfold Pos.take at b8⊢
    split
    ·rename_i h0
     rw[if_pos h0] at b8
     simp[told] at b8
    ·rename_i h0
     split
     ·rename_i hpp
      obtain⟨c1,c2,c3⟩:=hf.cw h0
      have h4:sh=4:=by
       rw[←hs]
       unfold bl.pops at hpp
       simp only[Bool.and_eq_true,decide_eq_true_eq] at hpp
       exact hpp.2
      refine⟨⟨hf.kl,fun e=>(by rw[hl] at e;cases e),fun _=>⟨hf.kl.um,h4,by rw[show (ao ({ p.link (ao p.cw).next with pops:=p.curr,res:=⟨0,true,(ao p.cw).key⟩ }:cY).old).next=p.curr from hf.cu.symm];exact h0,hf.cu,fun e=> ?_⟩,fun _ e=>(by rw[hpp] at e;cases e)⟩,fun e=>by rw[hl] at e;cases e⟩
      have e':ld M m p.pred=p.pw:=e
      have e2:=c3 h4 e'
      show (ao p.cw).next=(ao (ld M m (ao p.pw).next)).next
      rw[←hf.cu,e2]
     ·rename_i hpp
      have Hk:k.pops=false:=by simpa using hpp
      have:=mk h0 hl Hk (by rw[←hs];exact(Dl hk).2 hc3 Hk)
      exact⟨⟨this.kl,fun e=>(by rw[hl] at e;cases e),fun e=>(by rw[Hk] at e;cases e),fun a b=>this.mark a b⟩,fun e=>by rw[hl] at e;cases e⟩
   ·rename_i hc3
    rw[if_neg hc3] at b8
    simp[told] at b8
theorem kS.fits {k:bl} {p:cY} (h:kS M sh me m P k p) (hr:Ready M m k p) (he:ld M m p.addr=p.old):Fits M sh m P k p.addr p.next p.mark:=by
 refine⟨h.kl.lk he,by simp only[wd,he];exact h.kl.um,h.kl.h4,fun e=> ?_,fun e=> ?_,fun e e2=> ?_⟩
 ·obtain⟨h1,h2,h3,h4⟩:=h.link e
  exact⟨h1,h3,by rw[hr e];simp only[wd,he]⟩
 ·obtain⟨h1,h2,h3,h4,h5⟩:=h.pop e
  refine⟨h1,h2,by simp only[wd,he];exact h3,?_⟩
  rw[h5 he];simp only[wd,he]
 ·obtain⟨h1,h2,h3,h4,h5⟩:=h.mark e e2
  exact⟨h1,by rw[h3];simp only[wd,he],h4,h5⟩
theorem dN {P':Gh} {t:cg} (h:t.spare≠0→P t.spare= .spare me) (k:dx me P P'):t.spare≠0→P' t.spare= .spare me:=fun e=>k _ (h e)
structure y7 (M:ML) (sh me:Int) (m m':Mm) (P:Gh) (t':cg) (r:Bool) (Q:Gh→Prop):Prop where
 ex:∃ P',Act M sh me m m' P P'∧(t'.spare≠0→P' t'.spare= .spare me)∧(r=false→Q P')∧(r=true→cU P' me t'.ret)
theorem qN (hL:M.L.Ok) {t:cg} {f:bq} (hm:f.task.may=true) (hs:f.task.sh=sh) (hO:cU P me t.ret):wB M sh me m P t (f.hZ M.L me):=
 ⟨hs,by rw[if_pos (by rfl)];exact b9 hO,fun _=>nC hL hm hs _,fun e=>by simp[bq.hZ] at e,fun e=>by simp[bq.hZ] at e,fun e=>by simp[bq.hZ] at e,fun e=>by simp[bq.hZ] at e⟩
theorem nW (hL:M.L.Ok) {m':Mm} {t:cg} {f:bq} (ha:Act M sh me m m' P P) (hsp:t.spare≠0→P t.spare= .spare me) (hm:f.task.may=true) (hs:f.task.sh=sh) (hO:cU P me t.ret):y7 M sh me m m' P t (f.again M.L me).1 (fun P'=>wB M sh me m' P' t (f.again M.L me).2):=by
 unfold bq.again
 split
 ·exact⟨P,ha,hsp,fun e=>by simp at e,fun _=>hO⟩
 ·exact⟨P,ha,hsp,fun _=>qN (f:=f.aR 1) hL hm hs hO,fun e=>by simp at e⟩
theorem lP {P':Gh} (h:∀ n,P n≠.linked→P' n=P n):dx me P P':=fun n e=>by rw[h n (by rw[e];exact fun e=>by cases e)];exact e
theorem JR (hx:Cx M sh m P) (hu:0≤me∧me<M.L.th) {t:cg} {f:bq} {N:Int} (ht:bL M.L t N) (hf:mr M.L me t f N) (k:wB M sh me m P t f) (hsp:t.spare≠0→P t.spare= .spare me):
  y7 M sh me m (aH M me m t f).2.1 P (aH M me m t f).2.2.1 (aH M me m t f).1 (fun P'=>wB M sh me (aH M me m t f).2.1 P' (aH M me m t f).2.2.1 (aH M me m t f).2.2.2):=by
 have hL:=hx.lay
 have hnd:=hL.nd
 unfold aH
 split
 ·rename_i h0
  have hO:=k.outs
  rw[if_pos h0] at hO
  split
  ·exact⟨P,hx.stay me,hsp,fun e=>by simp at e,fun _=>AE hO⟩
  ·rename_i hls
   have hfi:=hf.find h0
   obtain⟨P',a1,a2,a3,a4⟩:=(Dk hx hu hfi.1 hfi.2 (k.find h0) hO).ex
   have hsp':=dN hsp (lP (me:=me) a2)
   have hok:=(gm hL hx.nU hu (N:=N) (by have:=ht.len;omega) hfi.1 hfi.2).2.ok
   simp only at hok a4 a3
   simp only
   split
   ·rename_i hr
    unfold bq.sought
    simp only
    have hG:cU P' me (t.retire (aw M m f.find).2.2.aO).ret:=a3
    split
    ·exact⟨P',a1,hsp',fun e=>by simp at e,fun _=>hG⟩
    ·rename_i ho
     have hab:(aw M m f.find).2.2.ab=false:=by
      cases ha:(aw M m f.find).2.2.ab with
      | false=>rfl
      | true=>
       have h5:=(hok.ab ha).1
       have h6:=(hf.sum h0).2.1
       have h7:=(iI M m f.find).1
       have ho':¬ f.most<f.tries+(aw M m f.find).2.2.tries:=fun e=>ho (decide_eq_true e)
       omega
     have hfd:=a4.found hr hab
     have hpos:=hok.pos hab
     split
     ·exact⟨P',a1,hsp',fun e=>by simp at e,fun _=>hG⟩
     ·rename_i b8
      have gH:(au f.task (aw M m f.find).2.2.pos t.spare).now=false:=by simpa using b8
      have hlk:f.task.links=true→(1≤t.spare∧t.spare≤M.L.nd)∧P' t.spare= .spare me:=fun hl=>by
       have h8:t.spare≠0:=fun e=>hls (by rw[hl,decide_eq_true e];rfl)
       have:=ht.spare
       exact⟨by omega,hsp' h8⟩
      obtain⟨p1,p2⟩:=y6 hf.may k.iS hpos hfd hlk gH
      have pc:(au f.task (aw M m f.find).2.2.pos t.spare).claimed=false→(ao (au f.task (aw M m f.find).2.2.pos t.spare).old).claim=0:=fun e=>by
       unfold cY.claimed at e
       rw[gH] at e
       simpa using e
      split
      ·exact⟨P',a1,hsp',fun _=>⟨k.iS,b9 hG,fun e=>by simp at e,fun _=>⟨fun e=>by simp[fo.new] at e,fun e=>by simp[fo.new] at e,fun e=>by simp[fo.new] at e⟩,fun e=>by simp at e,fun e=>by simp at e,fun e=>by simp at e⟩,fun e=>by simp at e⟩
      ·rename_i hcl
       have hc0:=pc (by simpa using hcl)
       split
       ·rename_i hl
        have hpl:=p2 hl
        refine⟨P',a1,hsp',fun _=>⟨k.iS,b9 hG,fun e=>by simp at e,fun e=>by simp at e,fun _=>⟨p1,hc0,fun _=>hpl.2⟩,fun _=>⟨hl,?_,fun e=>by simp[kP.new] at e⟩,fun e=>by simp at e⟩,fun e=>by simp at e⟩
        simp only[kP.new]
        rw[hpl.1];exact hfd.cu
       ·rename_i hl
        exact⟨P',a1,hsp',fun _=>⟨k.iS,b9 hG,fun e=>by simp at e,fun e=>by simp at e,fun _=>⟨p1,hc0,fun e=>absurd e hl⟩,fun e=>by simp at e,fun _ e=>absurd e hl⟩,fun e=>by simp at e⟩
   ·rename_i hr
    exact⟨P',a1,hsp',fun _=>⟨k.iS,by rw[if_pos h0];exact a3,fun _=>a4.on (by simpa using hr),fun e=>by simp only at e;omega,fun e=>by simp only at e;omega,fun e=>by simp only at e;omega,fun e=>by simp only at e;omega⟩,fun e=>by simp at e⟩
 ·split
  ·rename_i h0 h1
   have hO:=k.outs
   rw[if_neg h0,List.append_nil] at hO
   obtain⟨a1,a2,a3⟩:=Di (me:=me) hx (hf.cl h1) (k.cl h1)
   simp only
   split
   ·exact nW (f:={ f with cl:=(a9 M m f.cl).2.2 }) hL a1 hsp hf.may k.iS hO
   ·rename_i hr
    exact⟨P,a1,hsp,fun _=>⟨k.iS,by rw[if_neg h0,List.append_nil];exact hO,fun e=>absurd e h0,fun _=>a3 (by simpa using hr),fun e=>by simp only at e;omega,fun e=>by simp only at e;omega,fun e=>by simp only at e;omega⟩,fun e=>by simp at e⟩
  ·split
   ·rename_i h0 h1 h2
    have hO:=k.outs
    rw[if_neg h0,List.append_nil] at hO
    obtain⟨p1,p2,p3⟩:=k.plan (by omega)
    obtain⟨q1,q2⟩:=k.az h2
    obtain⟨a1,a2,a3,a4⟩:=FA (t:=t) hx (hf.az h2) p1 q1 (p3 q1) q2
    refine⟨P,a1,hsp,fun _=> ?_,fun e=>by simp at e⟩
    simp only
    cases hr:(ch M m t f.az).1 with
    | true=>exact⟨k.iS,b9 hO,fun e=>by simp at e,fun e=>by simp at e,fun _=>⟨a2,p2,p3⟩,fun e=>by simp at e,fun _=>a4 hr⟩
    | false=>exact⟨k.iS,b9 hO,fun e=>by simp at e,fun e=>by simp at e,fun _=>⟨a2,p2,p3⟩,fun _=>⟨q1,a3 hr⟩,fun e=>by simp at e⟩
   ·rename_i h0 h1 h2
    have hat:=hf.at_
    have h3:f.at_=3:=by omega
    have hO:=k.outs
    rw[if_neg h0,List.append_nil] at hO
    obtain⟨p1,p2,p3⟩:=k.plan (by omega)
    have hpo:=hf.plan (by omega)
    split
    ·rename_i hq
     rw[cZ _ hq]
     have he:=cO hq
     have hF:=p1.fits (k.ready h3) he
     have hnx:=hpo.1.next hpo.2.1
     have hy:ao f.plan.word=((ao f.plan.old).claimed 0 f.plan.next f.plan.mark).free:=by
      unfold cY.word
      rw[if_neg (by rw[hpo.2.1];decide)]
      exact dA (Wd.jO (Wd.gQ (aQ _) (by omega) (by omega)))
     have hv:=hx.ver _ p1.kl.rng.1 p1.kl.rng.2
     have hv0:=(aQ f.plan.old).ver
     simp only[wd,he] at hv
     have hyv:(ao f.plan.word).ver=(ao f.plan.old).ver+1:=by rw[hy];exact Int.emod_eq_of_lt (by simp only[Wd.claimed];omega) (by simp only[Wd.claimed];omega)
     have JP:(ao f.plan.word).claim=0:=by rw[hy];rfl
     obtain⟨P',b1,b2,b3,b4,b5⟩:=Dc (u:=me) hL hx.nU hx.g (k:=f.task) (y:=f.plan.word) p1.kl.rng hF (by simp only[wd,he];exact p2) (by rw[hy];rfl) (by rw[hy];rfl)
      (by rw[he,gw p2,gw JP,hyv];omega) (by rw[hyv];simp only[wd,he];omega) (fun e=>absurd JP e) (fun hl=> .inl (p1.link hl).2.2.2)
     have hact:Act M sh me m (st M m f.plan.addr f.plan.word) P P':=⟨b1,b2⟩
     cases hl:f.task.links with
     | true=>
      obtain⟨l1,l2,l3,l4⟩:=p1.link hl
      have he':=b3 hl
      subst he'
      have km:t.did f.task f.plan={ t with spare:=0 }:=by unfold cg.did;rw[hl,l2];simp
      simp only
      rw[km]
      exact⟨_,hact,fun e=>absurd rfl e,fun e=>by simp at e,fun _=>⟨hO.1,fun n hn=>by
       obtain⟨j,h5,h6⟩:=hO.2 n hn
       exact⟨j,h5,by rw[Gh.aE _ _ (fun e=>by rw[e,l4] at h6;cases h6)];exact h6⟩⟩⟩
     | false=>
      cases hpp:f.task.pops with
      | true=>
       obtain⟨c1,c2⟩:=b4 hpp
       obtain⟨l1,l2,l3,l4,l5⟩:=p1.pop hpp
       simp only[wd,he] at c1 c2
       rw[←l4] at c1 c2 l3
       subst c2
       have hkp:=iX (me:=me) (P:=P) (n:=f.plan.pops) (p:= .out me 0) (by rw[c1];exact fun e=>by cases e) (fun j=>by rw[c1];exact fun e=>by cases e)
       have km:t.did f.task f.plan=t.retire [f.plan.pops]:=by unfold cg.did;rw[hl];simp[l3]
       simp only
       rw[km]
       exact⟨_,hact,dN hsp hkp.1,fun e=>by simp at e,fun _=>wF hO hkp.2 c1 (Gh.bF _ _ _)⟩
      | false=>
       have he':=b5 hl hpp
       subst he'
       obtain⟨l1,l2,-⟩:=p1.mark hl hpp
       have km:t.did f.task f.plan=t:=by unfold cg.did;rw[hl,l2];simp
       simp only
       rw[km]
       exact⟨_,hact,hsp,fun e=>by simp at e,fun _=>hO⟩
    ·exact nW hL (hx.stay me) hsp hf.may k.iS hO
end
section
variable {M:ML} {sh me:Int} {m:Mm} {P:Gh}
theorem di {m':Mm} {P':Gh} {t:cg} {h:aM} (h0:h.at_=0) (hO:cU P' me t.ret):rL M sh me m' P' t h:=
 ⟨fun e=>by omega,fun e=>by omega,fun _=>by rw[if_neg (by omega)];exact b9 hO,fun e=>by omega,fun e=>by omega,fun e=>by omega,fun e=>by omega,fun e=>by omega,fun e=>by omega,fun e=>by omega,fun e=>by omega⟩
theorem wG {m':Mm} {P':Gh} {t:cg} {h:aM} (h0:h.at_=1∨h.at_=2) (hO:cU P' me t.ret):rL M sh me m' P' t h:=
 ⟨fun e=>by omega,fun e=>by omega,fun _=>by rw[if_neg (by omega)];exact b9 hO,fun e=>by omega,fun e=>by omega,fun e=>by omega,fun e=>by omega,fun e=>by omega,fun e=>by omega,fun e=>by omega,fun e=>by omega⟩
theorem mO (hL:M.L.Ok) {m':Mm} {P':Gh} {t:cg} {h:aM} (hm:h.task.may=true) (hs:h.task.sh=sh) (ht:ld M m' (M.L.desc h.u)=h.found→h.task=tk M m' h.u) (hO:cU P' me t.ret) (hsp:h.task.links=true→t.spare≠0):rL M sh me m' P' t (h.search M.L me):=
 ⟨fun _=>hs,fun _=>ht,fun _=>by rw[if_pos (by rfl)];exact b9 hO,fun e=>by simp[aM.search] at e,fun e=>by simp[aM.search] at e,fun _=>nC hL hm hs _,fun _ _=>hsp,fun e=>by simp[aM.search] at e,fun e=>by simp[aM.search] at e,fun e=>by simp[aM.search] at e,fun e=>by simp[aM.search] at e⟩
theorem FE (hx:Cx M sh m P) (hu:0≤me∧me<M.L.th) {t:cg} {h:aM} {N:Int} (ht:bL M.L t N) (hh:dX M.L me t h N) (k:rL M sh me m P t h) (hsp:t.spare≠0→P t.spare= .spare me)
  (Fb:1≤h.at_→age h.found≤age (ld M m (M.L.desc h.u))) (hold:y4 M m (ah M me m t h).2.1):
  y7 M sh me m (ah M me m t h).2.1 P (ah M me m t h).2.2.1 (ah M me m t h).1 (fun P'=>rL M sh me (ah M me m t h).2.1 P' (ah M me m t h).2.2.1 (ah M me m t h).2.2.2):=by
 have hL:=hx.lay
 have hN:0≤N:=by have:=ht.len;omega
 have Fc:∀ P',Act M sh me m (ah M me m t h).2.1 P P'→4≤h.at_→ld M (ah M me m t h).2.1 (M.L.desc h.u)=h.found→h.task=tk M (ah M me m t h).2.1 h.u:=fun P' ha h4 e=>by
  have e2:ld M m (M.L.desc h.u)=h.found:=by
   rcases hold h.u hh.u.1 hh.u.2 with h1 | h1
   ·rw[←h1];exact e
   ·rw[e] at h1;have:=Fb (by omega);omega
  have hst:=hh.st1 h4
  have:=ha.s.task h.u hh.u.1 hh.u.2 (by simp only[stt,e2];omega) (by simp only[stt,e2];omega)
  rw[k.LZ h4 e2]
  simp only[tk,this]
 have hO:h.at_≠4→h.at_≠5→cU P me t.ret:=fun h4 h5=>by
  have:=k.outs h4
  rw[if_neg h5,List.append_nil] at this
  exact this
 rcases(by have:=hh.at_;omega:h.at_=0∨h.at_=1∨h.at_=2∨h.at_=3∨h.at_=4∨h.at_=5∨h.at_=6∨h.at_=7∨h.at_=8∨h.at_=9) with h0 | h0 | h0 | h0 | h0 | h0 | h0 | h0 | h0 | h0
 ·have hG:=hO (by omega) (by omega)
  rw[j6 h0]
  exact⟨P,hx.stay me,hsp,fun _=>wG (.inl rfl) hG,fun _=>hG⟩
 ·have hG:=hO (by omega) (by omega)
  rw[j7 h0]
  exact⟨P,hx.stay me,hsp,fun _=>wG (.inr rfl) hG,fun _=>hG⟩
 ·have hG:=hO (by omega) (by omega)
  rw[j8 h0]
  refine⟨P,hx.stay me,hsp,fun e=> ?_,fun _=>hG⟩
  have JS:=Fb (by omega)
  have Lb:=hh.pend (by omega) (by omega)
  simp only at e⊢
  unfold aM.begin_ at e⊢
  split at e
  ·simp at e
  ·rename_i hk
   have hk':gb (ld M m (M.L.task h.u))=true:=by simpa using hk
   have hmay:(eN (ld M m (M.L.task h.u))).may=true:=by
    unfold gb at hk'
    simp only[Bool.and_eq_true] at hk'
    exact hk'.2
   have hsh:=hx.g.Kr h.u hh.u.1 hh.u.2 hk'
   rw[if_neg hk]
   simp only
   split
   ·rename_i hst
    refine⟨fun _=>hsh,fun e=>by simp at e,fun _=>b9 hG,fun _=>⟨⟨fun _=>⟨?_,fun _ _ _=>rfl⟩,fun e=>by simp[bt.new] at e,fun e=>by simp[bt.new] at e,fun e=>by simp[bt.new] at e,fun e=>by simp[bt.new] at e,fun e=>by simp[bt.new] at e,fun e=>by simp[bt.new] at e,fun e=>by simp[bt.new] at e,fun e=>by simp[bt.new] at e,fun e=>by simp[bt.new] at e,fun e=>by simp[bt.new] at e,fun e=>by simp[bt.new] at e⟩,rfl⟩,fun e=>by simp at e,fun e=>by simp at e,fun e=>by simp at e,fun e=>by simp at e,fun e=>by simp at e,fun e=>by simp at e,fun e=>by simp at e⟩
    have h1:=(b7 h.found).status
    have h2:=(b7 (ld M m (M.L.desc h.u))).status
    unfold age at JS
    simp only[bt.new,aX]
    omega
   ·split
    ·exact⟨fun _=>hsh,fun _ _=>rfl,fun e=>by simp at e,fun e=>by simp at e,fun _=>sL hG,fun e=>by simp at e,fun e=>by simp at e,fun e=>by simp at e,fun e=>by simp at e,fun e=>by simp at e,fun e=>by simp at e⟩
    ·rename_i hls
     refine mO (h:={ h with task:=eN (ld M m (M.L.task h.u)) }) hL hmay hsh (fun _=>rfl) hG (fun hl e0=>hls ?_)
     simp only at hl
     rw[hl,decide_eq_true e0];rfl
 ·have hG:=hO (by omega) (by omega)
  obtain⟨k1,k2⟩:=k.exec h0
  obtain⟨P',a1,a2,a3,a4,a5⟩:=(JQ (sh:=sh) hx hu (hh.exec h0).1 k1 k2).ex
  rw[j9 h0]
  have eJ:=k.iS (by omega)
  cases hr:(bz M m h.exec).1 with
  | true=>
   simp only[true_and,if_true]
   rcases a5 hr with e | ⟨e1,e2⟩
   ·rw[if_neg (fun h=>h e)]
    exact⟨P',a1,dN hsp a2,fun _=>di rfl (nD hG a3),fun e=>by simp at e⟩
   ·have hrt:cU P' me (t.retire [(bz M m h.exec).2.2.popped]).ret:=wF hG a3 e1 e2
    split
    ·exact⟨P',a1,dN (t:=t) hsp a2,fun _=>di rfl hrt,fun e=>by simp at e⟩
    ·exact⟨P',a1,dN hsp a2,fun _=>di rfl (nD hG a3),fun e=>by simp at e⟩
  | false=>
   simp only[Bool.false_eq_true,false_and,if_false]
   exact⟨P',a1,dN hsp a2,fun _=>⟨fun _=>eJ,fun e=>by simp at e,fun _=>b9 (nD hG a3),fun _=>a4 hr,fun e=>by simp at e,fun e=>by simp at e,fun e=>by simp at e,fun e=>by simp at e,fun e=>by simp at e,fun e=>by simp at e,fun e=>by simp at e⟩,fun e=>by simp at e⟩
 ·have eJ:=k.iS (by omega)
  have hmay:=hh.may (by omega)
  obtain⟨P',a1,a2,a3,a4⟩:=(FD hx hu ht (hh.bm h0) (k.bm h0) hsp).ex
  have wJ:=Fc P'
  rw[ka h0] at wJ⊢
  have wK:=wJ a1 (by omega)
  simp only at wK
  refine⟨P',a1,a2,fun _=> ?_,fun e=>by simp at e⟩
  simp only
  split
  ·rename_i hr
   exact⟨fun _=>eJ,fun _=>wK,fun e=>absurd h0 e,fun e=>by simp only at e;omega,fun _=>a3 hr,fun e=>by simp only at e;omega,fun e=>by simp only at e;omega,fun e=>by simp only at e;omega,fun e=>by simp only at e;omega,fun e=>by simp only at e;omega,fun e=>by simp only at e;omega⟩
  ·rename_i hr
   obtain⟨b1,b2⟩:=a4 (by simpa using hr)
   split
   ·exact⟨fun _=>eJ,fun _=>wK,fun _=>b9 b1,fun e=>by simp at e,fun e=>by simp at e,fun e=>by simp at e,fun _ e=>absurd rfl e,fun e=>by simp at e,fun e=>by simp at e,fun e=>by simp at e,fun e=>by simp at e⟩
   ·rename_i hsh
    exact mO (h:={ h with bm:=(aK M me m t h.bm).2.2.2 }) hL hmay eJ wK b1 (fun _=>b2.resolve_left hsh)
 ·have eJ:=k.iS (by omega)
  have hmay:=hh.may (by omega)
  have hfi:=hh.find h0
  have M0:=k.outs (by omega)
  rw[if_pos h0] at M0
  obtain⟨P',a1,a2,a3,a4⟩:=(Dk hx hu hfi.1.1 hfi.1.2 (k.find h0) M0).ex
  have hsp':=dN hsp (lP (me:=me) a2)
  have hok:=(gm hL hx.nU hu (N:=N) hN hfi.1.1 hfi.1.2).2.ok
  simp only at hok a4 a3
  have wJ:=Fc P'
  have rM:=k.spare (by omega) (by omega)
  rw[kb h0] at wJ⊢
  cases hr:(aw M m h.find).1 with
  | false=>
   rw[hr] at wJ
   simp only[Bool.false_eq_true,if_false] at wJ⊢
   have wK:=wJ a1 (by omega)
   exact⟨P',a1,hsp',fun _=>⟨fun _=>eJ,fun _=>wK,fun _=>by rw[if_pos h0];exact a3,fun e=>by simp only at e;omega,fun e=>by simp only at e;omega,fun _=>a4.on hr,fun _ _=>rM,fun e=>by simp only at e;omega,fun e=>by simp only at e;omega,fun e=>by simp only at e;omega,fun e=>by simp only at e;omega⟩,fun e=>by simp at e⟩
  | true=>
   rw[hr] at wJ
   simp only[if_true] at wJ⊢
   have wK:=wJ a1 (by omega)
   have hG:cU P' me (t.retire (aw M m h.find).2.2.aO).ret:=a3
   refine⟨P',a1,hsp',fun _=> ?_,fun e=>by simp at e⟩
   unfold aM.bQ
   simp only
   split
   ·exact di rfl hG
   ·rename_i hab
    have hab':(aw M m h.find).2.2.ab=false:=by simpa using hab
    have hfd:=a4.found hr hab'
    have hpos:=hok.pos hab'
    split
    ·exact⟨fun _=>eJ,fun _=>wK,fun _=>b9 hG,fun e=>by simp at e,fun e=>by simp at e,fun e=>by simp at e,fun _ e=>absurd rfl e,fun e=>by simp at e,fun e=>by simp at e,fun e=>by simp at e,fun e=>by simp at e⟩
    ·rename_i b8
     have gH:(au h.task (aw M m h.find).2.2.pos t.spare).now=false:=by simpa using b8
     have hlk:h.task.links=true→(1≤t.spare∧t.spare≤M.L.nd)∧P' t.spare= .spare me:=fun hl=>by
      have h8:=rM hl
      have:=ht.spare
      exact⟨by omega,hsp' h8⟩
     obtain⟨p1,p2⟩:=y6 hmay eJ hpos hfd hlk gH
     have pc:(au h.task (aw M m h.find).2.2.pos t.spare).claimed=false→(ao (au h.task (aw M m h.find).2.2.pos t.spare).old).claim=0:=fun e=>by
      unfold cY.claimed at e
      rw[gH] at e
      simpa using e
     split
     ·exact⟨fun _=>eJ,fun _=>wK,fun _=>b9 hG,fun e=>by simp at e,fun e=>by simp at e,fun e=>by simp at e,fun _ _=>rM,fun _=>⟨fun e=>by simp[fo.new] at e,fun e=>by simp[fo.new] at e,fun e=>by simp[fo.new] at e⟩,fun e=>by simp at e,fun e=>by simp at e,fun e=>by simp at e⟩
     ·rename_i hcl
      have hc0:=pc (by simpa using hcl)
      split
      ·rename_i hl
       have hpl:=p2 hl
       refine⟨fun _=>eJ,fun _=>wK,fun _=>b9 hG,fun e=>by simp at e,fun e=>by simp at e,fun e=>by simp at e,fun _ _=>rM,fun e=>by simp at e,fun _=>⟨p1,hc0,fun _=>hpl.2⟩,fun _=>⟨hl,?_,fun e=>by simp[kP.new] at e⟩,fun e=>by simp at e⟩
       simp only[kP.new]
       rw[hpl.1];exact hfd.cu
      ·rename_i hl
       exact⟨fun _=>eJ,fun _=>wK,fun _=>b9 hG,fun e=>by simp at e,fun e=>by simp at e,fun e=>by simp at e,fun _ _=>rM,fun e=>by simp at e,fun _=>⟨p1,hc0,fun e=>absurd e hl⟩,fun e=>by simp at e,fun _ e=>absurd e hl⟩
 ·have hG:=hO (by omega) (by omega)
  have hst:=hh.st1 (by omega)
  have hpv:=(hh.plan (by omega)).val
  rw[kc h0]
  cases hq:bA M m (M.L.desc h.u) h.found with
  | false=>
   simp only
   rw[dP _ hq]
   exact⟨P,hx.stay me,hsp,fun _=>di rfl hG,fun e=>by simp at e⟩
  | true=>
   simp only
   rw[cZ _ hq]
   have hD:aX M m h.u=getD' h.found:=by simp only[aX,cO hq]
   have hy:=dB (kB h.found h.plan.res.code h.plan.res.ok h.plan.res.val hpv)
   obtain⟨a1,a2⟩:=nB (me:=me) hL hx.nU hx.g (y:=cv ((getD' h.found).ended h.plan.res.code h.plan.res.ok h.plan.res.val)) (P':=P) hh.u (by rw[hD];omega) (by rw[hD];omega) (by rw[hy];simp[Ds.ended]) (nK hst _ _ _ hpv).ok (.inl rfl)
   exact⟨P,⟨a1,a2⟩,hsp,fun _=>di rfl hG,fun e=>by simp at e⟩
 ·have hG:=hO (by omega) (by omega)
  have eJ:=k.iS (by omega)
  obtain⟨a1,a2,a3⟩:=Di (me:=me) hx (hh.cl h0) (k.cl h0)
  have wJ:=Fc P
  have rM:=k.spare (by omega) (by omega)
  rw[kd h0] at wJ⊢
  have wK:=wJ a1 (by omega)
  refine⟨P,a1,hsp,fun _=> ?_,fun e=>by simp at e⟩
  cases hr:(a9 M m h.cl).1 with
  | true=>exact di rfl hG
  | false=>exact⟨fun _=>eJ,fun _=>wK,fun _=>b9 hG,fun e=>by simp at e,fun e=>by simp at e,fun e=>by simp at e,fun _ _=>rM,fun _=>a3 hr,fun e=>by simp at e,fun e=>by simp at e,fun e=>by simp at e⟩
 ·have hG:=hO (by omega) (by omega)
  have eJ:=k.iS (by omega)
  obtain⟨p1,p2,p3⟩:=k.plan (by omega)
  obtain⟨q1,q2⟩:=k.az h0
  obtain⟨a1,a2,a3,a4⟩:=FA (t:=t) hx (hh.az h0) p1 q1 (p3 q1) q2
  have wJ:=Fc P
  have rM:=k.spare (by omega) (by omega)
  rw[ke h0] at wJ⊢
  have wK:=wJ a1 (by omega)
  refine⟨P,a1,hsp,fun _=> ?_,fun e=>by simp at e⟩
  cases hr:(ch M m t h.az).1 with
  | true=>exact⟨fun _=>eJ,fun _=>wK,fun _=>b9 hG,fun e=>by simp at e,fun e=>by simp at e,fun e=>by simp at e,fun _ _=>rM,fun e=>by simp at e,fun _=>⟨a2,p2,p3⟩,fun e=>by simp at e,fun _=>a4 hr⟩
  | false=>exact⟨fun _=>eJ,fun _=>wK,fun _=>b9 hG,fun e=>by simp at e,fun e=>by simp at e,fun e=>by simp at e,fun _ _=>rM,fun e=>by simp at e,fun _=>⟨a2,p2,p3⟩,fun _=>⟨q1,a3 hr⟩,fun e=>by simp at e⟩
 ·have hG:=hO (by omega) (by omega)
  obtain⟨p1,p2,p3⟩:=k.plan (by omega)
  have hst:=hh.st1 (by omega)
  have hpo:=hh.plan (by omega)
  rw[pX h0]
  cases hq:bA M m (M.L.desc h.u) h.found with
  | false=>
   simp only[Bool.false_and,Bool.false_eq_true,if_false]
   rw[dP _ hq]
   exact⟨P,hx.stay me,hsp,fun _=>di rfl hG,fun e=>by simp at e⟩
  | true=>
   simp only[Bool.true_and]
   rw[cZ _ hq]
   have he:=cO hq
   have hD:aX M m h.u=getD' h.found:=by simp only[aX,he]
   have htk:=k.LZ (by omega) he
   obtain⟨d1,d2,d3⟩:=sa hL hpo (hh.now (by omega)) hst
   obtain⟨a1,a2⟩:=wu (me:=me) hL hx.nU hx.g (y:=h.plan.desc (getD' h.found).aJ) hh.u (by rw[hD];exact hst) d3 d1.ok p1.kl.kn p2 (fun e=>by rw[←htk];exact p1.fits (k.ready h0) e) (fun e=>(p1.link (by rw[htk];exact e)).2.2.2) rfl
   rw[←htk] at a1 a2
   cases hl:h.task.links with
   | true=>
    rw[hl] at a1 a2
    have hs:=(p1.link hl).2.2.2
    exact⟨_,⟨a1,a2⟩,fun e=>absurd rfl e,fun _=>di rfl ⟨hG.1,fun n hn=>by
     obtain⟨j,h5,h6⟩:=hG.2 n hn
     refine⟨j,h5,?_⟩
     simp only[if_true]
     rw[Gh.aE _ _ (fun e=>by rw[e,hs] at h6;cases h6)];exact h6⟩,fun e=>by simp at e⟩
   | false=>
    rw[hl] at a1 a2
    simp only[Bool.false_eq_true,if_false] at a1 a2⊢
    exact⟨P,⟨a1,a2⟩,hsp,fun _=>di rfl hG,fun e=>by simp at e⟩
end
end Go.Proofs.YtbcnnhlpilmmbaaGreat
