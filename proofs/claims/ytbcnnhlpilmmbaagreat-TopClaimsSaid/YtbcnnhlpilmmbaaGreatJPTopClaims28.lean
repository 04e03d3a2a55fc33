/- Texts that are wanted for PTopClaims.
   Conditions: none. -/
import Derived.Test.YtbcnnhlpilmmbaaGreatJPTopClaims21
set_option maxRecDepth 100000
set_option maxHeartbeats 6400000
namespace Go.Proofs.YtbcnnhlpilmmbaaGreat
open Go Go.RowKit
structure kp (M:ML) (m m':Mm) (F F':List (Int×Int)):Prop where
 desc:∀ v,0≤v→v<M.L.th→ld M m' (M.L.desc v)=ld M m (M.L.desc v)∨(v,ld M m (M.L.desc v))∈F
 next:∀ p,p∈F'→p∈F∨(p.2=ld M m (M.L.desc p.1)∧ld M m' (M.L.desc p.1)=ld M m (M.L.desc p.1)∧0≤p.1∧p.1<M.L.th)
section
variable {M:ML} {m m':Mm} {F F' G G':List (Int×Int)}
theorem kp.keep (h:m'=m) (hs:∀ p,p∈F'→p∈F):kp M m m' F F':=⟨fun _ _ _=> .inl (by rw[h]),fun p hp=> .inl (hs p hp)⟩
theorem kp.quiet (h:∀ v,0≤v→v<M.L.th→ld M m' (M.L.desc v)=ld M m (M.L.desc v)) (hs:∀ p,p∈F'→p∈F):kp M m m' F F':=⟨fun v h0 h1=> .inl (h v h0 h1),fun p hp=> .inl (hs p hp)⟩
theorem kp.mono (h:kp M m m' F F') (h1:∀ p,p∈F→p∈G) (h2:∀ p,p∈G'→p∈F'∨p∈G):kp M m m' G G':=
 ⟨fun v a b=>(h.desc v a b).imp id (h1 _),fun p hp=>(h2 p hp).elim (fun hp=>(h.next p hp).imp (h1 p) id) .inl⟩
theorem kp.one {v x:Int} (hx:x=ld M m (M.L.desc v)) (hv:0≤v∧v<M.L.th) (h2:∀ p,p∈G→p∈F∨p=(v,x)):kp M m m F G:=
 ⟨fun _ _ _=> .inl rfl,fun p hp=>(h2 p hp).imp id (fun e=>by subst e;exact⟨hx,rfl,hv.1,hv.2⟩)⟩
theorem jv {v old:Int} (x:Int) (hL:M.L.Ok) (_:0≤v∧v<M.L.th) (hF:(v,old)∈F) (hs:∀ p,p∈F'→p∈F):kp M m (cas M m (M.L.desc v) old x) F F':=by
 have h1:=hL.th;have h2:=hL.nd
 refine⟨fun u h3 h4=> ?_,fun p hp=> .inl (hs p hp)⟩
 cases hq:bA M m (M.L.desc v) old with
 | false=>rw[dP _ hq];exact .inl rfl
 | true=>
  rw[cZ _ hq]
  by_cases e:v=u
  ·subst e;rw[cO hq];exact .inr hF
  ·exact .inl (ak _ _ (by simp only[Ly.desc];omega))
theorem fQ {a:Int} (x:Int) (h:∀ v,0≤v→v<M.L.th→a≠M.L.desc v) (v:Int) (h0:0≤v) (h1:v<M.L.th):ld M (st M m a x) (M.L.desc v)=ld M m (M.L.desc v):=ak _ _ (h v h0 h1)
theorem gK {a:Int} (old x:Int) (h:∀ v,0≤v→v<M.L.th→a≠M.L.desc v) (v:Int) (h0:0≤v) (h1:v<M.L.th):ld M (cas M m a old x) (M.L.desc v)=ld M m (M.L.desc v):=by
 cases hq:bA M m a old with
 | false=>rw[dP _ hq]
 | true=>rw[cZ _ hq];exact fQ x h v h0 h1
theorem fJ (hL:M.L.Ok) {a:Int} (ha:a≤M.L.nd+4):∀ v,0≤v→v<M.L.th→a≠M.L.desc v:=fun v h0 h1=>by
 have:=hL.th;have:=hL.nd
 simp only[Ly.desc];omega
theorem ny (hL:M.L.Ok) {t n:Int} (ht:0≤t∧t<M.L.th) (hn:0≤n∧n≤1):∀ v,0≤v→v<M.L.th→M.L.slot t n≠M.L.desc v:=fun v h0 h1=>by
 have:=hL.th;have:=hL.nd
 simp only[Ly.desc,Ly.slot];omega
theorem nz (hL:M.L.Ok) {n:Int} (hn:n≤M.L.nd):∀ v,0≤v→v<M.L.th→M.L.life n≠M.L.desc v:=fun v h0 h1=>by
 have:=hL.th;have:=hL.nd
 simp only[Ly.desc,Ly.life];omega
end
def fo.cm (c:fo):List (Int×Int):=if c.at_=2 then [(ji c.word,c.found)] else []
def aB.cm (f:aB):List (Int×Int):=if f.at_=4 then f.cl.cm else []
def bt.cm (x:bt):List (Int×Int):=if 1≤x.at_∧x.at_≤8 then [(x.u,x.found)] else []
def bq.cm (f:bq):List (Int×Int):=if f.at_=0 then f.find.cm else if f.at_=1 then f.cl.cm else []
def aM.sub (h:aM):List (Int×Int):=if h.at_=3 then h.exec.cm else if h.at_=5 then h.find.cm else if h.at_=7 then h.cl.cm else []
def aM.cm (h:aM):List (Int×Int):=(if 1≤h.at_ then [(h.u,h.found)] else [])++h.sub
def aI.cm (me:Int) (d:aI):List (Int×Int):=if d.at_=1∨d.at_=5 then d.help.cm else if d.at_=3 then d.fast.cm else if d.at_=4∧d.ann.at_=4 then [(me,d.ann.found)] else if d.at_=7 then d.find.cm else []
def DR {α:Type} (M:ML) (m:Mm) (F:List (Int×Int)) (g:α→List (Int×Int)) (r:Bool×Mm×α):Prop:=kp M m r.2.1 F (if r.1 then [] else g r.2.2)
theorem DR.mk {α:Type} {M:ML} {m:Mm} {F:List (Int×Int)} {g:α→List (Int×Int)} {r:Bool×Mm×α} (h:kp M m r.2.1 F (if r.1 then [] else g r.2.2)):DR M m F g r:=h
theorem DR.out {α:Type} {M:ML} {m:Mm} {F:List (Int×Int)} {g:α→List (Int×Int)} {r:Bool×Mm×α} (h:DR M m F g r):kp M m r.2.1 F (if r.1 then [] else g r.2.2):=h
theorem yY {P:Int×Int→Prop}:∀ p,p∈([]:List (Int×Int))→P p:=fun _ h=>by cases h
theorem jw (a:Int):(fo.new a).cm=[]:=by simp[fo.cm,fo.new]
variable {M:ML} {m:Mm}
theorem yh {c:fo} (hL:M.L.Ok) (h:tl M.L c):kp M m (a9 M m c).2.1 c.cm (if (a9 M m c).1 then [] else (a9 M m c).2.2.cm):=by
 obtain⟨h1,h2,h3,h4,h5⟩:=h
 have hn:=hL.nd
 unfold a9
 split
 ·refine .keep rfl fun p hp=> ?_
  split at hp
  ·cases hp
  ·simp[fo.cm] at hp
 ·split
  ·rename_i h0 h6
   have ht:=h3 (by omega)
   refine kp.one (v:=ji c.word) (x:=ld M m (M.L.desc (ji c.word))) rfl ht fun p hp=> ?_
   simp only[Bool.false_eq_true,if_false,fo.cm] at hp
   split at hp
   ·exact .inr (List.mem_singleton.1 hp)
   ·cases hp
  ·split
   ·rename_i h0 h6 h7
    refine jv _ hL (h3 (by omega)) (by simp[fo.cm,h7]) fun p hp=> ?_
    simp[fo.cm] at hp
   ·refine .quiet (gK _ _ (fJ hL (by omega))) fun p hp=> ?_
    simp at hp
theorem G9 {f:aB} (h:f.at_≠4):f.cm=[]:=by unfold aB.cm;rw[if_neg h]
theorem kK {P:Prop} {r:Bool×aB} (h:r.1=false→r.2.at_≠4) {p:Int×Int} (hp:p∈(if r.1 then [] else r.2.cm)):P:=by
 cases hr:r.1 with
 | true=>rw[hr] at hp;simp at hp
 | false=>rw[hr,G9 (h hr)] at hp;simp at hp
theorem lM (f:aB) (x:Int):(f.take x).2.at_≠4:=by
 unfold aB.take
 split<;>simp[aB.anew]
theorem k9 (f:aB) (x:Int):(f.cI x).1=false→(f.cI x).2.at_≠4:=by
 unfold aB.cI
 split
 ·intro h;simp at h
 ·exact fun _=>lM _ _
theorem qA (L:Ly) (f:aB) (h:f.at_≠4):(f.move L).1=false→(f.move L).2.2.at_≠4:=by
 unfold aB.move
 split
 ·exact fun _=>h
 ·split
  ·intro h;simp at h
  ·intro _;simp[aB.anew]
theorem yi {u N:Int} {f:aB} (hL:M.L.Ok) (hu:0≤u∧u<M.L.th) (h:eV M.L u f N) (hl:fF M.L f):DR M m f.cm aB.cm (aw M m f):=by
 have hn:=hL.nd
 have hp:=h.pos hl.ab
 have hpr:=hp.pred
 unfold aw
 split
 ·simp only
  refine DR.mk <| kp.keep rfl fun p hp=> ?_
  split at hp
  ·exact kK (k9 _ _) hp
  ·exact kK (fun _=>lM _ _) hp
 ·split
  ·rw[h.me]
   refine DR.mk <| kp.quiet (fQ _ (ny hL hu (by omega))) fun p hp=> ?_
   simp[aB.cm] at hp
  ·split
   ·simp only
    refine DR.mk <| kp.keep (by split<;>rfl) fun p hp=> ?_
    split at hp
    ·exact kK (r:=f.cI (ld M m f.pos.pred)) (k9 _ _) hp
    ·simp[aB.cm] at hp
   ·split
    ·refine DR.mk <| kp.keep rfl fun p hp=> ?_
     simp only at hp
     unfold aB.look at hp
     simp only at hp
     revert hp
     split
     ·split
      ·intro hp;simp at hp
      ·intro hp;simp[aB.cm] at hp
     ·split
      ·intro hp;simp[aB.cm,jw] at hp
      ·split
       ·intro hp;simp[aB.cm,jw] at hp
       ·intro hp;simp[aB.cm] at hp
    ·split
     ·rename_i h4
      have hc:=yh (m:=m) hL (hl.cl h4)
      have hF:f.cm=f.cl.cm:=by unfold aB.cm;rw[if_pos h4]
      rw[hF]
      simp only
      split
      ·refine DR.mk <| hc.mono (fun _ h=>h) fun p hp=> ?_
       revert hp
       split
       ·intro hp;cases hp
       ·intro hp;simp[aB.cm,aB.aR] at hp
      ·rename_i hr
       rw[if_neg hr] at hc
       refine DR.mk <| hc.mono (fun _ h=>h) fun p hp=> .inl ?_
       simpa [aB.cm,h4] using hp
     ·split
      ·split
       ·simp only
        split
        ·rename_i hr
         refine DR.mk <| kp.quiet (gK _ _ (fJ hL (by omega))) fun p hp=> ?_
         exact kK (fun _=>lM _ _) hp
        ·rename_i hr
         refine DR.mk <| kp.quiet (gK _ _ (fJ hL (by omega))) fun p hp=> ?_
         exact kK (r:=((({ f with aO:=f.aO++[f.pos.curr] }:aB).move M.L).1,(({ f with aO:=f.aO++[f.pos.curr] }:aB).move M.L).2.2)) (qA M.L _ (by simp only;omega)) hp
       ·refine DR.mk <| kp.keep rfl fun p hp=> ?_
        revert hp
        simp only
        split
        ·intro hp;cases hp
        ·intro hp;simp[aB.cm,aB.aR] at hp
      ·refine DR.mk <| kp.quiet (fQ _ (ny hL (by rw[h.me];exact hu) (by omega))) fun p hp=> ?_
       exact kK (r:=((({ f with pos:={ f.pos with pred:=f.pos.curr },at_:=0 }:aB).move M.L).1,(({ f with pos:={ f.pos with pred:=f.pos.curr },at_:=0 }:aB).move M.L).2.2)) (qA M.L _ (by simp)) hp
theorem Ha {x:bt} (hL:M.L.Ok) (h:jZ M.L x):DR M m x.cm bt.cm (bz M m x):=by
 have hn:=hL.nd
 obtain⟨hu,hat,hv,h2,h3,h4,hg,hw⟩:=h
 have hin:1≤x.at_→x.at_≤8→(x.u,x.found)∈x.cm:=fun a b=>by unfold bt.cm;rw[if_pos ⟨a,b⟩];exact List.mem_singleton_self _
 have hsame:1≤x.at_→x.at_≤8→∀ (k w:Int) (p:Int×Int),p∈({ x with at_:=k,word:=w }:bt).cm→p∈x.cm:=fun a b k w p hp=>by
  unfold bt.cm at hp
  split at hp
  ·rw[List.mem_singleton.1 hp];exact hin a b
  ·cases hp
 unfold bz
 simp only
 split
 ·refine DR.mk <| kp.one (v:=x.u) (x:=ld M m (M.L.desc x.u)) rfl hu fun p hp=> ?_
  have key:∀ k:Int,p∈({ x with found:=ld M m (M.L.desc x.u),at_:=k }:bt).cm→p=(x.u,ld M m (M.L.desc x.u)):=fun k hk=>by
   unfold bt.cm at hk
   split at hk
   ·exact List.mem_singleton.1 hk
   ·cases hk
  revert hp
  unfold bt.load
  split
  ·intro hp;cases hp
  ·split
   ·exact fun hp=> .inr (key 1 hp)
   ·split
    ·exact fun hp=> .inr (key 5 hp)
    ·split
     ·exact fun hp=> .inr (key 8 hp)
     ·intro hp;cases hp
 ·split
  ·refine DR.mk <| kp.keep rfl fun p hp=> ?_
   exact hsame (by omega) (by omega) _ _ p hp
  ·split
   ·rename_i c0 c1 c2
    have hd:=(hv (by omega)).at_ (by have:=h2 (by omega) (by omega);omega) (by have:=h2 (by omega) (by omega);omega)
    exact DR.mk <| kp.quiet (gK _ _ (fJ hL hd.1.2)) fun p hp=>by cases hp
   ·split
    ·exact DR.mk <| jv _ hL hu (hin (by omega) (by omega)) fun p hp=>by cases hp
    ·split
     ·exact DR.mk <| jv _ hL hu (hin (by omega) (by omega)) fun p hp=>by cases hp
     ·split
      ·refine DR.mk <| kp.keep rfl fun p hp=> ?_
       exact hsame (by omega) (by omega) _ _ p hp
      ·split
       ·rename_i c0 c1 c2 c3 c4 c5 c6
        have hs:=h3 (by omega) (by omega)
        have hd:=(hv (by omega)).at_ (by omega) (by omega)
        exact DR.mk <| kp.quiet (gK _ _ (fJ hL hd.1.2)) fun p hp=>hsame (by omega) (by omega) 7 x.word p hp
       ·split
        ·exact DR.mk <| jv _ hL hu (hin (by omega) (by omega)) fun p hp=>by cases hp
        ·split
         ·refine DR.mk <| jv _ hL hu (hin (by omega) (by omega)) fun p hp=> ?_
          revert hp
          split
          ·intro hp;cases hp
          ·exact fun hp=>hsame (by omega) (by omega) 9 x.word p hp
         ·rename_i c0 c1 c2 c3 c4 c5 c6 c7 c8
          have:=hg (by omega)
          exact DR.mk <| kp.quiet (fQ _ (nz hL this.2)) fun p hp=>by cases hp
variable {t:cg}
theorem v9 {p:kP} (hL:M.L.Ok) (ht:t.spare≤M.L.nd):∀ v,0≤v→v<M.L.th→ld M (ch M m t p).2.1 (M.L.desc v)=ld M m (M.L.desc v):=fun v h0 h1=>by
 unfold ch
 split
 ·rfl
 ·exact fQ _ (fJ hL (by omega)) v h0 h1
theorem CW {l:List Int} (hL:M.L.Ok) (h:Nodes M.L l):∀ v,0≤v→v<M.L.th→ld M (dH M m l).2.1 (M.L.desc v)=ld M m (M.L.desc v):=fun v h0 h1=>by
 cases l with
 | nil=>rfl
 | cons x r=>exact fQ _ (nz hL (h x (List.mem_cons_self ..)).2) v h0 h1
theorem CX {s:fY} (hL:M.L.Ok) (h:ti M.L s):∀ v,0≤v→v<M.L.th→ld M (ct M m s).2.1 (M.L.desc v)=ld M m (M.L.desc v):=fun v h0 h1=>by
 unfold ct
 split
 ·exact CW hL h.give v h0 h1
 ·split<;>rfl
theorem qB {x:qV} {N:Int} (hL:M.L.Ok) (ht:bL M.L t N) (h:tj M.L x N):∀ v,0≤v→v<M.L.th→ld M (a7 M m t x).2.1 (M.L.desc v)=ld M m (M.L.desc v):=by
 have key:ti M.L (x.getD (.new t.ret)):=by
  cases x with
  | none=>exact xk ht.ret
  | some s=>exact(h s rfl).1
 exact fun v h0 h1=>CX hL key v h0 h1
theorem wa {a:iq} (hL:M.L.Ok) (h:uW M.L a):∀ v,0≤v→v<M.L.th→ld M (ca M m a).2.1 (M.L.desc v)=ld M m (M.L.desc v):=fun v h0 h1=>by
 have h2:=h.at_.2
 unfold ca
 split
 ·split
  ·exact gK _ _ (nz hL h2) v h0 h1
  ·rfl
 ·split<;>rfl
theorem we (M:ML) (m:Mm) (t:cg) (e:jL) (a:iq):(mX M m t e a).2.1=(ca M m a).2.1:=by
 unfold mX
 simp only
 split
 ·rfl
 ·split<;>rfl
variable {me:Int}
theorem wh {e:jL} {N:Int} (hL:M.L.Ok) (ht:bL M.L t N) (h:m6 M.L e N):∀ v,0≤v→v<M.L.th→ld M (aK M me m t e).2.1 (M.L.desc v)=ld M m (M.L.desc v):=fun v h0 h1=>by
 unfold aK
 cases hs:e.scan with
 | some x=>
  simp only
  split
  ·exact qB hL ht (h.scan x hs) v h0 h1
  ·exact qB hL ht (h.scan x hs) v h0 h1
 | none=>
  simp only
  cases ha:e.alloc with
  | none=>
   simp only
   split
   ·rfl
   ·rw[we];exact wa hL (xj hL _) v h0 h1
  | some a=>simp only;rw[we];exact wa hL (h.alloc a hs ha) v h0 h1
theorem CY {g:DO} (hL:M.L.Ok) (h1:0≤g.thread∧g.thread<M.L.th) (h2:0≤g.at_∧g.at_≤1):∀ v,0≤v→v<M.L.th→ld M (ei M m g).2.1 (M.L.desc v)=ld M m (M.L.desc v):=fun v h3 h4=>by
 unfold ei
 exact fQ _ (ny hL h1 h2) v h3 h4
theorem e7 {h:aM} (h1:1≤h.at_):(h.u,h.found)∈h.cm:=by
 unfold aM.cm
 rw[if_pos h1]
 exact List.mem_append_left _ (List.mem_singleton_self _)
theorem gL {h:aM} (p:Int×Int) (hp:p∈h.sub):p∈h.cm:=List.mem_append_right _ hp
theorem iT {h:aM} {p:Int×Int} (hp:p∈h.cm):(1≤h.at_∧p=(h.u,h.found))∨p∈h.sub:=by
 unfold aM.cm at hp
 rcases List.mem_append.1 hp with hp | hp
 ·left
  split at hp
  ·exact⟨by assumption,List.mem_singleton.1 hp⟩
  ·cases hp
 ·exact .inr hp
theorem kq {h:aM} (h0:h.at_=0):h.cm=[]:=by
 unfold aM.cm aM.sub
 simp[h0]
theorem eQ {h h':aM} (h1:1≤h.at_) (hu:h'.u=h.u) (hf:h'.found=h.found) (hs:∀ p,p∈h'.sub→p∈h.cm):∀ p,p∈h'.cm→p∈h.cm:=fun p hp=>by
 rcases iT hp with ⟨-,rfl⟩ | hp
 ·rw[hu,hf];exact e7 h1
 ·exact hs p hp
theorem gM (L:Ly) (me head key limit:Int):(aB.new L me head key limit).cm=[]:=by simp[aB.cm,aB.new]
theorem CZ {h:aM} {N:Int} (hL:M.L.Ok) (hu:0≤me∧me<M.L.th) (ht:bL M.L t N) (hh:dX M.L me t h N):kp M m (ah M me m t h).2.1 h.cm (if (ah M me m t h).1 then [] else (ah M me m t h).2.2.2.cm):=by
 have nil:∀ {b:Bool} {h':aM} {G:List (Int×Int)},h'.cm=[]→∀ p,p∈(if b then [] else h'.cm)→p∈G:=fun e p hp=>by
  rw[e] at hp
  revert hp
  split<;>(intro hp;cases hp)
 rcases(by have:=hh.at_;omega:h.at_=0∨h.at_=1∨h.at_=2∨h.at_=3∨h.at_=4∨h.at_=5∨h.at_=6∨h.at_=7∨h.at_=8∨h.at_=9) with h0 | h0 | h0 | h0 | h0 | h0 | h0 | h0 | h0 | h0
 ·rw[j6 h0]
  refine kp.one (v:=h.u) (x:=ld M m (M.L.desc h.u)) rfl hh.u fun p hp=> ?_
  simp only at hp
  split at hp
  ·cases hp
  ·rcases iT hp with ⟨-,e⟩ | hp
   ·exact .inr e
   ·simp[aM.sub] at hp
 ·rw[j7 h0]
  refine .keep rfl fun p hp=> ?_
  simp only at hp
  split at hp
  ·cases hp
  ·exact eQ (h:=h) (by omega) (by rfl) (by rfl) (fun p hp=>by simp[aM.sub] at hp) p hp
 ·rw[j8 h0]
  refine .keep rfl fun p hp=> ?_
  simp only at hp
  split at hp
  ·cases hp
  ·revert hp
   unfold aM.begin_
   split
   ·exact fun hp=>eQ (h:=h) (by omega) (by rfl) (by rfl) (fun p hp=>by simp[aM.sub,h0] at hp) p hp
   ·simp only
    split
    ·exact fun hp=>eQ (h:=h) (by omega) (by rfl) (by rfl) (fun p hp=>by simp[aM.sub,bt.cm,bt.new] at hp) p hp
    ·split
     ·exact fun hp=>eQ (h:=h) (by omega) (by rfl) (by rfl) (fun p hp=>by simp[aM.sub] at hp) p hp
     ·exact fun hp=>eQ (h:=h) (by omega) (by rfl) (by rfl) (fun p hp=>by simp[aM.search,aM.sub,gM] at hp) p hp
 ·have hx:=(Ha (m:=m) hL (hh.exec h0).1).out
  rw[j9 h0]
  simp only[Bool.false_eq_true,if_false]
  refine hx.mono (fun p hp=>gL p (by unfold aM.sub;rw[if_pos h0];exact hp)) fun p hp=> ?_
  cases hq:(bz M m h.exec).1 with
  | true=>
   rw[hq] at hp
   rw[kq (by simp)] at hp
   cases hp
  | false=>
   rw[hq] at hp
   rcases iT hp with ⟨-,rfl⟩ | hp
   ·exact .inr (e7 (by omega))
   ·left
    simpa [aM.sub] using hp
 ·rw[ka h0]
  refine .quiet (wh hL ht (hh.bm h0)) fun p hp=> ?_
  simp only[Bool.false_eq_true,if_false] at hp
  revert hp
  split
  ·exact fun hp=>eQ (h:=h) (by omega) (by rfl) (by rfl) (fun p hp=>by simp[aM.sub,h0] at hp) p hp
  ·split
   ·exact fun hp=>eQ (h:=h) (by omega) (by rfl) (by rfl) (fun p hp=>by simp[aM.sub] at hp) p hp
   ·exact fun hp=>eQ (h:=h) (by omega) (by rfl) (by rfl) (fun p hp=>by simp[aM.search,aM.sub,gM] at hp) p hp
 ·have hf:=hh.find h0
  have hx:=(yi (m:=m) hL hu hf.1.1 hf.1.2).out
  rw[kb h0]
  cases hq:(aw M m h.find).1 with
  | true=>
   simp only[if_true,Bool.false_eq_true,if_false]
   rw[hq] at hx
   refine hx.mono (fun p hp=>gL p (by simp[aM.sub,h0];exact hp)) fun p hp=> .inr ?_
   refine eQ (h:=h) (by omega) ?_ ?_ (fun p hp=> ?_) p hp
   ·unfold aM.bQ;simp only;split<;>(try rfl);split<;>(try rfl);split<;>(try rfl);split<;>rfl
   ·unfold aM.bQ;simp only;split<;>(try rfl);split<;>(try rfl);split<;>(try rfl);split<;>rfl
   ·revert hp
    unfold aM.bQ
    simp only
    split
    ·intro hp;simp[aM.sub] at hp
    ·split
     ·intro hp;simp[aM.sub] at hp
     ·split
      ·intro hp;simp[aM.sub,jw] at hp
      ·split<;>(intro hp;simp[aM.sub] at hp)
  | false=>
   simp only[Bool.false_eq_true,if_false]
   rw[hq] at hx
   refine hx.mono (fun p hp=>gL p (by simp[aM.sub,h0];exact hp)) fun p hp=> ?_
   rcases iT hp with ⟨-,rfl⟩ | hp
   ·exact .inr (e7 (by omega))
   ·left
    simpa [aM.sub,h0] using hp
 ·rw[kc h0]
  exact jv _ hL hh.u (e7 (by omega)) (nil (kq (by simp)))
 ·have hx:=yh (m:=m) hL (hh.cl h0)
  rw[kd h0]
  simp only[Bool.false_eq_true,if_false]
  refine hx.mono (fun p hp=>gL p (by simp[aM.sub,h0];exact hp)) fun p hp=> ?_
  cases hq:(a9 M m h.cl).1 with
  | true=>
   rw[hq] at hp
   rw[kq (by simp)] at hp
   cases hp
  | false=>
   rw[hq] at hp
   rcases iT hp with ⟨-,rfl⟩ | hp
   ·exact .inr (e7 (by omega))
   ·left
    simpa [aM.sub] using hp
 ·rw[ke h0]
  refine .quiet (v9 hL ht.spare.2) fun p hp=> ?_
  simp only[Bool.false_eq_true,if_false] at hp
  refine eQ (h:=h) (by omega) (by rfl) (by rfl) (fun p hp=> ?_) p hp
  revert hp
  unfold aM.sub
  simp only
  split<;>(intro hp;simp at hp)
 ·rw[pX h0]
  exact jv _ hL hh.u (e7 (by omega)) (nil (kq (by simp)))
theorem qC {f:bq} (h0:f.at_=0):f.cm=f.find.cm:=by unfold bq.cm;rw[if_pos h0]
theorem qD {f:bq} (h0:f.at_=1):f.cm=f.cl.cm:=by unfold bq.cm;rw[if_neg (by omega),if_pos h0]
theorem C8 {f:bq} (h0:f.at_≠0) (h1:f.at_≠1):f.cm=[]:=by unfold bq.cm;rw[if_neg h0,if_neg h1]
theorem mK (L:Ly) (me:Int) (f:bq):(if (f.again L me).1 then [] else (f.again L me).2.cm)=[]:=by
 unfold bq.again
 split
 ·rfl
 ·simp[bq.cm,bq.hZ,gM]
theorem rK (t:cg) (f:bq):(if (f.sought t).1 then [] else (f.sought t).2.2.cm)=[]:=by
 unfold bq.sought
 simp only
 split
 ·rfl
 ·split
  ·rfl
  ·split
   ·simp[bq.cm,jw]
   ·split<;>simp[bq.cm]
theorem Hb {f:bq} {N:Int} (hL:M.L.Ok) (hu:0≤me∧me<M.L.th) (ht:bL M.L t N) (h:mr M.L me t f N):kp M m (aH M me m t f).2.1 f.cm (if (aH M me m t f).1 then [] else (aH M me m t f).2.2.2.cm):=by
 have hn:=hL.nd
 unfold aH
 split
 ·rename_i h0
  split
  ·exact .keep rfl fun p hp=>by cases hp
  ·have hf:=h.find h0
   have hx:=(yi (m:=m) hL hu hf.1 hf.2).out
   simp only
   cases hq:(aw M m f.find).1 with
   | true=>
    rw[hq] at hx
    simp only[if_true]
    refine hx.mono (fun p hp=>by rw[qC h0];exact hp) fun p hp=> ?_
    rw[rK] at hp
    cases hp
   | false=>
    rw[hq] at hx
    simp only[Bool.false_eq_true,if_false] at hx⊢
    refine hx.mono (fun p hp=>by rw[qC h0];exact hp) fun p hp=> .inl ?_
    rw[qC (by exact h0)] at hp
    exact hp
 ·split
  ·rename_i h0 h1
   have hx:=yh (m:=m) hL (h.cl h1)
   simp only
   cases hq:(a9 M m f.cl).1 with
   | true=>
    rw[hq] at hx
    simp only[if_true]
    refine hx.mono (fun p hp=>by rw[qD h1];exact hp) fun p hp=> ?_
    rw[mK] at hp
    cases hp
   | false=>
    rw[hq] at hx
    simp only[Bool.false_eq_true,if_false] at hx⊢
    refine hx.mono (fun p hp=>by rw[qD h1];exact hp) fun p hp=> .inl ?_
    rw[qD (by exact h1)] at hp
    exact hp
  ·split
   ·simp only
    refine .quiet (v9 hL ht.spare.2) fun p hp=> ?_
    simp only[Bool.false_eq_true,if_false] at hp
    rw[C8 (by simp only;split<;>omega) (by simp only;split<;>omega)] at hp
    cases hp
   ·have hat:=h.at_
    have hpl:=h.plan (by omega)
    have hpa:=hpl.1.addr hpl.2.1
    split
    ·exact .quiet (gK _ _ (fJ hL (by omega))) fun p hp=>by cases hp
    ·refine .keep rfl fun p hp=> ?_
     rw[mK] at hp
     cases hp
theorem gN {d:aI} (h:d.at_=1∨d.at_=5):d.cm me=d.help.cm:=by unfold aI.cm;rw[if_pos h]
theorem qE {d:aI} (h:d.at_=3):d.cm me=d.fast.cm:=by unfold aI.cm;rw[if_neg (by omega),if_pos h]
theorem qF {d:aI} (h:d.at_=4) (h1:d.ann.at_=4):d.cm me=[(me,d.ann.found)]:=by unfold aI.cm;rw[if_neg (by omega),if_neg (by omega),if_pos ⟨h,h1⟩]
theorem qG {d:aI} (h:d.at_=7):d.cm me=d.find.cm:=by unfold aI.cm;rw[if_neg (by omega),if_neg (by omega),if_neg (by omega),if_pos h]
theorem cq {d:aI} (h:d.at_=0∨d.at_=2∨(d.at_=4∧d.ann.at_≠4)∨d.at_=6∨8≤d.at_):d.cm me=[]:=by unfold aI.cm;rw[if_neg (by omega),if_neg (by omega),if_neg (by omega),if_neg (by omega)]
theorem yj (L:Ly) (me:Int) (t:bl) (n:Int):(bq.new L me t n).cm=[]:=by simp[bq.cm,bq.new,bq.hZ,gM]
theorem qH (L:Ly) (me:Int) (d:aI):(d.aR L me).cm me=[]:=by rw[qE (by rfl)];exact yj _ _ _ _
theorem jx (me:Int) (d:aI):(d.leave me).cm me=[]:=cq (by simp[aI.leave])
theorem nR (L:Ly) (me:Int) (t:cg) (d:aI):(d.want L me t).cm me=[]:=by
 unfold aI.want
 split
 ·exact cq (by simp)
 ·exact qH _ _ _
theorem nS (L:Ly) (me:Int) (d:aI) (r:lQ):(d.told L me r).cm me=[]:=by
 unfold aI.told
 simp only
 split
 ·exact jx _ _
 ·rw[qG (by rfl)];exact gM _ _ _ _ _
theorem qI (L:Ly) (u n k:Int):(aM.new L u n k).cm=[]:=kq (by rfl)
theorem Da {d:aI} {N:Int} (hL:M.L.Ok) (hu:0≤me∧me<M.L.th) (ht:bL M.L t N) (hd:fq M.L me t d N) (ho:d.at_=4→d.ann.at_=4→d.ann.found=ld M m (M.L.desc me)):kp M m (al M me m t d).2.1 (d.cm me) (if (al M me m t d).1 then [] else (al M me m t d).2.2.2.cm me):=by
 have hn:=hL.nd
 have hth:=hL.th
 have nil:∀ {d':aI} {G:List (Int×Int)},d'.cm me=[]→∀ p,p∈d'.cm me→p∈G:=fun e p hp=>by rw[e] at hp;cases hp
 rcases(by have:=hd.at_;omega:d.at_=0∨d.at_=1∨d.at_=2∨d.at_=3∨d.at_=4∨d.at_=5∨d.at_=6∨d.at_=7∨d.at_=8∨d.at_=9) with h0 | h0 | h0 | h0 | h0 | h0 | h0 | h0 | h0 | h0
 ·rw[my h0]
  simp only[Bool.false_eq_true,if_false]
  refine .keep rfl ?_
  split
  ·unfold aI.looked
   split
   ·exact nil (nR _ _ _ _)
   ·exact nil (by rw[gN (.inl rfl)];exact qI _ _ _ _)
  ·exact nil (cq (.inl h0))
 ·have hx:=CZ (m:=m) hL hu ht (hd.help (.inl h0))
  rw[iK h0]
  simp only[Bool.false_eq_true,if_false]
  rw[gN (.inl h0)]
  cases hq:(ah M me m t d.help).1 with
  | true=>rw[hq] at hx;exact hx.mono (fun _ h=>h) fun p hp=> .inl (nil (nR _ _ _ _) p hp)
  | false=>rw[hq] at hx;exact hx.mono (fun _ h=>h) fun p hp=> .inl (by simp only[Bool.false_eq_true,if_false] at hp⊢;rw[gN (by exact .inl h0)] at hp;exact hp)
 ·rw[mA h0]
  simp only[Bool.false_eq_true,if_false]
  refine .quiet (wh hL ht (hd.bm h0)) ?_
  split
  ·unfold aI.ensured
   split
   ·exact nil (jx _ _)
   ·exact nil (qH _ _ _)
  ·exact nil (cq (.inr (.inl h0)))
 ·have hx:=Hb (m:=m) hL hu ht (hd.fast h0)
  rw[kf h0]
  simp only[Bool.false_eq_true,if_false]
  rw[qE h0]
  cases hq:(aH M me m t d.fast).1 with
  | true=>
   rw[hq] at hx
   refine hx.mono (fun _ h=>h) fun p hp=> .inl (nil ?_ p hp)
   simp only[if_true]
   unfold aI.tried
   split
   ·exact nS _ _ _ _
   ·exact cq (by simp[lz.new])
  | false=>rw[hq] at hx;exact hx.mono (fun _ h=>h) fun p hp=> .inl (by simp only[Bool.false_eq_true,if_false] at hp⊢;rw[qE (by exact h0)] at hp;exact hp)
 ·rw[kg h0]
  have ha:=(hd.ann h0).1
  rcases(by omega:d.ann.at_=0∨d.ann.at_=1∨d.ann.at_=2∨d.ann.at_=3∨d.ann.at_=4) with a0 | a0 | a0 | a0 | a0
  ·have e:aZ M me m d.ann=(false,st M m (M.L.task me) d.ann.bits,{ d.ann with at_:=1 }):=by unfold aZ;rw[if_pos a0]
   rw[e]
   refine .quiet (fQ _ (fun v _ _=>by simp only[Ly.task,Ly.desc];omega)) (nil (cq ?_))
   simp[h0]
  ·have e:aZ M me m d.ann=(false,add M m M.L.counter 1,{ d.ann with no:=(ld M m M.L.counter+1) % 18446744073709551616,at_:=2 }):=by unfold aZ;rw[if_neg (by omega),if_pos a0]
   rw[e]
   refine .quiet (fQ _ (fun v _ _=>by simp only[Ly.counter,Ly.desc];omega)) (nil (cq ?_))
   simp[h0]
  ·have e:aZ M me m d.ann=(false,st M m (M.L.ticket me) d.ann.no,{ d.ann with at_:=3 }):=by unfold aZ;rw[if_neg (by omega),if_neg (by omega),if_pos a0]
   rw[e]
   refine .quiet (fQ _ (fun v _ _=>by simp only[Ly.ticket,Ly.desc];omega)) (nil (cq ?_))
   simp[h0]
  ·have e:aZ M me m d.ann=(false,m,{ d.ann with found:=ld M m (M.L.desc me),at_:=4 }):=by unfold aZ;rw[if_neg (by omega),if_neg (by omega),if_neg (by omega),if_pos a0]
   rw[e]
   refine kp.one (v:=me) rfl hu fun p hp=> .inr ?_
   simp only[Bool.false_eq_true,if_false] at hp
   rw[qF (by exact h0) rfl] at hp
   exact List.mem_singleton.1 hp
  ·have e:aZ M me m d.ann=(true,st M m (M.L.desc me) (cv (getD' d.ann.found).cp),{ d.ann with at_:=5 }):=by unfold aZ;rw[if_neg (by omega),if_neg (by omega),if_neg (by omega),if_neg (by omega)]
   rw[e]
   have hfd:=ho h0 a0
   refine⟨fun v h3 h4=> ?_,fun p hp=> ?_⟩
   ·by_cases ev:v=me
    ·subst ev;right;rw[qF h0 a0,hfd];exact List.mem_singleton_self _
    ·left;exact ak _ _ (by simp only[Ly.desc];omega)
   ·simp only[Bool.false_eq_true,if_false,if_true] at hp
    rw[gN (.inr rfl)] at hp
    rw[qI] at hp
    cases hp
 ·have hx:=CZ (m:=m) hL hu ht (hd.help (.inr h0))
  rw[gI h0]
  simp only[Bool.false_eq_true,if_false]
  rw[gN (.inr h0)]
  cases hq:(ah M me m t d.help).1 with
  | true=>rw[hq] at hx;exact hx.mono (fun _ h=>h) fun p hp=> .inl (nil (cq (by simp)) p hp)
  | false=>rw[hq] at hx;exact hx.mono (fun _ h=>h) fun p hp=> .inl (by simp only[Bool.false_eq_true,if_false] at hp⊢;rw[gN (by exact .inr h0)] at hp;exact hp)
 ·rw[kh h0]
  exact .keep rfl (nil (nS _ _ _ _))
 ·have hf:=hd.find h0
  have hx:=(yi (m:=m) hL hu hf.1.1 hf.1.2).out
  rw[iL h0,qG h0]
  cases hq:(aw M m d.find).1 with
  | true=>rw[hq] at hx;exact hx.mono (fun _ h=>h) fun p hp=> .inl (by simp[jx] at hp)
  | false=>rw[hq] at hx;exact hx.mono (fun _ h=>h) fun p hp=> .inl (by simp only[Bool.false_eq_true,if_false] at hp⊢;rw[qG (by exact h0)] at hp;exact hp)
 ·have hdr:=hd.drop h0
  rw[ki h0]
  have hg:=CY (m:=m) (g:=d.drop) hL (by rw[hdr.1];exact hu) hdr.2
  split
  ·refine .quiet hg fun p hp=> ?_
   simp only at hp
   split at hp
   ·cases hp
   ·exact nil (cq (by simp)) p hp
  ·exact .quiet hg (nil (cq (by simp[h0])))
 ·rw[mB h0]
  refine .quiet (qB hL ht (hd.sweep h0)) fun p hp=> ?_
  simp only at hp
  split at hp
  ·cases hp
  ·exact nil (cq (by simp[h0])) p hp
inductive Pl where
 | free
 | spare (t:Int)
 | prop (u:Int)
 | give (t:Int)
 | linked
 | out (t k:Int)
abbrev Gh:Type:=Int→Pl
def Gh.put (P:Gh) (n:Int) (p:Pl):Gh:=fun x=>if x=n then p else P x
theorem Gh.bF (P:Gh) (n:Int) (p:Pl):P.put n p n=p:=if_pos rfl
theorem Gh.aE (P:Gh) {n x:Int} (p:Pl) (h:x≠n):P.put n p x=P x:=if_neg h
abbrev wd (M:ML) (m:Mm) (a:Int):Wd:=ao (ld M m a)
abbrev aX (M:ML) (m:Mm) (w:Int):Ds:=getD' (ld M m (M.L.desc w))
abbrev tk (M:ML) (m:Mm) (w:Int):bl:=eN (ld M m (M.L.task w))
def rk (x:Int):Int:=2*(ao x).ver+(if (ao x).claim=0 then 0 else 1)
theorem yk (x:Int):2*(ao x).ver≤rk x∧rk x≤2*(ao x).ver+1:=by unfold rk;split<;>omega
theorem gw {x:Int} (h:(ao x).claim=0):rk x=2*(ao x).ver:=by unfold rk;rw[if_pos h];omega
theorem kr {x:Int} (h:(ao x).claim≠0):rk x=2*(ao x).ver+1:=by unfold rk;rw[if_neg h]
theorem yl {x v:Int} (h:rk x=2*v):(ao x).claim=0∧(ao x).ver=v:=by
 unfold rk at h
 split at h
 ·exact⟨by assumption,by omega⟩
 ·omega
theorem Ap {x v:Int} (h:rk x=2*v+1):(ao x).claim≠0∧(ao x).ver=v:=by
 unfold rk at h
 split at h
 ·omega
 ·exact⟨by assumption,by omega⟩
def Lk (M:ML) (P:Gh) (a:Int):Prop:=M.L.nd<a∨P a= .linked
structure Fits (M:ML) (sh:Int) (m:Mm) (P:Gh) (k:bl) (a n:Int) (mk:Bool):Prop where
 lk:Lk M P a
 um:(wd M m a).mark=false
 h4:sh=4→M.L.nd<a
 link:k.links=true→mk=false∧(1≤n∧n≤M.L.nd)∧(wd M m n).next=(wd M m a).next
 pop:k.pops=true→mk=false∧sh=4∧(wd M m a).next≠0∧n=(wd M m (wd M m a).next).next
 mark:k.links=false→k.pops=false→mk=true∧n=(wd M m a).next∧a≤M.L.nd∧sh≠4
structure Str (M:ML) (sh:Int) (m:Mm) (P:Gh):Prop where
 next:∀ a,1≤a→a≤M.L.nd+4→Lk M P a→(wd M m a).next≠0→P (wd M m a).next= .linked
 inj:∀ a b,1≤a→a≤M.L.nd+4→1≤b→b≤M.L.nd+4→Lk M P a→Lk M P b→(wd M m a).next=(wd M m b).next→(wd M m a).next≠0→a=b
 Db:sh≠4→∀ n t k,1≤n→n≤M.L.nd→P n= .out t k→(wd M m n).mark=true
 Hc:sh=4→∀ n,1≤n→n≤M.L.nd→(wd M m n).mark=false∧(wd M m n).claim=0
structure Fit (M:ML) (m:Mm) (a w:Int):Prop where
 st:(aX M m w).status=2∨(aX M m w).status=3
 addr:(aX M m w).addr=a
 ver:(aX M m w).ver=(wd M m a).ver
 next:(aX M m w).next=(wd M m a).next
 mark:(aX M m w).mark=(wd M m a).mark
structure GI (M:ML) (sh:Int) (m:Mm) (P:Gh):Prop where
 str:Str M sh m P
 life:∀ n,1≤n→n≤M.L.nd→(P n= .free↔ld M m (M.L.life n) % 2=0)
 cl:∀ a,1≤a→a≤M.L.nd+4→(wd M m a).claim≠0→(wd M m a).claim≤M.L.th∧Fit M m a ((wd M m a).claim - 1)∧Lk M P a
 H7:∀ w,0≤w→w<M.L.th→(aX M m w).status=2→2*(aX M m w).ver≤rk (ld M m (aX M m w).addr)∧
  (rk (ld M m (aX M m w).addr)=2*(aX M m w).ver→Fits M sh m P (tk M m w) (aX M m w).addr (aX M m w).next (aX M m w).mark)∧
  ((tk M m w).links=true→(wd M m (aX M m w).addr).claim=w+1∨P (aX M m w).next= .prop w)
 won:∀ w,0≤w→w<M.L.th→(aX M m w).status=3→2*(aX M m w).ver+1≤rk (ld M m (aX M m w).addr)∧(rk (ld M m (aX M m w).addr)=2*(aX M m w).ver+1→(wd M m (aX M m w).addr).claim=w+1)
 lost:∀ w,0≤w→w<M.L.th→(aX M m w).status=4→2*(aX M m w).ver+1≤rk (ld M m (aX M m w).addr)∧((tk M m w).links=true→P (aX M m w).next= .prop w)
 Kr:∀ w,0≤w→w<M.L.th→gb (ld M m (M.L.task w))=true→(tk M m w).sh=sh
section
variable {M:ML} {sh:Int} {m m':Mm} {P P':Gh}
theorem e9 (hm:dY M m) {a:Int} (h1:1≤a) (h2:a≤M.L.nd+4) (h:(wd M m a).next≠0):1≤(wd M m a).next∧(wd M m a).next≤M.L.nd:=by
 have:=(aQ (ld M m a)).next
 have:=hm.word a h1 h2
 simp only[wd] at *
 omega
theorem Str.same (hm:dY M m) (h:Str M sh m P) (hw:∀ a,1≤a→a≤M.L.nd+4→(wd M m' a).next=(wd M m a).next∧((wd M m a).mark=true→(wd M m' a).mark=true)∧(sh=4→a≤M.L.nd→ld M m' a=ld M m a))
  (hlk:∀ n,1≤n→n≤M.L.nd→(P' n= .linked↔P n= .linked)) (hou:∀ n t k,1≤n→n≤M.L.nd→P' n= .out t k→∃ t k,P n= .out t k):Str M sh m' P':=by
 have hL:∀ a,1≤a→a≤M.L.nd+4→Lk M P' a→Lk M P a:=fun a h1 h2 hk=>by
  by_cases hn:M.L.nd<a
  ·exact .inl hn
  ·exact .inr ((hlk a h1 (by omega)).1 (hk.resolve_left hn))
 refine⟨fun a h1 h2 hk hn=> ?_,fun a b h1 h2 h3 h4 ha hb e hn=> ?_,fun hs n t k h1 h2 ho=> ?_,fun hs n h1 h2=> ?_⟩
 ·rw[(hw a h1 h2).1] at hn⊢
  have:=e9 hm h1 h2 hn
  exact(hlk _ this.1 this.2).2 (h.next a h1 h2 (hL a h1 h2 hk) hn)
 ·rw[(hw a h1 h2).1] at hn e
  rw[(hw b h3 h4).1] at e
  exact h.inj a b h1 h2 h3 h4 (hL a h1 h2 ha) (hL b h3 h4 hb) e hn
 ·obtain⟨t',k',ho'⟩:=hou n t k h1 h2 ho
  exact(hw n h1 (by omega)).2.1 (h.Db hs n t' k' h1 h2 ho')
 ·unfold wd;rw[(hw n h1 (by omega)).2.2 hs h2];exact h.Hc hs n h1 h2
theorem Str.az (h:Str M sh m P) {a:Int} (ha:1≤a∧a≤M.L.nd) (hp:P a≠.linked) (ho:∀ t k,P a≠.out t k) (hw:∀ b,1≤b→b≤M.L.nd+4→b≠a→ld M m' b=ld M m b) (hk:(wd M m' a).mark=false∧(wd M m' a).claim=0):Str M sh m' P:=by
 have hne:∀ b,Lk M P b→b≠a:=fun b hb e=>by
  subst e
  rcases hb with hb | hb
  ·omega
  ·exact hp hb
 refine⟨fun b h1 h2 hb hn=> ?_,fun b c h1 h2 h3 h4 hb hc e hn=> ?_,fun hs n t k h1 h2 hn=> ?_,fun hs n h1 h2=> ?_⟩
 ·simp only[wd,hw b h1 h2 (hne b hb)] at hn⊢;exact h.next b h1 h2 hb hn
 ·simp only[wd,hw b h1 h2 (hne b hb)] at hn e
  simp only[hw c h3 h4 (hne c hc)] at e
  exact h.inj b c h1 h2 h3 h4 hb hc e hn
 ·by_cases e:n=a
  ·subst e;exact absurd hn (ho t k)
  ·simp only[wd,hw n h1 (by omega) e];exact h.Db hs n t k h1 h2 hn
 ·by_cases e:n=a
  ·subst e;exact hk
  ·simp only[wd,hw n h1 (by omega) e];exact h.Hc hs n h1 h2
theorem Str.link (h:Str M sh m P) {a n:Int} (ha:1≤a∧a≤M.L.nd+4) (hn:1≤n∧n≤M.L.nd) (hk:Lk M P a) (hp:P n≠.linked) (hx:(wd M m n).next=(wd M m a).next) (hw:∀ b,1≤b→b≤M.L.nd+4→b≠a→ld M m' b=ld M m b) (hy:(wd M m' a).next=n) (hmk:(wd M m' a).mark=(wd M m a).mark) (uj:sh=4→M.L.nd<a):Str M sh m' (P.put n .linked):=by
 have hna:n≠a:=fun e=>by
  subst e
  rcases hk with hk | hk
  ·omega
  ·exact hp hk
 have hL:∀ b,Lk M (P.put n .linked) b→b=n∨Lk M P b:=fun b hb=>by
  by_cases e:b=n
  ·exact .inl e
  ·rcases hb with hb | hb
   ·exact .inr (.inl hb)
   ·rw[Gh.aE _ _ e] at hb;exact .inr (.inr hb)
 have MZ:∀ x,P x= .linked→P.put n .linked x= .linked:=fun x hx=>by
  by_cases e:x=n
  ·subst e;exact Gh.bF _ _ _
  ·rw[Gh.aE _ _ e];exact hx
 have hnn:(wd M m' n).next=(wd M m a).next:=by simp only[wd,hw n hn.1 (by omega) hna];exact hx
 have hnx:∀ b,1≤b→b≤M.L.nd+4→Lk M P b→(wd M m b).next≠n:=fun b h1 h2 hb e=>by
  have:=h.next b h1 h2 hb (by rw[e];omega)
  rw[e] at this;exact hp this
 refine⟨fun b h1 h2 hb h0=> ?_,fun b c h1 h2 h3 h4 hb hc e h0=> ?_,fun hs x t k h1 h2 hx=> ?_,fun hs x h1 h2=> ?_⟩
 ·rcases hL b hb with rfl | hb
  ·rw[hnn] at h0⊢
   exact MZ _ (h.next a ha.1 ha.2 hk h0)
  ·by_cases e:b=a
   ·subst e;rw[hy];exact Gh.bF _ _ _
   ·simp only[wd,hw b h1 h2 e] at h0⊢
    exact MZ _ (h.next b h1 h2 hb h0)
 ·
  have hb2:=hL b hb
  have hc2:=hL c hc
  by_cases ea:b=a
  ·by_cases ec:c=a
   ·rw[ea,ec]
   ·rw[ea] at e h0
    rw[hy] at e
    exfalso
    rcases hc2 with rfl | hc2
    ·rw[hnn] at e
     exact hnx a ha.1 ha.2 hk e.symm
    ·simp only[wd,hw c h3 h4 ec] at e
     exact hnx c h3 h4 hc2 e.symm
  ·by_cases ec:c=a
   ·exfalso
    rw[ec,hy] at e
    rcases hb2 with rfl | hb2
    ·rw[hnn] at e
     exact hnx a ha.1 ha.2 hk e
    ·simp only[wd,hw b h1 h2 ea] at e
     exact hnx b h1 h2 hb2 e
   ·rcases hb2 with rfl | hb2<;>rcases hc2 with hcn | hc2
    ·exact hcn.symm
    ·exfalso
     rw[hnn] at e h0
     simp only[wd,hw c h3 h4 ec] at e
     exact ec (h.inj a c ha.1 ha.2 h3 h4 hk hc2 e h0).symm
    ·exfalso
     subst hcn
     rw[hnn] at e
     simp only[wd,hw b h1 h2 ea] at e h0
     exact ea (h.inj b a h1 h2 ha.1 ha.2 hb2 hk e h0)
    ·simp only[wd,hw b h1 h2 ea,hw c h3 h4 ec] at e h0
     exact h.inj b c h1 h2 h3 h4 hb2 hc2 e h0
 ·by_cases e:x=n
  ·subst e;rw[Gh.bF] at hx;cases hx
  ·rw[Gh.aE _ _ e] at hx
   have:=h.Db hs x t k h1 h2 hx
   by_cases e2:x=a
   ·subst e2;rw[hmk];exact this
   ·simp only[wd,hw x h1 (by omega) e2];exact this
 ·have:=h.Hc hs x h1 h2
  have h5:=uj hs
  simp only[wd,hw x h1 (by omega) (by omega)];exact this
theorem Str.cut (hm:dY M m) (h:Str M sh m P) {a c t k:Int} (ha:1≤a∧a≤M.L.nd+4) (hk:Lk M P a) (hc:(wd M m a).next=c) (hc0:c≠0) (hac:a≠c) (hmk:sh≠4→(wd M m c).mark=true) (hw:∀ b,1≤b→b≤M.L.nd+4→b≠a→ld M m' b=ld M m b) (hy:(wd M m' a).next=(wd M m c).next) (hma:(wd M m' a).mark=(wd M m a).mark) (uj:sh=4→M.L.nd<a):Str M sh m' (P.put c (.out t k)):=by
 have hcn:=e9 hm ha.1 ha.2 (by rw[hc];exact hc0)
 rw[hc] at hcn
 have hcl:P c= .linked:=by have:=h.next a ha.1 ha.2 hk (by rw[hc];exact hc0);rwa [hc] at this
 have hL:∀ b,b≤M.L.nd+4→Lk M (P.put c (.out t k)) b→b≠c∧Lk M P b:=fun b h2 hb=>by
  by_cases e:b=c
  ·subst e
   rcases hb with hb | hb
   ·omega
   ·rw[Gh.bF] at hb;cases hb
  ·refine⟨e,?_⟩
   rcases hb with hb | hb
   ·exact .inl hb
   ·rw[Gh.aE _ _ e] at hb;exact .inr hb
 have hck:Lk M P c:= .inr hcl
 have hcc:(wd M m c).next≠c:=fun e=>hac (h.inj a c ha.1 ha.2 hcn.1 (by omega) hk hck (hc.trans e.symm) (by rw[hc];exact hc0))
 refine⟨fun b h1 h2 hb h0=> ?_,fun b d h1 h2 h3 h4 hb hd e h0=> ?_,fun hs x t' k' h1 h2 hx=> ?_,fun hs x h1 h2=> ?_⟩
 ·obtain⟨hbc,hbk⟩:=hL b h2 hb
  by_cases e:b=a
  ·subst e
   rw[hy] at h0⊢
   rw[Gh.aE _ _ hcc]
   exact h.next c hcn.1 (by omega) hck h0
  ·simp only[wd,hw b h1 h2 e] at h0⊢
   rw[Gh.aE]
   ·exact h.next b h1 h2 hbk h0
   ·intro e2
    exact e (h.inj b a h1 h2 ha.1 ha.2 hbk hk (by rw[hc];exact e2) h0)
 ·obtain⟨hbc,hbk⟩:=hL b h2 hb
  obtain⟨hdc,hdk⟩:=hL d h4 hd
  by_cases eb:b=a
  ·by_cases ed:d=a
   ·rw[eb,ed]
   ·exfalso
    rw[eb] at h0 e
    rw[hy] at h0 e
    simp only[wd,hw d h3 h4 ed] at e
    exact hdc (h.inj c d hcn.1 (by omega) h3 h4 hck hdk e h0).symm
  ·by_cases ed:d=a
   ·exfalso
    rw[ed,hy] at e
    simp only[wd,hw b h1 h2 eb] at e h0
    exact hbc (h.inj b c h1 h2 hcn.1 (by omega) hbk hck e h0)
   ·simp only[wd,hw b h1 h2 eb,hw d h3 h4 ed] at e h0
    exact h.inj b d h1 h2 h3 h4 hbk hdk e h0
 ·have:(wd M m x).mark=true:=by
   by_cases e:x=c
   ·subst e;exact hmk hs
   ·rw[Gh.aE _ _ e] at hx;exact h.Db hs x t' k' h1 h2 hx
  by_cases e2:x=a
  ·subst e2;rw[hma];exact this
  ·simp only[wd,hw x h1 (by omega) e2];exact this
 ·have:=h.Hc hs x h1 h2
  have h5:=uj hs
  simp only[wd,hw x h1 (by omega) (by omega)];exact this
end
section
variable {M:ML} {sh:Int} {m m':Mm} {P P':Gh}
theorem kL {x:Int} (h:(ao x).claim≠0):1≤(ao x).claim:=by have:=(aQ x).claim.1;omega
theorem GI.word (hm:dY M m) (h:GI M sh m P) {a:Int} (ha:1≤a∧a≤M.L.nd+4)
  (hw:∀ b,1≤b→b≤M.L.nd+4→b≠a→ld M m' b=ld M m b)
  (hd:∀ w,0≤w→w<M.L.th→ld M m' (M.L.desc w)=ld M m (M.L.desc w))
  (ht:∀ w,0≤w→w<M.L.th→ld M m' (M.L.task w)=ld M m (M.L.task w))
  (hl:∀ n,1≤n→n≤M.L.nd→ld M m' (M.L.life n)=ld M m (M.L.life n))
  (hs:Str M sh m' P') (hr:rk (ld M m a)<rk (ld M m' a))
  (hc:(wd M m' a).claim≠0→(wd M m' a).claim≤M.L.th∧Fit M m' a ((wd M m' a).claim - 1)∧Lk M P' a)
  (hf:(wd M m a).claim≠0→(aX M m ((wd M m a).claim - 1)).status=3)
  (hpf:∀ n,1≤n→n≤M.L.nd→(P' n= .free↔P n= .free))
  (hpp:∀ n w,P n= .prop w→P' n= .prop w∨((wd M m' a).claim=w+1∧(aX M m w).status=2∧(aX M m w).addr=a))
  (hpk:∀ b,1≤b→b≤M.L.nd+4→Lk M P b→Lk M P' b∨(b≤M.L.nd∧(sh≠4→(wd M m b).mark=true)∧(wd M m b).claim=0))
  (hap:a≤M.L.nd→∀ w,P a≠.prop w) (uj:sh=4→a≤M.L.nd→P a≠.linked):GI M sh m' P':=by
 have hds:∀ w,0≤w→w<M.L.th→aX M m' w=aX M m w:=fun w h0 h1=>by simp only[aX,hd w h0 h1]
 have htk:∀ w,0≤w→w<M.L.th→tk M m' w=tk M m w:=fun w h0 h1=>by simp only[tk,ht w h0 h1]
 have hDn:∀ w,0≤w→w<M.L.th→2≤(aX M m w).status→(aX M m w).status≤4→(1≤(aX M m w).addr∧(aX M m w).addr≤M.L.nd+4)∧(0≤(aX M m w).next∧(aX M m w).next≤M.L.nd):=fun w h0 h1 h2 h3=>by
  have h4:=(hm.desc w h0 h1).at_ h2 h3
  exact⟨h4.1,(b7 _).next.1,h4.2⟩
 refine⟨hs,fun n h1 h2=>by rw[hpf n h1 h2,hl n h1 h2];exact h.life n h1 h2,fun b h1 h2 hb=> ?_,fun w h0 h1 h2=> ?_,fun w h0 h1 h2=> ?_,fun w h0 h1 h2=> ?_,fun w h0 h1 h2=> ?_⟩
 ·by_cases e:b=a
  ·subst e;exact hc hb
  ·simp only[wd,hw b h1 h2 e] at hb⊢
   obtain⟨h3,h4,h6⟩:=h.cl b h1 h2 hb
   have hc0:=kL hb
   have h5:=hds ((ao (ld M m b)).claim - 1) (by omega) (by simp only[wd] at h3;omega)
   refine⟨h3,⟨by rw[h5];exact h4.st,by rw[h5];exact h4.addr,?_,?_,?_⟩,(hpk b h1 h2 h6).resolve_right fun h7=>hb h7.2.2⟩<;>rw[h5]<;>simp only[wd,hw b h1 h2 e]
   ·exact h4.ver
   ·exact h4.next
   ·exact h4.mark
 ·rw[hds w h0 h1] at h2⊢
  rw[htk w h0 h1]
  obtain⟨ha1,hn1⟩:=hDn w h0 h1 (by omega) (by omega)
  obtain⟨p1,p2,p3⟩:=h.H7 w h0 h1 h2
  by_cases e:(aX M m w).addr=a
  ·rw[e] at p1 p3⊢
   refine⟨by omega,fun e2=>by omega,fun hk=> ?_⟩
   rcases p3 hk with p4 | p4
   ·have:=hf (by omega)
    rw[p4,show w+1 - 1=w by omega,h2] at this
    omega
   ·rcases hpp _ w p4 with p5 | p5
    ·exact .inr p5
    ·exact .inl p5.1
  ·have hwb:=hw _ ha1.1 ha1.2 e
   rw[hwb]
   refine⟨p1,fun e2=> ?_,fun hk=> ?_⟩
   ·have hF:=p2 e2
    have hev:=yl e2
    have hlk:Lk M P' (aX M m w).addr:=by
     rcases hpk _ ha1.1 ha1.2 hF.lk with h5 | ⟨h5,h6,-⟩
     ·exact h5
     ·by_cases h4:sh=4
      ·have:=hF.h4 h4;omega
      ·have:=h6 h4
       rw[hF.um] at this;cases this
    refine⟨hlk,by simp only[wd,hwb];exact hF.um,hF.h4,fun hk=> ?_,fun hk=> ?_,fun hk hk2=> ?_⟩
    ·obtain⟨q1,q2,q3⟩:=hF.link hk
     have hpn:=(p3 hk).resolve_left (by simp only[wd];omega)
     refine⟨q1,q2,?_⟩
     have hne:(aX M m w).next≠a:=fun e3=>by rw[e3] at hpn q2;exact hap q2.2 w hpn
     simp only[wd,hwb,hw _ q2.1 (by omega) hne];exact q3
    ·obtain⟨q1,q2,q3,q4⟩:=hF.pop hk
     have hcn:=e9 hm ha1.1 ha1.2 q3
     have hlc:=h.str.next _ ha1.1 ha1.2 hF.lk q3
     have hne:(wd M m (aX M m w).addr).next≠a:=fun e3=>by rw[e3] at hlc hcn;exact uj q2 hcn.2 hlc
     simp only[wd] at hne hcn
     simp only[wd,hwb,hw _ hcn.1 (by omega) hne]
     exact⟨q1,q2,q3,q4⟩
    ·simp only[wd,hwb];exact hF.mark hk hk2
   ·simp only[wd,hwb]
    rcases p3 hk with p4 | p4
    ·exact .inl p4
    ·rcases hpp _ w p4 with p5 | p5
     ·exact .inr p5
     ·exact absurd p5.2.2 e
 ·rw[hds w h0 h1] at h2⊢
  obtain⟨ha1,hn1⟩:=hDn w h0 h1 (by omega) (by omega)
  obtain⟨p1,p2⟩:=h.won w h0 h1 h2
  by_cases e:(aX M m w).addr=a
  ·rw[e] at p1⊢
   exact⟨by omega,fun e2=>by omega⟩
  ·simp only[wd,hw _ ha1.1 ha1.2 e]
   exact⟨p1,p2⟩
 ·rw[hds w h0 h1] at h2⊢
  rw[htk w h0 h1]
  obtain⟨ha1,hn1⟩:=hDn w h0 h1 (by omega) (by omega)
  obtain⟨p1,p2⟩:=h.lost w h0 h1 h2
  refine⟨?_,fun hk=> ?_⟩
  ·by_cases e:(aX M m w).addr=a
   ·rw[e] at p1⊢;omega
   ·rw[hw _ ha1.1 ha1.2 e];exact p1
  ·rcases hpp _ w (p2 hk) with p5 | p5
   ·exact p5
   ·have:=p5.2.1;omega
 ·rw[ht w h0 h1] at h2
  rw[htk w h0 h1];exact h.Kr w h0 h1 h2
theorem GI.desc (hm:dY M m) (h:GI M sh m P) {u:Int} (hu:0≤u∧u<M.L.th)
  (hw:∀ b,1≤b→b≤M.L.nd+4→ld M m' b=ld M m b)
  (hd:∀ w,0≤w→w<M.L.th→w≠u→ld M m' (M.L.desc w)=ld M m (M.L.desc w))
  (ht:∀ w,0≤w→w<M.L.th→ld M m' (M.L.task w)=ld M m (M.L.task w))
  (hl:∀ n,1≤n→n≤M.L.nd→ld M m' (M.L.life n)=ld M m (M.L.life n))
  (hpl:∀ n,P' n= .linked↔P n= .linked) (hpo:∀ n t k,P' n= .out t k→P n= .out t k)
  (hpf:∀ n,1≤n→n≤M.L.nd→(P' n= .free↔P n= .free))
  (hpp:∀ n w,0≤w→w<M.L.th→w≠u→P n= .prop w→P' n= .prop w)
  (hc:∀ a,1≤a→a≤M.L.nd+4→(wd M m a).claim=u+1→Fit M m' a u)
  (h2:(aX M m' u).status=2→2*(aX M m' u).ver≤rk (ld M m (aX M m' u).addr)∧
   (rk (ld M m (aX M m' u).addr)=2*(aX M m' u).ver→Fits M sh m P (tk M m u) (aX M m' u).addr (aX M m' u).next (aX M m' u).mark)∧
   ((tk M m u).links=true→(wd M m (aX M m' u).addr).claim=u+1∨P' (aX M m' u).next= .prop u))
  (h3:(aX M m' u).status=3→2*(aX M m' u).ver+1≤rk (ld M m (aX M m' u).addr)∧(rk (ld M m (aX M m' u).addr)=2*(aX M m' u).ver+1→(wd M m (aX M m' u).addr).claim=u+1))
  (h4:(aX M m' u).status=4→2*(aX M m' u).ver+1≤rk (ld M m (aX M m' u).addr)∧((tk M m u).links=true→P' (aX M m' u).next= .prop u))
  (hv:nZ M.L (ld M m' (M.L.desc u))):GI M sh m' P':=by
 have hds:∀ w,0≤w→w<M.L.th→w≠u→aX M m' w=aX M m w:=fun w h0 h1 e=>by simp only[aX,hd w h0 h1 e]
 have htk:∀ w,0≤w→w<M.L.th→tk M m' w=tk M m w:=fun w h0 h1=>by simp only[tk,ht w h0 h1]
 have hlk:∀ a,Lk M P' a↔Lk M P a:=fun a=>by unfold Lk;rw[hpl a]
 have hDn:∀ w,0≤w→w<M.L.th→2≤(aX M m' w).status→(aX M m' w).status≤4→(1≤(aX M m' w).addr∧(aX M m' w).addr≤M.L.nd+4):=fun w h0 h1 a b=>by
  by_cases e:w=u
  ·subst e;exact(hv.at_ a b).1
  ·rw[hds w h0 h1 e] at a b⊢;exact((hm.desc w h0 h1).at_ a b).1
 have yZ:∀ {k a n mk},1≤a→a≤M.L.nd+4→Fits M sh m P k a n mk→Fits M sh m' P' k a n mk:=fun {k a n mk} h1 h2 hF=>by
  refine⟨(hlk a).2 hF.lk,by simp only[wd,hw a h1 h2];exact hF.um,hF.h4,fun hk=> ?_,fun hk=> ?_,fun hk hk2=> ?_⟩
  ·obtain⟨q1,q2,q3⟩:=hF.link hk
   exact⟨q1,q2,by simp only[wd,hw a h1 h2,hw n q2.1 (by omega)];exact q3⟩
  ·obtain⟨q1,q2,q3,q4⟩:=hF.pop hk
   have hcn:=e9 hm h1 h2 q3
   simp only[wd] at hcn
   simp only[wd,hw a h1 h2,hw _ hcn.1 (by omega)]
   exact⟨q1,q2,q3,q4⟩
  ·simp only[wd,hw a h1 h2];exact hF.mark hk hk2
 refine⟨h.str.same hm (fun a h1 h2=>by unfold wd;rw[hw a h1 h2];exact⟨rfl,id,fun _ _=>rfl⟩) (fun n _ _=>hpl n) (fun n t k _ _ ho=>⟨t,k,hpo n t k ho⟩),fun n h1 h2=>by rw[hpf n h1 h2,hl n h1 h2];exact h.life n h1 h2,fun b h1 h2 hb=> ?_,fun w h0 h1 hst=> ?_,fun w h0 h1 hst=> ?_,fun w h0 h1 hst=> ?_,fun w h0 h1 hst=> ?_⟩
 ·simp only[wd,hw b h1 h2] at hb⊢
  obtain⟨h3,h4,h6⟩:=h.cl b h1 h2 hb
  have hc0:=kL hb
  by_cases e:(ao (ld M m b)).claim - 1=u
  ·rw[e];exact⟨h3,hc b h1 h2 (by simp only[wd];omega),(hlk b).2 h6⟩
  ·have h5:=hds ((ao (ld M m b)).claim - 1) (by omega) (by simp only[wd] at h3;omega) e
   refine⟨h3,⟨by rw[h5];exact h4.st,by rw[h5];exact h4.addr,?_,?_,?_⟩,(hlk b).2 h6⟩<;>rw[h5]<;>simp only[wd,hw b h1 h2]
   ·exact h4.ver
   ·exact h4.next
   ·exact h4.mark
 ·have eG:=hDn w h0 h1 (by omega) (by omega)
  simp only[wd,hw _ eG.1 eG.2,htk w h0 h1]
  by_cases e:w=u
  ·subst e
   obtain⟨p1,p2,p3⟩:=h2 hst
   exact⟨p1,fun e2=>yZ eG.1 eG.2 (p2 e2),p3⟩
  ·rw[hds w h0 h1 e] at hst eG⊢
   obtain⟨p1,p2,p3⟩:=h.H7 w h0 h1 hst
   exact⟨p1,fun e2=>yZ eG.1 eG.2 (p2 e2),fun hk=>(p3 hk).imp id (hpp _ w h0 h1 e)⟩
 ·have eG:=hDn w h0 h1 (by omega) (by omega)
  simp only[wd,hw _ eG.1 eG.2]
  by_cases e:w=u
  ·subst e;exact h3 hst
  ·rw[hds w h0 h1 e] at hst⊢;exact h.won w h0 h1 hst
 ·have eG:=hDn w h0 h1 (by omega) (by omega)
  simp only[hw _ eG.1 eG.2,htk w h0 h1]
  by_cases e:w=u
  ·subst e;exact h4 hst
  ·rw[hds w h0 h1 e] at hst⊢
   have:=h.lost w h0 h1 hst
   exact⟨this.1,fun hk=>hpp _ w h0 h1 e (this.2 hk)⟩
 ·rw[ht w h0 h1] at hst
  rw[htk w h0 h1];exact h.Kr w h0 h1 hst
theorem GI.rest (hm:dY M m) (h:GI M sh m P)
  (hw:∀ b,1≤b→b≤M.L.nd+4→ld M m' b=ld M m b)
  (hd:∀ w,0≤w→w<M.L.th→ld M m' (M.L.desc w)=ld M m (M.L.desc w))
  (ht:∀ w,0≤w→w<M.L.th→1≤stt M m w→stt M m w≤4→ld M m' (M.L.task w)=ld M m (M.L.task w))
  (hts:∀ w,0≤w→w<M.L.th→ld M m' (M.L.task w)=ld M m (M.L.task w)∨(tk M m' w).sh=sh)
  (hlf:∀ n,1≤n→n≤M.L.nd→(P' n= .free↔ld M m' (M.L.life n) % 2=0))
  (hpl:∀ n,1≤n→n≤M.L.nd→(P' n= .linked↔P n= .linked)) (hpo:∀ n t k,1≤n→n≤M.L.nd→P' n= .out t k→∃ t k,P n= .out t k)
  (hpp:∀ n w,P n= .prop w→P' n= .prop w):GI M sh m' P':=by
 have hds:∀ w,0≤w→w<M.L.th→aX M m' w=aX M m w:=fun w h0 h1=>by simp only[aX,hd w h0 h1]
 have htk:∀ w,0≤w→w<M.L.th→2≤(aX M m w).status→(aX M m w).status≤4→tk M m' w=tk M m w:=fun w h0 h1 a b=>by simp only[tk,ht w h0 h1 (by simp only[stt];simp only[aX] at a;omega) (by simp only[stt];simp only[aX] at b;omega)]
 have hlk:∀ a,1≤a→Lk M P a→Lk M P' a:=fun a h1 hk=>by
  by_cases hn:M.L.nd<a
  ·exact .inl hn
  ·exact .inr ((hpl a h1 (by omega)).2 (hk.resolve_left hn))
 have hDn:∀ w,0≤w→w<M.L.th→2≤(aX M m w).status→(aX M m w).status≤4→(1≤(aX M m w).addr∧(aX M m w).addr≤M.L.nd+4):=fun w h0 h1 a b=>((hm.desc w h0 h1).at_ a b).1
 have yZ:∀ {k a n mk},1≤a→a≤M.L.nd+4→Fits M sh m P k a n mk→Fits M sh m' P' k a n mk:=fun {k a n mk} h1 h2 hF=>by
  refine⟨hlk a h1 hF.lk,by simp only[wd,hw a h1 h2];exact hF.um,hF.h4,fun hk=> ?_,fun hk=> ?_,fun hk hk2=> ?_⟩
  ·obtain⟨q1,q2,q3⟩:=hF.link hk
   exact⟨q1,q2,by simp only[wd,hw a h1 h2,hw n q2.1 (by omega)];exact q3⟩
  ·obtain⟨q1,q2,q3,q4⟩:=hF.pop hk
   have hcn:=e9 hm h1 h2 q3
   simp only[wd] at hcn
   simp only[wd,hw a h1 h2,hw _ hcn.1 (by omega)]
   exact⟨q1,q2,q3,q4⟩
  ·simp only[wd,hw a h1 h2];exact hF.mark hk hk2
 refine⟨h.str.same hm (fun a h1 h2=>by unfold wd;rw[hw a h1 h2];exact⟨rfl,id,fun _ _=>rfl⟩) hpl hpo,hlf,fun b h1 h2 hb=> ?_,fun w h0 h1 hst=> ?_,fun w h0 h1 hst=> ?_,fun w h0 h1 hst=> ?_,fun w h0 h1 hst=> ?_⟩
 ·simp only[wd,hw b h1 h2] at hb⊢
  obtain⟨h3,h4,h6⟩:=h.cl b h1 h2 hb
  have hc0:=kL hb
  have h5:=hds ((ao (ld M m b)).claim - 1) (by omega) (by simp only[wd] at h3;omega)
  refine⟨h3,⟨by rw[h5];exact h4.st,by rw[h5];exact h4.addr,?_,?_,?_⟩,hlk b h1 h6⟩<;>rw[h5]<;>simp only[wd,hw b h1 h2]
  ·exact h4.ver
  ·exact h4.next
  ·exact h4.mark
 ·rw[hds w h0 h1] at hst⊢
  have eG:=hDn w h0 h1 (by omega) (by omega)
  simp only[wd,hw _ eG.1 eG.2,htk w h0 h1 (by omega) (by omega)]
  obtain⟨p1,p2,p3⟩:=h.H7 w h0 h1 hst
  exact⟨p1,fun e2=>yZ eG.1 eG.2 (p2 e2),fun hk=>(p3 hk).imp id (hpp _ w)⟩
 ·rw[hds w h0 h1] at hst⊢
  have eG:=hDn w h0 h1 (by omega) (by omega)
  simp only[wd,hw _ eG.1 eG.2]
  exact h.won w h0 h1 hst
 ·rw[hds w h0 h1] at hst⊢
  have eG:=hDn w h0 h1 (by omega) (by omega)
  simp only[hw _ eG.1 eG.2,htk w h0 h1 (by omega) (by omega)]
  have:=h.lost w h0 h1 hst
  exact⟨this.1,fun hk=>hpp _ w (this.2 hk)⟩
 ·rcases hts w h0 h1 with e | e
  ·rw[e] at hst
   simp only[tk,e];exact h.Kr w h0 h1 hst
  ·exact e
end
end Go.Proofs.YtbcnnhlpilmmbaaGreat
