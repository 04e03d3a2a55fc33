/- Texts that are wanted for PTopFull.
   Conditions: none. -/
import Derived.Test.YtbcnnhlpilmmbaaGreatJPTopFull21
set_option maxRecDepth 100000
set_option maxHeartbeats 6400000
namespace Go.Proofs.YtbcnnhlpilmmbaaGreat
open Go Go.RowKit
structure jV (M:ML) (m m':Mm) (F F':List (Int×Int)):Prop where
 desc:∀ v,0≤v→v<M.L.th→ld M m' (M.L.desc v)=ld M m (M.L.desc v)∨(v,ld M m (M.L.desc v))∈F
 next:∀ p,p∈F'→p∈F∨(p.2=ld M m (M.L.desc p.1)∧ld M m' (M.L.desc p.1)=ld M m (M.L.desc p.1)∧0≤p.1∧p.1<M.L.th)
section
variable {M:ML} {m m':Mm} {F F' G G':List (Int×Int)}
theorem jV.keep (h:m'=m) (hs:∀ p,p∈F'→p∈F):jV M m m' F F':=⟨fun _ _ _=> .inl (by rw[h]),fun p hp=> .inl (hs p hp)⟩
theorem jV.quiet (h:∀ v,0≤v→v<M.L.th→ld M m' (M.L.desc v)=ld M m (M.L.desc v)) (hs:∀ p,p∈F'→p∈F):jV M m m' F F':=⟨fun v h0 h1=> .inl (h v h0 h1),fun p hp=> .inl (hs p hp)⟩
theorem jV.mono (h:jV M m m' F F') (h1:∀ p,p∈F→p∈G) (h2:∀ p,p∈G'→p∈F'∨p∈G):jV M m m' G G':=
 ⟨fun v a b=>(h.desc v a b).imp id (h1 _),fun p hp=>(h2 p hp).elim (fun hp=>(h.next p hp).imp (h1 p) id) .inl⟩
theorem jV.one {v x:Int} (hx:x=ld M m (M.L.desc v)) (hv:0≤v∧v<M.L.th) (h2:∀ p,p∈G→p∈F∨p=(v,x)):jV M m m F G:=
 ⟨fun _ _ _=> .inl rfl,fun p hp=>(h2 p hp).imp id (fun e=>by subst e;exact⟨hx,rfl,hv.1,hv.2⟩)⟩
theorem je {v old:Int} (x:Int) (hL:M.L.Ok) (_:0≤v∧v<M.L.th) (hF:(v,old)∈F) (hs:∀ p,p∈F'→p∈F):jV M m (cas M m (M.L.desc v) old x) F F':=by
 have h1:=hL.th;have h2:=hL.nd
 refine⟨fun u h3 h4=> ?_,fun p hp=> .inl (hs p hp)⟩
 cases hq:bS M m (M.L.desc v) old with
 | false=>rw[iX _ hq];exact .inl rfl
 | true=>
  rw[iW _ hq]
  by_cases e:v=u
  ·subst e;rw[om hq];exact .inr hF
  ·exact .inl (aq _ _ (by simp only[Ly.desc];omega))
theorem fx {a:Int} (x:Int) (h:∀ v,0≤v→v<M.L.th→a≠M.L.desc v) (v:Int) (h0:0≤v) (h1:v<M.L.th):ld M (st M m a x) (M.L.desc v)=ld M m (M.L.desc v):=aq _ _ (h v h0 h1)
theorem gx {a:Int} (old x:Int) (h:∀ v,0≤v→v<M.L.th→a≠M.L.desc v) (v:Int) (h0:0≤v) (h1:v<M.L.th):ld M (cas M m a old x) (M.L.desc v)=ld M m (M.L.desc v):=by
 cases hq:bS M m a old with
 | false=>rw[iX _ hq]
 | true=>rw[iW _ hq];exact fx x h v h0 h1
theorem fk (hL:M.L.Ok) {a:Int} (ha:a≤M.L.nd+4):∀ v,0≤v→v<M.L.th→a≠M.L.desc v:=fun v h0 h1=>by
 have:=hL.th;have:=hL.nd
 simp only[Ly.desc];omega
theorem mQ (hL:M.L.Ok) {t n:Int} (ht:0≤t∧t<M.L.th) (hn:0≤n∧n≤1):∀ v,0≤v→v<M.L.th→M.L.slot t n≠M.L.desc v:=fun v h0 h1=>by
 have:=hL.th;have:=hL.nd
 simp only[Ly.desc,Ly.slot];omega
theorem mR (hL:M.L.Ok) {n:Int} (hn:n≤M.L.nd):∀ v,0≤v→v<M.L.th→M.L.life n≠M.L.desc v:=fun v h0 h1=>by
 have:=hL.th;have:=hL.nd
 simp only[Ly.desc,Ly.life];omega
end
def gR.bX (c:gR):List (Int×Int):=if c.at_=2 then [(qj c.word,c.found)] else []
def aC.bX (f:aC):List (Int×Int):=if f.at_=4 then f.cl.bX else []
def bL.bX (x:bL):List (Int×Int):=if 1≤x.at_∧x.at_≤8 then [(x.u,x.found)] else []
def bj.bX (f:bj):List (Int×Int):=if f.at_=0 then f.find.bX else if f.at_=1 then f.cl.bX else []
def aK.sub (h:aK):List (Int×Int):=if h.at_=3 then h.exec.bX else if h.at_=5 then h.find.bX else if h.at_=7 then h.cl.bX else []
def aK.bX (h:aK):List (Int×Int):=(if 1≤h.at_ then [(h.u,h.found)] else [])++h.sub
def aH.bX (me:Int) (d:aH):List (Int×Int):=if d.at_=1∨d.at_=5 then d.help.bX else if d.at_=3 then d.fast.bX else if d.at_=4∧d.ann.at_=4 then [(me,d.ann.found)] else if d.at_=7 then d.find.bX else []
def DR {α:Type} (M:ML) (m:Mm) (F:List (Int×Int)) (g:α→List (Int×Int)) (r:Bool×Mm×α):Prop:=jV M m r.2.1 F (if r.1 then [] else g r.2.2)
theorem DR.mk {α:Type} {M:ML} {m:Mm} {F:List (Int×Int)} {g:α→List (Int×Int)} {r:Bool×Mm×α} (h:jV M m r.2.1 F (if r.1 then [] else g r.2.2)):DR M m F g r:=h
theorem DR.out {α:Type} {M:ML} {m:Mm} {F:List (Int×Int)} {g:α→List (Int×Int)} {r:Bool×Mm×α} (h:DR M m F g r):jV M m r.2.1 F (if r.1 then [] else g r.2.2):=h
theorem DO {P:Int×Int→Prop}:∀ p,p∈([]:List (Int×Int))→P p:=fun _ h=>by cases h
theorem jf (a:Int):(gR.new a).bX=[]:=by simp[gR.bX,gR.new]
variable {M:ML} {m:Mm}
theorem ta {c:gR} (hL:M.L.Ok) (h:um M.L c):jV M m (bz M m c).2.1 c.bX (if (bz M m c).1 then [] else (bz M m c).2.2.bX):=by
 obtain⟨h1,h2,h3,h4,h5⟩:=h
 have hn:=hL.nd
 unfold bz
 split
 ·refine .keep rfl fun p hp=> ?_
  split at hp
  ·cases hp
  ·simp[gR.bX] at hp
 ·split
  ·rename_i h0 h6
   have ht:=h3 (by omega)
   refine jV.one (v:=qj c.word) (x:=ld M m (M.L.desc (qj c.word))) rfl ht fun p hp=> ?_
   simp only[Bool.false_eq_true,if_false,gR.bX] at hp
   split at hp
   ·exact .inr (List.mem_singleton.1 hp)
   ·cases hp
  ·split
   ·rename_i h0 h6 h7
    refine je _ hL (h3 (by omega)) (by simp[gR.bX,h7]) fun p hp=> ?_
    simp[gR.bX] at hp
   ·refine .quiet (gx _ _ (fk hL (by omega))) fun p hp=> ?_
    simp at hp
theorem FO {f:aC} (h:f.at_≠4):f.bX=[]:=by unfold aC.bX;rw[if_neg h]
theorem kf {P:Prop} {r:Bool×aC} (h:r.1=false→r.2.at_≠4) {p:Int×Int} (hp:p∈(if r.1 then [] else r.2.bX)):P:=by
 cases hr:r.1 with
 | true=>rw[hr] at hp;simp at hp
 | false=>rw[hr,FO (h hr)] at hp;simp at hp
theorem k9 (f:aC) (x:Int):(f.take x).2.at_≠4:=by
 unfold aC.take
 split<;>simp[aC.anew]
theorem kB (f:aC) (x:Int):(f.cN x).1=false→(f.cN x).2.at_≠4:=by
 unfold aC.cN
 split
 ·intro h;simp at h
 ·exact fun _=>k9 _ _
theorem pz (L:Ly) (f:aC) (h:f.at_≠4):(f.move L).1=false→(f.move L).2.2.at_≠4:=by
 unfold aC.move
 split
 ·exact fun _=>h
 ·split
  ·intro h;simp at h
  ·intro _;simp[aC.anew]
theorem tc {u N:Int} {f:aC} (hL:M.L.Ok) (hu:0≤u∧u<M.L.th) (h:eQ M.L u f N) (hl:fM M.L f):DR M m f.bX aC.bX (ax M m f):=by
 have hn:=hL.nd
 have hp:=h.pos hl.ab
 have hpr:=hp.pred
 unfold ax
 split
 ·simp only
  refine DR.mk <| jV.keep rfl fun p hp=> ?_
  split at hp
  ·exact kf (kB _ _) hp
  ·exact kf (fun _=>k9 _ _) hp
 ·split
  ·rw[h.me]
   refine DR.mk <| jV.quiet (fx _ (mQ hL hu (by omega))) fun p hp=> ?_
   simp[aC.bX] at hp
  ·split
   ·simp only
    refine DR.mk <| jV.keep (by split<;>rfl) fun p hp=> ?_
    split at hp
    ·exact kf (r:=f.cN (ld M m f.pos.pred)) (kB _ _) hp
    ·simp[aC.bX] at hp
   ·split
    ·refine DR.mk <| jV.keep rfl fun p hp=> ?_
     simp only at hp
     unfold aC.look at hp
     simp only at hp
     revert hp
     split
     ·split
      ·intro hp;simp at hp
      ·intro hp;simp[aC.bX] at hp
     ·split
      ·intro hp;simp[aC.bX,jf] at hp
      ·split
       ·intro hp;simp[aC.bX,jf] at hp
       ·intro hp;simp[aC.bX] at hp
    ·split
     ·rename_i h4
      have hc:=ta (m:=m) hL (hl.cl h4)
      have hF:f.bX=f.cl.bX:=by unfold aC.bX;rw[if_pos h4]
      rw[hF]
      simp only
      split
      ·refine DR.mk <| hc.mono (fun _ h=>h) fun p hp=> ?_
       revert hp
       split
       ·intro hp;cases hp
       ·intro hp;simp[aC.bX,aC.aU] at hp
      ·rename_i hr
       rw[if_neg hr] at hc
       refine DR.mk <| hc.mono (fun _ h=>h) fun p hp=> .inl ?_
       simpa [aC.bX,h4] using hp
     ·split
      ·split
       ·simp only
        split
        ·rename_i hr
         refine DR.mk <| jV.quiet (gx _ _ (fk hL (by omega))) fun p hp=> ?_
         exact kf (fun _=>k9 _ _) hp
        ·rename_i hr
         refine DR.mk <| jV.quiet (gx _ _ (fk hL (by omega))) fun p hp=> ?_
         exact kf (r:=((({ f with aQ:=f.aQ++[f.pos.curr] }:aC).move M.L).1,(({ f with aQ:=f.aQ++[f.pos.curr] }:aC).move M.L).2.2)) (pz M.L _ (by simp only;omega)) hp
       ·refine DR.mk <| jV.keep rfl fun p hp=> ?_
        revert hp
        simp only
        split
        ·intro hp;cases hp
        ·intro hp;simp[aC.bX,aC.aU] at hp
      ·refine DR.mk <| jV.quiet (fx _ (mQ hL (by rw[h.me];exact hu) (by omega))) fun p hp=> ?_
       exact kf (r:=((({ f with pos:={ f.pos with pred:=f.pos.curr },at_:=0 }:aC).move M.L).1,(({ f with pos:={ f.pos with pred:=f.pos.curr },at_:=0 }:aC).move M.L).2.2)) (pz M.L _ (by simp)) hp
theorem BF {x:bL} (hL:M.L.Ok) (h:yP M.L x):DR M m x.bX bL.bX (bu M m x):=by
 have hn:=hL.nd
 obtain⟨hu,hat,hv,h2,h3,h4,hg,hw⟩:=h
 have hin:1≤x.at_→x.at_≤8→(x.u,x.found)∈x.bX:=fun a b=>by unfold bL.bX;rw[if_pos ⟨a,b⟩];exact List.mem_singleton_self _
 have hsame:1≤x.at_→x.at_≤8→∀ (k w:Int) (p:Int×Int),p∈({ x with at_:=k,word:=w }:bL).bX→p∈x.bX:=fun a b k w p hp=>by
  unfold bL.bX at hp
  split at hp
  ·rw[List.mem_singleton.1 hp];exact hin a b
  ·cases hp
 unfold bu
 simp only
 split
 ·refine DR.mk <| jV.one (v:=x.u) (x:=ld M m (M.L.desc x.u)) rfl hu fun p hp=> ?_
  have key:∀ k:Int,p∈({ x with found:=ld M m (M.L.desc x.u),at_:=k }:bL).bX→p=(x.u,ld M m (M.L.desc x.u)):=fun k hk=>by
   unfold bL.bX at hk
   split at hk
   ·exact List.mem_singleton.1 hk
   ·cases hk
  revert hp
  unfold bL.load
  split
  ·intro hp;cases hp
  ·split
   ·exact fun hp=> .inr (key 1 hp)
   ·split
    ·exact fun hp=> .inr (key 5 hp)
    ·split
     ·exact fun hp=> .inr (key 8 hp)
     ·intro hp;cases hp
 ·split
  ·refine DR.mk <| jV.keep rfl fun p hp=> ?_
   exact hsame (by omega) (by omega) _ _ p hp
  ·split
   ·rename_i c0 c1 c2
    have hd:=(hv (by omega)).at_ (by have:=h2 (by omega) (by omega);omega) (by have:=h2 (by omega) (by omega);omega)
    exact DR.mk <| jV.quiet (gx _ _ (fk hL hd.1.2)) fun p hp=>by cases hp
   ·split
    ·exact DR.mk <| je _ hL hu (hin (by omega) (by omega)) fun p hp=>by cases hp
    ·split
     ·exact DR.mk <| je _ hL hu (hin (by omega) (by omega)) fun p hp=>by cases hp
     ·split
      ·refine DR.mk <| jV.keep rfl fun p hp=> ?_
       exact hsame (by omega) (by omega) _ _ p hp
      ·split
       ·rename_i c0 c1 c2 c3 c4 c5 c6
        have hs:=h3 (by omega) (by omega)
        have hd:=(hv (by omega)).at_ (by omega) (by omega)
        exact DR.mk <| jV.quiet (gx _ _ (fk hL hd.1.2)) fun p hp=>hsame (by omega) (by omega) 7 x.word p hp
       ·split
        ·exact DR.mk <| je _ hL hu (hin (by omega) (by omega)) fun p hp=>by cases hp
        ·split
         ·refine DR.mk <| je _ hL hu (hin (by omega) (by omega)) fun p hp=> ?_
          revert hp
          split
          ·intro hp;cases hp
          ·exact fun hp=>hsame (by omega) (by omega) 9 x.word p hp
         ·rename_i c0 c1 c2 c3 c4 c5 c6 c7 c8
          have:=hg (by omega)
          exact DR.mk <| jV.quiet (fx _ (mR hL this.2)) fun p hp=>by cases hp
variable {t:cV}
theorem pA {p:nB} (hL:M.L.Ok) (ht:t.spare≤M.L.nd):∀ v,0≤v→v<M.L.th→ld M (dh M m t p).2.1 (M.L.desc v)=ld M m (M.L.desc v):=fun v h0 h1=>by
 unfold dh
 split
 ·rfl
 ·exact fx _ (fk hL (by omega)) v h0 h1
theorem BG {l:List Int} (hL:M.L.Ok) (h:Nodes M.L l):∀ v,0≤v→v<M.L.th→ld M (ez M m l).2.1 (M.L.desc v)=ld M m (M.L.desc v):=fun v h0 h1=>by
 cases l with
 | nil=>rfl
 | cons x r=>exact fx _ (mR hL (h x (List.mem_cons_self ..)).2) v h0 h1
theorem BI {s:iH} (hL:M.L.Ok) (h:wh M.L s):∀ v,0≤v→v<M.L.th→ld M (cI M m s).2.1 (M.L.desc v)=ld M m (M.L.desc v):=fun v h0 h1=>by
 unfold cI
 split
 ·exact BG hL h.give v h0 h1
 ·split<;>rfl
theorem pB {x:tY} {N:Int} (hL:M.L.Ok) (ht:bM M.L t N) (h:uk M.L x N):∀ v,0≤v→v<M.L.th→ld M (bK M m t x).2.1 (M.L.desc v)=ld M m (M.L.desc v):=by
 have key:wh M.L (x.getD (.new t.ret)):=by
  cases x with
  | none=>exact AW ht.ret
  | some s=>exact(h s rfl).1
 exact fun v h0 h1=>BI hL key v h0 h1
theorem u4 {a:gL} (hL:M.L.Ok) (h:qy M.L a):∀ v,0≤v→v<M.L.th→ld M (cp M m a).2.1 (M.L.desc v)=ld M m (M.L.desc v):=fun v h0 h1=>by
 have h2:=h.at_.2
 unfold cp
 split
 ·split
  ·exact gx _ _ (mR hL h2) v h0 h1
  ·rfl
 ·split<;>rfl
theorem u5 (M:ML) (m:Mm) (t:cV) (e:j5) (a:gL):(km M m t e a).2.1=(cp M m a).2.1:=by
 unfold km
 simp only
 split
 ·rfl
 ·split<;>rfl
variable {me:Int}
theorem lU {e:j5} {N:Int} (hL:M.L.Ok) (ht:bM M.L t N) (h:lI M.L e N):∀ v,0≤v→v<M.L.th→ld M (aF M me m t e).2.1 (M.L.desc v)=ld M m (M.L.desc v):=fun v h0 h1=>by
 unfold aF
 cases hs:e.scan with
 | some x=>
  simp only
  split
  ·exact pB hL ht (h.scan x hs) v h0 h1
  ·exact pB hL ht (h.scan x hs) v h0 h1
 | none=>
  simp only
  cases ha:e.alloc with
  | none=>
   simp only
   split
   ·rfl
   ·rw[u5];exact u4 hL (sy hL _) v h0 h1
  | some a=>simp only;rw[u5];exact u4 hL (h.alloc a hs ha) v h0 h1
theorem BJ {g:CR} (hL:M.L.Ok) (h1:0≤g.thread∧g.thread<M.L.th) (h2:0≤g.at_∧g.at_≤1):∀ v,0≤v→v<M.L.th→ld M (ey M m g).2.1 (M.L.desc v)=ld M m (M.L.desc v):=fun v h3 h4=>by
 unfold ey
 exact fx _ (mQ hL h1 h2) v h3 h4
theorem fo {h:aK} (h1:1≤h.at_):(h.u,h.found)∈h.bX:=by
 unfold aK.bX
 rw[if_pos h1]
 exact List.mem_append_left _ (List.mem_singleton_self _)
theorem jg {h:aK} (p:Int×Int) (hp:p∈h.sub):p∈h.bX:=List.mem_append_right _ hp
theorem gf {h:aK} {p:Int×Int} (hp:p∈h.bX):(1≤h.at_∧p=(h.u,h.found))∨p∈h.sub:=by
 unfold aK.bX at hp
 rcases List.mem_append.1 hp with hp | hp
 ·left
  split at hp
  ·exact⟨by assumption,List.mem_singleton.1 hp⟩
  ·cases hp
 ·exact .inr hp
theorem jW {h:aK} (h0:h.at_=0):h.bX=[]:=by
 unfold aK.bX aK.sub
 simp[h0]
theorem eo {h h':aK} (h1:1≤h.at_) (hu:h'.u=h.u) (hf:h'.found=h.found) (hs:∀ p,p∈h'.sub→p∈h.bX):∀ p,p∈h'.bX→p∈h.bX:=fun p hp=>by
 rcases gf hp with ⟨-,rfl⟩ | hp
 ·rw[hu,hf];exact fo h1
 ·exact hs p hp
theorem gy (L:Ly) (me head key limit:Int):(aC.new L me head key limit).bX=[]:=by simp[aC.bX,aC.new]
theorem xh {h:aK} {N:Int} (hL:M.L.Ok) (hu:0≤me∧me<M.L.th) (ht:bM M.L t N) (hh:dE M.L me t h N):jV M m (ah M me m t h).2.1 h.bX (if (ah M me m t h).1 then [] else (ah M me m t h).2.2.2.bX):=by
 have nil:∀ {b:Bool} {h':aK} {G:List (Int×Int)},h'.bX=[]→∀ p,p∈(if b then [] else h'.bX)→p∈G:=fun e p hp=>by
  rw[e] at hp
  revert hp
  split<;>(intro hp;cases hp)
 rcases(by have:=hh.at_;omega:h.at_=0∨h.at_=1∨h.at_=2∨h.at_=3∨h.at_=4∨h.at_=5∨h.at_=6∨h.at_=7∨h.at_=8∨h.at_=9) with h0 | h0 | h0 | h0 | h0 | h0 | h0 | h0 | h0 | h0
 ·rw[jT h0]
  refine jV.one (v:=h.u) (x:=ld M m (M.L.desc h.u)) rfl hh.u fun p hp=> ?_
  simp only at hp
  split at hp
  ·cases hp
  ·rcases gf hp with ⟨-,e⟩ | hp
   ·exact .inr e
   ·simp[aK.sub] at hp
 ·rw[ij h0]
  refine .keep rfl fun p hp=> ?_
  simp only at hp
  split at hp
  ·cases hp
  ·exact eo (h:=h) (by omega) (by rfl) (by rfl) (fun p hp=>by simp[aK.sub] at hp) p hp
 ·rw[ik h0]
  refine .keep rfl fun p hp=> ?_
  simp only at hp
  split at hp
  ·cases hp
  ·revert hp
   unfold aK.begin_
   split
   ·exact fun hp=>eo (h:=h) (by omega) (by rfl) (by rfl) (fun p hp=>by simp[aK.sub,h0] at hp) p hp
   ·simp only
    split
    ·exact fun hp=>eo (h:=h) (by omega) (by rfl) (by rfl) (fun p hp=>by simp[aK.sub,bL.bX,bL.new] at hp) p hp
    ·split
     ·exact fun hp=>eo (h:=h) (by omega) (by rfl) (by rfl) (fun p hp=>by simp[aK.sub] at hp) p hp
     ·exact fun hp=>eo (h:=h) (by omega) (by rfl) (by rfl) (fun p hp=>by simp[aK.search,aK.sub,gy] at hp) p hp
 ·have hx:=(BF (m:=m) hL (hh.exec h0).1).out
  rw[il h0]
  simp only[Bool.false_eq_true,if_false]
  refine hx.mono (fun p hp=>jg p (by unfold aK.sub;rw[if_pos h0];exact hp)) fun p hp=> ?_
  cases hq:(bu M m h.exec).1 with
  | true=>
   rw[hq] at hp
   rw[jW (by simp)] at hp
   cases hp
  | false=>
   rw[hq] at hp
   rcases gf hp with ⟨-,rfl⟩ | hp
   ·exact .inr (fo (by omega))
   ·left
    simpa [aK.sub] using hp
 ·rw[iq h0]
  refine .quiet (lU hL ht (hh.a5 h0)) fun p hp=> ?_
  simp only[Bool.false_eq_true,if_false] at hp
  revert hp
  split
  ·exact fun hp=>eo (h:=h) (by omega) (by rfl) (by rfl) (fun p hp=>by simp[aK.sub,h0] at hp) p hp
  ·split
   ·exact fun hp=>eo (h:=h) (by omega) (by rfl) (by rfl) (fun p hp=>by simp[aK.sub] at hp) p hp
   ·exact fun hp=>eo (h:=h) (by omega) (by rfl) (by rfl) (fun p hp=>by simp[aK.search,aK.sub,gy] at hp) p hp
 ·have hf:=hh.find h0
  have hx:=(tc (m:=m) hL hu hf.1.1 hf.1.2).out
  rw[iu h0]
  cases hq:(ax M m h.find).1 with
  | true=>
   simp only[if_true,Bool.false_eq_true,if_false]
   rw[hq] at hx
   refine hx.mono (fun p hp=>jg p (by simp[aK.sub,h0];exact hp)) fun p hp=> .inr ?_
   refine eo (h:=h) (by omega) ?_ ?_ (fun p hp=> ?_) p hp
   ·unfold aK.bP;simp only;split<;>(try rfl);split<;>(try rfl);split<;>(try rfl);split<;>rfl
   ·unfold aK.bP;simp only;split<;>(try rfl);split<;>(try rfl);split<;>(try rfl);split<;>rfl
   ·revert hp
    unfold aK.bP
    simp only
    split
    ·intro hp;simp[aK.sub] at hp
    ·split
     ·intro hp;simp[aK.sub] at hp
     ·split
      ·intro hp;simp[aK.sub,jf] at hp
      ·split<;>(intro hp;simp[aK.sub] at hp)
  | false=>
   simp only[Bool.false_eq_true,if_false]
   rw[hq] at hx
   refine hx.mono (fun p hp=>jg p (by simp[aK.sub,h0];exact hp)) fun p hp=> ?_
   rcases gf hp with ⟨-,rfl⟩ | hp
   ·exact .inr (fo (by omega))
   ·left
    simpa [aK.sub,h0] using hp
 ·rw[iv h0]
  exact je _ hL hh.u (fo (by omega)) (nil (jW (by simp)))
 ·have hx:=ta (m:=m) hL (hh.cl h0)
  rw[iw h0]
  simp only[Bool.false_eq_true,if_false]
  refine hx.mono (fun p hp=>jg p (by simp[aK.sub,h0];exact hp)) fun p hp=> ?_
  cases hq:(bz M m h.cl).1 with
  | true=>
   rw[hq] at hp
   rw[jW (by simp)] at hp
   cases hp
  | false=>
   rw[hq] at hp
   rcases gf hp with ⟨-,rfl⟩ | hp
   ·exact .inr (fo (by omega))
   ·left
    simpa [aK.sub] using hp
 ·rw[ix h0]
  refine .quiet (pA hL ht.spare.2) fun p hp=> ?_
  simp only[Bool.false_eq_true,if_false] at hp
  refine eo (h:=h) (by omega) (by rfl) (by rfl) (fun p hp=> ?_) p hp
  revert hp
  unfold aK.sub
  simp only
  split<;>(intro hp;simp at hp)
 ·rw[lS h0]
  exact je _ hL hh.u (fo (by omega)) (nil (jW (by simp)))
theorem pC {f:bj} (h0:f.at_=0):f.bX=f.find.bX:=by unfold bj.bX;rw[if_pos h0]
theorem pD {f:bj} (h0:f.at_=1):f.bX=f.cl.bX:=by unfold bj.bX;rw[if_neg (by omega),if_pos h0]
theorem BK {f:bj} (h0:f.at_≠0) (h1:f.at_≠1):f.bX=[]:=by unfold bj.bX;rw[if_neg h0,if_neg h1]
theorem lV (L:Ly) (me:Int) (f:bj):(if (f.again L me).1 then [] else (f.again L me).2.bX)=[]:=by
 unfold bj.again
 split
 ·rfl
 ·simp[bj.bX,bj.kn,gy]
theorem qU (t:cV) (f:bj):(if (f.sought t).1 then [] else (f.sought t).2.2.bX)=[]:=by
 unfold bj.sought
 simp only
 split
 ·rfl
 ·split
  ·rfl
  ·split
   ·simp[bj.bX,jf]
   ·split<;>simp[bj.bX]
theorem FP {f:bj} {N:Int} (hL:M.L.Ok) (hu:0≤me∧me<M.L.th) (ht:bM M.L t N) (h:mO M.L me t f N):jV M m (aJ M me m t f).2.1 f.bX (if (aJ M me m t f).1 then [] else (aJ M me m t f).2.2.2.bX):=by
 have hn:=hL.nd
 unfold aJ
 split
 ·rename_i h0
  split
  ·exact .keep rfl fun p hp=>by cases hp
  ·have hf:=h.find h0
   have hx:=(tc (m:=m) hL hu hf.1 hf.2).out
   simp only
   cases hq:(ax M m f.find).1 with
   | true=>
    rw[hq] at hx
    simp only[if_true]
    refine hx.mono (fun p hp=>by rw[pC h0];exact hp) fun p hp=> ?_
    rw[qU] at hp
    cases hp
   | false=>
    rw[hq] at hx
    simp only[Bool.false_eq_true,if_false] at hx⊢
    refine hx.mono (fun p hp=>by rw[pC h0];exact hp) fun p hp=> .inl ?_
    rw[pC (by exact h0)] at hp
    exact hp
 ·split
  ·rename_i h0 h1
   have hx:=ta (m:=m) hL (h.cl h1)
   simp only
   cases hq:(bz M m f.cl).1 with
   | true=>
    rw[hq] at hx
    simp only[if_true]
    refine hx.mono (fun p hp=>by rw[pD h1];exact hp) fun p hp=> ?_
    rw[lV] at hp
    cases hp
   | false=>
    rw[hq] at hx
    simp only[Bool.false_eq_true,if_false] at hx⊢
    refine hx.mono (fun p hp=>by rw[pD h1];exact hp) fun p hp=> .inl ?_
    rw[pD (by exact h1)] at hp
    exact hp
  ·split
   ·simp only
    refine .quiet (pA hL ht.spare.2) fun p hp=> ?_
    simp only[Bool.false_eq_true,if_false] at hp
    rw[BK (by simp only;split<;>omega) (by simp only;split<;>omega)] at hp
    cases hp
   ·have hat:=h.at_
    have hpl:=h.plan (by omega)
    have hpa:=hpl.1.addr hpl.2.1
    split
    ·exact .quiet (gx _ _ (fk hL (by omega))) fun p hp=>by cases hp
    ·refine .keep rfl fun p hp=> ?_
     rw[lV] at hp
     cases hp
theorem gA {d:aH} (h:d.at_=1∨d.at_=5):d.bX me=d.help.bX:=by unfold aH.bX;rw[if_pos h]
theorem lW {d:aH} (h:d.at_=3):d.bX me=d.fast.bX:=by unfold aH.bX;rw[if_neg (by omega),if_pos h]
theorem pE {d:aH} (h:d.at_=4) (h1:d.ann.at_=4):d.bX me=[(me,d.ann.found)]:=by unfold aH.bX;rw[if_neg (by omega),if_neg (by omega),if_pos ⟨h,h1⟩]
theorem lX {d:aH} (h:d.at_=7):d.bX me=d.find.bX:=by unfold aH.bX;rw[if_neg (by omega),if_neg (by omega),if_neg (by omega),if_pos h]
theorem bA {d:aH} (h:d.at_=0∨d.at_=2∨(d.at_=4∧d.ann.at_≠4)∨d.at_=6∨8≤d.at_):d.bX me=[]:=by unfold aH.bX;rw[if_neg (by omega),if_neg (by omega),if_neg (by omega),if_neg (by omega)]
theorem xi (L:Ly) (me:Int) (t:bq) (n:Int):(bj.new L me t n).bX=[]:=by simp[bj.bX,bj.new,bj.kn,gy]
theorem pF (L:Ly) (me:Int) (d:aH):(d.aU L me).bX me=[]:=by rw[lW (by rfl)];exact xi _ _ _ _
theorem jh (me:Int) (d:aH):(d.leave me).bX me=[]:=bA (by simp[aH.leave])
theorem na (L:Ly) (me:Int) (t:cV) (d:aH):(d.want L me t).bX me=[]:=by
 unfold aH.want
 split
 ·exact bA (by simp)
 ·exact pF _ _ _
theorem nc (L:Ly) (me:Int) (d:aH) (r:ku):(d.told L me r).bX me=[]:=by
 unfold aH.told
 simp only
 split
 ·exact jh _ _
 ·rw[lX (by rfl)];exact gy _ _ _ _ _
theorem pG (L:Ly) (u n k:Int):(aK.new L u n k).bX=[]:=jW (by rfl)
theorem xj {d:aH} {N:Int} (hL:M.L.Ok) (hu:0≤me∧me<M.L.th) (ht:bM M.L t N) (hd:eR M.L me t d N) (ho:d.at_=4→d.ann.at_=4→d.ann.found=ld M m (M.L.desc me)):jV M m (ak M me m t d).2.1 (d.bX me) (if (ak M me m t d).1 then [] else (ak M me m t d).2.2.2.bX me):=by
 have hn:=hL.nd
 have hth:=hL.th
 have nil:∀ {d':aH} {G:List (Int×Int)},d'.bX me=[]→∀ p,p∈d'.bX me→p∈G:=fun e p hp=>by rw[e] at hp;cases hp
 rcases(by have:=hd.at_;omega:d.at_=0∨d.at_=1∨d.at_=2∨d.at_=3∨d.at_=4∨d.at_=5∨d.at_=6∨d.at_=7∨d.at_=8∨d.at_=9) with h0 | h0 | h0 | h0 | h0 | h0 | h0 | h0 | h0 | h0
 ·rw[iy h0]
  simp only[Bool.false_eq_true,if_false]
  refine .keep rfl ?_
  split
  ·unfold aH.looked
   split
   ·exact nil (na _ _ _ _)
   ·exact nil (by rw[gA (.inl rfl)];exact pG _ _ _ _)
  ·exact nil (bA (.inl h0))
 ·have hx:=xh (m:=m) hL hu ht (hd.help (.inl h0))
  rw[fF h0]
  simp only[Bool.false_eq_true,if_false]
  rw[gA (.inl h0)]
  cases hq:(ah M me m t d.help).1 with
  | true=>rw[hq] at hx;exact hx.mono (fun _ h=>h) fun p hp=> .inl (nil (na _ _ _ _) p hp)
  | false=>rw[hq] at hx;exact hx.mono (fun _ h=>h) fun p hp=> .inl (by simp only[Bool.false_eq_true,if_false] at hp⊢;rw[gA (by exact .inl h0)] at hp;exact hp)
 ·rw[iz h0]
  simp only[Bool.false_eq_true,if_false]
  refine .quiet (lU hL ht (hd.a5 h0)) ?_
  split
  ·unfold aH.ensured
   split
   ·exact nil (jh _ _)
   ·exact nil (pF _ _ _)
  ·exact nil (bA (.inr (.inl h0)))
 ·have hx:=FP (m:=m) hL hu ht (hd.fast h0)
  rw[gq h0]
  simp only[Bool.false_eq_true,if_false]
  rw[lW h0]
  cases hq:(aJ M me m t d.fast).1 with
  | true=>
   rw[hq] at hx
   refine hx.mono (fun _ h=>h) fun p hp=> .inl (nil ?_ p hp)
   simp only[if_true]
   unfold aH.tried
   split
   ·exact nc _ _ _ _
   ·exact bA (by simp[kO.new])
  | false=>rw[hq] at hx;exact hx.mono (fun _ h=>h) fun p hp=> .inl (by simp only[Bool.false_eq_true,if_false] at hp⊢;rw[lW (by exact h0)] at hp;exact hp)
 ·rw[gu h0]
  have ha:=(hd.ann h0).1
  rcases(by omega:d.ann.at_=0∨d.ann.at_=1∨d.ann.at_=2∨d.ann.at_=3∨d.ann.at_=4) with a0 | a0 | a0 | a0 | a0
  ·have e:aW M me m d.ann=(false,st M m (M.L.task me) d.ann.bits,{ d.ann with at_:=1 }):=by unfold aW;rw[if_pos a0]
   rw[e]
   refine .quiet (fx _ (fun v _ _=>by simp only[Ly.task,Ly.desc];omega)) (nil (bA ?_))
   simp[h0]
  ·have e:aW M me m d.ann=(false,add M m M.L.counter 1,{ d.ann with no:=(ld M m M.L.counter+1) % 18446744073709551616,at_:=2 }):=by unfold aW;rw[if_neg (by omega),if_pos a0]
   rw[e]
   refine .quiet (fx _ (fun v _ _=>by simp only[Ly.counter,Ly.desc];omega)) (nil (bA ?_))
   simp[h0]
  ·have e:aW M me m d.ann=(false,st M m (M.L.ticket me) d.ann.no,{ d.ann with at_:=3 }):=by unfold aW;rw[if_neg (by omega),if_neg (by omega),if_pos a0]
   rw[e]
   refine .quiet (fx _ (fun v _ _=>by simp only[Ly.ticket,Ly.desc];omega)) (nil (bA ?_))
   simp[h0]
  ·have e:aW M me m d.ann=(false,m,{ d.ann with found:=ld M m (M.L.desc me),at_:=4 }):=by unfold aW;rw[if_neg (by omega),if_neg (by omega),if_neg (by omega),if_pos a0]
   rw[e]
   refine jV.one (v:=me) rfl hu fun p hp=> .inr ?_
   simp only[Bool.false_eq_true,if_false] at hp
   rw[pE (by exact h0) rfl] at hp
   exact List.mem_singleton.1 hp
  ·have e:aW M me m d.ann=(true,st M m (M.L.desc me) (cL (getD' d.ann.found).cm),{ d.ann with at_:=5 }):=by unfold aW;rw[if_neg (by omega),if_neg (by omega),if_neg (by omega),if_neg (by omega)]
   rw[e]
   have hfd:=ho h0 a0
   refine⟨fun v h3 h4=> ?_,fun p hp=> ?_⟩
   ·by_cases ev:v=me
    ·subst ev;right;rw[pE h0 a0,hfd];exact List.mem_singleton_self _
    ·left;exact aq _ _ (by simp only[Ly.desc];omega)
   ·simp only[Bool.false_eq_true,if_false,if_true] at hp
    rw[gA (.inr rfl)] at hp
    rw[pG] at hp
    cases hp
 ·have hx:=xh (m:=m) hL hu ht (hd.help (.inr h0))
  rw[fG h0]
  simp only[Bool.false_eq_true,if_false]
  rw[gA (.inr h0)]
  cases hq:(ah M me m t d.help).1 with
  | true=>rw[hq] at hx;exact hx.mono (fun _ h=>h) fun p hp=> .inl (nil (bA (by simp)) p hp)
  | false=>rw[hq] at hx;exact hx.mono (fun _ h=>h) fun p hp=> .inl (by simp only[Bool.false_eq_true,if_false] at hp⊢;rw[gA (by exact .inr h0)] at hp;exact hp)
 ·rw[gv h0]
  exact .keep rfl (nil (nc _ _ _ _))
 ·have hf:=hd.find h0
  have hx:=(tc (m:=m) hL hu hf.1.1 hf.1.2).out
  rw[fH h0,lX h0]
  cases hq:(ax M m d.find).1 with
  | true=>rw[hq] at hx;exact hx.mono (fun _ h=>h) fun p hp=> .inl (by simp[jh] at hp)
  | false=>rw[hq] at hx;exact hx.mono (fun _ h=>h) fun p hp=> .inl (by simp only[Bool.false_eq_true,if_false] at hp⊢;rw[lX (by exact h0)] at hp;exact hp)
 ·have hdr:=hd.drop h0
  rw[gw h0]
  have hg:=BJ (m:=m) (g:=d.drop) hL (by rw[hdr.1];exact hu) hdr.2
  split
  ·refine .quiet hg fun p hp=> ?_
   simp only at hp
   split at hp
   ·cases hp
   ·exact nil (bA (by simp)) p hp
  ·exact .quiet hg (nil (bA (by simp[h0])))
 ·rw[iA h0]
  refine .quiet (pB hL ht (hd.sweep h0)) fun p hp=> ?_
  simp only at hp
  split at hp
  ·cases hp
  ·exact nil (bA (by simp[h0])) p hp
variable {w:World} {C:Nat→Nat} {c s sg b:Nat}
theorem DP {d:aH} (_:c≠s) (_:s≠1) (hm:aj w C M m) (hst:al w C s sg M.L me t) (h:aX w C c s sg b M.L me d) (hf:d.Fine M m t) (h0:d.at_=4):Calls Tryz.prog 63 #[.pointer (some ⟨b,0,none⟩),.pointer (some ⟨M.b,0,none⟩)] w (MV C c s iI (.bool (ak M me m t d).1) M (ak M me m t d).2.1 (fun w' C'=>al w' C' s sg M.L me (ak M me m t d).2.2.1∧aX w' C' c s sg b M.L me (ak M me m t d).2.2.2) w):=by
 obtain⟨ph,pl,pe,pf,pa,pr,pi,pd,ps,sb,-,-,-,-,g4,-,-,-,-,-⟩:=h.ex
 obtain⟨bx,rfl,han⟩:=g4 h0
 have hmay:=hf.may
 have hlim:=hf.lim
 have hle:=hf.len
 have Ky:=fun W C' (k1:aj W C' M m) (k2:kp W C' c bx M.L me d.ann)=>qT k1 k2 (hf.ann h0)
 obtain⟨r,hr⟩:∃ r,aW M me m d.ann=r:=⟨_,rfl⟩
 simp only[hr] at Ky
 obtain⟨r1,m',JH⟩:=r
 have HST:Hid (ak M me m t d=(false,m',t,if r1 then { d with ann:=JH,at_:=5,help:= .new M.L me JH.no d.limit } else { d with ann:=JH })):=Lib.hid (by unfold ak;simp only;rw[if_neg (by rw[h0];decide)];rw[if_neg (by rw[h0];decide)];rw[if_neg (by rw[h0];decide)];rw[if_neg (by rw[h0];decide)];rw[if_pos h0];simp only[hr])
 unfold ep at sb
 clear hr
 obtain⟨⟨rc,ro,rv⟩,slow,⟨sh,kind,key⟩,limit,at_,head,help,a5,fast,ann,find,drop,sweep⟩:=d
 simp only at sb h0 han HST Ky
 subst h0
 clear h hf hle hmay hlim
 go_enter Tryz.func63,Tryz.ntmps63
 have fr:=Fr.refl C (dK c s) iI w
 have ag:=aB.refl w.heap.size C
 go_wp2_with fail
 refine(Ky _ _ hm han).mono ?_;clear hm han;rintro e w1 ⟨rfl,hm,han,hf⟩
 revert hst;revert sb;revert fr;refine dS hf (eE c s) DG ag ?_;clear hf;intro fr sb hst
 try dsimp only at hm han
 cases r1
 ·skip
  go_wp2_with fail
  go_ret
  exact⟨by rw[HST.out];rfl,⟨_,ag,by rw[HST.out];exact hm,by rw[HST.out];exact⟨hst,.LP sb rfl han⟩⟩,fr⟩
 ·skip
  obtain⟨⟨A,n,cap,hn,st,hrow⟩,hme,-,-⟩:=id hst
  clear hn hrow
  have zJ:=han.blk
  go_wp2_with fail
  revert zJ;revert st;revert han;revert hst;revert hm;revert sb;revert fr;refine bD ?_;intro fr sb hm hst han st zJ
  obtain⟨q1,q2,q3,qi⟩:=cF sb st zJ
  refine aY sb st zJ 24 [] [0,1,2,3,4,5,6,7,8,9,10,11,12,13,14,15,16,17,18,19,20,21,22,23] [24,25,26,27,28,29,30] (by kernel_rfl) (by kernel_rfl) ?_
  refine af ?_;try simp only[ox]
  repeat(go_big_quiet_step (fail))
  refine wpQuiet_nil ?_
  refine ae _ _ _ (by kernel_rfl) ?_;try simp only[ox]
  clear qi q1 q2 q3
  go_wp2_with fail
  revert ag fr sb hm hst han st zJ;refine fL (uO sg M.L s me JH.no limit C c _) ?_;rintro w2 bp C2 ag fr kq sb hm hst han st zJ
  have z1:=And.intro sb (And.intro st zJ)
  revert fr kq hm hst han st zJ;refine st1 sb 9 (.int .i64 5) (aR c s) ag ?_;clear sb;rintro w3 e1 fr sb kq hm hst han st zJ
  simp only[sx] at sb
  have z2:=And.intro sb (And.intro st zJ)
  revert fr kq hm hst han st zJ;refine st1 sb 11 (.pointer (some ⟨bp,0,none⟩)) (aR c s) ag ?_;clear sb;rintro w4 e2 fr sb kq hm hst han st zJ
  simp only[sx] at sb
  go_wp2_with fail
  refine NoPanic.normal ?_
  go_wp2_with fail
  clear z1 e1 z2 e2
  go_ret
  exact⟨by rw[HST.out];rfl,⟨_,ag,by rw[HST.out];exact hm,by rw[HST.out];exact⟨hst,.LQ sb rfl kq⟩⟩,fr⟩
theorem DQ {d:aH} (hcs:c≠s) (hs1:s≠1) (hm:aj w C M m) (hst:al w C s sg M.L me t) (h:aX w C c s sg b M.L me d) (hf:d.Fine M m t) (h0:d.at_=5):Calls Tryz.prog 63 #[.pointer (some ⟨b,0,none⟩),.pointer (some ⟨M.b,0,none⟩)] w (MV C c s iI (.bool (ak M me m t d).1) M (ak M me m t d).2.1 (fun w' C'=>al w' C' s sg M.L me (ak M me m t d).2.2.1∧aX w' C' c s sg b M.L me (ak M me m t d).2.2.2) w):=by
 obtain⟨ph,pl,pe,pf,pa,pr,pi,pd,ps,sb,-,-,-,-,-,g5,-,-,-,-⟩:=h.ex
 obtain⟨bx,rfl,kq⟩:=g5 h0
 have hmay:=hf.may
 have hlim:=hf.lim
 have hle:=hf.len
 have FJ:=fun W C' (k1:aj W C' M m) (k2:al W C' s sg M.L me t) (k3:br W C' c s sg bx M.L d.help)=>rJ hcs hs1 k1 k2 k3 hle (hf.help (.inr h0))
 obtain⟨r,hr⟩:∃ r,ah M me m t d.help=r:=⟨_,rfl⟩
 simp only[hr] at FJ
 obtain⟨r1,m',t2,hp2⟩:=r
 have HST:Hid (ak M me m t d=(false,m',t2,if r1 then { d with help:=hp2,at_:=6 } else { d with help:=hp2 })):=Lib.hid (by unfold ak;simp only;rw[if_neg (by rw[h0];decide)];rw[if_neg (by rw[h0];decide)];rw[if_neg (by rw[h0];decide)];rw[if_neg (by rw[h0];decide)];rw[if_neg (by rw[h0];decide)];rw[if_pos h0];simp only[hr])
 unfold ep at sb
 clear hr
 obtain⟨⟨rc,ro,rv⟩,slow,⟨sh,kind,key⟩,limit,at_,head,help,a5,fast,ann,find,drop,sweep⟩:=d
 simp only at sb h0 kq HST FJ
 subst h0
 clear h hf hle hmay hlim
 go_enter Tryz.func63,Tryz.ntmps63
 have fr:=Fr.refl C (dK c s) iI w
 have ag:=aB.refl w.heap.size C
 go_wp2_with fail
 refine(FJ _ _ hm hst kq).mono ?_;clear hm hst kq;rintro e w1 ⟨rfl,⟨C1,aG,hm,hst,kq⟩,hf⟩
 revert sb;revert fr;revert ag;refine kx hf aG (fun _ h=>h) x8 ?_;clear hf aG;intro ag fr sb
 try dsimp only at hm hst kq
 cases r1
 ·skip
  go_wp2_with fail
  go_ret
  exact⟨by rw[HST.out];rfl,⟨_,ag,by rw[HST.out];exact hm,by rw[HST.out];exact⟨hst,.LQ sb rfl kq⟩⟩,fr⟩
 ·skip
  obtain⟨⟨A,n,cap,hn,st,hrow⟩,hme,-,-⟩:=id hst
  clear hn hrow
  go_wp2_with fail
  revert st;revert kq;revert hst;revert hm;revert sb;revert fr;refine bD ?_;intro fr sb hm hst kq st
  obtain⟨q1,q2,qi⟩:=bl sb st
  refine aA sb st 16 [] [0,1,2,3,4,5,6,7,8,9,10,11,12,13,14,15] [16,17,18,19,20,21,22] (by kernel_rfl) (by kernel_rfl) ?_
  refine af ?_;try simp only[ox]
  repeat(go_big_quiet_step (fail))
  refine wpQuiet_nil ?_
  refine ae _ _ _ (by kernel_rfl) ?_;try simp only[ox]
  clear qi q1 q2
  go_wp2_with fail
  revert ag fr sb hm hst kq st;refine fL (xa M.L me hme C1 c _) ?_;rintro w2 ba C2 ag fr has sb hm hst kq st
  have z1:=And.intro sb st
  revert fr has hm hst kq st;refine st1 sb 9 (.int .i64 6) (aR c s) ag ?_;clear sb;rintro w3 e1 fr sb has hm hst kq st
  simp only[sx] at sb
  have z2:=And.intro sb st
  revert fr has hm hst kq st;refine st1 sb 15 (.pointer (some ⟨ba,0,none⟩)) (aR c s) ag ?_;clear sb;rintro w4 e2 fr sb has hm hst kq st
  simp only[sx] at sb
  go_wp2_with fail
  refine NoPanic.normal ?_
  go_wp2_with fail
  clear z1 e1 z2 e2
  go_ret
  exact⟨by rw[HST.out];rfl,⟨_,ag,by rw[HST.out];exact hm,by rw[HST.out];exact⟨hst,.M0 sb rfl ⟨_,has⟩⟩⟩,fr⟩
theorem DS {d:aH} (_:c≠s) (_:s≠1) (hm:aj w C M m) (hst:al w C s sg M.L me t) (h:aX w C c s sg b M.L me d) (hf:d.Fine M m t) (h0:d.at_=6):Calls Tryz.prog 63 #[.pointer (some ⟨b,0,none⟩),.pointer (some ⟨M.b,0,none⟩)] w (MV C c s iI (.bool (ak M me m t d).1) M (ak M me m t d).2.1 (fun w' C'=>al w' C' s sg M.L me (ak M me m t d).2.2.1∧aX w' C' c s sg b M.L me (ak M me m t d).2.2.2) w):=by
 obtain⟨ph,pl,pe,pf,pa,pr,pi,pd,ps,sb,-,-,-,-,-,-,g6,-,-,-⟩:=h.ex
 obtain⟨bx,rfl,Kz⟩:=g6 h0
 have hmay:=hf.may
 have hlim:=hf.lim
 have hle:=hf.len
 obtain⟨r0,has⟩:=Kz
 obtain⟨q,hq⟩:∃ q,(getD' (ld M m (M.L.desc me))).res=q:=⟨_,rfl⟩
 have HAS:=fun W C' (k1:aj W C' M m) (k2:pq W C' c bx M.L me r0)=>uW k1 k2
 have jQ:=fun W C' (k1:al W C' s sg M.L me t) (k2:ep W C' c sg b ph pl pe pf pa (.pointer (some ⟨bx,0,none⟩)) pi pd ps d)=>x7 hm.ok k1 k2 hmay hlim q
 simp only[hq] at HAS
 have HST:Hid (ak M me m t d=(false,m,t,d.told M.L me q)):=Lib.hid (by unfold ak;simp only;rw[if_neg (by rw[h0];decide)];rw[if_neg (by rw[h0];decide)];rw[if_neg (by rw[h0];decide)];rw[if_neg (by rw[h0];decide)];rw[if_neg (by rw[h0];decide)];rw[if_neg (by rw[h0];decide)];rw[if_pos h0];rw[hq])
 unfold ep at sb
 clear hq
 obtain⟨⟨rc,ro,rv⟩,slow,⟨sh,kind,key⟩,limit,at_,head,help,a5,fast,ann,find,drop,sweep⟩:=d
 simp only at sb h0 has HST jQ HAS
 subst h0
 clear h hf hle hmay hlim
 obtain⟨qc,qo,qv⟩:=q
 go_enter Tryz.func63,Tryz.ntmps63
 have fr:=Fr.refl C (dK c s) iI w
 have ag:=aB.refl w.heap.size C
 go_wp2_with fail
 refine(HAS _ _ hm has).mono ?_;clear hm has;rintro e w1 ⟨rfl,hm,has,hf⟩
 revert hst;revert sb;revert fr;refine dS hf (eE c s) DH ag ?_;clear hf;intro fr sb hst
 have NA:=has.blk
 go_wp2_with fail
 refine(jQ _ _ hst sb).mono ?_
 rintro e w9 ⟨rfl,⟨C9,dC,bN⟩,bU⟩
 have fX:=ag.trans dC fr.size
 replace fr:=fr.trans (bU.mono (aR c s) kd) ag
 replace hm:=hm.mv bU dC (.inr ⟨by decide,by decide⟩)
 replace hst:=hst.mv bU dC (.inr (by decide))
 go_wp2_with fail
 go_ret
 exact⟨by rw[HST.out];rfl,⟨_,fX,by rw[HST.out];exact hm,by rw[HST.out];exact⟨hst,bN⟩⟩,fr⟩
theorem DT {d:aH} (hcs:c≠s) (hs1:s≠1) (hm:aj w C M m) (hst:al w C s sg M.L me t) (h:aX w C c s sg b M.L me d) (hf:d.Fine M m t) (h0:d.at_=7):Calls Tryz.prog 63 #[.pointer (some ⟨b,0,none⟩),.pointer (some ⟨M.b,0,none⟩)] w (MV C c s iI (.bool (ak M me m t d).1) M (ak M me m t d).2.1 (fun w' C'=>al w' C' s sg M.L me (ak M me m t d).2.2.1∧aX w' C' c s sg b M.L me (ak M me m t d).2.2.2) w):=by
 obtain⟨ph,pl,pe,pf,pa,pr,pi,pd,ps,sb,-,-,-,-,-,-,-,g7,-,-⟩:=h.ex
 obtain⟨bx,rfl,hfi⟩:=g7 h0
 have hmay:=hf.may
 have hlim:=hf.lim
 have hle:=hf.len
 have hKs:¬ Kc c s:=fun e=>e.elim (fun e=>hcs e.symm) hs1
 have hKf:¬ K0 s c:=fun e=>hcs e
 have hfin:=hf.find h0
 have A9:=fun W C' (k1:aj W C' M m) (k2:eK W C' c bx M.L d.find)=>mH k1 k2 hfin.1 hfin.2.1
 obtain⟨r,hr⟩:∃ r,ax M m d.find=r:=⟨_,rfl⟩
 have eV:=hfin.2.2
 simp only[hr] at A9 eV
 obtain⟨r1,m',bT⟩:=r
 have jQ:=fun W C' (k1:al W C' s sg M.L me (t.retire bT.aQ)) (k2:ep W C' c sg b ph pl pe pf pa pr (.pointer (some ⟨bx,0,none⟩)) pd ps { d with find:=bT })=>lO hm.ok k1 k2 hmay hlim
 have HST:Hid (ak M me m t d=if r1 then (false,m',t.retire bT.aQ,aH.leave me { d with find:=bT }) else (false,m',t,{ d with find:=bT })):=Lib.hid (by unfold ak;simp only;rw[if_neg (by rw[h0];decide)];rw[if_neg (by rw[h0];decide)];rw[if_neg (by rw[h0];decide)];rw[if_neg (by rw[h0];decide)];rw[if_neg (by rw[h0];decide)];rw[if_neg (by rw[h0];decide)];rw[if_neg (by rw[h0];decide)];rw[if_pos h0];simp only[hr])
 have hu2:=eV.aQ
 have yN:=Lib.hid hu2.1
 have hle2:bT.aQ.length≤100000:=by have:=hu2.2;simp only at this;omega
 have hle':t.ret.length≤98000:=hle
 unfold ep at sb
 clear hr hu2 hfin eV
 obtain⟨⟨rc,ro,rv⟩,slow,⟨sh,kind,key⟩,limit,at_,head,help,a5,fast,ann,find,drop,sweep⟩:=d
 simp only at sb h0 hfi HST jQ A9
 subst h0
 clear h hf hle hmay hlim
 go_enter Tryz.func63,Tryz.ntmps63
 have fr:=Fr.refl C (dK c s) iI w
 have ag:=aB.refl w.heap.size C
 go_wp2_with fail
 refine(A9 _ _ hm hfi).mono ?_;clear hm hfi;rintro e w1 ⟨rfl,⟨C1,aG,hm,hfi⟩,hf⟩
 replace hst:=hst.mv hf aG (.inl hKs)
 revert sb;revert fr;revert ag;refine kx hf aG (eE c s) DI ?_;clear hf aG;intro ag fr sb
 try dsimp only at hm hfi
 cases r1
 ·skip
  go_wp2_with fail
  go_ret
  exact⟨by rw[HST.out];rfl,⟨_,ag,by rw[HST.out];exact hm,by rw[HST.out];exact⟨hst,.LR sb rfl hfi⟩⟩,fr⟩
 ·skip
  obtain⟨pc1,hfc,-⟩:=id hfi.ex
  obtain⟨A1,n1,cap1,hn1,fi,hrow1⟩:=hfc.ex
  have uw:=Lib.hid hn1
  have ic:n1≤100000:=by omega
  have hsl:=Sl.cB hrow1.own
  clear hn1 hrow1 hfc
  go_wp2_with fail
  revert fi;revert hfi;revert hst;revert hm;revert sb;revert fr;refine bD ?_;intro fr sb hm hst hfi fi
  obtain⟨q1,q2,qi⟩:=bl sb fi
  refine aA sb fi 11 [] [0,1,2,3,4,5,6,7,8,9,10] [11] (by kernel_rfl) (by kernel_rfl) ?_
  refine af ?_;try simp only[ox]
  repeat(go_big_quiet_step (fail))
  refine wpQuiet_nil ?_
  refine ae _ _ _ (by kernel_rfl) ?_;try simp only[ox]
  clear qi q1 q2
  go_wp2_with fail
  have hsl2:=hsl.step (Nat.le_refl _) (Below.refl w1.heap.size w1).drew
  refine(cj hst bT.aQ A1 n1 cap1 _ hsl2 uw.out (by omega) ic yN.out).mono ?_;clear hst;rintro e w2 ⟨rfl,⟨C2,aG,hst⟩,hf⟩
  replace hfi:=hfi.mv hf aG (.inl hKf)
  revert ag fr sb hm fi;refine kx hf aG (ej c s) DL ?_;clear hf aG;intro ag fr sb hm fi
  clear hsl hsl2
  go_wp2_with fail
  refine NoPanic.normal ?_
  go_wp2_with fail
  refine(jQ _ _ hst sb).mono ?_
  rintro e w9 ⟨rfl,⟨C9,dC,bN⟩,bU⟩
  have fX:=ag.trans dC fr.size
  replace fr:=fr.trans (bU.mono (aR c s) kd) ag
  replace hm:=hm.mv bU dC (.inr ⟨by decide,by decide⟩)
  replace hst:=hst.mv bU dC (.inr (by decide))
  go_wp2_with fail
  go_ret
  exact⟨by rw[HST.out];rfl,⟨_,fX,by rw[HST.out];exact hm,by rw[HST.out];exact⟨hst,bN⟩⟩,fr⟩
theorem DU {d:aH} (_:c≠s) (_:s≠1) (hm:aj w C M m) (hst:al w C s sg M.L me t) (h:aX w C c s sg b M.L me d) (hf:d.Fine M m t) (h0:d.at_=8):Calls Tryz.prog 63 #[.pointer (some ⟨b,0,none⟩),.pointer (some ⟨M.b,0,none⟩)] w (MV C c s iI (.bool (ak M me m t d).1) M (ak M me m t d).2.1 (fun w' C'=>al w' C' s sg M.L me (ak M me m t d).2.2.1∧aX w' C' c s sg b M.L me (ak M me m t d).2.2.2) w):=by
 obtain⟨ph,pl,pe,pf,pa,pr,pi,pd,ps,sb,-,-,-,-,-,-,-,-,g8,-⟩:=h.ex
 obtain⟨bx,rfl,hgc⟩:=g8 h0
 have hmay:=hf.may
 have hlim:=hf.lim
 have hle:=hf.len
 have KA:=fun W C' (k1:aj W C' M m) (k2:oe W C' c bx M.L d.drop)=>nz k1 k2 (hf.drop h0)
 have LW:=fun W C' (k1:al W C' s sg M.L me t)=>v9 hm.ok k1
 obtain⟨r,hr⟩:∃ r,ey M m d.drop=r:=⟨_,rfl⟩
 simp only[hr] at KA
 obtain⟨r1,m',LY⟩:=r
 obtain⟨fu,hfu⟩:∃ fu,tZ M.L t=fu:=⟨_,rfl⟩
 have HST:Hid (ak M me m t d=if r1 then (!fu,m',t,{ d with drop:=LY,at_:=9,sweep:=none }) else (false,m',t,{ d with drop:=LY })):=Lib.hid (by unfold ak;simp only;rw[if_neg (by rw[h0];decide)];rw[if_neg (by rw[h0];decide)];rw[if_neg (by rw[h0];decide)];rw[if_neg (by rw[h0];decide)];rw[if_neg (by rw[h0];decide)];rw[if_neg (by rw[h0];decide)];rw[if_neg (by rw[h0];decide)];rw[if_neg (by rw[h0];decide)];rw[if_pos h0];simp only[hr,hfu])
 simp only[hfu] at LW
 unfold ep at sb
 clear hr hfu
 obtain⟨⟨rc,ro,rv⟩,slow,⟨sh,kind,key⟩,limit,at_,head,help,a5,fast,ann,find,drop,sweep⟩:=d
 simp only at sb h0 hgc HST KA
 subst h0
 clear h hf hle hmay hlim
 go_enter Tryz.func63,Tryz.ntmps63
 have fr:=Fr.refl C (dK c s) iI w
 have ag:=aB.refl w.heap.size C
 go_wp2_with fail
 refine(KA _ _ hm hgc).mono ?_;clear hm hgc;rintro e w1 ⟨rfl,hm,hgc,hf⟩
 revert hst;revert sb;revert fr;refine dS hf (eE c s) DJ ag ?_;clear hf;intro fr sb hst
 try dsimp only at hm hgc
 cases r1
 ·skip
  go_wp2_with fail
  go_ret
  exact⟨by rw[HST.out];rfl,⟨_,ag,by rw[HST.out];exact hm,by rw[HST.out];exact⟨hst,.LS sb rfl hgc⟩⟩,fr⟩
 ·skip
  go_wp2_with fail
  revert hgc;revert hst;revert hm;revert sb;revert fr;revert ag;refine fL (fE sg M.L s C c _) ?_;rintro w2 bw C2 ag fr hsw sb hm hst hgc
  have z1:=sb
  revert fr hsw hm hst hgc;refine st1 sb 9 (.int .i64 9) (aR c s) ag ?_;clear sb;rintro w3 e1 fr sb hsw hm hst hgc
  simp only[sx] at sb
  have z2:=sb
  revert fr hsw hm hst hgc;refine st1 sb 18 (.pointer (some ⟨bw,0,none⟩)) (aR c s) ag ?_;clear sb;rintro w4 e2 fr sb hsw hm hst hgc
  simp only[sx] at sb
  go_wp2_with fail
  clear z1 e1 z2 e2
  refine(LW _ _ hst).mono ?_;rintro e w5 ⟨rfl,hb5⟩
  revert fr hsw hm hst hgc sb;refine dX hb5 ?_;intro fr hsw hm hst hgc sb
  go_wp2_with fail
  go_ret
  exact⟨by rw[HST.out];rfl,⟨_,ag,by rw[HST.out];exact hm,by rw[HST.out];exact⟨hst,.LU sb rfl hsw⟩⟩,fr⟩
theorem DV {d:aH} (_:c≠s) (_:s≠1) (hm:aj w C M m) (hst:al w C s sg M.L me t) (h:aX w C c s sg b M.L me d) (hf:d.Fine M m t) (h0:d.at_=9):Calls Tryz.prog 63 #[.pointer (some ⟨b,0,none⟩),.pointer (some ⟨M.b,0,none⟩)] w (MV C c s iI (.bool (ak M me m t d).1) M (ak M me m t d).2.1 (fun w' C'=>al w' C' s sg M.L me (ak M me m t d).2.2.1∧aX w' C' c s sg b M.L me (ak M me m t d).2.2.2) w):=by
 obtain⟨ph,pl,pe,pf,pa,pr,pi,pd,ps,sb,-,-,-,-,-,-,-,-,-,g9⟩:=h.ex
 obtain⟨bx,rfl,hsw⟩:=g9 h0
 have hmay:=hf.may
 have hlim:=hf.lim
 have hle:=hf.len
 have Ex:=fun W C' (k1:aj W C' M m) (k2:al W C' s sg M.L me t) (k3:jJ W C' c s sg bx M.L d.sweep)=>oz k1 k2 k3 (by omega)
 obtain⟨r,hr⟩:∃ r,bK M m t d.sweep=r:=⟨_,rfl⟩
 simp only[hr] at Ex
 obtain⟨r1,m',t2,M1⟩:=r
 have HST:Hid (ak M me m t d=(r1,m',t2,{ d with sweep:=M1 })):=Lib.hid (by unfold ak;simp only;rw[if_neg (by rw[h0];decide)];rw[if_neg (by rw[h0];decide)];rw[if_neg (by rw[h0];decide)];rw[if_neg (by rw[h0];decide)];rw[if_neg (by rw[h0];decide)];rw[if_neg (by rw[h0];decide)];rw[if_neg (by rw[h0];decide)];rw[if_neg (by rw[h0];decide)];rw[if_neg (by rw[h0];decide)];simp only[hr])
 unfold ep at sb
 clear hr
 obtain⟨⟨rc,ro,rv⟩,slow,⟨sh,kind,key⟩,limit,at_,head,help,a5,fast,ann,find,drop,sweep⟩:=d
 simp only at sb h0 hsw HST Ex
 subst h0
 clear h hf hle hmay hlim
 go_enter Tryz.func63,Tryz.ntmps63
 have fr:=Fr.refl C (dK c s) iI w
 have ag:=aB.refl w.heap.size C
 go_wp2_with fail
 refine(Ex _ _ hm hst hsw).mono ?_;clear hm hst hsw;rintro e w1 ⟨rfl,⟨C1,aG,hm,hst,hsw⟩,hf⟩
 revert sb;revert fr;revert ag;refine kx hf aG (fun _ h=>h) DK ?_;clear hf aG;intro ag fr sb
 try dsimp only at hm hst hsw
 go_wp2_with fail
 go_ret
 exact⟨by rw[HST.out];rfl,⟨_,ag,by rw[HST.out];exact hm,by rw[HST.out];exact⟨hst,.LU sb rfl hsw⟩⟩,fr⟩
theorem zc {d:aH} (h:aX w C c s sg b M.L me d) (hmay:d.task.may=true) (hq0:0≤d.at_) (hq:d.at_≤3) (HB:∀ W,Below w.heap.size w W→Calls Tryz.prog 62 #[.pointer (some ⟨b,0,none⟩),.pointer (some ⟨M.b,0,none⟩)] W (MV C c s iI (.tuple #[]) M (ak M me m t d).2.1 (fun w' C'=>al w' C' s sg M.L me (ak M me m t d).2.2.1∧aX w' C' c s sg b M.L me (ak M me m t d).2.2.2) W)):Calls Tryz.prog 52 #[.pointer (some ⟨b,0,none⟩),.pointer (some ⟨M.b,0,none⟩)] w (MV C c s iI (.bool (ak M me m t d).1) M (ak M me m t d).2.1 (fun w' C'=>al w' C' s sg M.L me (ak M me m t d).2.2.1∧aX w' C' c s sg b M.L me (ak M me m t d).2.2.2) w):=by
 obtain⟨ph,pl,pe,pf,pa,pr,pi,pd,ps,sb,-⟩:=h.ex
 have hr1:(ak M me m t d).1=false:=by
  unfold ak;simp only
  rcases(by omega:d.at_=0∨d.at_=1∨d.at_=2∨d.at_=3) with h0 | h0 | h0 | h0
  ·rw[if_pos h0]
  ·rw[if_neg (by omega),if_pos h0]
  ·rw[if_neg (by omega),if_neg (by omega),if_pos h0]
  ·rw[if_neg (by omega),if_neg (by omega),if_neg (by omega),if_pos h0]
 obtain⟨r,hr⟩:∃ r,ak M me m t d=r:=⟨_,rfl⟩
 rw[hr] at HB hr1⊢
 have HR:∀ W,Calls Tryz.prog 57 #[.int .i64 d.task.sh,.agg #[.int .i64 d.task.kind,.int .i64 d.task.key]] W fun e w'=>e= .returned (.bool true)∧Below W.heap.size W w':=fun W=>(bW d.task.sh d.task.kind d.task.key W).mono fun e w' h=>⟨h.1.trans (by rw[show Proofs.YtbcnnhlpilmmbaaGreat.may d.task.sh ⟨d.task.kind,d.task.key⟩=true from hmay]),h.2⟩
 have dq:decide (d.at_<4)=true:=decide_eq_true (by omega)
 unfold ep at sb
 clear hr h hmay
 rw[hr1]
 obtain⟨⟨rc,ro,rv⟩,slow,⟨sh,kind,key⟩,limit,at_,head,help,a5,fast,ann,find,drop,sweep⟩:=d
 simp only at sb HR dq hq
 go_enter Tryz.func52,Tryz.ntmps52
 have fr:=Fr.refl C (fun _=>False) [] w
 have ag:=aB.refl w.heap.size C
 go_wp2_with fail
 revert sb;revert fr;refine bD ?_;intro fr sb
 obtain⟨q1,qi⟩:=aV sb
 refine ar sb 10 [] [0,1,2,3,4,5,6,7,8,9] [10,11] (by kernel_rfl) (by kernel_rfl) ?_
 refine af ?_;try simp only[ox]
 repeat(go_big_quiet_step (fail))
 refine wpQuiet_nil ?_
 refine ae _ _ _ (by kernel_rfl) ?_;try simp only[ox]
 clear qi q1
 go_wp2_with fail
 refine(HR _).mono ?_
 rintro e w2 ⟨rfl,hb2⟩
 replace fr:=fr.step hb2
 replace sb:=sb.step hb2
 have hc:=sb.blk.cells
 have hfz:=sb.blk.frees
 go_wp2_with fail
 refine NoPanic.normal ?_
 go_wp2_with fail
 refine(HB w2 fr.b4).mono ?_
 rintro e w9 ⟨rfl,⟨C9,dC,jC,bN⟩,bU⟩
 have hbl:=fr.b4
 go_wp2_with fail
 go_ret
 exact⟨rfl,⟨C9,fun g hg=>dC g (Nat.lt_of_lt_of_le hg hbl.size),jC,bN⟩,(Fr.of_below hbl C (dK c s) iI).eX bU⟩
theorem zd {d:aH} (h:aX w C c s sg b M.L me d) (hmay:d.task.may=true) (hq:4≤d.at_) (HB:∀ W,Below w.heap.size w W→Calls Tryz.prog 63 #[.pointer (some ⟨b,0,none⟩),.pointer (some ⟨M.b,0,none⟩)] W (MV C c s iI (.bool (ak M me m t d).1) M (ak M me m t d).2.1 (fun w' C'=>al w' C' s sg M.L me (ak M me m t d).2.2.1∧aX w' C' c s sg b M.L me (ak M me m t d).2.2.2) W)):Calls Tryz.prog 52 #[.pointer (some ⟨b,0,none⟩),.pointer (some ⟨M.b,0,none⟩)] w (MV C c s iI (.bool (ak M me m t d).1) M (ak M me m t d).2.1 (fun w' C'=>al w' C' s sg M.L me (ak M me m t d).2.2.1∧aX w' C' c s sg b M.L me (ak M me m t d).2.2.2) w):=by
 obtain⟨ph,pl,pe,pf,pa,pr,pi,pd,ps,sb,-⟩:=h.ex
 obtain⟨r,hr⟩:∃ r,ak M me m t d=r:=⟨_,rfl⟩
 rw[hr] at HB⊢
 have HR:∀ W,Calls Tryz.prog 57 #[.int .i64 d.task.sh,.agg #[.int .i64 d.task.kind,.int .i64 d.task.key]] W fun e w'=>e= .returned (.bool true)∧Below W.heap.size W w':=fun W=>(bW d.task.sh d.task.kind d.task.key W).mono fun e w' h=>⟨h.1.trans (by rw[show Proofs.YtbcnnhlpilmmbaaGreat.may d.task.sh ⟨d.task.kind,d.task.key⟩=true from hmay]),h.2⟩
 have dq:decide (d.at_<4)=false:=decide_eq_false (by omega)
 unfold ep at sb
 clear hr h hmay
 obtain⟨⟨rc,ro,rv⟩,slow,⟨sh,kind,key⟩,limit,at_,head,help,a5,fast,ann,find,drop,sweep⟩:=d
 simp only at sb HR dq hq
 go_enter Tryz.func52,Tryz.ntmps52
 have fr:=Fr.refl C (fun _=>False) [] w
 have ag:=aB.refl w.heap.size C
 go_wp2_with fail
 revert sb;revert fr;refine bD ?_;intro fr sb
 obtain⟨q1,qi⟩:=aV sb
 refine ar sb 10 [] [0,1,2,3,4,5,6,7,8,9] [10,11] (by kernel_rfl) (by kernel_rfl) ?_
 refine af ?_;try simp only[ox]
 repeat(go_big_quiet_step (fail))
 refine wpQuiet_nil ?_
 refine ae _ _ _ (by kernel_rfl) ?_;try simp only[ox]
 clear qi q1
 go_wp2_with fail
 refine(HR _).mono ?_
 rintro e w2 ⟨rfl,hb2⟩
 replace fr:=fr.step hb2
 replace sb:=sb.step hb2
 have hc:=sb.blk.cells
 have hfz:=sb.blk.frees
 go_wp2_with fail
 refine NoPanic.normal ?_
 go_wp2_with fail
 refine(HB w2 fr.b4).mono ?_
 rintro e w9 ⟨rfl,⟨C9,dC,jC,bN⟩,bU⟩
 have hbl:=fr.b4
 go_wp2_with fail
 go_ret
 exact⟨rfl,⟨C9,fun g hg=>dC g (Nat.lt_of_lt_of_le hg hbl.size),jC,bN⟩,(Fr.of_below hbl C (dK c s) iI).eX bU⟩
theorem td {d:aH} (hcs:c≠s) (hs1:s≠1) (hm:aj w C M m) (hst:al w C s sg M.L me t) (h:aX w C c s sg b M.L me d) (hf:d.Fine M m t):Calls Tryz.prog 52 #[.pointer (some ⟨b,0,none⟩),.pointer (some ⟨M.b,0,none⟩)] w (MV C c s iI (.bool (ak M me m t d).1) M (ak M me m t d).2.1 (fun w' C'=>al w' C' s sg M.L me (ak M me m t d).2.2.1∧aX w' C' c s sg b M.L me (ak M me m t d).2.2.2) w):=by
 have hat:=hf.at_
 by_cases hq:d.at_≤3
 ·refine zc h hf.may hat.1 hq (fun W hb=> ?_)
  have hm':=hm.step hb
  have hst':=hst.step hb
  have h':=h.step hb
  rcases(by omega:d.at_=0∨d.at_=1∨d.at_=2∨d.at_=3) with h0 | h0 | h0 | h0
  ·exact y7 hcs hs1 hm' hst' h' hf h0
  ·exact y8 hcs hs1 hm' hst' h' hf h0
  ·exact y9 hcs hs1 hm' hst' h' hf h0
  ·exact za hcs hs1 hm' hst' h' hf h0
 ·refine zd h hf.may (by omega) (fun W hb=> ?_)
  have hm':=hm.step hb
  have hst':=hst.step hb
  have h':=h.step hb
  rcases(by omega:d.at_=4∨d.at_=5∨d.at_=6∨d.at_=7∨d.at_=8∨d.at_=9) with h0 | h0 | h0 | h0 | h0 | h0
  ·exact DP hcs hs1 hm' hst' h' hf h0
  ·exact DQ hcs hs1 hm' hst' h' hf h0
  ·exact DS hcs hs1 hm' hst' h' hf h0
  ·exact DT hcs hs1 hm' hst' h' hf h0
  ·exact DU hcs hs1 hm' hst' h' hf h0
  ·exact DV hcs hs1 hm' hst' h' hf h0
end Go.Proofs.YtbcnnhlpilmmbaaGreat
