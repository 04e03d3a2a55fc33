/- Texts that are wanted for PTopFull.
   Conditions: none. -/
import Derived.Test.YtbcnnhlpilmmbaaGreatJPTopFull12
set_option maxRecDepth 100000
set_option maxHeartbeats 6400000
namespace Go.Proofs.YtbcnnhlpilmmbaaGreat
open Go Go.RowKit
structure oU (L:Ly) (p:dw):Prop where
 old:p.now=false→(0≤p.old∧p.old<18446744073709551616)∧(aE p.old).next≤L.nd
 addr:p.now=false→1≤p.addr∧p.addr≤L.nd+4
 next:p.now=false→0≤p.next∧p.next≤L.nd
 val:0≤p.res.val∧p.res.val<1024
 pops:0≤p.pops∧p.pops≤L.nd
 code:p.res.code=0∨p.res.code=4
variable {L:Ly}
theorem xR (hL:L.Ok) (ok:Bool):oU L (told ok):=by
 have:=hL.nd
 exact⟨fun h=>by simp[told] at h,fun h=>by simp[told] at h,fun h=>by simp[told] at h,by simp[told],by simp only[told];omega,.inl rfl⟩
theorem xS (hL:L.Ok) {p:Pos} (hp:oK L p) {n:Int} (hn:0≤n∧n≤L.nd):oU L (p.link n):=by
 have:=hL.nd
 exact⟨fun _=>hp.pw,fun _=>hp.pred,fun _=>hn,by simp[Pos.link],by simp only[Pos.link];omega,.inl rfl⟩
theorem xT (hL:L.Ok) {p:Pos} (hp:oK L p) (hc:p.curr≠0):oU L p.mark:=by
 have:=hL.nd
 have h1:=hp.curr
 have h2:=(bG p.cw).next
 exact⟨fun _=>hp.cw,fun _=>by simp only[Pos.mark];omega,fun _=>⟨h2.1,hp.cw.2⟩,by simp[Pos.mark],by simp only[Pos.mark];omega,.inl rfl⟩
theorem Dk (hL:L.Ok) {p:Pos} (hp:oK L p) (t:bq):oU L (p.take t):=by
 have hk:=(bG p.cw).key
 have h2:=(bG p.cw).next
 have h1:=hp.curr
 unfold Pos.take
 split
 ·exact xR hL false
 ·rename_i hc
  split
  ·have h3:=xS hL hp (n:=(aE p.cw).next) ⟨h2.1,hp.cw.2⟩
   exact⟨h3.old,h3.addr,h3.next,hk,h1,.inl rfl⟩
  ·have h3:=xT hL hp hc
   exact⟨h3.old,h3.addr,h3.next,hk,h3.pops,.inl rfl⟩
theorem xU (hL:L.Ok) {p:Pos} (hp:oK L p) (t:bq) {n:Int} (hn:0≤n∧n≤L.nd):oU L (aw t p n):=by
 unfold aw
 split
 ·exact xS hL hp hn
 ·split
  ·rename_i h
   refine xT hL hp ?_
   have:=h.2
   unfold Pos.found at this
   simp only[Bool.and_eq_true,decide_eq_true_eq] at this
   exact this.1
  ·split
   ·exact Dk hL hp t
   ·exact xR hL _
theorem yO (hL:L.Ok) {p:dw} (h:oU L p):(aE p.word).next≤L.nd∧(0≤p.word∧p.word<18446744073709551616):=by
 have hn:=hL.nd
 cases hw:p.now with
 | true=>
  unfold dw.word
  rw[if_pos hw]
  exact⟨ia L hL,by omega⟩
 | false=>
  have h1:=h.next hw
  unfold dw.word
  rw[if_neg (by rw[hw];decide)]
  refine⟨?_,dO _⟩
  rw[gU (Wd.tA (Wd.m0 (bG _) (by omega) (by omega)))]
  exact h1.2
theorem rE (hL:L.Ok) {p:dw} (h:oU L p) (hw:p.now=false) {x:Int} (hs:(getD' x).status=1):gF L x (p.desc (getD' x).aM)∧(0≤p.desc (getD' x).aM∧p.desc (getD' x).aM<18446744073709551616)∧getD' (p.desc (getD' x).aM)=⟨(getD' x).aM,p.addr,(aE p.old).ver,p.next,p.mark,2,p.res.val⟩:=by
 have hn:=hL.nd
 have h1:=h.next hw
 have h2:=h.addr hw
 have h3:=(bG p.old).ver
 have h4:=(cX x).aM
 have e:getD' (p.desc (getD' x).aM)=⟨(getD' x).aM,p.addr,(aE p.old).ver,p.next,p.mark,2,p.res.val⟩:=by
  unfold dw.desc
  rw[if_neg (by rw[hw];decide)]
  exact dH ⟨h4,by simp only;omega,h3,by simp only;omega,by simp,h.val⟩
 refine⟨⟨⟨by rw[e];simp,fun _ _=>by rw[e];exact⟨h2,h1.2⟩⟩,.inl ⟨hs,by rw[e],.inl (by rw[e])⟩⟩,?_,e⟩
 unfold dw.desc
 rw[if_neg (by rw[hw];decide)]
 exact dN _
structure yP (L:Ly) (x:bL):Prop where
 u:0≤x.u∧x.u<L.th
 at_:0≤x.at_∧x.at_≤9
 val:1≤x.at_→yw L x.found
 s2:1≤x.at_→x.at_≤4→(getD' x.found).status=2
 s3:5≤x.at_→x.at_≤7→(getD' x.found).status=3
 s4:8≤x.at_→(getD' x.found).status=4
 gives:x.at_=9→1≤(getD' x.found).next∧(getD' x.found).next≤L.nd
 word:x.at_=2∨x.at_=6→(aE x.word).next≤L.nd
theorem Fx {u:Int} (hu:0≤u∧u<L.th) (t:bq) (aM:Int):yP L (.new u t aM)∧(0≤(bL.new u t aM).popped∧(bL.new u t aM).popped≤0):=
 ⟨⟨hu,by simp[bL.new],fun h=>by simp[bL.new] at h,fun h=>by simp[bL.new] at h,fun h=>by simp[bL.new] at h,fun h=>by simp[bL.new] at h,fun h=>by simp[bL.new] at h,fun h=>by simp[bL.new] at h⟩,by simp[bL.new]⟩
theorem sY {x:Int} {u n:Int} {k:Bool} (hu:0≤u∧u<31) (hn:0≤n∧n<512):(aE (eU ((aE x).claimed u n k))).next=n:=by rw[gU (Wd.m0 (bG x) hu hn)];rfl
variable {M:ML} {m:Mm}
theorem Dl {x:bL} (hL:M.L.Ok) (hm:ff M m) (h:yP M.L x) (hp:0≤x.popped∧x.popped≤M.L.nd):
  Safe M m (bu M m x).2.1∧((bu M m x).1=false→yP M.L (bu M m x).2.2)∧(0≤(bu M m x).2.2.popped∧(bu M m x).2.2.popped≤M.L.nd):=by
 have hn:=hL.nd
 have hth:=hL.th
 obtain⟨hu,hat,hv,h2,h3,h4,hg,hw⟩:=h
 have hf:=cX x.found
 have hwf:=bG x.word
 unfold bu
 simp only
 split
 ·
  have hd:=hm.desc x.u hu.1 hu.2
  refine⟨.refl hm,fun e=> ?_,?_⟩
  ·unfold bL.load at e⊢
   split at e
   ·simp at e
   ·rename_i c1
    rw[if_neg c1]
    split at e
    ·rename_i c2
     rw[if_pos c2]
     exact⟨hu,by simp,fun _=>hd,fun _ _=>c2,fun a=>by simp at a,fun a=>by simp at a,fun a=>by simp at a,fun a=>by simp at a⟩
    ·rename_i c2
     rw[if_neg c2]
     split at e
     ·rename_i c3
      rw[if_pos c3]
      exact⟨hu,by simp,fun _=>hd,fun _ b=>by simp at b,fun _ _=>c3,fun a=>by simp at a,fun a=>by simp at a,fun a=>by simp at a⟩
     ·rename_i c3
      rw[if_neg c3]
      split at e
      ·rename_i c4
       rw[if_pos c4]
       exact⟨hu,by simp,fun _=>hd,fun _ b=>by simp at b,fun _ b=>by simp at b,fun _=>c4,fun a=>by simp at a,fun a=>by simp at a⟩
      ·simp at e
  ·unfold bL.load
   split
   ·exact hp
   ·split
    ·exact hp
    ·split
     ·exact hp
     ·split<;>exact hp
 ·split
  ·
   rename_i c0 c1
   have hd:=hv (by omega)
   have hs:=h2 (by omega) (by omega)
   have ha:=(hd.at_ (by omega) (by omega)).1
   refine⟨.refl hm,fun _=> ?_,hp⟩
   have hwn:=hm.word _ ha.1 ha.2
   unfold bL.look
   refine⟨hu,?_,fun _=>hd,fun _ _=>hs,fun a=> ?_,fun a=> ?_,fun a=> ?_,fun _=>hwn⟩
   ·simp only;split
    ·omega
    ·split<;>omega
   ·simp only at a;split at a
    ·omega
    ·split at a<;>omega
   ·simp only at a;split at a
    ·omega
    ·split at a<;>omega
   ·simp only at a;split at a
    ·omega
    ·split at a<;>omega
  ·split
   ·
    rename_i c0 c1 c2
    have hd:=hv (by omega)
    have hs:=h2 (by omega) (by omega)
    have ha:=hd.at_ (by omega) (by omega)
    have hwn:=hw (.inl c2)
    refine⟨gd hm (dO _) hL (by omega) (by rw[sY (by omega) hf.next];exact ha.2),fun e=>by simp at e,?_⟩
    split
    ·have:=hwf.next
     exact⟨this.1,hwn⟩
    ·exact hp
   ·split
    ·rename_i c0 c1 c2 c3
     have hd:=hv (by omega)
     have hs:=h2 (by omega) (by omega)
     exact⟨fg hm (dN _) hL hu (kQ hd hs 3 (.inl rfl)),fun e=>by simp at e,hp⟩
    ·split
     ·rename_i c0 c1 c2 c3 c4
      have hd:=hv (by omega)
      have hs:=h2 (by omega) (by omega)
      exact⟨fg hm (dN _) hL hu (kQ hd hs 4 (.inr rfl)),fun e=>by simp at e,hp⟩
     ·split
      ·rename_i c0 c1 c2 c3 c4 c5
       have hd:=hv (by omega)
       have hs:=h3 (by omega) (by omega)
       have ha:=(hd.at_ (by omega) (by omega)).1
       have hwn:=hm.word _ ha.1 ha.2
       refine⟨.refl hm,fun _=> ?_,hp⟩
       unfold bL.look
       refine⟨hu,?_,fun _=>hd,fun a b=> ?_,fun _ _=>hs,fun a=> ?_,fun a=> ?_,fun _=>hwn⟩
       ·simp only;split
        ·omega
        ·split<;>omega
       ·simp only at a b;split at b
        ·omega
        ·split at b<;>omega
       ·simp only at a;split at a
        ·omega
        ·split at a<;>omega
       ·simp only at a;split at a
        ·omega
        ·split at a<;>omega
      ·split
       ·rename_i c0 c1 c2 c3 c4 c5 c6
        have hd:=hv (by omega)
        have hs:=h3 (by omega) (by omega)
        have ha:=(hd.at_ (by omega) (by omega)).1
        exact⟨gd hm (dO _) hL (by omega) (by rw[ry];exact hw (.inr c6)),fun _=>⟨hu,by simp,fun _=>hd,fun a b=>by simp at b,fun _ _=>hs,fun a=>by simp at a,fun a=>by simp at a,fun a=>by simp at a⟩,hp⟩
       ·split
        ·rename_i c0 c1 c2 c3 c4 c5 c6 c7
         exact⟨fg hm (dN _) hL hu (vT (h3 (by omega) (by omega))),fun e=>by simp at e,hp⟩
        ·split
         ·rename_i c0 c1 c2 c3 c4 c5 c6 c7 c8
          have hs:=h4 (by omega)
          refine⟨fg hm (dN _) hL hu (vU hs),fun e=> ?_,hp⟩
          simp only[Bool.or_eq_false_iff,Bool.not_eq_false'] at e
          have m5:=e.2.2
          unfold Ly.node at m5
          simp only[Bool.and_eq_true,decide_eq_true_eq] at m5
          exact⟨hu,by simp,fun _=>hv (by omega),fun a b=>by simp at b,fun a b=>by simp at b,fun _=>hs,fun _=>m5,fun a=>by simp at a⟩
         ·have c9:x.at_=9:=by omega
          have:=hg c9
          exact⟨ua hm hL this,fun e=>by simp at e,hp⟩
variable {w:World} {C:Nat→Nat} {c s sg b:Nat} {me:Int} {t:cV}
theorem uB {f:bj} (hL:L.Ok) (hcs:c≠s) (hst:al w C s sg L me t) (h:cO w C c sg b L f) (h0:f.at_=0) (hok:f.Ok 400000) (hfo:f.find.Ok 100000) (hle:t.ret.length≤99000):Calls Tryz.prog 114 #[.pointer (some ⟨b,0,none⟩)] w (OW C (dK c s) qb (.bool (f.sought t).1) (fun w' C'=>al w' C' s sg L me (f.sought t).2.1∧cO w' C' c sg b L (f.sought t).2.2) w):=by
 cases ho:f.over f.find.tries with
 | true=>exact mL hL hcs hst h h0 hok hfo hle ho
 | false=>
  cases hn0:(aw f.task f.find.pos t.spare).now with
  | true=>exact nL hL hcs hst h h0 hok hfo hle ho hn0
  | false=>
   cases hcl:(aw f.task f.find.pos t.spare).claimed with
   | true=>exact oR hL hcs hst h h0 hok hfo hle ho hn0 hcl
   | false=>
    cases hlk:f.task.links with
    | true=>exact oS hL hcs hst h h0 hok hfo hle ho hn0 hcl hlk
    | false=>exact oT hL hcs hst h h0 hok hfo hle ho hn0 hcl hlk
def rF:List (Option TypeId):=[some 187,some 137,some 3,some 157,some 230,some 236,some 75,some 34]
theorem wF:∀ x,x∈LM→x∈rF:=by decide
theorem Dm:∀ x,x∈oE→x∈rF:=by decide
theorem Dn:∀ x,x∈zB→x∈rF:=by decide
theorem Dp:∀ x,x∈GJ→x∈rF:=by decide
theorem xV:∀ x,x∈qb→x∈rF:=by decide
theorem uC:∀ x,x∈[some 187]→x∈rF:=by decide
theorem qI {f:bj} (_:c≠s) (_:s≠1) (hm:aj w C M m) (hst:al w C s sg M.L me t) (h:cO w C c sg b M.L f) (hok:f.Ok 400000) (_:t.ret.length≤98000) (h0:f.at_=0) (ho:(f.task.links && decide (t.spare=0))=true):Calls Tryz.prog 75 #[.pointer (some ⟨b,0,none⟩),.pointer (some ⟨M.b,0,none⟩)] w (MW C c s rF M (aJ M me m t f).1 (aJ M me m t f).2.1 (fun w' C'=>al w' C' s sg M.L me (aJ M me m t f).2.2.1∧cO w' C' c sg b M.L (aJ M me m t f).2.2.2) w):=by
 obtain⟨pf,pc,pp,sb,h1,h2,h3⟩:=h.ex
 obtain⟨bf,rfl,hfi⟩:=h1 h0
 have Fy:=fun W C' (k1:al W C' s sg M.L me t) (k2:fw W C' c sg b (.pointer (some ⟨bf,0,none⟩)) pc pp f)=>uA k1 k2 hok.may
 rw[ho] at Fy
 unfold fw at sb
 obtain⟨⟨rc,ro,rv⟩,failed,tries,⟨sh,kind,key⟩,most,at_,⟨g0,⟨g1,g2,g3⟩,g4,g5,g6,g7,g8⟩,find,cl,aD⟩:=f
 simp only at sb h0 hfi Fy ho
 subst h0
 have HST:Hid (aJ M me m t (⟨⟨rc,ro,rv⟩,failed,tries,⟨sh,kind,key⟩,most,0,⟨g0,⟨g1,g2,g3⟩,g4,g5,g6,g7,g8⟩,find,cl,aD⟩:bj)=(true,m,t,(⟨⟨rc,ro,rv⟩,true,tries,⟨sh,kind,key⟩,most,0,⟨g0,⟨g1,g2,g3⟩,g4,g5,g6,g7,g8⟩,find,cl,aD⟩:bj))):=Lib.hid (by unfold aJ;simp only;rw[if_pos trivial,if_pos ho])
 clear ho h h1 h2 h3
 go_enter Tryz.func75,Tryz.ntmps75
 have fr:=Fr.refl C (dK c s) rF w
 have ag:=aB.refl w.heap.size C
 go_wp2_with fail
 refine(Fy _ _ hst sb).mono ?_;rintro e w1 ⟨rfl,hb1⟩
 revert hfi;revert hst;revert hm;revert sb;revert fr;refine dX hb1 ?_;intro fr sb hm hst hfi
 go_wp2_with fail
 refine(aP hm 0).mono ?_;clear hm;rintro e w2 ⟨rfl,hm,hf⟩
 revert fr sb hst hfi;refine dS hf (iY c s) wF ag ?_;clear hf;intro fr sb hst hfi
 have z1:=sb
 revert hm hst hfi;revert fr;refine st1 sb 4 (.bool true) (aR c s) ag ?_;clear sb;rintro w3 e1 fr sb hm hst hfi
 simp only[sx] at sb
 go_wp2_with fail
 clear z1 e1
 go_ret
 exact⟨by rw[HST.out];rfl,⟨_,ag,by rw[HST.out];exact hm,by rw[HST.out];exact⟨hst,⟨_,_,_,sb,fun _=>⟨bf,rfl,hfi⟩,fun h=>by simp at h,fun h=>by simp at h⟩⟩⟩,fr⟩
theorem oV {f:bj} (hcs:c≠s) (hs1:s≠1) (hm:aj w C M m) (hst:al w C s sg M.L me t) (h:cO w C c sg b M.L f) (hok:f.Ok 400000) (hle:t.ret.length≤98000) (h0:f.at_=0) (ho:(f.task.links && decide (t.spare=0))=false) (hfo:f.find.Ok 100000) (hfa:0≤f.find.at_∧f.find.at_≤6) (eV:(ax M m f.find).2.2.Ok 100000):Calls Tryz.prog 75 #[.pointer (some ⟨b,0,none⟩),.pointer (some ⟨M.b,0,none⟩)] w (MW C c s rF M (aJ M me m t f).1 (aJ M me m t f).2.1 (fun w' C'=>al w' C' s sg M.L me (aJ M me m t f).2.2.1∧cO w' C' c sg b M.L (aJ M me m t f).2.2.2) w):=by
 obtain⟨pf,pc,pp,sb,h1,h2,h3⟩:=h.ex
 obtain⟨bf,rfl,hfi⟩:=h1 h0
 have Fy:=fun W C' (k1:al W C' s sg M.L me t) (k2:fw W C' c sg b (.pointer (some ⟨bf,0,none⟩)) pc pp f)=>uA k1 k2 hok.may
 have hKs:¬ Kc c s:=fun e=>e.elim (fun e=>hcs e.symm) hs1
 have A9:=fun W C' (k1:aj W C' M m) (k2:eK W C' c bf M.L f.find)=>mH k1 k2 hfo hfa
 rw[ho] at Fy
 obtain⟨r,hr⟩:∃ r,ax M m f.find=r:=⟨_,rfl⟩
 simp only[hr] at A9 eV
 obtain⟨r1,m',Ke⟩:=r
 have Kf:=fun W C' (k1:al W C' s sg M.L me t) (k2:cO W C' c sg b M.L { f with find:=Ke })=>uB hm.ok hcs k1 k2 h0 ⟨hok.may,hok.tries,hok.most⟩ eV (by omega)
 obtain⟨so,hso⟩:∃ so,bj.sought t { f with find:=Ke }=so:=⟨_,rfl⟩
 simp only[hso] at Kf
 have HST:Hid (aJ M me m t f=if r1 then (so.1,m',so.2.1,so.2.2) else (false,m',t,{ f with find:=Ke })):=Lib.hid (by unfold aJ;simp only;rw[if_pos h0,if_neg (by rw[ho];decide)];simp only[hr,hso])
 unfold fw at sb
 clear hso hr
 obtain⟨⟨rc,ro,rv⟩,failed,tries,⟨sh,kind,key⟩,most,at_,⟨g0,⟨g1,g2,g3⟩,g4,g5,g6,g7,g8⟩,find,cl,aD⟩:=f
 simp only at sb h0 hfi Fy ho Kf HST A9
 subst h0
 clear ho h h1 h2 h3 hok
 go_enter Tryz.func75,Tryz.ntmps75
 have fr:=Fr.refl C (dK c s) rF w
 have ag:=aB.refl w.heap.size C
 go_wp2_with fail
 refine(Fy _ _ hst sb).mono ?_;rintro e w1 ⟨rfl,hb1⟩
 revert hfi;revert hst;revert hm;revert sb;revert fr;refine dX hb1 ?_;intro fr sb hm hst hfi
 go_wp2_with fail
 refine(A9 _ _ hm hfi).mono ?_;clear hm hfi;rintro e w2 ⟨rfl,⟨C2,aG,hm,hfi⟩,hf⟩
 replace hst:=hst.mv hf aG (.inl hKs)
 revert ag fr sb;refine kx hf aG (eE c s) Dm ?_;clear hf aG;intro ag fr sb
 try dsimp only at hm hfi
 cases r1
 ·skip
  go_wp2_with fail
  go_ret
  exact⟨by rw[HST.out];rfl,⟨_,ag,by rw[HST.out];exact hm,by rw[HST.out];exact⟨hst,⟨_,_,_,sb,fun _=>⟨bf,rfl,hfi⟩,fun h=>by simp at h,fun h=>by simp at h⟩⟩⟩,fr⟩
 ·skip
  go_wp2_with fail
  refine(Kf _ _ hst ⟨_,_,_,sb,fun _=>⟨bf,rfl,hfi⟩,fun h=>by simp at h,fun h=>by simp at h⟩).mono ?_
  rintro e w9 ⟨rfl,⟨C9,dC,Ba,bN⟩,bU⟩
  have fX:=ag.trans dC fr.size
  replace fr:=fr.trans (bU.mono (fun _ h=>h) xV) ag
  replace hm:=hm.mv bU dC (.inr ⟨by decide,by decide⟩)
  go_wp2_with fail
  go_ret
  exact⟨by rw[HST.out];rfl,⟨_,fX,by rw[HST.out];exact hm,by rw[HST.out];exact⟨Ba,bN⟩⟩,fr⟩
theorem wG {f:bj} (_:c≠s) (_:s≠1) (hm:aj w C M m) (hst:al w C s sg M.L me t) (h:cO w C c sg b M.L f) (hok:f.Ok 400000) (_:t.ret.length≤98000) (h0:f.at_=1):Calls Tryz.prog 75 #[.pointer (some ⟨b,0,none⟩),.pointer (some ⟨M.b,0,none⟩)] w (MW C c s rF M (aJ M me m t f).1 (aJ M me m t f).2.1 (fun w' C'=>al w' C' s sg M.L me (aJ M me m t f).2.2.1∧cO w' C' c sg b M.L (aJ M me m t f).2.2.2) w):=by
 obtain⟨pf,pc,pp,sb,h1,h2,h3⟩:=h.ex
 obtain⟨bc,rfl,hcl⟩:=h2 h0
 have zF:=fun W C' (k1:aj W C' M m) (k2:gl W C' c bc M.L f.cl)=>kL k1 k2
 obtain⟨r,hr⟩:∃ r,bz M m f.cl=r:=⟨_,rfl⟩
 simp only[hr] at zF
 obtain⟨r1,m',Hz⟩:=r
 have Fz:=fun W C' (k1:al W C' s sg M.L me t) (k2:cO W C' c sg b M.L { f with cl:=Hz })=>oP hm.ok k1 k2 ⟨hok.may,⟨hok.tries.1,by have:=hok.tries.2;simp only;omega⟩,hok.most⟩
 obtain⟨so,hso⟩:∃ so,bj.again M.L me { f with cl:=Hz }=so:=⟨_,rfl⟩
 simp only[hso] at Fz
 have HST:Hid (aJ M me m t f=if r1 then (so.1,m',t,so.2) else (false,m',t,{ f with cl:=Hz })):=Lib.hid (by unfold aJ;simp only;rw[if_neg (by rw[h0];decide),if_pos h0];simp only[hr,hso])
 unfold fw at sb
 clear hso hr
 obtain⟨⟨rc,ro,rv⟩,failed,tries,⟨sh,kind,key⟩,most,at_,⟨g0,⟨g1,g2,g3⟩,g4,g5,g6,g7,g8⟩,find,cl,aD⟩:=f
 simp only at sb h0 hcl Fz HST zF
 subst h0
 clear h h1 h2 h3 hok
 go_enter Tryz.func75,Tryz.ntmps75
 have fr:=Fr.refl C (dK c s) rF w
 have ag:=aB.refl w.heap.size C
 go_wp2_with fail
 refine(zF _ _ hm hcl).mono ?_;clear hm hcl;rintro e w1 ⟨rfl,hm,hcl,hf⟩
 revert hst;revert sb;revert fr;refine dS hf (eE c s) Dn ag ?_;clear hf;intro fr sb hst
 try dsimp only at hm hcl
 cases r1
 ·skip
  go_wp2_with fail
  go_ret
  exact⟨by rw[HST.out];rfl,⟨_,ag,by rw[HST.out];exact hm,by rw[HST.out];exact⟨hst,⟨_,_,_,sb,fun h=>by simp at h,fun _=>⟨bc,rfl,hcl⟩,fun h=>by simp at h⟩⟩⟩,fr⟩
 ·skip
  go_wp2_with fail
  refine(Fz _ _ hst ⟨_,_,_,sb,fun h=>by simp at h,fun _=>⟨bc,rfl,hcl⟩,fun h=>by simp at h⟩).mono ?_
  rintro e w9 ⟨rfl,⟨C9,dC,bN⟩,bU⟩
  have fX:=ag.trans dC fr.size
  replace fr:=fr.trans (bU.mono (aR c s) uC) ag
  replace hm:=hm.mv bU dC (.inr ⟨by decide,by decide⟩)
  replace hst:=hst.mv bU dC (.inr (by decide))
  go_wp2_with fail
  go_ret
  exact⟨by rw[HST.out];rfl,⟨_,fX,by rw[HST.out];exact hm,by rw[HST.out];exact⟨hst,bN⟩⟩,fr⟩
theorem wH {f:bj} (_:c≠s) (_:s≠1) (hm:aj w C M m) (hst:al w C s sg M.L me t) (h:cO w C c sg b M.L f) (hok:f.Ok 400000) (_:t.ret.length≤98000) (h0:f.at_=2) (hk:0≤f.aD.key):Calls Tryz.prog 75 #[.pointer (some ⟨b,0,none⟩),.pointer (some ⟨M.b,0,none⟩)] w (MW C c s rF M (aJ M me m t f).1 (aJ M me m t f).2.1 (fun w' C'=>al w' C' s sg M.L me (aJ M me m t f).2.2.1∧cO w' C' c sg b M.L (aJ M me m t f).2.2.2) w):=by
 obtain⟨pf,pc,pp,sb,h1,h2,h3⟩:=h.ex
 obtain⟨bp,rfl,hpr⟩:=h3 h0
 have FA:=fun W C' (k1:aj W C' M m) (k2:al W C' s sg M.L me t) (k3:jK W C' c sg bp f.aD)=>lH k1 k2 k3 hk
 obtain⟨r,hr⟩:∃ r,dh M m t f.aD=r:=⟨_,rfl⟩
 simp only[hr] at FA
 obtain⟨r1,m',Kg⟩:=r
 have HST:Hid (aJ M me m t f=(false,m',t,{ f with aD:=Kg,at_:=if r1 then 3 else 2 })):=Lib.hid (by unfold aJ;simp only;rw[if_neg (by rw[h0];decide),if_neg (by rw[h0];decide),if_pos h0];simp only[hr])
 unfold fw at sb
 clear hr
 obtain⟨⟨rc,ro,rv⟩,failed,tries,⟨sh,kind,key⟩,most,at_,⟨g0,⟨g1,g2,g3⟩,g4,g5,g6,g7,g8⟩,find,cl,aD⟩:=f
 simp only at sb h0 hpr HST FA
 subst h0
 clear h h1 h2 h3 hok
 go_enter Tryz.func75,Tryz.ntmps75
 have fr:=Fr.refl C (dK c s) rF w
 have ag:=aB.refl w.heap.size C
 go_wp2_with fail
 refine(FA _ _ hm hst hpr).mono ?_;clear hm hpr;rintro e w1 ⟨rfl,hm,hpr,hf⟩
 revert hst;revert sb;revert fr;refine dS hf (eE c s) Dp ag ?_;clear hf;intro fr sb hst
 try dsimp only at hm hpr
 cases r1
 ·skip
  go_wp2_with fail
  go_ret
  exact⟨by rw[HST.out];rfl,⟨_,ag,by rw[HST.out];exact hm,by rw[HST.out];exact⟨hst,⟨_,_,_,sb,fun h=>by simp at h,fun h=>by simp at h,fun _=>⟨bp,rfl,hpr⟩⟩⟩⟩,fr⟩
 ·skip
  have z1:=sb
  revert hpr;revert hst;revert hm;revert fr;refine st1 sb 10 (.int .i64 3) (aR c s) ag ?_;clear sb;rintro w2 e1 fr sb hm hst hpr
  simp only[sx] at sb
  go_wp2_with fail
  clear z1 e1
  go_ret
  exact⟨by rw[HST.out];rfl,⟨_,ag,by rw[HST.out];exact hm,by rw[HST.out];exact⟨hst,⟨_,_,_,sb,fun h=>by simp at h,fun h=>by simp at h,fun h=>by simp at h⟩⟩⟩,fr⟩
theorem mM {f:bj} (_:c≠s) (_:s≠1) (hm:aj w C M m) (hst:al w C s sg M.L me t) (h:cO w C c sg b M.L f) (hok:f.Ok 400000) (_:t.ret.length≤98000) (h0:f.at_=3) (hold:0≤f.plan.old∧f.plan.old<18446744073709551616) (hpp:0≤f.plan.pops∧f.plan.pops≤1000) (hq:bS M m f.plan.addr f.plan.old=false):Calls Tryz.prog 75 #[.pointer (some ⟨b,0,none⟩),.pointer (some ⟨M.b,0,none⟩)] w (MW C c s rF M (aJ M me m t f).1 (aJ M me m t f).2.1 (fun w' C'=>al w' C' s sg M.L me (aJ M me m t f).2.2.1∧cO w' C' c sg b M.L (aJ M me m t f).2.2.2) w):=by
 obtain⟨pf,pc,pp,sb,-,-,-⟩:=h.ex
 have Dq:=fun W=>rB f.plan hold W
 have hwr:0≤f.plan.word∧f.plan.word<18446744073709551616:=by
  unfold dw.word
  split
  ·omega
  ·have:=fA ((aE f.plan.old).claimed 0 f.plan.next f.plan.mark).free;omega
 obtain⟨x,hx⟩:∃ x,f.plan.word=x:=⟨_,rfl⟩
 simp only[hx] at Dq hwr
 have HQ:=Lib.hid hq
 have HJ:=Lib.hid (A4 (x:=x) hq)
 have Fz:=fun W C' (k1:al W C' s sg M.L me t) (k2:cO W C' c sg b M.L f)=>oP hm.ok k1 k2 ⟨hok.may,⟨hok.tries.1,by have:=hok.tries.2;omega⟩,hok.most⟩
 obtain⟨so,hso⟩:∃ so,bj.again M.L me f=so:=⟨_,rfl⟩
 simp only[hso] at Fz
 have HST:Hid (aJ M me m t f=(so.1,m,t,so.2)):=Lib.hid (by unfold aJ;rw[if_neg (by rw[h0];decide),if_neg (by rw[h0];decide),if_neg (by rw[h0];decide),if_neg (by rw[hq];decide),hso])
 clear hso
 unfold fw at sb
 clear hq hx hok h
 obtain⟨⟨rc,ro,rv⟩,failed,tries,⟨sh,kind,key⟩,most,at_,⟨g0,⟨g1,g2,g3⟩,g4,g5,g6,g7,g8⟩,find,cl,aD⟩:=f
 simp only at sb h0 hold hpp HQ HST Dq Fz HJ
 subst h0
 simp only[dw.val] at Dq
 go_enter Tryz.func75,Tryz.ntmps75
 have fr:=Fr.refl C (dK c s) rF w
 have ag:=aB.refl w.heap.size C
 go_wp2_with fail
 revert hst;revert hm;revert sb;revert fr;refine bD ?_;intro fr sb hm hst
 obtain⟨q1,qi⟩:=aV sb
 refine ar sb 16 [] [0,1,2,3,4,5,6,7,8,9,10,11,12,13,14] [15,16,17] (by kernel_rfl) (by kernel_rfl) ?_
 refine af ?_;try simp only[ox]
 repeat(go_big_quiet_step (fail))
 refine wpQuiet_nil ?_
 refine ay rfl (fun K' hK'=> ?_);go_simp
 revert fr sb hm hst;with_reducible refine bk (Dq _) ?_;rintro e w1 rfl fr sb hm hst
 refine hK' _ _ (bZ sb) ?_;clear hK' K'
 refine ae _ _ _ (by kernel_rfl) ?_;try simp only[ox]
 clear qi q1
 go_wp2_with fail
 refine(fq hm g4 g5 x hwr).mono ?_;clear hm;rintro e w2 ⟨rfl,hm,hf⟩
 rw[HQ.out]
 revert fr sb hst;refine dS hf (iY c s) wF ag ?_;clear hf;intro fr sb hst
 rw[HJ.out] at hm
 go_wp2_with fail
 refine NoPanic.normal ?_
 go_wp2_with fail
 refine(Fz _ _ hst ⟨_,_,_,sb,fun h=>by simp at h,fun h=>by simp at h,fun h=>by simp at h⟩).mono ?_
 rintro e w9 ⟨rfl,⟨C9,dC,bN⟩,bU⟩
 have fX:=ag.trans dC fr.size
 replace fr:=fr.trans (bU.mono (aR c s) uC) ag
 replace hm:=hm.mv bU dC (.inr ⟨by decide,by decide⟩)
 replace hst:=hst.mv bU dC (.inr (by decide))
 go_wp2_with fail
 go_ret
 exact⟨by rw[HST.out];rfl,⟨_,fX,by rw[HST.out];exact hm,by rw[HST.out];exact⟨hst,bN⟩⟩,fr⟩
theorem nM {f:bj} (_:c≠s) (_:s≠1) (hm:aj w C M m) (hst:al w C s sg M.L me t) (h:cO w C c sg b M.L f) (_:f.Ok 400000) (hle:t.ret.length≤98000) (h0:f.at_=3) (hold:0≤f.plan.old∧f.plan.old<18446744073709551616) (hpp:0≤f.plan.pops∧f.plan.pops≤1000) (hq:bS M m f.plan.addr f.plan.old=true):Calls Tryz.prog 75 #[.pointer (some ⟨b,0,none⟩),.pointer (some ⟨M.b,0,none⟩)] w (MW C c s rF M (aJ M me m t f).1 (aJ M me m t f).2.1 (fun w' C'=>al w' C' s sg M.L me (aJ M me m t f).2.2.1∧cO w' C' c sg b M.L (aJ M me m t f).2.2.2) w):=by
 obtain⟨pf,pc,pp,sb,-,-,-⟩:=h.ex
 have Dq:=fun W=>rB f.plan hold W
 have hwr:0≤f.plan.word∧f.plan.word<18446744073709551616:=by
  unfold dw.word
  split
  ·omega
  ·have:=fA ((aE f.plan.old).claimed 0 f.plan.next f.plan.mark).free;omega
 obtain⟨x,hx⟩:∃ x,f.plan.word=x:=⟨_,rfl⟩
 simp only[hx] at Dq hwr
 have HQ:=Lib.hid hq
 have LG:=fun W C' (k1:al W C' s sg M.L me t) (k2:fw W C' c sg b pf pc pp f)=>yM k1 k2 (by omega) hpp
 have HST:Hid (aJ M me m t f=(true,cas M m f.plan.addr f.plan.old x,t.did f.task f.plan,{ f with res:=f.plan.res })):=Lib.hid (by unfold aJ;rw[if_neg (by rw[h0];decide),if_neg (by rw[h0];decide),if_neg (by rw[h0];decide),if_pos hq,hx])
 unfold fw at sb
 clear hq hx h
 obtain⟨⟨rc,ro,rv⟩,failed,tries,⟨sh,kind,key⟩,most,at_,⟨g0,⟨g1,g2,g3⟩,g4,g5,g6,g7,g8⟩,find,cl,aD⟩:=f
 simp only at sb h0 hold hpp HQ HST Dq LG
 subst h0
 simp only[dw.val] at Dq
 go_enter Tryz.func75,Tryz.ntmps75
 have fr:=Fr.refl C (dK c s) rF w
 have ag:=aB.refl w.heap.size C
 go_wp2_with fail
 revert hst;revert hm;revert sb;revert fr;refine bD ?_;intro fr sb hm hst
 obtain⟨q1,qi⟩:=aV sb
 refine ar sb 16 [] [0,1,2,3,4,5,6,7,8,9,10,11,12,13,14] [15,16,17] (by kernel_rfl) (by kernel_rfl) ?_
 refine af ?_;try simp only[ox]
 repeat(go_big_quiet_step (fail))
 refine wpQuiet_nil ?_
 refine ay rfl (fun K' hK'=> ?_);go_simp
 revert fr sb hm hst;with_reducible refine bk (Dq _) ?_;rintro e w1 rfl fr sb hm hst
 refine hK' _ _ (bZ sb) ?_;clear hK' K'
 refine ae _ _ _ (by kernel_rfl) ?_;try simp only[ox]
 clear qi q1
 go_wp2_with fail
 refine(fq hm g4 g5 x hwr).mono ?_;clear hm;rintro e w2 ⟨rfl,hm,hf⟩
 rw[HQ.out]
 revert fr sb hst;refine dS hf (iY c s) wF ag ?_;clear hf;intro fr sb hst
 go_wp2_with fail
 refine NoPanic.normal ?_
 go_wp2_with fail
 refine(LG _ _ hst sb).mono ?_
 rintro e w9 ⟨rfl,⟨C9,dC,Ba,bN⟩,bU⟩
 have fX:=ag.trans dC fr.size
 replace fr:=fr.trans (bU.mono (fun _ h=>h) xV) ag
 replace hm:=hm.mv bU dC (.inr ⟨by decide,by decide⟩)
 go_wp2_with fail
 go_ret
 exact⟨by rw[HST.out];rfl,⟨_,fX,by rw[HST.out];exact hm,by rw[HST.out];exact⟨Ba,⟨_,_,_,bN,fun h=>by simp at h,fun h=>by simp at h,fun h=>by simp at h⟩⟩⟩,fr⟩
structure H7 (C:Nat→Nat) (c:Nat) (LX:List (Option TypeId)) (P:World→(Nat→Nat)→Nat→Prop) (w:World) (e:Ending) (w':World):Prop where
 ex:∃ b C',e= .returned (.pointer (some ⟨b,0,none⟩))∧aB w.heap.size C C'∧P w' C' b
 fr:Fr C (K0 c) LX w w'
theorem Bb (hL:L.Ok) (hst:al w C s sg L me t) (k:bq) (most:Int) (hmay:k.may=true) (hmo:0≤most∧most≤1000):Calls Tryz.prog 150 #[.pointer (some ⟨sg,0,none⟩),k.val,.int .i64 most] w (H7 C c [some 187] (fun w' C' b=>cO w' C' c sg b L (.new L me k most)) w):=by
 obtain⟨C1,tt⟩:∃ C1,C1=a9 C w.heap.size c:=⟨_,rfl⟩
 have nT:aB w.heap.size C C1:=by rw[tt];exact aB.a9 _ _ _
 have hnew:C1 (w.heap.size+1)=c:=by rw[tt];exact aO C c (by omega)
 have Jx:=fun W b (k1:al W C1 s sg L me t) (k2:fw W C1 c sg b (.pointer none) (.pointer none) (.pointer none) ⟨⟨0,false,0⟩,false,0,k,most,0,.zero,.new L 0 0 0 0,.new 0,.new 0 0⟩)=>rC hL k1 k2 ⟨hmay,by simp,hmo⟩
 have HST:Hid (bj.new L me k most=bj.kn L me ⟨⟨0,false,0⟩,false,0,k,most,0,.zero,.new L 0 0 0 0,.new 0,.new 0 0⟩):=Lib.hid rfl
 obtain⟨sh,kind,key⟩:=k
 clear tt
 go_enter Tryz.func150,Tryz.ntmps150
 go_wp2_with fail
 have hb0:Below w.heap.size w (w.alloc (.cells #[.int .i64 sh,.int .i64 kind,.int .i64 key] 85)):=(Below.refl _ _).alloc (Nat.le_refl _) _
 have hb1:=hb0.alloc (by simp) (.cells #[.pointer (some ⟨sg,0,none⟩),.int .i64 0,.bool false,.int .i64 0,.bool false,.int .i64 0,.int .i64 sh,.int .i64 kind,.int .i64 key,.int .i64 most,.int .i64 0,.bool false,.int .i64 0,.bool false,.int .i64 0,.int .i64 0,.int .u64 0,.int .i64 0,.bool false,.int .i64 0,.pointer none,.pointer none,.pointer none] 187)
 have hst1:=(hst.nv nT).step hb1
 refine(Jx _ (w.heap.size+1) hst1 (SB.new _ C1 hnew 187 _ (by simp))).mono ?_
 rintro e w2 ⟨rfl,⟨C2,Bc,own⟩,hf⟩
 go_wp2_with fail
 go_ret
 exact⟨⟨w.heap.size+1,C2,rfl,nT.trans Bc hb1.size,by rw[HST.out];exact own⟩,(Fr.of_below hb1 C _ _).trans hf nT⟩
structure fN (w:World) (C:Nat→Nat) (c b:Nat) (L:Ly) (x:bL):Prop where
 blk:SB w C c b 224 #[.int .i64 L.th,.int .i64 L.nd,.int .i64 x.popped,.int .i64 x.gave,.int .i64 x.u,.int .i64 x.task.sh,.int .i64 x.task.kind,.int .i64 x.task.key,.bool true,.int .i64 x.aM,.int .i64 x.at_,.int .u64 x.found,.int .u64 x.word]
 found:0≤x.found∧x.found<18446744073709551616
 word:0≤x.word∧x.word<18446744073709551616
 u:0≤x.u∧x.u≤7
 popped:0≤x.popped∧x.popped≤1000
def LH:List (Option TypeId):=[some 224]
variable {w':World} {C':Nat→Nat} {K:Nat→Prop} {T:List (Option TypeId)}
theorem fN.mv {x:bL} (h:fN w C c b L x) (k:Fr C K T w w') (a:aB w.heap.size C C') (hk:¬ K c∨dr LH T):fN w' C' c b L x:=⟨h.blk.mv k a (hk.imp id (fun h=>h _ (by decide))),h.found,h.word,h.u,h.popped⟩
instance {w:World} {C:Nat→Nat} {c b:Nat} {L:Ly} {x:bL}:Mv (fN w C c b L x) w C LH (fun w' C'=>fN w' C' c b L x):=⟨fun h k a hk=>h.mv k a (.inr hk)⟩
def vE:List (Option TypeId):=[some 224,some 75,some 34]
theorem fO:∀ x,x∈LM→x∈vE:=by decide
structure Dr (C:Nat→Nat) (c b:Nat) (M:ML) (r:Bool×Mm×bL) (w:World) (e:Ending) (w':World):Prop where
 ret:e= .returned (.bool r.1)
 mem:aj w' C M r.2.1
 own:fN w' C c b M.L r.2.2
 fr:Fr C (Kc c) vE w w'
theorem js (v0 v1 v2 v3 v4 v5 v6:Value) (W:World):(Instr.field 161 (.agg #[v0,v1,v2,v3,v4,v5,v6]) 0).run Tryz.prog W= .ok v0 W:=by kernel_rfl
theorem uD (v0 v1 v2 v3 v4 v5 v6:Value) (W:World):(Instr.field 161 (.agg #[v0,v1,v2,v3,v4,v5,v6]) 1).run Tryz.prog W= .ok v1 W:=by kernel_rfl
theorem xW (v0 v1 v2 v3 v4 v5 v6:Value) (W:World):(Instr.field 161 (.agg #[v0,v1,v2,v3,v4,v5,v6]) 2).run Tryz.prog W= .ok v2 W:=by kernel_rfl
theorem uE (v0 v1 v2 v3 v4 v5 v6:Value) (W:World):(Instr.field 161 (.agg #[v0,v1,v2,v3,v4,v5,v6]) 5).run Tryz.prog W= .ok v5 W:=by kernel_rfl
theorem Dt (L:Ly) (u:Int) (t:bq) (aM:Int) (hu:0≤u∧u≤7) (C:Nat→Nat) (c:Nat) (w:World):Calls Tryz.prog 143 #[L.val,.int .i64 u,t.val,.int .i64 aM] w (kH C c (fun w' C' b=>fN w' C' c b L (.new u t aM)) w):=by
 obtain⟨th,nd⟩:=L
 obtain⟨sh,kind,key⟩:=t
 go_enter Tryz.func143,Tryz.ntmps143
 go_wp2_with fail
 have hb0:Below w.heap.size w (w.alloc (.cells #[.int .i64 th,.int .i64 nd] 31)):=(Below.refl _ _).alloc (Nat.le_refl _) _
 have hb1:=hb0.alloc (by simp) (.cells #[.int .i64 sh,.int .i64 kind,.int .i64 key] 85)
 go_ret
 exact⟨⟨w.heap.size+2,rfl,by omega,⟨SB.new _ _ (aO C c (by omega)) _ _ (by simp),by simp[bL.new],by simp[bL.new],hu,by simp[bL.new]⟩⟩,hb1.alloc (by simp<;>omega) _⟩
theorem cg {x:bL} (h:fN w C c b L x):Calls Tryz.prog 179 #[.pointer (some ⟨b,0,none⟩)] w fun e w'=>e= .returned (getD' x.found).vals∧Below w.heap.size w w':=by
 obtain⟨popped,gave,u,⟨sh,kind,key⟩,aM,at_,found,word⟩:=x
 obtain⟨sb,hfd,hwd,hu,hpop⟩:=h
 simp only at sb hfd hwd hu hpop
 have HG:=fun W=>fC found W hfd
 obtain⟨D,hD⟩:∃ D,getD' found=D:=⟨_,rfl⟩
 simp only[hD] at HG⊢
 obtain⟨da,dd,dv,dn,dm,ds,dl⟩:=D
 simp only[Ds.vals] at HG⊢
 have hl:=sb.lt
 clear hD
 go_enter Tryz.func179,Tryz.ntmps179
 have fr:=Fr.refl C (fun _=>False) [] w
 have ag:=aB.refl w.heap.size C
 have z1:=sb
 revert sb;revert fr;refine bx1 161 #[.int .i64 0,.int .i64 0,.int .i64 0,.int .i64 0,.bool false,.int .i64 0,.int .i64 0] ?_;rintro w1 FB Kh fr dz sb
 go_wp2_with fail
 clear FB z1
 revert fr dz sb;refine bk (HG _) ?_;rintro e w2 rfl fr dz sb
 have z2:=And.intro sb dz
 have hR:=ko
 revert fr sb;refine gO dz [(0,.int .i64 da),(1,.int .i64 dd),(2,.int .i64 dv),(3,.int .i64 dn),(4,.bool dm),(5,.int .i64 ds),(6,.int .i64 dl)] ?_;clear dz;rintro w3 e1 fr dz sb
 simp only[stx,sx] at e1 dz
 go_wp2_with fail
 clear z2 e1 hR
 refine bodyPost_ret (v:= .agg #[.int .i64 da,.int .i64 dd,.int .i64 dv,.int .i64 dn,.bool dm,.int .i64 ds,.int .i64 dl]) (by simp[results,Tryz.results179,go_sem,dz.1]) rfl ⟨rfl,fr.b4⟩
theorem kb {x:bL} (hm:aj w C M m) (h:fN w C c b M.L x) (d:Ds):Calls Tryz.prog 184 #[.pointer (some ⟨b,0,none⟩),.pointer (some ⟨M.b,0,none⟩),d.vals] w (Dr C c b M (bS M m (M.L.desc x.u) x.found,cas M m (M.L.desc x.u) x.found (cL d),x) w):=by
 obtain⟨popped,gave,u,⟨sh,kind,key⟩,aM,at_,found,word⟩:=x
 obtain⟨sb,hfd,hwd,hu,hpop⟩:=h
 simp only at sb hfd hwd hu hpop
 have HP:=j8 d _ rfl
 have hxr:=gV d
 obtain⟨y,hy⟩:∃ y,cL d=y:=⟨_,rfl⟩
 rw[hy] at HP hxr⊢
 have qu:0≤y∧y<18446744073709551616:=by omega
 obtain⟨da,dd,dv,dn,dm,ds,dl⟩:=d
 simp only[Ds.vals] at HP⊢
 clear hy
 go_enter Tryz.func184,Tryz.ntmps184
 have fr:=Fr.refl C (Kc c) vE w
 have ag:=aB.refl w.heap.size C
 have z1:=sb
 revert hm;revert sb;revert fr;refine bx1 161 #[.int .i64 da,.int .i64 dd,.int .i64 dv,.int .i64 dn,.bool dm,.int .i64 ds,.int .i64 dl] ?_;rintro w1 FB Kh fr dz sb hm
 go_wp2_with fail
 clear FB z1
 revert fr dz sb hm;refine bk (HP _) ?_;rintro e w2 ⟨ec,rfl⟩ fr dz sb hm
 go_wp2_with fail
 revert fr dz sb hm;refine bD ?_;intro fr dz sb hm
 obtain⟨q1,q2,qi⟩:=bl sb dz
 refine aA sb dz 15 [] [0,1,2,3,4,5,6,7,8,10,11,12,13,14] [9,15,16] (by kernel_rfl) (by kernel_rfl) ?_
 refine af ?_;try simp only[ox]
 repeat(go_big_quiet_step (fail))
 refine wpQuiet_nil ?_
 refine ay rfl (fun K' hK'=> ?_);go_simp
 ((with_reducible refine(cC M.L hm.ok u (by omega) _).mono ?_);rintro e w3 ⟨rfl,hb3⟩)
 revert fr dz sb hm;refine dX hb3 ?_;intro fr dz sb hm
 refine hK' _ _ (eJ sb dz) ?_;clear hK' K'
 refine ae _ _ _ (by kernel_rfl) ?_;try simp only[ox]
 clear qi q1 q2
 go_wp2_with fail
 refine(fq hm (M.L.desc u) found y qu).mono ?_;clear hm;rintro e w4 ⟨rfl,hm,hf⟩
 revert fr dz sb;refine dS hf (aS c) fO ag ?_;clear hf;intro fr dz sb
 go_wp2_with fail
 refine NoPanic.normal ?_
 go_wp2_with fail
 go_ret
 exact⟨rfl,hm,⟨sb,hfd,hwd,hu,hpop⟩,fr⟩
theorem uF {x:bL} (hm:aj w C M m) (h:fN w C c b M.L x) (W1:Wd):Calls Tryz.prog 182 #[.pointer (some ⟨b,0,none⟩),.pointer (some ⟨M.b,0,none⟩),W1.val] w (Dr C c b M (bS M m (getD' x.found).addr x.word,cas M m (getD' x.found).addr x.word (eU W1),x) w):=by
 obtain⟨popped,gave,u,⟨sh,kind,key⟩,aM,at_,found,word⟩:=x
 obtain⟨sb,hfd,hwd,hu,hpop⟩:=h
 simp only at sb hfd hwd hu hpop
 have HP:=hU W1 _ rfl
 have hxr:=fA W1
 obtain⟨y,hy⟩:∃ y,eU W1=y:=⟨_,rfl⟩
 rw[hy] at HP hxr⊢
 have qu:0≤y∧y<18446744073709551616:=by omega
 have HD:=fun (W:World) (k:SB W C c b 224 #[.int .i64 M.L.th,.int .i64 M.L.nd,.int .i64 popped,.int .i64 gave,.int .i64 u,.int .i64 sh,.int .i64 kind,.int .i64 key,.bool true,.int .i64 aM,.int .i64 at_,.int .u64 found,.int .u64 word])=>cg (x:=⟨popped,gave,u,⟨sh,kind,key⟩,aM,at_,found,word⟩) ⟨k,hfd,hwd,hu,hpop⟩
 obtain⟨D,hD⟩:∃ D,getD' found=D:=⟨_,rfl⟩
 simp only[hD] at HD⊢
 have hfl:∀ W,(Instr.field 161 D.vals 1).run Tryz.prog W= .ok (.int .i64 D.addr) W:=fun W=>uD _ _ _ _ _ _ _ W
 obtain⟨k1,k2,k3,k4,k5⟩:=W1
 simp only[Wd.val] at HP⊢
 clear hy hD
 go_enter Tryz.func182,Tryz.ntmps182
 have fr:=Fr.refl C (Kc c) vE w
 have ag:=aB.refl w.heap.size C
 have z1:=sb
 revert hm;revert sb;revert fr;refine bx1 198 #[.int .i64 k1,.int .i64 k2,.bool k3,.int .i64 k4,.int .i64 k5] ?_;rintro w1 FB Kh fr dz sb hm
 go_wp2_with fail
 clear FB z1
 revert fr dz sb hm;refine bk (HP _) ?_;rintro e w2 ⟨ec,rfl⟩ fr dz sb hm
 go_wp2_with fail
 revert fr dz sb hm;refine bD ?_;intro fr dz sb hm
 obtain⟨q1,q2,qi⟩:=bl sb dz
 refine aA sb dz 9 [([0,1,4,5,6,7,8],2)] [3] [9,10] (by kernel_rfl) (by kernel_rfl) ?_
 refine ai ?_;simp only[ox];repeat(go_big_quiet_step (fail))
 refine di rfl (fun K' hK'=> ?_);go_simp
 ((with_reducible refine(HD _ sb).mono ?_);rintro e w3 ⟨rfl,hb3⟩)
 revert fr dz sb hm;refine dX hb3 ?_;intro fr dz sb hm
 refine hK' _ _ (eJ sb dz) ?_;clear hK' K'
 refine af ?_;try simp only[ox]
 repeat(go_big_quiet_step (fail))
 refine wpQuiet_nil ?_
 refine ae _ _ _ (by kernel_rfl) ?_;try simp only[ox]
 clear qi q1 q2
 go_wp2_with fail
 refine(fq hm D.addr word y qu).mono ?_;clear hm;rintro e w4 ⟨rfl,hm,hf⟩
 revert fr dz sb;refine dS hf (aS c) fO ag ?_;clear hf;intro fr dz sb
 go_wp2_with fail
 refine NoPanic.normal ?_
 go_wp2_with fail
 go_ret
 exact⟨rfl,hm,⟨sb,hfd,hwd,hu,hpop⟩,fr⟩
end Go.Proofs.YtbcnnhlpilmmbaaGreat
