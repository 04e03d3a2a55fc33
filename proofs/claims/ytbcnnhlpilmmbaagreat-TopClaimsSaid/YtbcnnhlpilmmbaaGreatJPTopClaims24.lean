/- Texts that are wanted for PTopClaims.
   Conditions: none. -/
import Derived.Test.YtbcnnhlpilmmbaaGreatJPTopClaims23
set_option maxRecDepth 100000
set_option maxHeartbeats 6400000
namespace Go.Proofs.YtbcnnhlpilmmbaaGreat
open Go Go.RowKit
variable {w:World} {C:Nat→Nat}
theorem Row.put {c g n cap:Nat} {xs:List Int} (h:Row w C c 3 1 (.slice (some ⟨g,0,none⟩) n cap) n (cJ xs)) (i:Nat) (_:i<n) (v:Int):Row (w.setCell ⟨g,i,none⟩ (.int .i64 v)) C c 3 1 (.slice (some ⟨g,0,none⟩) n cap) n (cJ (xs.set i v)):=by
 refine⟨⟨by simpa [cJ] using h.own.1,?_⟩,h.col⟩
 rcases h.own.2 with ⟨h0,-⟩ | ⟨g',cap',cur,hv,hb,hg,hnc,hcm,hcs,htk⟩
 ·injection h0 with h0;cases h0
 ·injection hv with hv1 hv2 hv3
  injection hv1 with hv1
  injection hv1 with hv1
  subst hv1 hv3
  refine .inr ⟨g,cap,cur.setIfInBounds i (.int .i64 v),rfl,hb,bo.ar (t:=3) hg i _,hnc,hcm,by simpa using hcs,?_⟩
  rw[Array.toList_setIfInBounds,List.take_set,htk]
  simp[cJ,List.map_set]
theorem Row.GJ {c g n cap:Nat} {xs:List Int} (h:Row w C c 3 1 (.slice (some ⟨g,0,none⟩) n cap) n (cJ xs)):∃ cur,SB w C c g 3 cur∧∀ i,i<n→cur[i]? =(cJ xs)[i]? :=by
 obtain⟨-,cs,hb⟩:=bM h.own g rfl
 refine⟨cs,SB.mk hb (h.col g rfl),fun i hi=> ?_⟩
 have h1:=(Sl.de h.own).cell i (by omega)
 rw[←hb.cell i];simpa [bZ,cP] using h1
def dw.stop (x:dw) (r:Bool×Mm×cg×aI):dw:=if r.1 then { x with st:=r.2.2.1,now:=none,ended:=x.ended+1 } else { x with st:=r.2.2.1,now:=some r.2.2.2 }
def lQ.x6 (r:lQ):Value:= .agg #[.int .i64 r.code,.bool r.ok,.int .i64 r.val]
def dw.tells (r:Bool×Mm×cg×aI):lQ:=if r.1 then r.2.2.2.res else ⟨0,false,0⟩
structure WsW (C:Nat→Nat) (c s k q sg b:Nat) (M:ML) (me:Int) (x:dw) (r:Bool×Mm×cg×aI) (w:World) (e:Ending) (w':World):Prop where
 ret:e= .returned (.tuple #[(dw.tells r).x6,.bool r.1])
 own:∃ C',aF w.heap.size C C'∧aj w' C' M r.2.1∧jq w' C' c s k q sg b M.L me (x.stop r)
 fr:Fr C (Kw c s k q) I3 w w'
theorem qj {c s k q sg b:Nat} {M:ML} {m:Mm} {me:Int} {x:dw} {d:aI} (hm:aj w C M m) (h:jq w C c s k q sg b M.L me x) (b8:x.now=some d) (hlt:x.ended<x.tasks.length) (hf:d.Fine M m x.st)
  (hcs:c≠s) (hs1:s≠1) (hkc:k≠c) (hks:k≠s) (hk1:k≠1) (hkq:k≠q) (hqc:q≠c) (AR:q≠s) (hq1:q≠1) (hq:(al M me m x.st d).1=false):Calls Tryz.prog 33 #[.pointer (some ⟨b,0,none⟩),.pointer (some ⟨M.b,0,none⟩)] w (WsW C c s k q sg b M me x (al M me m x.st d) w):=by
 obtain⟨hst,A,n,cap,pn,tv,lv,⟨sb,hlen,hsm,hle,hsr,⟨n1,xs,hrow,hxl,hn1⟩,⟨n2,ys,aP,hyl,hn2⟩⟩,hpn⟩:=h
 obtain⟨stt,tasks,en,now⟩:=x
 simp only at hst sb hlen hle hsr hn1 hn2 hpn b8 hlt hf hq⊢
 subst b8
 obtain⟨bd,rfl,hdo⟩:=hpn
 simp only[Option.isSome_some,if_true] at hn1
 obtain⟨A1,cap1,rfl,hnc,hnil,hA1⟩:=hrow.form
 obtain⟨a1,rfl⟩:∃ a1,A1=some a1:=by
  cases A1 with
  | none=>exact absurd (hnil rfl).1 (by omega)
  | some a1=>exact⟨a1,rfl⟩
 obtain⟨g1,hg1⟩:∃ g1,a1=⟨g1,0,none⟩:=⟨_,hA1 a1 rfl⟩
 subst hg1
 have hi1:en<n1:=by omega
 have hL1:en+1≤n:=by omega
 have hL2:n2≤en+1:=by omega
 have hL3:n2+1≤en+1:=by omega
 obtain⟨cur,gO,hcur⟩:=hrow.GJ
 obtain⟨t0,ht0⟩:∃ t0,xs[en]? =some t0:=⟨_,List.getElem?_eq_getElem (by omega)⟩
 have f0:cur[en]? =some (.int .i64 t0):=by rw[hcur en hi1,jd,ht0];rfl
 have hidx:=(Sl.de hrow.own).idx (P:=Tryz.prog) (c:=cap1) Tryz.underlying89 jc hi1
 simp only[bZ,cP,Option.map_some,Option.getD_some,Nat.zero_add,Nat.mul_one] at hidx
 have hps:=hrow.put en hi1 (wrap64 (t0+1))
 have Ft:=fun W C' (k1:aj W C' M m) (k2:aq W C' s sg M.L me stt) (k3:a6 W C' c s sg bd M.L me d)=>tU hcs hs1 k1 k2 k3 hf
 obtain⟨r,hr⟩:∃ r,al M me m stt d=r:=⟨_,rfl⟩
 simp only[hr] at Ft hq⊢
 obtain⟨r1,m',t2,d2⟩:=r
 simp only at hq
 subst hq
 have GG:¬ K0 k c:=fun e=>hkc e.symm
 have CB:¬ K0 k s:=fun e=>hks e.symm
 have GH:¬ K0 k q:=fun e=>hkq e.symm
 have Lx:¬ K0 q k:=fun e=>hkq e
 have Lz:¬ K0 q c:=fun e=>hqc e.symm
 have Km:¬ K0 q s:=fun e=>AR e.symm
 have I4:¬ ef c s k:=fun e=>e.elim hkc (fun e=>e.elim hks hk1)
 have I5:¬ ef c s q:=fun e=>e.elim hqc (fun e=>e.elim AR hq1)
 have HN:=Lib.hid hn1
 have HX:=Lib.hid hxl
 have hnn:n2≤100000:=by omega
 clear hr hcur hn1 hxl hnc hnil hA1 ht0 hf hlt hps
 go_enter Tryz.func33,Tryz.ntmps33
 have fr:=Fr.refl C (Kw c s k q) I3 w
 have ag:=aF.refl w.heap.size C
 have z1:=And.intro sb gO
 revert gO;revert hdo;revert hsr;revert aP;revert hrow;revert hst;revert hm;revert sb;revert fr;refine bx1 49 #[.int .i64 0,.bool false,.int .i64 0] ?_;rintro w1 I6 MM fr rc sb hm hst hrow aP hsr hdo gO
 go_wp2_with fail
 clear I6 z1
 revert fr rc sb hm hst hrow aP hsr hdo gO;refine bK ?_;intro fr rc sb hm hst hrow aP hsr hdo gO
 obtain⟨q1,q2,qi⟩:=bD sb gO
 refine aC sb gO 12 [] [0,1,2,3,4,5,6,7,8,9,10,11] [12] (by kernel_rfl) (by kernel_rfl) ?_
 refine af ?_;try simp only[ox]
 repeat(go_big_quiet_step (fail))
 refine wpQuiet_nil ?_
 refine ae _ _ _ (by kernel_rfl) ?_;try simp only[ox]
 clear qi q1 q2
 have hf':=gO.sV en (.int .i64 (wrap64 (t0+1)))
 have hsv:SB (w1.setCell ⟨g1,en,none⟩ (.int .i64 (wrap64 (t0+1)))).drew C k b 91 #[.pointer (some ⟨sg,0,none⟩),.slice A n cap,.int .i64 (en:Int),.pointer (some ⟨bd,0,none⟩),.slice (some ⟨g1,0,none⟩) n1 cap1,lv]:=sb.fr hf' (.inr (by decide))
 have CC:=hsv.blk.cells
 have vL:=hsv.blk.frees
 go_wp2_with fail
 clear CC vL
 replace sb:=hsv
 clear hsv
 replace fr:=fr.trans (hf'.mono (qh c s k q) (by decide)) ag
 replace hst:=hst.fr hf' (.inl CB)
 replace hrow:=hrow.put en hi1 (wrap64 (t0+1))
 replace aP:=aP.fr hf' (.inl GH)
 replace hsr:=hsr.fr hf' (.inr (by decide))
 replace hdo:=hdo.fr hf' (.inl ⟨GG,CB⟩)
 replace rc:=rc.fr hf' (.inr (by decide))
 replace hm:=hm.fr hf' (.inl (fun e=>hk1 e.symm))
 clear hf' gO f0
 rw[oY] at fr hst hrow aP hsr hdo rc hm
 generalize(w1.setCell ⟨g1,en,none⟩ (.int .i64 (wrap64 (t0+1)))).drew=w2 at *
 refine NoPanic.normal ?_
 go_wp2_with fail
 refine(Ft _ _ hm hst hdo).mono ?_;clear hm hst hdo;rintro e w3 ⟨rfl,⟨C3,aG,hm,hst,hdo⟩,hf⟩
 replace hrow:=hrow.mv hf aG (.inl I4)
 replace aP:=aP.mv hf aG (.inl I5)
 revert rc;revert hsr;revert sb;revert fr;revert ag;refine kV hf aG (Cz c s k q) tW ?_;clear hf aG;intro ag fr sb hsr rc
 try dsimp only at hm hst hdo
 have z2:=And.intro sb rc
 have hR:=kQ
 revert hdo;revert hsr;revert aP;revert hrow;revert hst;revert hm;revert sb;revert fr;refine ia rc [(0,.int .i64 0),(1,.bool false),(2,.int .i64 0)] ?_;clear rc;rintro w4 e1 fr rc sb hm hst hrow aP hsr hdo
 simp only[stx,sx] at e1 rc
 go_wp2_with fail
 clear z2 e1 hR
 refine bodyPost_ret (v:= .tuple #[(dw.tells (false,m',t2,d2)).x6,.bool false]) (by simp[results,Tryz.results33,go_sem,rc.1,dw.tells,lQ.x6]) rfl ⟨rfl,⟨_,ag,hm,?_⟩,fr⟩
 exact⟨hst,A,n,cap,_,_,lv,⟨sb,hlen,hsm,hle,hsr,⟨n1,xs.set en (wrap64 (t0+1)),hrow,by simp[HX.out],by have:=HN.out;simp[dw.stop] at this⊢;omega⟩,⟨n2,ys,aP,hyl,hn2⟩⟩,bd,rfl,hdo⟩
theorem nj {c s k q sg b:Nat} {M:ML} {m:Mm} {me:Int} {x:dw} {d:aI} (hm:aj w C M m) (h:jq w C c s k q sg b M.L me x) (b8:x.now=some d) (hlt:x.ended<x.tasks.length) (hf:d.Fine M m x.st)
  (hcs:c≠s) (hs1:s≠1) (hkc:k≠c) (hks:k≠s) (hk1:k≠1) (hkq:k≠q) (hqc:q≠c) (AR:q≠s) (hq1:q≠1) (hq:(al M me m x.st d).1=true) (hsl:(al M me m x.st d).2.2.2.slow=false):Calls Tryz.prog 33 #[.pointer (some ⟨b,0,none⟩),.pointer (some ⟨M.b,0,none⟩)] w (WsW C c s k q sg b M me x (al M me m x.st d) w):=by
 obtain⟨hst,A,n,cap,pn,tv,lv,⟨sb,hlen,hsm,hle,hsr,⟨n1,xs,hrow,hxl,hn1⟩,⟨n2,ys,aP,hyl,hn2⟩⟩,hpn⟩:=h
 obtain⟨stt,tasks,en,now⟩:=x
 simp only at hst sb hlen hle hsr hn1 hn2 hpn b8 hlt hf hq hsl⊢
 subst b8
 obtain⟨bd,rfl,hdo⟩:=hpn
 simp only[Option.isSome_some,if_true] at hn1
 obtain⟨A1,cap1,rfl,hnc,hnil,hA1⟩:=hrow.form
 obtain⟨a1,rfl⟩:∃ a1,A1=some a1:=by
  cases A1 with
  | none=>exact absurd (hnil rfl).1 (by omega)
  | some a1=>exact⟨a1,rfl⟩
 obtain⟨g1,hg1⟩:∃ g1,a1=⟨g1,0,none⟩:=⟨_,hA1 a1 rfl⟩
 subst hg1
 have hi1:en<n1:=by omega
 have hL1:en+1≤n:=by omega
 have hL2:n2≤en+1:=by omega
 have hL3:n2+1≤en+1:=by omega
 obtain⟨cur,gO,hcur⟩:=hrow.GJ
 obtain⟨t0,ht0⟩:∃ t0,xs[en]? =some t0:=⟨_,List.getElem?_eq_getElem (by omega)⟩
 have f0:cur[en]? =some (.int .i64 t0):=by rw[hcur en hi1,jd,ht0];rfl
 have hidx:=(Sl.de hrow.own).idx (P:=Tryz.prog) (c:=cap1) Tryz.underlying89 jc hi1
 simp only[bZ,cP,Option.map_some,Option.getD_some,Nat.zero_add,Nat.mul_one] at hidx
 have hps:=hrow.put en hi1 (wrap64 (t0+1))
 have Ft:=fun W C' (k1:aj W C' M m) (k2:aq W C' s sg M.L me stt) (k3:a6 W C' c s sg bd M.L me d)=>tU hcs hs1 k1 k2 k3 hf
 obtain⟨r,hr⟩:∃ r,al M me m stt d=r:=⟨_,rfl⟩
 simp only[hr] at Ft hq hsl⊢
 obtain⟨r1,m',t2,d2⟩:=r
 simp only at hq hsl
 subst hq
 have GG:¬ K0 k c:=fun e=>hkc e.symm
 have CB:¬ K0 k s:=fun e=>hks e.symm
 have GH:¬ K0 k q:=fun e=>hkq e.symm
 have Lx:¬ K0 q k:=fun e=>hkq e
 have Lz:¬ K0 q c:=fun e=>hqc e.symm
 have Km:¬ K0 q s:=fun e=>AR e.symm
 have I4:¬ ef c s k:=fun e=>e.elim hkc (fun e=>e.elim hks hk1)
 have I5:¬ ef c s q:=fun e=>e.elim hqc (fun e=>e.elim AR hq1)
 have HN:=Lib.hid hn1
 have HX:=Lib.hid hxl
 have hnn:n2≤100000:=by omega
 clear hr hcur hn1 hxl hnc hnil hA1 ht0 hf hlt hps
 go_enter Tryz.func33,Tryz.ntmps33
 have fr:=Fr.refl C (Kw c s k q) I3 w
 have ag:=aF.refl w.heap.size C
 have z1:=And.intro sb gO
 revert gO;revert hdo;revert hsr;revert aP;revert hrow;revert hst;revert hm;revert sb;revert fr;refine bx1 49 #[.int .i64 0,.bool false,.int .i64 0] ?_;rintro w1 I6 MM fr rc sb hm hst hrow aP hsr hdo gO
 go_wp2_with fail
 clear I6 z1
 revert fr rc sb hm hst hrow aP hsr hdo gO;refine bK ?_;intro fr rc sb hm hst hrow aP hsr hdo gO
 obtain⟨q1,q2,qi⟩:=bD sb gO
 refine aC sb gO 12 [] [0,1,2,3,4,5,6,7,8,9,10,11] [12] (by kernel_rfl) (by kernel_rfl) ?_
 refine af ?_;try simp only[ox]
 repeat(go_big_quiet_step (fail))
 refine wpQuiet_nil ?_
 refine ae _ _ _ (by kernel_rfl) ?_;try simp only[ox]
 clear qi q1 q2
 have hf':=gO.sV en (.int .i64 (wrap64 (t0+1)))
 have hsv:SB (w1.setCell ⟨g1,en,none⟩ (.int .i64 (wrap64 (t0+1)))).drew C k b 91 #[.pointer (some ⟨sg,0,none⟩),.slice A n cap,.int .i64 (en:Int),.pointer (some ⟨bd,0,none⟩),.slice (some ⟨g1,0,none⟩) n1 cap1,lv]:=sb.fr hf' (.inr (by decide))
 have CC:=hsv.blk.cells
 have vL:=hsv.blk.frees
 go_wp2_with fail
 clear CC vL
 replace sb:=hsv
 clear hsv
 replace fr:=fr.trans (hf'.mono (qh c s k q) (by decide)) ag
 replace hst:=hst.fr hf' (.inl CB)
 replace hrow:=hrow.put en hi1 (wrap64 (t0+1))
 replace aP:=aP.fr hf' (.inl GH)
 replace hsr:=hsr.fr hf' (.inr (by decide))
 replace hdo:=hdo.fr hf' (.inl ⟨GG,CB⟩)
 replace rc:=rc.fr hf' (.inr (by decide))
 replace hm:=hm.fr hf' (.inl (fun e=>hk1 e.symm))
 clear hf' gO f0
 rw[oY] at fr hst hrow aP hsr hdo rc hm
 generalize(w1.setCell ⟨g1,en,none⟩ (.int .i64 (wrap64 (t0+1)))).drew=w2 at *
 refine NoPanic.normal ?_
 go_wp2_with fail
 refine(Ft _ _ hm hst hdo).mono ?_;clear hm hst hdo;rintro e w3 ⟨rfl,⟨C3,aG,hm,hst,hdo⟩,hf⟩
 replace hrow:=hrow.mv hf aG (.inl I4)
 replace aP:=aP.mv hf aG (.inl I5)
 revert rc;revert hsr;revert sb;revert fr;revert ag;refine kV hf aG (Cz c s k q) tW ?_;clear hf aG;intro ag fr sb hsr rc
 try dsimp only at hm hst hdo
 obtain⟨I7,I8,I9,Ja,Jb,Jc,Jd,Je,Jf,fP,-⟩:=id hdo.ex
 unfold eR at fP
 obtain⟨⟨ES,ET,EU⟩,Jg,tk1,GK,NM,hd1,hp1,NN,fs1,Fq,NO,NP,NQ⟩:=d2
 simp only at fP hsl
 subst hsl
 have Jh:=rc.lt
 have z2:=And.intro sb (And.intro rc fP)
 revert fP;revert rc;revert hdo;revert hsr;revert aP;revert hrow;revert hst;revert hm;revert sb;revert fr;refine bx1 49 #[.int .i64 ES,.bool ET,.int .i64 EU] ?_;rintro w4 x7 lrs fr rs sb hm hst hrow aP hsr hdo rc fP
 have e1:wrap64 ((en:Int)+1)=(en:Int)+1:=IntWalk.wrap64_in _ (by omega)
 have z3:=And.intro sb (And.intro rc (And.intro fP rs))
 revert fr rs hm hst hrow aP hsr hdo rc fP;refine st1 sb 3 (.pointer none) (qh c s k q) ag ?_;clear sb;rintro w5 e1 fr sb rs hm hst hrow aP hsr hdo rc fP
 simp only[sx] at sb
 have z4:=And.intro sb (And.intro rc (And.intro fP rs))
 revert fr rs hm hst hrow aP hsr hdo rc fP;refine st1 sb 2 (.int .i64 ((en:Int)+1)) (qh c s k q) ag ?_;clear sb;rintro w6 e2 fr sb rs hm hst hrow aP hsr hdo rc fP
 simp only[sx] at sb
 have z5:=And.intro sb (And.intro rc (And.intro fP rs))
 have hR:=kQ
 replace rs:=rs.zm (b:=w.heap.size) (by first | omega | (simp<;>omega)) [(0,.int .i64 ES),(1,.bool ET),(2,.int .i64 EU)]
 revert fr hm hst hrow aP hsr hdo fP sb;refine ia rc [(0,.int .i64 ES),(1,.bool ET),(2,.int .i64 EU)] ?_;clear rc;rintro w7 e3 fr rc hm hst hrow aP hsr hdo fP sb
 rw[e3] at rs
 simp only[stx,sx] at e3 rc
 go_wp2_with fail
 clear x7 z2 z3 e1 z4 e2 z5 e3 hR
 refine bodyPost_ret (v:= .tuple #[.agg #[.int .i64 ES,.bool ET,.int .i64 EU],.bool true]) (by simp[results,Tryz.results33,go_sem,rc.1]) rfl ⟨rfl,⟨_,ag,hm,?_⟩,fr⟩
 exact⟨hst,A,n,cap,_,_,_,⟨sb,hlen,hsm,hL1,hsr,⟨n1,xs.set en (wrap64 (t0+1)),hrow,by simp[HX.out],by have:=HN.out;simp[dw.stop] at this⊢;omega⟩,⟨n2,ys,aP,hyl,hL2⟩⟩,rfl⟩
theorem nm {c s k q sg b:Nat} {M:ML} {m:Mm} {me:Int} {x:dw} {d:aI} (hm:aj w C M m) (h:jq w C c s k q sg b M.L me x) (b8:x.now=some d) (hlt:x.ended<x.tasks.length) (hf:d.Fine M m x.st)
  (hcs:c≠s) (hs1:s≠1) (hkc:k≠c) (hks:k≠s) (hk1:k≠1) (hkq:k≠q) (hqc:q≠c) (AR:q≠s) (hq1:q≠1) (hq:(al M me m x.st d).1=true) (hsl:(al M me m x.st d).2.2.2.slow=true):Calls Tryz.prog 33 #[.pointer (some ⟨b,0,none⟩),.pointer (some ⟨M.b,0,none⟩)] w (WsW C c s k q sg b M me x (al M me m x.st d) w):=by
 obtain⟨hst,A,n,cap,pn,tv,lv,⟨sb,hlen,hsm,hle,hsr,⟨n1,xs,hrow,hxl,hn1⟩,⟨n2,ys,aP,hyl,hn2⟩⟩,hpn⟩:=h
 obtain⟨stt,tasks,en,now⟩:=x
 simp only at hst sb hlen hle hsr hn1 hn2 hpn b8 hlt hf hq hsl⊢
 subst b8
 obtain⟨bd,rfl,hdo⟩:=hpn
 simp only[Option.isSome_some,if_true] at hn1
 obtain⟨A1,cap1,rfl,hnc,hnil,hA1⟩:=hrow.form
 obtain⟨a1,rfl⟩:∃ a1,A1=some a1:=by
  cases A1 with
  | none=>exact absurd (hnil rfl).1 (by omega)
  | some a1=>exact⟨a1,rfl⟩
 obtain⟨g1,hg1⟩:∃ g1,a1=⟨g1,0,none⟩:=⟨_,hA1 a1 rfl⟩
 subst hg1
 have hi1:en<n1:=by omega
 have hL1:en+1≤n:=by omega
 have hL2:n2≤en+1:=by omega
 have hL3:n2+1≤en+1:=by omega
 obtain⟨cur,gO,hcur⟩:=hrow.GJ
 obtain⟨t0,ht0⟩:∃ t0,xs[en]? =some t0:=⟨_,List.getElem?_eq_getElem (by omega)⟩
 have f0:cur[en]? =some (.int .i64 t0):=by rw[hcur en hi1,jd,ht0];rfl
 have hidx:=(Sl.de hrow.own).idx (P:=Tryz.prog) (c:=cap1) Tryz.underlying89 jc hi1
 simp only[bZ,cP,Option.map_some,Option.getD_some,Nat.zero_add,Nat.mul_one] at hidx
 have hps:=hrow.put en hi1 (wrap64 (t0+1))
 have Ft:=fun W C' (k1:aj W C' M m) (k2:aq W C' s sg M.L me stt) (k3:a6 W C' c s sg bd M.L me d)=>tU hcs hs1 k1 k2 k3 hf
 obtain⟨r,hr⟩:∃ r,al M me m stt d=r:=⟨_,rfl⟩
 simp only[hr] at Ft hq hsl⊢
 obtain⟨r1,m',t2,d2⟩:=r
 simp only at hq hsl
 subst hq
 have GG:¬ K0 k c:=fun e=>hkc e.symm
 have CB:¬ K0 k s:=fun e=>hks e.symm
 have GH:¬ K0 k q:=fun e=>hkq e.symm
 have Lx:¬ K0 q k:=fun e=>hkq e
 have Lz:¬ K0 q c:=fun e=>hqc e.symm
 have Km:¬ K0 q s:=fun e=>AR e.symm
 have I4:¬ ef c s k:=fun e=>e.elim hkc (fun e=>e.elim hks hk1)
 have I5:¬ ef c s q:=fun e=>e.elim hqc (fun e=>e.elim AR hq1)
 have HN:=Lib.hid hn1
 have HX:=Lib.hid hxl
 have hnn:n2≤100000:=by omega
 clear hr hcur hn1 hxl hnc hnil hA1 ht0 hf hlt hps
 go_enter Tryz.func33,Tryz.ntmps33
 have fr:=Fr.refl C (Kw c s k q) I3 w
 have ag:=aF.refl w.heap.size C
 have z1:=And.intro sb gO
 revert gO;revert hdo;revert hsr;revert aP;revert hrow;revert hst;revert hm;revert sb;revert fr;refine bx1 49 #[.int .i64 0,.bool false,.int .i64 0] ?_;rintro w1 I6 MM fr rc sb hm hst hrow aP hsr hdo gO
 go_wp2_with fail
 clear I6 z1
 revert fr rc sb hm hst hrow aP hsr hdo gO;refine bK ?_;intro fr rc sb hm hst hrow aP hsr hdo gO
 obtain⟨q1,q2,qi⟩:=bD sb gO
 refine aC sb gO 12 [] [0,1,2,3,4,5,6,7,8,9,10,11] [12] (by kernel_rfl) (by kernel_rfl) ?_
 refine af ?_;try simp only[ox]
 repeat(go_big_quiet_step (fail))
 refine wpQuiet_nil ?_
 refine ae _ _ _ (by kernel_rfl) ?_;try simp only[ox]
 clear qi q1 q2
 have hf':=gO.sV en (.int .i64 (wrap64 (t0+1)))
 have hsv:SB (w1.setCell ⟨g1,en,none⟩ (.int .i64 (wrap64 (t0+1)))).drew C k b 91 #[.pointer (some ⟨sg,0,none⟩),.slice A n cap,.int .i64 (en:Int),.pointer (some ⟨bd,0,none⟩),.slice (some ⟨g1,0,none⟩) n1 cap1,lv]:=sb.fr hf' (.inr (by decide))
 have CC:=hsv.blk.cells
 have vL:=hsv.blk.frees
 go_wp2_with fail
 clear CC vL
 replace sb:=hsv
 clear hsv
 replace fr:=fr.trans (hf'.mono (qh c s k q) (by decide)) ag
 replace hst:=hst.fr hf' (.inl CB)
 replace hrow:=hrow.put en hi1 (wrap64 (t0+1))
 replace aP:=aP.fr hf' (.inl GH)
 replace hsr:=hsr.fr hf' (.inr (by decide))
 replace hdo:=hdo.fr hf' (.inl ⟨GG,CB⟩)
 replace rc:=rc.fr hf' (.inr (by decide))
 replace hm:=hm.fr hf' (.inl (fun e=>hk1 e.symm))
 clear hf' gO f0
 rw[oY] at fr hst hrow aP hsr hdo rc hm
 generalize(w1.setCell ⟨g1,en,none⟩ (.int .i64 (wrap64 (t0+1)))).drew=w2 at *
 refine NoPanic.normal ?_
 go_wp2_with fail
 refine(Ft _ _ hm hst hdo).mono ?_;clear hm hst hdo;rintro e w3 ⟨rfl,⟨C3,aG,hm,hst,hdo⟩,hf⟩
 replace hrow:=hrow.mv hf aG (.inl I4)
 replace aP:=aP.mv hf aG (.inl I5)
 revert rc;revert hsr;revert sb;revert fr;revert ag;refine kV hf aG (Cz c s k q) tW ?_;clear hf aG;intro ag fr sb hsr rc
 try dsimp only at hm hst hdo
 obtain⟨I7,I8,I9,Ja,Jb,Jc,Jd,Je,Jf,fP,-⟩:=id hdo.ex
 unfold eR at fP
 obtain⟨⟨ES,ET,EU⟩,Jg,tk1,GK,NM,hd1,hp1,NN,fs1,Fq,NO,NP,NQ⟩:=d2
 simp only at fP hsl
 subst hsl
 have Mk:=fr.size
 have Fl:=sb.lt
 have Jh:=rc.lt
 have LA:=fP.lt
 have z2:=And.intro sb (And.intro rc fP)
 revert fP;revert rc;revert hdo;revert hsr;revert aP;revert hrow;revert hst;revert hm;revert sb;revert fr;refine bx1 49 #[.int .i64 ES,.bool ET,.int .i64 EU] ?_;rintro w4 x7 lrs fr rs sb hm hst hrow aP hsr hdo rc fP
 go_wp2_with fail
 clear x7 z2
 generalize w3.heap.size=Oq at *
 obtain⟨A2,cap2,rfl,-,-,-⟩:=aP.form
 obtain⟨i0,hi,hz0,hz1,hz2⟩:=info_parts iu
 have F7:Hid (cJ (ys++[(en:Int)])=cJ ys++[.int .i64 (en:Int)]):=Lib.hid (by simp[cJ])
 revert rs;revert fP;revert rc;revert hdo;revert hsr;revert aP;revert hrow;revert hst;revert hm;revert sb;revert fr;refine bK ?_;intro fr sb hm hst hrow aP hsr hdo rc fP rs
 obtain⟨q1,qi⟩:=aY sb
 refine ax sb 10 [] [0,1,2,3,4,5,6,7,8] [9,10,11,12,13] (by kernel_rfl) (by kernel_rfl) ?_
 refine af ?_;try simp only[ox]
 repeat(go_big_quiet_step (fail))
 refine wpQuiet_nil ?_
 refine aA rfl (fun K' hK'=> ?_);go_simp
 revert fr sb hm hst hrow aP hsr hdo rc fP rs;refine zo 3 #[.int .i64 (en:Int)] ?_;rintro w5 e1 Kb fr ns sb hm hst hrow aP hsr hdo rc fP rs;rw[e1]
 refine hK' _ _ (cj sb) ?_;clear hK' K' e1
 refine ae _ _ _ (by kernel_rfl) ?_;try simp only[ox]
 clear qi q1
 go_wp2_with (at_builtin;refine wpList_append_lies _ rfl _ _ _ rfl 0 3 i0 _ 1 8 Tryz.underlying89 hi hz0 hz1 hz2 rfl (by omega) (.slice A2 n2 cap2) n2 (cJ ys) rfl aP.own ⟨w4.heap.size,0,none⟩ 1 1 [.int .i64 (en:Int)] rfl rfl (World.news_of_block ns.blk) (gS [(en:Int)]) (by omega) (by unfold maxLen;omega) (by omega) (Nat.zero_le _) (w5.heap.size) rfl ?_;intro g3 cap3 wA hownA fl mi D7;have hfA:Fr C3 (K0 q) [some 3] w5 wA:=(Fr.refl C3 (K0 q) [some 3] w5).app aP fl (fk q) (by decide);have sA:=sb.fr hfA (.inr (by decide)))
 have tt:=aP.app hownA (mi.elim (fun e=> .inl e.symm) (fun e=> .inr (by rw[e];rfl)))
 obtain⟨CA,tu⟩:∃ C',C'=br C3 w5.heap.size q:=⟨_,rfl⟩
 rw[←tu] at tt
 have aG:aF w5.heap.size C3 CA:=by rw[tu];exact aF.br _ _ _
 replace hst:=hst.mv hfA aG (.inl Km)
 replace hdo:=hdo.mv hfA aG (.inl ⟨Lz,Km⟩)
 replace hrow:=hrow.mv hfA aG (.inl Lx)
 clear aP ns sA tu;revert rs;revert fP;revert rc;revert hsr;revert hm;revert sb;revert fr;revert ag;refine kV hfA aG (Lu c s k q) (by decide) ?_;intro ag fr sb hm hsr rc fP rs
 have aP:=tt
 clear tt aG hfA fl mi hownA
 have mj:=own_ne aP.own sb.blk (by decide)
 revert hst hdo hrow hm hsr rc fP rs aP;revert fr;refine st1 sb 5 (.slice (some ⟨g3,0,none⟩) (n2+1) cap3) (qh c s k q) ag ?_;clear sb;rintro w6 e1 fr sb hst hdo hrow hm hsr rc fP rs aP
 simp only[sx] at sb
 rw[e1]
 clear e1
 clear mj
 try rw[←F7.out] at aP
 refine NoPanic.normal ?_
 have e1:wrap64 ((en:Int)+1)=(en:Int)+1:=IntWalk.wrap64_in _ (by omega)
 have z3:=And.intro sb (And.intro rc (And.intro fP rs))
 revert rs;revert fP;revert rc;revert hdo;revert hsr;revert aP;revert hrow;revert hst;revert hm;revert fr;refine st1 sb 3 (.pointer none) (qh c s k q) ag ?_;clear sb;rintro w7 e1 fr sb hm hst hrow aP hsr hdo rc fP rs
 simp only[sx] at sb
 have z4:=And.intro sb (And.intro rc (And.intro fP rs))
 revert fr hm hst hrow aP hsr hdo rc fP rs;refine st1 sb 2 (.int .i64 ((en:Int)+1)) (qh c s k q) ag ?_;clear sb;rintro w8 e2 fr sb hm hst hrow aP hsr hdo rc fP rs
 simp only[sx] at sb
 have z5:=And.intro sb (And.intro rc (And.intro fP rs))
 have hR:=kQ
 replace rs:=rs.zm (b:=w.heap.size) (by first | omega | (simp<;>omega)) [(0,.int .i64 ES),(1,.bool ET),(2,.int .i64 EU)]
 revert fr hm hst hrow aP hsr hdo fP sb;refine ia rc [(0,.int .i64 ES),(1,.bool ET),(2,.int .i64 EU)] ?_;clear rc;rintro w9 e3 fr rc hm hst hrow aP hsr hdo fP sb
 rw[e3] at rs
 simp only[stx,sx] at e3 rc
 go_wp2_with fail
 try simp only[e1,e2,e3]
 clear z3 e1 z4 e2 z5 e3 hR
 refine bodyPost_ret (v:= .tuple #[.agg #[.int .i64 ES,.bool ET,.int .i64 EU],.bool true]) (by simp[results,Tryz.results33,go_sem,rc.1]) rfl ⟨rfl,⟨_,ag,hm,?_⟩,fr⟩
 exact⟨hst,A,n,cap,_,_,_,⟨sb,hlen,hsm,hL1,hsr,⟨n1,xs.set en (wrap64 (t0+1)),hrow,by simp[HX.out],by have:=HN.out;simp[dw.stop] at this⊢;omega⟩,⟨n2+1,ys++[(en:Int)],aP,by simp[hyl],hL3⟩⟩,rfl⟩
end Go.Proofs.YtbcnnhlpilmmbaaGreat
