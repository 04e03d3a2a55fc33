/- Texts that are wanted for PTopFull.
   Conditions: none. -/
import Derived.Laws.MakeOwn
import Derived.Laws.CopyOwn
import Derived.Test.YtbcnnhlpilmmbaaGreatJPTopFull24
set_option maxRecDepth 100000
set_option maxHeartbeats 6400000
namespace Go.Proofs.YtbcnnhlpilmmbaaGreat
open Go Go.RowKit
variable {w:World} {C:Nat→Nat}
theorem gJ {c s k q sg b:Nat} {M:ML} {m:Mm} {me:Int} {x:cy} {d:aH} (hm:aj w C M m) (h:ji w C c s k q sg b M.L me x) (cR:x.now=some d) (hlt:x.ended<x.tasks.length) (hf:d.Fine M m x.st)
  (hcs:c≠s) (hs1:s≠1) (hkc:k≠c) (hks:k≠s) (hk1:k≠1) (hkq:k≠q) (hqc:q≠c) (zL:q≠s) (hq1:q≠1):Calls Tryz.prog 33 #[.pointer (some ⟨b,0,none⟩),.pointer (some ⟨M.b,0,none⟩)] w (WsW C c s k q sg b M me x (ak M me m x.st d) w):=by
 cases hq:(ak M me m x.st d).1 with
 | false=>exact pN hm h cR hlt hf hcs hs1 hkc hks hk1 hkq hqc zL hq1 hq
 | true=>
  cases hsl:(ak M me m x.st d).2.2.2.slow with
  | false=>exact mS hm h cR hlt hf hcs hs1 hkc hks hk1 hkq hqc zL hq1 hq hsl
  | true=>exact mT hm h cR hlt hf hcs hs1 hkc hks hk1 hkq hqc zL hq1 hq hsl
abbrev cy.with_ (x:cy) (d:aH):cy:={ x with now:=some d }
def fI (ws:Nat→cy) (u:Nat) (x:cy):Nat→cy:=fun v=>if v=u then x else ws v
def aZ.a7 (L:Ly) (e:aZ) (u:Nat):aH:=(e.ws u).now.getD (.new L ((e.ws u).tasks.getD (e.ws u).ended .zero) e.tries)
def aZ.cU (L:Ly) (e:aZ) (u:Nat):HS:=if (e.ws u).now.isNone then e.hist.begin_ (u:Int) (e.a7 L u).task.kind (e.a7 L u).task.key else e.hist
def aZ.did (M:ML) (e:aZ) (u:Nat):Bool×Mm×cV×aH:=ak M (u:Int) e.m (e.ws u).st (e.a7 M.L u)
def aZ.next (M:ML) (e:aZ) (u:Nat):aZ:=
 ⟨e.shape,e.tries,(e.did M u).2.1,if (e.did M u).1 then (e.cU M.L u).end_ (u:Int) (e.did M u).2.2.2.res.code (e.did M u).2.2.2.res.ok (e.did M u).2.2.2.res.val else e.cU M.L u,fI e.ws u (cy.stop ((e.ws u).with_ (e.a7 M.L u)) (e.did M u)),e.steps+1⟩
def aZ.can (M:ML) (e:aZ) (u:Int):Bool:=decide (0≤u) && decide (u<M.L.th) && decide ((e.ws u.toNat).left≠0) && decide (e.steps<60000)
def aZ.pick (M:ML) (e:aZ) (u:Int):aZ:=if e.can M u then e.next M u.toNat else e
structure zi (C:Nat→Nat) (b:Nat) (E:fP) (v:Value) (e':aZ) (w:World) (r:Ending) (w':World):Prop where
 ret:r= .returned v
 own:∃ C',aB w.heap.size C C'∧dx w' C' b E e'
 fr:iB E.B C w w'
theorem rQ (u:Nat):∀ x,Kw (cM u) (cS u) (cK u) (cQ u) x→KE x:=by
 intro x h
 unfold Kw cM cS cK cQ at h
 unfold KE
 omega
theorem yd:∀ x,K0 3 x→KE x:=by intro x h;unfold K0 at h;unfold KE;omega
theorem iG {u:Nat}:∀ v,v≠u→¬ Kw (cM u) (cS u) (cK u) (cQ u) (cM v)∧¬ Kw (cM u) (cS u) (cK u) (cQ u) (cS v)∧¬ Kw (cM u) (cS u) (cK u) (cQ u) (cK v)∧¬ Kw (cM u) (cS u) (cK u) (cQ u) (cQ v):=by
 intro v h
 unfold Kw cM cS cK cQ
 omega
theorem EG (v0 v1 v2:Value) (W:World):(Instr.field 85 (.agg #[v0,v1,v2]) 1).run Tryz.prog W= .ok (.agg #[v1,v2]) W:=by kernel_rfl
theorem cE {c s k q sg b:Nat} {L:Ly} {me:Int} {x:cy} (h:ji w C c s k q sg b L me x):Calls Tryz.prog 29 #[.pointer (some ⟨b,0,none⟩)] w fun e w'=>e= .returned (.int .i64 x.left)∧Below w.heap.size w w':=by
 obtain⟨-,A,n,cap,pn,tv,lv,h1,-⟩:=h
 exact ve h1
variable {b:Nat}
theorem pO {E:fP} {e:aZ} (h:dx w C b E e) (u:Int) (hu:u<0):Calls Tryz.prog 14 #[.pointer (some ⟨b,0,none⟩),.int .i64 u] w (zi C b E (.bool false) e w):=by
 have HW:=iD h u hu
 go_enter Tryz.func14,Tryz.ntmps14
 go_wp2_with fail
 refine HW.mono ?_
 rintro r w1 ⟨rfl,hb⟩
 go_wp2_with fail
 go_ret
 exact⟨rfl,⟨C,aB.refl _ _,h.step hb⟩,(iB.refl E.B C w).step hb⟩
theorem pP {E:fP} {e:aZ} (h:dx w C b E e) (u:Int) (hu:¬ u<0) (hu2:(E.n:Int)≤u):Calls Tryz.prog 14 #[.pointer (some ⟨b,0,none⟩),.int .i64 u] w (zi C b E (.bool false) e w):=by
 have HW:=iF h u hu hu2
 go_enter Tryz.func14,Tryz.ntmps14
 go_wp2_with fail
 refine HW.mono ?_
 rintro r w1 ⟨rfl,hb⟩
 go_wp2_with fail
 go_ret
 exact⟨rfl,⟨C,aB.refl _ _,h.step hb⟩,(iB.refl E.B C w).step hb⟩
theorem mU {E:fP} {e:aZ} (h:dx w C b E e) (u:Nat) (hu:u<E.n) (hl:(e.ws u).left=0):Calls Tryz.prog 14 #[.pointer (some ⟨b,0,none⟩),.int .i64 (u:Int)] w (zi C b E (.bool false) e w):=by
 have HW:=ch h u hu
 have HL:=fun W (k:zK W C E u (e.ws u))=>cE k
 rw[hl] at HL
 go_enter Tryz.func14,Tryz.ntmps14
 go_wp2_with fail
 refine HW.mono ?_
 rintro r w1 ⟨rfl,hb⟩
 have h1:=h.step hb
 go_wp2_with fail
 refine(HL _ (h1.wk.at_ u hu trivial)).mono ?_
 rintro r w2 ⟨rfl,hb2⟩
 have h2:=h1.step hb2
 go_wp2_with fail
 go_ret
 exact⟨rfl,⟨C,aB.refl _ _,h2⟩,((iB.refl E.B C w).step hb).step hb2⟩
theorem mV {E:fP} {e:aZ} (h:dx w C b E e) (u:Nat) (hu:u<E.n) (hl:(e.ws u).left≠0) (hs:60000≤e.steps):Calls Tryz.prog 14 #[.pointer (some ⟨b,0,none⟩),.int .i64 (u:Int)] w (zi C b E (.bool false) e w):=by
 have HW:=ch h u hu
 have HH:=h
 obtain⟨⟨A,cap,sb,hsr⟩,hm,hh,hwk⟩:=h
 obtain⟨N,hN⟩:∃ N,E.n=N:=⟨_,rfl⟩
 rw[hN] at sb hsr
 have zM:=Lib.hid hN
 have b7:=hwk.at_ u hu trivial
 have hws:dR w C E e.ws (fun v=>v≠u):=⟨fun v hv _=>hwk.at_ v hv trivial⟩
 clear hwk hN
 have dl:((e.ws u).left==0)=false:=beq_false_of_ne hl
 have ds:decide ((e.steps:Int)≥60000)=true:=decide_eq_true (by omega)
 obtain⟨kg,hstp⟩:∃ kg,e.steps=kg:=⟨_,rfl⟩
 rw[hstp] at sb ds
 clear hstp hs hm hh hws hsr
 go_enter Tryz.func14,Tryz.ntmps14
 have fr:=iB.refl E.B C w
 have ag:=aB.refl w.heap.size C
 go_wp2_with fail
 refine(HW).mono ?_;rintro e w1 ⟨rfl,hb1⟩
 skip
 revert b7;revert sb;revert fr;refine pL hb1 ?_;intro fr sb b7
 go_wp2_with fail
 refine(cE b7).mono ?_;rintro e w2 ⟨rfl,hb2⟩
 revert fr sb b7;refine pL hb2 ?_;intro fr sb b7
 go_wp2_with fail
 go_ret
 exact⟨rfl,⟨C,ag,HH.step (Below.trans hb1 (hb2.mono hb1.size))⟩,fr⟩
theorem jk {E:fP} {e:aZ} (h:dx w C b E e) (u:Nat) (hu:u<E.n) (KN:u<8) (hl:(e.ws u).left≠0) (hs:e.steps<60000) (hlen:e.hist.evs.length≤990) (hf:(e.a7 E.M.L u).Fine E.M e.m (e.ws u).st) (cR:(e.ws u).now=none) (hr1:(e.did E.M u).1=false):Calls Tryz.prog 14 #[.pointer (some ⟨b,0,none⟩),.int .i64 (u:Int)] w (zi C b E (.bool true) (e.next E.M u) w):=by
 have HW:=ch h u hu
 have HH:=h
 obtain⟨⟨A,cap,sb,hsr⟩,hm,hh,hwk⟩:=h
 obtain⟨N,hN⟩:∃ N,E.n=N:=⟨_,rfl⟩
 rw[hN] at sb hsr
 have zM:=Lib.hid hN
 have b7:=hwk.at_ u hu trivial
 have hws:dR w C E e.ws (fun v=>v≠u):=⟨fun v hv _=>hwk.at_ v hv trivial⟩
 clear hwk hN
 have dl:((e.ws u).left==0)=false:=beq_false_of_ne hl
 have ds:decide ((e.steps:Int)≥60000)=false:=decide_eq_false (by omega)
 have e1:wrap64 ((e.steps:Int)+1)=(e.steps:Int)+1:=IntWalk.wrap64_in _ (by omega)
 have hlt:(e.ws u).ended<(e.ws u).tasks.length:=by
  obtain⟨-,A0,n0,c0,p0,t0,l0,hc0,-⟩:=b7
  have h1:=hc0.le
  have h2:=hc0.len
  unfold cy.left at hl
  omega
 obtain⟨D,hD⟩:∃ D,e.a7 E.M.L u=D:=⟨_,rfl⟩
 rw[hD] at hf
 obtain⟨H1,hH1⟩:∃ H1,e.cU E.M.L u=H1:=⟨_,rfl⟩
 have BR:H1.evs.length≤1000:=by
  have:=hH1
  unfold aZ.cU at this
  split at this
  ·have h2:=HS.l1 e.hist ⟨(u:Int),false,(e.a7 E.M.L u).task.kind,(e.a7 E.M.L u).task.key,0,false,0⟩
   rw[←this]
   simp only[HS.step,Bool.false_eq_true,if_false] at h2
   omega
  ·rw[←this];omega
 obtain⟨tk,htk⟩:∃ tk,(e.ws u).tasks[(e.ws u).ended]? =some tk:=⟨_,List.getElem?_eq_getElem hlt⟩
 have hDn:aH.new E.M.L tk e.tries=D:=by rw[←hD];unfold aZ.a7;rw[cR,List.getD_eq_getElem?_getD,htk];rfl
 have FX:=fun W C' (k:zK W C' E u (e.ws u))=>gI k cR htk (by simp only[cK,cM];omega) (by simp only[cK,cS];omega) (by simp only[cK,cQ];omega) e.tries
 simp only[hDn] at FX
 have BS:e.hist.begin_ (u:Int) D.task.kind D.task.key=H1:=by rw[←hH1];unfold aZ.cU;rw[cR,hD];rfl
 have IB:=fun W (k:gP W E.B E.hb e.hist)=>pJ E.hb e.hist E.B (u:Int) D.task.kind D.task.key W k.at_ k.le (by omega)
 simp only[BS] at IB
 clear hDn htk BS
 obtain⟨X,hX⟩:∃ X,(e.ws u).with_ D=X:=⟨_,rfl⟩
 have zj:X.now=some D:=by rw[←hX]
 have BT:X.ended<X.tasks.length:=by rw[←hX];exact hlt
 have xo:X.st=(e.ws u).st:=by rw[←hX]
 rw[←xo] at hf
 have lh:=fun W C' (k0:aj W C' E.M e.m) (k:zK W C' E u X)=>gJ k0 k zj BT hf (by simp only[cM,cS];omega) (by simp only[cS];omega) (by simp only[cK,cM];omega) (by simp only[cK,cS];omega) (by simp only[cK];omega) (by simp only[cK,cQ];omega) (by simp only[cQ,cM];omega) (by simp only[cQ,cS];omega) (by simp only[cQ];omega)
 have pQ:ak E.M (u:Int) e.m X.st D=e.did E.M u:=by unfold aZ.did;rw[hD,xo]
 simp only[pQ] at lh
 obtain⟨r,hr⟩:∃ r,e.did E.M u=r:=⟨_,rfl⟩
 simp only[hr] at lh hr1
 obtain⟨r1,m',t2,d2⟩:=r
 simp only at hr1
 subst hr1
 have FY:=Lib.hid (hX)
 have FZ:Hid (e.next E.M u=⟨e.shape,e.tries,m',H1,fI e.ws u (X.stop (false,m',t2,d2)),e.steps+1⟩):=Lib.hid (by unfold aZ.next;rw[hr,hH1,hD,hX];rfl)
 obtain⟨xp,lj⟩:∃ xp,e.shape=xp:=⟨_,rfl⟩
 obtain⟨vg,jX⟩:∃ vg,e.tries=vg:=⟨_,rfl⟩
 have xq:=Lib.hid lj
 have xr:=Lib.hid jX
 obtain⟨kg,hstp⟩:∃ kg,e.steps=kg:=⟨_,rfl⟩
 have xt:=Lib.hid hstp
 rw[hstp] at ds e1
 rw[lj,jX,hstp] at sb
 rw[jX] at FX
 clear lj jX hstp pQ hr hH1 hD hX hl hlt hf hs hlen zj BT xo
 go_enter Tryz.func14,Tryz.ntmps14
 replace hh:=l4.bI C hh
 have fr:=iB.refl E.B C w
 have ag:=aB.refl w.heap.size C
 go_wp2_with fail
 revert hsr;revert hws;revert b7;revert hh;revert hm;revert sb;revert fr;refine D0 (HW) ?_;rintro e w1 rfl fr sb hm hh b7 hws hsr
 go_wp2_with fail
 refine(cE b7).mono ?_;rintro e w2 ⟨rfl,hb2⟩
 revert fr sb hm hh b7 hws hsr;refine pL hb2 ?_;intro fr sb hm hh b7 hws hsr
 go_wp2_with fail
 refine(FX _ _ b7).mono ?_
 rintro r w3 ⟨rfl,⟨C3,rD,mW⟩,hf3⟩
 have sz:=fr.size
 replace fr:=fr.trans (hf3.mono (rQ u) (fun _ h=>h)) ag
 replace sb:=sb.mv hf3 rD (.inr (by decide))
 replace hm:=hm.mv hf3 rD (.inr ⟨by decide,by decide⟩)
 replace hh:=l4.bI C3 (hh.out.mv hf3 rD (.inr (by decide)))
 replace hws:=hws.mv hf3 rD (.inl iG)
 replace hsr:=hsr.mv hf3 rD (.inr (by decide))
 replace b7:=mW
 replace ag:=ag.trans rD sz
 clear sz rD hf3 mW
 obtain⟨hst,A1,n1,Nc,pn,tv,lv,hwc,bd,rfl,hdo⟩:=id b7
 obtain⟨Iq,Ir,Is,It,Iu,Iv,Iw,Ix,Iy,fy,-⟩:=hdo.ex
 unfold ep at fy
 have IC:=fun W (k:SB W C3 (cM u) bd 129 #[.pointer (some ⟨E.sg u,0,none⟩),.int .i64 D.res.code,.bool D.res.ok,.int .i64 D.res.val,.bool D.slow,.int .i64 D.task.sh,.int .i64 D.task.kind,.int .i64 D.task.key,.int .i64 D.limit,.int .i64 D.at_,Iq,Ir,Is,It,Iu,Iv,Iw,Ix,Iy])=>yc (d:=D) k
 have wkb:=hwc.blk
 obtain⟨xe,hxe⟩:∃ xe,(e.ws u).ended=xe:=⟨_,rfl⟩
 simp only[hxe] at wkb
 clear hst hwc hdo hxe
 go_wp2_with fail
 have F0:=EG (.int .i64 D.task.sh) (.int .i64 D.task.kind) (.int .i64 D.task.key)
 revert wkb;revert fy;revert hsr;revert hws;revert b7;revert hh;revert hm;revert sb;revert fr;refine DY ?_;intro fr sb hm hh b7 hws hsr fy wkb
 obtain⟨q1,q2,qi⟩:=bl sb wkb
 refine aA sb wkb 11 [([0,1,2,3,4,5,6,7,8],9)] [10] [11] (by kernel_rfl) (by kernel_rfl) ?_
 refine ai ?_;simp only[ox];repeat(go_big_quiet_step (fail))
 refine di rfl (fun K' hK'=> ?_);go_simp
 ((with_reducible refine(IC _ fy).mono ?_);rintro e w4 ⟨rfl,hb4⟩)
 revert fr sb hm hh b7 hws hsr fy wkb;refine pL hb4 ?_;intro fr sb hm hh b7 hws hsr fy wkb
 refine hK' _ _ (eJ sb wkb) ?_;clear hK' K'
 refine af ?_;try simp only[ox]
 repeat(go_big_quiet_step (fail))
 refine wpQuiet_nil ?_
 refine ae _ _ _ (by kernel_rfl) ?_;try simp only[ox]
 clear qi q1 q2
 go_wp2_with fail
 refine(IB _ hh.out).mono ?_
 rintro r w5 ⟨rfl,hh5,hk5⟩
 have mX:=Fr.jj hk5 C3
 replace fr:=fr.hist hk5 ag
 replace sb:=sb.fr mX (.inr (by decide))
 replace hm:=hm.fr mX (.inr ⟨by decide,by decide⟩)
 replace b7:=b7.fr mX (.inr (by decide))
 replace hws:=hws.fr mX (.inr (by decide))
 replace hsr:=hsr.fr mX (.inr (by decide))
 replace hh:l4 w5 C3 E.B E.hb H1:=l4.bI _ ⟨hh5⟩
 clear mX hk5 hh5 fy wkb F0 IC
 skip
 go_wp2_with fail
 refine NoPanic.normal ?_
 go_wp2_with fail
 have hf':=sb.qh 7 (.int .i64 ((kg:Int)+1))
 replace fr:=fr.trans (hf'.mono yd (fun _ h=>h)) ag
 replace hm:=hm.fr hf' (.inr ⟨by decide,by decide⟩)
 replace hh:=hh.fr hf' (.inr (by decide))
 replace b7:=b7.fr hf' (.inr (by decide))
 replace hws:=hws.fr hf' (.inr (by decide))
 replace hsr:=hsr.fr hf' (.inr (by decide))
 replace sb:SB (w5.setCell ⟨b,7,none⟩ (.int .i64 ((kg:Int)+1))) C3 3 b 79 #[.int .i64 xp,.int .i64 E.M.L.th,.int .i64 E.M.L.nd,.int .i64 vg,.pointer (some ⟨E.M.b,0,none⟩),.pointer (some ⟨E.hb,0,none⟩),.slice A N cap,.int .i64 ((kg:Int)+1)]:=sb.ao 7 (.int .i64 ((kg:Int)+1))
 clear hf'
 skip
 go_wp2_with fail
 generalize(w5.setCell ⟨b,7,none⟩ (.int .i64 ((kg:Int)+1)))=w6 at *
 refine(lh _ _ hm (FY.out ▸ b7)).mono ?_
 rintro r w7 ⟨rfl,⟨C7,zk,At,BU⟩,zl⟩
 have sz:=fr.size
 replace fr:=fr.trans (zl.mono (rQ u) (fun _ h=>h)) ag
 replace sb:=sb.mv zl zk (.inr (by decide))
 replace hm:=At
 replace hh:=l4.bI C7 (hh.out.mv zl zk (.inr (by decide)))
 replace hws:=hws.mv zl zk (.inl iG)
 replace hsr:=hsr.mv zl zk (.inr (by decide))
 replace b7:=BU
 replace ag:=ag.trans zk sz
 clear sz zk zl BU At
 simp only[cy.tells,ku.xm,Bool.false_eq_true,if_false]
 go_wp2_with fail
 have z1:=sb
 revert hsr;revert hws;revert b7;revert hh;revert hm;revert sb;revert fr;refine DZ 49 #[.int .i64 0,.bool false,.int .i64 0] ?_;rintro w8 xn lrs fr rs sb hm hh b7 hws hsr
 go_wp2_with fail
 try simp only[xn]
 clear xn z1
 go_ret
 refine⟨rfl,⟨_,ag,?_⟩,fr⟩
 rw[FZ.out]
 refine⟨⟨A,cap,?_,?_⟩,hm,hh,⟨fun v hv _=> ?_⟩⟩
 ·rw[←zM.out] at sb;rw[←xq.out,←xr.out,←xt.out] at sb;exact sb
 ·rw[←zM.out] at hsr;exact hsr
 ·by_cases hvu:v=u
  ·subst hvu;simp only[fI,if_true];exact b7
  ·simp only[fI,if_neg hvu];exact hws.at_ v hv hvu
theorem jA {E:fP} {e:aZ} (h:dx w C b E e) (u:Nat) (hu:u<E.n) (KN:u<8) (hl:(e.ws u).left≠0) (hs:e.steps<60000) (hlen:e.hist.evs.length≤990) (hf:(e.a7 E.M.L u).Fine E.M e.m (e.ws u).st) (cR:(e.ws u).now=none) (hr1:(e.did E.M u).1=true):Calls Tryz.prog 14 #[.pointer (some ⟨b,0,none⟩),.int .i64 (u:Int)] w (zi C b E (.bool true) (e.next E.M u) w):=by
 have HW:=ch h u hu
 have HH:=h
 obtain⟨⟨A,cap,sb,hsr⟩,hm,hh,hwk⟩:=h
 obtain⟨N,hN⟩:∃ N,E.n=N:=⟨_,rfl⟩
 rw[hN] at sb hsr
 have zM:=Lib.hid hN
 have b7:=hwk.at_ u hu trivial
 have hws:dR w C E e.ws (fun v=>v≠u):=⟨fun v hv _=>hwk.at_ v hv trivial⟩
 clear hwk hN
 have dl:((e.ws u).left==0)=false:=beq_false_of_ne hl
 have ds:decide ((e.steps:Int)≥60000)=false:=decide_eq_false (by omega)
 have e1:wrap64 ((e.steps:Int)+1)=(e.steps:Int)+1:=IntWalk.wrap64_in _ (by omega)
 have hlt:(e.ws u).ended<(e.ws u).tasks.length:=by
  obtain⟨-,A0,n0,c0,p0,t0,l0,hc0,-⟩:=b7
  have h1:=hc0.le
  have h2:=hc0.len
  unfold cy.left at hl
  omega
 obtain⟨D,hD⟩:∃ D,e.a7 E.M.L u=D:=⟨_,rfl⟩
 rw[hD] at hf
 obtain⟨H1,hH1⟩:∃ H1,e.cU E.M.L u=H1:=⟨_,rfl⟩
 have BR:H1.evs.length≤1000:=by
  have:=hH1
  unfold aZ.cU at this
  split at this
  ·have h2:=HS.l1 e.hist ⟨(u:Int),false,(e.a7 E.M.L u).task.kind,(e.a7 E.M.L u).task.key,0,false,0⟩
   rw[←this]
   simp only[HS.step,Bool.false_eq_true,if_false] at h2
   omega
  ·rw[←this];omega
 obtain⟨tk,htk⟩:∃ tk,(e.ws u).tasks[(e.ws u).ended]? =some tk:=⟨_,List.getElem?_eq_getElem hlt⟩
 have hDn:aH.new E.M.L tk e.tries=D:=by rw[←hD];unfold aZ.a7;rw[cR,List.getD_eq_getElem?_getD,htk];rfl
 have FX:=fun W C' (k:zK W C' E u (e.ws u))=>gI k cR htk (by simp only[cK,cM];omega) (by simp only[cK,cS];omega) (by simp only[cK,cQ];omega) e.tries
 simp only[hDn] at FX
 have BS:e.hist.begin_ (u:Int) D.task.kind D.task.key=H1:=by rw[←hH1];unfold aZ.cU;rw[cR,hD];rfl
 have IB:=fun W (k:gP W E.B E.hb e.hist)=>pJ E.hb e.hist E.B (u:Int) D.task.kind D.task.key W k.at_ k.le (by omega)
 simp only[BS] at IB
 clear hDn htk BS
 obtain⟨X,hX⟩:∃ X,(e.ws u).with_ D=X:=⟨_,rfl⟩
 have zj:X.now=some D:=by rw[←hX]
 have BT:X.ended<X.tasks.length:=by rw[←hX];exact hlt
 have xo:X.st=(e.ws u).st:=by rw[←hX]
 rw[←xo] at hf
 have lh:=fun W C' (k0:aj W C' E.M e.m) (k:zK W C' E u X)=>gJ k0 k zj BT hf (by simp only[cM,cS];omega) (by simp only[cS];omega) (by simp only[cK,cM];omega) (by simp only[cK,cS];omega) (by simp only[cK];omega) (by simp only[cK,cQ];omega) (by simp only[cQ,cM];omega) (by simp only[cQ,cS];omega) (by simp only[cQ];omega)
 have pQ:ak E.M (u:Int) e.m X.st D=e.did E.M u:=by unfold aZ.did;rw[hD,xo]
 simp only[pQ] at lh
 obtain⟨r,hr⟩:∃ r,e.did E.M u=r:=⟨_,rfl⟩
 simp only[hr] at lh hr1
 obtain⟨r1,m',t2,d2⟩:=r
 simp only at hr1
 subst hr1
 have FY:=Lib.hid (hX)
 have FZ:Hid (e.next E.M u=⟨e.shape,e.tries,m',H1.end_ (u:Int) d2.res.code d2.res.ok d2.res.val,fI e.ws u (X.stop (true,m',t2,d2)),e.steps+1⟩):=Lib.hid (by unfold aZ.next;rw[hr,hH1,hD,hX];rfl)
 have KO:=fun W (k:gP W E.B E.hb H1)=>u9 E.hb H1 E.B (u:Int) d2.res.code d2.res.ok d2.res.val W k.at_ k.le BR
 obtain⟨xp,lj⟩:∃ xp,e.shape=xp:=⟨_,rfl⟩
 obtain⟨vg,jX⟩:∃ vg,e.tries=vg:=⟨_,rfl⟩
 have xq:=Lib.hid lj
 have xr:=Lib.hid jX
 obtain⟨kg,hstp⟩:∃ kg,e.steps=kg:=⟨_,rfl⟩
 have xt:=Lib.hid hstp
 rw[hstp] at ds e1
 rw[lj,jX,hstp] at sb
 rw[jX] at FX
 clear lj jX hstp pQ hr hH1 hD hX hl hlt hf hs hlen zj BT xo
 go_enter Tryz.func14,Tryz.ntmps14
 replace hh:=l4.bI C hh
 have fr:=iB.refl E.B C w
 have ag:=aB.refl w.heap.size C
 go_wp2_with fail
 revert hsr;revert hws;revert b7;revert hh;revert hm;revert sb;revert fr;refine D0 (HW) ?_;rintro e w1 rfl fr sb hm hh b7 hws hsr
 go_wp2_with fail
 refine(cE b7).mono ?_;rintro e w2 ⟨rfl,hb2⟩
 revert fr sb hm hh b7 hws hsr;refine pL hb2 ?_;intro fr sb hm hh b7 hws hsr
 go_wp2_with fail
 refine(FX _ _ b7).mono ?_
 rintro r w3 ⟨rfl,⟨C3,rD,mW⟩,hf3⟩
 have sz:=fr.size
 replace fr:=fr.trans (hf3.mono (rQ u) (fun _ h=>h)) ag
 replace sb:=sb.mv hf3 rD (.inr (by decide))
 replace hm:=hm.mv hf3 rD (.inr ⟨by decide,by decide⟩)
 replace hh:=l4.bI C3 (hh.out.mv hf3 rD (.inr (by decide)))
 replace hws:=hws.mv hf3 rD (.inl iG)
 replace hsr:=hsr.mv hf3 rD (.inr (by decide))
 replace b7:=mW
 replace ag:=ag.trans rD sz
 clear sz rD hf3 mW
 obtain⟨hst,A1,n1,Nc,pn,tv,lv,hwc,bd,rfl,hdo⟩:=id b7
 obtain⟨Iq,Ir,Is,It,Iu,Iv,Iw,Ix,Iy,fy,-⟩:=hdo.ex
 unfold ep at fy
 have IC:=fun W (k:SB W C3 (cM u) bd 129 #[.pointer (some ⟨E.sg u,0,none⟩),.int .i64 D.res.code,.bool D.res.ok,.int .i64 D.res.val,.bool D.slow,.int .i64 D.task.sh,.int .i64 D.task.kind,.int .i64 D.task.key,.int .i64 D.limit,.int .i64 D.at_,Iq,Ir,Is,It,Iu,Iv,Iw,Ix,Iy])=>yc (d:=D) k
 have wkb:=hwc.blk
 obtain⟨xe,hxe⟩:∃ xe,(e.ws u).ended=xe:=⟨_,rfl⟩
 simp only[hxe] at wkb
 clear hst hwc hdo hxe
 go_wp2_with fail
 have F0:=EG (.int .i64 D.task.sh) (.int .i64 D.task.kind) (.int .i64 D.task.key)
 revert wkb;revert fy;revert hsr;revert hws;revert b7;revert hh;revert hm;revert sb;revert fr;refine DY ?_;intro fr sb hm hh b7 hws hsr fy wkb
 obtain⟨q1,q2,qi⟩:=bl sb wkb
 refine aA sb wkb 11 [([0,1,2,3,4,5,6,7,8],9)] [10] [11] (by kernel_rfl) (by kernel_rfl) ?_
 refine ai ?_;simp only[ox];repeat(go_big_quiet_step (fail))
 refine di rfl (fun K' hK'=> ?_);go_simp
 ((with_reducible refine(IC _ fy).mono ?_);rintro e w4 ⟨rfl,hb4⟩)
 revert fr sb hm hh b7 hws hsr fy wkb;refine pL hb4 ?_;intro fr sb hm hh b7 hws hsr fy wkb
 refine hK' _ _ (eJ sb wkb) ?_;clear hK' K'
 refine af ?_;try simp only[ox]
 repeat(go_big_quiet_step (fail))
 refine wpQuiet_nil ?_
 refine ae _ _ _ (by kernel_rfl) ?_;try simp only[ox]
 clear qi q1 q2
 go_wp2_with fail
 refine(IB _ hh.out).mono ?_
 rintro r w5 ⟨rfl,hh5,hk5⟩
 have mX:=Fr.jj hk5 C3
 replace fr:=fr.hist hk5 ag
 replace sb:=sb.fr mX (.inr (by decide))
 replace hm:=hm.fr mX (.inr ⟨by decide,by decide⟩)
 replace b7:=b7.fr mX (.inr (by decide))
 replace hws:=hws.fr mX (.inr (by decide))
 replace hsr:=hsr.fr mX (.inr (by decide))
 replace hh:l4 w5 C3 E.B E.hb H1:=l4.bI _ ⟨hh5⟩
 clear mX hk5 hh5 fy wkb F0 IC
 skip
 go_wp2_with fail
 refine NoPanic.normal ?_
 go_wp2_with fail
 have hf':=sb.qh 7 (.int .i64 ((kg:Int)+1))
 replace fr:=fr.trans (hf'.mono yd (fun _ h=>h)) ag
 replace hm:=hm.fr hf' (.inr ⟨by decide,by decide⟩)
 replace hh:=hh.fr hf' (.inr (by decide))
 replace b7:=b7.fr hf' (.inr (by decide))
 replace hws:=hws.fr hf' (.inr (by decide))
 replace hsr:=hsr.fr hf' (.inr (by decide))
 replace sb:SB (w5.setCell ⟨b,7,none⟩ (.int .i64 ((kg:Int)+1))) C3 3 b 79 #[.int .i64 xp,.int .i64 E.M.L.th,.int .i64 E.M.L.nd,.int .i64 vg,.pointer (some ⟨E.M.b,0,none⟩),.pointer (some ⟨E.hb,0,none⟩),.slice A N cap,.int .i64 ((kg:Int)+1)]:=sb.ao 7 (.int .i64 ((kg:Int)+1))
 clear hf'
 skip
 go_wp2_with fail
 generalize(w5.setCell ⟨b,7,none⟩ (.int .i64 ((kg:Int)+1)))=w6 at *
 refine(lh _ _ hm (FY.out ▸ b7)).mono ?_
 rintro r w7 ⟨rfl,⟨C7,zk,At,BU⟩,zl⟩
 have sz:=fr.size
 replace fr:=fr.trans (zl.mono (rQ u) (fun _ h=>h)) ag
 replace sb:=sb.mv zl zk (.inr (by decide))
 replace hm:=At
 replace hh:=l4.bI C7 (hh.out.mv zl zk (.inr (by decide)))
 replace hws:=hws.mv zl zk (.inl iG)
 replace hsr:=hsr.mv zl zk (.inr (by decide))
 replace b7:=BU
 replace ag:=ag.trans zk sz
 clear sz zk zl BU At
 simp only[cy.tells,ku.xm,if_true]
 have z1:=sb
 revert hsr;revert hws;revert b7;revert hh;revert hm;revert sb;revert fr;refine DZ 49 #[.int .i64 d2.res.code,.bool d2.res.ok,.int .i64 d2.res.val] ?_;rintro w8 xn lrs fr rs sb hm hh b7 hws hsr
 go_wp2_with fail
 try simp only[xn]
 clear xn z1
 revert fr rs sb hm hh b7 hws hsr;refine DY ?_;intro fr rs sb hm hh b7 hws hsr
 obtain⟨q1,q2,qi⟩:=bl sb rs
 refine aA sb rs 6 [] [0,1,2,3,4,5] [6] (by kernel_rfl) (by kernel_rfl) ?_
 refine af ?_;try simp only[ox]
 repeat(go_big_quiet_step (fail))
 refine wpQuiet_nil ?_
 refine ae _ _ _ (by kernel_rfl) ?_;try simp only[ox]
 clear qi q1 q2
 go_wp2_with fail
 refine(KO _ hh.out).mono ?_
 rintro r w9 ⟨rfl,hh9,hk9⟩
 have mX:=Fr.jj hk9 C7
 replace fr:=fr.hist hk9 ag
 replace sb:=sb.fr mX (.inr (by decide))
 replace hm:=hm.fr mX (.inr ⟨by decide,by decide⟩)
 replace b7:=b7.fr mX (.inr (by decide))
 replace hws:=hws.fr mX (.inr (by decide))
 replace hsr:=hsr.fr mX (.inr (by decide))
 replace hh:l4 w9 C7 E.B E.hb (H1.end_ (u:Int) d2.res.code d2.res.ok d2.res.val):=l4.bI _ ⟨hh9⟩
 clear mX hk9 hh9 rs
 go_wp2_with fail
 refine NoPanic.normal ?_
 go_wp2_with fail
 go_ret
 refine⟨rfl,⟨_,ag,?_⟩,fr⟩
 rw[FZ.out]
 refine⟨⟨A,cap,?_,?_⟩,hm,hh,⟨fun v hv _=> ?_⟩⟩
 ·rw[←zM.out] at sb;rw[←xq.out,←xr.out,←xt.out] at sb;exact sb
 ·rw[←zM.out] at hsr;exact hsr
 ·by_cases hvu:v=u
  ·subst hvu;simp only[fI,if_true];exact b7
  ·simp only[fI,if_neg hvu];exact hws.at_ v hv hvu
theorem jl {E:fP} {e:aZ} (h:dx w C b E e) (u:Nat) (hu:u<E.n) (KN:u<8) (hl:(e.ws u).left≠0) (hs:e.steps<60000) (hlen:e.hist.evs.length≤990) (hf:(e.a7 E.M.L u).Fine E.M e.m (e.ws u).st) (d:aH) (cR:(e.ws u).now=some d) (hr1:(e.did E.M u).1=false):Calls Tryz.prog 14 #[.pointer (some ⟨b,0,none⟩),.int .i64 (u:Int)] w (zi C b E (.bool true) (e.next E.M u) w):=by
 have HW:=ch h u hu
 have HH:=h
 obtain⟨⟨A,cap,sb,hsr⟩,hm,hh,hwk⟩:=h
 obtain⟨N,hN⟩:∃ N,E.n=N:=⟨_,rfl⟩
 rw[hN] at sb hsr
 have zM:=Lib.hid hN
 have b7:=hwk.at_ u hu trivial
 have hws:dR w C E e.ws (fun v=>v≠u):=⟨fun v hv _=>hwk.at_ v hv trivial⟩
 clear hwk hN
 have dl:((e.ws u).left==0)=false:=beq_false_of_ne hl
 have ds:decide ((e.steps:Int)≥60000)=false:=decide_eq_false (by omega)
 have e1:wrap64 ((e.steps:Int)+1)=(e.steps:Int)+1:=IntWalk.wrap64_in _ (by omega)
 have hlt:(e.ws u).ended<(e.ws u).tasks.length:=by
  obtain⟨-,A0,n0,c0,p0,t0,l0,hc0,-⟩:=b7
  have h1:=hc0.le
  have h2:=hc0.len
  unfold cy.left at hl
  omega
 obtain⟨D,hD⟩:∃ D,e.a7 E.M.L u=D:=⟨_,rfl⟩
 rw[hD] at hf
 obtain⟨H1,hH1⟩:∃ H1,e.cU E.M.L u=H1:=⟨_,rfl⟩
 have BR:H1.evs.length≤1000:=by
  have:=hH1
  unfold aZ.cU at this
  split at this
  ·have h2:=HS.l1 e.hist ⟨(u:Int),false,(e.a7 E.M.L u).task.kind,(e.a7 E.M.L u).task.key,0,false,0⟩
   rw[←this]
   simp only[HS.step,Bool.false_eq_true,if_false] at h2
   omega
  ·rw[←this];omega
 have hDn:d=D:=by rw[←hD];unfold aZ.a7;rw[cR];rfl
 subst hDn
 have BS:e.hist=H1:=by rw[←hH1];unfold aZ.cU;rw[cR];rfl
 have hxn:(e.ws u).with_ d=e.ws u:=by unfold cy.with_;rw[←cR]
 obtain⟨X,hX⟩:∃ X,(e.ws u).with_ d=X:=⟨_,rfl⟩
 have zj:X.now=some d:=by rw[←hX]
 have BT:X.ended<X.tasks.length:=by rw[←hX];exact hlt
 have xo:X.st=(e.ws u).st:=by rw[←hX]
 rw[←xo] at hf
 have lh:=fun W C' (k0:aj W C' E.M e.m) (k:zK W C' E u X)=>gJ k0 k zj BT hf (by simp only[cM,cS];omega) (by simp only[cS];omega) (by simp only[cK,cM];omega) (by simp only[cK,cS];omega) (by simp only[cK];omega) (by simp only[cK,cQ];omega) (by simp only[cQ,cM];omega) (by simp only[cQ,cS];omega) (by simp only[cQ];omega)
 have pQ:ak E.M (u:Int) e.m X.st d=e.did E.M u:=by unfold aZ.did;rw[hD,xo]
 simp only[pQ] at lh
 obtain⟨r,hr⟩:∃ r,e.did E.M u=r:=⟨_,rfl⟩
 simp only[hr] at lh hr1
 obtain⟨r1,m',t2,d2⟩:=r
 simp only at hr1
 subst hr1
 have FY:=Lib.hid (zj)
 have FZ:Hid (e.next E.M u=⟨e.shape,e.tries,m',H1,fI e.ws u (X.stop (false,m',t2,d2)),e.steps+1⟩):=Lib.hid (by unfold aZ.next;rw[hr,hH1,hD,hX];rfl)
 rw[hxn] at hX
 rw[hX] at b7 dl
 rw[BS] at hh
 clear hxn BS
 obtain⟨xp,lj⟩:∃ xp,e.shape=xp:=⟨_,rfl⟩
 obtain⟨vg,jX⟩:∃ vg,e.tries=vg:=⟨_,rfl⟩
 have xq:=Lib.hid lj
 have xr:=Lib.hid jX
 obtain⟨kg,hstp⟩:∃ kg,e.steps=kg:=⟨_,rfl⟩
 have xt:=Lib.hid hstp
 rw[hstp] at ds e1
 rw[lj,jX,hstp] at sb
 clear lj jX hstp pQ hr hH1 hD hX hl hlt hf hs hlen zj BT xo
 go_enter Tryz.func14,Tryz.ntmps14
 replace hh:=l4.bI C hh
 have fr:=iB.refl E.B C w
 have ag:=aB.refl w.heap.size C
 go_wp2_with fail
 revert hsr;revert hws;revert b7;revert hh;revert hm;revert sb;revert fr;refine D0 (HW) ?_;rintro e w1 rfl fr sb hm hh b7 hws hsr
 go_wp2_with fail
 refine(cE b7).mono ?_;rintro e w2 ⟨rfl,hb2⟩
 revert fr sb hm hh b7 hws hsr;refine pL hb2 ?_;intro fr sb hm hh b7 hws hsr
 go_wp2_with fail
 obtain⟨-,A0,n0,c0,p0,t0,l0,hc0,hp0⟩:=id b7
 rw[FY.out] at hp0
 obtain⟨bd,rfl,-⟩:=hp0
 refine(gH hc0 vg).mono ?_;rintro e w3 ⟨rfl,hb3⟩
 clear hc0
 revert fr sb hm hh b7 hws hsr;refine pL hb3 ?_;intro fr sb hm hh b7 hws hsr
 go_wp2_with fail
 have hf':=sb.qh 7 (.int .i64 ((kg:Int)+1))
 replace fr:=fr.trans (hf'.mono yd (fun _ h=>h)) ag
 replace hm:=hm.fr hf' (.inr ⟨by decide,by decide⟩)
 replace hh:=hh.fr hf' (.inr (by decide))
 replace b7:=b7.fr hf' (.inr (by decide))
 replace hws:=hws.fr hf' (.inr (by decide))
 replace hsr:=hsr.fr hf' (.inr (by decide))
 replace sb:SB (w3.setCell ⟨b,7,none⟩ (.int .i64 ((kg:Int)+1))) C 3 b 79 #[.int .i64 xp,.int .i64 E.M.L.th,.int .i64 E.M.L.nd,.int .i64 vg,.pointer (some ⟨E.M.b,0,none⟩),.pointer (some ⟨E.hb,0,none⟩),.slice A N cap,.int .i64 ((kg:Int)+1)]:=sb.ao 7 (.int .i64 ((kg:Int)+1))
 clear hf'
 skip
 go_wp2_with fail
 generalize(w3.setCell ⟨b,7,none⟩ (.int .i64 ((kg:Int)+1)))=w4 at *
 refine(lh _ _ hm b7).mono ?_
 rintro r w5 ⟨rfl,⟨C5,zm,Fc,BV⟩,hf5⟩
 have sz:=fr.size
 replace fr:=fr.trans (hf5.mono (rQ u) (fun _ h=>h)) ag
 replace sb:=sb.mv hf5 zm (.inr (by decide))
 replace hm:=Fc
 replace hh:=l4.bI C5 (hh.out.mv hf5 zm (.inr (by decide)))
 replace hws:=hws.mv hf5 zm (.inl iG)
 replace hsr:=hsr.mv hf5 zm (.inr (by decide))
 replace b7:=BV
 replace ag:=ag.trans zm sz
 clear sz zm hf5 BV Fc
 simp only[cy.tells,ku.xm,Bool.false_eq_true,if_false]
 go_wp2_with fail
 have z1:=sb
 revert hsr;revert hws;revert b7;revert hh;revert hm;revert sb;revert fr;refine DZ 49 #[.int .i64 0,.bool false,.int .i64 0] ?_;rintro w6 xn lrs fr rs sb hm hh b7 hws hsr
 go_wp2_with fail
 try simp only[xn]
 clear xn z1
 go_ret
 refine⟨rfl,⟨_,ag,?_⟩,fr⟩
 rw[FZ.out]
 refine⟨⟨A,cap,?_,?_⟩,hm,hh,⟨fun v hv _=> ?_⟩⟩
 ·rw[←zM.out] at sb;rw[←xq.out,←xr.out,←xt.out] at sb;exact sb
 ·rw[←zM.out] at hsr;exact hsr
 ·by_cases hvu:v=u
  ·subst hvu;simp only[fI,if_true];exact b7
  ·simp only[fI,if_neg hvu];exact hws.at_ v hv hvu
theorem jB {E:fP} {e:aZ} (h:dx w C b E e) (u:Nat) (hu:u<E.n) (KN:u<8) (hl:(e.ws u).left≠0) (hs:e.steps<60000) (hlen:e.hist.evs.length≤990) (hf:(e.a7 E.M.L u).Fine E.M e.m (e.ws u).st) (d:aH) (cR:(e.ws u).now=some d) (hr1:(e.did E.M u).1=true):Calls Tryz.prog 14 #[.pointer (some ⟨b,0,none⟩),.int .i64 (u:Int)] w (zi C b E (.bool true) (e.next E.M u) w):=by
 have HW:=ch h u hu
 have HH:=h
 obtain⟨⟨A,cap,sb,hsr⟩,hm,hh,hwk⟩:=h
 obtain⟨N,hN⟩:∃ N,E.n=N:=⟨_,rfl⟩
 rw[hN] at sb hsr
 have zM:=Lib.hid hN
 have b7:=hwk.at_ u hu trivial
 have hws:dR w C E e.ws (fun v=>v≠u):=⟨fun v hv _=>hwk.at_ v hv trivial⟩
 clear hwk hN
 have dl:((e.ws u).left==0)=false:=beq_false_of_ne hl
 have ds:decide ((e.steps:Int)≥60000)=false:=decide_eq_false (by omega)
 have e1:wrap64 ((e.steps:Int)+1)=(e.steps:Int)+1:=IntWalk.wrap64_in _ (by omega)
 have hlt:(e.ws u).ended<(e.ws u).tasks.length:=by
  obtain⟨-,A0,n0,c0,p0,t0,l0,hc0,-⟩:=b7
  have h1:=hc0.le
  have h2:=hc0.len
  unfold cy.left at hl
  omega
 obtain⟨D,hD⟩:∃ D,e.a7 E.M.L u=D:=⟨_,rfl⟩
 rw[hD] at hf
 obtain⟨H1,hH1⟩:∃ H1,e.cU E.M.L u=H1:=⟨_,rfl⟩
 have BR:H1.evs.length≤1000:=by
  have:=hH1
  unfold aZ.cU at this
  split at this
  ·have h2:=HS.l1 e.hist ⟨(u:Int),false,(e.a7 E.M.L u).task.kind,(e.a7 E.M.L u).task.key,0,false,0⟩
   rw[←this]
   simp only[HS.step,Bool.false_eq_true,if_false] at h2
   omega
  ·rw[←this];omega
 have hDn:d=D:=by rw[←hD];unfold aZ.a7;rw[cR];rfl
 subst hDn
 have BS:e.hist=H1:=by rw[←hH1];unfold aZ.cU;rw[cR];rfl
 have hxn:(e.ws u).with_ d=e.ws u:=by unfold cy.with_;rw[←cR]
 obtain⟨X,hX⟩:∃ X,(e.ws u).with_ d=X:=⟨_,rfl⟩
 have zj:X.now=some d:=by rw[←hX]
 have BT:X.ended<X.tasks.length:=by rw[←hX];exact hlt
 have xo:X.st=(e.ws u).st:=by rw[←hX]
 rw[←xo] at hf
 have lh:=fun W C' (k0:aj W C' E.M e.m) (k:zK W C' E u X)=>gJ k0 k zj BT hf (by simp only[cM,cS];omega) (by simp only[cS];omega) (by simp only[cK,cM];omega) (by simp only[cK,cS];omega) (by simp only[cK];omega) (by simp only[cK,cQ];omega) (by simp only[cQ,cM];omega) (by simp only[cQ,cS];omega) (by simp only[cQ];omega)
 have pQ:ak E.M (u:Int) e.m X.st d=e.did E.M u:=by unfold aZ.did;rw[hD,xo]
 simp only[pQ] at lh
 obtain⟨r,hr⟩:∃ r,e.did E.M u=r:=⟨_,rfl⟩
 simp only[hr] at lh hr1
 obtain⟨r1,m',t2,d2⟩:=r
 simp only at hr1
 subst hr1
 have FY:=Lib.hid (zj)
 have FZ:Hid (e.next E.M u=⟨e.shape,e.tries,m',H1.end_ (u:Int) d2.res.code d2.res.ok d2.res.val,fI e.ws u (X.stop (true,m',t2,d2)),e.steps+1⟩):=Lib.hid (by unfold aZ.next;rw[hr,hH1,hD,hX];rfl)
 rw[hxn] at hX
 rw[hX] at b7 dl
 rw[BS] at hh
 clear hxn BS
 have KO:=fun W (k:gP W E.B E.hb H1)=>u9 E.hb H1 E.B (u:Int) d2.res.code d2.res.ok d2.res.val W k.at_ k.le BR
 obtain⟨xp,lj⟩:∃ xp,e.shape=xp:=⟨_,rfl⟩
 obtain⟨vg,jX⟩:∃ vg,e.tries=vg:=⟨_,rfl⟩
 have xq:=Lib.hid lj
 have xr:=Lib.hid jX
 obtain⟨kg,hstp⟩:∃ kg,e.steps=kg:=⟨_,rfl⟩
 have xt:=Lib.hid hstp
 rw[hstp] at ds e1
 rw[lj,jX,hstp] at sb
 clear lj jX hstp pQ hr hH1 hD hX hl hlt hf hs hlen zj BT xo
 go_enter Tryz.func14,Tryz.ntmps14
 replace hh:=l4.bI C hh
 have fr:=iB.refl E.B C w
 have ag:=aB.refl w.heap.size C
 go_wp2_with fail
 revert hsr;revert hws;revert b7;revert hh;revert hm;revert sb;revert fr;refine D0 (HW) ?_;rintro e w1 rfl fr sb hm hh b7 hws hsr
 go_wp2_with fail
 refine(cE b7).mono ?_;rintro e w2 ⟨rfl,hb2⟩
 revert fr sb hm hh b7 hws hsr;refine pL hb2 ?_;intro fr sb hm hh b7 hws hsr
 go_wp2_with fail
 obtain⟨-,A0,n0,c0,p0,t0,l0,hc0,hp0⟩:=id b7
 rw[FY.out] at hp0
 obtain⟨bd,rfl,-⟩:=hp0
 refine(gH hc0 vg).mono ?_;rintro e w3 ⟨rfl,hb3⟩
 clear hc0
 revert fr sb hm hh b7 hws hsr;refine pL hb3 ?_;intro fr sb hm hh b7 hws hsr
 go_wp2_with fail
 have hf':=sb.qh 7 (.int .i64 ((kg:Int)+1))
 replace fr:=fr.trans (hf'.mono yd (fun _ h=>h)) ag
 replace hm:=hm.fr hf' (.inr ⟨by decide,by decide⟩)
 replace hh:=hh.fr hf' (.inr (by decide))
 replace b7:=b7.fr hf' (.inr (by decide))
 replace hws:=hws.fr hf' (.inr (by decide))
 replace hsr:=hsr.fr hf' (.inr (by decide))
 replace sb:SB (w3.setCell ⟨b,7,none⟩ (.int .i64 ((kg:Int)+1))) C 3 b 79 #[.int .i64 xp,.int .i64 E.M.L.th,.int .i64 E.M.L.nd,.int .i64 vg,.pointer (some ⟨E.M.b,0,none⟩),.pointer (some ⟨E.hb,0,none⟩),.slice A N cap,.int .i64 ((kg:Int)+1)]:=sb.ao 7 (.int .i64 ((kg:Int)+1))
 clear hf'
 skip
 go_wp2_with fail
 generalize(w3.setCell ⟨b,7,none⟩ (.int .i64 ((kg:Int)+1)))=w4 at *
 refine(lh _ _ hm b7).mono ?_
 rintro r w5 ⟨rfl,⟨C5,zm,Fc,BV⟩,hf5⟩
 have sz:=fr.size
 replace fr:=fr.trans (hf5.mono (rQ u) (fun _ h=>h)) ag
 replace sb:=sb.mv hf5 zm (.inr (by decide))
 replace hm:=Fc
 replace hh:=l4.bI C5 (hh.out.mv hf5 zm (.inr (by decide)))
 replace hws:=hws.mv hf5 zm (.inl iG)
 replace hsr:=hsr.mv hf5 zm (.inr (by decide))
 replace b7:=BV
 replace ag:=ag.trans zm sz
 clear sz zm hf5 BV Fc
 simp only[cy.tells,ku.xm,if_true]
 have z1:=sb
 revert hsr;revert hws;revert b7;revert hh;revert hm;revert sb;revert fr;refine DZ 49 #[.int .i64 d2.res.code,.bool d2.res.ok,.int .i64 d2.res.val] ?_;rintro w6 xn lrs fr rs sb hm hh b7 hws hsr
 go_wp2_with fail
 try simp only[xn]
 clear xn z1
 revert fr rs sb hm hh b7 hws hsr;refine DY ?_;intro fr rs sb hm hh b7 hws hsr
 obtain⟨q1,q2,qi⟩:=bl sb rs
 refine aA sb rs 6 [] [0,1,2,3,4,5] [6] (by kernel_rfl) (by kernel_rfl) ?_
 refine af ?_;try simp only[ox]
 repeat(go_big_quiet_step (fail))
 refine wpQuiet_nil ?_
 refine ae _ _ _ (by kernel_rfl) ?_;try simp only[ox]
 clear qi q1 q2
 go_wp2_with fail
 refine(KO _ hh.out).mono ?_
 rintro r w7 ⟨rfl,hh7,KP⟩
 have mX:=Fr.jj KP C5
 replace fr:=fr.hist KP ag
 replace sb:=sb.fr mX (.inr (by decide))
 replace hm:=hm.fr mX (.inr ⟨by decide,by decide⟩)
 replace b7:=b7.fr mX (.inr (by decide))
 replace hws:=hws.fr mX (.inr (by decide))
 replace hsr:=hsr.fr mX (.inr (by decide))
 replace hh:l4 w7 C5 E.B E.hb (H1.end_ (u:Int) d2.res.code d2.res.ok d2.res.val):=l4.bI _ ⟨hh7⟩
 clear mX KP hh7 rs
 go_wp2_with fail
 refine NoPanic.normal ?_
 go_wp2_with fail
 go_ret
 refine⟨rfl,⟨_,ag,?_⟩,fr⟩
 rw[FZ.out]
 refine⟨⟨A,cap,?_,?_⟩,hm,hh,⟨fun v hv _=> ?_⟩⟩
 ·rw[←zM.out] at sb;rw[←xq.out,←xr.out,←xt.out] at sb;exact sb
 ·rw[←zM.out] at hsr;exact hsr
 ·by_cases hvu:v=u
  ·subst hvu;simp only[fI,if_true];exact b7
  ·simp only[fI,if_neg hvu];exact hws.at_ v hv hvu
theorem dx.n8 {E:fP} {e:aZ} (h:dx w C b E e):(E.n:Int)=E.M.L.th∧E.n≤8:=by
 have:=h.mem.ok.th
 unfold fP.n
 omega
theorem ni {E:fP} {e:aZ} (h:dx w C b E e) (u:Int) (hlen:e.hist.evs.length≤990) (hf:e.can E.M u=true→(e.a7 E.M.L u.toNat).Fine E.M e.m (e.ws u.toNat).st):
  Calls Tryz.prog 14 #[.pointer (some ⟨b,0,none⟩),.int .i64 u] w (zi C b E (.bool (e.can E.M u)) (e.pick E.M u) w):=by
 obtain⟨hn,KQ⟩:=h.n8
 have hc:e.can E.M u=(decide (0≤u) && decide (u<E.M.L.th) && decide ((e.ws u.toNat).left≠0) && decide (e.steps<60000)):=rfl
 by_cases hu:u<0
 ·have h1:e.can E.M u=false:=by rw[hc];simp;omega
  unfold aZ.pick;rw[h1]
  exact pO h u hu
 by_cases hu2:(E.n:Int)≤u
 ·have h1:e.can E.M u=false:=by rw[hc];simp;omega
  unfold aZ.pick;rw[h1]
  exact pP h u hu hu2
 obtain⟨v,rfl⟩:=Int.eq_ofNat_of_zero_le (by omega:0≤u)
 simp only[Int.toNat_natCast] at hc hf
 by_cases hl:(e.ws v).left=0
 ·have h1:e.can E.M (v:Int)=false:=by rw[hc];simp[hl]
  unfold aZ.pick;rw[h1]
  exact mU h v (by omega) hl
 by_cases hs:60000≤e.steps
 ·have h1:e.can E.M (v:Int)=false:=by rw[hc];simp;omega
  unfold aZ.pick;rw[h1]
  exact mV h v (by omega) hl hs
 have h1:e.can E.M (v:Int)=true:=by rw[hc];simp[hl];omega
 unfold aZ.pick
 rw[h1]
 simp only[if_true,Int.toNat_natCast]
 have hf':=hf h1
 cases cR:(e.ws v).now with
 | none=>
  cases hr:(e.did E.M v).1 with
  | false=>exact jk h v (by omega) (by omega) hl (by omega) hlen hf' cR hr
  | true=>exact jA h v (by omega) (by omega) hl (by omega) hlen hf' cR hr
 | some d=>
  cases hr:(e.did E.M v).1 with
  | false=>exact jl h v (by omega) (by omega) hl (by omega) hlen hf' d cR hr
  | true=>exact jB h v (by omega) (by omega) hl (by omega) hlen hf' d cR hr
def aZ.dY (L:Ly) (e:aZ) (u:Int):Int:=if 0≤u∧u<L.th then (e.ws u.toNat).left else 0
theorem nj {E:fP} {e:aZ} (h:dx w C b E e) (u:Int):Calls Tryz.prog 13 #[.pointer (some ⟨b,0,none⟩),.int .i64 u] w fun r w'=>r= .returned (.int .i64 (e.dY E.M.L u))∧Below w.heap.size w w':=by
 obtain⟨hn,KQ⟩:=h.n8
 by_cases hu:0≤u∧u<E.M.L.th
 ·obtain⟨v,rfl⟩:=Int.eq_ofNat_of_zero_le hu.1
  have h1:e.dY E.M.L (v:Int)=(e.ws v).left:=by unfold aZ.dY;rw[if_pos hu];rfl
  rw[h1]
  have hv:v<E.n:=by omega
  have HW:=ch h v hv
  have HL:=fun W (k:zK W C E v (e.ws v))=>cE k
  obtain⟨lf,hlf⟩:∃ lf,(e.ws v).left=lf:=⟨_,rfl⟩
  rw[hlf] at HL⊢
  clear h1 hlf hu hn
  go_enter Tryz.func13,Tryz.ntmps13
  go_wp2_with fail
  refine HW.mono ?_
  rintro r w1 ⟨rfl,hb⟩
  have h1:=h.step hb
  go_wp2_with fail
  refine(HL _ (h1.wk.at_ v hv trivial)).mono ?_
  rintro r w2 ⟨rfl,hb2⟩
  go_wp2_with fail
  go_ret
  exact⟨rfl,hb.trans (hb2.mono hb.size)⟩
 ·have h1:e.dY E.M.L u=0:=by unfold aZ.dY;rw[if_neg hu]
  rw[h1]
  have HW:Calls Tryz.prog 28 #[.pointer (some ⟨b,0,none⟩),.int .i64 u] w fun r w'=>r= .returned (.pointer none)∧Below w.heap.size w w':=by
   by_cases hu0:u<0
   ·exact iD h u hu0
   ·exact iF h u hu0 (by omega)
  clear h1 hu hn
  go_enter Tryz.func13,Tryz.ntmps13
  go_wp2_with fail
  refine HW.mono ?_
  rintro r w1 ⟨rfl,hb⟩
  go_wp2_with fail
  go_ret
  exact⟨rfl,hb⟩
theorem vh {E:fP} {e:aZ} (h:dx w C b E e) (a:Int):Calls Tryz.prog 11 #[.pointer (some ⟨b,0,none⟩),.int .i64 a] w fun r w'=>r= .returned (.int .u64 (ld E.M e.m a))∧w=w':=by
 obtain⟨⟨A,cap,sb,hsr⟩,hm,-,-⟩:=h
 have hc:=sb.blk.cells
 have HP:=gk hm a
 clear hsr
 go_enter Tryz.func11,Tryz.ntmps11
 go_wp2_with fail
 refine HP.mono ?_
 rintro r w1 ⟨rfl,rfl⟩
 go_wp2_with fail
 go_ret
 exact⟨rfl,rfl⟩
theorem nm {E:fP} {e:aZ} (h:dx w C b E e) (hlen:e.hist.evs.length≤1000):Calls Tryz.prog 15 #[.pointer (some ⟨b,0,none⟩)] w fun r w'=>∃ b',r= .returned (.pointer (some ⟨b',0,none⟩))∧HAt w' w.heap.size b' e.hist∧Below w.heap.size w w':=by
 obtain⟨⟨A,cap,sb,hsr⟩,-,hh,-⟩:=h
 have hc:=sb.blk.cells
 have HP:=zg E.hb e.hist E.B w hh.at_ hlen
 clear hsr
 go_enter Tryz.func15,Tryz.ntmps15
 go_wp2_with fail
 refine HP.mono ?_
 rintro r w1 ⟨b',rfl,h1,h2⟩
 go_wp2_with fail
 go_ret
 exact⟨b',rfl,h1,h2⟩
theorem qW {E:fP} {e:aZ} (h:dx w C b E e):Calls Tryz.prog 9 #[.pointer (some ⟨b,0,none⟩)] w fun r w'=>r= .returned E.M.L.val∧Below w.heap.size w w':=by
 obtain⟨⟨A,cap,sb,hsr⟩,hm,-,-⟩:=h
 obtain⟨qn,qk,qa,qo,qx,qq,mb⟩:=hm.blk
 have hc:=sb.blk.cells
 have hc2:=mb.blk.cells
 have hl:=sb.blk.lt
 have hl2:=mb.blk.lt
 obtain⟨th,hth⟩:∃ th,E.M.L.th=th:=⟨_,rfl⟩
 obtain⟨nd,hnd⟩:∃ nd,E.M.L.nd=nd:=⟨_,rfl⟩
 have HT:=Lib.hid hth
 have HN:=Lib.hid hnd
 rw[hth,hnd] at hc hc2
 have BO:=(a8.new w 31 #[.int .i64 th,.int .i64 nd]).cells
 clear hsr hm sb mb hth hnd
 go_enter Tryz.func9,Tryz.ntmps9
 go_wp2_with fail
 refine bodyPost_ret (v:= .agg #[.int .i64 th,.int .i64 nd]) (by simp[results,Tryz.results9,go_sem,BO]) rfl ⟨by unfold Ly.val;rw[HT.out,HN.out],(Below.refl _ _).alloc (Nat.le_refl _) _⟩
theorem BW:(Tryz.prog.info? 34).map (fun i=>(i.zero,i.size,i.bytes))=some (some (.int .u64 0),1,8):=by kernel_rfl
theorem ID:(Tryz.prog.info? 34).map (·.size)=some 1:=by kernel_rfl
theorem xu (n:Nat):madeCells (Value.int .u64 0).cells n=eY n (fun _=>0):=by
 unfold madeCells eY
 apply Array.ext'
 have h:(Value.int .u64 0).cells= #[.int .u64 0]:=rfl
 rw[h]
 simp[Nat.mod_one]
theorem zn (z:Int) (h0:0≤z) (h1:z≤100000) (W:World):(Instr.makeSlice 59 (.int .i64 z) (.int .i64 z)).run Tryz.prog W= .ok (.slice (some ⟨W.heap.size,0,none⟩) z.toNat z.toNat) (W.alloc (.cells (eY z.toNat (fun _=>0)) 34)):=by
 obtain⟨i0,hi,hz0,hz1,hz2⟩:=info_parts BW
 rw[run_make W 59 34 i0 _ Tryz.underlying59 hi hz0 .i64 .i64 z z h0 (Int.le_refl _) (by rw[hz2];simp;omega) (by omega),hz1,Nat.mul_one,xu]
structure IE (L:Ly) (C:Nat→Nat) (w:World) (e:Ending) (w':World):Prop where
 ex:∃ M:ML,e= .returned (.tuple #[.pointer (some ⟨M.b,0,none⟩),.int .i64 0])∧M.L=L∧aj w' (a9 C w.heap.size 1) M (fun _=>0)
 bel:Below w.heap.size w w'
theorem D5 (L:Ly) (hL:L.Ok) (C:Nat→Nat) (w:World):Calls Tryz.prog 48 #[L.val,.slice none 0 0] w (IE L C w):=by
 have HR:=fun W=>kt L hL W
 have HZ:=fun W=>Ab L hL W
 obtain⟨z,hz⟩:∃ z,L.size=z:=⟨_,rfl⟩
 have L7:0≤z∧z≤100000:=by have h1:=hL.th;have h2:=hL.nd;rw[←hz];simp only[Ly.size];omega
 simp only[hz] at HZ
 have hmk:=zn z L7.1 L7.2
 have dz:decide ((0:Int)>z)=false:=decide_eq_false (by omega)
 obtain⟨C1,tt⟩:∃ C1,C1=a9 C w.heap.size 1:=⟨_,rfl⟩
 have hnew:∀ g,w.heap.size≤g→C1 g=1:=fun g hg=>by rw[tt];exact aO C 1 hg
 have HZ2:=Lib.hid hz
 obtain⟨th,hth⟩:∃ th,L.th=th:=⟨_,rfl⟩
 obtain⟨nd,hnd⟩:∃ nd,L.nd=nd:=⟨_,rfl⟩
 have HT:=Lib.hid hth
 have HN:=Lib.hid hnd
 have IF:L.val= .agg #[.int .i64 th,.int .i64 nd]:=by simp only[Ly.val,hth,hnd]
 simp only[IF] at HR HZ⊢
 clear hz hth hnd IF
 have sb:SB (w.alloc (.cells #[.int .i64 th,.int .i64 nd] 31)) C1 1 w.heap.size 31 #[.int .i64 th,.int .i64 nd]:=SB.new w C1 (hnew _ (Nat.le_refl _)) _ _ rfl
 have Fo:Below w.heap.size w (w.alloc (.cells #[.int .i64 th,.int .i64 nd] 31)):=(Below.refl _ _).alloc (Nat.le_refl _) _
 go_enter Tryz.func48,Tryz.ntmps48
 have fr:=Fr.refl C1 (fun _=>False) [] (w.alloc (.cells #[.int .i64 th,.int .i64 nd] 31))
 have ag:=aB.refl (w.alloc (.cells #[.int .i64 th,.int .i64 nd] 31)).heap.size C1
 go_wp2_with fail
 revert sb;revert fr;refine bk (HR _) ?_;rintro e w1 rfl fr sb
 go_wp2_with fail
 revert fr sb;refine bk (HZ _) ?_;rintro e w2 rfl fr sb
 go_wp2_with fail
 revert fr sb;refine bD ?_;intro fr sb
 obtain⟨q1,qi⟩:=aV sb
 refine ar sb 5 [([0,1],2),([],3)] [4] [5,6] (by kernel_rfl) (by kernel_rfl) ?_
 refine ai ?_;simp only[ox];repeat(go_big_quiet_step (fail))
 refine di rfl (fun K' hK'=> ?_);go_simp
 revert fr sb;with_reducible refine bk (HZ _) ?_;rintro e w3 rfl fr sb
 refine hK' _ _ (bZ sb) ?_;clear hK' K'
 refine ai ?_;simp only[ox];repeat(go_big_quiet_step (fail))
 have szA:=fr.size
 refine di rfl (fun K' hK'=> ?_);go_simp
 revert fr sb;refine bx1 34 (eY z.toNat (fun _=>0)) ?_;rintro w4 e1 NF fr wr sb;rw[e1]
 refine hK' _ _ (bZ sb) ?_;clear hK' K' e1
 refine af ?_;try simp only[ox]
 repeat(go_big_quiet_step (fail))
 refine wpQuiet_nil ?_
 refine ae _ _ _ (by kernel_rfl) ?_;try simp only[ox]
 clear qi q1
 go_wp2_with fail
 refine NoPanic.normal ?_
 skip
 have mb:=SB.new w4 C1 (rfl:C1 w4.heap.size=_) 75 #[.int .i64 th,.int .i64 nd,.slice (some ⟨w3.heap.size,0,none⟩) z.toNat z.toNat,.int .i64 0,.int .i64 0,.int .i64 0,.int .u64 0,.int .u64 0,.bool false] rfl
 have NG:=wr.lt
 have NH:=mb.lt
 have KR:=fr.size
 have hcm:=mb.blk.cells
 have hcp:=fun W=>run_copy_none (P:=Tryz.prog) W 59 59 3 34 (some ⟨w3.heap.size,0,none⟩) none z.toNat z.toNat 0 0 Tryz.underlying59 ID (by simp)
 go_wp2_with fail
 go_ret2
 refine⟨⟨⟨_,w3.heap.size,L⟩,rfl,rfl,?_⟩,Fo.trans (((fr.below (fun _ _ h=>h) (Nat.le_refl _)).mono (by simp)).alloc (by simp at KR;omega) _)⟩
 rw[←tt]
 have hn4:=hnew w4.heap.size (by simp at KR szA;omega)
 have hn3:=hnew w3.heap.size (by simp at KR szA;omega)
 refine⟨hL,⟨0,0,0,0,0,false,SB.mk ?_ hn4⟩,SB.mk ?_ hn3,fun i=>by omega⟩
 ·have:=mb.blk
  simp only[HT.out,HN.out,ML.sz,HZ2.out]
  exact this
 ·have:=(wr.alloc (.cells #[.int .i64 th,.int .i64 nd,.slice (some ⟨w3.heap.size,0,none⟩) z.toNat z.toNat,.int .i64 0,.int .i64 0,.int .i64 0,.int .u64 0,.int .u64 0,.bool false] 75)).blk
  simp only[ML.sz,HZ2.out]
  exact this
theorem IG:(Tryz.prog.info? 52).map (·.size)=some 1:=by kernel_rfl
structure dF (w:World) (B:Nat) (A:Option Addr) (n:Nat) (ops:List (List Opn)):Prop where
 len:ops.length=n
 ex:∃ vs:List Value,Sl w B 1 A n vs∧∀ (i:Nat) (l:List Opn),ops[i]? =some l→∃ A' n' c',vs[i]? =some (.slice A' n' c')∧Sl w B 2 A' n' (l.flatMap Opn.cells)∧l.length=n'
variable {w':World}
theorem dF.below {B n:Nat} {A:Option Addr} {ops:List (List Opn)} (h:dF w B A n ops) (hb:Below B w w'):dF w' B A n ops:=by
 obtain⟨vs,h1,h2⟩:=h.ex
 exact⟨h.len,vs,h1.below hb,fun i l hl=>by obtain⟨A',n',c',h3,h4,h5⟩:=h2 i l hl;exact⟨A',n',c',h3,h4.below hb,h5⟩⟩
theorem dF.at_ {B n:Nat} {A:Option Addr} {ops:List (List Opn)} (h:dF w B A n ops) {i:Nat} {l:List Opn} (hl:ops[i]? =some l):∃ A' n' c',w.cell? ⟨bt A,bY A+i,none⟩=some (.slice A' n' c')∧Sl w B 2 A' n' (l.flatMap Opn.cells)∧l.length=n':=by
 obtain⟨vs,h1,h2⟩:=h.ex
 obtain⟨A',n',c',h3,h4,h5⟩:=h2 i l hl
 have hi:i<n:=by rw[←h.len];exact(List.getElem?_eq_some_iff.1 hl).1
 exact⟨A',n',c',(h1.cell i (by omega)).trans h3,h4,h5⟩
theorem dF.idx {B n cap:Nat} {A:Option Addr} {ops:List (List Opn)} (h:dF w B A n ops) {i:Nat} (hi:i<n):∀ W,(Instr.indexAt 22 (.slice A n cap) (.int .i64 (i:Int))).run Tryz.prog W= .ok (.pointer (some ⟨bt A,bY A+i,none⟩)) W:=by
 obtain⟨vs,h1,-⟩:=h.ex
 have:=h1.idx (P:=Tryz.prog) (c:=cap) Tryz.underlying22 IG hi
 simpa using this
theorem dF.lt {B n:Nat} {A:Option Addr} {ops:List (List Opn)} (h:dF w B A n ops) {i:Nat} (hi:i<n):bt A<B:=by
 obtain⟨vs,h1,-⟩:=h.ex
 exact h1.blt (by omega)
structure vi (shape tries:Int) (L:Ly):Prop where
 shape:1≤shape∧shape≤4
 tries:0≤tries∧tries≤50
 lay:L.Ok
theorem tg (shape tries:Int) (L:Ly) (h:vi shape tries L) (w:World):Calls Tryz.prog 43 #[.agg #[.int .i64 shape,.int .i64 L.th,.int .i64 L.nd,.int .i64 tries]] w fun e w'=>e= .returned (.int .i64 0)∧Below w.heap.size w w':=by
 have HR:=fun W=>kt L h.lay W
 obtain⟨th,hth⟩:∃ th,L.th=th:=⟨_,rfl⟩
 obtain⟨nd,hnd⟩:∃ nd,L.nd=nd:=⟨_,rfl⟩
 have IF:L.val= .agg #[.int .i64 th,.int .i64 nd]:=by simp only[Ly.val,hth,hnd]
 have d1:decide (shape<1)=false:=decide_eq_false (by have:=h.shape;omega)
 have d2:decide (shape>4)=false:=decide_eq_false (by have:=h.shape;omega)
 have d3:decide (tries<0)=false:=decide_eq_false (by have:=h.tries;omega)
 have d4:decide (tries>50)=false:=decide_eq_false (by have:=h.tries;omega)
 simp only[IF,hth,hnd] at HR⊢
 clear hth hnd IF
 have hb1:Below w.heap.size w (w.alloc (.cells #[.int .i64 shape,.int .i64 th,.int .i64 nd,.int .i64 tries] 65)):=(Below.refl _ _).alloc (Nat.le_refl _) _
 have x1:=a8.new w 65 #[.int .i64 shape,.int .i64 th,.int .i64 nd,.int .i64 tries]
 have hc1:=x1.cells
 have hb2:=hb1.alloc (by simp) (.cells #[.int .i64 th,.int .i64 nd] 31)
 have x2:=x1.alloc (.cells #[.int .i64 th,.int .i64 nd] 31)
 have hc2:=x2.cells
 have y2:=a8.new (w.alloc (.cells #[.int .i64 shape,.int .i64 th,.int .i64 nd,.int .i64 tries] 65)) 31 #[.int .i64 th,.int .i64 nd]
 have hd2:=y2.cells
 go_enter Tryz.func43,Tryz.ntmps43
 go_wp2_with fail
 refine(HR _).mono ?_
 rintro e w3 ⟨rfl,hb3⟩
 have x3:=x2.step hb3
 have hc3:=x3.cells
 have hb:=hb2.trans (hb3.mono hb2.size)
 clear hc1 hc2 hd2
 go_wp2_with fail
 go_ret
 exact⟨rfl,hb⟩
theorem vj (shape tries:Int) (L:Ly) (hL:L.Ok) (A:Option Addr) (n cap B:Nat) (ops:List (List Opn)) (w:World) (hs:dF w B A n ops) (hB:B≤w.heap.size) (xw:∀ l∈ops,l.length≤40) (hn:(n:Int)≤L.th):Calls Tryz.prog 44 #[.agg #[.int .i64 shape,.int .i64 L.th,.int .i64 L.nd,.int .i64 tries],.slice A n cap] w fun e w'=>e= .returned (.bool false)∧Below w.heap.size w w':=by
 obtain⟨th,hth⟩:∃ th,L.th=th:=⟨_,rfl⟩
 obtain⟨nd,hnd⟩:∃ nd,L.nd=nd:=⟨_,rfl⟩
 have KQ:n≤8:=by have:=hL.th;omega
 rw[hth] at hn
 simp only[hth,hnd]
 have dn:decide ((n:Int)>th)=false:=decide_eq_false (by omega)
 clear hth hnd
 obtain⟨N,hN⟩:∃ N,w.heap.size=N:=⟨_,rfl⟩
 rw[hN] at hB⊢
 have hb1:Below N w (w.alloc (.cells #[.int .i64 shape,.int .i64 th,.int .i64 nd,.int .i64 tries] 65)):=(Below.refl _ _).alloc (by omega) _
 have x1:=a8.newAt w 65 #[.int .i64 shape,.int .i64 th,.int .i64 nd,.int .i64 tries] hN.symm
 have hc1:=x1.cells
 have HW:=Lib.hid hN
 go_enter Tryz.func44,Tryz.ntmps44
 go_wp2_with fail
 clear hN
 generalize(w.alloc (.cells #[.int .i64 shape,.int .i64 th,.int .i64 nd,.int .i64 tries] 65))=w1 at *
 go_loopw [9] (fun i wr=>∃ k:Nat,k≤n∧i= .int .i64 k∧wr=w1) (fun i _=>n - (intOf i).toNat)
 case atStart=>exact⟨0,by omega,rfl,rfl⟩
 case round=>
  obtain⟨k,hk,rfl,rfl⟩:=hrel
  by_cases hlt:k<n
  ·have dk:decide ((k:Int)<(n:Int))=true:=decide_eq_true (by omega)
   obtain⟨l,hl⟩:∃ l,ops[k]? =some l:=⟨_,List.getElem?_eq_getElem (by rw[hs.len];exact hlt)⟩
   have hsw:=hs.below (hb1.mono hB)
   obtain⟨A',n',c',f0,-,hln⟩:=hsw.at_ hl
   have hidx:=hsw.idx (cap:=cap) hlt
   have h4:=xw l (List.mem_of_getElem? hl)
   have d4:decide ((n':Int)>40)=false:=decide_eq_false (by omega)
   clear hsw hl h4 hln
   go_wp2_with fail
   go_roundw
   case rel=>exact⟨k+1,by omega,by go_num,by first | rfl | exact trivial⟩
   case measure=>simp[intOf]<;>omega
  ·have dk:decide ((k:Int)<(n:Int))=false:=decide_eq_false (by omega)
   go_wp2_with fail
   go_ret
   exact⟨rfl,hb1⟩
theorem mY (L:Ly) (me:Int) (hme:0≤me∧me≤7) (C:Nat→Nat) (c s k q:Nat) (A:Option Addr) (n cap:Nat) (tasks:List bq) (w:World) (hsr:Sr w C k 85 3 A n (tasks.flatMap bq.cells)) (hln:tasks.length=n) (hn:n≤1000):
  Calls Tryz.prog 47 #[L.val,.int .i64 me,.slice A n cap] w fun e w'=>(∃ b sg C',e= .returned (.pointer (some ⟨b,0,none⟩))∧aB w.heap.size C C'∧ji w' C' c s k q sg b L me ⟨⟨0,[]⟩,tasks,0,none⟩)∧Below w.heap.size w w':=by
 have hb1:Below w.heap.size w (w.alloc (.cells #[.int .i64 L.th,.int .i64 L.nd] 31)):=(Below.refl _ _).alloc (Nat.le_refl _) _
 have x1:=a8.new w 31 #[.int .i64 L.th,.int .i64 L.nd]
 have hc1:=x1.cells
 have HN:=fun C' W=>yJ L me hme C' s W
 have HS:=Lib.hid hsr
 clear hsr
 go_enter Tryz.func47,Tryz.ntmps47
 go_wp2_with fail
 refine(HN C _).mono ?_
 rintro e w2 ⟨⟨sg,rfl,-,hst⟩,hb2⟩
 have hb:=hb1.trans (hb2.mono hb1.size)
 have hs2:=hb.size
 clear hc1
 go_wp2_with fail
 go_ret
 obtain⟨C1,tt⟩:∃ C1,C1=a9 C (w.alloc (.cells #[.int .i64 L.th,.int .i64 L.nd] 31)).heap.size s:=⟨_,rfl⟩
 have nT:aB w.heap.size C C1:=by rw[tt];intro g hg;exact cu C s (by simp;omega)
 rw[←tt] at hst
 obtain⟨C2,hC2⟩:∃ C2,C2=a9 C1 w2.heap.size k:=⟨_,rfl⟩
 have Bc:aB w2.heap.size C1 C2:=by rw[hC2];exact aB.a9 _ _ _
 have hal:Below w2.heap.size w2 (w2.alloc (.cells #[.pointer (some ⟨sg,0,none⟩),.slice A n cap,.int .i64 0,.pointer none,.slice none 0 0,.slice none 0 0] 91)):=(Below.refl _ _).alloc (Nat.le_refl _) _
 refine⟨⟨w2.heap.size,sg,C2,rfl,nT.trans Bc hs2,(hst.nv Bc).step hal,A,n,cap,.pointer none,.slice none 0 0,.slice none 0 0,⟨SB.new w2 C2 (by rw[hC2];exact aO _ _ (Nat.le_refl _)) _ _ rfl,hln,hn,Nat.zero_le _,?_,⟨0,[],Row.nil_ _ _ _ _ _,rfl,rfl⟩,⟨0,[],Row.nil_ _ _ _ _ _,rfl,Nat.le_refl _⟩⟩,rfl⟩,hb.alloc hs2 _⟩
 exact((HS.out.nv (nT.trans Bc hs2)).step hb).step hal
end Go.Proofs.YtbcnnhlpilmmbaaGreat
