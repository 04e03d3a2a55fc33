/- Texts that are wanted for PTopClaims.
   Conditions: none. -/
import Derived.Test.YtbcnnhlpilmmbaaGreatJPTopClaims16
set_option maxRecDepth 100000
set_option maxHeartbeats 6400000
namespace Go.Proofs.YtbcnnhlpilmmbaaGreat
open Go Go.RowKit
structure MV (C:Nat→Nat) (c s:Nat) (LX:List (Option TypeId)) (v:Value) (M:ML) (m':Mm) (P:World→(Nat→Nat)→Prop) (w:World) (e:Ending) (w':World):Prop where
 ret:e= .returned v
 own:∃ C',aF w.heap.size C C'∧aj w' C' M m'∧P w' C'
 fr:Fr C (ef c s) LX w w'
def ic:List (Option TypeId):=[some 171,some 224,some 157,some 3,some 230,some 236]++xh
theorem xD:∀ x,x∈LM→x∈ic:=by decide
theorem Ek:∀ x,x∈wI→x∈ic:=by decide
theorem El:∀ x,x∈xh→x∈ic:=by decide
theorem Em:∀ x,x∈o8→x∈ic:=by decide
theorem En:∀ x,x∈AH→x∈ic:=by decide
theorem Eo:∀ x,x∈Ht→x∈ic:=by decide
theorem Ep:∀ x,x∈Gq→x∈ic:=by decide
theorem oD:∀ x,x∈Ke→x∈ic:=by decide
theorem yK:∀ x,x∈BI→x∈ic:=by decide
theorem pO:∀ x,x∈[some 171]→x∈ic:=by decide
variable {w:World} {C:Nat→Nat} {c s sg b:Nat} {M:ML} {m:Mm} {me:Int} {t:cg}
theorem xE {h:aM} (_:c≠s) (_:s≠1) (hm:aj w C M m) (hst:aq w C s sg M.L me t) (h':bI w C c s sg b M.L h) (hle:t.ret.length≤98000) (h0:h.at_=3) (hat:0≤h.exec.at_∧h.exec.at_≤9):Calls Tryz.prog 106 #[.pointer (some ⟨b,0,none⟩),.pointer (some ⟨M.b,0,none⟩)] w (MV C c s ic (.tuple #[]) M (ah M me m t h).2.1 (fun w' C'=>aq w' C' s sg M.L me (ah M me m t h).2.2.1∧bI w' C' c s sg b M.L (ah M me m t h).2.2.2) w):=by
 obtain⟨pe,pn,pf,pc,pp,sb,h1,h2,h3,h4,h5⟩:=h'.ex
 obtain⟨be,rfl,hex⟩:=h1 h0
 have HEX:=fun W C' (k1:aj W C' M m) (k2:gf W C' c be M.L h.exec)=>zy k1 k2 hat
 obtain⟨r,hr⟩:∃ r,bz M m h.exec=r:=⟨_,rfl⟩
 simp only[hr] at HEX
 obtain⟨r1,m',Hu⟩:=r
 have tx:=fun W C' (k1:aq W C' s sg M.L me t) (k2:eC W C' c sg b (.pointer (some ⟨be,0,none⟩)) pn pf pc pp h) (hp:0≤Hu.popped∧Hu.popped≤1000)=>vu k1 k2 (by omega) Hu.popped hp
 have HST:Hid (ah M me m t h=(false,m',if r1∧Hu.popped≠0 then t.retire [Hu.popped] else t,{ h with exec:=Hu,at_:=if r1 then 0 else 3 })):=Lib.hid (by unfold ah;simp only;rw[if_neg (by rw[h0];decide)];rw[if_neg (by rw[h0];decide)];rw[if_neg (by rw[h0];decide)];rw[if_pos h0];simp only[hr])
 unfold eC at sb
 clear hr
 obtain⟨u,no,rounds,limit,at_,found,⟨sh,kind,key⟩,⟨g0,⟨g1,g2,g3⟩,g4,g5,g6,g7,g8⟩,exec,bm,find,cl,az⟩:=h
 simp only at sb h0 hex HST tx HEX
 subst h0
 clear h' h1 h2 h3 h4 h5 hat
 go_enter Tryz.func106,Tryz.ntmps106
 have fr:=Fr.refl C (ef c s) ic w
 have ag:=aF.refl w.heap.size C
 go_wp2_with fail
 refine(HEX _ _ hm hex).mono ?_;clear hm hex;rintro e w1 ⟨rfl,hm,hex,hf⟩
 revert hst;revert sb;revert fr;refine eA hf (eW c s) Ek ag ?_;clear hf;intro fr sb hst
 try dsimp only at hm hex
 cases r1
 ·skip
  go_wp2_with fail
  go_end0
  exact⟨rfl,⟨_,ag,by rw[HST.out];exact hm,by rw[HST.out];exact⟨hst,⟨_,_,_,_,_,sb,fun _=>⟨be,rfl,hex⟩,fun h=>by simp at h,fun h=>by simp at h,fun h=>by simp at h,fun h=>by simp at h⟩⟩⟩,fr⟩
 ·skip
  have hpp:=hex.popped
  have Oj:=hex.blk
  go_wp2_with fail
  refine(tx _ _ hst sb hpp).mono ?_
  rintro e w9 ⟨rfl,⟨C9,dR,BY,bP⟩,bV⟩
  have gp:=ag.trans dR fr.size
  replace fr:=fr.trans (bV.mono (fun _ h=>h) Ep) ag
  replace hm:=hm.mv bV dR (.inr ⟨by decide,by decide⟩)
  go_wp2_with fail
  go_end0
  exact⟨rfl,⟨_,gp,by rw[HST.out];exact hm,by rw[HST.out];exact⟨by simpa using BY,⟨_,_,_,_,_,bP,fun h=>by simp at h,fun h=>by simp at h,fun h=>by simp at h,fun h=>by simp at h,fun h=>by simp at h⟩⟩⟩,fr⟩
theorem xF {h:aM} (_:c≠s) (_:s≠1) (hm:aj w C M m) (hst:aq w C s sg M.L me t) (h':bI w C c s sg b M.L h) (hle:t.ret.length≤98000) (h0:h.at_=4) (hmay:h.task.may=true) (hlv:h.bm.Live):Calls Tryz.prog 106 #[.pointer (some ⟨b,0,none⟩),.pointer (some ⟨M.b,0,none⟩)] w (MV C c s ic (.tuple #[]) M (ah M me m t h).2.1 (fun w' C'=>aq w' C' s sg M.L me (ah M me m t h).2.2.1∧bI w' C' c s sg b M.L (ah M me m t h).2.2.2) w):=by
 obtain⟨pe,pn,pf,pc,pp,sb,h1,h2,h3,h4,h5⟩:=h'.ex
 obtain⟨bn,rfl,hen⟩:=h2 h0
 have zA:=fun W C' (k1:aj W C' M m) (k2:aq W C' s sg M.L me t) (k3:fE W C' c s sg bn M.L h.bm)=>nL k1 k2 k3 (by omega) hlv
 obtain⟨r,hr⟩:∃ r,aK M me m t h.bm=r:=⟨_,rfl⟩
 simp only[hr] at zA
 obtain⟨r1,m',t2,Gr⟩:=r
 have tx:=fun W C' (k1:aq W C' s sg M.L me t2) (k2:bI W C' c s sg b M.L { h with bm:=Gr })=>tO hm.ok k1 k2 h0 hmay
 have HST:Hid (ah M me m t h=(false,m',t2,if r1=false then { h with bm:=Gr } else aM.ensured M.L me { h with bm:=Gr })):=Lib.hid (by unfold ah aM.ensured;simp only;rw[if_neg (by rw[h0];decide)];rw[if_neg (by rw[h0];decide)];rw[if_neg (by rw[h0];decide)];rw[if_neg (by rw[h0];decide)];rw[if_pos h0];simp only[hr])
 unfold eC at sb
 clear hr
 obtain⟨u,no,rounds,limit,at_,found,⟨sh,kind,key⟩,⟨g0,⟨g1,g2,g3⟩,g4,g5,g6,g7,g8⟩,exec,bm,find,cl,az⟩:=h
 simp only at sb h0 hen HST tx zA
 subst h0
 clear h' h1 h2 h3 h4 h5 hlv hmay
 go_enter Tryz.func106,Tryz.ntmps106
 have fr:=Fr.refl C (ef c s) ic w
 have ag:=aF.refl w.heap.size C
 go_wp2_with fail
 refine(zA _ _ hm hst hen).mono ?_;clear hm hst hen;rintro e w1 ⟨rfl,⟨C1,aG,hm,hst,hen⟩,hf⟩
 revert sb;revert fr;revert ag;refine kV hf aG (fun _ h=>h) El ?_;clear hf aG;intro ag fr sb
 try dsimp only at hm hst hen
 cases r1
 ·skip
  go_wp2_with fail
  go_end0
  exact⟨rfl,⟨_,ag,by rw[HST.out];exact hm,by rw[HST.out];exact⟨hst,⟨_,_,_,_,_,sb,fun h=>by simp at h,fun _=>⟨bn,rfl,hen⟩,fun h=>by simp at h,fun h=>by simp at h,fun h=>by simp at h⟩⟩⟩,fr⟩
 ·skip
  go_wp2_with fail
  refine(tx _ _ hst ⟨_,_,_,_,_,sb,fun h=>by simp at h,fun _=>⟨bn,rfl,hen⟩,fun h=>by simp at h,fun h=>by simp at h,fun h=>by simp at h⟩).mono ?_
  rintro e w9 ⟨rfl,⟨C9,dR,bP⟩,bV⟩
  have gp:=ag.trans dR fr.size
  replace fr:=fr.trans (bV.mono (aU c s) pO) ag
  replace hm:=hm.mv bV dR (.inr ⟨by decide,by decide⟩)
  replace hst:=hst.mv bV dR (.inr (by decide))
  go_wp2_with fail
  go_end0
  exact⟨rfl,⟨_,gp,by rw[HST.out];exact hm,by rw[HST.out];exact⟨hst,bP⟩⟩,fr⟩
theorem xG {h:aM} (hcs:c≠s) (hs1:s≠1) (hm:aj w C M m) (hst:aq w C s sg M.L me t) (h':bI w C c s sg b M.L h) (hle:t.ret.length≤98000) (h0:h.at_=5) (hmay:h.task.may=true) (hfo:h.find.Ok 100000) (hfa:0≤h.find.at_∧h.find.at_≤6) (fp:(aw M m h.find).2.2.Ok 100000):Calls Tryz.prog 106 #[.pointer (some ⟨b,0,none⟩),.pointer (some ⟨M.b,0,none⟩)] w (MV C c s ic (.tuple #[]) M (ah M me m t h).2.1 (fun w' C'=>aq w' C' s sg M.L me (ah M me m t h).2.2.1∧bI w' C' c s sg b M.L (ah M me m t h).2.2.2) w):=by
 obtain⟨pe,pn,pf,pc,pp,sb,h1,h2,h3,h4,h5⟩:=h'.ex
 obtain⟨bf,rfl,hfi⟩:=h3 h0
 have hKs:¬ Kc c s:=fun e=>e.elim (fun e=>hcs e.symm) hs1
 have hKf:¬ K0 s c:=fun e=>hcs e
 have BX:=fun W C' (k1:aj W C' M m) (k2:ff W C' c bf M.L h.find)=>m8 k1 k2 hfo hfa
 obtain⟨r,hr⟩:∃ r,aw M m h.find=r:=⟨_,rfl⟩
 simp only[hr] at BX fp
 obtain⟨r1,m',bU⟩:=r
 have tx:=fun W C' (k1:aq W C' s sg M.L me (t.retire bU.aO)) (k2:bI W C' c s sg b M.L { h with find:=bU })=>vt k1 k2 h0 hmay fp
 have HST:Hid (ah M me m t h=if r1 then (false,m',t.retire bU.aO,aM.bQ t.spare { h with find:=bU }) else (false,m',t,{ h with find:=bU })):=Lib.hid (by unfold ah;simp only;rw[if_neg (by rw[h0];decide)];rw[if_neg (by rw[h0];decide)];rw[if_neg (by rw[h0];decide)];rw[if_neg (by rw[h0];decide)];rw[if_neg (by rw[h0];decide)];rw[if_pos h0];simp only[hr,aM.sf])
 have hu2:=fp.aO
 have zv:=Lib.hid hu2.1
 have hle2:bU.aO.length≤100000:=by have:=hu2.2;simp only at this;omega
 unfold eC at sb
 clear hr hu2 hfo fp
 obtain⟨u,no,rounds,limit,at_,found,⟨sh,kind,key⟩,⟨g0,⟨g1,g2,g3⟩,g4,g5,g6,g7,g8⟩,exec,bm,find,cl,az⟩:=h
 simp only at sb h0 hfi HST tx BX
 subst h0
 clear h' h1 h2 h3 h4 h5 hfa hmay
 go_enter Tryz.func106,Tryz.ntmps106
 have fr:=Fr.refl C (ef c s) ic w
 have ag:=aF.refl w.heap.size C
 go_wp2_with fail
 refine(BX _ _ hm hfi).mono ?_;clear hm hfi;rintro e w1 ⟨rfl,⟨C1,aG,hm,hfi⟩,hf⟩
 replace hst:=hst.mv hf aG (.inl hKs)
 revert sb;revert fr;revert ag;refine kV hf aG (eW c s) Em ?_;clear hf aG;intro ag fr sb
 try dsimp only at hm hfi
 cases r1
 ·skip
  go_wp2_with fail
  go_end0
  exact⟨rfl,⟨_,ag,by rw[HST.out];exact hm,by rw[HST.out];exact⟨hst,⟨_,_,_,_,_,sb,fun h=>by simp at h,fun h=>by simp at h,fun _=>⟨bf,rfl,hfi⟩,fun h=>by simp at h,fun h=>by simp at h⟩⟩⟩,fr⟩
 ·skip
  obtain⟨pc1,hfc,-⟩:=id hfi.ex
  obtain⟨A1,n1,cap1,hn1,fi,hrow1⟩:=hfc.ex
  have u4:=Lib.hid hn1
  have iG:n1≤100000:=by omega
  have hsl:=Sl.de hrow1.own
  clear hn1 hrow1 hfc
  go_wp2_with fail
  revert fi;revert hfi;revert hst;revert hm;revert sb;revert fr;refine bK ?_;intro fr sb hm hst hfi fi
  obtain⟨q1,q2,qi⟩:=bD sb fi
  refine aC sb fi 11 [] [0,1,2,3,4,5,6,7,8,9,10] [11] (by kernel_rfl) (by kernel_rfl) ?_
  refine af ?_;try simp only[ox]
  repeat(go_big_quiet_step (fail))
  refine wpQuiet_nil ?_
  refine ae _ _ _ (by kernel_rfl) ?_;try simp only[ox]
  clear qi q1 q2
  go_wp2_with fail
  have hsl2:=hsl.step (Nat.le_refl _) (Below.refl w1.heap.size w1).drew
  refine(cE hst bU.aO A1 n1 cap1 _ hsl2 u4.out (by omega) iG zv.out).mono ?_;clear hst;rintro e w2 ⟨rfl,⟨C2,aG,hst⟩,hf⟩
  replace hfi:=hfi.mv hf aG (.inl hKf)
  revert ag fr sb hm fi;refine kV hf aG (eP c s) yK ?_;clear hf aG;intro ag fr sb hm fi
  clear hsl hsl2
  go_wp2_with fail
  refine NoPanic.normal ?_
  go_wp2_with fail
  refine(tx _ _ hst ⟨_,_,_,_,_,sb,fun h=>by simp at h,fun h=>by simp at h,fun _=>⟨bf,rfl,hfi⟩,fun h=>by simp at h,fun h=>by simp at h⟩).mono ?_
  rintro e w9 ⟨rfl,⟨C9,dR,bP⟩,bV⟩
  have gp:=ag.trans dR fr.size
  replace fr:=fr.trans (bV.mono (aU c s) pO) ag
  replace hm:=hm.mv bV dR (.inr ⟨by decide,by decide⟩)
  replace hst:=hst.mv bV dR (.inr (by decide))
  go_wp2_with fail
  go_end0
  exact⟨rfl,⟨_,gp,by rw[HST.out];exact hm,by rw[HST.out];exact⟨hst,bP⟩⟩,fr⟩
theorem xH {h:aM} (_:c≠s) (_:s≠1) (hm:aj w C M m) (hst:aq w C s sg M.L me t) (h':bI w C c s sg b M.L h) (_:t.ret.length≤98000) (h0:h.at_=7):Calls Tryz.prog 106 #[.pointer (some ⟨b,0,none⟩),.pointer (some ⟨M.b,0,none⟩)] w (MV C c s ic (.tuple #[]) M (ah M me m t h).2.1 (fun w' C'=>aq w' C' s sg M.L me (ah M me m t h).2.2.1∧bI w' C' c s sg b M.L (ah M me m t h).2.2.2) w):=by
 obtain⟨pe,pn,pf,pc,pp,sb,h1,h2,h3,h4,h5⟩:=h'.ex
 obtain⟨bc,rfl,hcl⟩:=h4 h0
 have AJ:=fun W C' (k1:aj W C' M m) (k2:gD W C' c bc M.L h.cl)=>lu k1 k2
 obtain⟨r,hr⟩:∃ r,a9 M m h.cl=r:=⟨_,rfl⟩
 simp only[hr] at AJ
 obtain⟨r1,m',IQ⟩:=r
 have HST:Hid (ah M me m t h=(false,m',t,{ h with cl:=IQ,at_:=if r1 then 0 else 7 })):=Lib.hid (by unfold ah;simp only;rw[if_neg (by rw[h0];decide)];rw[if_neg (by rw[h0];decide)];rw[if_neg (by rw[h0];decide)];rw[if_neg (by rw[h0];decide)];rw[if_neg (by rw[h0];decide)];rw[if_neg (by rw[h0];decide)];rw[if_neg (by rw[h0];decide)];rw[if_pos h0];simp only[hr])
 unfold eC at sb
 clear hr
 obtain⟨u,no,rounds,limit,at_,found,⟨sh,kind,key⟩,⟨g0,⟨g1,g2,g3⟩,g4,g5,g6,g7,g8⟩,exec,bm,find,cl,az⟩:=h
 simp only at sb h0 hcl HST AJ
 subst h0
 clear h' h1 h2 h3 h4 h5
 go_enter Tryz.func106,Tryz.ntmps106
 have fr:=Fr.refl C (ef c s) ic w
 have ag:=aF.refl w.heap.size C
 go_wp2_with fail
 refine(AJ _ _ hm hcl).mono ?_;clear hm hcl;rintro e w1 ⟨rfl,hm,hcl,hf⟩
 revert hst;revert sb;revert fr;refine eA hf (eW c s) En ag ?_;clear hf;intro fr sb hst
 try dsimp only at hm hcl
 cases r1
 ·skip
  go_wp2_with fail
  go_end0
  exact⟨rfl,⟨_,ag,by rw[HST.out];exact hm,by rw[HST.out];exact⟨hst,⟨_,_,_,_,_,sb,fun h=>by simp at h,fun h=>by simp at h,fun h=>by simp at h,fun _=>⟨bc,rfl,hcl⟩,fun h=>by simp at h⟩⟩⟩,fr⟩
 ·skip
  have z1:=sb
  revert hcl;revert hst;revert hm;revert fr;refine st1 sb 5 (.int .i64 0) (aU c s) ag ?_;clear sb;rintro w2 e1 fr sb hm hst hcl
  simp only[sx] at sb
  go_wp2_with fail
  clear z1 e1
  go_end0
  exact⟨rfl,⟨_,ag,by rw[HST.out];exact hm,by rw[HST.out];exact⟨hst,⟨_,_,_,_,_,sb,fun h=>by simp at h,fun h=>by simp at h,fun h=>by simp at h,fun h=>by simp at h,fun h=>by simp at h⟩⟩⟩,fr⟩
theorem xI {h:aM} (_:c≠s) (_:s≠1) (hm:aj w C M m) (hst:aq w C s sg M.L me t) (h':bI w C c s sg b M.L h) (_:t.ret.length≤98000) (h0:h.at_=8) (hk:0≤h.az.key):Calls Tryz.prog 106 #[.pointer (some ⟨b,0,none⟩),.pointer (some ⟨M.b,0,none⟩)] w (MV C c s ic (.tuple #[]) M (ah M me m t h).2.1 (fun w' C'=>aq w' C' s sg M.L me (ah M me m t h).2.2.1∧bI w' C' c s sg b M.L (ah M me m t h).2.2.2) w):=by
 obtain⟨pe,pn,pf,pc,pp,sb,h1,h2,h3,h4,h5⟩:=h'.ex
 obtain⟨bp,rfl,hpr⟩:=h5 h0
 have Gk:=fun W C' (k1:aj W C' M m) (k2:aq W C' s sg M.L me t) (k3:jV W C' c sg bp h.az)=>mg k1 k2 k3 hk
 obtain⟨r,hr⟩:∃ r,ch M m t h.az=r:=⟨_,rfl⟩
 simp only[hr] at Gk
 obtain⟨r1,m',K3⟩:=r
 have HST:Hid (ah M me m t h=(false,m',t,{ h with az:=K3,at_:=if r1 then 9 else 8 })):=Lib.hid (by unfold ah;simp only;rw[if_neg (by rw[h0];decide)];rw[if_neg (by rw[h0];decide)];rw[if_neg (by rw[h0];decide)];rw[if_neg (by rw[h0];decide)];rw[if_neg (by rw[h0];decide)];rw[if_neg (by rw[h0];decide)];rw[if_neg (by rw[h0];decide)];rw[if_neg (by rw[h0];decide)];rw[if_pos h0];simp only[hr])
 unfold eC at sb
 clear hr
 obtain⟨u,no,rounds,limit,at_,found,⟨sh,kind,key⟩,⟨g0,⟨g1,g2,g3⟩,g4,g5,g6,g7,g8⟩,exec,bm,find,cl,az⟩:=h
 simp only at sb h0 hpr HST Gk
 subst h0
 clear h' h1 h2 h3 h4 h5
 go_enter Tryz.func106,Tryz.ntmps106
 have fr:=Fr.refl C (ef c s) ic w
 have ag:=aF.refl w.heap.size C
 go_wp2_with fail
 refine(Gk _ _ hm hst hpr).mono ?_;clear hm hpr;rintro e w1 ⟨rfl,hm,hpr,hf⟩
 revert hst;revert sb;revert fr;refine eA hf (eW c s) Eo ag ?_;clear hf;intro fr sb hst
 try dsimp only at hm hpr
 cases r1
 ·skip
  go_wp2_with fail
  go_end0
  exact⟨rfl,⟨_,ag,by rw[HST.out];exact hm,by rw[HST.out];exact⟨hst,⟨_,_,_,_,_,sb,fun h=>by simp at h,fun h=>by simp at h,fun h=>by simp at h,fun h=>by simp at h,fun _=>⟨bp,rfl,hpr⟩⟩⟩⟩,fr⟩
 ·skip
  have z1:=sb
  revert hpr;revert hst;revert hm;revert fr;refine st1 sb 5 (.int .i64 9) (aU c s) ag ?_;clear sb;rintro w2 e1 fr sb hm hst hpr
  simp only[sx] at sb
  go_wp2_with fail
  clear z1 e1
  go_end0
  exact⟨rfl,⟨_,ag,by rw[HST.out];exact hm,by rw[HST.out];exact⟨hst,⟨_,_,_,_,_,sb,fun h=>by simp at h,fun h=>by simp at h,fun h=>by simp at h,fun h=>by simp at h,fun h=>by simp at h⟩⟩⟩,fr⟩
theorem xJ {h:aM} (_:c≠s) (_:s≠1) (hm:aj w C M m) (hst:aq w C s sg M.L me t) (h':bI w C c s sg b M.L h) (_:t.ret.length≤98000) (h0:h.at_=0) (hok:h.Ok 1000000):Calls Tryz.prog 71 #[.pointer (some ⟨b,0,none⟩),.pointer (some ⟨M.b,0,none⟩)] w (MV C c s ic (.bool (ah M me m t h).1) M (ah M me m t h).2.1 (fun w' C'=>aq w' C' s sg M.L me (ah M me m t h).2.2.1∧bI w' C' c s sg b M.L (ah M me m t h).2.2.2) w):=by
 obtain⟨pe,pn,pf,pc,pp,sb,h1,h2,h3,h4,h5⟩:=h'.ex
 obtain⟨⟨A,n,cap,hn,st,hrow⟩,-,-,-⟩:=id hst
 clear hn hrow
 obtain⟨hfd,hu,hro⟩:=hok
 have hlr:=bN hm (M.L.desc h.u)
 obtain⟨v,hv⟩:∃ v,ld M m (M.L.desc h.u)=v:=⟨_,rfl⟩
 rw[hv] at hlr
 have fg:=fun W C' (k:eC W C' c sg b pe pn pf pc pp { h with found:=v,rounds:=h.rounds+1,at_:=1 })=>dV k hlr
 have hdf:=b7 v
 obtain⟨D,hD⟩:∃ D,getD' v=D:=⟨_,rfl⟩
 simp only[hD] at fg hdf
 have La:=fun W=>jg D hdf W
 have HST:Hid (ah M me m t h=(!D.pend,m,t,{ h with found:=v,rounds:=h.rounds+1,at_:=1 })):=Lib.hid (by unfold ah;simp only;rw[if_pos h0];simp only[hv,hD])
 obtain⟨pd,Lb⟩:∃ pd,D.pend=pd:=⟨_,rfl⟩
 rw[Lb] at La HST
 have HV:=Lib.hid hv
 unfold eC at sb
 clear hD hdf Lb hv
 obtain⟨da,dd,dv,dn,dm,ds,dl⟩:=D
 simp only[Ds.vals] at fg La
 obtain⟨u,no,rounds,limit,at_,found,⟨sh,kind,key⟩,⟨g0,⟨g1,g2,g3⟩,g4,g5,g6,g7,g8⟩,exec,bm,find,cl,az⟩:=h
 simp only at sb h0 hu hro HST fg HV
 subst h0
 have e1:wrap64 (rounds+1)=rounds+1:=IntWalk.wrap64_in _ (by omega)
 clear h' h1 h2 h3 h4 h5
 go_enter Tryz.func71,Tryz.ntmps71
 have fr:=Fr.refl C (ef c s) ic w
 have ag:=aF.refl w.heap.size C
 go_wp2_with fail
 revert st;revert hst;revert hm;revert sb;revert fr;refine bK ?_;intro fr sb hm hst st
 obtain⟨q1,q2,qi⟩:=bD sb st
 refine aC sb st 13 [] [0,1,2,3,4,5,6,7,8,9,10,11,12] [13,14,15,16,17] (by kernel_rfl) (by kernel_rfl) ?_
 refine af ?_;try simp only[ox]
 repeat(go_big_quiet_step (fail))
 refine wpQuiet_nil ?_
 refine ae _ _ _ (by kernel_rfl) ?_;try simp only[ox]
 clear qi q1 q2
 go_wp2_with fail
 refine(cN M.L hm.ok u (by omega) _).mono ?_;rintro e w1 ⟨rfl,hb1⟩
 revert fr sb hm hst st;refine eH hb1 ?_;intro fr sb hm hst st
 go_wp2_with fail
 refine(aS hm (M.L.desc u)).mono ?_;clear hm;rintro e w2 ⟨rfl,hm,hf⟩
 rw[HV.out]
 revert fr sb hst st;refine eA hf (jl c s) xD ag ?_;clear hf;intro fr sb hst st
 have z1:=And.intro sb st
 revert hm hst st;revert fr;refine st1 sb 6 (.int .u64 v) (aU c s) ag ?_;clear sb;rintro w3 e1 fr sb hm hst st
 simp only[sx] at sb
 go_wp2_with fail
 refine NoPanic.normal ?_
 go_wp2_with fail
 clear z1 e1
 have z2:=And.intro sb st
 revert fr hm hst st;refine st1 sb 3 (.int .i64 (rounds+1)) (aU c s) ag ?_;clear sb;rintro w4 e1 fr sb hm hst st
 simp only[sx] at sb
 have z3:=And.intro sb st
 revert fr hm hst st;refine st1 sb 5 (.int .i64 1) (aU c s) ag ?_;clear sb;rintro w5 e2 fr sb hm hst st
 simp only[sx] at sb
 go_wp2_with fail
 try simp only[e1,e2]
 clear z2 e1 z3 e2
 refine(fg _ _ sb).mono ?_;rintro e w6 ⟨rfl,hb6⟩
 revert fr hm hst st sb;refine eH hb6 ?_;intro fr hm hst st sb
 go_wp2_with fail
 revert fr hm hst st sb;refine bB (La _) ?_;rintro e w7 rfl fr hm hst st sb
 go_wp2_with fail
 go_ret
 exact⟨by rw[HST.out];rfl,⟨_,ag,by rw[HST.out];exact hm,by rw[HST.out];exact⟨hst,⟨_,_,_,_,_,sb,fun h=>by simp at h,fun h=>by simp at h,fun h=>by simp at h,fun h=>by simp at h,fun h=>by simp at h⟩⟩⟩,fr⟩
theorem xK {h:aM} (_:c≠s) (_:s≠1) (hm:aj w C M m) (hst:aq w C s sg M.L me t) (h':bI w C c s sg b M.L h) (_:t.ret.length≤98000) (h0:h.at_=1) (hu:0≤h.u∧h.u≤7):Calls Tryz.prog 71 #[.pointer (some ⟨b,0,none⟩),.pointer (some ⟨M.b,0,none⟩)] w (MV C c s ic (.bool (ah M me m t h).1) M (ah M me m t h).2.1 (fun w' C'=>aq w' C' s sg M.L me (ah M me m t h).2.2.1∧bI w' C' c s sg b M.L (ah M me m t h).2.2.2) w):=by
 obtain⟨pe,pn,pf,pc,pp,sb,h1,h2,h3,h4,h5⟩:=h'.ex
 obtain⟨⟨A,n,cap,hn,st,hrow⟩,-,-,-⟩:=id hst
 clear hn hrow
 obtain⟨v,hv⟩:∃ v,ld M m (M.L.ticket h.u)=v:=⟨_,rfl⟩
 obtain⟨q,hq⟩:∃ q,decide (v≠h.no)=q:=⟨_,rfl⟩
 have HST:Hid (ah M me m t h=(q,m,t,{ h with at_:=2 })):=Lib.hid (by unfold ah;simp only;rw[if_neg (by rw[h0];decide)];rw[if_pos h0];simp only[hv];rw[hq])
 have dq:(v !=h.no)=q:=by rw[←hq];by_cases e:v=h.no<;>simp[e]
 have HV:=Lib.hid hv
 unfold eC at sb
 clear hv hq
 obtain⟨u,no,rounds,limit,at_,found,⟨sh,kind,key⟩,⟨g0,⟨g1,g2,g3⟩,g4,g5,g6,g7,g8⟩,exec,bm,find,cl,az⟩:=h
 simp only at sb h0 hu HST HV dq
 subst h0
 clear h' h1 h2 h3 h4 h5
 go_enter Tryz.func71,Tryz.ntmps71
 have fr:=Fr.refl C (ef c s) ic w
 have ag:=aF.refl w.heap.size C
 go_wp2_with fail
 have z1:=And.intro sb st
 revert st;revert hst;revert hm;revert fr;refine st1 sb 5 (.int .i64 2) (aU c s) ag ?_;clear sb;rintro w1 e1 fr sb hm hst st
 simp only[sx] at sb
 go_wp2_with fail
 try simp only[e1]
 clear z1 e1
 revert fr hm hst st sb;refine bK ?_;intro fr hm hst st sb
 obtain⟨q1,q2,qi⟩:=bD sb st
 refine aC sb st 19 [([0,1,2,3,4,5,6,7,8,9,10,11,14,15,16,17],12),([],13)] [18] [19] (by kernel_rfl) (by kernel_rfl) ?_
 refine ai ?_;simp only[ox];repeat(go_big_quiet_step (fail))
 refine dI rfl (fun K' hK'=> ?_);go_simp
 ((with_reducible refine(ll M.L hm.ok u (by omega) _).mono ?_);rintro e w2 ⟨rfl,hb2⟩)
 revert fr hm hst st sb;refine eH hb2 ?_;intro fr hm hst st sb
 refine hK' _ _ (fa sb st) ?_;clear hK' K'
 refine ai ?_;simp only[ox];repeat(go_big_quiet_step (fail))
 refine dI rfl (fun K' hK'=> ?_);go_simp
 ((with_reducible refine(aS hm (M.L.ticket u)).mono ?_);clear hm;rintro e w3 ⟨rfl,hm,hf⟩)
 rw[HV.out]
 revert fr hst st sb;refine eA hf (jl c s) xD ag ?_;clear hf;intro fr hst st sb
 refine hK' _ _ (fa sb st) ?_;clear hK' K'
 refine af ?_;try simp only[ox]
 repeat(go_big_quiet_step (fail))
 refine wpQuiet_nil ?_
 refine ae _ _ _ (by kernel_rfl) ?_;try simp only[ox]
 clear qi q1 q2
 go_wp2_with fail
 refine NoPanic.normal ?_
 go_wp2_with fail
 go_ret
 exact⟨by rw[HST.out];rfl,⟨_,ag,by rw[HST.out];exact hm,by rw[HST.out];exact⟨hst,⟨_,_,_,_,_,sb,fun h=>by simp at h,fun h=>by simp at h,fun h=>by simp at h,fun h=>by simp at h,fun h=>by simp at h⟩⟩⟩,fr⟩
theorem xL {h:aM} (hcs:c≠s) (_:s≠1) (hm:aj w C M m) (hst:aq w C s sg M.L me t) (h':bI w C c s sg b M.L h) (_:t.ret.length≤98000) (h0:h.at_=2) (hok:h.Ok 1000000):Calls Tryz.prog 71 #[.pointer (some ⟨b,0,none⟩),.pointer (some ⟨M.b,0,none⟩)] w (MV C c s ic (.bool (ah M me m t h).1) M (ah M me m t h).2.1 (fun w' C'=>aq w' C' s sg M.L me (ah M me m t h).2.2.1∧bI w' C' c s sg b M.L (ah M me m t h).2.2.2) w):=by
 obtain⟨pe,pn,pf,pc,pp,sb,h1,h2,h3,h4,h5⟩:=h'.ex
 obtain⟨⟨A,n,cap,hn,st,hrow⟩,-,-,-⟩:=id hst
 clear hn hrow
 have hu:=hok.u
 have hlr:=bN hm (M.L.task h.u)
 obtain⟨v,hv⟩:∃ v,ld M m (M.L.task h.u)=v:=⟨_,rfl⟩
 rw[hv] at hlr
 have Lc:=fun W C' (k1:aq W C' s sg M.L me t) (k2:eC W C' c sg b pe pn pf pc pp h)=>xC hm.ok k1 k2 h0 hok v hlr hcs
 obtain⟨so,hso⟩:∃ so,h.begin_ M.L me t v=so:=⟨_,rfl⟩
 rw[hso] at Lc
 have HST:Hid (ah M me m t h=(so.1,m,t,so.2)):=Lib.hid (by unfold ah;simp only;rw[if_neg (by rw[h0];decide)];rw[if_neg (by rw[h0];decide)];rw[if_pos h0];simp only[hv,hso])
 have HV:=Lib.hid hv
 unfold eC at sb
 clear hv hso hok
 obtain⟨u,no,rounds,limit,at_,found,⟨sh,kind,key⟩,⟨g0,⟨g1,g2,g3⟩,g4,g5,g6,g7,g8⟩,exec,bm,find,cl,az⟩:=h
 simp only at sb h0 hu HST HV Lc
 subst h0
 clear h' h1 h2 h3 h4 h5
 go_enter Tryz.func71,Tryz.ntmps71
 have fr:=Fr.refl C (ef c s) ic w
 have ag:=aF.refl w.heap.size C
 go_wp2_with fail
 revert st;revert hst;revert hm;revert sb;revert fr;refine bK ?_;intro fr sb hm hst st
 obtain⟨q1,q2,qi⟩:=bD sb st
 refine aC sb st 13 [] [0,1,2,3,4,5,6,7,8,9,10,11,12] [13,14,15,16] (by kernel_rfl) (by kernel_rfl) ?_
 refine af ?_;try simp only[ox]
 repeat(go_big_quiet_step (fail))
 refine wpQuiet_nil ?_
 refine ae _ _ _ (by kernel_rfl) ?_;try simp only[ox]
 clear qi q1 q2
 go_wp2_with fail
 refine(uv M.L hm.ok u (by omega) _).mono ?_;rintro e w1 ⟨rfl,hb1⟩
 revert fr sb hm hst st;refine eH hb1 ?_;intro fr sb hm hst st
 go_wp2_with fail
 refine(aS hm (M.L.task u)).mono ?_;clear hm;rintro e w2 ⟨rfl,hm,hf⟩
 rw[HV.out]
 revert fr sb hst st;refine eA hf (jl c s) xD ag ?_;clear hf;intro fr sb hst st
 go_wp2_with fail
 refine(Lc _ _ hst sb).mono ?_
 rintro e w9 ⟨rfl,⟨C9,dR,bP⟩,bV⟩
 have gp:=ag.trans dR fr.size
 replace fr:=fr.trans (bV.mono (aU c s) pO) ag
 replace hm:=hm.mv bV dR (.inr ⟨by decide,by decide⟩)
 replace hst:=hst.mv bV dR (.inr (by decide))
 go_wp2_with fail
 refine NoPanic.normal ?_
 go_wp2_with fail
 go_ret
 exact⟨by rw[HST.out];rfl,⟨_,gp,by rw[HST.out];exact hm,by rw[HST.out];exact⟨hst,bP⟩⟩,fr⟩
theorem xM {h:aM} (_:c≠s) (_:s≠1) (hm:aj w C M m) (hst:aq w C s sg M.L me t) (h':bI w C c s sg b M.L h) (_:t.ret.length≤98000) (h0:h.at_=6) (hok:h.Ok 1000000):Calls Tryz.prog 71 #[.pointer (some ⟨b,0,none⟩),.pointer (some ⟨M.b,0,none⟩)] w (MV C c s ic (.bool (ah M me m t h).1) M (ah M me m t h).2.1 (fun w' C'=>aq w' C' s sg M.L me (ah M me m t h).2.2.1∧bI w' C' c s sg b M.L (ah M me m t h).2.2.2) w):=by
 obtain⟨pe,pn,pf,pc,pp,sb,h1,h2,h3,h4,h5⟩:=h'.ex
 obtain⟨hfd,hu,-⟩:=hok
 have fg:=fun W C' (k:eC W C' c sg b pe pn pf pc pp h)=>dV k hfd
 obtain⟨D,hD⟩:∃ D,getD' h.found=D:=⟨_,rfl⟩
 simp only[hD] at fg
 have zA:=fun W=>oP D h.plan.res.code h.plan.res.ok h.plan.res.val W
 have hxr:=ig (D.ended h.plan.res.code h.plan.res.ok h.plan.res.val)
 have AN:=kD (D.ended h.plan.res.code h.plan.res.ok h.plan.res.val) _ rfl
 unfold Bk at zA
 obtain⟨E,hE⟩:∃ E,D.ended h.plan.res.code h.plan.res.ok h.plan.res.val=E:=⟨_,rfl⟩
 rw[hE] at AN hxr
 simp only[hE] at zA
 obtain⟨y,hy⟩:∃ y,cv E=y:=⟨_,rfl⟩
 rw[hy] at AN hxr
 have se:=fun W C' (k0:aj W C' M m) (k1:aq W C' s sg M.L me t) (k2:eC W C' c sg b pe pn pf pc pp h)=>kH k0 k1 k2 hu y (by omega)
 have HST:Hid (ah M me m t h=(false,cas M m (M.L.desc h.u) h.found y,t,{ h with at_:=0 })):=Lib.hid (by unfold ah;simp only;rw[if_neg (by rw[h0];decide)];rw[if_neg (by rw[h0];decide)];rw[if_neg (by rw[h0];decide)];rw[if_neg (by rw[h0];decide)];rw[if_neg (by rw[h0];decide)];rw[if_neg (by rw[h0];decide)];rw[if_pos h0];simp only[hD,hE,hy])
 unfold eC at sb fg
 clear hD hE hy
 obtain⟨da,dd,dv,dn,dm,ds,dl⟩:=D
 obtain⟨ea,ed,ev,en,em,es,el⟩:=E
 simp only[Ds.vals] at fg zA AN
 obtain⟨u,no,rounds,limit,at_,found,⟨sh,kind,key⟩,⟨g0,⟨g1,g2,g3⟩,g4,g5,g6,g7,g8⟩,exec,bm,find,cl,az⟩:=h
 simp only at sb h0 HST fg zA se
 subst h0
 clear h' h1 h2 h3 h4 h5
 go_enter Tryz.func71,Tryz.ntmps71
 have fr:=Fr.refl C (ef c s) ic w
 have ag:=aF.refl w.heap.size C
 go_wp2_with fail
 revert hst;revert hm;revert sb;revert fr;refine bK ?_;intro fr sb hm hst
 obtain⟨q1,qi⟩:=aY sb
 refine ax sb 13 [([0,2,3,4,5,6],1),([],7),([],8)] [9,10,11,12] [13] (by kernel_rfl) (by kernel_rfl) ?_
 refine ai ?_;simp only[ox];repeat(go_big_quiet_step (fail))
 refine dI rfl (fun K' hK'=> ?_);go_simp
 ((with_reducible refine(fg _ _ sb).mono ?_);rintro e w1 ⟨rfl,hb1⟩)
 revert fr sb hm hst;refine eH hb1 ?_;intro fr sb hm hst
 refine hK' _ _ (cj sb) ?_;clear hK' K'
 refine ai ?_;simp only[ox];repeat(go_big_quiet_step (fail))
 refine dI rfl (fun K' hK'=> ?_);go_simp
 revert fr sb hm hst;with_reducible refine bB (zA _) ?_;rintro e w2 rfl fr sb hm hst
 refine hK' _ _ (cj sb) ?_;clear hK' K'
 refine ai ?_;simp only[ox];repeat(go_big_quiet_step (fail))
 refine dI rfl (fun K' hK'=> ?_);go_simp
 revert fr sb hm hst;with_reducible refine bB (AN _) ?_;rintro e w3 ⟨ec,rfl⟩ fr sb hm hst
 refine hK' _ _ (cj sb) ?_;clear hK' K'
 refine af ?_;try simp only[ox]
 repeat(go_big_quiet_step (fail))
 refine wpQuiet_nil ?_
 refine ae _ _ _ (by kernel_rfl) ?_;try simp only[ox]
 clear qi q1
 go_wp2_with fail
 refine NoPanic.normal ?_
 go_wp2_with fail
 refine(se _ _ hm hst sb).mono ?_
 rintro e w9 ⟨rfl,jM,bP,bV⟩
 replace hm:=jM
 clear jM
 replace fr:=fr.trans (bV.mono (eW c s) oD) ag
 replace hst:=hst.fr bV (.inr (by decide))
 go_wp2_with fail
 go_ret
 exact⟨by rw[HST.out];rfl,⟨_,ag,by rw[HST.out];exact hm,by rw[HST.out];exact⟨hst,⟨_,_,_,_,_,bP,fun h=>by simp at h,fun h=>by simp at h,fun h=>by simp at h,fun h=>by simp at h,fun h=>by simp at h⟩⟩⟩,fr⟩
theorem lI (p:cY) (aJ:Int):0≤p.desc aJ∧p.desc aJ<18446744073709551616:=by
 unfold cY.desc
 split
 ·omega
 ·have:=ig ⟨aJ,p.addr,(ao p.old).ver,p.next,p.mark,2,p.res.val⟩
  omega
theorem vv {h:aM} (_:c≠s) (_:s≠1) (hm:aj w C M m) (hst:aq w C s sg M.L me t) (h':bI w C c s sg b M.L h) (_:t.ret.length≤98000) (h0:h.at_=9) (hok:h.Ok 1000000) (hold:0≤h.plan.old∧h.plan.old<18446744073709551616) (hq:bA M m (M.L.desc h.u) h.found=false):Calls Tryz.prog 71 #[.pointer (some ⟨b,0,none⟩),.pointer (some ⟨M.b,0,none⟩)] w (MV C c s ic (.bool (ah M me m t h).1) M (ah M me m t h).2.1 (fun w' C'=>aq w' C' s sg M.L me (ah M me m t h).2.2.1∧bI w' C' c s sg b M.L (ah M me m t h).2.2.2) w):=by
 obtain⟨pe,pn,pf,pc,pp,sb,h1,h2,h3,h4,h5⟩:=h'.ex
 obtain⟨hfd,hu,-⟩:=hok
 have fg:=fun W C' (k:eC W C' c sg b pe pn pf pc pp h)=>dV k hfd
 obtain⟨D,hD⟩:∃ D,getD' h.found=D:=⟨_,rfl⟩
 simp only[hD] at fg
 have pz:=fun W=>m9 h.plan hold D.aJ W
 have hxr:=lI h.plan D.aJ
 obtain⟨y,hy⟩:∃ y,h.plan.desc D.aJ=y:=⟨_,rfl⟩
 rw[hy] at hxr
 simp only[hy] at pz
 have se:=fun W C' (k0:aj W C' M m) (k1:aq W C' s sg M.L me t) (k2:eC W C' c sg b pe pn pf pc pp h)=>kH k0 k1 k2 hu y (by omega)
 rw[hq] at se
 have fZ:=fun W=>bj h.task W
 have HST:Hid (ah M me m t h=(false,cas M m (M.L.desc h.u) h.found y,t,{ h with at_:=0 })):=Lib.hid (by unfold ah;simp only;rw[if_neg (by rw[h0];decide)];rw[if_neg (by rw[h0];decide)];rw[if_neg (by rw[h0];decide)];rw[if_neg (by rw[h0];decide)];rw[if_neg (by rw[h0];decide)];rw[if_neg (by rw[h0];decide)];rw[if_neg (by rw[h0];decide)];rw[if_neg (by rw[h0];decide)];rw[if_neg (by rw[h0];decide)];simp only[hD,hy,hq];rfl)
 unfold eC at sb fg
 clear hD hy hold hq
 obtain⟨da,dd,dv,dn,dm,ds,dl⟩:=D
 simp only[Ds.vals] at fg
 have hf0:=jC (.int .i64 da) (.int .i64 dd) (.int .i64 dv) (.int .i64 dn) (.bool dm) (.int .i64 ds) (.int .i64 dl)
 obtain⟨u,no,rounds,limit,at_,found,⟨sh,kind,key⟩,⟨g0,⟨g1,g2,g3⟩,g4,g5,g6,g7,g8⟩,exec,bm,find,cl,az⟩:=h
 simp only at sb h0 HST fg pz se fZ
 subst h0
 simp only[cY.val] at pz
 clear h' h1 h2 h3 h4 h5
 go_enter Tryz.func71,Tryz.ntmps71
 have fr:=Fr.refl C (ef c s) ic w
 have ag:=aF.refl w.heap.size C
 go_wp2_with fail
 revert hst;revert hm;revert sb;revert fr;refine bK ?_;intro fr sb hm hst
 obtain⟨q1,qi⟩:=aY sb
 refine ax sb 12 [([0,1,2,3,4],5),([6],7)] [8,9,10,11] [12] (by kernel_rfl) (by kernel_rfl) ?_
 refine ai ?_;simp only[ox];repeat(go_big_quiet_step (fail))
 refine dI rfl (fun K' hK'=> ?_);go_simp
 ((with_reducible refine(fg _ _ sb).mono ?_);rintro e w1 ⟨rfl,hb1⟩)
 revert fr sb hm hst;refine eH hb1 ?_;intro fr sb hm hst
 refine hK' _ _ (cj sb) ?_;clear hK' K'
 refine ai ?_;simp only[ox];repeat(go_big_quiet_step (fail))
 refine dI rfl (fun K' hK'=> ?_);go_simp
 revert fr sb hm hst;with_reducible refine bB (pz _) ?_;rintro e w2 ⟨ec,rfl⟩ fr sb hm hst
 refine hK' _ _ (cj sb) ?_;clear hK' K'
 refine af ?_;try simp only[ox]
 repeat(go_big_quiet_step (fail))
 refine wpQuiet_nil ?_
 refine ae _ _ _ (by kernel_rfl) ?_;try simp only[ox]
 clear qi q1
 go_wp2_with fail
 refine NoPanic.normal ?_
 go_wp2_with fail
 refine(se _ _ hm hst sb).mono ?_
 rintro e w9 ⟨rfl,jM,bP,bV⟩
 replace hm:=jM
 clear jM
 replace fr:=fr.trans (bV.mono (eW c s) oD) ag
 replace hst:=hst.fr bV (.inr (by decide))
 go_wp2_with fail
 go_ret
 exact⟨by rw[HST.out];rfl,⟨_,ag,by rw[HST.out];exact hm,by rw[HST.out];exact⟨hst,⟨_,_,_,_,_,bP,fun h=>by simp at h,fun h=>by simp at h,fun h=>by simp at h,fun h=>by simp at h,fun h=>by simp at h⟩⟩⟩,fr⟩
theorem vw {h:aM} (_:c≠s) (_:s≠1) (hm:aj w C M m) (hst:aq w C s sg M.L me t) (h':bI w C c s sg b M.L h) (_:t.ret.length≤98000) (h0:h.at_=9) (hok:h.Ok 1000000) (hold:0≤h.plan.old∧h.plan.old<18446744073709551616) (hq:bA M m (M.L.desc h.u) h.found=true) (hlk:h.task.links=false):Calls Tryz.prog 71 #[.pointer (some ⟨b,0,none⟩),.pointer (some ⟨M.b,0,none⟩)] w (MV C c s ic (.bool (ah M me m t h).1) M (ah M me m t h).2.1 (fun w' C'=>aq w' C' s sg M.L me (ah M me m t h).2.2.1∧bI w' C' c s sg b M.L (ah M me m t h).2.2.2) w):=by
 obtain⟨pe,pn,pf,pc,pp,sb,h1,h2,h3,h4,h5⟩:=h'.ex
 obtain⟨hfd,hu,-⟩:=hok
 have fg:=fun W C' (k:eC W C' c sg b pe pn pf pc pp h)=>dV k hfd
 obtain⟨D,hD⟩:∃ D,getD' h.found=D:=⟨_,rfl⟩
 simp only[hD] at fg
 have pz:=fun W=>m9 h.plan hold D.aJ W
 have hxr:=lI h.plan D.aJ
 obtain⟨y,hy⟩:∃ y,h.plan.desc D.aJ=y:=⟨_,rfl⟩
 rw[hy] at hxr
 simp only[hy] at pz
 have se:=fun W C' (k0:aj W C' M m) (k1:aq W C' s sg M.L me t) (k2:eC W C' c sg b pe pn pf pc pp h)=>kH k0 k1 k2 hu y (by omega)
 rw[hq] at se
 have fZ:=fun W=>bj h.task W
 have HST:Hid (ah M me m t h=(false,cas M m (M.L.desc h.u) h.found y,t,{ h with at_:=0 })):=Lib.hid (by unfold ah;simp only;rw[if_neg (by rw[h0];decide)];rw[if_neg (by rw[h0];decide)];rw[if_neg (by rw[h0];decide)];rw[if_neg (by rw[h0];decide)];rw[if_neg (by rw[h0];decide)];rw[if_neg (by rw[h0];decide)];rw[if_neg (by rw[h0];decide)];rw[if_neg (by rw[h0];decide)];rw[if_neg (by rw[h0];decide)];simp only[hD,hy,hq,hlk];rfl)
 rw[hlk] at fZ
 unfold eC at sb fg
 clear hD hy hold hq hlk
 obtain⟨da,dd,dv,dn,dm,ds,dl⟩:=D
 simp only[Ds.vals] at fg
 have hf0:=jC (.int .i64 da) (.int .i64 dd) (.int .i64 dv) (.int .i64 dn) (.bool dm) (.int .i64 ds) (.int .i64 dl)
 obtain⟨u,no,rounds,limit,at_,found,⟨sh,kind,key⟩,⟨g0,⟨g1,g2,g3⟩,g4,g5,g6,g7,g8⟩,exec,bm,find,cl,az⟩:=h
 simp only at sb h0 HST fg pz se fZ
 subst h0
 simp only[cY.val] at pz
 clear h' h1 h2 h3 h4 h5
 go_enter Tryz.func71,Tryz.ntmps71
 have fr:=Fr.refl C (ef c s) ic w
 have ag:=aF.refl w.heap.size C
 go_wp2_with fail
 revert hst;revert hm;revert sb;revert fr;refine bK ?_;intro fr sb hm hst
 obtain⟨q1,qi⟩:=aY sb
 refine ax sb 12 [([0,1,2,3,4],5),([6],7)] [8,9,10,11] [12] (by kernel_rfl) (by kernel_rfl) ?_
 refine ai ?_;simp only[ox];repeat(go_big_quiet_step (fail))
 refine dI rfl (fun K' hK'=> ?_);go_simp
 ((with_reducible refine(fg _ _ sb).mono ?_);rintro e w1 ⟨rfl,hb1⟩)
 revert fr sb hm hst;refine eH hb1 ?_;intro fr sb hm hst
 refine hK' _ _ (cj sb) ?_;clear hK' K'
 refine ai ?_;simp only[ox];repeat(go_big_quiet_step (fail))
 refine dI rfl (fun K' hK'=> ?_);go_simp
 revert fr sb hm hst;with_reducible refine bB (pz _) ?_;rintro e w2 ⟨ec,rfl⟩ fr sb hm hst
 refine hK' _ _ (cj sb) ?_;clear hK' K'
 refine af ?_;try simp only[ox]
 repeat(go_big_quiet_step (fail))
 refine wpQuiet_nil ?_
 refine ae _ _ _ (by kernel_rfl) ?_;try simp only[ox]
 clear qi q1
 go_wp2_with fail
 refine NoPanic.normal ?_
 go_wp2_with fail
 refine(se _ _ hm hst sb).mono ?_
 rintro e w3 ⟨rfl,jM,og,bV⟩
 replace hm:=jM
 clear jM
 replace fr:=fr.trans (bV.mono (eW c s) oD) ag
 replace hst:=hst.fr bV (.inr (by decide))
 replace sb:SB w3 C c b 171 #[.pointer (some ⟨sg,0,none⟩),.int .i64 u,.int .u64 no,.int .i64 rounds,.int .i64 limit,.int .i64 0,.int .u64 found,.int .i64 sh,.int .i64 kind,.int .i64 key,.bool g0,.int .i64 g1,.bool g2,.int .i64 g3,.int .i64 g4,.int .u64 g5,.int .i64 g6,.bool g7,.int .i64 g8,pe,pn,pf,pc,pp]:=og
 clear og bV
 go_wp2_with fail
 revert hst;revert hm;revert sb;revert fr;refine bB (fZ _) ?_;rintro e w4 rfl fr sb hm hst
 go_wp2_with fail
 go_ret
 exact⟨by rw[HST.out];rfl,⟨_,ag,by rw[HST.out];exact hm,by rw[HST.out];exact⟨hst,⟨_,_,_,_,_,sb,fun h=>by simp at h,fun h=>by simp at h,fun h=>by simp at h,fun h=>by simp at h,fun h=>by simp at h⟩⟩⟩,fr⟩
theorem vx {h:aM} (_:c≠s) (_:s≠1) (hm:aj w C M m) (hst:aq w C s sg M.L me t) (h':bI w C c s sg b M.L h) (_:t.ret.length≤98000) (h0:h.at_=9) (hok:h.Ok 1000000) (hold:0≤h.plan.old∧h.plan.old<18446744073709551616) (hq:bA M m (M.L.desc h.u) h.found=true) (hlk:h.task.links=true):Calls Tryz.prog 71 #[.pointer (some ⟨b,0,none⟩),.pointer (some ⟨M.b,0,none⟩)] w (MV C c s ic (.bool (ah M me m t h).1) M (ah M me m t h).2.1 (fun w' C'=>aq w' C' s sg M.L me (ah M me m t h).2.2.1∧bI w' C' c s sg b M.L (ah M me m t h).2.2.2) w):=by
 obtain⟨pe,pn,pf,pc,pp,sb,h1,h2,h3,h4,h5⟩:=h'.ex
 obtain⟨hfd,hu,-⟩:=hok
 have fg:=fun W C' (k:eC W C' c sg b pe pn pf pc pp h)=>dV k hfd
 obtain⟨D,hD⟩:∃ D,getD' h.found=D:=⟨_,rfl⟩
 simp only[hD] at fg
 have pz:=fun W=>m9 h.plan hold D.aJ W
 have hxr:=lI h.plan D.aJ
 obtain⟨y,hy⟩:∃ y,h.plan.desc D.aJ=y:=⟨_,rfl⟩
 rw[hy] at hxr
 simp only[hy] at pz
 have se:=fun W C' (k0:aj W C' M m) (k1:aq W C' s sg M.L me t) (k2:eC W C' c sg b pe pn pf pc pp h)=>kH k0 k1 k2 hu y (by omega)
 rw[hq] at se
 have fZ:=fun W=>bj h.task W
 have HST:Hid (ah M me m t h=(false,cas M m (M.L.desc h.u) h.found y,{ t with spare:=0 },{ h with at_:=0 })):=Lib.hid (by unfold ah;simp only;rw[if_neg (by rw[h0];decide)];rw[if_neg (by rw[h0];decide)];rw[if_neg (by rw[h0];decide)];rw[if_neg (by rw[h0];decide)];rw[if_neg (by rw[h0];decide)];rw[if_neg (by rw[h0];decide)];rw[if_neg (by rw[h0];decide)];rw[if_neg (by rw[h0];decide)];rw[if_neg (by rw[h0];decide)];simp only[hD,hy,hq,hlk];rfl)
 rw[hlk] at fZ
 unfold eC at sb fg
 clear hD hy hold hq hlk
 obtain⟨da,dd,dv,dn,dm,ds,dl⟩:=D
 simp only[Ds.vals] at fg
 have hf0:=jC (.int .i64 da) (.int .i64 dd) (.int .i64 dv) (.int .i64 dn) (.bool dm) (.int .i64 ds) (.int .i64 dl)
 obtain⟨u,no,rounds,limit,at_,found,⟨sh,kind,key⟩,⟨g0,⟨g1,g2,g3⟩,g4,g5,g6,g7,g8⟩,exec,bm,find,cl,az⟩:=h
 simp only at sb h0 HST fg pz se fZ
 subst h0
 simp only[cY.val] at pz
 clear h' h1 h2 h3 h4 h5
 go_enter Tryz.func71,Tryz.ntmps71
 have fr:=Fr.refl C (ef c s) ic w
 have ag:=aF.refl w.heap.size C
 go_wp2_with fail
 revert hst;revert hm;revert sb;revert fr;refine bK ?_;intro fr sb hm hst
 obtain⟨q1,qi⟩:=aY sb
 refine ax sb 12 [([0,1,2,3,4],5),([6],7)] [8,9,10,11] [12] (by kernel_rfl) (by kernel_rfl) ?_
 refine ai ?_;simp only[ox];repeat(go_big_quiet_step (fail))
 refine dI rfl (fun K' hK'=> ?_);go_simp
 ((with_reducible refine(fg _ _ sb).mono ?_);rintro e w1 ⟨rfl,hb1⟩)
 revert fr sb hm hst;refine eH hb1 ?_;intro fr sb hm hst
 refine hK' _ _ (cj sb) ?_;clear hK' K'
 refine ai ?_;simp only[ox];repeat(go_big_quiet_step (fail))
 refine dI rfl (fun K' hK'=> ?_);go_simp
 revert fr sb hm hst;with_reducible refine bB (pz _) ?_;rintro e w2 ⟨ec,rfl⟩ fr sb hm hst
 refine hK' _ _ (cj sb) ?_;clear hK' K'
 refine af ?_;try simp only[ox]
 repeat(go_big_quiet_step (fail))
 refine wpQuiet_nil ?_
 refine ae _ _ _ (by kernel_rfl) ?_;try simp only[ox]
 clear qi q1
 go_wp2_with fail
 refine NoPanic.normal ?_
 go_wp2_with fail
 refine(se _ _ hm hst sb).mono ?_
 rintro e w3 ⟨rfl,jM,og,bV⟩
 replace hm:=jM
 clear jM
 replace fr:=fr.trans (bV.mono (eW c s) oD) ag
 replace hst:=hst.fr bV (.inr (by decide))
 replace sb:SB w3 C c b 171 #[.pointer (some ⟨sg,0,none⟩),.int .i64 u,.int .u64 no,.int .i64 rounds,.int .i64 limit,.int .i64 0,.int .u64 found,.int .i64 sh,.int .i64 kind,.int .i64 key,.bool g0,.int .i64 g1,.bool g2,.int .i64 g3,.int .i64 g4,.int .u64 g5,.int .i64 g6,.bool g7,.int .i64 g8,pe,pn,pf,pc,pp]:=og
 clear og bV
 go_wp2_with fail
 revert hst;revert hm;revert sb;revert fr;refine bB (fZ _) ?_;rintro e w4 rfl fr sb hm hst
 go_wp2_with fail
 refine(m5 hst).mono ?_;clear hst;rintro e w5 ⟨rfl,hst,hf⟩
 revert fr sb hm;refine eA hf (eP c s) yK ag ?_;clear hf;intro fr sb hm
 go_wp2_with fail
 go_ret
 exact⟨by rw[HST.out];rfl,⟨_,ag,by rw[HST.out];exact hm,by rw[HST.out];exact⟨hst,⟨_,_,_,_,_,sb,fun h=>by simp at h,fun h=>by simp at h,fun h=>by simp at h,fun h=>by simp at h,fun h=>by simp at h⟩⟩⟩,fr⟩
theorem xN {h:aM} (hcs:c≠s) (hs1:s≠1) (hm:aj w C M m) (hst:aq w C s sg M.L me t) (h':bI w C c s sg b M.L h) (hle:t.ret.length≤98000) (h0:h.at_=3) (hat:0≤h.exec.at_∧h.exec.at_≤9):Calls Tryz.prog 71 #[.pointer (some ⟨b,0,none⟩),.pointer (some ⟨M.b,0,none⟩)] w (MV C c s ic (.bool (ah M me m t h).1) M (ah M me m t h).2.1 (fun w' C'=>aq w' C' s sg M.L me (ah M me m t h).2.2.1∧bI w' C' c s sg b M.L (ah M me m t h).2.2.2) w):=by
 have yL:=xE hcs hs1 hm hst h' hle h0 hat
 have hr1:(ah M me m t h).1=false:=by unfold ah;simp only;rw[if_neg (by rw[h0];decide)];rw[if_neg (by rw[h0];decide)];rw[if_neg (by rw[h0];decide)];rw[if_pos h0]<;>first | rfl | (split<;>rfl)
 rw[hr1]
 obtain⟨pe,pn,pf,pc,pp,sb,-⟩:=h'.ex
 obtain⟨r,hr⟩:∃ r,ah M me m t h=r:=⟨_,rfl⟩
 rw[hr] at yL⊢
 clear hr hr1 h'
 unfold eC at sb
 obtain⟨u,no,rounds,limit,at_,found,⟨sh,kind,key⟩,⟨g0,⟨g1,g2,g3⟩,g4,g5,g6,g7,g8⟩,exec,bm,find,cl,az⟩:=h
 simp only at sb h0
 subst h0
 have hc:=sb.blk.cells
 go_enter Tryz.func71,Tryz.ntmps71
 go_wp2_with fail
 refine yL.mono ?_
 rintro e w9 ⟨rfl,bP,Er⟩
 go_wp2_with fail
 go_ret
 exact⟨rfl,bP,Er⟩
theorem xO {h:aM} (hcs:c≠s) (hs1:s≠1) (hm:aj w C M m) (hst:aq w C s sg M.L me t) (h':bI w C c s sg b M.L h) (hle:t.ret.length≤98000) (h0:h.at_=4) (hmay:h.task.may=true) (hlv:h.bm.Live):Calls Tryz.prog 71 #[.pointer (some ⟨b,0,none⟩),.pointer (some ⟨M.b,0,none⟩)] w (MV C c s ic (.bool (ah M me m t h).1) M (ah M me m t h).2.1 (fun w' C'=>aq w' C' s sg M.L me (ah M me m t h).2.2.1∧bI w' C' c s sg b M.L (ah M me m t h).2.2.2) w):=by
 have yL:=xF hcs hs1 hm hst h' hle h0 hmay hlv
 have hr1:(ah M me m t h).1=false:=by unfold ah;simp only;rw[if_neg (by rw[h0];decide)];rw[if_neg (by rw[h0];decide)];rw[if_neg (by rw[h0];decide)];rw[if_neg (by rw[h0];decide)];rw[if_pos h0]<;>first | rfl | (split<;>rfl)
 rw[hr1]
 obtain⟨pe,pn,pf,pc,pp,sb,-⟩:=h'.ex
 obtain⟨r,hr⟩:∃ r,ah M me m t h=r:=⟨_,rfl⟩
 rw[hr] at yL⊢
 clear hr hr1 h'
 unfold eC at sb
 obtain⟨u,no,rounds,limit,at_,found,⟨sh,kind,key⟩,⟨g0,⟨g1,g2,g3⟩,g4,g5,g6,g7,g8⟩,exec,bm,find,cl,az⟩:=h
 simp only at sb h0
 subst h0
 have hc:=sb.blk.cells
 go_enter Tryz.func71,Tryz.ntmps71
 go_wp2_with fail
 refine yL.mono ?_
 rintro e w9 ⟨rfl,bP,Er⟩
 go_wp2_with fail
 go_ret
 exact⟨rfl,bP,Er⟩
theorem xP {h:aM} (hcs:c≠s) (hs1:s≠1) (hm:aj w C M m) (hst:aq w C s sg M.L me t) (h':bI w C c s sg b M.L h) (hle:t.ret.length≤98000) (h0:h.at_=5) (hmay:h.task.may=true) (hfo:h.find.Ok 100000) (hfa:0≤h.find.at_∧h.find.at_≤6) (fp:(aw M m h.find).2.2.Ok 100000):Calls Tryz.prog 71 #[.pointer (some ⟨b,0,none⟩),.pointer (some ⟨M.b,0,none⟩)] w (MV C c s ic (.bool (ah M me m t h).1) M (ah M me m t h).2.1 (fun w' C'=>aq w' C' s sg M.L me (ah M me m t h).2.2.1∧bI w' C' c s sg b M.L (ah M me m t h).2.2.2) w):=by
 have yL:=xG hcs hs1 hm hst h' hle h0 hmay hfo hfa fp
 have hr1:(ah M me m t h).1=false:=by unfold ah;simp only;rw[if_neg (by rw[h0];decide)];rw[if_neg (by rw[h0];decide)];rw[if_neg (by rw[h0];decide)];rw[if_neg (by rw[h0];decide)];rw[if_neg (by rw[h0];decide)];rw[if_pos h0]<;>first | rfl | (split<;>rfl)
 rw[hr1]
 obtain⟨pe,pn,pf,pc,pp,sb,-⟩:=h'.ex
 obtain⟨r,hr⟩:∃ r,ah M me m t h=r:=⟨_,rfl⟩
 rw[hr] at yL⊢
 clear hr hr1 h'
 unfold eC at sb
 obtain⟨u,no,rounds,limit,at_,found,⟨sh,kind,key⟩,⟨g0,⟨g1,g2,g3⟩,g4,g5,g6,g7,g8⟩,exec,bm,find,cl,az⟩:=h
 simp only at sb h0
 subst h0
 have hc:=sb.blk.cells
 go_enter Tryz.func71,Tryz.ntmps71
 go_wp2_with fail
 refine yL.mono ?_
 rintro e w9 ⟨rfl,bP,Er⟩
 go_wp2_with fail
 go_ret
 exact⟨rfl,bP,Er⟩
theorem xQ {h:aM} (hcs:c≠s) (hs1:s≠1) (hm:aj w C M m) (hst:aq w C s sg M.L me t) (h':bI w C c s sg b M.L h) (hle:t.ret.length≤98000) (h0:h.at_=7)  :Calls Tryz.prog 71 #[.pointer (some ⟨b,0,none⟩),.pointer (some ⟨M.b,0,none⟩)] w (MV C c s ic (.bool (ah M me m t h).1) M (ah M me m t h).2.1 (fun w' C'=>aq w' C' s sg M.L me (ah M me m t h).2.2.1∧bI w' C' c s sg b M.L (ah M me m t h).2.2.2) w):=by
 have yL:=xH hcs hs1 hm hst h' hle h0
 have hr1:(ah M me m t h).1=false:=by unfold ah;simp only;rw[if_neg (by rw[h0];decide)];rw[if_neg (by rw[h0];decide)];rw[if_neg (by rw[h0];decide)];rw[if_neg (by rw[h0];decide)];rw[if_neg (by rw[h0];decide)];rw[if_neg (by rw[h0];decide)];rw[if_neg (by rw[h0];decide)];rw[if_pos h0]<;>first | rfl | (split<;>rfl)
 rw[hr1]
 obtain⟨pe,pn,pf,pc,pp,sb,-⟩:=h'.ex
 obtain⟨r,hr⟩:∃ r,ah M me m t h=r:=⟨_,rfl⟩
 rw[hr] at yL⊢
 clear hr hr1 h'
 unfold eC at sb
 obtain⟨u,no,rounds,limit,at_,found,⟨sh,kind,key⟩,⟨g0,⟨g1,g2,g3⟩,g4,g5,g6,g7,g8⟩,exec,bm,find,cl,az⟩:=h
 simp only at sb h0
 subst h0
 have hc:=sb.blk.cells
 go_enter Tryz.func71,Tryz.ntmps71
 go_wp2_with fail
 refine yL.mono ?_
 rintro e w9 ⟨rfl,bP,Er⟩
 go_wp2_with fail
 go_ret
 exact⟨rfl,bP,Er⟩
theorem xR {h:aM} (hcs:c≠s) (hs1:s≠1) (hm:aj w C M m) (hst:aq w C s sg M.L me t) (h':bI w C c s sg b M.L h) (hle:t.ret.length≤98000) (h0:h.at_=8) (hk:0≤h.az.key):Calls Tryz.prog 71 #[.pointer (some ⟨b,0,none⟩),.pointer (some ⟨M.b,0,none⟩)] w (MV C c s ic (.bool (ah M me m t h).1) M (ah M me m t h).2.1 (fun w' C'=>aq w' C' s sg M.L me (ah M me m t h).2.2.1∧bI w' C' c s sg b M.L (ah M me m t h).2.2.2) w):=by
 have yL:=xI hcs hs1 hm hst h' hle h0 hk
 have hr1:(ah M me m t h).1=false:=by unfold ah;simp only;rw[if_neg (by rw[h0];decide)];rw[if_neg (by rw[h0];decide)];rw[if_neg (by rw[h0];decide)];rw[if_neg (by rw[h0];decide)];rw[if_neg (by rw[h0];decide)];rw[if_neg (by rw[h0];decide)];rw[if_neg (by rw[h0];decide)];rw[if_neg (by rw[h0];decide)];rw[if_pos h0]<;>first | rfl | (split<;>rfl)
 rw[hr1]
 obtain⟨pe,pn,pf,pc,pp,sb,-⟩:=h'.ex
 obtain⟨r,hr⟩:∃ r,ah M me m t h=r:=⟨_,rfl⟩
 rw[hr] at yL⊢
 clear hr hr1 h'
 unfold eC at sb
 obtain⟨u,no,rounds,limit,at_,found,⟨sh,kind,key⟩,⟨g0,⟨g1,g2,g3⟩,g4,g5,g6,g7,g8⟩,exec,bm,find,cl,az⟩:=h
 simp only at sb h0
 subst h0
 have hc:=sb.blk.cells
 go_enter Tryz.func71,Tryz.ntmps71
 go_wp2_with fail
 refine yL.mono ?_
 rintro e w9 ⟨rfl,bP,Er⟩
 go_wp2_with fail
 go_ret
 exact⟨rfl,bP,Er⟩
structure aM.Fine (M:ML) (m:Mm) (h:aM):Prop where
 ok:h.Ok 1000000
 at_:0≤h.at_∧h.at_≤9
 may:h.at_=4∨h.at_=5→h.task.may=true
 exec:h.at_=3→0≤h.exec.at_∧h.exec.at_≤9
 live:h.at_=4→h.bm.Live
 find:h.at_=5→h.find.Ok 100000∧(0≤h.find.at_∧h.find.at_≤6)∧(aw M m h.find).2.2.Ok 100000
 az:h.at_=8→0≤h.az.key
 old:h.at_=9→0≤h.plan.old∧h.plan.old<18446744073709551616
theorem si {h:aM} (hcs:c≠s) (hs1:s≠1) (hm:aj w C M m) (hst:aq w C s sg M.L me t) (h':bI w C c s sg b M.L h) (hle:t.ret.length≤98000) (hf:h.Fine M m):Calls Tryz.prog 71 #[.pointer (some ⟨b,0,none⟩),.pointer (some ⟨M.b,0,none⟩)] w (MV C c s ic (.bool (ah M me m t h).1) M (ah M me m t h).2.1 (fun w' C'=>aq w' C' s sg M.L me (ah M me m t h).2.2.1∧bI w' C' c s sg b M.L (ah M me m t h).2.2.2) w):=by
 rcases(by have:=hf.at_;omega:h.at_=0∨h.at_=1∨h.at_=2∨h.at_=3∨h.at_=4∨h.at_=5∨h.at_=6∨h.at_=7∨h.at_=8∨h.at_=9) with h0 | h0 | h0 | h0 | h0 | h0 | h0 | h0 | h0 | h0
 ·exact xJ hcs hs1 hm hst h' hle h0 hf.ok
 ·exact xK hcs hs1 hm hst h' hle h0 hf.ok.u
 ·exact xL hcs hs1 hm hst h' hle h0 hf.ok
 ·exact xN hcs hs1 hm hst h' hle h0 (hf.exec h0)
 ·exact xO hcs hs1 hm hst h' hle h0 (hf.may (.inl h0)) (hf.live h0)
 ·exact xP hcs hs1 hm hst h' hle h0 (hf.may (.inr h0)) (hf.find h0).1 (hf.find h0).2.1 (hf.find h0).2.2
 ·exact xM hcs hs1 hm hst h' hle h0 hf.ok
 ·exact xQ hcs hs1 hm hst h' hle h0
 ·exact xR hcs hs1 hm hst h' hle h0 (hf.az h0)
 ·cases hq:bA M m (M.L.desc h.u) h.found with
  | false=>exact vv hcs hs1 hm hst h' hle h0 hf.ok (hf.old h0) hq
  | true=>
   cases hlk:h.task.links with
   | false=>exact vw hcs hs1 hm hst h' hle h0 hf.ok (hf.old h0) hq hlk
   | true=>exact vx hcs hs1 hm hst h' hle h0 hf.ok (hf.old h0) hq hlk
end Go.Proofs.YtbcnnhlpilmmbaaGreat
