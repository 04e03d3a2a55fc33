/- Texts that are wanted for PTopFull.
   Conditions: none. -/
import Derived.Test.YtbcnnhlpilmmbaaGreatJPTopFull16
set_option maxRecDepth 100000
set_option maxHeartbeats 6400000
namespace Go.Proofs.YtbcnnhlpilmmbaaGreat
open Go Go.RowKit
structure MV (C:Nat→Nat) (c s:Nat) (LX:List (Option TypeId)) (v:Value) (M:ML) (m':Mm) (P:World→(Nat→Nat)→Prop) (w:World) (e:Ending) (w':World):Prop where
 ret:e= .returned v
 own:∃ C',aB w.heap.size C C'∧aj w' C' M m'∧P w' C'
 fr:Fr C (dK c s) LX w w'
def gS:List (Option TypeId):=[some 171,some 224,some 157,some 3,some 230,some 236]++wa
theorem wJ:∀ x,x∈LM→x∈gS:=by decide
theorem Dv:∀ x,x∈vE→x∈gS:=by decide
theorem Dw:∀ x,x∈wa→x∈gS:=by decide
theorem Dx:∀ x,x∈oE→x∈gS:=by decide
theorem Dy:∀ x,x∈zB→x∈gS:=by decide
theorem Dz:∀ x,x∈GJ→x∈gS:=by decide
theorem DA:∀ x,x∈FE→x∈gS:=by decide
theorem nU:∀ x,x∈JC→x∈gS:=by decide
theorem xY:∀ x,x∈AN→x∈gS:=by decide
theorem o4:∀ x,x∈[some 171]→x∈gS:=by decide
variable {w:World} {C:Nat→Nat} {c s sg b:Nat} {M:ML} {m:Mm} {me:Int} {t:cV}
theorem wK {h:aK} (_:c≠s) (_:s≠1) (hm:aj w C M m) (hst:al w C s sg M.L me t) (h':br w C c s sg b M.L h) (hle:t.ret.length≤98000) (h0:h.at_=3) (hat:0≤h.exec.at_∧h.exec.at_≤9):Calls Tryz.prog 106 #[.pointer (some ⟨b,0,none⟩),.pointer (some ⟨M.b,0,none⟩)] w (MV C c s gS (.tuple #[]) M (ah M me m t h).2.1 (fun w' C'=>al w' C' s sg M.L me (ah M me m t h).2.2.1∧br w' C' c s sg b M.L (ah M me m t h).2.2.2) w):=by
 obtain⟨pe,pn,pf,pc,pp,sb,h1,h2,h3,h4,h5⟩:=h'.ex
 obtain⟨be,rfl,hex⟩:=h1 h0
 have HEX:=fun W C' (k1:aj W C' M m) (k2:fN W C' c be M.L h.exec)=>yR k1 k2 hat
 obtain⟨r,hr⟩:∃ r,bu M m h.exec=r:=⟨_,rfl⟩
 simp only[hr] at HEX
 obtain⟨r1,m',GK⟩:=r
 have sK:=fun W C' (k1:al W C' s sg M.L me t) (k2:dT W C' c sg b (.pointer (some ⟨be,0,none⟩)) pn pf pc pp h) (hp:0≤GK.popped∧GK.popped≤1000)=>uQ k1 k2 (by omega) GK.popped hp
 have HST:Hid (ah M me m t h=(false,m',if r1∧GK.popped≠0 then t.retire [GK.popped] else t,{ h with exec:=GK,at_:=if r1 then 0 else 3 })):=Lib.hid (by unfold ah;simp only;rw[if_neg (by rw[h0];decide)];rw[if_neg (by rw[h0];decide)];rw[if_neg (by rw[h0];decide)];rw[if_pos h0];simp only[hr])
 unfold dT at sb
 clear hr
 obtain⟨u,no,rounds,limit,at_,found,⟨sh,kind,key⟩,⟨g0,⟨g1,g2,g3⟩,g4,g5,g6,g7,g8⟩,exec,a5,find,cl,aD⟩:=h
 simp only at sb h0 hex HST sK HEX
 subst h0
 clear h' h1 h2 h3 h4 h5 hat
 go_enter Tryz.func106,Tryz.ntmps106
 have fr:=Fr.refl C (dK c s) gS w
 have ag:=aB.refl w.heap.size C
 go_wp2_with fail
 refine(HEX _ _ hm hex).mono ?_;clear hm hex;rintro e w1 ⟨rfl,hm,hex,hf⟩
 revert hst;revert sb;revert fr;refine dS hf (eE c s) Dv ag ?_;clear hf;intro fr sb hst
 try dsimp only at hm hex
 cases r1
 ·skip
  go_wp2_with fail
  go_end0
  exact⟨rfl,⟨_,ag,by rw[HST.out];exact hm,by rw[HST.out];exact⟨hst,⟨_,_,_,_,_,sb,fun _=>⟨be,rfl,hex⟩,fun h=>by simp at h,fun h=>by simp at h,fun h=>by simp at h,fun h=>by simp at h⟩⟩⟩,fr⟩
 ·skip
  have hpp:=hex.popped
  have Ny:=hex.blk
  go_wp2_with fail
  refine(sK _ _ hst sb hpp).mono ?_
  rintro e w9 ⟨rfl,⟨C9,dC,Ba,bN⟩,bU⟩
  have fX:=ag.trans dC fr.size
  replace fr:=fr.trans (bU.mono (fun _ h=>h) DA) ag
  replace hm:=hm.mv bU dC (.inr ⟨by decide,by decide⟩)
  go_wp2_with fail
  go_end0
  exact⟨rfl,⟨_,fX,by rw[HST.out];exact hm,by rw[HST.out];exact⟨by simpa using Ba,⟨_,_,_,_,_,bN,fun h=>by simp at h,fun h=>by simp at h,fun h=>by simp at h,fun h=>by simp at h,fun h=>by simp at h⟩⟩⟩,fr⟩
theorem wL {h:aK} (_:c≠s) (_:s≠1) (hm:aj w C M m) (hst:al w C s sg M.L me t) (h':br w C c s sg b M.L h) (hle:t.ret.length≤98000) (h0:h.at_=4) (hmay:h.task.may=true) (hlv:h.a5.Live):Calls Tryz.prog 106 #[.pointer (some ⟨b,0,none⟩),.pointer (some ⟨M.b,0,none⟩)] w (MV C c s gS (.tuple #[]) M (ah M me m t h).2.1 (fun w' C'=>al w' C' s sg M.L me (ah M me m t h).2.2.1∧br w' C' c s sg b M.L (ah M me m t h).2.2.2) w):=by
 obtain⟨pe,pn,pf,pc,pp,sb,h1,h2,h3,h4,h5⟩:=h'.ex
 obtain⟨bn,rfl,hen⟩:=h2 h0
 have uR:=fun W C' (k1:aj W C' M m) (k2:al W C' s sg M.L me t) (k3:fh W C' c s sg bn M.L h.a5)=>m8 k1 k2 k3 (by omega) hlv
 obtain⟨r,hr⟩:∃ r,aF M me m t h.a5=r:=⟨_,rfl⟩
 simp only[hr] at uR
 obtain⟨r1,m',t2,FF⟩:=r
 have sK:=fun W C' (k1:al W C' s sg M.L me t2) (k2:br W C' c s sg b M.L { h with a5:=FF })=>sZ hm.ok k1 k2 h0 hmay
 have HST:Hid (ah M me m t h=(false,m',t2,if r1=false then { h with a5:=FF } else aK.ensured M.L me { h with a5:=FF })):=Lib.hid (by unfold ah aK.ensured;simp only;rw[if_neg (by rw[h0];decide)];rw[if_neg (by rw[h0];decide)];rw[if_neg (by rw[h0];decide)];rw[if_neg (by rw[h0];decide)];rw[if_pos h0];simp only[hr])
 unfold dT at sb
 clear hr
 obtain⟨u,no,rounds,limit,at_,found,⟨sh,kind,key⟩,⟨g0,⟨g1,g2,g3⟩,g4,g5,g6,g7,g8⟩,exec,a5,find,cl,aD⟩:=h
 simp only at sb h0 hen HST sK uR
 subst h0
 clear h' h1 h2 h3 h4 h5 hlv hmay
 go_enter Tryz.func106,Tryz.ntmps106
 have fr:=Fr.refl C (dK c s) gS w
 have ag:=aB.refl w.heap.size C
 go_wp2_with fail
 refine(uR _ _ hm hst hen).mono ?_;clear hm hst hen;rintro e w1 ⟨rfl,⟨C1,aG,hm,hst,hen⟩,hf⟩
 revert sb;revert fr;revert ag;refine kx hf aG (fun _ h=>h) Dw ?_;clear hf aG;intro ag fr sb
 try dsimp only at hm hst hen
 cases r1
 ·skip
  go_wp2_with fail
  go_end0
  exact⟨rfl,⟨_,ag,by rw[HST.out];exact hm,by rw[HST.out];exact⟨hst,⟨_,_,_,_,_,sb,fun h=>by simp at h,fun _=>⟨bn,rfl,hen⟩,fun h=>by simp at h,fun h=>by simp at h,fun h=>by simp at h⟩⟩⟩,fr⟩
 ·skip
  go_wp2_with fail
  refine(sK _ _ hst ⟨_,_,_,_,_,sb,fun h=>by simp at h,fun _=>⟨bn,rfl,hen⟩,fun h=>by simp at h,fun h=>by simp at h,fun h=>by simp at h⟩).mono ?_
  rintro e w9 ⟨rfl,⟨C9,dC,bN⟩,bU⟩
  have fX:=ag.trans dC fr.size
  replace fr:=fr.trans (bU.mono (aR c s) o4) ag
  replace hm:=hm.mv bU dC (.inr ⟨by decide,by decide⟩)
  replace hst:=hst.mv bU dC (.inr (by decide))
  go_wp2_with fail
  go_end0
  exact⟨rfl,⟨_,fX,by rw[HST.out];exact hm,by rw[HST.out];exact⟨hst,bN⟩⟩,fr⟩
theorem wM {h:aK} (hcs:c≠s) (hs1:s≠1) (hm:aj w C M m) (hst:al w C s sg M.L me t) (h':br w C c s sg b M.L h) (hle:t.ret.length≤98000) (h0:h.at_=5) (hmay:h.task.may=true) (hfo:h.find.Ok 100000) (hfa:0≤h.find.at_∧h.find.at_≤6) (eV:(ax M m h.find).2.2.Ok 100000):Calls Tryz.prog 106 #[.pointer (some ⟨b,0,none⟩),.pointer (some ⟨M.b,0,none⟩)] w (MV C c s gS (.tuple #[]) M (ah M me m t h).2.1 (fun w' C'=>al w' C' s sg M.L me (ah M me m t h).2.2.1∧br w' C' c s sg b M.L (ah M me m t h).2.2.2) w):=by
 obtain⟨pe,pn,pf,pc,pp,sb,h1,h2,h3,h4,h5⟩:=h'.ex
 obtain⟨bf,rfl,hfi⟩:=h3 h0
 have hKs:¬ Kc c s:=fun e=>e.elim (fun e=>hcs e.symm) hs1
 have hKf:¬ K0 s c:=fun e=>hcs e
 have A9:=fun W C' (k1:aj W C' M m) (k2:eK W C' c bf M.L h.find)=>mH k1 k2 hfo hfa
 obtain⟨r,hr⟩:∃ r,ax M m h.find=r:=⟨_,rfl⟩
 simp only[hr] at A9 eV
 obtain⟨r1,m',bT⟩:=r
 have sK:=fun W C' (k1:al W C' s sg M.L me (t.retire bT.aQ)) (k2:br W C' c s sg b M.L { h with find:=bT })=>uP k1 k2 h0 hmay eV
 have HST:Hid (ah M me m t h=if r1 then (false,m',t.retire bT.aQ,aK.bP t.spare { h with find:=bT }) else (false,m',t,{ h with find:=bT })):=Lib.hid (by unfold ah;simp only;rw[if_neg (by rw[h0];decide)];rw[if_neg (by rw[h0];decide)];rw[if_neg (by rw[h0];decide)];rw[if_neg (by rw[h0];decide)];rw[if_neg (by rw[h0];decide)];rw[if_pos h0];simp only[hr,aK.rI])
 have hu2:=eV.aQ
 have yN:=Lib.hid hu2.1
 have hle2:bT.aQ.length≤100000:=by have:=hu2.2;simp only at this;omega
 unfold dT at sb
 clear hr hu2 hfo eV
 obtain⟨u,no,rounds,limit,at_,found,⟨sh,kind,key⟩,⟨g0,⟨g1,g2,g3⟩,g4,g5,g6,g7,g8⟩,exec,a5,find,cl,aD⟩:=h
 simp only at sb h0 hfi HST sK A9
 subst h0
 clear h' h1 h2 h3 h4 h5 hfa hmay
 go_enter Tryz.func106,Tryz.ntmps106
 have fr:=Fr.refl C (dK c s) gS w
 have ag:=aB.refl w.heap.size C
 go_wp2_with fail
 refine(A9 _ _ hm hfi).mono ?_;clear hm hfi;rintro e w1 ⟨rfl,⟨C1,aG,hm,hfi⟩,hf⟩
 replace hst:=hst.mv hf aG (.inl hKs)
 revert sb;revert fr;revert ag;refine kx hf aG (eE c s) Dx ?_;clear hf aG;intro ag fr sb
 try dsimp only at hm hfi
 cases r1
 ·skip
  go_wp2_with fail
  go_end0
  exact⟨rfl,⟨_,ag,by rw[HST.out];exact hm,by rw[HST.out];exact⟨hst,⟨_,_,_,_,_,sb,fun h=>by simp at h,fun h=>by simp at h,fun _=>⟨bf,rfl,hfi⟩,fun h=>by simp at h,fun h=>by simp at h⟩⟩⟩,fr⟩
 ·skip
  obtain⟨pc1,hfc,-⟩:=id hfi.ex
  obtain⟨A1,n1,cap1,hn1,fi,hrow1⟩:=hfc.ex
  have uw:=Lib.hid hn1
  have ic:n1≤100000:=by omega
  have hsl:=Sl.cB hrow1.own
  clear hn1 hrow1 hfc
  go_wp2_with fail
  revert fi;revert hfi;revert hst;revert hm;revert sb;revert fr;refine bD ?_;intro fr sb hm hst hfi fi
  obtain⟨q1,q2,qi⟩:=bl sb fi
  refine aA sb fi 11 [] [0,1,2,3,4,5,6,7,8,9,10] [11] (by kernel_rfl) (by kernel_rfl) ?_
  refine af ?_;try simp only[ox]
  repeat(go_big_quiet_step (fail))
  refine wpQuiet_nil ?_
  refine ae _ _ _ (by kernel_rfl) ?_;try simp only[ox]
  clear qi q1 q2
  go_wp2_with fail
  have hsl2:=hsl.step (Nat.le_refl _) (Below.refl w1.heap.size w1).drew
  refine(cj hst bT.aQ A1 n1 cap1 _ hsl2 uw.out (by omega) ic yN.out).mono ?_;clear hst;rintro e w2 ⟨rfl,⟨C2,aG,hst⟩,hf⟩
  replace hfi:=hfi.mv hf aG (.inl hKf)
  revert ag fr sb hm fi;refine kx hf aG (ej c s) xY ?_;clear hf aG;intro ag fr sb hm fi
  clear hsl hsl2
  go_wp2_with fail
  refine NoPanic.normal ?_
  go_wp2_with fail
  refine(sK _ _ hst ⟨_,_,_,_,_,sb,fun h=>by simp at h,fun h=>by simp at h,fun _=>⟨bf,rfl,hfi⟩,fun h=>by simp at h,fun h=>by simp at h⟩).mono ?_
  rintro e w9 ⟨rfl,⟨C9,dC,bN⟩,bU⟩
  have fX:=ag.trans dC fr.size
  replace fr:=fr.trans (bU.mono (aR c s) o4) ag
  replace hm:=hm.mv bU dC (.inr ⟨by decide,by decide⟩)
  replace hst:=hst.mv bU dC (.inr (by decide))
  go_wp2_with fail
  go_end0
  exact⟨rfl,⟨_,fX,by rw[HST.out];exact hm,by rw[HST.out];exact⟨hst,bN⟩⟩,fr⟩
theorem wN {h:aK} (_:c≠s) (_:s≠1) (hm:aj w C M m) (hst:al w C s sg M.L me t) (h':br w C c s sg b M.L h) (_:t.ret.length≤98000) (h0:h.at_=7):Calls Tryz.prog 106 #[.pointer (some ⟨b,0,none⟩),.pointer (some ⟨M.b,0,none⟩)] w (MV C c s gS (.tuple #[]) M (ah M me m t h).2.1 (fun w' C'=>al w' C' s sg M.L me (ah M me m t h).2.2.1∧br w' C' c s sg b M.L (ah M me m t h).2.2.2) w):=by
 obtain⟨pe,pn,pf,pc,pp,sb,h1,h2,h3,h4,h5⟩:=h'.ex
 obtain⟨bc,rfl,hcl⟩:=h4 h0
 have zF:=fun W C' (k1:aj W C' M m) (k2:gl W C' c bc M.L h.cl)=>kL k1 k2
 obtain⟨r,hr⟩:∃ r,bz M m h.cl=r:=⟨_,rfl⟩
 simp only[hr] at zF
 obtain⟨r1,m',Hz⟩:=r
 have HST:Hid (ah M me m t h=(false,m',t,{ h with cl:=Hz,at_:=if r1 then 0 else 7 })):=Lib.hid (by unfold ah;simp only;rw[if_neg (by rw[h0];decide)];rw[if_neg (by rw[h0];decide)];rw[if_neg (by rw[h0];decide)];rw[if_neg (by rw[h0];decide)];rw[if_neg (by rw[h0];decide)];rw[if_neg (by rw[h0];decide)];rw[if_neg (by rw[h0];decide)];rw[if_pos h0];simp only[hr])
 unfold dT at sb
 clear hr
 obtain⟨u,no,rounds,limit,at_,found,⟨sh,kind,key⟩,⟨g0,⟨g1,g2,g3⟩,g4,g5,g6,g7,g8⟩,exec,a5,find,cl,aD⟩:=h
 simp only at sb h0 hcl HST zF
 subst h0
 clear h' h1 h2 h3 h4 h5
 go_enter Tryz.func106,Tryz.ntmps106
 have fr:=Fr.refl C (dK c s) gS w
 have ag:=aB.refl w.heap.size C
 go_wp2_with fail
 refine(zF _ _ hm hcl).mono ?_;clear hm hcl;rintro e w1 ⟨rfl,hm,hcl,hf⟩
 revert hst;revert sb;revert fr;refine dS hf (eE c s) Dy ag ?_;clear hf;intro fr sb hst
 try dsimp only at hm hcl
 cases r1
 ·skip
  go_wp2_with fail
  go_end0
  exact⟨rfl,⟨_,ag,by rw[HST.out];exact hm,by rw[HST.out];exact⟨hst,⟨_,_,_,_,_,sb,fun h=>by simp at h,fun h=>by simp at h,fun h=>by simp at h,fun _=>⟨bc,rfl,hcl⟩,fun h=>by simp at h⟩⟩⟩,fr⟩
 ·skip
  have z1:=sb
  revert hcl;revert hst;revert hm;revert fr;refine st1 sb 5 (.int .i64 0) (aR c s) ag ?_;clear sb;rintro w2 e1 fr sb hm hst hcl
  simp only[sx] at sb
  go_wp2_with fail
  clear z1 e1
  go_end0
  exact⟨rfl,⟨_,ag,by rw[HST.out];exact hm,by rw[HST.out];exact⟨hst,⟨_,_,_,_,_,sb,fun h=>by simp at h,fun h=>by simp at h,fun h=>by simp at h,fun h=>by simp at h,fun h=>by simp at h⟩⟩⟩,fr⟩
theorem wO {h:aK} (_:c≠s) (_:s≠1) (hm:aj w C M m) (hst:al w C s sg M.L me t) (h':br w C c s sg b M.L h) (_:t.ret.length≤98000) (h0:h.at_=8) (hk:0≤h.aD.key):Calls Tryz.prog 106 #[.pointer (some ⟨b,0,none⟩),.pointer (some ⟨M.b,0,none⟩)] w (MV C c s gS (.tuple #[]) M (ah M me m t h).2.1 (fun w' C'=>al w' C' s sg M.L me (ah M me m t h).2.2.1∧br w' C' c s sg b M.L (ah M me m t h).2.2.2) w):=by
 obtain⟨pe,pn,pf,pc,pp,sb,h1,h2,h3,h4,h5⟩:=h'.ex
 obtain⟨bp,rfl,hpr⟩:=h5 h0
 have FA:=fun W C' (k1:aj W C' M m) (k2:al W C' s sg M.L me t) (k3:jK W C' c sg bp h.aD)=>lH k1 k2 k3 hk
 obtain⟨r,hr⟩:∃ r,dh M m t h.aD=r:=⟨_,rfl⟩
 simp only[hr] at FA
 obtain⟨r1,m',Kg⟩:=r
 have HST:Hid (ah M me m t h=(false,m',t,{ h with aD:=Kg,at_:=if r1 then 9 else 8 })):=Lib.hid (by unfold ah;simp only;rw[if_neg (by rw[h0];decide)];rw[if_neg (by rw[h0];decide)];rw[if_neg (by rw[h0];decide)];rw[if_neg (by rw[h0];decide)];rw[if_neg (by rw[h0];decide)];rw[if_neg (by rw[h0];decide)];rw[if_neg (by rw[h0];decide)];rw[if_neg (by rw[h0];decide)];rw[if_pos h0];simp only[hr])
 unfold dT at sb
 clear hr
 obtain⟨u,no,rounds,limit,at_,found,⟨sh,kind,key⟩,⟨g0,⟨g1,g2,g3⟩,g4,g5,g6,g7,g8⟩,exec,a5,find,cl,aD⟩:=h
 simp only at sb h0 hpr HST FA
 subst h0
 clear h' h1 h2 h3 h4 h5
 go_enter Tryz.func106,Tryz.ntmps106
 have fr:=Fr.refl C (dK c s) gS w
 have ag:=aB.refl w.heap.size C
 go_wp2_with fail
 refine(FA _ _ hm hst hpr).mono ?_;clear hm hpr;rintro e w1 ⟨rfl,hm,hpr,hf⟩
 revert hst;revert sb;revert fr;refine dS hf (eE c s) Dz ag ?_;clear hf;intro fr sb hst
 try dsimp only at hm hpr
 cases r1
 ·skip
  go_wp2_with fail
  go_end0
  exact⟨rfl,⟨_,ag,by rw[HST.out];exact hm,by rw[HST.out];exact⟨hst,⟨_,_,_,_,_,sb,fun h=>by simp at h,fun h=>by simp at h,fun h=>by simp at h,fun h=>by simp at h,fun _=>⟨bp,rfl,hpr⟩⟩⟩⟩,fr⟩
 ·skip
  have z1:=sb
  revert hpr;revert hst;revert hm;revert fr;refine st1 sb 5 (.int .i64 9) (aR c s) ag ?_;clear sb;rintro w2 e1 fr sb hm hst hpr
  simp only[sx] at sb
  go_wp2_with fail
  clear z1 e1
  go_end0
  exact⟨rfl,⟨_,ag,by rw[HST.out];exact hm,by rw[HST.out];exact⟨hst,⟨_,_,_,_,_,sb,fun h=>by simp at h,fun h=>by simp at h,fun h=>by simp at h,fun h=>by simp at h,fun h=>by simp at h⟩⟩⟩,fr⟩
theorem wP {h:aK} (_:c≠s) (_:s≠1) (hm:aj w C M m) (hst:al w C s sg M.L me t) (h':br w C c s sg b M.L h) (_:t.ret.length≤98000) (h0:h.at_=0) (hok:h.Ok 1000000):Calls Tryz.prog 71 #[.pointer (some ⟨b,0,none⟩),.pointer (some ⟨M.b,0,none⟩)] w (MV C c s gS (.bool (ah M me m t h).1) M (ah M me m t h).2.1 (fun w' C'=>al w' C' s sg M.L me (ah M me m t h).2.2.1∧br w' C' c s sg b M.L (ah M me m t h).2.2.2) w):=by
 obtain⟨pe,pn,pf,pc,pp,sb,h1,h2,h3,h4,h5⟩:=h'.ex
 obtain⟨⟨A,n,cap,hn,st,hrow⟩,-,-,-⟩:=id hst
 clear hn hrow
 obtain⟨hfd,hu,hro⟩:=hok
 have hlr:=bJ hm (M.L.desc h.u)
 obtain⟨v,hv⟩:∃ v,ld M m (M.L.desc h.u)=v:=⟨_,rfl⟩
 rw[hv] at hlr
 have eL:=fun W C' (k:dT W C' c sg b pe pn pf pc pp { h with found:=v,rounds:=h.rounds+1,at_:=1 })=>dI k hlr
 have hdf:=cX v
 obtain⟨D,hD⟩:∃ D,getD' v=D:=⟨_,rfl⟩
 simp only[hD] at eL hdf
 have Kn:=fun W=>iS D hdf W
 have HST:Hid (ah M me m t h=(!D.pend,m,t,{ h with found:=v,rounds:=h.rounds+1,at_:=1 })):=Lib.hid (by unfold ah;simp only;rw[if_pos h0];simp only[hv,hD])
 obtain⟨pd,LI⟩:∃ pd,D.pend=pd:=⟨_,rfl⟩
 rw[LI] at Kn HST
 have HV:=Lib.hid hv
 unfold dT at sb
 clear hD hdf LI hv
 obtain⟨da,dd,dv,dn,dm,ds,dl⟩:=D
 simp only[Ds.vals] at eL Kn
 obtain⟨u,no,rounds,limit,at_,found,⟨sh,kind,key⟩,⟨g0,⟨g1,g2,g3⟩,g4,g5,g6,g7,g8⟩,exec,a5,find,cl,aD⟩:=h
 simp only at sb h0 hu hro HST eL HV
 subst h0
 have e1:wrap64 (rounds+1)=rounds+1:=IntWalk.wrap64_in _ (by omega)
 clear h' h1 h2 h3 h4 h5
 go_enter Tryz.func71,Tryz.ntmps71
 have fr:=Fr.refl C (dK c s) gS w
 have ag:=aB.refl w.heap.size C
 go_wp2_with fail
 revert st;revert hst;revert hm;revert sb;revert fr;refine bD ?_;intro fr sb hm hst st
 obtain⟨q1,q2,qi⟩:=bl sb st
 refine aA sb st 13 [] [0,1,2,3,4,5,6,7,8,9,10,11,12] [13,14,15,16,17] (by kernel_rfl) (by kernel_rfl) ?_
 refine af ?_;try simp only[ox]
 repeat(go_big_quiet_step (fail))
 refine wpQuiet_nil ?_
 refine ae _ _ _ (by kernel_rfl) ?_;try simp only[ox]
 clear qi q1 q2
 go_wp2_with fail
 refine(cC M.L hm.ok u (by omega) _).mono ?_;rintro e w1 ⟨rfl,hb1⟩
 revert fr sb hm hst st;refine dX hb1 ?_;intro fr sb hm hst st
 go_wp2_with fail
 refine(aP hm (M.L.desc u)).mono ?_;clear hm;rintro e w2 ⟨rfl,hm,hf⟩
 rw[HV.out]
 revert fr sb hst st;refine dS hf (iY c s) wJ ag ?_;clear hf;intro fr sb hst st
 have z1:=And.intro sb st
 revert hm hst st;revert fr;refine st1 sb 6 (.int .u64 v) (aR c s) ag ?_;clear sb;rintro w3 e1 fr sb hm hst st
 simp only[sx] at sb
 go_wp2_with fail
 refine NoPanic.normal ?_
 go_wp2_with fail
 clear z1 e1
 have z2:=And.intro sb st
 revert fr hm hst st;refine st1 sb 3 (.int .i64 (rounds+1)) (aR c s) ag ?_;clear sb;rintro w4 e1 fr sb hm hst st
 simp only[sx] at sb
 have z3:=And.intro sb st
 revert fr hm hst st;refine st1 sb 5 (.int .i64 1) (aR c s) ag ?_;clear sb;rintro w5 e2 fr sb hm hst st
 simp only[sx] at sb
 go_wp2_with fail
 try simp only[e1,e2]
 clear z2 e1 z3 e2
 refine(eL _ _ sb).mono ?_;rintro e w6 ⟨rfl,hb6⟩
 revert fr hm hst st sb;refine dX hb6 ?_;intro fr hm hst st sb
 go_wp2_with fail
 revert fr hm hst st sb;refine bk (Kn _) ?_;rintro e w7 rfl fr hm hst st sb
 go_wp2_with fail
 go_ret
 exact⟨by rw[HST.out];rfl,⟨_,ag,by rw[HST.out];exact hm,by rw[HST.out];exact⟨hst,⟨_,_,_,_,_,sb,fun h=>by simp at h,fun h=>by simp at h,fun h=>by simp at h,fun h=>by simp at h,fun h=>by simp at h⟩⟩⟩,fr⟩
theorem wQ {h:aK} (_:c≠s) (_:s≠1) (hm:aj w C M m) (hst:al w C s sg M.L me t) (h':br w C c s sg b M.L h) (_:t.ret.length≤98000) (h0:h.at_=1) (hu:0≤h.u∧h.u≤7):Calls Tryz.prog 71 #[.pointer (some ⟨b,0,none⟩),.pointer (some ⟨M.b,0,none⟩)] w (MV C c s gS (.bool (ah M me m t h).1) M (ah M me m t h).2.1 (fun w' C'=>al w' C' s sg M.L me (ah M me m t h).2.2.1∧br w' C' c s sg b M.L (ah M me m t h).2.2.2) w):=by
 obtain⟨pe,pn,pf,pc,pp,sb,h1,h2,h3,h4,h5⟩:=h'.ex
 obtain⟨⟨A,n,cap,hn,st,hrow⟩,-,-,-⟩:=id hst
 clear hn hrow
 obtain⟨v,hv⟩:∃ v,ld M m (M.L.ticket h.u)=v:=⟨_,rfl⟩
 obtain⟨q,hq⟩:∃ q,decide (v≠h.no)=q:=⟨_,rfl⟩
 have HST:Hid (ah M me m t h=(q,m,t,{ h with at_:=2 })):=Lib.hid (by unfold ah;simp only;rw[if_neg (by rw[h0];decide)];rw[if_pos h0];simp only[hv];rw[hq])
 have dq:(v !=h.no)=q:=by rw[←hq];by_cases e:v=h.no<;>simp[e]
 have HV:=Lib.hid hv
 unfold dT at sb
 clear hv hq
 obtain⟨u,no,rounds,limit,at_,found,⟨sh,kind,key⟩,⟨g0,⟨g1,g2,g3⟩,g4,g5,g6,g7,g8⟩,exec,a5,find,cl,aD⟩:=h
 simp only at sb h0 hu HST HV dq
 subst h0
 clear h' h1 h2 h3 h4 h5
 go_enter Tryz.func71,Tryz.ntmps71
 have fr:=Fr.refl C (dK c s) gS w
 have ag:=aB.refl w.heap.size C
 go_wp2_with fail
 have z1:=And.intro sb st
 revert st;revert hst;revert hm;revert fr;refine st1 sb 5 (.int .i64 2) (aR c s) ag ?_;clear sb;rintro w1 e1 fr sb hm hst st
 simp only[sx] at sb
 go_wp2_with fail
 try simp only[e1]
 clear z1 e1
 revert fr hm hst st sb;refine bD ?_;intro fr hm hst st sb
 obtain⟨q1,q2,qi⟩:=bl sb st
 refine aA sb st 19 [([0,1,2,3,4,5,6,7,8,9,10,11,14,15,16,17],12),([],13)] [18] [19] (by kernel_rfl) (by kernel_rfl) ?_
 refine ai ?_;simp only[ox];repeat(go_big_quiet_step (fail))
 refine di rfl (fun K' hK'=> ?_);go_simp
 ((with_reducible refine(kG M.L hm.ok u (by omega) _).mono ?_);rintro e w2 ⟨rfl,hb2⟩)
 revert fr hm hst st sb;refine dX hb2 ?_;intro fr hm hst st sb
 refine hK' _ _ (eJ sb st) ?_;clear hK' K'
 refine ai ?_;simp only[ox];repeat(go_big_quiet_step (fail))
 refine di rfl (fun K' hK'=> ?_);go_simp
 ((with_reducible refine(aP hm (M.L.ticket u)).mono ?_);clear hm;rintro e w3 ⟨rfl,hm,hf⟩)
 rw[HV.out]
 revert fr hst st sb;refine dS hf (iY c s) wJ ag ?_;clear hf;intro fr hst st sb
 refine hK' _ _ (eJ sb st) ?_;clear hK' K'
 refine af ?_;try simp only[ox]
 repeat(go_big_quiet_step (fail))
 refine wpQuiet_nil ?_
 refine ae _ _ _ (by kernel_rfl) ?_;try simp only[ox]
 clear qi q1 q2
 go_wp2_with fail
 refine NoPanic.normal ?_
 go_wp2_with fail
 go_ret
 exact⟨by rw[HST.out];rfl,⟨_,ag,by rw[HST.out];exact hm,by rw[HST.out];exact⟨hst,⟨_,_,_,_,_,sb,fun h=>by simp at h,fun h=>by simp at h,fun h=>by simp at h,fun h=>by simp at h,fun h=>by simp at h⟩⟩⟩,fr⟩
theorem wR {h:aK} (hcs:c≠s) (_:s≠1) (hm:aj w C M m) (hst:al w C s sg M.L me t) (h':br w C c s sg b M.L h) (_:t.ret.length≤98000) (h0:h.at_=2) (hok:h.Ok 1000000):Calls Tryz.prog 71 #[.pointer (some ⟨b,0,none⟩),.pointer (some ⟨M.b,0,none⟩)] w (MV C c s gS (.bool (ah M me m t h).1) M (ah M me m t h).2.1 (fun w' C'=>al w' C' s sg M.L me (ah M me m t h).2.2.1∧br w' C' c s sg b M.L (ah M me m t h).2.2.2) w):=by
 obtain⟨pe,pn,pf,pc,pp,sb,h1,h2,h3,h4,h5⟩:=h'.ex
 obtain⟨⟨A,n,cap,hn,st,hrow⟩,-,-,-⟩:=id hst
 clear hn hrow
 have hu:=hok.u
 have hlr:=bJ hm (M.L.task h.u)
 obtain⟨v,hv⟩:∃ v,ld M m (M.L.task h.u)=v:=⟨_,rfl⟩
 rw[hv] at hlr
 have Ko:=fun W C' (k1:al W C' s sg M.L me t) (k2:dT W C' c sg b pe pn pf pc pp h)=>wI hm.ok k1 k2 h0 hok v hlr hcs
 obtain⟨so,hso⟩:∃ so,h.begin_ M.L me t v=so:=⟨_,rfl⟩
 rw[hso] at Ko
 have HST:Hid (ah M me m t h=(so.1,m,t,so.2)):=Lib.hid (by unfold ah;simp only;rw[if_neg (by rw[h0];decide)];rw[if_neg (by rw[h0];decide)];rw[if_pos h0];simp only[hv,hso])
 have HV:=Lib.hid hv
 unfold dT at sb
 clear hv hso hok
 obtain⟨u,no,rounds,limit,at_,found,⟨sh,kind,key⟩,⟨g0,⟨g1,g2,g3⟩,g4,g5,g6,g7,g8⟩,exec,a5,find,cl,aD⟩:=h
 simp only at sb h0 hu HST HV Ko
 subst h0
 clear h' h1 h2 h3 h4 h5
 go_enter Tryz.func71,Tryz.ntmps71
 have fr:=Fr.refl C (dK c s) gS w
 have ag:=aB.refl w.heap.size C
 go_wp2_with fail
 revert st;revert hst;revert hm;revert sb;revert fr;refine bD ?_;intro fr sb hm hst st
 obtain⟨q1,q2,qi⟩:=bl sb st
 refine aA sb st 13 [] [0,1,2,3,4,5,6,7,8,9,10,11,12] [13,14,15,16] (by kernel_rfl) (by kernel_rfl) ?_
 refine af ?_;try simp only[ox]
 repeat(go_big_quiet_step (fail))
 refine wpQuiet_nil ?_
 refine ae _ _ _ (by kernel_rfl) ?_;try simp only[ox]
 clear qi q1 q2
 go_wp2_with fail
 refine(tG M.L hm.ok u (by omega) _).mono ?_;rintro e w1 ⟨rfl,hb1⟩
 revert fr sb hm hst st;refine dX hb1 ?_;intro fr sb hm hst st
 go_wp2_with fail
 refine(aP hm (M.L.task u)).mono ?_;clear hm;rintro e w2 ⟨rfl,hm,hf⟩
 rw[HV.out]
 revert fr sb hst st;refine dS hf (iY c s) wJ ag ?_;clear hf;intro fr sb hst st
 go_wp2_with fail
 refine(Ko _ _ hst sb).mono ?_
 rintro e w9 ⟨rfl,⟨C9,dC,bN⟩,bU⟩
 have fX:=ag.trans dC fr.size
 replace fr:=fr.trans (bU.mono (aR c s) o4) ag
 replace hm:=hm.mv bU dC (.inr ⟨by decide,by decide⟩)
 replace hst:=hst.mv bU dC (.inr (by decide))
 go_wp2_with fail
 refine NoPanic.normal ?_
 go_wp2_with fail
 go_ret
 exact⟨by rw[HST.out];rfl,⟨_,fX,by rw[HST.out];exact hm,by rw[HST.out];exact⟨hst,bN⟩⟩,fr⟩
theorem wS {h:aK} (_:c≠s) (_:s≠1) (hm:aj w C M m) (hst:al w C s sg M.L me t) (h':br w C c s sg b M.L h) (_:t.ret.length≤98000) (h0:h.at_=6) (hok:h.Ok 1000000):Calls Tryz.prog 71 #[.pointer (some ⟨b,0,none⟩),.pointer (some ⟨M.b,0,none⟩)] w (MV C c s gS (.bool (ah M me m t h).1) M (ah M me m t h).2.1 (fun w' C'=>al w' C' s sg M.L me (ah M me m t h).2.2.1∧br w' C' c s sg b M.L (ah M me m t h).2.2.2) w):=by
 obtain⟨pe,pn,pf,pc,pp,sb,h1,h2,h3,h4,h5⟩:=h'.ex
 obtain⟨hfd,hu,-⟩:=hok
 have eL:=fun W C' (k:dT W C' c sg b pe pn pf pc pp h)=>dI k hfd
 obtain⟨D,hD⟩:∃ D,getD' h.found=D:=⟨_,rfl⟩
 simp only[hD] at eL
 have uR:=fun W=>oc D h.plan.res.code h.plan.res.ok h.plan.res.val W
 have hxr:=gV (D.ended h.plan.res.code h.plan.res.ok h.plan.res.val)
 have zI:=j8 (D.ended h.plan.res.code h.plan.res.ok h.plan.res.val) _ rfl
 unfold Am at uR
 obtain⟨E,hE⟩:∃ E,D.ended h.plan.res.code h.plan.res.ok h.plan.res.val=E:=⟨_,rfl⟩
 rw[hE] at zI hxr
 simp only[hE] at uR
 obtain⟨y,hy⟩:∃ y,cL E=y:=⟨_,rfl⟩
 rw[hy] at zI hxr
 have rH:=fun W C' (k0:aj W C' M m) (k1:al W C' s sg M.L me t) (k2:dT W C' c sg b pe pn pf pc pp h)=>kc k0 k1 k2 hu y (by omega)
 have HST:Hid (ah M me m t h=(false,cas M m (M.L.desc h.u) h.found y,t,{ h with at_:=0 })):=Lib.hid (by unfold ah;simp only;rw[if_neg (by rw[h0];decide)];rw[if_neg (by rw[h0];decide)];rw[if_neg (by rw[h0];decide)];rw[if_neg (by rw[h0];decide)];rw[if_neg (by rw[h0];decide)];rw[if_neg (by rw[h0];decide)];rw[if_pos h0];simp only[hD,hE,hy])
 unfold dT at sb eL
 clear hD hE hy
 obtain⟨da,dd,dv,dn,dm,ds,dl⟩:=D
 obtain⟨ea,ed,ev,en,em,es,el⟩:=E
 simp only[Ds.vals] at eL uR zI
 obtain⟨u,no,rounds,limit,at_,found,⟨sh,kind,key⟩,⟨g0,⟨g1,g2,g3⟩,g4,g5,g6,g7,g8⟩,exec,a5,find,cl,aD⟩:=h
 simp only at sb h0 HST eL uR rH
 subst h0
 clear h' h1 h2 h3 h4 h5
 go_enter Tryz.func71,Tryz.ntmps71
 have fr:=Fr.refl C (dK c s) gS w
 have ag:=aB.refl w.heap.size C
 go_wp2_with fail
 revert hst;revert hm;revert sb;revert fr;refine bD ?_;intro fr sb hm hst
 obtain⟨q1,qi⟩:=aV sb
 refine ar sb 13 [([0,2,3,4,5,6],1),([],7),([],8)] [9,10,11,12] [13] (by kernel_rfl) (by kernel_rfl) ?_
 refine ai ?_;simp only[ox];repeat(go_big_quiet_step (fail))
 refine di rfl (fun K' hK'=> ?_);go_simp
 ((with_reducible refine(eL _ _ sb).mono ?_);rintro e w1 ⟨rfl,hb1⟩)
 revert fr sb hm hst;refine dX hb1 ?_;intro fr sb hm hst
 refine hK' _ _ (bZ sb) ?_;clear hK' K'
 refine ai ?_;simp only[ox];repeat(go_big_quiet_step (fail))
 refine di rfl (fun K' hK'=> ?_);go_simp
 revert fr sb hm hst;with_reducible refine bk (uR _) ?_;rintro e w2 rfl fr sb hm hst
 refine hK' _ _ (bZ sb) ?_;clear hK' K'
 refine ai ?_;simp only[ox];repeat(go_big_quiet_step (fail))
 refine di rfl (fun K' hK'=> ?_);go_simp
 revert fr sb hm hst;with_reducible refine bk (zI _) ?_;rintro e w3 ⟨ec,rfl⟩ fr sb hm hst
 refine hK' _ _ (bZ sb) ?_;clear hK' K'
 refine af ?_;try simp only[ox]
 repeat(go_big_quiet_step (fail))
 refine wpQuiet_nil ?_
 refine ae _ _ _ (by kernel_rfl) ?_;try simp only[ox]
 clear qi q1
 go_wp2_with fail
 refine NoPanic.normal ?_
 go_wp2_with fail
 refine(rH _ _ hm hst sb).mono ?_
 rintro e w9 ⟨rfl,jC,bN,bU⟩
 replace hm:=jC
 clear jC
 replace fr:=fr.trans (bU.mono (eE c s) nU) ag
 replace hst:=hst.fr bU (.inr (by decide))
 go_wp2_with fail
 go_ret
 exact⟨by rw[HST.out];rfl,⟨_,ag,by rw[HST.out];exact hm,by rw[HST.out];exact⟨hst,⟨_,_,_,_,_,bN,fun h=>by simp at h,fun h=>by simp at h,fun h=>by simp at h,fun h=>by simp at h,fun h=>by simp at h⟩⟩⟩,fr⟩
theorem kZ (p:dw) (aM:Int):0≤p.desc aM∧p.desc aM<18446744073709551616:=by
 unfold dw.desc
 split
 ·omega
 ·have:=gV ⟨aM,p.addr,(aE p.old).ver,p.next,p.mark,2,p.res.val⟩
  omega
theorem uS {h:aK} (_:c≠s) (_:s≠1) (hm:aj w C M m) (hst:al w C s sg M.L me t) (h':br w C c s sg b M.L h) (_:t.ret.length≤98000) (h0:h.at_=9) (hok:h.Ok 1000000) (hold:0≤h.plan.old∧h.plan.old<18446744073709551616) (hq:bS M m (M.L.desc h.u) h.found=false):Calls Tryz.prog 71 #[.pointer (some ⟨b,0,none⟩),.pointer (some ⟨M.b,0,none⟩)] w (MV C c s gS (.bool (ah M me m t h).1) M (ah M me m t h).2.1 (fun w' C'=>al w' C' s sg M.L me (ah M me m t h).2.2.1∧br w' C' c s sg b M.L (ah M me m t h).2.2.2) w):=by
 obtain⟨pe,pn,pf,pc,pp,sb,h1,h2,h3,h4,h5⟩:=h'.ex
 obtain⟨hfd,hu,-⟩:=hok
 have eL:=fun W C' (k:dT W C' c sg b pe pn pf pc pp h)=>dI k hfd
 obtain⟨D,hD⟩:∃ D,getD' h.found=D:=⟨_,rfl⟩
 simp only[hD] at eL
 have oN:=fun W=>mI h.plan hold D.aM W
 have hxr:=kZ h.plan D.aM
 obtain⟨y,hy⟩:∃ y,h.plan.desc D.aM=y:=⟨_,rfl⟩
 rw[hy] at hxr
 simp only[hy] at oN
 have rH:=fun W C' (k0:aj W C' M m) (k1:al W C' s sg M.L me t) (k2:dT W C' c sg b pe pn pf pc pp h)=>kc k0 k1 k2 hu y (by omega)
 rw[hq] at rH
 have fJ:=fun W=>a4 h.task W
 have HST:Hid (ah M me m t h=(false,cas M m (M.L.desc h.u) h.found y,t,{ h with at_:=0 })):=Lib.hid (by unfold ah;simp only;rw[if_neg (by rw[h0];decide)];rw[if_neg (by rw[h0];decide)];rw[if_neg (by rw[h0];decide)];rw[if_neg (by rw[h0];decide)];rw[if_neg (by rw[h0];decide)];rw[if_neg (by rw[h0];decide)];rw[if_neg (by rw[h0];decide)];rw[if_neg (by rw[h0];decide)];rw[if_neg (by rw[h0];decide)];simp only[hD,hy,hq];rfl)
 unfold dT at sb eL
 clear hD hy hold hq
 obtain⟨da,dd,dv,dn,dm,ds,dl⟩:=D
 simp only[Ds.vals] at eL
 have hf0:=js (.int .i64 da) (.int .i64 dd) (.int .i64 dv) (.int .i64 dn) (.bool dm) (.int .i64 ds) (.int .i64 dl)
 obtain⟨u,no,rounds,limit,at_,found,⟨sh,kind,key⟩,⟨g0,⟨g1,g2,g3⟩,g4,g5,g6,g7,g8⟩,exec,a5,find,cl,aD⟩:=h
 simp only at sb h0 HST eL oN rH fJ
 subst h0
 simp only[dw.val] at oN
 clear h' h1 h2 h3 h4 h5
 go_enter Tryz.func71,Tryz.ntmps71
 have fr:=Fr.refl C (dK c s) gS w
 have ag:=aB.refl w.heap.size C
 go_wp2_with fail
 revert hst;revert hm;revert sb;revert fr;refine bD ?_;intro fr sb hm hst
 obtain⟨q1,qi⟩:=aV sb
 refine ar sb 12 [([0,1,2,3,4],5),([6],7)] [8,9,10,11] [12] (by kernel_rfl) (by kernel_rfl) ?_
 refine ai ?_;simp only[ox];repeat(go_big_quiet_step (fail))
 refine di rfl (fun K' hK'=> ?_);go_simp
 ((with_reducible refine(eL _ _ sb).mono ?_);rintro e w1 ⟨rfl,hb1⟩)
 revert fr sb hm hst;refine dX hb1 ?_;intro fr sb hm hst
 refine hK' _ _ (bZ sb) ?_;clear hK' K'
 refine ai ?_;simp only[ox];repeat(go_big_quiet_step (fail))
 refine di rfl (fun K' hK'=> ?_);go_simp
 revert fr sb hm hst;with_reducible refine bk (oN _) ?_;rintro e w2 ⟨ec,rfl⟩ fr sb hm hst
 refine hK' _ _ (bZ sb) ?_;clear hK' K'
 refine af ?_;try simp only[ox]
 repeat(go_big_quiet_step (fail))
 refine wpQuiet_nil ?_
 refine ae _ _ _ (by kernel_rfl) ?_;try simp only[ox]
 clear qi q1
 go_wp2_with fail
 refine NoPanic.normal ?_
 go_wp2_with fail
 refine(rH _ _ hm hst sb).mono ?_
 rintro e w9 ⟨rfl,jC,bN,bU⟩
 replace hm:=jC
 clear jC
 replace fr:=fr.trans (bU.mono (eE c s) nU) ag
 replace hst:=hst.fr bU (.inr (by decide))
 go_wp2_with fail
 go_ret
 exact⟨by rw[HST.out];rfl,⟨_,ag,by rw[HST.out];exact hm,by rw[HST.out];exact⟨hst,⟨_,_,_,_,_,bN,fun h=>by simp at h,fun h=>by simp at h,fun h=>by simp at h,fun h=>by simp at h,fun h=>by simp at h⟩⟩⟩,fr⟩
theorem uT {h:aK} (_:c≠s) (_:s≠1) (hm:aj w C M m) (hst:al w C s sg M.L me t) (h':br w C c s sg b M.L h) (_:t.ret.length≤98000) (h0:h.at_=9) (hok:h.Ok 1000000) (hold:0≤h.plan.old∧h.plan.old<18446744073709551616) (hq:bS M m (M.L.desc h.u) h.found=true) (hlk:h.task.links=false):Calls Tryz.prog 71 #[.pointer (some ⟨b,0,none⟩),.pointer (some ⟨M.b,0,none⟩)] w (MV C c s gS (.bool (ah M me m t h).1) M (ah M me m t h).2.1 (fun w' C'=>al w' C' s sg M.L me (ah M me m t h).2.2.1∧br w' C' c s sg b M.L (ah M me m t h).2.2.2) w):=by
 obtain⟨pe,pn,pf,pc,pp,sb,h1,h2,h3,h4,h5⟩:=h'.ex
 obtain⟨hfd,hu,-⟩:=hok
 have eL:=fun W C' (k:dT W C' c sg b pe pn pf pc pp h)=>dI k hfd
 obtain⟨D,hD⟩:∃ D,getD' h.found=D:=⟨_,rfl⟩
 simp only[hD] at eL
 have oN:=fun W=>mI h.plan hold D.aM W
 have hxr:=kZ h.plan D.aM
 obtain⟨y,hy⟩:∃ y,h.plan.desc D.aM=y:=⟨_,rfl⟩
 rw[hy] at hxr
 simp only[hy] at oN
 have rH:=fun W C' (k0:aj W C' M m) (k1:al W C' s sg M.L me t) (k2:dT W C' c sg b pe pn pf pc pp h)=>kc k0 k1 k2 hu y (by omega)
 rw[hq] at rH
 have fJ:=fun W=>a4 h.task W
 have HST:Hid (ah M me m t h=(false,cas M m (M.L.desc h.u) h.found y,t,{ h with at_:=0 })):=Lib.hid (by unfold ah;simp only;rw[if_neg (by rw[h0];decide)];rw[if_neg (by rw[h0];decide)];rw[if_neg (by rw[h0];decide)];rw[if_neg (by rw[h0];decide)];rw[if_neg (by rw[h0];decide)];rw[if_neg (by rw[h0];decide)];rw[if_neg (by rw[h0];decide)];rw[if_neg (by rw[h0];decide)];rw[if_neg (by rw[h0];decide)];simp only[hD,hy,hq,hlk];rfl)
 rw[hlk] at fJ
 unfold dT at sb eL
 clear hD hy hold hq hlk
 obtain⟨da,dd,dv,dn,dm,ds,dl⟩:=D
 simp only[Ds.vals] at eL
 have hf0:=js (.int .i64 da) (.int .i64 dd) (.int .i64 dv) (.int .i64 dn) (.bool dm) (.int .i64 ds) (.int .i64 dl)
 obtain⟨u,no,rounds,limit,at_,found,⟨sh,kind,key⟩,⟨g0,⟨g1,g2,g3⟩,g4,g5,g6,g7,g8⟩,exec,a5,find,cl,aD⟩:=h
 simp only at sb h0 HST eL oN rH fJ
 subst h0
 simp only[dw.val] at oN
 clear h' h1 h2 h3 h4 h5
 go_enter Tryz.func71,Tryz.ntmps71
 have fr:=Fr.refl C (dK c s) gS w
 have ag:=aB.refl w.heap.size C
 go_wp2_with fail
 revert hst;revert hm;revert sb;revert fr;refine bD ?_;intro fr sb hm hst
 obtain⟨q1,qi⟩:=aV sb
 refine ar sb 12 [([0,1,2,3,4],5),([6],7)] [8,9,10,11] [12] (by kernel_rfl) (by kernel_rfl) ?_
 refine ai ?_;simp only[ox];repeat(go_big_quiet_step (fail))
 refine di rfl (fun K' hK'=> ?_);go_simp
 ((with_reducible refine(eL _ _ sb).mono ?_);rintro e w1 ⟨rfl,hb1⟩)
 revert fr sb hm hst;refine dX hb1 ?_;intro fr sb hm hst
 refine hK' _ _ (bZ sb) ?_;clear hK' K'
 refine ai ?_;simp only[ox];repeat(go_big_quiet_step (fail))
 refine di rfl (fun K' hK'=> ?_);go_simp
 revert fr sb hm hst;with_reducible refine bk (oN _) ?_;rintro e w2 ⟨ec,rfl⟩ fr sb hm hst
 refine hK' _ _ (bZ sb) ?_;clear hK' K'
 refine af ?_;try simp only[ox]
 repeat(go_big_quiet_step (fail))
 refine wpQuiet_nil ?_
 refine ae _ _ _ (by kernel_rfl) ?_;try simp only[ox]
 clear qi q1
 go_wp2_with fail
 refine NoPanic.normal ?_
 go_wp2_with fail
 refine(rH _ _ hm hst sb).mono ?_
 rintro e w3 ⟨rfl,jC,nK,bU⟩
 replace hm:=jC
 clear jC
 replace fr:=fr.trans (bU.mono (eE c s) nU) ag
 replace hst:=hst.fr bU (.inr (by decide))
 replace sb:SB w3 C c b 171 #[.pointer (some ⟨sg,0,none⟩),.int .i64 u,.int .u64 no,.int .i64 rounds,.int .i64 limit,.int .i64 0,.int .u64 found,.int .i64 sh,.int .i64 kind,.int .i64 key,.bool g0,.int .i64 g1,.bool g2,.int .i64 g3,.int .i64 g4,.int .u64 g5,.int .i64 g6,.bool g7,.int .i64 g8,pe,pn,pf,pc,pp]:=nK
 clear nK bU
 go_wp2_with fail
 revert hst;revert hm;revert sb;revert fr;refine bk (fJ _) ?_;rintro e w4 rfl fr sb hm hst
 go_wp2_with fail
 go_ret
 exact⟨by rw[HST.out];rfl,⟨_,ag,by rw[HST.out];exact hm,by rw[HST.out];exact⟨hst,⟨_,_,_,_,_,sb,fun h=>by simp at h,fun h=>by simp at h,fun h=>by simp at h,fun h=>by simp at h,fun h=>by simp at h⟩⟩⟩,fr⟩
theorem uU {h:aK} (_:c≠s) (_:s≠1) (hm:aj w C M m) (hst:al w C s sg M.L me t) (h':br w C c s sg b M.L h) (_:t.ret.length≤98000) (h0:h.at_=9) (hok:h.Ok 1000000) (hold:0≤h.plan.old∧h.plan.old<18446744073709551616) (hq:bS M m (M.L.desc h.u) h.found=true) (hlk:h.task.links=true):Calls Tryz.prog 71 #[.pointer (some ⟨b,0,none⟩),.pointer (some ⟨M.b,0,none⟩)] w (MV C c s gS (.bool (ah M me m t h).1) M (ah M me m t h).2.1 (fun w' C'=>al w' C' s sg M.L me (ah M me m t h).2.2.1∧br w' C' c s sg b M.L (ah M me m t h).2.2.2) w):=by
 obtain⟨pe,pn,pf,pc,pp,sb,h1,h2,h3,h4,h5⟩:=h'.ex
 obtain⟨hfd,hu,-⟩:=hok
 have eL:=fun W C' (k:dT W C' c sg b pe pn pf pc pp h)=>dI k hfd
 obtain⟨D,hD⟩:∃ D,getD' h.found=D:=⟨_,rfl⟩
 simp only[hD] at eL
 have oN:=fun W=>mI h.plan hold D.aM W
 have hxr:=kZ h.plan D.aM
 obtain⟨y,hy⟩:∃ y,h.plan.desc D.aM=y:=⟨_,rfl⟩
 rw[hy] at hxr
 simp only[hy] at oN
 have rH:=fun W C' (k0:aj W C' M m) (k1:al W C' s sg M.L me t) (k2:dT W C' c sg b pe pn pf pc pp h)=>kc k0 k1 k2 hu y (by omega)
 rw[hq] at rH
 have fJ:=fun W=>a4 h.task W
 have HST:Hid (ah M me m t h=(false,cas M m (M.L.desc h.u) h.found y,{ t with spare:=0 },{ h with at_:=0 })):=Lib.hid (by unfold ah;simp only;rw[if_neg (by rw[h0];decide)];rw[if_neg (by rw[h0];decide)];rw[if_neg (by rw[h0];decide)];rw[if_neg (by rw[h0];decide)];rw[if_neg (by rw[h0];decide)];rw[if_neg (by rw[h0];decide)];rw[if_neg (by rw[h0];decide)];rw[if_neg (by rw[h0];decide)];rw[if_neg (by rw[h0];decide)];simp only[hD,hy,hq,hlk];rfl)
 rw[hlk] at fJ
 unfold dT at sb eL
 clear hD hy hold hq hlk
 obtain⟨da,dd,dv,dn,dm,ds,dl⟩:=D
 simp only[Ds.vals] at eL
 have hf0:=js (.int .i64 da) (.int .i64 dd) (.int .i64 dv) (.int .i64 dn) (.bool dm) (.int .i64 ds) (.int .i64 dl)
 obtain⟨u,no,rounds,limit,at_,found,⟨sh,kind,key⟩,⟨g0,⟨g1,g2,g3⟩,g4,g5,g6,g7,g8⟩,exec,a5,find,cl,aD⟩:=h
 simp only at sb h0 HST eL oN rH fJ
 subst h0
 simp only[dw.val] at oN
 clear h' h1 h2 h3 h4 h5
 go_enter Tryz.func71,Tryz.ntmps71
 have fr:=Fr.refl C (dK c s) gS w
 have ag:=aB.refl w.heap.size C
 go_wp2_with fail
 revert hst;revert hm;revert sb;revert fr;refine bD ?_;intro fr sb hm hst
 obtain⟨q1,qi⟩:=aV sb
 refine ar sb 12 [([0,1,2,3,4],5),([6],7)] [8,9,10,11] [12] (by kernel_rfl) (by kernel_rfl) ?_
 refine ai ?_;simp only[ox];repeat(go_big_quiet_step (fail))
 refine di rfl (fun K' hK'=> ?_);go_simp
 ((with_reducible refine(eL _ _ sb).mono ?_);rintro e w1 ⟨rfl,hb1⟩)
 revert fr sb hm hst;refine dX hb1 ?_;intro fr sb hm hst
 refine hK' _ _ (bZ sb) ?_;clear hK' K'
 refine ai ?_;simp only[ox];repeat(go_big_quiet_step (fail))
 refine di rfl (fun K' hK'=> ?_);go_simp
 revert fr sb hm hst;with_reducible refine bk (oN _) ?_;rintro e w2 ⟨ec,rfl⟩ fr sb hm hst
 refine hK' _ _ (bZ sb) ?_;clear hK' K'
 refine af ?_;try simp only[ox]
 repeat(go_big_quiet_step (fail))
 refine wpQuiet_nil ?_
 refine ae _ _ _ (by kernel_rfl) ?_;try simp only[ox]
 clear qi q1
 go_wp2_with fail
 refine NoPanic.normal ?_
 go_wp2_with fail
 refine(rH _ _ hm hst sb).mono ?_
 rintro e w3 ⟨rfl,jC,nK,bU⟩
 replace hm:=jC
 clear jC
 replace fr:=fr.trans (bU.mono (eE c s) nU) ag
 replace hst:=hst.fr bU (.inr (by decide))
 replace sb:SB w3 C c b 171 #[.pointer (some ⟨sg,0,none⟩),.int .i64 u,.int .u64 no,.int .i64 rounds,.int .i64 limit,.int .i64 0,.int .u64 found,.int .i64 sh,.int .i64 kind,.int .i64 key,.bool g0,.int .i64 g1,.bool g2,.int .i64 g3,.int .i64 g4,.int .u64 g5,.int .i64 g6,.bool g7,.int .i64 g8,pe,pn,pf,pc,pp]:=nK
 clear nK bU
 go_wp2_with fail
 revert hst;revert hm;revert sb;revert fr;refine bk (fJ _) ?_;rintro e w4 rfl fr sb hm hst
 go_wp2_with fail
 refine(mF hst).mono ?_;clear hst;rintro e w5 ⟨rfl,hst,hf⟩
 revert fr sb hm;refine dS hf (ej c s) xY ag ?_;clear hf;intro fr sb hm
 go_wp2_with fail
 go_ret
 exact⟨by rw[HST.out];rfl,⟨_,ag,by rw[HST.out];exact hm,by rw[HST.out];exact⟨hst,⟨_,_,_,_,_,sb,fun h=>by simp at h,fun h=>by simp at h,fun h=>by simp at h,fun h=>by simp at h,fun h=>by simp at h⟩⟩⟩,fr⟩
theorem wT {h:aK} (hcs:c≠s) (hs1:s≠1) (hm:aj w C M m) (hst:al w C s sg M.L me t) (h':br w C c s sg b M.L h) (hle:t.ret.length≤98000) (h0:h.at_=3) (hat:0≤h.exec.at_∧h.exec.at_≤9):Calls Tryz.prog 71 #[.pointer (some ⟨b,0,none⟩),.pointer (some ⟨M.b,0,none⟩)] w (MV C c s gS (.bool (ah M me m t h).1) M (ah M me m t h).2.1 (fun w' C'=>al w' C' s sg M.L me (ah M me m t h).2.2.1∧br w' C' c s sg b M.L (ah M me m t h).2.2.2) w):=by
 have xZ:=wK hcs hs1 hm hst h' hle h0 hat
 have hr1:(ah M me m t h).1=false:=by unfold ah;simp only;rw[if_neg (by rw[h0];decide)];rw[if_neg (by rw[h0];decide)];rw[if_neg (by rw[h0];decide)];rw[if_pos h0]<;>first | rfl | (split<;>rfl)
 rw[hr1]
 obtain⟨pe,pn,pf,pc,pp,sb,-⟩:=h'.ex
 obtain⟨r,hr⟩:∃ r,ah M me m t h=r:=⟨_,rfl⟩
 rw[hr] at xZ⊢
 clear hr hr1 h'
 unfold dT at sb
 obtain⟨u,no,rounds,limit,at_,found,⟨sh,kind,key⟩,⟨g0,⟨g1,g2,g3⟩,g4,g5,g6,g7,g8⟩,exec,a5,find,cl,aD⟩:=h
 simp only at sb h0
 subst h0
 have hc:=sb.blk.cells
 go_enter Tryz.func71,Tryz.ntmps71
 go_wp2_with fail
 refine xZ.mono ?_
 rintro e w9 ⟨rfl,bN,DB⟩
 go_wp2_with fail
 go_ret
 exact⟨rfl,bN,DB⟩
theorem wU {h:aK} (hcs:c≠s) (hs1:s≠1) (hm:aj w C M m) (hst:al w C s sg M.L me t) (h':br w C c s sg b M.L h) (hle:t.ret.length≤98000) (h0:h.at_=4) (hmay:h.task.may=true) (hlv:h.a5.Live):Calls Tryz.prog 71 #[.pointer (some ⟨b,0,none⟩),.pointer (some ⟨M.b,0,none⟩)] w (MV C c s gS (.bool (ah M me m t h).1) M (ah M me m t h).2.1 (fun w' C'=>al w' C' s sg M.L me (ah M me m t h).2.2.1∧br w' C' c s sg b M.L (ah M me m t h).2.2.2) w):=by
 have xZ:=wL hcs hs1 hm hst h' hle h0 hmay hlv
 have hr1:(ah M me m t h).1=false:=by unfold ah;simp only;rw[if_neg (by rw[h0];decide)];rw[if_neg (by rw[h0];decide)];rw[if_neg (by rw[h0];decide)];rw[if_neg (by rw[h0];decide)];rw[if_pos h0]<;>first | rfl | (split<;>rfl)
 rw[hr1]
 obtain⟨pe,pn,pf,pc,pp,sb,-⟩:=h'.ex
 obtain⟨r,hr⟩:∃ r,ah M me m t h=r:=⟨_,rfl⟩
 rw[hr] at xZ⊢
 clear hr hr1 h'
 unfold dT at sb
 obtain⟨u,no,rounds,limit,at_,found,⟨sh,kind,key⟩,⟨g0,⟨g1,g2,g3⟩,g4,g5,g6,g7,g8⟩,exec,a5,find,cl,aD⟩:=h
 simp only at sb h0
 subst h0
 have hc:=sb.blk.cells
 go_enter Tryz.func71,Tryz.ntmps71
 go_wp2_with fail
 refine xZ.mono ?_
 rintro e w9 ⟨rfl,bN,DB⟩
 go_wp2_with fail
 go_ret
 exact⟨rfl,bN,DB⟩
theorem wV {h:aK} (hcs:c≠s) (hs1:s≠1) (hm:aj w C M m) (hst:al w C s sg M.L me t) (h':br w C c s sg b M.L h) (hle:t.ret.length≤98000) (h0:h.at_=5) (hmay:h.task.may=true) (hfo:h.find.Ok 100000) (hfa:0≤h.find.at_∧h.find.at_≤6) (eV:(ax M m h.find).2.2.Ok 100000):Calls Tryz.prog 71 #[.pointer (some ⟨b,0,none⟩),.pointer (some ⟨M.b,0,none⟩)] w (MV C c s gS (.bool (ah M me m t h).1) M (ah M me m t h).2.1 (fun w' C'=>al w' C' s sg M.L me (ah M me m t h).2.2.1∧br w' C' c s sg b M.L (ah M me m t h).2.2.2) w):=by
 have xZ:=wM hcs hs1 hm hst h' hle h0 hmay hfo hfa eV
 have hr1:(ah M me m t h).1=false:=by unfold ah;simp only;rw[if_neg (by rw[h0];decide)];rw[if_neg (by rw[h0];decide)];rw[if_neg (by rw[h0];decide)];rw[if_neg (by rw[h0];decide)];rw[if_neg (by rw[h0];decide)];rw[if_pos h0]<;>first | rfl | (split<;>rfl)
 rw[hr1]
 obtain⟨pe,pn,pf,pc,pp,sb,-⟩:=h'.ex
 obtain⟨r,hr⟩:∃ r,ah M me m t h=r:=⟨_,rfl⟩
 rw[hr] at xZ⊢
 clear hr hr1 h'
 unfold dT at sb
 obtain⟨u,no,rounds,limit,at_,found,⟨sh,kind,key⟩,⟨g0,⟨g1,g2,g3⟩,g4,g5,g6,g7,g8⟩,exec,a5,find,cl,aD⟩:=h
 simp only at sb h0
 subst h0
 have hc:=sb.blk.cells
 go_enter Tryz.func71,Tryz.ntmps71
 go_wp2_with fail
 refine xZ.mono ?_
 rintro e w9 ⟨rfl,bN,DB⟩
 go_wp2_with fail
 go_ret
 exact⟨rfl,bN,DB⟩
theorem wW {h:aK} (hcs:c≠s) (hs1:s≠1) (hm:aj w C M m) (hst:al w C s sg M.L me t) (h':br w C c s sg b M.L h) (hle:t.ret.length≤98000) (h0:h.at_=7)  :Calls Tryz.prog 71 #[.pointer (some ⟨b,0,none⟩),.pointer (some ⟨M.b,0,none⟩)] w (MV C c s gS (.bool (ah M me m t h).1) M (ah M me m t h).2.1 (fun w' C'=>al w' C' s sg M.L me (ah M me m t h).2.2.1∧br w' C' c s sg b M.L (ah M me m t h).2.2.2) w):=by
 have xZ:=wN hcs hs1 hm hst h' hle h0
 have hr1:(ah M me m t h).1=false:=by unfold ah;simp only;rw[if_neg (by rw[h0];decide)];rw[if_neg (by rw[h0];decide)];rw[if_neg (by rw[h0];decide)];rw[if_neg (by rw[h0];decide)];rw[if_neg (by rw[h0];decide)];rw[if_neg (by rw[h0];decide)];rw[if_neg (by rw[h0];decide)];rw[if_pos h0]<;>first | rfl | (split<;>rfl)
 rw[hr1]
 obtain⟨pe,pn,pf,pc,pp,sb,-⟩:=h'.ex
 obtain⟨r,hr⟩:∃ r,ah M me m t h=r:=⟨_,rfl⟩
 rw[hr] at xZ⊢
 clear hr hr1 h'
 unfold dT at sb
 obtain⟨u,no,rounds,limit,at_,found,⟨sh,kind,key⟩,⟨g0,⟨g1,g2,g3⟩,g4,g5,g6,g7,g8⟩,exec,a5,find,cl,aD⟩:=h
 simp only at sb h0
 subst h0
 have hc:=sb.blk.cells
 go_enter Tryz.func71,Tryz.ntmps71
 go_wp2_with fail
 refine xZ.mono ?_
 rintro e w9 ⟨rfl,bN,DB⟩
 go_wp2_with fail
 go_ret
 exact⟨rfl,bN,DB⟩
theorem wX {h:aK} (hcs:c≠s) (hs1:s≠1) (hm:aj w C M m) (hst:al w C s sg M.L me t) (h':br w C c s sg b M.L h) (hle:t.ret.length≤98000) (h0:h.at_=8) (hk:0≤h.aD.key):Calls Tryz.prog 71 #[.pointer (some ⟨b,0,none⟩),.pointer (some ⟨M.b,0,none⟩)] w (MV C c s gS (.bool (ah M me m t h).1) M (ah M me m t h).2.1 (fun w' C'=>al w' C' s sg M.L me (ah M me m t h).2.2.1∧br w' C' c s sg b M.L (ah M me m t h).2.2.2) w):=by
 have xZ:=wO hcs hs1 hm hst h' hle h0 hk
 have hr1:(ah M me m t h).1=false:=by unfold ah;simp only;rw[if_neg (by rw[h0];decide)];rw[if_neg (by rw[h0];decide)];rw[if_neg (by rw[h0];decide)];rw[if_neg (by rw[h0];decide)];rw[if_neg (by rw[h0];decide)];rw[if_neg (by rw[h0];decide)];rw[if_neg (by rw[h0];decide)];rw[if_neg (by rw[h0];decide)];rw[if_pos h0]<;>first | rfl | (split<;>rfl)
 rw[hr1]
 obtain⟨pe,pn,pf,pc,pp,sb,-⟩:=h'.ex
 obtain⟨r,hr⟩:∃ r,ah M me m t h=r:=⟨_,rfl⟩
 rw[hr] at xZ⊢
 clear hr hr1 h'
 unfold dT at sb
 obtain⟨u,no,rounds,limit,at_,found,⟨sh,kind,key⟩,⟨g0,⟨g1,g2,g3⟩,g4,g5,g6,g7,g8⟩,exec,a5,find,cl,aD⟩:=h
 simp only at sb h0
 subst h0
 have hc:=sb.blk.cells
 go_enter Tryz.func71,Tryz.ntmps71
 go_wp2_with fail
 refine xZ.mono ?_
 rintro e w9 ⟨rfl,bN,DB⟩
 go_wp2_with fail
 go_ret
 exact⟨rfl,bN,DB⟩
structure aK.Fine (M:ML) (m:Mm) (h:aK):Prop where
 ok:h.Ok 1000000
 at_:0≤h.at_∧h.at_≤9
 may:h.at_=4∨h.at_=5→h.task.may=true
 exec:h.at_=3→0≤h.exec.at_∧h.exec.at_≤9
 live:h.at_=4→h.a5.Live
 find:h.at_=5→h.find.Ok 100000∧(0≤h.find.at_∧h.find.at_≤6)∧(ax M m h.find).2.2.Ok 100000
 aD:h.at_=8→0≤h.aD.key
 old:h.at_=9→0≤h.plan.old∧h.plan.old<18446744073709551616
theorem rJ {h:aK} (hcs:c≠s) (hs1:s≠1) (hm:aj w C M m) (hst:al w C s sg M.L me t) (h':br w C c s sg b M.L h) (hle:t.ret.length≤98000) (hf:h.Fine M m):Calls Tryz.prog 71 #[.pointer (some ⟨b,0,none⟩),.pointer (some ⟨M.b,0,none⟩)] w (MV C c s gS (.bool (ah M me m t h).1) M (ah M me m t h).2.1 (fun w' C'=>al w' C' s sg M.L me (ah M me m t h).2.2.1∧br w' C' c s sg b M.L (ah M me m t h).2.2.2) w):=by
 rcases(by have:=hf.at_;omega:h.at_=0∨h.at_=1∨h.at_=2∨h.at_=3∨h.at_=4∨h.at_=5∨h.at_=6∨h.at_=7∨h.at_=8∨h.at_=9) with h0 | h0 | h0 | h0 | h0 | h0 | h0 | h0 | h0 | h0
 ·exact wP hcs hs1 hm hst h' hle h0 hf.ok
 ·exact wQ hcs hs1 hm hst h' hle h0 hf.ok.u
 ·exact wR hcs hs1 hm hst h' hle h0 hf.ok
 ·exact wT hcs hs1 hm hst h' hle h0 (hf.exec h0)
 ·exact wU hcs hs1 hm hst h' hle h0 (hf.may (.inl h0)) (hf.live h0)
 ·exact wV hcs hs1 hm hst h' hle h0 (hf.may (.inr h0)) (hf.find h0).1 (hf.find h0).2.1 (hf.find h0).2.2
 ·exact wS hcs hs1 hm hst h' hle h0 hf.ok
 ·exact wW hcs hs1 hm hst h' hle h0
 ·exact wX hcs hs1 hm hst h' hle h0 (hf.aD h0)
 ·cases hq:bS M m (M.L.desc h.u) h.found with
  | false=>exact uS hcs hs1 hm hst h' hle h0 hf.ok (hf.old h0) hq
  | true=>
   cases hlk:h.task.links with
   | false=>exact uT hcs hs1 hm hst h' hle h0 hf.ok (hf.old h0) hq hlk
   | true=>exact uU hcs hs1 hm hst h' hle h0 hf.ok (hf.old h0) hq hlk
end Go.Proofs.YtbcnnhlpilmmbaaGreat
