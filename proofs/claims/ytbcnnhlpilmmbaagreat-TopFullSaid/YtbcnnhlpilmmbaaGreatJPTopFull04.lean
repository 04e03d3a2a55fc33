/- Texts that are wanted for PTopFull.
   Conditions: none. -/
import Derived.Test.YtbcnnhlpilmmbaaGreatJPTopFull03
set_option maxRecDepth 100000
set_option maxHeartbeats 6400000
namespace Go.Proofs.YtbcnnhlpilmmbaaGreat
open Go Go.RowKit
theorem m6 (w:World):Calls Tryz.prog 138 #[] w fun e w'=>e= .returned (.agg #[.int .i64 12,.int .i64 9,.int .i64 18,.int .i64 9,.int .i64 1,.int .i64 3,.int .i64 10])∧Below w.heap.size w w':=by
 go_enter Tryz.func138,Tryz.ntmps138
 go_wp2_with fail
 refine bodyPost_ret (v:= .agg #[.int .i64 12,.int .i64 9,.int .i64 18,.int .i64 9,.int .i64 1,.int .i64 3,.int .i64 10]) (by simp[results,Tryz.results138,go_sem]) rfl ⟨rfl,by repeat(first | with_reducible exact Below.refl _ _ | refine Below.alloc ?_ (by simp<;>omega) _ | refine Below.setCell ?_ (by simp<;>omega) _ | refine below_drewN ?_ _ | refine Below.drew ?_)⟩
def numsD (d:Ds):List Int:=[d.aM,d.addr,d.ver,d.next,cz d.mark,d.status,d.val]
theorem sc (d:Ds) (w:World):Calls Tryz.prog 145 #[d.vals] w fun e w'=>e= .returned (.agg (cv (numsD d)).toArray)∧Below w.heap.size w w':=by
 obtain⟨a,ad,v,ne,m,st,vl⟩:=d
 simp only[Ds.vals,numsD,cv,List.map_cons,List.map_nil]
 cases m
 all_goals
  go_enter Tryz.func145,Tryz.ntmps145
  go_wp2_with fail
  first
   | refine bodyPost_ret (v:= .agg #[.int .i64 a,.int .i64 ad,.int .i64 v,.int .i64 ne,.int .i64 0,.int .i64 st,.int .i64 vl]) (by simp[results,Tryz.results145,go_sem]) rfl ⟨rfl,by repeat(first | with_reducible exact Below.refl _ _ | refine Below.alloc ?_ (by simp<;>omega) _ | refine Below.setCell ?_ (by simp<;>omega) _ | refine below_drewN ?_ _ | refine Below.drew ?_)⟩
   | refine bodyPost_ret (v:= .agg #[.int .i64 a,.int .i64 ad,.int .i64 v,.int .i64 ne,.int .i64 1,.int .i64 st,.int .i64 vl]) (by simp[results,Tryz.results145,go_sem]) rfl ⟨rfl,by repeat(first | with_reducible exact Below.refl _ _ | refine Below.alloc ?_ (by simp<;>omega) _ | refine Below.setCell ?_ (by simp<;>omega) _ | refine below_drewN ?_ _ | refine Below.drew ?_)⟩
theorem ft (x d p q:Int) (a m:Nat) (hx:0≤x∧x<18446744073709551616) (hm:m≤30) (hd:2 ^ a=d) (hp:2 ^ m=p) (hq:q=p - 1):wrap64 (bits .and .u64 (x / d) q)=x / d % p:=by
 have h2:(2:Nat) ^ m≤2 ^ 30:=Nat.pow_le_pow_right (by omega) hm
 have h2':(2:Nat) ^ m≤1073741824:=h2
 have h3:1≤(2:Nat) ^ m:=Nat.one_le_two_pow
 have e2:((2:Int) ^ m)=((2 ^ m:Nat):Int):=by simp
 have h:=zZ x a m hx hm
 rw[IntWalk.u64_in (2 ^ m) ⟨by omega,by omega⟩,IntWalk.u64_in (2 ^ m - 1) ⟨by omega,by omega⟩] at h
 subst hd hp hq;exact h
def kl (x:Int):Nat→Int
 | 0=>x % 4096
 | 1=>x / 4096 % 512
 | 2=>x / 2097152 % 262144
 | 3=>x / 549755813888 % 512
 | 4=>x / 281474976710656 % 2
 | 5=>x / 562949953421312 % 8
 | _=>x / 4503599627370496 % 1024
def nA (x:Int) (j:Nat):Array Value:=((List.range 7).map fun k=>Value.int .i64 (if k<j then kl x k else 0)).toArray
theorem kI (x:Int) (j:Nat) (hj:j<7):(nA x j).setIfInBounds j (.int .i64 (kl x j))=nA x (j+1):=by
 have h7:j=0∨j=1∨j=2∨j=3∨j=4∨j=5∨j=6:=by omega
 rcases h7 with rfl | rfl | rfl | rfl | rfl | rfl | rfl<;>rfl
theorem fC (x:Int) (w:World) (hx:0≤x∧x<18446744073709551616):Calls Tryz.prog 92 #[.int .u64 x] w fun e w'=>e= .returned (getD' x).vals∧Below w.heap.size w w':=by
 obtain⟨R,iQ⟩:∃ R,w.heap.size=R:=⟨_,rfl⟩
 have HR:=Lib.hid iQ
 go_enter Tryz.func92,Tryz.ntmps92
 go_wp2_with fail
 have hR0:=a8.new w 161 #[.int .i64 0,.int .i64 0,.int .i64 0,.int .i64 0,.bool false,.int .i64 0,.int .i64 0]
 have hb0:Below w.heap.size w (w.alloc (.cells #[.int .i64 0,.int .i64 0,.int .i64 0,.int .i64 0,.bool false,.int .i64 0,.int .i64 0] 161)):=(Below.refl _ _).alloc (Nat.le_refl _) _
 have hz0:(w.alloc (.cells #[.int .i64 0,.int .i64 0,.int .i64 0,.int .i64 0,.bool false,.int .i64 0,.int .i64 0] 161)).heap.size=R+1:=by simp[iQ]
 rw[iQ] at hR0 hb0
 generalize(w.alloc (.cells #[.int .i64 0,.int .i64 0,.int .i64 0,.int .i64 0,.bool false,.int .i64 0,.int .i64 0] 161))=w1 at *
 clear iQ
 refine(m6 w1).mono ?_
 rintro e w2 ⟨rfl,hb2⟩
 have hR2:=hR0.step hb2
 have de:=hb0.trans (hb2.mono (by omega))
 have hs2:R+1≤w2.heap.size:=by have:=hb2.size;omega
 clear hR0 hb0 hb2 hz0
 obtain⟨N2,Cp⟩:∃ N2,w2.heap.size=N2:=⟨_,rfl⟩
 have Mx:R+1≤N2:=by omega
 go_wp2_with fail
 have hW:=a8.new w2 213 (cv [12,9,18,9,1,3,10]).toArray
 have hb3:Below w2.heap.size w2 (w2.alloc (.cells #[.int .i64 12,.int .i64 9,.int .i64 18,.int .i64 9,.int .i64 1,.int .i64 3,.int .i64 10] 213)):=(Below.refl _ _).alloc (Nat.le_refl _) _
 have hsz3:(w2.alloc (.cells #[.int .i64 12,.int .i64 9,.int .i64 18,.int .i64 9,.int .i64 1,.int .i64 3,.int .i64 10] 213)).heap.size=N2+1:=by simp[Cp]
 have hW':a8 (w2.alloc (.cells #[.int .i64 12,.int .i64 9,.int .i64 18,.int .i64 9,.int .i64 1,.int .i64 3,.int .i64 10] 213)) w2.heap.size 213 #[.int .i64 12,.int .i64 9,.int .i64 18,.int .i64 9,.int .i64 1,.int .i64 3,.int .i64 10]:=hW
 have hsl:Sl (w2.alloc (.cells #[.int .i64 12,.int .i64 9,.int .i64 18,.int .i64 9,.int .i64 1,.int .i64 3,.int .i64 10] 213)) (N2+1) 1 (some ⟨N2,0,none⟩) 7 (cv [12,9,18,9,1,3,10]):=
  ⟨rfl,fun _=>rfl,fun _=>by simp[bt],fun j _=>by
   have:=hW.cell j
   simp only[bt,bY,Option.map_some,Option.getD_some,Nat.zero_add]
   rw[←Cp]
   have h2:(w2.alloc (.cells #[.int .i64 12,.int .i64 9,.int .i64 18,.int .i64 9,.int .i64 1,.int .i64 3,.int .i64 10] 213)).cell? ⟨w2.heap.size,j,none⟩=(cv [12,9,18,9,1,3,10]).toArray[j]? :=this
   rw[h2];simp⟩
 have CM:=hR2.step hb3
 have kJ:=de.trans (hb3.mono (by omega))
 clear hW hR2 de
 rw[Cp] at hW'
 generalize(w2.alloc (.cells #[.int .i64 12,.int .i64 9,.int .i64 18,.int .i64 9,.int .i64 1,.int .i64 3,.int .i64 10] 213))=w3 at *
 refine(mh (some ⟨N2,0,none⟩) 7 7 (N2+1) [12,9,18,9,1,3,10] _ hsl (by omega) rfl (by omega) (by simp)).mono ?_
 rintro e w4 ⟨v,rfl,hown,hb4⟩
 have gM:=hb4
 rw[hsz3] at hown
 obtain⟨g,cap,rfl,-,-⟩:=hown.form (by omega)
 have hgb:N2+1≤g:=(bH hown g rfl).1
 have hgl:g<w4.heap.size:=by
  obtain⟨-,cs,hk⟩:=bH hown g rfl
  exact hk.lt
 have hcell:∀ (k:Nat) (y:Int),[(0:Int),12,21,39,48,49,52,62][k]? =some y→w4.cell? ⟨g,k,none⟩=some (.int .i64 y):=fun k y hy=>by
  have h1:=hown.cells (g:=g) rfl k (.int .i64 y) (by
   have:tD [12,9,18,9,1,3,10]=[0,12,21,39,48,49,52,62]:=by decide
   rw[this,iM,hy];rfl)
  have hadd:(⟨g,0,none⟩:Addr).add k=⟨g,k,none⟩:=by unfold Addr.add;split<;>simp_all
  rwa [hadd] at h1
 have G0:=hW'.step hb4
 have G1:=CM.step hb4
 have Ar:=kJ.trans (hb4.mono (by omega))
 have hs4:N2+1≤w4.heap.size:=by have:=hb4.size;omega
 clear hown hW' CM kJ hb4 gM hsl hb3 hsz3 Cp
 go_wp2_with fail
 have hn0:a8 (w4.alloc (.cells #[.int .i64 0,.int .i64 0,.int .i64 0,.int .i64 0,.int .i64 0,.int .i64 0,.int .i64 0] 213)) w4.heap.size 213 (nA x 0):=a8.new w4 213 _
 have hb5:Below w4.heap.size w4 (w4.alloc (.cells #[.int .i64 0,.int .i64 0,.int .i64 0,.int .i64 0,.int .i64 0,.int .i64 0,.int .i64 0] 213)):=(Below.refl _ _).alloc (Nat.le_refl _) _
 have dL:∀ (k:Nat) (y:Int),[(0:Int),12,21,39,48,49,52,62][k]? =some y→(w4.alloc (.cells #[.int .i64 0,.int .i64 0,.int .i64 0,.int .i64 0,.int .i64 0,.int .i64 0,.int .i64 0] 213)).cell? ⟨g,k,none⟩=some (.int .i64 y):=fun k y hy=>(hb5.cell (p:=⟨g,k,none⟩) hgl).trans (hcell k y hy)
 have Jp:=G0.step hb5
 have Ls:=G1.step hb5
 have kK:=Ar.trans (hb5.mono (by omega))
 have My:(w4.alloc (.cells #[.int .i64 0,.int .i64 0,.int .i64 0,.int .i64 0,.int .i64 0,.int .i64 0,.int .i64 0] 213)).heap.size=w4.heap.size+1:=by simp
 obtain⟨b5,E8⟩:∃ b5,w4.heap.size=b5:=⟨_,rfl⟩
 rw[E8] at hn0 hgl My hs4
 clear hb5 hcell G0 G1 Ar
 generalize(w4.alloc (.cells #[.int .i64 0,.int .i64 0,.int .i64 0,.int .i64 0,.int .i64 0,.int .i64 0,.int .i64 0] 213))=w5 at *
 rw[E8]
 clear E8
 go_loopw [10] (fun i wr=>∃ j:Nat,j≤7∧i= .int .i64 j∧a8 wr b5 213 (nA x j)∧Below b5 w5 wr) (fun i _=>7 - (intOf i).toNat)
 case atStart=>exact⟨0,by omega,rfl,hn0,Below.refl _ _⟩
 case round=>
  clear hn0
  obtain⟨j,hj,rfl,hn,hbr⟩:=hrel
  have h7:j=0∨j=1∨j=2∨j=3∨j=4∨j=5∨j=6∨j=7:=by omega
  have vO:=Jp.below hbr (by omega)
  have hRr:=Ls.below hbr (by omega)
  have hgr:∀ (k:Nat) (y:Int),[(0:Int),12,21,39,48,49,52,62][k]? =some y→wr.cell? ⟨g,k,none⟩=some (.int .i64 y):=fun k y hy=>(hbr.cell (p:=⟨g,k,none⟩) hgl).trans (dL k y hy)
  rcases h7 with rfl | rfl | rfl | rfl | rfl | rfl | rfl | rfl
  ·have hnx:=hn.ao 0 (.int .i64 (kl x 0))
   rw[kI x 0 (by omega)] at hnx
   have hlen:=hn.lt
   have q1:=Later.cell (B:=wr.heap.size) (hgr 0 0 rfl) (by omega)
   have q2:=Later.cell (B:=wr.heap.size) (i:=0) (u:=some (.int .i64 12)) (vO.cell 0) vO.lt
   have hcut:=Lib.hid (ft x 1 4096 4095 0 12 hx (by omega) (by decide) (by decide) (by decide))
   go_wp2_with fail
   refine az (fun w'=>∃ q:Later wr.heap.size wr,w'=q.val) 15 [] [0,1,2,3,4,5,6,7,8,9,10,11,12,13,14] [15] (by kernel_rfl) (by kernel_rfl) (Later.bI (Below.refl _ _).drew) ?_
   refine af ?_
   try simp only[au,List.map_cons,List.map_nil,List.getD_cons_zero,List.getD_cons_succ]
   repeat(go_big_quiet_step (fail))
   refine wpQuiet_nil ?_
   refine ae _ _ _ (by kernel_rfl) ?_
   try simp only[au,List.map_cons,List.map_nil,List.getD_cons_zero,List.getD_cons_succ]
   have hcn:=hn.cells
   have hfn:=hn.frees
   clear q1 q2
   go_wp2_with fail
   refine NoPanic.normal ?_
   go_wp2_with fail
   have hv:=hcut.out
   try rw[Int.ediv_one] at hv
   rw[hv]
   exact⟨⟨1,by omega,rfl,by first | exact hnx.drew | (have e:kl x 0=x % 4096:=rfl;rw[e] at hnx;exact hnx.drew),(hbr.setCell (Nat.le_refl _) _).drew⟩,by simp[intOf]⟩
  ·have hnx:=hn.ao 1 (.int .i64 (kl x 1))
   rw[kI x 1 (by omega)] at hnx
   have hlen:=hn.lt
   have q1:=Later.cell (B:=wr.heap.size) (hgr 1 12 rfl) (by omega)
   have q2:=Later.cell (B:=wr.heap.size) (i:=1) (u:=some (.int .i64 9)) (vO.cell 1) vO.lt
   have hcut:=Lib.hid (ft x 4096 512 511 12 9 hx (by omega) (by decide) (by decide) (by decide))
   go_wp2_with fail
   refine az (fun w'=>∃ q:Later wr.heap.size wr,w'=q.val) 15 [] [0,1,2,3,4,5,6,7,8,9,10,11,12,13,14] [15] (by kernel_rfl) (by kernel_rfl) (Later.bI (Below.refl _ _).drew) ?_
   refine af ?_
   try simp only[au,List.map_cons,List.map_nil,List.getD_cons_zero,List.getD_cons_succ]
   repeat(go_big_quiet_step (fail))
   refine wpQuiet_nil ?_
   refine ae _ _ _ (by kernel_rfl) ?_
   try simp only[au,List.map_cons,List.map_nil,List.getD_cons_zero,List.getD_cons_succ]
   have hcn:=hn.cells
   have hfn:=hn.frees
   clear q1 q2
   go_wp2_with fail
   refine NoPanic.normal ?_
   go_wp2_with fail
   have hv:=hcut.out
   try rw[Int.ediv_one] at hv
   rw[hv]
   exact⟨⟨2,by omega,rfl,by first | exact hnx.drew | (have e:kl x 1=x % 4096:=rfl;rw[e] at hnx;exact hnx.drew),(hbr.setCell (Nat.le_refl _) _).drew⟩,by simp[intOf]⟩
  ·have hnx:=hn.ao 2 (.int .i64 (kl x 2))
   rw[kI x 2 (by omega)] at hnx
   have hlen:=hn.lt
   have q1:=Later.cell (B:=wr.heap.size) (hgr 2 21 rfl) (by omega)
   have q2:=Later.cell (B:=wr.heap.size) (i:=2) (u:=some (.int .i64 18)) (vO.cell 2) vO.lt
   have hcut:=Lib.hid (ft x 2097152 262144 262143 21 18 hx (by omega) (by decide) (by decide) (by decide))
   go_wp2_with fail
   refine az (fun w'=>∃ q:Later wr.heap.size wr,w'=q.val) 15 [] [0,1,2,3,4,5,6,7,8,9,10,11,12,13,14] [15] (by kernel_rfl) (by kernel_rfl) (Later.bI (Below.refl _ _).drew) ?_
   refine af ?_
   try simp only[au,List.map_cons,List.map_nil,List.getD_cons_zero,List.getD_cons_succ]
   repeat(go_big_quiet_step (fail))
   refine wpQuiet_nil ?_
   refine ae _ _ _ (by kernel_rfl) ?_
   try simp only[au,List.map_cons,List.map_nil,List.getD_cons_zero,List.getD_cons_succ]
   have hcn:=hn.cells
   have hfn:=hn.frees
   clear q1 q2
   go_wp2_with fail
   refine NoPanic.normal ?_
   go_wp2_with fail
   have hv:=hcut.out
   try rw[Int.ediv_one] at hv
   rw[hv]
   exact⟨⟨3,by omega,rfl,by first | exact hnx.drew | (have e:kl x 2=x % 4096:=rfl;rw[e] at hnx;exact hnx.drew),(hbr.setCell (Nat.le_refl _) _).drew⟩,by simp[intOf]⟩
  ·have hnx:=hn.ao 3 (.int .i64 (kl x 3))
   rw[kI x 3 (by omega)] at hnx
   have hlen:=hn.lt
   have q1:=Later.cell (B:=wr.heap.size) (hgr 3 39 rfl) (by omega)
   have q2:=Later.cell (B:=wr.heap.size) (i:=3) (u:=some (.int .i64 9)) (vO.cell 3) vO.lt
   have hcut:=Lib.hid (ft x 549755813888 512 511 39 9 hx (by omega) (by decide) (by decide) (by decide))
   go_wp2_with fail
   refine az (fun w'=>∃ q:Later wr.heap.size wr,w'=q.val) 15 [] [0,1,2,3,4,5,6,7,8,9,10,11,12,13,14] [15] (by kernel_rfl) (by kernel_rfl) (Later.bI (Below.refl _ _).drew) ?_
   refine af ?_
   try simp only[au,List.map_cons,List.map_nil,List.getD_cons_zero,List.getD_cons_succ]
   repeat(go_big_quiet_step (fail))
   refine wpQuiet_nil ?_
   refine ae _ _ _ (by kernel_rfl) ?_
   try simp only[au,List.map_cons,List.map_nil,List.getD_cons_zero,List.getD_cons_succ]
   have hcn:=hn.cells
   have hfn:=hn.frees
   clear q1 q2
   go_wp2_with fail
   refine NoPanic.normal ?_
   go_wp2_with fail
   have hv:=hcut.out
   try rw[Int.ediv_one] at hv
   rw[hv]
   exact⟨⟨4,by omega,rfl,by first | exact hnx.drew | (have e:kl x 3=x % 4096:=rfl;rw[e] at hnx;exact hnx.drew),(hbr.setCell (Nat.le_refl _) _).drew⟩,by simp[intOf]⟩
  ·have hnx:=hn.ao 4 (.int .i64 (kl x 4))
   rw[kI x 4 (by omega)] at hnx
   have hlen:=hn.lt
   have q1:=Later.cell (B:=wr.heap.size) (hgr 4 48 rfl) (by omega)
   have q2:=Later.cell (B:=wr.heap.size) (i:=4) (u:=some (.int .i64 1)) (vO.cell 4) vO.lt
   have hcut:=Lib.hid (ft x 281474976710656 2 1 48 1 hx (by omega) (by decide) (by decide) (by decide))
   go_wp2_with fail
   refine az (fun w'=>∃ q:Later wr.heap.size wr,w'=q.val) 15 [] [0,1,2,3,4,5,6,7,8,9,10,11,12,13,14] [15] (by kernel_rfl) (by kernel_rfl) (Later.bI (Below.refl _ _).drew) ?_
   refine af ?_
   try simp only[au,List.map_cons,List.map_nil,List.getD_cons_zero,List.getD_cons_succ]
   repeat(go_big_quiet_step (fail))
   refine wpQuiet_nil ?_
   refine ae _ _ _ (by kernel_rfl) ?_
   try simp only[au,List.map_cons,List.map_nil,List.getD_cons_zero,List.getD_cons_succ]
   have hcn:=hn.cells
   have hfn:=hn.frees
   clear q1 q2
   go_wp2_with fail
   refine NoPanic.normal ?_
   go_wp2_with fail
   have hv:=hcut.out
   try rw[Int.ediv_one] at hv
   rw[hv]
   exact⟨⟨5,by omega,rfl,by first | exact hnx.drew | (have e:kl x 4=x % 4096:=rfl;rw[e] at hnx;exact hnx.drew),(hbr.setCell (Nat.le_refl _) _).drew⟩,by simp[intOf]⟩
  ·have hnx:=hn.ao 5 (.int .i64 (kl x 5))
   rw[kI x 5 (by omega)] at hnx
   have hlen:=hn.lt
   have q1:=Later.cell (B:=wr.heap.size) (hgr 5 49 rfl) (by omega)
   have q2:=Later.cell (B:=wr.heap.size) (i:=5) (u:=some (.int .i64 3)) (vO.cell 5) vO.lt
   have hcut:=Lib.hid (ft x 562949953421312 8 7 49 3 hx (by omega) (by decide) (by decide) (by decide))
   go_wp2_with fail
   refine az (fun w'=>∃ q:Later wr.heap.size wr,w'=q.val) 15 [] [0,1,2,3,4,5,6,7,8,9,10,11,12,13,14] [15] (by kernel_rfl) (by kernel_rfl) (Later.bI (Below.refl _ _).drew) ?_
   refine af ?_
   try simp only[au,List.map_cons,List.map_nil,List.getD_cons_zero,List.getD_cons_succ]
   repeat(go_big_quiet_step (fail))
   refine wpQuiet_nil ?_
   refine ae _ _ _ (by kernel_rfl) ?_
   try simp only[au,List.map_cons,List.map_nil,List.getD_cons_zero,List.getD_cons_succ]
   have hcn:=hn.cells
   have hfn:=hn.frees
   clear q1 q2
   go_wp2_with fail
   refine NoPanic.normal ?_
   go_wp2_with fail
   have hv:=hcut.out
   try rw[Int.ediv_one] at hv
   rw[hv]
   exact⟨⟨6,by omega,rfl,by first | exact hnx.drew | (have e:kl x 5=x % 4096:=rfl;rw[e] at hnx;exact hnx.drew),(hbr.setCell (Nat.le_refl _) _).drew⟩,by simp[intOf]⟩
  ·have hnx:=hn.ao 6 (.int .i64 (kl x 6))
   rw[kI x 6 (by omega)] at hnx
   have hlen:=hn.lt
   have q1:=Later.cell (B:=wr.heap.size) (hgr 6 52 rfl) (by omega)
   have q2:=Later.cell (B:=wr.heap.size) (i:=6) (u:=some (.int .i64 10)) (vO.cell 6) vO.lt
   have hcut:=Lib.hid (ft x 4503599627370496 1024 1023 52 10 hx (by omega) (by decide) (by decide) (by decide))
   go_wp2_with fail
   refine az (fun w'=>∃ q:Later wr.heap.size wr,w'=q.val) 15 [] [0,1,2,3,4,5,6,7,8,9,10,11,12,13,14] [15] (by kernel_rfl) (by kernel_rfl) (Later.bI (Below.refl _ _).drew) ?_
   refine af ?_
   try simp only[au,List.map_cons,List.map_nil,List.getD_cons_zero,List.getD_cons_succ]
   repeat(go_big_quiet_step (fail))
   refine wpQuiet_nil ?_
   refine ae _ _ _ (by kernel_rfl) ?_
   try simp only[au,List.map_cons,List.map_nil,List.getD_cons_zero,List.getD_cons_succ]
   have hcn:=hn.cells
   have hfn:=hn.frees
   clear q1 q2
   go_wp2_with fail
   refine NoPanic.normal ?_
   go_wp2_with fail
   have hv:=hcut.out
   try rw[Int.ediv_one] at hv
   rw[hv]
   exact⟨⟨7,by omega,rfl,by first | exact hnx.drew | (have e:kl x 6=x % 4096:=rfl;rw[e] at hnx;exact hnx.drew),(hbr.setCell (Nat.le_refl _) _).drew⟩,by simp[intOf]⟩
  ·have Mz:a8 wr b5 213 #[.int .i64 (x % 4096),.int .i64 (x / 4096 % 512),.int .i64 (x / 2097152 % 262144),.int .i64 (x / 549755813888 % 512),.int .i64 (x / 281474976710656 % 2),.int .i64 (x / 562949953421312 % 8),.int .i64 (x / 4503599627370496 % 1024)]:=hn
   have G2:=Mz.cells
   have hcR:=hRr.cells
   have E2:=hRr.frees
   have E3:=hRr.lt
   clear hn hgr vO Jp Ls dL
   go_wp2_with fail
   refine bodyPost_ret (v:=(getD' x).vals) ?_ rfl ⟨rfl,?_⟩
   ·simp[results,Tryz.results92,go_sem,hcR]
    rfl
   ·rw[HR.out]
    have hbf:=kK.trans (hbr.mono (by omega))
    exact((((((hbf.setCell (Nat.le_refl _) _).setCell (Nat.le_refl _) _).setCell (Nat.le_refl _) _).setCell (Nat.le_refl _) _).setCell (Nat.le_refl _) _).setCell (Nat.le_refl _) _).setCell (Nat.le_refl _) _
def lA (d:Ds):Nat→Bool
 | 0=>true
 | 1=>du d.aM 4096
 | 2=>du d.aM 4096 && du d.addr 512
 | 3=>du d.aM 4096 && (du d.addr 512 && du d.ver 262144)
 | 4=>du d.aM 4096 && (du d.addr 512 && (du d.ver 262144 && du d.next 512))
 | 5=>du d.aM 4096 && (du d.addr 512 && (du d.ver 262144 && du d.next 512))
 | 6=>du d.aM 4096 && (du d.addr 512 && (du d.ver 262144 && (du d.next 512 && du d.status 8)))
 | _=>d.fit
def m7 (d:Ds):Nat→Int
 | 0=>0
 | 1=>d.aM
 | 2=>d.aM+d.addr*4096
 | 3=>d.aM+d.addr*4096+d.ver*2097152
 | 4=>d.aM+d.addr*4096+d.ver*2097152+d.next*549755813888
 | 5=>d.aM+d.addr*4096+d.ver*2097152+d.next*549755813888+cz d.mark*281474976710656
 | 6=>d.aM+d.addr*4096+d.ver*2097152+d.next*549755813888+cz d.mark*281474976710656+d.status*562949953421312
 | _=>d.num
def G3 (d:Ds) (w:World) (e:Ending) (w':World):Prop:=e= .returned (.tuple #[.int .u64 (cL d),.int .i64 (if d.fit then 0 else 2)])∧Below w.heap.size w w'
theorem tQ (d:Ds) (w:World):Calls Tryz.prog 100 #[d.vals] w (G3 d w):=by
 obtain⟨a,ad,v,ne,m,st,vl⟩:=d
 have HP:Hid (cL ⟨a,ad,v,ne,m,st,vl⟩=if (⟨a,ad,v,ne,m,st,vl⟩:Ds).fit then (⟨a,ad,v,ne,m,st,vl⟩:Ds).num else 0):=Lib.hid rfl
 have iT:Hid ((⟨a,ad,v,ne,m,st,vl⟩:Ds).fit=(du a 4096 && (du ad 512 && (du v 262144 && (du ne 512 && (du st 8 && du vl 1024)))))):=Lib.hid rfl
 obtain⟨R,iQ⟩:∃ R,w.heap.size=R:=⟨_,rfl⟩
 have HR:=Lib.hid iQ
 have hnum:=fun W=>sc ⟨a,ad,v,ne,m,st,vl⟩ W
 simp only[numsD,cv,List.map_cons,List.map_nil] at hnum
 have E9:=Lib.hid hnum
 clear hnum
 simp only[Ds.vals] at E9⊢
 have hbi:=ei m
 go_enter Tryz.func100,Tryz.ntmps100
 go_wp2_with fail
 have hR0:=a8.new w 161 #[.int .i64 a,.int .i64 ad,.int .i64 v,.int .i64 ne,.bool m,.int .i64 st,.int .i64 vl]
 have hb0:Below w.heap.size w (w.alloc (.cells #[.int .i64 a,.int .i64 ad,.int .i64 v,.int .i64 ne,.bool m,.int .i64 st,.int .i64 vl] 161)):=(Below.refl _ _).alloc (Nat.le_refl _) _
 have hz0:(w.alloc (.cells #[.int .i64 a,.int .i64 ad,.int .i64 v,.int .i64 ne,.bool m,.int .i64 st,.int .i64 vl] 161)).heap.size=R+1:=by simp[iQ]
 rw[iQ] at hR0 hb0
 generalize(w.alloc (.cells #[.int .i64 a,.int .i64 ad,.int .i64 v,.int .i64 ne,.bool m,.int .i64 st,.int .i64 vl] 161))=w1 at *
 clear iQ
 refine(m6 w1).mono ?_
 rintro e w2 ⟨rfl,hb2⟩
 have hR2:=hR0.step hb2
 have de:=hb0.trans (hb2.mono (by omega))
 have hs2:R+1≤w2.heap.size:=by have:=hb2.size;omega
 clear hR0 hb0 hb2 hz0
 obtain⟨N2,Cp⟩:∃ N2,w2.heap.size=N2:=⟨_,rfl⟩
 have Mx:R+1≤N2:=by omega
 go_wp2_with fail
 have hW:=a8.new w2 213 (cv [12,9,18,9,1,3,10]).toArray
 have hb3:Below w2.heap.size w2 (w2.alloc (.cells #[.int .i64 12,.int .i64 9,.int .i64 18,.int .i64 9,.int .i64 1,.int .i64 3,.int .i64 10] 213)):=(Below.refl _ _).alloc (Nat.le_refl _) _
 have hsz3:(w2.alloc (.cells #[.int .i64 12,.int .i64 9,.int .i64 18,.int .i64 9,.int .i64 1,.int .i64 3,.int .i64 10] 213)).heap.size=N2+1:=by simp[Cp]
 have hW':a8 (w2.alloc (.cells #[.int .i64 12,.int .i64 9,.int .i64 18,.int .i64 9,.int .i64 1,.int .i64 3,.int .i64 10] 213)) w2.heap.size 213 #[.int .i64 12,.int .i64 9,.int .i64 18,.int .i64 9,.int .i64 1,.int .i64 3,.int .i64 10]:=hW
 have hsl:Sl (w2.alloc (.cells #[.int .i64 12,.int .i64 9,.int .i64 18,.int .i64 9,.int .i64 1,.int .i64 3,.int .i64 10] 213)) (N2+1) 1 (some ⟨N2,0,none⟩) 7 (cv [12,9,18,9,1,3,10]):=
  ⟨rfl,fun _=>rfl,fun _=>by simp[bt],fun j _=>by
   have:=hW.cell j
   simp only[bt,bY,Option.map_some,Option.getD_some,Nat.zero_add]
   rw[←Cp]
   have h2:(w2.alloc (.cells #[.int .i64 12,.int .i64 9,.int .i64 18,.int .i64 9,.int .i64 1,.int .i64 3,.int .i64 10] 213)).cell? ⟨w2.heap.size,j,none⟩=(cv [12,9,18,9,1,3,10]).toArray[j]? :=this
   rw[h2];simp⟩
 have CM:=hR2.step hb3
 have kJ:=de.trans (hb3.mono (by omega))
 clear hW hR2 de
 rw[Cp] at hW'
 generalize(w2.alloc (.cells #[.int .i64 12,.int .i64 9,.int .i64 18,.int .i64 9,.int .i64 1,.int .i64 3,.int .i64 10] 213))=w3 at *
 refine(mh (some ⟨N2,0,none⟩) 7 7 (N2+1) [12,9,18,9,1,3,10] _ hsl (by omega) rfl (by omega) (by simp)).mono ?_
 rintro e w4 ⟨v4,rfl,hown,hb4⟩
 rw[hsz3] at hown
 obtain⟨g,cap,rfl,-,-⟩:=hown.form (by omega)
 have hgl:g<w4.heap.size:=by
  obtain⟨-,cs,hk⟩:=bH hown g rfl
  exact hk.lt
 have hcell:∀ (k:Nat) (y:Int),[(0:Int),12,21,39,48,49,52,62][k]? =some y→w4.cell? ⟨g,k,none⟩=some (.int .i64 y):=fun k y hy=>by
  have h1:=hown.cells (g:=g) rfl k (.int .i64 y) (by
   have:tD [12,9,18,9,1,3,10]=[0,12,21,39,48,49,52,62]:=by decide
   rw[this,iM,hy];rfl)
  have hadd:(⟨g,0,none⟩:Addr).add k=⟨g,k,none⟩:=by unfold Addr.add;split<;>simp_all
  rwa [hadd] at h1
 have G0:=hW'.step hb4
 have G1:=CM.step hb4
 have Ar:=kJ.trans (hb4.mono (by omega))
 have hs4:N2+1≤w4.heap.size:=by have:=hb4.size;omega
 clear hown hW' CM kJ hb4 hsl hb3 hsz3 Cp
 have hcR:=G1.cells
 go_wp2_with fail
 refine(E9.out w4).mono ?_
 rintro e w5 ⟨rfl,hb5⟩
 have dL:∀ (k:Nat) (y:Int),[(0:Int),12,21,39,48,49,52,62][k]? =some y→w5.cell? ⟨g,k,none⟩=some (.int .i64 y):=fun k y hy=>(hb5.cell (p:=⟨g,k,none⟩) hgl).trans (hcell k y hy)
 have Jp:=G0.step hb5
 have kK:=Ar.trans (hb5.mono (by omega))
 have MA:g<w5.heap.size:=by have:=hb5.size;omega
 clear hcell G0 G1 Ar hb5 hcR hgl E9
 go_wp2_with fail
 go_loop [6,14] (fun xv i=>∃ j:Nat,j≤7∧i= .int .i64 j∧xv= .int .u64 (m7 ⟨a,ad,v,ne,m,st,vl⟩ j)∧Hid (lA ⟨a,ad,v,ne,m,st,vl⟩ j=true)) (fun _ i=>7 - (intOf i).toNat)
 case atStart=>exact⟨0,by omega,rfl,rfl,Lib.hid rfl⟩
 case round=>
  obtain⟨j,hj,rfl,rfl,hft⟩:=hrel
  have h7:j=0∨j=1∨j=2∨j=3∨j=4∨j=5∨j=6∨j=7:=by omega
  have hcW:=Jp.cells
  rcases h7 with rfl | rfl | rfl | rfl | rfl | rfl | rfl | rfl
  ·rw[show m7 ⟨a,ad,v,ne,m,st,vl⟩ 0=0 from rfl]
   have hix:∀ W:World,(Instr.index 213 (.agg #[.int .i64 a,.int .i64 ad,.int .i64 v,.int .i64 ne,.int .i64 (cz m),.int .i64 st,.int .i64 vl]) (.int .i64 0)).run Tryz.prog W= .ok (.int .i64 (a)) W:=fun _=>by kernel_rfl
   have hgk:=dL 0 0 rfl
   clear dL
   by_cases hlo:a<0
   ·have HF:=Lib.hid (show du (a) 4096=false by unfold du;rw[decide_eq_false (show ¬ 0≤a by omega)];rfl)
    have jy:decide (a<0)=true:=decide_eq_true hlo
    go_wp2_with fail
    go_ret2
    refine⟨?_,by rw[HR.out];exact kK⟩
    have hno:(⟨a,ad,v,ne,m,st,vl⟩:Ds).fit=false:=by rw[iT.out,HF.out];simp
    rw[HP.out,hno];rfl
   by_cases hhi:4096≤a
   ·have HF:=Lib.hid (show du (a) 4096=false by unfold du;rw[decide_eq_false (show ¬ a<4096 by omega)];simp)
    have jy:decide (a<0)=false:=decide_eq_false hlo
    go_wp2_with fail
    go_ret2
    refine⟨?_,by rw[HR.out];exact kK⟩
    have hno:(⟨a,ad,v,ne,m,st,vl⟩:Ds).fit=false:=by rw[iT.out,HF.out];simp
    rw[HP.out,hno];rfl
   have hr:0≤a∧a<4096:=by omega
   have jy:decide (a<0)=false:=decide_eq_false (by omega)
   have jH:=Lib.hid (jq 0 (a) 1 4096 0 12 (by decide) (by decide) (by omega) hr (by omega))
   have od:Hid (lA ⟨a,ad,v,ne,m,st,vl⟩ 1=true):=Lib.hid (by rw[lA,a6 hr])
   go_wp2_with fail
   refine⟨⟨1,by omega,rfl,?_,od⟩,by simp[intOf]⟩
   exact congrArg (Value.int .u64) (by first | exact jH.out | (have hk:=jH.out;simp only[Int.mul_one,Int.zero_add] at hk;exact hk))
  ·rw[show m7 ⟨a,ad,v,ne,m,st,vl⟩ 1=a from rfl]
   have hix:∀ W:World,(Instr.index 213 (.agg #[.int .i64 a,.int .i64 ad,.int .i64 v,.int .i64 ne,.int .i64 (cz m),.int .i64 st,.int .i64 vl]) (.int .i64 1)).run Tryz.prog W= .ok (.int .i64 (ad)) W:=fun _=>by kernel_rfl
   have hgk:=dL 1 12 rfl
   have h0:0≤a∧a<4096:=aI hft.out
   clear dL
   by_cases hlo:ad<0
   ·have HF:=Lib.hid (show du (ad) 512=false by unfold du;rw[decide_eq_false (show ¬ 0≤ad by omega)];rfl)
    have jy:decide (ad<0)=true:=decide_eq_true hlo
    go_wp2_with fail
    go_ret2
    refine⟨?_,by rw[HR.out];exact kK⟩
    have hno:(⟨a,ad,v,ne,m,st,vl⟩:Ds).fit=false:=by rw[iT.out,HF.out];simp
    rw[HP.out,hno];rfl
   by_cases hhi:512≤ad
   ·have HF:=Lib.hid (show du (ad) 512=false by unfold du;rw[decide_eq_false (show ¬ ad<512 by omega)];simp)
    have jy:decide (ad<0)=false:=decide_eq_false hlo
    go_wp2_with fail
    go_ret2
    refine⟨?_,by rw[HR.out];exact kK⟩
    have hno:(⟨a,ad,v,ne,m,st,vl⟩:Ds).fit=false:=by rw[iT.out,HF.out];simp
    rw[HP.out,hno];rfl
   have hr:0≤ad∧ad<512:=by omega
   have jy:decide (ad<0)=false:=decide_eq_false (by omega)
   have jH:=Lib.hid (jq a (ad) 4096 512 12 9 (by decide) (by decide) (by omega) hr (by omega))
   have od:Hid (lA ⟨a,ad,v,ne,m,st,vl⟩ 2=true):=Lib.hid (by rw[lA,a6 h0,a6 hr];rfl)
   go_wp2_with fail
   refine⟨⟨2,by omega,rfl,?_,od⟩,by simp[intOf]⟩
   exact congrArg (Value.int .u64) (by first | exact jH.out | (have hk:=jH.out;simp only[Int.mul_one,Int.zero_add] at hk;exact hk))
  ·rw[show m7 ⟨a,ad,v,ne,m,st,vl⟩ 2=(a+ad*4096) from rfl]
   have hix:∀ W:World,(Instr.index 213 (.agg #[.int .i64 a,.int .i64 ad,.int .i64 v,.int .i64 ne,.int .i64 (cz m),.int .i64 st,.int .i64 vl]) (.int .i64 2)).run Tryz.prog W= .ok (.int .i64 (v)) W:=fun _=>by kernel_rfl
   have hgk:=dL 2 21 rfl
   have h0:0≤a∧a<4096:=aI (Bool.and_eq_true_iff.1 hft.out).1
   have h1:0≤ad∧ad<512:=aI (Bool.and_eq_true_iff.1 hft.out).2
   clear dL
   by_cases hlo:v<0
   ·have HF:=Lib.hid (show du (v) 262144=false by unfold du;rw[decide_eq_false (show ¬ 0≤v by omega)];rfl)
    have jy:decide (v<0)=true:=decide_eq_true hlo
    go_wp2_with fail
    go_ret2
    refine⟨?_,by rw[HR.out];exact kK⟩
    have hno:(⟨a,ad,v,ne,m,st,vl⟩:Ds).fit=false:=by rw[iT.out,HF.out];simp
    rw[HP.out,hno];rfl
   by_cases hhi:262144≤v
   ·have HF:=Lib.hid (show du (v) 262144=false by unfold du;rw[decide_eq_false (show ¬ v<262144 by omega)];simp)
    have jy:decide (v<0)=false:=decide_eq_false hlo
    go_wp2_with fail
    go_ret2
    refine⟨?_,by rw[HR.out];exact kK⟩
    have hno:(⟨a,ad,v,ne,m,st,vl⟩:Ds).fit=false:=by rw[iT.out,HF.out];simp
    rw[HP.out,hno];rfl
   have hr:0≤v∧v<262144:=by omega
   have jy:decide (v<0)=false:=decide_eq_false (by omega)
   have jH:=Lib.hid (jq (a+ad*4096) (v) 2097152 262144 21 18 (by decide) (by decide) (by omega) hr (by omega))
   have od:Hid (lA ⟨a,ad,v,ne,m,st,vl⟩ 3=true):=Lib.hid (by rw[lA,a6 h0,a6 h1,a6 hr];rfl)
   go_wp2_with fail
   refine⟨⟨3,by omega,rfl,?_,od⟩,by simp[intOf]⟩
   exact congrArg (Value.int .u64) (by first | exact jH.out | (have hk:=jH.out;simp only[Int.mul_one,Int.zero_add] at hk;exact hk))
  ·rw[show m7 ⟨a,ad,v,ne,m,st,vl⟩ 3=(a+ad*4096+v*2097152) from rfl]
   have hix:∀ W:World,(Instr.index 213 (.agg #[.int .i64 a,.int .i64 ad,.int .i64 v,.int .i64 ne,.int .i64 (cz m),.int .i64 st,.int .i64 vl]) (.int .i64 3)).run Tryz.prog W= .ok (.int .i64 (ne)) W:=fun _=>by kernel_rfl
   have hgk:=dL 3 39 rfl
   have h0:0≤a∧a<4096:=aI (Bool.and_eq_true_iff.1 hft.out).1
   have h1:0≤ad∧ad<512:=aI (Bool.and_eq_true_iff.1 (Bool.and_eq_true_iff.1 hft.out).2).1
   have h2:0≤v∧v<262144:=aI (Bool.and_eq_true_iff.1 (Bool.and_eq_true_iff.1 hft.out).2).2
   clear dL
   by_cases hlo:ne<0
   ·have HF:=Lib.hid (show du (ne) 512=false by unfold du;rw[decide_eq_false (show ¬ 0≤ne by omega)];rfl)
    have jy:decide (ne<0)=true:=decide_eq_true hlo
    go_wp2_with fail
    go_ret2
    refine⟨?_,by rw[HR.out];exact kK⟩
    have hno:(⟨a,ad,v,ne,m,st,vl⟩:Ds).fit=false:=by rw[iT.out,HF.out];simp
    rw[HP.out,hno];rfl
   by_cases hhi:512≤ne
   ·have HF:=Lib.hid (show du (ne) 512=false by unfold du;rw[decide_eq_false (show ¬ ne<512 by omega)];simp)
    have jy:decide (ne<0)=false:=decide_eq_false hlo
    go_wp2_with fail
    go_ret2
    refine⟨?_,by rw[HR.out];exact kK⟩
    have hno:(⟨a,ad,v,ne,m,st,vl⟩:Ds).fit=false:=by rw[iT.out,HF.out];simp
    rw[HP.out,hno];rfl
   have hr:0≤ne∧ne<512:=by omega
   have jy:decide (ne<0)=false:=decide_eq_false (by omega)
   have jH:=Lib.hid (jq (a+ad*4096+v*2097152) (ne) 549755813888 512 39 9 (by decide) (by decide) (by omega) hr (by omega))
   have od:Hid (lA ⟨a,ad,v,ne,m,st,vl⟩ 4=true):=Lib.hid (by rw[lA,a6 h0,a6 h1,a6 h2,a6 hr];rfl)
   go_wp2_with fail
   refine⟨⟨4,by omega,rfl,?_,od⟩,by simp[intOf]⟩
   exact congrArg (Value.int .u64) (by first | exact jH.out | (have hk:=jH.out;simp only[Int.mul_one,Int.zero_add] at hk;exact hk))
  ·rw[show m7 ⟨a,ad,v,ne,m,st,vl⟩ 4=(a+ad*4096+v*2097152+ne*549755813888) from rfl]
   have hix:∀ W:World,(Instr.index 213 (.agg #[.int .i64 a,.int .i64 ad,.int .i64 v,.int .i64 ne,.int .i64 (cz m),.int .i64 st,.int .i64 vl]) (.int .i64 4)).run Tryz.prog W= .ok (.int .i64 (cz m)) W:=fun _=>by kernel_rfl
   have hgk:=dL 4 48 rfl
   have h0:0≤a∧a<4096:=aI (Bool.and_eq_true_iff.1 hft.out).1
   have h1:0≤ad∧ad<512:=aI (Bool.and_eq_true_iff.1 (Bool.and_eq_true_iff.1 hft.out).2).1
   have h2:0≤v∧v<262144:=aI (Bool.and_eq_true_iff.1 (Bool.and_eq_true_iff.1 (Bool.and_eq_true_iff.1 hft.out).2).2).1
   have h3:0≤ne∧ne<512:=aI (Bool.and_eq_true_iff.1 (Bool.and_eq_true_iff.1 (Bool.and_eq_true_iff.1 hft.out).2).2).2
   clear dL
   have hr:0≤cz m∧cz m<2:=by omega
   have jy:decide (cz m<0)=false:=decide_eq_false (by omega)
   have jH:=Lib.hid (jq (a+ad*4096+v*2097152+ne*549755813888) (cz m) 281474976710656 2 48 1 (by decide) (by decide) (by omega) hr (by omega))
   have od:Hid (lA ⟨a,ad,v,ne,m,st,vl⟩ 5=true):=Lib.hid (by rw[lA,a6 h0,a6 h1,a6 h2,a6 h3];rfl)
   go_wp2_with fail
   refine⟨⟨5,by omega,rfl,?_,od⟩,by simp[intOf]⟩
   exact congrArg (Value.int .u64) (by first | exact jH.out | (have hk:=jH.out;simp only[Int.mul_one,Int.zero_add] at hk;exact hk))
  ·rw[show m7 ⟨a,ad,v,ne,m,st,vl⟩ 5=(a+ad*4096+v*2097152+ne*549755813888+cz m*281474976710656) from rfl]
   have hix:∀ W:World,(Instr.index 213 (.agg #[.int .i64 a,.int .i64 ad,.int .i64 v,.int .i64 ne,.int .i64 (cz m),.int .i64 st,.int .i64 vl]) (.int .i64 5)).run Tryz.prog W= .ok (.int .i64 (st)) W:=fun _=>by kernel_rfl
   have hgk:=dL 5 49 rfl
   have h0:0≤a∧a<4096:=aI (Bool.and_eq_true_iff.1 hft.out).1
   have h1:0≤ad∧ad<512:=aI (Bool.and_eq_true_iff.1 (Bool.and_eq_true_iff.1 hft.out).2).1
   have h2:0≤v∧v<262144:=aI (Bool.and_eq_true_iff.1 (Bool.and_eq_true_iff.1 (Bool.and_eq_true_iff.1 hft.out).2).2).1
   have h3:0≤ne∧ne<512:=aI (Bool.and_eq_true_iff.1 (Bool.and_eq_true_iff.1 (Bool.and_eq_true_iff.1 hft.out).2).2).2
   clear dL
   by_cases hlo:st<0
   ·have HF:=Lib.hid (show du (st) 8=false by unfold du;rw[decide_eq_false (show ¬ 0≤st by omega)];rfl)
    have jy:decide (st<0)=true:=decide_eq_true hlo
    go_wp2_with fail
    go_ret2
    refine⟨?_,by rw[HR.out];exact kK⟩
    have hno:(⟨a,ad,v,ne,m,st,vl⟩:Ds).fit=false:=by rw[iT.out,HF.out];simp
    rw[HP.out,hno];rfl
   by_cases hhi:8≤st
   ·have HF:=Lib.hid (show du (st) 8=false by unfold du;rw[decide_eq_false (show ¬ st<8 by omega)];simp)
    have jy:decide (st<0)=false:=decide_eq_false hlo
    go_wp2_with fail
    go_ret2
    refine⟨?_,by rw[HR.out];exact kK⟩
    have hno:(⟨a,ad,v,ne,m,st,vl⟩:Ds).fit=false:=by rw[iT.out,HF.out];simp
    rw[HP.out,hno];rfl
   have hr:0≤st∧st<8:=by omega
   have jy:decide (st<0)=false:=decide_eq_false (by omega)
   have jH:=Lib.hid (jq (a+ad*4096+v*2097152+ne*549755813888+cz m*281474976710656) (st) 562949953421312 8 49 3 (by decide) (by decide) (by omega) hr (by omega))
   have od:Hid (lA ⟨a,ad,v,ne,m,st,vl⟩ 6=true):=Lib.hid (by rw[lA,a6 h0,a6 h1,a6 h2,a6 h3,a6 hr];rfl)
   go_wp2_with fail
   refine⟨⟨6,by omega,rfl,?_,od⟩,by simp[intOf]⟩
   exact congrArg (Value.int .u64) (by first | exact jH.out | (have hk:=jH.out;simp only[Int.mul_one,Int.zero_add] at hk;exact hk))
  ·rw[show m7 ⟨a,ad,v,ne,m,st,vl⟩ 6=(a+ad*4096+v*2097152+ne*549755813888+cz m*281474976710656+st*562949953421312) from rfl]
   have hix:∀ W:World,(Instr.index 213 (.agg #[.int .i64 a,.int .i64 ad,.int .i64 v,.int .i64 ne,.int .i64 (cz m),.int .i64 st,.int .i64 vl]) (.int .i64 6)).run Tryz.prog W= .ok (.int .i64 (vl)) W:=fun _=>by kernel_rfl
   have hgk:=dL 6 52 rfl
   have h0:0≤a∧a<4096:=aI (Bool.and_eq_true_iff.1 hft.out).1
   have h1:0≤ad∧ad<512:=aI (Bool.and_eq_true_iff.1 (Bool.and_eq_true_iff.1 hft.out).2).1
   have h2:0≤v∧v<262144:=aI (Bool.and_eq_true_iff.1 (Bool.and_eq_true_iff.1 (Bool.and_eq_true_iff.1 hft.out).2).2).1
   have h3:0≤ne∧ne<512:=aI (Bool.and_eq_true_iff.1 (Bool.and_eq_true_iff.1 (Bool.and_eq_true_iff.1 (Bool.and_eq_true_iff.1 hft.out).2).2).2).1
   have h5:0≤st∧st<8:=aI (Bool.and_eq_true_iff.1 (Bool.and_eq_true_iff.1 (Bool.and_eq_true_iff.1 (Bool.and_eq_true_iff.1 hft.out).2).2).2).2
   clear dL
   by_cases hlo:vl<0
   ·have HF:=Lib.hid (show du (vl) 1024=false by unfold du;rw[decide_eq_false (show ¬ 0≤vl by omega)];rfl)
    have jy:decide (vl<0)=true:=decide_eq_true hlo
    go_wp2_with fail
    go_ret2
    refine⟨?_,by rw[HR.out];exact kK⟩
    have hno:(⟨a,ad,v,ne,m,st,vl⟩:Ds).fit=false:=by rw[iT.out,HF.out];simp
    rw[HP.out,hno];rfl
   by_cases hhi:1024≤vl
   ·have HF:=Lib.hid (show du (vl) 1024=false by unfold du;rw[decide_eq_false (show ¬ vl<1024 by omega)];simp)
    have jy:decide (vl<0)=false:=decide_eq_false hlo
    go_wp2_with fail
    go_ret2
    refine⟨?_,by rw[HR.out];exact kK⟩
    have hno:(⟨a,ad,v,ne,m,st,vl⟩:Ds).fit=false:=by rw[iT.out,HF.out];simp
    rw[HP.out,hno];rfl
   have hr:0≤vl∧vl<1024:=by omega
   have jy:decide (vl<0)=false:=decide_eq_false (by omega)
   have jH:=Lib.hid (jq (a+ad*4096+v*2097152+ne*549755813888+cz m*281474976710656+st*562949953421312) (vl) 4503599627370496 1024 52 10 (by decide) (by decide) (by omega) hr (by omega))
   have od:Hid (lA ⟨a,ad,v,ne,m,st,vl⟩ 7=true):=Lib.hid (iT.out.trans (by rw[a6 h0,a6 h1,a6 h2,a6 h3,a6 h5,a6 hr];rfl))
   go_wp2_with fail
   refine⟨⟨7,by omega,rfl,?_,od⟩,by simp[intOf]⟩
   exact congrArg (Value.int .u64) (by first | exact jH.out | (have hk:=jH.out;simp only[Int.mul_one,Int.zero_add] at hk;exact hk))
  ·go_wp2_with fail
   go_ret2
   refine⟨?_,by rw[HR.out];exact kK⟩
   have hyes:(⟨a,ad,v,ne,m,st,vl⟩:Ds).fit=true:=hft.out
   rw[HP.out,hyes];rfl
structure gR where
 addr:Int
 at_:Int
 word:Int
 found:Int
structure gl (w:World) (C:Nat→Nat) (c b:Nat) (L:Ly) (a:gR):Prop where
 blk:SB w C c b 230 #[.int .i64 L.th,.int .i64 L.nd,.int .i64 a.addr,.int .i64 a.at_,.int .u64 a.word,.int .u64 a.found]
 word:0≤a.word∧a.word<18446744073709551616
 found:0≤a.found∧a.found<18446744073709551616
 at_:0≤a.at_∧a.at_≤3
section
variable {w w':World} {C C':Nat→Nat} {c b:Nat} {L:Ly} {a:gR}
theorem gl.fr {K:Nat→Prop} {T:List (Option TypeId)} (h:gl w C c b L a) (k:Fr C K T w w') (hk:¬ K c∨some 230∉T):gl w' C c b L a:=⟨h.blk.fr k hk,h.word,h.found,h.at_⟩
end
def qj (x:Int):Int:=(aE x).claim - 1
theorem sd (x:Int): -1≤qj x∧qj x≤30:=by have:=(bG x).claim;unfold qj;omega
def gR.open_ (a:gR):Bool:=decide ((getD' a.found).status=2) && (decide ((getD' a.found).addr=a.addr) && decide ((getD' a.found).ver=(aE a.word).ver))
def bz (M:ML) (m:Nat→Int) (a:gR):Bool×(Nat→Int)×gR:=
 if a.at_=0 then (decide (qj (ld M m a.addr)<0) || decide (M.L.th≤qj (ld M m a.addr)),m,{ a with word:=ld M m a.addr,at_:=1 })
 else if a.at_=1 then (false,m,{ a with found:=ld M m (M.L.desc (qj a.word)),at_:=if (⟨a.addr,3,a.word,ld M m (M.L.desc (qj a.word))⟩:gR).open_ then 2 else 3 })
 else if a.at_=2 then (false,cas M m (M.L.desc (qj a.word)) a.found (cL ((getD' a.found).with_ 3)),{ a with at_:=3 })
 else (true,cas M m a.addr a.word (eU (aE a.word).free),a)
def zB:List (Option TypeId):=[some 230,some 75,some 34]
theorem se:∀ x,x∈LM→x∈zB:=by decide
structure G4 (C:Nat→Nat) (c b:Nat) (M:ML) (r:Bool×(Nat→Int)×gR) (w:World) (e:Ending) (w':World):Prop where
 ret:e= .returned (.bool r.1)
 mem:aj w' C M r.2.1
 own:gl w' C c b M.L r.2.2
 fr:Fr C (Kc c) zB w w'
variable {w:World} {C:Nat→Nat} {M:ML} {m:Nat→Int}
theorem bJ (h:aj w C M m) (a:Int):0≤ld M m a∧ld M m a<18446744073709551616:=by
 unfold ld
 split
 ·exact h.rng _
 ·omega
theorem xF (v0 v1 v2 v3 v4:Value) (W:World):(Instr.field 198 (.agg #[v0,v1,v2,v3,v4]) 3).run Tryz.prog W= .ok v3 W:=by kernel_rfl
theorem As (v0 v1 v2 v3 v4:Value) (W:World):(Instr.field 198 (.agg #[v0,v1,v2,v3,v4]) 4).run Tryz.prog W= .ok v4 W:=by kernel_rfl
theorem iU (x:Int) (w:World) (hx:0≤x∧x<18446744073709551616):Calls Tryz.prog 158 #[.int .u64 x] w fun e w'=>e= .returned (.int .i64 (qj x))∧Below w.heap.size w w':=by
 have hg:=aT x w hx
 have hr:=(bG x).claim
 have HT:Hid (qj x=(aE x).claim - 1):=Lib.hid rfl
 obtain⟨W,hW⟩:∃ W,aE x=W:=⟨_,rfl⟩
 rw[hW] at hg hr HT
 clear hW
 obtain⟨k,n,m,cl,v⟩:=W
 simp only[Wd.val] at hg hr HT
 have HG:=Lib.hid hg
 clear hg
 go_enter Tryz.func158,Tryz.ntmps158
 go_wp2_with fail
 refine HG.out.mono ?_
 rintro e w1 ⟨rfl,hb⟩
 have hf:=xF (.int .i64 k) (.int .i64 n) (.bool m) (.int .i64 cl) (.int .i64 v)
 go_wp2_with fail
 go_ret
 exact⟨by rw[HT.out];rfl,hb⟩
theorem j4 (L:Ly) (addr:Int) (C:Nat→Nat) (c:Nat) (w:World):Calls Tryz.prog 156 #[L.val,.int .i64 addr] w (kH C c (fun w' C' b=>gl w' C' c b L ⟨addr,0,0,0⟩) w):=by
 obtain⟨th,nd⟩:=L
 simp only[Ly.val]
 go_enter Tryz.func156,Tryz.ntmps156
 go_wp2_with fail
 have hb0:Below w.heap.size w (w.alloc (.cells #[.int .i64 th,.int .i64 nd] 31)):=(Below.refl _ _).alloc (Nat.le_refl _) _
 go_ret
 exact⟨⟨w.heap.size+1,rfl,by omega,SB.new _ _ (aO C c (by omega)) _ _ (by simp),by simp,by simp,by simp⟩,hb0.alloc (by simp) _⟩
variable {c b:Nat} {L:Ly}
theorem vP {a:gR} (h:gl w C c b L a):Calls Tryz.prog 159 #[.pointer (some ⟨b,0,none⟩)] w fun e w'=>e= .returned (.bool a.open_)∧Below w.heap.size w w':=by
 obtain⟨hb,hwd,hfd,hat⟩:=h
 have HO:Hid (a.open_=(decide ((getD' a.found).status=2) && (decide ((getD' a.found).addr=a.addr) && decide ((getD' a.found).ver=(aE a.word).ver)))):=Lib.hid rfl
 obtain⟨addr,at0,word,found⟩:=a
 simp only at hb hwd hfd HO
 have hg:=fC found w hfd
 obtain⟨D,hD⟩:∃ D,getD' found=D:=⟨_,rfl⟩
 rw[hD] at hg HO
 clear hD
 have hW:=fun W=>aT word W hwd
 obtain⟨WD,Lt⟩:∃ WD,aE word=WD:=⟨_,rfl⟩
 simp only[Lt] at hW HO
 clear Lt
 obtain⟨at_,ad,v,ne,mk,st,vl⟩:=D
 obtain⟨wk,wn,wm,wc,wv⟩:=WD
 simp only[Ds.vals,Wd.val] at hg hW HO
 have HG:=Lib.hid hg
 have HW:=Lib.hid hW
 have HIS:=Lib.hid (fun (W:World) (B:Nat) (A:Option Addr) (hs:Sl W B 1 A 1 (cv [2])) (hB:B≤W.heap.size)=>j0 ⟨at_,ad,v,ne,mk,st,vl⟩ A 1 1 B [2] W hs hB rfl (by omega))
 have hl:=hb.lt
 have hc:=hb.blk.cells
 clear hg hW
 by_cases h1:st=2
 ·have Fa:=Lib.hid h1
  clear h1
  by_cases h2:ad=addr
  ·have hq2:(ad==addr)=true:=beq_iff_eq.2 h2
   have Fb:=Lib.hid h2
   clear h2
   obtain⟨r,hr⟩:∃ r,decide (v=wv)=r:=⟨_,rfl⟩
   have hq3:(v==wv)=r:=hr
   have HR:=Lib.hid hr
   clear hr
   go_enter Tryz.func159,Tryz.ntmps159
   go_wp2_with fail
   refine HG.out.mono ?_
   rintro e w1 ⟨rfl,hb1⟩
   have hk1:=hb.step hb1
   go_wp2_with fail
   have hx:=a8.new w1 161 #[.int .i64 at_,.int .i64 ad,.int .i64 v,.int .i64 ne,.bool mk,.int .i64 st,.int .i64 vl]
   have hb2:Below w1.heap.size w1 (w1.alloc (.cells #[.int .i64 at_,.int .i64 ad,.int .i64 v,.int .i64 ne,.bool mk,.int .i64 st,.int .i64 vl] 161)):=(Below.refl _ _).alloc (Nat.le_refl _) _
   have hk2:=hk1.step hb2
   have de:=hb1.trans (hb2.mono hb1.size)
   generalize(w1.alloc (.cells #[.int .i64 at_,.int .i64 ad,.int .i64 v,.int .i64 ne,.bool mk,.int .i64 st,.int .i64 vl] 161))=w2 at *
   have q:=Later.cells (B:=w2.heap.size) hx hx.lt
   have q2:=Later.cells (B:=w2.heap.size) hk2.blk hk2.lt
   clear hb1 hk1 hb2 hc
   refine az (fun w'=>∃ q:Later w2.heap.size w2,w'=q.val) 23 [([0],1),([],2),([3,4,5,6,7,8,9,10,11,12,13,14,15,16,17,18],19)] [20,21,22] [23] (by kernel_rfl) (by kernel_rfl) (Later.bI (Below.refl _ _).drew) ?_
   refine ai ?_
   try simp only[au,List.map_cons,List.map_nil,List.getD_cons_zero,List.getD_cons_succ]
   repeat(go_big_quiet_step (fail))
   refine wpQuiet_nil ?_
   refine bm rfl (fun K' hK'=> ?_)
   go_simp
   have hbl:Below w2.heap.size w2 (w2.alloc (.cells #[.int .i64 2] 3)).drew:=((Below.refl w2.heap.size w2).alloc (Nat.le_refl _) _).drew
   have hsl0:Sl (w2.alloc (.cells #[.int .i64 2] 3)) (w2.heap.size+1) 1 (some ⟨w2.heap.size,0,none⟩) 1 (cv [2]):=kF w2 [2] 1 rfl
   have hsl:Sl (w2.alloc (.cells #[.int .i64 2] 3)).drew (w2.heap.size+1) 1 (some ⟨w2.heap.size,0,none⟩) 1 (cv [2]):=hsl0.below ((Below.refl _ _).drew)
   clear hsl0
   refine hK' _ _ (Later.bI hbl) ?_
   clear hK' K'
   have hsz:(w2.alloc (.cells #[.int .i64 2] 3)).drew.heap.size=w2.heap.size+1:=by simp
   generalize(w2.alloc (.cells #[.int .i64 2] 3)).drew=w3 at *
   refine ai ?_
   try simp only[au,List.map_nil]
   refine wpQuiet_nil ?_
   refine bm rfl (fun K' hK'=> ?_)
   go_simp
   refine(HIS.out _ (w2.heap.size+1) _ hsl (by omega)).mono ?_
   rintro e w4 ⟨rfl,hb4⟩
   have sf:=hbl.trans (hb4.mono hbl.size)
   rw[show jx [2] st=true by rw[Fa.out];rfl]
   refine hK' _ _ (Later.bI sf) ?_
   clear hK' K'
   refine ai ?_
   try simp only[au,List.map_cons,List.map_nil,List.getD_cons_zero,List.getD_cons_succ]
   repeat(go_big_quiet_step (fail))
   refine wpQuiet_nil ?_
   refine bm rfl (fun K' hK'=> ?_)
   go_simp
   refine(HW.out _).mono ?_
   rintro e w5 ⟨rfl,hb5⟩
   have tR:=sf.trans (hb5.mono sf.size)
   refine hK' _ _ (Later.bI tR) ?_
   clear hK' K'
   have hfl:=As (.int .i64 wk) (.int .i64 wn) (.bool wm) (.int .i64 wc) (.int .i64 wv)
   have MB:=fun q:Later w2.heap.size w2=>hfl q.val
   refine af ?_
   try simp only[au,List.map_cons,List.map_nil,List.getD_cons_zero,List.getD_cons_succ]
   repeat(go_big_quiet_step (fail))
   refine wpQuiet_nil ?_
   refine ae _ _ _ (by kernel_rfl) ?_
   try simp only[au,List.map_cons,List.map_nil,List.getD_cons_zero,List.getD_cons_succ]
   clear q q2
   go_wp2_with fail
   refine NoPanic.normal ?_
   go_wp2_with fail
   go_ret
   exact⟨by rw[HO.out];rw[decide_eq_true Fa.out,decide_eq_true Fb.out,HR.out];rfl,de.trans (tR.mono de.size)⟩
  ·have hq2:(ad==addr)=false:=beq_eq_false_iff_ne.2 h2
   have Fb:=Lib.hid h2
   clear h2
   go_enter Tryz.func159,Tryz.ntmps159
   go_wp2_with fail
   refine HG.out.mono ?_
   rintro e w1 ⟨rfl,hb1⟩
   have hk1:=hb.step hb1
   go_wp2_with fail
   have hx:=a8.new w1 161 #[.int .i64 at_,.int .i64 ad,.int .i64 v,.int .i64 ne,.bool mk,.int .i64 st,.int .i64 vl]
   have hb2:Below w1.heap.size w1 (w1.alloc (.cells #[.int .i64 at_,.int .i64 ad,.int .i64 v,.int .i64 ne,.bool mk,.int .i64 st,.int .i64 vl] 161)):=(Below.refl _ _).alloc (Nat.le_refl _) _
   have hk2:=hk1.step hb2
   have de:=hb1.trans (hb2.mono hb1.size)
   generalize(w1.alloc (.cells #[.int .i64 at_,.int .i64 ad,.int .i64 v,.int .i64 ne,.bool mk,.int .i64 st,.int .i64 vl] 161))=w2 at *
   have q:=Later.cells (B:=w2.heap.size) hx hx.lt
   have q2:=Later.cells (B:=w2.heap.size) hk2.blk hk2.lt
   clear hb1 hk1 hb2 hc
   refine az (fun w'=>∃ q:Later w2.heap.size w2,w'=q.val) 23 [([0],1),([],2),([3,4,5,6,7,8,9,10,11,12,13,14,15,16,17,18],19)] [20,21,22] [23] (by kernel_rfl) (by kernel_rfl) (Later.bI (Below.refl _ _).drew) ?_
   refine ai ?_
   try simp only[au,List.map_cons,List.map_nil,List.getD_cons_zero,List.getD_cons_succ]
   repeat(go_big_quiet_step (fail))
   refine wpQuiet_nil ?_
   refine bm rfl (fun K' hK'=> ?_)
   go_simp
   have hbl:Below w2.heap.size w2 (w2.alloc (.cells #[.int .i64 2] 3)).drew:=((Below.refl w2.heap.size w2).alloc (Nat.le_refl _) _).drew
   have hsl0:Sl (w2.alloc (.cells #[.int .i64 2] 3)) (w2.heap.size+1) 1 (some ⟨w2.heap.size,0,none⟩) 1 (cv [2]):=kF w2 [2] 1 rfl
   have hsl:Sl (w2.alloc (.cells #[.int .i64 2] 3)).drew (w2.heap.size+1) 1 (some ⟨w2.heap.size,0,none⟩) 1 (cv [2]):=hsl0.below ((Below.refl _ _).drew)
   clear hsl0
   refine hK' _ _ (Later.bI hbl) ?_
   clear hK' K'
   have hsz:(w2.alloc (.cells #[.int .i64 2] 3)).drew.heap.size=w2.heap.size+1:=by simp
   generalize(w2.alloc (.cells #[.int .i64 2] 3)).drew=w3 at *
   refine ai ?_
   try simp only[au,List.map_nil]
   refine wpQuiet_nil ?_
   refine bm rfl (fun K' hK'=> ?_)
   go_simp
   refine(HIS.out _ (w2.heap.size+1) _ hsl (by omega)).mono ?_
   rintro e w4 ⟨rfl,hb4⟩
   have sf:=hbl.trans (hb4.mono hbl.size)
   rw[show jx [2] st=true by rw[Fa.out];rfl]
   refine hK' _ _ (Later.bI sf) ?_
   clear hK' K'
   refine ai ?_
   try simp only[au,List.map_cons,List.map_nil,List.getD_cons_zero,List.getD_cons_succ]
   repeat(go_big_quiet_step (fail))
   refine wpQuiet_nil ?_
   refine bm rfl (fun K' hK'=> ?_)
   go_simp
   have tR:=sf
   refine hK' _ _ (Later.bI tR) ?_
   clear hK' K'
   refine af ?_
   try simp only[au,List.map_cons,List.map_nil,List.getD_cons_zero,List.getD_cons_succ]
   repeat(go_big_quiet_step (fail))
   refine wpQuiet_nil ?_
   refine ae _ _ _ (by kernel_rfl) ?_
   try simp only[au,List.map_cons,List.map_nil,List.getD_cons_zero,List.getD_cons_succ]
   clear q q2
   go_wp2_with fail
   refine NoPanic.normal ?_
   go_wp2_with fail
   go_ret
   exact⟨by rw[HO.out];rw[decide_eq_true Fa.out,decide_eq_false Fb.out];rfl,de.trans (tR.mono de.size)⟩
 ·have Fa:=Lib.hid h1
  clear h1
  go_enter Tryz.func159,Tryz.ntmps159
  go_wp2_with fail
  refine HG.out.mono ?_
  rintro e w1 ⟨rfl,hb1⟩
  have hk1:=hb.step hb1
  go_wp2_with fail
  have hx:=a8.new w1 161 #[.int .i64 at_,.int .i64 ad,.int .i64 v,.int .i64 ne,.bool mk,.int .i64 st,.int .i64 vl]
  have hb2:Below w1.heap.size w1 (w1.alloc (.cells #[.int .i64 at_,.int .i64 ad,.int .i64 v,.int .i64 ne,.bool mk,.int .i64 st,.int .i64 vl] 161)):=(Below.refl _ _).alloc (Nat.le_refl _) _
  have hk2:=hk1.step hb2
  have de:=hb1.trans (hb2.mono hb1.size)
  generalize(w1.alloc (.cells #[.int .i64 at_,.int .i64 ad,.int .i64 v,.int .i64 ne,.bool mk,.int .i64 st,.int .i64 vl] 161))=w2 at *
  have q:=Later.cells (B:=w2.heap.size) hx hx.lt
  have q2:=Later.cells (B:=w2.heap.size) hk2.blk hk2.lt
  clear hb1 hk1 hb2 hc
  refine az (fun w'=>∃ q:Later w2.heap.size w2,w'=q.val) 23 [([0],1),([],2),([3,4,5,6,7,8,9,10,11,12,13,14,15,16,17,18],19)] [20,21,22] [23] (by kernel_rfl) (by kernel_rfl) (Later.bI (Below.refl _ _).drew) ?_
  refine ai ?_
  try simp only[au,List.map_cons,List.map_nil,List.getD_cons_zero,List.getD_cons_succ]
  repeat(go_big_quiet_step (fail))
  refine wpQuiet_nil ?_
  refine bm rfl (fun K' hK'=> ?_)
  go_simp
  have hbl:Below w2.heap.size w2 (w2.alloc (.cells #[.int .i64 2] 3)).drew:=((Below.refl w2.heap.size w2).alloc (Nat.le_refl _) _).drew
  have hsl0:Sl (w2.alloc (.cells #[.int .i64 2] 3)) (w2.heap.size+1) 1 (some ⟨w2.heap.size,0,none⟩) 1 (cv [2]):=kF w2 [2] 1 rfl
  have hsl:Sl (w2.alloc (.cells #[.int .i64 2] 3)).drew (w2.heap.size+1) 1 (some ⟨w2.heap.size,0,none⟩) 1 (cv [2]):=hsl0.below ((Below.refl _ _).drew)
  clear hsl0
  refine hK' _ _ (Later.bI hbl) ?_
  clear hK' K'
  have hsz:(w2.alloc (.cells #[.int .i64 2] 3)).drew.heap.size=w2.heap.size+1:=by simp
  generalize(w2.alloc (.cells #[.int .i64 2] 3)).drew=w3 at *
  refine ai ?_
  try simp only[au,List.map_nil]
  refine wpQuiet_nil ?_
  refine bm rfl (fun K' hK'=> ?_)
  go_simp
  refine(HIS.out _ (w2.heap.size+1) _ hsl (by omega)).mono ?_
  rintro e w4 ⟨rfl,hb4⟩
  have sf:=hbl.trans (hb4.mono hbl.size)
  rw[show jx [2] st=false by unfold jx;simp[Fa.out]]
  refine hK' _ _ (Later.bI sf) ?_
  clear hK' K'
  refine ai ?_
  try simp only[au,List.map_cons,List.map_nil,List.getD_cons_zero,List.getD_cons_succ]
  repeat(go_big_quiet_step (fail))
  refine wpQuiet_nil ?_
  refine bm rfl (fun K' hK'=> ?_)
  go_simp
  have tR:=sf
  refine hK' _ _ (Later.bI tR) ?_
  clear hK' K'
  refine af ?_
  try simp only[au,List.map_cons,List.map_nil,List.getD_cons_zero,List.getD_cons_succ]
  repeat(go_big_quiet_step (fail))
  refine wpQuiet_nil ?_
  refine ae _ _ _ (by kernel_rfl) ?_
  try simp only[au,List.map_cons,List.map_nil,List.getD_cons_zero,List.getD_cons_succ]
  clear q q2
  go_wp2_with fail
  refine NoPanic.normal ?_
  go_wp2_with fail
  go_ret
  exact⟨by rw[HO.out];rw[decide_eq_false Fa.out];rfl,de.trans (tR.mono de.size)⟩
end Go.Proofs.YtbcnnhlpilmmbaaGreat
