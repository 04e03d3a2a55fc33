/- Texts that are wanted for PTopClaims.
   Conditions: none. -/
import Derived.Test.YtbcnnhlpilmmbaaGreatJPTopClaims03
set_option maxRecDepth 100000
set_option maxHeartbeats 6400000
namespace Go.Proofs.YtbcnnhlpilmmbaaGreat
open Go Go.RowKit
theorem nI (w:World):Calls Tryz.prog 138 #[] w fun e w'=>e= .returned (.agg #[.int .i64 12,.int .i64 9,.int .i64 18,.int .i64 9,.int .i64 1,.int .i64 3,.int .i64 10])∧Below w.heap.size w w':=by
 go_enter Tryz.func138,Tryz.ntmps138
 go_wp2_with fail
 refine bodyPost_ret (v:= .agg #[.int .i64 12,.int .i64 9,.int .i64 18,.int .i64 9,.int .i64 1,.int .i64 3,.int .i64 10]) (by simp[results,Tryz.results138,go_sem]) rfl ⟨rfl,by repeat(first | with_reducible exact Below.refl _ _ | refine Below.alloc ?_ (by simp<;>omega) _ | refine Below.setCell ?_ (by simp<;>omega) _ | refine below_drewN ?_ _ | refine Below.drew ?_)⟩
def numsD (d:Ds):List Int:=[d.aJ,d.addr,d.ver,d.next,cR d.mark,d.status,d.val]
theorem sX (d:Ds) (w:World):Calls Tryz.prog 145 #[d.vals] w fun e w'=>e= .returned (.agg (cJ (numsD d)).toArray)∧Below w.heap.size w w':=by
 obtain⟨a,ad,v,ne,m,st,vl⟩:=d
 simp only[Ds.vals,numsD,cJ,List.map_cons,List.map_nil]
 cases m
 all_goals
  go_enter Tryz.func145,Tryz.ntmps145
  go_wp2_with fail
  first
   | refine bodyPost_ret (v:= .agg #[.int .i64 a,.int .i64 ad,.int .i64 v,.int .i64 ne,.int .i64 0,.int .i64 st,.int .i64 vl]) (by simp[results,Tryz.results145,go_sem]) rfl ⟨rfl,by repeat(first | with_reducible exact Below.refl _ _ | refine Below.alloc ?_ (by simp<;>omega) _ | refine Below.setCell ?_ (by simp<;>omega) _ | refine below_drewN ?_ _ | refine Below.drew ?_)⟩
   | refine bodyPost_ret (v:= .agg #[.int .i64 a,.int .i64 ad,.int .i64 v,.int .i64 ne,.int .i64 1,.int .i64 st,.int .i64 vl]) (by simp[results,Tryz.results145,go_sem]) rfl ⟨rfl,by repeat(first | with_reducible exact Below.refl _ _ | refine Below.alloc ?_ (by simp<;>omega) _ | refine Below.setCell ?_ (by simp<;>omega) _ | refine below_drewN ?_ _ | refine Below.drew ?_)⟩
theorem fN (x d p q:Int) (a m:Nat) (hx:0≤x∧x<18446744073709551616) (hm:m≤30) (hd:2 ^ a=d) (hp:2 ^ m=p) (hq:q=p - 1):wrap64 (bits .and .u64 (x / d) q)=x / d % p:=by
 have h2:(2:Nat) ^ m≤2 ^ 30:=Nat.pow_le_pow_right (by omega) hm
 have h2':(2:Nat) ^ m≤1073741824:=h2
 have h3:1≤(2:Nat) ^ m:=Nat.one_le_two_pow
 have e2:((2:Int) ^ m)=((2 ^ m:Nat):Int):=by simp
 have h:=A6 x a m hx hm
 rw[IntWalk.u64_in (2 ^ m) ⟨by omega,by omega⟩,IntWalk.u64_in (2 ^ m - 1) ⟨by omega,by omega⟩] at h
 subst hd hp hq;exact h
def kN (x:Int):Nat→Int
 | 0=>x % 4096
 | 1=>x / 4096 % 512
 | 2=>x / 2097152 % 262144
 | 3=>x / 549755813888 % 512
 | 4=>x / 281474976710656 % 2
 | 5=>x / 562949953421312 % 8
 | _=>x / 4503599627370496 % 1024
def nA (x:Int) (j:Nat):Array Value:=((List.range 7).map fun k=>Value.int .i64 (if k<j then kN x k else 0)).toArray
theorem lp (x:Int) (j:Nat) (hj:j<7):(nA x j).setIfInBounds j (.int .i64 (kN x j))=nA x (j+1):=by
 have h7:j=0∨j=1∨j=2∨j=3∨j=4∨j=5∨j=6:=by omega
 rcases h7 with rfl | rfl | rfl | rfl | rfl | rfl | rfl<;>rfl
theorem fT (x:Int) (w:World) (hx:0≤x∧x<18446744073709551616):Calls Tryz.prog 92 #[.int .u64 x] w fun e w'=>e= .returned (getD' x).vals∧Below w.heap.size w w':=by
 obtain⟨R,jf⟩:∃ R,w.heap.size=R:=⟨_,rfl⟩
 have HR:=Lib.hid jf
 go_enter Tryz.func92,Tryz.ntmps92
 go_wp2_with fail
 have hR0:=bo.new w 161 #[.int .i64 0,.int .i64 0,.int .i64 0,.int .i64 0,.bool false,.int .i64 0,.int .i64 0]
 have hb0:Below w.heap.size w (w.alloc (.cells #[.int .i64 0,.int .i64 0,.int .i64 0,.int .i64 0,.bool false,.int .i64 0,.int .i64 0] 161)):=(Below.refl _ _).alloc (Nat.le_refl _) _
 have hz0:(w.alloc (.cells #[.int .i64 0,.int .i64 0,.int .i64 0,.int .i64 0,.bool false,.int .i64 0,.int .i64 0] 161)).heap.size=R+1:=by simp[jf]
 rw[jf] at hR0 hb0
 generalize(w.alloc (.cells #[.int .i64 0,.int .i64 0,.int .i64 0,.int .i64 0,.bool false,.int .i64 0,.int .i64 0] 161))=w1 at *
 clear jf
 refine(nI w1).mono ?_
 rintro e w2 ⟨rfl,hb2⟩
 have hR2:=hR0.step hb2
 have dF:=hb0.trans (hb2.mono (by omega))
 have hs2:R+1≤w2.heap.size:=by have:=hb2.size;omega
 clear hR0 hb0 hb2 hz0
 obtain⟨N2,DN⟩:∃ N2,w2.heap.size=N2:=⟨_,rfl⟩
 have Nd:R+1≤N2:=by omega
 go_wp2_with fail
 have hW:=bo.new w2 213 (cJ [12,9,18,9,1,3,10]).toArray
 have hb3:Below w2.heap.size w2 (w2.alloc (.cells #[.int .i64 12,.int .i64 9,.int .i64 18,.int .i64 9,.int .i64 1,.int .i64 3,.int .i64 10] 213)):=(Below.refl _ _).alloc (Nat.le_refl _) _
 have hsz3:(w2.alloc (.cells #[.int .i64 12,.int .i64 9,.int .i64 18,.int .i64 9,.int .i64 1,.int .i64 3,.int .i64 10] 213)).heap.size=N2+1:=by simp[DN]
 have hW':bo (w2.alloc (.cells #[.int .i64 12,.int .i64 9,.int .i64 18,.int .i64 9,.int .i64 1,.int .i64 3,.int .i64 10] 213)) w2.heap.size 213 #[.int .i64 12,.int .i64 9,.int .i64 18,.int .i64 9,.int .i64 1,.int .i64 3,.int .i64 10]:=hW
 have hsl:Sl (w2.alloc (.cells #[.int .i64 12,.int .i64 9,.int .i64 18,.int .i64 9,.int .i64 1,.int .i64 3,.int .i64 10] 213)) (N2+1) 1 (some ⟨N2,0,none⟩) 7 (cJ [12,9,18,9,1,3,10]):=
  ⟨rfl,fun _=>rfl,fun _=>by simp[bZ],fun j _=>by
   have:=hW.cell j
   simp only[bZ,cP,Option.map_some,Option.getD_some,Nat.zero_add]
   rw[←DN]
   have h2:(w2.alloc (.cells #[.int .i64 12,.int .i64 9,.int .i64 18,.int .i64 9,.int .i64 1,.int .i64 3,.int .i64 10] 213)).cell? ⟨w2.heap.size,j,none⟩=(cJ [12,9,18,9,1,3,10]).toArray[j]? :=this
   rw[h2];simp⟩
 have DI:=hR2.step hb3
 have lq:=dF.trans (hb3.mono (by omega))
 clear hW hR2 dF
 rw[DN] at hW'
 generalize(w2.alloc (.cells #[.int .i64 12,.int .i64 9,.int .i64 18,.int .i64 9,.int .i64 1,.int .i64 3,.int .i64 10] 213))=w3 at *
 refine(mQ (some ⟨N2,0,none⟩) 7 7 (N2+1) [12,9,18,9,1,3,10] _ hsl (by omega) rfl (by omega) (by simp)).mono ?_
 rintro e w4 ⟨v,rfl,hown,hb4⟩
 have hU:=hb4
 rw[hsz3] at hown
 obtain⟨g,cap,rfl,-,-⟩:=hown.form (by omega)
 have hgb:N2+1≤g:=(bM hown g rfl).1
 have hgl:g<w4.heap.size:=by
  obtain⟨-,cs,hk⟩:=bM hown g rfl
  exact hk.lt
 have hcell:∀ (k:Nat) (y:Int),[(0:Int),12,21,39,48,49,52,62][k]? =some y→w4.cell? ⟨g,k,none⟩=some (.int .i64 y):=fun k y hy=>by
  have h1:=hown.cells (g:=g) rfl k (.int .i64 y) (by
   have:ur [12,9,18,9,1,3,10]=[0,12,21,39,48,49,52,62]:=by decide
   rw[this,jd,hy];rfl)
  have hadd:(⟨g,0,none⟩:Addr).add k=⟨g,k,none⟩:=by unfold Addr.add;split<;>simp_all
  rwa [hadd] at h1
 have Ig:=hW'.step hb4
 have Ih:=DI.step hb4
 have Bn:=lq.trans (hb4.mono (by omega))
 have hs4:N2+1≤w4.heap.size:=by have:=hb4.size;omega
 clear hown hW' DI lq hb4 hU hsl hb3 hsz3 DN
 go_wp2_with fail
 have hn0:bo (w4.alloc (.cells #[.int .i64 0,.int .i64 0,.int .i64 0,.int .i64 0,.int .i64 0,.int .i64 0,.int .i64 0] 213)) w4.heap.size 213 (nA x 0):=bo.new w4 213 _
 have hb5:Below w4.heap.size w4 (w4.alloc (.cells #[.int .i64 0,.int .i64 0,.int .i64 0,.int .i64 0,.int .i64 0,.int .i64 0,.int .i64 0] 213)):=(Below.refl _ _).alloc (Nat.le_refl _) _
 have eh:∀ (k:Nat) (y:Int),[(0:Int),12,21,39,48,49,52,62][k]? =some y→(w4.alloc (.cells #[.int .i64 0,.int .i64 0,.int .i64 0,.int .i64 0,.int .i64 0,.int .i64 0,.int .i64 0] 213)).cell? ⟨g,k,none⟩=some (.int .i64 y):=fun k y hy=>(hb5.cell (p:=⟨g,k,none⟩) hgl).trans (hcell k y hy)
 have J0:=Ig.step hb5
 have Mc:=Ih.step hb5
 have lr:=Bn.trans (hb5.mono (by omega))
 have Nf:(w4.alloc (.cells #[.int .i64 0,.int .i64 0,.int .i64 0,.int .i64 0,.int .i64 0,.int .i64 0,.int .i64 0] 213)).heap.size=w4.heap.size+1:=by simp
 obtain⟨b5,FT⟩:∃ b5,w4.heap.size=b5:=⟨_,rfl⟩
 rw[FT] at hn0 hgl Nf hs4
 clear hb5 hcell Ig Ih Bn
 generalize(w4.alloc (.cells #[.int .i64 0,.int .i64 0,.int .i64 0,.int .i64 0,.int .i64 0,.int .i64 0,.int .i64 0] 213))=w5 at *
 rw[FT]
 clear FT
 go_loopw [10] (fun i wr=>∃ j:Nat,j≤7∧i= .int .i64 j∧bo wr b5 213 (nA x j)∧Below b5 w5 wr) (fun i _=>7 - (intOf i).toNat)
 case atStart=>exact⟨0,by omega,rfl,hn0,Below.refl _ _⟩
 case round=>
  clear hn0
  obtain⟨j,hj,rfl,hn,hbr⟩:=hrel
  have h7:j=0∨j=1∨j=2∨j=3∨j=4∨j=5∨j=6∨j=7:=by omega
  have wT:=J0.below hbr (by omega)
  have hRr:=Mc.below hbr (by omega)
  have hgr:∀ (k:Nat) (y:Int),[(0:Int),12,21,39,48,49,52,62][k]? =some y→wr.cell? ⟨g,k,none⟩=some (.int .i64 y):=fun k y hy=>(hbr.cell (p:=⟨g,k,none⟩) hgl).trans (eh k y hy)
  rcases h7 with rfl | rfl | rfl | rfl | rfl | rfl | rfl | rfl
  ·have hnx:=hn.ar 0 (.int .i64 (kN x 0))
   rw[lp x 0 (by omega)] at hnx
   have hlen:=hn.lt
   have q1:=Later.cell (B:=wr.heap.size) (hgr 0 0 rfl) (by omega)
   have q2:=Later.cell (B:=wr.heap.size) (i:=0) (u:=some (.int .i64 12)) (wT.cell 0) wT.lt
   have hcut:=Lib.hid (fN x 1 4096 4095 0 12 hx (by omega) (by decide) (by decide) (by decide))
   go_wp2_with fail
   refine aD (fun w'=>∃ q:Later wr.heap.size wr,w'=q.val) 15 [] [0,1,2,3,4,5,6,7,8,9,10,11,12,13,14] [15] (by kernel_rfl) (by kernel_rfl) (Later.bW (Below.refl _ _).drew) ?_
   refine af ?_
   try simp only[ay,List.map_cons,List.map_nil,List.getD_cons_zero,List.getD_cons_succ]
   repeat(go_big_quiet_step (fail))
   refine wpQuiet_nil ?_
   refine ae _ _ _ (by kernel_rfl) ?_
   try simp only[ay,List.map_cons,List.map_nil,List.getD_cons_zero,List.getD_cons_succ]
   have hcn:=hn.cells
   have hfn:=hn.frees
   clear q1 q2
   go_wp2_with fail
   refine NoPanic.normal ?_
   go_wp2_with fail
   have hv:=hcut.out
   try rw[Int.ediv_one] at hv
   rw[hv]
   exact⟨⟨1,by omega,rfl,by first | exact hnx.drew | (have e:kN x 0=x % 4096:=rfl;rw[e] at hnx;exact hnx.drew),(hbr.setCell (Nat.le_refl _) _).drew⟩,by simp[intOf]⟩
  ·have hnx:=hn.ar 1 (.int .i64 (kN x 1))
   rw[lp x 1 (by omega)] at hnx
   have hlen:=hn.lt
   have q1:=Later.cell (B:=wr.heap.size) (hgr 1 12 rfl) (by omega)
   have q2:=Later.cell (B:=wr.heap.size) (i:=1) (u:=some (.int .i64 9)) (wT.cell 1) wT.lt
   have hcut:=Lib.hid (fN x 4096 512 511 12 9 hx (by omega) (by decide) (by decide) (by decide))
   go_wp2_with fail
   refine aD (fun w'=>∃ q:Later wr.heap.size wr,w'=q.val) 15 [] [0,1,2,3,4,5,6,7,8,9,10,11,12,13,14] [15] (by kernel_rfl) (by kernel_rfl) (Later.bW (Below.refl _ _).drew) ?_
   refine af ?_
   try simp only[ay,List.map_cons,List.map_nil,List.getD_cons_zero,List.getD_cons_succ]
   repeat(go_big_quiet_step (fail))
   refine wpQuiet_nil ?_
   refine ae _ _ _ (by kernel_rfl) ?_
   try simp only[ay,List.map_cons,List.map_nil,List.getD_cons_zero,List.getD_cons_succ]
   have hcn:=hn.cells
   have hfn:=hn.frees
   clear q1 q2
   go_wp2_with fail
   refine NoPanic.normal ?_
   go_wp2_with fail
   have hv:=hcut.out
   try rw[Int.ediv_one] at hv
   rw[hv]
   exact⟨⟨2,by omega,rfl,by first | exact hnx.drew | (have e:kN x 1=x % 4096:=rfl;rw[e] at hnx;exact hnx.drew),(hbr.setCell (Nat.le_refl _) _).drew⟩,by simp[intOf]⟩
  ·have hnx:=hn.ar 2 (.int .i64 (kN x 2))
   rw[lp x 2 (by omega)] at hnx
   have hlen:=hn.lt
   have q1:=Later.cell (B:=wr.heap.size) (hgr 2 21 rfl) (by omega)
   have q2:=Later.cell (B:=wr.heap.size) (i:=2) (u:=some (.int .i64 18)) (wT.cell 2) wT.lt
   have hcut:=Lib.hid (fN x 2097152 262144 262143 21 18 hx (by omega) (by decide) (by decide) (by decide))
   go_wp2_with fail
   refine aD (fun w'=>∃ q:Later wr.heap.size wr,w'=q.val) 15 [] [0,1,2,3,4,5,6,7,8,9,10,11,12,13,14] [15] (by kernel_rfl) (by kernel_rfl) (Later.bW (Below.refl _ _).drew) ?_
   refine af ?_
   try simp only[ay,List.map_cons,List.map_nil,List.getD_cons_zero,List.getD_cons_succ]
   repeat(go_big_quiet_step (fail))
   refine wpQuiet_nil ?_
   refine ae _ _ _ (by kernel_rfl) ?_
   try simp only[ay,List.map_cons,List.map_nil,List.getD_cons_zero,List.getD_cons_succ]
   have hcn:=hn.cells
   have hfn:=hn.frees
   clear q1 q2
   go_wp2_with fail
   refine NoPanic.normal ?_
   go_wp2_with fail
   have hv:=hcut.out
   try rw[Int.ediv_one] at hv
   rw[hv]
   exact⟨⟨3,by omega,rfl,by first | exact hnx.drew | (have e:kN x 2=x % 4096:=rfl;rw[e] at hnx;exact hnx.drew),(hbr.setCell (Nat.le_refl _) _).drew⟩,by simp[intOf]⟩
  ·have hnx:=hn.ar 3 (.int .i64 (kN x 3))
   rw[lp x 3 (by omega)] at hnx
   have hlen:=hn.lt
   have q1:=Later.cell (B:=wr.heap.size) (hgr 3 39 rfl) (by omega)
   have q2:=Later.cell (B:=wr.heap.size) (i:=3) (u:=some (.int .i64 9)) (wT.cell 3) wT.lt
   have hcut:=Lib.hid (fN x 549755813888 512 511 39 9 hx (by omega) (by decide) (by decide) (by decide))
   go_wp2_with fail
   refine aD (fun w'=>∃ q:Later wr.heap.size wr,w'=q.val) 15 [] [0,1,2,3,4,5,6,7,8,9,10,11,12,13,14] [15] (by kernel_rfl) (by kernel_rfl) (Later.bW (Below.refl _ _).drew) ?_
   refine af ?_
   try simp only[ay,List.map_cons,List.map_nil,List.getD_cons_zero,List.getD_cons_succ]
   repeat(go_big_quiet_step (fail))
   refine wpQuiet_nil ?_
   refine ae _ _ _ (by kernel_rfl) ?_
   try simp only[ay,List.map_cons,List.map_nil,List.getD_cons_zero,List.getD_cons_succ]
   have hcn:=hn.cells
   have hfn:=hn.frees
   clear q1 q2
   go_wp2_with fail
   refine NoPanic.normal ?_
   go_wp2_with fail
   have hv:=hcut.out
   try rw[Int.ediv_one] at hv
   rw[hv]
   exact⟨⟨4,by omega,rfl,by first | exact hnx.drew | (have e:kN x 3=x % 4096:=rfl;rw[e] at hnx;exact hnx.drew),(hbr.setCell (Nat.le_refl _) _).drew⟩,by simp[intOf]⟩
  ·have hnx:=hn.ar 4 (.int .i64 (kN x 4))
   rw[lp x 4 (by omega)] at hnx
   have hlen:=hn.lt
   have q1:=Later.cell (B:=wr.heap.size) (hgr 4 48 rfl) (by omega)
   have q2:=Later.cell (B:=wr.heap.size) (i:=4) (u:=some (.int .i64 1)) (wT.cell 4) wT.lt
   have hcut:=Lib.hid (fN x 281474976710656 2 1 48 1 hx (by omega) (by decide) (by decide) (by decide))
   go_wp2_with fail
   refine aD (fun w'=>∃ q:Later wr.heap.size wr,w'=q.val) 15 [] [0,1,2,3,4,5,6,7,8,9,10,11,12,13,14] [15] (by kernel_rfl) (by kernel_rfl) (Later.bW (Below.refl _ _).drew) ?_
   refine af ?_
   try simp only[ay,List.map_cons,List.map_nil,List.getD_cons_zero,List.getD_cons_succ]
   repeat(go_big_quiet_step (fail))
   refine wpQuiet_nil ?_
   refine ae _ _ _ (by kernel_rfl) ?_
   try simp only[ay,List.map_cons,List.map_nil,List.getD_cons_zero,List.getD_cons_succ]
   have hcn:=hn.cells
   have hfn:=hn.frees
   clear q1 q2
   go_wp2_with fail
   refine NoPanic.normal ?_
   go_wp2_with fail
   have hv:=hcut.out
   try rw[Int.ediv_one] at hv
   rw[hv]
   exact⟨⟨5,by omega,rfl,by first | exact hnx.drew | (have e:kN x 4=x % 4096:=rfl;rw[e] at hnx;exact hnx.drew),(hbr.setCell (Nat.le_refl _) _).drew⟩,by simp[intOf]⟩
  ·have hnx:=hn.ar 5 (.int .i64 (kN x 5))
   rw[lp x 5 (by omega)] at hnx
   have hlen:=hn.lt
   have q1:=Later.cell (B:=wr.heap.size) (hgr 5 49 rfl) (by omega)
   have q2:=Later.cell (B:=wr.heap.size) (i:=5) (u:=some (.int .i64 3)) (wT.cell 5) wT.lt
   have hcut:=Lib.hid (fN x 562949953421312 8 7 49 3 hx (by omega) (by decide) (by decide) (by decide))
   go_wp2_with fail
   refine aD (fun w'=>∃ q:Later wr.heap.size wr,w'=q.val) 15 [] [0,1,2,3,4,5,6,7,8,9,10,11,12,13,14] [15] (by kernel_rfl) (by kernel_rfl) (Later.bW (Below.refl _ _).drew) ?_
   refine af ?_
   try simp only[ay,List.map_cons,List.map_nil,List.getD_cons_zero,List.getD_cons_succ]
   repeat(go_big_quiet_step (fail))
   refine wpQuiet_nil ?_
   refine ae _ _ _ (by kernel_rfl) ?_
   try simp only[ay,List.map_cons,List.map_nil,List.getD_cons_zero,List.getD_cons_succ]
   have hcn:=hn.cells
   have hfn:=hn.frees
   clear q1 q2
   go_wp2_with fail
   refine NoPanic.normal ?_
   go_wp2_with fail
   have hv:=hcut.out
   try rw[Int.ediv_one] at hv
   rw[hv]
   exact⟨⟨6,by omega,rfl,by first | exact hnx.drew | (have e:kN x 5=x % 4096:=rfl;rw[e] at hnx;exact hnx.drew),(hbr.setCell (Nat.le_refl _) _).drew⟩,by simp[intOf]⟩
  ·have hnx:=hn.ar 6 (.int .i64 (kN x 6))
   rw[lp x 6 (by omega)] at hnx
   have hlen:=hn.lt
   have q1:=Later.cell (B:=wr.heap.size) (hgr 6 52 rfl) (by omega)
   have q2:=Later.cell (B:=wr.heap.size) (i:=6) (u:=some (.int .i64 10)) (wT.cell 6) wT.lt
   have hcut:=Lib.hid (fN x 4503599627370496 1024 1023 52 10 hx (by omega) (by decide) (by decide) (by decide))
   go_wp2_with fail
   refine aD (fun w'=>∃ q:Later wr.heap.size wr,w'=q.val) 15 [] [0,1,2,3,4,5,6,7,8,9,10,11,12,13,14] [15] (by kernel_rfl) (by kernel_rfl) (Later.bW (Below.refl _ _).drew) ?_
   refine af ?_
   try simp only[ay,List.map_cons,List.map_nil,List.getD_cons_zero,List.getD_cons_succ]
   repeat(go_big_quiet_step (fail))
   refine wpQuiet_nil ?_
   refine ae _ _ _ (by kernel_rfl) ?_
   try simp only[ay,List.map_cons,List.map_nil,List.getD_cons_zero,List.getD_cons_succ]
   have hcn:=hn.cells
   have hfn:=hn.frees
   clear q1 q2
   go_wp2_with fail
   refine NoPanic.normal ?_
   go_wp2_with fail
   have hv:=hcut.out
   try rw[Int.ediv_one] at hv
   rw[hv]
   exact⟨⟨7,by omega,rfl,by first | exact hnx.drew | (have e:kN x 6=x % 4096:=rfl;rw[e] at hnx;exact hnx.drew),(hbr.setCell (Nat.le_refl _) _).drew⟩,by simp[intOf]⟩
  ·have Ng:bo wr b5 213 #[.int .i64 (x % 4096),.int .i64 (x / 4096 % 512),.int .i64 (x / 2097152 % 262144),.int .i64 (x / 549755813888 % 512),.int .i64 (x / 281474976710656 % 2),.int .i64 (x / 562949953421312 % 8),.int .i64 (x / 4503599627370496 % 1024)]:=hn
   have Ii:=Ng.cells
   have hcR:=hRr.cells
   have FN:=hRr.frees
   have FO:=hRr.lt
   clear hn hgr wT J0 Mc eh
   go_wp2_with fail
   refine bodyPost_ret (v:=(getD' x).vals) ?_ rfl ⟨rfl,?_⟩
   ·simp[results,Tryz.results92,go_sem,hcR]
    rfl
   ·rw[HR.out]
    have hbf:=lr.trans (hbr.mono (by omega))
    exact((((((hbf.setCell (Nat.le_refl _) _).setCell (Nat.le_refl _) _).setCell (Nat.le_refl _) _).setCell (Nat.le_refl _) _).setCell (Nat.le_refl _) _).setCell (Nat.le_refl _) _).setCell (Nat.le_refl _) _
def lZ (d:Ds):Nat→Bool
 | 0=>true
 | 1=>dL d.aJ 4096
 | 2=>dL d.aJ 4096 && dL d.addr 512
 | 3=>dL d.aJ 4096 && (dL d.addr 512 && dL d.ver 262144)
 | 4=>dL d.aJ 4096 && (dL d.addr 512 && (dL d.ver 262144 && dL d.next 512))
 | 5=>dL d.aJ 4096 && (dL d.addr 512 && (dL d.ver 262144 && dL d.next 512))
 | 6=>dL d.aJ 4096 && (dL d.addr 512 && (dL d.ver 262144 && (dL d.next 512 && dL d.status 8)))
 | _=>d.fit
def nJ (d:Ds):Nat→Int
 | 0=>0
 | 1=>d.aJ
 | 2=>d.aJ+d.addr*4096
 | 3=>d.aJ+d.addr*4096+d.ver*2097152
 | 4=>d.aJ+d.addr*4096+d.ver*2097152+d.next*549755813888
 | 5=>d.aJ+d.addr*4096+d.ver*2097152+d.next*549755813888+cR d.mark*281474976710656
 | 6=>d.aJ+d.addr*4096+d.ver*2097152+d.next*549755813888+cR d.mark*281474976710656+d.status*562949953421312
 | _=>d.num
def Ij (d:Ds) (w:World) (e:Ending) (w':World):Prop:=e= .returned (.tuple #[.int .u64 (cv d),.int .i64 (if d.fit then 0 else 2)])∧Below w.heap.size w w'
theorem uE (d:Ds) (w:World):Calls Tryz.prog 100 #[d.vals] w (Ij d w):=by
 obtain⟨a,ad,v,ne,m,st,vl⟩:=d
 have HP:Hid (cv ⟨a,ad,v,ne,m,st,vl⟩=if (⟨a,ad,v,ne,m,st,vl⟩:Ds).fit then (⟨a,ad,v,ne,m,st,vl⟩:Ds).num else 0):=Lib.hid rfl
 have jh:Hid ((⟨a,ad,v,ne,m,st,vl⟩:Ds).fit=(dL a 4096 && (dL ad 512 && (dL v 262144 && (dL ne 512 && (dL st 8 && dL vl 1024)))))):=Lib.hid rfl
 obtain⟨R,jf⟩:∃ R,w.heap.size=R:=⟨_,rfl⟩
 have HR:=Lib.hid jf
 have hnum:=fun W=>sX ⟨a,ad,v,ne,m,st,vl⟩ W
 simp only[numsD,cJ,List.map_cons,List.map_nil] at hnum
 have FU:=Lib.hid hnum
 clear hnum
 simp only[Ds.vals] at FU⊢
 have hbi:=eM m
 go_enter Tryz.func100,Tryz.ntmps100
 go_wp2_with fail
 have hR0:=bo.new w 161 #[.int .i64 a,.int .i64 ad,.int .i64 v,.int .i64 ne,.bool m,.int .i64 st,.int .i64 vl]
 have hb0:Below w.heap.size w (w.alloc (.cells #[.int .i64 a,.int .i64 ad,.int .i64 v,.int .i64 ne,.bool m,.int .i64 st,.int .i64 vl] 161)):=(Below.refl _ _).alloc (Nat.le_refl _) _
 have hz0:(w.alloc (.cells #[.int .i64 a,.int .i64 ad,.int .i64 v,.int .i64 ne,.bool m,.int .i64 st,.int .i64 vl] 161)).heap.size=R+1:=by simp[jf]
 rw[jf] at hR0 hb0
 generalize(w.alloc (.cells #[.int .i64 a,.int .i64 ad,.int .i64 v,.int .i64 ne,.bool m,.int .i64 st,.int .i64 vl] 161))=w1 at *
 clear jf
 refine(nI w1).mono ?_
 rintro e w2 ⟨rfl,hb2⟩
 have hR2:=hR0.step hb2
 have dF:=hb0.trans (hb2.mono (by omega))
 have hs2:R+1≤w2.heap.size:=by have:=hb2.size;omega
 clear hR0 hb0 hb2 hz0
 obtain⟨N2,DN⟩:∃ N2,w2.heap.size=N2:=⟨_,rfl⟩
 have Nd:R+1≤N2:=by omega
 go_wp2_with fail
 have hW:=bo.new w2 213 (cJ [12,9,18,9,1,3,10]).toArray
 have hb3:Below w2.heap.size w2 (w2.alloc (.cells #[.int .i64 12,.int .i64 9,.int .i64 18,.int .i64 9,.int .i64 1,.int .i64 3,.int .i64 10] 213)):=(Below.refl _ _).alloc (Nat.le_refl _) _
 have hsz3:(w2.alloc (.cells #[.int .i64 12,.int .i64 9,.int .i64 18,.int .i64 9,.int .i64 1,.int .i64 3,.int .i64 10] 213)).heap.size=N2+1:=by simp[DN]
 have hW':bo (w2.alloc (.cells #[.int .i64 12,.int .i64 9,.int .i64 18,.int .i64 9,.int .i64 1,.int .i64 3,.int .i64 10] 213)) w2.heap.size 213 #[.int .i64 12,.int .i64 9,.int .i64 18,.int .i64 9,.int .i64 1,.int .i64 3,.int .i64 10]:=hW
 have hsl:Sl (w2.alloc (.cells #[.int .i64 12,.int .i64 9,.int .i64 18,.int .i64 9,.int .i64 1,.int .i64 3,.int .i64 10] 213)) (N2+1) 1 (some ⟨N2,0,none⟩) 7 (cJ [12,9,18,9,1,3,10]):=
  ⟨rfl,fun _=>rfl,fun _=>by simp[bZ],fun j _=>by
   have:=hW.cell j
   simp only[bZ,cP,Option.map_some,Option.getD_some,Nat.zero_add]
   rw[←DN]
   have h2:(w2.alloc (.cells #[.int .i64 12,.int .i64 9,.int .i64 18,.int .i64 9,.int .i64 1,.int .i64 3,.int .i64 10] 213)).cell? ⟨w2.heap.size,j,none⟩=(cJ [12,9,18,9,1,3,10]).toArray[j]? :=this
   rw[h2];simp⟩
 have DI:=hR2.step hb3
 have lq:=dF.trans (hb3.mono (by omega))
 clear hW hR2 dF
 rw[DN] at hW'
 generalize(w2.alloc (.cells #[.int .i64 12,.int .i64 9,.int .i64 18,.int .i64 9,.int .i64 1,.int .i64 3,.int .i64 10] 213))=w3 at *
 refine(mQ (some ⟨N2,0,none⟩) 7 7 (N2+1) [12,9,18,9,1,3,10] _ hsl (by omega) rfl (by omega) (by simp)).mono ?_
 rintro e w4 ⟨v4,rfl,hown,hb4⟩
 rw[hsz3] at hown
 obtain⟨g,cap,rfl,-,-⟩:=hown.form (by omega)
 have hgl:g<w4.heap.size:=by
  obtain⟨-,cs,hk⟩:=bM hown g rfl
  exact hk.lt
 have hcell:∀ (k:Nat) (y:Int),[(0:Int),12,21,39,48,49,52,62][k]? =some y→w4.cell? ⟨g,k,none⟩=some (.int .i64 y):=fun k y hy=>by
  have h1:=hown.cells (g:=g) rfl k (.int .i64 y) (by
   have:ur [12,9,18,9,1,3,10]=[0,12,21,39,48,49,52,62]:=by decide
   rw[this,jd,hy];rfl)
  have hadd:(⟨g,0,none⟩:Addr).add k=⟨g,k,none⟩:=by unfold Addr.add;split<;>simp_all
  rwa [hadd] at h1
 have Ig:=hW'.step hb4
 have Ih:=DI.step hb4
 have Bn:=lq.trans (hb4.mono (by omega))
 have hs4:N2+1≤w4.heap.size:=by have:=hb4.size;omega
 clear hown hW' DI lq hb4 hsl hb3 hsz3 DN
 have hcR:=Ih.cells
 go_wp2_with fail
 refine(FU.out w4).mono ?_
 rintro e w5 ⟨rfl,hb5⟩
 have eh:∀ (k:Nat) (y:Int),[(0:Int),12,21,39,48,49,52,62][k]? =some y→w5.cell? ⟨g,k,none⟩=some (.int .i64 y):=fun k y hy=>(hb5.cell (p:=⟨g,k,none⟩) hgl).trans (hcell k y hy)
 have J0:=Ig.step hb5
 have lr:=Bn.trans (hb5.mono (by omega))
 have Nh:g<w5.heap.size:=by have:=hb5.size;omega
 clear hcell Ig Ih Bn hb5 hcR hgl FU
 go_wp2_with fail
 go_loop [6,14] (fun xv i=>∃ j:Nat,j≤7∧i= .int .i64 j∧xv= .int .u64 (nJ ⟨a,ad,v,ne,m,st,vl⟩ j)∧Hid (lZ ⟨a,ad,v,ne,m,st,vl⟩ j=true)) (fun _ i=>7 - (intOf i).toNat)
 case atStart=>exact⟨0,by omega,rfl,rfl,Lib.hid rfl⟩
 case round=>
  obtain⟨j,hj,rfl,rfl,hft⟩:=hrel
  have h7:j=0∨j=1∨j=2∨j=3∨j=4∨j=5∨j=6∨j=7:=by omega
  have hcW:=J0.cells
  rcases h7 with rfl | rfl | rfl | rfl | rfl | rfl | rfl | rfl
  ·rw[show nJ ⟨a,ad,v,ne,m,st,vl⟩ 0=0 from rfl]
   have hix:∀ W:World,(Instr.index 213 (.agg #[.int .i64 a,.int .i64 ad,.int .i64 v,.int .i64 ne,.int .i64 (cR m),.int .i64 st,.int .i64 vl]) (.int .i64 0)).run Tryz.prog W= .ok (.int .i64 (a)) W:=fun _=>by kernel_rfl
   have hgk:=eh 0 0 rfl
   clear eh
   by_cases hlo:a<0
   ·have HF:=Lib.hid (show dL (a) 4096=false by unfold dL;rw[decide_eq_false (show ¬ 0≤a by omega)];rfl)
    have jH:decide (a<0)=true:=decide_eq_true hlo
    go_wp2_with fail
    go_ret2
    refine⟨?_,by rw[HR.out];exact lr⟩
    have hno:(⟨a,ad,v,ne,m,st,vl⟩:Ds).fit=false:=by rw[jh.out,HF.out];simp
    rw[HP.out,hno];rfl
   by_cases hhi:4096≤a
   ·have HF:=Lib.hid (show dL (a) 4096=false by unfold dL;rw[decide_eq_false (show ¬ a<4096 by omega)];simp)
    have jH:decide (a<0)=false:=decide_eq_false hlo
    go_wp2_with fail
    go_ret2
    refine⟨?_,by rw[HR.out];exact lr⟩
    have hno:(⟨a,ad,v,ne,m,st,vl⟩:Ds).fit=false:=by rw[jh.out,HF.out];simp
    rw[HP.out,hno];rfl
   have hr:0≤a∧a<4096:=by omega
   have jH:decide (a<0)=false:=decide_eq_false (by omega)
   have jS:=Lib.hid (jA 0 (a) 1 4096 0 12 (by decide) (by decide) (by omega) hr (by omega))
   have oQ:Hid (lZ ⟨a,ad,v,ne,m,st,vl⟩ 1=true):=Lib.hid (by rw[lZ,bk hr])
   go_wp2_with fail
   refine⟨⟨1,by omega,rfl,?_,oQ⟩,by simp[intOf]⟩
   exact congrArg (Value.int .u64) (by first | exact jS.out | (have hk:=jS.out;simp only[Int.mul_one,Int.zero_add] at hk;exact hk))
  ·rw[show nJ ⟨a,ad,v,ne,m,st,vl⟩ 1=a from rfl]
   have hix:∀ W:World,(Instr.index 213 (.agg #[.int .i64 a,.int .i64 ad,.int .i64 v,.int .i64 ne,.int .i64 (cR m),.int .i64 st,.int .i64 vl]) (.int .i64 1)).run Tryz.prog W= .ok (.int .i64 (ad)) W:=fun _=>by kernel_rfl
   have hgk:=eh 1 12 rfl
   have h0:0≤a∧a<4096:=aL hft.out
   clear eh
   by_cases hlo:ad<0
   ·have HF:=Lib.hid (show dL (ad) 512=false by unfold dL;rw[decide_eq_false (show ¬ 0≤ad by omega)];rfl)
    have jH:decide (ad<0)=true:=decide_eq_true hlo
    go_wp2_with fail
    go_ret2
    refine⟨?_,by rw[HR.out];exact lr⟩
    have hno:(⟨a,ad,v,ne,m,st,vl⟩:Ds).fit=false:=by rw[jh.out,HF.out];simp
    rw[HP.out,hno];rfl
   by_cases hhi:512≤ad
   ·have HF:=Lib.hid (show dL (ad) 512=false by unfold dL;rw[decide_eq_false (show ¬ ad<512 by omega)];simp)
    have jH:decide (ad<0)=false:=decide_eq_false hlo
    go_wp2_with fail
    go_ret2
    refine⟨?_,by rw[HR.out];exact lr⟩
    have hno:(⟨a,ad,v,ne,m,st,vl⟩:Ds).fit=false:=by rw[jh.out,HF.out];simp
    rw[HP.out,hno];rfl
   have hr:0≤ad∧ad<512:=by omega
   have jH:decide (ad<0)=false:=decide_eq_false (by omega)
   have jS:=Lib.hid (jA a (ad) 4096 512 12 9 (by decide) (by decide) (by omega) hr (by omega))
   have oQ:Hid (lZ ⟨a,ad,v,ne,m,st,vl⟩ 2=true):=Lib.hid (by rw[lZ,bk h0,bk hr];rfl)
   go_wp2_with fail
   refine⟨⟨2,by omega,rfl,?_,oQ⟩,by simp[intOf]⟩
   exact congrArg (Value.int .u64) (by first | exact jS.out | (have hk:=jS.out;simp only[Int.mul_one,Int.zero_add] at hk;exact hk))
  ·rw[show nJ ⟨a,ad,v,ne,m,st,vl⟩ 2=(a+ad*4096) from rfl]
   have hix:∀ W:World,(Instr.index 213 (.agg #[.int .i64 a,.int .i64 ad,.int .i64 v,.int .i64 ne,.int .i64 (cR m),.int .i64 st,.int .i64 vl]) (.int .i64 2)).run Tryz.prog W= .ok (.int .i64 (v)) W:=fun _=>by kernel_rfl
   have hgk:=eh 2 21 rfl
   have h0:0≤a∧a<4096:=aL (Bool.and_eq_true_iff.1 hft.out).1
   have h1:0≤ad∧ad<512:=aL (Bool.and_eq_true_iff.1 hft.out).2
   clear eh
   by_cases hlo:v<0
   ·have HF:=Lib.hid (show dL (v) 262144=false by unfold dL;rw[decide_eq_false (show ¬ 0≤v by omega)];rfl)
    have jH:decide (v<0)=true:=decide_eq_true hlo
    go_wp2_with fail
    go_ret2
    refine⟨?_,by rw[HR.out];exact lr⟩
    have hno:(⟨a,ad,v,ne,m,st,vl⟩:Ds).fit=false:=by rw[jh.out,HF.out];simp
    rw[HP.out,hno];rfl
   by_cases hhi:262144≤v
   ·have HF:=Lib.hid (show dL (v) 262144=false by unfold dL;rw[decide_eq_false (show ¬ v<262144 by omega)];simp)
    have jH:decide (v<0)=false:=decide_eq_false hlo
    go_wp2_with fail
    go_ret2
    refine⟨?_,by rw[HR.out];exact lr⟩
    have hno:(⟨a,ad,v,ne,m,st,vl⟩:Ds).fit=false:=by rw[jh.out,HF.out];simp
    rw[HP.out,hno];rfl
   have hr:0≤v∧v<262144:=by omega
   have jH:decide (v<0)=false:=decide_eq_false (by omega)
   have jS:=Lib.hid (jA (a+ad*4096) (v) 2097152 262144 21 18 (by decide) (by decide) (by omega) hr (by omega))
   have oQ:Hid (lZ ⟨a,ad,v,ne,m,st,vl⟩ 3=true):=Lib.hid (by rw[lZ,bk h0,bk h1,bk hr];rfl)
   go_wp2_with fail
   refine⟨⟨3,by omega,rfl,?_,oQ⟩,by simp[intOf]⟩
   exact congrArg (Value.int .u64) (by first | exact jS.out | (have hk:=jS.out;simp only[Int.mul_one,Int.zero_add] at hk;exact hk))
  ·rw[show nJ ⟨a,ad,v,ne,m,st,vl⟩ 3=(a+ad*4096+v*2097152) from rfl]
   have hix:∀ W:World,(Instr.index 213 (.agg #[.int .i64 a,.int .i64 ad,.int .i64 v,.int .i64 ne,.int .i64 (cR m),.int .i64 st,.int .i64 vl]) (.int .i64 3)).run Tryz.prog W= .ok (.int .i64 (ne)) W:=fun _=>by kernel_rfl
   have hgk:=eh 3 39 rfl
   have h0:0≤a∧a<4096:=aL (Bool.and_eq_true_iff.1 hft.out).1
   have h1:0≤ad∧ad<512:=aL (Bool.and_eq_true_iff.1 (Bool.and_eq_true_iff.1 hft.out).2).1
   have h2:0≤v∧v<262144:=aL (Bool.and_eq_true_iff.1 (Bool.and_eq_true_iff.1 hft.out).2).2
   clear eh
   by_cases hlo:ne<0
   ·have HF:=Lib.hid (show dL (ne) 512=false by unfold dL;rw[decide_eq_false (show ¬ 0≤ne by omega)];rfl)
    have jH:decide (ne<0)=true:=decide_eq_true hlo
    go_wp2_with fail
    go_ret2
    refine⟨?_,by rw[HR.out];exact lr⟩
    have hno:(⟨a,ad,v,ne,m,st,vl⟩:Ds).fit=false:=by rw[jh.out,HF.out];simp
    rw[HP.out,hno];rfl
   by_cases hhi:512≤ne
   ·have HF:=Lib.hid (show dL (ne) 512=false by unfold dL;rw[decide_eq_false (show ¬ ne<512 by omega)];simp)
    have jH:decide (ne<0)=false:=decide_eq_false hlo
    go_wp2_with fail
    go_ret2
    refine⟨?_,by rw[HR.out];exact lr⟩
    have hno:(⟨a,ad,v,ne,m,st,vl⟩:Ds).fit=false:=by rw[jh.out,HF.out];simp
    rw[HP.out,hno];rfl
   have hr:0≤ne∧ne<512:=by omega
   have jH:decide (ne<0)=false:=decide_eq_false (by omega)
   have jS:=Lib.hid (jA (a+ad*4096+v*2097152) (ne) 549755813888 512 39 9 (by decide) (by decide) (by omega) hr (by omega))
   have oQ:Hid (lZ ⟨a,ad,v,ne,m,st,vl⟩ 4=true):=Lib.hid (by rw[lZ,bk h0,bk h1,bk h2,bk hr];rfl)
   go_wp2_with fail
   refine⟨⟨4,by omega,rfl,?_,oQ⟩,by simp[intOf]⟩
   exact congrArg (Value.int .u64) (by first | exact jS.out | (have hk:=jS.out;simp only[Int.mul_one,Int.zero_add] at hk;exact hk))
  ·rw[show nJ ⟨a,ad,v,ne,m,st,vl⟩ 4=(a+ad*4096+v*2097152+ne*549755813888) from rfl]
   have hix:∀ W:World,(Instr.index 213 (.agg #[.int .i64 a,.int .i64 ad,.int .i64 v,.int .i64 ne,.int .i64 (cR m),.int .i64 st,.int .i64 vl]) (.int .i64 4)).run Tryz.prog W= .ok (.int .i64 (cR m)) W:=fun _=>by kernel_rfl
   have hgk:=eh 4 48 rfl
   have h0:0≤a∧a<4096:=aL (Bool.and_eq_true_iff.1 hft.out).1
   have h1:0≤ad∧ad<512:=aL (Bool.and_eq_true_iff.1 (Bool.and_eq_true_iff.1 hft.out).2).1
   have h2:0≤v∧v<262144:=aL (Bool.and_eq_true_iff.1 (Bool.and_eq_true_iff.1 (Bool.and_eq_true_iff.1 hft.out).2).2).1
   have h3:0≤ne∧ne<512:=aL (Bool.and_eq_true_iff.1 (Bool.and_eq_true_iff.1 (Bool.and_eq_true_iff.1 hft.out).2).2).2
   clear eh
   have hr:0≤cR m∧cR m<2:=by omega
   have jH:decide (cR m<0)=false:=decide_eq_false (by omega)
   have jS:=Lib.hid (jA (a+ad*4096+v*2097152+ne*549755813888) (cR m) 281474976710656 2 48 1 (by decide) (by decide) (by omega) hr (by omega))
   have oQ:Hid (lZ ⟨a,ad,v,ne,m,st,vl⟩ 5=true):=Lib.hid (by rw[lZ,bk h0,bk h1,bk h2,bk h3];rfl)
   go_wp2_with fail
   refine⟨⟨5,by omega,rfl,?_,oQ⟩,by simp[intOf]⟩
   exact congrArg (Value.int .u64) (by first | exact jS.out | (have hk:=jS.out;simp only[Int.mul_one,Int.zero_add] at hk;exact hk))
  ·rw[show nJ ⟨a,ad,v,ne,m,st,vl⟩ 5=(a+ad*4096+v*2097152+ne*549755813888+cR m*281474976710656) from rfl]
   have hix:∀ W:World,(Instr.index 213 (.agg #[.int .i64 a,.int .i64 ad,.int .i64 v,.int .i64 ne,.int .i64 (cR m),.int .i64 st,.int .i64 vl]) (.int .i64 5)).run Tryz.prog W= .ok (.int .i64 (st)) W:=fun _=>by kernel_rfl
   have hgk:=eh 5 49 rfl
   have h0:0≤a∧a<4096:=aL (Bool.and_eq_true_iff.1 hft.out).1
   have h1:0≤ad∧ad<512:=aL (Bool.and_eq_true_iff.1 (Bool.and_eq_true_iff.1 hft.out).2).1
   have h2:0≤v∧v<262144:=aL (Bool.and_eq_true_iff.1 (Bool.and_eq_true_iff.1 (Bool.and_eq_true_iff.1 hft.out).2).2).1
   have h3:0≤ne∧ne<512:=aL (Bool.and_eq_true_iff.1 (Bool.and_eq_true_iff.1 (Bool.and_eq_true_iff.1 hft.out).2).2).2
   clear eh
   by_cases hlo:st<0
   ·have HF:=Lib.hid (show dL (st) 8=false by unfold dL;rw[decide_eq_false (show ¬ 0≤st by omega)];rfl)
    have jH:decide (st<0)=true:=decide_eq_true hlo
    go_wp2_with fail
    go_ret2
    refine⟨?_,by rw[HR.out];exact lr⟩
    have hno:(⟨a,ad,v,ne,m,st,vl⟩:Ds).fit=false:=by rw[jh.out,HF.out];simp
    rw[HP.out,hno];rfl
   by_cases hhi:8≤st
   ·have HF:=Lib.hid (show dL (st) 8=false by unfold dL;rw[decide_eq_false (show ¬ st<8 by omega)];simp)
    have jH:decide (st<0)=false:=decide_eq_false hlo
    go_wp2_with fail
    go_ret2
    refine⟨?_,by rw[HR.out];exact lr⟩
    have hno:(⟨a,ad,v,ne,m,st,vl⟩:Ds).fit=false:=by rw[jh.out,HF.out];simp
    rw[HP.out,hno];rfl
   have hr:0≤st∧st<8:=by omega
   have jH:decide (st<0)=false:=decide_eq_false (by omega)
   have jS:=Lib.hid (jA (a+ad*4096+v*2097152+ne*549755813888+cR m*281474976710656) (st) 562949953421312 8 49 3 (by decide) (by decide) (by omega) hr (by omega))
   have oQ:Hid (lZ ⟨a,ad,v,ne,m,st,vl⟩ 6=true):=Lib.hid (by rw[lZ,bk h0,bk h1,bk h2,bk h3,bk hr];rfl)
   go_wp2_with fail
   refine⟨⟨6,by omega,rfl,?_,oQ⟩,by simp[intOf]⟩
   exact congrArg (Value.int .u64) (by first | exact jS.out | (have hk:=jS.out;simp only[Int.mul_one,Int.zero_add] at hk;exact hk))
  ·rw[show nJ ⟨a,ad,v,ne,m,st,vl⟩ 6=(a+ad*4096+v*2097152+ne*549755813888+cR m*281474976710656+st*562949953421312) from rfl]
   have hix:∀ W:World,(Instr.index 213 (.agg #[.int .i64 a,.int .i64 ad,.int .i64 v,.int .i64 ne,.int .i64 (cR m),.int .i64 st,.int .i64 vl]) (.int .i64 6)).run Tryz.prog W= .ok (.int .i64 (vl)) W:=fun _=>by kernel_rfl
   have hgk:=eh 6 52 rfl
   have h0:0≤a∧a<4096:=aL (Bool.and_eq_true_iff.1 hft.out).1
   have h1:0≤ad∧ad<512:=aL (Bool.and_eq_true_iff.1 (Bool.and_eq_true_iff.1 hft.out).2).1
   have h2:0≤v∧v<262144:=aL (Bool.and_eq_true_iff.1 (Bool.and_eq_true_iff.1 (Bool.and_eq_true_iff.1 hft.out).2).2).1
   have h3:0≤ne∧ne<512:=aL (Bool.and_eq_true_iff.1 (Bool.and_eq_true_iff.1 (Bool.and_eq_true_iff.1 (Bool.and_eq_true_iff.1 hft.out).2).2).2).1
   have h5:0≤st∧st<8:=aL (Bool.and_eq_true_iff.1 (Bool.and_eq_true_iff.1 (Bool.and_eq_true_iff.1 (Bool.and_eq_true_iff.1 hft.out).2).2).2).2
   clear eh
   by_cases hlo:vl<0
   ·have HF:=Lib.hid (show dL (vl) 1024=false by unfold dL;rw[decide_eq_false (show ¬ 0≤vl by omega)];rfl)
    have jH:decide (vl<0)=true:=decide_eq_true hlo
    go_wp2_with fail
    go_ret2
    refine⟨?_,by rw[HR.out];exact lr⟩
    have hno:(⟨a,ad,v,ne,m,st,vl⟩:Ds).fit=false:=by rw[jh.out,HF.out];simp
    rw[HP.out,hno];rfl
   by_cases hhi:1024≤vl
   ·have HF:=Lib.hid (show dL (vl) 1024=false by unfold dL;rw[decide_eq_false (show ¬ vl<1024 by omega)];simp)
    have jH:decide (vl<0)=false:=decide_eq_false hlo
    go_wp2_with fail
    go_ret2
    refine⟨?_,by rw[HR.out];exact lr⟩
    have hno:(⟨a,ad,v,ne,m,st,vl⟩:Ds).fit=false:=by rw[jh.out,HF.out];simp
    rw[HP.out,hno];rfl
   have hr:0≤vl∧vl<1024:=by omega
   have jH:decide (vl<0)=false:=decide_eq_false (by omega)
   have jS:=Lib.hid (jA (a+ad*4096+v*2097152+ne*549755813888+cR m*281474976710656+st*562949953421312) (vl) 4503599627370496 1024 52 10 (by decide) (by decide) (by omega) hr (by omega))
   have oQ:Hid (lZ ⟨a,ad,v,ne,m,st,vl⟩ 7=true):=Lib.hid (jh.out.trans (by rw[bk h0,bk h1,bk h2,bk h3,bk h5,bk hr];rfl))
   go_wp2_with fail
   refine⟨⟨7,by omega,rfl,?_,oQ⟩,by simp[intOf]⟩
   exact congrArg (Value.int .u64) (by first | exact jS.out | (have hk:=jS.out;simp only[Int.mul_one,Int.zero_add] at hk;exact hk))
  ·go_wp2_with fail
   go_ret2
   refine⟨?_,by rw[HR.out];exact lr⟩
   have hyes:(⟨a,ad,v,ne,m,st,vl⟩:Ds).fit=true:=hft.out
   rw[HP.out,hyes];rfl
structure fo where
 addr:Int
 at_:Int
 word:Int
 found:Int
structure gD (w:World) (C:Nat→Nat) (c b:Nat) (L:Ly) (a:fo):Prop where
 blk:SB w C c b 230 #[.int .i64 L.th,.int .i64 L.nd,.int .i64 a.addr,.int .i64 a.at_,.int .u64 a.word,.int .u64 a.found]
 word:0≤a.word∧a.word<18446744073709551616
 found:0≤a.found∧a.found<18446744073709551616
 at_:0≤a.at_∧a.at_≤3
section
variable {w w':World} {C C':Nat→Nat} {c b:Nat} {L:Ly} {a:fo}
theorem gD.fr {K:Nat→Prop} {T:List (Option TypeId)} (h:gD w C c b L a) (k:Fr C K T w w') (hk:¬ K c∨some 230∉T):gD w' C c b L a:=⟨h.blk.fr k hk,h.word,h.found,h.at_⟩
end
def ji (x:Int):Int:=(ao x).claim - 1
theorem sY (x:Int): -1≤ji x∧ji x≤30:=by have:=(aQ x).claim;unfold ji;omega
def fo.open_ (a:fo):Bool:=decide ((getD' a.found).status=2) && (decide ((getD' a.found).addr=a.addr) && decide ((getD' a.found).ver=(ao a.word).ver))
def a9 (M:ML) (m:Nat→Int) (a:fo):Bool×(Nat→Int)×fo:=
 if a.at_=0 then (decide (ji (ld M m a.addr)<0) || decide (M.L.th≤ji (ld M m a.addr)),m,{ a with word:=ld M m a.addr,at_:=1 })
 else if a.at_=1 then (false,m,{ a with found:=ld M m (M.L.desc (ji a.word)),at_:=if (⟨a.addr,3,a.word,ld M m (M.L.desc (ji a.word))⟩:fo).open_ then 2 else 3 })
 else if a.at_=2 then (false,cas M m (M.L.desc (ji a.word)) a.found (cv ((getD' a.found).with_ 3)),{ a with at_:=3 })
 else (true,cas M m a.addr a.word (dS (ao a.word).free),a)
def AH:List (Option TypeId):=[some 230,some 75,some 34]
theorem sZ:∀ x,x∈LM→x∈AH:=by decide
structure Ik (C:Nat→Nat) (c b:Nat) (M:ML) (r:Bool×(Nat→Int)×fo) (w:World) (e:Ending) (w':World):Prop where
 ret:e= .returned (.bool r.1)
 mem:aj w' C M r.2.1
 own:gD w' C c b M.L r.2.2
 fr:Fr C (Kc c) AH w w'
variable {w:World} {C:Nat→Nat} {M:ML} {m:Nat→Int}
theorem bN (h:aj w C M m) (a:Int):0≤ld M m a∧ld M m a<18446744073709551616:=by
 unfold ld
 split
 ·exact h.rng _
 ·omega
theorem yq (v0 v1 v2 v3 v4:Value) (W:World):(Instr.field 198 (.agg #[v0,v1,v2,v3,v4]) 3).run Tryz.prog W= .ok v3 W:=by kernel_rfl
theorem Bo (v0 v1 v2 v3 v4:Value) (W:World):(Instr.field 198 (.agg #[v0,v1,v2,v3,v4]) 4).run Tryz.prog W= .ok v4 W:=by kernel_rfl
theorem jj (x:Int) (w:World) (hx:0≤x∧x<18446744073709551616):Calls Tryz.prog 158 #[.int .u64 x] w fun e w'=>e= .returned (.int .i64 (ji x))∧Below w.heap.size w w':=by
 have hg:=aW x w hx
 have hr:=(aQ x).claim
 have HT:Hid (ji x=(ao x).claim - 1):=Lib.hid rfl
 obtain⟨W,hW⟩:∃ W,ao x=W:=⟨_,rfl⟩
 rw[hW] at hg hr HT
 clear hW
 obtain⟨k,n,m,cl,v⟩:=W
 simp only[Wd.val] at hg hr HT
 have HG:=Lib.hid hg
 clear hg
 go_enter Tryz.func158,Tryz.ntmps158
 go_wp2_with fail
 refine HG.out.mono ?_
 rintro e w1 ⟨rfl,hb⟩
 have hf:=yq (.int .i64 k) (.int .i64 n) (.bool m) (.int .i64 cl) (.int .i64 v)
 go_wp2_with fail
 go_ret
 exact⟨by rw[HT.out];rfl,hb⟩
theorem kA (L:Ly) (addr:Int) (C:Nat→Nat) (c:Nat) (w:World):Calls Tryz.prog 156 #[L.val,.int .i64 addr] w (ln C c (fun w' C' b=>gD w' C' c b L ⟨addr,0,0,0⟩) w):=by
 obtain⟨th,nd⟩:=L
 simp only[Ly.val]
 go_enter Tryz.func156,Tryz.ntmps156
 go_wp2_with fail
 have hb0:Below w.heap.size w (w.alloc (.cells #[.int .i64 th,.int .i64 nd] 31)):=(Below.refl _ _).alloc (Nat.le_refl _) _
 go_ret
 exact⟨⟨w.heap.size+1,rfl,by omega,SB.new _ _ (aT C c (by omega)) _ _ (by simp),by simp,by simp,by simp⟩,hb0.alloc (by simp) _⟩
variable {c b:Nat} {L:Ly}
theorem wU {a:fo} (h:gD w C c b L a):Calls Tryz.prog 159 #[.pointer (some ⟨b,0,none⟩)] w fun e w'=>e= .returned (.bool a.open_)∧Below w.heap.size w w':=by
 obtain⟨hb,hwd,hfd,hat⟩:=h
 have HO:Hid (a.open_=(decide ((getD' a.found).status=2) && (decide ((getD' a.found).addr=a.addr) && decide ((getD' a.found).ver=(ao a.word).ver)))):=Lib.hid rfl
 obtain⟨addr,at0,word,found⟩:=a
 simp only at hb hwd hfd HO
 have hg:=fT found w hfd
 obtain⟨D,hD⟩:∃ D,getD' found=D:=⟨_,rfl⟩
 rw[hD] at hg HO
 clear hD
 have hW:=fun W=>aW word W hwd
 obtain⟨WD,Md⟩:∃ WD,ao word=WD:=⟨_,rfl⟩
 simp only[Md] at hW HO
 clear Md
 obtain⟨at_,ad,v,ne,mk,st,vl⟩:=D
 obtain⟨wk,wn,wm,wc,wv⟩:=WD
 simp only[Ds.vals,Wd.val] at hg hW HO
 have HG:=Lib.hid hg
 have HW:=Lib.hid hW
 have HIS:=Lib.hid (fun (W:World) (B:Nat) (A:Option Addr) (hs:Sl W B 1 A 1 (cJ [2])) (hB:B≤W.heap.size)=>kz ⟨at_,ad,v,ne,mk,st,vl⟩ A 1 1 B [2] W hs hB rfl (by omega))
 have hl:=hb.lt
 have hc:=hb.blk.cells
 clear hg hW
 by_cases h1:st=2
 ·have FV:=Lib.hid h1
  clear h1
  by_cases h2:ad=addr
  ·have hq2:(ad==addr)=true:=beq_iff_eq.2 h2
   have FW:=Lib.hid h2
   clear h2
   obtain⟨r,hr⟩:∃ r,decide (v=wv)=r:=⟨_,rfl⟩
   have hq3:(v==wv)=r:=hr
   have HR:=Lib.hid hr
   clear hr
   go_enter Tryz.func159,Tryz.ntmps159
   go_wp2_with fail
   refine HG.out.mono ?_
   rintro e w1 ⟨rfl,hb1⟩
   have hk1:=hb.step hb1
   go_wp2_with fail
   have hx:=bo.new w1 161 #[.int .i64 at_,.int .i64 ad,.int .i64 v,.int .i64 ne,.bool mk,.int .i64 st,.int .i64 vl]
   have hb2:Below w1.heap.size w1 (w1.alloc (.cells #[.int .i64 at_,.int .i64 ad,.int .i64 v,.int .i64 ne,.bool mk,.int .i64 st,.int .i64 vl] 161)):=(Below.refl _ _).alloc (Nat.le_refl _) _
   have hk2:=hk1.step hb2
   have dF:=hb1.trans (hb2.mono hb1.size)
   generalize(w1.alloc (.cells #[.int .i64 at_,.int .i64 ad,.int .i64 v,.int .i64 ne,.bool mk,.int .i64 st,.int .i64 vl] 161))=w2 at *
   have q:=Later.cells (B:=w2.heap.size) hx hx.lt
   have q2:=Later.cells (B:=w2.heap.size) hk2.blk hk2.lt
   clear hb1 hk1 hb2 hc
   refine aD (fun w'=>∃ q:Later w2.heap.size w2,w'=q.val) 23 [([0],1),([],2),([3,4,5,6,7,8,9,10,11,12,13,14,15,16,17,18],19)] [20,21,22] [23] (by kernel_rfl) (by kernel_rfl) (Later.bW (Below.refl _ _).drew) ?_
   refine ai ?_
   try simp only[ay,List.map_cons,List.map_nil,List.getD_cons_zero,List.getD_cons_succ]
   repeat(go_big_quiet_step (fail))
   refine wpQuiet_nil ?_
   refine bG rfl (fun K' hK'=> ?_)
   go_simp
   have hbl:Below w2.heap.size w2 (w2.alloc (.cells #[.int .i64 2] 3)).drew:=((Below.refl w2.heap.size w2).alloc (Nat.le_refl _) _).drew
   have hsl0:Sl (w2.alloc (.cells #[.int .i64 2] 3)) (w2.heap.size+1) 1 (some ⟨w2.heap.size,0,none⟩) 1 (cJ [2]):=lj w2 [2] 1 rfl
   have hsl:Sl (w2.alloc (.cells #[.int .i64 2] 3)).drew (w2.heap.size+1) 1 (some ⟨w2.heap.size,0,none⟩) 1 (cJ [2]):=hsl0.below ((Below.refl _ _).drew)
   clear hsl0
   refine hK' _ _ (Later.bW hbl) ?_
   clear hK' K'
   have hsz:(w2.alloc (.cells #[.int .i64 2] 3)).drew.heap.size=w2.heap.size+1:=by simp
   generalize(w2.alloc (.cells #[.int .i64 2] 3)).drew=w3 at *
   refine ai ?_
   try simp only[ay,List.map_nil]
   refine wpQuiet_nil ?_
   refine bG rfl (fun K' hK'=> ?_)
   go_simp
   refine(HIS.out _ (w2.heap.size+1) _ hsl (by omega)).mono ?_
   rintro e w4 ⟨rfl,hb4⟩
   have s5:=hbl.trans (hb4.mono hbl.size)
   rw[show jG [2] st=true by rw[FV.out];rfl]
   refine hK' _ _ (Later.bW s5) ?_
   clear hK' K'
   refine ai ?_
   try simp only[ay,List.map_cons,List.map_nil,List.getD_cons_zero,List.getD_cons_succ]
   repeat(go_big_quiet_step (fail))
   refine wpQuiet_nil ?_
   refine bG rfl (fun K' hK'=> ?_)
   go_simp
   refine(HW.out _).mono ?_
   rintro e w5 ⟨rfl,hb5⟩
   have uF:=s5.trans (hb5.mono s5.size)
   refine hK' _ _ (Later.bW uF) ?_
   clear hK' K'
   have hfl:=Bo (.int .i64 wk) (.int .i64 wn) (.bool wm) (.int .i64 wc) (.int .i64 wv)
   have Ni:=fun q:Later w2.heap.size w2=>hfl q.val
   refine af ?_
   try simp only[ay,List.map_cons,List.map_nil,List.getD_cons_zero,List.getD_cons_succ]
   repeat(go_big_quiet_step (fail))
   refine wpQuiet_nil ?_
   refine ae _ _ _ (by kernel_rfl) ?_
   try simp only[ay,List.map_cons,List.map_nil,List.getD_cons_zero,List.getD_cons_succ]
   clear q q2
   go_wp2_with fail
   refine NoPanic.normal ?_
   go_wp2_with fail
   go_ret
   exact⟨by rw[HO.out];rw[decide_eq_true FV.out,decide_eq_true FW.out,HR.out];rfl,dF.trans (uF.mono dF.size)⟩
  ·have hq2:(ad==addr)=false:=beq_eq_false_iff_ne.2 h2
   have FW:=Lib.hid h2
   clear h2
   go_enter Tryz.func159,Tryz.ntmps159
   go_wp2_with fail
   refine HG.out.mono ?_
   rintro e w1 ⟨rfl,hb1⟩
   have hk1:=hb.step hb1
   go_wp2_with fail
   have hx:=bo.new w1 161 #[.int .i64 at_,.int .i64 ad,.int .i64 v,.int .i64 ne,.bool mk,.int .i64 st,.int .i64 vl]
   have hb2:Below w1.heap.size w1 (w1.alloc (.cells #[.int .i64 at_,.int .i64 ad,.int .i64 v,.int .i64 ne,.bool mk,.int .i64 st,.int .i64 vl] 161)):=(Below.refl _ _).alloc (Nat.le_refl _) _
   have hk2:=hk1.step hb2
   have dF:=hb1.trans (hb2.mono hb1.size)
   generalize(w1.alloc (.cells #[.int .i64 at_,.int .i64 ad,.int .i64 v,.int .i64 ne,.bool mk,.int .i64 st,.int .i64 vl] 161))=w2 at *
   have q:=Later.cells (B:=w2.heap.size) hx hx.lt
   have q2:=Later.cells (B:=w2.heap.size) hk2.blk hk2.lt
   clear hb1 hk1 hb2 hc
   refine aD (fun w'=>∃ q:Later w2.heap.size w2,w'=q.val) 23 [([0],1),([],2),([3,4,5,6,7,8,9,10,11,12,13,14,15,16,17,18],19)] [20,21,22] [23] (by kernel_rfl) (by kernel_rfl) (Later.bW (Below.refl _ _).drew) ?_
   refine ai ?_
   try simp only[ay,List.map_cons,List.map_nil,List.getD_cons_zero,List.getD_cons_succ]
   repeat(go_big_quiet_step (fail))
   refine wpQuiet_nil ?_
   refine bG rfl (fun K' hK'=> ?_)
   go_simp
   have hbl:Below w2.heap.size w2 (w2.alloc (.cells #[.int .i64 2] 3)).drew:=((Below.refl w2.heap.size w2).alloc (Nat.le_refl _) _).drew
   have hsl0:Sl (w2.alloc (.cells #[.int .i64 2] 3)) (w2.heap.size+1) 1 (some ⟨w2.heap.size,0,none⟩) 1 (cJ [2]):=lj w2 [2] 1 rfl
   have hsl:Sl (w2.alloc (.cells #[.int .i64 2] 3)).drew (w2.heap.size+1) 1 (some ⟨w2.heap.size,0,none⟩) 1 (cJ [2]):=hsl0.below ((Below.refl _ _).drew)
   clear hsl0
   refine hK' _ _ (Later.bW hbl) ?_
   clear hK' K'
   have hsz:(w2.alloc (.cells #[.int .i64 2] 3)).drew.heap.size=w2.heap.size+1:=by simp
   generalize(w2.alloc (.cells #[.int .i64 2] 3)).drew=w3 at *
   refine ai ?_
   try simp only[ay,List.map_nil]
   refine wpQuiet_nil ?_
   refine bG rfl (fun K' hK'=> ?_)
   go_simp
   refine(HIS.out _ (w2.heap.size+1) _ hsl (by omega)).mono ?_
   rintro e w4 ⟨rfl,hb4⟩
   have s5:=hbl.trans (hb4.mono hbl.size)
   rw[show jG [2] st=true by rw[FV.out];rfl]
   refine hK' _ _ (Later.bW s5) ?_
   clear hK' K'
   refine ai ?_
   try simp only[ay,List.map_cons,List.map_nil,List.getD_cons_zero,List.getD_cons_succ]
   repeat(go_big_quiet_step (fail))
   refine wpQuiet_nil ?_
   refine bG rfl (fun K' hK'=> ?_)
   go_simp
   have uF:=s5
   refine hK' _ _ (Later.bW uF) ?_
   clear hK' K'
   refine af ?_
   try simp only[ay,List.map_cons,List.map_nil,List.getD_cons_zero,List.getD_cons_succ]
   repeat(go_big_quiet_step (fail))
   refine wpQuiet_nil ?_
   refine ae _ _ _ (by kernel_rfl) ?_
   try simp only[ay,List.map_cons,List.map_nil,List.getD_cons_zero,List.getD_cons_succ]
   clear q q2
   go_wp2_with fail
   refine NoPanic.normal ?_
   go_wp2_with fail
   go_ret
   exact⟨by rw[HO.out];rw[decide_eq_true FV.out,decide_eq_false FW.out];rfl,dF.trans (uF.mono dF.size)⟩
 ·have FV:=Lib.hid h1
  clear h1
  go_enter Tryz.func159,Tryz.ntmps159
  go_wp2_with fail
  refine HG.out.mono ?_
  rintro e w1 ⟨rfl,hb1⟩
  have hk1:=hb.step hb1
  go_wp2_with fail
  have hx:=bo.new w1 161 #[.int .i64 at_,.int .i64 ad,.int .i64 v,.int .i64 ne,.bool mk,.int .i64 st,.int .i64 vl]
  have hb2:Below w1.heap.size w1 (w1.alloc (.cells #[.int .i64 at_,.int .i64 ad,.int .i64 v,.int .i64 ne,.bool mk,.int .i64 st,.int .i64 vl] 161)):=(Below.refl _ _).alloc (Nat.le_refl _) _
  have hk2:=hk1.step hb2
  have dF:=hb1.trans (hb2.mono hb1.size)
  generalize(w1.alloc (.cells #[.int .i64 at_,.int .i64 ad,.int .i64 v,.int .i64 ne,.bool mk,.int .i64 st,.int .i64 vl] 161))=w2 at *
  have q:=Later.cells (B:=w2.heap.size) hx hx.lt
  have q2:=Later.cells (B:=w2.heap.size) hk2.blk hk2.lt
  clear hb1 hk1 hb2 hc
  refine aD (fun w'=>∃ q:Later w2.heap.size w2,w'=q.val) 23 [([0],1),([],2),([3,4,5,6,7,8,9,10,11,12,13,14,15,16,17,18],19)] [20,21,22] [23] (by kernel_rfl) (by kernel_rfl) (Later.bW (Below.refl _ _).drew) ?_
  refine ai ?_
  try simp only[ay,List.map_cons,List.map_nil,List.getD_cons_zero,List.getD_cons_succ]
  repeat(go_big_quiet_step (fail))
  refine wpQuiet_nil ?_
  refine bG rfl (fun K' hK'=> ?_)
  go_simp
  have hbl:Below w2.heap.size w2 (w2.alloc (.cells #[.int .i64 2] 3)).drew:=((Below.refl w2.heap.size w2).alloc (Nat.le_refl _) _).drew
  have hsl0:Sl (w2.alloc (.cells #[.int .i64 2] 3)) (w2.heap.size+1) 1 (some ⟨w2.heap.size,0,none⟩) 1 (cJ [2]):=lj w2 [2] 1 rfl
  have hsl:Sl (w2.alloc (.cells #[.int .i64 2] 3)).drew (w2.heap.size+1) 1 (some ⟨w2.heap.size,0,none⟩) 1 (cJ [2]):=hsl0.below ((Below.refl _ _).drew)
  clear hsl0
  refine hK' _ _ (Later.bW hbl) ?_
  clear hK' K'
  have hsz:(w2.alloc (.cells #[.int .i64 2] 3)).drew.heap.size=w2.heap.size+1:=by simp
  generalize(w2.alloc (.cells #[.int .i64 2] 3)).drew=w3 at *
  refine ai ?_
  try simp only[ay,List.map_nil]
  refine wpQuiet_nil ?_
  refine bG rfl (fun K' hK'=> ?_)
  go_simp
  refine(HIS.out _ (w2.heap.size+1) _ hsl (by omega)).mono ?_
  rintro e w4 ⟨rfl,hb4⟩
  have s5:=hbl.trans (hb4.mono hbl.size)
  rw[show jG [2] st=false by unfold jG;simp[FV.out]]
  refine hK' _ _ (Later.bW s5) ?_
  clear hK' K'
  refine ai ?_
  try simp only[ay,List.map_cons,List.map_nil,List.getD_cons_zero,List.getD_cons_succ]
  repeat(go_big_quiet_step (fail))
  refine wpQuiet_nil ?_
  refine bG rfl (fun K' hK'=> ?_)
  go_simp
  have uF:=s5
  refine hK' _ _ (Later.bW uF) ?_
  clear hK' K'
  refine af ?_
  try simp only[ay,List.map_cons,List.map_nil,List.getD_cons_zero,List.getD_cons_succ]
  repeat(go_big_quiet_step (fail))
  refine wpQuiet_nil ?_
  refine ae _ _ _ (by kernel_rfl) ?_
  try simp only[ay,List.map_cons,List.map_nil,List.getD_cons_zero,List.getD_cons_succ]
  clear q q2
  go_wp2_with fail
  refine NoPanic.normal ?_
  go_wp2_with fail
  go_ret
  exact⟨by rw[HO.out];rw[decide_eq_false FV.out];rfl,dF.trans (uF.mono dF.size)⟩
end Go.Proofs.YtbcnnhlpilmmbaaGreat
