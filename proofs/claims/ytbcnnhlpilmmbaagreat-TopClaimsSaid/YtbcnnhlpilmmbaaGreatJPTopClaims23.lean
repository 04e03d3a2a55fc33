/- Texts that are wanted for PTopClaims.
   Conditions: none. -/
import Derived.Deep.DeepCutAuto
import Derived.BigQuiet
import Derived.Test.YtbcnnhlpilmmbaaGreatJPTopClaims22
set_option maxRecDepth 100000
set_option maxHeartbeats 6400000
namespace Go.Proofs.YtbcnnhlpilmmbaaGreat
open Go Go.RowKit
def oG (b:Nat) (v:Value) (q:Nat) (cs:Array Value) (w:World):Prop:=w.cell? ⟨b,0,none⟩=some v∧∀ i,w.cell? ⟨q,i,none⟩=cs[i]?
theorem vF (b:Nat) (s:HS) (B:Nat) (t k:Nat) (code:Int) (ok:Bool) (val:Int) (w:World) (h:HAt w B b s) (hBw:B≤w.heap.size) (ht:t<8) (hno:s.now t=((k+1:Nat):Int)) (hsz:s.evs.length≤1000):
  Calls Tryz.prog 34 #[.pointer (some ⟨b,0,none⟩),.int .i64 t,.agg #[.int .i64 code,.bool ok,.int .i64 val]] w fun e w'=>
   e= .returned (.int .i64 0)∧HAt w' B b (s.y9 t code ok val)∧Kp B [100,51,109] w w':=by
 obtain⟨iE,Lq,zE,sE,bE⟩:=info_parts lK
 obtain⟨v1,v2,cs,hr⟩:=h.at_
 have hwf:=h.wf
 have hbase:=h.base
 have hle:=hwf.le
 have hbl:=hr.lt
 have hkl:k<s.calls.length:=by have:=hwf.hi t;rw[hno] at this;omega
 have hkb:(decide (0≤(t:Int)) && decide ((t:Int)<8))=true:=by simp;omega
 have hp:s.pend t=true:=by simp only[HS.pend,hkb,Int.toNat_natCast,hno];simp
 have HK:=Lib.hid hkb
 have HP:=Lib.hid hp
 have HN:=Lib.hid hno
 clear hkb hp hno
 go_enter Tryz.func34,Tryz.ntmps34
 go_wp2_with (first
  | (go_at_call 50;refine(eu _ _).mono ?_;rw[HK.out];rintro e w1 ⟨rfl,rfl⟩)
  | (go_at_call 51;refine(gu b s B _ _ (h.alloc _)).mono ?_;rw[HP.out];rintro e w1 ⟨rfl,rfl⟩))
 obtain⟨A1,m1,rfl,-⟩:=bT hr.o1
 obtain⟨g,m2,rfl⟩:∃ g cap,v2= .slice (some ⟨g,0,none⟩) s.calls.length cap:=by
  obtain⟨A2,m2,h2,_,h3,h4⟩:=bT hr.o2
  cases A2 with
  | none=>have:=h3 rfl;omega
  | some a=>rw[h4 a rfl] at h2;exact⟨_,_,h2⟩
 have hr0:=hr.alloc (.cells #[.int .i64 code,.bool ok,.int .i64 val] 49)
 have hq0:=bo.new w 49 #[.int .i64 code,.bool ok,.int .i64 val]
 have k0:Kp B [100,51,109] w (w.alloc (.cells #[.int .i64 code,.bool ok,.int .i64 val] 49)):=(Kp.refl _ _ _).alloc hBw _
 clear hr h
 generalize(w.alloc (.cells #[.int .i64 code,.bool ok,.int .i64 val] 49))=W at *
 have MI:=hr0.lt
 have f1:=Later.cell (B:=W.heap.size) hr0.f1 hr0.lt
 have f2:=Later.cell (B:=W.heap.size) (hr0.fn ht) hr0.lt
 rw[HN.out] at f2
 have hi0:(0:Int)≤(t:Int):=Int.natCast_nonneg _
 have hi1:(t:Int)<8:=by omega
 refine nX W.heap.size (by kernel_rfl) (by kernel_rfl) ?_
 repeat(go_big_quiet_step (fail))
 refine wpQuiet_nil ?_
 intro W1 hq
 obtain⟨q,hq⟩:=hq
 have hb1:Below W.heap.size W W1:=by rw[hq];exact q.below
 clear hq q f1 f2
 have hr1:=hr0.step hb1
 have hq1:=hq0.step hb1
 have k1:=k0.step (by omega) hb1
 clear hr0 hq0 k0 hb1 MI
 have hgb:b≠g:=by
  obtain⟨_,cs',h'⟩:=bM hr1.o2 g rfl
  exact bo.rN hr1.blk h' (by decide)
 have hgq:w.heap.size≠g:=by
  obtain⟨_,cs',h'⟩:=bM hr1.o2 g rfl
  exact bo.rN hq1 h' (by decide)
 have hgB:B≤g∧∃ cs',bo W1 g 109 cs':=bM hr1.o2 g rfl
 have hS:(oG b (.slice A1 s.evs.length m1) w.heap.size #[.int .i64 code,.bool ok,.int .i64 val]) W1.drew:=⟨hr1.f0,hq1.cells⟩
 have hne:=Such.rN hS
 have f1:∀ q:Such (oG b (.slice A1 s.evs.length m1) w.heap.size #[.int .i64 code,.bool ok,.int .i64 val]),q.val.cell? ⟨b,0,none⟩=some (.slice A1 s.evs.length m1):=fun q=>q.ok.1
 have f2:∀ (q:Such (oG b (.slice A1 s.evs.length m1) w.heap.size #[.int .i64 code,.bool ok,.int .i64 val])) (i:Nat),q.val.cell? ⟨w.heap.size,i,none⟩=(#[.int .i64 code,.bool ok,.int .i64 val]:Array Value)[i]? :=fun q=>q.ok.2
 go_wp2_with fail
 refine dD (fun w'=>∃ q:Such (oG b (.slice A1 s.evs.length m1) w.heap.size #[.int .i64 code,.bool ok,.int .i64 val]),w'=q.val) 12 [0,1,2,3,4,5,6,7,8,9,10] [11,12,13,14] (by kernel_rfl) (by kernel_rfl) (Such.bW hS) ?_
 simp only[ay,List.map_cons,List.map_nil,List.getD_cons_zero,List.getD_cons_succ]
 repeat(go_big_quiet_step (fail))
 refine wpQuiet_nil ?_
 refine aA rfl (fun K hK=> ?_)
 obtain⟨c,hc⟩:∃ c,s.calls[k]? =some c:=⟨_,List.getElem?_eq_getElem hkl⟩
 have hcell:∀ j,j<9→W1.cell? ⟨g,k*9+j,none⟩=(HC.cells c)[j]? :=fun j hj=>by
  have h1:=hr1.o2.cellAt (k*9+j) (by omega)
  rw[h1,kx HC.cells 9 HC.fx _ _ _ _ hc hj]
 have c1:=hcell 1 (by omega)
 have c6:=hcell 6 (by omega)
 have c7:=hcell 7 (by omega)
 have c8:=hcell 8 (by omega)
 simp only[HC.cells,List.getElem?_cons_succ,List.getElem?_cons_zero] at c1 c6 c7 c8
 have hfz:∀ j,W1.frozen? ⟨g,j,none⟩=false:=by
  obtain⟨_,cs',h'⟩:=hgB
  exact h'.frozen
 go_simp
 refine hK _ _ (Such.bW ⟨?_,fun i=> ?_⟩) ?_
 ·exact(World.cell?_setCell_other _ _ _ _ (by simp)).trans hr1.f0
 ·exact(World.cell?_setCell_other _ _ _ _ (by simp)).trans (hq1.cell i)
 clear hK K
 refine ae _ _ _ (by kernel_rfl) ?_
 simp only[ay,List.map_cons,List.map_nil,List.getD_cons_zero,List.getD_cons_succ]
 clear f1 f2 hne hS hcell
 go_wp2_with fail
 obtain⟨cs',hgb'⟩:=hgB.2
 have hr2:=(hr1.DD (by decide) (by decide) hkl s.evs.length code ok val).drew
 have k2:=((((k1.setB hgb' hgB.1 (by decide) (k*9+1) (.int .i64 s.evs.length)).setB (hgb'.ar _ _) hgB.1 (by decide) (k*9+6) (.int .i64 code)).setB ((hgb'.ar _ _).ar _ _) hgB.1 (by decide) (k*9+6+1) (.bool ok)).setB (((hgb'.ar _ _).ar _ _).ar _ _) hgB.1 (by decide) (k*9+6+2) (.int .i64 val)).drew
 have hq2:=((((hq1.far (p:=⟨g,k*9+1,none⟩) hgq (.int .i64 s.evs.length)).far (p:=⟨g,k*9+6,none⟩) hgq (.int .i64 code)).far (p:=⟨g,k*9+6+1,none⟩) hgq (.bool ok)).far (p:=⟨g,k*9+6+2,none⟩) hgq (.int .i64 val)).drew
 clear c1 c6 c7 c8 hfz hr1 hq1 k1 hgb' cs' hc
 refine NoPanic.normal ?_
 generalize(World.drew ((((W1.setCell ⟨g,k*9+1,none⟩ (.int .i64 s.evs.length)).setCell ⟨g,k*9+6,none⟩ (.int .i64 code)).setCell ⟨g,k*9+6+1,none⟩ (.bool ok)).setCell ⟨g,k*9+6+2,none⟩ (.int .i64 val)))=W2 at *
 clear hgB hgb hgq
 go_wp2_with fail
 have hW2:=hr2.lt
 have f0:=Later.cell (B:=W2.heap.size) hr2.f0 hr2.lt
 have f2:=Later.cells hq2 hq2.lt
 refine dD (fun w'=>∃ q:Later W2.heap.size W2,w'=q.val) 9 [0,1,2,3,4,5,6,7] [8,9,10,11,12] (by kernel_rfl) (by kernel_rfl) (Later.bW (Below.refl _ _).drew) ?_
 simp only[ay,List.map_cons,List.map_nil,List.getD_cons_zero,List.getD_cons_succ]
 repeat(go_big_quiet_step (fail))
 refine wpQuiet_nil ?_
 refine aA rfl (fun K hK=> ?_)
 go_simp
 refine hK _ _ (Later.bW ((Below.refl _ _).alloc (Nat.le_refl _) _).drew) ?_
 clear hK K
 refine ae _ _ _ (by kernel_rfl) ?_
 simp only[ay,List.map_cons,List.map_nil,List.getD_cons_zero,List.getD_cons_succ]
 refine wpList_append_lies _ rfl _ _ _ rfl B 51 iE _ 7 56 Tryz.underlying41 Lq zE sE bE rfl (by omega) (.slice A1 s.evs.length m1) s.evs.length (s.evs.flatMap Ev.cells) rfl ((hr2.o1.alloc _).drew) ⟨W2.heap.size,0,none⟩ 1 1 (Ev.cells (KB t code ok val)) rfl rfl (World.news_of_block (heap_alloc_new W2 _)) (Ev.cells_one _) (by omega) (by unfold maxLen;omega) (by omega) (by simp;omega) (W2.heap.size+1) (by simp) ?_
 intro g2 cap2 w3 hown1 hgrow hat hlt
 have fb:=bo.grown (bo.drew (hr2.blk.alloc (.cells #[.int .i64 t,.bool true,.int .i64 0,.int .i64 0,.int .i64 code,.bool ok,.int .i64 val] 51))) hgrow (own_ne hr2.o1 hr2.blk (by decide))
 have fz:=fb.frozen 0
 have fc:=(fb.cell 0).trans hr2.c0
 have k3:Kp B [100,51,109] w w3:=((k2.alloc (by omega) _).drew).own ((hr2.o1.alloc _).drew) (Nat.le_refl _) (by simp;omega) (by decide) hgrow
 have hr3:=((hr2.alloc (.cells #[.int .i64 t,.bool true,.int .i64 0,.int .i64 0,.int .i64 code,.bool ok,.int .i64 val] 51)).drew).AZ (by decide) (by decide) (by decide) (A4:=s.evs++[KB t code ok val]) (n':=s.evs.length+1) (by simp) (by simpa using hown1) hgrow
 have k4:=k3.setB fb hbase (by decide) 0 (.slice (some ⟨g2,0,none⟩) (s.evs.length+1) cap2)
 clear f0 f2 hown1 hgrow hat hr2 hq2 k2 k3 fb
 go_wp2_with fail
 refine NoPanic.normal ?_
 generalize(w3.setCell ⟨b,0,none⟩ (.slice (some ⟨g2,0,none⟩) (s.evs.length+1) cap2))=W3 at *
 clear fz fc hlt
 have fz:=hr3.blk.frozen (2+t)
 have fc:=hr3.fn ht
 have hr4:=hr3.A5 (by decide) (by decide) ht 0
 have k5:=k4.setB hr3.blk hbase (by decide) (2+t) (.int .i64 0)
 clear hr3 k4
 go_wp2_with fail
 go_ret
 exact⟨rfl,⟨HS.FI hwf _ _ _ _,hbase,_,_,_,by simpa only [HS.y9,HN.out,show ((k+1:Nat):Int) - 1=(k:Int) from by omega,Int.toNat_natCast] using hr4⟩,k5⟩
theorem vG (b:Nat) (s:HS) (B:Nat) (t code:Int) (ok:Bool) (val:Int) (w:World) (h:HAt w B b s) (hBw:B≤w.heap.size) (hsz:s.evs.length≤1000):
  Calls Tryz.prog 34 #[.pointer (some ⟨b,0,none⟩),.int .i64 t,.agg #[.int .i64 code,.bool ok,.int .i64 val]] w fun e w'=>
   e= .returned (.int .i64 (s.qU t))∧HAt w' B b (s.end_ t code ok val)∧Kp B [100,51,109] w w':=by
 by_cases hk:0≤t∧t<8
 ·obtain⟨t,rfl⟩:=Int.eq_ofNat_of_zero_le hk.1
  have ht:t<8:=by omega
  have hk':¬ ((t:Int)<0∨8≤(t:Int)):=by omega
  by_cases hp:0<s.now t
  ·have he:s.qU t=0:=by simp only[HS.qU,if_neg hk',Int.toNat_natCast,if_pos hp]
   have hs:s.end_ t code ok val=s.y9 t code ok val:=by simp only[HS.end_,he,Int.toNat_natCast];rfl
   rw[he,hs]
   exact vF b s B t (s.now t - 1).toNat code ok val w h hBw ht (by omega) hsz
  ·have he:s.qU t=5:=by simp only[HS.qU,if_neg hk',Int.toNat_natCast,if_neg hp]
   have hs:s.end_ t code ok val=s:=by simp only[HS.end_,he];rfl
   rw[he,hs]
   have hkb:(decide (0≤(t:Int)) && decide ((t:Int)<8))=true:=by simp;omega
   have hpb:s.pend t=false:=by simp only[HS.pend,hkb,Int.toNat_natCast];simpa using hp
   have HK:=Lib.hid hkb
   have HP:=Lib.hid hpb
   have hb2:Below w.heap.size w (w.alloc (.cells #[.int .i64 code,.bool ok,.int .i64 val] 49)):=(Below.refl _ _).alloc (Nat.le_refl _) _
   clear hkb hpb he hs hk' hk
   go_enter Tryz.func34,Tryz.ntmps34
   go_wp2_with (first
    | (go_at_call 50;refine(eu _ _).mono ?_;rw[HK.out];rintro e w1 ⟨rfl,rfl⟩)
    | (go_at_call 51;refine(gu b s B _ _ (h.alloc _)).mono ?_;rw[HP.out];rintro e w1 ⟨rfl,rfl⟩))
   go_ret
   exact⟨rfl,h.step hb2,(Kp.refl _ _ _).step hBw hb2⟩
 ·have hk':t<0∨8≤t:=by omega
  have he:s.qU t=2:=by simp only[HS.qU,if_pos hk']
  have hs:s.end_ t code ok val=s:=by simp only[HS.end_,he];rfl
  rw[he,hs]
  have hkb:(decide (0≤t) && decide (t<8))=false:=by simp;omega
  have HK:=Lib.hid hkb
  have hb2:Below w.heap.size w (w.alloc (.cells #[.int .i64 code,.bool ok,.int .i64 val] 49)):=(Below.refl _ _).alloc (Nat.le_refl _) _
  clear hkb he hs hk' hk
  go_enter Tryz.func34,Tryz.ntmps34
  go_wp2_with (go_at_call 50;refine(eu _ _).mono ?_;rw[HK.out];rintro e w1 ⟨rfl,rfl⟩)
  go_ret
  exact⟨rfl,h.step hb2,(Kp.refl _ _ _).step hBw hb2⟩
theorem vH {α:Type} (f:α→List Value) (hf:∀ x,∀ u∈f x,u.oneCell'=true) (l:List α):∀ u∈l.flatMap f,u.oneCell'=true:=by
 intro u hu
 obtain⟨x,_,hx⟩:=List.mem_flatMap.1 hu
 exact hf x u hx
theorem xZ (A:Option Addr) (n c B:Nat) (xs:List Value) (w:World) (hr:Sl w B 9 A n xs) (hB:B≤w.heap.size) (h1:∀ u∈xs,u.oneCell'=true) (hn:n≤1000) (hnil:A=none→n=0∧c=0):
  Calls Tryz.prog 54 #[.slice A n c] w fun e w'=>∃ v,e= .returned v∧w'.ownsRow w.heap.size 109 9 v n xs∧Below w.heap.size w w':=by
 obtain⟨i0,hi,hz0,hz1,hz2⟩:=info_parts su
 cases A with
 | none=>
  obtain⟨rfl,rfl⟩:=hnil rfl
  have hx:xs=[]:=List.eq_nil_of_length_eq_zero (by simpa using hr.len)
  subst hx
  have hq:=fun w:World=>Lib.run_eql_slice_nil (P:=Tryz.prog) w 97 109 none 0 0 0 0 Tryz.underlying97
  go_enter Tryz.func54,Tryz.ntmps54
  go_wp2
  go_ret
  exact⟨_,rfl,World.ownsRow_nil _ _ _ _,Below.refl _ _⟩
 | some a=>
  have hq:=fun w:World=>Lib.run_eql_slice_nil (P:=Tryz.prog) w 97 109 (some a) n c 0 0 Tryz.underlying97
  have ho:=oJ w 109 9 (Nat.le_refl _) rfl
  have hs:Sl (w.alloc (.cells #[] 109)) B 9 (some a) n xs:=hr.step hB ((Below.refl _ _).alloc (Nat.le_refl _) _)
  go_enter Tryz.func54,Tryz.ntmps54
  go_wp2_with (at_builtin;refine eD _ rfl _ _ _ rfl w.heap.size 109 i0 _ 9 72 Tryz.underlying97 hi hz0 hz1 hz2 rfl (by omega) (.slice (some ⟨w.heap.size,0,none⟩) 0 0) 0 [] rfl ho B (some a) n c xs rfl hs h1 (by unfold maxLen;omega) (by omega) (by simp) ?_;intro v1 w1 hown1 hg1 DP)
  go_ret
  exact⟨_,rfl,by simpa using hown1,((Below.refl _ _).alloc (Nat.le_refl _) _).grown hg1 (by simp) (by simp[Value.ownBlock])⟩
theorem vI (A:Option Addr) (n c B:Nat) (xs:List Value) (w:World) (hr:Sl w B 7 A n xs) (hB:B≤w.heap.size) (h1:∀ u∈xs,u.oneCell'=true) (hn:n≤1000) (hnil:A=none→n=0∧c=0):
  Calls Tryz.prog 36 #[.slice A n c] w fun e w'=>∃ v,e= .returned v∧w'.ownsRow w.heap.size 51 7 v n xs∧Below w.heap.size w w':=by
 obtain⟨i0,hi,hz0,hz1,hz2⟩:=info_parts lK
 cases A with
 | none=>
  obtain⟨rfl,rfl⟩:=hnil rfl
  have hx:xs=[]:=List.eq_nil_of_length_eq_zero (by simpa using hr.len)
  subst hx
  have hq:=fun w:World=>Lib.run_eql_slice_nil (P:=Tryz.prog) w 41 51 none 0 0 0 0 Tryz.underlying41
  go_enter Tryz.func36,Tryz.ntmps36
  go_wp2
  go_ret
  exact⟨_,rfl,World.ownsRow_nil _ _ _ _,Below.refl _ _⟩
 | some a=>
  have hq:=fun w:World=>Lib.run_eql_slice_nil (P:=Tryz.prog) w 41 51 (some a) n c 0 0 Tryz.underlying41
  have ho:=oJ w 51 7 (Nat.le_refl _) rfl
  have hs:Sl (w.alloc (.cells #[] 51)) B 7 (some a) n xs:=hr.step hB ((Below.refl _ _).alloc (Nat.le_refl _) _)
  go_enter Tryz.func36,Tryz.ntmps36
  go_wp2_with (at_builtin;refine eD _ rfl _ _ _ rfl w.heap.size 51 i0 _ 7 56 Tryz.underlying41 hi hz0 hz1 hz2 rfl (by omega) (.slice (some ⟨w.heap.size,0,none⟩) 0 0) 0 [] rfl ho B (some a) n c xs rfl hs h1 (by unfold maxLen;omega) (by omega) (by simp) ?_;intro v1 w1 hown1 hg1 DP)
  go_ret
  exact⟨_,rfl,by simpa using hown1,((Below.refl _ _).alloc (Nat.le_refl _) _).grown hg1 (by simp) (by simp[Value.ownBlock])⟩
theorem vJ (b:Nat) (s:HS) (B:Nat) (w:World) (h:HAt w B b s) (hsz:s.evs.length≤1000):
  Calls Tryz.prog 16 #[.pointer (some ⟨b,0,none⟩)] w fun e w'=>∃ v,e= .returned v∧w'.ownsRow w.heap.size 51 7 v s.evs.length (s.evs.flatMap Ev.cells)∧Below w.heap.size w w':=by
 obtain⟨v1,v2,cs,hr⟩:=h.at_
 have hle:=h.wf.le
 obtain⟨A,c,rfl,-,hnil,-⟩:=bT hr.o1
 have hcell:=hr.f0
 have hsl:=Sl.de hr.o1
 have h1:=vH Ev.cells Ev.cells_one s.evs
 have HN:=Lib.hid hnil
 clear hr h hnil
 go_enter Tryz.func16,Tryz.ntmps16
 go_wp2_with (go_at_call 36;refine(vI _ _ _ _ _ _ hsl (Nat.le_refl _) h1 (by omega) HN.out).mono ?_;rintro e w1 ⟨v,rfl,ho,hb⟩)
 go_ret
 exact⟨_,rfl,ho,hb⟩
theorem qe (b:Nat) (s:HS) (B:Nat) (w:World) (h:HAt w B b s) (hsz:s.evs.length≤1000):
  Calls Tryz.prog 40 #[.pointer (some ⟨b,0,none⟩)] w fun e w'=>∃ v,e= .returned v∧w'.ownsRow w.heap.size 109 9 v s.calls.length (s.calls.flatMap HC.cells)∧Below w.heap.size w w':=by
 obtain⟨v1,v2,cs,hr⟩:=h.at_
 have hle:=h.wf.le
 obtain⟨A,c,rfl,-,hnil,-⟩:=bT hr.o2
 have hcell:=hr.f1
 have hsl:=Sl.de hr.o2
 have h1:=vH HC.cells HC.cells_one s.calls
 have HN:=Lib.hid hnil
 clear hr h hnil
 go_enter Tryz.func40,Tryz.ntmps40
 go_wp2_with (go_at_call 54;refine(xZ _ _ _ _ _ _ hsl (Nat.le_refl _) h1 (by omega) HN.out).mono ?_;rintro e w1 ⟨v,rfl,ho,hb⟩)
 go_ret
 exact⟨_,rfl,ho,hb⟩
def HS.step (s:HS) (e:Ev):HS:=if e.ends then s.end_ e.th e.code e.ok e.val else s.begin_ e.th e.kind e.key
theorem HS.mE (s:HS) (e:Ev):(s.step e).evs.length≤s.evs.length+1:=by
 unfold HS.step HS.end_ HS.begin_
 split<;>split<;>simp[HS.y9,HS.AX]
theorem zY (b:Nat) (s:HS) (BH:Nat) (w:World) (h:HAt w BH b s) (hn:s.evs.length≤1000):
  Calls Tryz.prog 35 #[.pointer (some ⟨b,0,none⟩)] w fun r w'=>∃ b',r= .returned (.pointer (some ⟨b',0,none⟩))∧HAt w' w.heap.size b' s∧Below w.heap.size w w':=by
 have hwf:=h.wf
 obtain⟨v1,v2,cs,hr⟩:=h.at_
 have hbl:=hr.lt
 have q0:=Later.cell (B:=w.heap.size) (w:=w) (hr.fn (t:=0) (by omega)) hbl
 have q1:=Later.cell (B:=w.heap.size) (w:=w) (hr.fn (t:=1) (by omega)) hbl
 have q2:=Later.cell (B:=w.heap.size) (w:=w) (hr.fn (t:=2) (by omega)) hbl
 have q3:=Later.cell (B:=w.heap.size) (w:=w) (hr.fn (t:=3) (by omega)) hbl
 have q4:=Later.cell (B:=w.heap.size) (w:=w) (hr.fn (t:=4) (by omega)) hbl
 have q5:=Later.cell (B:=w.heap.size) (w:=w) (hr.fn (t:=5) (by omega)) hbl
 have q6:=Later.cell (B:=w.heap.size) (w:=w) (hr.fn (t:=6) (by omega)) hbl
 have q7:=Later.cell (B:=w.heap.size) (w:=w) (hr.fn (t:=7) (by omega)) hbl
 clear hr
 go_enter Tryz.func35,Tryz.ntmps35
 go_upto_region 1 with (fail)
 refine dD (fun w'=>∃ q:Later w.heap.size w,w'=q.val) 8 [0,2,4,5,6,7] [1,3,8,9,10] (by kernel_rfl) (by kernel_rfl) (Later.bW (Below.refl _ _).drew) ?_
 simp only[ay,List.map_cons,List.map_nil,List.getD_cons_zero,List.getD_cons_succ]
 repeat(go_big_quiet_step (fail))
 refine wpQuiet_nil ?_
 clear q0 q1 q2 q3 q4 q5 q6 q7
 refine aA rfl (fun K hK=> ?_)
 go_simp
 have h0:HAt w.drew BH b s:=h.drew
 have hb0:Below w.heap.size w w.drew:=(Below.refl _ _).drew
 have hs0:w.drew.heap.size=w.heap.size:=rfl
 generalize w.drew=W0 at *
 refine(vJ b s BH W0 h0 hn).mono ?_
 rintro e w1 ⟨u1,rfl,ho1,hb1⟩
 rw[hs0] at ho1 hb1
 obtain⟨X1,m1,rfl,-,-,-⟩:=bT ho1
 refine hK _ _ (Later.bW (hb0.trans hb1)) ?_
 clear hK K
 refine aA rfl (fun K hK=> ?_)
 go_simp
 have h1:=h0.step (hs0 ▸ hb1)
 have hs1:=(hb0.trans hb1).size
 refine(qe b s BH w1 h1 hn).mono ?_
 rintro e w2 ⟨u2,rfl,ho2,hb2⟩
 obtain⟨X2,m2,rfl,-,-,-⟩:=bT ho2
 refine hK _ _ (Later.bW ((hb0.trans hb1).trans (hb2.mono hs1))) ?_
 clear hK K
 have hs2:=hb2.size
 have Lr:=dy ho1 hb2
 refine ae _ _ _ (by kernel_rfl) ?_
 simp only[ay,List.map_cons,List.map_nil,List.getD_cons_zero,List.getD_cons_succ]
 go_wp2_with fail
 refine NoPanic.normal ?_
 go_wp2_with fail
 go_ret
 have hB:=(hb0.trans hb1).trans (hb2.mono hs1)
 refine⟨w2.heap.size,rfl,⟨hwf,by omega,_,_,_,bo.new _ _ _,rfl,rfl,rfl,?_,Lr.alloc _,(eL ho2 hs1).alloc _⟩,hB.alloc (by omega) _⟩
 intro t ht
 match t,ht with
 | 0,_=>rfl
 | 1,_=>rfl
 | 2,_=>rfl
 | 3,_=>rfl
 | 4,_=>rfl
 | 5,_=>rfl
 | 6,_=>rfl
 | 7,_=>rfl
structure dw where
 st:cg
 tasks:List bl
 ended:Nat
 now:Option aI
def dw.left (x:dw):Int:=(x.tasks.length:Int) - (x.ended:Int)
def bl.cells (t:bl):List Value:=[.int .i64 t.sh,.int .i64 t.kind,.int .i64 t.key]
theorem bl.fx (t:bl):t.cells.length=3:=rfl
structure Hv (w:World) (C:Nat→Nat) (k q sg b:Nat) (A:Option Addr) (n cap:Nat) (pn tv lv:Value) (x:dw):Prop where
 blk:SB w C k b 91 #[.pointer (some ⟨sg,0,none⟩),.slice A n cap,.int .i64 (x.ended:Int),pn,tv,lv]
 len:x.tasks.length=n
 small:n≤1000
 le:x.ended≤n
 row:Sr w C k 85 3 A n (x.tasks.flatMap bl.cells)
 took:∃ n1 xs,Row w C k 3 1 tv n1 (cJ xs)∧xs.length=n1∧n1=x.ended+(if x.now.isSome then 1 else 0)
 slow:∃ n2 ys,Row w C q 3 1 lv n2 (cJ ys)∧ys.length=n2∧n2≤x.ended
def MJ:List (Option TypeId):=[some 91,some 85,some 3]
variable {w w':World} {C C':Nat→Nat} {K:Nat→Prop} {T:List (Option TypeId)}
theorem Hv.mv {k q sg b:Nat} {A:Option Addr} {n cap:Nat} {pn tv lv:Value} {x:dw} (h:Hv w C k q sg b A n cap pn tv lv x) (f:Fr C K T w w') (a:aF w.heap.size C C') (hk:(¬ K k∧¬ K q)∨dJ MJ T):Hv w' C' k q sg b A n cap pn tv lv x:=by
 obtain⟨n1,xs,h1,h2,h3⟩:=h.took
 obtain⟨n2,ys,g1,g2,g3⟩:=h.slow
 exact⟨h.blk.mv f a (hk.imp (·.1) (fun h=>h _ (by decide))),h.len,h.small,h.le,h.row.mv f a (hk.imp (·.1) (fun h=>h _ (by decide))),⟨n1,xs,h1.mv f a (hk.imp (·.1) (fun h=>h _ (by decide))),h2,h3⟩,⟨n2,ys,g1.mv f a (hk.imp (·.2) (fun h=>h _ (by decide))),g2,g3⟩⟩
structure jq (w:World) (C:Nat→Nat) (c s k q sg b:Nat) (L:Ly) (me:Int) (x:dw):Prop where
 st:aq w C s sg L me x.st
 ex:∃ A n cap pn tv lv,Hv w C k q sg b A n cap pn tv lv x∧o0 x.now pn (fun bd d=>a6 w C c s sg bd L me d)
def Hw:List (Option TypeId):=MJ++some 137::Ki
theorem jq.mv {c s k q sg b:Nat} {L:Ly} {me:Int} {x:dw} (h:jq w C c s k q sg b L me x) (f:Fr C K T w w') (a:aF w.heap.size C C') (hk:(¬ K c∧¬ K s∧¬ K k∧¬ K q)∨dJ Hw T):jq w' C' c s k q sg b L me x:=by
 obtain⟨A,n,cap,pn,tv,lv,h1,h2⟩:=h.ex
 exact⟨h.st.mv f a (hk.imp (·.2.1) (fun h x hx=>h x (by revert x;decide))),A,n,cap,pn,tv,lv,h1.mv f a (hk.imp (·.2.2) (fun h x hx=>h x (by revert x;decide))),h2.imp fun bd d hd=>hd.mv f a (hk.imp (fun e=>⟨e.1,e.2.1⟩) (fun h x hx=>h x (by revert x;decide)))⟩
theorem jq.fr {c s ck q sg b:Nat} {L:Ly} {me:Int} {x:dw} (h:jq w C c s ck q sg b L me x) (k:Fr C K T w w') (hk:(¬ K c∧¬ K s∧¬ K ck∧¬ K q)∨dJ Hw T):jq w' C c s ck q sg b L me x:=h.mv k (aF.refl _ _) hk
instance {w:World} {C:Nat→Nat} {c s ck q sg b:Nat} {L:Ly} {me:Int} {x:dw}:Mv (jq w C c s ck q sg b L me x) w C Hw (fun w' C'=>jq w' C' c s ck q sg b L me x):=⟨fun h k a hk=>h.mv k a (.inr hk)⟩
structure ib (w:World) (B b:Nat) (s:HS):Prop where
 at_:HAt w B b s
theorem ib.le {B b:Nat} {s:HS} (h:ib w B b s):B≤w.heap.size:=Nat.le_trans h.at_.base (Nat.le_of_lt h.at_.lt)
def AP:List (Option TypeId):=[some 100,some 51,some 109]
theorem ib.mv {B b:Nat} {s:HS} (h:ib w B b s) (f:Fr C K T w w') (_:aF w.heap.size C C') (hk:False∨dJ AP T):ib w' B b s:=by
 have hk:=hk.resolve_left id
 obtain⟨h1,h2,v1,v2,cs,h3⟩:=h.at_
 have key:∀ (e:TypeId) (size n:Nat) (v:Value) (xs:List Value),some e∉T→w.ownsRow B e size v n xs→w'.ownsRow B e size v n xs:=fun e size n v xs he ho=>wP ho f (.inr he)
 exact⟨h1,h2,v1,v2,cs,h3.blk.fr f (.inr (hk _ (by decide))),h3.size,h3.c0,h3.c1,h3.cn,key _ _ _ _ _ (hk _ (by decide)) h3.o1,key _ _ _ _ _ (hk _ (by decide)) h3.o2⟩
theorem ib.fr {B b:Nat} {s:HS} (h:ib w B b s) (f:Fr C K T w w') (hk:False∨dJ AP T):ib w' B b s:=h.mv f (aF.refl _ _) hk
theorem ib.step {B b:Nat} {s:HS} (h:ib w B b s) (k:Below w.heap.size w w'):ib w' B b s:=⟨h.at_.step k⟩
def mF (w:World) (_:Nat→Nat) (B b:Nat) (s:HS):Prop:=ib w B b s
theorem mF.bW (C:Nat→Nat) {w:World} {B b:Nat} {s:HS} (h:ib w B b s):mF w C B b s:=h
theorem mF.out {B b:Nat} {s:HS} (h:mF w C B b s):ib w B b s:=h
theorem mF.fr {B b:Nat} {s:HS} (h:mF w C B b s) (f:Fr C K T w w') (hk:False∨dJ AP T):mF w' C B b s:=h.out.fr f hk
instance {w:World} {C:Nat→Nat} {B b:Nat} {s:HS}:Mv (mF w C B b s) w C AP (fun w' C'=>mF w' C' B b s):=⟨fun h k a hk=>h.out.mv k a (.inr hk)⟩
theorem Fr.jr {B:Nat} (h:Kp B [100,51,109] w w') (C:Nat→Nat):Fr C (fun _=>True) AP w w':=
 ⟨h.below.os,h.below.tape,h.below.output,h.below.size,fun g o ho hk=>h.ty g o ho fun cs t fz e ht=>hk.elim (fun h=>h trivial) (fun h=>h (by subst e;simp only[Ib];revert ht;simp[AP]))⟩
structure iM (B:Nat) (C:Nat→Nat) (w w':World):Prop where
 os:w'.os=w.os
 tape:w'.tape=w.tape
 output:w'.output=w.output
 size:w.heap.size≤w'.heap.size
 keep:∀ g o,w.heap[g]? =some o→C g=0→Ib o∉AP∨g<B→w'.heap[g]? =some o
theorem iM.refl (B:Nat) (C:Nat→Nat) (w:World):iM B C w w:=⟨rfl,rfl,rfl,Nat.le_refl _,fun _ _ h _ _=>h⟩
def KE:Nat→Prop:=fun x=>x≠0
theorem iM.I2 {B:Nat} {C:Nat→Nat} {L:List (Option TypeId)} {w w':World} (k:Fr C KE L w w'):iM B C w w':=⟨k.os,k.tape,k.output,k.size,fun g o ho hc _=>k.keep g o ho (.inl (fun h=>h hc))⟩
theorem iM.jr {B:Nat} (C:Nat→Nat) {w w':World} (k:Kp B [100,51,109] w w'):iM B C w w':=⟨k.below.os,k.below.tape,k.below.output,k.below.size,fun g o ho _ ht=>ht.elim (fun ht=>(Fr.jr k C).keep g o ho (.inr ht)) (fun hl=>(k.below.block g hl).trans ho)⟩
theorem iM.comp {B:Nat} {C C':Nat→Nat} {a w w':World} (h:iM B C a w) (k:iM B C' w w') (hC:aF a.heap.size C C'):iM B C a w':=
 ⟨k.os.trans h.os,k.tape.trans h.tape,k.output.trans h.output,Nat.le_trans h.size k.size,fun g o ho hc ht=>k.keep g o (h.keep g o ho hc ht) ((hC g (lt_size ho)).trans hc) ht⟩
theorem iM.trans {B:Nat} {C C':Nat→Nat} {L:List (Option TypeId)} {a w w':World} (h:iM B C a w) (k:Fr C' KE L w w') (hC:aF a.heap.size C C'):iM B C a w':=h.comp (.I2 k) hC
theorem iM.hist {B:Nat} {C C':Nat→Nat} {a w w':World} (h:iM B C a w) (k:Kp B [100,51,109] w w') (hC:aF a.heap.size C C'):iM B C a w':=h.comp (.jr C' k) hC
theorem iM.step {B:Nat} {C:Nat→Nat} {a w w':World} (h:iM B C a w) (k:Below w.heap.size w w'):iM B C a w':=h.trans (Fr.of_below k C KE []) (aF.refl _ _)
theorem SB.fe {B:Nat} {C C':Nat→Nat} {b:Nat} {t:TypeId} {cs:Array Value} (h:SB w C 0 b t cs) (f:iM B C w w') (a:aF w.heap.size C C') (ht:some t∉AP):SB w' C' 0 b t cs:=SB.mk (f.keep _ _ h.blk h.col (.inl ht)) ((a b h.lt).trans h.col)
section
variable {B0:Nat} {w w' w0:World} {C C0:Nat→Nat} {G B:Prop} {T:List (Option TypeId)} {G':World→(Nat→Nat)→Prop→Prop}
theorem qg [Gm G w C B T G'] (hb:Below w.heap.size w w') (k:iM B0 C0 w0 w'→G' w' C B):iM B0 C0 w0 w→G:=
 fun fr=>Gm.mv (G:=G) (C:=C) (fun s=>s (Fr.of_below hb C (fun _=>False) []) (aF.refl _ _) (fun _ _ h=>by cases h) (k (fr.step hb)))
theorem EO [Gm G w C B T G'] (k:iM B0 C0 w0 w.drew→G' w.drew C B):iM B0 C0 w0 w→G:=qg (Below.refl _ _).drew k
theorem EP [Gm G w C B T G'] (t:TypeId) (cs:Array Value) (k:∀ w',w.alloc (.cells cs t)=w'→w0.heap.size≤w.heap.size→iM B0 C0 w0 w'→SB w' C (C w.heap.size) w.heap.size t cs→G' w' C B):iM B0 C0 w0 w→G:=
 fun fr=>Gm.mv (G:=G) (C:=C) (fun s=>s (Fr.of_below ((Below.refl _ _).alloc (Nat.le_refl _) (.cells cs t)) C (fun _=>False) []) (aF.refl _ _) (fun _ _ h=>by cases h) (k _ rfl fr.size (fr.step ((Below.refl _ _).alloc (Nat.le_refl _) _)) (SB.new w C rfl t cs rfl)))
theorem ER {P:Program} {f:FuncId} {args:Array Value} {R:Ending→Prop} {Q:Ending→World→Prop} (h:Calls P f args w (fun e w'=>R e∧Below w.heap.size w w')) [Gm G w C (Calls P f args w Q) T G'] (k:∀ e w',R e→iM B0 C0 w0 w'→G' w' C (Q e w')):iM B0 C0 w0 w→G:=
 fun fr=>Gm.mv (G:=G) (C:=C) (fun s=>h.mono fun e w' hh=>s (Fr.of_below hh.2 C (fun _=>False) []) (aF.refl _ _) (fun _ _ h=>by cases h) (k e w' hh.1 (fr.step hh.2)))
end
def cM (u:Nat):Nat:=4+4*u
def cS (u:Nat):Nat:=5+4*u
def cK (u:Nat):Nat:=6+4*u
def cQ (u:Nat):Nat:=7+4*u
structure gJ where
 M:ML
 hb:Nat
 wb:Nat→Nat
 sg:Nat→Nat
 B:Nat
structure bu where
 shape:Int
 tries:Int
 m:Mm
 hist:HS
 ws:Nat→dw
 steps:Nat
abbrev gJ.n (E:gJ):Nat:=E.M.L.th.toNat
abbrev AQ (w:World) (C:Nat→Nat) (E:gJ) (u:Nat) (x:dw):Prop:=jq w C (cM u) (cS u) (cK u) (cQ u) (E.sg u) (E.wb u) E.M.L u x
structure ey (w:World) (C:Nat→Nat) (E:gJ) (ws:Nat→dw) (P:Nat→Prop):Prop where
 at_:∀ v,v<E.n→P v→AQ w C E v (ws v)
theorem ey.mv {E:gJ} {ws:Nat→dw} {P:Nat→Prop} (h:ey w C E ws P) (f:Fr C K T w w') (a:aF w.heap.size C C') (hk:(∀ v,P v→¬ K (cM v)∧¬ K (cS v)∧¬ K (cK v)∧¬ K (cQ v))∨dJ Hw T):ey w' C' E ws P:=
 ⟨fun v hv hp=>(h.at_ v hv hp).mv f a (hk.imp (fun h=>h v hp) id)⟩
theorem ey.fr {E:gJ} {ws:Nat→dw} {P:Nat→Prop} (h:ey w C E ws P) (k:Fr C K T w w') (hk:(∀ v,P v→¬ K (cM v)∧¬ K (cS v)∧¬ K (cK v)∧¬ K (cQ v))∨dJ Hw T):ey w' C E ws P:=h.mv k (aF.refl _ _) hk
theorem ey.step {E:gJ} {ws:Nat→dw} {P:Nat→Prop} (h:ey w C E ws P) (k:Below w.heap.size w w'):ey w' C E ws P:=h.mv (Fr.of_below k C (fun _=>False) []) (aF.refl _ _) (.inr (by decide))
theorem ey.oK {E:gJ} {ws:Nat→dw} {P:Nat→Prop} (h:ey w C E ws P) (a:aF w.heap.size C C'):ey w C' E ws P:=h.mv (Fr.refl C (fun _=>False) [] w) a (.inr (by decide))
instance {w:World} {C:Nat→Nat} {E:gJ} {ws:Nat→dw} {P:Nat→Prop}:Mv (ey w C E ws P) w C Hw (fun w' C'=>ey w' C' E ws P):=⟨fun h k a hk=>h.mv k a (.inr hk)⟩
def mG (E:gJ) (n:Nat):List Value:=(List.range n).map fun u=>Value.pointer (some ⟨E.wb u,0,none⟩)
theorem Cw (E:gJ) {n u:Nat} (h:u<n):(mG E n)[u]? =some (.pointer (some ⟨E.wb u,0,none⟩)):=by
 unfold mG
 rw[List.getElem?_map,List.getElem?_range h];rfl
structure dQ (w:World) (C:Nat→Nat) (b:Nat) (E:gJ) (e:bu):Prop where
 blk:∃ A cap,SB w C 3 b 79 #[.int .i64 e.shape,.int .i64 E.M.L.th,.int .i64 E.M.L.nd,.int .i64 e.tries,.pointer (some ⟨E.M.b,0,none⟩),.pointer (some ⟨E.hb,0,none⟩),.slice A E.n cap,.int .i64 (e.steps:Int)]∧Sr w C 3 80 1 A E.n (mG E E.n)
 mem:aj w C E.M e.m
 hist:ib w E.B E.hb e.hist
 wk:ey w C E e.ws (fun _=>True)
variable {b:Nat}
theorem dQ.out {E:gJ} {e:bu} (h:dQ w C b E e) (f:Fr C (fun x=>x=0) T w w') (a:aF w.heap.size C C') (ht:dJ AP T):dQ w' C' b E e:=by
 obtain⟨A,cap,h1,h2⟩:=h.blk
 exact⟨⟨A,cap,h1.mv f a (.inl (by decide)),h2.mv f a (.inl (by decide))⟩,h.mem.mv f a (.inl (by decide)),h.hist.mv f a (.inr ht),h.wk.mv f a (.inl (fun v _=>by refine⟨?_,?_,?_,?_⟩<;>simp[cM,cS,cK,cQ]))⟩
theorem dQ.step {E:gJ} {e:bu} (h:dQ w C b E e) (k:Below w.heap.size w w'):dQ w' C b E e:=h.out (Fr.of_below k C _ []) (aF.refl _ _) (by decide)
theorem dQ.oK {E:gJ} {e:bu} (h:dQ w C b E e) (a:aF w.heap.size C C'):dQ w C' b E e:=h.out (Fr.refl C _ [] w) a (by decide)
theorem Ls:(Tryz.prog.info? 80).map (·.size)=some 1:=by kernel_rfl
theorem Lt:(Tryz.prog.info? 85).map (·.size)=some 3:=by kernel_rfl
theorem vK {k q sg b:Nat} {A:Option Addr} {n cap:Nat} {pn tv lv:Value} {x:dw} (h:Hv w C k q sg b A n cap pn tv lv x):Calls Tryz.prog 29 #[.pointer (some ⟨b,0,none⟩)] w fun e w'=>e= .returned (.int .i64 x.left)∧Below w.heap.size w w':=by
 obtain⟨sb,hlen,hsm,hle,-,-,-⟩:=h
 have e6:wrap64 ((n:Int) - (x.ended:Int))=x.left:=by rw[IntWalk.wrap64_in _ (by omega)];unfold dw.left;rw[hlen]
 obtain⟨lf,hlf⟩:∃ lf,x.left=lf:=⟨_,rfl⟩
 obtain⟨en,hen⟩:∃ en,x.ended=en:=⟨_,rfl⟩
 rw[hlf] at e6⊢
 rw[hen] at sb e6
 clear hlf hen hle hlen hsm
 go_enter Tryz.func29,Tryz.ntmps29
 have fr:=Fr.refl C (fun _=>False) [] w
 have ag:=aF.refl w.heap.size C
 go_wp2_with fail
 revert sb;revert fr;refine bK ?_;intro fr sb
 obtain⟨q1,qi⟩:=aY sb
 refine ax sb 10 [] [0,1,2,3,4,5,6,7,8,9] [10] (by kernel_rfl) (by kernel_rfl) ?_
 refine af ?_;try simp only[ox]
 repeat(go_big_quiet_step (fail))
 refine wpQuiet_nil ?_
 refine ae _ _ _ (by kernel_rfl) ?_;try simp only[ox]
 clear qi q1
 go_wp2_with fail
 refine NoPanic.normal ?_
 go_wp2_with fail
 go_ret
 exact⟨congrArg (fun v=>Ending.returned (.int .i64 v)) e6,fr.cr⟩
theorem iN {E:gJ} {e:bu} (h:dQ w C b E e) (u:Int) (hu:u<0):Calls Tryz.prog 28 #[.pointer (some ⟨b,0,none⟩),.int .i64 u] w fun r w'=>r= .returned (.pointer none)∧Below w.heap.size w w':=by
 obtain⟨⟨A,cap,sb,hsr⟩,-,-,-⟩:=h
 clear hsr
 have d0:decide (u<0)=true:=decide_eq_true hu
 go_enter Tryz.func28,Tryz.ntmps28
 have fr:=Fr.refl C (fun _=>False) [] w
 have ag:=aF.refl w.heap.size C
 go_wp2_with fail
 go_ret
 exact⟨rfl,fr.cr⟩
theorem iP {E:gJ} {e:bu} (h:dQ w C b E e) (u:Int) (hu:¬ u<0) (hu2:(E.n:Int)≤u):Calls Tryz.prog 28 #[.pointer (some ⟨b,0,none⟩),.int .i64 u] w fun r w'=>r= .returned (.pointer none)∧Below w.heap.size w w':=by
 obtain⟨⟨A,cap,sb,hsr⟩,-,-,-⟩:=h
 clear hsr
 obtain⟨N,hN⟩:∃ N,E.n=N:=⟨_,rfl⟩
 rw[hN] at sb hu2
 have d0:decide (u<0)=false:=decide_eq_false hu
 have d1:decide (u≥(N:Int))=true:=decide_eq_true hu2
 clear hN
 go_enter Tryz.func28,Tryz.ntmps28
 have fr:=Fr.refl C (fun _=>False) [] w
 have ag:=aF.refl w.heap.size C
 go_wp2_with fail
 go_ret
 exact⟨rfl,fr.cr⟩
theorem cD {E:gJ} {e:bu} (h:dQ w C b E e) (u:Nat) (hu:u<E.n):Calls Tryz.prog 28 #[.pointer (some ⟨b,0,none⟩),.int .i64 (u:Int)] w fun r w'=>r= .returned (.pointer (some ⟨E.wb u,0,none⟩))∧Below w.heap.size w w':=by
 obtain⟨⟨A,cap,sb,hsr⟩,-,-,-⟩:=h
 have d0:decide ((u:Int)<0)=false:=decide_eq_false (by omega)
 have d1:decide ((u:Int)≥(E.n:Int))=false:=decide_eq_false (by omega)
 obtain⟨N,hN⟩:∃ N,E.n=N:=⟨_,rfl⟩
 have hidx:=hsr.sl.idx (P:=Tryz.prog) (c:=cap) Tryz.underlying77 Ls hu
 have hcl:=hsr.sl.cell u (by omega)
 rw[Cw E hu] at hcl
 simp only[Nat.mul_one] at hidx
 clear hsr
 rw[hN] at sb hidx d1 hu
 clear hN
 go_enter Tryz.func28,Tryz.ntmps28
 have fr:=Fr.refl C (fun _=>False) [] w
 have ag:=aF.refl w.heap.size C
 go_wp2_with fail
 go_ret
 exact⟨rfl,fr.cr⟩
variable {c sg:Nat}
theorem yS {d:aI} {ph pl pe pf pa pr pi pd ps:Value} (sb:eR w C c sg b ph pl pe pf pa pr pi pd ps d):Calls Tryz.prog 32 #[.pointer (some ⟨b,0,none⟩)] w fun e w'=>e= .returned d.task.val∧Below w.heap.size w w':=by
 unfold eR at sb
 obtain⟨⟨rc,ro,rv⟩,slow,⟨sh,kind,key⟩,limit,at_,head,help,bm,fast,ann,find,drop,sweep⟩:=d
 simp only at sb⊢
 have hl:=sb.lt
 go_enter Tryz.func32,Tryz.ntmps32
 have fr:=Fr.refl C (fun _=>False) [] w
 have ag:=aF.refl w.heap.size C
 go_wp2_with fail
 have Cy:=(bo.new w 85 #[.int .i64 sh,.int .i64 kind,.int .i64 key]).cells
 refine bodyPost_ret (v:= .agg #[.int .i64 sh,.int .i64 kind,.int .i64 key]) (by simp[results,Tryz.results32,go_sem,Cy]) rfl ⟨rfl,(Below.refl _ _).alloc (Nat.le_refl _) _⟩
variable {s:Nat} {L:Ly} {me:Int} {t:cg}
theorem x5 (hst:aq w C s sg L me t) (k:bl) (limit:Int):Calls Tryz.prog 49 #[.pointer (some ⟨sg,0,none⟩),k.val,.int .i64 limit] w (IT C c [] (fun w' C' b=>a6 w' C' c s sg b L me (.new L k limit)) w):=by
 obtain⟨⟨A,n,cap,hn,sb,hrow⟩,-,-,-⟩:=hst
 obtain⟨sh,kind,key⟩:=k
 clear hn hrow
 go_enter Tryz.func49,Tryz.ntmps49
 have fr:=Fr.refl C (K0 c) [] w
 have ag:=aF.refl w.heap.size C
 have z1:=sb
 revert sb;revert fr;refine bx1 85 #[.int .i64 sh,.int .i64 kind,.int .i64 key] ?_;rintro w1 B3 IV fr tb sb
 go_wp2_with fail
 clear B3 z1
 revert fr tb sb;refine bK ?_;intro fr tb sb
 obtain⟨q1,q2,qi⟩:=bD sb tb
 refine aC sb tb 9 [([0,1,2,3,4,5,6],7)] [8] [9,10] (by kernel_rfl) (by kernel_rfl) ?_
 refine ai ?_;simp only[ox];repeat(go_big_quiet_step (fail))
 refine dI rfl (fun K' hK'=> ?_);go_simp
 revert ag fr tb sb;with_reducible refine gd (zB L C c _) ?_;rintro w2 bh C2 ag fr hhd tb sb
 refine hK' _ _ (fa sb tb) ?_;clear hK' K'
 refine af ?_;try simp only[ox]
 repeat(go_big_quiet_step (fail))
 refine wpQuiet_nil ?_
 refine ae _ _ _ (by kernel_rfl) ?_;try simp only[ox]
 clear qi q1 q2
 go_wp2_with fail
 refine NoPanic.normal ?_
 go_wp2_with fail
 go_ret
 refine⟨⟨w2.heap.size,br C2 w2.heap.size c,rfl,ag.trans (aF.br _ _ _) fr.size,?_⟩,fr.step ((Below.refl _ _).alloc (Nat.le_refl _) _)⟩
 exact .Le (SB.new w2 (br C2 w2.heap.size c) (aT _ _ (Nat.le_refl _)) 129 #[.pointer (some ⟨sg,0,none⟩),.int .i64 0,.bool false,.int .i64 0,.bool false,.int .i64 sh,.int .i64 kind,.int .i64 key,.int .i64 limit,.int .i64 0,.pointer (some ⟨bh,0,none⟩),.pointer none,.pointer none,.pointer none,.pointer none,.pointer none,.pointer none,.pointer none,.pointer none] rfl) rfl ((hhd.oK (aF.br _ _ _)).step ((Below.refl _ _).alloc (Nat.le_refl _) _))
def Kw (c s k q:Nat):Nat→Prop:=fun x=>x=c∨x=s∨x=k∨x=q∨x=1
theorem qh (c s k q:Nat):∀ x,K0 k x→Kw c s k q x:=fun _ h=> .inr (.inr (.inl h))
theorem Lu (c s k q:Nat):∀ x,K0 q x→Kw c s k q x:=fun _ h=> .inr (.inr (.inr (.inl h)))
theorem Lv (c s k q:Nat):∀ x,K0 c x→Kw c s k q x:=fun _ h=> .inl h
theorem Cz (c s k q:Nat):∀ x,ef c s x→Kw c s k q x:=fun _ h=>h.elim .inl (fun h=>h.elim (fun h=> .inr (.inl h)) (fun h=> .inr (.inr (.inr (.inr h)))))
def I3:List (Option TypeId):=some 91::some 3::iY
def MK:List (Option TypeId):=[some 91,some 3]
theorem tW:∀ x,x∈iY→x∈I3:=fun _ h=> .tail _ (.tail _ h)
theorem zZ (l:List bl) (k i:Nat) (t:bl) (hk:l[k]? =some t) (hi:i<3):(l.flatMap bl.cells)[k*3+i]? =t.cells[i]? :=kx bl.cells 3 bl.fx l k i t hk hi
theorem gW {k q sg b:Nat} {A:Option Addr} {n cap bd:Nat} {tv lv:Value} {x:dw} (h:Hv w C k q sg b A n cap (.pointer (some ⟨bd,0,none⟩)) tv lv x) (tries:Int):Calls Tryz.prog 30 #[.pointer (some ⟨b,0,none⟩),.int .i64 tries] w fun e w'=>e= .returned (.bool false)∧Below w.heap.size w w':=by
 obtain⟨sb,-,-,-,-,-,-⟩:=h
 obtain⟨en,hen⟩:∃ en,x.ended=en:=⟨_,rfl⟩
 rw[hen] at sb
 clear hen
 have hc:=sb.blk.cells
 go_enter Tryz.func30,Tryz.ntmps30
 go_wp2_with fail
 go_ret
 exact⟨rfl,Below.refl _ _⟩
theorem gX {c s k q sg b:Nat} {L:Ly} {me:Int} {x:dw} (h:jq w C c s k q sg b L me x) (b8:x.now=none) {tk:bl} (htk:x.tasks[x.ended]? =some tk) (hkc:k≠c) (hks:k≠s) (hkq:k≠q) (tries:Int):
  Calls Tryz.prog 30 #[.pointer (some ⟨b,0,none⟩),.int .i64 tries] w (OW C (Kw c s k q) MK (.bool true) (fun w' C'=>jq w' C' c s k q sg b L me { x with now:=some (.new L tk tries) }) w):=by
 obtain⟨hst,A,n,cap,pn,tv,lv,⟨sb,hlen,hsm,hle,hsr,⟨n1,xs,hrow,hxl,hn1⟩,⟨n2,ys,aP,hyl,hn2⟩⟩,hpn⟩:=h
 obtain⟨stt,tasks,en,now⟩:=x
 simp only at hst sb hlen hle hsr hn1 hn2 hpn b8 htk
 subst b8
 have Lw:pn= .pointer none:=hpn
 subst Lw
 have hlt:en<n:=by rw[←hlen];exact(List.getElem?_eq_some_iff.1 htk).1
 simp only[Option.isSome_none] at hn1
 obtain⟨A2,cap1,rfl,hnc,hnil,hA2⟩:=hrow.form
 obtain⟨cs,htb,lx⟩:=hsr.blk (by omega)
 have hidx:=hsr.sl.idx (P:=Tryz.prog) (c:=cap) Tryz.underlying87 Lt hlt
 have gO:SB w C k (bZ A) 85 cs:=SB.mk htb lx
 have hcell:∀ i,i<3→cs[cP A+en*3+i]? =tk.cells[i]? :=fun i hi=>by
  have h1:=hsr.sl.at_ hlt hi
  rw[htb.cell,zZ _ _ _ _ htk hi] at h1
  exact h1
 have f0:=hcell 0 (by omega)
 have f1:=hcell 1 (by omega)
 have f2:=hcell 2 (by omega)
 obtain⟨sh,kind,key⟩:=tk
 simp only[bl.cells,List.getElem?_cons_zero,List.getElem?_cons_succ,Nat.add_zero] at f0 f1 f2
 obtain⟨i0,hi,hz0,hz1,hz2⟩:=info_parts iu
 have hnn:n1≤100000:=by simp at hn1;omega
 have F7:Hid (cJ (xs++[0])=cJ xs++[.int .i64 0]):=Lib.hid (by simp[cJ])
 have HN:=Lib.hid hn1
 have HX:=Lib.hid hxl
 have GG:¬ K0 k c:=fun e=>hkc e.symm
 have CB:¬ K0 k s:=fun e=>hks e.symm
 have GH:¬ K0 k q:=fun e=>hkq e.symm
 clear hcell htb hn1 hxl hnc hA2 htk hpn
 go_enter Tryz.func30,Tryz.ntmps30
 have fr:=Fr.refl C (Kw c s k q) MK w
 have ag:=aF.refl w.heap.size C
 go_wp2_with fail
 revert gO;revert hsr;revert aP;revert hrow;revert hst;revert sb;revert fr;refine bK ?_;intro fr sb hst hrow aP hsr gO
 obtain⟨q1,q2,qi⟩:=bD sb gO
 refine aC sb gO 16 [] [0,1,2,3,4,5,6,7,8,9,10,11,12,13,14,15] [16,17,18,19] (by kernel_rfl) (by kernel_rfl) ?_
 refine af ?_;try simp only[ox]
 repeat(go_big_quiet_step (fail))
 refine wpQuiet_nil ?_
 refine ae _ _ _ (by kernel_rfl) ?_;try simp only[ox]
 clear qi q1 q2
 go_wp2_with fail
 refine(x5 (C:=C) (c:=c) hst ⟨sh,kind,key⟩ tries).mono ?_
 rintro e w1 ⟨⟨bd,C1,rfl,oC,hdo⟩,hf1⟩
 have sz:=fr.size
 replace fr:=fr.trans (hf1.mono (Lv c s k q) (by simp)) ag
 replace sb:=sb.mv hf1 oC (.inr (by decide))
 replace hst:=hst.mv hf1 oC (.inr (by decide))
 replace hrow:=hrow.mv hf1 oC (.inr (by decide))
 replace aP:=aP.mv hf1 oC (.inr (by decide))
 replace hsr:=hsr.mv hf1 oC (.inr (by decide))
 replace gO:=gO.mv hf1 oC (.inr (by decide))
 replace ag:=ag.trans oC sz
 clear sz oC hf1
 have z1:=And.intro sb gO
 revert gO;revert hdo;revert hsr;revert aP;revert hrow;revert hst;revert fr;refine st1 sb 3 (.pointer (some ⟨bd,0,none⟩)) (qh c s k q) ag ?_;clear sb;rintro w2 e1 fr sb hst hrow aP hsr hdo gO
 simp only[sx] at sb
 go_wp2_with fail
 try simp only[e1]
 clear z1 e1
 refine NoPanic.normal ?_
 have z2:=And.intro sb gO
 revert fr hst hrow aP hsr hdo gO sb;refine bx1 3 #[.int .i64 0] ?_;rintro w3 bm Kb fr ns hst hrow aP hsr hdo gO sb
 go_wp2_with (at_builtin;refine wpList_append_lies _ rfl _ _ _ rfl 0 3 i0 _ 1 8 Tryz.underlying89 hi hz0 hz1 hz2 rfl (by omega) (.slice A2 n1 cap1) n1 (cJ xs) rfl hrow.own ⟨w2.heap.size,0,none⟩ 1 1 [.int .i64 0] rfl rfl (World.news_of_block ns.blk) (gS [0]) (by omega) (by unfold maxLen;omega) (by omega) (Nat.zero_le _) (w3.heap.size) rfl ?_;intro g cap2 wA hownA fl mi D7;have hfA:Fr C1 (K0 k) [some 3] w3 wA:=(Fr.refl C1 (K0 k) [some 3] w3).app hrow fl (fk k) (by decide);have sA:=sb.fr hfA (.inr (by decide)))
 have tt:=hrow.app hownA (mi.elim (fun e=> .inl e.symm) (fun e=> .inr (by rw[e];rfl)))
 obtain⟨CA,tu⟩:∃ C',C'=br C1 w3.heap.size k:=⟨_,rfl⟩
 rw[←tu] at tt
 have aG:aF w3.heap.size C1 CA:=by rw[tu];exact aF.br _ _ _
 replace hst:=hst.mv hfA aG (.inl CB)
 replace hdo:=hdo.mv hfA aG (.inl ⟨GG,CB⟩)
 replace aP:=aP.mv hfA aG (.inl GH)
 clear hrow ns sA tu;revert gO;revert hsr;revert sb;revert fr;revert ag;refine kV hfA aG (qh c s k q) (by decide) ?_;intro ag fr sb hsr gO
 have hrow:=tt
 clear tt aG hfA fl mi hownA
 have mj:=own_ne hrow.own sb.blk (by decide)
 revert hst hdo aP hsr gO hrow;revert fr;refine st1 sb 4 (.slice (some ⟨g,0,none⟩) (n1+1) cap2) (qh c s k q) ag ?_;clear sb;rintro w4 e1 fr sb hst hdo aP hsr gO hrow
 simp only[sx] at sb
 rw[e1]
 clear bm z2 e1
 clear mj
 go_wp2_with fail
 go_ret
 refine⟨rfl,⟨_,ag,?_⟩,fr⟩
 refine⟨hst,A,n,cap,_,_,lv,⟨sb,hlen,hsm,hle,hsr,⟨n1+1,xs++[0],by rw[F7.out];exact hrow,by simp[HX.out],?_⟩,⟨n2,ys,aP,hyl,hn2⟩⟩,bd,rfl,hdo⟩
 have:=HN.out
 simp at this⊢
 omega
end Go.Proofs.YtbcnnhlpilmmbaaGreat
